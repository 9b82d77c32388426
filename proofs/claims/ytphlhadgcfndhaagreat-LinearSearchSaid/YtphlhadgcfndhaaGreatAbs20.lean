/- Values that say less; nil slices as empty objects; names anew by slots. -/
import Derived.Test.YtphlhadgcfndhaaGreatAbs19
namespace Go.Proofs.YtphlhadgcfndhaaGreat.Abs
open Go Go.RowKit
set_option linter.unusedVariables false
set_option linter.unusedSimpArgs false

/-- A cell that says less. -/
inductive LeC : Cell → Cell → Prop
  | refl (c : Cell) : LeC c c
  | any (c : Cell) : LeC c .any
  | nil (k : Nat) : LeC (.sc (.slice none 0 0)) (.row k false [])
  | nilT (k : Nat) : LeC (.sc (.slice none 0 0)) (.row k true [])
  | row {k : Nat} {t : Bool} {es es' : List (List Cell)} (hl : es.length = es'.length) (hk : ∀ (i : Nat) (e e' : List Cell), es[i]? = some e → es'[i]? = some e' → e.length = e'.length) (h : ∀ (i : Nat) (e e' : List Cell), es[i]? = some e → es'[i]? = some e' → ∀ (j : Nat) (c c' : Cell), e[j]? = some c → e'[j]? = some c' → LeC c c') : LeC (.row k t es) (.row k false es')
theorem LeC.loose (k : Nat) (t : Bool) (es : List (List Cell)) : LeC (.row k t es) (.row k false es) :=
  .row rfl (fun i e e' h h' => by rw [h] at h'; cases h'; rfl) fun i e e' h h' j c c' hc hc' => by
    rw [h] at h'; cases h'
    rw [hc] at hc'; cases hc'
    exact .refl _
theorem LeC.repF {w : World} {ok : Nat → Prop} {c c' : Cell} (h : LeC c c') : ∀ {v : Value}, RepF w ok c v → RepF w ok c' v := by
  induction h with
  | refl c => exact fun h => h
  | any c => exact fun h => .any _ h.one
  | nil k =>
    intro v h
    cases h with
    | sc _ _ => exact .row (es := []) (cap := 0) (fun _ _ => undef) (Nat.le_refl _) (fun h => by cases h) (by simp) (by simp) (fun ad _ i e h => by simp at h) (fun i e h => by simp at h)
  | nilT k =>
    intro v h
    cases h with
    | sc _ _ => exact .row (es := []) (cap := 0) (fun _ _ => undef) (Nat.le_refl _) (fun h => rfl) (by simp) (by simp) (fun ad _ i e h => by simp at h) (fun i e h => by simp at h)
  | @row k t es es' hl hk hc ih =>
    intro v h
    cases h with
    | @row _ _ _ A cap vs h1 h2 h3 h4 h5 h6 =>
    rw [hl] at h1 ⊢
    have at_ : ∀ (i : Nat) (e' : List Cell), es'[i]? = some e' → ∃ e, es[i]? = some e := fun i e' he => by
      have := (List.getElem?_eq_some_iff.1 he).1
      exact ⟨_, List.getElem?_eq_getElem (by omega)⟩
    refine .row vs h1 (fun h => by cases h) (fun e' he' => ?_) (fun hne => h4 (by rintro rfl; exact hne (List.eq_nil_of_length_eq_zero (by rw [← hl]; rfl)))) (fun ad had i e' he' j hj => ?_) (fun i e' he' j c' hc' => ?_)
    · obtain ⟨i, hi, rfl⟩ := List.getElem_of_mem he'
      obtain ⟨e, he⟩ := at_ i _ (List.getElem?_eq_getElem hi)
      rw [← hk i e _ he (List.getElem?_eq_getElem hi)]
      exact h3 e (List.mem_of_getElem? he)
    · obtain ⟨e, he⟩ := at_ i e' he'
      exact h5 ad had i e he j hj
    · obtain ⟨e, he⟩ := at_ i e' he'
      have hj : j < e.length := by rw [hk i e e' he he']; exact (List.getElem?_eq_some_iff.1 hc').1
      exact ih i e e' he he' j _ c' (List.getElem?_eq_getElem hj) hc' (h6 i e he j _ (List.getElem?_eq_getElem hj))
theorem LeC.repC {w : World} {ok : Nat → Prop} {β : Nat → Bnd} {c c' : Cell} (h : LeC c c') {v : Value} (hr : RepC w ok β c v) : RepC w ok β c' v := by
  cases h with
  | refl => exact hr
  | any => exact .fz (.any _ hr.one)
  | nil k =>
    cases hr with
    | fz hr => exact .fz ((LeC.nil k).repF hr)
  | nilT k =>
    cases hr with
    | fz hr => exact .fz ((LeC.nilT k).repF hr)
  | row hl hk hc =>
    cases hr with
    | fz hr => exact .fz ((LeC.row hl hk hc).repF hr)
inductive LeV : AVal → AVal → Prop
  | refl (v : AVal) : LeV v v
  | any (v : AVal) : LeV v .any
  | c {x x' : Cell} (h : LeC x x') : LeV (.c x) (.c x')
  | agg {cs cs' : List Cell} (hl : cs.length = cs'.length) (h : ∀ (i : Nat) (c c' : Cell), cs[i]? = some c → cs'[i]? = some c' → LeC c c') : LeV (.agg cs) (.agg cs')
  | tup {as as' : List AVal} (hl : as.length = as'.length) (h : ∀ (i : Nat) (a a' : AVal), as[i]? = some a → as'[i]? = some a' → LeV a a') : LeV (.tup as) (.tup as')
theorem LeV.rep {w : World} {ok : Nat → Prop} {β : Nat → Bnd} {x x' : AVal} (h : LeV x x') : ∀ {v : Value}, RepV w ok β x v → RepV w ok β x' v := by
  induction h with
  | refl => exact fun h => h
  | any => exact fun _ => .any _
  | c h =>
    intro v hr
    cases hr with
    | c hr => exact .c (h.repC hr)
  | agg hl h =>
    intro v hr
    cases hr with
    | agg hr =>
      refine .agg ⟨by rw [← hl]; exact hr.1, fun i c v hc hv => ?_⟩
      have hi := (List.getElem?_eq_some_iff.1 hc).1
      exact (h i _ c (List.getElem?_eq_getElem (by omega)) hc).repC (hr.2 i _ v (List.getElem?_eq_getElem (by omega)) hv)
  | tup hl h ih =>
    intro v hr
    cases hr with
    | tup hs hi =>
      refine .tup (by omega) fun i a u ha hu => ?_
      have hi' := (List.getElem?_eq_some_iff.1 ha).1
      exact ih i _ a (List.getElem?_eq_getElem (by omega)) ha (hi i _ u (List.getElem?_eq_getElem (by omega)) hu)
inductive LeVs : List AVal → List AVal → Prop
  | nil : LeVs [] []
  | cons {a a' : AVal} {as as' : List AVal} (h : LeV a a') (hs : LeVs as as') : LeVs (a :: as) (a' :: as')
theorem LeVs.get {as as' : List AVal} (h : LeVs as as') : as.length = as'.length ∧ ∀ (i : Nat) (a a' : AVal), as[i]? = some a → as'[i]? = some a' → LeV a a' := by
  induction h with
  | nil => exact ⟨rfl, fun i a a' h => by simp at h⟩
  | cons h hs ih =>
    refine ⟨by simp [ih.1], fun i a a' ha ha' => ?_⟩
    cases i with
    | zero => cases ha; cases ha'; exact h
    | succ i => exact ih.2 i a a' (by simpa using ha) (by simpa using ha')
theorem Pure.le {P : Program} {f : FuncId} {as as' : List AVal} {r r' : AVal} (h : Pure P f as r) (ha : LeVs as' as) (hr : LeV r r') : Pure P f as' r' := by
  obtain ⟨hl, hg⟩ := ha.get
  refine ⟨h.1, fun w A vs hA hR => (h.2 w A vs hA ⟨by rw [← hl]; exact hR.1, fun i a v hav hv => ?_⟩).mono ?_⟩
  · have hi := (List.getElem?_eq_some_iff.1 hav).1
    exact (hg i _ a (List.getElem?_eq_getElem (by omega)) hav).rep (hR.2 i _ v (List.getElem?_eq_getElem (by omega)) hv)
  · rintro e w' ⟨v, rfl, hv, hB⟩
    exact ⟨v, rfl, hr.rep hv, hB⟩

section
variable {base : Nat} {A : Old} {w0 w : World} {β : Nat → Bnd} {n : Nat} {a : Act}
/-- A slot says less. -/
theorem Weak.le (t : Nat) {v v' : AVal} (s : St) (ht : look t s.τ = some v) (h : LeV v v') : Weak A s ⟨putT t v' s.τ, s.σ, s.fr⟩ := fun base w0 n β a w I => by
  refine ⟨β, I.inv, I.defers, I.size, fun u x hx => ?_, I.fresh, I.ext⟩
  have hx' : look u (putT t v' s.τ) = some x := hx
  rw [look_putT] at hx'
  split at hx'
  · rename_i e
    cases hx'
    subst e
    obtain ⟨y, hy, hr⟩ := I.tmps _ v ht
    exact ⟨y, hy, h.rep hr⟩
  · exact I.tmps u x hx'
theorem virt_inv {s : St} (I : InvS base A w0 n β s a w) (k : Nat) : Inv base A.own w0 (updB β s.fr .virt) (putA s.fr ⟨k, []⟩ s.σ) w ∧ (∀ i, BLe (β i) (updB β s.fr .virt i)) ∧ (∀ x, okOf base A.own w β x → okOf base A.own w (updB β s.fr .virt) x) ∧ ∀ id, s.fr + 1 ≤ id → updB β s.fr .virt id = .no := by
  obtain ⟨I', hle, hok⟩ := I.inv.virtual (o := ⟨k, []⟩) (I.fresh s.fr (Nat.le_refl _)) rfl
  exact ⟨I', hle, hok, fun id hid => by rw [updB_ne _ _ (by omega)]; exact I.fresh id (by omega)⟩
/-- A nil slice in a slot: an object without elements. -/
theorem Weak.nil (t k : Nat) (s : St) (ht : look t s.τ = some (.c (.sc (.slice none 0 0)))) : Weak A s ⟨putT t (.c (.ref s.fr 0 0)) s.τ, putA s.fr ⟨k, []⟩ s.σ, s.fr + 1⟩ := fun base w0 n β a w I => by
  obtain ⟨I', hle, hok, hfr⟩ := virt_inv I k
  refine ⟨_, I', I.defers, I.size, fun u x hx => ?_, hfr, I.ext.step hle fun x hx => ⟨hok x hx, rfl⟩⟩
  have hx' : look u (putT t (.c (.ref s.fr 0 0)) s.τ) = some x := hx
  rw [look_putT] at hx'
  split at hx'
  · rename_i e
    cases hx'
    subst e
    obtain ⟨y, hy, hr⟩ := I.tmps _ _ ht
    obtain ⟨rfl, _⟩ := sc_of hr
    exact ⟨_, hy, .c (.refv (updB_self _ _ _))⟩
  · obtain ⟨y, hy, hr⟩ := I.tmps u x hx'
    exact ⟨y, hy, hr.mono (fun b hb => ⟨hok b hb, rfl⟩) hle⟩
/-- A nil slice in an object of one element. -/
theorem Weak.nilO (id j k : Nat) {q : Nat} {cs : List Cell} (s : St) (ho : look id s.σ = some ⟨q, [cs]⟩) (hj : cs[j]? = some (.sc (.slice none 0 0))) (hid : id < s.fr) : Weak A s ⟨s.τ, putA id ⟨q, [cs.set j (.ref s.fr 0 0)]⟩ (putA s.fr ⟨k, []⟩ s.σ), s.fr + 1⟩ := fun base w0 n β a w I => by
  obtain ⟨I', hle, hok, hfr⟩ := virt_inv I k
  have hne : id ≠ s.fr := by omega
  have hl0 : ∀ i, look i (putA id (⟨q, [cs.set j (.ref s.fr 0 0)]⟩ : AObj) (putA s.fr ⟨k, []⟩ s.σ)) = if i = id then some ⟨q, [cs.set j (.ref s.fr 0 0)]⟩ else look i (putA s.fr ⟨k, []⟩ s.σ) := fun i => look_put _ _ _ _
  have hl1 : look id (putA s.fr (⟨k, []⟩ : AObj) s.σ) = some ⟨q, [cs]⟩ := by rw [look_put, if_neg hne]; exact ho
  refine ⟨updB β s.fr .virt, ⟨I'.below, I'.hbase, I'.old, fun i => ?_, fun i o hv hl => ?_, I'.fin, I'.lo, I'.inj, fun i b kk cap o hb hl => ?_⟩, I.defers, I.size, fun u x hx => ?_, hfr, I.ext.step hle fun x hx => ⟨hok x hx, rfl⟩⟩
  · show (look i (putA id _ (putA s.fr _ s.σ))).isSome = true ↔ _
    rw [hl0]
    split
    · rename_i e
      subst e
      exact ⟨fun _ => (I'.dom i).1 (by rw [hl1]; rfl), fun _ => rfl⟩
    · exact I'.dom i
  · have hl' : look i (putA id _ (putA s.fr _ s.σ)) = some o := hl
    rw [hl0] at hl'
    split at hl'
    · rename_i e
      subst e
      have := I'.virt i ⟨q, [cs]⟩ hv hl1
      cases this
    · exact I'.virt i o hv hl'
  · have hl' : look i (putA id _ (putA s.fr _ s.σ)) = some o := hl
    rw [hl0] at hl'
    split at hl'
    · rename_i e
      subst e
      cases hl'
      have O := I'.obj i b kk cap _ hb hl1
      obtain ⟨arr, ty, h1, h2, h3, h4⟩ := O.hat
      refine ⟨O.hk, O.hcap, fun e he => ?_, arr, ty, h1, h2, h3, fun p e he r c hc => ?_⟩
      · rw [List.mem_singleton.1 he, List.length_set]
        exact O.hlen cs (by simp)
      · cases p with
        | succ p => simp at he
        | zero =>
        simp only [List.getElem?_cons_zero, Option.some.injEq] at he
        subst he
        by_cases hr : r = j
        · subst hr
          obtain ⟨v, hv, hrep⟩ := h4 0 cs rfl r _ hj
          have hlt := (List.getElem?_eq_some_iff.1 hj).1
          rw [List.getElem?_set_self hlt] at hc
          cases hc
          refine ⟨v, hv, ?_⟩
          cases hrep with
          | fz hrep =>
            cases hrep with
            | sc _ _ => exact .refv (updB_self _ _ _)
        · rw [List.getElem?_set_ne (Ne.symm hr)] at hc
          exact h4 0 cs rfl r c hc
    · exact I'.obj i b kk cap o hb hl'
  · obtain ⟨y, hy, hr⟩ := I.tmps u x hx
    exact ⟨y, hy, hr.mono (fun b hb => ⟨hok b hb, rfl⟩) hle⟩
end
def refOf : AVal → Option Nat
  | .c (.ref id _ _) => some id
  | .c (.ptr id _ _) => some id
  | _ => none
def rhoOf (τ : Tau) : List (Nat × Nat) → List (Nat × Nat)
  | [] => []
  | (t, j) :: r => match look t τ with
    | some v => match refOf v with
      | some i => (i, j) :: rhoOf τ r
      | none => rhoOf τ r
    | none => rhoOf τ r
/-- Of an object only its first elements are told. -/
theorem Weak.shrink {A : Old} (id m : Nat) {o : AObj} (s : St) (ho : look id s.σ = some o) : Weak A s ⟨s.τ, putA id ⟨o.k, o.es.take m⟩ s.σ, s.fr⟩ := fun base w0 n β a w I => by
  refine ⟨β, ⟨I.inv.below, I.inv.hbase, I.inv.old, fun i => ?_, fun i q hv hl => ?_, I.inv.fin, I.inv.lo, I.inv.inj, fun i b k cap q hb hl => ?_⟩, I.defers, I.size, I.tmps, I.fresh, I.ext⟩
  · rw [look_put]
    by_cases h : i = id
    · subst h
      rw [if_pos rfl]
      have := I.inv.dom i
      rw [ho] at this
      exact this
    · rw [if_neg h]
      exact I.inv.dom i
  · rw [look_put] at hl
    by_cases h : i = id
    · subst h
      rw [if_pos rfl] at hl
      cases hl
      simp [I.inv.virt i o hv ho]
    · rw [if_neg h] at hl
      exact I.inv.virt i q hv hl
  · rw [look_put] at hl
    by_cases h : i = id
    · subst h
      rw [if_pos rfl] at hl
      cases hl
      obtain ⟨g1, g2, g3, arr, ty, g4, g5, g6, g7⟩ := I.inv.obj i b k cap o hb ho
      refine ⟨g1, by simp only [List.length_take]; omega, fun e he => g3 e (List.mem_of_mem_take he), arr, ty, g4, g5, g6, fun j e he => g7 j e ?_⟩
      have hlt : j < m := by
        have := (List.getElem?_eq_some_iff.1 he).1
        rw [List.length_take] at this
        omega
      rwa [List.getElem?_take_of_lt hlt] at he
    · rw [if_neg h] at hl
      exact I.inv.obj i b k cap q hb hl
/-- Some slots are kept; what they name is named anew. -/
theorem Weak.normT {A : Old} (hA : A.lim = 0) (ks : List Nat) (rs : List (Nat × Nat)) (ids : List Nat) (K : Nat) (s : St) (h1 : ((rhoOf s.τ rs).all fun p => p.2 < K) = true) (h2 : ((rhoOf s.τ rs).map Prod.snd).Nodup) (h3 : flatRest (rhoOf s.τ rs) ids s.σ) : Weak A s (Abs.norm ks (rhoOf s.τ rs) ids K s) := Weak.norm hA ks _ ids K s h1 h2 h3
/-- The object that a slot names is only read from here on. -/
theorem Weak.frzT {A : Old} (t : Nat) (ids : List Nat) (s : St) {id lo m : Nat} {o : AObj} (ht : look t s.τ = some (.c (.ref id lo m))) (ho : look id s.σ = some o) (hf : flatO o = true) : Weak A s (Abs.freeze id o ids s) := Weak.freeze id o ids s ho hf
theorem flatO_of {k : Nat} {es : List (List Cell)} (h : ∀ e ∈ es, e.all frozenC = true) : flatO ⟨k, es⟩ = true := by
  unfold flatO
  rw [List.all_eq_true]
  exact h
theorem Weak.shrinkT {A : Old} (t m : Nat) (s : St) {id lo q : Nat} {o : AObj} (ht : look t s.τ = some (.c (.ref id lo q))) (ho : look id s.σ = some o) : Weak A s ⟨s.τ, putA id ⟨o.k, o.es.take m⟩ s.σ, s.fr⟩ := Weak.shrink id m s ho
inductive LeCs : List Cell → List Cell → Prop
  | nil : LeCs [] []
  | cons {c c' : Cell} {cs cs' : List Cell} (h : LeC c c') (hs : LeCs cs cs') : LeCs (c :: cs) (c' :: cs')
theorem LeCs.get {cs cs' : List Cell} (h : LeCs cs cs') : cs.length = cs'.length ∧ ∀ (i : Nat) (a a' : Cell), cs[i]? = some a → cs'[i]? = some a' → LeC a a' := by
  induction h with
  | nil => exact ⟨rfl, fun i a a' h => by simp at h⟩
  | cons h hs ih =>
    refine ⟨by simp [ih.1], fun i a a' ha ha' => ?_⟩
    cases i with
    | zero => cases ha; cases ha'; exact h
    | succ i => exact ih.2 i a a' (by simpa using ha) (by simpa using ha')
theorem LeV.aggs {cs cs' : List Cell} (h : LeCs cs cs') : LeV (.agg cs) (.agg cs') := .agg h.get.1 h.get.2
theorem LeV.tups {vs vs' : List AVal} (h : LeVs vs vs') : LeV (.tup vs) (.tup vs') := .tup h.get.1 h.get.2
/-- A row's elements say less. -/
theorem LeC.rows {k : Nat} {t : Bool} {es es' : List (List Cell)} (hl : es.length = es'.length) (h : ∀ (i : Nat) (e e' : List Cell), es[i]? = some e → es'[i]? = some e' → LeCs e e') : LeC (.row k t es) (.row k false es') :=
  .row hl (fun i e e' he he' => (h i e e' he he').get.1) (fun i e e' he he' j c c' hc hc' => (h i e e' he he').get.2 j c c' hc hc')
/-- A call's contract, whose result says less. -/
theorem pure_le {P : Program} {T : TyEnv} (hT : TOk P T) {f : FuncId} {fn : Func} {c : Code} (hf : P.funcs[f]? = some fn) (hname : (fn.name == "runtime.NumGoroutine") = false) (hb : fn.body = some c) {N : Nat} (hN : fn.ntmps = N) {rs : List ResultVar} (hrs : fn.results.toList = rs) {as : List AVal} {res : AVal} (hlen : as.length ≤ N)
    (h : ∀ base A w0, A.lim = 0 → AW P base A w0 N c ⟨entry 0 as, [], 0⟩ fun e s => (e = .normal ∨ e = .ret) ∧ ∃ s' r, Weak A s s' ∧ resA T s' rs = some r ∧ LeV r res) : Pure P f as res := by
  subst hN hrs
  refine ⟨⟨fn, hf, hname, by rw [hb]; rfl⟩, fun w A vs hA hr => calls_of_wp hf hb ?_⟩
  refine wp_mono (h w.heap.size (oldOf A) w rfl noB _ w (init_inv hA hr hlen)) fun e a' w' ⟨s', β', ⟨he, s'', r, hw, hres, hle⟩, I'⟩ => ?_
  obtain ⟨β'', I''⟩ := hw _ _ _ _ _ _ I'
  obtain ⟨v, h1, h2⟩ := results_sound hT I'' hres
  have h3 := hle.rep h2
  have fin : a'.defers = [] ∧ ∃ v, (results fn a'.tmps).run P w' = .ok v w' ∧ ∃ v', Ending.returned v = .returned v' ∧ RepV w' (fun b => (b < w.heap.size → A b) ∧ b < w'.heap.size) noB res v' ∧ Below w.heap.size w w' :=
    ⟨I''.defers, v, h1, v, rfl, h3.mono (fun x hx => ⟨⟨hx.1, hx.2.1⟩, rfl⟩) (BLe.refl' noB), I''.inv.below⟩
  rcases he with rfl | rfl
  · exact fin
  · exact fin
theorem AW.to {P : Program} {base : Nat} {A : Old} {w0 : World} {n : Nat} {c : Code} {s s1 s2 : St} {Q : Exit → St → Prop} (h : Weak A s s1) (e : s1 = s2) (hc : AW P base A w0 n c s2 Q) : AW P base A w0 n c s Q := AW.weak h (e ▸ hc)
/-- An object's cells say less. -/
theorem Weak.leO {A : Old} (id : Nat) (s : St) {o o' : AObj} (ho : look id s.σ = some o) (hk : o'.k = o.k) (hl : o.es.length = o'.es.length) (h : ∀ (i : Nat) (e e' : List Cell), o.es[i]? = some e → o'.es[i]? = some e' → LeCs e e') : Weak A s ⟨s.τ, putA id o' s.σ, s.fr⟩ := fun base w0 n β a w I => by
  refine ⟨β, ⟨I.inv.below, I.inv.hbase, I.inv.old, fun i => ?_, fun i q hv hq => ?_, I.inv.fin, I.inv.lo, I.inv.inj, fun i b k cap q hb hq => ?_⟩, I.defers, I.size, I.tmps, I.fresh, I.ext⟩
  · rw [look_put]
    by_cases hi : i = id
    · subst hi
      rw [if_pos rfl]
      have := I.inv.dom i
      rw [ho] at this
      exact this
    · rw [if_neg hi]
      exact I.inv.dom i
  · rw [look_put] at hq
    by_cases hi : i = id
    · subst hi
      rw [if_pos rfl] at hq
      cases hq
      have := I.inv.virt i o hv ho
      rw [this] at hl
      exact List.eq_nil_of_length_eq_zero hl.symm
    · rw [if_neg hi] at hq
      exact I.inv.virt i q hv hq
  · rw [look_put] at hq
    by_cases hi : i = id
    · subst hi
      rw [if_pos rfl] at hq
      cases hq
      obtain ⟨g1, g2, g3, arr, ty, g4, g5, g6, g7⟩ := I.inv.obj i b k cap o hb ho
      have pair : ∀ (j : Nat) (e' : List Cell), o'.es[j]? = some e' → ∃ e, o.es[j]? = some e ∧ LeCs e e' := fun j e' he' => by
        have hj := (List.getElem?_eq_some_iff.1 he').1
        exact ⟨_, List.getElem?_eq_getElem (by omega), h j _ e' (List.getElem?_eq_getElem (by omega)) he'⟩
      refine ⟨hk.trans g1, by omega, fun e' he' => ?_, arr, ty, g4, g5, g6, fun j e' he' q c' hc' => ?_⟩
      · obtain ⟨j, hj, rfl⟩ := List.getElem_of_mem he'
        obtain ⟨e, he, hle⟩ := pair j _ (List.getElem?_eq_getElem hj)
        rw [← hle.get.1]
        exact g3 e (List.mem_of_getElem? he)
      · obtain ⟨e, he, hle⟩ := pair j e' he'
        have hq := (List.getElem?_eq_some_iff.1 hc').1
        have hlen := hle.get.1
        obtain ⟨v, hv, hr⟩ := g7 j e he q _ (List.getElem?_eq_getElem (by omega))
        exact ⟨v, hv, (hle.get.2 q _ c' (List.getElem?_eq_getElem (by omega)) hc').repC hr⟩
    · rw [if_neg hi] at hq
      exact I.inv.obj i b k cap q hb hq
theorem Weak.leP {A : Old} (t : Nat) (s : St) {id i off : Nat} {o : AObj} (o' : AObj) (ht : look t s.τ = some (.c (.ptr id i off))) (ho : look id s.σ = some o) (hk : o'.k = o.k) (hl : o.es.length = o'.es.length) (h : ∀ (i : Nat) (e e' : List Cell), o.es[i]? = some e → o'.es[i]? = some e' → LeCs e e') : Weak A s ⟨s.τ, putA id o' s.σ, s.fr⟩ := Weak.leO id s ho hk hl h
/-- One element. -/
theorem one_le {e e' : List Cell} (h : LeCs e e') : ∀ (i : Nat) (x x' : List Cell), [e][i]? = some x → [e'][i]? = some x' → LeCs x x' := fun i x x' h1 h2 => by
  cases i with
  | zero => cases h1; cases h2; exact h
  | succ i => simp at h1
/-- The objects in another order. -/
theorem Weak.order {A : Old} {τ : Tau} {σ : Sig} {fr : Nat} (σ' : Sig) (h : ∀ id, look id σ' = look id σ) : Weak A ⟨τ, σ, fr⟩ ⟨τ, σ', fr⟩ := fun base w0 n β a w I => ⟨β, I.inv.congr0 h, I.defers, I.size, I.tmps, I.fresh, I.ext⟩
theorem Weak.swap {A : Old} {τ : Tau} {fr a b : Nat} {x y : AObj} (r : Sig) (h : a ≠ b) : Weak A ⟨τ, (a, x) :: (b, y) :: r, fr⟩ ⟨τ, (b, y) :: (a, x) :: r, fr⟩ := Weak.order _ fun id => by
  simp only [look]
  by_cases h1 : id = a
  · subst h1
    rw [if_neg h, if_pos rfl, if_pos rfl]
  · rw [if_neg h1, if_neg h1]
theorem Weak.to {A : Old} {s s1 s2 : St} (e : s = s1) (h : Weak A s1 s2) : Weak A s s2 := e ▸ h
/-- Some slots are kept; what they name, and some more, is named anew. -/
theorem Weak.normF {A : Old} (hA : A.lim = 0) (ks : List Nat) (rs fix : List (Nat × Nat)) (ids : List Nat) (K : Nat) (s : St) (h1 : ((rhoOf s.τ rs ++ fix).all fun p => p.2 < K) = true) (h2 : ((rhoOf s.τ rs ++ fix).map Prod.snd).Nodup) (h3 : flatRest (rhoOf s.τ rs ++ fix) ids s.σ) : Weak A s (Abs.norm ks (rhoOf s.τ rs ++ fix) ids K s) := Weak.norm hA ks _ ids K s h1 h2 h3
theorem rnS_low {ρ : List (Nat × Nat)} {ids : List Nat} (hids : (ids.all fun i => decide (LIM ≤ i)) = true) : ∀ {rest : Sig}, (∀ i, (look i rest).isSome = true → i < LIM) → rnS LIM ρ ids rest = rest
  | [], _ => rfl
  | (t, o) :: r, h => by
    have ht := h t (by simp [look])
    have hr : ∀ i, (look i r).isSome = true → i < LIM := fun i hi => h i (by
      rw [look]
      split
      · rfl
      · exact hi)
    have hn : ids.contains t = false := by
      cases hc : ids.contains t with
      | false => rfl
      | true =>
        rw [List.all_eq_true] at hids
        have := hids t (by simpa using hc)
        simp at this
        omega
    rw [rnS, rnI, if_pos ht]
    simp only [hn, Bool.false_eq_true, if_false]
    rw [rnS_low hids hr]
theorem hiS_low : ∀ {rest : Sig}, (∀ i, (look i rest).isSome = true → i < LIM) → hiS rest = []
  | [], _ => rfl
  | (t, o) :: r, h => by
    have ht := h t (by simp [look])
    have hr : ∀ i, (look i r).isSome = true → i < LIM := fun i hi => h i (by
      rw [look]
      split
      · rfl
      · exact hi)
    rw [hiS, if_pos ht, hiS_low hr]
theorem loS_low : ∀ {rest : Sig}, (∀ i, (look i rest).isSome = true → i < LIM) → loS rest = rest
  | [], _ => rfl
  | (t, o) :: r, h => by
    have ht := h t (by simp [look])
    have hr : ∀ i, (look i r).isSome = true → i < LIM := fun i hi => h i (by
      rw [look]
      split
      · rfl
      · exact hi)
    rw [loS, if_pos ht, loS_low hr]
def normL (ks : List Nat) (ρ : List (Nat × Nat)) (ids : List Nat) (K : Nat) (s : St) : St := ⟨mapS (rnV LIM ρ) (keepT ks s.τ), rnS LIM ρ ids s.σ, K⟩
/-- The same in a call that writes its caller's objects. -/
theorem Weak.normC {A : Old} {m : Nat} {rest : Sig} (hA : A.lim = m) (hrefs : ∀ i o, look i rest = some o → refsLt m o) (ks : List Nat) (rs fix : List (Nat × Nat)) (ids : List Nat) (K : Nat) (s : St) (hlo : loS s.σ = rest)
    (h1 : ((rhoOf s.τ rs ++ fix).all fun p => decide (LIM ≤ p.1) && decide (LIM ≤ p.2) && decide (p.2 < K) && (decide (m ≤ p.1) && decide (m ≤ p.2) || p.1 == p.2)) = true) (hK : (decide (LIM ≤ K) && decide (m ≤ K)) = true) (h2 : ((rhoOf s.τ rs ++ fix).map Prod.snd).Nodup)
    (h3 : ((hiS s.σ).all fun p => decide (m ≤ p.1) || look p.1 (rhoOf s.τ rs ++ fix) == some p.1) = true) (h4 : flatRest (rhoOf s.τ rs ++ fix) ids (hiS s.σ)) :
    Weak A s (normL ks (rhoOf s.τ rs ++ fix) ids K s) := by
  generalize rhoOf s.τ rs ++ fix = ρ at *
  refine (Weak.keep ks s).trans (Weak.tidy LIM ρ ids K ⟨keepT ks s.τ, s.σ, s.fr⟩ ?_)
  rw [hA]
  have hlook : ∀ i, LIM ≤ i → look i (hiS s.σ) = look i s.σ := fun i hi => by rw [look_hi, if_neg (by omega)]
  refine ⟨fun p hp => ?_, by simpa using hK, h2, fun j hj hjm hs => ?_, fun i o hl hi hne e he c hc => ?_⟩
  · rw [List.all_eq_true] at h1
    have := h1 p hp
    simp only [Bool.and_eq_true, Bool.or_eq_true, decide_eq_true_eq, beq_iff_eq] at this
    exact ⟨this.1.1.1, this.1.1.2, this.1.2, fun h => by rcases this.2 with h' | h' <;> omega⟩
  · have hs' : (look j (hiS s.σ)).isSome = true := by rw [hlook j hj]; exact hs
    obtain ⟨o, ho⟩ := Option.isSome_iff_exists.1 hs'
    rw [List.all_eq_true] at h3
    have := h3 _ (look_mem ho)
    simp only [Bool.or_eq_true, decide_eq_true_eq, beq_iff_eq] at this
    rcases this with h | h
    · omega
    · exact h
  · by_cases hlt : i < LIM
    · have hr : look i rest = some o := by rw [← hlo, look_lo, if_pos hlt]; exact hl
      have := hrefs i o hr e he c hc
      cases c <;> first | trivial | exact .inr this
    · have hl' : look i (hiS s.σ) = some o := by rw [hlook i (by omega)]; exact hl
      have hf := flatRest_look h4 i o hl' hi (by
        rw [rnI, if_neg hlt] at hne
        exact hne)
      unfold flatO at hf
      rw [List.all_eq_true] at hf
      have := hf e he
      rw [List.all_eq_true] at this
      have := this c hc
      cases c <;> first | trivial | cases this
def insS (t : Nat) (o : AObj) : Sig → Sig
  | [] => [(t, o)]
  | (u, q) :: r => if t ≤ u then (t, o) :: (u, q) :: r else (u, q) :: insS t o r
def sortS : Sig → Sig
  | [] => []
  | (t, o) :: r => insS t o (sortS r)
theorem look_insS (id t : Nat) (o : AObj) : ∀ l : Sig, look id (insS t o l) = if id = t then some o else look id l
  | [] => rfl
  | (u, q) :: r => by
    unfold insS
    split
    · rfl
    · rw [look, look, look_insS id t o r]
      by_cases h : id = u
      · rw [if_pos h, if_pos h, if_neg (by omega)]
      · rw [if_neg h, if_neg h]
theorem look_sortS (id : Nat) : ∀ l : Sig, look id (sortS l) = look id l
  | [] => rfl
  | (t, o) :: r => by rw [sortS, look_insS, look, look_sortS id r]
/-- The objects in the order of their names. -/
theorem Weak.sort {A : Old} (s : St) : Weak A s ⟨s.τ, sortS s.σ, s.fr⟩ := Weak.order _ fun id => look_sortS id _
theorem Weak.normS {A : Old} (hA : A.lim = 0) (ks : List Nat) (rs fix : List (Nat × Nat)) (ids : List Nat) (K : Nat) (s : St) (h1 : ((rhoOf s.τ rs ++ fix).all fun p => p.2 < K) = true) (h2 : ((rhoOf s.τ rs ++ fix).map Prod.snd).Nodup) (h3 : flatRest (rhoOf s.τ rs ++ fix) ids s.σ) : Weak A s ⟨(Abs.norm ks (rhoOf s.τ rs ++ fix) ids K s).τ, sortS (Abs.norm ks (rhoOf s.τ rs ++ fix) ids K s).σ, K⟩ := (Weak.normF hA ks rs fix ids K s h1 h2 h3).trans (Weak.sort _)
end Go.Proofs.YtphlhadgcfndhaaGreat.Abs
