/- Joined for the claim: WNle WNrn WNrs WNru WNse -/
import Derived.Test.YtphlhadgcfndhaaGreatJd7
section
namespace Go.Proofs.YtphlhadgcfndhaaGreat.Abs
open Go Go.RowKit
set_option linter.unusedVariables false
set_option linter.unusedSimpArgs false
def anyC (c : Cell) : Cell := if frozenC c = true then c else .any
theorem SemC.lend {P : Program} {g : FuncId} {s : St} {k : Nat} {e : List Cell} {xs : List AVal} {r : AVal} (h0 : look 0 s.σ = some ⟨k, [e]⟩) (hxs : xs.all frozenV = true) (hr : plainV r = true) (hP : Pure P g (.c (.fad (e.map anyC)) :: xs) r) : SemC P g (.c (.ptr 0 0 0) :: xs) s r s.σ s.fr := by
  refine ⟨hP.1, fun A base w0 n β a w vs I hvs => ?_⟩
  have lift : ∀ {c : Cell} {v : Value}, RepF w (okOf base A.own w β) c v → RepF w (rdOk w β (okOf base A.own w β)) c v := fun h => h.mono fun b hb => ⟨⟨hb.2.1, .inl hb⟩, rfl⟩
  refine (hP.2 w (rdOk w β (okOf base A.own w β)) vs (fun b hb => hb.1) ⟨hvs.1, fun i x v ha hv => ?_⟩).mono ?_
  · cases i with
    | zero =>
      rw [List.getElem?_cons_zero] at ha
      cases ha
      have hx := hvs.2 0 (.c (.ptr 0 0 0)) v rfl hv
      obtain ⟨b, kk, cap, hb, rfl⟩ := ptr_live I.inv h0 hx
      have cell : ∀ (j : Nat) (c : Cell), (e.map anyC)[j]? = some c → ∃ v, w.cell? (Addr.add ⟨b, 0 * kk + 0, none⟩ j) = some v ∧ RepF w (rdOk w β (okOf base A.own w β)) c v := fun j c hc => by
        rw [List.getElem?_map] at hc
        cases hq : e[j]? with
        | none => rw [hq] at hc; cases hc
        | some q =>
          rw [hq] at hc
          cases hc
          obtain ⟨v, hv, hr⟩ := objCell I.inv hb h0 (i := 0) (e := e) rfl hq
          refine ⟨v, ?_, ?_⟩
          · rw [Addr.add_lit, ← hv]
            congr 2
          · unfold anyC
            split
            · rename_i hf
              exact lift (hr.frozen hf)
            · exact .any v hr.one
      exact .c (.fz (.fad (fun j => (w.cell? (Addr.add ⟨b, 0 * kk + 0, none⟩ j)).getD undef) ⟨(I.inv.lo 0 b kk cap hb).2, .inr ⟨0, kk, cap, hb⟩⟩
        (fun j hj => by
          obtain ⟨v, hv, _⟩ := cell j _ (List.getElem?_eq_getElem hj)
          rw [hv]; rfl)
        (fun j c hc => by
          obtain ⟨v, hv, hr⟩ := cell j c hc
          rw [hv]; exact hr)))
    | succ i =>
      have hx := hvs.2 (i + 1) x v ha hv
      rw [List.getElem?_cons_succ] at ha
      have hf : frozenV x = true := by
        rw [List.all_eq_true] at hxs
        exact hxs x (List.mem_of_getElem? ha)
      cases hx with
      | any => exact .any _
      | c h => exact .c (.fz (lift (h.frozen hf)))
      | agg h =>
        have hf : List.all _ frozenC = true := hf
        rw [List.all_eq_true] at hf
        exact .agg ⟨h.1, fun i c v hc hv => .fz (lift ((h.2 i c v hc hv).frozen (hf c (List.mem_of_getElem? hc))))⟩
      | tup => cases hf
      | cut => cases hf
  · rintro e w' ⟨v, rfl, hv, hB⟩
    obtain ⟨I', hok⟩ := I.inv.more hB
    exact ⟨v, β, rfl, I', BLe.refl' β, hok, I.fresh, plain_rep hv hr⟩
end Go.Proofs.YtphlhadgcfndhaaGreat.Abs
end
section
namespace Go.Proofs.YtphlhadgcfndhaaGreat.Abs
open Go Go.RowKit
set_option linter.unusedVariables false
set_option linter.unusedSimpArgs false
theorem Weak.normM {A : Old} (hA : A.lim = 2) (ks : List Nat) (j : Nat) (s : St) (hj : 2 ≤ j) (h1 : look 1 s.σ = none) : Weak A s ⟨mapS (rnV 0 [(0, 0), (j, 2)]) (keepT ks s.τ), sortS (rnS 0 [(0, 0), (j, 2)] [0, j] s.σ), 3⟩ := by
  refine ((Weak.keep ks s).trans (Weak.tidy 0 [(0, 0), (j, 2)] [0, j] 3 ⟨keepT ks s.τ, s.σ, s.fr⟩ ?_)).trans (Weak.sort _)
  rw [hA]
  refine ⟨fun p hp => ?_, ⟨by omega, by omega⟩, by simp, fun q _ hq hs => ?_, fun i o hl hi hne => ?_⟩
  · simp only [List.mem_cons, List.not_mem_nil, or_false] at hp
    rcases hp with rfl | rfl <;> simp <;> omega
  · have : q = 0 ∨ q = 1 := by omega
    rcases this with rfl | rfl
    · simp [look]
    · have hs : (look 1 s.σ).isSome = true := hs
      rw [h1] at hs
      cases hs
  · exfalso
    apply hne
    simp only [List.contains_cons, List.contains_nil, Bool.or_false, Bool.or_eq_false_iff, beq_eq_false_iff_ne, ne_eq] at hi
    unfold rnI
    rw [if_neg (by omega)]
    simp [look, hi.1, hi.2]
theorem AWM.mid {P : Program} {base : Nat} {A : Old} {w0 : World} {M n : Nat} {ob : Obj} (J : St → Obj → Prop) {x y : Code} {s : St} {Q : Exit → St → Obj → Prop} (h1 : AWM P base A w0 M n x s ob (thenM (fun s' o' => ∃ s'', Weak A s' s'' ∧ J s'' o') Q)) (h2 : ∀ s' o', J s' o' → AWM P base A w0 M n y s' o' Q) : AWM P base A w0 M n (.seq x y) s ob Q :=
  AWM.seq fun β a w I => wp_mono (h1 β a w I) fun e a' w' ⟨s', κ', β', hq, I'⟩ => by
    cases e with
    | normal =>
      obtain ⟨s'', hw, hJ⟩ := hq
      obtain ⟨β'', I''⟩ := hw _ _ _ _ _ _ I'
      exact ⟨s'', κ', β'', h2 s'' κ' hJ, I''⟩
    | exit id => exact ⟨s', κ', β', hq, I'⟩
    | goto l => exact ⟨s', κ', β', hq, I'⟩
    | ret => exact ⟨s', κ', β', hq, I'⟩
    | panic ch => exact ⟨s', κ', β', hq, I'⟩
    | outgrown => exact ⟨s', κ', β', hq, I'⟩
section
variable {P : Program}
theorem runC_of {T : TyEnv} (hT : TOk P T) {f : FuncId} {fn : Func} {c : Code} (hf : P.funcs[f]? = some fn) (hname : (fn.name == "runtime.NumGoroutine") = false) (hb : fn.body = some c) {N : Nat} (hN : fn.ntmps = N) {rs : List ResultVar} (hrs : fn.results.toList = rs) {xs : List AVal} {M : Nat} {h c1 c1' : Cell} {l l' : List (List Cell)} {o o' : Obj} {b : Bool} (hlen : xs.length + 1 ≤ N)
    (hxs : xs.all frozenV = true) (fh : frozenC h = true) (f1 : frozenC c1 = true) (fl : flatO ⟨1, l⟩ = true)
    (hw : ∀ base (A : Old) w0, A.lim = 2 → MOk base A w0 M → AWM P base A w0 M N c ⟨entry 0 (.c (.ptr 0 0 0) :: xs), [(0, sO h c1 (.sc (.map (some M))) 2 l.length), (2, ⟨1, l⟩)], 3⟩ o fun e s o2 => (e = .normal ∨ e = .ret) ∧ o2 = o' ∧ ∃ s', Weak A s s' ∧ resA T s' rs = some (.c (.sc (.bool b))) ∧ s'.σ = [(0, sO h c1' (.sc (.map (some M))) 2 l'.length), (2, ⟨1, l'⟩)] ∧ s'.fr = 3) :
    RunC P f xs M h c1 l o (.c (.sc (.bool b))) c1' l' o' := by
  subst hN hrs
  refine ⟨⟨fn, hf, hname, by rw [hb]; rfl⟩, fun base own w β vs hI hM hok hh hfr hr => calls_of_wp hf hb ?_⟩
  have hset : setB w M o = w := by
    show { w with heap := w.heap.setIfInBounds M o } = w
    have : w.heap.setIfInBounds M o = w.heap := by
      apply Array.ext_getElem?
      intro i
      rw [Array.getElem?_setIfInBounds]
      by_cases hi : M = i
      · subst hi
        rw [if_pos rfl, if_pos hok.2.1, hh]
      · rw [if_neg hi]
    rw [this]
  obtain ⟨I2, hok2⟩ := Inv.re2 (γ := fun id => if id = 0 then β 0 else if id = 2 then β 1 else deadB (β id)) hI (by decide) (j' := 2) (by decide) rfl rfl (fun i h0 h1 => by
    simp only [if_neg h0, if_neg h1]
    cases β i <;> first | exact .inl rfl | exact .inr rfl) ⟨3, fun i hi => by simp [show i ≠ 0 by omega, show i ≠ 2 by omega, hfr i (by omega), deadB]⟩ fh f1 rfl fl
  have hle : ∀ i, BLe (β i) (if i = 0 then β 0 else if i = 2 then β 1 else deadB (β i)) := fun i => by
    by_cases h0 : i = 0
    · subst h0
      exact .same _
    · rw [if_neg h0]
      by_cases h2 : i = 2
      · subst h2
        rw [hfr 2 (Nat.le_refl _)]
        exact .no _
      · rw [if_neg h2]
        cases β i with
        | no => exact .no _
        | dead => exact .same _
        | virt => exact .vdead
        | live b k cap => exact .dead _ _ _
  have I0 : InvS base ⟨own, β, 2, hfr, []⟩ (setB w M o) fn.ntmps (fun id => if id = 0 then β 0 else if id = 2 then β 1 else deadB (β id)) ⟨entry 0 (.c (.ptr 0 0 0) :: xs), [(0, sO h c1 (.sc (.map (some M))) 2 l.length), (2, ⟨1, l⟩)], 3⟩ { tmps := vs ++ Array.replicate (fn.ntmps - vs.size) undef, defers := [] } w := by
    rw [hset]
    refine ⟨I2, rfl, ?_, fun t v h => ?_, fun id (hid : 3 ≤ id) => by simp [show id ≠ 0 by omega, show id ≠ 2 by omega, hfr id (by omega), deadB], ⟨hle, fun x hx => ⟨(hok2 x).2 hx, rfl⟩, fun x ob hx => by cases hx⟩⟩
    · have := hr.1
      simp at this
      simp [← this]
      omega
    · obtain ⟨_, h1⟩ := look_entry (.c (.ptr 0 0 0) :: xs) 0 t v h
      rw [Nat.sub_zero] at h1
      have hlt : t < vs.size := by rw [← hr.1]; exact (List.getElem?_eq_some_iff.1 h1).1
      refine ⟨vs[t], ?_, ?_⟩
      · rw [Array.getElem?_append_left hlt, Array.getElem?_eq_getElem hlt]
      · have hrv := hr.2 t v _ h1 (Array.getElem?_eq_getElem hlt)
        exact hrv.mono (fun x hx => ⟨(hok2 x).2 hx, rfl⟩) hle
  refine wp_mono (hw base ⟨own, β, 2, hfr, []⟩ w rfl ⟨hM, hok, rfl⟩ _ _ w I0) fun e a' w' ⟨s', o2, β', ⟨he, ho2, s'', hwk, hres, hσ, hm⟩, I'⟩ => ?_
  subst ho2
  obtain ⟨β'', I''⟩ := hwk _ _ _ _ _ _ I'
  obtain ⟨v, h1, h2⟩ := results_sound hT I'' hres
  have h2' : RepV w' (okOf base own w' β'') β'' (.c (.sc (.bool b))) v := by
    cases h2 with
    | c h => cases h with
      | fz h => exact .c (.fz h)
  have fin : a'.defers = [] ∧ ∃ v, (results fn a'.tmps).run P w' = .ok v w' ∧ ∃ v' β', Ending.returned v = .returned v' ∧ Inv base own (setB w M o2) β' [(0, sO h c1' (.sc (.map (some M))) 2 l'.length), (2, ⟨1, l'⟩)] w' ∧ (∀ i, BLe (β i) (β' i)) ∧ (∀ x, okOf base own (setB w M o2) β x → okOf base own w' β' x ∧ w'.heap[x]? = (setB w M o2).heap[x]?) ∧ (∀ id, 3 ≤ id → β' id = .no) ∧ RepV w' (okOf base own w' β') β' (.c (.sc (.bool b))) v' :=
    ⟨I''.defers, v, h1, v, β'', rfl, by rw [← hσ]; exact I''.inv, I''.ext.ble, I''.ext.ok, by rw [← hm]; exact I''.fresh, h2'⟩
  rcases he with rfl | rfl
  · exact fin
  · exact fin
end
end Go.Proofs.YtphlhadgcfndhaaGreat.Abs
end
section
namespace Go.Proofs.YtphlhadgcfndhaaGreat.Abs
open Go Go.RowKit
set_option linter.unusedVariables false
set_option linter.unusedSimpArgs false
structure RS where
  ok : Bool
  sp : Nat
  l : List Int
  ks : List (List Int)
def costB (o : OpS) : Nat := if o.ret = 0 then 1 else 0
def loopF (f : List Int → List HV → Nat → List Int → List (List Int) → RS) (ops : List OpS) (x : List Int) (vs : List HV) : List Nat → Nat → List Int → List (List Int) → RS
  | [], sp, l, ks => ⟨false, sp, l, addK ks x⟩
  | i :: is, sp, l, ks => match ops[i]? with
    | none => loopF f ops x vs is sp l ks
    | some o => if (mayB ops x sp i && okV vs o) = true then
        (let r := f (afterB ops x i) (stepV vs o) (sp - costB o) (l ++ [(i : Int)]) ks
        if r.ok = true then r else loopF f ops x vs is sp l r.ks)
      else loopF f ops x vs is sp l ks
def runF (ops : List OpS) : Nat → List Int → List HV → Nat → List Int → List (List Int) → RS
  | 0, _, _, sp, l, ks => ⟨false, sp, l, ks⟩
  | n + 1, x, vs, sp, l, ks => if complB ops x = true then ⟨true, sp, l, ks⟩ else if x ∈ ks then ⟨false, sp, l, ks⟩ else loopF (runF ops n) ops x vs (List.range ops.length) sp l ks
theorem loopF_no {f : List Int → List HV → Nat → List Int → List (List Int) → RS} {ops : List OpS} {x : List Int} {vs : List HV} : ∀ (is : List Nat) (sp : Nat) (l : List Int) (ks : List (List Int)), (loopF f ops x vs is sp l ks).ok = false → (loopF f ops x vs is sp l ks).sp = sp ∧ (loopF f ops x vs is sp l ks).l = l
  | [], sp, l, ks, _ => ⟨rfl, rfl⟩
  | i :: is, sp, l, ks, h => by
    unfold loopF at h ⊢
    cases ho : ops[i]? with
    | none =>
      rw [ho] at h
      exact loopF_no is sp l ks h
    | some o =>
      rw [ho] at h
      simp only at h ⊢
      by_cases hm : (mayB ops x sp i && okV vs o) = true
      · rw [if_pos hm] at h ⊢
        by_cases hr : (f (afterB ops x i) (stepV vs o) (sp - costB o) (l ++ [(i : Int)]) ks).ok = true
        · rw [if_pos hr] at h
          rw [hr] at h
          cases h
        · rw [if_neg hr] at h ⊢
          exact loopF_no is sp l _ h
      · rw [if_neg hm] at h ⊢
        exact loopF_no is sp l ks h
theorem runF_no {ops : List OpS} : ∀ {n : Nat} {x : List Int} {vs : List HV} {sp : Nat} {l : List Int} {ks : List (List Int)}, (runF ops n x vs sp l ks).ok = false → (runF ops n x vs sp l ks).sp = sp ∧ (runF ops n x vs sp l ks).l = l
  | 0, x, vs, sp, l, ks, _ => ⟨rfl, rfl⟩
  | n + 1, x, vs, sp, l, ks, h => by
    unfold runF at h ⊢
    split
    · exact ⟨rfl, rfl⟩
    · rename_i h1
      rw [if_neg h1] at h
      split
      · exact ⟨rfl, rfl⟩
      · rename_i h2
        rw [if_neg h2] at h
        exact loopF_no _ _ _ _ h
/-! ### what stays -/
theorem afterB_len (ops : List OpS) (x : List Int) (i : Nat) : (afterB ops x i).length = x.length := by
  unfold afterB
  split
  · split
    · rw [List.length_set, dnS_len, List.length_set]
    · rw [List.length_set]
  · rfl
theorem afterB_mem (ops : List OpS) (x : List Int) (i : Nat) : ∀ b ∈ afterB ops x i, b ∈ x ∨ b = 1 ∨ b = 2 := by
  have hs : ∀ (y : List Int) (c : Int) (b : Int), b ∈ y.set i c → b ∈ y ∨ b = c := fun y c b hb => by
    rcases List.mem_or_eq_of_mem_set hb with h | h
    · exact .inl h
    · exact .inr h
  have hd : ∀ (e : EfS) (k : Nat) (y : List Int) (b : Int), b ∈ dnS ops e k y → b ∈ y ∨ b = 1 := fun e k y b hb => by
    unfold dnS at hb
    obtain ⟨j, hj, rfl⟩ := List.mem_mapIdx.1 hb
    split
    · exact .inr rfl
    · exact .inl (List.getElem_mem _)
  intro b hb
  unfold afterB at hb
  split at hb
  · split at hb
    · rcases hs _ _ _ hb with h | h
      · rcases hd _ _ _ _ h with h | h
        · rcases hs _ _ _ h with h | h
          · exact .inl h
          · exact .inr (.inl h)
        · exact .inr (.inl h)
      · exact .inr (.inr h)
    · rcases hs _ _ _ hb with h | h
      · exact .inl h
      · exact .inr (.inl h)
  · exact .inl hb
theorem KeyT.after {ops : List OpS} {x : List Int} (h : KeyT x) (i : Nat) : KeyT (afterB ops x i) := by
  refine ⟨(afterB_len ops x i).trans h.1, fun b hb => ?_⟩
  rcases afterB_mem ops x i b hb with h1 | rfl | rfl
  · exact h.2 b h1
  · omega
  · omega
theorem dnS_wt (ops : List OpS) (e : EfS) (k : Nat) (y : List Int) (j : Nat) : wtS (dnS ops e k y) j = wtS y j := by
  unfold wtS dnS
  rw [List.getElem?_mapIdx]
  cases y[j]? with
  | none => rfl
  | some b =>
    simp only [Option.map_some, Option.getD_some]
    split
    · rename_i h
      rw [h.2.1]
      rfl
    · rfl
theorem set_wt {y : List Int} {i : Nat} {c : Int} (hc : c ≠ 0) (hi : i < y.length) (j : Nat) : wtS (y.set i c) j = (wtS y j && decide (j ≠ i)) := by
  unfold wtS
  rw [List.getElem?_set]
  by_cases h : i = j
  · subst h
    simp [hi, hc]
  · rw [if_neg h]
    have : j ≠ i := Ne.symm h
    simp [this]
theorem afterB_wt {ops : List OpS} {x : List Int} {i : Nat} (hi : i < ops.length) (hx : i < x.length) (j : Nat) : wtS (afterB ops x i) j = (wtS x j && decide (j ≠ i)) := by
  unfold afterB
  rw [List.getElem?_eq_getElem hi]
  simp only
  split
  · rw [set_wt (by decide) (by rw [dnS_len, List.length_set]; exact hx), dnS_wt, set_wt (by decide) hx]
    by_cases h : j = i <;> simp [h]
  · rw [set_wt (by decide) hx]
def waitN (ops : List OpS) (x : List Int) : Nat := (List.range ops.length).countP fun j => wtS x j
theorem countP_drop {p : Nat → Bool} {i : Nat} : ∀ {l : List Nat}, l.Nodup → i ∈ l → p i = true → l.countP (fun j => p j && decide (j ≠ i)) + 1 = l.countP p
  | [], _, h, _ => by cases h
  | a :: l, hn, h, hp => by
    rw [List.nodup_cons] at hn
    rw [List.countP_cons, List.countP_cons]
    by_cases ha : a = i
    · subst ha
      have : l.countP (fun j => p j && decide (j ≠ a)) = l.countP p := by
        refine List.countP_congr fun j hj => ?_
        have : j ≠ a := fun e => hn.1 (e ▸ hj)
        simp [this]
      rw [this]
      simp [hp]
    · have hi : i ∈ l := by
        rcases List.mem_cons.1 h with h | h
        · exact absurd h.symm ha
        · exact h
      have ih := countP_drop hn.2 hi hp
      simp only [ne_eq, ha, not_false_eq_true, decide_true, Bool.and_true] at ih ⊢
      omega
theorem waitN_after {ops : List OpS} {x : List Int} {i : Nat} (hi : i < ops.length) (hx : i < x.length) (hw : wtS x i = true) : waitN ops (afterB ops x i) + 1 = waitN ops x := by
  unfold waitN
  rw [← countP_drop (p := fun j => wtS x j) List.nodup_range (List.mem_range.2 hi) hw]
  congr 1
  refine List.countP_congr fun j _ => ?_
  rw [afterB_wt hi hx]
theorem mayB_wt {ops : List OpS} {x : List Int} {sp i : Nat} (h : mayB ops x sp i = true) : wtS x i = true := by
  unfold mayB at h
  split at h
  · simp only [Bool.and_eq_true] at h
    exact h.1.1
  · cases h
theorem mayB_sp {ops : List OpS} {x : List Int} {sp i : Nat} {o : OpS} (h : mayB ops x sp i = true) (ho : ops[i]? = some o) : costB o ≤ sp := by
  unfold mayB at h
  rw [ho] at h
  simp only [Bool.and_eq_true, Bool.or_eq_true] at h
  unfold costB
  split
  · rename_i hr
    rcases h.1.2 with h | h
    · simp [reqB, hr] at h
    · have : sp ≠ 0 := by simpa using h.2
      omega
  · omega
theorem addK_key {ks : List (List Int)} {x : List Int} (hks : ∀ y ∈ ks, KeyT y) (hx : KeyT x) : ∀ y ∈ addK ks x, KeyT y := fun y hy => by
  unfold addK at hy
  split at hy
  · exact hks y hy
  · rcases List.mem_append.1 hy with h | h
    · exact hks y h
    · rw [List.mem_singleton.1 h]; exact hx
theorem loopF_key {f : List Int → List HV → Nat → List Int → List (List Int) → RS} {ops : List OpS} {x : List Int} {vs : List HV} (hx : KeyT x) (hf : ∀ i vs sp l ks, (∀ y ∈ ks, KeyT y) → ∀ y ∈ (f (afterB ops x i) vs sp l ks).ks, KeyT y) : ∀ (is : List Nat) (sp : Nat) (l : List Int) (ks : List (List Int)), (∀ y ∈ ks, KeyT y) → ∀ y ∈ (loopF f ops x vs is sp l ks).ks, KeyT y
  | [], sp, l, ks, hks => addK_key hks hx
  | i :: is, sp, l, ks, hks => by
    unfold loopF
    split
    · exact loopF_key hx hf is sp l ks hks
    · split
      · simp only
        split
        · exact hf i _ _ _ _ hks
        · exact loopF_key hx hf is sp l _ (hf i _ _ _ _ hks)
      · exact loopF_key hx hf is sp l ks hks
theorem runF_key {ops : List OpS} : ∀ {n : Nat} {x : List Int} {vs : List HV} {sp : Nat} {l : List Int} {ks : List (List Int)}, KeyT x → (∀ y ∈ ks, KeyT y) → ∀ y ∈ (runF ops n x vs sp l ks).ks, KeyT y
  | 0, x, vs, sp, l, ks, _, hks => hks
  | n + 1, x, vs, sp, l, ks, hx, hks => by
    unfold runF
    split
    · exact hks
    · split
      · exact hks
      · exact loopF_key hx (fun i vs sp l ks h => runF_key (hx.after i) h) _ _ _ _ hks
end Go.Proofs.YtphlhadgcfndhaaGreat.Abs
end
section
namespace Go.Proofs.YtphlhadgcfndhaaGreat.Abs
open Go Go.RowKit
set_option linter.unusedVariables false
set_option linter.unusedSimpArgs false
set_option maxHeartbeats 4000000
set_option maxRecDepth 4000
theorem encS_frozen (x : List Int) : frozenV (.agg (encS x)) = true := by
  show (encS x).all frozenC = true
  rw [List.all_eq_true]
  exact encS_fz x
abbrev sS (ops : List OpS) (sp : Nat) (M j q : Nat) : AObj := sO (encOps ops) (cI sp) (.sc (.map (some M))) j q
theorem lend_s {P : Program} {g : FuncId} {s : St} {ops : List OpS} {sp M j q : Nat} {xs : List AVal} {r : AVal} (h0 : look 0 s.σ = some (sS ops sp M j q)) (hxs : xs.all frozenV = true) (hr : plainV r = true) (hP : Pure P g (.c (.fad (encF ops sp (.sc (.map (some M))))) :: xs) r) : SemC P g (.c (.ptr 0 0 0) :: xs) s r s.σ s.fr :=
  SemC.lend h0 hxs hr hP
theorem all_encS (x : List Int) {xs : List AVal} (h : xs.all frozenV = true) : (AVal.agg (encS x) :: xs).all frozenV = true := by
  rw [List.all_cons, encS_frozen, h]
  rfl
@[simp] def tiM : TI := ⟨.map 75 4, .map none, 1, 8, false⟩
theorem tyM : TyOk Tryz.prog 70 tiM := ⟨Tryz.underlying70, by kernel_rfl, by kernel_rfl, by kernel_rfl, fun h => by cases h⟩
@[simp] abbrev TEm : TyEnv := (70, tiM) :: TE
theorem teOkM : TOk Tryz.prog TEm := .cons tyM teOk
theorem frz_encS (x : List Int) {id : Nat} {o : AObj} : (encS x).map (frzC id o) = encS x := map_same fun c hc => by
  obtain ⟨b, _, rfl⟩ := List.mem_map.1 hc
  rfl
theorem hc75 : Tryz.prog.cellsOf 75 = 10 := cells_ty (teOk 75 ti75 rfl)
theorem hc5 : Tryz.prog.cellsOf 5 = 1 := cells_ty (teOk 5 ti5 rfl)
theorem types_pos : ∃ d, Tryz.prog.types.size = d + 1 := ⟨_, rfl⟩
theorem run_con (ops : List OpS) (hn : ops.length ≤ 10) (hE : EfOk ops) (M : Nat) : ∀ (n : Nat) (x : List Int) (vs : List HV) (sp : Nat) (l : List Int) (ks : List (List Int)) (d : Nat), waitN ops x < n → KeyT x → (∀ y ∈ ks, KeyT y) → VOk (10 * d) vs → d + waitN ops x ≤ 10 → l.length + waitN ops x ≤ 10 → sp ≤ 100 →
    RunC Tryz.prog 29 [.agg (encS x), .c (encHs vs)] M (encOps ops) (cI sp) (l.map enci) (mapA ks) (.c (cB (runF ops n x vs sp l ks).ok)) (cI (runF ops n x vs sp l ks).sp) ((runF ops n x vs sp l ks).l.map enci) (mapA (runF ops n x vs sp l ks).ks) := by
  intro n
  induction n with
  | zero => intro x vs sp l ks d h; omega
  | succ n ih =>
  intro x vs sp l ks d hw hx hks hv hd hl hsp
  refine runC_of teOkM Tryz.func29 (by kernel_rfl) (c := _) rfl (N := 103) rfl (rs := [Go.ResultVar.tmp 6]) rfl (by simp) ?_ rfl rfl ?_ fun base A w0 hA hM => ?_
  · have := encS_frozen x
    rw [List.all_cons, this]
    rfl
  · exact flat_enci l
  have hel : (encS x).length = 10 := encS_len.trans hx.1
  have het := encS_take hx.1
  have hfz := encS_fz x
  unfold frozenC at hfz
  refine AWM.st teOkM [] (by simp [-Option.some.injEq] <;> rfl) trivial ?_
  refine AWM.to (s2 := ⟨[(6, .c (cB false)), (4, .c (.fad (encS x))), (0, .c (.ptr 0 0 0)), (1, .agg (encS x)), (2, .c (encHs vs))], [(0, sS ops sp M 2 l.length), (2, ⟨1, l.map enci⟩)], 5⟩) (Weak.freeze 3 ⟨(encS x).length, [encS x]⟩ [] _ (by simp) (flatEncS x _)) (by simp [mapAt_nil]; exact frz_encS x) ?_
  refine AWM.seq ?_
  refine AWM.st teOkM [.sem (.c (cB (complB ops x))) [(0, sS ops sp M 2 l.length), (2, ⟨1, l.map enci⟩)] 7] (by simp [hel, het, -Option.some.injEq] <;> rfl) ?_ ?_
  · exact lend_s rfl (all_encS x rfl) rfl (compl_pure ops sp _ x hx hn)
  refine AWM.iff (complB ops x) (by simp) (fun hc => ?_) (fun hc => AWM.skip ?_)
  · have hrun : runF ops (n + 1) x vs sp l ks = ⟨true, sp, l, ks⟩ := by simp [runF, hc]
    rw [hrun]
    refine AWM.st teOkM [] (by simp [-Option.some.injEq] <;> rfl) trivial ?_
    refine AWM.ret ⟨.inr rfl, rfl, _, Weak.normM hA [6] 2 _ (by simp) (by simp), ?_, ?_, ?_⟩
    · simp
    · simp
    · rfl
  refine AWM.seq (AWM.seq (AWM.drawL mixed teOkM (ans := []) 5 rfl (by simp [hel, het, -Option.some.injEq] <;> rfl) (by kernel_rfl) (by kernel_rfl) (by kernel_rfl) (by kernel_rfl) (by kernel_rfl) ?_ (fun β a w I => find_op hM rfl rfl rfl rfl (by decide) types_pos Tryz.underlying70 Tryz.underlying75 Tryz.underlying5 hc75 hc5 (fun w => run_zeroValue (teOk 4 ti4 rfl) w) hks hx (by simp) (by simp; rfl) I fun a' I' => ⟨_, _, _, ?_, I'⟩)))
  · simp [allP]
  refine AWM.to (s2 := ⟨[(20, .c (cB (decide (x ∈ ks)))), (0, .c (.ptr 0 0 0)), (2, .c (encHs vs)), (4, .c (.fad (encS x))), (6, .c (cB false))], [(0, sS ops sp M 2 l.length), (2, ⟨1, l.map enci⟩)], 12⟩) (Weak.keep [20, 0, 2, 4, 6] _) (by simp) ?_
  refine AWM.iff (decide (x ∈ ks)) (by simp) (fun hin => ?_) (fun hin => AWM.skip ?_)
  · rw [decide_eq_true_eq] at hin
    have hrun : runF ops (n + 1) x vs sp l ks = ⟨false, sp, l, ks⟩ := by simp [runF, hc, hin]
    rw [hrun]
    refine AWM.st teOkM [] (by simp [-Option.some.injEq] <;> rfl) trivial ?_
    refine AWM.ret ⟨.inr rfl, rfl, _, Weak.normM hA [6] 2 _ (by simp) (by simp), ?_, ?_, ?_⟩
    · simp
    · simp
    · rfl
  rw [decide_eq_false_iff_not] at hin
  have hrun : runF ops (n + 1) x vs sp l ks = loopF (runF ops n) ops x vs (List.range ops.length) sp l ks := by simp [runF, hc, hin]
  generalize runF ops (n + 1) x vs sp l ks = R at hrun ⊢
  refine AWM.seq ?_
  refine AWM.st teOkM [] (by simp [-Option.some.injEq] <;> rfl) trivial ?_
  refine AWM.block (AWM.loop (fun m s o => ∃ (i : Nat) (ks' : List (List Int)), m = ops.length - i ∧ i ≤ ops.length ∧ (∀ y ∈ ks', KeyT y) ∧ R = loopF (runF ops n) ops x vs ((List.range ops.length).drop i) sp l ks' ∧ o = mapA ks' ∧ s = ⟨[(0, .c (.ptr 0 0 0)), (2, .c (encHs vs)), (4, .c (.fad (encS x))), (6, .c (cB false)), (25, .c (encOps ops)), (26, .c (cI ops.length)), (27, .c (cI i))], [(0, sS ops sp M 2 l.length), (2, ⟨1, l.map enci⟩)], 3⟩) _ (Weak.normM hA [0, 2, 4, 6, 25, 26, 27] 2 _ (by simp) (by simp)) ⟨0, ks, rfl, Nat.zero_le _, hks, hrun, rfl, by simp⟩ ?_)
  clear hks hin hrun
  rintro m s o ⟨i, ks', rfl, hi, hks', hrun, rfl, rfl⟩
  refine AWM.st teOkM [] (by simp [-Option.some.injEq] <;> rfl) trivial ?_
  refine AWM.seq ?_
  refine AWM.iff (decide (i < ops.length)) (by simp) (fun h => AWM.skip ?_) (fun h => AWM.exit (m_then (m_then (blockM_exit ?_))))
  · rw [decide_eq_true_eq] at h
    obtain ⟨o, he⟩ : ∃ e, ops[i]? = some e := ⟨_, List.getElem?_eq_getElem h⟩
    have hdr : (List.range ops.length).drop i = i :: (List.range ops.length).drop (i + 1) := by
      rw [List.drop_eq_getElem_cons (by simpa using h), List.getElem_range]
    rw [hdr, loopF, he] at hrun
    refine AWM.seq (AWM.block ?_)
    refine AWM.st teOkM [] (by simp [he, -Option.some.injEq] <;> rfl) ?_ ?_
    · omega
    refine AWM.to (s2 := ⟨[(0, .c (.ptr 0 0 0)), (2, .c (encHs vs)), (4, .c (.fad (encS x))), (6, .c (cB false)), (7, .c (cI i)), (8, .c (.fad (encOp o))), (25, .c (encOps ops)), (26, .c (cI ops.length)), (27, .c (cI i))], [(0, sS ops sp M 2 l.length), (2, ⟨1, l.map enci⟩)], 3⟩) ((Weak.freeze 7 ⟨6, [encOp o]⟩ [] _ (by simp) rfl).trans (Weak.normM hA [0, 2, 4, 6, 7, 8, 25, 26, 27] 2 _ (by simp) (by simp [mapAt_nil]))) (by simp [mapAt_nil]) ?_
    refine AWM.seq ?_
    refine AWM.st teOkM [.sem (.c (cB (mayB ops x sp i))) [(0, sS ops sp M 2 l.length), (2, ⟨1, l.map enci⟩)] 6] (by simp [hel, het, -Option.some.injEq] <;> rfl) ?_ ?_
    · exact lend_s rfl (all_encS x rfl) rfl (may_pure ops sp _ x hx hn i h)
    cases hmay : mayB ops x sp i with
    | false =>
      refine AWM.iff true (by simp [hmay]) (fun _ => ?_) (fun h => by cases h)
      refine AWM.exit (m_then (blockM_exit ?_))
      refine AWM.text teOkM (ans := []) (by simp [-Option.some.injEq] <;> rfl) ?_ ?_
      · trivial
      refine ⟨_, _, Weak.normM hA [0, 2, 4, 6, 25, 26, 27] 2 _ (by simp) (by simp), ?_, i + 1, ks', rfl, h, hks', ?_, rfl, ?_⟩
      · omega
      · rw [hrun]
        simp [hmay]
      · simp
        exact wrap_s i (by omega)
    | true =>
    refine AWM.iff false (by simp [hmay]) (fun h => by cases h) (fun _ => AWM.skip ?_)
    refine AWM.st teOkM [.fz (.tup [.c (encHs (stepV vs o)), .c (cB (okV vs o))])] (by simp [-Option.some.injEq] <;> rfl) ?_ ?_
    · exact stepK_pure hv (by omega) (hE o (List.mem_of_getElem? he))
    refine AWM.seq ?_
    refine AWM.st teOkM [] (by simp [-Option.some.injEq] <;> rfl) trivial ?_
    cases hok : okV vs o with
    | false =>
      refine AWM.iff true (by simp [hok]) (fun _ => ?_) (fun h => by cases h)
      refine AWM.exit (m_then (blockM_exit ?_))
      refine AWM.text teOkM (ans := []) (by simp [-Option.some.injEq] <;> rfl) ?_ ?_
      · trivial
      refine ⟨_, _, Weak.normM hA [0, 2, 4, 6, 25, 26, 27] 2 _ (by simp) (by simp), ?_, i + 1, ks', rfl, h, hks', ?_, rfl, ?_⟩
      · omega
      · rw [hrun]
        simp [hok]
      · simp
        exact wrap_s i (by omega)
    | true =>
    refine AWM.iff false (by simp [hok]) (fun h => by cases h) (fun _ => AWM.skip ?_)
    refine AWM.st teOkM [] (by simp [-Option.some.injEq] <;> rfl) trivial ?_
    refine AWM.mid (fun s ob => ob = mapA ks' ∧ s = ⟨[(0, .c (.ptr 0 0 0)), (2, .c (encHs vs)), (4, .c (.fad (encS x))), (6, .c (cB false)), (7, .c (cI i)), (9, .c (encHs (stepV vs o))), (11, .c (cI (costB o))), (25, .c (encOps ops)), (26, .c (cI ops.length)), (27, .c (cI i))], [(0, sS ops sp M 2 l.length), (2, ⟨1, l.map enci⟩)], 3⟩) ?_ ?_
    · refine AWM.st teOkM [] (by simp [-Option.some.injEq] <;> rfl) trivial ?_
      cases hret : o.ret == 0 with
      | true =>
        have hc1 : costB o = 1 := by simp at hret; simp [costB, hret]
        refine AWM.iff true (by simp [hret]) (fun _ => ?_) (fun h => by cases h)
        refine AWM.text teOkM (ans := []) (by simp [-Option.some.injEq] <;> rfl) ?_ ?_
        · trivial
        exact ⟨_, Weak.normM hA [0, 2, 4, 6, 7, 9, 11, 25, 26, 27] 2 _ (by simp) (by simp), rfl, by simp [hc1]⟩
      | false =>
        have hc1 : costB o = 0 := by simp at hret; simp [costB, hret]
        refine AWM.iff false (by simp [hret]) (fun h => by cases h) (fun _ => AWM.skip ?_)
        exact ⟨_, Weak.normM hA [0, 2, 4, 6, 7, 9, 11, 25, 26, 27] 2 _ (by simp) (by simp), rfl, by simp [hc1]⟩
    rintro s ob ⟨rfl, rfl⟩
    have hcost := mayB_sp hmay he
    have hwr : IntKind.i64.wrap ((sp : Int) - (costB o : Int)) = ((sp - costB o : Nat) : Int) := by
      rw [IntKind.wrap_i64]; omega
    have hi9 : i < x.length := by rw [hx.1]; omega
    have hwt := mayB_wt hmay
    have hwn := waitN_after h hi9 hwt
    refine AWM.dr mixed teOkM [] (by simp [hwr, -Option.some.injEq] <;> rfl) (by kernel_rfl) (by kernel_rfl) ?_ ?_
    · simp [allP, growOk]
      omega
    obtain ⟨l1, hl1⟩ : ∃ l1, l1 = l ++ [(i : Int)] := ⟨_, rfl⟩
    have hl1n : l1.length = l.length + 1 := by rw [hl1]; simp
    have hl1m : l1.map enci = l.map enci ++ [[cI i]] := by rw [hl1]; simp
    refine AWM.to (s2 := ⟨[(0, .c (.ptr 0 0 0)), (2, .c (encHs vs)), (4, .c (.fad (encS x))), (6, .c (cB false)), (7, .c (cI i)), (9, .c (encHs (stepV vs o))), (11, .c (cI (costB o))), (25, .c (encOps ops)), (26, .c (cI ops.length)), (27, .c (cI i))], [(0, sS ops (sp - costB o) M 2 l1.length), (2, ⟨1, l1.map enci⟩)], 3⟩) (Weak.normM hA [0, 2, 4, 6, 7, 9, 11, 25, 26, 27] 11 _ (by simp) (by simp)) (by simp [hl1n, hl1m]) ?_
    obtain ⟨r, hr⟩ : ∃ r, r = runF ops n (afterB ops x i) (stepV vs o) (sp - costB o) l1 ks' := ⟨_, rfl⟩
    have hC := ih (afterB ops x i) (stepV vs o) (sp - costB o) l1 ks' (d + 1) (by omega) (hx.after i) hks' ((hv.step o).le (by have := hE o (List.mem_of_getElem? he); omega)) (by omega) (by omega) (by omega)
    rw [← hr] at hC
    have hks2 : ∀ y ∈ r.ks, KeyT y := by
      rw [hr]
      exact runF_key (hx.after i) hks'
    refine AWM.seq ?_
    refine AWM.seq (AWM.region (RM.pre teOkM 6 [.sem (.agg (encS (afterB ops x i))) [(0, sS ops (sp - costB o) M 2 l1.length), (2, ⟨1, l1.map enci⟩)] 7] (by decide) (by simp [hel, het, -Option.some.injEq] <;> rfl) ?_ ?_))
    · exact lend_s rfl (all_encS x rfl) (by show (encS _).all plainC = true; rw [List.all_eq_true]; intro c hc; obtain ⟨b, _, rfl⟩ := List.mem_map.1 hc; rfl) (after_pure ops _ _ x hx hn i h)
    refine RM.run (T := TEm) (j := 2) hM rfl rfl rfl (by decide) rfl (by simp [-Option.some.injEq] <;> rfl) (all_encS _ rfl) (by simp) (by decide) (by show 2 < 8; decide) rfl rfl rfl (flat_enci _) (flat_enci _) hC (RM.done (by decide) ?_)
    cases hrk : r.ok with
    | true =>
      refine AWM.iff true (by simp [hrk]) (fun _ => ?_) (fun h => by cases h)
      have hR : R = r := by
        rw [hrun]
        simp only [hmay, hok, Bool.and_self, if_true]
        rw [← hl1, ← hr, if_pos hrk]
      rw [hR]
      refine AWM.st teOkM [] (by simp [-Option.some.injEq] <;> rfl) trivial ?_
      refine AWM.ret ⟨.inr rfl, rfl, _, Weak.normM hA [6] 8 _ (by simp) (by simp), ?_, ?_, ?_⟩
      · simp [hrk]
      · simp
      · rfl
    | false =>
      refine AWM.iff false (by simp [hrk]) (fun h => by cases h) (fun _ => AWM.skip ?_)
      have hno := runF_no (ops := ops) (n := n) (x := afterB ops x i) (vs := stepV vs o) (sp := sp - costB o) (l := l1) (ks := ks') (by rw [← hr]; exact hrk)
      rw [← hr] at hno
      have hR : R = loopF (runF ops n) ops x vs ((List.range ops.length).drop (i + 1)) sp l r.ks := by
        rw [hrun]
        simp only [hmay, hok, Bool.and_self, if_true]
        rw [← hl1, ← hr, if_neg (by simp [hrk])]
      rw [hno.1, hno.2]
      have hln : (l1.map enci).length = l.length + 1 := by rw [List.length_map]; exact hl1n
      have hw1 : IntKind.i64.wrap (l.length : Int) = (l.length : Int) := by
        rw [IntKind.wrap_i64]; omega
      have hw2 : IntKind.i64.wrap (((sp - costB o : Nat) : Int) + (costB o : Int)) = (sp : Int) := by
        rw [IntKind.wrap_i64]; omega
      have ht : (l1.map enci).take l.length = l.map enci := by
        rw [hl1m, List.take_append_of_le_length (by simp), List.take_of_length_le (by simp)]
      refine AWM.draw mixed teOkM (ans := []) (by simp [hln, hl1n, hw1, hw2, -Option.some.injEq] <;> rfl) (by kernel_rfl) (by kernel_rfl) ?_ ?_
      · simp [allP]
      refine AWM.to (s2 := ⟨[(0, .c (.ptr 0 0 0)), (2, .c (encHs vs)), (4, .c (.fad (encS x))), (6, .c (cB false)), (25, .c (encOps ops)), (26, .c (cI ops.length)), (27, .c (cI i))], [(0, sS ops sp M 2 l.length), (2, ⟨1, l.map enci⟩)], 3⟩) ((Weak.shrink 8 l.length (o := ⟨1, l1.map enci⟩) _ (by simp)).trans (Weak.normM hA [0, 2, 4, 6, 25, 26, 27] 8 _ (by simp) (by simp))) (by simp [ht]) ?_
      refine AWM.text teOkM (ans := []) (by simp [-Option.some.injEq] <;> rfl) ?_ ?_
      · trivial
      refine ⟨_, _, Weak.normM hA [0, 2, 4, 6, 25, 26, 27] 2 _ (by simp) (by simp), ?_, i + 1, r.ks, rfl, h, hks2, hR, rfl, ?_⟩
      · omega
      · simp
        exact wrap_s i (by omega)
  · refine AWM.seq (AWM.drawL mixed teOkM (ans := []) 5 rfl (by simp [hel, het, -Option.some.injEq] <;> rfl) (by kernel_rfl) (by kernel_rfl) (by kernel_rfl) (by kernel_rfl) (by kernel_rfl) ?_ (fun β a w I => add_op hM rfl rfl rfl rfl types_pos Tryz.underlying70 Tryz.underlying75 Tryz.underlying5 hc75 hc5 hks' hx (by simp) (by simp; rfl) (by simp) I fun w' I' => ⟨_, _, _, ?_, I'⟩))
    · simp [allP]
    rw [decide_eq_false_iff_not] at h
    have hR : R = ⟨false, sp, l, addK ks' x⟩ := by
      rw [hrun, List.drop_eq_nil_of_le (by simp; omega)]
      rfl
    rw [hR]
    refine AWM.to (s2 := ⟨[(6, .c (cB false))], [(0, sS ops sp M 2 l.length), (2, ⟨1, l.map enci⟩)], 3⟩) (Weak.normM hA [6] 2 _ (by simp) (by simp)) (by simp) ?_
    refine AWM.st teOkM [] (by simp [-Option.some.injEq] <;> rfl) trivial ?_
    refine AWM.ret ⟨.inr rfl, rfl, _, Weak.normM hA [6] 2 _ (by simp) (by simp), ?_, ?_, ?_⟩
    · simp
    · simp
    · rfl
end Go.Proofs.YtphlhadgcfndhaaGreat.Abs
end
section
namespace Go.Proofs.YtphlhadgcfndhaaGreat.Abs
open Go Go.RowKit
set_option linter.unusedVariables false
set_option linter.unusedSimpArgs false
set_option maxHeartbeats 4000000
set_option maxRecDepth 4000
def x0 : List Int := List.replicate 10 0
def searchL (ops : List OpS) : List Nat → Option (List Int)
  | [] => none
  | sp :: r => if (runF ops 11 x0 [] sp [] []).ok = true then some (runF ops 11 x0 [] sp [] []).l else searchL ops r
def searchS (ops : List OpS) : List Int × Int := if 10 < ops.length then ([], 3) else match searchL ops (List.range (ops.length + 1)) with
  | some l => (l, 0)
  | none => ([], 6)
theorem x0_key : KeyT x0 := ⟨rfl, fun b hb => by
  rw [List.eq_of_mem_replicate hb]
  omega⟩
theorem waitN_le (ops : List OpS) (x : List Int) : waitN ops x ≤ ops.length := by
  unfold waitN
  exact Nat.le_trans List.countP_le_length (by simp)
theorem RunC.nil {P : Program} {f : FuncId} {a : AVal} {M k : Nat} {h c1 c1' : Cell} {l l' : List (List Cell)} {o o' : Obj} {r : AVal} (hC : RunC P f [a, .c (.row k false [])] M h c1 l o r c1' l' o') : RunC P f [a, .c (.sc (.slice none 0 0))] M h c1 l o r c1' l' o' := by
  refine ⟨hC.1, fun base own w β vs I hM hok hh hfr hr => hC.2 base own w β vs I hM hok hh hfr ⟨hr.1, fun i x v hx hv => ?_⟩⟩
  match i, hx with
  | 0, hx => exact hr.2 0 x v hx hv
  | 1, hx => exact hr.2 1 x v hx hv
  | 2, hx =>
    cases hx
    have := (sc_of (hr.2 2 (.c (.sc (.slice none 0 0))) v rfl hv)).1
    subst this
    exact .c (.fz (RepF.row (es := []) (cap := 0) (fun _ _ => undef) (Nat.le_refl _) (fun h => by cases h) (by simp) (by simp) (fun ad _ i e h => by simp at h) (fun i e h => by simp at h)))
  | i + 3, hx => simp at hx
theorem search_pure (ops : List OpS) (hE : EfOk ops) (hn : ops.length < 1000000) : Pure Tryz.prog 15 [.agg (encHi ops)] (.tup [.c (encis (searchS ops).1), .c (cI (searchS ops).2)]) := by
  refine pure_ofK teOkM Tryz.func15 (by kernel_rfl) (c := _) rfl (N := 30) rfl (rs := [Go.ResultVar.tmp 2, Go.ResultVar.tmp 3]) rfl (by simp) fun A w0 hA => ?_
  have hk : ∀ κ, (A.at κ).lim = 0 := fun _ => hA
  have hwn := wrap_s ops.length (by omega)
  refine AWK.st teOkM [] (by simp [-Option.some.injEq] <;> rfl) trivial ?_
  refine AWK.to (s2 := ⟨[(1, .c (.fad (encHi ops))), (2, .c (.sc (.slice none 0 0))), (3, .c (cI 0))], [], 0⟩) ((Weak.freeze 0 ⟨1, [encHi ops]⟩ [] _ (by simp) rfl).trans (Weak.normT (hk _) [1, 2, 3] [] [] 0 _ (by simp) (by simp) (by simp [mapAt_nil]))) (by simp [mapAt_nil]) ?_
  refine AWK.seq ?_
  refine AWK.st teOkM [] (by simp [-Option.some.injEq] <;> rfl) trivial ?_
  refine AWK.iff (decide (10 < ops.length)) (by simp; omega) (fun hb => ?_) (fun hb => AWK.skip ?_)
  · rw [decide_eq_true_eq] at hb
    refine AWK.st teOkM [] (by simp [-Option.some.injEq] <;> rfl) trivial ?_
    refine AWK.ret ⟨.inr rfl, _, Weak.le 2 _ (by simp <;> rfl) (.c (LeC.nil 1)), ?_⟩
    simp [searchS, hb]
  rw [decide_eq_false_iff_not] at hb
  have hn10 : ops.length ≤ 10 := by omega
  have hs : searchS ops = match searchL ops (List.range (ops.length + 1)) with
    | some l => (l, 0)
    | none => ([], 6) := by unfold searchS; rw [if_neg hb]
  generalize searchS ops = R at hs ⊢
  refine AWK.seq ?_
  refine AWK.st teOkM [] (by simp [hwn, -Option.some.injEq] <;> rfl) trivial ?_
  refine AWK.block (AWK.loop (fun m s κ => ∃ sp : Nat, m = ops.length + 1 - sp ∧ sp ≤ ops.length + 1 ∧ κ = [] ∧ searchL ops (List.range (ops.length + 1)) = searchL ops ((List.range (ops.length + 1)).drop sp) ∧ s = ⟨[(1, .c (.fad (encHi ops))), (2, .c (.sc (.slice none 0 0))), (3, .c (cI 0)), (13, .c (cI (ops.length + 1))), (14, .c (cI sp))], [], 0⟩) _ (Weak.normT (hk _) [1, 2, 3, 13, 14] [] [] 0 _ (by simp) (by simp) (by simp)) ⟨0, rfl, Nat.zero_le _, rfl, rfl, by simp⟩ ?_)
  rintro m s κ ⟨sp, rfl, hsp, rfl, hrun, rfl⟩
  refine AWK.st teOkM [] (by simp [-Option.some.injEq] <;> rfl) trivial ?_
  refine AWK.seq ?_
  refine AWK.iff (decide (sp < ops.length + 1)) (by simp; omega) (fun h => AWK.skip ?_) (fun h => AWK.exit (k_then (k_then (blockK_exit ?_))))
  · rw [decide_eq_true_eq] at h
    have hdr : (List.range (ops.length + 1)).drop sp = sp :: (List.range (ops.length + 1)).drop (sp + 1) := by
      rw [List.drop_eq_getElem_cons (by simpa using h), List.getElem_range]
    rw [hdr, searchL] at hrun
    refine AWK.seq (AWK.block ?_)
    refine AWK.st teOkM [] (by simp [-Option.some.injEq] <;> rfl) trivial ?_
    refine AWK.seq (AWK.region (RK.pre teOkM 2 [] (by decide) (by simp [-Option.some.injEq] <;> rfl) trivial ?_))
    refine RK.make rfl rfl rfl rfl (by decide) fun M => ?_
    refine RK.pre teOkM 3 [] (by decide) (by simp [-Option.some.injEq] <;> rfl) trivial (RK.done (by decide) ?_)
    show AWK _ _ _ _ _ _ _ [(M, mapA [])] _
    refine AWK.to (s2 := ⟨[(1, .c (.fad (encHi ops))), (2, .c (.sc (.slice none 0 0))), (3, .c (cI 0)), (5, .c (.ptr 0 0 0)), (13, .c (cI (ops.length + 1))), (14, .c (cI sp))], [(0, sS ops sp M 1 0), (1, ⟨1, []⟩)], 2⟩) ((Weak.nilO 6 2 1 (q := 4) (cs := [encOps ops, cI sp, .sc (.slice none 0 0), .sc (.map (some M))]) _ (by simp) rfl (by simp)).trans (Weak.normS (hk _) [1, 2, 3, 5, 13, 14] [(5, 0)] [(8, 1)] [6] 2 _ (by simp) (by simp) (by simp))) (by simp) ?_
    have hw0 := waitN_le ops x0
    obtain ⟨r, hr⟩ : ∃ r, r = runF ops 11 x0 [] sp [] [] := ⟨_, rfl⟩
    have hC := run_con ops hn10 hE M 11 x0 [] sp [] [] 0 (by omega) x0_key (fun y hy => by cases hy) VOk.nil (by omega) (by simp; omega) (by omega)
    rw [← hr] at hC hrun
    have hC := RunC.nil hC
    refine AWK.seq (AWK.region (RK.pre teOkM 1 [] (by decide) (by simp [-Option.some.injEq] <;> rfl) trivial ?_))
    refine RK.buildA rfl rfl rfl rfl (by decide) (teOk 75 ti75 rfl) Tryz.underlying75 (teOk 5 ti5 rfl) rfl ?_
    refine RK.run (T := TEm) (j := 1) (Nat.le_refl _) rfl rfl rfl (by decide) rfl (by simp [-Option.some.injEq] <;> rfl) rfl rfl (by decide) (by show 1 < 3; decide) rfl rfl rfl (flat_enci _) (flat_enci _) hC (RK.done (by decide) ?_)
    cases hrk : r.ok with
    | true =>
      rw [hrk, if_pos rfl] at hrun
      have hR : R = (r.l, 0) := by rw [hs, hrun]
      rw [hR]
      refine AWK.iff true (by simp [hrk]) (fun _ => ?_) (fun h => by cases h)
      refine AWK.st teOkM [] (by simp [-Option.some.injEq] <;> rfl) trivial ?_
      refine AWK.ret ⟨.inr rfl, _, Weak.freeze 3 ⟨1, r.l.map enci⟩ [0] _ (by simp) (flat_enci _), ?_⟩
      simp
    | false =>
      rw [hrk, if_neg (by simp)] at hrun
      refine AWK.iff false (by simp [hrk]) (fun h => by cases h) (fun _ => AWK.skip ?_)
      refine AWK.text teOkM (ans := []) (by simp [-Option.some.injEq] <;> rfl) ?_ ?_
      · trivial
      refine ⟨_, _, Weak.normT (hk _) [1, 2, 3, 13, 14] [] [] 0 _ (by simp) (by simp) (by simp), ?_, sp + 1, rfl, by omega, rfl, hrun, ?_⟩
      · omega
      · simp
        exact wrap_s sp (by omega)
  · rw [decide_eq_false_iff_not] at h
    have hR : R = ([], 6) := by
      rw [hs, hrun, List.drop_eq_nil_of_le (by simp; omega)]
      rfl
    rw [hR]
    refine AWK.st teOkM [] (by simp [-Option.some.injEq] <;> rfl) trivial ?_
    refine AWK.ret ⟨.inr rfl, _, Weak.le 2 _ (by simp <;> rfl) (.c (LeC.nil 1)), ?_⟩
    simp
end Go.Proofs.YtphlhadgcfndhaaGreat.Abs
end
