/- Joined for the claim: WClone WVec WIns WIns2 WIns3 WNIns -/
import Derived.Test.YtphlhadgcfndhaaGreatAbsS
import Derived.Laws.Externs
section
namespace Go.Proofs.YtphlhadgcfndhaaGreat.Abs
open Go Go.RowKit
set_option linter.unusedVariables false
set_option linter.unusedSimpArgs false
end Go.Proofs.YtphlhadgcfndhaaGreat.Abs
end
section
namespace Go.Proofs.YtphlhadgcfndhaaGreat.Abs
open Go Go.RowKit
set_option linter.unusedVariables false
set_option linter.unusedSimpArgs false
set_option maxHeartbeats 4000000
abbrev E2 := Int × Int
abbrev cI (n : Int) : Cell := .sc (.int .i64 n)
abbrev cB (b : Bool) : Cell := .sc (.bool b)
@[simp] def encE (e : E2) : List Cell := [cI e.1, cI e.2]
abbrev encV (l : List E2) : Cell := .row 2 false (l.map encE)
@[simp] theorem flat_encE (l : List E2) : flatO ⟨2, l.map encE⟩ = true := flatO_of fun e he => by
  obtain ⟨x, _, rfl⟩ := List.mem_map.1 he
  rfl
def boundI (k : Bool) (x y : Int) : Int := if k = true then (if y > x then y else x) else (if y < x then y else x)
def consP (e : E2) (l : List E2) : List E2 := if e.2 > 0 then e :: l else l
def mergeI (k : Bool) : List E2 → List E2 → List E2
  | [], [] => []
  | x :: a, [] => consP (x.1, boundI k x.2 0) (mergeI k a [])
  | [], y :: b => consP (y.1, boundI k 0 y.2) (mergeI k [] b)
  | x :: a, y :: b => if x.1 < y.1 then consP (x.1, boundI k x.2 0) (mergeI k a (y :: b)) else if y.1 < x.1 then consP (y.1, boundI k 0 y.2) (mergeI k (x :: a) b) else consP (x.1, boundI k x.2 y.2) (mergeI k a b)
termination_by a b => a.length + b.length
end Go.Proofs.YtphlhadgcfndhaaGreat.Abs
end
section
namespace Go.Proofs.YtphlhadgcfndhaaGreat.Abs
open Go Go.RowKit
set_option linter.unusedVariables false
set_option linter.unusedSimpArgs false
set_option maxHeartbeats 1000000
theorem RepV.tight {w : World} {ok : Nat → Prop} {β : Nat → Bnd} {k n c : Nat} {t : Bool} {es : List (List Cell)} {A : Option Addr} (h : RepV w ok β (.c (.row k t es)) (.slice A n c)) (hc : c = es.length) : RepV w ok β (.c (.row k true es)) (.slice A n c) := by
  cases h with
  | c h => cases h with
    | fz h => cases h with
      | row vs g1 g2 g3 g4 g5 g6 => exact .c (.fz (.row vs g1 (fun _ => hc) g3 g4 g5 g6))
section
variable {P : Program} {base : Nat} {A : Old} {w0 : World} {n : Nat}
/-- A slice of all of an object: it is full, or it has room for one more. -/
theorem AW.split {c : Code} {s : St} {Q : Exit → St → Prop} (t : Nat) {id : Nat} (o : AObj) (ht : look t s.τ = some (.c (.ref id 0 o.es.length))) (ho : look id s.σ = some o) (hf : flatO o = true)
    (h1 : AW P base A w0 n c ⟨putT t (.c (.row o.k true o.es)) (freeze id o [] s).τ, (freeze id o [] s).σ, (freeze id o [] s).fr⟩ Q)
    (h2 : AW P base A w0 n c ⟨s.τ, putA id ⟨o.k, o.es ++ [List.replicate o.k .any]⟩ s.σ, s.fr⟩ Q) : AW P base A w0 n c s Q := fun β a w I => by
  obtain ⟨u, hu, hr⟩ := I.tmps t _ ht
  have tight : (∃ ad, u = .slice ad o.es.length o.es.length) → Code.wp P c (fun e a' w' => ∃ s' β', Q e s' ∧ InvS base A w0 n β' s' a' w') a w := by
    rintro ⟨ad, rfl⟩
    obtain ⟨β', I'⟩ := Weak.freeze (A := A) id o [] s ho hf base w0 n β a w I
    refine h1 β' a w ⟨I'.inv, I'.defers, I'.size, fun v x hx => ?_, I'.fresh, I'.ext⟩
    rw [look_putT] at hx
    split at hx
    · rename_i e
      cases hx
      subst e
      have hl : look v (freeze id o [] s).τ = some (.c (.row o.k false o.es)) := by
        show look v (mapS (frzV id o) s.τ) = _
        rw [look_map, ht]
        simp [frzV, frzC]
      obtain ⟨u2, hu2, hr2⟩ := I'.tmps v _ hl
      rw [hu] at hu2
      cases hu2
      exact ⟨_, hu, hr2.tight rfl⟩
    · exact I'.tmps v x hx
  rcases ref_live I.inv ho hr with ⟨b, k, cap, hb, hcap, rfl⟩ | ⟨hv, hoe, _, _, ad, rfl⟩
  · by_cases hc : cap = o.es.length
    · exact tight ⟨_, by rw [hc, Nat.sub_zero]⟩
    · have O := I.inv.obj id b k cap o hb ho
      refine h2 β a w ⟨⟨I.inv.below, I.inv.hbase, I.inv.old, fun i => ?_, fun i q hi hq => ?_, I.inv.fin, I.inv.lo, I.inv.inj, fun i b' k' cap' q hi hq => ?_⟩, I.defers, I.size, I.tmps, I.fresh, I.ext⟩
      · rw [look_put]
        split
        · rename_i e
          subst e
          have := I.inv.dom i
          rw [ho] at this
          exact this
        · exact I.inv.dom i
      · rw [look_put] at hq
        split at hq
        · rename_i e
          subst e
          rw [hb] at hi
          cases hi
        · exact I.inv.virt i q hi hq
      · rw [look_put] at hq
        split at hq
        · rename_i e
          subst e
          cases hq
          rw [hb] at hi
          cases hi
          obtain ⟨arr, ty, g4, g5, g6, g7⟩ := O.hat
          have hk := O.hk
          have hcl : o.es.length + 1 ≤ cap := by have := O.hcap; omega
          refine ⟨hk, by simpa using hcl, fun e he => ?_, arr, ty, g4, g5, g6, fun j e he c' c hc' => ?_⟩
          · rcases List.mem_append.1 he with he | he
            · exact O.hlen e he
            · rw [List.mem_singleton.1 he, List.length_replicate, hk]
          · by_cases hj : j < o.es.length
            · rw [List.getElem?_append_left hj] at he
              exact g7 j e he c' c hc'
            · rw [List.getElem?_append_right (by omega)] at he
              have hj0 : j - o.es.length = 0 := by
                have := (List.getElem?_eq_some_iff.1 he).1
                rw [List.length_singleton] at this
                omega
              rw [hj0] at he
              cases he
              have hck : c' < k := by
                have := (List.getElem?_eq_some_iff.1 hc').1
                rw [List.length_replicate, hk] at this
                exact this
              rw [(List.mem_replicate.1 (List.mem_of_getElem? hc')).2]
              have hje : j = o.es.length := by omega
              have hm : (o.es.length + 1) * k ≤ cap * k := Nat.mul_le_mul_right _ hcl
              rw [Nat.add_mul, Nat.one_mul] at hm
              have hlt : j * k + c' < arr.size := by rw [g5, hje]; omega
              exact ⟨_, Array.getElem?_eq_getElem hlt, .fz (.any _ (g6 _ (by rw [← Array.getElem_toList (h := hlt)]; exact List.getElem_mem _)))⟩
        · exact I.inv.obj i b' k' cap' q hi hq
  · exact tight ⟨ad, by rw [hoe]; rfl⟩
theorem evOps_part {T : TyEnv} (hT : TOk P T) {ops : Array Oper} {Q : Exit → Act → World → Prop} : ∀ (m k : Nat), k + m ≤ ops.size → ∀ {ans ans' : List Ans} {s s' : St} {p : Prop} {β : Nat → Bnd} {a : Act} {w : World}, evOps P T n ops ((ops.toList.drop k).take m) s ans = some (s', ans', p) → p → InvS base A w0 n β s a w →
    ∀ {l : List Nat}, (∀ β' a' w', InvS base A w0 n β' s' a' w' → wpOps P ops Q l a' w') → wpOps P ops Q (List.range' k m ++ l) a w
  | 0, k, hk, ans, ans', s, s', p, β, a, w, he, hp, I, l, hQ => by
    rw [List.take_zero] at he
    cases he
    exact hQ β a w I
  | m + 1, k, hk, ans, ans', s, s', p, β, a, w, he, hp, I, l, hQ => by
    have hlt : k < ops.toList.length := by simp; omega
    rw [List.drop_eq_getElem_cons hlt, List.take_succ_cons] at he
    unfold evOps at he
    split at he
    case h_1 => cases he
    rename_i s1 ans1 p1 h1
    split at he
    case h_1 => cases he
    rename_i s2 ans2 p2 h2
    cases he
    rw [List.range'_succ, List.cons_append, wpOps_cons]
    refine evOp_sound hT h1 hp.1 I (i := k) (by rw [← Array.getElem?_toList, List.getElem?_eq_getElem hlt]) (fun β' a' w' I' => ?_)
    exact evOps_part hT m (k + 1) (by omega) h2 hp.2 I' hQ
/-- A region of which one operation yields a value that is told by hand. -/
theorem AW.stX {ι : Type} {T : TyEnv} (hT : TOk P T) {id : Nat} {ops : Array Oper} {y : Code} {s : St} {Q : Exit → St → Prop} (ans : List Ans) (m : Nat) {s1 : St} {ans1 : List Ans} {p1 : Prop} (hev1 : evOps P T n ops (ops.toList.take m) s ans = some (s1, ans1, p1)) (hp1 : p1) {o : Oper} {d : Nat} (ho : ops[m]? = some o) (hw : wantedA ops s1.τ o = some true) (hd : o.dst = some d) (hdn : d < n)
    (v : ι → AVal) (s2 : ι → St) (Φ : ι → Prop)
    (hrun : ∀ β a w, InvS base A w0 n β s1 a w → ∃ x u, Φ x ∧ (execOp a.eval o).run P w = .ok (.value u) w ∧ RepV w (okOf base A.own w β) β (v x) u)
    (hev2 : ∀ x, Φ x → ∃ ans2 p2, evOps P T n ops (ops.toList.drop (m + 1)) ⟨putT d (v x) s1.τ, s1.σ, s1.fr⟩ ans1 = some (s2 x, ans2, p2) ∧ p2)
    (hc : ∀ x, Φ x → AW P base A w0 n y (s2 x) Q) : AW P base A w0 n (.seq (.region id ops false) y) s Q := AW.seq fun β a w I => by
  have hm := (Array.getElem?_eq_some_iff.1 ho).1
  refine wp_region ?_
  rw [List.range_eq_range', show ops.size = m + (1 + (ops.size - m - 1)) by omega, ← List.range'_append_1]
  refine evOps_part hT m 0 (by omega) (by simpa using hev1) hp1 I (fun β' a' w' I' => ?_)
  rw [Nat.zero_add, Nat.add_comm 1, List.range'_succ, wpOps_cons]
  unfold wpOp
  rw [ho]
  simp only
  rw [wanted_sound I' hw, if_pos rfl]
  left
  obtain ⟨x, u, hx, hr, hv⟩ := hrun β' a' w' I'
  unfold Oper.wp
  rw [hr, Oper.upon_value]
  obtain ⟨ans2, p2, he2, hp2⟩ := hev2 x hx
  have hput : putD n o.dst (v x) s1.τ = some (putT d (v x) s1.τ) := by rw [hd]; exact if_pos hdn
  have I2 := put_inv (fr' := s1.fr) I' I'.inv (BLe.refl' β') (fun x h => ⟨h, rfl⟩) I'.fresh hv hput
  exact evOps_sound hT (ops.size - m - 1) (m + 1) (by omega) he2 hp2 I2 fun β3 a3 w3 I3 => ⟨s2 x, β3, hc x hx, I3⟩
/-- The capacity of a live slice. -/
theorem cap_run {T : TyEnv} (hT : TOk P T) {s : St} {β : Nat → Bnd} {a : Act} {w : World} (I : InvS base A w0 n β s a w) {o : Oper} {x : Operand} {ty el : TypeId} {ti : TI} (hop : o.op = .call { callee := .builtin .cap, args := #[x], argTypes := #[ty] }) (hti : look ty T = some ti) (hd : ti.d = .slice el)
    {id lo m : Nat} {ob : AObj} (hx : opval s.τ x = .c (.ref id lo m)) (hob : look id s.σ = some ob) (hne : ob.es ≠ []) : ∃ (c : Nat) (u : Value), ob.es.length - lo ≤ c ∧ (execOp a.eval o).run P w = .ok (.value u) w ∧ RepV w (okOf base A.own w β) β (.c (.sc (.int .i64 (c : Int)))) u := by
  have h1 := (hT ty ti hti).1
  rw [hd] at h1
  have hr := opval_rep I x
  rw [hx] at hr
  rcases ref_live I.inv hob hr with ⟨b, k, cap, hb, hcap, hu⟩ | ⟨_, hoe, _⟩
  · have O := I.inv.obj id b k cap ob hb hob
    have := O.hcap
    refine ⟨cap - lo, goInt ((cap - lo : Nat) : Int), by omega, ?_, scv _ rfl⟩
    obtain ⟨dst, op, type, pos, after, guard⟩ := o
    dsimp only at hop
    subst hop
    simp [execOp, resolve, invoke, builtin, hu, Builtin.cap_, run_underlying h1]
  · exact absurd hoe hne
/-- An object gets a new name; one slot is kept. -/
theorem Weak.ren (t id : Nat) {lo m : Nat} {o : AObj} (s : St) (ht : look t s.τ = some (.c (.ref id lo m))) (ho : look id s.σ = some o) (hne : o.es ≠ []) : Weak A s ⟨[(t, .c (.ref s.fr lo m))], putA s.fr o (drop id s.σ), s.fr + 1⟩ := fun base w0 n β a w I => by
  obtain ⟨u, hu, hr⟩ := I.tmps t _ ht
  rcases ref_live I.inv ho hr with ⟨b, k, cap, hb, hcap, rfl⟩ | ⟨_, hoe, _⟩
  · obtain ⟨I', hle, hok⟩ := I.inv.rename hb ho (I.fresh s.fr (Nat.le_refl _))
    refine ⟨_, I', I.defers, I.size, fun v x hx => ?_, fun i hi => ?_, I.ext.step hle fun x hx => ⟨hok x hx, rfl⟩⟩
    · simp only [look] at hx
      split at hx
      · rename_i e
        cases hx
        subst e
        exact ⟨_, hu, .c (.ref (updB_self _ _ _) hcap)⟩
      · cases hx
    · have hi : s.fr + 1 ≤ i := hi
      have hid : id ≠ i := by
        rintro rfl
        have := I.fresh id (by omega)
        rw [hb] at this
        cases this
      rw [updB_ne _ _ (by omega), updB_ne _ _ (Ne.symm hid)]
      exact I.fresh i (by omega)
  · exact absurd hoe hne
end
end Go.Proofs.YtphlhadgcfndhaaGreat.Abs
end
section
namespace Go.Proofs.YtphlhadgcfndhaaGreat.Abs
open Go Go.RowKit
set_option linter.unusedVariables false
set_option linter.unusedSimpArgs false
set_option maxHeartbeats 4000000
theorem drop_rest : ∀ {rest : Sig} (_ : ∀ i, (look i rest).isSome = true → i < LIM) (k : Nat) (_ : 1000000 ≤ k), drop k rest = rest
  | [], _, _, _ => rfl
  | (t, o) :: r, h, k, hk => by
    have h1 := h t (by simp [look])
    have hr : ∀ i, (look i r).isSome = true → i < LIM := fun i hi => h i (by
      rw [look]
      split
      · rfl
      · exact hi)
    rw [drop, drop_rest hr k hk, if_neg (by have : t < 1000000 := h1; omega)]
theorem Weak.sortC {A : Old} (s : St) : Weak A s ⟨s.τ, sortS (hiS s.σ) ++ loS s.σ, s.fr⟩ := Weak.order _ fun id => by
  rw [← look_hilo id s.σ, look_app, look_app, look_sortS]
theorem Weak.normCS {A : Old} {m : Nat} {rest : Sig} (hA : A.lim = m) (hrefs : ∀ i o, look i rest = some o → refsLt m o) (ks : List Nat) (rs fix : List (Nat × Nat)) (ids : List Nat) (K : Nat) (s : St) (hlo : loS s.σ = rest)
    (h1 : ((rhoOf s.τ rs ++ fix).all fun p => decide (LIM ≤ p.1) && decide (LIM ≤ p.2) && decide (p.2 < K) && (decide (m ≤ p.1) && decide (m ≤ p.2) || p.1 == p.2)) = true) (hK : (decide (LIM ≤ K) && decide (m ≤ K)) = true) (h2 : ((rhoOf s.τ rs ++ fix).map Prod.snd).Nodup)
    (h3 : ((hiS s.σ).all fun p => decide (m ≤ p.1) || look p.1 (rhoOf s.τ rs ++ fix) == some p.1) = true) (h4 : flatRest (rhoOf s.τ rs ++ fix) ids (hiS s.σ)) :
    Weak A s ⟨(normL ks (rhoOf s.τ rs ++ fix) ids K s).τ, sortS (hiS (normL ks (rhoOf s.τ rs ++ fix) ids K s).σ) ++ loS (normL ks (rhoOf s.τ rs ++ fix) ids K s).σ, K⟩ := (Weak.normC hA hrefs ks rs fix ids K s hlo h1 hK h2 h3 h4).trans (Weak.sortC _)
theorem ov_run {P : Program} (w : World) (tS tR e : TypeId) (ht : P.underlying tS = some (.slice e)) (size : Nat) (hz : ∀ w, (Go.sizeOf e).run P w = .ok size w)
    (a b : Addr) (la ca lb cb : Nat) (hne : a.block ≠ b.block) {tA tB : TypeId} {kA kB : Nat} (hsa : w.shape? a.block = some (tA, kA)) (hsb : w.shape? b.block = some (tB, kB)) (hkA : kA ≠ 0) (hkB : kB ≠ 0)
    (hfb : ∀ q, w.frozen? { block := b.block, off := q } = false) (hb : b.spot = none) :
    (Extern.SlicesOverlaps.overlaps #[tS, tS] #[tR] #[.slice (some a) la ca, .slice (some b) lb cb]).run P w = .ok (.bool false) w := by
  have hnb : (a.block != b.block) = true := by simpa using hne
  have hnb' : (a.block == b.block) = false := by simpa using hne
  have hfb' : w.frozen? b = false := by
    have := hfb b.off
    obtain ⟨x, y, z⟩ := b
    dsimp only at hb this ⊢
    subst hb
    exact this
  change Sem.run P (α := Value) (do
    let some t := (#[tS, tS] : Array TypeId)[0]? | stuck "slices.overlaps: no parameter types"
    let .slice elem ← underlying t | stuck "slices.overlaps: slice type expected"
    let size ← sizeOf elem
    match (some a : Option Addr), (some b : Option Addr) with
    | some a, some b =>
      if la = 0 ∨ lb = 0 ∨ size = 0 then pure (Value.bool false)
      else if a.block != b.block && (← frozen a) && (← frozen b) then unsupported .addressObserved
      else do
        if a.block != b.block then do
          noView a; noView b
          if ← mayBeOne a b then return Value.bool ((← choose (.extern "sameAddr.stringBytes" 2)) == 1)
        pure (Value.bool (a.block == b.block && a.off < b.off + lb * size && b.off < a.off + la * size))
    | _, _ => pure (Value.bool false)) w = _
  by_cases h0 : la = 0 ∨ lb = 0 ∨ size = 0
  · simp [run_underlying ht, hz, h0]
  · cases kB with
    | zero => exact absurd rfl hkB
    | succ kB =>
    cases kA with
    | zero => exact absurd rfl hkA
    | succ kA =>
      cases hfa : w.frozen? a <;> cases hfe : w.frozen? { block := a.block, off := kA + 1 } <;> simp [run_underlying ht, hz, h0, hnb, hnb', frozen, noView, viewAt, mayBeOne, stringish, shape, Sem.run, hsa, hsb, hfb, hfb', hfa, hfe]
theorem spot_none {w : World} {a : Addr} {v : Value} (h : w.cell? a = some v) : ∃ arr ty fr, w.heap[a.block]? = some (.cells arr ty fr) ∧ arr.size ≠ 0 := by
  unfold World.cell? at h
  split at h
  · rename_i c ty fr hh
    split at h
    · cases h
    · exact ⟨c, ty, fr, hh, fun h0 => by
        have := (Array.getElem?_eq_some_iff.1 h).1
        omega⟩
  · cases h
/-- A row that is only read and a live slice lie apart. -/
theorem over_run {P : Program} {base : Nat} {A : Old} {w0 : World} {n : Nat} {T : TyEnv} (hT : TOk P T) {s : St} {β : Nat → Bnd} {a : Act} {w : World} (I : InvS base A w0 n β s a w) {o : Oper} {x y : Operand} {ats : Array TypeId} {g : FuncId} {fn : Func} {ty tR el : TypeId} {ti tie : TI}
    (hop : o.op = .call { callee := .value (.func g), args := #[x, y], argTypes := ats }) (hfn : P.funcs[g]? = some fn) (hname : (fn.name == "runtime.NumGoroutine") = false) (hbody : fn.body.isNone = true) (hnext : Extern.findNext fn = none) (hfind : Extern.find fn = some (Extern.SlicesOverlaps.overlaps #[ty, ty] #[tR]))
    (hti : look ty T = some ti) (hd : ti.d = .slice el) (htie : look el T = some tie) {k : Nat} {t : Bool} {e : List Cell} {es : List (List Cell)} (hx : opval s.τ x = .c (.row k t (e :: es))) (hk0 : 0 < k) {id lo m : Nat} {ob : AObj} (hy : opval s.τ y = .c (.ref id lo m)) (hob : look id s.σ = some ob) (hne : ob.es ≠ []) (hobk : 0 < ob.k) :
    ∃ u, (execOp a.eval o).run P w = .ok (.value u) w ∧ RepV w (okOf base A.own w β) β (.c (.sc (.bool false))) u := by
  have h1 := (hT ty ti hti).1
  rw [hd] at h1
  obtain ⟨i0, hi0, hz0, hsz0, hby0⟩ := info_of (hT el tie htie)
  have hr := opval_rep I x
  rw [hx] at hr
  have hr2 := opval_rep I y
  rw [hy] at hr2
  refine ⟨.bool false, ?_, scv _ rfl⟩
  rcases ref_live I.inv hob hr2 with ⟨b, kk, cap, hb, hcap, hu⟩ | ⟨_, hoe, _⟩
  case inr => exact absurd hoe hne
  have O := I.inv.obj id b kk cap ob hb hob
  obtain ⟨arr, tyo, hh, hsz, hone, hat⟩ := O.hat
  have hcp := O.hcap
  have hkk := O.hk
  have hlen := List.length_pos_iff.2 hne
  have harr : arr.size ≠ 0 := by
    rw [hsz]
    exact Nat.mul_ne_zero (by omega) (by omega)
  generalize hv : a.eval x = v at hr
  cases hr with
  | c hr => cases hr with
    | fz hr => cases hr with
      | @row _ _ _ Ad cp vs g1 g2 g3 g4 g5 g6 =>
      obtain ⟨ad, rfl, hok⟩ := g4 (by simp)
      have hcell := g5 ad rfl 0 e rfl 0 hk0
      obtain ⟨arr2, ty2, fr2, hh2, harr2⟩ := spot_none hcell
      rw [add_block] at hh2
      have hblk : ad.block ≠ b := fun h => hok.2.2 id b kk cap hb h.symm
      obtain ⟨dst, op, type, pos, after, guard⟩ := o
      dsimp only at hop
      subst hop
      have hcall := run_callFunc_extern hfn hname hbody hnext hfind #[.slice (some ad) (e :: es).length cp, .slice (some ⟨b, lo * kk, none⟩) m (cap - lo)] w
      rw [ov_run w ty tR el h1 i0.size (fun w' => by simp [sizeOf, typeInfo, hi0]) ad ⟨b, lo * kk, none⟩ _ _ _ _ hblk (tA := ty2) (kA := arr2.size) (tB := tyo) (kB := arr.size) (by unfold World.shape?; rw [hh2]) (by unfold World.shape?; rw [show (⟨b, lo * kk, none⟩ : Addr).block = b from rfl, hh]) harr2 harr (fun q => by
        unfold World.frozen?
        rw [show ({ block := b, off := q } : Addr).block = b from rfl, hh]
        simp) rfl] at hcall
      simp only [Result.andThen_ok] at hcall
      simp [execOp, resolve, invoke, hv, hu]
      exact hcall
end Go.Proofs.YtphlhadgcfndhaaGreat.Abs
end
section
namespace Go.Proofs.YtphlhadgcfndhaaGreat.Abs
open Go Go.RowKit
set_option linter.unusedVariables false
set_option linter.unusedSimpArgs false
set_option maxHeartbeats 4000000
theorem mapAt_nil {α : Type} (f : α → α) : ∀ l : List (Nat × α), mapAt [] f l = l
  | [] => rfl
  | (t, v) :: r => by
    rw [mapAt, mapAt_nil f r]
    rfl
abbrev zE : List Cell := [cI 0, cI 0]
theorem flat_app {k : Nat} {a b : List (List Cell)} (ha : flatO ⟨k, a⟩ = true) (hb : flatO ⟨k, b⟩ = true) : flatO ⟨k, a ++ b⟩ = true := by
  unfold flatO at *
  rw [List.all_append, ha, hb]
  rfl
theorem flat_take {k : Nat} {a : List (List Cell)} (ha : flatO ⟨k, a⟩ = true) (i : Nat) : flatO ⟨k, a.take i⟩ = true := by
  unfold flatO at *
  rw [List.all_eq_true] at *
  exact fun e he => ha e (List.mem_of_mem_take he)
theorem flat_drop {k : Nat} {a : List (List Cell)} (ha : flatO ⟨k, a⟩ = true) (i : Nat) : flatO ⟨k, a.drop i⟩ = true := by
  unfold flatO at *
  rw [List.all_eq_true] at *
  exact fun e he => ha e (List.mem_of_mem_drop he)
theorem flat_one {k : Nat} {x : List Cell} (hx : x.all frozenC = true) : flatO ⟨k, [x]⟩ = true := by
  unfold flatO
  simp [hx]
theorem grow_list {α : Type} (es : List α) (z x : α) (i : Nat) (hi : i < es.length) :
    let L0 := es.take i ++ List.replicate (es.length + 1 - i) z
    let L1 := L0.take i ++ [x] ++ L0.drop (i + 1)
    L1.take (i + 1) ++ (es.drop i).take (es.length - i) ++ L1.drop (i + 1 + (es.length - i)) = es.take i ++ x :: es.drop i := by
  intro L0 L1
  have hL0 : L0.length = es.length + 1 := by simp [L0]; omega
  have h1 : L0.take i = es.take i := by
    show (es.take i ++ _).take i = _
    rw [List.take_append_of_le_length (by simp; omega), List.take_of_length_le (by simp; omega)]
  have hL1 : L1 = es.take i ++ [x] ++ L0.drop (i + 1) := by show L0.take i ++ [x] ++ L0.drop (i + 1) = _; rw [h1]
  have hl : (es.take i ++ [x]).length = i + 1 := by simp; omega
  have h2 : L1.take (i + 1) = es.take i ++ [x] := by rw [hL1, List.take_append_of_le_length (by omega), List.take_of_length_le (by omega)]
  have h3 : L1.drop (i + 1 + (es.length - i)) = [] := List.drop_eq_nil_of_le (by rw [hL1, List.length_append, hl, List.length_drop, hL0]; omega)
  rw [h2, h3, List.take_of_length_le (l := es.drop i) (by rw [List.length_drop]; omega), List.append_nil, List.append_assoc]
  rfl
theorem shift_list {α : Type} (es : List α) (z x : α) (i : Nat) (hi : i < es.length) :
    let L0 := es ++ [z]
    let L1 := L0.take (i + 1) ++ (L0.drop i).take (es.length - i) ++ L0.drop (i + 1 + (es.length - i))
    L1.take i ++ [x] ++ L1.drop (i + 1) = es.take i ++ x :: es.drop i := by
  intro L0 L1
  have h1 : L0.take (i + 1) = es.take (i + 1) := List.take_append_of_le_length (by omega)
  have h2 : (L0.drop i).take (es.length - i) = es.drop i := by
    show ((es ++ [z]).drop i).take _ = _
    rw [List.drop_append_of_le_length (by omega), List.take_append_of_le_length (by rw [List.length_drop]; omega), List.take_of_length_le (by rw [List.length_drop]; omega)]
  have h3 : L0.drop (i + 1 + (es.length - i)) = [] := List.drop_eq_nil_of_le (by simp [L0]; omega)
  have hL1 : L1 = es.take (i + 1) ++ es.drop i := by show L0.take (i + 1) ++ (L0.drop i).take (es.length - i) ++ L0.drop (i + 1 + (es.length - i)) = _; rw [h1, h2, h3, List.append_nil]
  rw [hL1, List.take_append_of_le_length (by rw [List.length_take]; omega), List.take_take, Nat.min_eq_left (by omega), List.drop_append_of_le_length (by rw [List.length_take]; omega), List.drop_eq_nil_of_le (by rw [List.length_take]; omega), List.nil_append, List.append_assoc]
  rfl
theorem cap_run' {P : Program} {base : Nat} {A : Old} {w0 : World} {n : Nat} {T : TyEnv} (hT : TOk P T) {s : St} {β : Nat → Bnd} {a : Act} {w : World} (I : InvS base A w0 n β s a w) {o : Oper} (x : Operand) (ty el : TypeId) {ti : TI} (hop : o.op = .call { callee := .builtin .cap, args := #[x], argTypes := #[ty] }) (hti : look ty T = some ti) (hd : ti.d = .slice el)
    {id lo m : Nat} {ob : AObj} (hx : opval s.τ x = .c (.ref id lo m)) (hob : look id s.σ = some ob) (hne : ob.es ≠ []) {q : Nat} (hq : q ≤ ob.es.length - lo) : ∃ (c : Nat) (u : Value), q ≤ c ∧ (execOp a.eval o).run P w = .ok (.value u) w ∧ RepV w (okOf base A.own w β) β (.c (cI c)) u := by
  obtain ⟨c, u, h1, h2, h3⟩ := cap_run hT I hop hti hd hx hob hne
  exact ⟨c, u, by omega, h2, h3⟩
theorem over_run' {P : Program} {base : Nat} {A : Old} {w0 : World} {n : Nat} {T : TyEnv} (hT : TOk P T) {s : St} {β : Nat → Bnd} {a : Act} {w : World} (I : InvS base A w0 n β s a w) {o : Oper} (x y : Operand) {ats : Array TypeId} {g : FuncId} {fn : Func} (ty tR el : TypeId) {ti tie : TI}
    (hop : o.op = .call { callee := .value (.func g), args := #[x, y], argTypes := ats }) (hfn : P.funcs[g]? = some fn) (hname : (fn.name == "runtime.NumGoroutine") = false) (hbody : fn.body.isNone = true) (hnext : Extern.findNext fn = none) (hfind : Extern.find fn = some (Extern.SlicesOverlaps.overlaps #[ty, ty] #[tR]))
    (hti : look ty T = some ti) (hd : ti.d = .slice el) (htie : look el T = some tie) (k : Nat) (t : Bool) (e : List Cell) (es : List (List Cell)) (hx : opval s.τ x = .c (.row k t (e :: es))) (hk0 : 0 < k) {id lo m : Nat} (ob : AObj) (hy : opval s.τ y = .c (.ref id lo m)) (hob : look id s.σ = some ob) (hne : ob.es ≠ []) (hobk : 0 < ob.k) :
    ∃ (_ : Unit) (u : Value), True ∧ (execOp a.eval o).run P w = .ok (.value u) w ∧ RepV w (okOf base A.own w β) β (.c (cB false)) u := by
  obtain ⟨u, h1, h2⟩ := over_run hT I hop hfn hname hbody hnext hfind hti hd htie hx hk0 hy hob hne hobk
  exact ⟨(), u, trivial, h1, h2⟩
end Go.Proofs.YtphlhadgcfndhaaGreat.Abs
end
section
namespace Go.Proofs.YtphlhadgcfndhaaGreat.Abs
open Go Go.RowKit
set_option linter.unusedVariables false
set_option linter.unusedSimpArgs false
set_option maxHeartbeats 4000000
abbrev cS (s : ByteArray) : Cell := .sc (.string s)
abbrev zS : List Cell := [.sc (.string { data := #[] })]
abbrev zN : List Cell := [cI 0]
abbrev zH : List Cell := [.sc (.string { data := #[] }), .sc (.string { data := #[] }), cB false, cI 0, .sc (.string { data := #[] }), cB false, cI 0, cI 0, .sc (.slice none 0 0), cB false]
theorem insS_con (es : List (List Cell)) (hf : flatO ⟨1, es⟩ = true) (hk : ∀ e ∈ es, e.length = 1) (i : Nat) (hi : i ≤ es.length) (hl : es.length < 1000000000) (x : List Cell) (hx : x.length = 1) (hxf : x.all frozenC = true) :
    Con Tryz.prog 87 [.c (.ref 1000000 0 es.length), .c (cI i), .c (.row 1 true [x])] [(1000000, ⟨1, es⟩)] 1000020 (.c (.ref 1000100 0 (es.length + 1))) [(1000100, ⟨1, es.take i ++ x :: es.drop i⟩)] 1000101 := by
  refine con_of teOk Tryz.func87 (by kernel_rfl) (c := _) rfl (N := 95) rfl (rs := [Go.ResultVar.tmp 6]) rfl (by simp) fun base A w0 rest hrest hrefs hA => ?_
  have hh := hiS_low hrest
  have hl' := loS_low hrest
  have hdr := fun k hk => drop_rest hrest k hk
  have hrn : ∀ (ρ : List (Nat × Nat)) (ids : List Nat), (ids.all fun i => decide (1000000 ≤ i)) = true → rnS 1000000 ρ ids rest = rest := fun ρ ids h => rnS_low h hrest
  have hrn0 : ∀ (ρ : List (Nat × Nat)), rnS 1000000 ρ [] rest = rest := fun ρ => hrn ρ [] rfl
  by_cases hin : i = es.length
  · subst hin
    refine AW.st teOk [] (by simp [-Option.some.injEq] <;> rfl) trivial ?_
    refine AW.st teOk [] (by simp [-Option.some.injEq] <;> rfl) ?_ ?_
    · first | trivial | omega
    refine AW.st teOk [] (by simp [-Option.some.injEq] <;> rfl) trivial ?_
    refine AW.seq ?_
    refine AW.st teOk [] (by simp [-Option.some.injEq] <;> rfl) trivial ?_
    refine AW.iff false (by simp) (fun h => by cases h) (fun _ => AW.skip ?_)
    refine AW.st teOk [] (by simp [-Option.some.injEq] <;> rfl) trivial ?_
    refine AW.seq ?_
    refine AW.st teOk [] (by simp [-Option.some.injEq] <;> rfl) trivial ?_
    refine AW.iff true (by simp) (fun _ => ?_) (fun h => by cases h)
    refine AW.st teOk [] (by simp [hdr, -Option.some.injEq] <;> rfl) ?_ ?_
    · simp [growOk]
      exact ⟨by omega, hx⟩
    have hfx := flat_app hf (flat_one (k := 1) hxf)
    have he : es.take es.length ++ x :: es.drop es.length = es ++ [x] := by rw [List.take_of_length_le (Nat.le_refl _), List.drop_eq_nil_of_le (Nat.le_refl _)]
    rw [he]
    refine AW.ret ⟨.inr rfl, _, Weak.normCS hA hrefs [6] [(6, 1000100)] [] [] 1000101 _ (by simp [hl', hdr]) (by simp) (by simp) (by simp) (by simp [hh, hdr]) (by simp [hh, hdr, hfx]), by simp [normL], by simp [normL, hh, hl', hrn0, hdr], rfl⟩
  have hlt : i < es.length := by omega
  have hlt2 : (i : Int) < es.length := by omega
  have hne : (es.length : Int) ≠ i := by omega
  have hne2 : ((i : Int) == (es.length : Int)) = false := by simp; omega
  refine AW.st teOk [] (by simp [-Option.some.injEq] <;> rfl) trivial ?_
  refine AW.st teOk [] (by simp [hlt2, -Option.some.injEq] <;> rfl) ?_ ?_
  · first | trivial | omega
  refine AW.st teOk [] (by simp [-Option.some.injEq] <;> rfl) trivial ?_
  refine AW.seq ?_
  refine AW.st teOk [] (by simp [-Option.some.injEq] <;> rfl) trivial ?_
  refine AW.iff false (by simp) (fun h => by cases h) (fun _ => AW.skip ?_)
  refine AW.st teOk [] (by simp [-Option.some.injEq] <;> rfl) trivial ?_
  refine AW.seq ?_
  refine AW.st teOk [] (by simp [-Option.some.injEq] <;> rfl) trivial ?_
  refine AW.iff false (by simp; omega) (fun h => by cases h) (fun _ => AW.skip ?_)
  refine AW.to (s2 := ⟨[(0, .c (.ref 1000000 0 es.length)), (1, .c (cI i)), (2, .c (.row 1 true [x])), (7, .c (cI 1)), (8, .c (cI es.length))], [(1000000, ⟨1, es⟩)] ++ rest, 1000020⟩) (Weak.normCS hA hrefs [0, 1, 2, 7, 8] [(0, 1000000)] [] [] 1000020 _ (by simp [hl', hdr]) (by simp) (by simp) (by simp) (by simp [hh, hdr]) (by simp [hh, hdr, hf])) (by simp [normL, hh, hl', hrn0, hdr]) ?_
  refine AW.split 0 (id := 1000000) ⟨1, es⟩ (by simp) (by simp) hf ?_ ?_
  · have hgl := grow_list es zS x i hlt
    dsimp only at hgl
    refine AW.to (s2 := ⟨[(0, .c (.row 1 true es)), (1, .c (cI i)), (2, .c (.row 1 true [x])), (7, .c (cI 1)), (8, .c (cI es.length))], rest, 1000020⟩) (Weak.normCS hA hrefs [0, 1, 2, 7, 8] [] [] [] 1000020 _ (by simp [hl', hdr, mapAt_nil]) (by simp) (by simp) (by simp) (by simp [hh, hdr, mapAt_nil]) (by simp [hh, hdr, mapAt_nil])) (by simp [normL, hh, hl', hrn0, hdr, mapAt_nil]) ?_
    have hn1 : IntKind.i64.wrap ((es.length : Int) + 1) = (es.length : Int) + 1 := wrap_s _ (by omega)
    have hn2 : IntKind.i64.wrap ((es.length : Int) + 1 - (i : Int)) = ((es.length + 1 - i : Nat) : Int) := by rw [IntKind.wrap_i64]; omega
    have hn3 : IntKind.i64.wrap ((i : Int) + 1) = (i : Int) + 1 := wrap_s _ (by omega)
    have hgt : (es.length : Int) + 1 > es.length := by omega
    refine AW.seq ?_
    refine AW.st teOk [] (by simp [hn1, hgt, -Option.some.injEq] <;> rfl) trivial ?_
    refine AW.iff true (by simp) (fun _ => ?_) (fun h => by cases h)
    have hmin : min i es.length = i := by omega
    refine AW.st teOk [] (by simp [hn1, hn2, hdr, -Option.some.injEq] <;> rfl) ?_ ?_
    · simp [growOk]
      omega
    obtain ⟨L0, hL0⟩ : ∃ L0, L0 = es.take i ++ List.replicate (es.length + 1 - i) zS := ⟨_, rfl⟩
    rw [← hL0] at hgl
    have hl0 : L0.length = es.length + 1 := by rw [hL0]; simp; omega
    have hf0 : flatO ⟨1, L0⟩ = true := by
      rw [hL0]
      refine flat_app (flat_take hf i) (flatO_of fun e he => by rw [(List.mem_replicate.1 he).2]; rfl)
    have hk0 : ∀ e ∈ L0, e.length = 1 := fun e he => by
      rw [hL0] at he
      rcases List.mem_append.1 he with he | he
      · exact hk e (List.mem_of_mem_take he)
      · rw [(List.mem_replicate.1 he).2]; rfl
    have hsum : i + (es.length + 1 - i) = es.length + 1 := by omega
    refine AW.to (s2 := ⟨[(0, .c (.row 1 true es)), (1, .c (cI i)), (2, .c (.row 1 true [x])), (7, .c (cI 1)), (8, .c (cI es.length)), (9, .c (.ref 1000021 0 (es.length + 1)))], [(1000021, ⟨1, L0⟩)] ++ rest, 1000022⟩) (Weak.normCS hA hrefs [0, 1, 2, 7, 8, 9] [(9, 1000021)] [] [] 1000022 _ (by simp [hl', hdr]) (by simp) (by simp) (by simp) (by simp [hh, hdr]) (by simp [hh, hdr, ← hL0, hf0])) (by simp [normL, hh, hl', hrn0, hdr, ← hL0, hmin, hsum]) ?_
    have hi1 : (i : Int) < (es.length : Int) + 1 := by omega
    have hi2 : (i : Int) + 1 < (es.length : Int) + 1 := by omega
    have htx : List.take (es.length + 1 - i) [x] = [x] := List.take_of_length_le (by simp; omega)
    have hm1 : min 1 (es.length + 1 - i) = 1 := by omega
    refine AW.st teOk [] (by simp [hi1, hdr, -Option.some.injEq] <;> rfl) ?_ ?_
    · omega
    obtain ⟨L1, hL1⟩ : ∃ L1, L1 = L0.take i ++ [x] ++ L0.drop (i + 1) := ⟨_, rfl⟩
    rw [← hL1] at hgl
    have hl1 : L1.length = es.length + 1 := by rw [hL1]; simp; omega
    have hxf2 := flat_one (k := 1) hxf
    have hf1 : flatO ⟨1, L1⟩ = true := by rw [hL1]; exact flat_app (flat_app (flat_take hf0 i) (flat_one hxf)) (flat_drop hf0 _)
    refine AW.to (s2 := ⟨[(0, .c (.row 1 true es)), (1, .c (cI i)), (2, .c (.row 1 true [x])), (7, .c (cI 1)), (8, .c (cI es.length)), (9, .c (.ref 1000021 0 (es.length + 1)))], [(1000021, ⟨1, L1⟩)] ++ rest, 1000022⟩) (Weak.normCS hA hrefs [0, 1, 2, 7, 8, 9] [(9, 1000021)] [] [] 1000022 _ (by simp [hl', hdr]) (by simp) (by simp) (by simp) (by simp [hh, hdr]) (by simp [hh, hdr, htx, hm1]; exact ⟨flat_take hf0 i, flat_app (flat_one hxf) (flat_drop hf0 _)⟩)) (by simp [normL, hh, hl', hrn0, hdr, htx, hm1, hL1]) ?_
    refine AW.dr mixed teOk [] (by simp [hn3, hi2, hlt2, hdr, -Option.some.injEq] <;> rfl) (by kernel_rfl) (by kernel_rfl) ?_ ?_
    · simp [allP]
      exact ⟨⟨by omega, by omega⟩, hi, by omega, fun e he => hk e (List.mem_of_mem_drop he)⟩
    refine AW.st teOk [] (by simp [hdr, -Option.some.injEq] <;> rfl) trivial ?_
    have hfin : flatO ⟨1, es.take i ++ x :: es.drop i⟩ = true := flat_app (flat_take hf i) (flat_app (flat_one hxf) (flat_drop hf i))
    have hgl2 : L1.take (i + 1) ++ ((es.drop i).take (es.length - i) ++ L1.drop (i + 1 + (es.length - i))) = es.take i ++ x :: es.drop i := by rw [← hgl, List.append_assoc]
    refine AW.ret ⟨.inr rfl, _, Weak.normCS hA hrefs [6] [(6, 1000100)] [] [] 1000101 _ (by simp [hl', hdr]) (by simp) (by simp) (by simp) (by simp [hh, hdr]) (by simp [hh, hdr]; exact ⟨flat_take hf1 _, flat_take (flat_drop hf i) _, flat_drop hf1 _⟩), by simp [normL], by simp [normL, hh, hl', hrn0, hdr]; exact hgl2, rfl⟩
  · have hsl := shift_list es [.any] x i hlt
    dsimp only at hsl
    obtain ⟨L0, hL0⟩ : ∃ L0, L0 = es ++ [[.any]] := ⟨_, rfl⟩
    rw [← hL0] at hsl
    have hl0 : L0.length = es.length + 1 := by rw [hL0]; simp
    have hf0 : flatO ⟨1, L0⟩ = true := by rw [hL0]; exact flat_app hf (flat_one rfl)
    have hk0 : ∀ e ∈ L0, e.length = 1 := fun e he => by
      rw [hL0] at he
      rcases List.mem_append.1 he with he | he
      · exact hk e he
      · rw [List.mem_singleton.1 he]; rfl
    have hne0 : L0 ≠ [] := fun h => by rw [h] at hl0; cases hl0
    refine AW.to (s2 := ⟨[(0, .c (.ref 1000000 0 es.length)), (1, .c (cI i)), (2, .c (.row 1 true [x])), (7, .c (cI 1)), (8, .c (cI es.length))], [(1000000, ⟨1, L0⟩)] ++ rest, 1000020⟩) (Weak.normCS hA hrefs [0, 1, 2, 7, 8] [(0, 1000000)] [] [] 1000020 _ (by simp [hl', hdr]) (by simp) (by simp) (by simp) (by simp [hh, hdr]) (by simp [hh, hdr, ← hL0, hf0])) (by simp [normL, hh, hl', hrn0, hdr, ← hL0]) ?_
    have hn1 : IntKind.i64.wrap ((es.length : Int) + 1) = (es.length : Int) + 1 := wrap_s _ (by omega)
    have hn3 : IntKind.i64.wrap ((i : Int) + 1) = (i : Int) + 1 := wrap_s _ (by omega)
    refine AW.seq ?_
    refine AW.stX teOk (ι := Nat) [] 4 (by simp [hn1, -Option.some.injEq] <;> rfl) trivial rfl rfl (d := 30) rfl (by decide) (fun c => .c (cI c)) (fun c => ⟨[(31, .c (cB false)), (30, .c (cI c)), (29, .c (.ref 1000000 0 es.length)), (28, .c (cI ((es.length : Int) + 1))), (27, .c (cI 1)), (26, .c (cI es.length)), (0, .c (.ref 1000000 0 es.length)), (1, .c (cI i)), (2, .c (.row 1 true [x])), (7, .c (cI 1)), (8, .c (cI es.length))], [(1000000, ⟨1, L0⟩)] ++ rest, 1000025⟩) (fun c => es.length + 1 ≤ c) (fun β a w I => ?_) (fun c hc => ?_) (fun c hc => ?_)
    · exact cap_run' teOk I (.tmp 29) 51 9 rfl rfl rfl (by simp <;> exact ⟨rfl, rfl, rfl⟩) (by simp <;> rfl) hne0 (by rw [hl0]; exact Nat.le_refl _)
    · have hc' : ¬ ((es.length : Int) + 1 > (c : Int)) := by omega
      exact ⟨_, _, by simp [hc', -Option.some.injEq] <;> rfl, by trivial⟩
    refine AW.iff false (by simp) (fun h => by cases h) (fun _ => AW.skip ?_)
    have hi1 : (i : Int) < (es.length : Int) + 1 := by omega
    have hi2 : (i : Int) + 1 < (es.length : Int) + 1 := by omega
    refine AW.st teOk [] (by simp [hn1, hdr, -Option.some.injEq] <;> rfl) ?_ ?_
    · omega
    refine AW.to (s2 := ⟨[(0, .c (.ref 1000000 0 (es.length + 1))), (1, .c (cI i)), (2, .c (.row 1 true [x])), (7, .c (cI 1)), (8, .c (cI es.length))], [(1000000, ⟨1, L0⟩)] ++ rest, 1000020⟩) (Weak.normCS hA hrefs [0, 1, 2, 7, 8] [(0, 1000000)] [] [] 1000020 _ (by simp [hl', hdr]) (by simp) (by simp) (by simp) (by simp [hh, hdr]) (by simp [hh, hdr, hf0])) (by simp [normL, hh, hl', hrn0, hdr]) ?_
    refine AW.seq ?_
    refine AW.stX teOk (ι := Unit) [] 6 (by simp [hn3, hi2, -Option.some.injEq] <;> rfl) ?_ rfl rfl (d := 67) rfl (by decide) (fun _ => .c (cB false)) (fun _ => ⟨[(68, .c (cB true)), (67, .c (cB false)), (66, .c (.ref 1000000 (i + 1) (es.length - i))), (65, .c (cI ((i : Int) + 1))), (64, .c (cI 1)), (63, .c (cI i)), (62, .c (.ref 1000000 0 (es.length + 1))), (61, .c (.row 1 true [x])), (0, .c (.ref 1000000 0 (es.length + 1))), (1, .c (cI i)), (2, .c (.row 1 true [x])), (7, .c (cI 1)), (8, .c (cI es.length))], [(1000000, ⟨1, L0⟩)] ++ rest, 1000027⟩) (fun _ => True) (fun β a w I => ?_) (fun c hc => ?_) (fun c hc => ?_)
    · omega
    · exact over_run' teOk I (.tmp 61) (.tmp 66) 51 4 9 rfl Tryz.func115 (by kernel_rfl) (by kernel_rfl) (by kernel_rfl) (by kernel_rfl) rfl rfl rfl 1 true x [] (by simp) (by decide) ⟨1, L0⟩ (by simp <;> exact ⟨rfl, rfl, rfl⟩) (by simp) hne0 (by show 0 < 1; decide)
    · exact ⟨_, _, by simp [-Option.some.injEq] <;> rfl, by trivial⟩
    refine AW.iff true (by simp) (fun _ => ?_) (fun h => by cases h)
    have hfit : i + (es.length + 1 - i) ≤ L0.length := by omega
    have hmn : min (es.length + 1 - i) (es.length - i) = es.length - i := by omega
    have hmn2 : min (es.length - i) (es.length + 1 - i) = es.length - i := by omega
    have hmn3 : min (es.length + 1 - i) (L0.length - i) = es.length + 1 - i := by omega
    refine AW.dr mixed teOk [] (by simp [hn3, hi1, hi2, hdr, hfit, -Option.some.injEq] <;> rfl) (by kernel_rfl) (by kernel_rfl) ?_ ?_
    · simp [allP]
      exact ⟨⟨by omega, by omega⟩, by omega, by omega, fun e he => hk0 e (List.mem_of_mem_drop (List.mem_of_mem_take he))⟩
    have htt : List.take (es.length - i) (List.take (es.length + 1 - i) (List.drop i L0)) = List.take (es.length - i) (List.drop i L0) := by rw [List.take_take, hmn2]
    have hmm : min (es.length + 1 - i) (min (L0.length - i) (es.length - i)) = es.length - i := by omega
    obtain ⟨L1, hL1⟩ : ∃ L1, L1 = L0.take (i + 1) ++ (L0.drop i).take (es.length - i) ++ L0.drop (i + 1 + (es.length - i)) := ⟨_, rfl⟩
    rw [← hL1] at hsl
    have hl1 : L1.length = es.length + 1 := by rw [hL1]; simp; omega
    have hf1 : flatO ⟨1, L1⟩ = true := by rw [hL1]; exact flat_app (flat_app (flat_take hf0 _) (flat_take (flat_drop hf0 _) _)) (flat_drop hf0 _)
    refine AW.to (s2 := ⟨[(0, .c (.ref 1000000 0 (es.length + 1))), (1, .c (cI i)), (2, .c (.row 1 true [x])), (7, .c (cI 1)), (8, .c (cI es.length))], [(1000000, ⟨1, L1⟩)] ++ rest, 1000020⟩) (Weak.normCS hA hrefs [0, 1, 2, 7, 8] [(0, 1000000)] [] [] 1000020 _ (by simp [hl', hdr]) (by simp) (by simp) (by simp) (by simp [hh, hdr]) (by simp [hh, hdr, htt, hmm]; exact ⟨flat_take hf0 _, flat_take (flat_drop hf0 _) _, flat_drop hf0 _⟩)) (by simp [normL, hh, hl', hrn0, hdr, htt, hmm, hL1]) ?_
    have htx : List.take (es.length + 1 - i) [x] = [x] := List.take_of_length_le (by simp; omega)
    have hm1 : min 1 (es.length + 1 - i) = 1 := by omega
    refine AW.st teOk [] (by simp [hi1, hdr, -Option.some.injEq] <;> rfl) ?_ ?_
    · omega
    refine AW.st teOk [] (by simp [hdr, -Option.some.injEq] <;> rfl) trivial ?_
    refine AW.ret ⟨.inr rfl, _, (Weak.ren 6 1000000 (lo := 0) (m := es.length + 1) (o := ⟨1, es.take i ++ x :: es.drop i⟩) _ (by simp) (by simp [htx, hm1, ← hsl]) (by simp)).trans (Weak.normCS hA hrefs [6] [(6, 1000100)] [] [] 1000101 _ (by simp [hl', hdr]) (by simp) (by simp) (by simp) (by simp [hh, hdr]) (by simp [hh, hdr]; exact ⟨flat_take hf i, flat_app (flat_one hxf) (flat_drop hf i)⟩)), by simp [normL], by simp [normL, hh, hl', hrn0, hdr], rfl⟩
theorem insN_con (es : List (List Cell)) (hf : flatO ⟨1, es⟩ = true) (hk : ∀ e ∈ es, e.length = 1) (i : Nat) (hi : i ≤ es.length) (hl : es.length < 1000000000) (x : List Cell) (hx : x.length = 1) (hxf : x.all frozenC = true) :
    Con Tryz.prog 108 [.c (.ref 1000000 0 es.length), .c (cI i), .c (.row 1 true [x])] [(1000000, ⟨1, es⟩)] 1000020 (.c (.ref 1000100 0 (es.length + 1))) [(1000100, ⟨1, es.take i ++ x :: es.drop i⟩)] 1000101 := by
  refine con_of teOk Tryz.func108 (by kernel_rfl) (c := _) rfl (N := 95) rfl (rs := [Go.ResultVar.tmp 6]) rfl (by simp) fun base A w0 rest hrest hrefs hA => ?_
  have hh := hiS_low hrest
  have hl' := loS_low hrest
  have hdr := fun k hk => drop_rest hrest k hk
  have hrn : ∀ (ρ : List (Nat × Nat)) (ids : List Nat), (ids.all fun i => decide (1000000 ≤ i)) = true → rnS 1000000 ρ ids rest = rest := fun ρ ids h => rnS_low h hrest
  have hrn0 : ∀ (ρ : List (Nat × Nat)), rnS 1000000 ρ [] rest = rest := fun ρ => hrn ρ [] rfl
  by_cases hin : i = es.length
  · subst hin
    refine AW.st teOk [] (by simp [-Option.some.injEq] <;> rfl) trivial ?_
    refine AW.st teOk [] (by simp [-Option.some.injEq] <;> rfl) ?_ ?_
    · first | trivial | omega
    refine AW.st teOk [] (by simp [-Option.some.injEq] <;> rfl) trivial ?_
    refine AW.seq ?_
    refine AW.st teOk [] (by simp [-Option.some.injEq] <;> rfl) trivial ?_
    refine AW.iff false (by simp) (fun h => by cases h) (fun _ => AW.skip ?_)
    refine AW.st teOk [] (by simp [-Option.some.injEq] <;> rfl) trivial ?_
    refine AW.seq ?_
    refine AW.st teOk [] (by simp [-Option.some.injEq] <;> rfl) trivial ?_
    refine AW.iff true (by simp) (fun _ => ?_) (fun h => by cases h)
    refine AW.st teOk [] (by simp [hdr, -Option.some.injEq] <;> rfl) ?_ ?_
    · simp [growOk]
      exact ⟨by omega, hx⟩
    have hfx := flat_app hf (flat_one (k := 1) hxf)
    have he : es.take es.length ++ x :: es.drop es.length = es ++ [x] := by rw [List.take_of_length_le (Nat.le_refl _), List.drop_eq_nil_of_le (Nat.le_refl _)]
    rw [he]
    refine AW.ret ⟨.inr rfl, _, Weak.normCS hA hrefs [6] [(6, 1000100)] [] [] 1000101 _ (by simp [hl', hdr]) (by simp) (by simp) (by simp) (by simp [hh, hdr]) (by simp [hh, hdr, hfx]), by simp [normL], by simp [normL, hh, hl', hrn0, hdr], rfl⟩
  have hlt : i < es.length := by omega
  have hlt2 : (i : Int) < es.length := by omega
  have hne : (es.length : Int) ≠ i := by omega
  have hne2 : ((i : Int) == (es.length : Int)) = false := by simp; omega
  refine AW.st teOk [] (by simp [-Option.some.injEq] <;> rfl) trivial ?_
  refine AW.st teOk [] (by simp [hlt2, -Option.some.injEq] <;> rfl) ?_ ?_
  · first | trivial | omega
  refine AW.st teOk [] (by simp [-Option.some.injEq] <;> rfl) trivial ?_
  refine AW.seq ?_
  refine AW.st teOk [] (by simp [-Option.some.injEq] <;> rfl) trivial ?_
  refine AW.iff false (by simp) (fun h => by cases h) (fun _ => AW.skip ?_)
  refine AW.st teOk [] (by simp [-Option.some.injEq] <;> rfl) trivial ?_
  refine AW.seq ?_
  refine AW.st teOk [] (by simp [-Option.some.injEq] <;> rfl) trivial ?_
  refine AW.iff false (by simp; omega) (fun h => by cases h) (fun _ => AW.skip ?_)
  refine AW.to (s2 := ⟨[(0, .c (.ref 1000000 0 es.length)), (1, .c (cI i)), (2, .c (.row 1 true [x])), (7, .c (cI 1)), (8, .c (cI es.length))], [(1000000, ⟨1, es⟩)] ++ rest, 1000020⟩) (Weak.normCS hA hrefs [0, 1, 2, 7, 8] [(0, 1000000)] [] [] 1000020 _ (by simp [hl', hdr]) (by simp) (by simp) (by simp) (by simp [hh, hdr]) (by simp [hh, hdr, hf])) (by simp [normL, hh, hl', hrn0, hdr]) ?_
  refine AW.split 0 (id := 1000000) ⟨1, es⟩ (by simp) (by simp) hf ?_ ?_
  · have hgl := grow_list es zN x i hlt
    dsimp only at hgl
    refine AW.to (s2 := ⟨[(0, .c (.row 1 true es)), (1, .c (cI i)), (2, .c (.row 1 true [x])), (7, .c (cI 1)), (8, .c (cI es.length))], rest, 1000020⟩) (Weak.normCS hA hrefs [0, 1, 2, 7, 8] [] [] [] 1000020 _ (by simp [hl', hdr, mapAt_nil]) (by simp) (by simp) (by simp) (by simp [hh, hdr, mapAt_nil]) (by simp [hh, hdr, mapAt_nil])) (by simp [normL, hh, hl', hrn0, hdr, mapAt_nil]) ?_
    have hn1 : IntKind.i64.wrap ((es.length : Int) + 1) = (es.length : Int) + 1 := wrap_s _ (by omega)
    have hn2 : IntKind.i64.wrap ((es.length : Int) + 1 - (i : Int)) = ((es.length + 1 - i : Nat) : Int) := by rw [IntKind.wrap_i64]; omega
    have hn3 : IntKind.i64.wrap ((i : Int) + 1) = (i : Int) + 1 := wrap_s _ (by omega)
    have hgt : (es.length : Int) + 1 > es.length := by omega
    refine AW.seq ?_
    refine AW.st teOk [] (by simp [hn1, hgt, -Option.some.injEq] <;> rfl) trivial ?_
    refine AW.iff true (by simp) (fun _ => ?_) (fun h => by cases h)
    have hmin : min i es.length = i := by omega
    refine AW.st teOk [] (by simp [hn1, hn2, hdr, -Option.some.injEq] <;> rfl) ?_ ?_
    · simp [growOk]
      omega
    obtain ⟨L0, hL0⟩ : ∃ L0, L0 = es.take i ++ List.replicate (es.length + 1 - i) zN := ⟨_, rfl⟩
    rw [← hL0] at hgl
    have hl0 : L0.length = es.length + 1 := by rw [hL0]; simp; omega
    have hf0 : flatO ⟨1, L0⟩ = true := by
      rw [hL0]
      refine flat_app (flat_take hf i) (flatO_of fun e he => by rw [(List.mem_replicate.1 he).2]; rfl)
    have hk0 : ∀ e ∈ L0, e.length = 1 := fun e he => by
      rw [hL0] at he
      rcases List.mem_append.1 he with he | he
      · exact hk e (List.mem_of_mem_take he)
      · rw [(List.mem_replicate.1 he).2]; rfl
    have hsum : i + (es.length + 1 - i) = es.length + 1 := by omega
    refine AW.to (s2 := ⟨[(0, .c (.row 1 true es)), (1, .c (cI i)), (2, .c (.row 1 true [x])), (7, .c (cI 1)), (8, .c (cI es.length)), (9, .c (.ref 1000021 0 (es.length + 1)))], [(1000021, ⟨1, L0⟩)] ++ rest, 1000022⟩) (Weak.normCS hA hrefs [0, 1, 2, 7, 8, 9] [(9, 1000021)] [] [] 1000022 _ (by simp [hl', hdr]) (by simp) (by simp) (by simp) (by simp [hh, hdr]) (by simp [hh, hdr, ← hL0, hf0])) (by simp [normL, hh, hl', hrn0, hdr, ← hL0, hmin, hsum]) ?_
    have hi1 : (i : Int) < (es.length : Int) + 1 := by omega
    have hi2 : (i : Int) + 1 < (es.length : Int) + 1 := by omega
    have htx : List.take (es.length + 1 - i) [x] = [x] := List.take_of_length_le (by simp; omega)
    have hm1 : min 1 (es.length + 1 - i) = 1 := by omega
    refine AW.st teOk [] (by simp [hi1, hdr, -Option.some.injEq] <;> rfl) ?_ ?_
    · omega
    obtain ⟨L1, hL1⟩ : ∃ L1, L1 = L0.take i ++ [x] ++ L0.drop (i + 1) := ⟨_, rfl⟩
    rw [← hL1] at hgl
    have hl1 : L1.length = es.length + 1 := by rw [hL1]; simp; omega
    have hxf2 := flat_one (k := 1) hxf
    have hf1 : flatO ⟨1, L1⟩ = true := by rw [hL1]; exact flat_app (flat_app (flat_take hf0 i) (flat_one hxf)) (flat_drop hf0 _)
    refine AW.to (s2 := ⟨[(0, .c (.row 1 true es)), (1, .c (cI i)), (2, .c (.row 1 true [x])), (7, .c (cI 1)), (8, .c (cI es.length)), (9, .c (.ref 1000021 0 (es.length + 1)))], [(1000021, ⟨1, L1⟩)] ++ rest, 1000022⟩) (Weak.normCS hA hrefs [0, 1, 2, 7, 8, 9] [(9, 1000021)] [] [] 1000022 _ (by simp [hl', hdr]) (by simp) (by simp) (by simp) (by simp [hh, hdr]) (by simp [hh, hdr, htx, hm1]; exact ⟨flat_take hf0 i, flat_app (flat_one hxf) (flat_drop hf0 _)⟩)) (by simp [normL, hh, hl', hrn0, hdr, htx, hm1, hL1]) ?_
    refine AW.dr mixed teOk [] (by simp [hn3, hi2, hlt2, hdr, -Option.some.injEq] <;> rfl) (by kernel_rfl) (by kernel_rfl) ?_ ?_
    · simp [allP]
      exact ⟨⟨by omega, by omega⟩, hi, by omega, fun e he => hk e (List.mem_of_mem_drop he)⟩
    refine AW.st teOk [] (by simp [hdr, -Option.some.injEq] <;> rfl) trivial ?_
    have hfin : flatO ⟨1, es.take i ++ x :: es.drop i⟩ = true := flat_app (flat_take hf i) (flat_app (flat_one hxf) (flat_drop hf i))
    have hgl2 : L1.take (i + 1) ++ ((es.drop i).take (es.length - i) ++ L1.drop (i + 1 + (es.length - i))) = es.take i ++ x :: es.drop i := by rw [← hgl, List.append_assoc]
    refine AW.ret ⟨.inr rfl, _, Weak.normCS hA hrefs [6] [(6, 1000100)] [] [] 1000101 _ (by simp [hl', hdr]) (by simp) (by simp) (by simp) (by simp [hh, hdr]) (by simp [hh, hdr]; exact ⟨flat_take hf1 _, flat_take (flat_drop hf i) _, flat_drop hf1 _⟩), by simp [normL], by simp [normL, hh, hl', hrn0, hdr]; exact hgl2, rfl⟩
  · have hsl := shift_list es [.any] x i hlt
    dsimp only at hsl
    obtain ⟨L0, hL0⟩ : ∃ L0, L0 = es ++ [[.any]] := ⟨_, rfl⟩
    rw [← hL0] at hsl
    have hl0 : L0.length = es.length + 1 := by rw [hL0]; simp
    have hf0 : flatO ⟨1, L0⟩ = true := by rw [hL0]; exact flat_app hf (flat_one rfl)
    have hk0 : ∀ e ∈ L0, e.length = 1 := fun e he => by
      rw [hL0] at he
      rcases List.mem_append.1 he with he | he
      · exact hk e he
      · rw [List.mem_singleton.1 he]; rfl
    have hne0 : L0 ≠ [] := fun h => by rw [h] at hl0; cases hl0
    refine AW.to (s2 := ⟨[(0, .c (.ref 1000000 0 es.length)), (1, .c (cI i)), (2, .c (.row 1 true [x])), (7, .c (cI 1)), (8, .c (cI es.length))], [(1000000, ⟨1, L0⟩)] ++ rest, 1000020⟩) (Weak.normCS hA hrefs [0, 1, 2, 7, 8] [(0, 1000000)] [] [] 1000020 _ (by simp [hl', hdr]) (by simp) (by simp) (by simp) (by simp [hh, hdr]) (by simp [hh, hdr, ← hL0, hf0])) (by simp [normL, hh, hl', hrn0, hdr, ← hL0]) ?_
    have hn1 : IntKind.i64.wrap ((es.length : Int) + 1) = (es.length : Int) + 1 := wrap_s _ (by omega)
    have hn3 : IntKind.i64.wrap ((i : Int) + 1) = (i : Int) + 1 := wrap_s _ (by omega)
    refine AW.seq ?_
    refine AW.stX teOk (ι := Nat) [] 4 (by simp [hn1, -Option.some.injEq] <;> rfl) trivial rfl rfl (d := 30) rfl (by decide) (fun c => .c (cI c)) (fun c => ⟨[(31, .c (cB false)), (30, .c (cI c)), (29, .c (.ref 1000000 0 es.length)), (28, .c (cI ((es.length : Int) + 1))), (27, .c (cI 1)), (26, .c (cI es.length)), (0, .c (.ref 1000000 0 es.length)), (1, .c (cI i)), (2, .c (.row 1 true [x])), (7, .c (cI 1)), (8, .c (cI es.length))], [(1000000, ⟨1, L0⟩)] ++ rest, 1000025⟩) (fun c => es.length + 1 ≤ c) (fun β a w I => ?_) (fun c hc => ?_) (fun c hc => ?_)
    · exact cap_run' teOk I (.tmp 29) 22 3 rfl rfl rfl (by simp <;> exact ⟨rfl, rfl, rfl⟩) (by simp <;> rfl) hne0 (by rw [hl0]; exact Nat.le_refl _)
    · have hc' : ¬ ((es.length : Int) + 1 > (c : Int)) := by omega
      exact ⟨_, _, by simp [hc', -Option.some.injEq] <;> rfl, by trivial⟩
    refine AW.iff false (by simp) (fun h => by cases h) (fun _ => AW.skip ?_)
    have hi1 : (i : Int) < (es.length : Int) + 1 := by omega
    have hi2 : (i : Int) + 1 < (es.length : Int) + 1 := by omega
    refine AW.st teOk [] (by simp [hn1, hdr, -Option.some.injEq] <;> rfl) ?_ ?_
    · omega
    refine AW.to (s2 := ⟨[(0, .c (.ref 1000000 0 (es.length + 1))), (1, .c (cI i)), (2, .c (.row 1 true [x])), (7, .c (cI 1)), (8, .c (cI es.length))], [(1000000, ⟨1, L0⟩)] ++ rest, 1000020⟩) (Weak.normCS hA hrefs [0, 1, 2, 7, 8] [(0, 1000000)] [] [] 1000020 _ (by simp [hl', hdr]) (by simp) (by simp) (by simp) (by simp [hh, hdr]) (by simp [hh, hdr, hf0])) (by simp [normL, hh, hl', hrn0, hdr]) ?_
    refine AW.seq ?_
    refine AW.stX teOk (ι := Unit) [] 6 (by simp [hn3, hi2, -Option.some.injEq] <;> rfl) ?_ rfl rfl (d := 67) rfl (by decide) (fun _ => .c (cB false)) (fun _ => ⟨[(68, .c (cB true)), (67, .c (cB false)), (66, .c (.ref 1000000 (i + 1) (es.length - i))), (65, .c (cI ((i : Int) + 1))), (64, .c (cI 1)), (63, .c (cI i)), (62, .c (.ref 1000000 0 (es.length + 1))), (61, .c (.row 1 true [x])), (0, .c (.ref 1000000 0 (es.length + 1))), (1, .c (cI i)), (2, .c (.row 1 true [x])), (7, .c (cI 1)), (8, .c (cI es.length))], [(1000000, ⟨1, L0⟩)] ++ rest, 1000027⟩) (fun _ => True) (fun β a w I => ?_) (fun c hc => ?_) (fun c hc => ?_)
    · omega
    · exact over_run' teOk I (.tmp 61) (.tmp 66) 22 4 3 rfl Tryz.func121 (by kernel_rfl) (by kernel_rfl) (by kernel_rfl) (by kernel_rfl) rfl rfl rfl 1 true x [] (by simp) (by decide) ⟨1, L0⟩ (by simp <;> exact ⟨rfl, rfl, rfl⟩) (by simp) hne0 (by show 0 < 1; decide)
    · exact ⟨_, _, by simp [-Option.some.injEq] <;> rfl, by trivial⟩
    refine AW.iff true (by simp) (fun _ => ?_) (fun h => by cases h)
    have hfit : i + (es.length + 1 - i) ≤ L0.length := by omega
    have hmn : min (es.length + 1 - i) (es.length - i) = es.length - i := by omega
    have hmn2 : min (es.length - i) (es.length + 1 - i) = es.length - i := by omega
    have hmn3 : min (es.length + 1 - i) (L0.length - i) = es.length + 1 - i := by omega
    refine AW.dr mixed teOk [] (by simp [hn3, hi1, hi2, hdr, hfit, -Option.some.injEq] <;> rfl) (by kernel_rfl) (by kernel_rfl) ?_ ?_
    · simp [allP]
      exact ⟨⟨by omega, by omega⟩, by omega, by omega, fun e he => hk0 e (List.mem_of_mem_drop (List.mem_of_mem_take he))⟩
    have htt : List.take (es.length - i) (List.take (es.length + 1 - i) (List.drop i L0)) = List.take (es.length - i) (List.drop i L0) := by rw [List.take_take, hmn2]
    have hmm : min (es.length + 1 - i) (min (L0.length - i) (es.length - i)) = es.length - i := by omega
    obtain ⟨L1, hL1⟩ : ∃ L1, L1 = L0.take (i + 1) ++ (L0.drop i).take (es.length - i) ++ L0.drop (i + 1 + (es.length - i)) := ⟨_, rfl⟩
    rw [← hL1] at hsl
    have hl1 : L1.length = es.length + 1 := by rw [hL1]; simp; omega
    have hf1 : flatO ⟨1, L1⟩ = true := by rw [hL1]; exact flat_app (flat_app (flat_take hf0 _) (flat_take (flat_drop hf0 _) _)) (flat_drop hf0 _)
    refine AW.to (s2 := ⟨[(0, .c (.ref 1000000 0 (es.length + 1))), (1, .c (cI i)), (2, .c (.row 1 true [x])), (7, .c (cI 1)), (8, .c (cI es.length))], [(1000000, ⟨1, L1⟩)] ++ rest, 1000020⟩) (Weak.normCS hA hrefs [0, 1, 2, 7, 8] [(0, 1000000)] [] [] 1000020 _ (by simp [hl', hdr]) (by simp) (by simp) (by simp) (by simp [hh, hdr]) (by simp [hh, hdr, htt, hmm]; exact ⟨flat_take hf0 _, flat_take (flat_drop hf0 _) _, flat_drop hf0 _⟩)) (by simp [normL, hh, hl', hrn0, hdr, htt, hmm, hL1]) ?_
    have htx : List.take (es.length + 1 - i) [x] = [x] := List.take_of_length_le (by simp; omega)
    have hm1 : min 1 (es.length + 1 - i) = 1 := by omega
    refine AW.st teOk [] (by simp [hi1, hdr, -Option.some.injEq] <;> rfl) ?_ ?_
    · omega
    refine AW.st teOk [] (by simp [hdr, -Option.some.injEq] <;> rfl) trivial ?_
    refine AW.ret ⟨.inr rfl, _, (Weak.ren 6 1000000 (lo := 0) (m := es.length + 1) (o := ⟨1, es.take i ++ x :: es.drop i⟩) _ (by simp) (by simp [htx, hm1, ← hsl]) (by simp)).trans (Weak.normCS hA hrefs [6] [(6, 1000100)] [] [] 1000101 _ (by simp [hl', hdr]) (by simp) (by simp) (by simp) (by simp [hh, hdr]) (by simp [hh, hdr]; exact ⟨flat_take hf i, flat_app (flat_one hxf) (flat_drop hf i)⟩)), by simp [normL], by simp [normL, hh, hl', hrn0, hdr], rfl⟩
theorem insH_con (es : List (List Cell)) (hf : flatO ⟨10, es⟩ = true) (hk : ∀ e ∈ es, e.length = 10) (i : Nat) (hi : i ≤ es.length) (hl : es.length < 1000000000) (x : List Cell) (hx : x.length = 10) (hxf : x.all frozenC = true) :
    Con Tryz.prog 85 [.c (.ref 1000000 0 es.length), .c (cI i), .c (.row 10 true [x])] [(1000000, ⟨10, es⟩)] 1000020 (.c (.ref 1000100 0 (es.length + 1))) [(1000100, ⟨10, es.take i ++ x :: es.drop i⟩)] 1000101 := by
  refine con_of teOk Tryz.func85 (by kernel_rfl) (c := _) rfl (N := 95) rfl (rs := [Go.ResultVar.tmp 6]) rfl (by simp) fun base A w0 rest hrest hrefs hA => ?_
  have hh := hiS_low hrest
  have hl' := loS_low hrest
  have hdr := fun k hk => drop_rest hrest k hk
  have hrn : ∀ (ρ : List (Nat × Nat)) (ids : List Nat), (ids.all fun i => decide (1000000 ≤ i)) = true → rnS 1000000 ρ ids rest = rest := fun ρ ids h => rnS_low h hrest
  have hrn0 : ∀ (ρ : List (Nat × Nat)), rnS 1000000 ρ [] rest = rest := fun ρ => hrn ρ [] rfl
  by_cases hin : i = es.length
  · subst hin
    refine AW.st teOk [] (by simp [-Option.some.injEq] <;> rfl) trivial ?_
    refine AW.st teOk [] (by simp [-Option.some.injEq] <;> rfl) ?_ ?_
    · first | trivial | omega
    refine AW.st teOk [] (by simp [-Option.some.injEq] <;> rfl) trivial ?_
    refine AW.seq ?_
    refine AW.st teOk [] (by simp [-Option.some.injEq] <;> rfl) trivial ?_
    refine AW.iff false (by simp) (fun h => by cases h) (fun _ => AW.skip ?_)
    refine AW.st teOk [] (by simp [-Option.some.injEq] <;> rfl) trivial ?_
    refine AW.seq ?_
    refine AW.st teOk [] (by simp [-Option.some.injEq] <;> rfl) trivial ?_
    refine AW.iff true (by simp) (fun _ => ?_) (fun h => by cases h)
    refine AW.st teOk [] (by simp [hdr, -Option.some.injEq] <;> rfl) ?_ ?_
    · simp [growOk]
      exact ⟨by omega, hx⟩
    have hfx := flat_app hf (flat_one (k := 10) hxf)
    have he : es.take es.length ++ x :: es.drop es.length = es ++ [x] := by rw [List.take_of_length_le (Nat.le_refl _), List.drop_eq_nil_of_le (Nat.le_refl _)]
    rw [he]
    refine AW.ret ⟨.inr rfl, _, Weak.normCS hA hrefs [6] [(6, 1000100)] [] [] 1000101 _ (by simp [hl', hdr]) (by simp) (by simp) (by simp) (by simp [hh, hdr]) (by simp [hh, hdr, hfx]), by simp [normL], by simp [normL, hh, hl', hrn0, hdr], rfl⟩
  have hlt : i < es.length := by omega
  have hlt2 : (i : Int) < es.length := by omega
  have hne : (es.length : Int) ≠ i := by omega
  have hne2 : ((i : Int) == (es.length : Int)) = false := by simp; omega
  refine AW.st teOk [] (by simp [-Option.some.injEq] <;> rfl) trivial ?_
  refine AW.st teOk [] (by simp [hlt2, -Option.some.injEq] <;> rfl) ?_ ?_
  · first | trivial | omega
  refine AW.st teOk [] (by simp [-Option.some.injEq] <;> rfl) trivial ?_
  refine AW.seq ?_
  refine AW.st teOk [] (by simp [-Option.some.injEq] <;> rfl) trivial ?_
  refine AW.iff false (by simp) (fun h => by cases h) (fun _ => AW.skip ?_)
  refine AW.st teOk [] (by simp [-Option.some.injEq] <;> rfl) trivial ?_
  refine AW.seq ?_
  refine AW.st teOk [] (by simp [-Option.some.injEq] <;> rfl) trivial ?_
  refine AW.iff false (by simp; omega) (fun h => by cases h) (fun _ => AW.skip ?_)
  refine AW.to (s2 := ⟨[(0, .c (.ref 1000000 0 es.length)), (1, .c (cI i)), (2, .c (.row 10 true [x])), (7, .c (cI 1)), (8, .c (cI es.length))], [(1000000, ⟨10, es⟩)] ++ rest, 1000020⟩) (Weak.normCS hA hrefs [0, 1, 2, 7, 8] [(0, 1000000)] [] [] 1000020 _ (by simp [hl', hdr]) (by simp) (by simp) (by simp) (by simp [hh, hdr]) (by simp [hh, hdr, hf])) (by simp [normL, hh, hl', hrn0, hdr]) ?_
  refine AW.split 0 (id := 1000000) ⟨10, es⟩ (by simp) (by simp) hf ?_ ?_
  · have hgl := grow_list es zH x i hlt
    dsimp only at hgl
    refine AW.to (s2 := ⟨[(0, .c (.row 10 true es)), (1, .c (cI i)), (2, .c (.row 10 true [x])), (7, .c (cI 1)), (8, .c (cI es.length))], rest, 1000020⟩) (Weak.normCS hA hrefs [0, 1, 2, 7, 8] [] [] [] 1000020 _ (by simp [hl', hdr, mapAt_nil]) (by simp) (by simp) (by simp) (by simp [hh, hdr, mapAt_nil]) (by simp [hh, hdr, mapAt_nil])) (by simp [normL, hh, hl', hrn0, hdr, mapAt_nil]) ?_
    have hn1 : IntKind.i64.wrap ((es.length : Int) + 1) = (es.length : Int) + 1 := wrap_s _ (by omega)
    have hn2 : IntKind.i64.wrap ((es.length : Int) + 1 - (i : Int)) = ((es.length + 1 - i : Nat) : Int) := by rw [IntKind.wrap_i64]; omega
    have hn3 : IntKind.i64.wrap ((i : Int) + 1) = (i : Int) + 1 := wrap_s _ (by omega)
    have hgt : (es.length : Int) + 1 > es.length := by omega
    refine AW.seq ?_
    refine AW.st teOk [] (by simp [hn1, hgt, -Option.some.injEq] <;> rfl) trivial ?_
    refine AW.iff true (by simp) (fun _ => ?_) (fun h => by cases h)
    have hmin : min i es.length = i := by omega
    refine AW.st teOk [] (by simp [hn1, hn2, hdr, -Option.some.injEq] <;> rfl) ?_ ?_
    · simp [growOk]
      omega
    obtain ⟨L0, hL0⟩ : ∃ L0, L0 = es.take i ++ List.replicate (es.length + 1 - i) zH := ⟨_, rfl⟩
    rw [← hL0] at hgl
    have hl0 : L0.length = es.length + 1 := by rw [hL0]; simp; omega
    have hf0 : flatO ⟨10, L0⟩ = true := by
      rw [hL0]
      refine flat_app (flat_take hf i) (flatO_of fun e he => by rw [(List.mem_replicate.1 he).2]; rfl)
    have hk0 : ∀ e ∈ L0, e.length = 10 := fun e he => by
      rw [hL0] at he
      rcases List.mem_append.1 he with he | he
      · exact hk e (List.mem_of_mem_take he)
      · rw [(List.mem_replicate.1 he).2]; rfl
    have hsum : i + (es.length + 1 - i) = es.length + 1 := by omega
    refine AW.to (s2 := ⟨[(0, .c (.row 10 true es)), (1, .c (cI i)), (2, .c (.row 10 true [x])), (7, .c (cI 1)), (8, .c (cI es.length)), (9, .c (.ref 1000021 0 (es.length + 1)))], [(1000021, ⟨10, L0⟩)] ++ rest, 1000022⟩) (Weak.normCS hA hrefs [0, 1, 2, 7, 8, 9] [(9, 1000021)] [] [] 1000022 _ (by simp [hl', hdr]) (by simp) (by simp) (by simp) (by simp [hh, hdr]) (by simp [hh, hdr, ← hL0, hf0])) (by simp [normL, hh, hl', hrn0, hdr, ← hL0, hmin, hsum]) ?_
    have hi1 : (i : Int) < (es.length : Int) + 1 := by omega
    have hi2 : (i : Int) + 1 < (es.length : Int) + 1 := by omega
    have htx : List.take (es.length + 1 - i) [x] = [x] := List.take_of_length_le (by simp; omega)
    have hm1 : min 1 (es.length + 1 - i) = 1 := by omega
    refine AW.st teOk [] (by simp [hi1, hdr, -Option.some.injEq] <;> rfl) ?_ ?_
    · omega
    obtain ⟨L1, hL1⟩ : ∃ L1, L1 = L0.take i ++ [x] ++ L0.drop (i + 1) := ⟨_, rfl⟩
    rw [← hL1] at hgl
    have hl1 : L1.length = es.length + 1 := by rw [hL1]; simp; omega
    have hxf2 := flat_one (k := 10) hxf
    have hf1 : flatO ⟨10, L1⟩ = true := by rw [hL1]; exact flat_app (flat_app (flat_take hf0 i) (flat_one hxf)) (flat_drop hf0 _)
    refine AW.to (s2 := ⟨[(0, .c (.row 10 true es)), (1, .c (cI i)), (2, .c (.row 10 true [x])), (7, .c (cI 1)), (8, .c (cI es.length)), (9, .c (.ref 1000021 0 (es.length + 1)))], [(1000021, ⟨10, L1⟩)] ++ rest, 1000022⟩) (Weak.normCS hA hrefs [0, 1, 2, 7, 8, 9] [(9, 1000021)] [] [] 1000022 _ (by simp [hl', hdr]) (by simp) (by simp) (by simp) (by simp [hh, hdr]) (by simp [hh, hdr, htx, hm1]; exact ⟨flat_take hf0 i, flat_app (flat_one hxf) (flat_drop hf0 _)⟩)) (by simp [normL, hh, hl', hrn0, hdr, htx, hm1, hL1]) ?_
    refine AW.dr mixed teOk [] (by simp [hn3, hi2, hlt2, hdr, -Option.some.injEq] <;> rfl) (by kernel_rfl) (by kernel_rfl) ?_ ?_
    · simp [allP]
      exact ⟨⟨by omega, by omega⟩, hi, by omega, fun e he => hk e (List.mem_of_mem_drop he)⟩
    refine AW.st teOk [] (by simp [hdr, -Option.some.injEq] <;> rfl) trivial ?_
    have hfin : flatO ⟨10, es.take i ++ x :: es.drop i⟩ = true := flat_app (flat_take hf i) (flat_app (flat_one hxf) (flat_drop hf i))
    have hgl2 : L1.take (i + 1) ++ ((es.drop i).take (es.length - i) ++ L1.drop (i + 1 + (es.length - i))) = es.take i ++ x :: es.drop i := by rw [← hgl, List.append_assoc]
    refine AW.ret ⟨.inr rfl, _, Weak.normCS hA hrefs [6] [(6, 1000100)] [] [] 1000101 _ (by simp [hl', hdr]) (by simp) (by simp) (by simp) (by simp [hh, hdr]) (by simp [hh, hdr]; exact ⟨flat_take hf1 _, flat_take (flat_drop hf i) _, flat_drop hf1 _⟩), by simp [normL], by simp [normL, hh, hl', hrn0, hdr]; exact hgl2, rfl⟩
  · have hsl := shift_list es [.any, .any, .any, .any, .any, .any, .any, .any, .any, .any] x i hlt
    dsimp only at hsl
    obtain ⟨L0, hL0⟩ : ∃ L0, L0 = es ++ [[.any, .any, .any, .any, .any, .any, .any, .any, .any, .any]] := ⟨_, rfl⟩
    rw [← hL0] at hsl
    have hl0 : L0.length = es.length + 1 := by rw [hL0]; simp
    have hf0 : flatO ⟨10, L0⟩ = true := by rw [hL0]; exact flat_app hf (flat_one rfl)
    have hk0 : ∀ e ∈ L0, e.length = 10 := fun e he => by
      rw [hL0] at he
      rcases List.mem_append.1 he with he | he
      · exact hk e he
      · rw [List.mem_singleton.1 he]; rfl
    have hne0 : L0 ≠ [] := fun h => by rw [h] at hl0; cases hl0
    refine AW.to (s2 := ⟨[(0, .c (.ref 1000000 0 es.length)), (1, .c (cI i)), (2, .c (.row 10 true [x])), (7, .c (cI 1)), (8, .c (cI es.length))], [(1000000, ⟨10, L0⟩)] ++ rest, 1000020⟩) (Weak.normCS hA hrefs [0, 1, 2, 7, 8] [(0, 1000000)] [] [] 1000020 _ (by simp [hl', hdr]) (by simp) (by simp) (by simp) (by simp [hh, hdr]) (by simp [hh, hdr, ← hL0, hf0])) (by simp [normL, hh, hl', hrn0, hdr, ← hL0]) ?_
    have hn1 : IntKind.i64.wrap ((es.length : Int) + 1) = (es.length : Int) + 1 := wrap_s _ (by omega)
    have hn3 : IntKind.i64.wrap ((i : Int) + 1) = (i : Int) + 1 := wrap_s _ (by omega)
    refine AW.seq ?_
    refine AW.stX teOk (ι := Nat) [] 4 (by simp [hn1, -Option.some.injEq] <;> rfl) trivial rfl rfl (d := 30) rfl (by decide) (fun c => .c (cI c)) (fun c => ⟨[(31, .c (cB false)), (30, .c (cI c)), (29, .c (.ref 1000000 0 es.length)), (28, .c (cI ((es.length : Int) + 1))), (27, .c (cI 1)), (26, .c (cI es.length)), (0, .c (.ref 1000000 0 es.length)), (1, .c (cI i)), (2, .c (.row 10 true [x])), (7, .c (cI 1)), (8, .c (cI es.length))], [(1000000, ⟨10, L0⟩)] ++ rest, 1000025⟩) (fun c => es.length + 1 ≤ c) (fun β a w I => ?_) (fun c hc => ?_) (fun c hc => ?_)
    · exact cap_run' teOk I (.tmp 29) 37 53 rfl rfl rfl (by simp <;> exact ⟨rfl, rfl, rfl⟩) (by simp <;> rfl) hne0 (by rw [hl0]; exact Nat.le_refl _)
    · have hc' : ¬ ((es.length : Int) + 1 > (c : Int)) := by omega
      exact ⟨_, _, by simp [hc', -Option.some.injEq] <;> rfl, by trivial⟩
    refine AW.iff false (by simp) (fun h => by cases h) (fun _ => AW.skip ?_)
    have hi1 : (i : Int) < (es.length : Int) + 1 := by omega
    have hi2 : (i : Int) + 1 < (es.length : Int) + 1 := by omega
    refine AW.st teOk [] (by simp [hn1, hdr, -Option.some.injEq] <;> rfl) ?_ ?_
    · omega
    refine AW.to (s2 := ⟨[(0, .c (.ref 1000000 0 (es.length + 1))), (1, .c (cI i)), (2, .c (.row 10 true [x])), (7, .c (cI 1)), (8, .c (cI es.length))], [(1000000, ⟨10, L0⟩)] ++ rest, 1000020⟩) (Weak.normCS hA hrefs [0, 1, 2, 7, 8] [(0, 1000000)] [] [] 1000020 _ (by simp [hl', hdr]) (by simp) (by simp) (by simp) (by simp [hh, hdr]) (by simp [hh, hdr, hf0])) (by simp [normL, hh, hl', hrn0, hdr]) ?_
    refine AW.seq ?_
    refine AW.stX teOk (ι := Unit) [] 6 (by simp [hn3, hi2, -Option.some.injEq] <;> rfl) ?_ rfl rfl (d := 67) rfl (by decide) (fun _ => .c (cB false)) (fun _ => ⟨[(68, .c (cB true)), (67, .c (cB false)), (66, .c (.ref 1000000 (i + 1) (es.length - i))), (65, .c (cI ((i : Int) + 1))), (64, .c (cI 1)), (63, .c (cI i)), (62, .c (.ref 1000000 0 (es.length + 1))), (61, .c (.row 10 true [x])), (0, .c (.ref 1000000 0 (es.length + 1))), (1, .c (cI i)), (2, .c (.row 10 true [x])), (7, .c (cI 1)), (8, .c (cI es.length))], [(1000000, ⟨10, L0⟩)] ++ rest, 1000027⟩) (fun _ => True) (fun β a w I => ?_) (fun c hc => ?_) (fun c hc => ?_)
    · omega
    · exact over_run' teOk I (.tmp 61) (.tmp 66) 37 4 53 rfl Tryz.func111 (by kernel_rfl) (by kernel_rfl) (by kernel_rfl) (by kernel_rfl) rfl rfl rfl 10 true x [] (by simp) (by decide) ⟨10, L0⟩ (by simp <;> exact ⟨rfl, rfl, rfl⟩) (by simp) hne0 (by show 0 < 10; decide)
    · exact ⟨_, _, by simp [-Option.some.injEq] <;> rfl, by trivial⟩
    refine AW.iff true (by simp) (fun _ => ?_) (fun h => by cases h)
    have hfit : i + (es.length + 1 - i) ≤ L0.length := by omega
    have hmn : min (es.length + 1 - i) (es.length - i) = es.length - i := by omega
    have hmn2 : min (es.length - i) (es.length + 1 - i) = es.length - i := by omega
    have hmn3 : min (es.length + 1 - i) (L0.length - i) = es.length + 1 - i := by omega
    refine AW.dr mixed teOk [] (by simp [hn3, hi1, hi2, hdr, hfit, -Option.some.injEq] <;> rfl) (by kernel_rfl) (by kernel_rfl) ?_ ?_
    · simp [allP]
      exact ⟨⟨by omega, by omega⟩, by omega, by omega, fun e he => hk0 e (List.mem_of_mem_drop (List.mem_of_mem_take he))⟩
    have htt : List.take (es.length - i) (List.take (es.length + 1 - i) (List.drop i L0)) = List.take (es.length - i) (List.drop i L0) := by rw [List.take_take, hmn2]
    have hmm : min (es.length + 1 - i) (min (L0.length - i) (es.length - i)) = es.length - i := by omega
    obtain ⟨L1, hL1⟩ : ∃ L1, L1 = L0.take (i + 1) ++ (L0.drop i).take (es.length - i) ++ L0.drop (i + 1 + (es.length - i)) := ⟨_, rfl⟩
    rw [← hL1] at hsl
    have hl1 : L1.length = es.length + 1 := by rw [hL1]; simp; omega
    have hf1 : flatO ⟨10, L1⟩ = true := by rw [hL1]; exact flat_app (flat_app (flat_take hf0 _) (flat_take (flat_drop hf0 _) _)) (flat_drop hf0 _)
    refine AW.to (s2 := ⟨[(0, .c (.ref 1000000 0 (es.length + 1))), (1, .c (cI i)), (2, .c (.row 10 true [x])), (7, .c (cI 1)), (8, .c (cI es.length))], [(1000000, ⟨10, L1⟩)] ++ rest, 1000020⟩) (Weak.normCS hA hrefs [0, 1, 2, 7, 8] [(0, 1000000)] [] [] 1000020 _ (by simp [hl', hdr]) (by simp) (by simp) (by simp) (by simp [hh, hdr]) (by simp [hh, hdr, htt, hmm]; exact ⟨flat_take hf0 _, flat_take (flat_drop hf0 _) _, flat_drop hf0 _⟩)) (by simp [normL, hh, hl', hrn0, hdr, htt, hmm, hL1]) ?_
    have htx : List.take (es.length + 1 - i) [x] = [x] := List.take_of_length_le (by simp; omega)
    have hm1 : min 1 (es.length + 1 - i) = 1 := by omega
    refine AW.st teOk [] (by simp [hi1, hdr, -Option.some.injEq] <;> rfl) ?_ ?_
    · omega
    refine AW.st teOk [] (by simp [hdr, -Option.some.injEq] <;> rfl) trivial ?_
    refine AW.ret ⟨.inr rfl, _, (Weak.ren 6 1000000 (lo := 0) (m := es.length + 1) (o := ⟨10, es.take i ++ x :: es.drop i⟩) _ (by simp) (by simp [htx, hm1, ← hsl]) (by simp)).trans (Weak.normCS hA hrefs [6] [(6, 1000100)] [] [] 1000101 _ (by simp [hl', hdr]) (by simp) (by simp) (by simp) (by simp [hh, hdr]) (by simp [hh, hdr]; exact ⟨flat_take hf i, flat_app (flat_one hxf) (flat_drop hf i)⟩)), by simp [normL], by simp [normL, hh, hl', hrn0, hdr], rfl⟩
end Go.Proofs.YtphlhadgcfndhaaGreat.Abs
end
