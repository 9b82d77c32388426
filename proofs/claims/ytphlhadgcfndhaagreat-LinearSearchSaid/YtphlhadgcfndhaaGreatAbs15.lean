/- A region whose order is drawn: one evaluation in the text's order tells all orders. -/
import Derived.Test.YtphlhadgcfndhaaGreatAbs14
namespace Go.Proofs.YtphlhadgcfndhaaGreat.Abs
open Go Go.RowKit
set_option linter.unusedVariables false
set_option linter.unusedSimpArgs false

theorem selτ_false : ∀ (R : List Rec) (k : Nat) (τ : Tau), selτ (fun _ => false) k R τ = τ
  | [], _, _ => rfl
  | r :: R, k, τ => by rw [selτ, if_neg (by simp)]; exact selτ_false R _ _
theorem selσ_false : ∀ (R : List Rec) (k : Nat) (σ : Sig), selσ (fun _ => false) k R σ = σ
  | [], _, _ => rfl
  | r :: R, k, σ => by rw [selσ, if_neg (by simp)]; exact selσ_false R _ _
theorem selτ_shift (b : Nat → Bool) : ∀ (R : List Rec) (k : Nat) (τ : Tau), selτ b (k + 1) R τ = selτ (fun j => b (j + 1)) k R τ
  | [], _, _ => rfl
  | r :: R, k, τ => by rw [selτ, selτ, selτ_shift b R]
theorem selσ_shift (b : Nat → Bool) : ∀ (R : List Rec) (k : Nat) (σ : Sig), selσ b (k + 1) R σ = selσ (fun j => b (j + 1)) k R σ
  | [], _, _ => rfl
  | r :: R, k, σ => by rw [selσ, selσ, selσ_shift b R]
theorem lt_zero_false : (fun j : Nat => decide (j < 0)) = fun _ => false := by funext j; simp
theorem lt_succ_shift (i : Nat) : (fun j : Nat => decide (j + 1 < i + 1)) = fun j => decide (j < i) := by funext j; simp
theorem evU_fr {T : TyEnv} {C : FuncId → List AVal → AVal → Prop} {n : Nat} {ops : Array Oper} {o : Oper} {τ : Tau} {σ : Sig} {fr fr' : Nat} {ans ans' : List AVal} {u : UE} {p : Prop} (h : evU T C n ops o τ σ fr ans = some (u, ans', p, fr')) : (fr' = fr ∨ fr' = fr + 1) ∧ u.d = o.dst := by
  unfold evU at h
  split at h
  case isFalse => cases h
  split at h
  · cases h
  · cases h; exact ⟨.inl rfl, rfl⟩
  · split at h
    · cases h
    · split at h
      case isFalse => cases h
      split at h
      case h_2 => cases h
      split at h
      · split at h
        case isFalse => cases h
        cases h
        exact ⟨.inr rfl, rfl⟩
      split at h
      · cases h
        exact ⟨.inr rfl, rfl⟩
      split at h
      · split at h
        · cases h
          exact ⟨.inr rfl, rfl⟩
        · split at h
          case isFalse => cases h
          cases h
          exact ⟨.inr rfl, rfl⟩
      split at h
      · cases h
        exact ⟨.inl rfl, rfl⟩
      · split at h
        case isFalse => cases h
        cases h
        exact ⟨.inl rfl, rfl⟩
    · cases h
      exact ⟨.inr rfl, UE.of_d _ _ _ _⟩
theorem evUs_up {T : TyEnv} {C : FuncId → List AVal → AVal → Prop} {n : Nat} {ops : Array Oper} : ∀ (l : List Oper) (τ : Tau) (σ : Sig) (fr : Nat) (ans : List AVal) (R : List Rec), evUs T C n ops l τ σ fr ans = some R → ∀ (j : Nat) (r : Rec), R[j]? = some r → r.fr ≤ fr + j
  | [], τ, σ, fr, ans, R, h, j, r, hr => by
    unfold evUs at h
    cases h
    simp at hr
  | o :: l, τ, σ, fr, ans, R, h, j, r, hr => by
    unfold evUs at h
    split at h
    · cases h
    · rename_i u ans' p fr' hu
      have hf := (evU_fr hu).1
      split at h
      · cases h
      · rename_i R' hR'
        cases h
        cases j with
        | zero =>
          cases hr
          exact Nat.le_refl _
        | succ j =>
          have := evUs_up l _ _ _ _ R' hR' j r (by simpa using hr)
          omega
theorem evUs_at {T : TyEnv} {C : FuncId → List AVal → AVal → Prop} {n : Nat} {ops : Array Oper} : ∀ (l : List Oper) (τ : Tau) (σ : Sig) (fr : Nat) (ans : List AVal) (R : List Rec), evUs T C n ops l τ σ fr ans = some R →
    R.length = l.length ∧ (∀ (i : Nat) (o : Oper) (r : Rec), l[i]? = some o → R[i]? = some r → evU T C n ops o (selτ (fun j => decide (j < i)) 0 R τ) (selσ (fun j => decide (j < i)) 0 R σ) r.fr r.ans = some (r.u, r.ans', r.p, r.fr') ∧ fr ≤ r.fr) ∧
      ∀ (i j : Nat) (r q : Rec), i < j → R[i]? = some r → R[j]? = some q → r.fr' ≤ q.fr
  | [], τ, σ, fr, ans, R, h => by
    cases h
    exact ⟨rfl, fun i o r h => by simp at h, fun i j r q _ h => by simp at h⟩
  | o :: l, τ, σ, fr, ans, R, h => by
    unfold evUs at h
    split at h
    case h_1 => cases h
    rename_i u ans' p fr' hu
    split at h
    case h_1 => cases h
    rename_i R' hR
    cases h
    obtain ⟨h1, h2, h3⟩ := evUs_at l _ _ fr' ans' R' hR
    have hfr := (evU_fr hu).1
    refine ⟨by simp [h1], fun i o' r ho hr => ?_, fun i j r q hij hr hq => ?_⟩
    · cases i with
      | zero =>
        simp at ho hr
        subst ho hr
        rw [lt_zero_false, selτ_false, selσ_false]
        exact ⟨hu, Nat.le_refl _⟩
      | succ i =>
        obtain ⟨g1, g2⟩ := h2 i o' r (by simpa using ho) (by simpa using hr)
        rw [selτ, selσ, if_pos (by simp), if_pos (by simp), selτ_shift, selσ_shift, lt_succ_shift]
        exact ⟨g1, by omega⟩
    · cases j with
      | zero => omega
      | succ j =>
        have hq' : R'[j]? = some q := by simpa using hq
        cases i with
        | zero =>
          simp at hr
          subst hr
          have hj : j < l.length := by rw [← h1]; exact (List.getElem?_eq_some_iff.1 hq').1
          exact (h2 j _ q (List.getElem?_eq_getElem hj) hq').2
        | succ i => exact h3 i j r q (by omega) (by simpa using hr) hq'
/-- Do two operations touch one place? -/
def confl (ops : Array Oper) (o : Oper) (r : Rec) (o' : Oper) (r' : Rec) : Bool :=
  (match r'.u.d with | some d => (o.looksAt ops).contains d | none => false) || (match r.u.d with | some d => (o'.looksAt ops).contains d | none => false) ||
  (match r.u.d with | some d => r'.u.d == some d | none => false) || r'.u.wids.any (fun x => r.u.rd.contains x || r.u.wids.contains x) || r.u.wids.any (fun x => r'.u.rd.contains x)
def chkPair (ops : Array Oper) (D : List (List Nat)) (l : List Oper) (R : List Rec) (i j : Nat) : Bool :=
  match l[i]?, R[i]?, l[j]?, R[j]? with
  | some o, some r, some o', some r' => !(confl ops o r o' r' || confl ops o' r' o r) || (D.getD j []).contains i
  | _, _, _, _ => true
def chkAll (ops : Array Oper) (D : List (List Nat)) (l : List Oper) (R : List Rec) : Bool :=
  (List.range R.length).all fun j => (List.range j).all fun i => chkPair ops D l R i j
theorem chk_dep {ops : Array Oper} {R : List Rec} (hl : R.length = ops.toList.length) (h : chkAll ops (depTab ops) ops.toList R = true) {i j : Nat} (hij : i < j) {o o' : Oper} {r r' : Rec} (ho : ops[i]? = some o) (hr : R[i]? = some r) (ho' : ops[j]? = some o') (hr' : R[j]? = some r') (hc : (confl ops o r o' r' || confl ops o' r' o r) = true) : Dep ops j i := by
  unfold chkAll at h
  rw [List.all_eq_true] at h
  have h1 := h j (List.mem_range.2 (List.getElem?_eq_some_iff.1 hr').1)
  rw [List.all_eq_true] at h1
  have h2 := h1 i (List.mem_range.2 hij)
  unfold chkPair at h2
  rw [show ops.toList[i]? = some o from by rw [Array.getElem?_toList]; exact ho, hr, show ops.toList[j]? = some o' from by rw [Array.getElem?_toList]; exact ho', hr'] at h2
  simp only [hc, Bool.not_true, Bool.false_or] at h2
  rw [List.getD_eq_getElem?_getD] at h2
  cases hD : (depTab ops)[j]? with
  | none => rw [hD] at h2; simp at h2
  | some l =>
    rw [hD] at h2
    exact depTab_sound hD (by simpa using h2)
/-- Places that an operation looks at or writes: who else writes there, is ordered. -/
theorem ordered {ops : Array Oper} {R : List Rec} (hl : R.length = ops.toList.length) (h : chkAll ops (depTab ops) ops.toList R = true) {b : Nat → Bool} (hc : ClosedL ops b) {i : Nat} {o : Oper} {r : Rec} (ho : ops[i]? = some o) (hr : R[i]? = some r) (hb : b i = false) (hready : ∀ e ∈ o.after.toList, Region.binds .any e = true → b e.on = true)
    {j : Nat} {o' : Oper} {r' : Rec} (ho' : ops[j]? = some o') (hr' : R[j]? = some r') (hji : j ≠ i) (hcf : (confl ops o r o' r' || confl ops o' r' o r) = true) : b j = decide (j < i) := by
  have h1 := hcf
  have h2 : (confl ops o' r' o r || confl ops o r o' r') = true := by rw [Bool.or_comm]; exact h1
  by_cases hlt : j < i
  · rw [decide_eq_true hlt]
    exact (chk_dep hl h hlt ho' hr' ho hr h2).listed hc fun o2 ho2 => by
      rw [ho] at ho2
      cases ho2
      exact hready
  · rw [decide_eq_false hlt]
    have hgt : i < j := by omega
    cases hbj : b j with
    | false => rfl
    | true =>
      have := (chk_dep hl h hgt ho hr ho' hr' h1).listed hc fun o2 ho2 => by
        intro e he hbn
        exact hc j o2 ho2 hbj e he hbn
      rw [hb] at this
      cases this
def endSt : List Rec → St → St
  | [], s => s
  | r :: R, s => endSt R ⟨r.u.τ s.τ, r.u.σ s.σ, r.fr'⟩
theorem endSt_τ : ∀ (R : List Rec) (k : Nat) (s : St), (endSt R s).τ = selτ (fun _ => true) k R s.τ ∧ (endSt R s).σ = selσ (fun _ => true) k R s.σ
  | [], _, _ => ⟨rfl, rfl⟩
  | r :: R, k, s => by
    rw [endSt, selτ, selσ, if_pos rfl, if_pos rfl]
    exact endSt_τ R (k + 1) _
theorem endSt_fr : ∀ (R : List Rec) (s : St), (∀ (i j : Nat) (r q : Rec), i < j → R[i]? = some r → R[j]? = some q → r.fr' ≤ q.fr) → (∀ (i : Nat) (r : Rec), R[i]? = some r → s.fr ≤ r.fr ∧ r.fr ≤ r.fr') → s.fr ≤ (endSt R s).fr ∧ ∀ (i : Nat) (r : Rec), R[i]? = some r → r.fr' ≤ (endSt R s).fr
  | [], s, _, _ => ⟨Nat.le_refl _, fun i r h => by simp at h⟩
  | r :: R, s, h, hs => by
    obtain ⟨g0, g00⟩ := hs 0 r rfl
    obtain ⟨h1, h2⟩ := endSt_fr R ⟨r.u.τ s.τ, r.u.σ s.σ, r.fr'⟩ (fun i j r' q hij hr hq => h (i + 1) (j + 1) r' q (by omega) (by simpa using hr) (by simpa using hq)) (fun i q hq => ⟨h 0 (i + 1) r q (by omega) rfl (by simpa using hq), (hs (i + 1) q (by simpa using hq)).2⟩)
    rw [endSt]
    refine ⟨by have : r.fr' ≤ _ := h1; omega, fun i q hq => ?_⟩
    cases i with
    | zero =>
      simp at hq
      subst hq
      exact h1
    | succ i => exact h2 i q (by simpa using hq)
end Go.Proofs.YtphlhadgcfndhaaGreat.Abs
