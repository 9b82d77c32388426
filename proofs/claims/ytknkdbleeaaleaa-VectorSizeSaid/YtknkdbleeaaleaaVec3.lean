/- The sanity check, and the check of what came in. -/
import Derived.Test.YtknkdbleeaaleaaVec2
namespace Go.Proofs.Ytknkdbleeaaleaa.Pure
open Go.RowKit Go.Proofs.Ytknkdbleeaaleaa.Print Go.Proofs.YtknkdbleeaaleaaW.PrintWords Go.Proofs.YtknkdbleeaaleaaW.PrintLast Go.Proofs.YtknkdbleeaaleaaW.PrintMore

def awA : List S69 := [⟨1, 2⟩, ⟨3, 1⟩]
def awB : List S69 := [⟨1, 1⟩, ⟨2, 5⟩]
theorem awA_val : Val awA := (vvs_zero _).1 (by decide)
theorem awB_val : Val awB := (vvs_zero _).1 (by decide)
theorem awJ : mrg true awA awB = [⟨1, 2⟩, ⟨2, 5⟩, ⟨3, 1⟩] := by simp [awA, awB, mrg, putE, bnd, mx]
theorem awM : mrg false awA awB = [⟨1, 1⟩] := by simp [awA, awB, mrg, putE, bnd, mn]
theorem awJ_val : Val (mrg true awA awB) := (mrg_is true awA_val awB_val).val
theorem awM_val : Val (mrg false awA awB) := (mrg_is false awA_val awB_val).val
theorem awake_is : Ev (fun k => elasticstorelaw03_awake.f k) true := by
  have lA : awA.length = 2 := rfl
  have lB : awB.length = 2 := rfl
  have lJ : (mrg true awA awB).length = 3 := by rw [awJ]; rfl
  have lM : (mrg false awA awB).length = 1 := by rw [awM]; rfl
  refine Ev.bind (Ev.some awA) ?_
  refine Ev.bind (Ev.some awB) ?_
  refine Ev.bind (ejoin awA awB (by omega)) ?_
  refine Ev.bind (emeet awA awB (by omega)) ?_
  refine Ev.bind ((size_is _ awJ_val.1 (by omega)).val (s := 8) (by rw [awJ]; rfl)) ?_
  refine Ev.congr (fun k => if_pos rfl) ?_
  refine Ev.bind ((size_is _ awM_val.1 (by omega)).val (s := 1) (by rw [awM]; rfl)) ?_
  refine Ev.congr (fun k => if_pos rfl) ?_
  refine Ev.bind ((cmpv_is awA_val.2 awB_val.2 (by omega) (by omega)).val (s := 3) (by decide)) ?_
  refine Ev.congr (fun k => if_pos rfl) ?_
  refine Ev.bind ((validate_is [⟨0, 0⟩] (by decide)).val (s := 9) (by decide)) ?_
  refine Ev.congr (fun k => if_pos rfl) ?_
  refine Ev.bind ((get_is awA awA_val.2 (by omega) 3).val (s := 1) (by decide)) ?_
  refine Ev.congr (fun k => if_pos rfl) ?_
  refine Ev.bind ((vle_is (mrg false awA awB) awA awA_val.2 (by omega) (by omega)).val (s := true) (by rw [awM]; decide)) ?_
  exact Ev.some _
theorem awake_end : Ev (fun k => (elasticstorelaw03_awake.f k).bind fun t => some t) true := Ev.bind awake_is (Ev.some _)
def okL (L : List (List S69)) : Bool := L.all fun l => decide (l.length ≤ 40 ∧ vvs none l = 0)
theorem okL_eq (l : List S69) (L : List (List S69)) : okL (l :: L) = (decide (l.length ≤ 40 ∧ vvs none l = 0) && okL L) := rfl
theorem valid_l (L : List (List S69)) (hl : L.length < 4611686018427387904) : ∀ (n i : Nat), i + n = L.length → Ev (fun k => elasticstorelaw03_valid.l0 k L (i : Int)) (okL (L.drop i)) := by
  intro n
  induction n with
  | zero =>
    intro i hi
    refine Ev.suc (Ev.congr (fun k => ?_) (Ev.some _))
    rw [elasticstorelaw03_valid.l0, if_neg (by omega), List.drop_eq_nil_of_le (by omega)]
    rfl
  | succ n ih =>
    intro i hi
    have hil : i < L.length := by omega
    refine Ev.suc ?_
    rw [dropC hil]
    by_cases h1 : L[i].length ≤ 40
    · refine Ev.congr (fun k => ?_) (Ev.bind (rvalidate_is L[i] (by omega)) (G := fun t k => if t = 0 then elasticstorelaw03_valid.l0 k L ((i + 1 : Nat) : Int) else some false) ?_)
      · rw [elasticstorelaw03_valid.l0, if_pos (by omega), if_pos (by omega), rdL hil, if_neg (by omega), wS i (by omega)]
      · by_cases h2 : vvs none L[i] = 0
        · simp only [if_pos h2]
          exact (ih (i + 1) (by omega)).val (by rw [okL_eq, decide_eq_true ⟨h1, h2⟩, Bool.true_and])
        · simp only [if_neg h2]
          exact (Ev.some _).val (by rw [okL_eq, decide_eq_false fun h => h2 h.2, Bool.false_and])
    · refine Ev.congr (fun k => ?_) ((Ev.some false).val (by rw [okL_eq, decide_eq_false fun h => h1 h.1, Bool.false_and]))
      rw [elasticstorelaw03_valid.l0, if_pos (by omega), if_pos (by omega), rdL hil, if_pos (by omega)]
theorem valid_is (L : List (List S69)) (hl : L.length < 4611686018427387904) : Ev (fun k => elasticstorelaw03_valid.f k L) (okL L) := valid_l L hl L.length 0 (by omega)
theorem okL_cons {l : List S69} {L : List (List S69)} (h : okL (l :: L) = true) : (l.length ≤ 40 ∧ Val l) ∧ okL L = true := by
  simp only [okL, List.all_cons, Bool.and_eq_true, decide_eq_true_eq] at h
  exact ⟨⟨h.1.1, (vvs_zero _).1 h.1.2⟩, h.2⟩
/-- The law's guard: what is not valid ends in the sanity check. -/
theorem guard {L : List (List S69)} {A : Nat → Option Bool} (hl : L.length < 4611686018427387904) (h : okL L = true → Ev A true) :
    Ev (fun k => (elasticstorelaw03_valid.f k L).bind fun t => if t = true then A k else (elasticstorelaw03_awake.f k).bind fun t => some t) true := by
  refine Ev.bind (valid_is L hl) ?_
  by_cases hv : okL L = true
  · exact Ev.congr (fun k => if_pos hv) (h hv)
  · exact Ev.congr (fun k => if_neg hv) awake_end
theorem Ev.done {F : Nat → Option Bool} (h : Ev F true) : ∃ k, F k = Option.some true := by
  obtain ⟨K, hK⟩ := h
  exact ⟨K, hK K (Nat.le_refl _)⟩
theorem eqv_cnt {u v : List S69} (hu : Val u) (hv : Val v) (h : ∀ a, Pure.cnt u a = Pure.cnt v a) : eqv u v = true := (eqv_iff u v).2 (ext_cnt hu hv h)
end Go.Proofs.Ytknkdbleeaaleaa.Pure
