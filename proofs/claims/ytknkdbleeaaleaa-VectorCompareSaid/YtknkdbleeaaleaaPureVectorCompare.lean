import Derived.Test.YtknkdbleeaaleaaStmtVectorCompare
import Derived.Test.YtknkdbleeaaleaaVec3
namespace Go.Proofs.Ytknkdbleeaaleaa.Pure
open Go.RowKit Go.Proofs.Ytknkdbleeaaleaa.Print Go.Proofs.YtknkdbleeaaleaaW.PrintWords Go.Proofs.YtknkdbleeaaleaaW.PrintLast Go.Proofs.YtknkdbleeaaleaaW.PrintMore
theorem VectorCompare : VectorCompare.Pure := by
  intro a b _ _
  refine Ev.done (F := fun k => elasticstorelaw03_VectorCompare.f k a b) ?_
  refine guard (by simp) fun h => ?_
  obtain ⟨⟨la, ha⟩, h⟩ := okL_cons h
  obtain ⟨⟨lb, hb⟩, _⟩ := okL_cons h
  have hanti : le a b = true → le b a = true → a = b := fun h1 h2 => ext_cnt ha hb fun x => by
    have := (le_iff ha hb).1 h1 x
    have := (le_iff hb ha).1 h2 x
    omega
  have hrefl : ∀ {u : List S69}, Val u → le u u = true := fun hu => (le_iff hu hu).2 fun x => Int.le_refl _
  have last : ∀ (w r : Int), cmp a b = w → cmp b a = r → ((w == 0) == eqv a b) = true → Ev (fun k => elasticstorelaw03_VectorCompare.j1 k a b (le a b) w r) true := by
    intro w r h1 h2 h3
    refine Ev.suc ?_
    refine Ev.bind (vle_is a b hb.2 (by omega) (by omega)) ?_
    refine Ev.congr (fun k => if_pos (by simp)) ?_
    refine Ev.bind ((cmpv_is ha.2 hb.2 (by omega) (by omega)).val h1) ?_
    refine Ev.congr (fun k => if_pos rfl) ?_
    refine Ev.bind ((cmpv_is hb.2 ha.2 (by omega) (by omega)).val h2) ?_
    refine Ev.congr (fun k => if_pos rfl) ?_
    refine Ev.bind (req_is a b (by omega)) ?_
    exact Ev.congr (fun k => if_pos h3) awake_end
  refine Ev.bind (rle_is a b (by omega) (by omega)) ?_
  refine Ev.bind (rle_is b a (by omega) (by omega)) ?_
  by_cases h1 : le a b = true
  · refine Ev.congr (fun k => if_pos h1) ?_
    by_cases h2 : le b a = true
    · have he := hanti h1 h2
      have e1 : eqv a b = true := (eqv_iff _ _).2 he
      have e2 : eqv b a = true := (eqv_iff _ _).2 he.symm
      refine Ev.suc (Ev.congr (fun k => if_pos h2) ?_)
      exact last 0 0 (by unfold cmp; rw [if_pos e1]) (by unfold cmp; rw [if_pos e2]) (by rw [e1]; rfl)
    · have e1 : ¬ eqv a b = true := fun h => h2 (by rw [(eqv_iff _ _).1 h]; exact hrefl hb)
      have e2 : ¬ eqv b a = true := fun h => h2 (by rw [(eqv_iff _ _).1 h]; exact hrefl ha)
      refine Ev.suc (Ev.congr (fun k => if_neg h2) (Ev.congr (fun k => if_pos h1) ?_))
      exact last 1 2 (by unfold cmp; rw [if_neg e1, if_pos h1]) (by unfold cmp; rw [if_neg e2, if_neg h2, if_pos h1]) (by rw [Bool.not_eq_true] at e1; rw [e1]; rfl)
  · refine Ev.congr (fun k => if_neg h1) ?_
    have e1 : ¬ eqv a b = true := fun h => h1 (by rw [(eqv_iff _ _).1 h]; exact hrefl hb)
    have e2 : ¬ eqv b a = true := fun h => h1 (by rw [(eqv_iff _ _).1 h]; exact hrefl ha)
    have e3 : eqv a b = false := by rwa [Bool.not_eq_true] at e1
    refine Ev.suc (Ev.congr (fun k => by rw [elasticstorelaw03_VectorCompare.j0, if_neg (show ¬ false = true by decide), if_neg h1]) ?_)
    by_cases h2 : le b a = true
    · refine Ev.congr (fun k => if_pos h2) ?_
      exact last 2 1 (by unfold cmp; rw [if_neg e1, if_neg h1, if_pos h2]) (by unfold cmp; rw [if_neg e2, if_pos h2]) (by rw [e3]; rfl)
    · refine Ev.congr (fun k => if_neg h2) ?_
      exact last 3 3 (by unfold cmp; rw [if_neg e1, if_neg h1, if_neg h2]) (by unfold cmp; rw [if_neg e2, if_neg h2, if_neg h1]) (by rw [e3]; rfl)
end Go.Proofs.Ytknkdbleeaaleaa.Pure
