import Derived.Test.YtknkdbleeaaleaaStmtVectorMeet
import Derived.Test.YtknkdbleeaaleaaVec3
namespace Go.Proofs.Ytknkdbleeaaleaa.Pure
open Go.RowKit Go.Proofs.Ytknkdbleeaaleaa.Print Go.Proofs.YtknkdbleeaaleaaW.PrintWords Go.Proofs.YtknkdbleeaaleaaW.PrintLast Go.Proofs.YtknkdbleeaaleaaW.PrintMore
theorem VectorMeet : VectorMeet.Pure := by
  intro a b c _ _ _
  refine Ev.done (F := fun k => elasticstorelaw03_VectorMeet.f k a b c) ?_
  refine guard (by simp) fun h => ?_
  obtain ⟨⟨la, ha⟩, h⟩ := okL_cons h
  obtain ⟨⟨lb, hb⟩, h⟩ := okL_cons h
  obtain ⟨⟨lc, hc⟩, _⟩ := okL_cons h
  have m := mrg_is false ha hb
  have lm := m.len
  have mc : ∀ x, Pure.cnt (mrg false a b) x = if Pure.cnt a x ≤ Pure.cnt b x then Pure.cnt a x else Pure.cnt b x := fun x => by rw [m.cnt, bndF]
  refine Ev.bind (emeet a b (by omega)) ?_
  refine Ev.bind (rmeet_is ha hb (by omega) (by omega)) ?_
  refine Ev.bind ((req_is _ _ (by omega)).val ((eqv_iff _ _).2 rfl)) ?_
  refine Ev.congr (fun k => if_pos rfl) ?_
  refine Ev.bind ((vle_is (mrg false a b) a ha.2 (by omega) (by omega)).val ((le_iff m.val ha).2 fun x => by rw [mc]; split <;> omega)) ?_
  refine Ev.congr (fun k => if_pos rfl) ?_
  refine Ev.bind ((vle_is (mrg false a b) b hb.2 (by omega) (by omega)).val ((le_iff m.val hb).2 fun x => by rw [mc]; split <;> omega)) ?_
  refine Ev.congr (fun k => if_pos rfl) ?_
  refine Ev.bind (rle_is c a (by omega) (by omega)) ?_
  by_cases h1 : le c a = true
  · refine Ev.congr (fun k => if_pos h1) ?_
    refine Ev.bind (rle_is c b (by omega) (by omega)) ?_
    by_cases h2 : le c b = true
    · refine Ev.congr (fun k => if_pos h2) ?_
      refine Ev.bind ((vle_is c (mrg false a b) m.val.2 (by omega) (by omega)).val ((le_iff hc m.val).2 fun x => by
        have := (le_iff hc ha).1 h1 x
        have := (le_iff hc hb).1 h2 x
        rw [mc]
        split <;> omega)) ?_
      exact Ev.congr (fun k => if_pos rfl) awake_end
    · exact Ev.congr (fun k => if_neg h2) awake_end
  · exact Ev.congr (fun k => if_neg h1) awake_end
end Go.Proofs.Ytknkdbleeaaleaa.Pure
