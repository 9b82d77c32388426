import Derived.Test.YtknkdbleeaaleaaStmtVectorJoin
import Derived.Test.YtknkdbleeaaleaaVec3
namespace Go.Proofs.Ytknkdbleeaaleaa.Pure
open Go.RowKit Go.Proofs.Ytknkdbleeaaleaa.Print Go.Proofs.YtknkdbleeaaleaaW.PrintWords Go.Proofs.YtknkdbleeaaleaaW.PrintLast Go.Proofs.YtknkdbleeaaleaaW.PrintMore
theorem VectorJoin : VectorJoin.Pure := by
  intro a b c _ _ _
  refine Ev.done (F := fun k => elasticstorelaw03_VectorJoin.f k a b c) ?_
  refine guard (by simp) fun h => ?_
  obtain ⟨⟨la, ha⟩, h⟩ := okL_cons h
  obtain ⟨⟨lb, hb⟩, h⟩ := okL_cons h
  obtain ⟨⟨lc, hc⟩, _⟩ := okL_cons h
  have m := mrg_is true ha hb
  have lm := m.len
  have mc : ∀ x, Pure.cnt (mrg true a b) x = if Pure.cnt a x ≤ Pure.cnt b x then Pure.cnt b x else Pure.cnt a x := fun x => by rw [m.cnt, bndT]
  refine Ev.bind (ejoin a b (by omega)) ?_
  refine Ev.bind (rjoin_is ha hb (by omega) (by omega)) ?_
  refine Ev.bind ((req_is _ _ (by omega)).val ((eqv_iff _ _).2 rfl)) ?_
  refine Ev.congr (fun k => if_pos rfl) ?_
  refine Ev.bind ((vle_is a (mrg true a b) m.val.2 (by omega) (by omega)).val ((le_iff ha m.val).2 fun x => by rw [mc]; split <;> omega)) ?_
  refine Ev.congr (fun k => if_pos rfl) ?_
  refine Ev.bind ((vle_is b (mrg true a b) m.val.2 (by omega) (by omega)).val ((le_iff hb m.val).2 fun x => by rw [mc]; split <;> omega)) ?_
  refine Ev.congr (fun k => if_pos rfl) ?_
  refine Ev.bind (rle_is a c (by omega) (by omega)) ?_
  by_cases h1 : le a c = true
  · refine Ev.congr (fun k => if_pos h1) ?_
    refine Ev.bind (rle_is b c (by omega) (by omega)) ?_
    by_cases h2 : le b c = true
    · refine Ev.congr (fun k => if_pos h2) ?_
      refine Ev.bind ((vle_is (mrg true a b) c hc.2 (by omega) (by omega)).val ((le_iff m.val hc).2 fun x => by
        have := (le_iff ha hc).1 h1 x
        have := (le_iff hb hc).1 h2 x
        rw [mc]
        split <;> omega)) ?_
      exact Ev.congr (fun k => if_pos rfl) awake_end
    · exact Ev.congr (fun k => if_neg h2) awake_end
  · exact Ev.congr (fun k => if_neg h1) awake_end
end Go.Proofs.Ytknkdbleeaaleaa.Pure
