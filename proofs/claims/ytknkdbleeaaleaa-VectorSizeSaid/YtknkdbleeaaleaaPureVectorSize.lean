import Derived.Test.YtknkdbleeaaleaaStmtVectorSize
import Derived.Test.YtknkdbleeaaleaaVec3
namespace Go.Proofs.Ytknkdbleeaaleaa.Pure
open Go.RowKit Go.Proofs.Ytknkdbleeaaleaa.Print Go.Proofs.YtknkdbleeaaleaaW.PrintWords Go.Proofs.YtknkdbleeaaleaaW.PrintLast Go.Proofs.YtknkdbleeaaleaaW.PrintMore
theorem VectorSize : VectorSize.Pure := by
  intro a b _ _
  refine Ev.done (F := fun k => elasticstorelaw03_VectorSize.f k a b) ?_
  refine guard (by simp) fun h => ?_
  obtain ⟨⟨la, ha⟩, h⟩ := okL_cons h
  obtain ⟨⟨lb, hb⟩, _⟩ := okL_cons h
  have mj := mrg_is true ha hb
  have mm := mrg_is false ha hb
  have lj := mj.len
  have lm := mm.len
  have hs := mrg_sz _ a b rfl ha hb
  refine Ev.bind (size_is a ha.1 (by omega)) ?_
  refine Ev.bind (rsize_is a ha.1 (by omega)) ?_
  refine Ev.congr (fun k => if_pos rfl) ?_
  refine Ev.bind (ejoin a b (by omega)) ?_
  refine Ev.bind (size_is _ mj.val.1 (by omega)) ?_
  refine Ev.bind (emeet a b (by omega)) ?_
  refine Ev.bind (size_is _ mm.val.1 (by omega)) ?_
  refine Ev.bind (size_is a ha.1 (by omega)) ?_
  refine Ev.bind (size_is b hb.1 (by omega)) ?_
  refine Ev.suc ?_
  have hne : ¬ ((wrap64 (sz (mrg true a b) + sz (mrg false a b)) != wrap64 (sz a + sz b)) = true) := by rw [hs]; simp
  refine Ev.congr (fun k => if_neg hne) ?_
  refine Ev.bind (rle_is a b (by omega) (by omega)) ?_
  by_cases h1 : le a b = true
  · refine Ev.congr (fun k => if_pos h1) ?_
    refine Ev.bind (size_is a ha.1 (by omega)) ?_
    refine Ev.bind (size_is b hb.1 (by omega)) ?_
    by_cases h2 : sz a < sz b
    · exact Ev.congr (fun k => if_pos h2) awake_end
    · refine Ev.congr (fun k => if_neg h2) ?_
      have hz := sz_le ha hb ((le_iff ha hb).1 h1)
      refine Ev.bind ((req_is a b (by omega)).val ((eqv_iff _ _).2 (hz.2 (by omega)))) ?_
      exact Ev.congr (fun k => if_pos rfl) awake_end
  · exact Ev.congr (fun k => if_neg h1) awake_end
end Go.Proofs.Ytknkdbleeaaleaa.Pure
