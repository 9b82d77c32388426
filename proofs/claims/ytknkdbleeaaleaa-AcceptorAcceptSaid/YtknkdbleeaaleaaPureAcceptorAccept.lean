import Derived.Test.YtknkdbleeaaleaaStmtAcceptorAccept
import Derived.Test.YtknkdbleeaaleaaAcc
namespace Go.Proofs.Ytknkdbleeaaleaa.Pure
open Go.RowKit Go.Proofs.Ytknkdbleeaaleaa.Print Go.Proofs.YtknkdbleeaaleaaW.PrintWords Go.Proofs.YtknkdbleeaaleaaW.PrintLast Go.Proofs.YtknkdbleeaaleaaW.PrintMore
theorem AcceptorAccept : AcceptorAccept.Pure := by
  intro a v _ _
  refine Ev.done' (F := fun k => elasticstorelaw15_AcceptorAccept.f k a v) ?_
  refine Ev.bind (valid15_is [a, v] (by simp)) ?_
  by_cases h : (ok15 [a, v] && decide ([a, v].length ≤ 40)) = true
  · refine Ev.congr (fun k => if_pos h) ?_
    have hm := ok15_mem (Bool.and_eq_true_iff.1 h).1
    obtain ⟨ha, la⟩ := hm a (by simp)
    obtain ⟨hv, lv⟩ := hm v (by simp)
    have hj := jlen ha hv
    refine Ev.bind (accept_is a v ha (by omega) hv (by omega)) ?_
    refine Ev.bind (rjoin_is ha hv (by omega) (by omega)) ?_
    refine Ev.bind ((req_is _ _ (by show (mrg true a v).length < _; omega)).val ((eqv_iff _ _).2 rfl)) ?_
    refine Ev.congr (fun k => if_pos rfl) ?_
    refine Ev.bind (rle_is a v (by omega) (by omega)) ?_
    refine Ev.congr (fun k => if_pos (by simp)) ?_
    exact awake15_end
  · exact Ev.congr (fun k => if_neg h) awake15_end
end Go.Proofs.Ytknkdbleeaaleaa.Pure
