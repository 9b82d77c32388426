import Derived.Test.YtknkdbleeaaleaaStmtVectorValidate
import Derived.Test.YtknkdbleeaaleaaVec3
namespace Go.Proofs.Ytknkdbleeaaleaa.Pure
open Go.RowKit Go.Proofs.Ytknkdbleeaaleaa.Print Go.Proofs.YtknkdbleeaaleaaW.PrintWords Go.Proofs.YtknkdbleeaaleaaW.PrintLast Go.Proofs.YtknkdbleeaaleaaW.PrintMore
theorem VectorValidate : VectorValidate.Pure := by
  intro l _
  refine Ev.done (F := fun k => elasticstorelaw03_VectorValidate.f k l) ?_
  by_cases h : (l.length : Int) > 300
  · exact Ev.congr (fun k => if_pos h) awake_end
  · refine Ev.congr (fun k => if_neg h) ?_
    refine Ev.bind (validate_is l (by omega)) ?_
    refine Ev.bind (rvalidate_is l (by omega)) ?_
    exact Ev.congr (fun k => if_pos rfl) awake_end
end Go.Proofs.Ytknkdbleeaaleaa.Pure
