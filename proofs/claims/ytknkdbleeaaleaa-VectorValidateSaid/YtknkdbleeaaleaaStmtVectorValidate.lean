/- The one pure statement of the law elasticstore/elasticstorelaw03.VectorValidate. -/
import Derived.Test.YtknkdbleeaaleaaOpen
import Derived.Test.YtknkdbleeaaleaaOpen69
import Derived.Test.YtknkdbleeaaleaaPrint4
namespace Go.Proofs.Ytknkdbleeaaleaa.Pure
open Go.RowKit Go.Proofs.Ytknkdbleeaaleaa.Print Go.Proofs.YtknkdbleeaaleaaW.PrintWords Go.Proofs.YtknkdbleeaaleaaW.PrintLast Go.Proofs.YtknkdbleeaaleaaW.PrintMore
def VectorValidate.Pure : Prop := ∀ (l0 : List (S69)), (∀ x_ ∈ l0, Wf69 x_) → ∃ k, elasticstorelaw03_VectorValidate.f k l0 = some true
end Go.Proofs.Ytknkdbleeaaleaa.Pure
