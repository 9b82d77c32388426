/- The one pure statement of the law elasticstore/elasticstorelaw03.VectorSize. -/
import Derived.Test.YtknkdbleeaaleaaOpen
import Derived.Test.YtknkdbleeaaleaaOpen69
import Derived.Test.YtknkdbleeaaleaaPrint13
namespace Go.Proofs.Ytknkdbleeaaleaa.Pure
open Go.RowKit Go.Proofs.Ytknkdbleeaaleaa.Print Go.Proofs.YtknkdbleeaaleaaW.PrintWords Go.Proofs.YtknkdbleeaaleaaW.PrintLast Go.Proofs.YtknkdbleeaaleaaW.PrintMore
def VectorSize.Pure : Prop := ∀ (l0 : List (S69)) (l1 : List (S69)), (∀ x_ ∈ l0, Wf69 x_) → (∀ x_ ∈ l1, Wf69 x_) → ∃ k, elasticstorelaw03_VectorSize.f k l0 l1 = some true
end Go.Proofs.Ytknkdbleeaaleaa.Pure
