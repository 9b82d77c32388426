/- The one pure statement of the law elasticstore/elasticstorelaw15.AcceptorOrder. -/
import Derived.Test.YtknkdbleeaaleaaOpen
import Derived.Test.YtknkdbleeaaleaaOpen69
import Derived.Test.YtknkdbleeaaleaaPrint21
namespace Go.Proofs.Ytknkdbleeaaleaa.Pure
open Go.RowKit Go.Proofs.Ytknkdbleeaaleaa.Print Go.Proofs.YtknkdbleeaaleaaW.PrintWords Go.Proofs.YtknkdbleeaaleaaW.PrintLast Go.Proofs.YtknkdbleeaaleaaW.PrintMore
def AcceptorOrder.Pure : Prop := ∀ (l0_0 : List (S69)) (l1 : List (List (S69))), (l0_0.length ≤ 9223372036854775807 ∧ ∀ x_ ∈ l0_0, Wf69 x_) → (l1.length ≤ 9223372036854775807 ∧ ∀ x_ ∈ l1, (x_.length ≤ 9223372036854775807 ∧ ∀ x__ ∈ x_, Wf69 x__)) → ∃ k, elasticstorelaw15_AcceptorOrder.f k l0_0 l1 = some true
end Go.Proofs.Ytknkdbleeaaleaa.Pure
