/- For every list of bytes the program's checksum and the reference's are one number (CRC-32C); no condition. -/
import Derived.Test.YtbcllonopnmmeaaPrint8
import Derived.Test.YtbcllonopnmmeaaFrm
namespace Go.Proofs.Ytbcllonopnmmeaa.Pure
open Go.RowKit Go.Proofs.Ytbcllonopnmmeaa.Print Go.Proofs.YtbcllonopnmmeaaW.PrintWords Go.Proofs.YtbcllonopnmmeaaW.PrintLast Go.Proofs.YtbcllonopnmmeaaW.PrintMore

theorem FrameChecksum : elasticstorelaw02_FrameChecksum.Pure := by
  intro l _ hl _
  refine ⟨10 * l.length + 10, ?_⟩
  unfold elasticstorelaw02_FrameChecksum.f
  by_cases c : (l.length : Int) > 1000
  · rw [if_pos c]; rfl
  · rw [if_neg c, sum_is l (by omega) _ (by omega), Option.bind_some, rsum_is l (by omega) _ (by omega), Option.bind_some, if_pos rfl]; rfl

end Go.Proofs.Ytbcllonopnmmeaa.Pure
