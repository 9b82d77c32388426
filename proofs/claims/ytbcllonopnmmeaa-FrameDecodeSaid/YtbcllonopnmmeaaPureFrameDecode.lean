/- For every list of bytes, decoding gives the payload, the length and the error that the reference gives; no condition. -/
import Derived.Test.YtbcllonopnmmeaaPrint16
import Derived.Test.YtbcllonopnmmeaaFrm
namespace Go.Proofs.Ytbcllonopnmmeaa.Pure
open Go.RowKit Go.Proofs.Ytbcllonopnmmeaa.Print Go.Proofs.YtbcllonopnmmeaaW.PrintWords Go.Proofs.YtbcllonopnmmeaaW.PrintLast Go.Proofs.YtbcllonopnmmeaaW.PrintMore

theorem FrameDecode : elasticstorelaw02_FrameDecode.Pure := by
  intro l _ hl hw
  refine ⟨10 * l.length + 10, ?_⟩
  unfold elasticstorelaw02_FrameDecode.f
  by_cases c : (l.length : Int) > 1000
  · rw [if_pos c]; rfl
  · rw [if_neg c, dec_is l (Bytes.of hw) (by omega) _ (by omega), Option.bind_some, rdec_is l (Bytes.of hw) (by omega) _ (by omega), Option.bind_some]
    simp only [if_true]; rfl

end Go.Proofs.Ytbcllonopnmmeaa.Pure
