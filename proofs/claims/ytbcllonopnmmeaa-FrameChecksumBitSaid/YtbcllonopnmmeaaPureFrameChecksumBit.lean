/- For every list of bytes, turning one bit turns the checksum; no condition. -/
import Derived.Test.YtbcllonopnmmeaaPrint9
import Derived.Test.YtbcllonopnmmeaaFrm
namespace Go.Proofs.Ytbcllonopnmmeaa.Pure
open Go.RowKit Go.Proofs.Ytbcllonopnmmeaa.Print Go.Proofs.YtbcllonopnmmeaaW.PrintWords Go.Proofs.YtbcllonopnmmeaaW.PrintLast Go.Proofs.YtbcllonopnmmeaaW.PrintMore

theorem FrameChecksumBit : elasticstorelaw02_FrameChecksumBit.Pure := by
  intro l a b _ hl hw ha hb
  have hB := Bytes.of hw
  have ha := wf_u16 ha
  have hb := wf_u8 hb
  refine ⟨10 * l.length + 10, ?_⟩
  unfold elasticstorelaw02_FrameChecksumBit.f
  have skip : ∀ k, elasticstorelaw02_FrameChecksumBit.j0 (k + 1) l a b true = some true := fun k => by
    simp only [elasticstorelaw02_FrameChecksumBit.j0]
    rw [if_pos trivial]; rfl
  by_cases c0 : (l.length : Int) = 0
  · rw [if_pos c0]; exact skip _
  · rw [if_neg c0]
    by_cases c : (l.length : Int) > 1000
    · rw [show (decide ((l.length : Int) > 1000)) = true from decide_eq_true c]; exact skip _
    · rw [show (decide ((l.length : Int) > 1000)) = false from decide_eq_false c]
      show elasticstorelaw02_FrameChecksumBit.j0 ((10 * l.length + 9) + 1) _ _ _ _ = _
      simp only [elasticstorelaw02_FrameChecksumBit.j0]
      rw [if_neg (by simp), Option.bind_some, if_pos (by simp; omega), Option.bind_some, List.nil_append, if_neg c0]
      rw [w64 (n := a) (by omega) (by omega)]
      have hm : Int.tmod a (l.length : Int) = a % (l.length : Int) := Int.tmod_eq_emod_of_nonneg ha.1
      rw [hm]
      have h0 : 0 ≤ a % (l.length : Int) := Int.emod_nonneg _ c0
      have h1 : a % (l.length : Int) < l.length := Int.emod_lt_of_pos _ (by omega)
      obtain ⟨i, hi⟩ := Int.eq_ofNat_of_zero_le h0
      rw [hi] at h0 h1 ⊢
      have h8 : 0 ≤ Int.tmod b 8 := by rw [Int.tmod_eq_emod_of_nonneg hb.1]; omega
      rw [if_pos h0, if_pos h1, if_pos h8, Int.toNat_natCast, rd_nat]
      obtain ⟨hv, hne⟩ := flip_ne (l.getD i 0) b (hB.getD i) hb
      rw [sum_is _ (by rw [List.length_set]; omega) _ (by rw [List.length_set]; omega), Option.bind_some, sum_is l (by omega) _ (by omega), Option.bind_some]
      have := sumN_set l i (Go.bits .xor .u8 (l.getD i 0) (shl .u8 1 (Int.tmod b 8))) (by omega) (by have := hB.getD i; omega)
      rw [if_neg (by omega)]; rfl

end Go.Proofs.Ytbcllonopnmmeaa.Pure
