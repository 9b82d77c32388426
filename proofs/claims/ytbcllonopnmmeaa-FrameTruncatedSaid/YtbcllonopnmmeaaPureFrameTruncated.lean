/- Every proper prefix of a frame decodes to the error of a truncated frame; no condition. -/
import Derived.Test.YtbcllonopnmmeaaPrint18
import Derived.Test.YtbcllonopnmmeaaFrm
namespace Go.Proofs.Ytbcllonopnmmeaa.Pure
open Go.RowKit Go.Proofs.Ytbcllonopnmmeaa.Print Go.Proofs.YtbcllonopnmmeaaW.PrintWords Go.Proofs.YtbcllonopnmmeaaW.PrintLast Go.Proofs.YtbcllonopnmmeaaW.PrintMore

theorem FrameTruncated : elasticstorelaw02_FrameTruncated.Pure := by
  intro p a _ hp hw ha
  have ha := wf_u16 ha
  refine ⟨30000, ?_⟩
  obtain ⟨k, hk⟩ : ∃ k : Nat, k = 30000 := ⟨_, rfl⟩
  rw [← hk]
  unfold elasticstorelaw02_FrameTruncated.f
  by_cases c : (p.length : Int) > 1000
  · rw [if_pos c]; rfl
  · rw [if_neg c, append_is [] p (by omega) (by simp) _ (by omega), Option.bind_some]
    simp only [List.nil_append]
    have hlen := frm_length p
    rw [if_pos trivial, if_pos (by rw [w64 (by omega) (by omega)]; omega), if_neg (by omega), w64 (n := a) (by omega) (by omega)]
    have hm : Int.tmod a ((frm p).length : Int) = a % ((frm p).length : Int) := Int.tmod_eq_emod_of_nonneg ha.1
    rw [hm]
    have h0 : 0 ≤ a % ((frm p).length : Int) := Int.emod_nonneg _ (by omega)
    have h1 : a % ((frm p).length : Int) < (frm p).length := Int.emod_lt_of_pos _ (by omega)
    obtain ⟨i, hi⟩ := Int.eq_ofNat_of_zero_le h0
    rw [hi] at h0 h1 ⊢
    rw [if_pos h0, if_pos (by omega), Int.toNat_natCast, dec_is _ ((frm_bytes (Bytes.of hw)).take _) (by rw [List.length_take]; omega) _ (by rw [List.length_take]; omega), Option.bind_some, dec_cut p (by omega) i (by omega)]
    rfl

end Go.Proofs.Ytbcllonopnmmeaa.Pure
