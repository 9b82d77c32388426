/- Turning one bit of the payload or of the trailer of a frame makes decoding give the error of a wrong checksum; no condition. -/
import Derived.Test.YtbcllonopnmmeaaPrint17
import Derived.Test.YtbcllonopnmmeaaFrm
namespace Go.Proofs.Ytbcllonopnmmeaa.Pure
open Go.RowKit Go.Proofs.Ytbcllonopnmmeaa.Print Go.Proofs.YtbcllonopnmmeaaW.PrintWords Go.Proofs.YtbcllonopnmmeaaW.PrintLast Go.Proofs.YtbcllonopnmmeaaW.PrintMore

theorem FrameDamage : elasticstorelaw02_FrameDamage.Pure := by
  intro p a b _ hp hw ha hb
  have ha := wf_u16 ha
  have hb := wf_u8 hb
  have hB := Bytes.of hw
  refine ⟨30000, ?_⟩
  obtain ⟨k, hk⟩ : ∃ k : Nat, k = 30000 := ⟨_, rfl⟩
  rw [← hk]
  unfold elasticstorelaw02_FrameDamage.f
  by_cases c : (p.length : Int) > 1000
  · rw [if_pos c]; rfl
  · rw [if_neg c, append_is [] p (by omega) (by simp) _ (by omega), Option.bind_some]
    simp only [List.nil_append]
    have hlen := frm_length p
    rw [if_pos trivial, if_pos (by rw [w64 (by omega) (by omega)]; omega), Option.bind_some, if_pos (by simp; omega), Option.bind_some, List.nil_append]
    rw [show wrap64 (((frm p).length : Int) - 4) = ((p.length + 4 : Nat) : Int) from by rw [w64 (by omega) (by omega)]; omega]
    rw [if_neg (by omega), w64 (n := a) (by omega) (by omega)]
    have hm : Int.tmod a ((p.length + 4 : Nat) : Int) = a % ((p.length + 4 : Nat) : Int) := Int.tmod_eq_emod_of_nonneg ha.1
    rw [hm]
    have h0 : 0 ≤ a % ((p.length + 4 : Nat) : Int) := Int.emod_nonneg _ (by omega)
    have h1 : a % ((p.length + 4 : Nat) : Int) < ((p.length + 4 : Nat) : Int) := Int.emod_lt_of_pos _ (by omega)
    obtain ⟨i, hi⟩ := Int.eq_ofNat_of_zero_le h0
    rw [hi] at h0 h1 ⊢
    rw [show wrap64 (4 + (i : Int)) = ((4 + i : Nat) : Int) from by rw [w64 (by omega) (by omega)]; omega]
    have h8 : 0 ≤ Int.tmod b 8 := by rw [Int.tmod_eq_emod_of_nonneg hb.1]; omega
    rw [if_pos (by omega), if_pos (by omega), if_pos h8, Int.toNat_natCast, rd_nat]
    obtain ⟨hv, hne⟩ := flip_ne ((frm p).getD (4 + i) 0) b ((frm_bytes hB).getD _) hb
    rw [dec_is _ ((frm_bytes hB).set _ _ hv) (by rw [List.length_set]; omega) _ (by rw [List.length_set]; omega), Option.bind_some, dec_hurt p hB (by omega) i (by omega) _ hv hne]
    rfl

end Go.Proofs.Ytbcllonopnmmeaa.Pure
