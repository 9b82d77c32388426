/- For all lists of bytes, appending a frame gives what the reference gives, and decoding it, whatever follows, gives the payload and the length of the frame; no condition. -/
import Derived.Test.YtbcllonopnmmeaaPrint12
import Derived.Test.YtbcllonopnmmeaaFrm
namespace Go.Proofs.Ytbcllonopnmmeaa.Pure
open Go.RowKit Go.Proofs.Ytbcllonopnmmeaa.Print Go.Proofs.YtbcllonopnmmeaaW.PrintWords Go.Proofs.YtbcllonopnmmeaaW.PrintLast Go.Proofs.YtbcllonopnmmeaaW.PrintMore

theorem FrameAppend : elasticstorelaw02_FrameAppend.Pure := by
  intro d p t _ hd hdw _ hp hpw _ ht htw
  refine ⟨30000, ?_⟩
  obtain ⟨k, hk⟩ : ∃ k : Nat, k = 30000 := ⟨_, rfl⟩
  rw [← hk]
  unfold elasticstorelaw02_FrameAppend.f
  have skip : elasticstorelaw02_FrameAppend.j0 k d p t true = some true := by
    obtain ⟨k, rfl⟩ : ∃ m, k = m + 1 := ⟨k - 1, by omega⟩
    simp only [elasticstorelaw02_FrameAppend.j0]
    rw [if_pos trivial]; rfl
  by_cases c1 : (d.length : Int) > 300
  · rw [if_pos c1]; exact skip
  · rw [if_neg c1]
    by_cases c2 : (p.length : Int) > 1000
    · rw [if_pos c2]; exact skip
    · rw [if_neg c2]
      by_cases c3 : (t.length : Int) > 300
      · rw [show (decide ((t.length : Int) > 300)) = true from decide_eq_true c3]; exact skip
      · rw [show (decide ((t.length : Int) > 300)) = false from decide_eq_false c3]
        clear skip
        obtain ⟨k, rfl⟩ : ∃ m, k = m + 2 := ⟨k - 2, by omega⟩
        simp only [elasticstorelaw02_FrameAppend.j0]
        rw [if_neg (by simp), append_is d p (by omega) (by omega) _ (by omega), Option.bind_some, rappend_is d p (by omega) (by omega) _ (by omega), Option.bind_some]
        simp only [if_true]
        have hlen : (d ++ frm p).length = d.length + p.length + 8 := by rw [List.length_append, frm_length]; omega
        rw [show (decide (((d ++ frm p).length : Int) < (d.length : Int))) = false from decide_eq_false (by omega)]
        simp only [elasticstorelaw02_FrameAppend.j1]
        rw [if_neg (by simp), Option.bind_some, if_pos (by omega), if_pos (by omega), Option.bind_some, Int.toNat_natCast, List.drop_left]
        rw [List.nil_append, if_pos (by simp [frm_length]; omega), Option.bind_some, if_pos (by rw [frm_length]; omega)]
        have hb : Bytes (frm p ++ t) := (frm_bytes (Bytes.of hpw)).append (Bytes.of htw)
        rw [dec_is _ hb (by rw [List.length_append, frm_length]; omega) _ (by rw [List.length_append, frm_length]; omega), Option.bind_some, dec_frm p t (by omega)]
        simp only [if_true]
        rw [if_pos (by rw [w64 (by omega) (by omega)])]; rfl

end Go.Proofs.Ytbcllonopnmmeaa.Pure
