/- A payload of the greatest length is accepted and decoded again, a longer one gives the error of a payload that is too long; no condition. -/
import Derived.Test.YtbcllonopnmmeaaPrint13
import Derived.Test.YtbcllonopnmmeaaFrm
namespace Go.Proofs.Ytbcllonopnmmeaa.Pure
open Go.RowKit Go.Proofs.Ytbcllonopnmmeaa.Print Go.Proofs.YtbcllonopnmmeaaW.PrintWords Go.Proofs.YtbcllonopnmmeaaW.PrintLast Go.Proofs.YtbcllonopnmmeaaW.PrintMore

theorem limit_l0 (a : Int) (ha : 0 ≤ a ∧ a < 256) (n : Nat) (hn : n = 65536 ∨ n = 65537 ∨ n = 65538) : ∀ (d i : Nat), i + d = n → ∀ x : List Int, x.length = n → Bytes x → ∀ k : Nat, d + 700000 ≤ k → elasticstorelaw02_FrameLimit.l0 k a x (i : Int) = some true
  | 0, i, hi, x, hx, hb, k, hk => by
    obtain ⟨k, rfl⟩ : ∃ m, k = m + 1 := ⟨k - 1, by omega⟩
    simp only [elasticstorelaw02_FrameLimit.l0]
    rw [if_neg (by omega)]
    by_cases c : x.length ≤ 65536
    · rw [append_is [] x c (by simp) _ (by omega), Option.bind_some]
      simp only [List.nil_append]
      have hl := frm_length x
      have hd := dec_frm x [] c
      rw [List.append_nil] at hd
      rw [if_neg (by omega), dec_is _ (frm_bytes hb) (by omega) _ (by omega), Option.bind_some, hd]
      simp only [if_true]
      rw [w64 (by omega) (by omega)]
      simp
    · rw [append_long [] x (by omega), Option.bind_some, if_pos (by omega)]
      rfl
  | d + 1, i, hi, x, hx, hb, k, hk => by
    obtain ⟨k, rfl⟩ : ∃ m, k = m + 1 := ⟨k - 1, by omega⟩
    have ih := limit_l0 a ha n hn d (i + 1) (by omega) (x.set i a) (by rw [List.length_set]; exact hx) (hb.set _ _ ha) k (by omega)
    simp only [elasticstorelaw02_FrameLimit.l0]
    rw [if_pos (by omega), if_pos (by omega), Int.toNat_natCast, w64 (by omega) (by omega), show (i : Int) + 1 = ((i + 1 : Nat) : Int) from by omega]
    exact ih
theorem FrameLimit : elasticstorelaw02_FrameLimit.Pure := by
  intro a b ha hb
  have ha := wf_u8 ha
  have hb := wf_u8 hb
  obtain ⟨k, hk⟩ : ∃ k : Nat, 800000 ≤ k := ⟨800000, Nat.le_refl _⟩
  refine ⟨k, ?_⟩
  unfold elasticstorelaw02_FrameLimit.f
  have hm : Int.tmod b 3 = b % 3 := Int.tmod_eq_emod_of_nonneg hb.1
  rw [hm, w64 (n := b % 3) (by omega) (by omega), w64 (n := 65536 + b % 3) (by omega) (by omega)]
  rw [if_pos (by omega), if_pos (by omega)]
  have hn : (65536 + b % 3).toNat = 65536 ∨ (65536 + b % 3).toNat = 65537 ∨ (65536 + b % 3).toNat = 65538 := by omega
  generalize (65536 + b % 3).toNat = n at hn ⊢
  exact limit_l0 a ha n hn n 0 (by omega) _ (by simp) (fun x hx => by rw [List.eq_of_mem_replicate hx]; omega) k (by omega)

end Go.Proofs.Ytbcllonopnmmeaa.Pure
