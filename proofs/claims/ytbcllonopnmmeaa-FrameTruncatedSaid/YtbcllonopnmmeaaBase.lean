/- What the functions of the package frame and of its reference answer, said of plain lists of numbers: the checksum, a frame, what decoding gives; and that the checksum tells two lists apart that differ at one place. -/
import Derived.Test.YtbcllonopnmmeaaPrint4
import Derived.Test.YtbcllonopnmmeaaPrint6
import Derived.Test.YtbcllonopnmmeaaPrint7
import Derived.Test.YtbcllonopnmmeaaPrint11
import Derived.Test.YtbcllonopnmmeaaPrint15
import Derived.Test.YtbcllonopnmmeaaHandAwake
import Derived.IntWalk
namespace Go.Proofs.Ytbcllonopnmmeaa.Pure
open Go.RowKit Go.Proofs.Ytbcllonopnmmeaa.Print Go.Proofs.YtbcllonopnmmeaaW.PrintWords Go.Proofs.YtbcllonopnmmeaaW.PrintLast Go.Proofs.YtbcllonopnmmeaaW.PrintMore

/-! ### bits -/
theorem w64 {n : Int} (h0 : -9223372036854775808 ≤ n) (h1 : n ≤ 9223372036854775807) : wrap64 n = n := by unfold wrap64; omega
theorem xr_nat (a b : Nat) (ha : a < 4294967296) (hb : b < 4294967296) : Go.bits .xor .u32 (a : Int) (b : Int) = ((a ^^^ b : Nat) : Int) := by
  have h32 : (2 : Nat) ^ 32 = 4294967296 := by decide
  have ha' : a % 2 ^ IntKind.u32.bits = a := Nat.mod_eq_of_lt (by show a < 2 ^ 32; rw [h32]; exact ha)
  have hb' : b % 2 ^ IntKind.u32.bits = b := Nat.mod_eq_of_lt (by show b < 2 ^ 32; rw [h32]; exact hb)
  have hx : a ^^^ b < 4294967296 := by
    have := Nat.xor_lt_two_pow (n := 32) (show a < 2 ^ 32 by rw [h32]; exact ha) (show b < 2 ^ 32 by rw [h32]; exact hb)
    rwa [h32] at this
  simp only [Go.bits, BitVec.ofInt_natCast, BitVec.toNat_xor, BitVec.toNat_ofNat, ha', hb', IntKind.wrap_u32]
  omega
theorem xr8_nat (a b : Nat) (ha : a < 256) (hb : b < 256) : Go.bits .xor .u8 (a : Int) (b : Int) = ((a ^^^ b : Nat) : Int) := by
  have h8 : (2 : Nat) ^ 8 = 256 := by decide
  have ha' : a % 2 ^ IntKind.u8.bits = a := Nat.mod_eq_of_lt (by show a < 2 ^ 8; rw [h8]; exact ha)
  have hb' : b % 2 ^ IntKind.u8.bits = b := Nat.mod_eq_of_lt (by show b < 2 ^ 8; rw [h8]; exact hb)
  have hx : a ^^^ b < 256 := by
    have := Nat.xor_lt_two_pow (n := 8) (show a < 2 ^ 8 by rw [h8]; exact ha) (show b < 2 ^ 8 by rw [h8]; exact hb)
    rwa [h8] at this
  simp only [Go.bits, BitVec.ofInt_natCast, BitVec.toNat_xor, BitVec.toNat_ofNat, ha', hb', IntKind.wrap_u8]
  omega
theorem wraps_u32 (n : Int) (h0 : 0 ≤ n) (h1 : n < 2 ^ 32) : IntKind.u32.wrap n = n := by rw [IntKind.wrap_u32]; omega
theorem and_one (c : Nat) (h : c < 4294967296) : Go.bits .and .u32 (c : Int) 1 = ((c % 2 : Nat) : Int) := by
  have := bits_mask .u32 32 (by decide) wraps_u32 1 (by decide) (c : Int) (by omega) (by omega)
  have h2 : ((2 : Int) ^ 1 - 1) = 1 := by decide
  rw [h2] at this
  rw [this]
  omega
theorem or_sum (x y : Int) (hx0 : 0 ≤ x) (hx : x % 256 = 0) (hx1 : x < 4294967296) (hy0 : 0 ≤ y) (hy : y < 256) : Go.bits .or .u32 x y = x + y :=
  bits_join .u32 32 (by decide) wraps_u32 8 x y hx0 (by omega) (by omega) hy0 (by omega) (by omega)
theorem or_sum16 (x y : Int) (hx0 : 0 ≤ x) (hx : x % 65536 = 0) (hx1 : x < 4294967296) (hy0 : 0 ≤ y) (hy : y < 65536) : Go.bits .or .u32 x y = x + y :=
  bits_join .u32 32 (by decide) wraps_u32 16 x y hx0 (by omega) (by omega) hy0 (by omega) (by omega)
theorem or_sum24 (x y : Int) (hx0 : 0 ≤ x) (hx : x % 16777216 = 0) (hx1 : x < 4294967296) (hy0 : 0 ≤ y) (hy : y < 16777216) : Go.bits .or .u32 x y = x + y :=
  bits_join .u32 32 (by decide) wraps_u32 24 x y hx0 (by omega) (by omega) hy0 (by omega) (by omega)

/-! ### the checksum -/
/-- One bit of the checksum's register. -/
def g (c : Nat) : Nat := if c % 2 = 0 then c / 2 else (c / 2) ^^^ 2197175160
def gi : Nat → Nat → Nat
  | 0, c => c
  | d + 1, c => gi d (g c)
def cb (c : Nat) (x : Int) : Nat := gi 8 (c ^^^ (x % 4294967296).toNat)
def cs (c : Nat) (l : List Int) : Nat := l.foldl cb c
def sumN (l : List Int) : Nat := 4294967295 ^^^ cs 4294967295 l
theorem xor_lt {a b : Nat} (ha : a < 4294967296) (hb : b < 4294967296) : a ^^^ b < 4294967296 := by
  have h32 : (2 : Nat) ^ 32 = 4294967296 := by decide
  have := Nat.xor_lt_two_pow (n := 32) (show a < 2 ^ 32 by rw [h32]; exact ha) (show b < 2 ^ 32 by rw [h32]; exact hb)
  rwa [h32] at this
theorem g_lt {c : Nat} (h : c < 4294967296) : g c < 4294967296 := by
  unfold g
  split
  · omega
  · exact xor_lt (by omega) (by decide)
theorem gi_lt : ∀ (d : Nat) {c : Nat}, c < 4294967296 → gi d c < 4294967296
  | 0, _, h => h
  | d + 1, _, h => gi_lt d (g_lt h)
theorem xor_cancel {a b c : Nat} (h : a ^^^ c = b ^^^ c) : a = b := by
  have := congrArg (· ^^^ c) h
  simpa [Nat.xor_assoc] using this
theorem xor_cancel_left {a b c : Nat} (h : c ^^^ a = c ^^^ b) : a = b := by
  rw [Nat.xor_comm c a, Nat.xor_comm c b] at h
  exact xor_cancel h
theorem g_top (c : Nat) (h : c < 4294967296) : (g c).testBit 31 = decide (c % 2 = 1) := by
  have hs : (c / 2).testBit 31 = false := Nat.testBit_lt_two_pow (by omega)
  have hp : (2197175160 : Nat).testBit 31 = true := by decide
  unfold g
  split
  · rename_i h0
    rw [hs]
    simp
    omega
  · rename_i h0
    rw [Nat.testBit_xor, hs, hp]
    simp
    omega
theorem g_inj {a b : Nat} (ha : a < 4294967296) (hb : b < 4294967296) (h : g a = g b) : a = b := by
  have hp : decide (a % 2 = 1) = decide (b % 2 = 1) := by rw [← g_top a ha, ← g_top b hb, h]
  have hp2 : a % 2 = 1 ↔ b % 2 = 1 := by simpa using hp
  have hh : a / 2 = b / 2 := by
    unfold g at h
    by_cases h0 : a % 2 = 0
    · have h1 : b % 2 = 0 := by omega
      rwa [if_pos h0, if_pos h1] at h
    · have h1 : ¬ b % 2 = 0 := by omega
      rw [if_neg h0, if_neg h1] at h
      exact xor_cancel h
  omega
theorem gi_inj : ∀ (d : Nat) {a b : Nat}, a < 4294967296 → b < 4294967296 → gi d a = gi d b → a = b
  | 0, _, _, _, _, h => h
  | d + 1, _, _, ha, hb, h => g_inj ha hb (gi_inj d (g_lt ha) (g_lt hb) h)
theorem byte_lt (x : Int) : (x % 4294967296).toNat < 4294967296 := by omega
theorem cb_lt {c : Nat} (x : Int) (h : c < 4294967296) : cb c x < 4294967296 := gi_lt 8 (xor_lt h (byte_lt x))
theorem cs_lt : ∀ (l : List Int) {c : Nat}, c < 4294967296 → cs c l < 4294967296
  | [], _, h => h
  | x :: l, _, h => cs_lt l (cb_lt x h)
theorem sumN_lt (l : List Int) : sumN l < 4294967296 := xor_lt (by decide) (cs_lt l (by decide))
theorem cs_inj : ∀ (l : List Int) {a b : Nat}, a < 4294967296 → b < 4294967296 → cs a l = cs b l → a = b
  | [], _, _, _, _, h => h
  | x :: l, a, b, ha, hb, h => by
    have h1 : cb a x = cb b x := cs_inj l (cb_lt x ha) (cb_lt x hb) h
    exact xor_cancel (gi_inj 8 (xor_lt ha (byte_lt x)) (xor_lt hb (byte_lt x)) h1)
theorem cs_set : ∀ (l : List Int) (i : Nat) (v : Int) {c : Nat}, c < 4294967296 → i < l.length → (v % 4294967296).toNat ≠ (l.getD i 0 % 4294967296).toNat → cs c (l.set i v) ≠ cs c l
  | [], i, v, c, hc, hi, hv => absurd hi (by simp)
  | x :: l, 0, v, c, hc, hi, hv => by
    intro h
    have h1 : cb c v = cb c x := cs_inj l (cb_lt v hc) (cb_lt x hc) h
    have h2 := gi_inj 8 (xor_lt hc (byte_lt v)) (xor_lt hc (byte_lt x)) h1
    exact hv (by simpa using xor_cancel_left h2)
  | x :: l, i + 1, v, c, hc, hi, hv => by
    have := cs_set l i v (cb_lt x hc) (by simpa using hi) (by simpa using hv)
    simpa [cs] using this
theorem sumN_set (l : List Int) (i : Nat) (v : Int) (hi : i < l.length) (hv : (v % 4294967296).toNat ≠ (l.getD i 0 % 4294967296).toNat) : sumN (l.set i v) ≠ sumN l := by
  intro h
  exact cs_set l i v (by decide) hi hv (xor_cancel_left h)

theorem rd_nat (l : List Int) (i : Nat) : rd l (i : Int) = l.getD i 0 := by simp [rd]
theorem drop_getD (l : List Int) (i : Nat) (h : i < l.length) : l.drop i = l.getD i 0 :: l.drop (i + 1) := by
  rw [List.getD_eq_getElem?_getD, List.getElem?_eq_getElem h]
  exact List.drop_eq_getElem_cons h

theorem sum_l1 (l : List Int) (n i : Int) : ∀ (d : Nat), d ≤ 8 → ∀ (c : Nat), c < 4294967296 → ∀ k : Nat, frame_Checksum.l1 (k + (d + 1)) (c : Int) l n i (8 - (d : Int)) = frame_Checksum.l0 k ((gi d c : Nat) : Int) l n (wrap64 (i + 1))
  | 0, _, c, hc, k => by
    show frame_Checksum.l1 (k + 1) _ _ _ _ _ = _
    simp only [frame_Checksum.l1]
    rw [if_neg (by omega)]
    rfl
  | d + 1, hd, c, hc, k => by
    have ih := sum_l1 l n i d (by omega) (g c) (g_lt hc) k
    have e : k + (d + 1 + 1) = (k + (d + 1)) + 1 := by omega
    rw [e]
    simp only [frame_Checksum.l1]
    rw [if_pos (by omega), and_one c hc]
    have ew : wrap64 (8 - ((d + 1 : Nat) : Int) + 1) = 8 - (d : Int) := by rw [w64 (by omega) (by omega)]; omega
    rw [ew]
    by_cases h0 : c % 2 = 0
    · rw [if_pos (by omega)]
      have hg : g c = c / 2 := by unfold g; rw [if_pos h0]
      rw [show ((c : Int) / 2) = ((g c : Nat) : Int) from by rw [hg]; omega]
      exact ih
    · rw [if_neg (by omega)]
      have hg : g c = (c / 2) ^^^ 2197175160 := by unfold g; rw [if_neg h0]
      rw [show ((c : Int) / 2) = ((c / 2 : Nat) : Int) from by omega, show (2197175160 : Int) = ((2197175160 : Nat) : Int) from rfl, xr_nat _ _ (by omega) (by decide), ← hg]
      exact ih
theorem sum_l0 (l : List Int) (hl : l.length < 140737488355328) : ∀ (d i : Nat), i + d = l.length → ∀ (c : Nat), c < 4294967296 → ∀ k : Nat, 10 * d + 1 ≤ k → frame_Checksum.l0 k (c : Int) l (l.length : Int) (i : Int) = some ((4294967295 ^^^ cs c (l.drop i) : Nat) : Int)
  | 0, i, hi, c, hc, k, hk => by
    obtain ⟨k, rfl⟩ : ∃ m, k = m + 1 := ⟨k - 1, by omega⟩
    simp only [frame_Checksum.l0]
    rw [if_neg (by omega), List.drop_eq_nil_of_le (by omega), show (4294967295 : Int) = ((4294967295 : Nat) : Int) from rfl, xr_nat _ _ (by decide) hc]
    rfl
  | d + 1, i, hi, c, hc, k, hk => by
    obtain ⟨k, rfl⟩ : ∃ m, k = m + 10 := ⟨k - 10, by omega⟩
    have ih := sum_l0 l hl d (i + 1) (by omega) (cb c (l.getD i 0)) (cb_lt _ hc) k (by omega)
    show frame_Checksum.l0 ((k + 9) + 1) _ _ _ _ = _
    simp only [frame_Checksum.l0]
    rw [if_pos (by omega), if_pos (by omega), if_pos (by omega), rd_nat]
    rw [show l.getD i 0 % 4294967296 = (((l.getD i 0 % 4294967296).toNat : Nat) : Int) from by omega, xr_nat _ _ hc (byte_lt _)]
    have := sum_l1 l (l.length : Int) (i : Int) 8 (by omega) (c ^^^ (l.getD i 0 % 4294967296).toNat) (xor_lt hc (byte_lt _)) k
    rw [show (8 : Int) - ((8 : Nat) : Int) = 0 from rfl] at this
    rw [show k + 9 = k + (8 + 1) from rfl, this, w64 (by omega) (by omega), show (i : Int) + 1 = ((i + 1 : Nat) : Int) from by omega]
    rw [drop_getD l i (by omega)]
    exact ih
theorem sum_is (l : List Int) (hl : l.length < 140737488355328) (k : Nat) (hk : 10 * l.length + 1 ≤ k) : frame_Checksum.f k l = some ((sumN l : Nat) : Int) := by
  unfold frame_Checksum.f
  exact sum_l0 l hl l.length 0 (by omega) 4294967295 (by decide) k hk

theorem rsum_l1 (l : List Int) (i : Int) : ∀ (d : Nat), d ≤ 8 → ∀ (c : Nat), c < 4294967296 → ∀ k : Nat, elasticstoreref03_Checksum.l1 (k + (d + 1)) l (c : Int) i (8 - (d : Int)) = elasticstoreref03_Checksum.l0 k l ((gi d c : Nat) : Int) (wrap64 (i + 1))
  | 0, _, c, hc, k => by
    show elasticstoreref03_Checksum.l1 (k + 1) _ _ _ _ = _
    simp only [elasticstoreref03_Checksum.l1]
    rw [if_neg (by omega)]
    rfl
  | d + 1, hd, c, hc, k => by
    have ih := rsum_l1 l i d (by omega) (g c) (g_lt hc) k
    have e : k + (d + 1 + 1) = (k + (d + 1)) + 1 := by omega
    rw [e]
    simp only [elasticstoreref03_Checksum.l1]
    have ew : wrap64 (8 - ((d + 1 : Nat) : Int) + 1) = 8 - (d : Int) := by rw [w64 (by omega) (by omega)]; omega
    have em : Int.tmod (c : Int) 2 = ((c % 2 : Nat) : Int) := by rw [Int.tmod_eq_emod_of_nonneg (by omega)]; omega
    have ed : (Int.tdiv (c : Int) 2) % 4294967296 = ((c / 2 : Nat) : Int) := by rw [Int.tdiv_eq_ediv_of_nonneg (by omega)]; omega
    rw [if_pos (by omega), em, ed, ew]
    by_cases h0 : c % 2 = 0
    · rw [if_neg (by omega)]
      have hg : g c = c / 2 := by unfold g; rw [if_pos h0]
      rw [← hg]
      exact ih
    · rw [if_pos (by omega)]
      have hg : g c = (c / 2) ^^^ 2197175160 := by unfold g; rw [if_neg h0]
      rw [show (2197175160 : Int) = ((2197175160 : Nat) : Int) from rfl, xr_nat _ _ (by omega) (by decide), ← hg]
      exact ih
theorem rsum_l0 (l : List Int) (hl : l.length < 140737488355328) : ∀ (d i : Nat), i + d = l.length → ∀ (c : Nat), c < 4294967296 → ∀ k : Nat, 10 * d + 1 ≤ k → elasticstoreref03_Checksum.l0 k l (c : Int) (i : Int) = some ((4294967295 ^^^ cs c (l.drop i) : Nat) : Int)
  | 0, i, hi, c, hc, k, hk => by
    obtain ⟨k, rfl⟩ : ∃ m, k = m + 1 := ⟨k - 1, by omega⟩
    simp only [elasticstoreref03_Checksum.l0]
    rw [if_neg (by omega), List.drop_eq_nil_of_le (by omega), show (4294967295 : Int) = ((4294967295 : Nat) : Int) from rfl, xr_nat _ _ hc (by decide), Nat.xor_comm]
    rfl
  | d + 1, i, hi, c, hc, k, hk => by
    obtain ⟨k, rfl⟩ : ∃ m, k = m + 10 := ⟨k - 10, by omega⟩
    have ih := rsum_l0 l hl d (i + 1) (by omega) (cb c (l.getD i 0)) (cb_lt _ hc) k (by omega)
    show elasticstoreref03_Checksum.l0 ((k + 9) + 1) _ _ _ = _
    simp only [elasticstoreref03_Checksum.l0]
    rw [if_pos (by omega), if_pos (by omega), rd_nat]
    rw [show l.getD i 0 % 4294967296 = (((l.getD i 0 % 4294967296).toNat : Nat) : Int) from by omega, xr_nat _ _ hc (byte_lt _)]
    have := rsum_l1 l (i : Int) 8 (by omega) (c ^^^ (l.getD i 0 % 4294967296).toNat) (xor_lt hc (byte_lt _)) k
    rw [show (8 : Int) - ((8 : Nat) : Int) = 0 from rfl] at this
    rw [show k + 9 = k + (8 + 1) from rfl, this, w64 (by omega) (by omega), show (i : Int) + 1 = ((i + 1 : Nat) : Int) from by omega]
    rw [drop_getD l i (by omega)]
    exact ih
theorem rsum_is (l : List Int) (hl : l.length < 140737488355328) (k : Nat) (hk : 10 * l.length + 1 ≤ k) : elasticstoreref03_Checksum.f k l = some ((sumN l : Nat) : Int) := by
  unfold elasticstoreref03_Checksum.f
  exact rsum_l0 l hl l.length 0 (by omega) 4294967295 (by decide) k hk
end Go.Proofs.Ytbcllonopnmmeaa.Pure
