/- Frames as lists of numbers: the checksum, what decoding answers, and what it gives of a frame. -/
import Derived.Test.YtopcklnnkpjanaaWAcc
import Derived.IntWalk
namespace Go.Proofs.Ytopcklnnkpjanaa.Abs
open Go Go.RowKit
set_option linter.unusedVariables false
set_option linter.unusedSimpArgs false
namespace Fr
theorem xr_nat (a b : Nat) (ha : a < 4294967296) (hb : b < 4294967296) : Go.bits .xor .u32 (a : Int) (b : Int) = ((a ^^^ b : Nat) : Int) := by
  have h32 : (2 : Nat) ^ 32 = 4294967296 := by decide
  have ha' : a % 2 ^ IntKind.u32.bits = a := Nat.mod_eq_of_lt (by show a < 2 ^ 32; rw [h32]; exact ha)
  have hb' : b % 2 ^ IntKind.u32.bits = b := Nat.mod_eq_of_lt (by show b < 2 ^ 32; rw [h32]; exact hb)
  have hx : a ^^^ b < 4294967296 := by
    have := Nat.xor_lt_two_pow (n := 32) (show a < 2 ^ 32 by rw [h32]; exact ha) (show b < 2 ^ 32 by rw [h32]; exact hb)
    rwa [h32] at this
  simp only [Go.bits, BitVec.ofInt_natCast, BitVec.toNat_xor, BitVec.toNat_ofNat, ha', hb', IntKind.wrap_u32]
  omega

theorem wraps_u32 (n : Int) (h0 : 0 ≤ n) (h1 : n < 2 ^ 32) : IntKind.u32.wrap n = n := by rw [IntKind.wrap_u32]; omega
theorem and_one (c : Nat) (h : c < 4294967296) : Go.bits .and .u32 (c : Int) 1 = ((c % 2 : Nat) : Int) := by
  have := bits_mask .u32 32 (by decide) wraps_u32 1 (by decide) (c : Int) (by omega) (by omega)
  have h2 : ((2 : Int) ^ 1 - 1) = 1 := by decide
  rw [h2] at this
  rw [this]
  omega
theorem or_sum (x y : Int) (hx0 : 0 ≤ x) (hx : x % 256 = 0) (hx1 : x < 4294967296) (hy0 : 0 ≤ y) (hy : y < 256) : Go.bits .or .u32 x y = x + y :=
  bits_join .u32 32 (by decide) wraps_u32 8 x y hx0 (by omega) (by omega) hy0 (by omega) (by omega)
theorem or_sum16 (x y : Int) (hx0 : 0 ≤ x) (hx : x % 65536 = 0) (hx1 : x < 4294967296) (hy0 : 0 ≤ y) (hy : y < 65536) : Go.bits .or .u32 x y = x + y :=
  bits_join .u32 32 (by decide) wraps_u32 16 x y hx0 (by omega) (by omega) hy0 (by omega) (by omega)
theorem or_sum24 (x y : Int) (hx0 : 0 ≤ x) (hx : x % 16777216 = 0) (hx1 : x < 4294967296) (hy0 : 0 ≤ y) (hy : y < 16777216) : Go.bits .or .u32 x y = x + y :=
  bits_join .u32 32 (by decide) wraps_u32 24 x y hx0 (by omega) (by omega) hy0 (by omega) (by omega)


/-- One bit of the checksum's register. -/
def g (c : Nat) : Nat := if c % 2 = 0 then c / 2 else (c / 2) ^^^ 2197175160
def gi : Nat → Nat → Nat
  | 0, c => c
  | d + 1, c => gi d (g c)
def cb (c : Nat) (x : Int) : Nat := gi 8 (c ^^^ (x % 4294967296).toNat)
def cs (c : Nat) (l : List Int) : Nat := l.foldl cb c
def sumN (l : List Int) : Nat := 4294967295 ^^^ cs 4294967295 l
theorem xor_lt {a b : Nat} (ha : a < 4294967296) (hb : b < 4294967296) : a ^^^ b < 4294967296 := by
  have h32 : (2 : Nat) ^ 32 = 4294967296 := by decide
  have := Nat.xor_lt_two_pow (n := 32) (show a < 2 ^ 32 by rw [h32]; exact ha) (show b < 2 ^ 32 by rw [h32]; exact hb)
  rwa [h32] at this
theorem g_lt {c : Nat} (h : c < 4294967296) : g c < 4294967296 := by
  unfold g
  split
  · omega
  · exact xor_lt (by omega) (by decide)
theorem gi_lt : ∀ (d : Nat) {c : Nat}, c < 4294967296 → gi d c < 4294967296
  | 0, _, h => h
  | d + 1, _, h => gi_lt d (g_lt h)

theorem byte_lt (x : Int) : (x % 4294967296).toNat < 4294967296 := by omega
theorem cb_lt {c : Nat} (x : Int) (h : c < 4294967296) : cb c x < 4294967296 := gi_lt 8 (xor_lt h (byte_lt x))
theorem cs_lt : ∀ (l : List Int) {c : Nat}, c < 4294967296 → cs c l < 4294967296
  | [], _, h => h
  | x :: l, _, h => cs_lt l (cb_lt x h)
theorem sumN_lt (l : List Int) : sumN l < 4294967296 := xor_lt (by decide) (cs_lt l (by decide))
def Bytes (l : List Int) : Prop := ∀ x ∈ l, 0 ≤ x ∧ x < 256
theorem wf_u8 {x : Int} (h : (Lit.int .u8 x).wf = true) : 0 ≤ x ∧ x < 256 := by
  simp [Lit.wf, IntKind.min, IntKind.max, IntKind.signed, IntKind.bits] at h
  omega
theorem wf_u16 {x : Int} (h : (Lit.int .u16 x).wf = true) : 0 ≤ x ∧ x < 65536 := by
  simp [Lit.wf, IntKind.min, IntKind.max, IntKind.signed, IntKind.bits] at h
  omega
theorem Bytes.of {l : List Int} (h : ∀ x ∈ l, (Lit.int .u8 x).wf = true) : Bytes l := fun x hx => wf_u8 (h x hx)
theorem Bytes.getD {l : List Int} (h : Bytes l) (i : Nat) : 0 ≤ l.getD i 0 ∧ l.getD i 0 < 256 := by
  rw [List.getD_eq_getElem?_getD]
  rcases Nat.lt_or_ge i l.length with hi | hi
  · rw [List.getElem?_eq_getElem hi]
    exact h _ (List.getElem_mem hi)
  · rw [List.getElem?_eq_none hi]
    simp
theorem Bytes.append {a b : List Int} (ha : Bytes a) (hb : Bytes b) : Bytes (a ++ b) := fun x hx => (List.mem_append.1 hx).elim (ha x) (hb x)
theorem Bytes.drop {a : List Int} (ha : Bytes a) (n : Nat) : Bytes (a.drop n) := fun x hx => ha x (List.mem_of_mem_drop hx)
theorem Bytes.take {a : List Int} (ha : Bytes a) (n : Nat) : Bytes (a.take n) := fun x hx => ha x (List.mem_of_mem_take hx)

def be4 (n : Int) : List Int := [(n / 16777216) % 256, (n / 65536) % 256, (n / 256) % 256, n % 256]
theorem be4_bytes (n : Int) : Bytes (be4 n) := by
  intro x hx
  simp [be4] at hx
  omega
def word4 (l : List Int) : Int := ((l.getD 0 0 * 256 + l.getD 1 0) * 256 + l.getD 2 0) * 256 + l.getD 3 0
theorem word4_range {l : List Int} (h : Bytes l) : 0 ≤ word4 l ∧ word4 l < 4294967296 := by
  have h0 := h.getD 0
  have h1 := h.getD 1
  have h2 := h.getD 2
  have h3 := h.getD 3
  unfold word4
  omega
theorem word4_be4 (n : Int) (h0 : 0 ≤ n) (h1 : n < 4294967296) (t : List Int) : word4 (be4 n ++ t) = n := by
  simp only [word4, be4, List.cons_append, List.nil_append, List.getD_cons_zero, List.getD_cons_succ]
  omega


def Dec (l : List Int) : List Int × Int × Int :=
  if l.length < 4 then ([], 0, 1)
  else if word4 l > 65536 then ([], 0, 3)
  else if (l.length : Int) < word4 l + 8 then ([], 0, 1)
  else if word4 (l.drop (4 + (word4 l).toNat)) = ((sumN (l.take (4 + (word4 l).toNat)) : Nat) : Int) then ((l.take (4 + (word4 l).toNat)).drop 4, word4 l + 8, 0)
  else ([], 0, 4)

def frm (p : List Int) : List Int := (be4 p.length ++ p) ++ be4 ((sumN (be4 p.length ++ p) : Nat) : Int)
theorem frm_length (p : List Int) : (frm p).length = p.length + 8 := by simp [frm, be4]
theorem frm_bytes {p : List Int} (h : Bytes p) : Bytes (frm p) := ((be4_bytes _).append h).append (be4_bytes _)

theorem frm_word (p t : List Int) (hp : p.length ≤ 65536) : word4 (frm p ++ t) = p.length := by
  unfold frm
  rw [List.append_assoc, List.append_assoc]
  exact word4_be4 _ (by omega) (by omega) _
theorem frm_take (p t : List Int) : (frm p ++ t).take (4 + p.length) = be4 p.length ++ p := by
  unfold frm
  rw [List.append_assoc]
  rw [List.take_append_of_le_length (by simp [be4]; omega)]
  exact List.take_of_length_le (by simp [be4]; omega)
theorem frm_drop (p t : List Int) : (frm p ++ t).drop (4 + p.length) = be4 ((sumN (be4 p.length ++ p) : Nat) : Int) ++ t := by
  unfold frm
  rw [List.append_assoc]
  have h : 4 + p.length = (be4 (p.length : Int) ++ p).length := by simp [be4]; omega
  rw [h, List.drop_left]
theorem dec_frm (p t : List Int) (hp : p.length ≤ 65536) : Dec (frm p ++ t) = (p, (p.length : Int) + 8, 0) := by
  unfold Dec
  have hl : (frm p ++ t).length = p.length + 8 + t.length := by rw [List.length_append, frm_length]
  rw [if_neg (by omega), frm_word p t hp, if_neg (by omega), if_neg (by omega), Int.toNat_natCast, frm_take, frm_drop]
  have hs := sumN_lt (be4 p.length ++ p)
  rw [if_pos (word4_be4 _ (by omega) (by omega) t)]
  simp [be4]

theorem word4_congr {a b : List Int} (h : a.take 4 = b.take 4) : word4 a = word4 b := by
  have hg : ∀ i, i < 4 → a.getD i 0 = b.getD i 0 := fun i hi => by
    have := congrArg (fun l : List Int => l[i]?) h
    simp only [List.getElem?_take, hi, if_true] at this
    rw [List.getD_eq_getElem?_getD, List.getD_eq_getElem?_getD, this]
  unfold word4
  rw [hg 0 (by omega), hg 1 (by omega), hg 2 (by omega), hg 3 (by omega)]
end Fr
end Go.Proofs.Ytopcklnnkpjanaa.Abs
