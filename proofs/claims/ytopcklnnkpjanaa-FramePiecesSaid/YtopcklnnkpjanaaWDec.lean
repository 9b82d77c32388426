/- Frames: words read, slices cloned and joined, decoding. -/
import Derived.Test.YtopcklnnkpjanaaWSum
namespace Go.Proofs.Ytopcklnnkpjanaa.Abs
open Go Go.RowKit Fr
set_option linter.unusedVariables false
set_option linter.unusedSimpArgs false
set_option maxHeartbeats 4000000
def part (l : List Int) : Nat → Int
  | 0 => 0
  | i + 1 => part l i * 256 + l.getD i 0
theorem part_range {l : List Int} (h : Bytes l) : (0 ≤ part l 0 ∧ part l 0 < 1) ∧ (0 ≤ part l 1 ∧ part l 1 < 256) ∧ (0 ≤ part l 2 ∧ part l 2 < 65536) ∧ (0 ≤ part l 3 ∧ part l 3 < 16777216) := by
  have h0 := h.getD 0
  have h1 := h.getD 1
  have h2 := h.getD 2
  simp only [part]
  omega
theorem part_lt {l : List Int} (h : Bytes l) {i : Nat} (hi : i < 4) : 0 ≤ part l i ∧ part l i < 16777216 := by
  have := part_range h
  match i, hi with
  | 0, _ => omega
  | 1, _ => omega
  | 2, _ => omega
  | 3, _ => omega
theorem part_step {l : List Int} (h : Bytes l) {i : Nat} (hi : i < 4) {x : Int} (hx : l[i]? = some x) : Go.bits .or .u32 (IntKind.u32.wrap (part l i * 2 ^ min 8 IntKind.u32.bits)) (IntKind.u32.wrap x) = part l (i + 1) := by
  have e : (2 : Int) ^ min 8 IntKind.u32.bits = 256 := rfl
  have hp := part_lt h hi
  have hb := h x (List.mem_of_getElem? hx)
  have hg : l.getD i 0 = x := by rw [List.getD_eq_getElem?_getD, hx]; rfl
  rw [e, IntKind.wrap_u32, IntKind.wrap_u32, part, hg, or_sum _ _ (by omega) (by omega) (by omega) (by omega) (by omega)]
  omega
theorem part_word (l : List Int) : part l 4 = word4 l := by simp [part, word4]
theorem word_pure (l : List Int) (hb : Bytes l) (hl : 4 ≤ l.length) : Pure Try.prog 96 [.c (encB l)] (.c (cU (word4 l))) := by
  refine pure_of teOk Try.func96 (by kernel_rfl) (c := _) rfl (N := 18) rfl (rs := [Go.ResultVar.tmp 2]) rfl (by simp) fun base A w0 hA => ?_
  refine AW.st teOk [] (by simp [-Option.some.injEq] <;> rfl) trivial ?_
  refine AW.st teOk [] (by simp [-Option.some.injEq] <;> rfl) trivial ?_
  refine AW.seq ?_
  refine AW.st teOk [] (by simp [-Option.some.injEq] <;> rfl) trivial ?_
  refine AW.block (AW.loop (fun m s => ∃ i : Nat, m = 4 - i ∧ i ≤ 4 ∧ s = ⟨[(0, .c (encB l)), (3, .c (cU (part l i))), (5, .c (cI i))], [], 0⟩) _ (Weak.normT hA [0, 3, 5] [] [] 0 _ (by simp) (by simp) (by simp)) ⟨0, rfl, Nat.zero_le _, by simp [part]⟩ ?_)
  rintro m s ⟨i, rfl, hi, rfl⟩
  refine AW.st teOk [] (by simp [-Option.some.injEq] <;> rfl) trivial ?_
  refine AW.seq (AW.iff (decide (i < 4)) (by simp; omega) (fun h => AW.skip ?_) (fun h => AW.exit (x_then (x_then (blockA_exit ?_)))))
  · rw [decide_eq_true_eq] at h
    obtain ⟨x, hx⟩ : ∃ x, l[i]? = some x := ⟨_, List.getElem?_eq_getElem (by omega)⟩
    have hst := part_step hb h hx
    refine AW.seq (AW.block ?_)
    refine AW.st teOk [] (by simp [-Option.some.injEq] <;> rfl) trivial ?_
    refine AW.text teOk (ans := []) (by simp [hx, hst, -Option.some.injEq] <;> rfl) ?_ ?_
    · first | trivial | omega | (simp [allP, growOk] <;> omega)
    refine AW.text teOk (ans := []) (by simp [-Option.some.injEq] <;> rfl) ?_ ?_
    · trivial
    refine ⟨_, _, Weak.normT hA [0, 3, 5] [] [] 0 _ (by simp) (by simp) (by simp), ?_, i + 1, rfl, h, ?_⟩
    · omega
    · simp
      exact wrap_s i (by omega)
  · rw [decide_eq_false_iff_not] at h
    obtain rfl : i = 4 := by omega
    refine AW.st teOk [] (by simp [-Option.some.injEq] <;> rfl) trivial ?_
    refine AW.ret ⟨.inr rfl, _, Weak.refl _, ?_⟩
    simp [part_word]
theorem four_bits {l : List Int} (hb : Bytes l) : Go.bits .or .u32 (Go.bits .or .u32 (Go.bits .or .u32 (IntKind.u32.wrap (IntKind.u32.wrap (l.getD 0 0) * 2 ^ min 24 IntKind.u32.bits)) (IntKind.u32.wrap (IntKind.u32.wrap (l.getD 1 0) * 2 ^ min 16 IntKind.u32.bits))) (IntKind.u32.wrap (IntKind.u32.wrap (l.getD 2 0) * 2 ^ min 8 IntKind.u32.bits))) (IntKind.u32.wrap (l.getD 3 0)) = word4 l := by
  have g0 := hb.getD 0
  have g1 := hb.getD 1
  have g2 := hb.getD 2
  have g3 := hb.getD 3
  have e1 : (2 : Int) ^ min 24 IntKind.u32.bits = 16777216 := rfl
  have e2 : (2 : Int) ^ min 16 IntKind.u32.bits = 65536 := rfl
  have e3 : (2 : Int) ^ min 8 IntKind.u32.bits = 256 := rfl
  unfold word4
  generalize l.getD 0 0 = x0 at *
  generalize l.getD 1 0 = x1 at *
  generalize l.getD 2 0 = x2 at *
  generalize l.getD 3 0 = x3 at *
  simp only [e1, e2, e3, IntKind.wrap_u32]
  rw [show x0 % 4294967296 * 16777216 % 4294967296 = x0 * 16777216 from by omega, show x1 % 4294967296 * 65536 % 4294967296 = x1 * 65536 from by omega, show x2 % 4294967296 * 256 % 4294967296 = x2 * 256 from by omega, show x3 % 4294967296 = x3 from by omega]
  rw [or_sum24 (x0 * 16777216) (x1 * 65536) (by omega) (by omega) (by omega) (by omega) (by omega), or_sum16 (x0 * 16777216 + x1 * 65536) (x2 * 256) (by omega) (by omega) (by omega) (by omega) (by omega), or_sum (x0 * 16777216 + x1 * 65536 + x2 * 256) x3 (by omega) (by omega) (by omega) (by omega) (by omega)]
  omega
theorem getD_some {l : List Int} {i : Nat} (h : i < l.length) : l[i]? = some (l.getD i 0) := by
  rw [List.getD_eq_getElem?_getD, List.getElem?_eq_getElem h]
  rfl
theorem four_pure (l : List Int) (hb : Bytes l) (hl : 4 ≤ l.length) : Pure Try.prog 98 [.c (encB l)] (.c (cU (word4 l))) := by
  refine pure_of teOk Try.func98 (by kernel_rfl) (c := _) rfl (N := 25) rfl (rs := [Go.ResultVar.tmp 2]) rfl (by simp) fun base A w0 hA => ?_
  have h0 := getD_some (l := l) (i := 0) (by omega)
  have h1 := getD_some (l := l) (i := 1) (by omega)
  have h2 := getD_some (l := l) (i := 2) (by omega)
  have h3 := getD_some (l := l) (i := 3) (by omega)
  have hf := four_bits hb
  obtain ⟨x0, e0⟩ : ∃ x, x = l.getD 0 0 := ⟨_, rfl⟩
  obtain ⟨x1, e1⟩ : ∃ x, x = l.getD 1 0 := ⟨_, rfl⟩
  obtain ⟨x2, e2⟩ : ∃ x, x = l.getD 2 0 := ⟨_, rfl⟩
  obtain ⟨x3, e3⟩ : ∃ x, x = l.getD 3 0 := ⟨_, rfl⟩
  rw [← e0] at h0 hf
  rw [← e1] at h1 hf
  rw [← e2] at h2 hf
  rw [← e3] at h3 hf
  refine AW.st teOk [] (by simp [-Option.some.injEq] <;> rfl) trivial ?_
  refine AW.dr mixed teOk [] (by simp [h0, h1, h2, h3, hf, -Option.some.injEq] <;> rfl) (by kernel_rfl) (by kernel_rfl) ?_ ?_
  · simp [allP]
    omega
  refine AW.ret ⟨.inr rfl, _, Weak.refl _, ?_⟩
  simp
theorem rem_two (c : Nat) : Int.tmod (c : Int) 2 = ((c % 2 : Nat) : Int) := by
  rw [Int.tmod_eq_emod_of_nonneg (by omega)]
  omega
theorem quo_two (c : Nat) (h : c < 4294967296) : IntKind.u32.wrap ((c : Int) / 2) = ((c / 2 : Nat) : Int) := by
  rw [IntKind.wrap_u32]
  omega
theorem sum_out' (c : Nat) (hc : c < 4294967296) : Go.bits .xor .u32 (c : Int) 4294967295 = ((4294967295 ^^^ c : Nat) : Int) := by
  have := xr_nat c 4294967295 hc (by decide)
  rw [Nat.xor_comm] at this
  exact this
theorem rsum_pure (l : List Int) (hb : Bytes l) (hl : l.length < 1000000000000) : Pure Try.prog 99 [.c (encB l)] (.c (cU (sumN l : Nat))) := by
  refine pure_of teOk Try.func99 (by kernel_rfl) (c := _) rfl (N := 33) rfl (rs := [Go.ResultVar.tmp 2]) rfl (by simp) fun base A w0 hA => ?_
  refine AW.st teOk [] (by simp [-Option.some.injEq] <;> rfl) trivial ?_
  refine AW.st teOk [] (by simp [-Option.some.injEq] <;> rfl) trivial ?_
  refine AW.seq ?_
  refine AW.st teOk [] (by simp [-Option.some.injEq] <;> rfl) trivial ?_
  refine AW.block (AW.loop (fun m s => ∃ j c : Nat, m = l.length - j ∧ j ≤ l.length ∧ c < 4294967296 ∧ cs c (l.drop j) = cs 4294967295 l ∧ s = ⟨[(0, .c (encB l)), (3, .c (cU c)), (4, .c (cI j))], [], 0⟩) _ (Weak.normT hA [0, 3, 4] [] [] 0 _ (by simp) (by simp) (by simp)) ⟨0, 4294967295, rfl, Nat.zero_le _, by decide, rfl, by simp⟩ ?_)
  rintro m s ⟨j, c, rfl, hj, hc, hs, rfl⟩
  refine AW.seq ?_
  refine AW.st teOk [] (by simp [-Option.some.injEq] <;> rfl) trivial ?_
  refine AW.iff (decide (j < l.length)) (by simp) (fun h => AW.skip ?_) (fun h => AW.exit (x_then (x_then (blockA_exit ?_))))
  · rw [decide_eq_true_eq] at h
    obtain ⟨x, hx⟩ : ∃ x, l[j]? = some x := ⟨_, List.getElem?_eq_getElem h⟩
    have hd : l.drop j = x :: l.drop (j + 1) := by
      rw [List.drop_eq_getElem_cons h, (List.getElem?_eq_some_iff.1 hx).2]
    have hxb := hb x (List.mem_of_getElem? hx)
    rw [hd] at hs
    have hcb := cb_in c x hc hxb
    have hlt := xor_lt hc (byte_lt x)
    obtain ⟨c1, hc1⟩ : ∃ c1, c1 = c ^^^ (x % 4294967296).toNat := ⟨_, rfl⟩
    rw [← hc1] at hcb hlt
    refine AW.seq (AW.block ?_)
    refine AW.st teOk [] (by simp [hx, hcb, -Option.some.injEq] <;> rfl) ?_ ?_
    · first | trivial | omega | (simp [allP, growOk] <;> omega)
    refine AW.st teOk [] (by simp [-Option.some.injEq] <;> rfl) trivial ?_
    refine AW.block (AW.loop (fun m s => ∃ i q : Nat, m = 8 - i ∧ i ≤ 8 ∧ q < 4294967296 ∧ gi (8 - i) q = gi 8 c1 ∧ s = ⟨[(0, .c (encB l)), (3, .c (cU q)), (4, .c (cI j)), (5, .c (cI i))], [], 0⟩) _ (Weak.normT hA [0, 3, 4, 5] [] [] 0 _ (by simp) (by simp) (by simp)) ⟨0, c1, rfl, Nat.zero_le _, hlt, rfl, by simp⟩ ?_)
    rintro m s ⟨i, q, rfl, hi8, hq, hgi, rfl⟩
    refine AW.seq ?_
    refine AW.st teOk [] (by simp [-Option.some.injEq] <;> rfl) trivial ?_
    refine AW.iff (decide (i < 8)) (by simp; omega) (fun h8 => AW.skip ?_) (fun h8 => AW.exit (x_then (x_then (blockA_exit ?_))))
    · rw [decide_eq_true_eq] at h8
      have hgs : gi (8 - i) q = gi (8 - (i + 1)) (g q) := by rw [show 8 - i = (8 - (i + 1)) + 1 from by omega]; rfl
      rw [hgs] at hgi
      have hrem := rem_two q
      have hquo := quo_two q hq
      have hg := g_lt hq
      obtain ⟨q2, hq2⟩ : ∃ q2, q2 = q / 2 := ⟨_, rfl⟩
      rw [← hq2] at hquo
      refine AW.seq (AW.block ?_)
      refine AW.st teOk [] (by simp [hrem, -Option.some.injEq] <;> rfl) trivial ?_
      by_cases h0 : q % 2 = 0
      · have hgq : g q = q2 := by rw [g, if_pos h0, hq2]
        refine AW.iff false (by simp; omega) (fun h => by cases h) (fun _ => ?_)
        refine AW.text teOk (ans := []) (by simp [hquo, -Option.some.injEq] <;> rfl) ?_ ?_
        · trivial
        refine AW.text teOk (ans := []) (by simp [-Option.some.injEq] <;> rfl) ?_ ?_
        · trivial
        refine ⟨_, _, Weak.normT hA [0, 3, 4, 5] [] [] 0 _ (by simp) (by simp) (by simp), ?_, i + 1, q2, rfl, by omega, by omega, by rw [← hgq]; exact hgi, ?_⟩
        · omega
        · simp
          exact wrap_s i (by omega)
      · have hgq : g q = q2 ^^^ 2197175160 := by rw [g, if_neg h0, hq2]
        have hx2 : Go.bits .xor .u32 (q2 : Int) 2197175160 = ((q2 ^^^ 2197175160 : Nat) : Int) := xr_nat q2 2197175160 (by omega) (by decide)
        rw [← hgq] at hx2
        refine AW.iff true (by simp; omega) (fun _ => ?_) (fun h => by cases h)
        refine AW.text teOk (ans := []) (by simp [hquo, hx2, -Option.some.injEq] <;> rfl) ?_ ?_
        · trivial
        refine AW.text teOk (ans := []) (by simp [-Option.some.injEq] <;> rfl) ?_ ?_
        · trivial
        refine ⟨_, _, Weak.normT hA [0, 3, 4, 5] [] [] 0 _ (by simp) (by simp) (by simp), ?_, i + 1, g q, rfl, by omega, hg, hgi, ?_⟩
        · omega
        · simp
          exact wrap_s i (by omega)
    · rw [decide_eq_false_iff_not] at h8
      rw [show 8 - i = 0 from by omega] at hgi
      refine AW.text teOk (ans := []) (by simp [-Option.some.injEq] <;> rfl) ?_ ?_
      · trivial
      refine ⟨_, _, Weak.normT hA [0, 3, 4] [] [] 0 _ (by simp) (by simp) (by simp), ?_, j + 1, q, rfl, h, hq, ?_, ?_⟩
      · omega
      · rw [← hs, show q = gi 8 c1 from hgi, hc1]; rfl
      · simp
        exact wrap_s j (by omega)
  · rw [decide_eq_false_iff_not] at h
    rw [List.drop_eq_nil_of_le (by omega)] at hs
    have hso := sum_out' c hc
    refine AW.st teOk [] (by simp [hso, -Option.some.injEq] <;> rfl) trivial ?_
    refine AW.ret ⟨.inr rfl, _, Weak.refl _, ?_⟩
    rw [sumN, ← hs]
    simp [cs]
end Go.Proofs.Ytopcklnnkpjanaa.Abs
