/- Frames: the checksum, by the program and by the reference. -/
import Derived.Test.YtopcklnnkpjanaaWFrm
namespace Go.Proofs.Ytopcklnnkpjanaa.Abs
open Go Go.RowKit Fr
set_option linter.unusedVariables false
set_option linter.unusedSimpArgs false
set_option maxHeartbeats 4000000
abbrev cU (n : Int) : Cell := .sc (.int .u32 n)
@[simp] def encb (n : Int) : List Cell := [.sc (.int .u8 n)]
abbrev encB (l : List Int) : Cell := .row 1 false (l.map encb)
@[simp] theorem flat_encb (l : List Int) : flatO ⟨1, l.map encb⟩ = true := flatO_of fun e he => by
  obtain ⟨x, _, rfl⟩ := List.mem_map.1 he
  rfl
@[simp] theorem bytesOf_map (l : List Int) : bytesOf (l.map encb) = some l := by
  induction l with
  | nil => rfl
  | cons x l ih => simp [bytesOf, ih]
theorem shr_one (c : Nat) : Int.fdiv (c : Int) (2 ^ min 1 IntKind.u32.bits) = ((c / 2 : Nat) : Int) := by
  have e : (2 : Int) ^ min 1 IntKind.u32.bits = 2 := rfl
  rw [e, Int.fdiv_eq_ediv_of_nonneg _ (by omega)]
  omega
theorem u32_nat (c : Nat) (h : c < 4294967296) : IntKind.u32.wrap (c : Int) = c := by rw [IntKind.wrap_u32]; omega
theorem cb_in (c : Nat) (x : Int) (hc : c < 4294967296) (hx : 0 ≤ x ∧ x < 256) : Go.bits .xor .u32 (c : Int) (IntKind.u32.wrap x) = ((c ^^^ (x % 4294967296).toNat : Nat) : Int) := by
  have h : IntKind.u32.wrap x = ((x % 4294967296).toNat : Int) := by rw [IntKind.wrap_u32]; omega
  rw [h, xr_nat _ _ hc (byte_lt x)]
theorem gi_succ (d c : Nat) : gi (d + 1) c = gi d (g c) := rfl
theorem sum_out (c : Nat) (hc : c < 4294967296) : Go.bits .xor .u32 (if IntKind.u32.signed = true then -1 else IntKind.u32.max) (c : Int) = ((4294967295 ^^^ c : Nat) : Int) := by
  have : (if IntKind.u32.signed = true then -1 else IntKind.u32.max) = ((4294967295 : Nat) : Int) := rfl
  rw [this, xr_nat _ _ (by decide) hc]
theorem sum_pure (l : List Int) (hb : Bytes l) (hl : l.length < 1000000000000) : Pure Try.prog 67 [.c (encB l)] (.c (cU (sumN l : Nat))) := by
  refine pure_of teOk Try.func67 (by kernel_rfl) (c := _) rfl (N := 31) rfl (rs := [Go.ResultVar.tmp 2]) rfl (by simp) fun base A w0 hA => ?_
  refine AW.st teOk [] (by simp [-Option.some.injEq] <;> rfl) trivial ?_
  refine AW.st teOk [] (by simp [-Option.some.injEq] <;> rfl) trivial ?_
  refine AW.seq ?_
  refine AW.st teOk [] (by simp [-Option.some.injEq] <;> rfl) trivial ?_
  refine AW.block (AW.loop (fun m s => ∃ j c : Nat, m = l.length - j ∧ j ≤ l.length ∧ c < 4294967296 ∧ cs c (l.drop j) = cs 4294967295 l ∧ s = ⟨[(3, .c (cU c)), (7, .c (encB l)), (8, .c (cI l.length)), (9, .c (cI j))], [], 0⟩) _ (Weak.normT hA [3, 7, 8, 9] [] [] 0 _ (by simp) (by simp) (by simp)) ⟨0, 4294967295, rfl, Nat.zero_le _, by decide, rfl, by simp⟩ ?_)
  rintro m s ⟨j, c, rfl, hj, hc, hs, rfl⟩
  refine AW.st teOk [] (by simp [-Option.some.injEq] <;> rfl) trivial ?_
  refine AW.seq (AW.iff (decide (j < l.length)) (by simp) (fun h => AW.skip ?_) (fun h => AW.exit (x_then (x_then (blockA_exit ?_)))))
  · rw [decide_eq_true_eq] at h
    obtain ⟨x, hx⟩ : ∃ x, l[j]? = some x := ⟨_, List.getElem?_eq_getElem h⟩
    have hd : l.drop j = x :: l.drop (j + 1) := by
      rw [List.drop_eq_getElem_cons h, (List.getElem?_eq_some_iff.1 hx).2]
    have hxb := hb x (List.mem_of_getElem? hx)
    rw [hd] at hs
    have hcb := cb_in c x hc hxb
    have hlt := xor_lt hc (byte_lt x)
    obtain ⟨c1, hc1⟩ : ∃ c1, c1 = c ^^^ (x % 4294967296).toNat := ⟨_, rfl⟩
    rw [← hc1] at hcb hlt
    refine AW.seq (AW.block ?_)
    refine AW.st teOk [] (by simp [hx, -Option.some.injEq] <;> rfl) ?_ ?_
    · first | trivial | omega | (simp [allP, growOk] <;> omega)
    refine AW.st teOk [] (by simp [hcb, -Option.some.injEq] <;> rfl) trivial ?_
    refine AW.st teOk [] (by simp [-Option.some.injEq] <;> rfl) trivial ?_
    refine AW.block (AW.loop (fun m s => ∃ i q : Nat, m = 8 - i ∧ i ≤ 8 ∧ q < 4294967296 ∧ gi (8 - i) q = gi 8 c1 ∧ s = ⟨[(3, .c (cU q)), (7, .c (encB l)), (8, .c (cI l.length)), (9, .c (cI j)), (17, .c (cI i))], [], 0⟩) _ (Weak.normT hA [3, 7, 8, 9, 17] [] [] 0 _ (by simp) (by simp) (by simp)) ⟨0, c1, rfl, Nat.zero_le _, hlt, rfl, by simp⟩ ?_)
    rintro m s ⟨i, q, rfl, hi8, hq, hgi, rfl⟩
    refine AW.st teOk [] (by simp [-Option.some.injEq] <;> rfl) trivial ?_
    refine AW.seq (AW.iff (decide (i < 8)) (by simp; omega) (fun h8 => AW.skip ?_) (fun h8 => AW.exit (x_then (x_then (blockA_exit ?_)))))
    · rw [decide_eq_true_eq] at h8
      have hgs : gi (8 - i) q = gi (8 - (i + 1)) (g q) := by rw [show 8 - i = (8 - (i + 1)) + 1 from by omega]; rfl
      rw [hgs] at hgi
      have hand := and_one q hq
      have hshr := shr_one q
      have hg := g_lt hq
      obtain ⟨q2, hq2⟩ : ∃ q2, q2 = q / 2 := ⟨_, rfl⟩
      rw [← hq2] at hshr
      refine AW.seq (AW.block ?_)
      refine AW.st teOk [] (by simp [hand, -Option.some.injEq] <;> rfl) trivial ?_
      refine AW.st teOk [] (by simp [hshr, -Option.some.injEq] <;> rfl) trivial ?_
      refine AW.st teOk [] (by simp [-Option.some.injEq] <;> rfl) trivial ?_
      by_cases h0 : q % 2 = 0
      · have hgq : g q = q2 := by rw [g, if_pos h0, hq2]
        refine AW.iff false (by simp [h0]; omega) (fun h => by cases h) (fun _ => AW.skip ?_)
        refine AW.text teOk (ans := []) (by simp [-Option.some.injEq] <;> rfl) ?_ ?_
        · trivial
        refine ⟨_, _, Weak.normT hA [3, 7, 8, 9, 17] [] [] 0 _ (by simp) (by simp) (by simp), ?_, i + 1, q2, rfl, by omega, by omega, by rw [← hgq]; exact hgi, ?_⟩
        · omega
        · simp
          exact wrap_s i (by omega)
      · have hgq : g q = q2 ^^^ 2197175160 := by rw [g, if_neg h0, hq2]
        have hx2 : Go.bits .xor .u32 (q2 : Int) 2197175160 = ((q2 ^^^ 2197175160 : Nat) : Int) := xr_nat q2 2197175160 (by omega) (by decide)
        rw [← hgq] at hx2
        refine AW.iff true (by simp; omega) (fun _ => ?_) (fun h => by cases h)
        refine AW.text teOk (ans := []) (by simp [hx2, -Option.some.injEq] <;> rfl) ?_ ?_
        · trivial
        refine AW.text teOk (ans := []) (by simp [-Option.some.injEq] <;> rfl) ?_ ?_
        · trivial
        refine ⟨_, _, Weak.normT hA [3, 7, 8, 9, 17] [] [] 0 _ (by simp) (by simp) (by simp), ?_, i + 1, g q, rfl, by omega, hg, hgi, ?_⟩
        · omega
        · simp
          exact wrap_s i (by omega)
    · rw [decide_eq_false_iff_not] at h8
      rw [show 8 - i = 0 from by omega] at hgi
      refine AW.text teOk (ans := []) (by simp [-Option.some.injEq] <;> rfl) ?_ ?_
      · trivial
      refine ⟨_, _, Weak.normT hA [3, 7, 8, 9] [] [] 0 _ (by simp) (by simp) (by simp), ?_, j + 1, q, rfl, h, hq, ?_, ?_⟩
      · omega
      · rw [← hs, show q = gi 8 c1 from hgi, hc1]; rfl
      · simp
        exact wrap_s j (by omega)
  · rw [decide_eq_false_iff_not] at h
    rw [List.drop_eq_nil_of_le (by omega)] at hs
    have hso := sum_out c hc
    refine AW.st teOk [] (by simp [hso, -Option.some.injEq] <;> rfl) trivial ?_
    refine AW.ret ⟨.inr rfl, _, Weak.refl _, ?_⟩
    rw [sumN, ← hs]
    simp [cs]
end Go.Proofs.Ytopcklnnkpjanaa.Abs
