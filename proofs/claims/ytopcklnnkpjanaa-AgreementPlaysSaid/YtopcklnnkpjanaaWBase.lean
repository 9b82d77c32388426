/- Helpers of the laws. -/
import Derived.Test.YtopcklnnkpjanaaAbsS
namespace Go.Proofs.Ytopcklnnkpjanaa.Abs
open Go Go.RowKit
set_option linter.unusedVariables false
set_option linter.unusedSimpArgs false

def indexI (x k : Int) : Int := if k < 1 then 0 else (IntKind.i64.wrap (x.tmod k + k)).tmod k
theorem index_pure (x k : Int) : Pure Try.prog 59 [.c (.sc (.int .i64 x)), .c (.sc (.int .i64 k))] (.c (.sc (.int .i64 (indexI x k)))) := by
  refine pure_of teOk Try.func59 (by kernel_rfl) (c := _) rfl (N := 14) rfl (rs := [Go.ResultVar.tmp 4]) rfl (by simp) fun base A w0 hA => ?_
  refine AW.st teOk [] (by simp [-Option.some.injEq] <;> rfl) trivial ?_
  refine AW.seq ?_
  refine AW.st teOk [] (by simp [-Option.some.injEq] <;> rfl) trivial ?_
  refine AW.iff (decide (k < 1)) (by simp) (fun h => ?_) (fun h => ?_)
  · refine AW.st teOk [] (by simp [-Option.some.injEq] <;> rfl) trivial ?_
    refine AW.ret ⟨.inr rfl, _, Weak.refl _, ?_⟩
    simp
    simp only [decide_eq_true_eq] at h
    rw [indexI, if_pos h]
  · simp only [decide_eq_false_iff_not] at h
    refine AW.skip ?_
    refine AW.st teOk [] (by simp [-Option.some.injEq] <;> rfl) ?_ ?_
    · have : k ≠ 0 := by omega
      simp [this]
    refine AW.ret ⟨.inr rfl, _, Weak.refl _, ?_⟩
    simp
    rw [indexI, if_neg h]
def digX (b x : Int) : Nat → Int
  | 0 => x
  | j + 1 => IntKind.i64.wrap ((digX b x j).tdiv b)
def digitI (x b : Int) (i : Nat) : Int := (digX b (indexI x 1099511627776) i).tmod b
theorem digit_pure (x b : Int) (i : Nat) (hb : b ≠ 0) (hi : i < 1000) : Pure Try.prog 45 [.c (.sc (.int .i64 x)), .c (.sc (.int .i64 b)), .c (.sc (.int .i64 i))] (.c (.sc (.int .i64 (digitI x b i)))) := by
  refine pure_of teOk Try.func45 (by kernel_rfl) (c := _) rfl (N := 22) rfl (rs := [Go.ResultVar.tmp 6]) rfl (by simp) fun base A w0 hA => ?_
  refine AW.st teOk [] (by simp [-Option.some.injEq] <;> rfl) trivial ?_
  refine AW.st teOk [.fz (.c (.sc (.int .i64 (indexI x 1099511627776))))] (by simp [-Option.some.injEq] <;> rfl) ?_ ?_
  · exact index_pure _ _
  refine AW.seq ?_
  refine AW.st teOk [] (by simp [-Option.some.injEq] <;> rfl) trivial ?_
  refine AW.block ?_
  refine AW.loop (fun m s => ∃ j : Nat, j ≤ i ∧ m = i - j ∧ s = ⟨[(0, .c (.sc (.int .i64 x))), (1, .c (.sc (.int .i64 b))), (2, .c (.sc (.int .i64 i))), (7, .c (.sc (.int .i64 (digX b (indexI x 1099511627776) j)))), (8, .c (.sc (.int .i64 j)))], [], 0⟩) i (Weak.norm hA [0, 1, 2, 7, 8] [] [] 0 _ rfl (by simp) (by simp)) ⟨0, Nat.zero_le _, rfl, ?_⟩ ?_
  · simp [digX]
  rintro m s ⟨j, hj, rfl, rfl⟩
  refine AW.seq ?_
  refine AW.st teOk [] (by simp [-Option.some.injEq] <;> rfl) trivial ?_
  refine AW.iff (decide (j < i)) (by simp) (fun h => ?_) (fun h => ?_)
  · simp only [decide_eq_true_eq] at h
    refine AW.skip ?_
    refine AW.seq (AW.block ?_)
    refine AW.text teOk (ans := []) (by simp [-Option.some.injEq]; rfl) (by simp [hb]) ?_
    refine AW.text teOk (ans := []) (by simp [-Option.some.injEq]; rfl) (by simp) ?_
    refine ⟨_, _, Weak.norm hA [0, 1, 2, 7, 8] [] [] 0 _ rfl (by simp) (by simp), ?_, j + 1, h, rfl, ?_⟩
    · omega
    · simp [digX]
      exact wrap_s j (by omega)
  · simp only [decide_eq_false_iff_not] at h
    have hji : j = i := by omega
    subst hji
    refine AW.exit (x_then (x_then (blockA_exit ?_)))
    refine AW.st teOk [] (by simp [-Option.some.injEq] <;> rfl) ?_ ?_
    · simp [hb]
    refine AW.ret ⟨.inr rfl, _, Weak.refl _, ?_⟩
    simp
    rw [digitI]
end Go.Proofs.Ytopcklnnkpjanaa.Abs
