/- FrameFeed and FrameSplit. -/
import Derived.Test.YtopcklnnkpjanaaWFPure
import Derived.Test.YtopcklnnkpjanaaWFAwake
namespace Go.Proofs.Ytopcklnnkpjanaa.Abs
open Go Go.RowKit Fr
set_option linter.unusedVariables false
set_option linter.unusedSimpArgs false
set_option maxHeartbeats 4000000
@[simp] def encS (s : List Int × Int) : List Cell := [encB s.1, cI s.2]
theorem ffeed_law (s : List Int × Int) (b : List Int) (hw0 : (s.1.length ≤ 9223372036854775807 ∧ ∀ x ∈ s.1, (Lit.int .u8 x).wf = true) ∧ (Lit.int .i64 s.2).wf = true) (hw1 : b.length ≤ 9223372036854775807 ∧ ∀ x ∈ b, (Lit.int .u8 x).wf = true) : Pure Try.prog 4 [.agg (encS s), .c (encB b)] (.c (cB true)) := by
  obtain ⟨buf, e⟩ := s
  have hb1 : Bytes buf := Bytes.of hw0.1.2
  have hb2 : Bytes b := Bytes.of hw1.2
  refine pure_of teOk Try.func4 (by kernel_rfl) (c := _) rfl (N := 56) rfl (rs := [Go.ResultVar.tmp 4]) rfl (by simp) fun base A w0 hA => ?_
  refine AW.st teOk [] (by simp [-Option.some.injEq] <;> rfl) trivial ?_
  refine AW.seq ?_
  by_cases h1 : buf.length > 500
  · have h1' : decide ((buf.length : Int) > 500) = true := by simp; omega
    refine AW.st teOk [] (by simp [h1', -Option.some.injEq] <;> rfl) trivial ?_
    refine AW.iff true (by simp) (fun _ => ?_) (fun h => by cases h)
    refine AW.st teOk [.fz (.c (cB true))] (by simp [-Option.some.injEq] <;> rfl) ?_ ?_
    · exact awake02_pure
    refine AW.ret ⟨.inr rfl, _, Weak.refl _, ?_⟩
    simp
  have h1' : decide ((buf.length : Int) > 500) = false := by simp; omega
  by_cases h2 : b.length > 500
  · have h2' : decide ((b.length : Int) > 500) = true := by simp; omega
    refine AW.st teOk [] (by simp [h1', h2', -Option.some.injEq] <;> rfl) trivial ?_
    refine AW.iff true (by simp) (fun _ => ?_) (fun h => by cases h)
    refine AW.st teOk [.fz (.c (cB true))] (by simp [-Option.some.injEq] <;> rfl) ?_ ?_
    · exact awake02_pure
    refine AW.ret ⟨.inr rfl, _, Weak.refl _, ?_⟩
    simp
  have h2' : decide ((b.length : Int) > 500) = false := by simp; omega
  refine AW.st teOk [] (by simp [h1', h2', -Option.some.injEq] <;> rfl) trivial ?_
  refine AW.iff false (by simp) (fun h => by cases h) (fun _ => AW.skip ?_)
  have p1 := feed_pure buf b e hb1 hb2 (by omega) (by omega)
  have p2 := rfeed_pure buf b e hb1 hb2 (by omega) (by omega)
  have hf := feedF_bytes (buf := buf) (b := b) e hb1 hb2
  obtain ⟨⟨⟨rb, re⟩, rl⟩, hr⟩ : ∃ r, r = feedF buf e b := ⟨_, rfl⟩
  rw [← hr] at p1 p2 hf
  dsimp only [encSp] at p1 p2 hf
  refine AW.st teOk [.fz (.tup [.agg [encB rb, cI re], .c (encPs rl)])] (by simp [-Option.some.injEq] <;> rfl) ?_ ?_
  · exact p1
  refine AW.st teOk [.fz (.tup [.c (encB rb), .c (cI re), .c (encPs rl)])] (by simp [-Option.some.injEq] <;> rfl) ?_ ?_
  · exact p2
  refine AW.st teOk [.fz (.c (cB true)), .fz (.c (cB true))] (by simp [-Option.some.injEq] <;> rfl) ?_ ?_
  · have := same_pure rl rl hf.2.1 hf.2.1 (by omega)
    simp at this
    exact ⟨this, awake02_pure⟩
  refine AW.ret ⟨.inr rfl, _, Weak.refl _, ?_⟩
  simp
end Go.Proofs.Ytopcklnnkpjanaa.Abs
