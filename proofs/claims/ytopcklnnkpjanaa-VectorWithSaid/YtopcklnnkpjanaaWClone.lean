/- slices.Clone. -/
import Derived.Test.YtopcklnnkpjanaaAbsS
namespace Go.Proofs.Ytopcklnnkpjanaa.Abs
open Go Go.RowKit
set_option linter.unusedVariables false
set_option linter.unusedSimpArgs false
theorem cloneV_pure (es : List (List Cell)) (hk : ∀ e ∈ es, e.length = 2) (hf : ∀ e ∈ es, e.all frozenC = true) (hb : es.length < 1000000000000) : Pure Try.prog 83 [.c (.row 2 false es)] (.c (.row 2 false es)) := by
  refine pure_of teOk Try.func83 (by kernel_rfl) (c := _) rfl (N := 8) rfl (rs := [Go.ResultVar.tmp 2]) rfl (by simp) fun base A w0 hA => ?_
  refine AW.st teOk [] (by simp [-Option.some.injEq] <;> rfl) trivial ?_
  refine AW.mid (fun s => s = ⟨[(0, .c (.row 2 false es))], [], 0⟩) ?_ ?_
  · by_cases he : es = []
    · subst he
      refine AW.st teOk [] (by simp [-Option.some.injEq] <;> rfl) trivial ?_
      refine AW.either (by simp) ?_ (AW.skip ⟨_, Weak.normT hA [0] [] [] 0 _ (by simp) (by simp) (by simp), by simp⟩)
      refine AW.st teOk [] (by simp [-Option.some.injEq] <;> rfl) trivial ?_
      refine AW.ret ⟨.inr rfl, _, Weak.le 2 _ (by simp <;> rfl) (.c (LeC.nil 2)), ?_⟩
      simp
    · refine AW.st teOk [] (by simp [he, -Option.some.injEq] <;> rfl) trivial ?_
      refine AW.iff false (by simp) (fun h => by cases h) fun _ => AW.skip ⟨_, Weak.normT hA [0] [] [] 0 _ (by simp) (by simp) (by simp), by simp⟩
  · rintro s rfl
    refine AW.st teOk [] (by simp [-Option.some.injEq] <;> rfl) ?_ ?_
    · simp [growOk]
      exact ⟨by omega, hk⟩
    refine AW.ret ⟨.inr rfl, _, Weak.frzT 2 [] _ (by simp; exact ⟨rfl, rfl, rfl⟩) (by simp <;> rfl) (flatO_of hf), ?_⟩
    simp
end Go.Proofs.Ytopcklnnkpjanaa.Abs
