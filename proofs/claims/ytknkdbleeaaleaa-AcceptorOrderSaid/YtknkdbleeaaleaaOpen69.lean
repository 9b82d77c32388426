/- What a struct among the arguments reads as. -/
import Derived.Test.YtknkdbleeaaleaaOpen
import Derived.Test.YtknkdbleeaaleaaPrint0
namespace Go.Proofs.Ytknkdbleeaaleaa.Print
open Go.RowKit Go.ChangeShapes Go.WideShapes Go.Proofs.YtknkdbleeaaleaaW.PrintWords Go.Proofs.YtknkdbleeaaleaaW.PrintLast Go.Proofs.YtknkdbleeaaleaaW.PrintMore
set_option linter.unusedVariables false
set_option linter.unusedSimpArgs false
def Wf69 (x : S69) : Prop := (Lit.int .i64 x.f0).wf = true ∧ (Lit.int .i64 x.f1).wf = true
theorem opens_S69 : Opens Try.prog k69 69 Wf69 := by
  intro H enc w base spare held fuel cs x h
  obtain ⟨xs, n, _, _, hl, hlen, hf⟩ := DataW.trod_struct Try.underlying69 h
  have hC : Try.prog.cellsOf 69 = 2 := by kernel_rfl
  rw [hC] at hl
  match cs, hl, xs, hlen, hf with
  | [v0, v1], _, [y0, y1], _, hf =>
    have c0 : Try.prog.cellsOf 3 = 1 := by kernel_rfl
    have g0 : DataW.trod enc Try.prog w base spare held n 3 [v0] = some y0 := by
      have h_ : DataW.trod enc Try.prog w base spare held n 3 (List.take (Try.prog.cellsOf 3) (List.drop 0 [v0, v1])) = [y0, y1][0]? := hf 0 _ rfl
      rw [c0] at h_
      exact h_
    obtain ⟨a0, k0_, w0⟩ := (opens_int Try.underlying3) g0
    have c1 : Try.prog.cellsOf 3 = 1 := by kernel_rfl
    have g1 : DataW.trod enc Try.prog w base spare held n 3 [v1] = some y1 := by
      have h_ : DataW.trod enc Try.prog w base spare held n 3 (List.take (Try.prog.cellsOf 3) (List.drop 1 [v0, v1])) = [y0, y1][1]? := hf 1 _ rfl
      rw [c1] at h_
      exact h_
    obtain ⟨a1, k1_, w1⟩ := (opens_int Try.underlying3) g1
    exact ⟨⟨a0, a1⟩, ⟨[v0], [v1], rfl, k0_, k1_⟩, ⟨w0, w1⟩⟩
end Go.Proofs.Ytknkdbleeaaleaa.Print
