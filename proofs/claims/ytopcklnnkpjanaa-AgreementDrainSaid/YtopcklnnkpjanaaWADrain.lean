/- AgreementDrain. -/
import Derived.Test.YtopcklnnkpjanaaWAEnds
import Derived.Test.YtopcklnnkpjanaaWRgr4
namespace Go.Proofs.Ytopcklnnkpjanaa.Abs
open Go Go.RowKit
set_option linter.unusedVariables false
set_option linter.unusedSimpArgs false
set_option maxHeartbeats 4000000
theorem rnewl_pure (l : List Int) : Pure Try.prog 57 [.c (cI (sizeN l)), .c (.row 1 false ((inputsI l).map encIn))] (.agg (encGr (newG (sizeN l) (inputsI l)))) := rnew_pure _ (by have := (size_is l).2; omega) _ (inputs_ok l)
theorem rrunl_pure (l s : List Int) (hs : s.length ≤ 1000) : Pure Try.prog 56 [.agg (encGr (newG (sizeN l) (inputsI l))), .c (encIs s)] (.agg (encGr (runS (newG (sizeN l) (inputsI l)) s))) := rrun_pure _ (newl_W l) s (by omega)
theorem rendl_pure (l s : List Int) (hs : s.length ≤ 1000) (M : Int) (hM : 700 < M) : Pure Try.prog 55 [.agg (encGr (runS (newG (sizeN l) (inputsI l)) s)), .c (cI M)] (.agg (encGr (endG l s))) := rdrain_pure _ (run_W s (newl_W l)) 700 (runl_pot l s) (by omega) M (by omega)
theorem adrain_pure (l s : List Int) (hl : l.length < 4000000000000000000) (hs : s.length < 4000000000000000000) : Pure Try.prog 12 [.c (encIs l), .c (encIs s)] (.c (cB true)) := by
  have haw := awake17_pure
  refine pure_of teOk Try.func12 (by kernel_rfl) (c := _) rfl (N := 39) rfl (rs := [Go.ResultVar.tmp 4]) rfl (by simp) fun base A w0 hA => ?_
  refine AW.st teOk [] (by simp [-Option.some.injEq] <;> rfl) trivial ?_
  refine AW.seq ?_
  by_cases h60 : (s.length : Int) > 60
  · refine AW.st teOk [] (by simp [h60, -Option.some.injEq] <;> rfl) trivial ?_
    refine AW.iff true (by simp) (fun _ => ?_) (fun h => by cases h)
    refine AW.st teOk [.fz (.c (cB true))] (by simp [-Option.some.injEq] <;> rfl) ?_ ?_
    · exact haw
    refine AW.ret ⟨.inr rfl, _, Weak.refl _, ?_⟩
    simp
  refine AW.st teOk [] (by simp [h60, -Option.some.injEq] <;> rfl) trivial ?_
  refine AW.iff false (by simp) (fun h => by cases h) (fun _ => AW.skip ?_)
  have p1 := size_pure l hl
  have p2 := inputs_pure l hl
  have p3 := newl_pure' l
  have p4 := runl_pure' l s (by omega)
  have p5 := endl_pure l s (by omega)
  have r3 := rnewl_pure l
  have r4 := rrunl_pure l s (by omega)
  have r5 := rendl_pure l s (by omega) 5000 (by omega)
  have hsm := same_pure _ (endG_W l s) (by omega)
  have hpk := endG_pks l s
  generalize endG l s = G at *
  generalize runS (newG (sizeN l) (inputsI l)) s = G1 at *
  generalize newG (sizeN l) (inputsI l) = G0 at *
  generalize inputsI l = I at *
  obtain ⟨accs, props, ins, nxt, pks, decs, steps⟩ := G
  dsimp only at hpk
  subst hpk
  refine AW.st teOk [.fz (.c (cI (sizeN l))), .fz (.c (.row 1 false (I.map encIn))), .fz (.agg (encGr G0)), .fz (.agg (encGr G1)), .fz (.agg (encGr ⟨accs, props, ins, nxt, [], decs, steps⟩))] (by simp [-Option.some.injEq] <;> rfl) ?_ ?_
  · exact ⟨p1, p2, p3, p4, p5⟩
  refine AW.st teOk [.fz (.c (cI (sizeN l))), .fz (.c (.row 1 false (I.map encIn))), .fz (.agg (encGr G0)), .fz (.agg (encGr G1)), .fz (.agg (encGr ⟨accs, props, ins, nxt, [], decs, steps⟩))] (by simp [-Option.some.injEq] <;> rfl) ?_ ?_
  · exact ⟨p1, p2, r3, r4, r5⟩
  refine AW.st teOk [.fz (.c (cB true)), .fz (.c (cB true))] (by simp [-Option.some.injEq] <;> rfl) ?_ ?_
  · exact ⟨hsm, haw⟩
  refine AW.ret ⟨.inr rfl, _, Weak.refl _, ?_⟩
  simp
end Go.Proofs.Ytopcklnnkpjanaa.Abs
