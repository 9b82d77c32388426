/- The row of ProposerDecides: for every input that can be read it returns true. -/
import Derived.Test.YtopcklnnkpjanaaRows
import Derived.Test.YtopcklnnkpjanaaAbsO
import Derived.Test.YtopcklnnkpjanaaFacts
import Derived.Test.YtopcklnnkpjanaaWDecides16
import Derived.WalkKit
import Derived.ProofKit
import Derived.OpenShut
import Derived.ShutString
import Derived.ChangeOld
import Derived.Below
import Derived.SizedLaws
namespace Go.Proofs.Ytopcklnnkpjanaa.proposerDecides
open Go Go.RowKit Go.ChangeShapes Go.WideShapes Go.ChangeAt Abs
open Go.ChangeMaps (open_string shut_string)
set_option linter.unusedVariables false
set_option maxRecDepth 100000 in
theorem opS109 : OpF Try.prog encE 109 (fun x : (Int × Int) => ((Lit.int .i64 x.1).wf = true ∧ (Lit.int .i64 x.2).wf = true)) := by
  intro H enc w base spare held fuel cs x h
  obtain ⟨xs, n, _, _, hl, hlen, hf⟩ := DataW.trod_struct Try.underlying109 h
  have hC : Try.prog.cellsOf 109 = 2 := by kernel_rfl
  rw [hC] at hl
  match cs, hl, xs, hlen, hf with
  | [v0, v1], _, [y0, y1], _, hf =>
    have c0 : Try.prog.cellsOf 3 = 1 := by kernel_rfl
    have g0 : DataW.trod enc Try.prog w base spare held n 3 [v0] = some y0 := by
      have h_ : DataW.trod enc Try.prog w base spare held n 3 (List.take (Try.prog.cellsOf 3) (List.drop 0 [v0, v1])) = [y0, y1][0]? := hf 0 _ rfl
      rw [c0] at h_
      exact h_
    obtain ⟨a0, k0, w0⟩ := (opF_int Try.underlying3) g0
    have c1 : Try.prog.cellsOf 3 = 1 := by kernel_rfl
    have g1 : DataW.trod enc Try.prog w base spare held n 3 [v1] = some y1 := by
      have h_ : DataW.trod enc Try.prog w base spare held n 3 (List.take (Try.prog.cellsOf 3) (List.drop 1 [v0, v1])) = [y0, y1][1]? := hf 1 _ rfl
      rw [c1] at h_
      exact h_
    obtain ⟨a1, k1, w1⟩ := (opF_int Try.underlying3) g1
    refine ⟨(a0, a1), ⟨rfl, fun i c v hc hv => ?_⟩, ⟨w0, w1⟩⟩
    match i, hc, hv with
    | 0, hc, hv => cases hc; cases hv; exact k0.2 0 _ _ rfl rfl
    | 1, hc, hv => cases hc; cases hv; exact k1.2 0 _ _ rfl rfl
theorem own : ownKnob Try.prog.godebug = none := by kernel_rfl
theorem laidOut : laidOutB Try.prog = true := by kernel_rfl
set_option maxRecDepth 100000 in
theorem lifted (os : Os) (started : os.Started) (H : Type) (enc : TypeId × Value → H) :
    ReturnsInHanded {} Try.checked os 8 .any (Rows.proposerDecidesSpec.pre6 enc Try.prog Try.f8 Rows.proposerDecidesRow.domain false) (Rows.proposerDecidesSpec.post enc Try.prog Try.f8 false true false false) := by
  refine returnsInHanded_of_change_sized (C := Try.checked) own started (by kernel_rfl) Try.func8
    (ChangeSpec.witness6 (enc := enc) (C := Try.checked) false ⟨#[], #[.int .u8 0, .slice none 0 0, .slice none 0 0], []⟩ 8 (by kernel_rfl) (by kernel_rfl) (by kernel_rfl) (by kernel_rfl)) ?_
  intro W base args ds gs before hval0 hW hcnd hsz0 _
  have hval : ∀ (j : Nat) t v, Try.f8.params[j]? = some t → args[j]? = some v → Value.okWide Try.prog W .any base t v := hval0
  have hW' := hW
  obtain ⟨p, q, hA0, hV, rfl, hfz, hnd⟩ := hW
  have hA : DataW.TrodAll enc Try.prog W 0 (fun _ => true) true Try.f8.params.toList args.toList ds p := hA0
  rw [Try.params8] at hA hval
  obtain ⟨v0, vs0, d0, ds0, p0, q0, hargs, rfl, rfl, h0, r0⟩ := trodAll_cons hA
  obtain ⟨v1, vs1, d1, ds1, p1, q1, rfl, rfl, rfl, h1, r1⟩ := trodAll_cons r0
  obtain ⟨v2, vs2, d2, ds2, p2, q2, rfl, rfl, rfl, h2, r2⟩ := trodAll_cons r1
  obtain ⟨rfl, rfl, rfl⟩ := trodAll_nil r2
  obtain rfl : args = #[v0, v1, v2] := by cases args; simp_all
  obtain ⟨rfl, rfl⟩ := trodVars_none hV
  obtain ⟨x0, rfl, rfl, rfl, hw0⟩ := open_int Try.underlying5 (hval 0 5 v0 rfl rfl) h0
  obtain ⟨a1, len1, cap1, rfl⟩ := okWide_slice Try.underlying26 (hval 1 26 v1 rfl rfl)
  have k1 := h1
  have lt1 : ∀ x ∈ p1, x.block < W.heap.size := by obtain ⟨m, hm⟩ := k1; exact DataW.trod_lt m _ _ _ hm
  obtain ⟨fuel1, hf1⟩ := h1
  obtain ⟨x1, hr1, hw1⟩ := (opF_slice Try.underlying26 (sz := 2) (by kernel_rfl) (by decide) (fun _ => rfl) opS109) hf1
  obtain ⟨a2, len2, cap2, rfl⟩ := okWide_slice Try.underlying33 (hval 2 33 v2 rfl rfl)
  have k2 := h2
  have lt2 : ∀ x ∈ p2, x.block < W.heap.size := by obtain ⟨m, hm⟩ := k2; exact DataW.trod_lt m _ _ _ hm
  obtain ⟨fuel2, hf2⟩ := h2
  obtain ⟨x2, hr2, hw2⟩ := (opF_slice Try.underlying33 (sz := 1) (by kernel_rfl) (by decide) (fun _ => rfl) (opF_int Try.underlying5)) hf2
  clear hA0 hval0 hsz0
  refine ((pdecides_law x0 x1 x2 hw0 hw1 hw2).2 W (inW W) #[.int .u8 x0, .slice a1 len1 cap1, .slice a2 len2 cap2] (fun b hb => hb) (repAs_cons (.c (.fz (.sc _ rfl))) (repAs_cons (.c (.fz (hr1.2 0 _ _ rfl rfl))) (repAs_cons (.c (.fz (hr2.2 0 _ _ rfl rfl))) repAs_nil)))).mono fun e W' ⟨v, he, hv, bel⟩ => ?_
  obtain ⟨rfl, _⟩ := sc_of hv
  subst he
  exact ⟨_, rfl, _, _, _, [], _, [], hW', trodAll_mk1 (shut_bool Try.underlying4 _), (trodAll_cons_mk (shut_int Try.underlying5 hw0) (trodAll_cons_mk (Below.trod laidOut (by kernel_rfl) (of_decide_eq_true (by kernel_rfl)) k1 bel lt1) (trodAll_cons_mk (Below.trod laidOut (by kernel_rfl) (of_decide_eq_true (by kernel_rfl)) k2 bel lt2) trodAll_mk0))), rfl, bel.frame _, fun h => by cases h⟩
theorem joined : joinedFacts Try.prog 8 Try.f8 Rows.proposerDecidesSpec Rows.proposerDecidesRow = true := by
  unfold joinedFacts
  rw [mayEnter_, liftsFinal_, make_]
  kernel_rfl
theorem over : Rows.proposerDecidesRow.holds Try.pinned (OpenSpec.ofChange Rows.proposerDecidesSpec) :=
  OpenClaim.holds_of_wide 8 Try.f8 rfl rfl rfl rfl rfl rfl rfl ⟨rfl, rfl, rfl, rfl, rfl⟩ rfl rfl rfl rfl rfl (by kernel_rfl) Try.func8 joined
    (of_decide_eq_true (by kernel_rfl)) (by unfold Func.isWrapper; first | (rw [if_pos (by decide +kernel)]; kernel_rfl) | (rw [if_neg (by decide +kernel)]; exact ⟨rfl, rfl⟩))
    (fun os started H enc _ => lifted os started H enc)
theorem proved : Rows.ProposerDecidesSaid := over
#print axioms proved
end Go.Proofs.Ytopcklnnkpjanaa.proposerDecides
namespace Go.Proofs.Ytopcklnnkpjanaa
/-- The row, under a short name, for the claim. -/
theorem proposerDecides_holds : Rows.ProposerDecidesSaid := proposerDecides.proved
end Go.Proofs.Ytopcklnnkpjanaa
