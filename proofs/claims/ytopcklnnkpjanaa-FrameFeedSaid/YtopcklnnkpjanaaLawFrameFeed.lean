/- The row of FrameFeed: for every input that can be read it returns true. -/
import Derived.Test.YtopcklnnkpjanaaRows
import Derived.Test.YtopcklnnkpjanaaAbsO
import Derived.Test.YtopcklnnkpjanaaFacts
import Derived.Test.YtopcklnnkpjanaaWFLaw
import Derived.WalkKit
import Derived.ProofKit
import Derived.OpenShut
import Derived.ShutString
import Derived.ChangeOld
import Derived.Below
import Derived.SizedLaws
namespace Go.Proofs.Ytopcklnnkpjanaa.frameFeed
open Go Go.RowKit Go.ChangeShapes Go.WideShapes Go.ChangeAt Abs
open Go.ChangeMaps (open_string shut_string)
set_option linter.unusedVariables false
set_option maxRecDepth 100000 in
theorem opS36 : OpF Try.prog encS 36 (fun x : (List (Int) × Int) => ((x.1.length ≤ 9223372036854775807 ∧ ∀ xx1 ∈ x.1, (Lit.int .u8 xx1).wf = true) ∧ (Lit.int .i64 x.2).wf = true)) := by
  intro H enc w base spare held fuel cs x h
  obtain ⟨xs, n, _, _, hl, hlen, hf⟩ := DataW.trod_struct Try.underlying36 h
  have hC : Try.prog.cellsOf 36 = 2 := by kernel_rfl
  rw [hC] at hl
  match cs, hl, xs, hlen, hf with
  | [v0, v1], _, [y0, y1], _, hf =>
    have c0 : Try.prog.cellsOf 33 = 1 := by kernel_rfl
    have g0 : DataW.trod enc Try.prog w base spare held n 33 [v0] = some y0 := by
      have h_ : DataW.trod enc Try.prog w base spare held n 33 (List.take (Try.prog.cellsOf 33) (List.drop 0 [v0, v1])) = [y0, y1][0]? := hf 0 _ rfl
      rw [c0] at h_
      exact h_
    obtain ⟨a0, k0, w0⟩ := (opF_slice Try.underlying33 (sz := 1) (by kernel_rfl) (by decide) (fun _ => rfl) (opF_int Try.underlying5)) g0
    have c1 : Try.prog.cellsOf 34 = 1 := by kernel_rfl
    have g1 : DataW.trod enc Try.prog w base spare held n 34 [v1] = some y1 := by
      have h_ : DataW.trod enc Try.prog w base spare held n 34 (List.take (Try.prog.cellsOf 34) (List.drop 1 [v0, v1])) = [y0, y1][1]? := hf 1 _ rfl
      rw [c1] at h_
      exact h_
    obtain ⟨a1, k1, w1⟩ := (opF_int Try.underlying34) g1
    refine ⟨(a0, a1), ⟨rfl, fun i c v hc hv => ?_⟩, ⟨w0, w1⟩⟩
    match i, hc, hv with
    | 0, hc, hv => cases hc; cases hv; exact k0.2 0 _ _ rfl rfl
    | 1, hc, hv => cases hc; cases hv; exact k1.2 0 _ _ rfl rfl
theorem own : ownKnob Try.prog.godebug = none := by kernel_rfl
theorem laidOut : laidOutB Try.prog = true := by kernel_rfl
set_option maxRecDepth 100000 in
theorem lifted (os : Os) (started : os.Started) (H : Type) (enc : TypeId × Value → H) :
    ReturnsInHanded {} Try.checked os 4 .any (Rows.frameFeedSpec.pre6 enc Try.prog Try.f4 Rows.frameFeedRow.domain false) (Rows.frameFeedSpec.post enc Try.prog Try.f4 false true false false) := by
  refine returnsInHanded_of_change_sized (C := Try.checked) own started (by kernel_rfl) Try.func4
    (ChangeSpec.witness6 (enc := enc) (C := Try.checked) false ⟨#[], #[.agg #[.slice none 0 0, .int .i64 0], .slice none 0 0], []⟩ 8 (by kernel_rfl) (by kernel_rfl) (by kernel_rfl) (by kernel_rfl)) ?_
  intro W base args ds gs before hval0 hW hcnd hsz0 _
  have hval : ∀ (j : Nat) t v, Try.f4.params[j]? = some t → args[j]? = some v → Value.okWide Try.prog W .any base t v := hval0
  have hW' := hW
  obtain ⟨p, q, hA0, hV, rfl, hfz, hnd⟩ := hW
  have hA : DataW.TrodAll enc Try.prog W 0 (fun _ => true) true Try.f4.params.toList args.toList ds p := hA0
  rw [Try.params4] at hA hval
  obtain ⟨v0, vs0, d0, ds0, p0, q0, hargs, rfl, rfl, h0, r0⟩ := trodAll_cons hA
  obtain ⟨v1, vs1, d1, ds1, p1, q1, rfl, rfl, rfl, h1, r1⟩ := trodAll_cons r0
  obtain ⟨rfl, rfl, rfl⟩ := trodAll_nil r1
  obtain rfl : args = #[v0, v1] := by cases args; simp_all
  obtain ⟨rfl, rfl⟩ := trodVars_none hV
  obtain ⟨cs0, rfl, _⟩ := okWide_struct Try.underlying36 (hval 0 36 v0 rfl rfl)
  have k0 := h0
  have lt0 : ∀ x ∈ p0, x.block < W.heap.size := by obtain ⟨m, hm⟩ := k0; exact DataW.trod_lt m _ _ _ hm
  obtain ⟨fuel0, hf0⟩ := h0
  obtain ⟨x0, hr0, hw0⟩ := opS36 hf0
  obtain ⟨a1, len1, cap1, rfl⟩ := okWide_slice Try.underlying33 (hval 1 33 v1 rfl rfl)
  have k1 := h1
  have lt1 : ∀ x ∈ p1, x.block < W.heap.size := by obtain ⟨m, hm⟩ := k1; exact DataW.trod_lt m _ _ _ hm
  obtain ⟨fuel1, hf1⟩ := h1
  obtain ⟨x1, hr1, hw1⟩ := (opF_slice Try.underlying33 (sz := 1) (by kernel_rfl) (by decide) (fun _ => rfl) (opF_int Try.underlying5)) hf1
  clear hA0 hval0 hsz0
  refine ((ffeed_law x0 x1 hw0 hw1).2 W (inW W) #[.agg cs0, .slice a1 len1 cap1] (fun b hb => hb) (repAs_cons (repV_agg hr0) (repAs_cons (.c (.fz (hr1.2 0 _ _ rfl rfl))) repAs_nil))).mono fun e W' ⟨v, he, hv, bel⟩ => ?_
  obtain ⟨rfl, _⟩ := sc_of hv
  subst he
  exact ⟨_, rfl, _, _, _, [], _, [], hW', trodAll_mk1 (shut_bool Try.underlying4 _), (trodAll_cons_mk (Below.trod laidOut (by kernel_rfl) (of_decide_eq_true (by kernel_rfl)) k0 bel lt0) (trodAll_cons_mk (Below.trod laidOut (by kernel_rfl) (of_decide_eq_true (by kernel_rfl)) k1 bel lt1) trodAll_mk0)), rfl, bel.frame _, fun h => by cases h⟩
theorem joined : joinedFacts Try.prog 4 Try.f4 Rows.frameFeedSpec Rows.frameFeedRow = true := by
  unfold joinedFacts
  rw [mayEnter_, liftsFinal_, make_]
  kernel_rfl
theorem over : Rows.frameFeedRow.holds Try.pinned (OpenSpec.ofChange Rows.frameFeedSpec) :=
  OpenClaim.holds_of_wide 4 Try.f4 rfl rfl rfl rfl rfl rfl rfl ⟨rfl, rfl, rfl, rfl, rfl⟩ rfl rfl rfl rfl rfl (by kernel_rfl) Try.func4 joined
    (of_decide_eq_true (by kernel_rfl)) (by unfold Func.isWrapper; first | (rw [if_pos (by decide +kernel)]; kernel_rfl) | (rw [if_neg (by decide +kernel)]; exact ⟨rfl, rfl⟩))
    (fun os started H enc _ => lifted os started H enc)
theorem proved : Rows.FrameFeedSaid := over
#print axioms proved
end Go.Proofs.Ytopcklnnkpjanaa.frameFeed
namespace Go.Proofs.Ytopcklnnkpjanaa
/-- The row, under a short name, for the claim. -/
theorem frameFeed_holds : Rows.FrameFeedSaid := frameFeed.proved
end Go.Proofs.Ytopcklnnkpjanaa
