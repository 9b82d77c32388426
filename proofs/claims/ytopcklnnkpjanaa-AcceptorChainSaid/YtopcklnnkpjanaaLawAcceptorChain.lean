/- The row of AcceptorChain: for every input that can be read it returns true. -/
import Derived.Test.YtopcklnnkpjanaaRows
import Derived.Test.YtopcklnnkpjanaaAbsO
import Derived.Test.YtopcklnnkpjanaaFacts
import Derived.Test.YtopcklnnkpjanaaWChain
import Derived.WalkKit
import Derived.ProofKit
import Derived.OpenShut
import Derived.ShutString
import Derived.ChangeOld
import Derived.Below
import Derived.SizedLaws
namespace Go.Proofs.Ytopcklnnkpjanaa.acceptorChain
open Go Go.RowKit Go.ChangeShapes Go.WideShapes Go.ChangeAt Abs
open Go.ChangeMaps (open_string shut_string)
set_option linter.unusedVariables false
set_option maxRecDepth 100000 in
theorem opS109 : OpF Try.prog encE 109 (fun x : (Int × Int) => ((Lit.int .i64 x.1).wf = true ∧ (Lit.int .i64 x.2).wf = true)) := by
  intro H enc w base spare held fuel cs x h
  obtain ⟨xs, n, _, _, hl, hlen, hf⟩ := DataW.trod_struct Try.underlying109 h
  have hC : Try.prog.cellsOf 109 = 2 := by kernel_rfl
  rw [hC] at hl
  match cs, hl, xs, hlen, hf with
  | [v0, v1], _, [y0, y1], _, hf =>
    have c0 : Try.prog.cellsOf 3 = 1 := by kernel_rfl
    have g0 : DataW.trod enc Try.prog w base spare held n 3 [v0] = some y0 := by
      have h_ : DataW.trod enc Try.prog w base spare held n 3 (List.take (Try.prog.cellsOf 3) (List.drop 0 [v0, v1])) = [y0, y1][0]? := hf 0 _ rfl
      rw [c0] at h_
      exact h_
    obtain ⟨a0, k0, w0⟩ := (opF_int Try.underlying3) g0
    have c1 : Try.prog.cellsOf 3 = 1 := by kernel_rfl
    have g1 : DataW.trod enc Try.prog w base spare held n 3 [v1] = some y1 := by
      have h_ : DataW.trod enc Try.prog w base spare held n 3 (List.take (Try.prog.cellsOf 3) (List.drop 1 [v0, v1])) = [y0, y1][1]? := hf 1 _ rfl
      rw [c1] at h_
      exact h_
    obtain ⟨a1, k1, w1⟩ := (opF_int Try.underlying3) g1
    refine ⟨(a0, a1), ⟨rfl, fun i c v hc hv => ?_⟩, ⟨w0, w1⟩⟩
    match i, hc, hv with
    | 0, hc, hv => cases hc; cases hv; exact k0.2 0 _ _ rfl rfl
    | 1, hc, hv => cases hc; cases hv; exact k1.2 0 _ _ rfl rfl
theorem own : ownKnob Try.prog.godebug = none := by kernel_rfl
theorem laidOut : laidOutB Try.prog = true := by kernel_rfl
set_option maxRecDepth 100000 in
theorem lifted (os : Os) (started : os.Started) (H : Type) (enc : TypeId × Value → H) :
    ReturnsInHanded {} Try.checked os 3 .any (Rows.acceptorChainSpec.pre6 enc Try.prog Try.f3 Rows.acceptorChainRow.domain false) (Rows.acceptorChainSpec.post enc Try.prog Try.f3 false true false false) := by
  refine returnsInHanded_of_change_sized (C := Try.checked) own started (by kernel_rfl) Try.func3
    (ChangeSpec.witness6 (enc := enc) (C := Try.checked) false ⟨#[], #[.slice none 0 0], []⟩ 8 (by kernel_rfl) (by kernel_rfl) (by kernel_rfl) (by kernel_rfl)) ?_
  intro W base args ds gs before hval0 hW hcnd hsz0 _
  have hval : ∀ (j : Nat) t v, Try.f3.params[j]? = some t → args[j]? = some v → Value.okWide Try.prog W .any base t v := hval0
  have hW' := hW
  obtain ⟨p, q, hA0, hV, rfl, hfz, hnd⟩ := hW
  have hA : DataW.TrodAll enc Try.prog W 0 (fun _ => true) true Try.f3.params.toList args.toList ds p := hA0
  rw [Try.params3] at hA hval
  obtain ⟨v0, vs0, d0, ds0, p0, q0, hargs, rfl, rfl, h0, r0⟩ := trodAll_cons hA
  obtain ⟨rfl, rfl, rfl⟩ := trodAll_nil r0
  obtain rfl : args = #[v0] := by cases args; simp_all
  obtain ⟨rfl, rfl⟩ := trodVars_none hV
  obtain ⟨a0, len0, cap0, rfl⟩ := okWide_slice Try.underlying22 (hval 0 22 v0 rfl rfl)
  have k0 := h0
  have lt0 : ∀ x ∈ p0, x.block < W.heap.size := by obtain ⟨m, hm⟩ := k0; exact DataW.trod_lt m _ _ _ hm
  obtain ⟨fuel0, hf0⟩ := h0
  obtain ⟨x0, hr0, hw0⟩ := (opF_slice Try.underlying22 (sz := 1) (by kernel_rfl) (by decide) (fun _ => rfl) (opF_slice Try.underlying26 (sz := 2) (by kernel_rfl) (by decide) (fun _ => rfl) opS109)) hf0
  clear hA0 hval0 hsz0
  refine ((chain_law x0 hw0).2 W (inW W) #[.slice a0 len0 cap0] (fun b hb => hb) (repAs_cons (.c (.fz (hr0.2 0 _ _ rfl rfl))) repAs_nil)).mono fun e W' ⟨v, he, hv, bel⟩ => ?_
  obtain ⟨rfl, _⟩ := sc_of hv
  subst he
  exact ⟨_, rfl, _, _, _, [], _, [], hW', trodAll_mk1 (shut_bool Try.underlying4 _), (trodAll_cons_mk (Below.trod laidOut (by kernel_rfl) (of_decide_eq_true (by kernel_rfl)) k0 bel lt0) trodAll_mk0), rfl, bel.frame _, fun h => by cases h⟩
theorem joined : joinedFacts Try.prog 3 Try.f3 Rows.acceptorChainSpec Rows.acceptorChainRow = true := by
  unfold joinedFacts
  rw [mayEnter_, liftsFinal_, make_]
  kernel_rfl
theorem over : Rows.acceptorChainRow.holds Try.pinned (OpenSpec.ofChange Rows.acceptorChainSpec) :=
  OpenClaim.holds_of_wide 3 Try.f3 rfl rfl rfl rfl rfl rfl rfl ⟨rfl, rfl, rfl, rfl, rfl⟩ rfl rfl rfl rfl rfl (by kernel_rfl) Try.func3 joined
    (of_decide_eq_true (by kernel_rfl)) (by unfold Func.isWrapper; first | (rw [if_pos (by decide +kernel)]; kernel_rfl) | (rw [if_neg (by decide +kernel)]; exact ⟨rfl, rfl⟩))
    (fun os started H enc _ => lifted os started H enc)
theorem proved : Rows.AcceptorChainSaid := over
#print axioms proved
end Go.Proofs.Ytopcklnnkpjanaa.acceptorChain
namespace Go.Proofs.Ytopcklnnkpjanaa
/-- The row, under a short name, for the claim. -/
theorem acceptorChain_holds : Rows.AcceptorChainSaid := acceptorChain.proved
end Go.Proofs.Ytopcklnnkpjanaa
