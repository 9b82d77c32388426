/- The row of AgreementMinority: for every input that can be read it returns true. -/
import Derived.Test.YtopcklnnkpjanaaRows
import Derived.Test.YtopcklnnkpjanaaAbsO
import Derived.Test.YtopcklnnkpjanaaFacts
import Derived.Test.YtopcklnnkpjanaaWAMin
import Derived.WalkKit
import Derived.ProofKit
import Derived.OpenShut
import Derived.ShutString
import Derived.ChangeOld
import Derived.Below
import Derived.SizedLaws
namespace Go.Proofs.Ytopcklnnkpjanaa.agreementMinority
open Go Go.RowKit Go.ChangeShapes Go.WideShapes Go.ChangeAt Abs
open Go.ChangeMaps (open_string shut_string)
set_option linter.unusedVariables false
theorem own : ownKnob Try.prog.godebug = none := by kernel_rfl
theorem laidOut : laidOutB Try.prog = true := by kernel_rfl
set_option maxRecDepth 100000 in
theorem lifted (os : Os) (started : os.Started) (H : Type) (enc : TypeId × Value → H) :
    ReturnsInHanded {} Try.checked os 11 .any (Rows.agreementMinoritySpec.pre6 enc Try.prog Try.f11 Rows.agreementMinorityRow.domain false) (Rows.agreementMinoritySpec.post enc Try.prog Try.f11 false true false false) := by
  refine returnsInHanded_of_change_sized (C := Try.checked) own started (by kernel_rfl) Try.func11
    (ChangeSpec.witness6 (enc := enc) (C := Try.checked) false ⟨#[], #[.slice none 0 0, .int .u8 0], []⟩ 8 (by kernel_rfl) (by kernel_rfl) (by kernel_rfl) (by kernel_rfl)) ?_
  intro W base args ds gs before hval0 hW hcnd hsz0 _
  have hval : ∀ (j : Nat) t v, Try.f11.params[j]? = some t → args[j]? = some v → Value.okWide Try.prog W .any base t v := hval0
  have hW' := hW
  obtain ⟨p, q, hA0, hV, rfl, hfz, hnd⟩ := hW
  have hA : DataW.TrodAll enc Try.prog W 0 (fun _ => true) true Try.f11.params.toList args.toList ds p := hA0
  rw [Try.params11] at hA hval
  obtain ⟨v0, vs0, d0, ds0, p0, q0, hargs, rfl, rfl, h0, r0⟩ := trodAll_cons hA
  obtain ⟨v1, vs1, d1, ds1, p1, q1, rfl, rfl, rfl, h1, r1⟩ := trodAll_cons r0
  obtain ⟨rfl, rfl, rfl⟩ := trodAll_nil r1
  obtain rfl : args = #[v0, v1] := by cases args; simp_all
  obtain ⟨rfl, rfl⟩ := trodVars_none hV
  obtain ⟨a0, len0, cap0, rfl⟩ := okWide_slice Try.underlying52 (hval 0 52 v0 rfl rfl)
  have k0 := h0
  have lt0 : ∀ x ∈ p0, x.block < W.heap.size := by obtain ⟨m, hm⟩ := k0; exact DataW.trod_lt m _ _ _ hm
  obtain ⟨fuel0, hf0⟩ := h0
  obtain ⟨x0, hr0, hw0⟩ := (opF_slice Try.underlying52 (sz := 1) (by kernel_rfl) (by decide) (fun _ => rfl) (opF_int Try.underlying3)) hf0
  obtain ⟨x1, rfl, rfl, rfl, hw1⟩ := open_int Try.underlying5 (hval 1 5 v1 rfl rfl) h1
  have hsz := hsz0
  rw [Try.params11] at hsz
  simp only [List.cons_append, List.nil_append, DataW.weightsEach, List.all_append, Bool.and_eq_true] at hsz
  have z0 : x0.length < 4000000000000000000 := by
    have h1 := len_of_weight Try.underlying52 (by kernel_rfl) hf0 (hsz.1)
    have h2 := row_len (hr0.2 0 _ _ rfl rfl)
    rw [List.length_map] at h2
    omega
  clear hA0 hval0 hsz0
  refine ((amin_pure x0 x1 z0 hw1).2 W (inW W) #[.slice a0 len0 cap0, .int .u8 x1] (fun b hb => hb) (repAs_cons (.c (.fz (hr0.2 0 _ _ rfl rfl))) (repAs_cons (.c (.fz (.sc _ rfl))) repAs_nil))).mono fun e W' ⟨v, he, hv, bel⟩ => ?_
  obtain ⟨rfl, _⟩ := sc_of hv
  subst he
  exact ⟨_, rfl, _, _, _, [], _, [], hW', trodAll_mk1 (shut_bool Try.underlying4 _), (trodAll_cons_mk (Below.trod laidOut (by kernel_rfl) (of_decide_eq_true (by kernel_rfl)) k0 bel lt0) (trodAll_cons_mk (shut_int Try.underlying5 hw1) trodAll_mk0)), rfl, bel.frame _, fun h => by cases h⟩
theorem joined : joinedFacts Try.prog 11 Try.f11 Rows.agreementMinoritySpec Rows.agreementMinorityRow = true := by
  unfold joinedFacts
  rw [mayEnter_, liftsFinal_, make_]
  kernel_rfl
theorem over : Rows.agreementMinorityRow.holds Try.pinned (OpenSpec.ofChange Rows.agreementMinoritySpec) :=
  OpenClaim.holds_of_wide 11 Try.f11 rfl rfl rfl rfl rfl rfl rfl ⟨rfl, rfl, rfl, rfl, rfl⟩ rfl rfl rfl rfl rfl (by kernel_rfl) Try.func11 joined
    (of_decide_eq_true (by kernel_rfl)) (by unfold Func.isWrapper; first | (rw [if_pos (by decide +kernel)]; kernel_rfl) | (rw [if_neg (by decide +kernel)]; exact ⟨rfl, rfl⟩))
    (fun os started H enc _ => lifted os started H enc)
theorem proved : Rows.AgreementMinoritySaid := over
#print axioms proved
end Go.Proofs.Ytopcklnnkpjanaa.agreementMinority
namespace Go.Proofs.Ytopcklnnkpjanaa
/-- The row, under a short name, for the claim. -/
theorem agreementMinority_holds : Rows.AgreementMinoritySaid := agreementMinority.proved
end Go.Proofs.Ytopcklnnkpjanaa
