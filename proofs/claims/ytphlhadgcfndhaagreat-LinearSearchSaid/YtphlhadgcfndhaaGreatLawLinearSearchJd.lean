/- The row of LinearSearch: for every input that can be read it returns true. -/
import Derived.Test.YtphlhadgcfndhaaGreatRows
import Derived.Test.YtphlhadgcfndhaaGreatAbsO
import Derived.Test.YtphlhadgcfndhaaGreatFacts
import Derived.Test.YtphlhadgcfndhaaGreatJd16
import Derived.WalkKit
import Derived.ProofKit
import Derived.OpenShut
import Derived.ShutString
import Derived.ChangeOld
import Derived.Below
import Derived.SizedLaws
namespace Go.Proofs.YtphlhadgcfndhaaGreat.linearSearch
open Go Go.RowKit Go.ChangeShapes Go.WideShapes Go.ChangeAt Abs
open Go.ChangeMaps (open_string shut_string)
set_option linter.unusedVariables false
theorem own : ownKnob Tryz.prog.godebug = none := by kernel_rfl
theorem laidOut : laidOutB Tryz.prog = true := by kernel_rfl
set_option maxRecDepth 100000 in
theorem lifted (os : Os) (started : os.Started) (H : Type) (enc : TypeId × Value → H) :
    ReturnsInHanded {} Tryz.checked os 4 .any (Rows.linearSearchSpec.pre6 enc Tryz.prog Tryz.f4 Rows.linearSearchRow.domain false) (Rows.linearSearchSpec.post enc Tryz.prog Tryz.f4 false true false false) := by
  refine returnsInHanded_of_change_sized (C := Tryz.checked) own started (by kernel_rfl) Tryz.func4
    (ChangeSpec.witness6 (enc := enc) (C := Tryz.checked) false ⟨#[], #[.slice none 0 0, .slice none 0 0, .int .i64 0, .int .i64 0], []⟩ 8 (by kernel_rfl) (by kernel_rfl) (by kernel_rfl) (by kernel_rfl)) ?_
  intro W base args ds gs before hval0 hW hcnd hsz0 _
  have hval : ∀ (j : Nat) t v, Tryz.f4.params[j]? = some t → args[j]? = some v → Value.okWide Tryz.prog W .any base t v := hval0
  have hW' := hW
  obtain ⟨p, q, hA0, hV, rfl, hfz, hnd⟩ := hW
  have hA : DataW.TrodAll enc Tryz.prog W 0 (fun _ => true) true Tryz.f4.params.toList args.toList ds p := hA0
  rw [Tryz.params4] at hA hval
  obtain ⟨v0, vs0, d0, ds0, p0, q0, hargs, rfl, rfl, h0, r0⟩ := trodAll_cons hA
  obtain ⟨v1, vs1, d1, ds1, p1, q1, rfl, rfl, rfl, h1, r1⟩ := trodAll_cons r0
  obtain ⟨v2, vs2, d2, ds2, p2, q2, rfl, rfl, rfl, h2, r2⟩ := trodAll_cons r1
  obtain ⟨v3, vs3, d3, ds3, p3, q3, rfl, rfl, rfl, h3, r3⟩ := trodAll_cons r2
  obtain ⟨rfl, rfl, rfl⟩ := trodAll_nil r3
  obtain rfl : args = #[v0, v1, v2, v3] := by cases args; simp_all
  obtain ⟨rfl, rfl⟩ := trodVars_none hV
  obtain ⟨a0, len0, cap0, rfl⟩ := okWide_slice Tryz.underlying22 (hval 0 22 v0 rfl rfl)
  have k0 := h0
  have lt0 : ∀ x ∈ p0, x.block < W.heap.size := by obtain ⟨m, hm⟩ := k0; exact DataW.trod_lt m _ _ _ hm
  obtain ⟨fuel0, hf0⟩ := h0
  obtain ⟨x0, hr0, hw0⟩ := (opF_slice Tryz.underlying22 (sz := 1) (by kernel_rfl) (by decide) (fun _ => rfl) (opF_int Tryz.underlying3)) hf0
  obtain ⟨a1, len1, cap1, rfl⟩ := okWide_slice Tryz.underlying22 (hval 1 22 v1 rfl rfl)
  have k1 := h1
  have lt1 : ∀ x ∈ p1, x.block < W.heap.size := by obtain ⟨m, hm⟩ := k1; exact DataW.trod_lt m _ _ _ hm
  obtain ⟨fuel1, hf1⟩ := h1
  obtain ⟨x1, hr1, hw1⟩ := (opF_slice Tryz.underlying22 (sz := 1) (by kernel_rfl) (by decide) (fun _ => rfl) (opF_int Tryz.underlying3)) hf1
  obtain ⟨x2, rfl, rfl, rfl, hw2⟩ := open_int Tryz.underlying3 (hval 2 3 v2 rfl rfl) h2
  obtain ⟨x3, rfl, rfl, rfl, hw3⟩ := open_int Tryz.underlying3 (hval 3 3 v3 rfl rfl) h3
  have hsz := hsz0
  rw [Tryz.params4] at hsz
  simp only [List.cons_append, List.nil_append, DataW.weightsEach, List.all_append, Bool.and_eq_true] at hsz
  have z0 : x0.length < 4000000000000000000 := by
    have h1 := len_of_weight Tryz.underlying22 (by kernel_rfl) hf0 (hsz.1)
    have h2 := row_len (hr0.2 0 _ _ rfl rfl)
    rw [List.length_map] at h2
    omega
  have z1 : x1.length < 4000000000000000000 := by
    have h1 := len_of_weight Tryz.underlying22 (by kernel_rfl) hf1 (hsz.2.1)
    have h2 := row_len (hr1.2 0 _ _ rfl rfl)
    rw [List.length_map] at h2
    omega
  clear hA0 hval0 hsz0
  refine ((searchL_row x0 x1 x2 x3 z0 z1 hw2 hw3).2 W (inW W) #[.slice a0 len0 cap0, .slice a1 len1 cap1, .int .i64 x2, .int .i64 x3] (fun b hb => hb) (repAs_cons (.c (.fz (hr0.2 0 _ _ rfl rfl))) (repAs_cons (.c (.fz (hr1.2 0 _ _ rfl rfl))) (repAs_cons (.c (.fz (.sc _ rfl))) (repAs_cons (.c (.fz (.sc _ rfl))) repAs_nil))))).mono fun e W' ⟨v, he, hv, bel⟩ => ?_
  obtain ⟨rfl, _⟩ := sc_of hv
  subst he
  exact ⟨_, rfl, _, _, _, [], _, [], hW', trodAll_mk1 (shut_bool Tryz.underlying4 _), (trodAll_cons_mk (Below.trod laidOut (by kernel_rfl) (of_decide_eq_true (by kernel_rfl)) k0 bel lt0) (trodAll_cons_mk (Below.trod laidOut (by kernel_rfl) (of_decide_eq_true (by kernel_rfl)) k1 bel lt1) (trodAll_cons_mk (shut_int Tryz.underlying3 hw2) (trodAll_cons_mk (shut_int Tryz.underlying3 hw3) trodAll_mk0)))), rfl, bel.frame _, fun h => by cases h⟩
theorem joined : joinedFacts Tryz.prog 4 Tryz.f4 Rows.linearSearchSpec Rows.linearSearchRow = true := by
  unfold joinedFacts
  rw [mayEnter_, liftsFinal_, make_]
  kernel_rfl
theorem over : Rows.linearSearchRow.holds Tryz.pinned (OpenSpec.ofChange Rows.linearSearchSpec) :=
  OpenClaim.holds_of_wide 4 Tryz.f4 rfl rfl rfl rfl rfl rfl rfl ⟨rfl, rfl, rfl, rfl, rfl⟩ rfl rfl rfl rfl rfl (by kernel_rfl) Tryz.func4 joined
    (of_decide_eq_true (by kernel_rfl)) (by unfold Func.isWrapper; first | (rw [if_pos (by decide +kernel)]; kernel_rfl) | (rw [if_neg (by decide +kernel)]; exact ⟨rfl, rfl⟩))
    (fun os started H enc _ => lifted os started H enc)
theorem proved : Rows.LinearSearchSaid := over
#print axioms proved
end Go.Proofs.YtphlhadgcfndhaaGreat.linearSearch
namespace Go.Proofs.YtphlhadgcfndhaaGreat
/-- The row, under a short name, for the claim. -/
theorem linearSearch_holds : Rows.LinearSearchSaid := linearSearch.proved
end Go.Proofs.YtphlhadgcfndhaaGreat
