/- The row of LinearStep: for every input that can be read it returns true. -/
import Derived.Test.YtphlhadgcfndhaaRows
import Derived.Test.YtphlhadgcfndhaaAbsO
import Derived.Test.YtphlhadgcfndhaaFacts
import Derived.Test.YtphlhadgcfndhaaJd13
import Derived.WalkKit
import Derived.ProofKit
import Derived.OpenShut
import Derived.ShutString
import Derived.ChangeOld
import Derived.Below
import Derived.SizedLaws
namespace Go.Proofs.Ytphlhadgcfndhaa.linearStep
open Go Go.RowKit Go.ChangeShapes Go.WideShapes Go.ChangeAt Abs
open Go.ChangeMaps (open_string shut_string)
set_option linter.unusedVariables false
set_option maxRecDepth 100000 in
theorem opS29 : OpF Try.prog encE5 29 (fun x : (Int × ByteArray × ByteArray × Int × ByteArray) => ((Lit.int .i64 x.1).wf = true ∧ x.2.1.size ≤ maxLen ∧ x.2.2.1.size ≤ maxLen ∧ (Lit.int .i64 x.2.2.2.1).wf = true ∧ x.2.2.2.2.size ≤ maxLen)) := by
  intro H enc w base spare held fuel cs x h
  obtain ⟨xs, n, _, _, hl, hlen, hf⟩ := DataW.trod_struct Try.underlying29 h
  have hC : Try.prog.cellsOf 29 = 5 := by kernel_rfl
  rw [hC] at hl
  match cs, hl, xs, hlen, hf with
  | [v0, v1, v2, v3, v4], _, [y0, y1, y2, y3, y4], _, hf =>
    have c0 : Try.prog.cellsOf 3 = 1 := by kernel_rfl
    have g0 : DataW.trod enc Try.prog w base spare held n 3 [v0] = some y0 := by
      have h_ : DataW.trod enc Try.prog w base spare held n 3 (List.take (Try.prog.cellsOf 3) (List.drop 0 [v0, v1, v2, v3, v4])) = [y0, y1, y2, y3, y4][0]? := hf 0 _ rfl
      rw [c0] at h_
      exact h_
    obtain ⟨a0, k0, w0⟩ := (opF_int Try.underlying3) g0
    have c1 : Try.prog.cellsOf 9 = 1 := by kernel_rfl
    have g1 : DataW.trod enc Try.prog w base spare held n 9 [v1] = some y1 := by
      have h_ : DataW.trod enc Try.prog w base spare held n 9 (List.take (Try.prog.cellsOf 9) (List.drop 1 [v0, v1, v2, v3, v4])) = [y0, y1, y2, y3, y4][1]? := hf 1 _ rfl
      rw [c1] at h_
      exact h_
    obtain ⟨a1, k1, w1⟩ := (opF_str Try.underlying9) g1
    have c2 : Try.prog.cellsOf 9 = 1 := by kernel_rfl
    have g2 : DataW.trod enc Try.prog w base spare held n 9 [v2] = some y2 := by
      have h_ : DataW.trod enc Try.prog w base spare held n 9 (List.take (Try.prog.cellsOf 9) (List.drop 2 [v0, v1, v2, v3, v4])) = [y0, y1, y2, y3, y4][2]? := hf 2 _ rfl
      rw [c2] at h_
      exact h_
    obtain ⟨a2, k2, w2⟩ := (opF_str Try.underlying9) g2
    have c3 : Try.prog.cellsOf 2 = 1 := by kernel_rfl
    have g3 : DataW.trod enc Try.prog w base spare held n 2 [v3] = some y3 := by
      have h_ : DataW.trod enc Try.prog w base spare held n 2 (List.take (Try.prog.cellsOf 2) (List.drop 3 [v0, v1, v2, v3, v4])) = [y0, y1, y2, y3, y4][3]? := hf 3 _ rfl
      rw [c3] at h_
      exact h_
    obtain ⟨a3, k3, w3⟩ := (opF_int Try.underlying2) g3
    have c4 : Try.prog.cellsOf 9 = 1 := by kernel_rfl
    have g4 : DataW.trod enc Try.prog w base spare held n 9 [v4] = some y4 := by
      have h_ : DataW.trod enc Try.prog w base spare held n 9 (List.take (Try.prog.cellsOf 9) (List.drop 4 [v0, v1, v2, v3, v4])) = [y0, y1, y2, y3, y4][4]? := hf 4 _ rfl
      rw [c4] at h_
      exact h_
    obtain ⟨a4, k4, w4⟩ := (opF_str Try.underlying9) g4
    refine ⟨(a0, a1, a2, a3, a4), ⟨rfl, fun i c v hc hv => ?_⟩, ⟨w0, w1, w2, w3, w4⟩⟩
    match i, hc, hv with
    | 0, hc, hv => cases hc; cases hv; exact k0.2 0 _ _ rfl rfl
    | 1, hc, hv => cases hc; cases hv; exact k1.2 0 _ _ rfl rfl
    | 2, hc, hv => cases hc; cases hv; exact k2.2 0 _ _ rfl rfl
    | 3, hc, hv => cases hc; cases hv; exact k3.2 0 _ _ rfl rfl
    | 4, hc, hv => cases hc; cases hv; exact k4.2 0 _ _ rfl rfl
set_option maxRecDepth 100000 in
theorem opS46 : OpF Try.prog encH10 46 (fun x : (ByteArray × ByteArray × Bool × Int × ByteArray × Bool × Int × Int × List (ByteArray) × Bool) => (x.1.size ≤ maxLen ∧ x.2.1.size ≤ maxLen ∧ True ∧ (Lit.int .i64 x.2.2.2.1).wf = true ∧ x.2.2.2.2.1.size ≤ maxLen ∧ True ∧ (Lit.int .i64 x.2.2.2.2.2.2.1).wf = true ∧ (Lit.int .i64 x.2.2.2.2.2.2.2.1).wf = true ∧ (x.2.2.2.2.2.2.2.2.1.length ≤ 9223372036854775807 ∧ ∀ xx222222221 ∈ x.2.2.2.2.2.2.2.2.1, xx222222221.size ≤ maxLen) ∧ True)) := by
  intro H enc w base spare held fuel cs x h
  obtain ⟨xs, n, _, _, hl, hlen, hf⟩ := DataW.trod_struct Try.underlying46 h
  have hC : Try.prog.cellsOf 46 = 10 := by kernel_rfl
  rw [hC] at hl
  match cs, hl, xs, hlen, hf with
  | [v0, v1, v2, v3, v4, v5, v6, v7, v8, v9], _, [y0, y1, y2, y3, y4, y5, y6, y7, y8, y9], _, hf =>
    have c0 : Try.prog.cellsOf 9 = 1 := by kernel_rfl
    have g0 : DataW.trod enc Try.prog w base spare held n 9 [v0] = some y0 := by
      have h_ : DataW.trod enc Try.prog w base spare held n 9 (List.take (Try.prog.cellsOf 9) (List.drop 0 [v0, v1, v2, v3, v4, v5, v6, v7, v8, v9])) = [y0, y1, y2, y3, y4, y5, y6, y7, y8, y9][0]? := hf 0 _ rfl
      rw [c0] at h_
      exact h_
    obtain ⟨a0, k0, w0⟩ := (opF_str Try.underlying9) g0
    have c1 : Try.prog.cellsOf 9 = 1 := by kernel_rfl
    have g1 : DataW.trod enc Try.prog w base spare held n 9 [v1] = some y1 := by
      have h_ : DataW.trod enc Try.prog w base spare held n 9 (List.take (Try.prog.cellsOf 9) (List.drop 1 [v0, v1, v2, v3, v4, v5, v6, v7, v8, v9])) = [y0, y1, y2, y3, y4, y5, y6, y7, y8, y9][1]? := hf 1 _ rfl
      rw [c1] at h_
      exact h_
    obtain ⟨a1, k1, w1⟩ := (opF_str Try.underlying9) g1
    have c2 : Try.prog.cellsOf 4 = 1 := by kernel_rfl
    have g2 : DataW.trod enc Try.prog w base spare held n 4 [v2] = some y2 := by
      have h_ : DataW.trod enc Try.prog w base spare held n 4 (List.take (Try.prog.cellsOf 4) (List.drop 2 [v0, v1, v2, v3, v4, v5, v6, v7, v8, v9])) = [y0, y1, y2, y3, y4, y5, y6, y7, y8, y9][2]? := hf 2 _ rfl
      rw [c2] at h_
      exact h_
    obtain ⟨a2, k2, w2⟩ := (opF_bool Try.underlying4) g2
    have c3 : Try.prog.cellsOf 2 = 1 := by kernel_rfl
    have g3 : DataW.trod enc Try.prog w base spare held n 2 [v3] = some y3 := by
      have h_ : DataW.trod enc Try.prog w base spare held n 2 (List.take (Try.prog.cellsOf 2) (List.drop 3 [v0, v1, v2, v3, v4, v5, v6, v7, v8, v9])) = [y0, y1, y2, y3, y4, y5, y6, y7, y8, y9][3]? := hf 3 _ rfl
      rw [c3] at h_
      exact h_
    obtain ⟨a3, k3, w3⟩ := (opF_int Try.underlying2) g3
    have c4 : Try.prog.cellsOf 9 = 1 := by kernel_rfl
    have g4 : DataW.trod enc Try.prog w base spare held n 9 [v4] = some y4 := by
      have h_ : DataW.trod enc Try.prog w base spare held n 9 (List.take (Try.prog.cellsOf 9) (List.drop 4 [v0, v1, v2, v3, v4, v5, v6, v7, v8, v9])) = [y0, y1, y2, y3, y4, y5, y6, y7, y8, y9][4]? := hf 4 _ rfl
      rw [c4] at h_
      exact h_
    obtain ⟨a4, k4, w4⟩ := (opF_str Try.underlying9) g4
    have c5 : Try.prog.cellsOf 4 = 1 := by kernel_rfl
    have g5 : DataW.trod enc Try.prog w base spare held n 4 [v5] = some y5 := by
      have h_ : DataW.trod enc Try.prog w base spare held n 4 (List.take (Try.prog.cellsOf 4) (List.drop 5 [v0, v1, v2, v3, v4, v5, v6, v7, v8, v9])) = [y0, y1, y2, y3, y4, y5, y6, y7, y8, y9][5]? := hf 5 _ rfl
      rw [c5] at h_
      exact h_
    obtain ⟨a5, k5, w5⟩ := (opF_bool Try.underlying4) g5
    have c6 : Try.prog.cellsOf 2 = 1 := by kernel_rfl
    have g6 : DataW.trod enc Try.prog w base spare held n 2 [v6] = some y6 := by
      have h_ : DataW.trod enc Try.prog w base spare held n 2 (List.take (Try.prog.cellsOf 2) (List.drop 6 [v0, v1, v2, v3, v4, v5, v6, v7, v8, v9])) = [y0, y1, y2, y3, y4, y5, y6, y7, y8, y9][6]? := hf 6 _ rfl
      rw [c6] at h_
      exact h_
    obtain ⟨a6, k6, w6⟩ := (opF_int Try.underlying2) g6
    have c7 : Try.prog.cellsOf 2 = 1 := by kernel_rfl
    have g7 : DataW.trod enc Try.prog w base spare held n 2 [v7] = some y7 := by
      have h_ : DataW.trod enc Try.prog w base spare held n 2 (List.take (Try.prog.cellsOf 2) (List.drop 7 [v0, v1, v2, v3, v4, v5, v6, v7, v8, v9])) = [y0, y1, y2, y3, y4, y5, y6, y7, y8, y9][7]? := hf 7 _ rfl
      rw [c7] at h_
      exact h_
    obtain ⟨a7, k7, w7⟩ := (opF_int Try.underlying2) g7
    have c8 : Try.prog.cellsOf 44 = 1 := by kernel_rfl
    have g8 : DataW.trod enc Try.prog w base spare held n 44 [v8] = some y8 := by
      have h_ : DataW.trod enc Try.prog w base spare held n 44 (List.take (Try.prog.cellsOf 44) (List.drop 8 [v0, v1, v2, v3, v4, v5, v6, v7, v8, v9])) = [y0, y1, y2, y3, y4, y5, y6, y7, y8, y9][8]? := hf 8 _ rfl
      rw [c8] at h_
      exact h_
    obtain ⟨a8, k8, w8⟩ := (opF_slice Try.underlying44 (sz := 1) (by kernel_rfl) (by decide) (fun _ => rfl) (opF_str Try.underlying9)) g8
    have c9 : Try.prog.cellsOf 4 = 1 := by kernel_rfl
    have g9 : DataW.trod enc Try.prog w base spare held n 4 [v9] = some y9 := by
      have h_ : DataW.trod enc Try.prog w base spare held n 4 (List.take (Try.prog.cellsOf 4) (List.drop 9 [v0, v1, v2, v3, v4, v5, v6, v7, v8, v9])) = [y0, y1, y2, y3, y4, y5, y6, y7, y8, y9][9]? := hf 9 _ rfl
      rw [c9] at h_
      exact h_
    obtain ⟨a9, k9, w9⟩ := (opF_bool Try.underlying4) g9
    refine ⟨(a0, a1, a2, a3, a4, a5, a6, a7, a8, a9), ⟨rfl, fun i c v hc hv => ?_⟩, ⟨w0, w1, w2, w3, w4, w5, w6, w7, w8, w9⟩⟩
    match i, hc, hv with
    | 0, hc, hv => cases hc; cases hv; exact k0.2 0 _ _ rfl rfl
    | 1, hc, hv => cases hc; cases hv; exact k1.2 0 _ _ rfl rfl
    | 2, hc, hv => cases hc; cases hv; exact k2.2 0 _ _ rfl rfl
    | 3, hc, hv => cases hc; cases hv; exact k3.2 0 _ _ rfl rfl
    | 4, hc, hv => cases hc; cases hv; exact k4.2 0 _ _ rfl rfl
    | 5, hc, hv => cases hc; cases hv; exact k5.2 0 _ _ rfl rfl
    | 6, hc, hv => cases hc; cases hv; exact k6.2 0 _ _ rfl rfl
    | 7, hc, hv => cases hc; cases hv; exact k7.2 0 _ _ rfl rfl
    | 8, hc, hv => cases hc; cases hv; exact k8.2 0 _ _ rfl rfl
    | 9, hc, hv => cases hc; cases hv; exact k9.2 0 _ _ rfl rfl
theorem own : ownKnob Try.prog.godebug = none := by kernel_rfl
theorem laidOut : laidOutB Try.prog = true := by kernel_rfl
set_option maxRecDepth 100000 in
theorem lifted (os : Os) (started : os.Started) (H : Type) (enc : TypeId × Value → H) :
    ReturnsInHanded {} Try.checked os 3 .any (Rows.linearStepSpec.pre6 enc Try.prog Try.f3 Rows.linearStepRow.domain false) (Rows.linearStepSpec.post enc Try.prog Try.f3 false true false false) := by
  refine returnsInHanded_of_change_sized (C := Try.checked) own started (by kernel_rfl) Try.func3
    (ChangeSpec.witness6 (enc := enc) (C := Try.checked) false ⟨#[], #[.slice none 0 0, .slice none 0 0, .slice none 0 0, .int .i64 0], []⟩ 8 (by kernel_rfl) (by kernel_rfl) (by kernel_rfl) (by kernel_rfl)) ?_
  intro W base args ds gs before hval0 hW hcnd hsz0 _
  have hval : ∀ (j : Nat) t v, Try.f3.params[j]? = some t → args[j]? = some v → Value.okWide Try.prog W .any base t v := hval0
  have hW' := hW
  obtain ⟨p, q, hA0, hV, rfl, hfz, hnd⟩ := hW
  have hA : DataW.TrodAll enc Try.prog W 0 (fun _ => true) true Try.f3.params.toList args.toList ds p := hA0
  rw [Try.params3] at hA hval
  obtain ⟨v0, vs0, d0, ds0, p0, q0, hargs, rfl, rfl, h0, r0⟩ := trodAll_cons hA
  obtain ⟨v1, vs1, d1, ds1, p1, q1, rfl, rfl, rfl, h1, r1⟩ := trodAll_cons r0
  obtain ⟨v2, vs2, d2, ds2, p2, q2, rfl, rfl, rfl, h2, r2⟩ := trodAll_cons r1
  obtain ⟨v3, vs3, d3, ds3, p3, q3, rfl, rfl, rfl, h3, r3⟩ := trodAll_cons r2
  obtain ⟨rfl, rfl, rfl⟩ := trodAll_nil r3
  obtain rfl : args = #[v0, v1, v2, v3] := by cases args; simp_all
  obtain ⟨rfl, rfl⟩ := trodVars_none hV
  obtain ⟨a0, len0, cap0, rfl⟩ := okWide_slice Try.underlying22 (hval 0 22 v0 rfl rfl)
  have k0 := h0
  have lt0 : ∀ x ∈ p0, x.block < W.heap.size := by obtain ⟨m, hm⟩ := k0; exact DataW.trod_lt m _ _ _ hm
  obtain ⟨fuel0, hf0⟩ := h0
  obtain ⟨x0, hr0, hw0⟩ := (opF_slice Try.underlying22 (sz := 1) (by kernel_rfl) (by decide) (fun _ => rfl) (opF_int Try.underlying3)) hf0
  obtain ⟨a1, len1, cap1, rfl⟩ := okWide_slice Try.underlying23 (hval 1 23 v1 rfl rfl)
  have k1 := h1
  have lt1 : ∀ x ∈ p1, x.block < W.heap.size := by obtain ⟨m, hm⟩ := k1; exact DataW.trod_lt m _ _ _ hm
  obtain ⟨fuel1, hf1⟩ := h1
  obtain ⟨x1, hr1, hw1⟩ := (opF_slice Try.underlying23 (sz := 5) (by kernel_rfl) (by decide) (fun _ => rfl) opS29) hf1
  obtain ⟨a2, len2, cap2, rfl⟩ := okWide_slice Try.underlying24 (hval 2 24 v2 rfl rfl)
  have k2 := h2
  have lt2 : ∀ x ∈ p2, x.block < W.heap.size := by obtain ⟨m, hm⟩ := k2; exact DataW.trod_lt m _ _ _ hm
  obtain ⟨fuel2, hf2⟩ := h2
  obtain ⟨x2, hr2, hw2⟩ := (opF_slice Try.underlying24 (sz := 10) (by kernel_rfl) (by decide) (fun _ => rfl) opS46) hf2
  obtain ⟨x3, rfl, rfl, rfl, hw3⟩ := open_int Try.underlying3 (hval 3 3 v3 rfl rfl) h3
  have hsz := hsz0
  rw [Try.params3] at hsz
  simp only [List.cons_append, List.nil_append, DataW.weightsEach, List.all_append, Bool.and_eq_true] at hsz
  have z0 : x0.length < 4000000000000000000 := by
    have h1 := len_of_weight Try.underlying22 (by kernel_rfl) hf0 (hsz.1)
    have h2 := row_len (hr0.2 0 _ _ rfl rfl)
    rw [List.length_map] at h2
    omega
  clear hA0 hval0 hsz0
  refine ((step39_pure x0 x1 x2 x3 z0 hw1 hw2 hw3).2 W (inW W) #[.slice a0 len0 cap0, .slice a1 len1 cap1, .slice a2 len2 cap2, .int .i64 x3] (fun b hb => hb) (repAs_cons (.c (.fz (hr0.2 0 _ _ rfl rfl))) (repAs_cons (.c (.fz (hr1.2 0 _ _ rfl rfl))) (repAs_cons (.c (.fz (hr2.2 0 _ _ rfl rfl))) (repAs_cons (.c (.fz (.sc _ rfl))) repAs_nil))))).mono fun e W' ⟨v, he, hv, bel⟩ => ?_
  obtain ⟨rfl, _⟩ := sc_of hv
  subst he
  exact ⟨_, rfl, _, _, _, [], _, [], hW', trodAll_mk1 (shut_bool Try.underlying4 _), (trodAll_cons_mk (Below.trod laidOut (by kernel_rfl) (of_decide_eq_true (by kernel_rfl)) k0 bel lt0) (trodAll_cons_mk (Below.trod laidOut (by kernel_rfl) (of_decide_eq_true (by kernel_rfl)) k1 bel lt1) (trodAll_cons_mk (Below.trod laidOut (by kernel_rfl) (of_decide_eq_true (by kernel_rfl)) k2 bel lt2) (trodAll_cons_mk (shut_int Try.underlying3 hw3) trodAll_mk0)))), rfl, bel.frame _, fun h => by cases h⟩
theorem joined : joinedFacts Try.prog 3 Try.f3 Rows.linearStepSpec Rows.linearStepRow = true := by
  unfold joinedFacts
  rw [mayEnter_, liftsFinal_, make_]
  kernel_rfl
theorem over : Rows.linearStepRow.holds Try.pinned (OpenSpec.ofChange Rows.linearStepSpec) :=
  OpenClaim.holds_of_wide 3 Try.f3 rfl rfl rfl rfl rfl rfl rfl ⟨rfl, rfl, rfl, rfl, rfl⟩ rfl rfl rfl rfl rfl (by kernel_rfl) Try.func3 joined
    (of_decide_eq_true (by kernel_rfl)) (by unfold Func.isWrapper; first | (rw [if_pos (by decide +kernel)]; kernel_rfl) | (rw [if_neg (by decide +kernel)]; exact ⟨rfl, rfl⟩))
    (fun os started H enc _ => lifted os started H enc)
theorem proved : Rows.LinearStepSaid := over
#print axioms proved
end Go.Proofs.Ytphlhadgcfndhaa.linearStep
namespace Go.Proofs.Ytphlhadgcfndhaa
/-- The row, under a short name, for the claim. -/
theorem linearStep_holds : Rows.LinearStepSaid := linearStep.proved
end Go.Proofs.Ytphlhadgcfndhaa
