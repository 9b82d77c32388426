/- The row of ExploreSame: for every input that can be read it returns true. -/
import Derived.Test.YtphlhadgcfndhaaDoorRows
import Derived.Test.YtphlhadgcfndhaaDoorAbsO
import Derived.Test.YtphlhadgcfndhaaDoorFacts
import Derived.Test.YtphlhadgcfndhaaDoorWXsamJd
import Derived.Test.YtphlhadgcfndhaaDoorCards
import Derived.Test.YtphlhadgcfndhaaDoorTie
import Derived.LaidMore
import Derived.SevenTiedAt
import Derived.WalkKit
import Derived.ProofKit
import Derived.OpenShut
import Derived.ShutString
import Derived.ChangeOld
import Derived.Below
import Derived.SizedLaws
namespace Go.Proofs.YtphlhadgcfndhaaDoor.exploreSame
open Go Go.RowKit Go.ChangeShapes Go.WideShapes Go.ChangeAt Abs
open Go.ChangeMaps (open_string shut_string)
set_option linter.unusedVariables false
def laidL : List (String × DataW Unit) := [("math/bits.deBruijn32tab", Rows.laid_math_bits_deBruijn32tab), ("math/bits.deBruijn64tab", Rows.laid_math_bits_deBruijn64tab), ("internal/strconv.uint64pow10", Rows.laid_internal_strconv_uint64pow10)]
set_option maxRecDepth 100000 in
/-- The heap that the door leaves meets the condition on the listed tables. -/
theorem door_met (os : Os) (args : Array Value) : laidMetH Tryd.prog laidL ((World.doorLaid Tryd.prog 400 os).forCall (fun _ _ => 0) ⟨#[], args, []⟩).memory :=
  laidMetH_of_parts3 (fuel := 8) (laidMet_of_run' 8 (by kernel_rfl) (by kernel_rfl)) (by kernel_rfl) (by kernel_rfl)
theorem own : ownKnob Tryd.prog.godebug = none := by kernel_rfl
theorem laidOut : laidOutB Tryd.prog = true := by kernel_rfl
set_option maxRecDepth 100000 in
theorem lifted (os : Os) (started : os.Started) (H : Type) (enc : TypeId × Value → H) :
    ReturnsInHanded {} Tryd.checked os 6 .any (fun w args => (Rows.exploreSameSpec.pre enc Tryd.prog Tryd.f6 [] false w args ∧ laidMetH Tryd.prog laidL w) ∧ sizedMet enc Tryd.prog Tryd.f6 (OpenSpec.ofChange Rows.exploreSameSpec) false w args) (Rows.exploreSameSpec.post enc Tryd.prog Tryd.f6 false true false false) := by
  refine returnsInHanded_of_change_and (C := Tryd.checked) (X := fun w _ => laidMetH Tryd.prog laidL w) (fun _ _ _ hh h => h.of_heap hh) own started (by kernel_rfl) Tryd.func6
    (ChangeSpec.witness_shaped (enc := enc) (C := Tryd.checked) (os := os) (X := fun w _ => laidMetH Tryd.prog laidL w) false (World.doorLaid Tryd.prog 400 os) #[.int .i64 0, .slice none 0 0, .slice none 0 0, .int .i64 0, .int .i64 0] 8 rfl (World.shaped_of_RefB (by kernel_rfl) (by kernel_rfl)) (by kernel_rfl) (by kernel_rfl) (by kernel_rfl) (door_met os _)) ?_
  intro W base args ds gs before hval0 hW hcnd hsz0 _ _
  have hval : ∀ (j : Nat) t v, Tryd.f6.params[j]? = some t → args[j]? = some v → Value.okWide Tryd.prog W .any base t v := hval0
  have hW' := hW
  obtain ⟨p, q, hA0, hV, rfl, hfz, hnd⟩ := hW
  have hA : DataW.TrodAll enc Tryd.prog W 0 (fun _ => true) true Tryd.f6.params.toList args.toList ds p := hA0
  rw [Tryd.params6] at hA hval
  obtain ⟨v0, vs0, d0, ds0, p0, q0, hargs, rfl, rfl, h0, r0⟩ := trodAll_cons hA
  obtain ⟨v1, vs1, d1, ds1, p1, q1, rfl, rfl, rfl, h1, r1⟩ := trodAll_cons r0
  obtain ⟨v2, vs2, d2, ds2, p2, q2, rfl, rfl, rfl, h2, r2⟩ := trodAll_cons r1
  obtain ⟨v3, vs3, d3, ds3, p3, q3, rfl, rfl, rfl, h3, r3⟩ := trodAll_cons r2
  obtain ⟨v4, vs4, d4, ds4, p4, q4, rfl, rfl, rfl, h4, r4⟩ := trodAll_cons r3
  obtain ⟨rfl, rfl, rfl⟩ := trodAll_nil r4
  obtain rfl : args = #[v0, v1, v2, v3, v4] := by cases args; simp_all
  obtain ⟨rfl, rfl⟩ := trodVars_none hV
  obtain ⟨x0, rfl, rfl, rfl, hw0⟩ := open_int Tryd.underlying3 (hval 0 3 v0 rfl rfl) h0
  obtain ⟨a1, len1, cap1, rfl⟩ := okWide_slice Tryd.underlying38 (hval 1 38 v1 rfl rfl)
  have k1 := h1
  have lt1 : ∀ x ∈ p1, x.block < W.heap.size := by obtain ⟨m, hm⟩ := k1; exact DataW.trod_lt m _ _ _ hm
  obtain ⟨fuel1, hf1⟩ := h1
  obtain ⟨x1, hr1, hw1⟩ := (opF_slice Tryd.underlying38 (sz := 1) (by kernel_rfl) (by decide) (fun _ => rfl) (opF_int Tryd.underlying3)) hf1
  obtain ⟨a2, len2, cap2, rfl⟩ := okWide_slice Tryd.underlying38 (hval 2 38 v2 rfl rfl)
  have k2 := h2
  have lt2 : ∀ x ∈ p2, x.block < W.heap.size := by obtain ⟨m, hm⟩ := k2; exact DataW.trod_lt m _ _ _ hm
  obtain ⟨fuel2, hf2⟩ := h2
  obtain ⟨x2, hr2, hw2⟩ := (opF_slice Tryd.underlying38 (sz := 1) (by kernel_rfl) (by decide) (fun _ => rfl) (opF_int Tryd.underlying3)) hf2
  obtain ⟨x3, rfl, rfl, rfl, hw3⟩ := open_int Tryd.underlying3 (hval 3 3 v3 rfl rfl) h3
  obtain ⟨x4, rfl, rfl, rfl, hw4⟩ := open_int Tryd.underlying3 (hval 4 3 v4 rfl rfl) h4
  have hsz := hsz0
  rw [Tryd.params6] at hsz
  simp only [List.cons_append, List.nil_append, DataW.weightsEach, List.all_append, Bool.and_eq_true] at hsz
  have z1 : x1.length < 4000000000000000000 := by
    have h1 := len_of_weight Tryd.underlying38 (by kernel_rfl) hf1 (hsz.2.1)
    have h2 := row_len (hr1.2 0 _ _ rfl rfl)
    rw [List.length_map] at h2
    omega
  have z2 : x2.length < 4000000000000000000 := by
    have h1 := len_of_weight Tryd.underlying38 (by kernel_rfl) hf2 (hsz.2.2.1)
    have h2 := row_len (hr2.2 0 _ _ rfl rfl)
    rw [List.length_map] at h2
    omega
  clear hA0 hval0 hsz0
  refine ((exploreSame_row x0 x1 x2 x3 x4 hw0 z1 z2 hw3 hw4).2 W (inW W) #[.int .i64 x0, .slice a1 len1 cap1, .slice a2 len2 cap2, .int .i64 x3, .int .i64 x4] (fun b hb => hb) (repAs_cons (.c (.fz (.sc _ rfl))) (repAs_cons (.c (.fz (hr1.2 0 _ _ rfl rfl))) (repAs_cons (.c (.fz (hr2.2 0 _ _ rfl rfl))) (repAs_cons (.c (.fz (.sc _ rfl))) (repAs_cons (.c (.fz (.sc _ rfl))) repAs_nil)))))).mono fun e W' ⟨v, he, hv, bel⟩ => ?_
  obtain ⟨rfl, _⟩ := sc_of hv
  subst he
  exact ⟨_, rfl, _, _, _, [], _, [], hW', trodAll_mk1 (shut_bool Tryd.underlying4 _), (trodAll_cons_mk (shut_int Tryd.underlying3 hw0) (trodAll_cons_mk (Below.trod laidOut (by kernel_rfl) (of_decide_eq_true (by kernel_rfl)) k1 bel lt1) (trodAll_cons_mk (Below.trod laidOut (by kernel_rfl) (of_decide_eq_true (by kernel_rfl)) k2 bel lt2) (trodAll_cons_mk (shut_int Tryd.underlying3 hw3) (trodAll_cons_mk (shut_int Tryd.underlying3 hw4) trodAll_mk0))))), rfl, bel.frame _, fun h => by cases h⟩
theorem joined : joinedFacts Tryd.prog 6 Tryd.f6 Rows.exploreSameSpec Rows.exploreSameRow = true := by
  unfold joinedFacts
  rw [mayEnter_, liftsFinal_, make_]
  kernel_rfl
theorem over : Rows.exploreSameRow.holds Tryd.pinned (OpenSpec.ofChange Rows.exploreSameSpec) :=
  OpenClaim.holds_of_wide 6 Tryd.f6 rfl rfl rfl rfl rfl rfl rfl ⟨rfl, rfl, rfl, rfl, rfl⟩ rfl rfl rfl rfl rfl (by kernel_rfl) Tryd.func6 joined
    (of_decide_eq_true (by kernel_rfl)) (by unfold Func.isWrapper; first | (rw [if_pos (by decide +kernel)]; kernel_rfl) | (rw [if_neg (by decide +kernel)]; exact ⟨rfl, rfl⟩))
    (fun os started H enc _ => lifted os started H enc)
theorem proved : Rows.ExploreSameSaid := over
#print axioms proved
/-- The tied card. -/
theorem carded : Rows.ExploreSameCardSaid :=
  Claim7.holds_tied_plain_at .later [] [.data, .data, .data] true (true, "a25f0d68e1ae8db8abf108acf0a31d360531f88eab39977887d9dcb1c424fd0f") false
    over (fun _ h => by cases h) (by kernel_rfl) (fun _ h => by cases h) exploreSame_row_tie rfl ⟨rfl, rfl⟩ (by kernel_rfl) rfl
    (fun f fn hf hfn => by
      obtain rfl : f = 6 := Option.some.inj ((show Tryd.prog.funcNamed "elasticstore/elasticstorelaw40.ExploreSame" = some 6 by kernel_rfl).symm.trans hf) |>.symm
      obtain rfl : fn = Tryd.f6 := (Option.some.inj (Tryd.func6.symm.trans hfn)).symm
      exact ⟨by kernel_rfl, fun j t ht => by
        rw [Tryd.params6] at ht
        have hm : t ∈ [3, 38, 38, 3, 3] := by simpa using Array.mem_of_getElem? ht
        have hall : ([3, 38, 38, 3, 3].all fun u => !Tryd.prog.wantsStandIn u) = true := by kernel_rfl
        exact (show Tryd.prog.wantsStandIn t = false by simpa using List.all_eq_true.1 hall t hm)⟩)
    (by kernel_rfl)
#print axioms carded
end Go.Proofs.YtphlhadgcfndhaaDoor.exploreSame
namespace Go.Proofs.YtphlhadgcfndhaaDoor
/-- The row, under a short name, for the claim. -/
theorem exploreSame_holds : Rows.ExploreSameSaid := exploreSame.proved
/-- The card, under a short name. -/
theorem exploreSame_card : Rows.ExploreSameCardSaid := exploreSame.carded
end Go.Proofs.YtphlhadgcfndhaaDoor
