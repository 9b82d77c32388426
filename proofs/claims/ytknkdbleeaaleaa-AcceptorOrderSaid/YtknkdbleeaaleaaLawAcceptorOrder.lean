/- The row of the law elasticstore/elasticstorelaw15.AcceptorOrder: for every input that can be read it returns true. -/
import Derived.Test.YtknkdbleeaaleaaRows
import Derived.Test.YtknkdbleeaaleaaOpen
import Derived.Test.YtknkdbleeaaleaaOpen69
import Derived.Test.YtknkdbleeaaleaaPrint21
import Derived.Test.YtknkdbleeaaleaaPureAcceptorOrder
import Derived.WalkKit
import Derived.ProofKit
import Derived.OpenShut
import Derived.ShutString
import Derived.ChangeOld
import Derived.Below
import Derived.SizedLaws
namespace Go.Proofs.Ytknkdbleeaaleaa.acceptorOrder
open Go.ChangeShapes Go.WideShapes Go.ChangeAt Go.RowKit Go.Proofs.Ytknkdbleeaaleaa.Print Go.Proofs.YtknkdbleeaaleaaW.PrintWords Go.Proofs.YtknkdbleeaaleaaW.PrintLast Go.Proofs.YtknkdbleeaaleaaW.PrintMore
open Go.ChangeMaps (open_string shut_string)
set_option linter.unusedVariables false
theorem walk (P : Pure.AcceptorOrder.Pure) (A0_0 : Option Addr) (c0_0 : Nat) (l0_0 : List (S69)) (A1 : Option Addr) (c1 : Nat) (l1 : List (List (S69))) (w : World) (hr0_0 : Kd.C k69 w A0_0 l0_0.length l0_0) (hc0_0 : l0_0.length ≤ c0_0) (hw0_0 : (l0_0.length ≤ 9223372036854775807 ∧ ∀ x_ ∈ l0_0, Wf69 x_)) (hr1 : Kd.C (Kd.slice 69 k69) w A1 l1.length l1) (hc1 : l1.length ≤ c1) (hw1 : (l1.length ≤ 9223372036854775807 ∧ ∀ x_ ∈ l1, (x_.length ≤ 9223372036854775807 ∧ ∀ x__ ∈ x_, Wf69 x__))) :
    Calls Try.prog 5 #[.agg #[.slice A0_0 l0_0.length c0_0], .slice A1 l1.length c1] w fun e w' => e = .returned (.bool true) ∧ Below w.heap.size w w' := by
  obtain ⟨k, h⟩ := P l0_0 l1 hw0_0 hw1
  refine (elasticstorelaw15_AcceptorOrder.calls k (fun k_ => k_ < w.heap.size) A0_0 c0_0 l0_0 A1 c1 l1 true w (Kd.V_mk hc0_0 (Kd.C_F k69_heap hr0_0)) hr1 hc1 h).mono ?_
  rintro e w' ⟨rfl, hd⟩
  exact ⟨rfl, hd⟩
theorem own : ownKnob Try.prog.godebug = none := by kernel_rfl
theorem laidOut : laidOutB Try.prog = true := by kernel_rfl
set_option maxRecDepth 100000 in
theorem lifted (os : Os) (started : os.Started) (H : Type) (enc : TypeId × Value → H) :
    ReturnsInHanded {} Try.checked os 5 .any (Rows.acceptorOrderSpec.pre6 enc Try.prog Try.f5 Rows.acceptorOrderRow.domain false) (Rows.acceptorOrderSpec.post enc Try.prog Try.f5 false true false false) := by
  refine returnsInHanded_of_change_sized (C := Try.checked) own started (by kernel_rfl) Try.func5
    (ChangeSpec.witness6 (enc := enc) (C := Try.checked) false ⟨#[], #[.agg #[.slice none 0 0], .slice none 0 0], []⟩ 8 (by kernel_rfl) (by kernel_rfl) (by kernel_rfl) (by kernel_rfl)) ?_
  intro W base args ds gs before hval0 hW hcnd hsz0 _
  have hval : ∀ (j : Nat) t v, Try.f5.params[j]? = some t → args[j]? = some v → Value.okWide Try.prog W .any base t v := hval0
  have hW' := hW
  obtain ⟨p, q, hA0, hV, rfl, hfz, hnd⟩ := hW
  have hA : DataW.TrodAll enc Try.prog W 0 (fun _ => true) true Try.f5.params.toList args.toList ds p := hA0
  rw [Try.params5] at hA hval
  obtain ⟨v0, vs0, d0, ds0, p0, q0, hargs, rfl, rfl, h0, r0⟩ := trodAll_cons hA
  obtain ⟨v1, vs1, d1, ds1, p1, q1, rfl, rfl, rfl, h1, r1⟩ := trodAll_cons r0
  obtain ⟨rfl, rfl, rfl⟩ := trodAll_nil r1
  obtain rfl : args = #[v0, v1] := by cases args; simp_all
  obtain ⟨rfl, rfl⟩ := trodVars_none hV
  obtain ⟨cs0, rfl, _⟩ := okWide_struct Try.underlying25 (hval 0 25 v0 rfl rfl)
  have k0 := h0
  have lt0 : ∀ x ∈ p0, x.block < W.heap.size := by obtain ⟨m, hm⟩ := k0; exact DataW.trod_lt m _ _ _ hm
  obtain ⟨fuel0, hf0⟩ := h0
  obtain ⟨xs0, n0, _, _, hl0, hlen0, hg0⟩ := DataW.trod_struct Try.underlying25 hf0
  have hC0 : Try.prog.cellsOf 25 = 1 := by kernel_rfl
  rw [hC0] at hl0
  obtain ⟨u0_0, hcs0⟩ : ∃ u0_0, cs0 = #[u0_0] := by
    have hl2 : cs0.toList.length = 1 := hl0
    match h : cs0.toList, hl2 with
    | [a0], _ => exact ⟨a0, Array.toList_inj.1 h⟩
  subst hcs0
  obtain ⟨y0_0, hxs0⟩ : ∃ y0_0, xs0 = [y0_0] := by
    match xs0, hlen0 with
    | [a0], _ => exact ⟨a0, rfl⟩
  subst hxs0
  have c0_0 : Try.prog.cellsOf 23 = 1 := by kernel_rfl
  have g0_0 : DataW.trod enc Try.prog W 0 (fun _ => true) true n0 23 [u0_0] = some y0_0 := by
    have h_ : DataW.trod enc Try.prog W 0 (fun _ => true) true n0 23 (List.take (Try.prog.cellsOf 23) (List.drop 0 [u0_0])) = [y0_0][0]? := hg0 0 _ rfl
    rw [c0_0] at h_
    exact h_
  obtain ⟨x0_0, K0_0, hw0_0⟩ := (opens_slice Try.underlying23 (by kernel_rfl) (opens_S69)) g0_0
  obtain ⟨A0_0, c0_0, he0_0, l0_0, r0_0⟩ := K0_0
  obtain rfl : u0_0 = .slice A0_0 x0_0.length c0_0 := by simpa using he0_0
  obtain ⟨a1, len1, cap1, rfl⟩ := okWide_slice Try.underlying27 (hval 1 27 v1 rfl rfl)
  have k1 := h1
  have lt1 : ∀ x ∈ p1, x.block < W.heap.size := by obtain ⟨m, hm⟩ := k1; exact DataW.trod_lt m _ _ _ hm
  obtain ⟨l1, rfl, hc1, hr1, hw1⟩ := arg_slice (opens_slice Try.underlying27 (by kernel_rfl) (opens_slice Try.underlying23 (by kernel_rfl) (opens_S69))) h1
  clear hA0 hval0 hsz0
  refine (walk Pure.AcceptorOrder A0_0 c0_0 x0_0 a1 cap1 l1 W r0_0 l0_0 hw0_0 hr1 hc1 hw1).mono fun e W' ⟨he, bel⟩ => ?_
  subst he
  exact ⟨_, rfl, _, _, _, [], _, [], hW', trodAll_mk1 (shut_bool Try.underlying4 _), (trodAll_cons_mk (Below.trod laidOut (by kernel_rfl) (of_decide_eq_true (by kernel_rfl)) k0 bel lt0) (trodAll_cons_mk (Below.trod laidOut (by kernel_rfl) (of_decide_eq_true (by kernel_rfl)) k1 bel lt1) trodAll_mk0)), rfl, bel.frame _, fun h => by cases h⟩
theorem over : Rows.acceptorOrderRow.holds Try.pinned (OpenSpec.ofChange Rows.acceptorOrderSpec) :=
  OpenClaim.holds_of_wide 5 Try.f5 rfl rfl rfl rfl rfl rfl rfl ⟨rfl, rfl, rfl, rfl, rfl⟩ rfl rfl rfl rfl rfl (by kernel_rfl) Try.func5 (by kernel_rfl)
    (of_decide_eq_true (by kernel_rfl)) (by unfold Func.isWrapper; first | (rw [if_pos (by decide +kernel)]; kernel_rfl) | (rw [if_neg (by decide +kernel)]; exact ⟨rfl, rfl⟩))
    (fun os started H enc _ => lifted os started H enc)
theorem proved : Rows.AcceptorOrderSaid := over
#print axioms proved
end Go.Proofs.Ytknkdbleeaaleaa.acceptorOrder
namespace Go.Proofs.Ytknkdbleeaaleaa
/-- The row, under a short name, for the claim. -/
theorem acceptorOrder_holds : Rows.AcceptorOrderSaid := acceptorOrder.proved
end Go.Proofs.Ytknkdbleeaaleaa
