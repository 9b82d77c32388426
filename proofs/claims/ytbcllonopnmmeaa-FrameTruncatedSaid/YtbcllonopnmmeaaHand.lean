/- The library's slices.Clone and slices.Concat at []byte, walked by hand: what they answer, in the form in which the printed functions state theirs. -/
import Derived.Test.YtbcllonopnmmeaaPrint0
import Derived.Lib.SliceRun
namespace Go.Proofs.Ytbcllonopnmmeaa.Print
open Go.RowKit Go.Proofs.YtbcllonopnmmeaaW.PrintWords Go.Proofs.YtbcllonopnmmeaaW.PrintLast Go.Proofs.YtbcllonopnmmeaaW.PrintMore
attribute [local go_sem] max2_int min2_int max_two min_two max_three min_three max_four min_four
set_option linter.unusedVariables false
set_option linter.unusedSimpArgs false

def slices_Clone_byte_byte.f (l0 : List Int) : Option (List Int) := if l0.length < 140737488355328 then some l0 else none
set_option maxHeartbeats 1000000 in
set_option maxRecDepth 100000 in
theorem slices_Clone_byte_byte.calls (A0 : Option Addr) (c0 : Nat) (l0 : List Int) (r : List Int) (w : World) (hr0 : Kd.C (Kd.int .u8) w A0 l0.length l0) (hc0 : l0.length ≤ c0) (h : slices_Clone_byte_byte.f l0 = some r) :
    Calls Try.prog 27 #[.slice A0 l0.length c0] w fun e w' => ∃ v0_ : Value, e = .returned (v0_) ∧ Kd.R (Kd.int .u8) 5 w' w.heap.size (fun _ => True) v0_ r ∧ Below w.heap.size w w' := by
  unfold slices_Clone_byte_byte.f at h
  by_cases c3 : l0.length < 140737488355328
  · rw [if_pos c3] at h
    obtain rfl := Option.some.inj h
    have LMc3 := Aside0.mk c3
    clear c3 h
    have HR0 := Aside0.mk hr0
    have HC0 := Aside0.mk hc0
    clear hr0 hc0
    have HB := Aside0.mk (Below.refl w.heap.size w)
    cases A0 with
    | none =>
      have hl : l0 = [] := by
        rcases Nat.eq_zero_or_pos l0.length with h | h
        · exact List.eq_nil_of_length_eq_zero h
        · obtain ⟨ad, e, _⟩ := HR0.out.2.2 h; cases e
      subst hl
      have q22 : ∀ (w : World) (a : Option Addr) (n c n' c' : Nat), (binOp .eql 22 (.slice a n c) (.slice none n' c')).run Try.prog w = .ok (.bool a.isNone) w := fun w a n c n' c' => Lib.run_eql_slice_nil w _ _ a n c n' c' Try.underlying22
      go_enter Try.func27, Try.ntmps27
      go_wp2
      go_ret
      exact ⟨_, rfl, Kd.R_nil _ _ _ _ _, Below.refl _ _⟩
    | some ad =>
      obtain ⟨y167, hy167⟩ : ∃ y_ : List Int, y_ = (([] : List Int)) := ⟨_, rfl⟩
      have Ny167 := Aside0.mk hy167
      clear hy167
      have q22 : ∀ (w : World) (a : Option Addr) (n c n' c' : Nat), (binOp .eql 22 (.slice a n c) (.slice none n' c')).run Try.prog w = .ok (.bool a.isNone) w := fun w a n c n' c' => Lib.run_eql_slice_nil w _ _ a n c n' c' Try.underlying22
      go_enter Try.func27, Try.ntmps27
      go_wp2_with (first | ((with_reducible refine gate_dst (N := 5) rfl ?_); refine Kd.R_lit (Kd.int .u8) _ 5 ?hg (N := 5) ?hd (xs := ([] : List Int)) (inner := []) (ok := fun _ => True) (okp := fun _ => True) ?hr ?hp (fun _ hk => hk) trivial (Below.refl _ _) (Nat.le_refl _) (by simp) ?_; (case hd => rfl); (case hg => rfl); (case hr => first | (go_simp; done) | (go_simp; rfl)); (case hp => exact (Reps.none _ _)); intro v168 w5 ho6 hb hg_ hnew_; clear hg_ hnew_; (first | rw [← Ny167.out] at ho6 | (simp only [Int.reduceToNat] at ho6; rw [← Ny167.out] at ho6)); have n0_ := Aside0.mk (Kd.R_lower ho6 (below_size (by repeat (first | (with_reducible first | exact HB.out | apply below_alloc | apply pw_below_drewN | apply below_drew1) | exact HB.out)))); have n1_ := Aside0.mk (below_step (by repeat (first | (with_reducible first | exact HB.out | apply below_alloc | apply pw_below_drewN | apply below_drew1) | exact HB.out)) hb); clear HB; have HO169 := n0_; have HB := n1_; clear n0_ n1_; clear hb ho6) | ((with_reducible refine gate_builtin (b := .append) (xs := #[.tmp 5, .tmp 6]) rfl ?_); at_builtin; refine Kd.R_append_rows (Kd.int .u8) (w0 := w) w.heap.size rfl (.tmp 5) (.tmp 6) 22 5 (.int .u8 0) 1 rfl Try.underlying22 info5 rfl (by decide) (by omega) v168 y167 l0 _ _ _ (fun _ => True) (fun _ => False) rfl rfl ?aO ?aR (fun _ _ h => h) (fun _ h => h.elim) ?aF ?aB ?aS ?aL ?_; (case aR => repeat (first | exact (Kd.C_below HR0.out HB.out) | (with_reducible refine Kd.C_alloc ?_ _) | (with_reducible refine Kd.C_drewN ?_ _) | (with_reducible refine Kd.C_drew ?_))); (case aB => exact (by repeat (first | (with_reducible first | exact HB.out | apply below_alloc | apply pw_below_drewN | apply below_drew1) | exact HB.out))); (case aF => exact (fun _ _ => trivial)); (case aO => exact (by (with_reducible repeat (first | apply Kd.R_alloc | apply Kd.R_drewN | apply Kd.R_drew)); exact HO169.out)); (case aS => exact (below_size (by repeat (first | (with_reducible first | exact HB.out | apply below_alloc | apply pw_below_drewN | apply below_drew1) | exact HB.out)))); (case aL => have := LMc3.out; have := Ny167.out; subst this; simp; omega); intro v171 w7 ho hb hg hat; rw [show y167 ++ l0 = l0 from by rw [Ny167.out]; rfl] at ho; have n0_ := Aside0.mk (hb); have n1_ := Aside0.mk (ho); clear HB; clear HO169; have HB := n0_; have HO172 := n1_; clear n0_ n1_; clear ho hb hg hat))
      go_ret
      exact ⟨_, rfl, by (with_reducible repeat (first | apply Kd.R_alloc | apply Kd.R_drewN | apply Kd.R_drew)); exact Kd.R_mono HO172.out (fun _ hk => trivial), by repeat (first | (with_reducible first | exact HB.out | apply below_alloc | apply pw_below_drewN | apply below_drew1) | exact HB.out)⟩
  · rw [if_neg c3] at h
    exact absurd h (by simp)

def slices_Grow_byte_byte.f (l0 : List Int) (a1 : Int) : Option (List Int) := if 0 ≤ a1 then (if a1 < 140737488355328 then some l0 else none) else none
set_option maxHeartbeats 1000000 in
set_option maxRecDepth 100000 in
/-- slices.Grow at a nil slice: an empty row of the call's own. -/
theorem slices_Grow_byte_byte.nil (a1 : Int) (r : List Int) (w : World) (hr0 : Kd.C (Kd.int .u8) w none 0 []) (hc0 : 0 ≤ 0) (h : slices_Grow_byte_byte.f [] a1 = some r) :
    Calls Try.prog 29 #[.slice none 0 0, .int .i64 a1] w fun e w' => ∃ v0_ : Value, e = .returned (v0_) ∧ Kd.R (Kd.int .u8) 5 w' w.heap.size (fun _ => True) v0_ r ∧ Below w.heap.size w w' := by
  unfold slices_Grow_byte_byte.f at h
  by_cases c1 : 0 ≤ a1
  · rw [if_pos c1] at h
    by_cases c2 : a1 < 140737488355328
    · rw [if_pos c2] at h
      obtain rfl := Option.some.inj h
      clear h hr0 hc0
      have LM := Aside0.mk c2
      have HB := Aside0.mk (Below.refl w.heap.size w)
      by_cases c3 : 0 < a1
      · have c1b : decide (a1 < 0) = false := decide_eq_false (by omega)
        have c3b : decide (0 < a1) = true := decide_eq_true c3
        go_enter Try.func29, Try.ntmps29
        go_wp2_with (first | ((with_reducible refine gate_builtin (b := .append) (xs := #[.tmp 20, .tmp 21]) rfl ?_); at_builtin; refine Kd.R_append_zeros (Kd.int .u8) (w0 := w) w.heap.size rfl (.tmp 20) (.tmp 21) 22 3 5 (.int .u8 0) 1 rfl Try.underlying22 Try.underlying3 info5 rfl (by decide) (by omega) (.slice none 0 0) [] 0 a1 (fun _ => True) rfl (by rfl) rfl (fun _ _ => trivial) (Kd.R_nil _ _ _ _ _) c1 ?aB (Nat.le_refl _) ?aL ?_; (case aB => exact (by repeat (first | (with_reducible first | exact HB.out | apply below_alloc | apply pw_below_drewN | apply below_drew1) | exact HB.out))); (case aL => have := LM.out; simp; omega); intro v171 w7 ho hb hg hat; have HO := Aside0.mk ho; have HB2 := Aside0.mk hb; clear ho hb hg hat HB; obtain ⟨Ao, co, eo⟩ := Kd.R_slice HO.out; subst eo))
        go_ret
        exact ⟨_, rfl, by simpa using Kd.R_take (m := 0) HO.out (Nat.zero_le _), HB2.out⟩
      · obtain rfl : a1 = 0 := by omega
        go_enter Try.func29, Try.ntmps29
        go_wp2
        go_ret
        exact ⟨_, rfl, Kd.R_nil _ _ _ _ _, Below.refl _ _⟩
    · rw [if_neg c2] at h
      exact absurd h (by simp)
  · rw [if_neg c1] at h
    exact absurd h (by simp)

end Go.Proofs.Ytbcllonopnmmeaa.Print
