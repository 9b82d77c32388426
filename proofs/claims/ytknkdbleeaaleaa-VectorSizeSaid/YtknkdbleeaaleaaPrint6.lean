-- PRINTED by print.py (a twelfth state) out of the translation. Not trusted: Lean checks it.
import Derived.Test.YtknkdbleeaaleaaPrint0
import Derived.Test.YtknkdbleeaaleaaPrint3
namespace Go.Proofs.Ytknkdbleeaaleaa.Print
open Go.RowKit Go.Proofs.YtknkdbleeaaleaaW.PrintWords Go.Proofs.YtknkdbleeaaleaaW.PrintLast Go.Proofs.YtknkdbleeaaleaaW.PrintMore
attribute [local go_sem] max2_int min2_int max_two min_two max_three min_three max_four min_four   -- for this text's walks alone
set_option linter.unusedVariables false
set_option linter.unusedSimpArgs false

/-! ### elasticstorelaw03_valid: function 27 -/
def elasticstorelaw03_valid.l0 : Nat → List (List (S69)) → Int → Option (Bool)
  | 0, _, _ => none
  | k + 1, x0, x3 => if x3 < (x0.length : Int) then (if 0 ≤ x3 then (if ((rd_L2 x0 x3).length : Int) > 40 then (some false) else ((elasticstoreref03_ValidateVector.f k (rd_L2 x0 x3)).bind fun t203 => (if t203 = 0 then (elasticstorelaw03_valid.l0 k x0 (wrap64 (x3 + 1))) else (some false)))) else (none)) else (some true)
def elasticstorelaw03_valid.f (k : Nat) (l0 : List (List (S69))) : Option (Bool) := elasticstorelaw03_valid.l0 k l0 0
theorem elasticstorelaw03_valid.mono_l : ∀ k, (∀ y0 y1, LeO (elasticstorelaw03_valid.l0 k y0 y1) (elasticstorelaw03_valid.l0 (k + 1) y0 y1))
  | 0 => fun _ _ r h => by simp [elasticstorelaw03_valid.l0] at h
  | k + 1 => by
    have ih0 := elasticstorelaw03_valid.mono_l k
    · intro y0 y1
      unfold elasticstorelaw03_valid.l0
      repeat' first
      | (with_reducible exact ih0 _ _)
      | (with_reducible exact elasticstoreref03_ValidateVector.mono _ _)
      | (with_reducible exact LeO.refl _)
      | (with_reducible exact LeO.none _)
      | (with_reducible refine LeO.ite ?_ ?_)
      | (with_reducible refine LeO.bind ?_ (fun _ => ?_))
      | exact ih0 _ _
      | exact elasticstoreref03_ValidateVector.mono _ _
      | exact LeO.none _
      | refine LeO.ite ?_ ?_
      | refine LeO.bind ?_ (fun _ => ?_)
theorem elasticstorelaw03_valid.mono : ∀ a0 k, LeO (elasticstorelaw03_valid.f k a0) (elasticstorelaw03_valid.f (k + 1) a0) := by
  intro a0 k
  have ih0 := elasticstorelaw03_valid.mono_l k
  unfold elasticstorelaw03_valid.f
  repeat' first
      | (with_reducible exact ih0 _ _)
      | (with_reducible exact elasticstoreref03_ValidateVector.mono _ _)
      | (with_reducible exact LeO.refl _)
      | (with_reducible exact LeO.none _)
      | (with_reducible refine LeO.ite ?_ ?_)
      | (with_reducible refine LeO.bind ?_ (fun _ => ?_))
      | exact ih0 _ _
      | exact elasticstoreref03_ValidateVector.mono _ _
      | exact LeO.none _
      | refine LeO.ite ?_ ?_
      | refine LeO.bind ?_ (fun _ => ?_)
set_option maxHeartbeats 8000000 in
set_option maxRecDepth 100000 in
theorem elasticstorelaw03_valid.calls (k : Nat) (A0 : Option Addr) (c0 : Nat) (l0 : List (List (S69))) (r : Bool) (w : World) (hr0 : Kd.C (Kd.slice 69 k69) w A0 l0.length l0) (hc0 : l0.length ≤ c0) (h : elasticstorelaw03_valid.f k l0 = some r) :
    Calls Try.prog 27 #[.slice A0 l0.length c0] w fun e w' => e = .returned (.bool r) ∧ Drawn0 w w' := by
  have HR0 := Aside0.mk hr0
  have HC0 := Aside0.mk hc0
  clear hr0 hc0
  have H : (elasticstorelaw03_valid.l0 k l0 0) = some r := h
  clear h
  have H' := Aside0.mk H
  clear H
  go_enter Try.func27, Try.ntmps27
  go_wp2
  go_loopg [3] k (fun kq v3 w' => ∃ (x3_1 : Int), v3 = .int .i64 x3_1 ∧ Aside0 (elasticstorelaw03_valid.l0 kq l0 x3_1 = some r) ∧ Aside0 (kq ≤ k) ∧ Drawn0 w w')
  case atStart => exact ⟨(0), (by first | rfl | (simp; done) | (simp [*]; done)), H', ⟨Nat.le_refl _⟩, by repeat (first | exact Drawn0.refl _ | apply Drawn0.step)⟩
  case round =>
    clear H'
    obtain ⟨x3_1, rfl, HA, HK1, ⟨m1, rfl⟩⟩ := hrel
    cases gk with
    | zero => exact absurd HA.out (by simp [elasticstorelaw03_valid.l0])
    | succ k1 =>
      have H := HA.out
      clear HA
      simp only [elasticstorelaw03_valid.l0] at H
      by_cases c2 : x3_1 < (l0.length : Int)
      · rw [if_pos c2] at H
        have c2b0 : decide (x3_1 < (l0.length : Int)) = true := decide_eq_true c2
        clear c2
        by_cases c3 : 0 ≤ x3_1
        · rw [if_pos c3] at H
          have c3b0 : decide (0 ≤ x3_1) = true := decide_eq_true c3
          clear c3
          by_cases c4 : ((rd_L2 l0 x3_1).length : Int) > 40
          · rw [if_pos c4] at H
            have c4b0 : decide (40 < ((rd_L2 l0 x3_1).length : Int)) = true := decide_eq_true c4
            have c4b1 : decide (40 < (rd_L2 l0 x3_1).length) = true := decide_eq_true (by omega)
            clear c4
            obtain rfl := Option.some.inj H
            have p201 : 0 ≤ (x3_1 : Int) := of_decide_eq_true (by first | (with_reducible assumption) | assumption)
            have q201 : x3_1 < (l0.length : Int) := of_decide_eq_true (by first | (with_reducible assumption) | assumption)
            obtain ⟨ad201, A201_0, c201_0, e201, hx201_0, hl201_0, hi201_0⟩ := at_L2 HR0.out x3_1 p201 q201
            cases e201
            have HR201_0 := Aside0.mk hi201_0
            have HC201_0 := Aside0.mk hl201_0
            clear hi201_0 hl201_0
            replace p201 := eq_true p201
            replace q201 := eq_true q201
            go_wp2
            go_ret
            exact ⟨by first | rfl | (simp; done) | (simp [*]; done), by repeat (first | exact Drawn0.refl _ | apply Drawn0.step)⟩
          · rw [if_neg c4] at H
            have c4b0 : decide (40 < ((rd_L2 l0 x3_1).length : Int)) = false := decide_eq_false c4
            have c4b1 : decide (40 < (rd_L2 l0 x3_1).length) = false := decide_eq_false (by omega)
            clear c4
            replace H := Option.bind_eq_some_iff.mp H
            obtain ⟨t203, A50, H⟩ := H
            replace H : (if t203 = 0 then (elasticstorelaw03_valid.l0 k1 l0 (wrap64 (x3_1 + 1))) else (some false)) = some r := H
            have A5 := Aside0.mk A50
            clear A50
            by_cases c6 : t203 = 0
            · rw [if_pos c6] at H
              have c6b0 : (t203 == 0) = true := beq_iff_eq.mpr c6
              have c6b1 : (t203 != 0) = false := bne_eq_false_iff_eq.mpr c6
              clear c6
              have H' := Aside0.mk H
              clear H
              have p201 : 0 ≤ (x3_1 : Int) := of_decide_eq_true (by first | (with_reducible assumption) | assumption)
              have q201 : x3_1 < (l0.length : Int) := of_decide_eq_true (by first | (with_reducible assumption) | assumption)
              obtain ⟨ad201, A201_0, c201_0, e201, hx201_0, hl201_0, hi201_0⟩ := at_L2 HR0.out x3_1 p201 q201
              cases e201
              have HR201_0 := Aside0.mk hi201_0
              have HC201_0 := Aside0.mk hl201_0
              clear hi201_0 hl201_0
              replace p201 := eq_true p201
              replace q201 := eq_true q201
              have p202 : 0 ≤ (x3_1 : Int) := of_decide_eq_true (by first | (with_reducible assumption) | assumption)
              have q202 : x3_1 < (l0.length : Int) := of_decide_eq_true (by first | (with_reducible assumption) | assumption)
              obtain ⟨ad202, A202_0, c202_0, e202, hx202_0, hl202_0, hi202_0⟩ := at_L2 HR0.out x3_1 p202 q202
              obtain rfl : ad201 = ad202 := (by injection e202)
              have HR202_0 := Aside0.mk hi202_0
              have HC202_0 := Aside0.mk hl202_0
              clear hi202_0 hl202_0
              replace p202 := eq_true p202
              replace q202 := eq_true q202
              have ea_ := Option.some.inj (hx201_0.symm.trans hx202_0)
              injection ea_ with ea_ en_ ec_
              subst ea_
              subst ec_
              clear en_
              go_wp2_with (first | (go_at_call 26; (with_reducible refine (elasticstoreref03_ValidateVector.calls k1 _ _ (rd_L2 l0 x3_1) t203 _ ?side1 ?side2 A5.out).mono ?_); (case side1 => repeat (first | exact HR202_0.out | (with_reducible refine Kd.C_alloc ?_ _) | (with_reducible refine Kd.C_drewN ?_ _) | (with_reducible refine Kd.C_drew ?_))); (case side2 => exact HC202_0.out); rintro e w' ⟨rfl, ⟨nd, rfl⟩⟩))
              go_roundg k1
              case measure => have := HK1.out; omega
              case rel => exact ⟨(wrap64 (x3_1 + 1)), (by first | rfl | (simp; done) | (simp [*]; done)), H', ⟨by have := HK1.out; omega⟩, by repeat (first | exact Drawn0.refl _ | apply Drawn0.step)⟩
            · rw [if_neg c6] at H
              have c6b0 : (t203 == 0) = false := beq_eq_false_iff_ne.mpr c6
              have c6b1 : (t203 != 0) = true := bne_iff_ne.mpr c6
              obtain rfl := Option.some.inj H
              have p201 : 0 ≤ (x3_1 : Int) := of_decide_eq_true (by first | (with_reducible assumption) | assumption)
              have q201 : x3_1 < (l0.length : Int) := of_decide_eq_true (by first | (with_reducible assumption) | assumption)
              obtain ⟨ad201, A201_0, c201_0, e201, hx201_0, hl201_0, hi201_0⟩ := at_L2 HR0.out x3_1 p201 q201
              cases e201
              have HR201_0 := Aside0.mk hi201_0
              have HC201_0 := Aside0.mk hl201_0
              clear hi201_0 hl201_0
              replace p201 := eq_true p201
              replace q201 := eq_true q201
              have p202 : 0 ≤ (x3_1 : Int) := of_decide_eq_true (by first | (with_reducible assumption) | assumption)
              have q202 : x3_1 < (l0.length : Int) := of_decide_eq_true (by first | (with_reducible assumption) | assumption)
              obtain ⟨ad202, A202_0, c202_0, e202, hx202_0, hl202_0, hi202_0⟩ := at_L2 HR0.out x3_1 p202 q202
              obtain rfl : ad201 = ad202 := (by injection e202)
              have HR202_0 := Aside0.mk hi202_0
              have HC202_0 := Aside0.mk hl202_0
              clear hi202_0 hl202_0
              replace p202 := eq_true p202
              replace q202 := eq_true q202
              have ea_ := Option.some.inj (hx201_0.symm.trans hx202_0)
              injection ea_ with ea_ en_ ec_
              subst ea_
              subst ec_
              clear en_
              go_wp2_with (first | (go_at_call 26; (with_reducible refine (elasticstoreref03_ValidateVector.calls k1 _ _ (rd_L2 l0 x3_1) t203 _ ?side1 ?side2 A5.out).mono ?_); (case side1 => repeat (first | exact HR202_0.out | (with_reducible refine Kd.C_alloc ?_ _) | (with_reducible refine Kd.C_drewN ?_ _) | (with_reducible refine Kd.C_drew ?_))); (case side2 => exact HC202_0.out); rintro e w' ⟨rfl, ⟨nd, rfl⟩⟩))
              go_ret
              exact ⟨by first | rfl | (simp; done) | (simp [*]; done), by repeat (first | exact Drawn0.refl _ | apply Drawn0.step)⟩
        · rw [if_neg c3] at H
          exact absurd H (by simp)
      · rw [if_neg c2] at H
        have c2b0 : decide (x3_1 < (l0.length : Int)) = false := decide_eq_false c2
        clear c2
        obtain rfl := Option.some.inj H
        go_wp2
        go_ret
        exact ⟨by first | rfl | (simp; done) | (simp [*]; done), by repeat (first | exact Drawn0.refl _ | apply Drawn0.step)⟩

end Go.Proofs.Ytknkdbleeaaleaa.Print
