-- PRINTED by print.py (a twelfth state) out of the translation. Not trusted: Lean checks it.
import Derived.Test.YtknkdbleeaaleaaPrint0
import Derived.Test.YtknkdbleeaaleaaPrint2
import Derived.Test.YtknkdbleeaaleaaPrint4
namespace Go.Proofs.Ytknkdbleeaaleaa.Print
open Go.RowKit Go.Proofs.YtknkdbleeaaleaaW.PrintWords Go.Proofs.YtknkdbleeaaleaaW.PrintLast Go.Proofs.YtknkdbleeaaleaaW.PrintMore
attribute [local go_sem] max2_int min2_int max_two min_two max_three min_three max_four min_four   -- for this text's walks alone
set_option linter.unusedVariables false
set_option linter.unusedSimpArgs false

-- NOT PRINTED: function 69 (api_Entry_69)

-- NOT PRINTED: function 67 (api_Entry_67)

-- NOT PRINTED: function 59 (api_Entry_59)

-- NOT PRINTED: function 43 (vector_With)

-- NOT PRINTED: function 16 (elasticstorelaw03_VectorWith)

/-! ### elasticstorelaw15_valid: function 17 -/
def elasticstorelaw15_valid.l0 : Nat → List (List (S69)) → Int → Option (Bool)
  | 0, _, _ => none
  | k + 1, x0, x3 => if x3 < (x0.length : Int) then (if 0 ≤ x3 then (if ((rd_L2 x0 x3).length : Int) > 30 then (some false) else ((elasticstoreref03_ValidateVector.f k (rd_L2 x0 x3)).bind fun t392 => (if t392 = 0 then (elasticstorelaw15_valid.l0 k x0 (wrap64 (x3 + 1))) else (some false)))) else (none)) else (some (decide ((x0.length : Int) ≤ 40)))
def elasticstorelaw15_valid.f (k : Nat) (l0 : List (List (S69))) : Option (Bool) := elasticstorelaw15_valid.l0 k l0 0
theorem elasticstorelaw15_valid.mono_l : ∀ k, (∀ y0 y1, LeO (elasticstorelaw15_valid.l0 k y0 y1) (elasticstorelaw15_valid.l0 (k + 1) y0 y1))
  | 0 => fun _ _ r h => by simp [elasticstorelaw15_valid.l0] at h
  | k + 1 => by
    have ih0 := elasticstorelaw15_valid.mono_l k
    · intro y0 y1
      unfold elasticstorelaw15_valid.l0
      repeat' first
      | (with_reducible exact ih0 _ _)
      | (with_reducible exact elasticstoreref03_ValidateVector.mono _ _)
      | (with_reducible exact LeO.refl _)
      | (with_reducible exact LeO.none _)
      | (with_reducible refine LeO.ite ?_ ?_)
      | (with_reducible refine LeO.bind ?_ (fun _ => ?_))
      | exact ih0 _ _
      | exact elasticstoreref03_ValidateVector.mono _ _
      | exact LeO.none _
      | refine LeO.ite ?_ ?_
      | refine LeO.bind ?_ (fun _ => ?_)
theorem elasticstorelaw15_valid.mono : ∀ a0 k, LeO (elasticstorelaw15_valid.f k a0) (elasticstorelaw15_valid.f (k + 1) a0) := by
  intro a0 k
  have ih0 := elasticstorelaw15_valid.mono_l k
  unfold elasticstorelaw15_valid.f
  repeat' first
      | (with_reducible exact ih0 _ _)
      | (with_reducible exact elasticstoreref03_ValidateVector.mono _ _)
      | (with_reducible exact LeO.refl _)
      | (with_reducible exact LeO.none _)
      | (with_reducible refine LeO.ite ?_ ?_)
      | (with_reducible refine LeO.bind ?_ (fun _ => ?_))
      | exact ih0 _ _
      | exact elasticstoreref03_ValidateVector.mono _ _
      | exact LeO.none _
      | refine LeO.ite ?_ ?_
      | refine LeO.bind ?_ (fun _ => ?_)
set_option maxHeartbeats 8000000 in
set_option maxRecDepth 100000 in
theorem elasticstorelaw15_valid.calls (k : Nat) (A0 : Option Addr) (c0 : Nat) (l0 : List (List (S69))) (r : Bool) (w : World) (hr0 : Kd.C (Kd.slice 69 k69) w A0 l0.length l0) (hc0 : l0.length ≤ c0) (h : elasticstorelaw15_valid.f k l0 = some r) :
    Calls Try.prog 17 #[.slice A0 l0.length c0] w fun e w' => e = .returned (.bool r) ∧ Drawn0 w w' := by
  have HR0 := Aside0.mk hr0
  have HC0 := Aside0.mk hc0
  clear hr0 hc0
  have H : (elasticstorelaw15_valid.l0 k l0 0) = some r := h
  clear h
  have H' := Aside0.mk H
  clear H
  go_enter Try.func17, Try.ntmps17
  go_wp2
  go_loopg [3] k (fun kq v3 w' => ∃ (x3_1 : Int), v3 = .int .i64 x3_1 ∧ Aside0 (elasticstorelaw15_valid.l0 kq l0 x3_1 = some r) ∧ Aside0 (kq ≤ k) ∧ Drawn0 w w')
  case atStart => exact ⟨(0), (by first | rfl | (simp; done) | (simp [*]; done)), H', ⟨Nat.le_refl _⟩, by repeat (first | exact Drawn0.refl _ | apply Drawn0.step)⟩
  case round =>
    clear H'
    try clear c1
    obtain ⟨x3_1, rfl, HA, HK1, ⟨m1, rfl⟩⟩ := hrel
    cases gk with
    | zero => exact absurd HA.out (by simp [elasticstorelaw15_valid.l0])
    | succ k1 =>
      have H := HA.out
      clear HA
      simp only [elasticstorelaw15_valid.l0] at H
      by_cases c2 : x3_1 < (l0.length : Int)
      · rw [if_pos c2] at H
        have c2b0 : decide (x3_1 < (l0.length : Int)) = true := decide_eq_true c2
        clear c2
        by_cases c3 : 0 ≤ x3_1
        · rw [if_pos c3] at H
          have c3b0 : decide (0 ≤ x3_1) = true := decide_eq_true c3
          clear c3
          by_cases c4 : ((rd_L2 l0 x3_1).length : Int) > 30
          · rw [if_pos c4] at H
            have c4b0 : decide (30 < ((rd_L2 l0 x3_1).length : Int)) = true := decide_eq_true c4
            have c4b1 : decide (30 < (rd_L2 l0 x3_1).length) = true := decide_eq_true (by omega)
            clear c4
            obtain rfl := Option.some.inj H
            have p390 : 0 ≤ (x3_1 : Int) := of_decide_eq_true (by first | (with_reducible assumption) | assumption)
            have q390 : x3_1 < (l0.length : Int) := of_decide_eq_true (by first | (with_reducible assumption) | assumption)
            obtain ⟨ad390, A390_0, c390_0, e390, hx390_0, hl390_0, hi390_0⟩ := at_L2 HR0.out x3_1 p390 q390
            cases e390
            have HR390_0 := Aside0.mk hi390_0
            have HC390_0 := Aside0.mk hl390_0
            clear hi390_0 hl390_0
            replace p390 := eq_true p390
            replace q390 := eq_true q390
            go_wp2
            go_ret
            exact ⟨by first | rfl | (simp; done) | (simp [*]; done), by repeat (first | exact Drawn0.refl _ | apply Drawn0.step)⟩
          · rw [if_neg c4] at H
            have c4b0 : decide (30 < ((rd_L2 l0 x3_1).length : Int)) = false := decide_eq_false c4
            have c4b1 : decide (30 < (rd_L2 l0 x3_1).length) = false := decide_eq_false (by omega)
            clear c4
            replace H := Option.bind_eq_some_iff.mp H
            obtain ⟨t392, A50, H⟩ := H
            replace H : (if t392 = 0 then (elasticstorelaw15_valid.l0 k1 l0 (wrap64 (x3_1 + 1))) else (some false)) = some r := H
            have A5 := Aside0.mk A50
            clear A50
            by_cases c6 : t392 = 0
            · rw [if_pos c6] at H
              have c6b0 : (t392 == 0) = true := beq_iff_eq.mpr c6
              have c6b1 : (t392 != 0) = false := bne_eq_false_iff_eq.mpr c6
              clear c6
              have H' := Aside0.mk H
              clear H
              have p390 : 0 ≤ (x3_1 : Int) := of_decide_eq_true (by first | (with_reducible assumption) | assumption)
              have q390 : x3_1 < (l0.length : Int) := of_decide_eq_true (by first | (with_reducible assumption) | assumption)
              obtain ⟨ad390, A390_0, c390_0, e390, hx390_0, hl390_0, hi390_0⟩ := at_L2 HR0.out x3_1 p390 q390
              cases e390
              have HR390_0 := Aside0.mk hi390_0
              have HC390_0 := Aside0.mk hl390_0
              clear hi390_0 hl390_0
              replace p390 := eq_true p390
              replace q390 := eq_true q390
              have p391 : 0 ≤ (x3_1 : Int) := of_decide_eq_true (by first | (with_reducible assumption) | assumption)
              have q391 : x3_1 < (l0.length : Int) := of_decide_eq_true (by first | (with_reducible assumption) | assumption)
              obtain ⟨ad391, A391_0, c391_0, e391, hx391_0, hl391_0, hi391_0⟩ := at_L2 HR0.out x3_1 p391 q391
              obtain rfl : ad390 = ad391 := (by injection e391)
              have HR391_0 := Aside0.mk hi391_0
              have HC391_0 := Aside0.mk hl391_0
              clear hi391_0 hl391_0
              replace p391 := eq_true p391
              replace q391 := eq_true q391
              have ea_ := Option.some.inj (hx390_0.symm.trans hx391_0)
              injection ea_ with ea_ en_ ec_
              subst ea_
              subst ec_
              clear en_
              go_wp2_with (first | (go_at_call 26; (with_reducible refine (elasticstoreref03_ValidateVector.calls k1 _ _ (rd_L2 l0 x3_1) t392 _ ?side1 ?side2 A5.out).mono ?_); (case side1 => repeat (first | exact HR391_0.out | (with_reducible refine Kd.C_alloc ?_ _) | (with_reducible refine Kd.C_drewN ?_ _) | (with_reducible refine Kd.C_drew ?_))); (case side2 => exact HC391_0.out); rintro e w' ⟨rfl, ⟨nd, rfl⟩⟩))
              go_roundg k1
              case measure => have := HK1.out; omega
              case rel => exact ⟨(wrap64 (x3_1 + 1)), (by first | rfl | (simp; done) | (simp [*]; done)), H', ⟨by have := HK1.out; omega⟩, by repeat (first | exact Drawn0.refl _ | apply Drawn0.step)⟩
            · rw [if_neg c6] at H
              have c6b0 : (t392 == 0) = false := beq_eq_false_iff_ne.mpr c6
              have c6b1 : (t392 != 0) = true := bne_iff_ne.mpr c6
              obtain rfl := Option.some.inj H
              have p390 : 0 ≤ (x3_1 : Int) := of_decide_eq_true (by first | (with_reducible assumption) | assumption)
              have q390 : x3_1 < (l0.length : Int) := of_decide_eq_true (by first | (with_reducible assumption) | assumption)
              obtain ⟨ad390, A390_0, c390_0, e390, hx390_0, hl390_0, hi390_0⟩ := at_L2 HR0.out x3_1 p390 q390
              cases e390
              have HR390_0 := Aside0.mk hi390_0
              have HC390_0 := Aside0.mk hl390_0
              clear hi390_0 hl390_0
              replace p390 := eq_true p390
              replace q390 := eq_true q390
              have p391 : 0 ≤ (x3_1 : Int) := of_decide_eq_true (by first | (with_reducible assumption) | assumption)
              have q391 : x3_1 < (l0.length : Int) := of_decide_eq_true (by first | (with_reducible assumption) | assumption)
              obtain ⟨ad391, A391_0, c391_0, e391, hx391_0, hl391_0, hi391_0⟩ := at_L2 HR0.out x3_1 p391 q391
              obtain rfl : ad390 = ad391 := (by injection e391)
              have HR391_0 := Aside0.mk hi391_0
              have HC391_0 := Aside0.mk hl391_0
              clear hi391_0 hl391_0
              replace p391 := eq_true p391
              replace q391 := eq_true q391
              have ea_ := Option.some.inj (hx390_0.symm.trans hx391_0)
              injection ea_ with ea_ en_ ec_
              subst ea_
              subst ec_
              clear en_
              go_wp2_with (first | (go_at_call 26; (with_reducible refine (elasticstoreref03_ValidateVector.calls k1 _ _ (rd_L2 l0 x3_1) t392 _ ?side1 ?side2 A5.out).mono ?_); (case side1 => repeat (first | exact HR391_0.out | (with_reducible refine Kd.C_alloc ?_ _) | (with_reducible refine Kd.C_drewN ?_ _) | (with_reducible refine Kd.C_drew ?_))); (case side2 => exact HC391_0.out); rintro e w' ⟨rfl, ⟨nd, rfl⟩⟩))
              go_ret
              exact ⟨by first | rfl | (simp; done) | (simp [*]; done), by repeat (first | exact Drawn0.refl _ | apply Drawn0.step)⟩
        · rw [if_neg c3] at H
          exact absurd H (by simp)
      · rw [if_neg c2] at H
        have c2b0 : decide (x3_1 < (l0.length : Int)) = false := decide_eq_false c2
        clear c2
        obtain rfl := Option.some.inj H
        go_wp2
        go_ret
        exact ⟨by first | rfl | (simp; done) | (simp [*]; done), by repeat (first | exact Drawn0.refl _ | apply Drawn0.step)⟩

/-! ### acceptor_accept: function 47 -/
def acceptor_accept.l0 : Nat → List Bool → List (S69) → List (List (S69)) → Int → Int → Option ((List (S69)) × List Bool)
  | 0, _, _, _, _, _ => none
  | k + 1, x6, x7, x13, x14, x15 => if x15 < x14 then (if 0 ≤ x15 then (if x15 < (x13.length : Int) then ((vector_LessEqual.f k x7 (rd_L2 x13 x15)).bind fun t399 => (if x6.length < 140737488355328 then ((vector_Join.f x7 (rd_L2 x13 x15)).bind fun t403 => (acceptor_accept.l0 k (x6 ++ [t399]) t403 x13 x14 (wrap64 (x15 + 1)))) else (none))) else (none)) else (none)) else (some (x7, x6))
def acceptor_accept.f (k : Nat) (l0_0 : List (S69)) (l1 : List (List (S69))) : Option ((List (S69)) × List Bool) := (vector_Join.f l0_0 ([] : List (S69))).bind fun t395 => (acceptor_accept.l0 k ([] : List Bool) t395 l1 (l1.length : Int) 0)
theorem acceptor_accept.mono_l : ∀ k, (∀ y0 y1 y2 y3 y4, LeO (acceptor_accept.l0 k y0 y1 y2 y3 y4) (acceptor_accept.l0 (k + 1) y0 y1 y2 y3 y4))
  | 0 => fun _ _ _ _ _ r h => by simp [acceptor_accept.l0] at h
  | k + 1 => by
    have ih0 := acceptor_accept.mono_l k
    · intro y0 y1 y2 y3 y4
      unfold acceptor_accept.l0
      repeat' first
      | (with_reducible exact ih0 _ _ _ _ _)
      | (with_reducible exact vector_LessEqual.mono _ _ _)
      | (with_reducible exact LeO.refl _)
      | (with_reducible exact LeO.none _)
      | (with_reducible refine LeO.ite ?_ ?_)
      | (with_reducible refine LeO.bind ?_ (fun _ => ?_))
      | exact ih0 _ _ _ _ _
      | exact vector_LessEqual.mono _ _ _
      | exact LeO.none _
      | refine LeO.ite ?_ ?_
      | refine LeO.bind ?_ (fun _ => ?_)
theorem acceptor_accept.mono : ∀ a0 a1 k, LeO (acceptor_accept.f k a0 a1) (acceptor_accept.f (k + 1) a0 a1) := by
  intro a0 a1 k
  have ih0 := acceptor_accept.mono_l k
  unfold acceptor_accept.f
  repeat' first
      | (with_reducible exact ih0 _ _ _ _ _)
      | (with_reducible exact vector_LessEqual.mono _ _ _)
      | (with_reducible exact LeO.refl _)
      | (with_reducible exact LeO.none _)
      | (with_reducible refine LeO.ite ?_ ?_)
      | (with_reducible refine LeO.bind ?_ (fun _ => ?_))
      | exact ih0 _ _ _ _ _
      | exact vector_LessEqual.mono _ _ _
      | exact LeO.none _
      | refine LeO.ite ?_ ?_
      | refine LeO.bind ?_ (fun _ => ?_)
set_option maxHeartbeats 8000000 in
set_option maxRecDepth 100000 in
theorem acceptor_accept.calls (k : Nat) (A0_0 : Option Addr) (c0_0 : Nat) (l0_0 : List (S69)) (A1 : Option Addr) (c1 : Nat) (l1 : List (List (S69))) (r1 : List (S69)) (r2 : List Bool) (w : World) (hr0_0 : Kd.C k69 w A0_0 l0_0.length l0_0) (hc0_0 : l0_0.length ≤ c0_0) (hr1 : Kd.C (Kd.slice 69 k69) w A1 l1.length l1) (hc1 : l1.length ≤ c1) (h : acceptor_accept.f k l0_0 l1 = some (r1, r2)) :
    Calls Try.prog 47 #[.agg #[.slice A0_0 l0_0.length c0_0], .slice A1 l1.length c1] w fun e w' => ∃ v0_ v1_ : Value, e = .returned (.tuple #[.agg #[v0_], v1_]) ∧ Kd.R k69 69 w' w.heap.size (fun _ => True) v0_ r1 ∧ Kd.R Kd.bool 4 w' w.heap.size (fun _ => True) v1_ r2 ∧ Below w.heap.size w w' := by
  have hu25 := Try.underlying25
  have HR0_0 := Aside0.mk hr0_0
  have HC0_0 := Aside0.mk hc0_0
  clear hr0_0 hc0_0
  have HR1 := Aside0.mk hr1
  have HC1 := Aside0.mk hc1
  clear hr1 hc1
  have HB := Aside0.mk (Below.refl w.heap.size w)
  have H : ((vector_Join.f l0_0 ([] : List (S69))).bind fun t395 => (acceptor_accept.l0 k ([] : List Bool) t395 l1 (l1.length : Int) 0)) = some (r1, r2) := h
  clear h
  replace H := Option.bind_eq_some_iff.mp H
  obtain ⟨t395, A30, H⟩ := H
  replace H : (acceptor_accept.l0 k ([] : List Bool) t395 l1 (l1.length : Int) 0) = some (r1, r2) := H
  have A3 := Aside0.mk A30
  clear A30
  have H' := Aside0.mk H
  clear H
  go_enter Try.func47, Try.ntmps47
  go_wp2_with (first | ((with_reducible refine gate_dst (N := 2) rfl ?_); refine box_event ?hg (N := 2) ?hd (cs := #[.slice A0_0 l0_0.length c0_0]) (t := 25) ?hr ?_; (case hd => rfl); (case hg => rfl); (case hr => first | (go_simp; done) | (go_simp; rfl)); intro gb393 hg w4 hbox hb; have n0_ := Aside0.mk (below_step (by repeat (first | (with_reducible first | exact HB.out | apply below_alloc | apply pw_below_drewN | apply below_drew1) | exact HB.out)) hb); have n1_ := Aside0.mk (hbox); have n2_ := Aside0.mk ((by rw [hg]; exact (below_size (by repeat (first | (with_reducible first | exact HB.out | apply below_alloc | apply pw_below_drewN | apply below_drew1) | exact HB.out))) : w.heap.size ≤ gb393)); have n3_ := Aside0.mk ((by rw [hg]; exact (below_size (by repeat (first | (with_reducible first | exact HB.out | apply below_alloc | apply pw_below_drewN | apply below_drew1) | exact HB.out))) : w.heap.size ≤ gb393)); clear HB; have HB := n0_; have BK393 := n1_; have GW393 := n2_; have GE393 := n3_; clear n0_ n1_ n2_ n3_; clear hb hbox hg) | ((with_reducible refine gate_dst (N := 4) rfl ?_); refine box_event ?hg (N := 4) ?hd (cs := #[.slice none 0 0]) (t := 25) ?hr ?_; (case hd => rfl); (case hg => rfl); (case hr => first | (go_simp; done) | (go_simp; rfl)); intro gb394 hg w5 hbox hb; have n0_ := Aside0.mk (blk_below (g := gb393) (o := .cells #[.slice A0_0 l0_0.length c0_0] 25 (0, 0)) (by (with_reducible repeat (first | refine blk_drewN ?_ _ | refine blk_drew ?_ | refine blk_alloc ?_ _)); exact BK393.out) hb); have n1_ := Aside0.mk (below_step (by repeat (first | (with_reducible first | exact HB.out | apply below_alloc | apply pw_below_drewN | apply below_drew1 | refine below_set ?_ GE393.out) | exact HB.out)) hb); have n2_ := Aside0.mk (hbox); have n3_ := Aside0.mk ((by rw [hg]; exact (below_size (by repeat (first | (with_reducible first | exact HB.out | apply below_alloc | apply pw_below_drewN | apply below_drew1 | refine below_set ?_ GE393.out) | exact HB.out))) : w.heap.size ≤ gb394)); have n4_ := Aside0.mk ((by rw [hg]; exact (below_size (by repeat (first | (with_reducible first | exact HB.out | apply below_alloc | apply pw_below_drewN | apply below_drew1 | refine below_set ?_ GE393.out) | exact HB.out))) : w.heap.size ≤ gb394)); have n5_ := Aside0.mk ((by rw [hg]; exact Nat.ne_of_lt (blk_lt (g := gb393) (o := .cells #[.slice A0_0 l0_0.length c0_0] 25 (0, 0)) (by (with_reducible repeat (first | refine blk_drewN ?_ _ | refine blk_drew ?_ | refine blk_alloc ?_ _)); exact BK393.out)) : gb393 ≠ gb394)); have n6_ := Aside0.mk ((by rw [hg]; exact Nat.ne_of_gt (blk_lt (g := gb393) (o := .cells #[.slice A0_0 l0_0.length c0_0] 25 (0, 0)) (by (with_reducible repeat (first | refine blk_drewN ?_ _ | refine blk_drew ?_ | refine blk_alloc ?_ _)); exact BK393.out)) : gb394 ≠ gb393)); clear BK393; clear HB; have BK393 := n0_; have HB := n1_; have BK394 := n2_; have GW394 := n3_; have GE394 := n4_; have NB393_394 := n5_; have NB394_393 := n6_; clear n0_ n1_ n2_ n3_ n4_ n5_ n6_; clear hb hbox hg; have hnb6 := NB393_394.out; have hnc6 := NB394_393.out; have hcz7_0 : w5.cell? ⟨gb393, 0, none⟩ = some (.slice A0_0 l0_0.length c0_0) := (blk_cell BK393.out 0).trans rfl; have hfz7_0 := blk_frozen BK393.out 0) | ((with_reducible refine gate_callee (f := 28) rfl ?_); refine goesL_ (some 12) rfl rfl Try.func28 (by kernel_rfl) rfl #[.slice A0_0 l0_0.length c0_0, .slice none 0 0] rfl (by (try simp only [List.map_toArray, List.map_cons, List.map_nil]); first | done | rfl | (simp only [List.length_drop, List.length_take]; rfl)) ?_; (refine (vector_Join.calls _ _ l0_0 _ _ ([] : List (S69)) t395 _ ?side1 ?side2 ?side3 ?side4 A3.out).mono ?_); (case side1 => repeat (first | exact (Kd.C_below HR0_0.out HB.out) | (with_reducible refine Kd.C_alloc ?_ _) | (with_reducible refine Kd.C_drewN ?_ _) | (with_reducible refine Kd.C_drew ?_))); (case side2 => exact HC0_0.out); (case side3 => exact Kd.C_nil _ _); (case side4 => exact Nat.le_refl _); rintro e w8 ⟨v396, rfl, ho0, hb⟩; refine ⟨_, rfl, ?_⟩; have n0_ := Aside0.mk (Kd.R_lower ho0 (below_size (by repeat (first | (with_reducible first | exact HB.out | apply below_alloc | apply pw_below_drewN | apply below_drew1 | refine below_set ?_ GE393.out | refine below_set ?_ GE394.out) | exact HB.out)))); have n1_ := Aside0.mk (blk_below (g := gb393) (o := .cells #[.slice A0_0 l0_0.length c0_0] 25 (0, 0)) (by (with_reducible repeat (first | refine blk_drewN ?_ _ | refine blk_drew ?_ | refine blk_alloc ?_ _)); exact BK393.out) hb); have n2_ := Aside0.mk (blk_below (g := gb394) (o := .cells #[.slice none 0 0] 25 (0, 0)) (by (with_reducible repeat (first | refine blk_drewN ?_ _ | refine blk_drew ?_ | refine blk_alloc ?_ _)); exact BK394.out) hb); have n3_ := Aside0.mk (below_step (by repeat (first | (with_reducible first | exact HB.out | apply below_alloc | apply pw_below_drewN | apply below_drew1 | refine below_set ?_ GE393.out | refine below_set ?_ GE394.out) | exact HB.out)) hb); clear BK393; clear BK394; clear HB; have HO397 := n0_; have BK393 := n1_; have BK394 := n2_; have HB := n3_; clear n0_ n1_ n2_ n3_; (try clear hb); (try clear hb2); (try clear hk); (try clear hi); (try clear ho0)))
  go_loopg [6, 7, 15] k (fun kq v6 v7 v15 w' => ∃ (x6_1 : List Bool) (x7_1 : List (S69)) (x15_1 : Int), v15 = .int .i64 x15_1 ∧ Aside0 (acceptor_accept.l0 kq x6_1 x7_1 l1 (l1.length : Int) x15_1 = some (r1, r2)) ∧ Aside0 (kq ≤ k) ∧ Aside0 (Kd.R Kd.bool 4 w' w.heap.size (fun _ => True) v6 x6_1) ∧ Aside0 (Kd.R k69 69 w' w.heap.size (fun _ => True) v7 x7_1) ∧ Aside0 (w'.heap[gb393]? = some (.cells #[(.slice A0_0 l0_0.length c0_0)] 25 (0, 0))) ∧ Aside0 (w'.heap[gb394]? = some (.cells #[(.slice none 0 0)] 25 (0, 0))) ∧ Aside0 (Below w.heap.size w w'))
  case atStart => exact ⟨(([] : List Bool)), (t395), (0), (by first | rfl | (simp; done) | (simp [*]; done)), H', ⟨Nat.le_refl _⟩, ⟨by first | exact Kd.R_nil _ _ _ _ _ | exact Kd.N_nil _ _ _ _ _ | exact Kd.V_nil _ _ _ _ _ | exact Kd.Q_nil _ _ _ _ _ | exact Kd.S_nil _ _ _ _ _⟩, ⟨by (with_reducible repeat (first | apply Kd.R_alloc | apply Kd.R_drewN | apply Kd.R_drew)); exact HO397.out⟩, ⟨by (with_reducible repeat (first | refine blk_drewN ?_ _ | refine blk_drew ?_ | refine blk_alloc ?_ _)); exact BK393.out⟩, ⟨by (with_reducible repeat (first | refine blk_drewN ?_ _ | refine blk_drew ?_ | refine blk_alloc ?_ _)); exact BK394.out⟩, ⟨by repeat (first | (with_reducible first | exact HB.out | apply below_alloc | apply pw_below_drewN | apply below_drew1 | refine below_set ?_ GE393.out | refine below_set ?_ GE394.out) | exact HB.out)⟩⟩
  case round =>
    clear H'
    try clear c1
    try clear c2
    try clear p2
    try clear c4
    try clear c6
    try clear hcz7_0
    try clear hfz7_0
    obtain ⟨x6_1, x7_1, x15_1, rfl, HA, HK1, HO_6, HO_7, BK393, BK394, HB⟩ := hrel
    cases gk with
    | zero => exact absurd HA.out (by simp [acceptor_accept.l0])
    | succ k1 =>
      have H := HA.out
      clear HA
      simp only [acceptor_accept.l0] at H
      by_cases c9 : x15_1 < (l1.length : Int)
      · rw [if_pos c9] at H
        have c9b0 : decide (x15_1 < (l1.length : Int)) = true := decide_eq_true c9
        clear c9
        by_cases c10 : 0 ≤ x15_1
        · rw [if_pos c10] at H
          have c10b0 : decide (0 ≤ x15_1) = true := decide_eq_true c10
          clear c10
          by_cases c11 : x15_1 < (l1.length : Int)
          · rw [if_pos c11] at H
            have c11b0 : decide (x15_1 < (l1.length : Int)) = true := decide_eq_true c11
            clear c11
            replace H := Option.bind_eq_some_iff.mp H
            obtain ⟨t399, A120, H⟩ := H
            replace H : (if x6_1.length < 140737488355328 then ((vector_Join.f x7_1 (rd_L2 l1 x15_1)).bind fun t403 => (acceptor_accept.l0 k1 (x6_1 ++ [t399]) t403 l1 (l1.length : Int) (wrap64 (x15_1 + 1)))) else (none)) = some (r1, r2) := H
            have A12 := Aside0.mk A120
            clear A120
            by_cases c13 : x6_1.length < 140737488355328
            · rw [if_pos c13] at H
              have LMc13 := Aside0.mk c13
              clear c13
              obtain ⟨y400, hy400⟩ : ∃ y_ : List Bool, y_ = (x6_1 ++ [t399]) := ⟨_, rfl⟩
              replace H : ((vector_Join.f x7_1 (rd_L2 l1 x15_1)).bind fun t403 => (acceptor_accept.l0 k1 y400 t403 l1 (l1.length : Int) (wrap64 (x15_1 + 1)))) = some (r1, r2) := by first | (rw [hy400]; with_reducible exact H) | (have H2_ := (Option.bind_some _ _).symm.trans H; rw [hy400]; with_reducible exact H2_) | (have H2_ := (Option.bind_some _ _).symm.trans H; with_reducible exact H2_) | with_reducible exact H | (rw [hy400]; exact H) | exact H
              have Ny400 := Aside0.mk hy400
              clear hy400
              replace H := Option.bind_eq_some_iff.mp H
              obtain ⟨t403, A140, H⟩ := H
              replace H : (acceptor_accept.l0 k1 y400 t403 l1 (l1.length : Int) (wrap64 (x15_1 + 1))) = some (r1, r2) := H
              have A14 := Aside0.mk A140
              clear A140
              have H' := Aside0.mk H
              clear H
              have p398 : 0 ≤ (x15_1 : Int) := of_decide_eq_true (by first | (with_reducible assumption) | assumption)
              have q398 : x15_1 < (l1.length : Int) := of_decide_eq_true (by first | (with_reducible assumption) | assumption)
              obtain ⟨ad398, A398_0, c398_0, e398, hx398_0, hl398_0, hi398_0⟩ := at_L2 HR1.out x15_1 p398 q398
              cases e398
              replace hx398_0 := (HB.out.cell (World.block_lt_of_cell? w _ hx398_0)).trans hx398_0
              have HR398_0 := Aside0.mk hi398_0
              have HC398_0 := Aside0.mk hl398_0
              clear hi398_0 hl398_0
              replace p398 := eq_true p398
              replace q398 := eq_true q398
              obtain ⟨Ao15, co15, eo15⟩ := Kd.R_slice HO_7.out
              subst eo15
              go_wp2_with (first | ((with_reducible refine gate_callee (f := 29) rfl ?_); refine goesL_ (some 22) rfl rfl Try.func29 (by kernel_rfl) rfl #[.slice Ao15 x7_1.length co15, .slice A398_0 (rd_L2 l1 x15_1).length c398_0] rfl (by (try simp only [List.map_toArray, List.map_cons, List.map_nil]); first | done | rfl | (simp only [List.length_drop, List.length_take]; rfl)) ?_; (with_reducible refine (vector_LessEqual.calls k1 _ _ x7_1 _ _ (rd_L2 l1 x15_1) t399 _ ?side1 ?side2 ?side3 ?side4 A12.out).mono ?_); (case side1 => repeat (first | exact (Kd.R_reads' HO_7.out).2.2 | (with_reducible refine Kd.C_alloc ?_ _) | (with_reducible refine Kd.C_drewN ?_ _) | (with_reducible refine Kd.C_drew ?_))); (case side2 => exact (Kd.R_reads' HO_7.out).2.1); (case side3 => repeat (first | exact (Kd.C_below HR398_0.out HB.out) | (with_reducible refine Kd.C_alloc ?_ _) | (with_reducible refine Kd.C_drewN ?_ _) | (with_reducible refine Kd.C_drew ?_))); (case side4 => exact HC398_0.out); rintro e w16 ⟨rfl, hb⟩; refine ⟨_, rfl, ?_⟩; have n0_ := Aside0.mk (Kd.R_below (by (with_reducible repeat (first | apply Kd.R_alloc | apply Kd.R_drewN | apply Kd.R_drew)); exact HO_6.out) hb); have n1_ := Aside0.mk (Kd.R_below (by (with_reducible repeat (first | apply Kd.R_alloc | apply Kd.R_drewN | apply Kd.R_drew)); exact HO_7.out) hb); have n2_ := Aside0.mk (blk_below (g := gb393) (o := .cells #[.slice A0_0 l0_0.length c0_0] 25 (0, 0)) (by (with_reducible repeat (first | refine blk_drewN ?_ _ | refine blk_drew ?_ | refine blk_alloc ?_ _)); exact BK393.out) hb); have n3_ := Aside0.mk (blk_below (g := gb394) (o := .cells #[.slice none 0 0] 25 (0, 0)) (by (with_reducible repeat (first | refine blk_drewN ?_ _ | refine blk_drew ?_ | refine blk_alloc ?_ _)); exact BK394.out) hb); have n4_ := Aside0.mk (below_step (by repeat (first | (with_reducible first | exact HB.out | apply below_alloc | apply pw_below_drewN | apply below_drew1 | refine below_set ?_ GE393.out | refine below_set ?_ GE394.out) | exact HB.out)) hb); clear HO_6; clear HO_7; clear BK393; clear BK394; clear HB; have HO_6 := n0_; have HO_7 := n1_; have BK393 := n2_; have BK394 := n3_; have HB := n4_; clear n0_ n1_ n2_ n3_ n4_; (try clear hb); (try clear hb2); (try clear hk); (try clear hi)) | ((with_reducible refine gate_builtin (b := .append) (xs := #[.tmp 19, .tmp 23]) rfl ?_); at_builtin; refine Kd.R_append Kd.bool (w0 := w) w.heap.size rfl (.tmp 19) (.tmp 23) 34 4 (.bool false) 1 rfl Try.underlying34 info4 rfl (by decide) (by omega) u6 x6_1 t399 [.bool t399] (fun _ => True) (fun _ => False) rfl rfl ?aP (fun _ hk => hk.elim) ?aF ?aO ?aB ?aS ?aL ?_; (case aP => exact rfl); (case aB => exact (by repeat (first | (with_reducible first | exact HB.out | apply below_alloc | apply pw_below_drewN | apply below_drew1 | refine below_set ?_ GE393.out | refine below_set ?_ GE394.out) | exact HB.out))); (case aF => exact (fun _ _ => trivial)); (case aO => exact (by (with_reducible repeat (first | apply Kd.R_alloc | apply Kd.R_drewN | apply Kd.R_drew)); exact HO_6.out)); (case aS => exact (below_size (by repeat (first | (with_reducible first | exact HB.out | apply below_alloc | apply pw_below_drewN | apply below_drew1 | refine below_set ?_ GE393.out | refine below_set ?_ GE394.out) | exact HB.out)))); (case aL => have := LMc13.out; omega); intro v401 w17 ho hb hg hat; rw [← Ny400.out] at ho; have n0_ := Aside0.mk (Kd.R_over' (by (with_reducible repeat (first | apply Kd.R_alloc | apply Kd.R_drewN | apply Kd.R_drew)); exact HO_7.out) (Kd.R_typed (by (with_reducible repeat (first | apply Kd.R_alloc | apply Kd.R_drewN | apply Kd.R_drew)); exact HO_6.out)) (by decide) hg); have n1_ := Aside0.mk (blk_grown (g := gb393) (o := .cells #[.slice A0_0 l0_0.length c0_0] 25 (0, 0)) (by (with_reducible repeat (first | refine blk_drewN ?_ _ | refine blk_drew ?_ | refine blk_alloc ?_ _)); exact BK393.out) hg (Kd.R_ne HO_6.out BK393.out (by decide))); have n2_ := Aside0.mk (blk_grown (g := gb394) (o := .cells #[.slice none 0 0] 25 (0, 0)) (by (with_reducible repeat (first | refine blk_drewN ?_ _ | refine blk_drew ?_ | refine blk_alloc ?_ _)); exact BK394.out) hg (Kd.R_ne HO_6.out BK394.out (by decide))); have n3_ := Aside0.mk (hb); have n4_ := Aside0.mk (ho); clear HO_7; clear BK393; clear BK394; clear HB; clear HO_6; have HO_7 := n0_; have BK393 := n1_; have BK394 := n2_; have HB := n3_; have HO402 := n4_; clear n0_ n1_ n2_ n3_ n4_; clear ho hb hg hat) | ((with_reducible refine gate_callee (f := 28) rfl ?_); refine goesL_ (some 27) rfl rfl Try.func28 (by kernel_rfl) rfl #[.slice Ao15 x7_1.length co15, .slice A398_0 (rd_L2 l1 x15_1).length c398_0] rfl (by (try simp only [List.map_toArray, List.map_cons, List.map_nil]); first | done | rfl | (simp only [List.length_drop, List.length_take]; rfl)) ?_; (with_reducible refine (vector_Join.calls _ _ x7_1 _ _ (rd_L2 l1 x15_1) t403 _ ?side1 ?side2 ?side3 ?side4 A14.out).mono ?_); (case side1 => repeat (first | exact (Kd.R_reads' HO_7.out).2.2 | (with_reducible refine Kd.C_alloc ?_ _) | (with_reducible refine Kd.C_drewN ?_ _) | (with_reducible refine Kd.C_drew ?_))); (case side2 => exact (Kd.R_reads' HO_7.out).2.1); (case side3 => repeat (first | exact (Kd.C_below HR398_0.out HB.out) | (with_reducible refine Kd.C_alloc ?_ _) | (with_reducible refine Kd.C_drewN ?_ _) | (with_reducible refine Kd.C_drew ?_))); (case side4 => exact HC398_0.out); rintro e w18 ⟨v404, rfl, ho0, hb⟩; refine ⟨_, rfl, ?_⟩; have n0_ := Aside0.mk (Kd.R_elder' (by (with_reducible repeat (first | apply Kd.R_alloc | apply Kd.R_drewN | apply Kd.R_drew)); exact HO_7.out) (Kd.R_base ho0) hb); have n1_ := Aside0.mk (Kd.R_below (by (with_reducible repeat (first | apply Kd.R_alloc | apply Kd.R_drewN | apply Kd.R_drew)); exact HO402.out) hb); have n2_ := Aside0.mk (Kd.R_lower (Kd.R_new' ho0 (Kd.R_lt (by (with_reducible repeat (first | apply Kd.R_alloc | apply Kd.R_drewN | apply Kd.R_drew)); exact HO_7.out))) (below_size (by repeat (first | (with_reducible first | exact HB.out | apply below_alloc | apply pw_below_drewN | apply below_drew1 | refine below_set ?_ GE393.out | refine below_set ?_ GE394.out) | exact HB.out)))); have n3_ := Aside0.mk (blk_below (g := gb393) (o := .cells #[.slice A0_0 l0_0.length c0_0] 25 (0, 0)) (by (with_reducible repeat (first | refine blk_drewN ?_ _ | refine blk_drew ?_ | refine blk_alloc ?_ _)); exact BK393.out) hb); have n4_ := Aside0.mk (blk_below (g := gb394) (o := .cells #[.slice none 0 0] 25 (0, 0)) (by (with_reducible repeat (first | refine blk_drewN ?_ _ | refine blk_drew ?_ | refine blk_alloc ?_ _)); exact BK394.out) hb); have n5_ := Aside0.mk (below_step (by repeat (first | (with_reducible first | exact HB.out | apply below_alloc | apply pw_below_drewN | apply below_drew1 | refine below_set ?_ GE393.out | refine below_set ?_ GE394.out) | exact HB.out)) hb); clear HO_7; clear HO402; clear BK393; clear BK394; clear HB; have HO_7 := n0_; have HO402 := n1_; have HO405 := n2_; have BK393 := n3_; have BK394 := n4_; have HB := n5_; clear n0_ n1_ n2_ n3_ n4_ n5_; (try clear hb); (try clear hb2); (try clear hk); (try clear hi); (try clear ho0)))
              go_roundg k1
              case measure => have := HK1.out; omega
              case rel => exact ⟨(y400), (t403), (wrap64 (x15_1 + 1)), (by first | rfl | (simp; done) | (simp [*]; done)), H', ⟨by have := HK1.out; omega⟩, ⟨by (with_reducible repeat (first | apply Kd.R_alloc | apply Kd.R_drewN | apply Kd.R_drew)); exact HO402.out⟩, ⟨by (with_reducible repeat (first | apply Kd.R_alloc | apply Kd.R_drewN | apply Kd.R_drew)); exact Kd.R_mono HO405.out (fun _ hk => trivial)⟩, ⟨by (with_reducible repeat (first | refine blk_drewN ?_ _ | refine blk_drew ?_ | refine blk_alloc ?_ _)); exact BK393.out⟩, ⟨by (with_reducible repeat (first | refine blk_drewN ?_ _ | refine blk_drew ?_ | refine blk_alloc ?_ _)); exact BK394.out⟩, ⟨by repeat (first | (with_reducible first | exact HB.out | apply below_alloc | apply pw_below_drewN | apply below_drew1 | refine below_set ?_ GE393.out | refine below_set ?_ GE394.out) | exact HB.out)⟩⟩
            · rw [if_neg c13] at H
              exact absurd H (by simp)
          · rw [if_neg c11] at H
            exact absurd H (by simp)
        · rw [if_neg c10] at H
          exact absurd H (by simp)
      · rw [if_neg c9] at H
        have c9b0 : decide (x15_1 < (l1.length : Int)) = false := decide_eq_false c9
        clear c9
        simp only [Option.some.injEq, Prod.mk.injEq] at H
        obtain ⟨rfl, rfl⟩ := H
        obtain ⟨Ao19, co19, eo19⟩ := Kd.R_slice HO_7.out
        subst eo19
        have hnb20 := NB394_393.out
        have hnc20 := NB393_394.out
        have hcz21_0 : wr.cell? ⟨gb394, 0, none⟩ = some (.slice none 0 0) := (blk_cell BK394.out 0).trans rfl
        have hfz21_0 := blk_frozen BK394.out 0
        go_wp2
        refine bodyPost_ret (results_ct rfl _ _ gb394 25 #[.slice Ao19 x7_1.length co19] (0, 0) _ rfl (by (with_reducible repeat (first | refine blk_drewN ?_ _ | refine blk_drew ?_ | refine blk_alloc ?_ _)); refine blk_put (cs := #[.slice none 0 0]) ?_ 0 _ rfl; (with_reducible repeat (first | refine blk_drewN ?_ _ | refine blk_drew ?_ | refine blk_alloc ?_ _)); exact BK394.out) Try.underlying25 rfl (by kernel_rfl)) rfl ?_
        exact ⟨_, _, by first | rfl | (simp [errW_none, errW_some] <;> rfl) | (simp [*, errW_none, errW_some] <;> rfl), by (with_reducible repeat (first | apply Kd.R_alloc | apply Kd.R_drewN | apply Kd.R_drew)); exact Kd.R_mono (Kd.R_far (p := ⟨gb394, 0, none⟩) (Kd.R_types HO_7.out BK394.out (by decide)) (fun _ hk => hk.2) (.slice Ao19 x7_1.length co19)) (fun _ hk => trivial), by (with_reducible repeat (first | apply Kd.R_alloc | apply Kd.R_drewN | apply Kd.R_drew)); exact Kd.R_mono (Kd.R_far (p := ⟨gb394, 0, none⟩) (Kd.R_types HO_6.out BK394.out (by decide)) (fun _ hk => hk.2) (.slice Ao19 x7_1.length co19)) (fun _ hk => trivial), by repeat (first | (with_reducible first | exact HB.out | apply below_alloc | apply pw_below_drewN | apply below_drew1 | refine below_set ?_ GE393.out | refine below_set ?_ GE394.out) | exact HB.out)⟩

/-! ### acceptor_Accept: function 19 -/
def acceptor_Accept.f (k : Nat) (l0_0 : List (S69)) (l1 : List (S69)) : Option ((List (S69)) × Bool) := (acceptor_accept.f k l0_0 (([l1] : List (List (S69))))).bind fun bt411 => (if 0 < (bt411.2.length : Int) then (some (bt411.1, rdOf false bt411.2 0)) else (none))
theorem acceptor_Accept.mono : ∀ a0 a1 k, LeO (acceptor_Accept.f k a0 a1) (acceptor_Accept.f (k + 1) a0 a1) := by
  intro a0 a1 k
  unfold acceptor_Accept.f
  repeat' first
      | (with_reducible exact acceptor_accept.mono _ _ _)
      | (with_reducible exact LeO.refl _)
      | (with_reducible exact LeO.none _)
      | (with_reducible refine LeO.ite ?_ ?_)
      | (with_reducible refine LeO.bind ?_ (fun _ => ?_))
      | exact acceptor_accept.mono _ _ _
      | exact LeO.none _
      | refine LeO.ite ?_ ?_
      | refine LeO.bind ?_ (fun _ => ?_)
set_option maxHeartbeats 8000000 in
set_option maxRecDepth 100000 in
theorem acceptor_Accept.calls (k : Nat) (A0_0 : Option Addr) (c0_0 : Nat) (l0_0 : List (S69)) (P1_ : Nat → Prop) (A1 : Option Addr) (c1 : Nat) (l1 : List (S69)) (r1 : List (S69)) (r2 : Bool) (w : World) (hr0_0 : Kd.C k69 w A0_0 l0_0.length l0_0) (hc0_0 : l0_0.length ≤ c0_0) (hs1 : Kd.V k69 69 w w.heap.size (fun k_ => P1_ k_) (.slice A1 l1.length c1) l1) (h : acceptor_Accept.f k l0_0 l1 = some (r1, r2)) :
    Calls Try.prog 19 #[.agg #[.slice A0_0 l0_0.length c0_0], .slice A1 l1.length c1] w fun e w' => ∃ v0_ : Value, e = .returned (.tuple #[.agg #[v0_], .bool r2]) ∧ Kd.R k69 69 w' w.heap.size (fun k_ => (w.heap.size ≤ k_)) v0_ r1 ∧ Below w.heap.size w w' := by
  have hu25 := Try.underlying25
  have HR0_0 := Aside0.mk hr0_0
  have HC0_0 := Aside0.mk hc0_0
  clear hr0_0 hc0_0
  have HO1 := Aside0.mk (show Kd.V k69 69 w w.heap.size (fun k_ => (P1_ k_ ∨ w.heap.size ≤ k_)) (.slice A1 l1.length c1) l1 from Kd.V_mono hs1 (fun k_ hk => .inl hk))
  have HB := Aside0.mk (Below.refl w.heap.size w)
  have H : ((acceptor_accept.f k l0_0 (([l1] : List (List (S69))))).bind fun bt411 => (if 0 < (bt411.2.length : Int) then (some (bt411.1, rdOf false bt411.2 0)) else (none))) = some (r1, r2) := h
  clear h
  obtain ⟨y408, hy408⟩ : ∃ y_ : List (List (S69)), y_ = (([l1] : List (List (S69)))) := ⟨_, rfl⟩
  replace H : ((acceptor_accept.f k l0_0 y408).bind fun bt411 => (if 0 < (bt411.2.length : Int) then (some (bt411.1, rdOf false bt411.2 0)) else (none))) = some (r1, r2) := by first | (rw [hy408]; with_reducible exact H) | (have H2_ := (Option.bind_some _ _).symm.trans H; rw [hy408]; with_reducible exact H2_) | (have H2_ := (Option.bind_some _ _).symm.trans H; with_reducible exact H2_) | with_reducible exact H | (rw [hy408]; exact H) | exact H
  have Ny408 := Aside0.mk hy408
  clear hy408
  replace H := Option.bind_eq_some_iff.mp H
  obtain ⟨⟨t411, t414⟩, A30, H⟩ := H
  replace H : (if 0 < (t414.length : Int) then (some (t411, rdOf false t414 0)) else (none)) = some (r1, r2) := H
  have A3 := Aside0.mk A30
  clear A30
  by_cases c4 : 0 < (t414.length : Int)
  · rw [if_pos c4] at H
    have c4b0 : decide (0 < (t414.length : Int)) = true := decide_eq_true c4
    have c4b1 : decide (0 < t414.length) = true := decide_eq_true (by omega)
    clear c4
    simp only [Option.some.injEq, Prod.mk.injEq] at H
    obtain ⟨rfl, rfl⟩ := H
    go_enter Try.func19, Try.ntmps19
    try go_wp2_with (first | ((with_reducible refine gate_dst (N := 2) rfl ?_); refine box_event ?hg (N := 2) ?hd (cs := #[.slice A0_0 l0_0.length c0_0]) (t := 25) ?hr ?_; (case hd => rfl); (case hg => rfl); (case hr => first | (go_simp; done) | (go_simp; rfl)); intro gb406 hg w5 hbox hb; have n0_ := Aside0.mk (Kd.V_below (Kd.V_elderB (by (with_reducible repeat (first | apply Kd.V_alloc | apply Kd.V_drewN | apply Kd.V_drew)); exact HO1.out) gb406 (Nat.le_of_eq hg.symm)) hb); have n1_ := Aside0.mk (below_step (by repeat (first | (with_reducible first | exact HB.out | apply below_alloc | apply pw_below_drewN | apply below_drew1) | exact HB.out)) hb); have n2_ := Aside0.mk (hbox); have n3_ := Aside0.mk ((by rw [hg]; exact (below_size (by repeat (first | (with_reducible first | exact HB.out | apply below_alloc | apply pw_below_drewN | apply below_drew1) | exact HB.out))) : w.heap.size ≤ gb406)); have n4_ := Aside0.mk ((by rw [hg]; exact (below_size (by repeat (first | (with_reducible first | exact HB.out | apply below_alloc | apply pw_below_drewN | apply below_drew1) | exact HB.out))) : w.heap.size ≤ gb406)); clear HO1; clear HB; have HO1 := n0_; have HB := n1_; have BK406 := n2_; have GW406 := n3_; have GE406 := n4_; clear n0_ n1_ n2_ n3_ n4_; clear hb hbox hg) | ((with_reducible refine gate_dst (N := 4) rfl ?_); refine box_event ?hg (N := 4) ?hd (cs := #[.slice none 0 0]) (t := 25) ?hr ?_; (case hd => rfl); (case hg => rfl); (case hr => first | (go_simp; done) | (go_simp; rfl)); intro gb407 hg w6 hbox hb; have n0_ := Aside0.mk (Kd.V_below (Kd.V_elderB (by (with_reducible repeat (first | apply Kd.V_alloc | apply Kd.V_drewN | apply Kd.V_drew)); exact HO1.out) gb407 (Nat.le_of_eq hg.symm)) hb); have n1_ := Aside0.mk (blk_below (g := gb406) (o := .cells #[.slice A0_0 l0_0.length c0_0] 25 (0, 0)) (by (with_reducible repeat (first | refine blk_drewN ?_ _ | refine blk_drew ?_ | refine blk_alloc ?_ _)); exact BK406.out) hb); have n2_ := Aside0.mk (below_step (by repeat (first | (with_reducible first | exact HB.out | apply below_alloc | apply pw_below_drewN | apply below_drew1 | refine below_set ?_ GE406.out) | exact HB.out)) hb); have n3_ := Aside0.mk (hbox); have n4_ := Aside0.mk ((by rw [hg]; exact (below_size (by repeat (first | (with_reducible first | exact HB.out | apply below_alloc | apply pw_below_drewN | apply below_drew1 | refine below_set ?_ GE406.out) | exact HB.out))) : w.heap.size ≤ gb407)); have n5_ := Aside0.mk ((by rw [hg]; exact (below_size (by repeat (first | (with_reducible first | exact HB.out | apply below_alloc | apply pw_below_drewN | apply below_drew1 | refine below_set ?_ GE406.out) | exact HB.out))) : w.heap.size ≤ gb407)); have n6_ := Aside0.mk ((by rw [hg]; exact Nat.ne_of_lt (blk_lt (g := gb406) (o := .cells #[.slice A0_0 l0_0.length c0_0] 25 (0, 0)) (by (with_reducible repeat (first | refine blk_drewN ?_ _ | refine blk_drew ?_ | refine blk_alloc ?_ _)); exact BK406.out)) : gb406 ≠ gb407)); have n7_ := Aside0.mk ((by rw [hg]; exact Nat.ne_of_gt (blk_lt (g := gb406) (o := .cells #[.slice A0_0 l0_0.length c0_0] 25 (0, 0)) (by (with_reducible repeat (first | refine blk_drewN ?_ _ | refine blk_drew ?_ | refine blk_alloc ?_ _)); exact BK406.out)) : gb407 ≠ gb406)); clear HO1; clear BK406; clear HB; have HO1 := n0_; have BK406 := n1_; have HB := n2_; have BK407 := n3_; have GW407 := n4_; have GE407 := n5_; have NB406_407 := n6_; have NB407_406 := n7_; clear n0_ n1_ n2_ n3_ n4_ n5_ n6_ n7_; clear hb hbox hg; have hnb7 := NB406_407.out; have hnc7 := NB407_406.out; have hcz8_0 : w6.cell? ⟨gb406, 0, none⟩ = some (.slice A0_0 l0_0.length c0_0) := (blk_cell BK406.out 0).trans rfl; have hfz8_0 := blk_frozen BK406.out 0) | ((with_reducible refine gate_dst (N := 10) rfl ?_); refine Kd.N_lit (Kd.slice 69 k69) _ 23 ?hg (N' := 10) ?hd (xs := ([l1] : List (List (S69)))) (inner := [.slice A1 l1.length c1]) (ok := (fun k_ => (P1_ k_ ∨ w.heap.size ≤ k_) ∧ k_ ≠ gb406 ∧ k_ ≠ gb407)) (okp := (fun k_ => (P1_ k_ ∨ w.heap.size ≤ k_) ∧ k_ ≠ gb406 ∧ k_ ≠ gb407)) ?hr ?hp (fun _ hk => hk) ((show ∀ k_, w6.heap.size ≤ k_ → (fun k_ => (P1_ k_ ∨ w.heap.size ≤ k_) ∧ k_ ≠ gb406 ∧ k_ ≠ gb407) k_ from fun k_ hk => ⟨(.inr (Nat.le_trans (below_size (by repeat (first | (with_reducible first | exact HB.out | apply below_alloc | apply pw_below_drewN | apply below_drew1 | refine below_set ?_ GE406.out | refine below_set ?_ GE407.out) | exact HB.out))) hk)), Kd.freshB (g := gb406) (o := .cells #[.slice A0_0 l0_0.length c0_0] 25 (0, 0)) (by (with_reducible repeat (first | refine blk_drewN ?_ _ | refine blk_drew ?_ | refine blk_alloc ?_ _)); exact BK406.out) k_ hk, Kd.freshB (g := gb407) (o := .cells #[.slice none 0 0] 25 (0, 0)) (by (with_reducible repeat (first | refine blk_drewN ?_ _ | refine blk_drew ?_ | refine blk_alloc ?_ _)); exact BK407.out) k_ hk⟩) _ (Nat.le_refl _)) (Below.refl _ _) (Nat.le_refl _) (by simp) ?_; (case hd => rfl); (case hg => rfl); (case hr => first | (go_simp; done) | (go_simp; rfl)); (case hp => exact (Reps.one (show Kd.FK (Kd.slice 69 k69) _ _ l1 [.slice A1 l1.length c1] from (Kd.FK_slice_mk (Kd.V_reads' (Kd.V_mono (ok' := (fun k_ => (P1_ k_ ∨ w.heap.size ≤ k_) ∧ k_ ≠ gb406 ∧ k_ ≠ gb407)) (HO1.out) (fun k_ hk => ⟨hk.1.1, ⟨hk.1.2, hk.2⟩⟩))).2.1 (Kd.V_F (Kd.V_mono (ok' := (fun k_ => (P1_ k_ ∨ w.heap.size ≤ k_) ∧ k_ ≠ gb406 ∧ k_ ≠ gb407)) (HO1.out) (fun k_ hk => ⟨hk.1.1, ⟨hk.1.2, hk.2⟩⟩))))) (Reps.none _ _))); intro v409 w9 ho10 hb hg_ hnew_; clear hg_ hnew_; (first | rw [← Ny408.out] at ho10 | (simp only [Int.reduceToNat] at ho10; rw [← Ny408.out] at ho10)); have n0_ := Aside0.mk (Kd.V_elder' (by (with_reducible repeat (first | apply Kd.V_alloc | apply Kd.V_drewN | apply Kd.V_drew)); exact HO1.out) (Kd.N_base ho10) hb); have n1_ := Aside0.mk (Kd.N_lower ho10 (below_size (by repeat (first | (with_reducible first | exact HB.out | apply below_alloc | apply pw_below_drewN | apply below_drew1 | refine below_set ?_ GE406.out | refine below_set ?_ GE407.out) | exact HB.out)))); have n2_ := Aside0.mk (blk_below (g := gb406) (o := .cells #[.slice A0_0 l0_0.length c0_0] 25 (0, 0)) (by (with_reducible repeat (first | refine blk_drewN ?_ _ | refine blk_drew ?_ | refine blk_alloc ?_ _)); exact BK406.out) hb); have n3_ := Aside0.mk (blk_below (g := gb407) (o := .cells #[.slice none 0 0] 25 (0, 0)) (by (with_reducible repeat (first | refine blk_drewN ?_ _ | refine blk_drew ?_ | refine blk_alloc ?_ _)); exact BK407.out) hb); have n4_ := Aside0.mk (below_step (by repeat (first | (with_reducible first | exact HB.out | apply below_alloc | apply pw_below_drewN | apply below_drew1 | refine below_set ?_ GE406.out | refine below_set ?_ GE407.out) | exact HB.out)) hb); clear HO1; clear BK406; clear BK407; clear HB; have HO1 := n0_; have HO410 := n1_; have BK406 := n2_; have BK407 := n3_; have HB := n4_; clear n0_ n1_ n2_ n3_ n4_; clear hb ho10; obtain ⟨Ao11, co11, eo11⟩ := Kd.N_slice HO410.out; subst eo11) | ((with_reducible refine gate_callee (f := 47) rfl ?_); refine goesL_ (some 11) rfl rfl Try.func47 (by kernel_rfl) rfl #[.agg #[.slice A0_0 l0_0.length c0_0], .slice Ao11 y408.length co11] rfl (by (try simp only [List.map_toArray, List.map_cons, List.map_nil]); first | done | rfl | (simp only [List.length_drop, List.length_take]; rfl)) ?_; (with_reducible refine (acceptor_accept.calls k _ _ l0_0 _ _ y408 t411 t414 _ ?side1 ?side2 ?side3 ?side4 A3.out).mono ?_); (case side1 => repeat (first | exact (Kd.C_below HR0_0.out HB.out) | (with_reducible refine Kd.C_alloc ?_ _) | (with_reducible refine Kd.C_drewN ?_ _) | (with_reducible refine Kd.C_drew ?_))); (case side2 => exact HC0_0.out); (case side3 => repeat (first | exact (Kd.N_reads' HO410.out).2.2 | (with_reducible refine Kd.C_alloc ?_ _) | (with_reducible refine Kd.C_drewN ?_ _) | (with_reducible refine Kd.C_drew ?_))); (case side4 => exact (Kd.N_reads' HO410.out).2.1); rintro e w12 ⟨v412, v415, rfl, ho0, ho1, hb⟩; refine ⟨_, rfl, ?_⟩; have n0_ := Aside0.mk (Kd.V_mono (Kd.V_told (Kd.V_told (Kd.V_old (by (with_reducible repeat (first | apply Kd.V_alloc | apply Kd.V_drewN | apply Kd.V_drew)); exact HO1.out) hb) (Kd.R_base ho0)) (Kd.R_base ho1)) (fun _ h_ => h_.1)); have n1_ := Aside0.mk (Kd.N_mono (Kd.N_told (Kd.N_told (Kd.N_old (by (with_reducible repeat (first | apply Kd.N_alloc | apply Kd.N_drewN | apply Kd.N_drew)); exact HO410.out) hb) (Kd.R_base ho0)) (Kd.R_base ho1)) (fun _ h_ => h_.1)); have n2_ := Aside0.mk (Kd.R_lower (Kd.R_newM (M := fun k_ => (w.heap.size ≤ k_)) ho0 (below_size (by repeat (first | (with_reducible first | exact HB.out | apply below_alloc | apply pw_below_drewN | apply below_drew1 | refine below_set ?_ GE406.out | refine below_set ?_ GE407.out) | exact HB.out))) (fun k_ h_ => h_)) (below_size (by repeat (first | (with_reducible first | exact HB.out | apply below_alloc | apply pw_below_drewN | apply below_drew1 | refine below_set ?_ GE406.out | refine below_set ?_ GE407.out) | exact HB.out)))); have n3_ := Aside0.mk (Kd.R_lower (Kd.R_newM (M := fun k_ => (w.heap.size ≤ k_)) ho1 (below_size (by repeat (first | (with_reducible first | exact HB.out | apply below_alloc | apply pw_below_drewN | apply below_drew1 | refine below_set ?_ GE406.out | refine below_set ?_ GE407.out) | exact HB.out))) (fun k_ h_ => h_)) (below_size (by repeat (first | (with_reducible first | exact HB.out | apply below_alloc | apply pw_below_drewN | apply below_drew1 | refine below_set ?_ GE406.out | refine below_set ?_ GE407.out) | exact HB.out)))); have n4_ := Aside0.mk (blk_below (g := gb406) (o := .cells #[.slice A0_0 l0_0.length c0_0] 25 (0, 0)) (by (with_reducible repeat (first | refine blk_drewN ?_ _ | refine blk_drew ?_ | refine blk_alloc ?_ _)); exact BK406.out) hb); have n5_ := Aside0.mk (blk_below (g := gb407) (o := .cells #[.slice none 0 0] 25 (0, 0)) (by (with_reducible repeat (first | refine blk_drewN ?_ _ | refine blk_drew ?_ | refine blk_alloc ?_ _)); exact BK407.out) hb); have n6_ := Aside0.mk (below_step (by repeat (first | (with_reducible first | exact HB.out | apply below_alloc | apply pw_below_drewN | apply below_drew1 | refine below_set ?_ GE406.out | refine below_set ?_ GE407.out) | exact HB.out)) hb); clear HO1; clear HO410; clear BK406; clear BK407; clear HB; have HO1 := n0_; have HO410 := n1_; have HO413 := n2_; have HO416 := n3_; have BK406 := n4_; have BK407 := n5_; have HB := n6_; clear n0_ n1_ n2_ n3_ n4_ n5_ n6_; (try clear hb); (try clear hb2); (try clear hk); (try clear hi); (try clear ho0); (try clear ho1); obtain ⟨Ao13, co13, eo13⟩ := Kd.R_slice HO413.out; subst eo13; have hcz14_0 : w12.cell? ⟨gb406, 0, none⟩ = some (.slice A0_0 l0_0.length c0_0) := (blk_cell BK406.out 0).trans rfl; have hfz14_0 := blk_frozen BK406.out 0))
    have n0_ : Aside0 (Kd.V k69 69 (w12.setCell ⟨gb406, 0, none⟩ (.slice Ao13 t411.length co13)) w.heap.size (fun k_ => (P1_ k_ ∨ w.heap.size ≤ k_) ∧ some k_ ≠ (.slice Ao11 y408.length co11 : Value).ownBlock ∧ some k_ ≠ (.slice Ao13 t411.length co13 : Value).ownBlock ∧ some k_ ≠ (v415 : Value).ownBlock ∧ k_ ≠ gb406 ∧ k_ ≠ gb407) (.slice A1 l1.length c1) l1) := ⟨by (with_reducible repeat (first | apply Kd.V_alloc | apply Kd.V_drewN | apply Kd.V_drew)); exact Kd.V_mono (Kd.V_far (p := ⟨gb406, 0, none⟩) (Kd.V_mono HO1.out (fun k_ hk => (⟨hk, hk.1.1.1.1.2⟩ : _ ∧ k_ ≠ gb406))) (fun _ hk => hk.2) (.slice Ao13 t411.length co13)) (fun _ hk => ⟨hk.1.1.1.1.1.1, ⟨hk.1.1.1.2, ⟨hk.1.1.2, ⟨hk.1.2, ⟨hk.1.1.1.1.1.2, hk.1.1.1.1.2⟩⟩⟩⟩⟩)⟩
    have n1_ : Aside0 (Kd.N (Kd.slice 69 k69) 23 (w12.setCell ⟨gb406, 0, none⟩ (.slice Ao13 t411.length co13)) w.heap.size (fun k_ => (P1_ k_ ∨ w.heap.size ≤ k_) ∧ some k_ ≠ (.slice Ao13 t411.length co13 : Value).ownBlock ∧ some k_ ≠ (v415 : Value).ownBlock ∧ k_ ≠ gb406 ∧ k_ ≠ gb407) (.slice Ao11 y408.length co11) y408) := ⟨by (with_reducible repeat (first | apply Kd.N_alloc | apply Kd.N_drewN | apply Kd.N_drew)); exact Kd.N_mono (Kd.N_far (p := ⟨gb406, 0, none⟩) (Kd.N_mono HO410.out (fun k_ hk => (⟨hk, hk.1.1.2.1⟩ : _ ∧ k_ ≠ gb406))) (fun _ hk => hk.2) (.slice Ao13 t411.length co13)) (fun _ hk => ⟨hk.1.1.1.1, ⟨hk.1.1.2, ⟨hk.1.2, ⟨hk.1.1.1.2.1, hk.1.1.1.2.2⟩⟩⟩⟩)⟩
    have n2_ : Aside0 (Kd.R k69 69 (w12.setCell ⟨gb406, 0, none⟩ (.slice Ao13 t411.length co13)) w.heap.size (fun k_ => (w.heap.size ≤ k_)) (.slice Ao13 t411.length co13) t411) := ⟨by (with_reducible repeat (first | apply Kd.R_alloc | apply Kd.R_drewN | apply Kd.R_drew)); exact Kd.R_mono (Kd.R_far (p := ⟨gb406, 0, none⟩) (Kd.R_types HO413.out BK406.out (by decide)) (fun _ hk => hk.2) (.slice Ao13 t411.length co13)) (fun _ hk => hk.1.1)⟩
    have n3_ : Aside0 (Kd.R Kd.bool 4 (w12.setCell ⟨gb406, 0, none⟩ (.slice Ao13 t411.length co13)) w.heap.size (fun k_ => (w.heap.size ≤ k_)) v415 t414) := ⟨by (with_reducible repeat (first | apply Kd.R_alloc | apply Kd.R_drewN | apply Kd.R_drew)); exact Kd.R_mono (Kd.R_far (p := ⟨gb406, 0, none⟩) (Kd.R_types HO416.out BK406.out (by decide)) (fun _ hk => hk.2) (.slice Ao13 t411.length co13)) (fun _ hk => hk.1.1)⟩
    have n4_ : Aside0 ((w12.setCell ⟨gb406, 0, none⟩ (.slice Ao13 t411.length co13)).heap[gb406]? = some (.cells #[.slice Ao13 t411.length co13] 25 (0, 0))) := ⟨by (with_reducible repeat (first | refine blk_drewN ?_ _ | refine blk_drew ?_ | refine blk_alloc ?_ _)); refine blk_put (cs := #[.slice A0_0 l0_0.length c0_0]) ?_ 0 _ rfl; (with_reducible repeat (first | refine blk_drewN ?_ _ | refine blk_drew ?_ | refine blk_alloc ?_ _)); exact BK406.out⟩
    have n5_ : Aside0 ((w12.setCell ⟨gb406, 0, none⟩ (.slice Ao13 t411.length co13)).heap[gb407]? = some (.cells #[.slice none 0 0] 25 (0, 0))) := ⟨by (with_reducible repeat (first | refine blk_drewN ?_ _ | refine blk_drew ?_ | refine blk_alloc ?_ _)); refine blk_far ?_ NB407_406.out _; (with_reducible repeat (first | refine blk_drewN ?_ _ | refine blk_drew ?_ | refine blk_alloc ?_ _)); exact BK407.out⟩
    have n6_ : Aside0 (Below w.heap.size w (w12.setCell ⟨gb406, 0, none⟩ (.slice Ao13 t411.length co13))) := ⟨by repeat (first | (with_reducible first | exact HB.out | apply below_alloc | apply pw_below_drewN | apply below_drew1 | refine below_set ?_ GE406.out | refine below_set ?_ GE407.out) | exact HB.out)⟩
    (try clear HO1)
    (try clear HO410)
    (try clear HO413)
    (try clear HO416)
    (try clear BK406)
    (try clear BK407)
    (try clear HB)
    generalize (w12.setCell ⟨gb406, 0, none⟩ (.slice Ao13 t411.length co13)) = w15 at n0_ n1_ n2_ n3_ n4_ n5_ n6_ ⊢
    have HO1 := n0_
    have HO410 := n1_
    have HO413 := n2_
    have HO416 := n3_
    have BK406 := n4_
    have BK407 := n5_
    have HB := n6_
    clear n0_ n1_ n2_ n3_ n4_ n5_ n6_
    have n0_ := Aside0.mk (Kd.V_drew HO1.out)
    have n1_ := Aside0.mk (Kd.N_drew HO410.out)
    have n2_ := Aside0.mk (Kd.R_drew HO413.out)
    have n3_ := Aside0.mk (Kd.R_drew HO416.out)
    have n4_ := Aside0.mk (blk_drew BK406.out)
    have n5_ := Aside0.mk (blk_drew BK407.out)
    have n6_ := Aside0.mk (below_drew1 HB.out)
    clear HO1
    clear HO410
    clear HO413
    clear HO416
    clear BK406
    clear BK407
    clear HB
    have HO1 := n0_
    have HO410 := n1_
    have HO413 := n2_
    have HO416 := n3_
    have BK406 := n4_
    have BK407 := n5_
    have HB := n6_
    clear n0_ n1_ n2_ n3_ n4_ n5_ n6_
    obtain ⟨Ao17, co17, eo17⟩ := Kd.R_slice HO416.out
    (first | subst eo17 | (injection eo17 with f1_ f2_ f3_; have f4_ := f1_.symm; have f5_ := f3_.symm; clear f1_ f2_ f3_; subst f4_; subst f5_))
    have p417 : 0 ≤ (0 : Int) := (by omega)
    have q417 : 0 < (t414.length : Int) := of_decide_eq_true (by first | (with_reducible assumption) | assumption)
    obtain ⟨ad417, e417, hx417_0⟩ := Kd.at_bool (Kd.R_reads' HO416.out).2.2 0 p417 q417
    cases e417
    have qi417 : (0 < t414.length) = True := eq_true (by omega)
    (try rw [show ((0 : Int)).toNat = 0 from rfl] at hx417_0)
    (try rw [Addr.add_zero'] at hx417_0)
    replace p417 := eq_true p417
    replace q417 := eq_true q417
    refine start_ (n := 6) (S := fun w' => w'.cell? ⟨gb406, 0, none⟩ = some (.slice Ao13 t411.length co13) ∧ w'.cell? ad417 = some (.bool (rdOf false t414 0))) (ds := []) #[false, false, false, false, false, false] (by kernel_rfl) rfl rfl ⟨(blk_cell BK406.out 0).trans rfl, hx417_0⟩ (fun hHeld => ?_)
    generalize w15.drew = w16 at HO1 HO410 HO413 HO416 BK406 BK407 HB hx417_0 hHeld ⊢
    refine pure_ (i := 1) (N := some 15) (v := ?_) (a' := ?_) #[false, true, false, false, false, false] rfl rfl (by kernel_rfl) (fun _ _ _ h => h) (Or.inl ⟨by rfl, ?_⟩) ?_ ?_
    rotate_left
    · intro w'
      go_simp
      with_reducible rfl
    rotate_left
    · simp only [Act.put, List.setIfInBounds_toArray, List.set_cons_zero, List.set_cons_succ, i64_w, i32_w]
      rfl
    refine pure_ (i := 2) (N := some 16) (v := ?_) (a' := ?_) #[false, true, true, false, false, false] rfl rfl (by kernel_rfl) (fun _ _ _ h => h) (Or.inl ⟨by rfl, ?_⟩) ?_ ?_
    rotate_left
    · intro w'
      go_simp
      with_reducible rfl
    rotate_left
    · simp only [Act.put, List.setIfInBounds_toArray, List.set_cons_zero, List.set_cons_succ, i64_w, i32_w]
      rfl
    refine take_ (i := 0) (N := some 14) (v := ?_) (a' := ?_) #[true, true, true, false, false, false] rfl rfl (by kernel_rfl) (fun _ _ _ h => h) (Or.inl ⟨by rfl, ?_⟩) hHeld ?_ ?_
    rotate_left
    · rintro w' ⟨s0, s1⟩
      go_simp
      with_reducible rfl
    rotate_left
    · simp only [Act.put, List.setIfInBounds_toArray, List.set_cons_zero, List.set_cons_succ, i64_w, i32_w]
      rfl
    refine take_ (i := 3) (N := some 17) (v := ?_) (a' := ?_) #[true, true, true, true, false, false] rfl rfl (by kernel_rfl) (fun _ _ _ h => h) (Or.inl ⟨by rfl, ?_⟩) hHeld ?_ ?_
    rotate_left
    · rintro w' ⟨s0, s1⟩
      go_simp
      with_reducible rfl
    rotate_left
    · simp only [Act.put, List.setIfInBounds_toArray, List.set_cons_zero, List.set_cons_succ, i64_w, i32_w]
      rfl
    refine one_ (i := 4) (N := none) #[true, true, true, true, true, false] rfl rfl (by kernel_rfl) (by decide) (fun K hK => ?_)
    have hs18 : w16.cell? ⟨gb407, 0, none⟩ = some (.slice none 0 0) := (blk_cell BK407.out 0).trans rfl
    have hfs18 := blk_frozen BK407.out 0
    have hns18_0 := NB406_407.out
    have hms18_0 := NB407_406.out
    refine skip_ (w1 := ?_) (by rfl) rfl ?_ ?_
    rotate_left
    · go_simp
      rfl
    refine hK.out _ _ ⟨((cell_far (p := ⟨gb407, _, none⟩) NB406_407.out _).trans (hHeld.1)), ((cell_far (p := ⟨gb407, _, none⟩) (by first | exact Kd.own_blk (Kd.R_ne HO416.out BK407.out (by decide)) | (rw [add_block]; exact Kd.own_blk (Kd.R_ne HO416.out BK407.out (by decide))) | (show (Addr.add _ _).block ≠ _; rw [add_block]; exact Kd.own_blk (Kd.R_ne HO416.out BK407.out (by decide))) | (dsimp only; exact Kd.own_blk (Kd.R_ne HO416.out BK407.out (by decide)))) _).trans (hHeld.2))⟩ (fun hHeld => ?_)
    clear hK K
    refine pure_ (i := 5) (N := some 5) (v := ?_) (a' := ?_) #[true, true, true, true, true, true] rfl rfl (by kernel_rfl) (fun _ _ _ h => h) (Or.inl ⟨by rfl, ?_⟩) ?_ ?_
    rotate_left
    · intro w'
      go_simp
      with_reducible rfl
    rotate_left
    · simp only [Act.put, List.setIfInBounds_toArray, List.set_cons_zero, List.set_cons_succ, i64_w, i32_w]
      rfl
    refine done_ (by kernel_rfl) ?_
    try go_wp2
    refine bodyPost_ret (results_ct rfl _ _ gb407 25 #[.slice Ao13 t411.length co13] (0, 0) _ rfl (by (with_reducible repeat (first | refine blk_drewN ?_ _ | refine blk_drew ?_ | refine blk_alloc ?_ _)); refine blk_put (cs := #[.slice none 0 0]) ?_ 0 _ rfl; (with_reducible repeat (first | refine blk_drewN ?_ _ | refine blk_drew ?_ | refine blk_alloc ?_ _)); exact BK407.out) Try.underlying25 rfl (by kernel_rfl)) rfl ?_
    exact ⟨_, by first | rfl | (simp [errW_none, errW_some] <;> rfl) | (simp [*, errW_none, errW_some] <;> rfl), by (with_reducible repeat (first | apply Kd.R_alloc | apply Kd.R_drewN | apply Kd.R_drew)); exact Kd.R_mono (Kd.R_far (p := ⟨gb407, 0, none⟩) (Kd.R_types HO413.out BK407.out (by decide)) (fun _ hk => hk.2) (.slice Ao13 t411.length co13)) (fun _ hk => hk.1), by repeat (first | (with_reducible first | exact HB.out | apply below_alloc | apply pw_below_drewN | apply below_drew1 | refine below_set ?_ GE406.out | refine below_set ?_ GE407.out) | exact HB.out)⟩
  · rw [if_neg c4] at H
    exact absurd H (by simp)

/-! ### acceptor_AcceptAll: function 23 -/
def acceptor_AcceptAll.f (k : Nat) (l0_0 : List (S69)) (l1 : List (List (S69))) : Option ((List (S69)) × List Bool) := (acceptor_accept.f k l0_0 l1).bind fun bt420 => (some (bt420.1, bt420.2))
theorem acceptor_AcceptAll.mono : ∀ a0 a1 k, LeO (acceptor_AcceptAll.f k a0 a1) (acceptor_AcceptAll.f (k + 1) a0 a1) := by
  intro a0 a1 k
  unfold acceptor_AcceptAll.f
  repeat' first
      | (with_reducible exact acceptor_accept.mono _ _ _)
      | (with_reducible exact LeO.refl _)
      | (with_reducible exact LeO.none _)
      | (with_reducible refine LeO.ite ?_ ?_)
      | (with_reducible refine LeO.bind ?_ (fun _ => ?_))
      | exact acceptor_accept.mono _ _ _
      | exact LeO.none _
      | refine LeO.ite ?_ ?_
      | refine LeO.bind ?_ (fun _ => ?_)
set_option maxHeartbeats 8000000 in
set_option maxRecDepth 100000 in
theorem acceptor_AcceptAll.calls (k : Nat) (A0_0 : Option Addr) (c0_0 : Nat) (l0_0 : List (S69)) (A1 : Option Addr) (c1 : Nat) (l1 : List (List (S69))) (r1 : List (S69)) (r2 : List Bool) (w : World) (hr0_0 : Kd.C k69 w A0_0 l0_0.length l0_0) (hc0_0 : l0_0.length ≤ c0_0) (hr1 : Kd.C (Kd.slice 69 k69) w A1 l1.length l1) (hc1 : l1.length ≤ c1) (h : acceptor_AcceptAll.f k l0_0 l1 = some (r1, r2)) :
    Calls Try.prog 23 #[.agg #[.slice A0_0 l0_0.length c0_0], .slice A1 l1.length c1] w fun e w' => ∃ v0_ v1_ : Value, e = .returned (.tuple #[.agg #[v0_], v1_]) ∧ Kd.R k69 69 w' w.heap.size (fun _ => True) v0_ r1 ∧ Kd.R Kd.bool 4 w' w.heap.size (fun _ => True) v1_ r2 ∧ Below w.heap.size w w' := by
  have hu25 := Try.underlying25
  have HR0_0 := Aside0.mk hr0_0
  have HC0_0 := Aside0.mk hc0_0
  clear hr0_0 hc0_0
  have HR1 := Aside0.mk hr1
  have HC1 := Aside0.mk hc1
  clear hr1 hc1
  have HB := Aside0.mk (Below.refl w.heap.size w)
  have H : ((acceptor_accept.f k l0_0 l1).bind fun bt420 => (some (bt420.1, bt420.2))) = some (r1, r2) := h
  clear h
  replace H := Option.bind_eq_some_iff.mp H
  obtain ⟨⟨t420, t423⟩, A30, H⟩ := H
  replace H : (some (t420, t423)) = some (r1, r2) := H
  have A3 := Aside0.mk A30
  clear A30
  simp only [Option.some.injEq, Prod.mk.injEq] at H
  obtain ⟨rfl, rfl⟩ := H
  go_enter Try.func23, Try.ntmps23
  go_wp2_with (first | ((with_reducible refine gate_dst (N := 2) rfl ?_); refine box_event ?hg (N := 2) ?hd (cs := #[.slice A0_0 l0_0.length c0_0]) (t := 25) ?hr ?_; (case hd => rfl); (case hg => rfl); (case hr => first | (go_simp; done) | (go_simp; rfl)); intro gb418 hg w4 hbox hb; have n0_ := Aside0.mk (below_step (by repeat (first | (with_reducible first | exact HB.out | apply below_alloc | apply pw_below_drewN | apply below_drew1) | exact HB.out)) hb); have n1_ := Aside0.mk (hbox); have n2_ := Aside0.mk ((by rw [hg]; exact (below_size (by repeat (first | (with_reducible first | exact HB.out | apply below_alloc | apply pw_below_drewN | apply below_drew1) | exact HB.out))) : w.heap.size ≤ gb418)); have n3_ := Aside0.mk ((by rw [hg]; exact (below_size (by repeat (first | (with_reducible first | exact HB.out | apply below_alloc | apply pw_below_drewN | apply below_drew1) | exact HB.out))) : w.heap.size ≤ gb418)); clear HB; have HB := n0_; have BK418 := n1_; have GW418 := n2_; have GE418 := n3_; clear n0_ n1_ n2_ n3_; clear hb hbox hg) | ((with_reducible refine gate_dst (N := 4) rfl ?_); refine box_event ?hg (N := 4) ?hd (cs := #[.slice none 0 0]) (t := 25) ?hr ?_; (case hd => rfl); (case hg => rfl); (case hr => first | (go_simp; done) | (go_simp; rfl)); intro gb419 hg w5 hbox hb; have n0_ := Aside0.mk (blk_below (g := gb418) (o := .cells #[.slice A0_0 l0_0.length c0_0] 25 (0, 0)) (by (with_reducible repeat (first | refine blk_drewN ?_ _ | refine blk_drew ?_ | refine blk_alloc ?_ _)); exact BK418.out) hb); have n1_ := Aside0.mk (below_step (by repeat (first | (with_reducible first | exact HB.out | apply below_alloc | apply pw_below_drewN | apply below_drew1 | refine below_set ?_ GE418.out) | exact HB.out)) hb); have n2_ := Aside0.mk (hbox); have n3_ := Aside0.mk ((by rw [hg]; exact (below_size (by repeat (first | (with_reducible first | exact HB.out | apply below_alloc | apply pw_below_drewN | apply below_drew1 | refine below_set ?_ GE418.out) | exact HB.out))) : w.heap.size ≤ gb419)); have n4_ := Aside0.mk ((by rw [hg]; exact (below_size (by repeat (first | (with_reducible first | exact HB.out | apply below_alloc | apply pw_below_drewN | apply below_drew1 | refine below_set ?_ GE418.out) | exact HB.out))) : w.heap.size ≤ gb419)); have n5_ := Aside0.mk ((by rw [hg]; exact Nat.ne_of_lt (blk_lt (g := gb418) (o := .cells #[.slice A0_0 l0_0.length c0_0] 25 (0, 0)) (by (with_reducible repeat (first | refine blk_drewN ?_ _ | refine blk_drew ?_ | refine blk_alloc ?_ _)); exact BK418.out)) : gb418 ≠ gb419)); have n6_ := Aside0.mk ((by rw [hg]; exact Nat.ne_of_gt (blk_lt (g := gb418) (o := .cells #[.slice A0_0 l0_0.length c0_0] 25 (0, 0)) (by (with_reducible repeat (first | refine blk_drewN ?_ _ | refine blk_drew ?_ | refine blk_alloc ?_ _)); exact BK418.out)) : gb419 ≠ gb418)); clear BK418; clear HB; have BK418 := n0_; have HB := n1_; have BK419 := n2_; have GW419 := n3_; have GE419 := n4_; have NB418_419 := n5_; have NB419_418 := n6_; clear n0_ n1_ n2_ n3_ n4_ n5_ n6_; clear hb hbox hg; have hnb6 := NB418_419.out; have hnc6 := NB419_418.out; have hcz7_0 : w5.cell? ⟨gb418, 0, none⟩ = some (.slice A0_0 l0_0.length c0_0) := (blk_cell BK418.out 0).trans rfl; have hfz7_0 := blk_frozen BK418.out 0) | ((with_reducible refine gate_callee (f := 47) rfl ?_); refine goesL_ (some 8) rfl rfl Try.func47 (by kernel_rfl) rfl #[.agg #[.slice A0_0 l0_0.length c0_0], .slice A1 l1.length c1] rfl (by (try simp only [List.map_toArray, List.map_cons, List.map_nil]); first | done | rfl | (simp only [List.length_drop, List.length_take]; rfl)) ?_; (with_reducible refine (acceptor_accept.calls k _ _ l0_0 _ _ l1 t420 t423 _ ?side1 ?side2 ?side3 ?side4 A3.out).mono ?_); (case side1 => repeat (first | exact (Kd.C_below HR0_0.out HB.out) | (with_reducible refine Kd.C_alloc ?_ _) | (with_reducible refine Kd.C_drewN ?_ _) | (with_reducible refine Kd.C_drew ?_))); (case side2 => exact HC0_0.out); (case side3 => repeat (first | exact (Kd.C_below HR1.out HB.out) | (with_reducible refine Kd.C_alloc ?_ _) | (with_reducible refine Kd.C_drewN ?_ _) | (with_reducible refine Kd.C_drew ?_))); (case side4 => exact HC1.out); rintro e w8 ⟨v421, v424, rfl, ho0, ho1, hb⟩; refine ⟨_, rfl, ?_⟩; have n0_ := Aside0.mk (Kd.R_lower ho0 (below_size (by repeat (first | (with_reducible first | exact HB.out | apply below_alloc | apply pw_below_drewN | apply below_drew1 | refine below_set ?_ GE418.out | refine below_set ?_ GE419.out) | exact HB.out)))); have n1_ := Aside0.mk (Kd.R_lower ho1 (below_size (by repeat (first | (with_reducible first | exact HB.out | apply below_alloc | apply pw_below_drewN | apply below_drew1 | refine below_set ?_ GE418.out | refine below_set ?_ GE419.out) | exact HB.out)))); have n2_ := Aside0.mk (blk_below (g := gb418) (o := .cells #[.slice A0_0 l0_0.length c0_0] 25 (0, 0)) (by (with_reducible repeat (first | refine blk_drewN ?_ _ | refine blk_drew ?_ | refine blk_alloc ?_ _)); exact BK418.out) hb); have n3_ := Aside0.mk (blk_below (g := gb419) (o := .cells #[.slice none 0 0] 25 (0, 0)) (by (with_reducible repeat (first | refine blk_drewN ?_ _ | refine blk_drew ?_ | refine blk_alloc ?_ _)); exact BK419.out) hb); have n4_ := Aside0.mk (below_step (by repeat (first | (with_reducible first | exact HB.out | apply below_alloc | apply pw_below_drewN | apply below_drew1 | refine below_set ?_ GE418.out | refine below_set ?_ GE419.out) | exact HB.out)) hb); clear BK418; clear BK419; clear HB; have HO422 := n0_; have HO425 := n1_; have BK418 := n2_; have BK419 := n3_; have HB := n4_; clear n0_ n1_ n2_ n3_ n4_; (try clear hb); (try clear hb2); (try clear hk); (try clear hi); (try clear ho0); (try clear ho1); obtain ⟨Ao9, co9, eo9⟩ := Kd.R_slice HO422.out; subst eo9; have hcz10_0 : w8.cell? ⟨gb419, 0, none⟩ = some (.slice none 0 0) := (blk_cell BK419.out 0).trans rfl; have hfz10_0 := blk_frozen BK419.out 0))
  refine bodyPost_ret (results_ct rfl _ _ gb419 25 #[.slice Ao9 t420.length co9] (0, 0) _ rfl (by (with_reducible repeat (first | refine blk_drewN ?_ _ | refine blk_drew ?_ | refine blk_alloc ?_ _)); refine blk_put (cs := #[.slice none 0 0]) ?_ 0 _ rfl; (with_reducible repeat (first | refine blk_drewN ?_ _ | refine blk_drew ?_ | refine blk_alloc ?_ _)); exact BK419.out) Try.underlying25 rfl (by kernel_rfl)) rfl ?_
  exact ⟨_, _, by first | rfl | (simp [errW_none, errW_some] <;> rfl) | (simp [*, errW_none, errW_some] <;> rfl), by (with_reducible repeat (first | apply Kd.R_alloc | apply Kd.R_drewN | apply Kd.R_drew)); exact Kd.R_mono (Kd.R_far (p := ⟨gb419, 0, none⟩) (Kd.R_types HO422.out BK419.out (by decide)) (fun _ hk => hk.2) (.slice Ao9 t420.length co9)) (fun _ hk => trivial), by (with_reducible repeat (first | apply Kd.R_alloc | apply Kd.R_drewN | apply Kd.R_drew)); exact Kd.R_mono (Kd.R_far (p := ⟨gb419, 0, none⟩) (Kd.R_types HO425.out BK419.out (by decide)) (fun _ hk => hk.2) (.slice Ao9 t420.length co9)) (fun _ hk => trivial), by repeat (first | (with_reducible first | exact HB.out | apply below_alloc | apply pw_below_drewN | apply below_drew1 | refine below_set ?_ GE418.out | refine below_set ?_ GE419.out) | exact HB.out)⟩

end Go.Proofs.Ytknkdbleeaaleaa.Print
