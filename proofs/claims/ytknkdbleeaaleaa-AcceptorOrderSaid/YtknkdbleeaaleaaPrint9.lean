-- PRINTED by print.py (a twelfth state) out of the translation. Not trusted: Lean checks it.
import Derived.Test.YtknkdbleeaaleaaPrint0
import Derived.Test.YtknkdbleeaaleaaPrint6
namespace Go.Proofs.Ytknkdbleeaaleaa.Print
open Go.RowKit Go.Proofs.YtknkdbleeaaleaaW.PrintWords Go.Proofs.YtknkdbleeaaleaaW.PrintLast Go.Proofs.YtknkdbleeaaleaaW.PrintMore
attribute [local go_sem] max2_int min2_int max_two min_two max_three min_three max_four min_four   -- for this text's walks alone
set_option linter.unusedVariables false
set_option linter.unusedSimpArgs false

/-! ### elasticstoreref03_Meet: function 31 -/
def elasticstoreref03_Meet.l0 : Nat → List (S69) → List (S69) → List (S69) → Int → Option ((List (S69)))
  | 0, _, _, _, _ => none
  | k + 1, x0, x1, x5, x6 => if x6 < (x0.length : Int) then (if 0 ≤ x6 then ((elasticstoreref03_Count.f k x1 ((rd_T69 x0 x6).f0)).bind fun t226 => (if (mn ((rd_T69 x0 x6).f1) t226) > 0 then (if x5.length < 8796093022208 then (elasticstoreref03_Meet.l0 k x0 x1 (x5 ++ [(⟨(rd_T69 x0 x6).f0, mn ((rd_T69 x0 x6).f1) t226⟩ : S69)]) (wrap64 (x6 + 1))) else (none)) else (elasticstoreref03_Meet.l0 k x0 x1 x5 (wrap64 (x6 + 1))))) else (none)) else (some x5)
def elasticstoreref03_Meet.f (k : Nat) (l0 : List (S69)) (l1 : List (S69)) : Option ((List (S69))) := elasticstoreref03_Meet.l0 k l0 l1 ([] : List (S69)) 0
theorem elasticstoreref03_Meet.mono_l : ∀ k, (∀ y0 y1 y2 y3, LeO (elasticstoreref03_Meet.l0 k y0 y1 y2 y3) (elasticstoreref03_Meet.l0 (k + 1) y0 y1 y2 y3))
  | 0 => fun _ _ _ _ r h => by simp [elasticstoreref03_Meet.l0] at h
  | k + 1 => by
    have ih0 := elasticstoreref03_Meet.mono_l k
    · intro y0 y1 y2 y3
      unfold elasticstoreref03_Meet.l0
      repeat' first
      | (with_reducible exact ih0 _ _ _ _)
      | (with_reducible exact elasticstoreref03_Count.mono _ _ _)
      | (with_reducible exact LeO.refl _)
      | (with_reducible exact LeO.none _)
      | (with_reducible refine LeO.ite ?_ ?_)
      | (with_reducible refine LeO.bind ?_ (fun _ => ?_))
      | exact ih0 _ _ _ _
      | exact elasticstoreref03_Count.mono _ _ _
      | exact LeO.none _
      | refine LeO.ite ?_ ?_
      | refine LeO.bind ?_ (fun _ => ?_)
theorem elasticstoreref03_Meet.mono : ∀ a0 a1 k, LeO (elasticstoreref03_Meet.f k a0 a1) (elasticstoreref03_Meet.f (k + 1) a0 a1) := by
  intro a0 a1 k
  have ih0 := elasticstoreref03_Meet.mono_l k
  unfold elasticstoreref03_Meet.f
  repeat' first
      | (with_reducible exact ih0 _ _ _ _)
      | (with_reducible exact elasticstoreref03_Count.mono _ _ _)
      | (with_reducible exact LeO.refl _)
      | (with_reducible exact LeO.none _)
      | (with_reducible refine LeO.ite ?_ ?_)
      | (with_reducible refine LeO.bind ?_ (fun _ => ?_))
      | exact ih0 _ _ _ _
      | exact elasticstoreref03_Count.mono _ _ _
      | exact LeO.none _
      | refine LeO.ite ?_ ?_
      | refine LeO.bind ?_ (fun _ => ?_)
set_option maxHeartbeats 8000000 in
set_option maxRecDepth 100000 in
theorem elasticstoreref03_Meet.calls (k : Nat) (A0 : Option Addr) (c0 : Nat) (l0 : List (S69)) (A1 : Option Addr) (c1 : Nat) (l1 : List (S69)) (r : List (S69)) (w : World) (hr0 : Kd.C k69 w A0 l0.length l0) (hc0 : l0.length ≤ c0) (hr1 : Kd.C k69 w A1 l1.length l1) (hc1 : l1.length ≤ c1) (h : elasticstoreref03_Meet.f k l0 l1 = some r) :
    Calls Try.prog 31 #[.slice A0 l0.length c0, .slice A1 l1.length c1] w fun e w' => ∃ v0_ : Value, e = .returned (v0_) ∧ Kd.R k69 69 w' w.heap.size (fun _ => True) v0_ r ∧ Below w.heap.size w w' := by
  have hu69 := Try.underlying69
  have HR0 := Aside0.mk hr0
  have HC0 := Aside0.mk hc0
  clear hr0 hc0
  have HR1 := Aside0.mk hr1
  have HC1 := Aside0.mk hc1
  clear hr1 hc1
  have HB := Aside0.mk (Below.refl w.heap.size w)
  have H : (elasticstoreref03_Meet.l0 k l0 l1 ([] : List (S69)) 0) = some r := h
  clear h
  have H' := Aside0.mk H
  clear H
  go_enter Try.func31, Try.ntmps31
  go_wp2
  repeat (go_quiet (fail); try go_wp2)
  go_loopg [5, 6] k (fun kq v5 v6 w' => ∃ (x5_1 : List (S69)) (x6_1 : Int), v6 = .int .i64 x6_1 ∧ Aside0 (elasticstoreref03_Meet.l0 kq l0 l1 x5_1 x6_1 = some r) ∧ Aside0 (kq ≤ k) ∧ Aside0 (Kd.R k69 69 w' w.heap.size (fun _ => True) v5 x5_1) ∧ Aside0 (Below w.heap.size w w'))
  case atStart => exact ⟨(([] : List (S69))), (0), (by first | rfl | (simp; done) | (simp [*]; done)), H', ⟨Nat.le_refl _⟩, ⟨by first | exact Kd.R_nil _ _ _ _ _ | exact Kd.N_nil _ _ _ _ _ | exact Kd.V_nil _ _ _ _ _ | exact Kd.Q_nil _ _ _ _ _ | exact Kd.S_nil _ _ _ _ _⟩, ⟨by repeat (first | (with_reducible first | exact HB.out | apply below_alloc | apply pw_below_drewN | apply below_drew1) | exact HB.out)⟩⟩
  case round =>
    clear H'
    try clear c1
    try clear p2
    obtain ⟨x5_1, x6_1, rfl, HA, HK1, HO_5, HB⟩ := hrel
    cases gk with
    | zero => exact absurd HA.out (by simp [elasticstoreref03_Meet.l0])
    | succ k1 =>
      have H := HA.out
      clear HA
      simp only [elasticstoreref03_Meet.l0] at H
      by_cases c3 : x6_1 < (l0.length : Int)
      · rw [if_pos c3] at H
        have c3b0 : decide (x6_1 < (l0.length : Int)) = true := decide_eq_true c3
        clear c3
        by_cases c4 : 0 ≤ x6_1
        · rw [if_pos c4] at H
          have c4b0 : decide (0 ≤ x6_1) = true := decide_eq_true c4
          clear c4
          replace H := Option.bind_eq_some_iff.mp H
          obtain ⟨t226, A50, H⟩ := H
          replace H : (if (mn ((rd_T69 l0 x6_1).f1) t226) > 0 then (if x5_1.length < 8796093022208 then (elasticstoreref03_Meet.l0 k1 l0 l1 (x5_1 ++ [(⟨(rd_T69 l0 x6_1).f0, mn ((rd_T69 l0 x6_1).f1) t226⟩ : S69)]) (wrap64 (x6_1 + 1))) else (none)) else (elasticstoreref03_Meet.l0 k1 l0 l1 x5_1 (wrap64 (x6_1 + 1)))) = some r := H
          have A5 := Aside0.mk A50
          clear A50
          obtain ⟨ji6, hji6⟩ : ∃ j_ : Int, (mn ((rd_T69 l0 x6_1).f1) t226) = j_ := ⟨_, rfl⟩
          replace H : (if (ji6) > 0 then (if x5_1.length < 8796093022208 then (elasticstoreref03_Meet.l0 k1 l0 l1 (x5_1 ++ [(⟨(rd_T69 l0 x6_1).f0, ji6⟩ : S69)]) (wrap64 (x6_1 + 1))) else (none)) else (elasticstoreref03_Meet.l0 k1 l0 l1 x5_1 (wrap64 (x6_1 + 1)))) = some r := by first | (rw [hji6] at H; exact H) | (simp only [hji6] at H ⊢; exact H)
          (try rw [hji6] at A5)
          have hji6_ : (if t226 < ((rd_T69 l0 x6_1).f1) then t226 else ((rd_T69 l0 x6_1).f1)) = ji6 := hji6
          by_cases c7 : (ji6) > 0
          · rw [if_pos c7] at H
            have c7b0 : decide (0 < (ji6)) = true := decide_eq_true c7
            clear c7
            by_cases c8 : x5_1.length < 8796093022208
            · rw [if_pos c8] at H
              have LMc8 := Aside0.mk c8
              clear c8
              obtain ⟨y228, hy228⟩ : ∃ y_ : List (S69), y_ = (x5_1 ++ [(⟨(rd_T69 l0 x6_1).f0, ji6⟩ : S69)]) := ⟨_, rfl⟩
              replace H : (elasticstoreref03_Meet.l0 k1 l0 l1 y228 (wrap64 (x6_1 + 1))) = some r := by first | (rw [hy228]; with_reducible exact H) | (have H2_ := (Option.bind_some _ _).symm.trans H; rw [hy228]; with_reducible exact H2_) | (have H2_ := (Option.bind_some _ _).symm.trans H; with_reducible exact H2_) | with_reducible exact H | (rw [hy228]; exact H) | exact H
              have Ny228 := Aside0.mk hy228
              clear hy228
              have H' := Aside0.mk H
              clear H
              have p224 : 0 ≤ (x6_1 : Int) := of_decide_eq_true (by first | (with_reducible assumption) | assumption)
              have q224 : x6_1 < (l0.length : Int) := of_decide_eq_true (by first | (with_reducible assumption) | assumption)
              obtain ⟨ad224, e224, hx224_0, hx224_1⟩ := at_T69 HR0.out x6_1 p224 q224
              cases e224
              replace hx224_0 := (HB.out.cell (World.block_lt_of_cell? w _ hx224_0)).trans hx224_0
              replace hx224_1 := (HB.out.cell (World.block_lt_of_cell? w _ hx224_1)).trans hx224_1
              replace p224 := eq_true p224
              replace q224 := eq_true q224
              have p225 : 0 ≤ (x6_1 : Int) := of_decide_eq_true (by first | (with_reducible assumption) | assumption)
              have q225 : x6_1 < (l0.length : Int) := of_decide_eq_true (by first | (with_reducible assumption) | assumption)
              obtain ⟨ad225, e225, hx225_0, hx225_1⟩ := at_T69 HR0.out x6_1 p225 q225
              obtain rfl : ad224 = ad225 := (by injection e225)
              replace hx225_0 := (HB.out.cell (World.block_lt_of_cell? w _ hx225_0)).trans hx225_0
              replace hx225_1 := (HB.out.cell (World.block_lt_of_cell? w _ hx225_1)).trans hx225_1
              replace p225 := eq_true p225
              replace q225 := eq_true q225
              go_wp2_with (first | (go_at_call 46; (with_reducible refine (elasticstoreref03_Count.calls k1 _ _ l1 ((rd_T69 l0 x6_1).f0) t226 _ ?side1 ?side2 A5.out).mono ?_); (case side1 => repeat (first | exact (Kd.C_below HR1.out HB.out) | (with_reducible refine Kd.C_alloc ?_ _) | (with_reducible refine Kd.C_drewN ?_ _) | (with_reducible refine Kd.C_drew ?_))); (case side2 => exact HC1.out); rintro e w' ⟨rfl, ⟨nd, rfl⟩⟩; (try first | exact ⟨rfl, _, World.drewN_drewN _ _ _⟩ | exact ⟨rfl, _, Eq.trans (World.drewN_drewN _ _ _) (congrArg (World.drewN _) (Nat.add_assoc _ _ _))⟩); have p227 : 0 ≤ (x6_1 : Int) := of_decide_eq_true (by first | (with_reducible assumption) | assumption); have q227 : x6_1 < (l0.length : Int) := of_decide_eq_true (by first | (with_reducible assumption) | assumption); obtain ⟨ad227, e227, hx227_0, hx227_1⟩ := at_T69 HR0.out x6_1 p227 q227; obtain rfl : ad224 = ad227 := (by injection e227); replace hx227_0 := (HB.out.cell (World.block_lt_of_cell? w _ hx227_0)).trans hx227_0; replace hx227_1 := (HB.out.cell (World.block_lt_of_cell? w _ hx227_1)).trans hx227_1; replace p227 := eq_true p227; replace q227 := eq_true q227) | ((with_reducible refine gate_builtin (b := .append) (xs := #[.tmp 29, .tmp 37]) rfl ?_); at_builtin; refine Kd.R_append k69 (w0 := w) w.heap.size rfl (.tmp 29) (.tmp 37) 23 69 (.agg #[(.int .i64 0), (.int .i64 0)]) 16 rfl Try.underlying23 info69 rfl (by decide) (by omega) u5 x5_1 (⟨(rd_T69 l0 x6_1).f0, ji6⟩ : S69) [.int .i64 ((rd_T69 l0 x6_1).f0), .int .i64 ji6] (fun _ => True) (fun _ => False) rfl rfl ?aP (fun _ hk => hk.elim) ?aF ?aO ?aB ?aS ?aL ?_; (case aP => exact k69_mkM _ _ _ (⟨(rd_T69 l0 x6_1).f0, ji6⟩ : S69)); (case aB => exact (by repeat (first | (with_reducible first | exact HB.out | apply below_alloc | apply pw_below_drewN | apply below_drew1) | exact HB.out))); (case aF => exact (fun _ _ => trivial)); (case aO => exact (by (with_reducible repeat (first | apply Kd.R_alloc | apply Kd.R_drewN | apply Kd.R_drew)); exact HO_5.out)); (case aS => exact (below_size (by repeat (first | (with_reducible first | exact HB.out | apply below_alloc | apply pw_below_drewN | apply below_drew1) | exact HB.out)))); (case aL => have := LMc8.out; omega); intro v229 w9 ho hb hg hat; rw [← Ny228.out] at ho; have n0_ := Aside0.mk (hb); have n1_ := Aside0.mk (ho); clear HB; clear HO_5; have HB := n0_; have HO230 := n1_; clear n0_ n1_; clear ho hb hg hat))
              repeat (go_quiet (first | (go_at_call 46; (with_reducible refine (elasticstoreref03_Count.calls k1 _ _ l1 ((rd_T69 l0 x6_1).f0) t226 _ ?side1 ?side2 A5.out).mono ?_); (case side1 => repeat (first | exact (Kd.C_below HR1.out HB.out) | (with_reducible refine Kd.C_alloc ?_ _) | (with_reducible refine Kd.C_drewN ?_ _) | (with_reducible refine Kd.C_drew ?_))); (case side2 => exact HC1.out); rintro e w' ⟨rfl, ⟨nd, rfl⟩⟩; (try first | exact ⟨rfl, _, World.drewN_drewN _ _ _⟩ | exact ⟨rfl, _, Eq.trans (World.drewN_drewN _ _ _) (congrArg (World.drewN _) (Nat.add_assoc _ _ _))⟩); have p227 : 0 ≤ (x6_1 : Int) := of_decide_eq_true (by first | (with_reducible assumption) | assumption); have q227 : x6_1 < (l0.length : Int) := of_decide_eq_true (by first | (with_reducible assumption) | assumption); obtain ⟨ad227, e227, hx227_0, hx227_1⟩ := at_T69 HR0.out x6_1 p227 q227; obtain rfl : ad224 = ad227 := (by injection e227); replace hx227_0 := (HB.out.cell (World.block_lt_of_cell? w _ hx227_0)).trans hx227_0; replace hx227_1 := (HB.out.cell (World.block_lt_of_cell? w _ hx227_1)).trans hx227_1; replace p227 := eq_true p227; replace q227 := eq_true q227) | ((with_reducible refine gate_builtin (b := .append) (xs := #[.tmp 29, .tmp 37]) rfl ?_); at_builtin; refine Kd.R_append k69 (w0 := w) w.heap.size rfl (.tmp 29) (.tmp 37) 23 69 (.agg #[(.int .i64 0), (.int .i64 0)]) 16 rfl Try.underlying23 info69 rfl (by decide) (by omega) u5 x5_1 (⟨(rd_T69 l0 x6_1).f0, ji6⟩ : S69) [.int .i64 ((rd_T69 l0 x6_1).f0), .int .i64 ji6] (fun _ => True) (fun _ => False) rfl rfl ?aP (fun _ hk => hk.elim) ?aF ?aO ?aB ?aS ?aL ?_; (case aP => exact k69_mkM _ _ _ (⟨(rd_T69 l0 x6_1).f0, ji6⟩ : S69)); (case aB => exact (by repeat (first | (with_reducible first | exact HB.out | apply below_alloc | apply pw_below_drewN | apply below_drew1) | exact HB.out))); (case aF => exact (fun _ _ => trivial)); (case aO => exact (by (with_reducible repeat (first | apply Kd.R_alloc | apply Kd.R_drewN | apply Kd.R_drew)); exact HO_5.out)); (case aS => exact (below_size (by repeat (first | (with_reducible first | exact HB.out | apply below_alloc | apply pw_below_drewN | apply below_drew1) | exact HB.out)))); (case aL => have := LMc8.out; omega); intro v229 w9 ho hb hg hat; rw [← Ny228.out] at ho; have n0_ := Aside0.mk (hb); have n1_ := Aside0.mk (ho); clear HB; clear HO_5; have HB := n0_; have HO230 := n1_; clear n0_ n1_; clear ho hb hg hat)); try go_wp2_with (first | (go_at_call 46; (with_reducible refine (elasticstoreref03_Count.calls k1 _ _ l1 ((rd_T69 l0 x6_1).f0) t226 _ ?side1 ?side2 A5.out).mono ?_); (case side1 => repeat (first | exact (Kd.C_below HR1.out HB.out) | (with_reducible refine Kd.C_alloc ?_ _) | (with_reducible refine Kd.C_drewN ?_ _) | (with_reducible refine Kd.C_drew ?_))); (case side2 => exact HC1.out); rintro e w' ⟨rfl, ⟨nd, rfl⟩⟩; (try first | exact ⟨rfl, _, World.drewN_drewN _ _ _⟩ | exact ⟨rfl, _, Eq.trans (World.drewN_drewN _ _ _) (congrArg (World.drewN _) (Nat.add_assoc _ _ _))⟩); have p227 : 0 ≤ (x6_1 : Int) := of_decide_eq_true (by first | (with_reducible assumption) | assumption); have q227 : x6_1 < (l0.length : Int) := of_decide_eq_true (by first | (with_reducible assumption) | assumption); obtain ⟨ad227, e227, hx227_0, hx227_1⟩ := at_T69 HR0.out x6_1 p227 q227; obtain rfl : ad224 = ad227 := (by injection e227); replace hx227_0 := (HB.out.cell (World.block_lt_of_cell? w _ hx227_0)).trans hx227_0; replace hx227_1 := (HB.out.cell (World.block_lt_of_cell? w _ hx227_1)).trans hx227_1; replace p227 := eq_true p227; replace q227 := eq_true q227) | ((with_reducible refine gate_builtin (b := .append) (xs := #[.tmp 29, .tmp 37]) rfl ?_); at_builtin; refine Kd.R_append k69 (w0 := w) w.heap.size rfl (.tmp 29) (.tmp 37) 23 69 (.agg #[(.int .i64 0), (.int .i64 0)]) 16 rfl Try.underlying23 info69 rfl (by decide) (by omega) u5 x5_1 (⟨(rd_T69 l0 x6_1).f0, ji6⟩ : S69) [.int .i64 ((rd_T69 l0 x6_1).f0), .int .i64 ji6] (fun _ => True) (fun _ => False) rfl rfl ?aP (fun _ hk => hk.elim) ?aF ?aO ?aB ?aS ?aL ?_; (case aP => exact k69_mkM _ _ _ (⟨(rd_T69 l0 x6_1).f0, ji6⟩ : S69)); (case aB => exact (by repeat (first | (with_reducible first | exact HB.out | apply below_alloc | apply pw_below_drewN | apply below_drew1) | exact HB.out))); (case aF => exact (fun _ _ => trivial)); (case aO => exact (by (with_reducible repeat (first | apply Kd.R_alloc | apply Kd.R_drewN | apply Kd.R_drew)); exact HO_5.out)); (case aS => exact (below_size (by repeat (first | (with_reducible first | exact HB.out | apply below_alloc | apply pw_below_drewN | apply below_drew1) | exact HB.out)))); (case aL => have := LMc8.out; omega); intro v229 w9 ho hb hg hat; rw [← Ny228.out] at ho; have n0_ := Aside0.mk (hb); have n1_ := Aside0.mk (ho); clear HB; clear HO_5; have HB := n0_; have HO230 := n1_; clear n0_ n1_; clear ho hb hg hat)))
              go_roundg k1
              case measure => have := HK1.out; omega
              case rel => exact ⟨(y228), (wrap64 (x6_1 + 1)), (by first | rfl | (simp; done) | (simp [*]; done)), H', ⟨by have := HK1.out; omega⟩, ⟨by (with_reducible repeat (first | apply Kd.R_alloc | apply Kd.R_drewN | apply Kd.R_drew)); exact HO230.out⟩, ⟨by repeat (first | (with_reducible first | exact HB.out | apply below_alloc | apply pw_below_drewN | apply below_drew1) | exact HB.out)⟩⟩
            · rw [if_neg c8] at H
              exact absurd H (by simp)
          · rw [if_neg c7] at H
            have c7b0 : decide (0 < (ji6)) = false := decide_eq_false c7
            clear c7
            have H' := Aside0.mk H
            clear H
            have p224 : 0 ≤ (x6_1 : Int) := of_decide_eq_true (by first | (with_reducible assumption) | assumption)
            have q224 : x6_1 < (l0.length : Int) := of_decide_eq_true (by first | (with_reducible assumption) | assumption)
            obtain ⟨ad224, e224, hx224_0, hx224_1⟩ := at_T69 HR0.out x6_1 p224 q224
            cases e224
            replace hx224_0 := (HB.out.cell (World.block_lt_of_cell? w _ hx224_0)).trans hx224_0
            replace hx224_1 := (HB.out.cell (World.block_lt_of_cell? w _ hx224_1)).trans hx224_1
            replace p224 := eq_true p224
            replace q224 := eq_true q224
            have p225 : 0 ≤ (x6_1 : Int) := of_decide_eq_true (by first | (with_reducible assumption) | assumption)
            have q225 : x6_1 < (l0.length : Int) := of_decide_eq_true (by first | (with_reducible assumption) | assumption)
            obtain ⟨ad225, e225, hx225_0, hx225_1⟩ := at_T69 HR0.out x6_1 p225 q225
            obtain rfl : ad224 = ad225 := (by injection e225)
            replace hx225_0 := (HB.out.cell (World.block_lt_of_cell? w _ hx225_0)).trans hx225_0
            replace hx225_1 := (HB.out.cell (World.block_lt_of_cell? w _ hx225_1)).trans hx225_1
            replace p225 := eq_true p225
            replace q225 := eq_true q225
            go_wp2_with (first | (go_at_call 46; (with_reducible refine (elasticstoreref03_Count.calls k1 _ _ l1 ((rd_T69 l0 x6_1).f0) t226 _ ?side1 ?side2 A5.out).mono ?_); (case side1 => repeat (first | exact (Kd.C_below HR1.out HB.out) | (with_reducible refine Kd.C_alloc ?_ _) | (with_reducible refine Kd.C_drewN ?_ _) | (with_reducible refine Kd.C_drew ?_))); (case side2 => exact HC1.out); rintro e w' ⟨rfl, ⟨nd, rfl⟩⟩; (try first | exact ⟨rfl, _, World.drewN_drewN _ _ _⟩ | exact ⟨rfl, _, Eq.trans (World.drewN_drewN _ _ _) (congrArg (World.drewN _) (Nat.add_assoc _ _ _))⟩)))
            repeat (go_quiet (first | (go_at_call 46; (with_reducible refine (elasticstoreref03_Count.calls k1 _ _ l1 ((rd_T69 l0 x6_1).f0) t226 _ ?side1 ?side2 A5.out).mono ?_); (case side1 => repeat (first | exact (Kd.C_below HR1.out HB.out) | (with_reducible refine Kd.C_alloc ?_ _) | (with_reducible refine Kd.C_drewN ?_ _) | (with_reducible refine Kd.C_drew ?_))); (case side2 => exact HC1.out); rintro e w' ⟨rfl, ⟨nd, rfl⟩⟩; (try first | exact ⟨rfl, _, World.drewN_drewN _ _ _⟩ | exact ⟨rfl, _, Eq.trans (World.drewN_drewN _ _ _) (congrArg (World.drewN _) (Nat.add_assoc _ _ _))⟩))); try go_wp2_with (first | (go_at_call 46; (with_reducible refine (elasticstoreref03_Count.calls k1 _ _ l1 ((rd_T69 l0 x6_1).f0) t226 _ ?side1 ?side2 A5.out).mono ?_); (case side1 => repeat (first | exact (Kd.C_below HR1.out HB.out) | (with_reducible refine Kd.C_alloc ?_ _) | (with_reducible refine Kd.C_drewN ?_ _) | (with_reducible refine Kd.C_drew ?_))); (case side2 => exact HC1.out); rintro e w' ⟨rfl, ⟨nd, rfl⟩⟩; (try first | exact ⟨rfl, _, World.drewN_drewN _ _ _⟩ | exact ⟨rfl, _, Eq.trans (World.drewN_drewN _ _ _) (congrArg (World.drewN _) (Nat.add_assoc _ _ _))⟩))))
            go_roundg k1
            case measure => have := HK1.out; omega
            case rel => exact ⟨(x5_1), (wrap64 (x6_1 + 1)), (by first | rfl | (simp; done) | (simp [*]; done)), H', ⟨by have := HK1.out; omega⟩, ⟨by (with_reducible repeat (first | apply Kd.R_alloc | apply Kd.R_drewN | apply Kd.R_drew)); exact HO_5.out⟩, ⟨by repeat (first | (with_reducible first | exact HB.out | apply below_alloc | apply pw_below_drewN | apply below_drew1) | exact HB.out)⟩⟩
        · rw [if_neg c4] at H
          exact absurd H (by simp)
      · rw [if_neg c3] at H
        have c3b0 : decide (x6_1 < (l0.length : Int)) = false := decide_eq_false c3
        clear c3
        obtain rfl := Option.some.inj H
        go_wp2
        repeat (go_quiet (fail); try go_wp2)
        go_ret
        exact ⟨_, by first | rfl | (simp [errW_none, errW_some] <;> rfl) | (simp [*, errW_none, errW_some] <;> rfl), by (with_reducible repeat (first | apply Kd.R_alloc | apply Kd.R_drewN | apply Kd.R_drew)); exact HO_5.out, by repeat (first | (with_reducible first | exact HB.out | apply below_alloc | apply pw_below_drewN | apply below_drew1) | exact HB.out)⟩

end Go.Proofs.Ytknkdbleeaaleaa.Print
