/- The merge of two vectors with a bound of the counts (vector.merge), walked by hand: what it answers as a function of two lists. -/
import Derived.Test.YtknkdbleeaaleaaHand
import Derived.StillTailTactics
namespace Go.Proofs.Ytknkdbleeaaleaa.Print
open Go.RowKit Go.Proofs.YtknkdbleeaaleaaW.PrintWords Go.Proofs.YtknkdbleeaaleaaW.PrintLast Go.Proofs.YtknkdbleeaaleaaW.PrintMore
attribute [local go_sem] max2_int min2_int max_two min_two max_three min_three max_four min_four
set_option linter.unusedVariables false
set_option linter.unusedSimpArgs false

def bnd (b : Bool) (x y : Int) : Int := if b then mx x y else mn x y
theorem ret_i64 {a b : Int} (h : a = b) : Ending.returned (.int .i64 a) = .returned (.int .i64 b) := by rw [h]
theorem bnd_calls (b : Bool) (x y : Int) (w : World) : Calls Try.prog 49 #[.bool b, .int .i64 x, .int .i64 y] w fun e w' => e = .returned (.int .i64 (bnd b x y)) ∧ w' = w := by
  cases b with
  | true =>
    go_enter Try.func49, Try.ntmps49
    go_wp2
    all_goals
      go_ret
      refine ⟨ret_i64 ?_, rfl⟩
      simp only [bnd, mx, if_true]
      split <;> omega
  | false =>
    go_enter Try.func49, Try.ntmps49
    go_wp2
    all_goals
      go_ret
      refine ⟨ret_i64 ?_, rfl⟩
      simp only [bnd, mn]
      split <;> first | omega | (simp at *) | (split <;> omega)
def putE (k n : Int) (l : List S69) : List S69 := if n > 0 then ⟨k, n⟩ :: l else l
def mrg (b : Bool) : List S69 → List S69 → List S69
  | [], [] => []
  | x :: u, [] => putE x.f0 (bnd b x.f1 0) (mrg b u [])
  | [], y :: v => putE y.f0 (bnd b 0 y.f1) (mrg b [] v)
  | x :: u, y :: v => if x.f0 < y.f0 then putE x.f0 (bnd b x.f1 0) (mrg b u (y :: v)) else if y.f0 < x.f0 then putE y.f0 (bnd b 0 y.f1) (mrg b (x :: u) v) else putE x.f0 (bnd b x.f1 y.f1) (mrg b u v)
termination_by u v => u.length + v.length
theorem mrg_xn (b : Bool) (x : S69) (u : List S69) : mrg b (x :: u) [] = putE x.f0 (bnd b x.f1 0) (mrg b u []) := by rw [mrg]
theorem mrg_ny (b : Bool) (y : S69) (v : List S69) : mrg b [] (y :: v) = putE y.f0 (bnd b 0 y.f1) (mrg b [] v) := by rw [mrg]
theorem mrg_lt (b : Bool) (x y : S69) (u v : List S69) (h : x.f0 < y.f0) : mrg b (x :: u) (y :: v) = putE x.f0 (bnd b x.f1 0) (mrg b u (y :: v)) := by rw [mrg, if_pos h]
theorem mrg_gt (b : Bool) (x y : S69) (u v : List S69) (h : ¬ x.f0 < y.f0) (h2 : y.f0 < x.f0) : mrg b (x :: u) (y :: v) = putE y.f0 (bnd b 0 y.f1) (mrg b (x :: u) v) := by rw [mrg, if_neg h, if_pos h2]
theorem mrg_eq (b : Bool) (x y : S69) (u v : List S69) (h : ¬ x.f0 < y.f0) (h2 : ¬ y.f0 < x.f0) : mrg b (x :: u) (y :: v) = putE x.f0 (bnd b x.f1 y.f1) (mrg b u v) := by rw [mrg, if_neg h, if_neg h2]
def vector_merge_upper.f (l0 l1 : List S69) : Option (List S69) := if l0.length + l1.length < 8796093022208 then some (mrg true l0 l1) else none
def vector_merge_lower.f (l0 l1 : List S69) : Option (List S69) := if l0.length + l1.length < 8796093022208 then some (mrg false l0 l1) else none
theorem cons_cell {w : World} {A : Option Addr} {x : S69} {u : List S69} (h : Kd.C k69 w A (x :: u).length (x :: u)) : ∃ ad, A = some ad ∧ w.cell? ad = some (.int .i64 x.f0) ∧ w.cell? ⟨ad.block, ad.off + 1, none⟩ = some (.int .i64 x.f1) := by
  obtain ⟨ad, e, h0, h1⟩ := at_T69 h 0 (by omega) (by simp)
  have e0 : ad.add (Int.toNat 0 * 2) = ad := by unfold Addr.add; simp
  rw [e0] at h0 h1
  exact ⟨ad, e, h0, h1⟩
theorem tail_cut {w : World} {A : Option Addr} {c : Nat} {x : S69} {u : List S69} (h : Kd.C k69 w A (x :: u).length (x :: u)) (hc : (x :: u).length ≤ c) :
    ∃ A', (∀ W, (Instr.slice 23 (.slice A (u.length + 1) c) (some (.int .i64 1)) none none).run Try.prog W = .ok (.slice A' u.length (c - 1)) W) ∧ Kd.C k69 w A' u.length u ∧ u.length ≤ c - 1 := by
  obtain ⟨i0, hi, _, hsz, _⟩ := info_parts info69
  refine ⟨_, fun W => ?_, Kd.C_drop (m := 1) (c := c) h (by simp) hc, by simp at hc; omega⟩
  have := cut_from (P := Try.prog) 23 69 .i64 Try.underlying23 hi 2 hsz A (u.length + 1) c 1 (by omega) (by omega) W
  exact this
set_option maxHeartbeats 4000000 in
set_option maxRecDepth 100000 in
theorem merge_calls (b : Bool) (A0 : Option Addr) (c0 : Nat) (l0 : List S69) (A1 : Option Addr) (c1 : Nat) (l1 : List S69) (w : World) (hr0 : Kd.C k69 w A0 l0.length l0) (hc0 : l0.length ≤ c0) (hr1 : Kd.C k69 w A1 l1.length l1) (hc1 : l1.length ≤ c1) (hl : l0.length + l1.length < 8796093022208) :
    Calls Try.prog 48 #[.slice A0 l0.length c0, .slice A1 l1.length c1, .func (.func 49) #[.bool b] #[]] w fun e w' => ∃ v0_ : Value, e = .returned (v0_) ∧ Kd.R k69 69 w' w.heap.size (fun _ => True) v0_ (mrg b l0 l1) ∧ Below w.heap.size w w' := by
  have hu69 := Try.underlying69
  have HR0 := Aside0.mk hr0
  have HC0 := Aside0.mk hc0
  have HR1 := Aside0.mk hr1
  have HC1 := Aside0.mk hc1
  have HL := Aside0.mk hl
  have HB := Aside0.mk (Below.refl w.heap.size w)
  clear hr0 hc0 hr1 hc1 hl
  go_enter Try.func48, Try.ntmps48
  go_wp2
  go_loopg [0, 1, 7] (l0.length + l1.length + 1) (fun kq v0 v1 v7 w' => ∃ (la lb lo : List S69) (A B : Option Addr) (ca cb : Nat), v0 = .slice A la.length ca ∧ v1 = .slice B lb.length cb ∧ Aside0 (Kd.C k69 w A la.length la) ∧ Aside0 (la.length ≤ ca) ∧ Aside0 (Kd.C k69 w B lb.length lb) ∧ Aside0 (lb.length ≤ cb) ∧ Aside0 (lo ++ mrg b la lb = mrg b l0 l1) ∧ Aside0 (la.length + lb.length < kq) ∧ Aside0 (lo.length + la.length + lb.length < 8796093022208) ∧ Aside0 (Kd.R k69 69 w' w.heap.size (fun _ => True) v7 lo) ∧ Aside0 (Below w.heap.size w w'))
  case atStart => exact ⟨l0, l1, [], A0, A1, c0, c1, rfl, rfl, HR0, HC0, HR1, HC1, ⟨rfl⟩, ⟨by omega⟩, ⟨by have := HL.out; simp; omega⟩, ⟨Kd.R_nil _ _ _ _ _⟩, HB⟩
  case round =>
    obtain ⟨la, lb, lo, A, B, ca, cb, rfl, rfl, HRA, HCA, HRB, HCB, HM, HK, HN, HO, HB⟩ := hrel
    cases gk with
    | zero => exact absurd HK.out (by omega)
    | succ k1 =>
    cases la with
    | nil =>
      cases lb with
      | nil =>
        go_wp2
        go_ret
        exact ⟨_, rfl, by have h := HM.out; simp only [mrg, List.append_nil] at h; rw [← h]; exact HO.out, HB.out⟩
      | cons y v =>
        obtain ⟨adB, rfl, hy0, hy1⟩ := cons_cell HRB.out
        have HY0 := Aside0.mk hy0
        have HY1 := Aside0.mk hy1
        clear hy0 hy1
        obtain ⟨B', hcutB, hrb, hcb⟩ := tail_cut HRB.out HCB.out
        have HRB' := Aside0.mk hrb
        have HCB' := Aside0.mk hcb
        clear hrb hcb
        have eB : (((v.length : Int) + 1) == 0) = false := beq_eq_false_iff_ne.mpr (by omega)
        have gB : decide (0 < (v.length : Int) + 1) = true := decide_eq_true (by omega)
        go_wp2_with (first | ((with_reducible refine gate_dst (N := 8) rfl ?_); (try (refine gate_guard (by rfl) ?_; dsimp only)); refine box_event ?hg (N := 8) ?hd (cs := #[.int .i64 0, .int .i64 0]) (t := 69) ?hr ?_; (case hd => rfl); (case hg => rfl); (case hr => first | (go_simp; done) | (go_simp; rfl)); intro gb hg w1 hbox hb; have HG := Aside0.mk (show wr.heap.size ≤ gb from Nat.le_of_eq hg.symm); have HBX := Aside0.mk hbox; have HB1 := Aside0.mk hb; clear hg hbox hb))
        (try simp only [Act.put, List.setIfInBounds_toArray, List.set_cons_zero, List.set_cons_succ])
        have hy0 := ((HB.out.trans (HB1.out.mono HB.out.size)).cell (World.block_lt_of_cell? w _ HY0.out)).trans HY0.out
        have hy1 := ((HB.out.trans (HB1.out.mono HB.out.size)).cell (World.block_lt_of_cell? w _ HY1.out)).trans HY1.out
        go_big_quiet (fail)
        go_wp2
        have hy0q : (w1.drewN nq).cell? adB = some (.int .i64 y.f0) := hy0
        have hy1q : (w1.drewN nq).cell? ⟨adB.block, adB.off + 1, none⟩ = some (.int .i64 y.f1) := hy1
        have hbq : (w1.drewN nq).heap[gb]? = some (.cells #[.int .i64 0, .int .i64 0] 69 (0, 0)) := HBX.out
        have hwq : Below wr.heap.size wr (w1.drewN nq) := pw_below_drewN HB1.out nq
        generalize w1.drewN nq = w2 at hy0q hy1q hbq hwq ⊢
        clear hy0 hy1 HBX HB1 nq w1
        have HBX := Aside0.mk hbq
        have HB1 := Aside0.mk hwq
        clear hbq hwq
        have hy0 := hy0q
        have hy1 := hy1q
        clear hy0q hy1q
        go_big_quiet (fail)
        go_wp2
        have hy0q : (w2.drewN nq).cell? adB = some (.int .i64 y.f0) := hy0
        have hy1q : (w2.drewN nq).cell? ⟨adB.block, adB.off + 1, none⟩ = some (.int .i64 y.f1) := hy1
        have hbq : (w2.drewN nq).heap[gb]? = some (.cells #[.int .i64 0, .int .i64 0] 69 (0, 0)) := HBX.out
        have hwq : Below wr.heap.size wr (w2.drewN nq) := pw_below_drewN HB1.out nq
        generalize w2.drewN nq = w3 at hy0q hy1q hbq hwq ⊢
        clear hy0 hy1 HBX HB1 nq w2
        have HBX := Aside0.mk hbq
        have HB1 := Aside0.mk hwq
        clear hbq hwq
        have hy0 := hy0q
        have hy1 := hy1q
        clear hy0q hy1q
        refine wp_region_still_tail 11 (by kernel_rfl) (by kernel_rfl) ?_
        simp only [List.take_succ_cons, List.take_zero, List.drop_succ_cons, List.drop_zero]
        obtain ⟨W2, hW2⟩ : ∃ W2, W2 = World.drew w3 := ⟨_, rfl⟩
        have HW2 := Aside0.mk hW2
        have hy0z : W2.cell? adB = some (.int .i64 y.f0) := by rw [hW2]; exact hy0
        have hy1z : W2.cell? ⟨adB.block, adB.off + 1, none⟩ = some (.int .i64 y.f1) := by rw [hW2]; exact hy1
        have HBX2 := Aside0.mk (show W2.heap[gb]? = some (.cells #[.int .i64 0, .int .i64 0] 69 (0, 0)) from by rw [hW2]; exact HBX.out)
        have HB2 := Aside0.mk (show Below wr.heap.size wr W2 from by rw [hW2]; exact pw_below_drewN HB1.out 1)
        change wpStill _ _ (World.drew w3) _ _ _
        rw [← hW2]
        clear hW2 HBX HB1 hy0 hy1
        repeat still_step
        still_call (bnd_calls b 0 y.f1 W2)
        repeat still_step
        refine wpStill_nil ?_
        change wpList _ _ _ _ _ (World.drew w3)
        rw [← HW2.out]
        clear HW2 hy0z hy1z
        have hb0 : W2.cell? ⟨gb, 0, none⟩ = some (.int .i64 0) := (blk_cell HBX2.out 0).trans rfl
        have hb1 : W2.cell? ⟨gb, 1, none⟩ = some (.int .i64 0) := (blk_cell HBX2.out 1).trans rfl
        have hf0 : W2.frozen? ⟨gb, 0, none⟩ = false := by simp [World.frozen?, HBX2.out]
        have hf1 : W2.frozen? ⟨gb, 1, none⟩ = false := by simp [World.frozen?, HBX2.out]
        obtain ⟨n, hn⟩ : ∃ n, n = bnd b 0 y.f1 := ⟨_, rfl⟩
        have Hn := Aside0.mk hn
        rw [← hn]
        clear hn
        have hs_ : Below wr.heap.size wr ((W2.setCell ⟨gb, 0, none⟩ (.int .i64 y.f0)).setCell ⟨gb, 1, none⟩ (.int .i64 n)) := below_set (below_set HB2.out HG.out) HG.out
        have HO3 := Aside0.mk (Kd.R_below HO.out hs_)
        have HB3 := Aside0.mk (HB.out.trans (hs_.mono HB.out.size))
        clear hs_
        have HM3 := Aside0.mk (HM.out.symm.trans (congrArg (lo ++ ·) (mrg_ny b y v)))
        rw [← Hn.out] at HM3
        by_cases hp : 0 < n
        · have d9 : decide (0 < n) = true := decide_eq_true hp
          have HP := Aside0.mk hp
          clear hp
          go_wp2_with (first | ((with_reducible refine gate_builtin (b := .append) (xs := #[.tmp 100, .tmp 102]) rfl ?_); (try (refine gate_guard (by rfl) ?_; dsimp only)); at_builtin; refine Kd.R_append k69 (w0 := w) w.heap.size rfl (.tmp 100) (.tmp 102) 23 69 (.agg #[(.int .i64 0), (.int .i64 0)]) 16 rfl Try.underlying23 info69 rfl (by decide) (by omega) _ lo (⟨y.f0, n⟩ : S69) [.int .i64 (y.f0), .int .i64 n] (fun _ => True) (fun _ => False) rfl (by first | rfl | (show Value.slice _ _ _ = _; simp)) ?aP (fun _ hk => hk.elim) ?aF ?aO ?aB ?aS ?aL ?_; (case aP => exact k69_mkM _ _ _ (⟨y.f0, n⟩ : S69)); (case aB => exact (by repeat (first | (with_reducible first | exact HB3.out | apply below_alloc | apply pw_below_drewN | apply below_drew1) | exact HB3.out))); (case aF => exact (fun _ _ => trivial)); (case aO => exact (by (with_reducible repeat (first | apply Kd.R_alloc | apply Kd.R_drewN | apply Kd.R_drew)); exact HO3.out)); (case aS => exact (below_size (by repeat (first | (with_reducible first | exact HB3.out | apply below_alloc | apply pw_below_drewN | apply below_drew1) | exact HB3.out)))); (case aL => have := HN.out; simp at this ⊢; omega); intro v120 w38 ho hb hg hat; have HO4 := Aside0.mk ho; have HB4 := Aside0.mk hb; clear ho hb hg hat))
          go_roundg k1
          case measure => omega
          case rel => exact ⟨[], v, (lo ++ [⟨y.f0, n⟩]), _, B', _, (cb - 1), rfl, rfl, HRA, HCA, HRB', HCB', ⟨by have e := HM3.out; unfold putE at e; rw [if_pos (by have := HP.out; omega)] at e; rw [List.append_assoc]; exact e.symm⟩, ⟨by have := HK.out; simp at this ⊢; omega⟩, ⟨by have := HN.out; simp at this ⊢; omega⟩, HO4, HB4⟩
        · have d9 : decide (0 < n) = false := decide_eq_false hp
          have HP := Aside0.mk hp
          clear hp
          go_wp2
          go_roundg k1
          case measure => omega
          case rel => exact ⟨[], v, lo, _, B', _, (cb - 1), rfl, rfl, HRA, HCA, HRB', HCB', ⟨by have e := HM3.out; unfold putE at e; rw [if_neg (by have := HP.out; omega)] at e; exact e.symm⟩, ⟨by have := HK.out; simp at this ⊢; omega⟩, ⟨by have := HN.out; simp at this ⊢; omega⟩, ⟨by (with_reducible repeat (first | apply Kd.R_alloc | apply Kd.R_drewN | apply Kd.R_drew)); exact HO3.out⟩, ⟨by repeat (first | (with_reducible first | exact HB3.out | apply below_alloc | apply pw_below_drewN | apply below_drew1) | exact HB3.out)⟩⟩
    | cons x u =>
      cases lb with
      | nil =>
        obtain ⟨adA, rfl, hx0, hx1⟩ := cons_cell HRA.out
        have HX0 := Aside0.mk hx0
        have HX1 := Aside0.mk hx1
        clear hx0 hx1
        obtain ⟨A', hcutA, hra, hca⟩ := tail_cut HRA.out HCA.out
        have HRA' := Aside0.mk hra
        have HCA' := Aside0.mk hca
        clear hra hca
        have eA : (((u.length : Int) + 1) == 0) = false := beq_eq_false_iff_ne.mpr (by omega)
        have gA : decide (0 < (u.length : Int) + 1) = true := decide_eq_true (by omega)
        go_wp2_with (first | ((with_reducible refine gate_dst (N := 8) rfl ?_); (try (refine gate_guard (by rfl) ?_; dsimp only)); refine box_event ?hg (N := 8) ?hd (cs := #[.int .i64 0, .int .i64 0]) (t := 69) ?hr ?_; (case hd => rfl); (case hg => rfl); (case hr => first | (go_simp; done) | (go_simp; rfl)); intro gb hg w1 hbox hb; have HG := Aside0.mk (show wr.heap.size ≤ gb from Nat.le_of_eq hg.symm); have HBX := Aside0.mk hbox; have HB1 := Aside0.mk hb; clear hg hbox hb))
        (try simp only [Act.put, List.setIfInBounds_toArray, List.set_cons_zero, List.set_cons_succ])
        have hx0 := ((HB.out.trans (HB1.out.mono HB.out.size)).cell (World.block_lt_of_cell? w _ HX0.out)).trans HX0.out
        have hx1 := ((HB.out.trans (HB1.out.mono HB.out.size)).cell (World.block_lt_of_cell? w _ HX1.out)).trans HX1.out
        go_big_quiet (fail)
        go_wp2
        have hx0q : (w1.drewN nq).cell? adA = some (.int .i64 x.f0) := hx0
        have hx1q : (w1.drewN nq).cell? ⟨adA.block, adA.off + 1, none⟩ = some (.int .i64 x.f1) := hx1
        have hbq : (w1.drewN nq).heap[gb]? = some (.cells #[.int .i64 0, .int .i64 0] 69 (0, 0)) := HBX.out
        have hwq : Below wr.heap.size wr (w1.drewN nq) := pw_below_drewN HB1.out nq
        generalize w1.drewN nq = w2 at hx0q hx1q hbq hwq ⊢
        clear hx0 hx1 HBX HB1 nq w1
        have HBX := Aside0.mk hbq
        have HB1 := Aside0.mk hwq
        clear hbq hwq
        have hx0 := hx0q
        have hx1 := hx1q
        clear hx0q hx1q
        refine wp_region_still_tail 11 (by kernel_rfl) (by kernel_rfl) ?_
        simp only [List.take_succ_cons, List.take_zero, List.drop_succ_cons, List.drop_zero]
        obtain ⟨W2, hW2⟩ : ∃ W2, W2 = World.drew w2 := ⟨_, rfl⟩
        have HW2 := Aside0.mk hW2
        have hx0z : W2.cell? adA = some (.int .i64 x.f0) := by rw [hW2]; exact hx0
        have hx1z : W2.cell? ⟨adA.block, adA.off + 1, none⟩ = some (.int .i64 x.f1) := by rw [hW2]; exact hx1
        have HBX2 := Aside0.mk (show W2.heap[gb]? = some (.cells #[.int .i64 0, .int .i64 0] 69 (0, 0)) from by rw [hW2]; exact HBX.out)
        have HB2 := Aside0.mk (show Below wr.heap.size wr W2 from by rw [hW2]; exact pw_below_drewN HB1.out 1)
        change wpStill _ _ (World.drew w2) _ _ _
        rw [← hW2]
        clear hW2 HBX HB1 hx0 hx1
        repeat still_step
        still_call (bnd_calls b x.f1 0 W2)
        repeat still_step
        refine wpStill_nil ?_
        change wpList _ _ _ _ _ (World.drew w2)
        rw [← HW2.out]
        clear HW2 hx0z hx1z
        have hb0 : W2.cell? ⟨gb, 0, none⟩ = some (.int .i64 0) := (blk_cell HBX2.out 0).trans rfl
        have hb1 : W2.cell? ⟨gb, 1, none⟩ = some (.int .i64 0) := (blk_cell HBX2.out 1).trans rfl
        have hf0 : W2.frozen? ⟨gb, 0, none⟩ = false := by simp [World.frozen?, HBX2.out]
        have hf1 : W2.frozen? ⟨gb, 1, none⟩ = false := by simp [World.frozen?, HBX2.out]
        obtain ⟨n, hn⟩ : ∃ n, n = bnd b x.f1 0 := ⟨_, rfl⟩
        have Hn := Aside0.mk hn
        rw [← hn]
        clear hn
        have hs_ : Below wr.heap.size wr ((W2.setCell ⟨gb, 0, none⟩ (.int .i64 x.f0)).setCell ⟨gb, 1, none⟩ (.int .i64 n)) := below_set (below_set HB2.out HG.out) HG.out
        have HO3 := Aside0.mk (Kd.R_below HO.out hs_)
        have HB3 := Aside0.mk (HB.out.trans (hs_.mono HB.out.size))
        clear hs_
        have HM3 := Aside0.mk (HM.out.symm.trans (congrArg (lo ++ ·) (mrg_xn b x u)))
        rw [← Hn.out] at HM3
        by_cases hp : 0 < n
        · have d9 : decide (0 < n) = true := decide_eq_true hp
          have HP := Aside0.mk hp
          clear hp
          go_wp2_with (first | ((with_reducible refine gate_builtin (b := .append) (xs := #[.tmp 100, .tmp 102]) rfl ?_); (try (refine gate_guard (by rfl) ?_; dsimp only)); at_builtin; refine Kd.R_append k69 (w0 := w) w.heap.size rfl (.tmp 100) (.tmp 102) 23 69 (.agg #[(.int .i64 0), (.int .i64 0)]) 16 rfl Try.underlying23 info69 rfl (by decide) (by omega) _ lo (⟨x.f0, n⟩ : S69) [.int .i64 (x.f0), .int .i64 n] (fun _ => True) (fun _ => False) rfl (by first | rfl | (show Value.slice _ _ _ = _; simp)) ?aP (fun _ hk => hk.elim) ?aF ?aO ?aB ?aS ?aL ?_; (case aP => exact k69_mkM _ _ _ (⟨x.f0, n⟩ : S69)); (case aB => exact (by repeat (first | (with_reducible first | exact HB3.out | apply below_alloc | apply pw_below_drewN | apply below_drew1) | exact HB3.out))); (case aF => exact (fun _ _ => trivial)); (case aO => exact (by (with_reducible repeat (first | apply Kd.R_alloc | apply Kd.R_drewN | apply Kd.R_drew)); exact HO3.out)); (case aS => exact (below_size (by repeat (first | (with_reducible first | exact HB3.out | apply below_alloc | apply pw_below_drewN | apply below_drew1) | exact HB3.out)))); (case aL => have := HN.out; simp at this ⊢; omega); intro v120 w38 ho hb hg hat; have HO4 := Aside0.mk ho; have HB4 := Aside0.mk hb; clear ho hb hg hat))
          go_roundg k1
          case measure => omega
          case rel => exact ⟨u, [], (lo ++ [⟨x.f0, n⟩]), A', _, (ca - 1), _, rfl, rfl, HRA', HCA', HRB, HCB, ⟨by have e := HM3.out; unfold putE at e; rw [if_pos (by have := HP.out; omega)] at e; rw [List.append_assoc]; exact e.symm⟩, ⟨by have := HK.out; simp at this ⊢; omega⟩, ⟨by have := HN.out; simp at this ⊢; omega⟩, HO4, HB4⟩
        · have d9 : decide (0 < n) = false := decide_eq_false hp
          have HP := Aside0.mk hp
          clear hp
          go_wp2
          go_roundg k1
          case measure => omega
          case rel => exact ⟨u, [], lo, A', _, (ca - 1), _, rfl, rfl, HRA', HCA', HRB, HCB, ⟨by have e := HM3.out; unfold putE at e; rw [if_neg (by have := HP.out; omega)] at e; exact e.symm⟩, ⟨by have := HK.out; simp at this ⊢; omega⟩, ⟨by have := HN.out; simp at this ⊢; omega⟩, ⟨by (with_reducible repeat (first | apply Kd.R_alloc | apply Kd.R_drewN | apply Kd.R_drew)); exact HO3.out⟩, ⟨by repeat (first | (with_reducible first | exact HB3.out | apply below_alloc | apply pw_below_drewN | apply below_drew1) | exact HB3.out)⟩⟩
      | cons y v =>
        by_cases hxy : x.f0 < y.f0
        · have HXY := Aside0.mk hxy
          have d1 : decide (x.f0 < y.f0) = true := decide_eq_true hxy
          clear hxy
          obtain ⟨adA, rfl, hx0, hx1⟩ := cons_cell HRA.out
          have HX0 := Aside0.mk hx0
          have HX1 := Aside0.mk hx1
          clear hx0 hx1
          obtain ⟨adB, rfl, hy0, hy1⟩ := cons_cell HRB.out
          have HY0 := Aside0.mk hy0
          have HY1 := Aside0.mk hy1
          clear hy0 hy1
          obtain ⟨A', hcutA, hra, hca⟩ := tail_cut HRA.out HCA.out
          have HRA' := Aside0.mk hra
          have HCA' := Aside0.mk hca
          clear hra hca
          have eA : (((u.length : Int) + 1) == 0) = false := beq_eq_false_iff_ne.mpr (by omega)
          have gA : decide (0 < (u.length : Int) + 1) = true := decide_eq_true (by omega)
          have eB : (((v.length : Int) + 1) == 0) = false := beq_eq_false_iff_ne.mpr (by omega)
          have gB : decide (0 < (v.length : Int) + 1) = true := decide_eq_true (by omega)
          go_wp2_with (first | ((with_reducible refine gate_dst (N := 8) rfl ?_); (try (refine gate_guard (by rfl) ?_; dsimp only)); refine box_event ?hg (N := 8) ?hd (cs := #[.int .i64 0, .int .i64 0]) (t := 69) ?hr ?_; (case hd => rfl); (case hg => rfl); (case hr => first | (go_simp; done) | (go_simp; rfl)); intro gb hg w1 hbox hb; have HG := Aside0.mk (show wr.heap.size ≤ gb from Nat.le_of_eq hg.symm); have HBX := Aside0.mk hbox; have HB1 := Aside0.mk hb; clear hg hbox hb))
          (try simp only [Act.put, List.setIfInBounds_toArray, List.set_cons_zero, List.set_cons_succ])
          have hx0 := ((HB.out.trans (HB1.out.mono HB.out.size)).cell (World.block_lt_of_cell? w _ HX0.out)).trans HX0.out
          have hx1 := ((HB.out.trans (HB1.out.mono HB.out.size)).cell (World.block_lt_of_cell? w _ HX1.out)).trans HX1.out
          have hy0 := ((HB.out.trans (HB1.out.mono HB.out.size)).cell (World.block_lt_of_cell? w _ HY0.out)).trans HY0.out
          have hy1 := ((HB.out.trans (HB1.out.mono HB.out.size)).cell (World.block_lt_of_cell? w _ HY1.out)).trans HY1.out
          go_big_quiet (fail)
          go_wp2
          have hx0q : (w1.drewN nq).cell? adA = some (.int .i64 x.f0) := hx0
          have hx1q : (w1.drewN nq).cell? ⟨adA.block, adA.off + 1, none⟩ = some (.int .i64 x.f1) := hx1
          have hy0q : (w1.drewN nq).cell? adB = some (.int .i64 y.f0) := hy0
          have hy1q : (w1.drewN nq).cell? ⟨adB.block, adB.off + 1, none⟩ = some (.int .i64 y.f1) := hy1
          have hbq : (w1.drewN nq).heap[gb]? = some (.cells #[.int .i64 0, .int .i64 0] 69 (0, 0)) := HBX.out
          have hwq : Below wr.heap.size wr (w1.drewN nq) := pw_below_drewN HB1.out nq
          generalize w1.drewN nq = w2 at hx0q hx1q hy0q hy1q hbq hwq ⊢
          clear hx0 hx1 hy0 hy1 HBX HB1 nq w1
          have HBX := Aside0.mk hbq
          have HB1 := Aside0.mk hwq
          clear hbq hwq
          have hx0 := hx0q
          have hx1 := hx1q
          have hy0 := hy0q
          have hy1 := hy1q
          clear hx0q hx1q hy0q hy1q
          refine wp_region_still_tail 11 (by kernel_rfl) (by kernel_rfl) ?_
          simp only [List.take_succ_cons, List.take_zero, List.drop_succ_cons, List.drop_zero]
          obtain ⟨W2, hW2⟩ : ∃ W2, W2 = World.drew w2 := ⟨_, rfl⟩
          have HW2 := Aside0.mk hW2
          have hx0z : W2.cell? adA = some (.int .i64 x.f0) := by rw [hW2]; exact hx0
          have hx1z : W2.cell? ⟨adA.block, adA.off + 1, none⟩ = some (.int .i64 x.f1) := by rw [hW2]; exact hx1
          have hy0z : W2.cell? adB = some (.int .i64 y.f0) := by rw [hW2]; exact hy0
          have hy1z : W2.cell? ⟨adB.block, adB.off + 1, none⟩ = some (.int .i64 y.f1) := by rw [hW2]; exact hy1
          have HBX2 := Aside0.mk (show W2.heap[gb]? = some (.cells #[.int .i64 0, .int .i64 0] 69 (0, 0)) from by rw [hW2]; exact HBX.out)
          have HB2 := Aside0.mk (show Below wr.heap.size wr W2 from by rw [hW2]; exact pw_below_drewN HB1.out 1)
          change wpStill _ _ (World.drew w2) _ _ _
          rw [← hW2]
          clear hW2 HBX HB1 hx0 hx1 hy0 hy1
          repeat still_step
          still_call (bnd_calls b x.f1 0 W2)
          repeat still_step
          refine wpStill_nil ?_
          change wpList _ _ _ _ _ (World.drew w2)
          rw [← HW2.out]
          clear HW2 hx0z hx1z hy0z hy1z
          have hb0 : W2.cell? ⟨gb, 0, none⟩ = some (.int .i64 0) := (blk_cell HBX2.out 0).trans rfl
          have hb1 : W2.cell? ⟨gb, 1, none⟩ = some (.int .i64 0) := (blk_cell HBX2.out 1).trans rfl
          have hf0 : W2.frozen? ⟨gb, 0, none⟩ = false := by simp [World.frozen?, HBX2.out]
          have hf1 : W2.frozen? ⟨gb, 1, none⟩ = false := by simp [World.frozen?, HBX2.out]
          obtain ⟨n, hn⟩ : ∃ n, n = bnd b x.f1 0 := ⟨_, rfl⟩
          have Hn := Aside0.mk hn
          rw [← hn]
          clear hn
          have hs_ : Below wr.heap.size wr ((W2.setCell ⟨gb, 0, none⟩ (.int .i64 x.f0)).setCell ⟨gb, 1, none⟩ (.int .i64 n)) := below_set (below_set HB2.out HG.out) HG.out
          have HO3 := Aside0.mk (Kd.R_below HO.out hs_)
          have HB3 := Aside0.mk (HB.out.trans (hs_.mono HB.out.size))
          clear hs_
          have HM3 := Aside0.mk (HM.out.symm.trans (congrArg (lo ++ ·) (mrg_lt b x y u v (by have := HXY.out; omega))))
          rw [← Hn.out] at HM3
          by_cases hp : 0 < n
          · have d9 : decide (0 < n) = true := decide_eq_true hp
            have HP := Aside0.mk hp
            clear hp
            go_wp2_with (first | ((with_reducible refine gate_builtin (b := .append) (xs := #[.tmp 100, .tmp 102]) rfl ?_); (try (refine gate_guard (by rfl) ?_; dsimp only)); at_builtin; refine Kd.R_append k69 (w0 := w) w.heap.size rfl (.tmp 100) (.tmp 102) 23 69 (.agg #[(.int .i64 0), (.int .i64 0)]) 16 rfl Try.underlying23 info69 rfl (by decide) (by omega) _ lo (⟨x.f0, n⟩ : S69) [.int .i64 (x.f0), .int .i64 n] (fun _ => True) (fun _ => False) rfl (by first | rfl | (show Value.slice _ _ _ = _; simp)) ?aP (fun _ hk => hk.elim) ?aF ?aO ?aB ?aS ?aL ?_; (case aP => exact k69_mkM _ _ _ (⟨x.f0, n⟩ : S69)); (case aB => exact (by repeat (first | (with_reducible first | exact HB3.out | apply below_alloc | apply pw_below_drewN | apply below_drew1) | exact HB3.out))); (case aF => exact (fun _ _ => trivial)); (case aO => exact (by (with_reducible repeat (first | apply Kd.R_alloc | apply Kd.R_drewN | apply Kd.R_drew)); exact HO3.out)); (case aS => exact (below_size (by repeat (first | (with_reducible first | exact HB3.out | apply below_alloc | apply pw_below_drewN | apply below_drew1) | exact HB3.out)))); (case aL => have := HN.out; simp at this ⊢; omega); intro v120 w38 ho hb hg hat; have HO4 := Aside0.mk ho; have HB4 := Aside0.mk hb; clear ho hb hg hat))
            go_roundg k1
            case measure => omega
            case rel => exact ⟨u, (y :: v), (lo ++ [⟨x.f0, n⟩]), A', _, (ca - 1), _, rfl, rfl, HRA', HCA', HRB, HCB, ⟨by have e := HM3.out; unfold putE at e; rw [if_pos (by have := HP.out; omega)] at e; rw [List.append_assoc]; exact e.symm⟩, ⟨by have := HK.out; simp at this ⊢; omega⟩, ⟨by have := HN.out; simp at this ⊢; omega⟩, HO4, HB4⟩
          · have d9 : decide (0 < n) = false := decide_eq_false hp
            have HP := Aside0.mk hp
            clear hp
            go_wp2
            go_roundg k1
            case measure => omega
            case rel => exact ⟨u, (y :: v), lo, A', _, (ca - 1), _, rfl, rfl, HRA', HCA', HRB, HCB, ⟨by have e := HM3.out; unfold putE at e; rw [if_neg (by have := HP.out; omega)] at e; exact e.symm⟩, ⟨by have := HK.out; simp at this ⊢; omega⟩, ⟨by have := HN.out; simp at this ⊢; omega⟩, ⟨by (with_reducible repeat (first | apply Kd.R_alloc | apply Kd.R_drewN | apply Kd.R_drew)); exact HO3.out⟩, ⟨by repeat (first | (with_reducible first | exact HB3.out | apply below_alloc | apply pw_below_drewN | apply below_drew1) | exact HB3.out)⟩⟩
        · have HXY := Aside0.mk hxy
          have d1 : decide (x.f0 < y.f0) = false := decide_eq_false hxy
          clear hxy
          by_cases hyx : y.f0 < x.f0
          · have HYX := Aside0.mk hyx
            have d2 : decide (y.f0 < x.f0) = true := decide_eq_true hyx
            clear hyx
            obtain ⟨adA, rfl, hx0, hx1⟩ := cons_cell HRA.out
            have HX0 := Aside0.mk hx0
            have HX1 := Aside0.mk hx1
            clear hx0 hx1
            obtain ⟨adB, rfl, hy0, hy1⟩ := cons_cell HRB.out
            have HY0 := Aside0.mk hy0
            have HY1 := Aside0.mk hy1
            clear hy0 hy1
            obtain ⟨B', hcutB, hrb, hcb⟩ := tail_cut HRB.out HCB.out
            have HRB' := Aside0.mk hrb
            have HCB' := Aside0.mk hcb
            clear hrb hcb
            have eA : (((u.length : Int) + 1) == 0) = false := beq_eq_false_iff_ne.mpr (by omega)
            have gA : decide (0 < (u.length : Int) + 1) = true := decide_eq_true (by omega)
            have eB : (((v.length : Int) + 1) == 0) = false := beq_eq_false_iff_ne.mpr (by omega)
            have gB : decide (0 < (v.length : Int) + 1) = true := decide_eq_true (by omega)
            go_wp2_with (first | ((with_reducible refine gate_dst (N := 8) rfl ?_); (try (refine gate_guard (by rfl) ?_; dsimp only)); refine box_event ?hg (N := 8) ?hd (cs := #[.int .i64 0, .int .i64 0]) (t := 69) ?hr ?_; (case hd => rfl); (case hg => rfl); (case hr => first | (go_simp; done) | (go_simp; rfl)); intro gb hg w1 hbox hb; have HG := Aside0.mk (show wr.heap.size ≤ gb from Nat.le_of_eq hg.symm); have HBX := Aside0.mk hbox; have HB1 := Aside0.mk hb; clear hg hbox hb))
            (try simp only [Act.put, List.setIfInBounds_toArray, List.set_cons_zero, List.set_cons_succ])
            have hx0 := ((HB.out.trans (HB1.out.mono HB.out.size)).cell (World.block_lt_of_cell? w _ HX0.out)).trans HX0.out
            have hx1 := ((HB.out.trans (HB1.out.mono HB.out.size)).cell (World.block_lt_of_cell? w _ HX1.out)).trans HX1.out
            have hy0 := ((HB.out.trans (HB1.out.mono HB.out.size)).cell (World.block_lt_of_cell? w _ HY0.out)).trans HY0.out
            have hy1 := ((HB.out.trans (HB1.out.mono HB.out.size)).cell (World.block_lt_of_cell? w _ HY1.out)).trans HY1.out
            go_big_quiet (fail)
            go_wp2
            have hx0q : (w1.drewN nq).cell? adA = some (.int .i64 x.f0) := hx0
            have hx1q : (w1.drewN nq).cell? ⟨adA.block, adA.off + 1, none⟩ = some (.int .i64 x.f1) := hx1
            have hy0q : (w1.drewN nq).cell? adB = some (.int .i64 y.f0) := hy0
            have hy1q : (w1.drewN nq).cell? ⟨adB.block, adB.off + 1, none⟩ = some (.int .i64 y.f1) := hy1
            have hbq : (w1.drewN nq).heap[gb]? = some (.cells #[.int .i64 0, .int .i64 0] 69 (0, 0)) := HBX.out
            have hwq : Below wr.heap.size wr (w1.drewN nq) := pw_below_drewN HB1.out nq
            generalize w1.drewN nq = w2 at hx0q hx1q hy0q hy1q hbq hwq ⊢
            clear hx0 hx1 hy0 hy1 HBX HB1 nq w1
            have HBX := Aside0.mk hbq
            have HB1 := Aside0.mk hwq
            clear hbq hwq
            have hx0 := hx0q
            have hx1 := hx1q
            have hy0 := hy0q
            have hy1 := hy1q
            clear hx0q hx1q hy0q hy1q
            go_big_quiet (fail)
            go_wp2
            have hx0q : (w2.drewN nq).cell? adA = some (.int .i64 x.f0) := hx0
            have hx1q : (w2.drewN nq).cell? ⟨adA.block, adA.off + 1, none⟩ = some (.int .i64 x.f1) := hx1
            have hy0q : (w2.drewN nq).cell? adB = some (.int .i64 y.f0) := hy0
            have hy1q : (w2.drewN nq).cell? ⟨adB.block, adB.off + 1, none⟩ = some (.int .i64 y.f1) := hy1
            have hbq : (w2.drewN nq).heap[gb]? = some (.cells #[.int .i64 0, .int .i64 0] 69 (0, 0)) := HBX.out
            have hwq : Below wr.heap.size wr (w2.drewN nq) := pw_below_drewN HB1.out nq
            generalize w2.drewN nq = w3 at hx0q hx1q hy0q hy1q hbq hwq ⊢
            clear hx0 hx1 hy0 hy1 HBX HB1 nq w2
            have HBX := Aside0.mk hbq
            have HB1 := Aside0.mk hwq
            clear hbq hwq
            have hx0 := hx0q
            have hx1 := hx1q
            have hy0 := hy0q
            have hy1 := hy1q
            clear hx0q hx1q hy0q hy1q
            refine wp_region_still_tail 11 (by kernel_rfl) (by kernel_rfl) ?_
            simp only [List.take_succ_cons, List.take_zero, List.drop_succ_cons, List.drop_zero]
            obtain ⟨W2, hW2⟩ : ∃ W2, W2 = World.drew w3 := ⟨_, rfl⟩
            have HW2 := Aside0.mk hW2
            have hx0z : W2.cell? adA = some (.int .i64 x.f0) := by rw [hW2]; exact hx0
            have hx1z : W2.cell? ⟨adA.block, adA.off + 1, none⟩ = some (.int .i64 x.f1) := by rw [hW2]; exact hx1
            have hy0z : W2.cell? adB = some (.int .i64 y.f0) := by rw [hW2]; exact hy0
            have hy1z : W2.cell? ⟨adB.block, adB.off + 1, none⟩ = some (.int .i64 y.f1) := by rw [hW2]; exact hy1
            have HBX2 := Aside0.mk (show W2.heap[gb]? = some (.cells #[.int .i64 0, .int .i64 0] 69 (0, 0)) from by rw [hW2]; exact HBX.out)
            have HB2 := Aside0.mk (show Below wr.heap.size wr W2 from by rw [hW2]; exact pw_below_drewN HB1.out 1)
            change wpStill _ _ (World.drew w3) _ _ _
            rw [← hW2]
            clear hW2 HBX HB1 hx0 hx1 hy0 hy1
            repeat still_step
            still_call (bnd_calls b 0 y.f1 W2)
            repeat still_step
            refine wpStill_nil ?_
            change wpList _ _ _ _ _ (World.drew w3)
            rw [← HW2.out]
            clear HW2 hx0z hx1z hy0z hy1z
            have hb0 : W2.cell? ⟨gb, 0, none⟩ = some (.int .i64 0) := (blk_cell HBX2.out 0).trans rfl
            have hb1 : W2.cell? ⟨gb, 1, none⟩ = some (.int .i64 0) := (blk_cell HBX2.out 1).trans rfl
            have hf0 : W2.frozen? ⟨gb, 0, none⟩ = false := by simp [World.frozen?, HBX2.out]
            have hf1 : W2.frozen? ⟨gb, 1, none⟩ = false := by simp [World.frozen?, HBX2.out]
            obtain ⟨n, hn⟩ : ∃ n, n = bnd b 0 y.f1 := ⟨_, rfl⟩
            have Hn := Aside0.mk hn
            rw [← hn]
            clear hn
            have hs_ : Below wr.heap.size wr ((W2.setCell ⟨gb, 0, none⟩ (.int .i64 y.f0)).setCell ⟨gb, 1, none⟩ (.int .i64 n)) := below_set (below_set HB2.out HG.out) HG.out
            have HO3 := Aside0.mk (Kd.R_below HO.out hs_)
            have HB3 := Aside0.mk (HB.out.trans (hs_.mono HB.out.size))
            clear hs_
            have HM3 := Aside0.mk (HM.out.symm.trans (congrArg (lo ++ ·) (mrg_gt b x y u v (by have := HXY.out; omega) (by have := HYX.out; omega))))
            rw [← Hn.out] at HM3
            by_cases hp : 0 < n
            · have d9 : decide (0 < n) = true := decide_eq_true hp
              have HP := Aside0.mk hp
              clear hp
              go_wp2_with (first | ((with_reducible refine gate_builtin (b := .append) (xs := #[.tmp 100, .tmp 102]) rfl ?_); (try (refine gate_guard (by rfl) ?_; dsimp only)); at_builtin; refine Kd.R_append k69 (w0 := w) w.heap.size rfl (.tmp 100) (.tmp 102) 23 69 (.agg #[(.int .i64 0), (.int .i64 0)]) 16 rfl Try.underlying23 info69 rfl (by decide) (by omega) _ lo (⟨y.f0, n⟩ : S69) [.int .i64 (y.f0), .int .i64 n] (fun _ => True) (fun _ => False) rfl (by first | rfl | (show Value.slice _ _ _ = _; simp)) ?aP (fun _ hk => hk.elim) ?aF ?aO ?aB ?aS ?aL ?_; (case aP => exact k69_mkM _ _ _ (⟨y.f0, n⟩ : S69)); (case aB => exact (by repeat (first | (with_reducible first | exact HB3.out | apply below_alloc | apply pw_below_drewN | apply below_drew1) | exact HB3.out))); (case aF => exact (fun _ _ => trivial)); (case aO => exact (by (with_reducible repeat (first | apply Kd.R_alloc | apply Kd.R_drewN | apply Kd.R_drew)); exact HO3.out)); (case aS => exact (below_size (by repeat (first | (with_reducible first | exact HB3.out | apply below_alloc | apply pw_below_drewN | apply below_drew1) | exact HB3.out)))); (case aL => have := HN.out; simp at this ⊢; omega); intro v120 w38 ho hb hg hat; have HO4 := Aside0.mk ho; have HB4 := Aside0.mk hb; clear ho hb hg hat))
              go_roundg k1
              case measure => omega
              case rel => exact ⟨(x :: u), v, (lo ++ [⟨y.f0, n⟩]), _, B', _, (cb - 1), rfl, rfl, HRA, HCA, HRB', HCB', ⟨by have e := HM3.out; unfold putE at e; rw [if_pos (by have := HP.out; omega)] at e; rw [List.append_assoc]; exact e.symm⟩, ⟨by have := HK.out; simp at this ⊢; omega⟩, ⟨by have := HN.out; simp at this ⊢; omega⟩, HO4, HB4⟩
            · have d9 : decide (0 < n) = false := decide_eq_false hp
              have HP := Aside0.mk hp
              clear hp
              go_wp2
              go_roundg k1
              case measure => omega
              case rel => exact ⟨(x :: u), v, lo, _, B', _, (cb - 1), rfl, rfl, HRA, HCA, HRB', HCB', ⟨by have e := HM3.out; unfold putE at e; rw [if_neg (by have := HP.out; omega)] at e; exact e.symm⟩, ⟨by have := HK.out; simp at this ⊢; omega⟩, ⟨by have := HN.out; simp at this ⊢; omega⟩, ⟨by (with_reducible repeat (first | apply Kd.R_alloc | apply Kd.R_drewN | apply Kd.R_drew)); exact HO3.out⟩, ⟨by repeat (first | (with_reducible first | exact HB3.out | apply below_alloc | apply pw_below_drewN | apply below_drew1) | exact HB3.out)⟩⟩
          · have HYX := Aside0.mk hyx
            have d2 : decide (y.f0 < x.f0) = false := decide_eq_false hyx
            clear hyx
            obtain ⟨adA, rfl, hx0, hx1⟩ := cons_cell HRA.out
            have HX0 := Aside0.mk hx0
            have HX1 := Aside0.mk hx1
            clear hx0 hx1
            obtain ⟨adB, rfl, hy0, hy1⟩ := cons_cell HRB.out
            have HY0 := Aside0.mk hy0
            have HY1 := Aside0.mk hy1
            clear hy0 hy1
            obtain ⟨A', hcutA, hra, hca⟩ := tail_cut HRA.out HCA.out
            have HRA' := Aside0.mk hra
            have HCA' := Aside0.mk hca
            clear hra hca
            obtain ⟨B', hcutB, hrb, hcb⟩ := tail_cut HRB.out HCB.out
            have HRB' := Aside0.mk hrb
            have HCB' := Aside0.mk hcb
            clear hrb hcb
            have eA : (((u.length : Int) + 1) == 0) = false := beq_eq_false_iff_ne.mpr (by omega)
            have gA : decide (0 < (u.length : Int) + 1) = true := decide_eq_true (by omega)
            have eB : (((v.length : Int) + 1) == 0) = false := beq_eq_false_iff_ne.mpr (by omega)
            have gB : decide (0 < (v.length : Int) + 1) = true := decide_eq_true (by omega)
            go_wp2_with (first | ((with_reducible refine gate_dst (N := 8) rfl ?_); (try (refine gate_guard (by rfl) ?_; dsimp only)); refine box_event ?hg (N := 8) ?hd (cs := #[.int .i64 0, .int .i64 0]) (t := 69) ?hr ?_; (case hd => rfl); (case hg => rfl); (case hr => first | (go_simp; done) | (go_simp; rfl)); intro gb hg w1 hbox hb; have HG := Aside0.mk (show wr.heap.size ≤ gb from Nat.le_of_eq hg.symm); have HBX := Aside0.mk hbox; have HB1 := Aside0.mk hb; clear hg hbox hb))
            (try simp only [Act.put, List.setIfInBounds_toArray, List.set_cons_zero, List.set_cons_succ])
            have hx0 := ((HB.out.trans (HB1.out.mono HB.out.size)).cell (World.block_lt_of_cell? w _ HX0.out)).trans HX0.out
            have hx1 := ((HB.out.trans (HB1.out.mono HB.out.size)).cell (World.block_lt_of_cell? w _ HX1.out)).trans HX1.out
            have hy0 := ((HB.out.trans (HB1.out.mono HB.out.size)).cell (World.block_lt_of_cell? w _ HY0.out)).trans HY0.out
            have hy1 := ((HB.out.trans (HB1.out.mono HB.out.size)).cell (World.block_lt_of_cell? w _ HY1.out)).trans HY1.out
            go_big_quiet (fail)
            go_wp2
            have hx0q : (w1.drewN nq).cell? adA = some (.int .i64 x.f0) := hx0
            have hx1q : (w1.drewN nq).cell? ⟨adA.block, adA.off + 1, none⟩ = some (.int .i64 x.f1) := hx1
            have hy0q : (w1.drewN nq).cell? adB = some (.int .i64 y.f0) := hy0
            have hy1q : (w1.drewN nq).cell? ⟨adB.block, adB.off + 1, none⟩ = some (.int .i64 y.f1) := hy1
            have hbq : (w1.drewN nq).heap[gb]? = some (.cells #[.int .i64 0, .int .i64 0] 69 (0, 0)) := HBX.out
            have hwq : Below wr.heap.size wr (w1.drewN nq) := pw_below_drewN HB1.out nq
            generalize w1.drewN nq = w2 at hx0q hx1q hy0q hy1q hbq hwq ⊢
            clear hx0 hx1 hy0 hy1 HBX HB1 nq w1
            have HBX := Aside0.mk hbq
            have HB1 := Aside0.mk hwq
            clear hbq hwq
            have hx0 := hx0q
            have hx1 := hx1q
            have hy0 := hy0q
            have hy1 := hy1q
            clear hx0q hx1q hy0q hy1q
            go_big_quiet (fail)
            go_wp2
            have hx0q : (w2.drewN nq).cell? adA = some (.int .i64 x.f0) := hx0
            have hx1q : (w2.drewN nq).cell? ⟨adA.block, adA.off + 1, none⟩ = some (.int .i64 x.f1) := hx1
            have hy0q : (w2.drewN nq).cell? adB = some (.int .i64 y.f0) := hy0
            have hy1q : (w2.drewN nq).cell? ⟨adB.block, adB.off + 1, none⟩ = some (.int .i64 y.f1) := hy1
            have hbq : (w2.drewN nq).heap[gb]? = some (.cells #[.int .i64 0, .int .i64 0] 69 (0, 0)) := HBX.out
            have hwq : Below wr.heap.size wr (w2.drewN nq) := pw_below_drewN HB1.out nq
            generalize w2.drewN nq = w3 at hx0q hx1q hy0q hy1q hbq hwq ⊢
            clear hx0 hx1 hy0 hy1 HBX HB1 nq w2
            have HBX := Aside0.mk hbq
            have HB1 := Aside0.mk hwq
            clear hbq hwq
            have hx0 := hx0q
            have hx1 := hx1q
            have hy0 := hy0q
            have hy1 := hy1q
            clear hx0q hx1q hy0q hy1q
            refine wp_region_still_tail 15 (by kernel_rfl) (by kernel_rfl) ?_
            simp only [List.take_succ_cons, List.take_zero, List.drop_succ_cons, List.drop_zero]
            obtain ⟨W2, hW2⟩ : ∃ W2, W2 = World.drew w3 := ⟨_, rfl⟩
            have HW2 := Aside0.mk hW2
            have hx0z : W2.cell? adA = some (.int .i64 x.f0) := by rw [hW2]; exact hx0
            have hx1z : W2.cell? ⟨adA.block, adA.off + 1, none⟩ = some (.int .i64 x.f1) := by rw [hW2]; exact hx1
            have hy0z : W2.cell? adB = some (.int .i64 y.f0) := by rw [hW2]; exact hy0
            have hy1z : W2.cell? ⟨adB.block, adB.off + 1, none⟩ = some (.int .i64 y.f1) := by rw [hW2]; exact hy1
            have HBX2 := Aside0.mk (show W2.heap[gb]? = some (.cells #[.int .i64 0, .int .i64 0] 69 (0, 0)) from by rw [hW2]; exact HBX.out)
            have HB2 := Aside0.mk (show Below wr.heap.size wr W2 from by rw [hW2]; exact pw_below_drewN HB1.out 1)
            change wpStill _ _ (World.drew w3) _ _ _
            rw [← hW2]
            clear hW2 HBX HB1 hx0 hx1 hy0 hy1
            repeat still_step
            still_call (bnd_calls b x.f1 y.f1 W2)
            repeat still_step
            refine wpStill_nil ?_
            change wpList _ _ _ _ _ (World.drew w3)
            rw [← HW2.out]
            clear HW2 hx0z hx1z hy0z hy1z
            have hb0 : W2.cell? ⟨gb, 0, none⟩ = some (.int .i64 0) := (blk_cell HBX2.out 0).trans rfl
            have hb1 : W2.cell? ⟨gb, 1, none⟩ = some (.int .i64 0) := (blk_cell HBX2.out 1).trans rfl
            have hf0 : W2.frozen? ⟨gb, 0, none⟩ = false := by simp [World.frozen?, HBX2.out]
            have hf1 : W2.frozen? ⟨gb, 1, none⟩ = false := by simp [World.frozen?, HBX2.out]
            obtain ⟨n, hn⟩ : ∃ n, n = bnd b x.f1 y.f1 := ⟨_, rfl⟩
            have Hn := Aside0.mk hn
            rw [← hn]
            clear hn
            have hs_ : Below wr.heap.size wr ((W2.setCell ⟨gb, 0, none⟩ (.int .i64 x.f0)).setCell ⟨gb, 1, none⟩ (.int .i64 n)) := below_set (below_set HB2.out HG.out) HG.out
            have HO3 := Aside0.mk (Kd.R_below HO.out hs_)
            have HB3 := Aside0.mk (HB.out.trans (hs_.mono HB.out.size))
            clear hs_
            have HM3 := Aside0.mk (HM.out.symm.trans (congrArg (lo ++ ·) (mrg_eq b x y u v (by have := HXY.out; omega) (by have := HYX.out; omega))))
            rw [← Hn.out] at HM3
            by_cases hp : 0 < n
            · have d9 : decide (0 < n) = true := decide_eq_true hp
              have HP := Aside0.mk hp
              clear hp
              go_wp2
              go_big_quiet (fail)
              go_wp2_with (first | ((with_reducible refine gate_builtin (b := .append) (xs := #[.tmp 100, .tmp 102]) rfl ?_); (try (refine gate_guard (by rfl) ?_; dsimp only)); at_builtin; refine Kd.R_append k69 (w0 := w) w.heap.size rfl (.tmp 100) (.tmp 102) 23 69 (.agg #[(.int .i64 0), (.int .i64 0)]) 16 rfl Try.underlying23 info69 rfl (by decide) (by omega) _ lo (⟨x.f0, n⟩ : S69) [.int .i64 (x.f0), .int .i64 n] (fun _ => True) (fun _ => False) rfl (by first | rfl | (show Value.slice _ _ _ = _; simp)) ?aP (fun _ hk => hk.elim) ?aF ?aO ?aB ?aS ?aL ?_; (case aP => exact k69_mkM _ _ _ (⟨x.f0, n⟩ : S69)); (case aB => exact (by repeat (first | (with_reducible first | exact HB3.out | apply below_alloc | apply pw_below_drewN | apply below_drew1) | exact HB3.out))); (case aF => exact (fun _ _ => trivial)); (case aO => exact (by (with_reducible repeat (first | apply Kd.R_alloc | apply Kd.R_drewN | apply Kd.R_drew)); exact HO3.out)); (case aS => exact (below_size (by repeat (first | (with_reducible first | exact HB3.out | apply below_alloc | apply pw_below_drewN | apply below_drew1) | exact HB3.out)))); (case aL => have := HN.out; simp at this ⊢; omega); intro v120 w38 ho hb hg hat; have HO4 := Aside0.mk ho; have HB4 := Aside0.mk hb; clear ho hb hg hat))
              go_roundg k1
              case measure => omega
              case rel => exact ⟨u, v, (lo ++ [⟨x.f0, n⟩]), A', B', (ca - 1), (cb - 1), rfl, rfl, HRA', HCA', HRB', HCB', ⟨by have e := HM3.out; unfold putE at e; rw [if_pos (by have := HP.out; omega)] at e; rw [List.append_assoc]; exact e.symm⟩, ⟨by have := HK.out; simp at this ⊢; omega⟩, ⟨by have := HN.out; simp at this ⊢; omega⟩, HO4, HB4⟩
            · have d9 : decide (0 < n) = false := decide_eq_false hp
              have HP := Aside0.mk hp
              clear hp
              go_wp2
              go_big_quiet (fail)
              go_wp2
              go_roundg k1
              case measure => omega
              case rel => exact ⟨u, v, lo, A', B', (ca - 1), (cb - 1), rfl, rfl, HRA', HCA', HRB', HCB', ⟨by have e := HM3.out; unfold putE at e; rw [if_neg (by have := HP.out; omega)] at e; exact e.symm⟩, ⟨by have := HK.out; simp at this ⊢; omega⟩, ⟨by have := HN.out; simp at this ⊢; omega⟩, ⟨by (with_reducible repeat (first | apply Kd.R_alloc | apply Kd.R_drewN | apply Kd.R_drew)); exact HO3.out⟩, ⟨by repeat (first | (with_reducible first | exact HB3.out | apply below_alloc | apply pw_below_drewN | apply below_drew1) | exact HB3.out)⟩⟩
theorem vector_merge_upper.calls (A0 : Option Addr) (c0 : Nat) (l0 : List S69) (A1 : Option Addr) (c1 : Nat) (l1 : List S69) (r : List S69) (w : World) (hr0 : Kd.C k69 w A0 l0.length l0) (hc0 : l0.length ≤ c0) (hr1 : Kd.C k69 w A1 l1.length l1) (hc1 : l1.length ≤ c1) (h : vector_merge_upper.f l0 l1 = some r) :
    Calls Try.prog 48 #[.slice A0 l0.length c0, .slice A1 l1.length c1, .func (.func 49) #[.bool true] #[]] w fun e w' => ∃ v0_ : Value, e = .returned (v0_) ∧ Kd.R k69 69 w' w.heap.size (fun _ => True) v0_ r ∧ Below w.heap.size w w' := by
  unfold vector_merge_upper.f at h
  split at h
  · obtain rfl := Option.some.inj h
    exact merge_calls true A0 c0 l0 A1 c1 l1 w hr0 hc0 hr1 hc1 ‹_›
  · exact absurd h (by simp)
theorem vector_merge_lower.calls (A0 : Option Addr) (c0 : Nat) (l0 : List S69) (A1 : Option Addr) (c1 : Nat) (l1 : List S69) (r : List S69) (w : World) (hr0 : Kd.C k69 w A0 l0.length l0) (hc0 : l0.length ≤ c0) (hr1 : Kd.C k69 w A1 l1.length l1) (hc1 : l1.length ≤ c1) (h : vector_merge_lower.f l0 l1 = some r) :
    Calls Try.prog 48 #[.slice A0 l0.length c0, .slice A1 l1.length c1, .func (.func 49) #[.bool false] #[]] w fun e w' => ∃ v0_ : Value, e = .returned (v0_) ∧ Kd.R k69 69 w' w.heap.size (fun _ => True) v0_ r ∧ Below w.heap.size w w' := by
  unfold vector_merge_lower.f at h
  split at h
  · obtain rfl := Option.some.inj h
    exact merge_calls false A0 c0 l0 A1 c1 l1 w hr0 hc0 hr1 hc1 ‹_›
  · exact absurd h (by simp)
end Go.Proofs.Ytknkdbleeaaleaa.Print
