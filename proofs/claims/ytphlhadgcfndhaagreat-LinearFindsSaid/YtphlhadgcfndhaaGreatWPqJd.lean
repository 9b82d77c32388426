/- law39's Order: the walk. -/
import Derived.Test.YtphlhadgcfndhaaGreatJd14
import Derived.Test.YtphlhadgcfndhaaGreatJd13
namespace Go.Proofs.YtphlhadgcfndhaaGreat.Abs
open Go Go.RowKit
set_option linter.unusedVariables false
set_option linter.unusedSimpArgs false
set_option maxHeartbeats 4000000
set_option maxRecDepth 8000
theorem at00_pure (l : List Int) (i : Nat) (hl : l.length < 4000000000000000000) : Pure Tryz.prog 26 [.c (encis l), .c (cI i)] (.c (cI (atI l i))) := by
  unfold atI
  refine pure_of teOk Tryz.func26 (by kernel_rfl) (c := _) rfl (N := 15) rfl (rs := [Go.ResultVar.tmp 4]) rfl (by simp) fun base A w0 hA => ?_
  refine AW.st teOk [] (by simp [-Option.some.injEq] <;> rfl) trivial ?_
  refine AW.seq ?_
  refine AW.st teOk [] (by simp [-Option.some.injEq] <;> rfl) trivial ?_
  by_cases h0 : l.length = 0
  · refine AW.iff true (by simp [h0]) (fun _ => ?_) (fun h => by cases h)
    refine AW.st teOk [] (by simp [-Option.some.injEq] <;> rfl) trivial ?_
    refine AW.ret ⟨.inr rfl, _, Weak.refl _, ?_⟩
    rw [if_pos h0]
    simp
  · refine AW.iff false (by simp; intro e; exact h0 (by rw [e]; rfl)) (fun h => by cases h) (fun _ => AW.skip ?_)
    have hi := indexP_lt i (k := l.length) (by omega) (by omega)
    have hip := index_pure i l.length
    obtain ⟨j, hj⟩ : ∃ j : Nat, indexI i l.length = j := ⟨(indexI i l.length).toNat, by omega⟩
    rw [if_neg h0]
    rw [hj] at hip hi ⊢
    obtain ⟨x, hx⟩ : ∃ x, l[j]? = some x := ⟨_, List.getElem?_eq_getElem (by omega)⟩
    have hgd : l.getD j 0 = x := by rw [List.getD_eq_getElem?_getD, hx]; rfl
    rw [Int.toNat_natCast, hgd]
    refine AW.st teOk [.fz (.c (cI j))] (by simp [hx, -Option.some.injEq] <;> rfl) ?_ ?_
    · exact ⟨hip, by omega⟩
    refine AW.ret ⟨.inr rfl, _, Weak.refl _, ?_⟩
    simp
@[simp] def encb (b : Bool) : List Cell := [cB b]
@[simp] theorem flat_encb (l : List Bool) : flatO ⟨1, l.map encb⟩ = true := flatO_of fun e he => by
  obtain ⟨x, _, rfl⟩ := List.mem_map.1 he
  rfl
@[simp] def encn (k : Nat) : List Cell := [cI k]
@[simp] theorem flat_encn (l : List Nat) : flatO ⟨1, l.map encn⟩ = true := flatO_of fun e he => by
  obtain ⟨x, _, rfl⟩ := List.mem_map.1 he
  rfl
def frK (ops : List OpS) (d : List Bool) (k : Nat) : List Nat := (List.range k).filter (okO ops d)
theorem frK_s (ops : List OpS) (d : List Bool) (k : Nat) : frK ops d (k + 1) = if okO ops d k = true then frK ops d k ++ [k] else frK ops d k := by
  unfold frK
  rw [List.range_succ, List.filter_append]
  split
  · rename_i h; simp [h]
  · rename_i h; simp [h]
def okQ (ops : List OpS) (d : List Bool) (k q : Nat) : Bool := !dnB d k && (List.range q).all fun q => dnB d q || !preS ops q k
theorem okQ_s (ops : List OpS) (d : List Bool) (k q : Nat) : okQ ops d k (q + 1) = (okQ ops d k q && (dnB d q || !preS ops q k)) := by
  unfold okQ
  rw [List.range_succ, List.all_append]
  simp [Bool.and_assoc]
theorem okQ_no {ops : List OpS} {d : List Bool} {k q : Nat} (h : okQ ops d k q = false) (hq : q ≤ ops.length) : okO ops d k = false := by
  cases hb : okO ops d k with
  | false => rfl
  | true =>
    unfold okO at hb
    unfold okQ at h
    rw [Bool.and_eq_true, List.all_eq_true] at hb
    rw [hb.1, Bool.true_and, List.all_eq_false] at h
    obtain ⟨x, hx, hn⟩ := h
    exact absurd (hb.2 x (List.mem_range.2 (by have := List.mem_range.1 hx; omega))) hn
theorem okQ_all (ops : List OpS) (d : List Bool) (k : Nat) : okQ ops d k ops.length = okO ops d k := rfl
theorem dn_at {d : List Bool} {k : Nat} (h : k < d.length) : d[k]? = some (dnB d k) := by
  unfold dnB
  rw [List.getD_eq_getElem?_getD, List.getElem?_eq_getElem h]
  rfl
abbrev ordSt (ops : List OpS) (l : List Int) (i : Nat) (d : List Bool) (out : List Int) : St := ⟨[(1, .c (encis l)), (2, .c (.fad (encHi ops))), (5, .c (.ref 1 0 out.length)), (6, .c (.ref 0 0 ops.length)), (8, .c (cI i))], [(0, ⟨1, d.map encb⟩), (1, ⟨1, out.map enci⟩)], 2⟩
theorem order_pure (ops : List OpS) (l : List Int) (hn : ops.length < 1000000) (hl : l.length < 4000000000000000000) : Pure Tryz.prog 13 [.agg (encHi ops), .c (encis l)] (.c (encis (orderS ops l))) := by
  refine pure_of teOk Tryz.func13 (by kernel_rfl) (c := _) rfl (N := 111) rfl (rs := [Go.ResultVar.tmp 4]) rfl (by simp) fun base A w0 hA => ?_
  refine AW.st teOk [] (by simp [-Option.some.injEq] <;> rfl) trivial ?_
  refine AW.to (s2 := ⟨[(1, .c (encis l)), (2, .c (.fad (encHi ops)))], [], 0⟩) ((Weak.freeze 0 ⟨1, [encHi ops]⟩ [] _ (by simp) (flatOpsR ops)).trans (Weak.normT hA [1, 2] [] [] 0 _ (by simp) (by simp) (by simp [mapAt_nil]))) (by simp [mapAt_nil]) ?_
  refine AW.st teOk [] (by simp [-Option.some.injEq] <;> rfl) trivial ?_
  refine AW.st teOk [] (by simp [-Option.some.injEq] <;> rfl) ?_ ?_
  · first | trivial | omega | (simp [allP, growOk] <;> omega)
  have hlen0 : (List.replicate ops.length false).length = ops.length := by simp
  have hd0 : (List.replicate ops.length false).map encb = List.replicate ops.length [cB false] := by simp
  refine AW.mid (fun s => s = ⟨[(1, .c (encis l)), (2, .c (.fad (encHi ops))), (5, .c (.sc (.slice none 0 0))), (6, .c (.ref 0 0 ops.length))], [(0, ⟨1, (doneF ops l ops.length).map encb⟩)], 1⟩) ?_ ?_
  · refine AW.st teOk [] (by simp [-Option.some.injEq] <;> rfl) trivial ?_
    refine AW.block (AW.loop (fun m s => ∃ i : Nat, m = ops.length - i ∧ i ≤ ops.length ∧ s = ⟨[(1, .c (encis l)), (2, .c (.fad (encHi ops))), (5, .c (.sc (.slice none 0 0))), (6, .c (.ref 0 0 ops.length)), (7, .c (cI i))], [(0, ⟨1, (doneF ops l i).map encb⟩)], 1⟩) _ (Weak.normT hA [1, 2, 5, 6, 7] [(6, 0)] [] 1 _ (by simp) (by simp) (by simp; rw [← hd0]; exact flat_encb _)) ⟨0, rfl, Nat.zero_le _, by simp [doneF]⟩ ?_)
    rintro m s ⟨i, rfl, hi, rfl⟩
    have hlen := doneF_len ops l i
    refine AW.seq ?_
    refine AW.st teOk [] (by simp [-Option.some.injEq] <;> rfl) trivial ?_
    refine AW.iff (decide (i < ops.length)) (by simp) (fun h => AW.skip ?_) (fun h => AW.exit (x_then (x_then (blockA_exit ?_))))
    · rw [decide_eq_true_eq] at h
      obtain ⟨o, hx⟩ : ∃ e, ops[i]? = some e := ⟨_, List.getElem?_eq_getElem h⟩
      have hnx : doneF ops l (i + 1) = if skipB l o i = true then (doneF ops l i).set i true else doneF ops l i := by rw [doneF, hx]
      have hat := at00_pure l i hl
      have hdg := dP (atI l i) 3 5 (by decide) (by decide)
      refine AW.mid (fun s => s = ⟨[(1, .c (encis l)), (2, .c (.fad (encHi ops))), (5, .c (.sc (.slice none 0 0))), (6, .c (.ref 0 0 ops.length)), (7, .c (cI i))], [(0, ⟨1, (doneF ops l (i + 1)).map encb⟩)], 1⟩) (AW.block ?_) ?_
      · generalize doneF ops l (i + 1) = D1 at *
        generalize doneF ops l i = D at *
        have yes : skipB l o i = true → D1 = D.set i true := fun h => by rw [hnx, if_pos h]
        have no : skipB l o i = false → D1 = D := fun h => by rw [hnx, h, if_neg (by simp)]
        obtain ⟨bb, hbb⟩ : ∃ b, D[i]? = some b := ⟨_, List.getElem?_eq_getElem (by omega)⟩
        have hset : flatO ⟨1, (D.map encb).set i [cB true]⟩ = true := by
          have : (D.map encb).set i [cB true] = (D.set i true).map encb := by rw [List.map_set]; rfl
          rw [this]; exact flat_encb _
        have hsm : (D.map encb).set i [cB true] = (D.set i true).map encb := by rw [List.map_set]; rfl
        cases hr : o.ret == 0 with
        | false =>
          rw [no (by simp [skipB, hr])]
          refine AW.st teOk [] (by simp [hx, hr, -Option.some.injEq] <;> rfl) ?_ ?_
          · first | trivial | omega | (simp [allP, growOk] <;> omega)
          refine AW.iff false (by simp) (fun h => by cases h) (fun _ => AW.skip ?_)
          exact ⟨_, Weak.normT hA [1, 2, 5, 6, 7] [(6, 0)] [] 1 _ (by simp) (by simp) (by simp), by simp⟩
        | true =>
        cases hk : o.kind != 1 with
        | true =>
          rw [yes (by simp [skipB, hr, hk])]
          refine AW.st teOk [] (by simp [hx, hr, hk, -Option.some.injEq] <;> rfl) ?_ ?_
          · first | trivial | omega | (simp [allP, growOk] <;> omega)
          refine AW.iff true (by simp) (fun _ => ?_) (fun h => by cases h)
          refine AW.text teOk (ans := []) (by simp [hbb, -Option.some.injEq] <;> rfl) ?_ ?_
          · first | trivial | omega | (simp [allP, growOk] <;> omega)
          exact ⟨_, Weak.normT hA [1, 2, 5, 6, 7] [(6, 0)] [] 1 _ (by simp) (by simp) (by simp; exact hset), by simp⟩
        | false =>
        cases hg : digitI (atI l i) 3 5 == 0 with
        | true =>
          rw [yes (by simp [skipB, hr, hk, hg])]
          refine AW.st teOk [.fz (.c (cI (atI l i))), .fz (.c (cI (digitI (atI l i) 3 5)))] (by simp [hx, hr, hk, hg, -Option.some.injEq] <;> rfl) ?_ ?_
          · first | exact ⟨h, hat, hdg⟩ | exact ⟨h, h, hat, hdg⟩ | (refine ⟨?_, hat, hdg⟩; omega)
          refine AW.iff true (by simp) (fun _ => ?_) (fun h => by cases h)
          refine AW.text teOk (ans := []) (by simp [hbb, -Option.some.injEq] <;> rfl) ?_ ?_
          · first | trivial | omega | (simp [allP, growOk] <;> omega)
          exact ⟨_, Weak.normT hA [1, 2, 5, 6, 7] [(6, 0)] [] 1 _ (by simp) (by simp) (by simp; exact hset), by simp⟩
        | false =>
          rw [no (by simp [skipB, hr, hk, hg])]
          refine AW.st teOk [.fz (.c (cI (atI l i))), .fz (.c (cI (digitI (atI l i) 3 5)))] (by simp [hx, hr, hk, hg, -Option.some.injEq] <;> rfl) ?_ ?_
          · first | exact ⟨h, hat, hdg⟩ | exact ⟨h, h, hat, hdg⟩ | (refine ⟨?_, hat, hdg⟩; omega)
          refine AW.iff false (by simp) (fun h => by cases h) (fun _ => AW.skip ?_)
          exact ⟨_, Weak.normT hA [1, 2, 5, 6, 7] [(6, 0)] [] 1 _ (by simp) (by simp) (by simp), by simp⟩
      rintro s rfl
      refine AW.text teOk (ans := []) (by simp [-Option.some.injEq] <;> rfl) ?_ ?_
      · trivial
      refine ⟨_, _, Weak.normT hA [1, 2, 5, 6, 7] [(6, 0)] [] 1 _ (by simp) (by simp) (by simp), ?_, i + 1, rfl, h, ?_⟩
      · omega
      · simp
        exact wrap_s i (by omega)
    · rw [decide_eq_false_iff_not] at h
      have : i = ops.length := by omega
      subst this
      exact ⟨_, Weak.normT hA [1, 2, 5, 6] [(6, 0)] [] 1 _ (by simp) (by simp) (by simp), by simp⟩
  rintro s rfl
  have hR : orderS ops l = ordF ops l ops.length 0 (doneF ops l ops.length) [] := rfl
  have hc0 : (doneF ops l ops.length).count false ≤ ops.length := by have := count_le (doneF ops l ops.length); rw [doneF_len] at this; exact this
  have hlD := doneF_len ops l ops.length
  generalize doneF ops l ops.length = D0 at *
  generalize orderS ops l = R at *
  refine AW.weak (Weak.nil 5 1 _ (by simp <;> rfl)) ?_
  refine AW.st teOk [] (by simp [-Option.some.injEq] <;> rfl) trivial ?_
  refine AW.block (AW.loop (fun m s => ∃ (i : Nat) (d : List Bool) (out : List Int), i + m = ops.length ∧ out.length ≤ i ∧ d.count false ≤ m ∧ d.length = ops.length ∧ R = ordF ops l m i d out ∧ s = ordSt ops l i d out) _ (Weak.normS hA [1, 2, 5, 6, 8] [(5, 1), (6, 0)] [] [] 2 _ (by simp) (by simp) (by simp)) ⟨0, D0, [], by omega, Nat.le_refl _, hc0, hlD, hR, by simp⟩ ?_)
  rintro m s ⟨i, d, out, him, ho, hc, hdl, hR, rfl⟩
  refine AW.seq (AW.block ?_)
  refine AW.st teOk [] (by simp [-Option.some.injEq] <;> rfl) trivial ?_
  refine AW.weak (Weak.nil 9 1 _ (by simp <;> rfl)) ?_
  refine AW.mid (fun s => s = ⟨[(1, .c (encis l)), (2, .c (.fad (encHi ops))), (5, .c (.ref 1 0 out.length)), (6, .c (.ref 0 0 ops.length)), (8, .c (cI i)), (9, .c (.ref 2 0 (frO ops d).length))], [(0, ⟨1, d.map encb⟩), (1, ⟨1, out.map enci⟩), (2, ⟨1, (frO ops d).map encn⟩)], 3⟩) ?_ ?_
  · refine AW.st teOk [] (by simp [-Option.some.injEq] <;> rfl) trivial ?_
    refine AW.block (AW.loop (fun m s => ∃ k : Nat, m = ops.length - k ∧ k ≤ ops.length ∧ s = ⟨[(1, .c (encis l)), (2, .c (.fad (encHi ops))), (5, .c (.ref 1 0 out.length)), (6, .c (.ref 0 0 ops.length)), (8, .c (cI i)), (9, .c (.ref 2 0 (frK ops d k).length)), (10, .c (cI k))], [(0, ⟨1, d.map encb⟩), (1, ⟨1, out.map enci⟩), (2, ⟨1, (frK ops d k).map encn⟩)], 3⟩) _ (Weak.normS hA [1, 2, 5, 6, 8, 9, 10] [(5, 1), (6, 0), (9, 2)] [] [] 3 _ (by simp) (by simp) (by simp)) ⟨0, rfl, Nat.zero_le _, by simp [frK]⟩ ?_)
    rintro m s ⟨k, rfl, hk, rfl⟩
    refine AW.seq ?_
    refine AW.st teOk [] (by simp [-Option.some.injEq] <;> rfl) trivial ?_
    refine AW.iff (decide (k < ops.length)) (by simp) (fun h => AW.skip ?_) (fun h => AW.exit (x_then (x_then (blockA_exit ?_))))
    · rw [decide_eq_true_eq] at h
      obtain ⟨y, hy⟩ : ∃ e, ops[k]? = some e := ⟨_, List.getElem?_eq_getElem h⟩
      have hdk := dn_at (d := d) (k := k) (by omega)
      have hfl : (frK ops d k).length ≤ k := Nat.le_trans (List.length_filter_le _ _) (by simp)
      refine AW.mid (fun s => s = ⟨[(1, .c (encis l)), (2, .c (.fad (encHi ops))), (5, .c (.ref 1 0 out.length)), (6, .c (.ref 0 0 ops.length)), (8, .c (cI i)), (9, .c (.ref 2 0 (frK ops d (k + 1)).length)), (10, .c (cI k))], [(0, ⟨1, d.map encb⟩), (1, ⟨1, out.map enci⟩), (2, ⟨1, (frK ops d (k + 1)).map encn⟩)], 3⟩) (AW.block ?_) ?_
      · refine AW.st teOk [] (by simp [hdk, -Option.some.injEq] <;> rfl) ?_ ?_
        · first | trivial | omega | (simp [allP, growOk] <;> omega)
        refine AW.mid (fun s => s = ⟨[(1, .c (encis l)), (2, .c (.fad (encHi ops))), (5, .c (.ref 1 0 out.length)), (6, .c (.ref 0 0 ops.length)), (8, .c (cI i)), (9, .c (.ref 2 0 (frK ops d k).length)), (10, .c (cI k)), (11, .c (cB (okO ops d k)))], [(0, ⟨1, d.map encb⟩), (1, ⟨1, out.map enci⟩), (2, ⟨1, (frK ops d k).map encn⟩)], 3⟩) ?_ ?_
        · refine AW.st teOk [] (by simp [-Option.some.injEq] <;> rfl) trivial ?_
          refine AW.block (AW.loop (fun m s => ∃ q : Nat, m = ops.length - q ∧ q ≤ ops.length ∧ s = ⟨[(1, .c (encis l)), (2, .c (.fad (encHi ops))), (5, .c (.ref 1 0 out.length)), (6, .c (.ref 0 0 ops.length)), (8, .c (cI i)), (9, .c (.ref 2 0 (frK ops d k).length)), (10, .c (cI k)), (11, .c (cB (okQ ops d k q))), (12, .c (cI q))], [(0, ⟨1, d.map encb⟩), (1, ⟨1, out.map enci⟩), (2, ⟨1, (frK ops d k).map encn⟩)], 3⟩) _ (Weak.normS hA [1, 2, 5, 6, 8, 9, 10, 11, 12] [(5, 1), (6, 0), (9, 2)] [] [] 3 _ (by simp) (by simp) (by simp)) ⟨0, rfl, Nat.zero_le _, by simp [okQ]⟩ ?_)
          rintro m s ⟨q, rfl, hq, rfl⟩
          refine AW.seq ?_
          cases hJ : okQ ops d k q with
          | false =>
            refine AW.st teOk [] (by simp [hJ, -Option.some.injEq] <;> rfl) ?_ ?_
            · first | trivial | omega | (simp [allP, growOk] <;> omega)
            refine AW.iff false (by simp) (fun h => by cases h) (fun _ => AW.exit (x_then (x_then (blockA_exit ?_))))
            rw [okQ_no hJ hq]
            exact ⟨_, Weak.normS hA [1, 2, 5, 6, 8, 9, 10, 11] [(5, 1), (6, 0), (9, 2)] [] [] 3 _ (by simp) (by simp) (by simp), by simp⟩
          | true =>
          refine AW.st teOk [] (by simp [hJ, -Option.some.injEq] <;> rfl) ?_ ?_
          · first | trivial | omega | (simp [allP, growOk] <;> omega)
          refine AW.iff (decide (q < ops.length)) (by simp) (fun hqn => AW.skip ?_) (fun hqn => AW.exit (x_then (x_then (blockA_exit ?_))))
          · rw [decide_eq_true_eq] at hqn
            obtain ⟨x, hx⟩ : ∃ e, ops[q]? = some e := ⟨_, List.getElem?_eq_getElem hqn⟩
            have hdq := dn_at (d := d) (k := q) (by omega)
            have hpre := rprec_pure ops q k x y hx hy
            have hps := preS_nat hx hy
            have hnx := okQ_s ops d k q
            rw [hps, hJ, Bool.true_and] at hnx
            refine AW.mid (fun s => s = ⟨[(1, .c (encis l)), (2, .c (.fad (encHi ops))), (5, .c (.ref 1 0 out.length)), (6, .c (.ref 0 0 ops.length)), (8, .c (cI i)), (9, .c (.ref 2 0 (frK ops d k).length)), (10, .c (cI k)), (11, .c (cB (okQ ops d k (q + 1)))), (12, .c (cI q))], [(0, ⟨1, d.map encb⟩), (1, ⟨1, out.map enci⟩), (2, ⟨1, (frK ops d k).map encn⟩)], 3⟩) (AW.block ?_) ?_
            · rw [hnx]
              cases hdb : dnB d q with
              | true =>
                rw [hdb] at hdq
                refine AW.text teOk (ans := []) (by simp [hdq, -Option.some.injEq] <;> rfl) ?_ ?_
                · first | trivial | omega | (simp [allP, growOk] <;> omega)
                exact ⟨_, Weak.normS hA [1, 2, 5, 6, 8, 9, 10, 11, 12] [(5, 1), (6, 0), (9, 2)] [] [] 3 _ (by simp) (by simp) (by simp), by simp⟩
              | false =>
                rw [hdb] at hdq
                refine AW.text teOk (ans := [.fz (.c (cB (preB x y)))]) (by simp [hdq, -Option.some.injEq] <;> rfl) ?_ ?_
                · refine ⟨?_, hpre⟩
                  omega
                exact ⟨_, Weak.normS hA [1, 2, 5, 6, 8, 9, 10, 11, 12] [(5, 1), (6, 0), (9, 2)] [] [] 3 _ (by simp) (by simp) (by simp), by simp⟩
            rintro s rfl
            refine AW.text teOk (ans := []) (by simp [-Option.some.injEq] <;> rfl) ?_ ?_
            · trivial
            refine ⟨_, _, Weak.normS hA [1, 2, 5, 6, 8, 9, 10, 11, 12] [(5, 1), (6, 0), (9, 2)] [] [] 3 _ (by simp) (by simp) (by simp), ?_, q + 1, rfl, hqn, ?_⟩
            · omega
            · simp
              exact wrap_s q (by omega)
          · rw [decide_eq_false_iff_not] at hqn
            have : q = ops.length := by omega
            subst this
            rw [okQ_all] at hJ
            rw [hJ]
            exact ⟨_, Weak.normS hA [1, 2, 5, 6, 8, 9, 10, 11] [(5, 1), (6, 0), (9, 2)] [] [] 3 _ (by simp) (by simp) (by simp), by simp⟩
        rintro s rfl
        have hfs := frK_s ops d k
        refine AW.st teOk [] (by simp [-Option.some.injEq] <;> rfl) trivial ?_
        refine AW.iff (okO ops d k) (by simp) (fun g => ?_) (fun g => AW.skip ?_)
        · rw [hfs, if_pos g]
          refine AW.text teOk (ans := []) (by simp [-Option.some.injEq] <;> rfl) ?_ ?_
          · first | trivial | omega | (simp [allP, growOk] <;> omega)
          exact ⟨_, Weak.normS hA [1, 2, 5, 6, 8, 9, 10] [(5, 1), (6, 0), (9, 2)] [] [] 3 _ (by simp) (by simp) (by simp), by simp⟩
        · rw [hfs, if_neg (by simp [g])]
          exact ⟨_, Weak.normS hA [1, 2, 5, 6, 8, 9, 10] [(5, 1), (6, 0), (9, 2)] [] [] 3 _ (by simp) (by simp) (by simp), by simp⟩
      rintro s rfl
      refine AW.text teOk (ans := []) (by simp [-Option.some.injEq] <;> rfl) ?_ ?_
      · trivial
      refine ⟨_, _, Weak.normS hA [1, 2, 5, 6, 8, 9, 10] [(5, 1), (6, 0), (9, 2)] [] [] 3 _ (by simp) (by simp) (by simp), ?_, k + 1, rfl, h, ?_⟩
      · omega
      · simp
        exact wrap_s k (by omega)
    · rw [decide_eq_false_iff_not] at h
      have : k = ops.length := by omega
      subst this
      exact ⟨_, Weak.normS hA [1, 2, 5, 6, 8, 9] [(5, 1), (6, 0), (9, 2)] [] [] 3 _ (by simp) (by simp) (by simp), by simp [frK, frO]⟩
  rintro s rfl
  obtain ⟨F, hF⟩ : ∃ F, F = frO ops d := ⟨_, rfl⟩
  have hFl : F.length < 1000000 := by rw [hF]; exact Nat.lt_of_le_of_lt (List.length_filter_le _ _) (by simpa using hn)
  rw [← hF]
  by_cases hfr : F = []
  · have hRo : R = out := by
      rw [hR]
      cases m with
      | zero => rfl
      | succ m => rw [ordF, if_pos (hF ▸ hfr)]
    rw [hRo]
    refine AW.seq ?_
    refine AW.st teOk [] (by simp [-Option.some.injEq] <;> rfl) trivial ?_
    refine AW.iff true (by simp [hfr]) (fun _ => ?_) (fun h => by cases h)
    refine AW.st teOk [] (by simp [-Option.some.injEq] <;> rfl) trivial ?_
    refine AW.ret ⟨.inr rfl, _, Weak.freeze 1 ⟨1, out.map enci⟩ [] _ (by simp) (flat_enci _), ?_⟩
    simp
  · obtain ⟨hb, hp⟩ := pickO_mem (l := l) (i := i) hfr hFl
    obtain ⟨j, hj⟩ : ∃ j : Nat, indexI (atI l i) F.length = j := ⟨(indexI (atI l i) F.length).toNat, by omega⟩
    have hidx := index_pure (atI l i) F.length
    have hat := at00_pure l i hl
    rw [hj] at hb hp hidx
    rw [Int.toNat_natCast] at hp
    have hmem : pickO l i F ∈ frO ops d := by rw [← hF]; exact List.mem_of_getElem? hp
    have hpm := mem_frO.1 hmem
    have hct := cnt_set hpm.2.1
    obtain ⟨pk, hpk⟩ : ∃ pk, pk = pickO l i F := ⟨_, rfl⟩
    rw [← hpk] at hp hpm hct
    have hset : (d.map encb).set pk [cB true] = (d.set pk true).map encb := by rw [List.map_set]; rfl
    have hdp := dn_at (d := d) (k := pk) (by omega)
    obtain ⟨m', rfl⟩ : ∃ m', m = m' + 1 := ⟨m - 1, by omega⟩
    rw [ordF, if_neg (by rw [← hF]; exact hfr), ← hF, ← hpk] at hR
    refine AW.seq ?_
    refine AW.st teOk [] (by simp [-Option.some.injEq] <;> rfl) trivial ?_
    refine AW.iff false (by simp [hfr]) (fun h => by cases h) (fun _ => AW.skip ?_)
    refine AW.st teOk [.fz (.c (cI (atI l i))), .fz (.c (cI j))] (by simp [hp, -Option.some.injEq] <;> rfl) ?_ ?_
    · refine ⟨hat, hidx, ?_⟩
      omega
    refine AW.st teOk [] (by simp [hdp, -Option.some.injEq] <;> rfl) ?_ ?_
    · first | trivial | omega | (simp [allP, growOk] <;> omega)
    refine AW.text teOk (ans := []) (by simp [-Option.some.injEq] <;> rfl) ?_ ?_
    · first | trivial | omega | (simp [allP, growOk] <;> omega)
    refine AW.text teOk (ans := []) (by simp [-Option.some.injEq] <;> rfl) ?_ ?_
    · trivial
    refine ⟨_, _, Weak.normS hA [1, 2, 5, 6, 8] [(5, 1), (6, 0)] [] [] 2 _ (by simp) (by simp) (by simp; rw [hset]; exact flat_encb _), ?_, i + 1, d.set pk true, out ++ [(pk : Int)], by omega, by simp; omega, by omega, by rw [List.length_set]; exact hdl, hR, ?_⟩
    · omega
    · simp
      exact wrap_s i (by omega)
end Go.Proofs.YtphlhadgcfndhaaGreat.Abs
