/- Joined for the claim: WPq WPr WNwd WNaw WNnd WNsn -/
import Derived.Test.YtphlhadgcfndhaaGreatJd13
import Derived.Test.YtphlhadgcfndhaaGreatAbs25
import Derived.Test.YtphlhadgcfndhaaGreatJd11
import Derived.Test.YtphlhadgcfndhaaGreatJd8
section
namespace Go.Proofs.YtphlhadgcfndhaaGreat.Abs
open Go Go.RowKit
set_option linter.unusedVariables false
set_option linter.unusedSimpArgs false
set_option maxHeartbeats 4000000
set_option maxRecDepth 8000
theorem at00_pure (l : List Int) (i : Nat) (hl : l.length < 4000000000000000000) : Pure Tryz.prog 26 [.c (encis l), .c (cI i)] (.c (cI (atI l i))) := by
  unfold atI
  refine pure_of teOk Tryz.func26 (by kernel_rfl) (c := _) rfl (N := 15) rfl (rs := [Go.ResultVar.tmp 4]) rfl (by simp) fun base A w0 hA => ?_
  refine AW.st teOk [] (by simp [-Option.some.injEq] <;> rfl) trivial ?_
  refine AW.seq ?_
  refine AW.st teOk [] (by simp [-Option.some.injEq] <;> rfl) trivial ?_
  by_cases h0 : l.length = 0
  · refine AW.iff true (by simp [h0]) (fun _ => ?_) (fun h => by cases h)
    refine AW.st teOk [] (by simp [-Option.some.injEq] <;> rfl) trivial ?_
    refine AW.ret ⟨.inr rfl, _, Weak.refl _, ?_⟩
    rw [if_pos h0]
    simp
  · refine AW.iff false (by simp; intro e; exact h0 (by rw [e]; rfl)) (fun h => by cases h) (fun _ => AW.skip ?_)
    have hi := indexP_lt i (k := l.length) (by omega) (by omega)
    have hip := index_pure i l.length
    obtain ⟨j, hj⟩ : ∃ j : Nat, indexI i l.length = j := ⟨(indexI i l.length).toNat, by omega⟩
    rw [if_neg h0]
    rw [hj] at hip hi ⊢
    obtain ⟨x, hx⟩ : ∃ x, l[j]? = some x := ⟨_, List.getElem?_eq_getElem (by omega)⟩
    have hgd : l.getD j 0 = x := by rw [List.getD_eq_getElem?_getD, hx]; rfl
    rw [Int.toNat_natCast, hgd]
    refine AW.st teOk [.fz (.c (cI j))] (by simp [hx, -Option.some.injEq] <;> rfl) ?_ ?_
    · exact ⟨hip, by omega⟩
    refine AW.ret ⟨.inr rfl, _, Weak.refl _, ?_⟩
    simp
@[simp] def encb (b : Bool) : List Cell := [cB b]
@[simp] theorem flat_encb (l : List Bool) : flatO ⟨1, l.map encb⟩ = true := flatO_of fun e he => by
  obtain ⟨x, _, rfl⟩ := List.mem_map.1 he
  rfl
@[simp] def encn (k : Nat) : List Cell := [cI k]
@[simp] theorem flat_encn (l : List Nat) : flatO ⟨1, l.map encn⟩ = true := flatO_of fun e he => by
  obtain ⟨x, _, rfl⟩ := List.mem_map.1 he
  rfl
def frK (ops : List OpS) (d : List Bool) (k : Nat) : List Nat := (List.range k).filter (okO ops d)
theorem frK_s (ops : List OpS) (d : List Bool) (k : Nat) : frK ops d (k + 1) = if okO ops d k = true then frK ops d k ++ [k] else frK ops d k := by
  unfold frK
  rw [List.range_succ, List.filter_append]
  split
  · rename_i h; simp [h]
  · rename_i h; simp [h]
def okQ (ops : List OpS) (d : List Bool) (k q : Nat) : Bool := !dnB d k && (List.range q).all fun q => dnB d q || !preS ops q k
theorem okQ_s (ops : List OpS) (d : List Bool) (k q : Nat) : okQ ops d k (q + 1) = (okQ ops d k q && (dnB d q || !preS ops q k)) := by
  unfold okQ
  rw [List.range_succ, List.all_append]
  simp [Bool.and_assoc]
theorem okQ_no {ops : List OpS} {d : List Bool} {k q : Nat} (h : okQ ops d k q = false) (hq : q ≤ ops.length) : okO ops d k = false := by
  cases hb : okO ops d k with
  | false => rfl
  | true =>
    unfold okO at hb
    unfold okQ at h
    rw [Bool.and_eq_true, List.all_eq_true] at hb
    rw [hb.1, Bool.true_and, List.all_eq_false] at h
    obtain ⟨x, hx, hn⟩ := h
    exact absurd (hb.2 x (List.mem_range.2 (by have := List.mem_range.1 hx; omega))) hn
theorem okQ_all (ops : List OpS) (d : List Bool) (k : Nat) : okQ ops d k ops.length = okO ops d k := rfl
theorem dn_at {d : List Bool} {k : Nat} (h : k < d.length) : d[k]? = some (dnB d k) := by
  unfold dnB
  rw [List.getD_eq_getElem?_getD, List.getElem?_eq_getElem h]
  rfl
abbrev ordSt (ops : List OpS) (l : List Int) (i : Nat) (d : List Bool) (out : List Int) : St := ⟨[(1, .c (encis l)), (2, .c (.fad (encHi ops))), (5, .c (.ref 1 0 out.length)), (6, .c (.ref 0 0 ops.length)), (8, .c (cI i))], [(0, ⟨1, d.map encb⟩), (1, ⟨1, out.map enci⟩)], 2⟩
theorem order_new (ops : List OpS) (l : List Int) (hn : ops.length < 1000000) (hl : l.length < 4000000000000000000) : New Tryz.prog 13 [.agg (encHi ops), .c (encis l)] (.c (.ref 0 0 (orderS ops l).length)) [(0, ⟨1, (orderS ops l).map enci⟩)] 1 := by
  refine new_of teOk Tryz.func13 (by kernel_rfl) (c := _) rfl (N := 111) rfl (rs := [Go.ResultVar.tmp 4]) rfl (by simp) fun base A w0 hA => ?_
  refine AW.st teOk [] (by simp [-Option.some.injEq] <;> rfl) trivial ?_
  refine AW.to (s2 := ⟨[(1, .c (encis l)), (2, .c (.fad (encHi ops)))], [], 0⟩) ((Weak.freeze 0 ⟨1, [encHi ops]⟩ [] _ (by simp) (flatOpsR ops)).trans (Weak.normT hA [1, 2] [] [] 0 _ (by simp) (by simp) (by simp [mapAt_nil]))) (by simp [mapAt_nil]) ?_
  refine AW.st teOk [] (by simp [-Option.some.injEq] <;> rfl) trivial ?_
  refine AW.st teOk [] (by simp [-Option.some.injEq] <;> rfl) ?_ ?_
  · first | trivial | omega | (simp [allP, growOk] <;> omega)
  have hlen0 : (List.replicate ops.length false).length = ops.length := by simp
  have hd0 : (List.replicate ops.length false).map encb = List.replicate ops.length [cB false] := by simp
  refine AW.mid (fun s => s = ⟨[(1, .c (encis l)), (2, .c (.fad (encHi ops))), (5, .c (.sc (.slice none 0 0))), (6, .c (.ref 0 0 ops.length))], [(0, ⟨1, (doneF ops l ops.length).map encb⟩)], 1⟩) ?_ ?_
  · refine AW.st teOk [] (by simp [-Option.some.injEq] <;> rfl) trivial ?_
    refine AW.block (AW.loop (fun m s => ∃ i : Nat, m = ops.length - i ∧ i ≤ ops.length ∧ s = ⟨[(1, .c (encis l)), (2, .c (.fad (encHi ops))), (5, .c (.sc (.slice none 0 0))), (6, .c (.ref 0 0 ops.length)), (7, .c (cI i))], [(0, ⟨1, (doneF ops l i).map encb⟩)], 1⟩) _ (Weak.normT hA [1, 2, 5, 6, 7] [(6, 0)] [] 1 _ (by simp) (by simp) (by simp; rw [← hd0]; exact flat_encb _)) ⟨0, rfl, Nat.zero_le _, by simp [doneF]⟩ ?_)
    rintro m s ⟨i, rfl, hi, rfl⟩
    have hlen := doneF_len ops l i
    refine AW.seq ?_
    refine AW.st teOk [] (by simp [-Option.some.injEq] <;> rfl) trivial ?_
    refine AW.iff (decide (i < ops.length)) (by simp) (fun h => AW.skip ?_) (fun h => AW.exit (x_then (x_then (blockA_exit ?_))))
    · rw [decide_eq_true_eq] at h
      obtain ⟨o, hx⟩ : ∃ e, ops[i]? = some e := ⟨_, List.getElem?_eq_getElem h⟩
      have hnx : doneF ops l (i + 1) = if skipB l o i = true then (doneF ops l i).set i true else doneF ops l i := by rw [doneF, hx]
      have hat := at00_pure l i hl
      have hdg := dP (atI l i) 3 5 (by decide) (by decide)
      refine AW.mid (fun s => s = ⟨[(1, .c (encis l)), (2, .c (.fad (encHi ops))), (5, .c (.sc (.slice none 0 0))), (6, .c (.ref 0 0 ops.length)), (7, .c (cI i))], [(0, ⟨1, (doneF ops l (i + 1)).map encb⟩)], 1⟩) (AW.block ?_) ?_
      · generalize doneF ops l (i + 1) = D1 at *
        generalize doneF ops l i = D at *
        have yes : skipB l o i = true → D1 = D.set i true := fun h => by rw [hnx, if_pos h]
        have no : skipB l o i = false → D1 = D := fun h => by rw [hnx, h, if_neg (by simp)]
        obtain ⟨bb, hbb⟩ : ∃ b, D[i]? = some b := ⟨_, List.getElem?_eq_getElem (by omega)⟩
        have hset : flatO ⟨1, (D.map encb).set i [cB true]⟩ = true := by
          have : (D.map encb).set i [cB true] = (D.set i true).map encb := by rw [List.map_set]; rfl
          rw [this]; exact flat_encb _
        have hsm : (D.map encb).set i [cB true] = (D.set i true).map encb := by rw [List.map_set]; rfl
        cases hr : o.ret == 0 with
        | false =>
          rw [no (by simp [skipB, hr])]
          refine AW.st teOk [] (by simp [hx, hr, -Option.some.injEq] <;> rfl) ?_ ?_
          · first | trivial | omega | (simp [allP, growOk] <;> omega)
          refine AW.iff false (by simp) (fun h => by cases h) (fun _ => AW.skip ?_)
          exact ⟨_, Weak.normT hA [1, 2, 5, 6, 7] [(6, 0)] [] 1 _ (by simp) (by simp) (by simp), by simp⟩
        | true =>
        cases hk : o.kind != 1 with
        | true =>
          rw [yes (by simp [skipB, hr, hk])]
          refine AW.st teOk [] (by simp [hx, hr, hk, -Option.some.injEq] <;> rfl) ?_ ?_
          · first | trivial | omega | (simp [allP, growOk] <;> omega)
          refine AW.iff true (by simp) (fun _ => ?_) (fun h => by cases h)
          refine AW.text teOk (ans := []) (by simp [hbb, -Option.some.injEq] <;> rfl) ?_ ?_
          · first | trivial | omega | (simp [allP, growOk] <;> omega)
          exact ⟨_, Weak.normT hA [1, 2, 5, 6, 7] [(6, 0)] [] 1 _ (by simp) (by simp) (by simp; exact hset), by simp⟩
        | false =>
        cases hg : digitI (atI l i) 3 5 == 0 with
        | true =>
          rw [yes (by simp [skipB, hr, hk, hg])]
          refine AW.st teOk [.fz (.c (cI (atI l i))), .fz (.c (cI (digitI (atI l i) 3 5)))] (by simp [hx, hr, hk, hg, -Option.some.injEq] <;> rfl) ?_ ?_
          · first | exact ⟨h, hat, hdg⟩ | exact ⟨h, h, hat, hdg⟩ | (refine ⟨?_, hat, hdg⟩; omega)
          refine AW.iff true (by simp) (fun _ => ?_) (fun h => by cases h)
          refine AW.text teOk (ans := []) (by simp [hbb, -Option.some.injEq] <;> rfl) ?_ ?_
          · first | trivial | omega | (simp [allP, growOk] <;> omega)
          exact ⟨_, Weak.normT hA [1, 2, 5, 6, 7] [(6, 0)] [] 1 _ (by simp) (by simp) (by simp; exact hset), by simp⟩
        | false =>
          rw [no (by simp [skipB, hr, hk, hg])]
          refine AW.st teOk [.fz (.c (cI (atI l i))), .fz (.c (cI (digitI (atI l i) 3 5)))] (by simp [hx, hr, hk, hg, -Option.some.injEq] <;> rfl) ?_ ?_
          · first | exact ⟨h, hat, hdg⟩ | exact ⟨h, h, hat, hdg⟩ | (refine ⟨?_, hat, hdg⟩; omega)
          refine AW.iff false (by simp) (fun h => by cases h) (fun _ => AW.skip ?_)
          exact ⟨_, Weak.normT hA [1, 2, 5, 6, 7] [(6, 0)] [] 1 _ (by simp) (by simp) (by simp), by simp⟩
      rintro s rfl
      refine AW.text teOk (ans := []) (by simp [-Option.some.injEq] <;> rfl) ?_ ?_
      · trivial
      refine ⟨_, _, Weak.normT hA [1, 2, 5, 6, 7] [(6, 0)] [] 1 _ (by simp) (by simp) (by simp), ?_, i + 1, rfl, h, ?_⟩
      · omega
      · simp
        exact wrap_s i (by omega)
    · rw [decide_eq_false_iff_not] at h
      have : i = ops.length := by omega
      subst this
      exact ⟨_, Weak.normT hA [1, 2, 5, 6] [(6, 0)] [] 1 _ (by simp) (by simp) (by simp), by simp⟩
  rintro s rfl
  have hR : orderS ops l = ordF ops l ops.length 0 (doneF ops l ops.length) [] := rfl
  have hc0 : (doneF ops l ops.length).count false ≤ ops.length := by have := count_le (doneF ops l ops.length); rw [doneF_len] at this; exact this
  have hlD := doneF_len ops l ops.length
  generalize doneF ops l ops.length = D0 at *
  generalize orderS ops l = R at *
  refine AW.weak (Weak.nil 5 1 _ (by simp <;> rfl)) ?_
  refine AW.st teOk [] (by simp [-Option.some.injEq] <;> rfl) trivial ?_
  refine AW.block (AW.loop (fun m s => ∃ (i : Nat) (d : List Bool) (out : List Int), i + m = ops.length ∧ out.length ≤ i ∧ d.count false ≤ m ∧ d.length = ops.length ∧ R = ordF ops l m i d out ∧ s = ordSt ops l i d out) _ (Weak.normS hA [1, 2, 5, 6, 8] [(5, 1), (6, 0)] [] [] 2 _ (by simp) (by simp) (by simp)) ⟨0, D0, [], by omega, Nat.le_refl _, hc0, hlD, hR, by simp⟩ ?_)
  rintro m s ⟨i, d, out, him, ho, hc, hdl, hR, rfl⟩
  refine AW.seq (AW.block ?_)
  refine AW.st teOk [] (by simp [-Option.some.injEq] <;> rfl) trivial ?_
  refine AW.weak (Weak.nil 9 1 _ (by simp <;> rfl)) ?_
  refine AW.mid (fun s => s = ⟨[(1, .c (encis l)), (2, .c (.fad (encHi ops))), (5, .c (.ref 1 0 out.length)), (6, .c (.ref 0 0 ops.length)), (8, .c (cI i)), (9, .c (.ref 2 0 (frO ops d).length))], [(0, ⟨1, d.map encb⟩), (1, ⟨1, out.map enci⟩), (2, ⟨1, (frO ops d).map encn⟩)], 3⟩) ?_ ?_
  · refine AW.st teOk [] (by simp [-Option.some.injEq] <;> rfl) trivial ?_
    refine AW.block (AW.loop (fun m s => ∃ k : Nat, m = ops.length - k ∧ k ≤ ops.length ∧ s = ⟨[(1, .c (encis l)), (2, .c (.fad (encHi ops))), (5, .c (.ref 1 0 out.length)), (6, .c (.ref 0 0 ops.length)), (8, .c (cI i)), (9, .c (.ref 2 0 (frK ops d k).length)), (10, .c (cI k))], [(0, ⟨1, d.map encb⟩), (1, ⟨1, out.map enci⟩), (2, ⟨1, (frK ops d k).map encn⟩)], 3⟩) _ (Weak.normS hA [1, 2, 5, 6, 8, 9, 10] [(5, 1), (6, 0), (9, 2)] [] [] 3 _ (by simp) (by simp) (by simp)) ⟨0, rfl, Nat.zero_le _, by simp [frK]⟩ ?_)
    rintro m s ⟨k, rfl, hk, rfl⟩
    refine AW.seq ?_
    refine AW.st teOk [] (by simp [-Option.some.injEq] <;> rfl) trivial ?_
    refine AW.iff (decide (k < ops.length)) (by simp) (fun h => AW.skip ?_) (fun h => AW.exit (x_then (x_then (blockA_exit ?_))))
    · rw [decide_eq_true_eq] at h
      obtain ⟨y, hy⟩ : ∃ e, ops[k]? = some e := ⟨_, List.getElem?_eq_getElem h⟩
      have hdk := dn_at (d := d) (k := k) (by omega)
      have hfl : (frK ops d k).length ≤ k := Nat.le_trans (List.length_filter_le _ _) (by simp)
      refine AW.mid (fun s => s = ⟨[(1, .c (encis l)), (2, .c (.fad (encHi ops))), (5, .c (.ref 1 0 out.length)), (6, .c (.ref 0 0 ops.length)), (8, .c (cI i)), (9, .c (.ref 2 0 (frK ops d (k + 1)).length)), (10, .c (cI k))], [(0, ⟨1, d.map encb⟩), (1, ⟨1, out.map enci⟩), (2, ⟨1, (frK ops d (k + 1)).map encn⟩)], 3⟩) (AW.block ?_) ?_
      · refine AW.st teOk [] (by simp [hdk, -Option.some.injEq] <;> rfl) ?_ ?_
        · first | trivial | omega | (simp [allP, growOk] <;> omega)
        refine AW.mid (fun s => s = ⟨[(1, .c (encis l)), (2, .c (.fad (encHi ops))), (5, .c (.ref 1 0 out.length)), (6, .c (.ref 0 0 ops.length)), (8, .c (cI i)), (9, .c (.ref 2 0 (frK ops d k).length)), (10, .c (cI k)), (11, .c (cB (okO ops d k)))], [(0, ⟨1, d.map encb⟩), (1, ⟨1, out.map enci⟩), (2, ⟨1, (frK ops d k).map encn⟩)], 3⟩) ?_ ?_
        · refine AW.st teOk [] (by simp [-Option.some.injEq] <;> rfl) trivial ?_
          refine AW.block (AW.loop (fun m s => ∃ q : Nat, m = ops.length - q ∧ q ≤ ops.length ∧ s = ⟨[(1, .c (encis l)), (2, .c (.fad (encHi ops))), (5, .c (.ref 1 0 out.length)), (6, .c (.ref 0 0 ops.length)), (8, .c (cI i)), (9, .c (.ref 2 0 (frK ops d k).length)), (10, .c (cI k)), (11, .c (cB (okQ ops d k q))), (12, .c (cI q))], [(0, ⟨1, d.map encb⟩), (1, ⟨1, out.map enci⟩), (2, ⟨1, (frK ops d k).map encn⟩)], 3⟩) _ (Weak.normS hA [1, 2, 5, 6, 8, 9, 10, 11, 12] [(5, 1), (6, 0), (9, 2)] [] [] 3 _ (by simp) (by simp) (by simp)) ⟨0, rfl, Nat.zero_le _, by simp [okQ]⟩ ?_)
          rintro m s ⟨q, rfl, hq, rfl⟩
          refine AW.seq ?_
          cases hJ : okQ ops d k q with
          | false =>
            refine AW.st teOk [] (by simp [hJ, -Option.some.injEq] <;> rfl) ?_ ?_
            · first | trivial | omega | (simp [allP, growOk] <;> omega)
            refine AW.iff false (by simp) (fun h => by cases h) (fun _ => AW.exit (x_then (x_then (blockA_exit ?_))))
            rw [okQ_no hJ hq]
            exact ⟨_, Weak.normS hA [1, 2, 5, 6, 8, 9, 10, 11] [(5, 1), (6, 0), (9, 2)] [] [] 3 _ (by simp) (by simp) (by simp), by simp⟩
          | true =>
          refine AW.st teOk [] (by simp [hJ, -Option.some.injEq] <;> rfl) ?_ ?_
          · first | trivial | omega | (simp [allP, growOk] <;> omega)
          refine AW.iff (decide (q < ops.length)) (by simp) (fun hqn => AW.skip ?_) (fun hqn => AW.exit (x_then (x_then (blockA_exit ?_))))
          · rw [decide_eq_true_eq] at hqn
            obtain ⟨x, hx⟩ : ∃ e, ops[q]? = some e := ⟨_, List.getElem?_eq_getElem hqn⟩
            have hdq := dn_at (d := d) (k := q) (by omega)
            have hpre := rprec_pure ops q k x y hx hy
            have hps := preS_nat hx hy
            have hnx := okQ_s ops d k q
            rw [hps, hJ, Bool.true_and] at hnx
            refine AW.mid (fun s => s = ⟨[(1, .c (encis l)), (2, .c (.fad (encHi ops))), (5, .c (.ref 1 0 out.length)), (6, .c (.ref 0 0 ops.length)), (8, .c (cI i)), (9, .c (.ref 2 0 (frK ops d k).length)), (10, .c (cI k)), (11, .c (cB (okQ ops d k (q + 1)))), (12, .c (cI q))], [(0, ⟨1, d.map encb⟩), (1, ⟨1, out.map enci⟩), (2, ⟨1, (frK ops d k).map encn⟩)], 3⟩) (AW.block ?_) ?_
            · rw [hnx]
              cases hdb : dnB d q with
              | true =>
                rw [hdb] at hdq
                refine AW.text teOk (ans := []) (by simp [hdq, -Option.some.injEq] <;> rfl) ?_ ?_
                · first | trivial | omega | (simp [allP, growOk] <;> omega)
                exact ⟨_, Weak.normS hA [1, 2, 5, 6, 8, 9, 10, 11, 12] [(5, 1), (6, 0), (9, 2)] [] [] 3 _ (by simp) (by simp) (by simp), by simp⟩
              | false =>
                rw [hdb] at hdq
                refine AW.text teOk (ans := [.fz (.c (cB (preB x y)))]) (by simp [hdq, -Option.some.injEq] <;> rfl) ?_ ?_
                · refine ⟨?_, hpre⟩
                  omega
                exact ⟨_, Weak.normS hA [1, 2, 5, 6, 8, 9, 10, 11, 12] [(5, 1), (6, 0), (9, 2)] [] [] 3 _ (by simp) (by simp) (by simp), by simp⟩
            rintro s rfl
            refine AW.text teOk (ans := []) (by simp [-Option.some.injEq] <;> rfl) ?_ ?_
            · trivial
            refine ⟨_, _, Weak.normS hA [1, 2, 5, 6, 8, 9, 10, 11, 12] [(5, 1), (6, 0), (9, 2)] [] [] 3 _ (by simp) (by simp) (by simp), ?_, q + 1, rfl, hqn, ?_⟩
            · omega
            · simp
              exact wrap_s q (by omega)
          · rw [decide_eq_false_iff_not] at hqn
            have : q = ops.length := by omega
            subst this
            rw [okQ_all] at hJ
            rw [hJ]
            exact ⟨_, Weak.normS hA [1, 2, 5, 6, 8, 9, 10, 11] [(5, 1), (6, 0), (9, 2)] [] [] 3 _ (by simp) (by simp) (by simp), by simp⟩
        rintro s rfl
        have hfs := frK_s ops d k
        refine AW.st teOk [] (by simp [-Option.some.injEq] <;> rfl) trivial ?_
        refine AW.iff (okO ops d k) (by simp) (fun g => ?_) (fun g => AW.skip ?_)
        · rw [hfs, if_pos g]
          refine AW.text teOk (ans := []) (by simp [-Option.some.injEq] <;> rfl) ?_ ?_
          · first | trivial | omega | (simp [allP, growOk] <;> omega)
          exact ⟨_, Weak.normS hA [1, 2, 5, 6, 8, 9, 10] [(5, 1), (6, 0), (9, 2)] [] [] 3 _ (by simp) (by simp) (by simp), by simp⟩
        · rw [hfs, if_neg (by simp [g])]
          exact ⟨_, Weak.normS hA [1, 2, 5, 6, 8, 9, 10] [(5, 1), (6, 0), (9, 2)] [] [] 3 _ (by simp) (by simp) (by simp), by simp⟩
      rintro s rfl
      refine AW.text teOk (ans := []) (by simp [-Option.some.injEq] <;> rfl) ?_ ?_
      · trivial
      refine ⟨_, _, Weak.normS hA [1, 2, 5, 6, 8, 9, 10] [(5, 1), (6, 0), (9, 2)] [] [] 3 _ (by simp) (by simp) (by simp), ?_, k + 1, rfl, h, ?_⟩
      · omega
      · simp
        exact wrap_s k (by omega)
    · rw [decide_eq_false_iff_not] at h
      have : k = ops.length := by omega
      subst this
      exact ⟨_, Weak.normS hA [1, 2, 5, 6, 8, 9] [(5, 1), (6, 0), (9, 2)] [] [] 3 _ (by simp) (by simp) (by simp), by simp [frK, frO]⟩
  rintro s rfl
  obtain ⟨F, hF⟩ : ∃ F, F = frO ops d := ⟨_, rfl⟩
  have hFl : F.length < 1000000 := by rw [hF]; exact Nat.lt_of_le_of_lt (List.length_filter_le _ _) (by simpa using hn)
  rw [← hF]
  by_cases hfr : F = []
  · have hRo : R = out := by
      rw [hR]
      cases m with
      | zero => rfl
      | succ m => rw [ordF, if_pos (hF ▸ hfr)]
    rw [hRo]
    refine AW.seq ?_
    refine AW.st teOk [] (by simp [-Option.some.injEq] <;> rfl) trivial ?_
    refine AW.iff true (by simp [hfr]) (fun _ => ?_) (fun h => by cases h)
    refine AW.st teOk [] (by simp [-Option.some.injEq] <;> rfl) trivial ?_
    refine AW.ret ⟨.inr rfl, _, Weak.normS hA [4] [(4, 0)] [] [] 1 _ (by simp) (by simp) (by simp), ?_⟩
    simp
  · obtain ⟨hb, hp⟩ := pickO_mem (l := l) (i := i) hfr hFl
    obtain ⟨j, hj⟩ : ∃ j : Nat, indexI (atI l i) F.length = j := ⟨(indexI (atI l i) F.length).toNat, by omega⟩
    have hidx := index_pure (atI l i) F.length
    have hat := at00_pure l i hl
    rw [hj] at hb hp hidx
    rw [Int.toNat_natCast] at hp
    have hmem : pickO l i F ∈ frO ops d := by rw [← hF]; exact List.mem_of_getElem? hp
    have hpm := mem_frO.1 hmem
    have hct := cnt_set hpm.2.1
    obtain ⟨pk, hpk⟩ : ∃ pk, pk = pickO l i F := ⟨_, rfl⟩
    rw [← hpk] at hp hpm hct
    have hset : (d.map encb).set pk [cB true] = (d.set pk true).map encb := by rw [List.map_set]; rfl
    have hdp := dn_at (d := d) (k := pk) (by omega)
    obtain ⟨m', rfl⟩ : ∃ m', m = m' + 1 := ⟨m - 1, by omega⟩
    rw [ordF, if_neg (by rw [← hF]; exact hfr), ← hF, ← hpk] at hR
    refine AW.seq ?_
    refine AW.st teOk [] (by simp [-Option.some.injEq] <;> rfl) trivial ?_
    refine AW.iff false (by simp [hfr]) (fun h => by cases h) (fun _ => AW.skip ?_)
    refine AW.st teOk [.fz (.c (cI (atI l i))), .fz (.c (cI j))] (by simp [hp, -Option.some.injEq] <;> rfl) ?_ ?_
    · refine ⟨hat, hidx, ?_⟩
      omega
    refine AW.st teOk [] (by simp [hdp, -Option.some.injEq] <;> rfl) ?_ ?_
    · first | trivial | omega | (simp [allP, growOk] <;> omega)
    refine AW.text teOk (ans := []) (by simp [-Option.some.injEq] <;> rfl) ?_ ?_
    · first | trivial | omega | (simp [allP, growOk] <;> omega)
    refine AW.text teOk (ans := []) (by simp [-Option.some.injEq] <;> rfl) ?_ ?_
    · trivial
    refine ⟨_, _, Weak.normS hA [1, 2, 5, 6, 8] [(5, 1), (6, 0)] [] [] 2 _ (by simp) (by simp) (by simp; rw [hset]; exact flat_encb _), ?_, i + 1, d.set pk true, out ++ [(pk : Int)], by omega, by simp; omega, by omega, by rw [List.length_set]; exact hdl, hR, ?_⟩
    · omega
    · simp
      exact wrap_s i (by omega)
theorem order_pure (ops : List OpS) (l : List Int) (hn : ops.length < 1000000) (hl : l.length < 4000000000000000000) : Pure Tryz.prog 13 [.agg (encHi ops), .c (encis l)] (.c (encis (orderS ops l))) :=
  (order_new ops l hn hl).frz ⟨[(0, .c (encis (orderS ops l)))], [], 1⟩ (fun A => by
    have h := Weak.freeze (A := A) 0 ⟨1, (orderS ops l).map enci⟩ [] ⟨[(0, .c (.ref 0 0 (orderS ops l).length))], [(0, ⟨1, (orderS ops l).map enci⟩)], 1⟩ (by simp) (flat_enci _)
    simpa using h) rfl rfl
end Go.Proofs.YtphlhadgcfndhaaGreat.Abs
end
section
namespace Go.Proofs.YtphlhadgcfndhaaGreat.Abs
open Go Go.RowKit
set_option linter.unusedVariables false
set_option linter.unusedSimpArgs false
set_option maxHeartbeats 4000000
set_option maxRecDepth 8000
def shortS (l : List Int) (n : Nat) : List OpS := (timesS l (min 40 l.length)).take n
theorem shortS_ok (l : List Int) (n : Nat) : KiOk (shortS l n) ∧ EfOk (shortS l n) ∧ (shortS l n).length ≤ n ∧ (shortS l n).length ≤ 40 ∧ VT 40 (shortS l n) := by
  obtain ⟨h1, h2, h3⟩ := timesS_ok l (min 40 l.length)
  have hv := timesS_vt l (min 40 l.length)
  refine ⟨fun o ho => h1 o (List.mem_of_mem_take ho), fun o ho => h2 o (List.mem_of_mem_take ho), ?_, ?_, ?_⟩
  · simp only [shortS, List.length_take]; omega
  · simp only [shortS, List.length_take]; omega
  · have := hv.take n
    exact ⟨this.asc, fun o ho => by have := this.el o ho; omega⟩
theorem fill_ki (ops : List OpS) (l : List Int) (h : KiOk ops) : KiOk (fillS ops [] l) := fun o ho => by
  have hm : fld o ∈ (fillS ops [] l).map fld := List.mem_map.2 ⟨o, ho, rfl⟩
  rw [fill_fld] at hm
  obtain ⟨q, hq, e⟩ := List.mem_map.1 hm
  have := h q hq
  have e1 : q.kind = o.kind := show (fld q).kind = (fld o).kind from by rw [e]
  rw [← e1]; exact this
theorem fill_ef (ops : List OpS) (l : List Int) (h : EfOk ops) : EfOk (fillS ops [] l) := fun o ho => by
  have hm : fld o ∈ (fillS ops [] l).map fld := List.mem_map.2 ⟨o, ho, rfl⟩
  rw [fill_fld] at hm
  obtain ⟨q, hq, e⟩ := List.mem_map.1 hm
  have := h q hq
  have e1 : q.ef = o.ef := show (fld q).ef = (fld o).ef from by rw [e]
  rw [← e1]; exact this
theorem fill_len (ops : List OpS) (l : List Int) : (fillS ops [] l).length = ops.length := by
  have := congrArg List.length (fill_fld l ops [])
  simpa using this
theorem fill_vt {N : Int} (ops : List OpS) (l : List Int) (h : VT N ops) : VT N (fillS ops [] l) := by
  have hf := fill_fld l ops []
  refine ⟨?_, fun o ho => ?_⟩
  · have := congrArg (List.map fun o : OpS => o.call) hf
    rw [List.map_map, List.map_map] at this
    have e : ((fun o : OpS => o.call) ∘ fld) = fun o : OpS => o.call := rfl
    rw [e] at this
    rw [this]
    exact h.asc
  · have hm : fld o ∈ (fillS ops [] l).map fld := List.mem_map.2 ⟨o, ho, rfl⟩
    rw [hf] at hm
    obtain ⟨q, hq, e⟩ := List.mem_map.1 hm
    have := h.el q hq
    have e1 : q.call = o.call := show (fld q).call = (fld o).call from by rw [e]
    have e2 : q.ret = o.ret := show (fld q).ret = (fld o).ret from by rw [e]
    rw [← e1, ← e2]; exact this
theorem short_pure (l ch : List Int) (n : Nat) (hl : l.length < 4000000000000000000) (hc : ch.length < 4000000000000000000) (hn : n < 1000) : Pure Tryz.prog 9 [.c (encis l), .c (encis ch), .c (cI n)] (.tup [.agg (encHi (shortS l n)), .c (encis (orderS (shortS l n) ch))]) := by
  refine pure_of teOk Tryz.func9 (by kernel_rfl) (c := _) rfl (N := 24) rfl (rs := [Go.ResultVar.cell 6 26, Go.ResultVar.tmp 7]) rfl (by simp) fun base A w0 hA => ?_
  have ht := times_pure l hl
  have hT := (timesS_ok l (min 40 l.length)).2.2
  have hS : shortS l n = (timesS l (min 40 l.length)).take n := rfl
  have hok := shortS_ok l n
  have hor := order_pure (shortS l n) ch (by omega) hc
  generalize timesS l (min 40 l.length) = T at *
  generalize shortS l n = S at *
  refine AW.st teOk [] (by simp [-Option.some.injEq] <;> rfl) trivial ?_
  refine AW.st teOk [.fz (.agg (encHi T))] (by simp [-Option.some.injEq] <;> rfl) ?_ ?_
  · exact ht
  refine AW.st teOk [] (by simp [-Option.some.injEq] <;> rfl) ?_ ?_
  · split <;> omega
  have he : List.take (if T.length < n then (T.length : Int) else (n : Int)).toNat (T.map encOp) = S.map encOp := by
    rw [hS, List.map_take]
    split
    · rw [List.take_of_length_le (by simp), List.take_of_length_le (by simp; omega)]
    · rw [Int.toNat_natCast]
  refine AW.to (s2 := ⟨[(1, .c (encis ch)), (6, .c (.ptr 0 0 0)), (8, .c (.ptr 1 0 0))], [(0, ⟨1, [[.sc (.slice none 0 0)]]⟩), (1, ⟨1, [[encOps S]]⟩)], 2⟩) (Weak.normS hA [1, 6, 8] [(6, 0), (8, 1)] [] [] 2 _ (by simp) (by simp) (by simp)) (by simp; exact he) ?_
  refine AW.dr mixed teOk [.c (encis (orderS S ch))] (by simp [-Option.some.injEq] <;> rfl) (by kernel_rfl) (by kernel_rfl) ?_ ?_
  · simp [allP]
    exact hor
  refine AW.ret ⟨.inr rfl, _, Weak.refl _, ?_⟩
  simp
end Go.Proofs.YtphlhadgcfndhaaGreat.Abs
end
section
namespace Go.Proofs.YtphlhadgcfndhaaGreat.Abs
open Go Go.RowKit
set_option linter.unusedVariables false
set_option linter.unusedSimpArgs false
set_option maxHeartbeats 4000000
set_option maxRecDepth 4000
theorem RA.weak {P : Program} {base : Nat} {A : Old} {w0 : World} {n : Nat} {ops : Array Oper} {k : Nat} {s s1 s' : St} {Q : Exit → St → Prop} (h : Weak A s s1) (e : s1 = s') (hc : RA P base A w0 n ops k s' Q) : RA P base A w0 n ops k s Q := fun β a w I => by
  subst e
  obtain ⟨β', I'⟩ := h base w0 n β a w I
  exact hc β' a w I'
theorem wit1_pure (e : EfS) : Pure Tryz.prog 18 [.c (.row 9 false [evC e])] (.tup [.c (.row 1 false [[cI 0]]), .c (cI 0)]) := by
  refine pure_of teOk Tryz.func18 (by kernel_rfl) (c := _) rfl (N := 121) rfl (rs := [Go.ResultVar.tmp 2, Go.ResultVar.tmp 3]) rfl (by simp) fun base A w0 hA => ?_
  refine AW.st teOk [] (by simp [-Option.some.injEq] <;> rfl) trivial ?_
  refine AW.st teOk [.fz (.tup [.c nilC, .c (cB true)])] (by simp [-Option.some.injEq] <;> rfl) ?_ ?_
  · exact chain1_pure e
  refine AW.seq ?_
  refine AW.st teOk [] (by simp [-Option.some.injEq] <;> rfl) trivial ?_
  refine AW.iff false (by simp) (fun h => by cases h) (fun _ => AW.skip ?_)
  refine AW.st teOk [] (by simp [-Option.some.injEq] <;> rfl) ?_ ?_
  · simp
  refine AW.seq ?_
  refine AW.st teOk [] (by simp [-Option.some.injEq] <;> rfl) trivial ?_
  refine AW.block (AW.loop1 (fun s => s = ⟨[(0, .c (.row 9 false [evC e])), (2, .c nilC), (3, .c (cI 0)), (4, .c nilC), (6, .c (.ref 0 0 1)), (28, .c (cI 1)), (29, .c (cI 1))], [(0, ⟨1, [[.ref 1 0 1]]⟩), (1, ⟨1, [[cI 0]]⟩)], 2⟩) ?_ ?_)
  · refine AW.st teOk [] (by simp [-Option.some.injEq] <;> rfl) trivial ?_
    refine AW.seq ?_
    refine AW.iff true (by simp) (fun _ => AW.skip ?_) (fun h => by cases h)
    refine AW.seq (AW.block ?_)
    refine AW.st teOk [] (by simp [-Option.some.injEq] <;> rfl) trivial ?_
    refine AW.st teOk [] (by simp [-Option.some.injEq] <;> rfl) trivial ?_
    refine AW.iff true (by simp) (fun _ => ?_) (fun h => by cases h)
    refine AW.st teOk [.fz (.c (cI 0))] (by simp [-Option.some.injEq] <;> rfl) ?_ ?_
    · exact block0_pure e
    refine AW.text teOk (ans := []) (by simp [-Option.some.injEq] <;> rfl) ?_ ?_
    · simp [growOk]
    refine AW.text teOk (ans := []) (by simp [-Option.some.injEq] <;> rfl) ?_ ?_
    · trivial
    refine ⟨_, Weak.normS hA [0, 2, 3, 4, 6, 28, 29] [(6, 0)] [(39, 1)] [13] 2 _ (by simp) (by simp) (by simp), by simp⟩
  rintro s rfl
  refine AW.st teOk [] (by simp [-Option.some.injEq] <;> rfl) trivial ?_
  refine AW.seq ?_
  refine AW.iff false (by simp) (fun h => by cases h) (fun _ => AW.exit (x_then (x_then (blockA_exit ?_))))
  refine AW.st teOk [] (by simp [-Option.some.injEq] <;> rfl) trivial ?_
  refine AW.seq ?_
  refine AW.st teOk [] (by simp [-Option.some.injEq] <;> rfl) trivial ?_
  refine AW.block (AW.loop1 (fun s => s = ⟨[(10, .c (.ptr 0 0 0)), (55, .c (cI 1)), (56, .c (cI 1))], [(0, wO (.row 9 false [evC e]) (.ref 1 0 1)), (1, ⟨1, [[cI 0]]⟩)], 2⟩) ?_ ?_)
  · refine AW.st teOk [] (by simp [-Option.some.injEq] <;> rfl) trivial ?_
    refine AW.seq ?_
    refine AW.iff true (by simp) (fun _ => AW.skip ?_) (fun h => by cases h)
    refine AW.seq (AW.block ?_)
    refine AW.st teOk [] (by simp [-Option.some.injEq] <;> rfl) trivial ?_
    refine AW.seq ?_
    refine AW.seq (AW.regionA (RA.pre teOk 2 [] (by decide) (by simp [-Option.some.injEq] <;> rfl) trivial ?_))
    refine RA.weak (s' := ⟨[(0, .c (.row 9 false [evC e])), (4, .c nilC), (10, .c (.ptr 0 0 0)), (11, .c (cI 0)), (55, .c (cI 1)), (56, .c (cI 0)), (61, .c (.ptr 0 0 0)), (62, .c (.ref 1 0 1))], [(0, wO (.row 9 false [evC e]) nilC), (1, ⟨1, [[cI 0]]⟩)], 2⟩) (Weak.normS hA [0, 4, 10, 11, 55, 56, 61, 62] [(10, 0), (62, 1)] [] [] 2 _ (by simp) (by simp) (by simp)) (by simp) ?_
    refine RA.pre teOk 2 [.sem (.c (cB true)) [(0, wO (.row 9 false [evC e]) (.ref 2 0 1)), (1, ⟨1, [[cI 0]]⟩), (2, ⟨1, [[cI 0]]⟩)] 3] (by decide) (by simp [-Option.some.injEq] <;> rfl) ?_ (RA.done (by decide) ?_)
    · exact SemC.of0 (upd1_con e) rfl (Nat.le_of_ble_eq_true rfl)
    refine AW.iff false (by simp) (fun h => by cases h) (fun _ => AW.skip ?_)
    refine AW.st teOk [] (by simp [-Option.some.injEq] <;> rfl) trivial ?_
    refine AW.seq ?_
    refine AW.st teOk [] (by simp [-Option.some.injEq] <;> rfl) trivial ?_
    refine AW.block (AW.loop1 (fun s => s = ⟨[(10, .c (.ptr 0 0 0)), (13, .c nilC), (55, .c (cI 1)), (56, .c (cI 0)), (66, .c (cI 1)), (67, .c (cI 1))], [(0, wO (.row 9 false [evC e]) (.ref 1 0 1)), (1, ⟨1, [[cI 0]]⟩)], 2⟩) ?_ ?_)
    · refine AW.st teOk [] (by simp [-Option.some.injEq] <;> rfl) trivial ?_
      refine AW.seq ?_
      refine AW.iff true (by simp) (fun _ => AW.skip ?_) (fun h => by cases h)
      refine AW.seq (AW.block ?_)
      refine AW.st teOk [] (by simp [-Option.some.injEq] <;> rfl) trivial ?_
      refine AW.dr mixed teOk [] (by simp [-Option.some.injEq] <;> rfl) (by kernel_rfl) (by kernel_rfl) ?_ ?_
      · simp [allP]
      refine AW.iff false (by simp) (fun h => by cases h) (fun _ => AW.skip ?_)
      refine AW.text teOk (ans := []) (by simp [-Option.some.injEq] <;> rfl) ?_ ?_
      · trivial
      refine ⟨_, Weak.normS hA [10, 13, 55, 56, 66, 67] [(10, 0)] [(2, 1)] [0] 2 _ (by simp) (by simp) (by simp), by simp⟩
    rintro s rfl
    refine AW.st teOk [] (by simp [-Option.some.injEq] <;> rfl) trivial ?_
    refine AW.seq ?_
    refine AW.iff false (by simp) (fun h => by cases h) (fun _ => AW.exit (x_then (x_then (blockA_exit ?_))))
    refine AW.st teOk [.sem (.tup []) [(0, wO (.row 9 false [evC e]) (.ref 1 0 1)), (1, ⟨1, [[cI 0]]⟩)] 5] (by simp [-Option.some.injEq] <;> rfl) ?_ ?_
    · exact SemC.deep rfl (byCall0_pure [.row 9 false [evC e], .row 1 false [[cI 0]]])
    refine AW.text teOk (ans := []) (by simp [-Option.some.injEq] <;> rfl) ?_ ?_
    · simp [growOk]
    refine AW.text teOk (ans := []) (by simp [-Option.some.injEq] <;> rfl) ?_ ?_
    · trivial
    refine ⟨_, Weak.normS hA [10, 55, 56] [(10, 0)] [(11, 1)] [0] 2 _ (by simp) (by simp) (by simp), by simp⟩
  rintro s rfl
  refine AW.st teOk [] (by simp [-Option.some.injEq] <;> rfl) trivial ?_
  refine AW.seq ?_
  refine AW.iff false (by simp) (fun h => by cases h) (fun _ => AW.exit (x_then (x_then (blockA_exit ?_))))
  refine AW.st teOk [] (by simp [-Option.some.injEq] <;> rfl) trivial ?_
  refine AW.ret ⟨.inr rfl, _, Weak.freeze 1 ⟨1, [[cI 0]]⟩ [0] _ (by simp) rfl, by simp⟩
end Go.Proofs.YtphlhadgcfndhaaGreat.Abs
end
section
namespace Go.Proofs.YtphlhadgcfndhaaGreat.Abs
open Go Go.RowKit
set_option linter.unusedVariables false
set_option linter.unusedSimpArgs false
set_option maxHeartbeats 4000000
set_option maxRecDepth 8000
section
variable {P : Program} {base : Nat} {A : Nat → Prop} {w0 w : World} {β : Nat → Bnd} {σ : Sig} {n : Nat}
/-- A literal, as an object. -/
theorem buildO_sound (I : Inv base A w0 β σ w) (hn : β n = .no) {t el : Nat} {tie : TI} (ht : P.underlying t = some (.slice el)) (hte : TyOk P el tie) {ρ : Operand → AVal} {ev : Operand → Value} (hρ : ∀ x, RepV w (okOf base A w β) β (ρ x) (ev x)) {ps : Array (Nat × Operand)} {es : List (List Cell)} (hes : partsN tie.size ρ 0 ps.toList = some es) (hsmall : es.length * tie.size ≤ 16777216) :
    SO P base A w0 β w σ n (.new ⟨tie.size, es⟩ fun id => .c (.ref id 0 es.length)) (do pure (.value (← Instr.buildSlice t es.length (ps.map fun (i, x) => (i, ev x))))) := by
  obtain ⟨hk, cells', h5, hrun⟩ := buildS_core ht hte hρ hes hsmall
  have hcz : cells'.toList.length = es.flatten.length := h5.1.symm
  have hfl : es.flatten.length = es.length * tie.size := by
    clear hrun h5 hcz hsmall hes
    induction es with
    | nil => simp
    | cons e l ih =>
      rw [List.flatten_cons, List.length_append, ih (fun x hx => hk x (by simp [hx])), hk e (by simp), List.length_cons, Nat.succ_mul, Nat.add_comm]
  obtain ⟨I', hok⟩ := new_inv (n := n) I hn (o := ⟨tie.size, es⟩) (arr := cells') (ty := el) (cap := es.length) (w1 := w) rfl (Below.refl _ _) (Nat.le_refl _) hk (by rw [← hfl, ← hcz]; simp) h5.one (fun i e he j c hc => by
    have hf := flat_get tie.size es i e j c hk he hc
    have hlt : i * tie.size + j < cells'.toList.length := by rw [hcz]; exact (List.getElem?_eq_some_iff.1 hf).1
    refine ⟨cells'.toList[i * tie.size + j], ?_, h5.2 _ c _ hf (List.getElem?_eq_getElem hlt)⟩
    rw [← Array.getElem?_toList]
    exact List.getElem?_eq_getElem hlt)
  refine ⟨.value (.slice (some ⟨w.heap.size, 0, none⟩) es.length es.length), w.alloc (.cells cells' el), ?_, _, _, .inl rfl, I', updB_le (by rw [hn]; exact .no _), hok, fun i hi h => by rw [updB_ne _ _ hi]; exact h, .c ?_⟩
  · simp only [Sem.run_bind, hrun, Result.andThen_ok, Sem.run_pure]
  · have := RepC.ref (w := w.alloc (.cells cells' el)) (ok := okOf base A (w.alloc (.cells cells' el)) (updB β n (.live w.heap.size tie.size es.length))) (β := updB β n (.live w.heap.size tie.size es.length)) (id := n) (lo := 0) (n := es.length) (updB_self _ _ _) (by omega)
    simpa using this
end
theorem RA.lit {P : Program} {base : Nat} {A : Old} {w0 : World} {n : Nat} {ops : Array Oper} {k : Nat} {o : Oper} {t el len d : Nat} {ps : Array (Nat × Operand)} {tie : TI} {es : List (List Cell)} {s : St} {Q : Exit → St → Prop} (ho : ops[k]? = some o) (hop : o.op = .buildSlice t len ps) (hd : o.dst = some d) (hg : o.guard = none) (hdn : d < n)
    (ht : P.underlying t = some (.slice el)) (hte : TyOk P el tie) (hes : partsN tie.size (opval s.τ) 0 ps.toList = some es) (hlen : es.length = len) (hsmall : es.length * tie.size ≤ 16777216)
    (h : RA P base A w0 n ops (k + 1) ⟨putT d (.c (.ref s.fr 0 es.length)) s.τ, putA s.fr ⟨tie.size, es⟩ s.σ, s.fr + 1⟩ Q) : RA P base A w0 n ops k s Q := fun β a w I => by
  have hlt := (Array.getElem?_eq_some_iff.1 ho).1
  rw [show ops.size - k = (ops.size - (k + 1)) + 1 by omega, List.range'_succ, wpOps_cons]
  unfold wpOp
  rw [ho]
  simp only
  have hw : Region.wanted o (yielded ops a.tmps) = true := by unfold Region.wanted; rw [hg]
  rw [hw, if_pos rfl]
  left
  unfold Oper.wp
  subst hlen
  obtain ⟨nx, w', hrun, u, β', hnx, I', hle, hok, hfr, hv⟩ := buildO_sound (n := s.fr) I.inv (I.fresh s.fr (Nat.le_refl _)) ht hte (opval_rep I) hes hsmall
  have this := put_inv (fr' := s.fr + 1) I I' hle hok (fun id hid => hfr id (by omega) (I.fresh id (by omega))) hv (d := some d) (τ' := putT d (.c (.ref s.fr 0 es.length)) s.τ) (by unfold putD; simp only; rw [if_pos hdn]; rfl)
  have hrun' : (execOp a.eval o).run P w = .ok nx w' := by
    rw [← hrun]
    simp [execOp, hop]
  rw [hrun']
  rcases hnx with rfl | ⟨rfl, rfl⟩
  · rw [Oper.upon_value, hd]
    exact h _ _ _ this
  · rw [Oper.upon_skip, hd]
    exact h _ _ _ this
end Go.Proofs.YtphlhadgcfndhaaGreat.Abs
end
section
namespace Go.Proofs.YtphlhadgcfndhaaGreat.Abs
open Go Go.RowKit
set_option linter.unusedVariables false
set_option linter.unusedSimpArgs false
def plC : Cell → Bool
  | .row _ _ _ => false
  | .fad _ => false
  | .fn _ _ => false
  | _ => true
mutual
def plV : AVal → Bool
  | .any => true
  | .c x => plC x
  | .agg cs => cs.all plC
  | .tup vs => plVs vs
  | .cut _ _ _ => false
def plVs : List AVal → Bool
  | [] => true
  | v :: vs => plV v && plVs vs
end
theorem plV_agg {cs : List Cell} (h : plV (.agg cs) = true) : ∀ q ∈ cs, plC q = true := List.all_eq_true.1 (by rw [plV] at h; exact h)
theorem plVs_mem : ∀ {vs : List AVal}, plVs vs = true → ∀ q ∈ vs, plV q = true
  | [], _, _, h => by cases h
  | u :: vs, hp, v, h => by
    rw [plVs, Bool.and_eq_true] at hp
    rcases List.mem_cons.1 h with rfl | h
    · exact hp.1
    · exact plVs_mem hp.2 v h
theorem plV_tup {vs : List AVal} (h : plV (.tup vs) = true) : ∀ q ∈ vs, plV q = true := plVs_mem (by rw [plV] at h; exact h)
def plainS : Sig → Bool
  | [] => true
  | (_, o) :: r => plainO o && plainS r
theorem plainS_get {t : Nat} {o : AObj} : ∀ {σ : Sig}, plainS σ = true → look t σ = some o → plainO o = true
  | [], _, h => by cases h
  | (u, q) :: r, hf, h => by
    unfold plainS at hf
    rw [Bool.and_eq_true] at hf
    unfold look at h
    split at h
    · cases h; exact hf.1
    · exact plainS_get hf.2 h
section
variable {P : Program} {base : Nat} {A : Old} {w0 w : World} {β : Nat → Bnd} {s : St} {n : Nat} {a : Act}
theorem newD_calls (I : InvS base A w0 n β s a w) {g : FuncId} {xs : List AVal} {res : AVal} {σ' : Sig} {m' : Nat} (hP : New P g (xs.map (rdDV s.σ)) res σ' m') (hfl : plainS σ' = true) (hpr : plV res = true) {vs : Array Value} (hr : RepAs w (okOf base A.own w β) β xs vs) :
    Calls P g vs w fun e w' => ∃ v β', e = .returned v ∧ Inv base A.own w0 β' (shS s.fr σ' ++ s.σ) w' ∧ (∀ i, BLe (β i) (β' i)) ∧ (∀ x, okOf base A.own w β x → okOf base A.own w' β' x ∧ w'.heap[x]? = w.heap[x]?) ∧ (∀ id, s.fr + m' ≤ id → β' id = .no) ∧ RepV w' (okOf base A.own w' β') β' (shV s.fr res) v := by
  refine (hP.2 w (rdOk w β (okOf base A.own w β)) vs (fun b hb => hb.1) ⟨by rw [List.length_map]; exact hr.1, fun i x v hx hv => ?_⟩).mono ?_
  · rw [List.getElem?_map] at hx
    cases hq : xs[i]? with
    | none => rw [hq] at hx; cases hx
    | some y =>
      rw [hq] at hx
      cases hx
      exact rdDV_rep I.inv (hr.2 i y v hq hv)
  rintro e w' ⟨v, β1, rfl, J, hm, hv⟩
  have hI := I.inv
  have hlive : ∀ id b k cap, β id = .live b k cap → id < s.fr := fun id b k cap h => by
    rcases Nat.lt_or_ge id s.fr with h1 | h1
    · exact h1
    · rw [I.fresh id h1] at h; cases h
  obtain ⟨β2, hβ2⟩ : ∃ β2 : Nat → Bnd, β2 = fun id => if id < s.fr then β id else β1 (id - s.fr) := ⟨_, rfl⟩
  have lo_ : ∀ id, id < s.fr → β2 id = β id := fun id h => by rw [hβ2]; exact if_pos h
  have hi_ : ∀ id, β2 (s.fr + id) = β1 id := fun id => by rw [hβ2]; simp only; rw [if_neg (by omega), Nat.add_sub_cancel_left]
  have hi2 : ∀ id, ¬ id < s.fr → β2 id = β1 (id - s.fr) := fun id h => by rw [hβ2]; exact if_neg h
  have hle : ∀ i, BLe (β i) (β2 i) := fun i => by
    by_cases h : i < s.fr
    · rw [lo_ i h]; exact .same _
    · rw [I.fresh i (by omega)]; exact .no _
  have hsz := J.below.size
  have hok : ∀ x, okOf base A.own w β x → okOf base A.own w' β2 x ∧ w'.heap[x]? = w.heap[x]? := fun x hx => ⟨⟨hx.1, by have := hx.2.1; omega, fun id b k cap hb e => by
    by_cases h : id < s.fr
    · rw [lo_ id h] at hb
      exact hx.2.2 id b k cap hb e
    · rw [hi2 id h] at hb
      have := (J.lo _ b k cap hb).1
      have := hx.2.1
      omega⟩, J.below.block x hx.2.1⟩
  have hcell : ∀ (c : Cell) (u : Value), plC c = true → RepC w' (okOf w.heap.size (rdOk w β (okOf base A.own w β)) w' β1) β1 c u → RepC w' (okOf base A.own w' β2) β2 (shC s.fr c) u := fun c u hp h => by
    cases h with
    | fz h =>
      cases h with
      | any _ h => exact .fz (.any _ h)
      | sc _ h => exact .fz (.sc _ h)
      | bit b => exact .fz (.bit b)
      | row => cases hp
      | fad => cases hp
      | fn => cases hp
    | ref hb hl => exact .ref (by rw [hi_]; exact hb) hl
    | refv hb => exact .refv (by rw [hi_]; exact hb)
    | gone hb hv => exact .gone (by rw [hi_]; exact hb) hv
    | ptr hb => exact .ptr (by rw [hi_]; exact hb)
    | gonep hb hv => exact .gonep (by rw [hi_]; exact hb) hv
  have hval : ∀ (x : AVal) (u : Value), plV x = true → RepV w' (okOf w.heap.size (rdOk w β (okOf base A.own w β)) w' β1) β1 x u → RepV w' (okOf base A.own w' β2) β2 (shV s.fr x) u := fun x u hp h => by
    induction h with
    | any v => rw [shV]; exact .any v
    | c h => rw [shV_c]; exact .c (hcell _ _ hp h)
    | agg h =>
      rw [shV_agg]
      refine .agg ⟨by rw [List.length_map]; exact h.1, fun i c v hc hv => ?_⟩
      rw [List.getElem?_map] at hc
      cases hq : (_ : List Cell)[i]? with
      | none => rw [hq] at hc; cases hc
      | some q =>
        rw [hq] at hc
        cases hc
        exact hcell _ _ (plV_agg hp q (List.mem_of_getElem? hq)) (h.2 i q v hq hv)
    | tup hl _ ih =>
      rw [shV]
      refine .tup (by rw [shVs_len]; exact hl) fun i a u ha hu => ?_
      rw [shVs_get] at ha
      cases hq : (_ : List AVal)[i]? with
      | none => rw [hq] at ha; cases ha
      | some q =>
        rw [hq] at ha
        cases ha
        exact ih i q u hq hu (plV_tup hp q (List.mem_of_getElem? hq))
    | cut h =>
      rw [shV]
      exact .any _
  have hlk : ∀ id, look id (shS s.fr σ' ++ s.σ) = if id < s.fr then look id s.σ else look (id - s.fr) σ' := fun id => by
    rw [look_app, look_sh]
    by_cases h : id < s.fr
    · rw [if_pos h, if_pos h]
    · rw [if_neg h, if_neg h]
      cases hq : look (id - s.fr) σ' with
      | some o => rfl
      | none =>
        simp only
        refine look_none fun hs => ?_
        rcases (hI.dom id).1 hs with ⟨b, k, cap, hb⟩ | hb
        · exact h (hlive id b k cap hb)
        · rw [I.fresh id (by omega)] at hb; cases hb
  refine ⟨v, β2, rfl, ⟨hI.below.trans (J.below.mono hI.hbase), by have := hI.hbase; omega, hI.old, fun id => ?_, fun id o hb hl => ?_, ⟨s.fr + m', fun id h => ?_⟩, fun id b k cap hb => ?_, fun id id' b k cap k' cap' h1 h2 => ?_, fun id b k cap o hb hl => ?_⟩, hle, hok, fun id h => ?_, hval _ _ hpr hv⟩
  · rw [hlk]
    by_cases h : id < s.fr
    · rw [if_pos h, lo_ id h]; exact hI.dom id
    · rw [if_neg h, hi2 id h]; exact J.dom _
  · rw [hlk] at hl
    by_cases h : id < s.fr
    · rw [if_pos h] at hl; rw [lo_ id h] at hb; exact hI.virt id o hb hl
    · rw [if_neg h] at hl; rw [hi2 id h] at hb; exact J.virt _ o hb hl
  · rw [hi2 id (by omega)]; exact hm _ (by omega)
  · by_cases h : id < s.fr
    · rw [lo_ id h] at hb
      have := hI.lo id b k cap hb
      omega
    · rw [hi2 id h] at hb
      have := J.lo _ b k cap hb
      have := hI.hbase
      omega
  · by_cases h : id < s.fr
    · rw [lo_ id h] at h1
      by_cases h' : id' < s.fr
      · rw [lo_ id' h'] at h2; exact hI.inj id id' b k cap k' cap' h1 h2
      · rw [hi2 id' h'] at h2
        have := hI.lo id b k cap h1
        have := J.lo _ b k' cap' h2
        omega
    · rw [hi2 id h] at h1
      by_cases h' : id' < s.fr
      · rw [lo_ id' h'] at h2
        have := hI.lo id' b k' cap' h2
        have := J.lo _ b k cap h1
        omega
      · rw [hi2 id' h'] at h2
        have := J.inj _ _ b k cap k' cap' h1 h2
        omega
  · rw [hlk] at hl
    by_cases h : id < s.fr
    · rw [if_pos h] at hl
      rw [lo_ id h] at hb
      exact (hI.obj id b k cap o hb hl).mono hok hle (J.below.block b (hI.lo id b k cap hb).2)
    · rw [if_neg h] at hl
      rw [hi2 id h] at hb
      obtain ⟨g1, g2, g3, arr, ty, g4, g5, g6, g7⟩ := J.obj _ b k cap o hb hl
      refine ⟨g1, g2, g3, arr, ty, g4, g5, g6, fun i e he j c hc => ?_⟩
      obtain ⟨u, hu, hr⟩ := g7 i e he j c hc
      have hfo := plainS_get hfl hl
      unfold plainO at hfo
      rw [List.all_eq_true] at hfo
      have hfe := hfo e (List.mem_of_getElem? he)
      rw [List.all_eq_true] at hfe
      exact ⟨u, hu, plain_repC hr (hfe c (List.mem_of_getElem? hc))⟩
  · rw [hi2 id (by omega)]; exact hm _ (by omega)
end
theorem SemC.newD {P : Program} {g : FuncId} {s : St} {xs : List AVal} {r : AVal} {σ' : Sig} {m' : Nat} (hP : New P g (xs.map (rdDV s.σ)) r σ' m') (hfl : plainS σ' = true) (hpr : plV r = true) : SemC P g xs s (shV s.fr r) (shS s.fr σ' ++ s.σ) (s.fr + m') := by
  refine ⟨hP.1, fun A base w0 n β a w vs I hvs => ?_⟩
  exact newD_calls I hP hfl hpr hvs
end Go.Proofs.YtphlhadgcfndhaaGreat.Abs
end
section
namespace Go.Proofs.YtphlhadgcfndhaaGreat.Abs
open Go Go.RowKit
set_option linter.unusedVariables false
set_option linter.unusedSimpArgs false
set_option maxHeartbeats 4000000
set_option maxRecDepth 4000
theorem new_ofK {P : Program} {T : TyEnv} (hT : TOk P T) {f : FuncId} {fn : Func} {c : Code} (hf : P.funcs[f]? = some fn) (hname : (fn.name == "runtime.NumGoroutine") = false) (hb : fn.body = some c) {N : Nat} (hN : fn.ntmps = N) {rs : List ResultVar} (hrs : fn.results.toList = rs) {xs : List AVal} {res : AVal} {σ' : Sig} {m' : Nat} (hlen : xs.length ≤ N)
    (h : ∀ A w0, A.lim = 0 → AWK P w0.heap.size A w0 N c ⟨entry 0 xs, [], 0⟩ [] fun e s κ => (e = .normal ∨ e = .ret) ∧ ∃ s', Weak (A.at κ) s s' ∧ resL T s' rs = some res ∧ s'.σ = σ' ∧ s'.fr = m') : New P f xs res σ' m' := by
  subst hN hrs
  refine ⟨⟨fn, hf, hname, by rw [hb]; rfl⟩, fun w A vs hA hr => calls_of_wp hf hb ?_⟩
  refine wp_mono (h (oldOf A) w rfl noB _ w (init_inv hA hr hlen)) fun e a' w' ⟨s', κ', β', ⟨he, s'', hw, hres, hσ, hm⟩, I'⟩ => ?_
  obtain ⟨β'', I''⟩ := hw _ _ _ _ _ _ I'
  obtain ⟨v, h1, h2⟩ := resultsL_sound hT I'' hres
  have fin : a'.defers = [] ∧ ∃ v, (results fn a'.tmps).run P w' = .ok v w' ∧ ∃ v' β', Ending.returned v = .returned v' ∧ Inv w.heap.size A w β' σ' w' ∧ (∀ id, m' ≤ id → β' id = .no) ∧ RepV w' (okOf w.heap.size A w' β') β' res v' :=
    ⟨I''.defers, v, h1, v, β'', rfl, by rw [← hσ]; exact I''.inv, by rw [← hm]; exact I''.fresh, h2⟩
  rcases he with rfl | rfl
  · exact fin
  · exact fin
def searchA (R : List Int × Int) : AVal := if R.2 = 0 then .tup [.c (.ref 0 0 R.1.length), .c (cI 0)] else .tup [.c (.sc (.slice none 0 0)), .c (cI R.2)]
def searchG (R : List Int × Int) : Sig := if R.2 = 0 then [(0, ⟨1, R.1.map enci⟩)] else []
theorem search_new (ops : List OpS) (hE : EfOk ops) (hn : ops.length < 1000000) : New Tryz.prog 15 [.agg (encHi ops)] (searchA (searchS ops)) (searchG (searchS ops)) 1 := by
  refine new_ofK teOkM Tryz.func15 (by kernel_rfl) (c := _) rfl (N := 30) rfl (rs := [Go.ResultVar.tmp 2, Go.ResultVar.tmp 3]) rfl (by simp) fun A w0 hA => ?_
  have hk : ∀ κ, (A.at κ).lim = 0 := fun _ => hA
  have hwn := wrap_s ops.length (by omega)
  refine AWK.st teOkM [] (by simp [-Option.some.injEq] <;> rfl) trivial ?_
  refine AWK.to (s2 := ⟨[(1, .c (.fad (encHi ops))), (2, .c (.sc (.slice none 0 0))), (3, .c (cI 0))], [], 0⟩) ((Weak.freeze 0 ⟨1, [encHi ops]⟩ [] _ (by simp) rfl).trans (Weak.normT (hk _) [1, 2, 3] [] [] 0 _ (by simp) (by simp) (by simp [mapAt_nil]))) (by simp [mapAt_nil]) ?_
  refine AWK.seq ?_
  refine AWK.st teOkM [] (by simp [-Option.some.injEq] <;> rfl) trivial ?_
  refine AWK.iff (decide (10 < ops.length)) (by simp; omega) (fun hb => ?_) (fun hb => AWK.skip ?_)
  · rw [decide_eq_true_eq] at hb
    refine AWK.st teOkM [] (by simp [-Option.some.injEq] <;> rfl) trivial ?_
    have hR : searchS ops = ([], 3) := by unfold searchS; rw [if_pos hb]
    rw [hR]
    refine AWK.ret ⟨.inr rfl, _, Weak.normT (hk _) [2, 3] [] [] 1 _ (by simp) (by simp) (by simp), by simp [searchA], by simp [searchG], rfl⟩
  rw [decide_eq_false_iff_not] at hb
  have hn10 : ops.length ≤ 10 := by omega
  have hs : searchS ops = match searchL ops (List.range (ops.length + 1)) with
    | some l => (l, 0)
    | none => ([], 6) := by
    unfold searchS
    rw [if_neg hb]
    cases searchL ops (List.range (ops.length + 1)) <;> rfl
  generalize searchS ops = R at hs ⊢
  refine AWK.seq ?_
  refine AWK.st teOkM [] (by simp [hwn, -Option.some.injEq] <;> rfl) trivial ?_
  refine AWK.block (AWK.loop (fun m s κ => ∃ sp : Nat, m = ops.length + 1 - sp ∧ sp ≤ ops.length + 1 ∧ κ = [] ∧ searchL ops (List.range (ops.length + 1)) = searchL ops ((List.range (ops.length + 1)).drop sp) ∧ s = ⟨[(1, .c (.fad (encHi ops))), (2, .c (.sc (.slice none 0 0))), (3, .c (cI 0)), (13, .c (cI (ops.length + 1))), (14, .c (cI sp))], [], 0⟩) _ (Weak.normT (hk _) [1, 2, 3, 13, 14] [] [] 0 _ (by simp) (by simp) (by simp)) ⟨0, rfl, Nat.zero_le _, rfl, rfl, by simp⟩ ?_)
  rintro m s κ ⟨sp, rfl, hsp, rfl, hrun, rfl⟩
  refine AWK.st teOkM [] (by simp [-Option.some.injEq] <;> rfl) trivial ?_
  refine AWK.seq ?_
  refine AWK.iff (decide (sp < ops.length + 1)) (by simp; omega) (fun h => AWK.skip ?_) (fun h => AWK.exit (k_then (k_then (blockK_exit ?_))))
  · rw [decide_eq_true_eq] at h
    have hdr : (List.range (ops.length + 1)).drop sp = sp :: (List.range (ops.length + 1)).drop (sp + 1) := by
      rw [List.drop_eq_getElem_cons (by simpa using h), List.getElem_range]
    rw [hdr, searchL] at hrun
    refine AWK.seq (AWK.block ?_)
    refine AWK.st teOkM [] (by simp [-Option.some.injEq] <;> rfl) trivial ?_
    refine AWK.seq (AWK.region (RK.pre teOkM 2 [] (by decide) (by simp [-Option.some.injEq] <;> rfl) trivial ?_))
    refine RK.make rfl rfl rfl rfl (by decide) fun M => ?_
    refine RK.pre teOkM 3 [] (by decide) (by simp [-Option.some.injEq] <;> rfl) trivial (RK.done (by decide) ?_)
    show AWK _ _ _ _ _ _ _ [(M, mapA [])] _
    refine AWK.to (s2 := ⟨[(1, .c (.fad (encHi ops))), (2, .c (.sc (.slice none 0 0))), (3, .c (cI 0)), (5, .c (.ptr 0 0 0)), (13, .c (cI (ops.length + 1))), (14, .c (cI sp))], [(0, sS ops sp M 1 0), (1, ⟨1, []⟩)], 2⟩) ((Weak.nilO 6 2 1 (q := 4) (cs := [encOps ops, cI sp, .sc (.slice none 0 0), .sc (.map (some M))]) _ (by simp) rfl (by simp)).trans (Weak.normS (hk _) [1, 2, 3, 5, 13, 14] [(5, 0)] [(8, 1)] [6] 2 _ (by simp) (by simp) (by simp))) (by simp) ?_
    have hw0 := waitN_le ops x0
    obtain ⟨r, hr⟩ : ∃ r, r = runF ops 11 x0 [] sp [] [] := ⟨_, rfl⟩
    have hC := run_con ops hn10 hE M 11 x0 [] sp [] [] 0 (by omega) x0_key (fun y hy => by cases hy) VOk.nil (by omega) (by simp; omega) (by omega)
    rw [← hr] at hC hrun
    have hC := RunC.nil hC
    refine AWK.seq (AWK.region (RK.pre teOkM 1 [] (by decide) (by simp [-Option.some.injEq] <;> rfl) trivial ?_))
    refine RK.buildA rfl rfl rfl rfl (by decide) (teOk 75 ti75 rfl) Tryz.underlying75 (teOk 5 ti5 rfl) rfl ?_
    refine RK.run (T := TEm) (j := 1) (Nat.le_refl _) rfl rfl rfl (by decide) rfl (by simp [-Option.some.injEq] <;> rfl) rfl rfl (by decide) (by show 1 < 3; decide) rfl rfl rfl (flat_enci _) (flat_enci _) hC (RK.done (by decide) ?_)
    cases hrk : r.ok with
    | true =>
      rw [hrk, if_pos rfl] at hrun
      have hR : R = (r.l, 0) := by rw [hs, hrun]
      rw [hR]
      refine AWK.iff true (by simp [hrk]) (fun _ => ?_) (fun h => by cases h)
      refine AWK.st teOkM [] (by simp [-Option.some.injEq] <;> rfl) trivial ?_
      refine AWK.ret ⟨.inr rfl, _, Weak.normS (hk _) [2, 3] [(2, 0)] [] [] 1 _ (by simp) (by simp) (by simp), by simp [searchA], by simp [searchG], rfl⟩
    | false =>
      rw [hrk, if_neg (by simp)] at hrun
      refine AWK.iff false (by simp [hrk]) (fun h => by cases h) (fun _ => AWK.skip ?_)
      refine AWK.text teOkM (ans := []) (by simp [-Option.some.injEq] <;> rfl) ?_ ?_
      · trivial
      refine ⟨_, _, Weak.normT (hk _) [1, 2, 3, 13, 14] [] [] 0 _ (by simp) (by simp) (by simp), ?_, sp + 1, rfl, by omega, rfl, hrun, ?_⟩
      · omega
      · simp
        exact wrap_s sp (by omega)
  · rw [decide_eq_false_iff_not] at h
    have hR : R = ([], 6) := by
      rw [hs, hrun, List.drop_eq_nil_of_le (by simp; omega)]
      rfl
    rw [hR]
    refine AWK.st teOkM [] (by simp [-Option.some.injEq] <;> rfl) trivial ?_
    refine AWK.ret ⟨.inr rfl, _, Weak.normT (hk _) [2, 3] [] [] 1 _ (by simp) (by simp) (by simp), by simp [searchA], by simp [searchG], rfl⟩
end Go.Proofs.YtphlhadgcfndhaaGreat.Abs
end
