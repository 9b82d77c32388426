/- Joined for the claim: WPk WPl WPm WPn WPo -/
import Derived.Test.YtphlhadgcfndhaaGreatJd12
import Derived.Test.YtphlhadgcfndhaaGreatJd5
section
namespace Go.Proofs.YtphlhadgcfndhaaGreat.Abs
open Go Go.RowKit
set_option linter.unusedVariables false
set_option linter.unusedSimpArgs false
set_option maxHeartbeats 4000000
set_option maxRecDepth 8000
def fillS : List OpS → List HV → List Int → List OpS
  | ops, _, [] => ops
  | ops, vs, x :: l => match opAt ops x with
    | some o => if o.kind = 1 then fillS ops (stepV vs o) l else fillS (ops.set x.toNat { o with res := vs }) vs l
    | none => ops
theorem flatOpsM (ops : List OpS) : flatO ⟨6, ops.map encOp⟩ = true := flatO_of fun e he => by
  obtain ⟨o, _, rfl⟩ := List.mem_map.1 he
  rfl
abbrev filSt (l : List Int) (W : List OpS) (vs : List HV) (i : Nat) : St := ⟨[(1, .c (encis l)), (4, .c (.ptr 0 0 0)), (5, .c (.ptr 1 0 0)), (6, .c (encHs vs)), (7, .c (cI i))], [(0, ⟨1, [[.sc (.slice none 0 0)]]⟩), (1, ⟨1, [[.ref 2 0 W.length]]⟩), (2, ⟨6, W.map encOp⟩)], 3⟩
theorem fill_pure (ops : List OpS) (l : List Int) (hn : ops.length < 1000000) (hl : l.length < 1000) (hE : EfOk ops) (hin : ∀ x ∈ l, inR ops.length x = true) : Pure Tryz.prog 10 [.agg (encHi ops), .c (encis l)] (.agg (encHi (fillS ops [] l))) := by
  refine pure_of teOk Tryz.func10 (by kernel_rfl) (c := _) rfl (N := 45) rfl (rs := [Go.ResultVar.cell 4 26]) rfl (by simp) fun base A w0 hA => ?_
  refine AW.st teOk [] (by simp [-Option.some.injEq] <;> rfl) trivial ?_
  refine AW.st teOk [] (by simp [-Option.some.injEq] <;> rfl) ?_ ?_
  · simp [growOk]
    omega
  refine AW.st teOk [] (by simp [-Option.some.injEq] <;> rfl) trivial ?_
  refine AW.weak (Weak.le 6 _ (v' := .c (encHs [])) (by simp <;> rfl) (.c (.nil 10))) ?_
  refine AW.seq ?_
  refine AW.st teOk [] (by simp [-Option.some.injEq] <;> rfl) trivial ?_
  refine AW.block (AW.loop (fun m s => ∃ (i : Nat) (W : List OpS) (vs : List HV), m = l.length - i ∧ i ≤ l.length ∧ VOk (10 * i) vs ∧ EfOk W ∧ W.length = ops.length ∧ fillS ops [] l = fillS W vs (l.drop i) ∧ s = filSt l W vs i) _ (Weak.normS hA [1, 4, 5, 6, 7] [(4, 0), (5, 1)] [(5, 2)] [7] 3 _ (by simp [putT]) (by simp [putT]) (by simp [putT]; exact flatOpsM _)) ⟨0, ops, [], rfl, Nat.zero_le _, VOk.nil, hE, rfl, rfl, by simp [putT]⟩ ?_)
  rintro m s ⟨i, W, vs, rfl, hi, hv, hW, hWl, hr, rfl⟩
  refine AW.seq ?_
  refine AW.st teOk [] (by simp [-Option.some.injEq] <;> rfl) trivial ?_
  refine AW.iff (decide (i < l.length)) (by simp) (fun h => AW.skip ?_) (fun h => AW.exit (x_then (x_then (blockA_exit ?_))))
  · rw [decide_eq_true_eq] at h
    obtain ⟨x, he⟩ : ∃ e, l[i]? = some e := ⟨_, List.getElem?_eq_getElem h⟩
    obtain ⟨o, ho, hx2, hx3, hx4⟩ := opAt_some (hWl ▸ hin x (List.mem_of_getElem? he))
    have hef := hW o (List.mem_of_getElem? hx2)
    have hd : l.drop i = x :: l.drop (i + 1) := by
      rw [List.drop_eq_getElem_cons h]
      congr 1
      rw [List.getElem?_eq_getElem h] at he
      exact Option.some.inj he
    refine AW.seq (AW.block ?_)
    refine AW.dr mixed teOk [] (by simp [he, hx2, -Option.some.injEq] <;> rfl) (by kernel_rfl) (by kernel_rfl) ?_ ?_
    · simp [allP]
      omega
    refine AW.st teOk [] (by simp [hx2, -Option.some.injEq] <;> rfl) trivial ?_
    by_cases hk : o.kind = 1
    · have hst := rstepK_pure hv (by omega) hef (.inl hk)
      refine AW.iff true (by simp [hk]) (fun _ => ?_) (fun h => by cases h)
      refine AW.text teOk (ans := [.fz (.tup [.c (encHs (stepV vs o)), .c (cB (okV vs o))])]) (by simp [hx2, -Option.some.injEq] <;> rfl) ?_ ?_
      · exact hst
      refine AW.text teOk (ans := []) (by simp [-Option.some.injEq] <;> rfl) ?_ ?_
      · trivial
      refine ⟨_, _, Weak.normS hA [1, 4, 5, 6, 7] [(4, 0), (5, 1)] [(2, 2)] [1] 3 _ (by simp) (by simp) (by simp; exact flatOpsM _), ?_, i + 1, W, stepV vs o, rfl, h, (hv.step o).le (by omega), hW, hWl, ?_, ?_⟩
      · omega
      · rw [hr, hd, fillS, ho]
        simp [hk]
      · simp
        exact wrap_s i (by omega)
    · refine AW.iff false (by simp [hk]) (fun h => by cases h) (fun _ => ?_)
      have hfl : flatO ⟨6, (W.map encOp).set x.toNat (encOp { o with res := vs })⟩ = true := by rw [← List.map_set]; exact flatOpsM _
      refine AW.text teOk (ans := []) (by simp [hx2, -Option.some.injEq] <;> rfl) ?_ ?_
      · trivial
      refine AW.text teOk (ans := []) (by simp [-Option.some.injEq] <;> rfl) ?_ ?_
      · trivial
      refine ⟨_, _, Weak.normS hA [1, 4, 5, 6, 7] [(4, 0), (5, 1)] [(2, 2)] [1] 3 _ (by simp) (by simp) (by simp; exact hfl), ?_, i + 1, W.set x.toNat { o with res := vs }, vs, rfl, h, hv.le (by omega), ?_, by rw [List.length_set]; exact hWl, ?_, ?_⟩
      · omega
      · intro q hq
        rcases List.mem_or_eq_of_mem_set hq with hq | rfl
        · exact hW q hq
        · exact hef
      · rw [hr, hd, fillS, ho]
        simp [hk]
      · simp
        exact wrap_s i (by omega)
  · rw [decide_eq_false_iff_not] at h
    have hend : fillS ops [] l = W := by rw [hr, List.drop_eq_nil_of_le (by omega), fillS]
    rw [hend]
    refine AW.st teOk [] (by simp [-Option.some.injEq] <;> rfl) ?_ ?_
    · trivial
    refine AW.ret ⟨.inr rfl, _, Weak.freeze 2 ⟨6, W.map encOp⟩ [0, 1] _ (by simp) (flatOpsM W), ?_⟩
    simp
end Go.Proofs.YtphlhadgcfndhaaGreat.Abs
end
section
namespace Go.Proofs.YtphlhadgcfndhaaGreat.Abs
open Go Go.RowKit
theorem opAt_set {ops : List OpS} {x : Int} {o' : OpS} (hx : inR ops.length x = true) (y : Int) : opAt (ops.set x.toNat o') y = if y = x then some o' else opAt ops y := by
  simp only [inR, Bool.and_eq_true, decide_eq_true_eq] at hx
  unfold opAt
  by_cases hy : 0 ≤ y
  · rw [if_pos hy, if_pos hy, List.getElem?_set]
    by_cases e : y = x
    · subst e
      rw [if_pos rfl, if_pos rfl, if_pos (by omega)]
    · rw [if_neg (by omega), if_neg e]
  · rw [if_neg hy, if_neg hy, if_neg (by omega)]
theorem fill_get : ∀ (l : List Int) (ops : List OpS) (vs : List HV) (y : Int), y ∉ l → (∀ x ∈ l, inR ops.length x = true) → opAt (fillS ops vs l) y = opAt ops y
  | [], _, _, _, _, _ => rfl
  | x :: l, ops, vs, y, hy, hin => by
    have hxr := hin x (by simp)
    obtain ⟨o, ho, _⟩ := opAt_some hxr
    rw [fillS, ho]
    simp only [List.mem_cons, not_or] at hy
    by_cases hk : o.kind = 1
    · simp only [hk, if_true]
      exact fill_get l ops _ y hy.2 fun z hz => hin z (by simp [hz])
    · simp only [hk, if_false]
      rw [fill_get l _ _ y hy.2 fun z hz => by rw [List.length_set]; exact hin z (by simp [hz]), opAt_set hxr, if_neg hy.1]
theorem fill_run : ∀ (l : List Int) (ops : List OpS) (vs : List HV), l.Nodup → (∀ x ∈ l, inR ops.length x = true) → (runS (fillS ops vs l) vs l).isSome = true
  | [], _, _, _, _ => rfl
  | x :: l, ops, vs, hn, hin => by
    have hxr := hin x (by simp)
    obtain ⟨o, ho, _⟩ := opAt_some hxr
    rw [List.nodup_cons] at hn
    rw [fillS, ho]
    by_cases hk : o.kind = 1
    · simp only [hk, if_true]
      have hi : ∀ z ∈ l, inR ops.length z = true := fun z hz => hin z (by simp [hz])
      have hok : okV vs o = true := by unfold okV; rw [if_neg (by omega)]
      rw [runS, fill_get l _ _ x hn.1 hi, ho]
      simp only [hok, if_true]
      exact fill_run l ops _ hn.2 hi
    · simp only [hk, if_false]
      have hi : ∀ z ∈ l, inR (ops.set x.toNat { o with res := vs }).length z = true := fun z hz => by rw [List.length_set]; exact hin z (by simp [hz])
      have hok : okV vs { o with res := vs } = true := by
        unfold okV
        split
        · exact sameL_iff.2 rfl
        · rfl
      have hst : stepV vs { o with res := vs } = vs := by unfold stepV; rw [if_neg hk]
      rw [runS, fill_get l _ _ x hn.1 hi, opAt_set hxr, if_pos rfl]
      simp only [hok, if_true, hst]
      exact fill_run l _ _ hn.2 hi
end Go.Proofs.YtphlhadgcfndhaaGreat.Abs
end
section
namespace Go.Proofs.YtphlhadgcfndhaaGreat.Abs
open Go Go.RowKit
def fld (o : OpS) : OpS := { o with res := [] }
theorem opAt_map (ops : List OpS) (x : Int) : opAt (ops.map fld) x = (opAt ops x).map fld := by
  unfold opAt
  split
  · rw [List.getElem?_map]
  · rfl
theorem preS_map (ops : List OpS) (x y : Int) : preS (ops.map fld) x y = preS ops x y := by
  unfold preS
  rw [opAt_map, opAt_map]
  cases opAt ops x with
  | none => rfl
  | some a =>
    cases opAt ops y with
    | none => rfl
    | some b => rfl
theorem mis_map (ops : List OpS) (l : List Int) : misS (ops.map fld) l = misS ops l := by
  unfold misS anyAt
  rw [List.length_map]
  congr 1
  funext i
  rw [List.getElem?_map]
  cases ops[i]? with
  | none => rfl
  | some o =>
    simp only [Option.map_some, List.length_take, List.length_map]
    rfl
theorem pen_map (ops : List OpS) (l : List Int) : penS (ops.map fld) l = penS ops l := by
  unfold penS
  congr 1
  funext _ x
  rw [opAt_map]
  cases opAt ops x with
  | none => rfl
  | some o => rfl
theorem ord_map (ops : List OpS) (l : List Int) : ordS (ops.map fld) l = ordS ops l := by
  unfold ordS
  congr 1
  funext b x
  congr 1
  funext _ y
  exact preS_map ops x y
theorem chk_map (ops : List OpS) (l : List Int) : chkS (ops.map fld) l = chkS ops l := by
  unfold chkS rngS
  rw [List.length_map, mis_map, pen_map, ord_map]
theorem fill_fld : ∀ (l : List Int) (ops : List OpS) (vs : List HV), (fillS ops vs l).map fld = ops.map fld
  | [], _, _ => rfl
  | x :: l, ops, vs => by
    rw [fillS]
    cases ho : opAt ops x with
    | none => rfl
    | some o =>
      simp only
      by_cases hk : o.kind = 1
      · simp only [hk, if_true]
        exact fill_fld l ops _
      · simp only [hk, if_false]
        rw [fill_fld l _ _]
        unfold opAt at ho
        split at ho
        · refine List.ext_getElem? fun i => ?_
          rw [List.getElem?_map, List.getElem?_map, List.getElem?_set]
          by_cases e : x.toNat = i
          · subst e
            rw [if_pos rfl, if_pos (List.getElem?_eq_some_iff.1 ho).1, ho]
            rfl
          · rw [if_neg e]
        · cases ho
theorem fill_chk (ops : List OpS) (vs : List HV) (l l' : List Int) : chkS (fillS ops vs l) l' = chkS ops l' := by rw [← chk_map, fill_fld, chk_map]
theorem dup_nodup {l : List Int} (h : dupS l = false) : l.Nodup := by
  refine List.pairwise_iff_getElem.2 fun i j hi hj hij e => ?_
  obtain ⟨x, hx⟩ : ∃ x, l[j]? = some x := ⟨_, List.getElem?_eq_getElem hj⟩
  have hxi : l[i]? = some x := by rw [List.getElem?_eq_getElem hi, e, ← List.getElem?_eq_getElem hj, hx]
  have hm : x ∈ l.take j := by
    refine List.mem_of_getElem? (i := i) ?_
    rw [List.getElem?_take_of_lt hij, hxi]
  have : dupS l = true := upTo_hit (f := fun b x => b.contains x) hx (by simpa using hm)
  rw [h] at this
  cases this
theorem chk_nodup {ops : List OpS} {l : List Int} (h : chkS ops l = 0) : l.Nodup := by
  refine dup_nodup ?_
  cases hd : dupS l with
  | false => rfl
  | true =>
    unfold chkS at h
    rw [hd] at h
    split at h
    · cases h
    · simp at h
/-- The order in which results were computed is accepted. -/
theorem fill_ok (ops : List OpS) (l : List Int) (h : chkS ops l = 0) : replayS (fillS ops [] l) l = 0 := by
  unfold replayS
  rw [fill_chk, h]
  rw [if_neg (by simp), if_pos (fill_run l ops [] (chk_nodup h) (chk_rng h))]
end Go.Proofs.YtphlhadgcfndhaaGreat.Abs
end
section
namespace Go.Proofs.YtphlhadgcfndhaaGreat.Abs
open Go Go.RowKit
/-- The last of the first k operations that is of a process. -/
def lastP (ops : List OpS) (p : Int) : Nat → Int
  | 0 => -1
  | k + 1 => match ops[k]? with
    | some o => if o.p = p then k else lastP ops p k
    | none => lastP ops p k
theorem lastP_lt (ops : List OpS) (p : Int) : ∀ k, -1 ≤ lastP ops p k ∧ lastP ops p k < k
  | 0 => ⟨by show (-1 : Int) ≤ -1; omega, by show (-1 : Int) < 0; omega⟩
  | k + 1 => by
    have ih := lastP_lt ops p k
    unfold lastP
    split
    · split <;> omega
    · omega
def openP (ops : List OpS) (p : Int) : Int := match opAt ops (lastP ops p ops.length) with
  | some o => if o.ret ≠ 0 then -1 else lastP ops p ops.length
  | none => -1
def newO (n ev : Int) : OpS := ⟨101 + digitI n 6 0, 1 + digitI n 3 2, if digitI n 3 2 = 0 then [effS n (digitI n 2 9 == 1)] else [], [], ev, 0⟩
def timesE (ops : List OpS) (n ev : Int) : List OpS := match opAt ops (openP ops (101 + digitI n 6 0)) with
  | some o => if 0 < digitI n 8 3 then ops.set (openP ops (101 + digitI n 6 0)).toNat { o with ret := ev } else ops ++ [newO n ev]
  | none => ops ++ [newO n ev]
def timesS (l : List Int) : Nat → List OpS
  | 0 => []
  | i + 1 => timesE (timesS l i) (l[i]?.getD 0) (i + 1)
theorem opAt_mem {ops : List OpS} {x : Int} {o : OpS} (h : opAt ops x = some o) : o ∈ ops := by
  unfold opAt at h
  split at h
  · exact List.mem_of_getElem? h
  · cases h
theorem timesE_ok {ops : List OpS} {N : Nat} (hK : KiOk ops) (hE : EfOk ops) (hl : ops.length ≤ N) (n ev : Int) : KiOk (timesE ops n ev) ∧ EfOk (timesE ops n ev) ∧ (timesE ops n ev).length ≤ N + 1 := by
  have hnew : KiOk (ops ++ [newO n ev]) ∧ EfOk (ops ++ [newO n ev]) ∧ (ops ++ [newO n ev]).length ≤ N + 1 := by
    have hd := digitP_lt n (b := 3) (by omega) 2
    refine ⟨fun o ho => ?_, fun o ho => ?_, ?_⟩
    · rcases List.mem_append.1 ho with ho | ho
      · exact hK o ho
      · rw [List.mem_singleton.1 ho]
        show 1 + digitI n 3 2 = 1 ∨ 1 + digitI n 3 2 = 2 ∨ 1 + digitI n 3 2 = 3
        omega
    · rcases List.mem_append.1 ho with ho | ho
      · exact hE o ho
      · rw [List.mem_singleton.1 ho]
        show (if digitI n 3 2 = 0 then [effS n (digitI n 2 9 == 1)] else []).length ≤ 10
        split <;> simp
    · rw [List.length_append]
      exact Nat.add_le_add_right hl 1
  unfold timesE
  split
  · rename_i o ho
    split
    · have hm := opAt_mem ho
      refine ⟨fun q hq => ?_, fun q hq => ?_, ?_⟩
      · rcases List.mem_or_eq_of_mem_set hq with hq | rfl
        · exact hK q hq
        · exact hK o hm
      · rcases List.mem_or_eq_of_mem_set hq with hq | rfl
        · exact hE q hq
        · exact hE o hm
      · rw [List.length_set]
        omega
    · exact hnew
  · exact hnew
theorem timesS_ok (l : List Int) : ∀ i, KiOk (timesS l i) ∧ EfOk (timesS l i) ∧ (timesS l i).length ≤ i
  | 0 => ⟨fun _ h => (by cases h), fun _ h => (by cases h), Nat.le_refl _⟩
  | i + 1 => by
    obtain ⟨h1, h2, h3⟩ := timesS_ok l i
    exact timesE_ok h1 h2 h3 _ _
end Go.Proofs.YtphlhadgcfndhaaGreat.Abs
end
section
namespace Go.Proofs.YtphlhadgcfndhaaGreat.Abs
open Go Go.RowKit
set_option linter.unusedVariables false
set_option linter.unusedSimpArgs false
set_option maxHeartbeats 4000000
set_option maxRecDepth 8000
abbrev timSt (l : List Int) (W : List OpS) (i : Nat) : St := ⟨[(0, .c (encis l)), (2, .c (.ptr 0 0 0)), (3, .c (.ptr 1 0 0)), (4, .c (cI i)), (5, .c (cI i))], [(0, ⟨1, [[.sc (.slice none 0 0)]]⟩), (1, ⟨1, [[.ref 2 0 W.length]]⟩), (2, ⟨6, W.map encOp⟩)], 3⟩
theorem times_pure (l : List Int) (hl : l.length < 4000000000000000000) : Pure Tryz.prog 21 [.c (encis l)] (.agg (encHi (timesS l (min 40 l.length)))) := by
  refine pure_of teOk Tryz.func21 (by kernel_rfl) (c := _) rfl (N := 104) rfl (rs := [Go.ResultVar.cell 2 26]) rfl (by simp) fun base A w0 hA => ?_
  refine AW.st teOk [] (by simp [-Option.some.injEq] <;> rfl) trivial ?_
  refine AW.st teOk [] (by simp [-Option.some.injEq] <;> rfl) trivial ?_
  refine AW.to (s2 := ⟨[(0, .c (encis l)), (2, .c (.ptr 0 0 0)), (3, .c (.ptr 1 0 0))], [(0, ⟨1, [[.sc (.slice none 0 0)]]⟩), (1, ⟨1, [[.ref 2 0 0]]⟩), (2, ⟨6, []⟩)], 3⟩) ((Weak.nilO 2 0 6 (q := 1) (cs := [.sc (.slice none 0 0)]) _ (by simp) rfl (by simp)).trans (Weak.normS hA [0, 2, 3] [(2, 0), (3, 1)] [(4, 2)] [2] 3 _ (by simp [putA]) (by simp [putA]) (by simp [putA]))) (by simp [putA]) ?_
  refine AW.st teOk [] (by simp [-Option.some.injEq] <;> rfl) trivial ?_
  refine AW.seq ?_
  refine AW.st teOk [] (by simp [-Option.some.injEq] <;> rfl) trivial ?_
  refine AW.block (AW.loop (fun m s => ∃ i : Nat, m = 40 - i ∧ i ≤ 40 ∧ i ≤ l.length ∧ s = timSt l (timesS l i) i) _ (Weak.normS hA [0, 2, 3, 4, 5] [(2, 0), (3, 1)] [(2, 2)] [1] 3 _ (by simp) (by simp) (by simp)) ⟨0, rfl, by omega, Nat.zero_le _, by simp; exact ⟨rfl, rfl⟩⟩ ?_)
  rintro m s ⟨i, rfl, hi, hil, rfl⟩
  have hfin : i = min 40 l.length → timesS l (min 40 l.length) = timesS l i := fun h => by rw [← h]
  obtain ⟨W, hW⟩ : ∃ W, W = timesS l i := ⟨_, rfl⟩
  rw [← hW] at hfin ⊢
  refine AW.seq ?_
  by_cases h1 : i < l.length
  · by_cases h2 : (i : Int) < 40
    · refine AW.st teOk [] (by simp [h1, h2, -Option.some.injEq] <;> rfl) ?_ ?_
      · trivial
      refine AW.iff true (by simp) (fun _ => AW.skip ?_) (fun h => by cases h)
      obtain ⟨n, hx⟩ : ∃ e, l[i]? = some e := ⟨_, List.getElem?_eq_getElem h1⟩
      have hnx : timesS l (i + 1) = timesE W n (i + 1) := by rw [hW]; show timesE _ (l[i]?.getD 0) _ = _; rw [hx]; rfl
      have hWl : W.length ≤ 40 := by have := (timesS_ok l i).2.2; rw [← hW] at this; omega
      have hwi : IntKind.i64.wrap ((i : Int) + 1) = (i : Int) + 1 := wrap_s i (by omega)
      obtain ⟨d1, d2⟩ := digitP_lt n (b := 6) (by omega) 0
      have hdp := dP n 6 0 (by decide) (by decide)
      have hwp : IntKind.i64.wrap (101 + digitI n 6 0) = 101 + digitI n 6 0 := by rw [IntKind.wrap_i64]; omega
      refine AW.mid (fun s => s = ⟨[(0, .c (encis l)), (2, .c (.ptr 0 0 0)), (3, .c (.ptr 1 0 0)), (4, .c (cI (i + 1 : Nat))), (5, .c (cI i))], [(0, ⟨1, [[.sc (.slice none 0 0)]]⟩), (1, ⟨1, [[.ref 2 0 (timesE W n (i + 1)).length]]⟩), (2, ⟨6, (timesE W n (i + 1)).map encOp⟩)], 3⟩) (AW.block ?_) ?_
      · refine AW.st teOk [] (by simp [hwi, -Option.some.injEq] <;> rfl) trivial ?_
        refine AW.st teOk [.fz (.c (cI (digitI n 6 0)))] (by simp [hx, hwp, -Option.some.injEq] <;> rfl) ?_ ?_
        · exact ⟨h1, hdp⟩
        refine AW.st teOk [] (by simp [-Option.some.injEq] <;> rfl) trivial ?_
        obtain ⟨p, hp⟩ : ∃ p, p = 101 + digitI n 6 0 := ⟨_, rfl⟩
        rw [← hp]
        refine AW.mid (fun s => s = ⟨[(0, .c (encis l)), (2, .c (.ptr 0 0 0)), (3, .c (.ptr 1 0 0)), (4, .c (cI (i + 1 : Nat))), (5, .c (cI i)), (6, .c (cI p)), (7, .c (cI (lastP W p W.length)))], [(0, ⟨1, [[.sc (.slice none 0 0)]]⟩), (1, ⟨1, [[.ref 2 0 W.length]]⟩), (2, ⟨6, W.map encOp⟩)], 3⟩) ?_ ?_
        · refine AW.st teOk [] (by simp [-Option.some.injEq] <;> rfl) trivial ?_
          refine AW.block (AW.loop (fun m s => ∃ k : Nat, m = W.length - k ∧ k ≤ W.length ∧ s = ⟨[(0, .c (encis l)), (2, .c (.ptr 0 0 0)), (3, .c (.ptr 1 0 0)), (4, .c (cI (i + 1 : Nat))), (5, .c (cI i)), (6, .c (cI p)), (7, .c (cI (lastP W p k))), (8, .c (cI k))], [(0, ⟨1, [[.sc (.slice none 0 0)]]⟩), (1, ⟨1, [[.ref 2 0 W.length]]⟩), (2, ⟨6, W.map encOp⟩)], 3⟩) _ (Weak.normS hA [0, 2, 3, 4, 5, 6, 7, 8] [(2, 0), (3, 1)] [(2, 2)] [1] 3 _ (by simp) (by simp) (by simp; exact flatOpsM _)) ⟨0, rfl, Nat.zero_le _, by simp; rfl⟩ ?_)
          rintro m s ⟨k, rfl, hk, rfl⟩
          refine AW.seq ?_
          refine AW.st teOk [] (by simp [-Option.some.injEq] <;> rfl) trivial ?_
          refine AW.iff (decide (k < W.length)) (by simp) (fun h => AW.skip ?_) (fun h => AW.exit (x_then (x_then (blockA_exit ?_))))
          · rw [decide_eq_true_eq] at h
            obtain ⟨q, hq⟩ : ∃ e, W[k]? = some e := ⟨_, List.getElem?_eq_getElem h⟩
            have hlp : lastP W p (k + 1) = if q.p = p then (k : Int) else lastP W p k := by rw [lastP, hq]
            refine AW.seq (AW.block ?_)
            refine AW.st teOk [] (by simp [hq, -Option.some.injEq] <;> rfl) ?_ ?_
            · first | trivial | omega | (simp; omega)
            by_cases hqp : q.p = p
            · refine AW.iff true (by simp [hqp]) (fun _ => ?_) (fun h => by cases h)
              rw [if_pos hqp] at hlp
              refine AW.text teOk (ans := []) (by simp [-Option.some.injEq] <;> rfl) ?_ ?_
              · trivial
              refine AW.text teOk (ans := []) (by simp [-Option.some.injEq] <;> rfl) ?_ ?_
              · trivial
              refine ⟨_, _, Weak.normS hA [0, 2, 3, 4, 5, 6, 7, 8] [(2, 0), (3, 1)] [(2, 2)] [1] 3 _ (by simp) (by simp) (by simp; exact flatOpsM _), ?_, k + 1, rfl, h, ?_⟩
              · omega
              · rw [hlp]
                simp
                exact wrap_s k (by omega)
            · refine AW.iff false (by simp [hqp]) (fun h => by cases h) (fun _ => AW.skip ?_)
              rw [if_neg hqp] at hlp
              refine AW.text teOk (ans := []) (by simp [-Option.some.injEq] <;> rfl) ?_ ?_
              · trivial
              refine ⟨_, _, Weak.normS hA [0, 2, 3, 4, 5, 6, 7, 8] [(2, 0), (3, 1)] [(2, 2)] [1] 3 _ (by simp) (by simp) (by simp; exact flatOpsM _), ?_, k + 1, rfl, h, ?_⟩
              · omega
              · rw [hlp]
                simp
                exact wrap_s k (by omega)
          · rw [decide_eq_false_iff_not] at h
            have : k = W.length := by omega
            subst this
            exact ⟨_, Weak.normS hA [0, 2, 3, 4, 5, 6, 7] [(2, 0), (3, 1)] [(2, 2)] [1] 3 _ (by simp) (by simp) (by simp; exact flatOpsM _), by simp⟩
        rintro s rfl
        obtain ⟨K, hK⟩ : ∃ K, K = lastP W p W.length := ⟨_, rfl⟩
        have hKl := lastP_lt W p W.length
        rw [← hK] at hKl ⊢
        refine AW.mid (fun s => s = ⟨[(0, .c (encis l)), (2, .c (.ptr 0 0 0)), (3, .c (.ptr 1 0 0)), (4, .c (cI (i + 1 : Nat))), (5, .c (cI i)), (6, .c (cI p)), (7, .c (cI (openP W p)))], [(0, ⟨1, [[.sc (.slice none 0 0)]]⟩), (1, ⟨1, [[.ref 2 0 W.length]]⟩), (2, ⟨6, W.map encOp⟩)], 3⟩) ?_ ?_
        · by_cases hK0 : 0 ≤ K
          · have hKr : inR W.length K = true := by simp only [inR, Bool.and_eq_true, decide_eq_true_eq]; omega
            obtain ⟨q, hq1, hq2, _, _⟩ := opAt_some hKr
            have hop : openP W p = if q.ret ≠ 0 then -1 else K := by unfold openP; rw [← hK, hq1]
            have hge : K ≥ 0 := hK0
            cases hz : (q.ret != 0) with
            | true =>
              have hz' : q.ret ≠ 0 := by simpa using hz
              rw [hop, if_pos hz']
              refine AW.st teOk [] (by simp [hge, hq2, hz, -Option.some.injEq] <;> rfl) ?_ ?_
              · first | trivial | omega | (simp; omega)
              refine AW.iff true (by simp) (fun _ => ?_) (fun h => by cases h)
              refine AW.text teOk (ans := []) (by simp [-Option.some.injEq] <;> rfl) ?_ ?_
              · trivial
              exact ⟨_, Weak.normS hA [0, 2, 3, 4, 5, 6, 7] [(2, 0), (3, 1)] [(2, 2)] [1] 3 _ (by simp) (by simp) (by simp; exact flatOpsM _), by simp⟩
            | false =>
              have hz' : ¬ q.ret ≠ 0 := by simpa using hz
              rw [hop, if_neg hz']
              refine AW.st teOk [] (by simp [hge, hq2, hz, -Option.some.injEq] <;> rfl) ?_ ?_
              · first | trivial | omega | (simp; omega)
              refine AW.iff false (by simp) (fun h => by cases h) (fun _ => AW.skip ?_)
              exact ⟨_, Weak.normS hA [0, 2, 3, 4, 5, 6, 7] [(2, 0), (3, 1)] [(2, 2)] [1] 3 _ (by simp) (by simp) (by simp; exact flatOpsM _), by simp⟩
          · have hop : openP W p = K := by unfold openP; rw [← hK]; unfold opAt; rw [if_neg hK0]; show (-1 : Int) = K; omega
            have hge : ¬ K ≥ 0 := hK0
            rw [hop]
            refine AW.st teOk [] (by simp [hge, -Option.some.injEq] <;> rfl) ?_ ?_
            · first | trivial | omega | (simp; omega)
            refine AW.iff false (by simp) (fun h => by cases h) (fun _ => AW.skip ?_)
            exact ⟨_, Weak.normS hA [0, 2, 3, 4, 5, 6, 7] [(2, 0), (3, 1)] [(2, 2)] [1] 3 _ (by simp) (by simp) (by simp; exact flatOpsM _), by simp⟩
        rintro s rfl
        obtain ⟨O, hO⟩ : ∃ O, O = openP W p := ⟨_, rfl⟩
        have hd8 := dP n 8 3 (by decide) (by decide)
        have htE : timesE W n (i + 1) = match opAt W O with
            | some o => if 0 < digitI n 8 3 then W.set O.toNat { o with ret := (i : Int) + 1 } else W ++ [newO n (i + 1)]
            | none => W ++ [newO n (i + 1)] := by rw [hO, hp]; rfl
        rw [← hO]
        by_cases hset : (∃ o, opAt W O = some o) ∧ 0 < digitI n 8 3
        · obtain ⟨⟨o, ho⟩, hdig⟩ := hset
          rw [ho] at htE
          simp only [hdig, if_true] at htE
          have hO0 : O ≥ 0 ∧ W[O.toNat]? = some o := by
            unfold opAt at ho
            split at ho
            · exact ⟨by omega, ho⟩
            · cases ho
          obtain ⟨hge, hoW⟩ := hO0
          have hOl := (List.getElem?_eq_some_iff.1 hoW).1
          have hgt : digitI n 8 3 > 0 := hdig
          have hfl : flatO ⟨6, (W.map encOp).set O.toNat (encOp { o with ret := (i : Int) + 1 })⟩ = true := by rw [← List.map_set]; exact flatOpsM _
          refine AW.seq ?_
          refine AW.st teOk [.fz (.c (cI (digitI n 8 3)))] (by simp [hge, hx, hgt, -Option.some.injEq] <;> rfl) ?_ ?_
          · exact ⟨h1, hd8⟩
          refine AW.iff true (by simp) (fun _ => ?_) (fun h => by cases h)
          refine AW.st teOk [] (by simp [hoW, -Option.some.injEq] <;> rfl) ?_ ?_
          · first | trivial | omega | (simp; omega)
          refine AW.exit (x_then (blockA_exit ?_))
          rw [htE]
          exact ⟨_, Weak.normS hA [0, 2, 3, 4, 5] [(2, 0), (3, 1)] [(2, 2)] [1] 3 _ (by simp) (by simp) (by simp; exact hfl), by simp⟩
        · have hO1 : O ≥ 0 → ∃ o, opAt W O = some o := by
            rw [hO]
            unfold openP
            cases hm : opAt W (lastP W p W.length) with
            | none => intro h; simp at h
            | some o =>
              simp only
              split
              · intro h; omega
              · intro _; exact ⟨o, hm⟩
          have htn : timesE W n (i + 1) = W ++ [newO n (i + 1)] := by
            rw [htE]
            cases ho : opAt W O with
            | none => rfl
            | some o =>
              simp only
              rw [if_neg fun hd => hset ⟨⟨o, ho⟩, hd⟩]
          refine AW.mid (fun s => s = ⟨[(0, .c (encis l)), (2, .c (.ptr 0 0 0)), (3, .c (.ptr 1 0 0)), (4, .c (cI (i + 1 : Nat))), (5, .c (cI i)), (6, .c (cI p))], [(0, ⟨1, [[.sc (.slice none 0 0)]]⟩), (1, ⟨1, [[.ref 2 0 W.length]]⟩), (2, ⟨6, W.map encOp⟩)], 3⟩) ?_ ?_
          · by_cases hge : O ≥ 0
            · have hng : ¬ digitI n 8 3 > 0 := fun h => hset ⟨hO1 hge, h⟩
              refine AW.st teOk [.fz (.c (cI (digitI n 8 3)))] (by simp [hge, hx, hng, -Option.some.injEq] <;> rfl) ?_ ?_
              · exact ⟨h1, hd8⟩
              refine AW.iff false (by simp) (fun h => by cases h) (fun _ => AW.skip ?_)
              exact ⟨_, Weak.normS hA [0, 2, 3, 4, 5, 6] [(2, 0), (3, 1)] [(2, 2)] [1] 3 _ (by simp) (by simp) (by simp; exact flatOpsM _), by simp⟩
            · refine AW.st teOk [] (by simp [hge, -Option.some.injEq] <;> rfl) ?_ ?_
              · first | trivial | omega | (simp; omega)
              refine AW.iff false (by simp) (fun h => by cases h) (fun _ => AW.skip ?_)
              exact ⟨_, Weak.normS hA [0, 2, 3, 4, 5, 6] [(2, 0), (3, 1)] [(2, 2)] [1] 3 _ (by simp) (by simp) (by simp; exact flatOpsM _), by simp⟩
          rintro s rfl
          have hd3 := dP n 3 2 (by decide) (by decide)
          have hd2 := dP n 2 9 (by decide) (by decide)
          have hef := eff_pure n (digitI n 2 9 == 1)
          obtain ⟨k1, k2⟩ := digitP_lt n (b := 3) (by omega) 2
          have hw3 : IntKind.i64.wrap (1 + digitI n 3 2) = 1 + digitI n 3 2 := by rw [IntKind.wrap_i64]; omega
          have hnew : newO n (i + 1) = ⟨p, 1 + digitI n 3 2, if digitI n 3 2 = 0 then [effS n (digitI n 2 9 == 1)] else [], [], i + 1, 0⟩ := by rw [hp]; rfl
          rw [htn, hnew]
          generalize effS n (digitI n 2 9 == 1) = E at *
          refine AW.st teOk [.fz (.c (cI (digitI n 3 2)))] (by simp [hx, hw3, -Option.some.injEq] <;> rfl) ?_ ?_
          · exact ⟨h1, hd3⟩
          refine AW.mid (fun s => s = ⟨[(0, .c (encis l)), (2, .c (.ptr 0 0 0)), (3, .c (.ptr 1 0 0)), (4, .c (cI (i + 1 : Nat))), (5, .c (cI i)), (9, .c (.fad (encOp ⟨p, 1 + digitI n 3 2, if digitI n 3 2 = 0 then [E] else [], [], i + 1, 0⟩)))], [(0, ⟨1, [[.sc (.slice none 0 0)]]⟩), (1, ⟨1, [[.ref 2 0 W.length]]⟩), (2, ⟨6, W.map encOp⟩)], 3⟩) ?_ ?_
          · refine AW.st teOk [] (by simp [-Option.some.injEq] <;> rfl) trivial ?_
            by_cases hk : digitI n 3 2 = 0
            · refine AW.iff true (by simp [hk]) (fun _ => ?_) (fun h => by cases h)
              refine AW.draw mixed teOk (ans := [.c (cI (digitI n 2 9)), .agg (encE' E)]) (by simp [hx, -Option.some.injEq] <;> rfl) (by kernel_rfl) (by kernel_rfl) ?_ ?_
              · simp [allP]
                exact ⟨h1, hd2, hef⟩
              exact ⟨_, (Weak.leO 11 _ (o := ⟨6, [[cI p, cI (1 + digitI n 3 2), .row 5 true [encE' E], .sc (.slice none 0 0), cI ((i : Int) + 1), cI 0]]⟩) (o' := ⟨6, [encOp ⟨p, 1 + digitI n 3 2, if digitI n 3 2 = 0 then [E] else [], [], (i : Int) + 1, 0⟩]⟩) (by simp) rfl rfl (leCs_mid (a := []) (b := []) (by rw [if_pos hk]; exact .cons (.refl _) (.cons (.refl _) (.cons (LeC.loose 5 true _) (.cons (.nil 10) (.cons (.refl _) (.cons (.refl _) .nil)))))))).trans ((Weak.freeze 11 ⟨6, [encOp ⟨p, 1 + digitI n 3 2, if digitI n 3 2 = 0 then [E] else [], [], (i : Int) + 1, 0⟩]⟩ [] _ (by simp) rfl).trans (Weak.normS hA [0, 2, 3, 4, 5, 9] [(2, 0), (3, 1)] [(2, 2)] [1] 3 _ (by simp) (by simp) (by simp [mapAt_nil]; exact flatOpsM _))), by simp [mapAt_nil]⟩
            · refine AW.iff false (by simp; omega) (fun h => by cases h) (fun _ => AW.skip ?_)
              exact ⟨_, (Weak.leO 11 _ (o := ⟨6, [[cI p, cI (1 + digitI n 3 2), .sc (.slice none 0 0), .sc (.slice none 0 0), cI ((i : Int) + 1), cI 0]]⟩) (o' := ⟨6, [encOp ⟨p, 1 + digitI n 3 2, if digitI n 3 2 = 0 then [E] else [], [], (i : Int) + 1, 0⟩]⟩) (by simp) rfl rfl (leCs_mid (a := []) (b := []) (by rw [if_neg hk]; exact .cons (.refl _) (.cons (.refl _) (.cons (.nil 5) (.cons (.nil 10) (.cons (.refl _) (.cons (.refl _) .nil)))))))).trans ((Weak.freeze 11 ⟨6, [encOp ⟨p, 1 + digitI n 3 2, if digitI n 3 2 = 0 then [E] else [], [], (i : Int) + 1, 0⟩]⟩ [] _ (by simp) rfl).trans (Weak.normS hA [0, 2, 3, 4, 5, 9] [(2, 0), (3, 1)] [(2, 2)] [1] 3 _ (by simp) (by simp) (by simp [mapAt_nil]; exact flatOpsM _))), by simp [mapAt_nil]⟩
          rintro s rfl
          obtain ⟨oN, hoN⟩ : ∃ o : OpS, o = ⟨p, 1 + digitI n 3 2, if digitI n 3 2 = 0 then [E] else [], [], (i : Int) + 1, 0⟩ := ⟨_, rfl⟩
          rw [← hoN]
          refine AW.text teOk (ans := []) (by simp [-Option.some.injEq] <;> rfl) ?_ ?_
          · simp [growOk]
            omega
          exact ⟨_, Weak.normS hA [0, 2, 3, 4, 5] [(2, 0), (3, 1)] [(7, 2)] [1] 3 _ (by simp) (by simp) (by simp; exact flatOpsM _), by simp⟩
      rintro s rfl
      refine AW.text teOk (ans := []) (by simp [-Option.some.injEq] <;> rfl) ?_ ?_
      · trivial
      refine ⟨_, _, Weak.normS hA [0, 2, 3, 4, 5] [(2, 0), (3, 1)] [(2, 2)] [1] 3 _ (by simp) (by simp) (by simp; exact flatOpsM _), ?_, i + 1, rfl, by omega, by omega, ?_⟩
      · omega
      · rw [hnx]
        simp [hwi]
    · rw [hfin (by omega)]
      refine AW.st teOk [] (by simp [h1, h2, -Option.some.injEq] <;> rfl) ?_ ?_
      · trivial
      refine AW.iff false (by simp) (fun h => by cases h) (fun _ => AW.exit (x_then (x_then (blockA_exit ?_))))
      refine AW.st teOk [] (by simp [-Option.some.injEq] <;> rfl) ?_ ?_
      · trivial
      refine AW.ret ⟨.inr rfl, _, Weak.freeze 2 ⟨6, W.map encOp⟩ [0, 1] _ (by simp) (flatOpsM W), ?_⟩
      simp
  · rw [hfin (by omega)]
    refine AW.st teOk [] (by simp [h1, -Option.some.injEq] <;> rfl) ?_ ?_
    · trivial
    refine AW.iff false (by simp) (fun h => by cases h) (fun _ => AW.exit (x_then (x_then (blockA_exit ?_))))
    refine AW.st teOk [] (by simp [-Option.some.injEq] <;> rfl) ?_ ?_
    · trivial
    refine AW.ret ⟨.inr rfl, _, Weak.freeze 2 ⟨6, W.map encOp⟩ [0, 1] _ (by simp) (flatOpsM W), ?_⟩
    simp
end Go.Proofs.YtphlhadgcfndhaaGreat.Abs
end
