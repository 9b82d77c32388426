/- Joined for the claim: WPk WPl WPm WPn WPp WQd WPo -/
import Derived.Test.YtphlhadgcfndhaaGreatJd12
import Derived.Test.YtphlhadgcfndhaaGreatJd10
import Derived.Test.YtphlhadgcfndhaaGreatJd9
section
namespace Go.Proofs.YtphlhadgcfndhaaGreat.Abs
open Go Go.RowKit
set_option linter.unusedVariables false
set_option linter.unusedSimpArgs false
set_option maxHeartbeats 4000000
set_option maxRecDepth 8000
def fillS : List OpS → List HV → List Int → List OpS
  | ops, _, [] => ops
  | ops, vs, x :: l => match opAt ops x with
    | some o => if o.kind = 1 then fillS ops (stepV vs o) l else fillS (ops.set x.toNat { o with res := vs }) vs l
    | none => ops
theorem flatOpsM (ops : List OpS) : flatO ⟨6, ops.map encOp⟩ = true := flatO_of fun e he => by
  obtain ⟨o, _, rfl⟩ := List.mem_map.1 he
  rfl
abbrev filSt (l : List Int) (W : List OpS) (vs : List HV) (i : Nat) : St := ⟨[(1, .c (encis l)), (4, .c (.ptr 0 0 0)), (5, .c (.ptr 1 0 0)), (6, .c (encHs vs)), (7, .c (cI i))], [(0, ⟨1, [[.sc (.slice none 0 0)]]⟩), (1, ⟨1, [[.ref 2 0 W.length]]⟩), (2, ⟨6, W.map encOp⟩)], 3⟩
theorem fill_pure (ops : List OpS) (l : List Int) (hn : ops.length < 1000000) (hl : l.length < 1000) (hE : EfOk ops) (hin : ∀ x ∈ l, inR ops.length x = true) : Pure Tryz.prog 10 [.agg (encHi ops), .c (encis l)] (.agg (encHi (fillS ops [] l))) := by
  refine pure_of teOk Tryz.func10 (by kernel_rfl) (c := _) rfl (N := 45) rfl (rs := [Go.ResultVar.cell 4 26]) rfl (by simp) fun base A w0 hA => ?_
  refine AW.st teOk [] (by simp [-Option.some.injEq] <;> rfl) trivial ?_
  refine AW.st teOk [] (by simp [-Option.some.injEq] <;> rfl) ?_ ?_
  · simp [growOk]
    omega
  refine AW.st teOk [] (by simp [-Option.some.injEq] <;> rfl) trivial ?_
  refine AW.weak (Weak.le 6 _ (v' := .c (encHs [])) (by simp <;> rfl) (.c (.nil 10))) ?_
  refine AW.seq ?_
  refine AW.st teOk [] (by simp [-Option.some.injEq] <;> rfl) trivial ?_
  refine AW.block (AW.loop (fun m s => ∃ (i : Nat) (W : List OpS) (vs : List HV), m = l.length - i ∧ i ≤ l.length ∧ VOk (10 * i) vs ∧ EfOk W ∧ W.length = ops.length ∧ fillS ops [] l = fillS W vs (l.drop i) ∧ s = filSt l W vs i) _ (Weak.normS hA [1, 4, 5, 6, 7] [(4, 0), (5, 1)] [(5, 2)] [7] 3 _ (by simp [putT]) (by simp [putT]) (by simp [putT]; exact flatOpsM _)) ⟨0, ops, [], rfl, Nat.zero_le _, VOk.nil, hE, rfl, rfl, by simp [putT]⟩ ?_)
  rintro m s ⟨i, W, vs, rfl, hi, hv, hW, hWl, hr, rfl⟩
  refine AW.seq ?_
  refine AW.st teOk [] (by simp [-Option.some.injEq] <;> rfl) trivial ?_
  refine AW.iff (decide (i < l.length)) (by simp) (fun h => AW.skip ?_) (fun h => AW.exit (x_then (x_then (blockA_exit ?_))))
  · rw [decide_eq_true_eq] at h
    obtain ⟨x, he⟩ : ∃ e, l[i]? = some e := ⟨_, List.getElem?_eq_getElem h⟩
    obtain ⟨o, ho, hx2, hx3, hx4⟩ := opAt_some (hWl ▸ hin x (List.mem_of_getElem? he))
    have hef := hW o (List.mem_of_getElem? hx2)
    have hd : l.drop i = x :: l.drop (i + 1) := by
      rw [List.drop_eq_getElem_cons h]
      congr 1
      rw [List.getElem?_eq_getElem h] at he
      exact Option.some.inj he
    refine AW.seq (AW.block ?_)
    refine AW.dr mixed teOk [] (by simp [he, hx2, -Option.some.injEq] <;> rfl) (by kernel_rfl) (by kernel_rfl) ?_ ?_
    · simp [allP]
      omega
    refine AW.st teOk [] (by simp [hx2, -Option.some.injEq] <;> rfl) trivial ?_
    by_cases hk : o.kind = 1
    · have hst := rstepK_pure hv (by omega) hef (.inl hk)
      refine AW.iff true (by simp [hk]) (fun _ => ?_) (fun h => by cases h)
      refine AW.text teOk (ans := [.fz (.tup [.c (encHs (stepV vs o)), .c (cB (okV vs o))])]) (by simp [hx2, -Option.some.injEq] <;> rfl) ?_ ?_
      · exact hst
      refine AW.text teOk (ans := []) (by simp [-Option.some.injEq] <;> rfl) ?_ ?_
      · trivial
      refine ⟨_, _, Weak.normS hA [1, 4, 5, 6, 7] [(4, 0), (5, 1)] [(2, 2)] [1] 3 _ (by simp) (by simp) (by simp; exact flatOpsM _), ?_, i + 1, W, stepV vs o, rfl, h, (hv.step o).le (by omega), hW, hWl, ?_, ?_⟩
      · omega
      · rw [hr, hd, fillS, ho]
        simp [hk]
      · simp
        exact wrap_s i (by omega)
    · refine AW.iff false (by simp [hk]) (fun h => by cases h) (fun _ => ?_)
      have hfl : flatO ⟨6, (W.map encOp).set x.toNat (encOp { o with res := vs })⟩ = true := by rw [← List.map_set]; exact flatOpsM _
      refine AW.text teOk (ans := []) (by simp [hx2, -Option.some.injEq] <;> rfl) ?_ ?_
      · trivial
      refine AW.text teOk (ans := []) (by simp [-Option.some.injEq] <;> rfl) ?_ ?_
      · trivial
      refine ⟨_, _, Weak.normS hA [1, 4, 5, 6, 7] [(4, 0), (5, 1)] [(2, 2)] [1] 3 _ (by simp) (by simp) (by simp; exact hfl), ?_, i + 1, W.set x.toNat { o with res := vs }, vs, rfl, h, hv.le (by omega), ?_, by rw [List.length_set]; exact hWl, ?_, ?_⟩
      · omega
      · intro q hq
        rcases List.mem_or_eq_of_mem_set hq with hq | rfl
        · exact hW q hq
        · exact hef
      · rw [hr, hd, fillS, ho]
        simp [hk]
      · simp
        exact wrap_s i (by omega)
  · rw [decide_eq_false_iff_not] at h
    have hend : fillS ops [] l = W := by rw [hr, List.drop_eq_nil_of_le (by omega), fillS]
    rw [hend]
    refine AW.st teOk [] (by simp [-Option.some.injEq] <;> rfl) ?_ ?_
    · trivial
    refine AW.ret ⟨.inr rfl, _, Weak.freeze 2 ⟨6, W.map encOp⟩ [0, 1] _ (by simp) (flatOpsM W), ?_⟩
    simp
end Go.Proofs.YtphlhadgcfndhaaGreat.Abs
end
section
namespace Go.Proofs.YtphlhadgcfndhaaGreat.Abs
open Go Go.RowKit
theorem opAt_set {ops : List OpS} {x : Int} {o' : OpS} (hx : inR ops.length x = true) (y : Int) : opAt (ops.set x.toNat o') y = if y = x then some o' else opAt ops y := by
  simp only [inR, Bool.and_eq_true, decide_eq_true_eq] at hx
  unfold opAt
  by_cases hy : 0 ≤ y
  · rw [if_pos hy, if_pos hy, List.getElem?_set]
    by_cases e : y = x
    · subst e
      rw [if_pos rfl, if_pos rfl, if_pos (by omega)]
    · rw [if_neg (by omega), if_neg e]
  · rw [if_neg hy, if_neg hy, if_neg (by omega)]
theorem fill_get : ∀ (l : List Int) (ops : List OpS) (vs : List HV) (y : Int), y ∉ l → (∀ x ∈ l, inR ops.length x = true) → opAt (fillS ops vs l) y = opAt ops y
  | [], _, _, _, _, _ => rfl
  | x :: l, ops, vs, y, hy, hin => by
    have hxr := hin x (by simp)
    obtain ⟨o, ho, _⟩ := opAt_some hxr
    rw [fillS, ho]
    simp only [List.mem_cons, not_or] at hy
    by_cases hk : o.kind = 1
    · simp only [hk, if_true]
      exact fill_get l ops _ y hy.2 fun z hz => hin z (by simp [hz])
    · simp only [hk, if_false]
      rw [fill_get l _ _ y hy.2 fun z hz => by rw [List.length_set]; exact hin z (by simp [hz]), opAt_set hxr, if_neg hy.1]
theorem fill_run : ∀ (l : List Int) (ops : List OpS) (vs : List HV), l.Nodup → (∀ x ∈ l, inR ops.length x = true) → (runS (fillS ops vs l) vs l).isSome = true
  | [], _, _, _, _ => rfl
  | x :: l, ops, vs, hn, hin => by
    have hxr := hin x (by simp)
    obtain ⟨o, ho, _⟩ := opAt_some hxr
    rw [List.nodup_cons] at hn
    rw [fillS, ho]
    by_cases hk : o.kind = 1
    · simp only [hk, if_true]
      have hi : ∀ z ∈ l, inR ops.length z = true := fun z hz => hin z (by simp [hz])
      have hok : okV vs o = true := by unfold okV; rw [if_neg (by omega)]
      rw [runS, fill_get l _ _ x hn.1 hi, ho]
      simp only [hok, if_true]
      exact fill_run l ops _ hn.2 hi
    · simp only [hk, if_false]
      have hi : ∀ z ∈ l, inR (ops.set x.toNat { o with res := vs }).length z = true := fun z hz => by rw [List.length_set]; exact hin z (by simp [hz])
      have hok : okV vs { o with res := vs } = true := by
        unfold okV
        split
        · exact sameL_iff.2 rfl
        · rfl
      have hst : stepV vs { o with res := vs } = vs := by unfold stepV; rw [if_neg hk]
      rw [runS, fill_get l _ _ x hn.1 hi, opAt_set hxr, if_pos rfl]
      simp only [hok, if_true, hst]
      exact fill_run l _ _ hn.2 hi
end Go.Proofs.YtphlhadgcfndhaaGreat.Abs
end
section
namespace Go.Proofs.YtphlhadgcfndhaaGreat.Abs
open Go Go.RowKit
def fld (o : OpS) : OpS := { o with res := [] }
theorem opAt_map (ops : List OpS) (x : Int) : opAt (ops.map fld) x = (opAt ops x).map fld := by
  unfold opAt
  split
  · rw [List.getElem?_map]
  · rfl
theorem preS_map (ops : List OpS) (x y : Int) : preS (ops.map fld) x y = preS ops x y := by
  unfold preS
  rw [opAt_map, opAt_map]
  cases opAt ops x with
  | none => rfl
  | some a =>
    cases opAt ops y with
    | none => rfl
    | some b => rfl
theorem mis_map (ops : List OpS) (l : List Int) : misS (ops.map fld) l = misS ops l := by
  unfold misS anyAt
  rw [List.length_map]
  congr 1
  funext i
  rw [List.getElem?_map]
  cases ops[i]? with
  | none => rfl
  | some o =>
    simp only [Option.map_some, List.length_take, List.length_map]
    rfl
theorem pen_map (ops : List OpS) (l : List Int) : penS (ops.map fld) l = penS ops l := by
  unfold penS
  congr 1
  funext _ x
  rw [opAt_map]
  cases opAt ops x with
  | none => rfl
  | some o => rfl
theorem ord_map (ops : List OpS) (l : List Int) : ordS (ops.map fld) l = ordS ops l := by
  unfold ordS
  congr 1
  funext b x
  congr 1
  funext _ y
  exact preS_map ops x y
theorem chk_map (ops : List OpS) (l : List Int) : chkS (ops.map fld) l = chkS ops l := by
  unfold chkS rngS
  rw [List.length_map, mis_map, pen_map, ord_map]
theorem fill_fld : ∀ (l : List Int) (ops : List OpS) (vs : List HV), (fillS ops vs l).map fld = ops.map fld
  | [], _, _ => rfl
  | x :: l, ops, vs => by
    rw [fillS]
    cases ho : opAt ops x with
    | none => rfl
    | some o =>
      simp only
      by_cases hk : o.kind = 1
      · simp only [hk, if_true]
        exact fill_fld l ops _
      · simp only [hk, if_false]
        rw [fill_fld l _ _]
        unfold opAt at ho
        split at ho
        · refine List.ext_getElem? fun i => ?_
          rw [List.getElem?_map, List.getElem?_map, List.getElem?_set]
          by_cases e : x.toNat = i
          · subst e
            rw [if_pos rfl, if_pos (List.getElem?_eq_some_iff.1 ho).1, ho]
            rfl
          · rw [if_neg e]
        · cases ho
theorem fill_chk (ops : List OpS) (vs : List HV) (l l' : List Int) : chkS (fillS ops vs l) l' = chkS ops l' := by rw [← chk_map, fill_fld, chk_map]
theorem dup_nodup {l : List Int} (h : dupS l = false) : l.Nodup := by
  refine List.pairwise_iff_getElem.2 fun i j hi hj hij e => ?_
  obtain ⟨x, hx⟩ : ∃ x, l[j]? = some x := ⟨_, List.getElem?_eq_getElem hj⟩
  have hxi : l[i]? = some x := by rw [List.getElem?_eq_getElem hi, e, ← List.getElem?_eq_getElem hj, hx]
  have hm : x ∈ l.take j := by
    refine List.mem_of_getElem? (i := i) ?_
    rw [List.getElem?_take_of_lt hij, hxi]
  have : dupS l = true := upTo_hit (f := fun b x => b.contains x) hx (by simpa using hm)
  rw [h] at this
  cases this
theorem chk_nodup {ops : List OpS} {l : List Int} (h : chkS ops l = 0) : l.Nodup := by
  refine dup_nodup ?_
  cases hd : dupS l with
  | false => rfl
  | true =>
    unfold chkS at h
    rw [hd] at h
    split at h
    · cases h
    · simp at h
/-- The order in which results were computed is accepted. -/
theorem fill_ok (ops : List OpS) (l : List Int) (h : chkS ops l = 0) : replayS (fillS ops [] l) l = 0 := by
  unfold replayS
  rw [fill_chk, h]
  rw [if_neg (by simp), if_pos (fill_run l ops [] (chk_nodup h) (chk_rng h))]
end Go.Proofs.YtphlhadgcfndhaaGreat.Abs
end
section
namespace Go.Proofs.YtphlhadgcfndhaaGreat.Abs
open Go Go.RowKit
/-- The last of the first k operations that is of a process. -/
def lastP (ops : List OpS) (p : Int) : Nat → Int
  | 0 => -1
  | k + 1 => match ops[k]? with
    | some o => if o.p = p then k else lastP ops p k
    | none => lastP ops p k
theorem lastP_lt (ops : List OpS) (p : Int) : ∀ k, -1 ≤ lastP ops p k ∧ lastP ops p k < k
  | 0 => ⟨by show (-1 : Int) ≤ -1; omega, by show (-1 : Int) < 0; omega⟩
  | k + 1 => by
    have ih := lastP_lt ops p k
    unfold lastP
    split
    · split <;> omega
    · omega
def openP (ops : List OpS) (p : Int) : Int := match opAt ops (lastP ops p ops.length) with
  | some o => if o.ret ≠ 0 then -1 else lastP ops p ops.length
  | none => -1
def newO (n ev : Int) : OpS := ⟨101 + digitI n 6 0, 1 + digitI n 3 2, if digitI n 3 2 = 0 then [effS n (digitI n 2 9 == 1)] else [], [], ev, 0⟩
def timesE (ops : List OpS) (n ev : Int) : List OpS := match opAt ops (openP ops (101 + digitI n 6 0)) with
  | some o => if 0 < digitI n 8 3 then ops.set (openP ops (101 + digitI n 6 0)).toNat { o with ret := ev } else ops ++ [newO n ev]
  | none => ops ++ [newO n ev]
def timesS (l : List Int) : Nat → List OpS
  | 0 => []
  | i + 1 => timesE (timesS l i) (l[i]?.getD 0) (i + 1)
theorem opAt_mem {ops : List OpS} {x : Int} {o : OpS} (h : opAt ops x = some o) : o ∈ ops := by
  unfold opAt at h
  split at h
  · exact List.mem_of_getElem? h
  · cases h
theorem timesE_ok {ops : List OpS} {N : Nat} (hK : KiOk ops) (hE : EfOk ops) (hl : ops.length ≤ N) (n ev : Int) : KiOk (timesE ops n ev) ∧ EfOk (timesE ops n ev) ∧ (timesE ops n ev).length ≤ N + 1 := by
  have hnew : KiOk (ops ++ [newO n ev]) ∧ EfOk (ops ++ [newO n ev]) ∧ (ops ++ [newO n ev]).length ≤ N + 1 := by
    have hd := digitP_lt n (b := 3) (by omega) 2
    refine ⟨fun o ho => ?_, fun o ho => ?_, ?_⟩
    · rcases List.mem_append.1 ho with ho | ho
      · exact hK o ho
      · rw [List.mem_singleton.1 ho]
        show 1 + digitI n 3 2 = 1 ∨ 1 + digitI n 3 2 = 2 ∨ 1 + digitI n 3 2 = 3
        omega
    · rcases List.mem_append.1 ho with ho | ho
      · exact hE o ho
      · rw [List.mem_singleton.1 ho]
        show (if digitI n 3 2 = 0 then [effS n (digitI n 2 9 == 1)] else []).length ≤ 10
        split <;> simp
    · rw [List.length_append]
      exact Nat.add_le_add_right hl 1
  unfold timesE
  split
  · rename_i o ho
    split
    · have hm := opAt_mem ho
      refine ⟨fun q hq => ?_, fun q hq => ?_, ?_⟩
      · rcases List.mem_or_eq_of_mem_set hq with hq | rfl
        · exact hK q hq
        · exact hK o hm
      · rcases List.mem_or_eq_of_mem_set hq with hq | rfl
        · exact hE q hq
        · exact hE o hm
      · rw [List.length_set]
        omega
    · exact hnew
  · exact hnew
theorem timesS_ok (l : List Int) : ∀ i, KiOk (timesS l i) ∧ EfOk (timesS l i) ∧ (timesS l i).length ≤ i
  | 0 => ⟨fun _ h => (by cases h), fun _ h => (by cases h), Nat.le_refl _⟩
  | i + 1 => by
    obtain ⟨h1, h2, h3⟩ := timesS_ok l i
    exact timesE_ok h1 h2 h3 _ _
end Go.Proofs.YtphlhadgcfndhaaGreat.Abs
end
section
namespace Go.Proofs.YtphlhadgcfndhaaGreat.Abs
open Go Go.RowKit
theorem anyAt_no {α : Type} {f : List α → α → Bool} {l : List α} (h : ∀ i x, l[i]? = some x → f (l.take i) x = false) : anyAt f l = false := by
  unfold anyAt
  rw [List.any_eq_false]
  intro i hi
  have hi := List.mem_range.1 hi
  have hx := List.getElem?_eq_getElem hi
  rw [hx]
  simp [h i _ hx]
theorem anyAt_not {α : Type} {f : List α → α → Bool} {l : List α} (h : anyAt f l = false) {i : Nat} {x : α} (hx : l[i]? = some x) : f (l.take i) x = false := by
  cases hf : f (l.take i) x with
  | false => rfl
  | true =>
    rw [upTo_hit hx hf] at h
    cases h
theorem pw_at {α : Type} {R : α → α → Prop} {l : List α} (h : l.Pairwise R) {i j : Nat} {x y : α} (hx : l[i]? = some x) (hy : (l.take i)[j]? = some y) : R y x := by
  obtain ⟨hi, rfl⟩ := List.getElem?_eq_some_iff.1 hx
  have hj : j < i := by
    have := (List.getElem?_eq_some_iff.1 hy).1
    rw [List.length_take] at this
    omega
  rw [List.getElem?_take_of_lt hj] at hy
  obtain ⟨hj', rfl⟩ := List.getElem?_eq_some_iff.1 hy
  exact List.pairwise_iff_getElem.1 h j i hj' hi hj
structure ChkOk (ops : List OpS) (l : List Int) : Prop where
  rng : ∀ x ∈ l, inR ops.length x = true
  nd : l.Nodup
  mis : ∀ (i : Nat) (o : OpS), ops[i]? = some o → reqB o = true → (i : Int) ∈ l
  pen : ∀ x ∈ l, ∀ o, opAt ops x = some o → penB o = false
  ord : l.Pairwise fun y x => preS ops x y = false
theorem ChkOk.chk {ops : List OpS} {l : List Int} (h : ChkOk ops l) : chkS ops l = 0 := by
  have h1 : rngS ops.length l = false := anyAt_no fun i x hx => by simp [h.rng x (List.mem_of_getElem? hx)]
  have h2 : dupS l = false := anyAt_no fun i x hx => by
    cases hc : (l.take i).contains x with
    | false => rfl
    | true =>
      obtain ⟨j, hj⟩ := List.mem_iff_getElem?.1 (List.contains_iff_mem.1 hc)
      exact absurd rfl (pw_at h.nd hx hj)
  have h3 : misS ops l = false := anyAt_no fun i o ho => by
    cases hr : reqB o with
    | false => rfl
    | true =>
      have hl : (ops.take i).length = i := by
        rw [List.length_take]
        have := (List.getElem?_eq_some_iff.1 ho).1
        omega
      rw [hl]
      have := h.mis i o ho hr
      simp [this]
  have h4 : penS ops l = false := anyAt_no fun i x hx => by
    cases ho : opAt ops x with
    | none => rfl
    | some o => exact h.pen x (List.mem_of_getElem? hx) o ho
  have h5 : ordS ops l = false := anyAt_no fun i x hx => anyAt_no fun j y hy => pw_at h.ord hx hy
  unfold chkS
  simp [h1, h2, h3, h4, h5]
theorem chk_ok {ops : List OpS} {l : List Int} (h : chkS ops l = 0) : ChkOk ops l := by
  have h0 := h
  unfold chkS at h0
  split at h0
  · cases h0
  rename_i h1
  split at h0
  · cases h0
  rename_i h2
  split at h0
  · cases h0
  rename_i h3
  split at h0
  · cases h0
  rename_i h4
  split at h0
  · cases h0
  rename_i h5
  rw [Bool.not_eq_true] at h1 h2 h3 h4 h5
  refine ⟨chk_rng h, dup_nodup h2, fun i o ho hr => ?_, fun x hx o ho => ?_, List.pairwise_iff_getElem.2 fun i j hi hj hij => ?_⟩
  · have := anyAt_not h3 ho
    have hl : (ops.take i).length = i := by
      rw [List.length_take]
      have := (List.getElem?_eq_some_iff.1 ho).1
      omega
    rw [hr, hl] at this
    simpa using this
  · obtain ⟨i, hi⟩ := List.mem_iff_getElem?.1 hx
    have := anyAt_not h4 hi
    rw [ho] at this
    exact this
  · have h := anyAt_not h5 (List.getElem?_eq_getElem hj)
    exact anyAt_not (i := i) h (by rw [List.getElem?_take_of_lt hij, List.getElem?_eq_getElem hi])
/-! ### Order -/
def atI (l : List Int) (i : Nat) : Int := if l.length = 0 then 0 else l.getD (indexI i l.length).toNat 0
def skipB (l : List Int) (o : OpS) (i : Nat) : Bool := o.ret == 0 && (o.kind != 1 || digitI (atI l i) 3 5 == 0)
def doneF (ops : List OpS) (l : List Int) : Nat → List Bool
  | 0 => List.replicate ops.length false
  | i + 1 => match ops[i]? with
    | some o => if skipB l o i = true then (doneF ops l i).set i true else doneF ops l i
    | none => doneF ops l i
def dnB (d : List Bool) (k : Nat) : Bool := d.getD k true
def okO (ops : List OpS) (d : List Bool) (k : Nat) : Bool := !dnB d k && (List.range ops.length).all fun q => dnB d q || !preS ops q k
def frO (ops : List OpS) (d : List Bool) : List Nat := (List.range ops.length).filter (okO ops d)
def pickO (l : List Int) (i : Nat) (fr : List Nat) : Nat := fr.getD (indexI (atI l i) fr.length).toNat 0
def ordF (ops : List OpS) (l : List Int) : Nat → Nat → List Bool → List Int → List Int
  | 0, _, _, out => out
  | m + 1, i, d, out => if frO ops d = [] then out else ordF ops l m (i + 1) (d.set (pickO l i (frO ops d)) true) (out ++ [(pickO l i (frO ops d) : Int)])
def orderS (ops : List OpS) (l : List Int) : List Int := ordF ops l ops.length 0 (doneF ops l ops.length) []
theorem doneF_len (ops : List OpS) (l : List Int) : ∀ i, (doneF ops l i).length = ops.length
  | 0 => by simp [doneF]
  | i + 1 => by
    unfold doneF
    split
    · split
      · rw [List.length_set]; exact doneF_len ops l i
      · exact doneF_len ops l i
    · exact doneF_len ops l i
theorem dn_set {d : List Bool} {k : Nat} (hk : k < d.length) (q : Nat) : dnB (d.set k true) q = (dnB d q || decide (q = k)) := by
  unfold dnB
  rw [List.getD_eq_getElem?_getD, List.getD_eq_getElem?_getD, List.getElem?_set]
  by_cases h : k = q
  · subst h
    simp [hk]
  · rw [if_neg h]
    have : q ≠ k := Ne.symm h
    simp [this]
def skA (ops : List OpS) (l : List Int) (k : Nat) : Bool := match ops[k]? with
  | some o => skipB l o k
  | none => false
theorem doneF_dn (ops : List OpS) (l : List Int) : ∀ i, i ≤ ops.length → ∀ k, k < ops.length → dnB (doneF ops l i) k = (decide (k < i) && skA ops l k)
  | 0, _, k, hk => by
    unfold dnB doneF
    rw [List.getD_eq_getElem?_getD, List.getElem?_replicate, if_pos hk]
    simp
  | i + 1, hi, k, hk => by
    have ih := doneF_dn ops l i (by omega) k hk
    have ho := List.getElem?_eq_getElem (l := ops) (i := i) (by omega)
    unfold doneF
    rw [ho]
    simp only
    by_cases e : k = i
    · subst e
      have hs : skA ops l k = skipB l ops[k] k := by unfold skA; rw [ho]
      rw [hs]
      by_cases hb : skipB l ops[k] k = true
      · rw [if_pos hb, dn_set (by rw [doneF_len]; omega), hb]
        simp
      · rw [if_neg hb, ih]
        rw [Bool.not_eq_true] at hb
        simp [hb]
    · have hd : decide (k < i + 1) = decide (k < i) := by
        by_cases h : k < i
        · simp [h]; omega
        · simp [h]; omega
      rw [hd]
      split
      · rw [dn_set (by rw [doneF_len]; omega), ih]
        simp [e]
      · exact ih
/-- Histories whose events ascend. -/
structure VT (N : Int) (ops : List OpS) : Prop where
  asc : (ops.map fun o => o.call).Pairwise (· < ·)
  el : ∀ o ∈ ops, 1 ≤ o.call ∧ o.call ≤ N ∧ (o.ret = 0 ∨ o.call < o.ret ∧ o.ret ≤ N)
theorem VT.take {N : Int} {ops : List OpS} (h : VT N ops) (n : Nat) : VT N (ops.take n) := by
  refine ⟨?_, fun o ho => h.el o (List.mem_of_mem_take ho)⟩
  rw [List.map_take]
  exact h.asc.sublist (List.take_sublist _ _)
theorem VT.lt {N : Int} {ops : List OpS} (h : VT N ops) {i j : Nat} {a b : OpS} (ha : ops[i]? = some a) (hb : ops[j]? = some b) (hij : i < j) : a.call < b.call := by
  obtain ⟨hi, rfl⟩ := List.getElem?_eq_some_iff.1 ha
  obtain ⟨hj, rfl⟩ := List.getElem?_eq_some_iff.1 hb
  have := List.pairwise_iff_getElem.1 h.asc i j (by simpa using hi) (by simpa using hj) hij
  simpa using this
theorem timesE_vt {ops : List OpS} {N : Int} (h : VT N ops) (h0 : 0 ≤ N) (n : Int) : VT (N + 1) (timesE ops n (N + 1)) := by
  have hnew : VT (N + 1) (ops ++ [newO n (N + 1)]) := by
    refine ⟨?_, fun o ho => ?_⟩
    · rw [List.map_append, List.pairwise_append]
      refine ⟨h.asc, by simp, fun a ha b hb => ?_⟩
      obtain ⟨o, ho, rfl⟩ := List.mem_map.1 ha
      have := (h.el o ho).2.1
      simp [newO] at hb
      omega
    · rcases List.mem_append.1 ho with ho | ho
      · have := h.el o ho
        omega
      · rw [List.mem_singleton.1 ho]
        show 1 ≤ N + 1 ∧ N + 1 ≤ N + 1 ∧ ((0 : Int) = 0 ∨ _)
        omega
  unfold timesE
  split
  · rename_i o ho
    split
    · have hm := opAt_mem ho
      refine ⟨?_, fun q hq => ?_⟩
      · have e : (ops.set (openP ops (101 + digitI n 6 0)).toNat { o with ret := N + 1 }).map (fun o => o.call) = ops.map fun o => o.call := by
          rw [List.map_set]
          refine List.ext_getElem? fun i => ?_
          rw [List.getElem?_set]
          split
          · rename_i hi
            subst hi
            unfold opAt at ho
            split at ho
            · have := (List.getElem?_eq_some_iff.1 ho).1
              rw [if_pos (by simpa using this), List.getElem?_map, ho]
              rfl
            · cases ho
          · rfl
        rw [e]
        exact h.asc
      · rcases List.mem_or_eq_of_mem_set hq with hq | rfl
        · have := h.el q hq
          omega
        · have := h.el o hm
          refine ⟨this.1, ?_, .inr ⟨?_, ?_⟩⟩
          · show o.call ≤ N + 1
            omega
          · show o.call < N + 1
            omega
          · show N + 1 ≤ N + 1
            omega
    · exact hnew
  · exact hnew
theorem timesS_vt (l : List Int) : ∀ i : Nat, VT i (timesS l i)
  | 0 => ⟨.nil, fun o h => by cases h⟩
  | i + 1 => by
    have := timesE_vt (timesS_vt l i) (by omega) (l[i]?.getD 0)
    simpa [timesS] using this
theorem preS_lt {N : Int} {ops : List OpS} (hv : VT N ops) {q k : Nat} (h : preS ops q k = true) : q < k := by
  unfold preS opAt at h
  rw [if_pos (by omega), if_pos (by omega)] at h
  simp only [Int.toNat_natCast] at h
  cases hq : ops[q]? with
  | none => rw [hq] at h; cases h
  | some a =>
    cases hk : ops[k]? with
    | none => rw [hq, hk] at h; cases h
    | some b =>
      rw [hq, hk] at h
      simp only [preB, Bool.and_eq_true, bne_iff_ne, ne_eq, decide_eq_true_eq] at h
      have h1 := (hv.el a (List.mem_of_getElem? hq)).2.2
      by_cases hlt : q < k
      · exact hlt
      · exfalso
        by_cases e : q = k
        · subst e
          rw [hq] at hk
          cases hk
          omega
        · have := hv.lt hk hq (by omega)
          omega
theorem mem_frO {ops : List OpS} {d : List Bool} {k : Nat} : k ∈ frO ops d ↔ k < ops.length ∧ dnB d k = false ∧ ∀ q, q < ops.length → dnB d q = false → preS ops q k = false := by
  unfold frO okO
  rw [List.mem_filter, List.mem_range]
  simp only [Bool.and_eq_true, Bool.not_eq_true', List.all_eq_true, List.mem_range, Bool.or_eq_true]
  refine ⟨fun h => ⟨h.1, h.2.1, fun q hq hd => ?_⟩, fun h => ⟨h.1, h.2.1, fun q hq => ?_⟩⟩
  · rcases h.2.2 q hq with h | h
    · rw [h] at hd; cases hd
    · exact h
  · cases hd : dnB d q with
    | true => exact .inl rfl
    | false => exact .inr (h.2.2 q hq hd)
theorem frO_nil {N : Int} {ops : List OpS} {d : List Bool} (hv : VT N ops) (h : frO ops d = []) : ∀ k, k < ops.length → dnB d k = true := by
  intro k
  induction k using Nat.strongRecOn with
  | ind k ih =>
    intro hk
    cases hd : dnB d k with
    | true => rfl
    | false =>
      have : k ∈ frO ops d := mem_frO.2 ⟨hk, hd, fun q hq hdq => by
        cases hp : preS ops q k with
        | false => rfl
        | true =>
          have hlt := preS_lt hv hp
          rw [ih q hlt hq] at hdq
          cases hdq⟩
      rw [h] at this
      cases this
theorem pickO_mem {l : List Int} {i : Nat} {fr : List Nat} (h : fr ≠ []) (hl : fr.length < 1000000) : (0 ≤ indexI (atI l i) fr.length ∧ indexI (atI l i) fr.length < fr.length) ∧ fr[(indexI (atI l i) fr.length).toNat]? = some (pickO l i fr) := by
  have h0 : 0 < fr.length := List.length_pos_iff.2 h
  have hb := indexP_lt (atI l i) (k := fr.length) (by omega) (by omega)
  refine ⟨hb, ?_⟩
  unfold pickO
  rw [List.getD_eq_getElem?_getD, List.getElem?_eq_getElem (by omega)]
  rfl
structure OInv (ops : List OpS) (l : List Int) (d : List Bool) (out : List Int) : Prop where
  len : d.length = ops.length
  rng : ∀ x ∈ out, inR ops.length x = true
  nd : out.Nodup
  dn : ∀ k, k < ops.length → dnB d k = (decide ((k : Int) ∈ out) || skA ops l k)
  sk : ∀ x ∈ out, skA ops l x.toNat = false
  ord : out.Pairwise fun y x => preS ops x y = false
  fut : ∀ y ∈ out, ∀ k, k < ops.length → dnB d k = false → preS ops k y = false
theorem OInv.start (ops : List OpS) (l : List Int) : OInv ops l (doneF ops l ops.length) [] := by
  refine ⟨doneF_len ops l _, fun x h => (by cases h), .nil, fun k hk => ?_, fun x h => (by cases h), .nil, fun x h => (by cases h)⟩
  rw [doneF_dn ops l _ (Nat.le_refl _) k hk]
  simp [hk]
theorem OInv.step {ops : List OpS} {l : List Int} {d : List Bool} {out : List Int} (h : OInv ops l d out) {k : Nat} (hk : k ∈ frO ops d) : OInv ops l (d.set k true) (out ++ [(k : Int)]) := by
  obtain ⟨hkn, hkd, hkp⟩ := mem_frO.1 hk
  have hkk := h.dn k hkn
  rw [hkd] at hkk
  have hkk := hkk.symm
  rw [Bool.or_eq_false_iff, decide_eq_false_iff_not] at hkk
  have hs := dn_set (d := d) (k := k) (by rw [h.len]; exact hkn)
  refine ⟨by rw [List.length_set]; exact h.len, fun x hx => ?_, ?_, fun q hq => ?_, fun x hx => ?_, ?_, fun y hy q hq hd => ?_⟩
  · rcases List.mem_append.1 hx with hx | hx
    · exact h.rng x hx
    · rw [List.mem_singleton.1 hx]
      simp [inR]
      exact hkn
  · rw [List.nodup_append]
    refine ⟨h.nd, by simp, fun a ha b hb => ?_⟩
    rw [List.mem_singleton.1 hb]
    intro e
    exact hkk.1 (e ▸ ha)
  · rw [hs, h.dn q hq]
    by_cases e : q = k
    · subst e
      simp
    · have : ¬ (q : Int) = k := by omega
      simp [e, this]
  · rcases List.mem_append.1 hx with hx | hx
    · exact h.sk x hx
    · rw [List.mem_singleton.1 hx]
      simpa using hkk.2
  · rw [List.pairwise_append]
    refine ⟨h.ord, by simp, fun y hy x hx => ?_⟩
    rw [List.mem_singleton.1 hx]
    exact h.fut y hy k hkn hkd
  · rw [hs, Bool.or_eq_false_iff] at hd
    rcases List.mem_append.1 hy with hy | hy
    · exact h.fut y hy q hq hd.1
    · rw [List.mem_singleton.1 hy]
      exact hkp q hq hd.1
theorem OInv.done {N : Int} {ops : List OpS} {l : List Int} {d : List Bool} {out : List Int} (hv : VT N ops) (h : OInv ops l d out) (hf : frO ops d = []) : ChkOk ops out := by
  have hall := frO_nil hv hf
  refine ⟨h.rng, h.nd, fun i o ho hr => ?_, fun x hx o ho => ?_, h.ord⟩
  · have hi := (List.getElem?_eq_some_iff.1 ho).1
    have hd := h.dn i hi
    rw [hall i hi] at hd
    have hs : skA ops l i = false := by
      unfold skA
      rw [ho]
      simp only [reqB, Bool.and_eq_true, bne_iff_ne, ne_eq] at hr
      simp [skipB, hr.2]
    rw [hs, Bool.or_false] at hd
    simpa using hd.symm
  · have hs := h.sk x hx
    have : ops[x.toNat]? = some o := by
      unfold opAt at ho
      split at ho
      · exact ho
      · cases ho
    unfold skA at hs
    rw [this] at hs
    unfold penB
    cases hb : (o.kind != 1 && o.ret == 0) with
    | false => rfl
    | true =>
      rw [Bool.and_eq_true] at hb
      simp [skipB, hb.1, hb.2] at hs
theorem cnt_set {d : List Bool} {k : Nat} (h : dnB d k = false) : (d.set k true).count false + 1 = d.count false := by
  unfold dnB at h
  rw [List.getD_eq_getElem?_getD] at h
  have hk : k < d.length := by
    by_cases hk : k < d.length
    · exact hk
    · rw [List.getElem?_eq_none (by omega)] at h
      cases h
  rw [List.getElem?_eq_getElem hk] at h
  have hd : d[k] = false := h
  rw [List.count_set hk, hd]
  simp
  have : 0 < d.count false := List.count_pos_iff.2 (hd ▸ List.getElem_mem hk)
  omega
theorem ordF_ok {N : Int} {ops : List OpS} (hv : VT N ops) (hn : ops.length < 1000000) (l : List Int) : ∀ (m i : Nat) (d : List Bool) (out : List Int), d.count false ≤ m → OInv ops l d out → ChkOk ops (ordF ops l m i d out)
  | 0, i, d, out, hm, h => by
    unfold ordF
    refine h.done hv ?_
    refine List.eq_nil_iff_forall_not_mem.2 fun k hk => ?_
    obtain ⟨_, hkd, _⟩ := mem_frO.1 hk
    have := cnt_set hkd
    omega
  | m + 1, i, d, out, hm, h => by
    unfold ordF
    split
    · rename_i hf
      exact h.done hv hf
    · rename_i hf
      have hl : (frO ops d).length < 1000000 := Nat.lt_of_le_of_lt (List.length_filter_le _ _) (by simpa using hn)
      obtain ⟨_, hp⟩ := pickO_mem (l := l) (i := i) hf hl
      have hk := List.mem_of_getElem? hp
      have := cnt_set (mem_frO.1 hk).2.1
      exact ordF_ok hv hn l m _ _ _ (by omega) (h.step hk)
theorem count_le (d : List Bool) : d.count false ≤ d.length := List.count_le_length
theorem orderS_ok {N : Int} {ops : List OpS} (hv : VT N ops) (hn : ops.length < 1000000) (l : List Int) : ChkOk ops (orderS ops l) :=
  ordF_ok hv hn l _ _ _ _ (by have := count_le (doneF ops l ops.length); rw [doneF_len] at this; exact this) (OInv.start ops l)
theorem ordF_len (ops : List OpS) (l : List Int) : ∀ (m i : Nat) (d : List Bool) (out : List Int), (ordF ops l m i d out).length ≤ out.length + m
  | 0, i, d, out => by unfold ordF; omega
  | m + 1, i, d, out => by
    unfold ordF
    split
    · omega
    · have := ordF_len ops l m (i + 1) (d.set (pickO l i (frO ops d)) true) (out ++ [(pickO l i (frO ops d) : Int)])
      simp at this
      omega
theorem orderS_len (ops : List OpS) (l : List Int) : (orderS ops l).length ≤ ops.length := by
  have := ordF_len ops l ops.length 0 (doneF ops l ops.length) []
  simpa [orderS] using this
end Go.Proofs.YtphlhadgcfndhaaGreat.Abs
end
section
namespace Go.Proofs.YtphlhadgcfndhaaGreat.Abs
open Go Go.RowKit
set_option linter.unusedVariables false
set_option linter.unusedSimpArgs false
structure LInv (ops : List OpS) (l : List Nat) : Prop where
  kinds : ∀ i ∈ l, ∀ o, ops[i]? = some o → reqB o = true ∨ o.kind = 1
  ord : l.Pairwise fun (y x : Nat) => preS ops x y = false
  fut : ∀ y ∈ l, ∀ (k : Nat) (o : OpS), k ∉ l → ops[k]? = some o → reqB o = true → preS ops k y = false
theorem LInv.nil (ops : List OpS) : LInv ops [] := ⟨fun i h => (by cases h), .nil, fun i h => (by cases h)⟩
theorem blk_no {ops : List OpS} {x : List Int} {i : Int} (h : blkB ops x i = false) {k : Nat} {o : OpS} (ho : ops[k]? = some o) (hw : wtS x k = true) (hr : reqB o = true) : preS ops k i = false := by
  have := anyAt_not h ho
  have hl : (ops.take k).length = k := by
    rw [List.length_take]
    have := (List.getElem?_eq_some_iff.1 ho).1
    omega
  rw [hl, hw, hr] at this
  simpa using this
theorem preS_ret {ops : List OpS} {i : Nat} {o : OpS} (ho : ops[i]? = some o) (hr : o.ret = 0) (y : Int) : preS ops i y = false := by
  unfold preS
  rw [show opAt ops i = some o by unfold opAt; rw [if_pos (by omega)]; simpa using ho]
  cases opAt ops y with
  | none => rfl
  | some b => simp [preB, hr]
theorem may_split {ops : List OpS} {x : List Int} {sp i : Nat} {o : OpS} (h : mayB ops x sp i = true) (ho : ops[i]? = some o) : (reqB o = true ∨ o.kind = 1) ∧ blkB ops x i = false := by
  unfold mayB at h
  rw [ho] at h
  simp only [Bool.and_eq_true, Bool.or_eq_true, Bool.not_eq_true'] at h
  refine ⟨?_, h.2⟩
  rcases h.1.2 with h | h
  · exact .inl h
  · exact .inr (by simpa using h.1)
theorem LInv.snoc {ops : List OpS} (hn : ops.length ≤ 10) {l : List Nat} {x : List Int} {vs : List HV} (hp : Path ops l x vs) (h : LInv ops l) {i sp : Nat} {o : OpS} (ho : ops[i]? = some o) (hm : mayB ops x sp i = true) : LInv ops (l ++ [i]) := by
  obtain ⟨hk, hb⟩ := may_split hm ho
  have hi := wait_not hn hp hm
  refine ⟨fun j hj p hpj => ?_, ?_, fun y hy k p hkl hpk hr => ?_⟩
  · rcases List.mem_append.1 hj with hj | hj
    · exact h.kinds j hj p hpj
    · rw [List.mem_singleton.1 hj, ho] at hpj
      cases hpj
      exact hk
  · rw [List.pairwise_append]
    refine ⟨h.ord, by simp, fun y hy z hz => ?_⟩
    rw [List.mem_singleton.1 hz]
    cases hr : reqB o with
    | true => exact h.fut y hy i o hi ho hr
    | false =>
      rw [hr] at hk
      have hk1 : o.kind = 1 := hk.resolve_left (by simp)
      have hret : o.ret = 0 := by simpa [reqB, hk1] using hr
      exact preS_ret ho hret y
  · have hkl' : k ∉ l ∧ k ≠ i := by simpa using hkl
    rcases List.mem_append.1 hy with hy | hy
    · exact h.fut y hy k p hkl'.1 hpk hr
    · rw [List.mem_singleton.1 hy]
      exact blk_no hb hpk (by rw [hp.wt hn]; simpa using hkl'.1) hr
theorem runS_cons {ops : List OpS} {i : Nat} {o : OpS} (ho : ops[i]? = some o) (vs : List HV) (s : List Nat) : runS ops vs (coeL (i :: s)) = if okV vs o = true then runS ops (stepV vs o) (coeL s) else none := by
  show runS ops vs ((i : Int) :: coeL s) = _
  rw [runS, show opAt ops i = some o by unfold opAt; rw [if_pos (by omega)]; simpa using ho]
theorem dfs_sound {ops : List OpS} (hn : ops.length ≤ 10) : ∀ (n : Nat) (l : List Nat) (x : List Int) (vs : List HV) (sp : Nat) (s : List Nat), Path ops l x vs → LInv ops l → dfs ops n x vs sp = some s → ∃ x' vs', Path ops (l ++ s) x' vs' ∧ LInv ops (l ++ s) ∧ complB ops x' = true ∧ costL ops (l ++ s) ≤ costL ops l + sp ∧ runS ops vs (coeL s) = some vs'
  | 0, l, x, vs, sp, s, _, _, h => by cases h
  | n + 1, l, x, vs, sp, s, hp, hi, h => by
    unfold dfs at h
    by_cases hc : complB ops x = true
    · rw [if_pos hc] at h
      cases h
      rw [List.append_nil]
      exact ⟨x, vs, hp, hi, hc, Nat.le_add_right _ _, rfl⟩
    rw [if_neg hc] at h
    have key : ∀ is : List Nat, dfsL (dfs ops n) ops x vs sp is = some s → ∃ x' vs', Path ops (l ++ s) x' vs' ∧ LInv ops (l ++ s) ∧ complB ops x' = true ∧ costL ops (l ++ s) ≤ costL ops l + sp ∧ runS ops vs (coeL s) = some vs' := by
      intro is
      induction is with
      | nil => intro h; cases h
      | cons i is ih =>
        intro h
        unfold dfsL at h
        cases ho : ops[i]? with
        | none => rw [ho] at h; exact ih h
        | some o =>
          rw [ho] at h
          simp only at h
          by_cases hm : (mayB ops x sp i && okV vs o) = true
          · rw [if_pos hm] at h
            rw [Bool.and_eq_true] at hm
            cases hd : dfs ops n (afterB ops x i) (stepV vs o) (sp - costB o) with
            | none => rw [hd] at h; exact ih h
            | some t =>
              rw [hd] at h
              cases h
              have hni := wait_not hn hp hm.1
              have hcs := mayB_sp hm.1 ho
              obtain ⟨x', vs', h1, h2, h3, h4, h5⟩ := dfs_sound hn n (l ++ [i]) _ _ _ t (hp.snoc hni ho) (hi.snoc hn hp ho hm.1) hd
              rw [List.append_assoc] at h1 h2 h4
              rw [costL_snoc ho] at h4
              refine ⟨x', vs', h1, h2, h3, ?_, ?_⟩
              · have h4' : costL ops (l ++ i :: t) ≤ costL ops l + costB o + (sp - costB o) := h4
                omega
              · rw [runS_cons ho, if_pos hm.2]
                exact h5
          · rw [if_neg hm] at h
            exact ih h
    exact key _ h
def Can (ops : List OpS) : List Int → List HV → Nat → List Nat → Prop
  | x, _, _, [] => complB ops x = true
  | x, vs, sp, i :: t => ∃ o, ops[i]? = some o ∧ mayB ops x sp i = true ∧ okV vs o = true ∧ Can ops (afterB ops x i) (stepV vs o) (sp - costB o) t
theorem dfsL_some {f : List Int → List HV → Nat → Option (List Nat)} {ops : List OpS} {x : List Int} {vs : List HV} {sp i : Nat} {o : OpS} (ho : ops[i]? = some o) (hm : (mayB ops x sp i && okV vs o) = true) (hf : (f (afterB ops x i) (stepV vs o) (sp - costB o)).isSome = true) : ∀ {is : List Nat}, i ∈ is → (dfsL f ops x vs sp is).isSome = true
  | [], h => by cases h
  | j :: is, h => by
    unfold dfsL
    by_cases e : j = i
    · subst e
      rw [ho]
      simp only
      rw [if_pos hm]
      cases hd : f (afterB ops x j) (stepV vs o) (sp - costB o) with
      | none => rw [hd] at hf; cases hf
      | some s => rfl
    · have h' : i ∈ is := by
        rcases List.mem_cons.1 h with h | h
        · exact absurd h.symm e
        · exact h
      have ih := dfsL_some ho hm hf h'
      cases hj : ops[j]? with
      | none => exact ih
      | some p =>
        simp only
        split
        · split
          · rfl
          · exact ih
        · exact ih
theorem dfs_complete {ops : List OpS} : ∀ (n : Nat) (x : List Int) (vs : List HV) (sp : Nat) (t : List Nat), Can ops x vs sp t → t.length < n → (dfs ops n x vs sp).isSome = true
  | 0, _, _, _, _, _, h => by omega
  | n + 1, x, vs, sp, t, h, hl => by
    unfold dfs
    by_cases hc : complB ops x = true
    · rw [if_pos hc]; rfl
    rw [if_neg hc]
    match t, h with
    | [], h => exact absurd h hc
    | i :: t, h =>
      obtain ⟨o, ho, hm, hok, hr⟩ := h
      have := dfs_complete n _ _ _ t hr (by simp at hl; omega)
      exact dfsL_some ho (by rw [hm, hok]; rfl) this (List.mem_range.2 (List.getElem?_eq_some_iff.1 ho).1)
theorem compl_of {ops : List OpS} (hn : ops.length ≤ 10) {l : List Nat} {x : List Int} {vs : List HV} (hp : Path ops l x vs) : complB ops x = true ↔ ∀ (i : Nat) (o : OpS), ops[i]? = some o → reqB o = true → i ∈ l := by
  unfold complB
  rw [Bool.not_eq_true']
  have hl : ∀ (i : Nat) (o : OpS), ops[i]? = some o → (ops.take i).length = i := fun i o ho => by
    rw [List.length_take]
    have := (List.getElem?_eq_some_iff.1 ho).1
    omega
  refine ⟨fun h i o ho hr => ?_, fun h => anyAt_no fun i o ho => ?_⟩
  · have := anyAt_not h ho
    rw [hl i o ho, hr, hp.wt hn] at this
    simpa using this
  · rw [hl i o ho, hp.wt hn]
    cases hr : reqB o with
    | false => rfl
    | true =>
      have := h i o ho hr
      simp [this]
theorem can_of {N : Int} {ops : List OpS} (hn : ops.length ≤ 10) (hv : VT N ops) : ∀ (t l : List Nat) (x : List Int) (vs : List HV) (sp : Nat), Path ops l x vs → (l ++ t).Nodup → (∀ i ∈ t, ∃ o, ops[i]? = some o ∧ (reqB o = true ∨ o.kind = 1)) → (∀ (i : Nat) (o : OpS), ops[i]? = some o → reqB o = true → i ∈ l ++ t) → (t.Pairwise fun (y x : Nat) => preS ops x y = false) → (runS ops vs (coeL t)).isSome = true → costL ops t ≤ sp → Can ops x vs sp t
  | [], l, x, vs, sp, hp, _, _, hm, _, _, _ => (compl_of hn hp).2 fun i o ho hr => by have := hm i o ho hr; simpa using this
  | i :: t, l, x, vs, sp, hp, hnd, hk, hm, hord, hrun, hc => by
    obtain ⟨o, ho, hko⟩ := hk i (by simp)
    have hil : i ∉ l := fun h => by
      rw [List.nodup_append] at hnd
      exact hnd.2.2 i h i (by simp) rfl
    have hit : i ∉ t := fun h => by
      rw [List.nodup_append] at hnd
      exact (List.nodup_cons.1 hnd.2.1).1 h
    rw [runS_cons ho] at hrun
    have hok : okV vs o = true := by
      by_cases h : okV vs o = true
      · exact h
      · rw [if_neg h] at hrun; cases hrun
    rw [if_pos hok] at hrun
    have hcc : costL ops (i :: t) = costB o + costL ops t := by
      have h1 : costL ops (i :: t) = costL ops ([i] ++ t) := rfl
      rw [h1]
      unfold costL
      rw [List.countP_append]
      have := costL_snoc ho []
      simp only [List.nil_append] at this
      unfold costL at this
      rw [this]
      simp
    rw [List.pairwise_cons] at hord
    refine ⟨o, ho, ?_, hok, can_of hn hv t (l ++ [i]) _ _ _ (hp.snoc hil ho) (by rw [List.append_assoc]; exact hnd) (fun j hj => hk j (by simp [hj])) (fun j p hj hr => by rw [List.append_assoc]; exact hm j p hj hr) hord.2 hrun (by omega)⟩
    unfold mayB
    rw [ho]
    simp only [Bool.and_eq_true, Bool.or_eq_true, Bool.not_eq_true']
    refine ⟨⟨by rw [hp.wt hn]; simpa using hil, ?_⟩, anyAt_no fun q p hq => ?_⟩
    · cases hr : reqB o with
      | true => exact .inl rfl
      | false =>
        have hk1 : o.kind = 1 := hko.resolve_left (by simp [hr])
        have hret : o.ret = 0 := by simpa [reqB, hk1] using hr
        have : costB o = 1 := by simp [costB, hret]
        refine .inr ⟨by simp [hk1], ?_⟩
        have : sp ≠ 0 := by omega
        simpa using this
    · have hl : (ops.take q).length = q := by
        rw [List.length_take]
        have := (List.getElem?_eq_some_iff.1 hq).1
        omega
      rw [hl, hp.wt hn]
      cases hr : reqB p with
      | false => simp
      | true =>
        by_cases hql : q ∈ l
        · simp [hql]
        · have := hm q p hq hr
          have hpre : preS ops q i = false := by
            rcases List.mem_append.1 this with h | h
            · exact absurd h hql
            · rcases List.mem_cons.1 h with h | h
              · subst h
                cases hb : preS ops q q with
                | false => rfl
                | true => exact absurd (preS_lt hv hb) (by omega)
              · exact hord.1 q h
          simp [hpre]
theorem coe_mem {l : List Nat} {x : Int} : x ∈ coeL l ↔ ∃ n ∈ l, (n : Int) = x := List.mem_map
theorem coe_nd {l : List Nat} (h : l.Nodup) : (coeL l).Nodup := by
  unfold coeL
  refine List.Pairwise.map _ (fun a b hab e => hab ?_) h
  omega
def reqAt (ops : List OpS) (i : Nat) : Bool := match ops[i]? with
  | some o => reqB o
  | none => false
theorem len_split {ops : List OpS} : ∀ {l : List Nat}, (∀ i ∈ l, ∃ o, ops[i]? = some o ∧ (reqB o = true ∨ o.kind = 1)) → l.length = (l.filter (reqAt ops)).length + costL ops l
  | [], _ => rfl
  | i :: l, h => by
    have ih := len_split (l := l) fun j hj => h j (List.mem_cons_of_mem i hj)
    obtain ⟨o, ho, hk⟩ := h i (by simp)
    unfold costL at ih ⊢
    rw [List.filter_cons, List.countP_cons, List.length_cons, ih]
    have hr : reqAt ops i = reqB o := by unfold reqAt; rw [ho]
    have hc : costAt ops i = decide (o.ret = 0) := by unfold costAt; rw [ho]
    rw [hr, hc]
    cases hq : reqB o with
    | true =>
      have : o.ret ≠ 0 := by
        simp only [reqB, Bool.and_eq_true, bne_iff_ne, ne_eq] at hq
        exact hq.2
      simp [this]
      omega
    | false =>
      have hk1 : o.kind = 1 := hk.resolve_left (by simp [hq])
      have hret : o.ret = 0 := by simpa [reqB, hk1] using hq
      simp [hret]
      omega
/-- What the search finds where there is an order. -/
theorem finds {N : Int} {ops : List OpS} (hn : ops.length ≤ 10) (hE : OneEf ops) (hv : VT N ops) {t : List Nat} (hnd : t.Nodup) (hk : ∀ i ∈ t, ∃ o, ops[i]? = some o ∧ (reqB o = true ∨ o.kind = 1)) (hm : ∀ (i : Nat) (o : OpS), ops[i]? = some o → reqB o = true → i ∈ t) (hord : t.Pairwise fun (y x : Nat) => preS ops x y = false) (hrun : (runS ops [] (coeL t)).isSome = true) : ∃ s, searchS ops = (coeL s, 0) ∧ replayS ops (coeL s) = 0 ∧ s.length ≤ t.length := by
  have hsub : ∀ {l : List Nat}, l.Nodup → (∀ i ∈ l, i < ops.length) → l.length ≤ ops.length := fun {l} h1 h2 => by
    have hp : l.Perm ((List.range ops.length).filter fun i => decide (i ∈ l)) := (List.perm_ext_iff_of_nodup h1 (List.nodup_range.sublist List.filter_sublist)).2 fun i => by
      rw [List.mem_filter, List.mem_range, decide_eq_true_eq]
      exact ⟨fun h => ⟨h2 i h, h⟩, fun h => h.2⟩
    rw [hp.length_eq]
    exact Nat.le_trans (List.length_filter_le _ _) (by simp)
  have htl : t.length ≤ ops.length := hsub hnd fun i hi => by
    obtain ⟨o, ho, _⟩ := hk i hi
    exact (List.getElem?_eq_some_iff.1 ho).1
  have hct : costL ops t ≤ t.length := List.countP_le_length
  have hcan := can_of hn hv t [] x0 [] (costL ops t) .nil hnd hk (fun i o ho hr => hm i o ho hr) hord hrun (Nat.le_refl _)
  have hd := dfs_complete 11 _ _ _ t hcan (by omega)
  obtain ⟨q, s, hq, hds, hS, _⟩ := dfsS_first (N := ops.length + 1) (by omega) hd
  obtain ⟨x', vs', h1, h2, h3, h4, h5⟩ := dfs_sound hn 11 [] _ _ _ s .nil (LInv.nil ops) hds
  rw [List.nil_append] at h1 h2 h4
  have hms := (compl_of hn h1).1 h3
  have hks : ∀ i ∈ s, ∃ o, ops[i]? = some o ∧ (reqB o = true ∨ o.kind = 1) := fun i hi => by
    have ho := List.getElem?_eq_getElem (h1.rng i hi)
    exact ⟨_, ho, h2.kinds i hi _ ho⟩
  refine ⟨s, ?_, ?_, ?_⟩
  · rw [searchS_dfs hn hE, hS]
  · have hchk : ChkOk ops (coeL s) := by
      refine ⟨fun x hx => ?_, coe_nd h1.nd, fun i o ho hr => coe_mem.2 ⟨i, hms i o ho hr, rfl⟩, fun x hx o ho => ?_, ?_⟩
      · obtain ⟨i, hi, rfl⟩ := coe_mem.1 hx
        have := h1.rng i hi
        simp [inR]
        omega
      · obtain ⟨i, hi, rfl⟩ := coe_mem.1 hx
        have ho' : ops[i]? = some o := by
          unfold opAt at ho
          rw [if_pos (by omega)] at ho
          simpa using ho
        have := h2.kinds i hi o ho'
        unfold penB
        rcases this with h | h
        · simp only [reqB, Bool.and_eq_true, bne_iff_ne, ne_eq] at h
          simp [h.2]
        · simp [h]
      · unfold coeL
        exact List.Pairwise.map _ (fun a b hab => hab) h2.ord
    unfold replayS
    rw [hchk.chk, h5]
    rfl
  · have e1 := len_split hks
    have e2 := len_split hk
    have e3 : ((s.filter (reqAt ops)).length) = (t.filter (reqAt ops)).length := List.Perm.length_eq ((List.perm_ext_iff_of_nodup (h1.nd.sublist List.filter_sublist) (hnd.sublist List.filter_sublist)).2 fun i => by
      rw [List.mem_filter, List.mem_filter]
      refine ⟨fun ⟨_, hr⟩ => ⟨?_, hr⟩, fun ⟨_, hr⟩ => ⟨?_, hr⟩⟩
      · unfold reqAt at hr
        cases ho : ops[i]? with
        | none => rw [ho] at hr; cases hr
        | some o => rw [ho] at hr; exact hm i o ho hr
      · unfold reqAt at hr
        cases ho : ops[i]? with
        | none => rw [ho] at hr; cases hr
        | some o => rw [ho] at hr; exact hms i o ho hr)
    have e4 : costL ops [] = 0 := rfl
    omega
end Go.Proofs.YtphlhadgcfndhaaGreat.Abs
end
section
namespace Go.Proofs.YtphlhadgcfndhaaGreat.Abs
open Go Go.RowKit
set_option linter.unusedVariables false
set_option linter.unusedSimpArgs false
set_option maxHeartbeats 4000000
set_option maxRecDepth 8000
abbrev timSt (l : List Int) (W : List OpS) (i : Nat) : St := ⟨[(0, .c (encis l)), (2, .c (.ptr 0 0 0)), (3, .c (.ptr 1 0 0)), (4, .c (cI i)), (5, .c (cI i))], [(0, ⟨1, [[.sc (.slice none 0 0)]]⟩), (1, ⟨1, [[.ref 2 0 W.length]]⟩), (2, ⟨6, W.map encOp⟩)], 3⟩
theorem times_pure (l : List Int) (hl : l.length < 4000000000000000000) : Pure Tryz.prog 21 [.c (encis l)] (.agg (encHi (timesS l (min 40 l.length)))) := by
  refine pure_of teOk Tryz.func21 (by kernel_rfl) (c := _) rfl (N := 104) rfl (rs := [Go.ResultVar.cell 2 26]) rfl (by simp) fun base A w0 hA => ?_
  refine AW.st teOk [] (by simp [-Option.some.injEq] <;> rfl) trivial ?_
  refine AW.st teOk [] (by simp [-Option.some.injEq] <;> rfl) trivial ?_
  refine AW.to (s2 := ⟨[(0, .c (encis l)), (2, .c (.ptr 0 0 0)), (3, .c (.ptr 1 0 0))], [(0, ⟨1, [[.sc (.slice none 0 0)]]⟩), (1, ⟨1, [[.ref 2 0 0]]⟩), (2, ⟨6, []⟩)], 3⟩) ((Weak.nilO 2 0 6 (q := 1) (cs := [.sc (.slice none 0 0)]) _ (by simp) rfl (by simp)).trans (Weak.normS hA [0, 2, 3] [(2, 0), (3, 1)] [(4, 2)] [2] 3 _ (by simp [putA]) (by simp [putA]) (by simp [putA]))) (by simp [putA]) ?_
  refine AW.st teOk [] (by simp [-Option.some.injEq] <;> rfl) trivial ?_
  refine AW.seq ?_
  refine AW.st teOk [] (by simp [-Option.some.injEq] <;> rfl) trivial ?_
  refine AW.block (AW.loop (fun m s => ∃ i : Nat, m = 40 - i ∧ i ≤ 40 ∧ i ≤ l.length ∧ s = timSt l (timesS l i) i) _ (Weak.normS hA [0, 2, 3, 4, 5] [(2, 0), (3, 1)] [(2, 2)] [1] 3 _ (by simp) (by simp) (by simp)) ⟨0, rfl, by omega, Nat.zero_le _, by simp; exact ⟨rfl, rfl⟩⟩ ?_)
  rintro m s ⟨i, rfl, hi, hil, rfl⟩
  have hfin : i = min 40 l.length → timesS l (min 40 l.length) = timesS l i := fun h => by rw [← h]
  obtain ⟨W, hW⟩ : ∃ W, W = timesS l i := ⟨_, rfl⟩
  rw [← hW] at hfin ⊢
  refine AW.seq ?_
  by_cases h1 : i < l.length
  · by_cases h2 : (i : Int) < 40
    · refine AW.st teOk [] (by simp [h1, h2, -Option.some.injEq] <;> rfl) ?_ ?_
      · trivial
      refine AW.iff true (by simp) (fun _ => AW.skip ?_) (fun h => by cases h)
      obtain ⟨n, hx⟩ : ∃ e, l[i]? = some e := ⟨_, List.getElem?_eq_getElem h1⟩
      have hnx : timesS l (i + 1) = timesE W n (i + 1) := by rw [hW]; show timesE _ (l[i]?.getD 0) _ = _; rw [hx]; rfl
      have hWl : W.length ≤ 40 := by have := (timesS_ok l i).2.2; rw [← hW] at this; omega
      have hwi : IntKind.i64.wrap ((i : Int) + 1) = (i : Int) + 1 := wrap_s i (by omega)
      obtain ⟨d1, d2⟩ := digitP_lt n (b := 6) (by omega) 0
      have hdp := dP n 6 0 (by decide) (by decide)
      have hwp : IntKind.i64.wrap (101 + digitI n 6 0) = 101 + digitI n 6 0 := by rw [IntKind.wrap_i64]; omega
      refine AW.mid (fun s => s = ⟨[(0, .c (encis l)), (2, .c (.ptr 0 0 0)), (3, .c (.ptr 1 0 0)), (4, .c (cI (i + 1 : Nat))), (5, .c (cI i))], [(0, ⟨1, [[.sc (.slice none 0 0)]]⟩), (1, ⟨1, [[.ref 2 0 (timesE W n (i + 1)).length]]⟩), (2, ⟨6, (timesE W n (i + 1)).map encOp⟩)], 3⟩) (AW.block ?_) ?_
      · refine AW.st teOk [] (by simp [hwi, -Option.some.injEq] <;> rfl) trivial ?_
        refine AW.st teOk [.fz (.c (cI (digitI n 6 0)))] (by simp [hx, hwp, -Option.some.injEq] <;> rfl) ?_ ?_
        · exact ⟨h1, hdp⟩
        refine AW.st teOk [] (by simp [-Option.some.injEq] <;> rfl) trivial ?_
        obtain ⟨p, hp⟩ : ∃ p, p = 101 + digitI n 6 0 := ⟨_, rfl⟩
        rw [← hp]
        refine AW.mid (fun s => s = ⟨[(0, .c (encis l)), (2, .c (.ptr 0 0 0)), (3, .c (.ptr 1 0 0)), (4, .c (cI (i + 1 : Nat))), (5, .c (cI i)), (6, .c (cI p)), (7, .c (cI (lastP W p W.length)))], [(0, ⟨1, [[.sc (.slice none 0 0)]]⟩), (1, ⟨1, [[.ref 2 0 W.length]]⟩), (2, ⟨6, W.map encOp⟩)], 3⟩) ?_ ?_
        · refine AW.st teOk [] (by simp [-Option.some.injEq] <;> rfl) trivial ?_
          refine AW.block (AW.loop (fun m s => ∃ k : Nat, m = W.length - k ∧ k ≤ W.length ∧ s = ⟨[(0, .c (encis l)), (2, .c (.ptr 0 0 0)), (3, .c (.ptr 1 0 0)), (4, .c (cI (i + 1 : Nat))), (5, .c (cI i)), (6, .c (cI p)), (7, .c (cI (lastP W p k))), (8, .c (cI k))], [(0, ⟨1, [[.sc (.slice none 0 0)]]⟩), (1, ⟨1, [[.ref 2 0 W.length]]⟩), (2, ⟨6, W.map encOp⟩)], 3⟩) _ (Weak.normS hA [0, 2, 3, 4, 5, 6, 7, 8] [(2, 0), (3, 1)] [(2, 2)] [1] 3 _ (by simp) (by simp) (by simp; exact flatOpsM _)) ⟨0, rfl, Nat.zero_le _, by simp; rfl⟩ ?_)
          rintro m s ⟨k, rfl, hk, rfl⟩
          refine AW.seq ?_
          refine AW.st teOk [] (by simp [-Option.some.injEq] <;> rfl) trivial ?_
          refine AW.iff (decide (k < W.length)) (by simp) (fun h => AW.skip ?_) (fun h => AW.exit (x_then (x_then (blockA_exit ?_))))
          · rw [decide_eq_true_eq] at h
            obtain ⟨q, hq⟩ : ∃ e, W[k]? = some e := ⟨_, List.getElem?_eq_getElem h⟩
            have hlp : lastP W p (k + 1) = if q.p = p then (k : Int) else lastP W p k := by rw [lastP, hq]
            refine AW.seq (AW.block ?_)
            refine AW.st teOk [] (by simp [hq, -Option.some.injEq] <;> rfl) ?_ ?_
            · first | trivial | omega | (simp; omega)
            by_cases hqp : q.p = p
            · refine AW.iff true (by simp [hqp]) (fun _ => ?_) (fun h => by cases h)
              rw [if_pos hqp] at hlp
              refine AW.text teOk (ans := []) (by simp [-Option.some.injEq] <;> rfl) ?_ ?_
              · trivial
              refine AW.text teOk (ans := []) (by simp [-Option.some.injEq] <;> rfl) ?_ ?_
              · trivial
              refine ⟨_, _, Weak.normS hA [0, 2, 3, 4, 5, 6, 7, 8] [(2, 0), (3, 1)] [(2, 2)] [1] 3 _ (by simp) (by simp) (by simp; exact flatOpsM _), ?_, k + 1, rfl, h, ?_⟩
              · omega
              · rw [hlp]
                simp
                exact wrap_s k (by omega)
            · refine AW.iff false (by simp [hqp]) (fun h => by cases h) (fun _ => AW.skip ?_)
              rw [if_neg hqp] at hlp
              refine AW.text teOk (ans := []) (by simp [-Option.some.injEq] <;> rfl) ?_ ?_
              · trivial
              refine ⟨_, _, Weak.normS hA [0, 2, 3, 4, 5, 6, 7, 8] [(2, 0), (3, 1)] [(2, 2)] [1] 3 _ (by simp) (by simp) (by simp; exact flatOpsM _), ?_, k + 1, rfl, h, ?_⟩
              · omega
              · rw [hlp]
                simp
                exact wrap_s k (by omega)
          · rw [decide_eq_false_iff_not] at h
            have : k = W.length := by omega
            subst this
            exact ⟨_, Weak.normS hA [0, 2, 3, 4, 5, 6, 7] [(2, 0), (3, 1)] [(2, 2)] [1] 3 _ (by simp) (by simp) (by simp; exact flatOpsM _), by simp⟩
        rintro s rfl
        obtain ⟨K, hK⟩ : ∃ K, K = lastP W p W.length := ⟨_, rfl⟩
        have hKl := lastP_lt W p W.length
        rw [← hK] at hKl ⊢
        refine AW.mid (fun s => s = ⟨[(0, .c (encis l)), (2, .c (.ptr 0 0 0)), (3, .c (.ptr 1 0 0)), (4, .c (cI (i + 1 : Nat))), (5, .c (cI i)), (6, .c (cI p)), (7, .c (cI (openP W p)))], [(0, ⟨1, [[.sc (.slice none 0 0)]]⟩), (1, ⟨1, [[.ref 2 0 W.length]]⟩), (2, ⟨6, W.map encOp⟩)], 3⟩) ?_ ?_
        · by_cases hK0 : 0 ≤ K
          · have hKr : inR W.length K = true := by simp only [inR, Bool.and_eq_true, decide_eq_true_eq]; omega
            obtain ⟨q, hq1, hq2, _, _⟩ := opAt_some hKr
            have hop : openP W p = if q.ret ≠ 0 then -1 else K := by unfold openP; rw [← hK, hq1]
            have hge : K ≥ 0 := hK0
            cases hz : (q.ret != 0) with
            | true =>
              have hz' : q.ret ≠ 0 := by simpa using hz
              rw [hop, if_pos hz']
              refine AW.st teOk [] (by simp [hge, hq2, hz, -Option.some.injEq] <;> rfl) ?_ ?_
              · first | trivial | omega | (simp; omega)
              refine AW.iff true (by simp) (fun _ => ?_) (fun h => by cases h)
              refine AW.text teOk (ans := []) (by simp [-Option.some.injEq] <;> rfl) ?_ ?_
              · trivial
              exact ⟨_, Weak.normS hA [0, 2, 3, 4, 5, 6, 7] [(2, 0), (3, 1)] [(2, 2)] [1] 3 _ (by simp) (by simp) (by simp; exact flatOpsM _), by simp⟩
            | false =>
              have hz' : ¬ q.ret ≠ 0 := by simpa using hz
              rw [hop, if_neg hz']
              refine AW.st teOk [] (by simp [hge, hq2, hz, -Option.some.injEq] <;> rfl) ?_ ?_
              · first | trivial | omega | (simp; omega)
              refine AW.iff false (by simp) (fun h => by cases h) (fun _ => AW.skip ?_)
              exact ⟨_, Weak.normS hA [0, 2, 3, 4, 5, 6, 7] [(2, 0), (3, 1)] [(2, 2)] [1] 3 _ (by simp) (by simp) (by simp; exact flatOpsM _), by simp⟩
          · have hop : openP W p = K := by unfold openP; rw [← hK]; unfold opAt; rw [if_neg hK0]; show (-1 : Int) = K; omega
            have hge : ¬ K ≥ 0 := hK0
            rw [hop]
            refine AW.st teOk [] (by simp [hge, -Option.some.injEq] <;> rfl) ?_ ?_
            · first | trivial | omega | (simp; omega)
            refine AW.iff false (by simp) (fun h => by cases h) (fun _ => AW.skip ?_)
            exact ⟨_, Weak.normS hA [0, 2, 3, 4, 5, 6, 7] [(2, 0), (3, 1)] [(2, 2)] [1] 3 _ (by simp) (by simp) (by simp; exact flatOpsM _), by simp⟩
        rintro s rfl
        obtain ⟨O, hO⟩ : ∃ O, O = openP W p := ⟨_, rfl⟩
        have hd8 := dP n 8 3 (by decide) (by decide)
        have htE : timesE W n (i + 1) = match opAt W O with
            | some o => if 0 < digitI n 8 3 then W.set O.toNat { o with ret := (i : Int) + 1 } else W ++ [newO n (i + 1)]
            | none => W ++ [newO n (i + 1)] := by rw [hO, hp]; rfl
        rw [← hO]
        by_cases hset : (∃ o, opAt W O = some o) ∧ 0 < digitI n 8 3
        · obtain ⟨⟨o, ho⟩, hdig⟩ := hset
          rw [ho] at htE
          simp only [hdig, if_true] at htE
          have hO0 : O ≥ 0 ∧ W[O.toNat]? = some o := by
            unfold opAt at ho
            split at ho
            · exact ⟨by omega, ho⟩
            · cases ho
          obtain ⟨hge, hoW⟩ := hO0
          have hOl := (List.getElem?_eq_some_iff.1 hoW).1
          have hgt : digitI n 8 3 > 0 := hdig
          have hfl : flatO ⟨6, (W.map encOp).set O.toNat (encOp { o with ret := (i : Int) + 1 })⟩ = true := by rw [← List.map_set]; exact flatOpsM _
          refine AW.seq ?_
          refine AW.st teOk [.fz (.c (cI (digitI n 8 3)))] (by simp [hge, hx, hgt, -Option.some.injEq] <;> rfl) ?_ ?_
          · exact ⟨h1, hd8⟩
          refine AW.iff true (by simp) (fun _ => ?_) (fun h => by cases h)
          refine AW.st teOk [] (by simp [hoW, -Option.some.injEq] <;> rfl) ?_ ?_
          · first | trivial | omega | (simp; omega)
          refine AW.exit (x_then (blockA_exit ?_))
          rw [htE]
          exact ⟨_, Weak.normS hA [0, 2, 3, 4, 5] [(2, 0), (3, 1)] [(2, 2)] [1] 3 _ (by simp) (by simp) (by simp; exact hfl), by simp⟩
        · have hO1 : O ≥ 0 → ∃ o, opAt W O = some o := by
            rw [hO]
            unfold openP
            cases hm : opAt W (lastP W p W.length) with
            | none => intro h; simp at h
            | some o =>
              simp only
              split
              · intro h; omega
              · intro _; exact ⟨o, hm⟩
          have htn : timesE W n (i + 1) = W ++ [newO n (i + 1)] := by
            rw [htE]
            cases ho : opAt W O with
            | none => rfl
            | some o =>
              simp only
              rw [if_neg fun hd => hset ⟨⟨o, ho⟩, hd⟩]
          refine AW.mid (fun s => s = ⟨[(0, .c (encis l)), (2, .c (.ptr 0 0 0)), (3, .c (.ptr 1 0 0)), (4, .c (cI (i + 1 : Nat))), (5, .c (cI i)), (6, .c (cI p))], [(0, ⟨1, [[.sc (.slice none 0 0)]]⟩), (1, ⟨1, [[.ref 2 0 W.length]]⟩), (2, ⟨6, W.map encOp⟩)], 3⟩) ?_ ?_
          · by_cases hge : O ≥ 0
            · have hng : ¬ digitI n 8 3 > 0 := fun h => hset ⟨hO1 hge, h⟩
              refine AW.st teOk [.fz (.c (cI (digitI n 8 3)))] (by simp [hge, hx, hng, -Option.some.injEq] <;> rfl) ?_ ?_
              · exact ⟨h1, hd8⟩
              refine AW.iff false (by simp) (fun h => by cases h) (fun _ => AW.skip ?_)
              exact ⟨_, Weak.normS hA [0, 2, 3, 4, 5, 6] [(2, 0), (3, 1)] [(2, 2)] [1] 3 _ (by simp) (by simp) (by simp; exact flatOpsM _), by simp⟩
            · refine AW.st teOk [] (by simp [hge, -Option.some.injEq] <;> rfl) ?_ ?_
              · first | trivial | omega | (simp; omega)
              refine AW.iff false (by simp) (fun h => by cases h) (fun _ => AW.skip ?_)
              exact ⟨_, Weak.normS hA [0, 2, 3, 4, 5, 6] [(2, 0), (3, 1)] [(2, 2)] [1] 3 _ (by simp) (by simp) (by simp; exact flatOpsM _), by simp⟩
          rintro s rfl
          have hd3 := dP n 3 2 (by decide) (by decide)
          have hd2 := dP n 2 9 (by decide) (by decide)
          have hef := eff_pure n (digitI n 2 9 == 1)
          obtain ⟨k1, k2⟩ := digitP_lt n (b := 3) (by omega) 2
          have hw3 : IntKind.i64.wrap (1 + digitI n 3 2) = 1 + digitI n 3 2 := by rw [IntKind.wrap_i64]; omega
          have hnew : newO n (i + 1) = ⟨p, 1 + digitI n 3 2, if digitI n 3 2 = 0 then [effS n (digitI n 2 9 == 1)] else [], [], i + 1, 0⟩ := by rw [hp]; rfl
          rw [htn, hnew]
          generalize effS n (digitI n 2 9 == 1) = E at *
          refine AW.st teOk [.fz (.c (cI (digitI n 3 2)))] (by simp [hx, hw3, -Option.some.injEq] <;> rfl) ?_ ?_
          · exact ⟨h1, hd3⟩
          refine AW.mid (fun s => s = ⟨[(0, .c (encis l)), (2, .c (.ptr 0 0 0)), (3, .c (.ptr 1 0 0)), (4, .c (cI (i + 1 : Nat))), (5, .c (cI i)), (9, .c (.fad (encOp ⟨p, 1 + digitI n 3 2, if digitI n 3 2 = 0 then [E] else [], [], i + 1, 0⟩)))], [(0, ⟨1, [[.sc (.slice none 0 0)]]⟩), (1, ⟨1, [[.ref 2 0 W.length]]⟩), (2, ⟨6, W.map encOp⟩)], 3⟩) ?_ ?_
          · refine AW.st teOk [] (by simp [-Option.some.injEq] <;> rfl) trivial ?_
            by_cases hk : digitI n 3 2 = 0
            · refine AW.iff true (by simp [hk]) (fun _ => ?_) (fun h => by cases h)
              refine AW.draw mixed teOk (ans := [.c (cI (digitI n 2 9)), .agg (encE' E)]) (by simp [hx, -Option.some.injEq] <;> rfl) (by kernel_rfl) (by kernel_rfl) ?_ ?_
              · simp [allP]
                exact ⟨h1, hd2, hef⟩
              exact ⟨_, (Weak.leO 11 _ (o := ⟨6, [[cI p, cI (1 + digitI n 3 2), .row 5 true [encE' E], .sc (.slice none 0 0), cI ((i : Int) + 1), cI 0]]⟩) (o' := ⟨6, [encOp ⟨p, 1 + digitI n 3 2, if digitI n 3 2 = 0 then [E] else [], [], (i : Int) + 1, 0⟩]⟩) (by simp) rfl rfl (leCs_mid (a := []) (b := []) (by rw [if_pos hk]; exact .cons (.refl _) (.cons (.refl _) (.cons (LeC.loose 5 true _) (.cons (.nil 10) (.cons (.refl _) (.cons (.refl _) .nil)))))))).trans ((Weak.freeze 11 ⟨6, [encOp ⟨p, 1 + digitI n 3 2, if digitI n 3 2 = 0 then [E] else [], [], (i : Int) + 1, 0⟩]⟩ [] _ (by simp) rfl).trans (Weak.normS hA [0, 2, 3, 4, 5, 9] [(2, 0), (3, 1)] [(2, 2)] [1] 3 _ (by simp) (by simp) (by simp [mapAt_nil]; exact flatOpsM _))), by simp [mapAt_nil]⟩
            · refine AW.iff false (by simp; omega) (fun h => by cases h) (fun _ => AW.skip ?_)
              exact ⟨_, (Weak.leO 11 _ (o := ⟨6, [[cI p, cI (1 + digitI n 3 2), .sc (.slice none 0 0), .sc (.slice none 0 0), cI ((i : Int) + 1), cI 0]]⟩) (o' := ⟨6, [encOp ⟨p, 1 + digitI n 3 2, if digitI n 3 2 = 0 then [E] else [], [], (i : Int) + 1, 0⟩]⟩) (by simp) rfl rfl (leCs_mid (a := []) (b := []) (by rw [if_neg hk]; exact .cons (.refl _) (.cons (.refl _) (.cons (.nil 5) (.cons (.nil 10) (.cons (.refl _) (.cons (.refl _) .nil)))))))).trans ((Weak.freeze 11 ⟨6, [encOp ⟨p, 1 + digitI n 3 2, if digitI n 3 2 = 0 then [E] else [], [], (i : Int) + 1, 0⟩]⟩ [] _ (by simp) rfl).trans (Weak.normS hA [0, 2, 3, 4, 5, 9] [(2, 0), (3, 1)] [(2, 2)] [1] 3 _ (by simp) (by simp) (by simp [mapAt_nil]; exact flatOpsM _))), by simp [mapAt_nil]⟩
          rintro s rfl
          obtain ⟨oN, hoN⟩ : ∃ o : OpS, o = ⟨p, 1 + digitI n 3 2, if digitI n 3 2 = 0 then [E] else [], [], (i : Int) + 1, 0⟩ := ⟨_, rfl⟩
          rw [← hoN]
          refine AW.text teOk (ans := []) (by simp [-Option.some.injEq] <;> rfl) ?_ ?_
          · simp [growOk]
            omega
          exact ⟨_, Weak.normS hA [0, 2, 3, 4, 5] [(2, 0), (3, 1)] [(7, 2)] [1] 3 _ (by simp) (by simp) (by simp; exact flatOpsM _), by simp⟩
      rintro s rfl
      refine AW.text teOk (ans := []) (by simp [-Option.some.injEq] <;> rfl) ?_ ?_
      · trivial
      refine ⟨_, _, Weak.normS hA [0, 2, 3, 4, 5] [(2, 0), (3, 1)] [(2, 2)] [1] 3 _ (by simp) (by simp) (by simp; exact flatOpsM _), ?_, i + 1, rfl, by omega, by omega, ?_⟩
      · omega
      · rw [hnx]
        simp [hwi]
    · rw [hfin (by omega)]
      refine AW.st teOk [] (by simp [h1, h2, -Option.some.injEq] <;> rfl) ?_ ?_
      · trivial
      refine AW.iff false (by simp) (fun h => by cases h) (fun _ => AW.exit (x_then (x_then (blockA_exit ?_))))
      refine AW.st teOk [] (by simp [-Option.some.injEq] <;> rfl) ?_ ?_
      · trivial
      refine AW.ret ⟨.inr rfl, _, Weak.freeze 2 ⟨6, W.map encOp⟩ [0, 1] _ (by simp) (flatOpsM W), ?_⟩
      simp
  · rw [hfin (by omega)]
    refine AW.st teOk [] (by simp [h1, -Option.some.injEq] <;> rfl) ?_ ?_
    · trivial
    refine AW.iff false (by simp) (fun h => by cases h) (fun _ => AW.exit (x_then (x_then (blockA_exit ?_))))
    refine AW.st teOk [] (by simp [-Option.some.injEq] <;> rfl) ?_ ?_
    · trivial
    refine AW.ret ⟨.inr rfl, _, Weak.freeze 2 ⟨6, W.map encOp⟩ [0, 1] _ (by simp) (flatOpsM W), ?_⟩
    simp
end Go.Proofs.YtphlhadgcfndhaaGreat.Abs
end
