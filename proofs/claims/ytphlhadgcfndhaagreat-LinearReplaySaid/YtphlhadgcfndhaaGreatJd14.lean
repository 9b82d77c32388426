/- Joined for the claim: WPp WPq -/
import Derived.Test.YtphlhadgcfndhaaGreatJd13
section
namespace Go.Proofs.YtphlhadgcfndhaaGreat.Abs
open Go Go.RowKit
theorem anyAt_no {α : Type} {f : List α → α → Bool} {l : List α} (h : ∀ i x, l[i]? = some x → f (l.take i) x = false) : anyAt f l = false := by
  unfold anyAt
  rw [List.any_eq_false]
  intro i hi
  have hi := List.mem_range.1 hi
  have hx := List.getElem?_eq_getElem hi
  rw [hx]
  simp [h i _ hx]
theorem anyAt_not {α : Type} {f : List α → α → Bool} {l : List α} (h : anyAt f l = false) {i : Nat} {x : α} (hx : l[i]? = some x) : f (l.take i) x = false := by
  cases hf : f (l.take i) x with
  | false => rfl
  | true =>
    rw [upTo_hit hx hf] at h
    cases h
theorem pw_at {α : Type} {R : α → α → Prop} {l : List α} (h : l.Pairwise R) {i j : Nat} {x y : α} (hx : l[i]? = some x) (hy : (l.take i)[j]? = some y) : R y x := by
  obtain ⟨hi, rfl⟩ := List.getElem?_eq_some_iff.1 hx
  have hj : j < i := by
    have := (List.getElem?_eq_some_iff.1 hy).1
    rw [List.length_take] at this
    omega
  rw [List.getElem?_take_of_lt hj] at hy
  obtain ⟨hj', rfl⟩ := List.getElem?_eq_some_iff.1 hy
  exact List.pairwise_iff_getElem.1 h j i hj' hi hj
structure ChkOk (ops : List OpS) (l : List Int) : Prop where
  rng : ∀ x ∈ l, inR ops.length x = true
  nd : l.Nodup
  mis : ∀ (i : Nat) (o : OpS), ops[i]? = some o → reqB o = true → (i : Int) ∈ l
  pen : ∀ x ∈ l, ∀ o, opAt ops x = some o → penB o = false
  ord : l.Pairwise fun y x => preS ops x y = false
theorem ChkOk.chk {ops : List OpS} {l : List Int} (h : ChkOk ops l) : chkS ops l = 0 := by
  have h1 : rngS ops.length l = false := anyAt_no fun i x hx => by simp [h.rng x (List.mem_of_getElem? hx)]
  have h2 : dupS l = false := anyAt_no fun i x hx => by
    cases hc : (l.take i).contains x with
    | false => rfl
    | true =>
      obtain ⟨j, hj⟩ := List.mem_iff_getElem?.1 (List.contains_iff_mem.1 hc)
      exact absurd rfl (pw_at h.nd hx hj)
  have h3 : misS ops l = false := anyAt_no fun i o ho => by
    cases hr : reqB o with
    | false => rfl
    | true =>
      have hl : (ops.take i).length = i := by
        rw [List.length_take]
        have := (List.getElem?_eq_some_iff.1 ho).1
        omega
      rw [hl]
      have := h.mis i o ho hr
      simp [this]
  have h4 : penS ops l = false := anyAt_no fun i x hx => by
    cases ho : opAt ops x with
    | none => rfl
    | some o => exact h.pen x (List.mem_of_getElem? hx) o ho
  have h5 : ordS ops l = false := anyAt_no fun i x hx => anyAt_no fun j y hy => pw_at h.ord hx hy
  unfold chkS
  simp [h1, h2, h3, h4, h5]
theorem chk_ok {ops : List OpS} {l : List Int} (h : chkS ops l = 0) : ChkOk ops l := by
  have h0 := h
  unfold chkS at h0
  split at h0
  · cases h0
  rename_i h1
  split at h0
  · cases h0
  rename_i h2
  split at h0
  · cases h0
  rename_i h3
  split at h0
  · cases h0
  rename_i h4
  split at h0
  · cases h0
  rename_i h5
  rw [Bool.not_eq_true] at h1 h2 h3 h4 h5
  refine ⟨chk_rng h, dup_nodup h2, fun i o ho hr => ?_, fun x hx o ho => ?_, List.pairwise_iff_getElem.2 fun i j hi hj hij => ?_⟩
  · have := anyAt_not h3 ho
    have hl : (ops.take i).length = i := by
      rw [List.length_take]
      have := (List.getElem?_eq_some_iff.1 ho).1
      omega
    rw [hr, hl] at this
    simpa using this
  · obtain ⟨i, hi⟩ := List.mem_iff_getElem?.1 hx
    have := anyAt_not h4 hi
    rw [ho] at this
    exact this
  · have h := anyAt_not h5 (List.getElem?_eq_getElem hj)
    exact anyAt_not (i := i) h (by rw [List.getElem?_take_of_lt hij, List.getElem?_eq_getElem hi])
/-! ### Order -/
def atI (l : List Int) (i : Nat) : Int := if l.length = 0 then 0 else l.getD (indexI i l.length).toNat 0
def skipB (l : List Int) (o : OpS) (i : Nat) : Bool := o.ret == 0 && (o.kind != 1 || digitI (atI l i) 3 5 == 0)
def doneF (ops : List OpS) (l : List Int) : Nat → List Bool
  | 0 => List.replicate ops.length false
  | i + 1 => match ops[i]? with
    | some o => if skipB l o i = true then (doneF ops l i).set i true else doneF ops l i
    | none => doneF ops l i
def dnB (d : List Bool) (k : Nat) : Bool := d.getD k true
def okO (ops : List OpS) (d : List Bool) (k : Nat) : Bool := !dnB d k && (List.range ops.length).all fun q => dnB d q || !preS ops q k
def frO (ops : List OpS) (d : List Bool) : List Nat := (List.range ops.length).filter (okO ops d)
def pickO (l : List Int) (i : Nat) (fr : List Nat) : Nat := fr.getD (indexI (atI l i) fr.length).toNat 0
def ordF (ops : List OpS) (l : List Int) : Nat → Nat → List Bool → List Int → List Int
  | 0, _, _, out => out
  | m + 1, i, d, out => if frO ops d = [] then out else ordF ops l m (i + 1) (d.set (pickO l i (frO ops d)) true) (out ++ [(pickO l i (frO ops d) : Int)])
def orderS (ops : List OpS) (l : List Int) : List Int := ordF ops l ops.length 0 (doneF ops l ops.length) []
theorem doneF_len (ops : List OpS) (l : List Int) : ∀ i, (doneF ops l i).length = ops.length
  | 0 => by simp [doneF]
  | i + 1 => by
    unfold doneF
    split
    · split
      · rw [List.length_set]; exact doneF_len ops l i
      · exact doneF_len ops l i
    · exact doneF_len ops l i
theorem dn_set {d : List Bool} {k : Nat} (hk : k < d.length) (q : Nat) : dnB (d.set k true) q = (dnB d q || decide (q = k)) := by
  unfold dnB
  rw [List.getD_eq_getElem?_getD, List.getD_eq_getElem?_getD, List.getElem?_set]
  by_cases h : k = q
  · subst h
    simp [hk]
  · rw [if_neg h]
    have : q ≠ k := Ne.symm h
    simp [this]
def skA (ops : List OpS) (l : List Int) (k : Nat) : Bool := match ops[k]? with
  | some o => skipB l o k
  | none => false
theorem doneF_dn (ops : List OpS) (l : List Int) : ∀ i, i ≤ ops.length → ∀ k, k < ops.length → dnB (doneF ops l i) k = (decide (k < i) && skA ops l k)
  | 0, _, k, hk => by
    unfold dnB doneF
    rw [List.getD_eq_getElem?_getD, List.getElem?_replicate, if_pos hk]
    simp
  | i + 1, hi, k, hk => by
    have ih := doneF_dn ops l i (by omega) k hk
    have ho := List.getElem?_eq_getElem (l := ops) (i := i) (by omega)
    unfold doneF
    rw [ho]
    simp only
    by_cases e : k = i
    · subst e
      have hs : skA ops l k = skipB l ops[k] k := by unfold skA; rw [ho]
      rw [hs]
      by_cases hb : skipB l ops[k] k = true
      · rw [if_pos hb, dn_set (by rw [doneF_len]; omega), hb]
        simp
      · rw [if_neg hb, ih]
        rw [Bool.not_eq_true] at hb
        simp [hb]
    · have hd : decide (k < i + 1) = decide (k < i) := by
        by_cases h : k < i
        · simp [h]; omega
        · simp [h]; omega
      rw [hd]
      split
      · rw [dn_set (by rw [doneF_len]; omega), ih]
        simp [e]
      · exact ih
/-- Histories whose events ascend. -/
structure VT (N : Int) (ops : List OpS) : Prop where
  asc : (ops.map fun o => o.call).Pairwise (· < ·)
  el : ∀ o ∈ ops, 1 ≤ o.call ∧ o.call ≤ N ∧ (o.ret = 0 ∨ o.call < o.ret ∧ o.ret ≤ N)
theorem VT.take {N : Int} {ops : List OpS} (h : VT N ops) (n : Nat) : VT N (ops.take n) := by
  refine ⟨?_, fun o ho => h.el o (List.mem_of_mem_take ho)⟩
  rw [List.map_take]
  exact h.asc.sublist (List.take_sublist _ _)
theorem VT.lt {N : Int} {ops : List OpS} (h : VT N ops) {i j : Nat} {a b : OpS} (ha : ops[i]? = some a) (hb : ops[j]? = some b) (hij : i < j) : a.call < b.call := by
  obtain ⟨hi, rfl⟩ := List.getElem?_eq_some_iff.1 ha
  obtain ⟨hj, rfl⟩ := List.getElem?_eq_some_iff.1 hb
  have := List.pairwise_iff_getElem.1 h.asc i j (by simpa using hi) (by simpa using hj) hij
  simpa using this
theorem timesE_vt {ops : List OpS} {N : Int} (h : VT N ops) (h0 : 0 ≤ N) (n : Int) : VT (N + 1) (timesE ops n (N + 1)) := by
  have hnew : VT (N + 1) (ops ++ [newO n (N + 1)]) := by
    refine ⟨?_, fun o ho => ?_⟩
    · rw [List.map_append, List.pairwise_append]
      refine ⟨h.asc, by simp, fun a ha b hb => ?_⟩
      obtain ⟨o, ho, rfl⟩ := List.mem_map.1 ha
      have := (h.el o ho).2.1
      simp [newO] at hb
      omega
    · rcases List.mem_append.1 ho with ho | ho
      · have := h.el o ho
        omega
      · rw [List.mem_singleton.1 ho]
        show 1 ≤ N + 1 ∧ N + 1 ≤ N + 1 ∧ ((0 : Int) = 0 ∨ _)
        omega
  unfold timesE
  split
  · rename_i o ho
    split
    · have hm := opAt_mem ho
      refine ⟨?_, fun q hq => ?_⟩
      · have e : (ops.set (openP ops (101 + digitI n 6 0)).toNat { o with ret := N + 1 }).map (fun o => o.call) = ops.map fun o => o.call := by
          rw [List.map_set]
          refine List.ext_getElem? fun i => ?_
          rw [List.getElem?_set]
          split
          · rename_i hi
            subst hi
            unfold opAt at ho
            split at ho
            · have := (List.getElem?_eq_some_iff.1 ho).1
              rw [if_pos (by simpa using this), List.getElem?_map, ho]
              rfl
            · cases ho
          · rfl
        rw [e]
        exact h.asc
      · rcases List.mem_or_eq_of_mem_set hq with hq | rfl
        · have := h.el q hq
          omega
        · have := h.el o hm
          refine ⟨this.1, ?_, .inr ⟨?_, ?_⟩⟩
          · show o.call ≤ N + 1
            omega
          · show o.call < N + 1
            omega
          · show N + 1 ≤ N + 1
            omega
    · exact hnew
  · exact hnew
theorem timesS_vt (l : List Int) : ∀ i : Nat, VT i (timesS l i)
  | 0 => ⟨.nil, fun o h => by cases h⟩
  | i + 1 => by
    have := timesE_vt (timesS_vt l i) (by omega) (l[i]?.getD 0)
    simpa [timesS] using this
theorem preS_lt {N : Int} {ops : List OpS} (hv : VT N ops) {q k : Nat} (h : preS ops q k = true) : q < k := by
  unfold preS opAt at h
  rw [if_pos (by omega), if_pos (by omega)] at h
  simp only [Int.toNat_natCast] at h
  cases hq : ops[q]? with
  | none => rw [hq] at h; cases h
  | some a =>
    cases hk : ops[k]? with
    | none => rw [hq, hk] at h; cases h
    | some b =>
      rw [hq, hk] at h
      simp only [preB, Bool.and_eq_true, bne_iff_ne, ne_eq, decide_eq_true_eq] at h
      have h1 := (hv.el a (List.mem_of_getElem? hq)).2.2
      by_cases hlt : q < k
      · exact hlt
      · exfalso
        by_cases e : q = k
        · subst e
          rw [hq] at hk
          cases hk
          omega
        · have := hv.lt hk hq (by omega)
          omega
theorem mem_frO {ops : List OpS} {d : List Bool} {k : Nat} : k ∈ frO ops d ↔ k < ops.length ∧ dnB d k = false ∧ ∀ q, q < ops.length → dnB d q = false → preS ops q k = false := by
  unfold frO okO
  rw [List.mem_filter, List.mem_range]
  simp only [Bool.and_eq_true, Bool.not_eq_true', List.all_eq_true, List.mem_range, Bool.or_eq_true]
  refine ⟨fun h => ⟨h.1, h.2.1, fun q hq hd => ?_⟩, fun h => ⟨h.1, h.2.1, fun q hq => ?_⟩⟩
  · rcases h.2.2 q hq with h | h
    · rw [h] at hd; cases hd
    · exact h
  · cases hd : dnB d q with
    | true => exact .inl rfl
    | false => exact .inr (h.2.2 q hq hd)
theorem frO_nil {N : Int} {ops : List OpS} {d : List Bool} (hv : VT N ops) (h : frO ops d = []) : ∀ k, k < ops.length → dnB d k = true := by
  intro k
  induction k using Nat.strongRecOn with
  | ind k ih =>
    intro hk
    cases hd : dnB d k with
    | true => rfl
    | false =>
      have : k ∈ frO ops d := mem_frO.2 ⟨hk, hd, fun q hq hdq => by
        cases hp : preS ops q k with
        | false => rfl
        | true =>
          have hlt := preS_lt hv hp
          rw [ih q hlt hq] at hdq
          cases hdq⟩
      rw [h] at this
      cases this
theorem pickO_mem {l : List Int} {i : Nat} {fr : List Nat} (h : fr ≠ []) (hl : fr.length < 1000000) : (0 ≤ indexI (atI l i) fr.length ∧ indexI (atI l i) fr.length < fr.length) ∧ fr[(indexI (atI l i) fr.length).toNat]? = some (pickO l i fr) := by
  have h0 : 0 < fr.length := List.length_pos_iff.2 h
  have hb := indexP_lt (atI l i) (k := fr.length) (by omega) (by omega)
  refine ⟨hb, ?_⟩
  unfold pickO
  rw [List.getD_eq_getElem?_getD, List.getElem?_eq_getElem (by omega)]
  rfl
structure OInv (ops : List OpS) (l : List Int) (d : List Bool) (out : List Int) : Prop where
  len : d.length = ops.length
  rng : ∀ x ∈ out, inR ops.length x = true
  nd : out.Nodup
  dn : ∀ k, k < ops.length → dnB d k = (decide ((k : Int) ∈ out) || skA ops l k)
  sk : ∀ x ∈ out, skA ops l x.toNat = false
  ord : out.Pairwise fun y x => preS ops x y = false
  fut : ∀ y ∈ out, ∀ k, k < ops.length → dnB d k = false → preS ops k y = false
theorem OInv.start (ops : List OpS) (l : List Int) : OInv ops l (doneF ops l ops.length) [] := by
  refine ⟨doneF_len ops l _, fun x h => (by cases h), .nil, fun k hk => ?_, fun x h => (by cases h), .nil, fun x h => (by cases h)⟩
  rw [doneF_dn ops l _ (Nat.le_refl _) k hk]
  simp [hk]
theorem OInv.step {ops : List OpS} {l : List Int} {d : List Bool} {out : List Int} (h : OInv ops l d out) {k : Nat} (hk : k ∈ frO ops d) : OInv ops l (d.set k true) (out ++ [(k : Int)]) := by
  obtain ⟨hkn, hkd, hkp⟩ := mem_frO.1 hk
  have hkk := h.dn k hkn
  rw [hkd] at hkk
  have hkk := hkk.symm
  rw [Bool.or_eq_false_iff, decide_eq_false_iff_not] at hkk
  have hs := dn_set (d := d) (k := k) (by rw [h.len]; exact hkn)
  refine ⟨by rw [List.length_set]; exact h.len, fun x hx => ?_, ?_, fun q hq => ?_, fun x hx => ?_, ?_, fun y hy q hq hd => ?_⟩
  · rcases List.mem_append.1 hx with hx | hx
    · exact h.rng x hx
    · rw [List.mem_singleton.1 hx]
      simp [inR]
      exact hkn
  · rw [List.nodup_append]
    refine ⟨h.nd, by simp, fun a ha b hb => ?_⟩
    rw [List.mem_singleton.1 hb]
    intro e
    exact hkk.1 (e ▸ ha)
  · rw [hs, h.dn q hq]
    by_cases e : q = k
    · subst e
      simp
    · have : ¬ (q : Int) = k := by omega
      simp [e, this]
  · rcases List.mem_append.1 hx with hx | hx
    · exact h.sk x hx
    · rw [List.mem_singleton.1 hx]
      simpa using hkk.2
  · rw [List.pairwise_append]
    refine ⟨h.ord, by simp, fun y hy x hx => ?_⟩
    rw [List.mem_singleton.1 hx]
    exact h.fut y hy k hkn hkd
  · rw [hs, Bool.or_eq_false_iff] at hd
    rcases List.mem_append.1 hy with hy | hy
    · exact h.fut y hy q hq hd.1
    · rw [List.mem_singleton.1 hy]
      exact hkp q hq hd.1
theorem OInv.done {N : Int} {ops : List OpS} {l : List Int} {d : List Bool} {out : List Int} (hv : VT N ops) (h : OInv ops l d out) (hf : frO ops d = []) : ChkOk ops out := by
  have hall := frO_nil hv hf
  refine ⟨h.rng, h.nd, fun i o ho hr => ?_, fun x hx o ho => ?_, h.ord⟩
  · have hi := (List.getElem?_eq_some_iff.1 ho).1
    have hd := h.dn i hi
    rw [hall i hi] at hd
    have hs : skA ops l i = false := by
      unfold skA
      rw [ho]
      simp only [reqB, Bool.and_eq_true, bne_iff_ne, ne_eq] at hr
      simp [skipB, hr.2]
    rw [hs, Bool.or_false] at hd
    simpa using hd.symm
  · have hs := h.sk x hx
    have : ops[x.toNat]? = some o := by
      unfold opAt at ho
      split at ho
      · exact ho
      · cases ho
    unfold skA at hs
    rw [this] at hs
    unfold penB
    cases hb : (o.kind != 1 && o.ret == 0) with
    | false => rfl
    | true =>
      rw [Bool.and_eq_true] at hb
      simp [skipB, hb.1, hb.2] at hs
theorem cnt_set {d : List Bool} {k : Nat} (h : dnB d k = false) : (d.set k true).count false + 1 = d.count false := by
  unfold dnB at h
  rw [List.getD_eq_getElem?_getD] at h
  have hk : k < d.length := by
    by_cases hk : k < d.length
    · exact hk
    · rw [List.getElem?_eq_none (by omega)] at h
      cases h
  rw [List.getElem?_eq_getElem hk] at h
  have hd : d[k] = false := h
  rw [List.count_set hk, hd]
  simp
  have : 0 < d.count false := List.count_pos_iff.2 (hd ▸ List.getElem_mem hk)
  omega
theorem ordF_ok {N : Int} {ops : List OpS} (hv : VT N ops) (hn : ops.length < 1000000) (l : List Int) : ∀ (m i : Nat) (d : List Bool) (out : List Int), d.count false ≤ m → OInv ops l d out → ChkOk ops (ordF ops l m i d out)
  | 0, i, d, out, hm, h => by
    unfold ordF
    refine h.done hv ?_
    refine List.eq_nil_iff_forall_not_mem.2 fun k hk => ?_
    obtain ⟨_, hkd, _⟩ := mem_frO.1 hk
    have := cnt_set hkd
    omega
  | m + 1, i, d, out, hm, h => by
    unfold ordF
    split
    · rename_i hf
      exact h.done hv hf
    · rename_i hf
      have hl : (frO ops d).length < 1000000 := Nat.lt_of_le_of_lt (List.length_filter_le _ _) (by simpa using hn)
      obtain ⟨_, hp⟩ := pickO_mem (l := l) (i := i) hf hl
      have hk := List.mem_of_getElem? hp
      have := cnt_set (mem_frO.1 hk).2.1
      exact ordF_ok hv hn l m _ _ _ (by omega) (h.step hk)
theorem count_le (d : List Bool) : d.count false ≤ d.length := List.count_le_length
theorem orderS_ok {N : Int} {ops : List OpS} (hv : VT N ops) (hn : ops.length < 1000000) (l : List Int) : ChkOk ops (orderS ops l) :=
  ordF_ok hv hn l _ _ _ _ (by have := count_le (doneF ops l ops.length); rw [doneF_len] at this; exact this) (OInv.start ops l)
theorem ordF_len (ops : List OpS) (l : List Int) : ∀ (m i : Nat) (d : List Bool) (out : List Int), (ordF ops l m i d out).length ≤ out.length + m
  | 0, i, d, out => by unfold ordF; omega
  | m + 1, i, d, out => by
    unfold ordF
    split
    · omega
    · have := ordF_len ops l m (i + 1) (d.set (pickO l i (frO ops d)) true) (out ++ [(pickO l i (frO ops d) : Int)])
      simp at this
      omega
theorem orderS_len (ops : List OpS) (l : List Int) : (orderS ops l).length ≤ ops.length := by
  have := ordF_len ops l ops.length 0 (doneF ops l ops.length) []
  simpa [orderS] using this
end Go.Proofs.YtphlhadgcfndhaaGreat.Abs
end
section
namespace Go.Proofs.YtphlhadgcfndhaaGreat.Abs
open Go Go.RowKit
set_option linter.unusedVariables false
set_option linter.unusedSimpArgs false
set_option maxHeartbeats 4000000
set_option maxRecDepth 8000
theorem at00_pure (l : List Int) (i : Nat) (hl : l.length < 4000000000000000000) : Pure Tryz.prog 26 [.c (encis l), .c (cI i)] (.c (cI (atI l i))) := by
  unfold atI
  refine pure_of teOk Tryz.func26 (by kernel_rfl) (c := _) rfl (N := 15) rfl (rs := [Go.ResultVar.tmp 4]) rfl (by simp) fun base A w0 hA => ?_
  refine AW.st teOk [] (by simp [-Option.some.injEq] <;> rfl) trivial ?_
  refine AW.seq ?_
  refine AW.st teOk [] (by simp [-Option.some.injEq] <;> rfl) trivial ?_
  by_cases h0 : l.length = 0
  · refine AW.iff true (by simp [h0]) (fun _ => ?_) (fun h => by cases h)
    refine AW.st teOk [] (by simp [-Option.some.injEq] <;> rfl) trivial ?_
    refine AW.ret ⟨.inr rfl, _, Weak.refl _, ?_⟩
    rw [if_pos h0]
    simp
  · refine AW.iff false (by simp; intro e; exact h0 (by rw [e]; rfl)) (fun h => by cases h) (fun _ => AW.skip ?_)
    have hi := indexP_lt i (k := l.length) (by omega) (by omega)
    have hip := index_pure i l.length
    obtain ⟨j, hj⟩ : ∃ j : Nat, indexI i l.length = j := ⟨(indexI i l.length).toNat, by omega⟩
    rw [if_neg h0]
    rw [hj] at hip hi ⊢
    obtain ⟨x, hx⟩ : ∃ x, l[j]? = some x := ⟨_, List.getElem?_eq_getElem (by omega)⟩
    have hgd : l.getD j 0 = x := by rw [List.getD_eq_getElem?_getD, hx]; rfl
    rw [Int.toNat_natCast, hgd]
    refine AW.st teOk [.fz (.c (cI j))] (by simp [hx, -Option.some.injEq] <;> rfl) ?_ ?_
    · exact ⟨hip, by omega⟩
    refine AW.ret ⟨.inr rfl, _, Weak.refl _, ?_⟩
    simp
@[simp] def encb (b : Bool) : List Cell := [cB b]
@[simp] theorem flat_encb (l : List Bool) : flatO ⟨1, l.map encb⟩ = true := flatO_of fun e he => by
  obtain ⟨x, _, rfl⟩ := List.mem_map.1 he
  rfl
@[simp] def encn (k : Nat) : List Cell := [cI k]
@[simp] theorem flat_encn (l : List Nat) : flatO ⟨1, l.map encn⟩ = true := flatO_of fun e he => by
  obtain ⟨x, _, rfl⟩ := List.mem_map.1 he
  rfl
def frK (ops : List OpS) (d : List Bool) (k : Nat) : List Nat := (List.range k).filter (okO ops d)
theorem frK_s (ops : List OpS) (d : List Bool) (k : Nat) : frK ops d (k + 1) = if okO ops d k = true then frK ops d k ++ [k] else frK ops d k := by
  unfold frK
  rw [List.range_succ, List.filter_append]
  split
  · rename_i h; simp [h]
  · rename_i h; simp [h]
def okQ (ops : List OpS) (d : List Bool) (k q : Nat) : Bool := !dnB d k && (List.range q).all fun q => dnB d q || !preS ops q k
theorem okQ_s (ops : List OpS) (d : List Bool) (k q : Nat) : okQ ops d k (q + 1) = (okQ ops d k q && (dnB d q || !preS ops q k)) := by
  unfold okQ
  rw [List.range_succ, List.all_append]
  simp [Bool.and_assoc]
theorem okQ_no {ops : List OpS} {d : List Bool} {k q : Nat} (h : okQ ops d k q = false) (hq : q ≤ ops.length) : okO ops d k = false := by
  cases hb : okO ops d k with
  | false => rfl
  | true =>
    unfold okO at hb
    unfold okQ at h
    rw [Bool.and_eq_true, List.all_eq_true] at hb
    rw [hb.1, Bool.true_and, List.all_eq_false] at h
    obtain ⟨x, hx, hn⟩ := h
    exact absurd (hb.2 x (List.mem_range.2 (by have := List.mem_range.1 hx; omega))) hn
theorem okQ_all (ops : List OpS) (d : List Bool) (k : Nat) : okQ ops d k ops.length = okO ops d k := rfl
theorem dn_at {d : List Bool} {k : Nat} (h : k < d.length) : d[k]? = some (dnB d k) := by
  unfold dnB
  rw [List.getD_eq_getElem?_getD, List.getElem?_eq_getElem h]
  rfl
abbrev ordSt (ops : List OpS) (l : List Int) (i : Nat) (d : List Bool) (out : List Int) : St := ⟨[(1, .c (encis l)), (2, .c (.fad (encHi ops))), (5, .c (.ref 1 0 out.length)), (6, .c (.ref 0 0 ops.length)), (8, .c (cI i))], [(0, ⟨1, d.map encb⟩), (1, ⟨1, out.map enci⟩)], 2⟩
theorem order_pure (ops : List OpS) (l : List Int) (hn : ops.length < 1000000) (hl : l.length < 4000000000000000000) : Pure Tryz.prog 13 [.agg (encHi ops), .c (encis l)] (.c (encis (orderS ops l))) := by
  refine pure_of teOk Tryz.func13 (by kernel_rfl) (c := _) rfl (N := 111) rfl (rs := [Go.ResultVar.tmp 4]) rfl (by simp) fun base A w0 hA => ?_
  refine AW.st teOk [] (by simp [-Option.some.injEq] <;> rfl) trivial ?_
  refine AW.to (s2 := ⟨[(1, .c (encis l)), (2, .c (.fad (encHi ops)))], [], 0⟩) ((Weak.freeze 0 ⟨1, [encHi ops]⟩ [] _ (by simp) (flatOpsR ops)).trans (Weak.normT hA [1, 2] [] [] 0 _ (by simp) (by simp) (by simp [mapAt_nil]))) (by simp [mapAt_nil]) ?_
  refine AW.st teOk [] (by simp [-Option.some.injEq] <;> rfl) trivial ?_
  refine AW.st teOk [] (by simp [-Option.some.injEq] <;> rfl) ?_ ?_
  · first | trivial | omega | (simp [allP, growOk] <;> omega)
  have hlen0 : (List.replicate ops.length false).length = ops.length := by simp
  have hd0 : (List.replicate ops.length false).map encb = List.replicate ops.length [cB false] := by simp
  refine AW.mid (fun s => s = ⟨[(1, .c (encis l)), (2, .c (.fad (encHi ops))), (5, .c (.sc (.slice none 0 0))), (6, .c (.ref 0 0 ops.length))], [(0, ⟨1, (doneF ops l ops.length).map encb⟩)], 1⟩) ?_ ?_
  · refine AW.st teOk [] (by simp [-Option.some.injEq] <;> rfl) trivial ?_
    refine AW.block (AW.loop (fun m s => ∃ i : Nat, m = ops.length - i ∧ i ≤ ops.length ∧ s = ⟨[(1, .c (encis l)), (2, .c (.fad (encHi ops))), (5, .c (.sc (.slice none 0 0))), (6, .c (.ref 0 0 ops.length)), (7, .c (cI i))], [(0, ⟨1, (doneF ops l i).map encb⟩)], 1⟩) _ (Weak.normT hA [1, 2, 5, 6, 7] [(6, 0)] [] 1 _ (by simp) (by simp) (by simp; rw [← hd0]; exact flat_encb _)) ⟨0, rfl, Nat.zero_le _, by simp [doneF]⟩ ?_)
    rintro m s ⟨i, rfl, hi, rfl⟩
    have hlen := doneF_len ops l i
    refine AW.seq ?_
    refine AW.st teOk [] (by simp [-Option.some.injEq] <;> rfl) trivial ?_
    refine AW.iff (decide (i < ops.length)) (by simp) (fun h => AW.skip ?_) (fun h => AW.exit (x_then (x_then (blockA_exit ?_))))
    · rw [decide_eq_true_eq] at h
      obtain ⟨o, hx⟩ : ∃ e, ops[i]? = some e := ⟨_, List.getElem?_eq_getElem h⟩
      have hnx : doneF ops l (i + 1) = if skipB l o i = true then (doneF ops l i).set i true else doneF ops l i := by rw [doneF, hx]
      have hat := at00_pure l i hl
      have hdg := dP (atI l i) 3 5 (by decide) (by decide)
      refine AW.mid (fun s => s = ⟨[(1, .c (encis l)), (2, .c (.fad (encHi ops))), (5, .c (.sc (.slice none 0 0))), (6, .c (.ref 0 0 ops.length)), (7, .c (cI i))], [(0, ⟨1, (doneF ops l (i + 1)).map encb⟩)], 1⟩) (AW.block ?_) ?_
      · generalize doneF ops l (i + 1) = D1 at *
        generalize doneF ops l i = D at *
        have yes : skipB l o i = true → D1 = D.set i true := fun h => by rw [hnx, if_pos h]
        have no : skipB l o i = false → D1 = D := fun h => by rw [hnx, h, if_neg (by simp)]
        obtain ⟨bb, hbb⟩ : ∃ b, D[i]? = some b := ⟨_, List.getElem?_eq_getElem (by omega)⟩
        have hset : flatO ⟨1, (D.map encb).set i [cB true]⟩ = true := by
          have : (D.map encb).set i [cB true] = (D.set i true).map encb := by rw [List.map_set]; rfl
          rw [this]; exact flat_encb _
        have hsm : (D.map encb).set i [cB true] = (D.set i true).map encb := by rw [List.map_set]; rfl
        cases hr : o.ret == 0 with
        | false =>
          rw [no (by simp [skipB, hr])]
          refine AW.st teOk [] (by simp [hx, hr, -Option.some.injEq] <;> rfl) ?_ ?_
          · first | trivial | omega | (simp [allP, growOk] <;> omega)
          refine AW.iff false (by simp) (fun h => by cases h) (fun _ => AW.skip ?_)
          exact ⟨_, Weak.normT hA [1, 2, 5, 6, 7] [(6, 0)] [] 1 _ (by simp) (by simp) (by simp), by simp⟩
        | true =>
        cases hk : o.kind != 1 with
        | true =>
          rw [yes (by simp [skipB, hr, hk])]
          refine AW.st teOk [] (by simp [hx, hr, hk, -Option.some.injEq] <;> rfl) ?_ ?_
          · first | trivial | omega | (simp [allP, growOk] <;> omega)
          refine AW.iff true (by simp) (fun _ => ?_) (fun h => by cases h)
          refine AW.text teOk (ans := []) (by simp [hbb, -Option.some.injEq] <;> rfl) ?_ ?_
          · first | trivial | omega | (simp [allP, growOk] <;> omega)
          exact ⟨_, Weak.normT hA [1, 2, 5, 6, 7] [(6, 0)] [] 1 _ (by simp) (by simp) (by simp; exact hset), by simp⟩
        | false =>
        cases hg : digitI (atI l i) 3 5 == 0 with
        | true =>
          rw [yes (by simp [skipB, hr, hk, hg])]
          refine AW.st teOk [.fz (.c (cI (atI l i))), .fz (.c (cI (digitI (atI l i) 3 5)))] (by simp [hx, hr, hk, hg, -Option.some.injEq] <;> rfl) ?_ ?_
          · first | exact ⟨h, hat, hdg⟩ | exact ⟨h, h, hat, hdg⟩ | (refine ⟨?_, hat, hdg⟩; omega)
          refine AW.iff true (by simp) (fun _ => ?_) (fun h => by cases h)
          refine AW.text teOk (ans := []) (by simp [hbb, -Option.some.injEq] <;> rfl) ?_ ?_
          · first | trivial | omega | (simp [allP, growOk] <;> omega)
          exact ⟨_, Weak.normT hA [1, 2, 5, 6, 7] [(6, 0)] [] 1 _ (by simp) (by simp) (by simp; exact hset), by simp⟩
        | false =>
          rw [no (by simp [skipB, hr, hk, hg])]
          refine AW.st teOk [.fz (.c (cI (atI l i))), .fz (.c (cI (digitI (atI l i) 3 5)))] (by simp [hx, hr, hk, hg, -Option.some.injEq] <;> rfl) ?_ ?_
          · first | exact ⟨h, hat, hdg⟩ | exact ⟨h, h, hat, hdg⟩ | (refine ⟨?_, hat, hdg⟩; omega)
          refine AW.iff false (by simp) (fun h => by cases h) (fun _ => AW.skip ?_)
          exact ⟨_, Weak.normT hA [1, 2, 5, 6, 7] [(6, 0)] [] 1 _ (by simp) (by simp) (by simp), by simp⟩
      rintro s rfl
      refine AW.text teOk (ans := []) (by simp [-Option.some.injEq] <;> rfl) ?_ ?_
      · trivial
      refine ⟨_, _, Weak.normT hA [1, 2, 5, 6, 7] [(6, 0)] [] 1 _ (by simp) (by simp) (by simp), ?_, i + 1, rfl, h, ?_⟩
      · omega
      · simp
        exact wrap_s i (by omega)
    · rw [decide_eq_false_iff_not] at h
      have : i = ops.length := by omega
      subst this
      exact ⟨_, Weak.normT hA [1, 2, 5, 6] [(6, 0)] [] 1 _ (by simp) (by simp) (by simp), by simp⟩
  rintro s rfl
  have hR : orderS ops l = ordF ops l ops.length 0 (doneF ops l ops.length) [] := rfl
  have hc0 : (doneF ops l ops.length).count false ≤ ops.length := by have := count_le (doneF ops l ops.length); rw [doneF_len] at this; exact this
  have hlD := doneF_len ops l ops.length
  generalize doneF ops l ops.length = D0 at *
  generalize orderS ops l = R at *
  refine AW.weak (Weak.nil 5 1 _ (by simp <;> rfl)) ?_
  refine AW.st teOk [] (by simp [-Option.some.injEq] <;> rfl) trivial ?_
  refine AW.block (AW.loop (fun m s => ∃ (i : Nat) (d : List Bool) (out : List Int), i + m = ops.length ∧ out.length ≤ i ∧ d.count false ≤ m ∧ d.length = ops.length ∧ R = ordF ops l m i d out ∧ s = ordSt ops l i d out) _ (Weak.normS hA [1, 2, 5, 6, 8] [(5, 1), (6, 0)] [] [] 2 _ (by simp) (by simp) (by simp)) ⟨0, D0, [], by omega, Nat.le_refl _, hc0, hlD, hR, by simp⟩ ?_)
  rintro m s ⟨i, d, out, him, ho, hc, hdl, hR, rfl⟩
  refine AW.seq (AW.block ?_)
  refine AW.st teOk [] (by simp [-Option.some.injEq] <;> rfl) trivial ?_
  refine AW.weak (Weak.nil 9 1 _ (by simp <;> rfl)) ?_
  refine AW.mid (fun s => s = ⟨[(1, .c (encis l)), (2, .c (.fad (encHi ops))), (5, .c (.ref 1 0 out.length)), (6, .c (.ref 0 0 ops.length)), (8, .c (cI i)), (9, .c (.ref 2 0 (frO ops d).length))], [(0, ⟨1, d.map encb⟩), (1, ⟨1, out.map enci⟩), (2, ⟨1, (frO ops d).map encn⟩)], 3⟩) ?_ ?_
  · refine AW.st teOk [] (by simp [-Option.some.injEq] <;> rfl) trivial ?_
    refine AW.block (AW.loop (fun m s => ∃ k : Nat, m = ops.length - k ∧ k ≤ ops.length ∧ s = ⟨[(1, .c (encis l)), (2, .c (.fad (encHi ops))), (5, .c (.ref 1 0 out.length)), (6, .c (.ref 0 0 ops.length)), (8, .c (cI i)), (9, .c (.ref 2 0 (frK ops d k).length)), (10, .c (cI k))], [(0, ⟨1, d.map encb⟩), (1, ⟨1, out.map enci⟩), (2, ⟨1, (frK ops d k).map encn⟩)], 3⟩) _ (Weak.normS hA [1, 2, 5, 6, 8, 9, 10] [(5, 1), (6, 0), (9, 2)] [] [] 3 _ (by simp) (by simp) (by simp)) ⟨0, rfl, Nat.zero_le _, by simp [frK]⟩ ?_)
    rintro m s ⟨k, rfl, hk, rfl⟩
    refine AW.seq ?_
    refine AW.st teOk [] (by simp [-Option.some.injEq] <;> rfl) trivial ?_
    refine AW.iff (decide (k < ops.length)) (by simp) (fun h => AW.skip ?_) (fun h => AW.exit (x_then (x_then (blockA_exit ?_))))
    · rw [decide_eq_true_eq] at h
      obtain ⟨y, hy⟩ : ∃ e, ops[k]? = some e := ⟨_, List.getElem?_eq_getElem h⟩
      have hdk := dn_at (d := d) (k := k) (by omega)
      have hfl : (frK ops d k).length ≤ k := Nat.le_trans (List.length_filter_le _ _) (by simp)
      refine AW.mid (fun s => s = ⟨[(1, .c (encis l)), (2, .c (.fad (encHi ops))), (5, .c (.ref 1 0 out.length)), (6, .c (.ref 0 0 ops.length)), (8, .c (cI i)), (9, .c (.ref 2 0 (frK ops d (k + 1)).length)), (10, .c (cI k))], [(0, ⟨1, d.map encb⟩), (1, ⟨1, out.map enci⟩), (2, ⟨1, (frK ops d (k + 1)).map encn⟩)], 3⟩) (AW.block ?_) ?_
      · refine AW.st teOk [] (by simp [hdk, -Option.some.injEq] <;> rfl) ?_ ?_
        · first | trivial | omega | (simp [allP, growOk] <;> omega)
        refine AW.mid (fun s => s = ⟨[(1, .c (encis l)), (2, .c (.fad (encHi ops))), (5, .c (.ref 1 0 out.length)), (6, .c (.ref 0 0 ops.length)), (8, .c (cI i)), (9, .c (.ref 2 0 (frK ops d k).length)), (10, .c (cI k)), (11, .c (cB (okO ops d k)))], [(0, ⟨1, d.map encb⟩), (1, ⟨1, out.map enci⟩), (2, ⟨1, (frK ops d k).map encn⟩)], 3⟩) ?_ ?_
        · refine AW.st teOk [] (by simp [-Option.some.injEq] <;> rfl) trivial ?_
          refine AW.block (AW.loop (fun m s => ∃ q : Nat, m = ops.length - q ∧ q ≤ ops.length ∧ s = ⟨[(1, .c (encis l)), (2, .c (.fad (encHi ops))), (5, .c (.ref 1 0 out.length)), (6, .c (.ref 0 0 ops.length)), (8, .c (cI i)), (9, .c (.ref 2 0 (frK ops d k).length)), (10, .c (cI k)), (11, .c (cB (okQ ops d k q))), (12, .c (cI q))], [(0, ⟨1, d.map encb⟩), (1, ⟨1, out.map enci⟩), (2, ⟨1, (frK ops d k).map encn⟩)], 3⟩) _ (Weak.normS hA [1, 2, 5, 6, 8, 9, 10, 11, 12] [(5, 1), (6, 0), (9, 2)] [] [] 3 _ (by simp) (by simp) (by simp)) ⟨0, rfl, Nat.zero_le _, by simp [okQ]⟩ ?_)
          rintro m s ⟨q, rfl, hq, rfl⟩
          refine AW.seq ?_
          cases hJ : okQ ops d k q with
          | false =>
            refine AW.st teOk [] (by simp [hJ, -Option.some.injEq] <;> rfl) ?_ ?_
            · first | trivial | omega | (simp [allP, growOk] <;> omega)
            refine AW.iff false (by simp) (fun h => by cases h) (fun _ => AW.exit (x_then (x_then (blockA_exit ?_))))
            rw [okQ_no hJ hq]
            exact ⟨_, Weak.normS hA [1, 2, 5, 6, 8, 9, 10, 11] [(5, 1), (6, 0), (9, 2)] [] [] 3 _ (by simp) (by simp) (by simp), by simp⟩
          | true =>
          refine AW.st teOk [] (by simp [hJ, -Option.some.injEq] <;> rfl) ?_ ?_
          · first | trivial | omega | (simp [allP, growOk] <;> omega)
          refine AW.iff (decide (q < ops.length)) (by simp) (fun hqn => AW.skip ?_) (fun hqn => AW.exit (x_then (x_then (blockA_exit ?_))))
          · rw [decide_eq_true_eq] at hqn
            obtain ⟨x, hx⟩ : ∃ e, ops[q]? = some e := ⟨_, List.getElem?_eq_getElem hqn⟩
            have hdq := dn_at (d := d) (k := q) (by omega)
            have hpre := rprec_pure ops q k x y hx hy
            have hps := preS_nat hx hy
            have hnx := okQ_s ops d k q
            rw [hps, hJ, Bool.true_and] at hnx
            refine AW.mid (fun s => s = ⟨[(1, .c (encis l)), (2, .c (.fad (encHi ops))), (5, .c (.ref 1 0 out.length)), (6, .c (.ref 0 0 ops.length)), (8, .c (cI i)), (9, .c (.ref 2 0 (frK ops d k).length)), (10, .c (cI k)), (11, .c (cB (okQ ops d k (q + 1)))), (12, .c (cI q))], [(0, ⟨1, d.map encb⟩), (1, ⟨1, out.map enci⟩), (2, ⟨1, (frK ops d k).map encn⟩)], 3⟩) (AW.block ?_) ?_
            · rw [hnx]
              cases hdb : dnB d q with
              | true =>
                rw [hdb] at hdq
                refine AW.text teOk (ans := []) (by simp [hdq, -Option.some.injEq] <;> rfl) ?_ ?_
                · first | trivial | omega | (simp [allP, growOk] <;> omega)
                exact ⟨_, Weak.normS hA [1, 2, 5, 6, 8, 9, 10, 11, 12] [(5, 1), (6, 0), (9, 2)] [] [] 3 _ (by simp) (by simp) (by simp), by simp⟩
              | false =>
                rw [hdb] at hdq
                refine AW.text teOk (ans := [.fz (.c (cB (preB x y)))]) (by simp [hdq, -Option.some.injEq] <;> rfl) ?_ ?_
                · refine ⟨?_, hpre⟩
                  omega
                exact ⟨_, Weak.normS hA [1, 2, 5, 6, 8, 9, 10, 11, 12] [(5, 1), (6, 0), (9, 2)] [] [] 3 _ (by simp) (by simp) (by simp), by simp⟩
            rintro s rfl
            refine AW.text teOk (ans := []) (by simp [-Option.some.injEq] <;> rfl) ?_ ?_
            · trivial
            refine ⟨_, _, Weak.normS hA [1, 2, 5, 6, 8, 9, 10, 11, 12] [(5, 1), (6, 0), (9, 2)] [] [] 3 _ (by simp) (by simp) (by simp), ?_, q + 1, rfl, hqn, ?_⟩
            · omega
            · simp
              exact wrap_s q (by omega)
          · rw [decide_eq_false_iff_not] at hqn
            have : q = ops.length := by omega
            subst this
            rw [okQ_all] at hJ
            rw [hJ]
            exact ⟨_, Weak.normS hA [1, 2, 5, 6, 8, 9, 10, 11] [(5, 1), (6, 0), (9, 2)] [] [] 3 _ (by simp) (by simp) (by simp), by simp⟩
        rintro s rfl
        have hfs := frK_s ops d k
        refine AW.st teOk [] (by simp [-Option.some.injEq] <;> rfl) trivial ?_
        refine AW.iff (okO ops d k) (by simp) (fun g => ?_) (fun g => AW.skip ?_)
        · rw [hfs, if_pos g]
          refine AW.text teOk (ans := []) (by simp [-Option.some.injEq] <;> rfl) ?_ ?_
          · first | trivial | omega | (simp [allP, growOk] <;> omega)
          exact ⟨_, Weak.normS hA [1, 2, 5, 6, 8, 9, 10] [(5, 1), (6, 0), (9, 2)] [] [] 3 _ (by simp) (by simp) (by simp), by simp⟩
        · rw [hfs, if_neg (by simp [g])]
          exact ⟨_, Weak.normS hA [1, 2, 5, 6, 8, 9, 10] [(5, 1), (6, 0), (9, 2)] [] [] 3 _ (by simp) (by simp) (by simp), by simp⟩
      rintro s rfl
      refine AW.text teOk (ans := []) (by simp [-Option.some.injEq] <;> rfl) ?_ ?_
      · trivial
      refine ⟨_, _, Weak.normS hA [1, 2, 5, 6, 8, 9, 10] [(5, 1), (6, 0), (9, 2)] [] [] 3 _ (by simp) (by simp) (by simp), ?_, k + 1, rfl, h, ?_⟩
      · omega
      · simp
        exact wrap_s k (by omega)
    · rw [decide_eq_false_iff_not] at h
      have : k = ops.length := by omega
      subst this
      exact ⟨_, Weak.normS hA [1, 2, 5, 6, 8, 9] [(5, 1), (6, 0), (9, 2)] [] [] 3 _ (by simp) (by simp) (by simp), by simp [frK, frO]⟩
  rintro s rfl
  obtain ⟨F, hF⟩ : ∃ F, F = frO ops d := ⟨_, rfl⟩
  have hFl : F.length < 1000000 := by rw [hF]; exact Nat.lt_of_le_of_lt (List.length_filter_le _ _) (by simpa using hn)
  rw [← hF]
  by_cases hfr : F = []
  · have hRo : R = out := by
      rw [hR]
      cases m with
      | zero => rfl
      | succ m => rw [ordF, if_pos (hF ▸ hfr)]
    rw [hRo]
    refine AW.seq ?_
    refine AW.st teOk [] (by simp [-Option.some.injEq] <;> rfl) trivial ?_
    refine AW.iff true (by simp [hfr]) (fun _ => ?_) (fun h => by cases h)
    refine AW.st teOk [] (by simp [-Option.some.injEq] <;> rfl) trivial ?_
    refine AW.ret ⟨.inr rfl, _, Weak.freeze 1 ⟨1, out.map enci⟩ [] _ (by simp) (flat_enci _), ?_⟩
    simp
  · obtain ⟨hb, hp⟩ := pickO_mem (l := l) (i := i) hfr hFl
    obtain ⟨j, hj⟩ : ∃ j : Nat, indexI (atI l i) F.length = j := ⟨(indexI (atI l i) F.length).toNat, by omega⟩
    have hidx := index_pure (atI l i) F.length
    have hat := at00_pure l i hl
    rw [hj] at hb hp hidx
    rw [Int.toNat_natCast] at hp
    have hmem : pickO l i F ∈ frO ops d := by rw [← hF]; exact List.mem_of_getElem? hp
    have hpm := mem_frO.1 hmem
    have hct := cnt_set hpm.2.1
    obtain ⟨pk, hpk⟩ : ∃ pk, pk = pickO l i F := ⟨_, rfl⟩
    rw [← hpk] at hp hpm hct
    have hset : (d.map encb).set pk [cB true] = (d.set pk true).map encb := by rw [List.map_set]; rfl
    have hdp := dn_at (d := d) (k := pk) (by omega)
    obtain ⟨m', rfl⟩ : ∃ m', m = m' + 1 := ⟨m - 1, by omega⟩
    rw [ordF, if_neg (by rw [← hF]; exact hfr), ← hF, ← hpk] at hR
    refine AW.seq ?_
    refine AW.st teOk [] (by simp [-Option.some.injEq] <;> rfl) trivial ?_
    refine AW.iff false (by simp [hfr]) (fun h => by cases h) (fun _ => AW.skip ?_)
    refine AW.st teOk [.fz (.c (cI (atI l i))), .fz (.c (cI j))] (by simp [hp, -Option.some.injEq] <;> rfl) ?_ ?_
    · refine ⟨hat, hidx, ?_⟩
      omega
    refine AW.st teOk [] (by simp [hdp, -Option.some.injEq] <;> rfl) ?_ ?_
    · first | trivial | omega | (simp [allP, growOk] <;> omega)
    refine AW.text teOk (ans := []) (by simp [-Option.some.injEq] <;> rfl) ?_ ?_
    · first | trivial | omega | (simp [allP, growOk] <;> omega)
    refine AW.text teOk (ans := []) (by simp [-Option.some.injEq] <;> rfl) ?_ ?_
    · trivial
    refine ⟨_, _, Weak.normS hA [1, 2, 5, 6, 8] [(5, 1), (6, 0)] [] [] 2 _ (by simp) (by simp) (by simp; rw [hset]; exact flat_encb _), ?_, i + 1, d.set pk true, out ++ [(pk : Int)], by omega, by simp; omega, by omega, by rw [List.length_set]; exact hdl, hR, ?_⟩
    · omega
    · simp
      exact wrap_s i (by omega)
end Go.Proofs.YtphlhadgcfndhaaGreat.Abs
end
