/- Joined for the claim: WQa WNre WNco WNrp -/
import Derived.Test.YtphlhadgcfndhaaGreatJd4
section
namespace Go.Proofs.YtphlhadgcfndhaaGreat.Abs
open Go Go.RowKit
set_option linter.unusedVariables false
set_option linter.unusedSimpArgs false
theorem sorted_ext {α : Type} {lt : α → α → Bool} (irr : ∀ a, lt a a = false) (tr : ∀ {a b c : α}, lt a b = true → lt b c = true → lt a c = true) {l l' : List α} (h : l.Pairwise fun x y => lt x y = true) (h' : l'.Pairwise fun x y => lt x y = true) (hm : ∀ x, x ∈ l ↔ x ∈ l') : l = l' := by
  have nd : ∀ {l : List α}, (l.Pairwise fun x y => lt x y = true) → l.Nodup := fun h => h.imp fun {a b} hab e => by
    subst e
    rw [irr] at hab
    cases hab
  refine List.Perm.eq_of_pairwise (le := fun x y => lt x y = true) (fun a b _ _ h1 h2 => ?_) h h' ((List.perm_ext_iff_of_nodup (nd h) (nd h')).2 hm)
  have := tr h1 h2
  rw [irr] at this
  cases this
theorem asc_inj {l : List HV} (h : AscH l) {v w : HV} (hv : v ∈ l) (hw : w ∈ l) (hk : v.k = w.k) : v = w := by
  obtain ⟨i, hi, rfl⟩ := List.mem_iff_getElem.1 hv
  obtain ⟨j, hj, rfl⟩ := List.mem_iff_getElem.1 hw
  by_cases hij : i = j
  · subst hij; rfl
  · exfalso
    rcases Nat.lt_or_gt_of_ne hij with hlt | hlt
    · have this : kLt l[i].k l[j].k = true := List.pairwise_iff_getElem.1 h i j hi hj hlt
      rw [hk, kLt_irr] at this
      cases this
    · have this : kLt l[j].k l[i].k = true := List.pairwise_iff_getElem.1 h j i hj hi hlt
      rw [hk, kLt_irr] at this
      cases this
theorem asc_idx {l : List HV} (h : AscH l) {i j : Nat} {v w : HV} (hv : l[i]? = some v) (hw : l[j]? = some w) (hk : v.k = w.k) : i = j := by
  obtain ⟨hi, rfl⟩ := List.getElem?_eq_some_iff.1 hv
  obtain ⟨hj, rfl⟩ := List.getElem?_eq_some_iff.1 hw
  by_cases hij : i = j
  · exact hij
  · exfalso
    rcases Nat.lt_or_gt_of_ne hij with hlt | hlt
    · have this : kLt l[i].k l[j].k = true := List.pairwise_iff_getElem.1 h i j hi hj hlt
      rw [hk, kLt_irr] at this
      cases this
    · have this : kLt l[j].k l[i].k = true := List.pairwise_iff_getElem.1 h j i hj hi hlt
      rw [hk, kLt_irr] at this
      cases this
theorem hvs_ext {l l' : List HV} (h : AscH l) (h' : AscH l') (hm : ∀ x, x ∈ l ↔ x ∈ l') : l = l' :=
  sorted_ext (lt := fun a b : HV => kLt a.k b.k) (fun a => kLt_irr _) kLt_trans h h' hm
def curV (l : List HV) (k : Ky) : HV := (l.find? fun v => decide (v.k = k)).getD (zeroV k)
theorem cur_mem {l : List HV} (h : AscH l) {v : HV} (hv : v ∈ l) : curV l v.k = v := by
  unfold curV
  cases hf : l.find? fun w => decide (w.k = v.k) with
  | none =>
    have := List.find?_eq_none.1 hf v hv
    simp at this
  | some w =>
    have h1 := List.mem_of_find?_eq_some hf
    have h2 := List.find?_some hf
    rw [decide_eq_true_eq] at h2
    exact asc_inj h h1 hv h2
theorem cur_no {l : List HV} {k : Ky} (h : ∀ v ∈ l, v.k ≠ k) : curV l k = zeroV k := by
  unfold curV
  rw [List.find?_eq_none.2 fun v hv => by rw [decide_eq_true_eq]; exact h v hv]
  rfl
theorem cur_k (l : List HV) (k : Ky) : (curV l k).k = k := by
  unfold curV
  cases hf : l.find? fun w => decide (w.k = k) with
  | none => rfl
  | some w =>
    have h2 := List.find?_some hf
    rw [decide_eq_true_eq] at h2
    exact h2
theorem has_mem {l : List HV} (h : AscH l) (k : Ky) : hasH l k = true ↔ ∃ v ∈ l, v.k = k := by
  refine ⟨fun hh => ?_, fun ⟨v, hv, hk⟩ => ?_⟩
  · unfold hasH at hh
    cases hq : l[posH l k]? with
    | none => rw [hq] at hh; cases hh
    | some v =>
      rw [hq, Option.any_some, decide_eq_true_eq] at hh
      exact ⟨v, List.mem_of_getElem? hq, hh⟩
  · obtain ⟨i, hi⟩ := List.mem_iff_getElem?.1 hv
    have h1 : posH l k ≤ i := (cnt_split (monoH h k) hi).2 (by rw [hk]; exact kLt_irr k)
    have hil := (List.getElem?_eq_some_iff.1 hi).1
    have hw := List.getElem?_eq_getElem (l := l) (i := posH l k) (by omega)
    have h2 : posH l k = i := by
      by_cases e : posH l k = i
      · exact e
      · exfalso
        have hlt := List.pairwise_iff_getElem.1 h (posH l k) i (by omega) hil (by omega)
        have hiv : l[i] = v := by rw [List.getElem?_eq_getElem hil] at hi; exact Option.some.inj hi
        rw [hiv] at hlt
        have h3 := (cnt_split (monoH h k) hw).1 (hk ▸ hlt)
        have : posH l k = l.countP fun x => kLt x.k k := rfl
        omega
    unfold hasH
    rw [h2, hi]
    simp only [Option.any_some, decide_eq_true_eq]
    exact hk
theorem place_mem {l : List HV} {k : Ky} {v : HV} (h : v ∈ l) : v ∈ placeV l k := by
  unfold placeV
  split
  · exact h
  · rw [← List.take_append_drop (posH l k) l] at h
    rcases List.mem_append.1 h with h | h
    · exact List.mem_append_left _ h
    · exact List.mem_append_right _ (List.mem_cons_of_mem _ h)
theorem place_cur {l : List HV} (h : AscH l) (k : Ky) : (placeV l k)[posH l k]? = some (curV l k) := by
  have e0 : (l.map fun v => ((v, none) : OV)).map Prod.fst = l := by
    rw [List.map_map]
    exact List.map_id l
  obtain ⟨x, h1, h2, h3⟩ := place_get (l.map fun v => ((v, none) : OV)) k
  rw [e0] at h1 h2 h3
  have h4 := congrArg (Option.map Prod.fst) h1
  rw [← List.getElem?_map, placeO_fst, e0] at h4
  rw [h4]
  show some x.1 = _
  cases hh : hasH l k with
  | true =>
    have h5 := congrArg (Option.map Prod.fst) (h2 hh)
    rw [← List.getElem?_map, e0] at h5
    have h5 : l[posH l k]? = some x.1 := h5
    have hk : x.1.k = k := by
      unfold hasH at hh
      rw [h5, Option.any_some, decide_eq_true_eq] at hh
      exact hh
    have := cur_mem h (List.mem_of_getElem? h5)
    rw [hk] at this
    rw [this]
  | false =>
    rw [h3 hh, cur_no]
    intro v hv hk
    have := (has_mem h k).2 ⟨v, hv, hk⟩
    rw [hh] at this
    cases this
theorem mem_apply {l : List HV} (h : AscH l) (e : EfS) (v : HV) : v ∈ applyV l e ↔ (v ∈ l ∧ v.k ≠ e.k) ∨ v = updV (curV l e.k) e := by
  have hp := place_cur h e.k
  have hP := placeV_asc h e.k
  have hck := cur_k l e.k
  have hpl := (List.getElem?_eq_some_iff.1 hp).1
  unfold applyV setAt
  rw [hp]
  simp only
  rw [List.mem_iff_getElem?]
  refine ⟨fun ⟨i, hi⟩ => ?_, fun hh => ?_⟩
  · rw [List.getElem?_set] at hi
    by_cases e1 : posH l e.k = i
    · subst e1
      rw [if_pos rfl, if_pos hpl] at hi
      exact .inr (Option.some.inj hi).symm
    · rw [if_neg e1] at hi
      have hne : v.k ≠ e.k := fun hk => e1 (asc_idx hP hp hi (hck.trans hk.symm))
      rcases placeV_mem (List.mem_of_getElem? hi) with h1 | h1
      · exact .inl ⟨h1, hne⟩
      · subst h1
        exact absurd rfl hne
  · rcases hh with ⟨h1, h2⟩ | rfl
    · obtain ⟨i, hi⟩ := List.mem_iff_getElem?.1 (place_mem (k := e.k) h1)
      refine ⟨i, ?_⟩
      rw [List.getElem?_set, if_neg, hi]
      intro e1
      subst e1
      rw [hp] at hi
      exact h2 ((Option.some.inj hi) ▸ hck)
    · refine ⟨posH l e.k, ?_⟩
      rw [List.getElem?_set, if_pos rfl, if_pos hpl]
theorem cur_apply {l : List HV} (h : AscH l) (e : EfS) (k : Ky) : curV (applyV l e) k = if k = e.k then updV (curV l e.k) e else curV l k := by
  have hA := applyV_asc h e
  split
  · rename_i hk
    have hm : updV (curV l e.k) e ∈ applyV l e := (mem_apply h e _).2 (.inr rfl)
    have := cur_mem hA hm
    rw [updV_k, cur_k] at this
    rw [hk]; exact this
  · rename_i hk
    by_cases hx : ∃ v ∈ l, v.k = k
    · obtain ⟨v, hv, rfl⟩ := hx
      rw [cur_mem h hv]
      exact cur_mem hA ((mem_apply h e _).2 (.inl ⟨hv, hk⟩))
    · rw [cur_no (l := l) fun v hv e1 => hx ⟨v, hv, e1⟩]
      refine cur_no fun v hv e1 => ?_
      rcases (mem_apply h e _).1 hv with ⟨h1, _⟩ | rfl
      · exact hx ⟨v, h1, e1⟩
      · rw [updV_k, cur_k] at e1
        exact hk e1.symm
/-! ### elements -/
theorem hasS_mem {l : List Str} (h : AscS l) (s : Str) : hasS l s = true ↔ s ∈ l := by
  refine ⟨fun hh => ?_, fun hv => ?_⟩
  · unfold hasS at hh
    cases hq : l[posS l s]? with
    | none => rw [hq] at hh; cases hh
    | some v =>
      rw [hq, Option.any_some, decide_eq_true_eq] at hh
      exact hh ▸ List.mem_of_getElem? hq
  · obtain ⟨i, hi⟩ := List.mem_iff_getElem?.1 hv
    have h1 : posS l s ≤ i := (cnt_split (monoS h s) hi).2 (sLt_irr s)
    have hil := (List.getElem?_eq_some_iff.1 hi).1
    have hw := List.getElem?_eq_getElem (l := l) (i := posS l s) (by omega)
    have h2 : posS l s = i := by
      by_cases e : posS l s = i
      · exact e
      · exfalso
        have hlt := List.pairwise_iff_getElem.1 h (posS l s) i (by omega) hil (by omega)
        have hiv : l[i] = s := by rw [List.getElem?_eq_getElem hil] at hi; exact Option.some.inj hi
        rw [hiv] at hlt
        have h3 := (cnt_split (monoS h s) hw).1 hlt
        have : posS l s = l.countP fun x => sLt x s := rfl
        omega
    unfold hasS
    rw [h2, hi]
    simp
theorem mem_insL {l : List Str} (h : AscS l) (s x : Str) : x ∈ insL l s ↔ x ∈ l ∨ x = s := by
  unfold insL
  split
  · rename_i hh
    have := (hasS_mem h s).1 hh
    exact ⟨fun hx => .inl hx, fun hx => hx.elim id fun e => e ▸ this⟩
  · conv => rhs; rw [← List.take_append_drop (posS l s) l]
    simp only [List.mem_append, List.mem_cons]
    constructor
    · rintro (h | h | h)
      · exact .inl (.inl h)
      · exact .inr h
      · exact .inl (.inr h)
    · rintro ((h | h) | h)
      · exact .inl h
      · exact .inr (.inr h)
      · exact .inr (.inl h)
theorem insL_comm {l : List Str} (h : AscS l) (s t : Str) : insL (insL l s) t = insL (insL l t) s :=
  sorted_ext sLt_irr sLt_trans (insL_asc (insL_asc h s) t) (insL_asc (insL_asc h t) s) fun x => by
    rw [mem_insL (insL_asc h s), mem_insL h, mem_insL (insL_asc h t), mem_insL h]
    constructor
    · rintro ((h | h) | h)
      · exact .inl (.inl h)
      · exact .inr h
      · exact .inl (.inr h)
    · rintro ((h | h) | h)
      · exact .inl (.inl h)
      · exact .inr h
      · exact .inl (.inr h)
theorem wrap_add (a b : Int) : IntKind.i64.wrap (IntKind.i64.wrap a + b) = IntKind.i64.wrap (a + b) := by
  rw [IntKind.wrap_i64, IntKind.wrap_i64, IntKind.wrap_i64]
  omega
theorem updV_comm {v : HV} (h : AscS v.el) (a b : EfS) (hab : ¬ (a.kind = 1 ∧ b.kind = 1)) : updV (updV v a) b = updV (updV v b) a := by
  have hm : ∀ {x y z : Int}, x < y → ¬ x < z → ¬ y < z ∨ z = y ∨ True := fun _ _ => .inr (.inr trivial)
  by_cases a1 : a.kind = 1
  · have b1 : b.kind ≠ 1 := fun h => hab ⟨a1, h⟩
    unfold updV
    simp only [a1, b1, if_true, if_false]
    repeat' split
    all_goals simp_all
  by_cases b1 : b.kind = 1
  · unfold updV
    simp only [a1, b1, if_true, if_false]
    repeat' split
    all_goals simp_all
  by_cases a2 : a.kind = 2
  · by_cases b2 : b.kind = 2
    · obtain ⟨o, f, st, n, s, hm, mx, sum, el, fl⟩ := v
      unfold updV
      simp only [a1, a2, b1, b2, if_true, if_false]
      cases hm
      · simp
        repeat' split
        all_goals first | rfl | (simp; omega) | (exfalso; omega) | skip
      · simp
        by_cases h1 : mx < a.n
        · by_cases h2 : mx < b.n
          · simp [h1, h2]
            repeat' split
            all_goals first | rfl | (simp; omega) | (exfalso; omega) | skip
          · simp [h1, h2]
            try omega
        · by_cases h2 : mx < b.n
          · simp [h1, h2]
            try omega
          · simp [h1, h2]
    · unfold updV
      simp only [a1, a2, b1, b2, if_true, if_false]
      repeat' split
      all_goals simp_all
  by_cases b2 : b.kind = 2
  · unfold updV
    simp only [a1, a2, b1, b2, if_true, if_false]
    repeat' split
    all_goals simp_all
  by_cases a3 : a.kind = 3
  · by_cases b3 : b.kind = 3
    · unfold updV
      simp only [a1, a2, a3, b1, b2, b3, if_true, if_false]
      simp
      rw [wrap_add, wrap_add]
      congr 1
      omega
    · unfold updV
      simp only [a1, a2, a3, b1, b2, b3, if_true, if_false]
      repeat' split
      all_goals simp_all
  by_cases b3 : b.kind = 3
  · unfold updV
    simp only [a1, a2, a3, b1, b2, b3, if_true, if_false]
    repeat' split
    all_goals simp_all
  by_cases a4 : a.kind = 4
  · by_cases b4 : b.kind = 4
    · unfold updV
      simp only [a1, a2, a3, a4, b1, b2, b3, b4, if_true, if_false]
      simp
      exact insL_comm h _ _
    · unfold updV
      simp only [a1, a2, a3, a4, b1, b2, b3, b4, if_true, if_false]
      repeat' split
      all_goals simp_all
  by_cases b4 : b.kind = 4
  · unfold updV
    simp only [a1, a2, a3, a4, b1, b2, b3, b4, if_true, if_false]
    repeat' split
    all_goals simp_all
  unfold updV
  simp only [a1, a2, a3, a4, b1, b2, b3, b4, if_true, if_false]
  repeat' split
  all_goals simp_all
/-- Values whose elements are in order. -/
structure GoodV (vs : List HV) : Prop where
  asc : AscH vs
  el : ∀ v ∈ vs, AscS v.el
theorem GoodV.nil : GoodV [] := ⟨.nil, fun v h => by cases h⟩
theorem GoodV.cur {vs : List HV} (h : GoodV vs) (k : Ky) : AscS (curV vs k).el := by
  unfold curV
  cases hf : vs.find? fun w => decide (w.k = k) with
  | none => exact .nil
  | some w => exact h.el w (List.mem_of_find?_eq_some hf)
theorem GoodV.apply {vs : List HV} (h : GoodV vs) (e : EfS) : GoodV (applyV vs e) := by
  refine ⟨applyV_asc h.asc e, fun v hv => ?_⟩
  rcases (mem_apply h.asc e v).1 hv with ⟨h1, _⟩ | rfl
  · exact h.el v h1
  · rw [updV_el]
    split
    · exact insL_asc (h.cur _) _
    · exact h.cur _
theorem apply_comm {vs : List HV} (h : GoodV vs) (a b : EfS) (hab : ¬ (a.kind = 1 ∧ b.kind = 1 ∧ a.k = b.k)) : applyV (applyV vs a) b = applyV (applyV vs b) a := by
  have ha := applyV_asc h.asc a
  have hb := applyV_asc h.asc b
  refine hvs_ext (applyV_asc ha b) (applyV_asc hb a) fun v => ?_
  rw [mem_apply ha, mem_apply h.asc, mem_apply hb, mem_apply h.asc, cur_apply h.asc, cur_apply h.asc]
  by_cases hk : a.k = b.k
  · have hk' : b.k = a.k := hk.symm
    have hu := updV_comm (h.cur a.k) a b fun hh => hab ⟨hh.1, hh.2, hk⟩
    rw [if_pos hk', if_pos hk, hk', hu]
    constructor
    · rintro (⟨⟨h1, h2⟩ | h1, h3⟩ | h1)
      · exact .inl ⟨.inl ⟨h1, h2⟩, h2⟩
      · exfalso
        rw [h1, updV_k, cur_k] at h3
        exact h3 rfl
      · exact .inr h1
    · rintro (⟨⟨h1, h2⟩ | h1, h3⟩ | h1)
      · exact .inl ⟨.inl ⟨h1, h2⟩, h2⟩
      · exfalso
        rw [h1, updV_k, cur_k] at h3
        exact h3 rfl
      · exact .inr h1
  · have hk' : ¬ b.k = a.k := fun e => hk e.symm
    rw [if_neg hk', if_neg hk]
    constructor
    · rintro (⟨⟨h1, h2⟩ | h1, h3⟩ | h1)
      · exact .inl ⟨.inl ⟨h1, h3⟩, h2⟩
      · exact .inr h1
      · refine .inl ⟨.inr h1, ?_⟩
        rw [h1, updV_k, cur_k]
        exact hk'
    · rintro (⟨⟨h1, h2⟩ | h1, h3⟩ | h1)
      · exact .inl ⟨.inl ⟨h1, h3⟩, h2⟩
      · exact .inr h1
      · refine .inl ⟨.inr h1, ?_⟩
        rw [h1, updV_k, cur_k]
        exact hk
/-- A write of which only the place is left. -/
def touch (e : EfS) : EfS := { e with kind := 0 }
theorem updV_touch (v : HV) (e : EfS) : updV v (touch e) = v := by simp [updV, touch]
theorem apply_over {vs : List HV} (h : GoodV vs) (a b : EfS) (hb : b.kind = 1) (ha : a.kind = 1) (hk : a.k = b.k) : applyV (applyV vs a) b = applyV (applyV vs (touch a)) b := by
  have ha' := applyV_asc h.asc a
  have ht := applyV_asc h.asc (touch a)
  have hkt : (touch a).k = a.k := rfl
  refine hvs_ext (applyV_asc ha' b) (applyV_asc ht b) fun v => ?_
  have hu : updV (updV (curV vs a.k) a) b = updV (updV (curV vs a.k) (touch a)) b := by
    rw [updV_touch]
    simp [updV, ha, hb]
  rw [mem_apply ha', mem_apply h.asc, mem_apply ht, mem_apply h.asc, cur_apply h.asc, cur_apply h.asc, hkt, if_pos hk.symm, if_pos hk.symm, hu]
  constructor
  · rintro (⟨⟨h1, h2⟩ | h1, h3⟩ | h1)
    · exact .inl ⟨.inl ⟨h1, h2⟩, h3⟩
    · exfalso
      rw [h1, updV_k, cur_k] at h3
      exact h3 hk
    · exact .inr h1
  · rintro (⟨⟨h1, h2⟩ | h1, h3⟩ | h1)
    · exact .inl ⟨.inl ⟨h1, h2⟩, h3⟩
    · exfalso
      rw [h1, updV_k, cur_k] at h3
      exact h3 hk
    · exact .inr h1
end Go.Proofs.YtphlhadgcfndhaaGreat.Abs
end
section
namespace Go.Proofs.YtphlhadgcfndhaaGreat.Abs
open Go Go.RowKit
set_option linter.unusedVariables false
set_option linter.unusedSimpArgs false
set_option maxHeartbeats 4000000
abbrev encOps (ops : List OpS) : Cell := .row 6 false (ops.map encOp)
@[simp] abbrev encHi (ops : List OpS) : List Cell := [encOps ops]
def inR (n : Nat) (x : Int) : Bool := decide (0 ≤ x) && decide (x < n)
def opAt (ops : List OpS) (x : Int) : Option OpS := if 0 ≤ x then ops[x.toNat]? else none
def reqB (o : OpS) : Bool := o.kind != 3 && o.ret != 0
def penB (o : OpS) : Bool := o.kind != 1 && o.ret == 0
def preB (a b : OpS) : Bool := a.ret != 0 && decide (a.ret < b.call)
def preS (ops : List OpS) (a b : Int) : Bool := match opAt ops a, opAt ops b with
  | some x, some y => preB x y
  | _, _ => false
theorem opAt_some {ops : List OpS} {x : Int} (h : inR ops.length x = true) : ∃ o, opAt ops x = some o ∧ ops[x.toNat]? = some o ∧ 0 ≤ x ∧ x < ops.length := by
  simp only [inR, Bool.and_eq_true, decide_eq_true_eq] at h
  refine ⟨ops[x.toNat], ?_, List.getElem?_eq_getElem (by omega), h.1, h.2⟩
  rw [opAt, if_pos h.1]
  exact List.getElem?_eq_getElem (by omega)
theorem opAt_none {ops : List OpS} {x : Int} (h : inR ops.length x = false) : opAt ops x = none := by
  simp only [inR, Bool.and_eq_false_iff, decide_eq_false_iff_not] at h
  unfold opAt
  split
  · rcases h with h | h
    · omega
    · exact List.getElem?_eq_none (by omega)
  · rfl
theorem req_pure (o : OpS) : Pure Tryz.prog 45 [.agg (encOp o)] (.c (cB (reqB o))) := by
  refine pure_of teOk Tryz.func45 (by kernel_rfl) (c := _) rfl (N := 11) rfl (rs := [Go.ResultVar.tmp 2]) rfl (by simp) fun base A w0 hA => ?_
  refine AW.st teOk [] (by simp [-Option.some.injEq] <;> rfl) trivial ?_
  cases h : o.kind != 3 with
  | true =>
    refine AW.st teOk [] (by simp [h, -Option.some.injEq] <;> rfl) trivial ?_
    refine AW.ret ⟨.inr rfl, _, Weak.refl _, ?_⟩
    simp [reqB, h]
  | false =>
    refine AW.st teOk [] (by simp [h, -Option.some.injEq] <;> rfl) trivial ?_
    refine AW.ret ⟨.inr rfl, _, Weak.refl _, ?_⟩
    simp [reqB, h]
theorem pre_pure (a b : OpS) : Pure Tryz.prog 82 [.agg (encOp a), .agg (encOp b)] (.c (cB (preB a b))) := by
  refine pure_of teOk Tryz.func82 (by kernel_rfl) (c := _) rfl (N := 15) rfl (rs := [Go.ResultVar.tmp 4]) rfl (by simp) fun base A w0 hA => ?_
  refine AW.st teOk [] (by simp [-Option.some.injEq] <;> rfl) trivial ?_
  cases h : a.ret != 0 with
  | true =>
    refine AW.st teOk [] (by simp [h, -Option.some.injEq] <;> rfl) trivial ?_
    refine AW.ret ⟨.inr rfl, _, Weak.refl _, ?_⟩
    simp [preB, h]
  | false =>
    refine AW.st teOk [] (by simp [h, -Option.some.injEq] <;> rfl) trivial ?_
    refine AW.ret ⟨.inr rfl, _, Weak.refl _, ?_⟩
    simp [preB, h]
theorem inR_pure (ops : List OpS) (x : Int) : Pure Tryz.prog 81 [.agg (encHi ops), .c (cI x)] (.c (cB (inR ops.length x))) := by
  refine pure_of teOk Tryz.func81 (by kernel_rfl) (c := _) rfl (N := 14) rfl (rs := [Go.ResultVar.tmp 4]) rfl (by simp) fun base A w0 hA => ?_
  refine AW.st teOk [] (by simp [-Option.some.injEq] <;> rfl) trivial ?_
  cases h : decide (0 ≤ x) with
  | true =>
    have h' : decide (x ≥ 0) = true := h
    refine AW.st teOk [] (by simp [h', -Option.some.injEq] <;> rfl) trivial ?_
    refine AW.ret ⟨.inr rfl, _, Weak.refl _, ?_⟩
    simp [inR, h]
  | false =>
    have h' : decide (x ≥ 0) = false := h
    refine AW.st teOk [] (by simp [h', -Option.some.injEq] <;> rfl) trivial ?_
    refine AW.ret ⟨.inr rfl, _, Weak.refl _, ?_⟩
    simp [inR, h]
theorem prec_pure (ops : List OpS) (a b : Int) : Pure Tryz.prog 46 [.agg (encHi ops), .c (cI a), .c (cI b)] (.c (cB (preS ops a b))) := by
  refine pure_of teOk Tryz.func46 (by kernel_rfl) (c := _) rfl (N := 28) rfl (rs := [Go.ResultVar.tmp 6]) rfl (by simp) fun base A w0 hA => ?_
  refine AW.st teOk [] (by simp [-Option.some.injEq] <;> rfl) trivial ?_
  cases ha : inR ops.length a with
  | false =>
    have e := opAt_none ha
    refine AW.dr mixed teOk [.c (cB false)] (by simp [-Option.some.injEq] <;> rfl) (by kernel_rfl) (by kernel_rfl) ?_ ?_
    · simp [allP]
      exact ha ▸ inR_pure ops a
    refine AW.ret ⟨.inr rfl, _, Weak.refl _, ?_⟩
    simp [preS, e]
  | true =>
    obtain ⟨x, e1, e2, e3, e4⟩ := opAt_some ha
    cases hb : inR ops.length b with
    | false =>
      have e := opAt_none hb
      refine AW.dr mixed teOk [.c (cB true), .c (cB false)] (by simp [-Option.some.injEq] <;> rfl) (by kernel_rfl) (by kernel_rfl) ?_ ?_
      · simp [allP]
        exact ⟨ha ▸ inR_pure ops a, hb ▸ inR_pure ops b⟩
      refine AW.ret ⟨.inr rfl, _, Weak.refl _, ?_⟩
      simp [preS, e1, e]
    | true =>
      obtain ⟨y, f1, f2, f3, f4⟩ := opAt_some hb
      refine AW.dr mixed teOk [.c (cB true), .c (cB true), .c (cB (preB x y))] (by simp [e2, f2, -Option.some.injEq] <;> rfl) (by kernel_rfl) (by kernel_rfl) ?_ ?_
      · simp [allP]
        exact ⟨ha ▸ inR_pure ops a, hb ▸ inR_pure ops b, ⟨e3, e4⟩, ⟨f3, f4⟩, pre_pure x y⟩
      refine AW.ret ⟨.inr rfl, _, Weak.refl _, ?_⟩
      simp [preS, e1, f1]
end Go.Proofs.YtphlhadgcfndhaaGreat.Abs
end
section
namespace Go.Proofs.YtphlhadgcfndhaaGreat.Abs
open Go Go.RowKit
set_option linter.unusedVariables false
set_option linter.unusedSimpArgs false
set_option maxHeartbeats 4000000
@[simp] def enci (n : Int) : List Cell := [cI n]
abbrev encis (l : List Int) : Cell := .row 1 false (l.map enci)
@[simp] theorem flat_enci (l : List Int) : flatO ⟨1, l.map enci⟩ = true := flatO_of fun e he => by
  obtain ⟨x, _, rfl⟩ := List.mem_map.1 he
  rfl
/-- Does something hold of an element and of those before it? -/
def anyAt {α : Type} (f : List α → α → Bool) (l : List α) : Bool := (List.range l.length).any fun i => match l[i]? with
  | some x => f (l.take i) x
  | none => false
def upTo {α : Type} (f : List α → α → Bool) (l : List α) (i : Nat) : Bool := (List.range i).any fun i => match l[i]? with
  | some x => f (l.take i) x
  | none => false
theorem upTo_0 {α : Type} (f : List α → α → Bool) (l : List α) : upTo f l 0 = false := rfl
theorem upTo_s {α : Type} {f : List α → α → Bool} {l : List α} {i : Nat} {x : α} (h : l[i]? = some x) : upTo f l (i + 1) = (upTo f l i || f (l.take i) x) := by
  unfold upTo
  rw [List.range_succ, List.any_append]
  simp [h]
theorem upTo_all {α : Type} (f : List α → α → Bool) (l : List α) : upTo f l l.length = anyAt f l := rfl
theorem upTo_hit {α : Type} {f : List α → α → Bool} {l : List α} {i : Nat} {x : α} (h : l[i]? = some x) (hf : f (l.take i) x = true) : anyAt f l = true := by
  unfold anyAt
  rw [List.any_eq_true]
  exact ⟨i, List.mem_range.2 (List.getElem?_eq_some_iff.1 h).1, by rw [h]; exact hf⟩
def rngS (n : Nat) (l : List Int) : Bool := anyAt (fun _ x => !inR n x) l
def dupS (l : List Int) : Bool := anyAt (fun b x => b.contains x) l
def misS (ops : List OpS) (l : List Int) : Bool := anyAt (fun b o => reqB o && !l.contains (b.length : Int)) ops
def penS (ops : List OpS) (l : List Int) : Bool := anyAt (fun _ x => match opAt ops x with
  | some o => penB o
  | none => false) l
def ordS (ops : List OpS) (l : List Int) : Bool := anyAt (fun b x => anyAt (fun _ y => preS ops x y) b) l
def chkS (ops : List OpS) (l : List Int) : Int := if rngS ops.length l = true then 9 else if dupS l = true then 5 else if misS ops l = true then 6 else if penS ops l = true then 2 else if ordS ops l = true then 7 else 0
/-- Which operations occur. -/
def hadL (n : Nat) (l : List Int) : List (List Cell) := (List.range n).map fun j : Nat => [cB (l.contains (j : Int))]
theorem hadL_0 (n : Nat) : hadL n [] = List.replicate n [cB false] := by
  unfold hadL
  refine List.ext_getElem (by simp) fun i h1 h2 => by simp
theorem hadL_set {n : Nat} {l : List Int} {x : Int} (h : inR n x = true) : (hadL n l).set x.toNat [cB true] = hadL n (l ++ [x]) := by
  simp only [inR, Bool.and_eq_true, decide_eq_true_eq] at h
  unfold hadL
  refine List.ext_getElem (by simp) fun i h1 h2 => ?_
  rw [List.getElem_set]
  by_cases hi : x.toNat = i
  · rw [if_pos hi]
    have : x = (i : Int) := by omega
    simp [this]
  · rw [if_neg hi]
    have : ¬ ((i : Int) = x) := by omega
    simp [this]
theorem hadL_get {n : Nat} {l : List Int} {x : Int} (h : inR n x = true) : (hadL n l)[x.toNat]? = some [cB (l.contains x)] := by
  simp only [inR, Bool.and_eq_true, decide_eq_true_eq] at h
  unfold hadL
  rw [List.getElem?_map, List.getElem?_range (by omega)]
  simp only [Option.map_some]
  rw [show ((x.toNat : Nat) : Int) = x by omega]
theorem hadL_len (n : Nat) (l : List Int) : (hadL n l).length = n := by simp [hadL]
@[simp] theorem flat_hadL (n : Nat) (l : List Int) : flatO ⟨1, hadL n l⟩ = true := flatO_of fun e he => by
  obtain ⟨x, _, rfl⟩ := List.mem_map.1 he
  rfl
theorem check_pure (ops : List OpS) (l : List Int) (hn : ops.length < 1000000) (hl : l.length < 1000000) : Pure Tryz.prog 23 [.agg (encHi ops), .c (encis l)] (.c (cI (chkS ops l))) := by
  have hin : rngS ops.length l = false → ∀ (i : Nat) (x : Int), l[i]? = some x → inR ops.length x = true := fun h i x hx => by
    cases hq : inR ops.length x with
    | true => rfl
    | false =>
      have := upTo_hit (f := fun _ x => !inR ops.length x) hx (by simp [hq])
      rw [show anyAt (fun _ x => !inR ops.length x) l = rngS ops.length l from rfl, h] at this
      cases this
  obtain ⟨n, hne⟩ : ∃ n, n = ops.length := ⟨_, rfl⟩
  refine pure_of teOk Tryz.func23 (by kernel_rfl) (c := _) rfl (N := 111) rfl (rs := [Go.ResultVar.tmp 4]) rfl (by simp) fun base A w0 hA => ?_
  refine AW.st teOk [] (by simp [-Option.some.injEq] <;> rfl) trivial ?_
  refine AW.st teOk [] (by simp [-Option.some.injEq] <;> rfl) ?_ ?_
  · first | trivial | omega
  refine AW.mid (fun s => rngS ops.length l = false ∧ s = ⟨[(1, .c (encis l)), (2, .c (.fad (encHi ops))), (5, .c (.ref 0 0 ops.length))], [(0, ⟨1, hadL ops.length []⟩)], 1⟩) ?_ ?_
  · refine AW.st teOk [] (by simp [-Option.some.injEq] <;> rfl) trivial ?_
    refine AW.block (AW.loop (fun m s => ∃ i : Nat, m = l.length - i ∧ i ≤ l.length ∧ upTo (fun _ x => !inR ops.length x) l i = false ∧ s = ⟨[(1, .c (encis l)), (2, .c (.fad (encHi ops))), (5, .c (.ref 0 0 ops.length)), (23, .c (encis l)), (24, .c (cI l.length)), (25, .c (cI i))], [(0, ⟨1, hadL ops.length []⟩)], 1⟩) _ ((Weak.freeze 0 ⟨1, [encHi ops]⟩ [] _ (by simp) rfl).trans (Weak.normT hA [1, 2, 5, 23, 24, 25] [(5, 0)] [] 1 _ (by simp) (by simp) (by simp [mapAt_nil]; exact hadL_0 ops.length ▸ flat_hadL _ _))) ⟨0, rfl, Nat.zero_le _, rfl, by simp [mapAt_nil, hadL_0]⟩ ?_)
    rintro m s ⟨i, rfl, hi, hno, rfl⟩
    refine AW.st teOk [] (by simp [-Option.some.injEq] <;> rfl) trivial ?_
    refine AW.seq ?_
    refine AW.iff (decide (i < l.length)) (by simp) (fun h => AW.skip ?_) (fun h => AW.exit (x_then (x_then (blockA_exit ?_))))
    · rw [decide_eq_true_eq] at h
      obtain ⟨x, he⟩ : ∃ e, l[i]? = some e := ⟨_, List.getElem?_eq_getElem h⟩
      refine AW.seq (AW.block ?_)
      refine AW.st teOk [] (by simp [he, -Option.some.injEq] <;> rfl) ?_ ?_
      · omega
      cases hx0 : decide (x < 0) with
      | true =>
        refine AW.st teOk [] (by simp [hx0, -Option.some.injEq] <;> rfl) trivial ?_
        refine AW.iff true (by simp) (fun _ => ?_) (fun h => by cases h)
        refine AW.st teOk [] (by simp [-Option.some.injEq] <;> rfl) trivial ?_
        refine AW.ret ⟨.inr rfl, _, Weak.refl _, ?_⟩
        have hb : rngS ops.length l = true := upTo_hit he (by simp [inR]; simp at hx0; omega)
        simp [chkS, hb]
      | false =>
        refine AW.st teOk [] (by simp [hx0, hadL_len, -Option.some.injEq] <;> rfl) trivial ?_
        refine AW.iff (decide (x ≥ ops.length)) (by simp) (fun g => ?_) (fun g => AW.skip ?_)
        · refine AW.st teOk [] (by simp [-Option.some.injEq] <;> rfl) trivial ?_
          refine AW.ret ⟨.inr rfl, _, Weak.refl _, ?_⟩
          have hb : rngS ops.length l = true := upTo_hit he (by simp [inR]; simp at g; omega)
          simp [chkS, hb]
        · refine AW.text teOk (ans := []) (by simp [-Option.some.injEq] <;> rfl) ?_ ?_
          · trivial
          refine ⟨_, _, Weak.normT hA [1, 2, 5, 23, 24, 25] [(5, 0)] [] 1 _ (by simp) (by simp) (by simp), ?_, i + 1, rfl, h, ?_, ?_⟩
          · omega
          · rw [upTo_s he, hno]
            simp [inR]
            simp at hx0 g
            omega
          · simp
            exact wrap_s i (by omega)
    · rw [decide_eq_false_iff_not] at h
      have : i = l.length := by omega
      subst this
      exact ⟨_, Weak.normT hA [1, 2, 5] [(5, 0)] [] 1 _ (by simp) (by simp) (by simp), hno, by simp⟩
  rintro s ⟨h1, rfl⟩
  refine AW.mid (fun s => dupS l = false ∧ s = ⟨[(1, .c (encis l)), (2, .c (.fad (encHi ops))), (5, .c (.ref 0 0 ops.length))], [(0, ⟨1, hadL ops.length l⟩)], 1⟩) ?_ ?_
  · refine AW.st teOk [] (by simp [-Option.some.injEq] <;> rfl) trivial ?_
    refine AW.block (AW.loop (fun m s => ∃ i : Nat, m = l.length - i ∧ i ≤ l.length ∧ upTo (fun b x => b.contains x) l i = false ∧ s = ⟨[(1, .c (encis l)), (2, .c (.fad (encHi ops))), (5, .c (.ref 0 0 ops.length)), (38, .c (encis l)), (39, .c (cI l.length)), (40, .c (cI i))], [(0, ⟨1, hadL ops.length (l.take i)⟩)], 1⟩) _ (Weak.normT hA [1, 2, 5, 38, 39, 40] [(5, 0)] [] 1 _ (by simp) (by simp) (by simp)) ⟨0, rfl, Nat.zero_le _, rfl, by simp⟩ ?_)
    rintro m s ⟨i, rfl, hi, hno, rfl⟩
    refine AW.st teOk [] (by simp [-Option.some.injEq] <;> rfl) trivial ?_
    refine AW.seq ?_
    refine AW.iff (decide (i < l.length)) (by simp) (fun h => AW.skip ?_) (fun h => AW.exit (x_then (x_then (blockA_exit ?_))))
    · rw [decide_eq_true_eq] at h
      obtain ⟨x, he⟩ : ∃ e, l[i]? = some e := ⟨_, List.getElem?_eq_getElem h⟩
      have hix := hin h1 i x he
      have hget := hadL_get (l := l.take i) hix
      obtain ⟨_, _, _, hx3, hx4⟩ := opAt_some hix
      refine AW.seq (AW.block ?_)
      refine AW.st teOk [] (by simp [he, -Option.some.injEq] <;> rfl) ?_ ?_
      · omega
      refine AW.seq ?_
      refine AW.st teOk [] (by simp [hget, -Option.some.injEq] <;> rfl) ?_ ?_
      · omega
      refine AW.iff ((l.take i).contains x) (by simp) (fun g => ?_) (fun g => AW.skip ?_)
      · refine AW.st teOk [] (by simp [-Option.some.injEq] <;> rfl) trivial ?_
        refine AW.ret ⟨.inr rfl, _, Weak.refl _, ?_⟩
        have hb : dupS l = true := upTo_hit (f := fun b x => b.contains x) he g
        simp [chkS, h1, hb]
      · refine AW.text teOk (ans := []) (by simp [hget, -Option.some.injEq] <;> rfl) ?_ ?_
        · omega
        refine AW.text teOk (ans := []) (by simp [-Option.some.injEq] <;> rfl) ?_ ?_
        · trivial
        refine ⟨_, _, Weak.normT hA [1, 2, 5, 38, 39, 40] [(5, 0)] [] 1 _ (by simp) (by simp) (by simp; exact hadL_set hix ▸ flat_hadL _ _), ?_, i + 1, rfl, h, ?_, ?_⟩
        · omega
        · rw [upTo_s he, hno, g]; rfl
        · have ht : l.take (i + 1) = l.take i ++ [x] := by rw [List.take_add_one, he]; rfl
          rw [ht, ← hadL_set hix]
          simp
          exact wrap_s i (by omega)
    · rw [decide_eq_false_iff_not] at h
      have : i = l.length := by omega
      subst this
      rw [List.take_length]
      exact ⟨_, Weak.normT hA [1, 2, 5] [(5, 0)] [] 1 _ (by simp) (by simp) (by simp), hno, by simp⟩
  rintro s ⟨h2, rfl⟩
  refine AW.mid (fun s => misS ops l = false ∧ s = ⟨[(1, .c (encis l)), (2, .c (.fad (encHi ops)))], [], 0⟩) ?_ ?_
  · refine AW.st teOk [] (by simp [-Option.some.injEq] <;> rfl) trivial ?_
    refine AW.block (AW.loop (fun m s => ∃ i : Nat, m = ops.length - i ∧ i ≤ ops.length ∧ upTo (fun b o => reqB o && !l.contains (b.length : Int)) ops i = false ∧ s = ⟨[(1, .c (encis l)), (2, .c (.fad (encHi ops))), (5, .c (.ref 0 0 ops.length)), (53, .c (encOps ops)), (54, .c (cI ops.length)), (55, .c (cI i))], [(0, ⟨1, hadL ops.length l⟩)], 1⟩) _ (Weak.normT hA [1, 2, 5, 53, 54, 55] [(5, 0)] [] 1 _ (by simp) (by simp) (by simp)) ⟨0, rfl, Nat.zero_le _, rfl, by simp⟩ ?_)
    rintro m s ⟨i, rfl, hi, hno, rfl⟩
    refine AW.st teOk [] (by simp [-Option.some.injEq] <;> rfl) trivial ?_
    refine AW.seq ?_
    refine AW.iff (decide (i < ops.length)) (by simp) (fun h => AW.skip ?_) (fun h => AW.exit (x_then (x_then (blockA_exit ?_))))
    · rw [decide_eq_true_eq] at h
      obtain ⟨o, he⟩ : ∃ e, ops[i]? = some e := ⟨_, List.getElem?_eq_getElem h⟩
      have hix : inR ops.length (i : Int) = true := by simp [inR]; omega
      have hget := hadL_get (l := l) hix
      rw [Int.toNat_natCast] at hget
      have hbl : (ops.take i).length = i := by rw [List.length_take]; omega
      refine AW.seq (AW.block ?_)
      refine AW.st teOk [] (by simp [he, -Option.some.injEq] <;> rfl) ?_ ?_
      · omega
      cases hr : reqB o with
      | false =>
        refine AW.st teOk [.fz (.c (cB false))] (by simp [-Option.some.injEq] <;> rfl) ?_ ?_
        · exact (by have := req_pure o; rw [hr] at this; exact this)
        refine AW.iff false (by simp) (fun h => by cases h) (fun _ => AW.skip ?_)
        refine AW.text teOk (ans := []) (by simp [-Option.some.injEq] <;> rfl) ?_ ?_
        · trivial
        refine ⟨_, _, Weak.normT hA [1, 2, 5, 53, 54, 55] [(5, 0)] [] 1 _ (by simp) (by simp) (by simp), ?_, i + 1, rfl, h, ?_, ?_⟩
        · omega
        · rw [upTo_s he, hno, hr]; rfl
        · simp
          exact wrap_s i (by omega)
      | true =>
        refine AW.st teOk [.fz (.c (cB true))] (by simp [hget, -Option.some.injEq] <;> rfl) ?_ ?_
        · have := req_pure o
          rw [hr] at this
          first | exact this | exact ⟨this, by omega⟩
        refine AW.iff (!l.contains (i : Int)) (by simp) (fun g => ?_) (fun g => AW.skip ?_)
        · refine AW.st teOk [] (by simp [-Option.some.injEq] <;> rfl) trivial ?_
          refine AW.ret ⟨.inr rfl, _, Weak.refl _, ?_⟩
          have hb : misS ops l = true := upTo_hit (f := fun b o => reqB o && !l.contains (b.length : Int)) he (by rw [hr, hbl, g]; rfl)
          simp [chkS, h1, h2, hb]
        · refine AW.text teOk (ans := []) (by simp [-Option.some.injEq] <;> rfl) ?_ ?_
          · trivial
          refine ⟨_, _, Weak.normT hA [1, 2, 5, 53, 54, 55] [(5, 0)] [] 1 _ (by simp) (by simp) (by simp), ?_, i + 1, rfl, h, ?_, ?_⟩
          · omega
          · rw [upTo_s he, hno, hbl, g]; simp
          · simp
            exact wrap_s i (by omega)
    · rw [decide_eq_false_iff_not] at h
      have : i = ops.length := by omega
      subst this
      exact ⟨_, Weak.normT hA [1, 2] [] [] 0 _ (by simp) (by simp) (by simp), hno, by simp⟩
  rintro s ⟨h3, rfl⟩
  refine AW.mid (fun s => penS ops l = false ∧ s = ⟨[(1, .c (encis l)), (2, .c (.fad (encHi ops)))], [], 0⟩) ?_ ?_
  · refine AW.st teOk [] (by simp [-Option.some.injEq] <;> rfl) trivial ?_
    refine AW.block (AW.loop (fun m s => ∃ i : Nat, m = l.length - i ∧ i ≤ l.length ∧ upTo (fun _ x => match opAt ops x with
      | some o => penB o
      | none => false) l i = false ∧ s = ⟨[(1, .c (encis l)), (2, .c (.fad (encHi ops))), (70, .c (encis l)), (71, .c (cI l.length)), (72, .c (cI i))], [], 0⟩) _ (Weak.normT hA [1, 2, 70, 71, 72] [] [] 0 _ (by simp) (by simp) (by simp)) ⟨0, rfl, Nat.zero_le _, rfl, by simp⟩ ?_)
    rintro m s ⟨i, rfl, hi, hno, rfl⟩
    refine AW.st teOk [] (by simp [-Option.some.injEq] <;> rfl) trivial ?_
    refine AW.seq ?_
    refine AW.iff (decide (i < l.length)) (by simp) (fun h => AW.skip ?_) (fun h => AW.exit (x_then (x_then (blockA_exit ?_))))
    · rw [decide_eq_true_eq] at h
      obtain ⟨x, he⟩ : ∃ e, l[i]? = some e := ⟨_, List.getElem?_eq_getElem h⟩
      obtain ⟨o, ho, hx2, hx3, hx4⟩ := opAt_some (hin h1 i x he)
      refine AW.seq (AW.block ?_)
      refine AW.st teOk [] (by simp [he, -Option.some.injEq] <;> rfl) ?_ ?_
      · omega
      refine AW.st teOk [] (by simp [hx2, -Option.some.injEq] <;> rfl) ?_ ?_
      · exact ⟨hx3, hx4⟩
      cases hk : o.kind != 1 with
      | false =>
        refine AW.st teOk [] (by simp [hk, -Option.some.injEq] <;> rfl) trivial ?_
        refine AW.iff false (by simp) (fun h => by cases h) (fun _ => AW.skip ?_)
        refine AW.text teOk (ans := []) (by simp [-Option.some.injEq] <;> rfl) ?_ ?_
        · trivial
        refine ⟨_, _, Weak.normT hA [1, 2, 70, 71, 72] [] [] 0 _ (by simp) (by simp) (by simp), ?_, i + 1, rfl, h, ?_, ?_⟩
        · omega
        · rw [upTo_s he, hno]
          simp [ho, penB, hk]
        · simp
          exact wrap_s i (by omega)
      | true =>
        refine AW.st teOk [] (by simp [hk, -Option.some.injEq] <;> rfl) trivial ?_
        refine AW.iff (o.ret == 0) (by simp) (fun g => ?_) (fun g => AW.skip ?_)
        · refine AW.st teOk [] (by simp [-Option.some.injEq] <;> rfl) trivial ?_
          refine AW.ret ⟨.inr rfl, _, Weak.refl _, ?_⟩
          have hb : penS ops l = true := upTo_hit he (by simp [ho, penB, hk]; simpa using g)
          simp [chkS, h1, h2, h3, hb]
        · refine AW.text teOk (ans := []) (by simp [-Option.some.injEq] <;> rfl) ?_ ?_
          · trivial
          refine ⟨_, _, Weak.normT hA [1, 2, 70, 71, 72] [] [] 0 _ (by simp) (by simp) (by simp), ?_, i + 1, rfl, h, ?_, ?_⟩
          · omega
          · rw [upTo_s he, hno]
            simp [ho, penB, g]
          · simp
            exact wrap_s i (by omega)
    · rw [decide_eq_false_iff_not] at h
      have : i = l.length := by omega
      subst this
      exact ⟨_, Weak.normT hA [1, 2] [] [] 0 _ (by simp) (by simp) (by simp), hno, by simp⟩
  rintro s ⟨h4, rfl⟩
  refine AW.mid (fun s => ordS ops l = false ∧ s = ⟨[], [], 0⟩) ?_ ?_
  · refine AW.st teOk [] (by simp [-Option.some.injEq] <;> rfl) trivial ?_
    refine AW.block (AW.loop (fun m s => ∃ i : Nat, m = l.length - i ∧ i ≤ l.length ∧ upTo (fun b x => anyAt (fun _ y => preS ops x y) b) l i = false ∧ s = ⟨[(1, .c (encis l)), (2, .c (.fad (encHi ops))), (90, .c (encis l)), (91, .c (cI l.length)), (92, .c (cI i))], [], 0⟩) _ (Weak.normT hA [1, 2, 90, 91, 92] [] [] 0 _ (by simp) (by simp) (by simp)) ⟨0, rfl, Nat.zero_le _, rfl, by simp⟩ ?_)
    rintro m s ⟨i, rfl, hi, hno, rfl⟩
    refine AW.st teOk [] (by simp [-Option.some.injEq] <;> rfl) trivial ?_
    refine AW.seq ?_
    refine AW.iff (decide (i < l.length)) (by simp) (fun h => AW.skip ?_) (fun h => AW.exit (x_then (x_then (blockA_exit ?_))))
    · rw [decide_eq_true_eq] at h
      obtain ⟨x, he⟩ : ∃ e, l[i]? = some e := ⟨_, List.getElem?_eq_getElem h⟩
      obtain ⟨b, hb⟩ : ∃ b, b = l.take i := ⟨_, rfl⟩
      have hbl : b.length = i := by rw [hb, List.length_take]; omega
      refine AW.seq (AW.block ?_)
      refine AW.st teOk [] (by simp [he, -Option.some.injEq] <;> rfl) ?_ ?_
      · omega
      refine AW.st teOk [] (by simp [-Option.some.injEq] <;> rfl) ?_ ?_
      · first | trivial | omega | (refine ⟨?_, ?_⟩ <;> omega)
      refine AW.block (AW.loop (fun m s => ∃ j : Nat, m = i - j ∧ j ≤ i ∧ upTo (fun _ y => preS ops x y) b j = false ∧ s = ⟨[(1, .c (encis l)), (2, .c (.fad (encHi ops))), (16, .c (cI x)), (90, .c (encis l)), (91, .c (cI l.length)), (92, .c (cI i)), (99, .c (encis b)), (100, .c (cI i)), (101, .c (cI j))], [], 0⟩) _ (Weak.normT hA [1, 2, 16, 90, 91, 92, 99, 100, 101] [] [] 0 _ (by simp) (by simp) (by simp)) ⟨0, rfl, Nat.zero_le _, rfl, by simp [hb, hbl]; omega⟩ ?_)
      rintro m s ⟨j, rfl, hj, hnj, rfl⟩
      refine AW.st teOk [] (by simp [-Option.some.injEq] <;> rfl) trivial ?_
      refine AW.seq ?_
      refine AW.iff (decide (j < i)) (by simp) (fun g => AW.skip ?_) (fun g => AW.exit (x_then (x_then (blockA_exit ?_))))
      · rw [decide_eq_true_eq] at g
        obtain ⟨y, hy⟩ : ∃ e, b[j]? = some e := ⟨_, List.getElem?_eq_getElem (by omega)⟩
        refine AW.seq (AW.block ?_)
        refine AW.st teOk [] (by simp [hy, -Option.some.injEq] <;> rfl) ?_ ?_
        · omega
        refine AW.st teOk [.fz (.c (cB (preS ops x y)))] (by simp [-Option.some.injEq] <;> rfl) ?_ ?_
        · exact prec_pure ops x y
        refine AW.iff (preS ops x y) (by simp) (fun gg => ?_) (fun gg => AW.skip ?_)
        · refine AW.st teOk [] (by simp [-Option.some.injEq] <;> rfl) trivial ?_
          refine AW.ret ⟨.inr rfl, _, Weak.refl _, ?_⟩
          have hbad : ordS ops l = true := upTo_hit (f := fun b x => anyAt (fun _ y => preS ops x y) b) he (by rw [← hb]; exact upTo_hit (f := fun _ y => preS ops x y) hy gg)
          simp [chkS, h1, h2, h3, h4, hbad]
        · refine AW.text teOk (ans := []) (by simp [-Option.some.injEq] <;> rfl) ?_ ?_
          · trivial
          refine ⟨_, _, Weak.normT hA [1, 2, 16, 90, 91, 92, 99, 100, 101] [] [] 0 _ (by simp) (by simp) (by simp), ?_, j + 1, rfl, g, ?_, ?_⟩
          · omega
          · rw [upTo_s hy, hnj, gg]; rfl
          · simp
            exact wrap_s j (by omega)
      · rw [decide_eq_false_iff_not] at g
        have hji : j = b.length := by omega
        rw [hji, upTo_all] at hnj
        refine AW.text teOk (ans := []) (by simp [-Option.some.injEq] <;> rfl) ?_ ?_
        · trivial
        refine ⟨_, _, Weak.normT hA [1, 2, 90, 91, 92] [] [] 0 _ (by simp) (by simp) (by simp), ?_, i + 1, rfl, h, ?_, ?_⟩
        · omega
        · rw [upTo_s he, hno, ← hb, hnj]; rfl
        · simp
          exact wrap_s i (by omega)
    · rw [decide_eq_false_iff_not] at h
      have : i = l.length := by omega
      subst this
      exact ⟨_, Weak.normT hA [] [] [] 0 _ (by simp) (by simp) (by simp), hno, by simp⟩
  rintro s ⟨h5, rfl⟩
  refine AW.st teOk [] (by simp [-Option.some.injEq] <;> rfl) trivial ?_
  refine AW.ret ⟨.inr rfl, _, Weak.refl _, ?_⟩
  simp [chkS, h1, h2, h3, h4, h5]
end Go.Proofs.YtphlhadgcfndhaaGreat.Abs
end
section
namespace Go.Proofs.YtphlhadgcfndhaaGreat.Abs
open Go Go.RowKit
set_option linter.unusedVariables false
set_option linter.unusedSimpArgs false
set_option maxHeartbeats 4000000
def runS (ops : List OpS) : List HV → List Int → Option (List HV)
  | vs, [] => some vs
  | vs, x :: l => match opAt ops x with
    | some o => if okV vs o = true then runS ops (stepV vs o) l else none
    | none => none
def replayS (ops : List OpS) (l : List Int) : Int := if chkS ops l ≠ 0 then chkS ops l else if (runS ops [] l).isSome = true then 0 else 17
/-- Values that are few. -/
structure VOk (N : Nat) (vs : List HV) : Prop where
  asc : AscH vs
  el : ElOk N vs
  len : vs.length ≤ N
theorem VOk.nil : VOk 0 [] := ⟨List.Pairwise.nil, (fun v h => by cases h), Nat.le_refl _⟩
theorem VOk.le {N M : Nat} {vs : List HV} (h : VOk N vs) (hNM : N ≤ M) : VOk M vs := ⟨h.asc, fun v hv => ⟨(h.el v hv).1, by have := (h.el v hv).2; omega⟩, by have := h.len; omega⟩
theorem VOk.step {N : Nat} {vs : List HV} (h : VOk N vs) (o : OpS) : VOk (N + o.ef.length) (stepV vs o) := by
  unfold stepV
  split
  · obtain ⟨g1, g2, g3⟩ := fold_ok o.ef h.asc h.el
    exact ⟨g1, g2, by have := h.len; omega⟩
  · exact h.le (by omega)
/-- Operations with few effects. -/
def EfOk (ops : List OpS) : Prop := ∀ o ∈ ops, o.ef.length ≤ 10
theorem stepK_pure {N : Nat} {vs : List HV} (h : VOk N vs) (hN : N < 90000) {o : OpS} (ho : o.ef.length ≤ 10) : Pure Tryz.prog 24 [.c (encHs vs), .agg (encOp o)] (.tup [.c (encHs (stepV vs o)), .c (cB (okV vs o))]) :=
  step_pure vs o h.asc (fun v hv => ⟨(h.el v hv).1, by have := (h.el v hv).2; omega⟩) (by have := h.len; omega) (by omega)
theorem chk_rng {ops : List OpS} {l : List Int} (h : chkS ops l = 0) : ∀ x ∈ l, inR ops.length x = true := fun x hx => by
  obtain ⟨i, hi⟩ := List.mem_iff_getElem?.1 hx
  cases hq : inR ops.length x with
  | true => rfl
  | false =>
    have : rngS ops.length l = true := upTo_hit (f := fun _ x => !inR ops.length x) hi (by simp [hq])
    rw [chkS, if_pos this] at h
    cases h
theorem replay_pure (ops : List OpS) (l : List Int) (hn : ops.length < 1000000) (hl : l.length < 1000) (hE : EfOk ops) : Pure Tryz.prog 11 [.agg (encHi ops), .c (encis l)] (.c (cI (replayS ops l))) := by
  refine pure_of teOk Tryz.func11 (by kernel_rfl) (c := _) rfl (N := 37) rfl (rs := [Go.ResultVar.tmp 4]) rfl (by simp) fun base A w0 hA => ?_
  refine AW.st teOk [] (by simp [-Option.some.injEq] <;> rfl) trivial ?_
  refine AW.seq ?_
  refine AW.st teOk [.fz (.c (cI (chkS ops l)))] (by simp [-Option.some.injEq] <;> rfl) ?_ ?_
  · exact check_pure ops l hn (by omega)
  refine AW.st teOk [] (by simp [-Option.some.injEq] <;> rfl) trivial ?_
  refine AW.iff (chkS ops l != 0) (by simp) (fun g => ?_) (fun g => AW.skip ?_)
  · refine AW.st teOk [] (by simp [-Option.some.injEq] <;> rfl) trivial ?_
    refine AW.ret ⟨.inr rfl, _, Weak.refl _, ?_⟩
    have g : chkS ops l ≠ 0 := by simpa using g
    simp [replayS, g]
  have hc : chkS ops l = 0 := by simpa using g
  have hin := chk_rng hc
  have hrs : replayS ops l = if (runS ops [] l).isSome = true then 0 else 17 := by rw [replayS, if_neg (by simp [hc])]
  rw [hrs]
  refine AW.st teOk [] (by simp [-Option.some.injEq] <;> rfl) trivial ?_
  refine AW.seq ?_
  refine AW.weak (Weak.le 6 _ (by simp <;> rfl) (.c (LeC.nil 10))) ?_
  refine AW.st teOk [] (by simp [-Option.some.injEq] <;> rfl) trivial ?_
  refine AW.block (AW.loop (fun m s => ∃ (i : Nat) (vs : List HV), m = l.length - i ∧ i ≤ l.length ∧ VOk (10 * i) vs ∧ runS ops [] l = runS ops vs (l.drop i) ∧ s = ⟨[(2, .c (.ptr 0 0 0)), (6, .c (encHs vs)), (17, .c (encis l)), (18, .c (cI l.length)), (19, .c (cI i))], [(0, ⟨1, [encHi ops]⟩)], 1⟩) _ (Weak.normT hA [2, 6, 17, 18, 19] [(2, 0)] [] 1 _ (by simp) (by simp) (by simp)) ⟨0, [], rfl, Nat.zero_le _, VOk.nil, by simp, by simp⟩ ?_)
  rintro m s ⟨i, vs, rfl, hi, hv, hr, rfl⟩
  refine AW.st teOk [] (by simp [-Option.some.injEq] <;> rfl) trivial ?_
  refine AW.seq ?_
  refine AW.iff (decide (i < l.length)) (by simp) (fun h => AW.skip ?_) (fun h => AW.exit (x_then (x_then (blockA_exit ?_))))
  · rw [decide_eq_true_eq] at h
    obtain ⟨x, he⟩ : ∃ e, l[i]? = some e := ⟨_, List.getElem?_eq_getElem h⟩
    obtain ⟨o, ho, hx2, hx3, hx4⟩ := opAt_some (hin x (List.mem_of_getElem? he))
    have hef := hE o (List.mem_of_getElem? hx2)
    have hd : l.drop i = x :: l.drop (i + 1) := by
      rw [List.drop_eq_getElem_cons h]
      congr 1
      rw [List.getElem?_eq_getElem h] at he
      exact Option.some.inj he
    refine AW.seq (AW.block ?_)
    refine AW.st teOk [] (by simp [he, -Option.some.injEq] <;> rfl) ?_ ?_
    · omega
    refine AW.st teOk [.fz (.tup [.c (encHs (stepV vs o)), .c (cB (okV vs o))])] (by simp [hx2, -Option.some.injEq] <;> rfl) ?_ ?_
    · exact ⟨⟨hx3, hx4⟩, stepK_pure hv (by omega) hef⟩
    refine AW.seq ?_
    refine AW.st teOk [] (by simp [-Option.some.injEq] <;> rfl) trivial ?_
    cases hok : okV vs o with
    | false =>
      refine AW.iff true (by simp [hok]) (fun _ => ?_) (fun h => by cases h)
      refine AW.st teOk [] (by simp [-Option.some.injEq] <;> rfl) trivial ?_
      refine AW.ret ⟨.inr rfl, _, Weak.refl _, ?_⟩
      rw [hr, hd, runS, ho]
      simp [hok]
    | true =>
      refine AW.iff false (by simp [hok]) (fun h => by cases h) (fun _ => AW.skip ?_)
      refine AW.text teOk (ans := []) (by simp [-Option.some.injEq] <;> rfl) ?_ ?_
      · trivial
      refine AW.text teOk (ans := []) (by simp [-Option.some.injEq] <;> rfl) ?_ ?_
      · trivial
      refine ⟨_, _, Weak.normT hA [2, 6, 17, 18, 19] [(2, 0)] [] 1 _ (by simp) (by simp) (by simp), ?_, i + 1, stepV vs o, rfl, h, (hv.step o).le (by omega), ?_, ?_⟩
      · omega
      · rw [hr, hd, runS, ho]
        simp [hok]
      · simp
        exact wrap_s i (by omega)
  · rw [decide_eq_false_iff_not] at h
    refine AW.st teOk [] (by simp [-Option.some.injEq] <;> rfl) trivial ?_
    refine AW.ret ⟨.inr rfl, _, Weak.refl _, ?_⟩
    rw [hr, List.drop_eq_nil_of_le (by omega), runS]
    simp
end Go.Proofs.YtphlhadgcfndhaaGreat.Abs
end
