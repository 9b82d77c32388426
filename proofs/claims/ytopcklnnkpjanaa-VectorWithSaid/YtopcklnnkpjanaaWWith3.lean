/- The law VectorWith: its walk. -/
import Derived.Test.YtopcklnnkpjanaaWWith2
namespace Go.Proofs.Ytopcklnnkpjanaa.Abs
open Go Go.RowKit
set_option linter.unusedVariables false
set_option linter.unusedSimpArgs false
set_option maxHeartbeats 4000000
def okJ (v : V2) : Bool := decide (v.length ≤ 40) && (valI v == 0)
theorem valid3_pure (l : List V2) (hl : l.length ≤ 1000000000000) : Pure Try.prog 38 [.c (encVs l)] (.c (cB (l.all okJ))) := by
  refine pure_of teOk Try.func38 (by kernel_rfl) (c := _) rfl (N := 24) rfl (rs := [Go.ResultVar.tmp 2]) rfl (by simp) fun base A w0 hA => ?_
  refine AW.st teOk [] (by simp [-Option.some.injEq] <;> rfl) trivial ?_
  refine AW.seq ?_
  refine AW.st teOk [] (by simp [-Option.some.injEq] <;> rfl) trivial ?_
  refine AW.block (AW.loop (fun m s => ∃ j : Nat, m = l.length - j ∧ j ≤ l.length ∧ l.all okJ = (l.drop j).all okJ ∧ s = ⟨[(0, .c (encVs l)), (3, .c (cI j))], [], 0⟩) _ (Weak.normT hA [0, 3] [] [] 0 _ (by simp) (by simp) (by simp)) ⟨0, rfl, Nat.zero_le _, rfl, by simp⟩ ?_)
  rintro m s ⟨j, rfl, hj, hd, rfl⟩
  refine AW.seq ?_
  refine AW.st teOk [] (by simp [-Option.some.injEq] <;> rfl) trivial ?_
  refine AW.iff (decide (j < l.length)) (by simp) (fun h => AW.skip ?_) (fun h => AW.exit (x_then (x_then (blockA_exit ?_))))
  · rw [decide_eq_true_eq] at h
    obtain ⟨x, hx⟩ : ∃ x, l[j]? = some x := ⟨_, List.getElem?_eq_getElem h⟩
    have he : l.drop j = x :: l.drop (j + 1) := by
      rw [List.drop_eq_getElem_cons h, (List.getElem?_eq_some_iff.1 hx).2]
    rw [he, List.all_cons] at hd
    refine AW.seq (AW.block ?_)
    by_cases h30 : x.length ≤ 40
    · have h30' : ¬ (40 : Int) < x.length := by omega
      refine AW.st teOk [.fz (.c (cI (valI x)))] (by simp [hx, h30', -Option.some.injEq] <;> rfl) ?_ ?_
      · exact ⟨by simpa using h, val_pure x (by omega)⟩
      by_cases h0 : valI x = 0
      · refine AW.iff false (by simp [h0]) (fun h => by cases h) (fun _ => AW.skip ?_)
        refine AW.text teOk (ans := []) (by simp [-Option.some.injEq] <;> rfl) ?_ ?_
        · trivial
        refine ⟨_, _, Weak.normT hA [0, 3] [] [] 0 _ (by simp) (by simp) (by simp), ?_, j + 1, rfl, h, ?_, ?_⟩
        · omega
        · rw [hd]; simp [okJ, h30, h0]
        · simp
          exact wrap_s j (by omega)
      · refine AW.iff true (by simp [h0]) (fun _ => ?_) (fun h => by cases h)
        refine AW.st teOk [] (by simp [-Option.some.injEq] <;> rfl) trivial ?_
        refine AW.ret ⟨.inr rfl, _, Weak.refl _, ?_⟩
        simp [hd, okJ, h0]
    · have h30' : (40 : Int) < x.length := by omega
      refine AW.st teOk [] (by simp [hx, h30', -Option.some.injEq] <;> rfl) ?_ ?_
      · first | trivial | omega | (simp [allP, growOk] <;> omega)
      refine AW.iff true (by simp) (fun _ => ?_) (fun h => by cases h)
      refine AW.st teOk [] (by simp [-Option.some.injEq] <;> rfl) trivial ?_
      refine AW.ret ⟨.inr rfl, _, Weak.refl _, ?_⟩
      simp [hd, okJ, h30]
  · rw [decide_eq_false_iff_not] at h
    rw [List.drop_eq_nil_of_le (by omega)] at hd
    refine AW.st teOk [] (by simp [-Option.some.injEq] <;> rfl) trivial ?_
    refine AW.ret ⟨.inr rfl, _, Weak.refl _, ?_⟩
    simp [hd]
theorem okJ_val {v : V2} (h : okJ v = true) : v.length ≤ 40 ∧ Val v := by
  unfold okJ at h
  rw [Bool.and_eq_true, decide_eq_true_eq, beq_iff_eq] at h
  obtain ⟨h1, h2, _⟩ := valGo_ok v none h.2
  exact ⟨h.1, val_of h1 h2⟩
theorem valGo_zero : ∀ (v : V2) (p : Option Int), Val v → (∀ q, p = some q → ∀ e ∈ v, q < e.1) → valGo p v = 0
  | [], p, _, _ => rfl
  | e :: l, p, h, hp => by
    obtain ⟨g, hx, h'⟩ := val_cons.1 h
    have ih := valGo_zero l (some e.1) h' fun q hq x hxl => by cases hq; exact hx x hxl
    have h1 : ¬ (e.1 < 1 ∨ e.2 < 1 ∨ e.2 > 1000000) := by obtain ⟨g1, g2, g3⟩ := g; omega
    rw [valGo, if_neg h1, ih]
    cases p with
    | none => rfl
    | some q =>
      have := hp q rfl e (by simp)
      rw [if_neg]
      simp
      omega
theorem valI_zero {v : V2} (h : Val v) : valI v = 0 := valGo_zero v none h fun q hq => by cases hq
theorem w_true {a c : Int} : ∀ {R : V2}, (∀ e ∈ R, e.1 ≠ a) → withI a c true R = R
  | [], _ => rfl
  | e :: R, h => by
    have h1 := h e (by simp)
    have ih := w_true (c := c) (R := R) fun x hx => h x (by simp [hx])
    rw [withI]
    simp [h1, ih]
theorem w_low {a c : Int} {put : Bool} {R : V2} : ∀ {L : V2}, (∀ e ∈ L, e.1 < a) → withI a c put (L ++ R) = L ++ withI a c put R
  | [], _ => rfl
  | e :: L, h => by
    have h1 := h e (by simp)
    have h2 : ¬ a ≤ e.1 := by omega
    have h3 : e.1 ≠ a := by omega
    rw [List.cons_append, withI]
    simp only [h2, h3, decide_false, Bool.or_false, and_false, if_false, List.nil_append]
    rw [w_low (L := L) fun x hx => h x (by simp [hx])]
    rfl
theorem w_high {a c : Int} : ∀ {R : V2}, (∀ e ∈ R, a < e.1) → withI a c false R = (a, c) :: R
  | [], _ => rfl
  | e :: R, h => by
    have h1 := h e (by simp)
    have h2 : a ≤ e.1 := by omega
    have h3 : e.1 ≠ a := by omega
    rw [withI]
    simp only [h2, h3, decide_true, Bool.or_true, and_self, if_true, if_false]
    rw [w_true fun x hx => by have := h x (by simp [hx]); omega]
    rfl
theorem w_at {a c : Int} {e : E2} {R : V2} (he : e.1 = a) (h : ∀ x ∈ R, a < x.1) (put : Bool) : withI a c put (e :: R) = (if put = true then [] else [(a, c)]) ++ R := by
  have h2 : a ≤ e.1 := by omega
  have ht := w_true (a := a) (c := c) (R := R) fun x hx => by have := h x hx; omega
  rw [withI]
  cases put with
  | true => simp only [he, if_true, Bool.true_or, ht]; rfl
  | false => simp only [he, h2, if_true, decide_true, Bool.or_true, ht, Int.le_refl, and_self]; rfl
theorem withS_eq {v : V2} (hv : Asc v) {a c : Int} (hb : ¬ (a < 1 ∨ c < 0 ∨ c > 1000000)) : withS v a c = withI a c (c == 0) v := by
  have hps := fun i e he => pos_split hv a (i := i) (e := e) he
  have hhp := has_pos hv a
  have hpl : posI v a ≤ v.length := List.countP_le_length
  rw [withS, if_neg hb]
  generalize posI v a = p at *
  have hL : ∀ e ∈ v.take p, e.1 < a := fun e he => by
    obtain ⟨i, hi, rfl⟩ := List.getElem_of_mem he
    rw [List.length_take] at hi
    rw [List.getElem_take]
    have := hps i _ (List.getElem?_eq_getElem (by omega))
    by_cases h : (v[i]'(by omega)).1 < a
    · exact h
    · have := this.2 h
      omega
  have hR : ∀ e ∈ v.drop p, a ≤ e.1 := fun e he => by
    obtain ⟨i, hi, rfl⟩ := List.getElem_of_mem he
    rw [List.length_drop] at hi
    rw [List.getElem_drop]
    have := hps (p + i) _ (List.getElem?_eq_getElem (by omega))
    by_cases h : (v[p + i]'(by omega)).1 < a
    · have := this.1 h
      omega
    · omega
  have hsp : v = v.take p ++ v.drop p := (List.take_append_drop p v).symm
  have hAR : Asc (v.drop p) := hv.sublist (List.drop_sublist _ _)
  have key : withI a c (c == 0) v = v.take p ++ withI a c (c == 0) (v.drop p) := by
    conv => lhs; rw [hsp]
    exact w_low hL
  rw [key]
  cases hg : hasI v a with
  | true =>
    rw [hg] at hhp
    obtain ⟨e, he, hea⟩ : ∃ e, v[p]? = some e ∧ e.1 = a := by
      cases hq : v[p]? with
      | none => rw [hq] at hhp; cases hhp
      | some e => rw [hq] at hhp; exact ⟨e, rfl, by simpa using hhp.symm⟩
    have hlt := (List.getElem?_eq_some_iff.1 he).1
    have hd : v.drop p = e :: v.drop (p + 1) := by rw [List.drop_eq_getElem_cons hlt, (List.getElem?_eq_some_iff.1 he).2]
    rw [hd] at hAR ⊢
    have hh := (List.pairwise_cons.1 hAR).1
    rw [w_at hea (fun x hx => by have := hh x hx; omega), if_pos rfl]
    by_cases hc : c = 0
    · subst hc
      rw [if_pos rfl]
      rfl
    · have hc' : (c == 0) = false := by simpa using hc
      rw [if_neg hc, hc', List.set_eq_take_append_cons_drop, if_pos hlt]
      simp
  | false =>
    rw [if_neg (by simp)]
    have hne : ∀ e ∈ v, e.1 ≠ a := fun e he => by simpa using List.any_eq_false.1 hg e he
    by_cases hc : c > 0
    · have hc' : (c == 0) = false := by simp; omega
      rw [if_pos hc, hc', w_high fun e he => by have := hR e he; have := hne e (List.mem_of_mem_drop he); omega]
    · have hc' : (c == 0) = true := by simp; omega
      rw [if_neg hc, hc', w_true fun e he => hne e (List.mem_of_mem_drop he), ← hsp]
/-- What With leads to. -/
theorem withS_facts {v : V2} (hv : Val v) (a c : Int) : Val (withS v a c) ∧ (withS v a c).length ≤ v.length + 1 ∧ (¬ (a < 1 ∨ c < 0 ∨ c > 1000000) → ∀ x, cnt (withS v a c) x = if x = a then c else cnt v x) := by
  by_cases hb : a < 1 ∨ c < 0 ∨ c > 1000000
  · have : withS v a c = v := if_pos hb
    rw [this]
    exact ⟨hv, by omega, fun h => absurd hb h⟩
  · rw [withS_eq hv.2 hb, withI_wth]
    by_cases hc : c = 0
    · subst hc
      obtain ⟨h1, _, h3, h4⟩ := wth_true a 0 hv
      exact ⟨h1, by show (wth a 0 true v).length ≤ _; omega, fun _ => h3⟩
    · have hc' : (c == 0) = false := by simpa using hc
      rw [hc']
      obtain ⟨h1, _, h3, h4⟩ := wth_false (a := a) (c := c) (by omega) (by omega) hv
      exact ⟨h1, h4, fun _ => h3⟩
end Go.Proofs.Ytopcklnnkpjanaa.Abs
