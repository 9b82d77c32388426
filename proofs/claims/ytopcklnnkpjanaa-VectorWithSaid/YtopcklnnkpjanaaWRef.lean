/- The reference's vectors. -/
import Derived.Test.YtopcklnnkpjanaaWAcc
namespace Go.Proofs.Ytopcklnnkpjanaa.Abs
open Go Go.RowKit
set_option linter.unusedVariables false
set_option linter.unusedSimpArgs false
set_option maxHeartbeats 4000000
theorem find_drop {v : List E2} {a : Int} {j : Nat} {e : E2} (he : v[j]? = some e) (hn : ∀ i, i < j → ∀ x, v[i]? = some x → x.1 ≠ a) : (e.1 = a → countI v a = e.2) ∧ (e.1 ≠ a → ∀ i, i < j + 1 → ∀ x, v[i]? = some x → x.1 ≠ a) := by
  refine ⟨fun h => ?_, fun h i hi x hx => ?_⟩
  · unfold countI
    have : v.find? (fun x => decide (x.1 = a)) = some e := by
      obtain ⟨hlt, rfl⟩ := List.getElem?_eq_some_iff.1 he
      rw [List.find?_eq_some_iff_getElem]
      exact ⟨by simpa using h, j, hlt, rfl, fun i hi => by simpa using hn i hi _ (List.getElem?_eq_getElem (by omega))⟩
    rw [this]
  · by_cases hij : i = j
    · subst hij
      rw [he] at hx
      cases hx
      exact h
    · exact hn i (by omega) x hx
theorem rcount_pure (v : V2) (a : Int) (hl : v.length < 1000000000000) : Pure Try.prog 43 [.c (encV v), .c (cI a)] (.c (cI (countI v a))) := by
  refine pure_of teOk Try.func43 (by kernel_rfl) (c := _) rfl (N := 24) rfl (rs := [Go.ResultVar.tmp 4]) rfl (by simp) fun base A w0 hA => ?_
  refine AW.st teOk [] (by simp [-Option.some.injEq] <;> rfl) trivial ?_
  refine AW.seq ?_
  refine AW.st teOk [] (by simp [-Option.some.injEq] <;> rfl) trivial ?_
  refine AW.block (AW.loop (fun m s => ∃ j : Nat, m = v.length - j ∧ j ≤ v.length ∧ (∀ i, i < j → ∀ x, v[i]? = some x → x.1 ≠ a) ∧ s = ⟨[(0, .c (encV v)), (1, .c (cI a)), (5, .c (cI j))], [], 0⟩) _ (Weak.normT hA [0, 1, 5] [] [] 0 _ (by simp) (by simp) (by simp)) ⟨0, rfl, Nat.zero_le _, fun i hi => by omega, by simp⟩ ?_)
  rintro m s ⟨j, rfl, hj, hn, rfl⟩
  refine AW.seq ?_
  refine AW.st teOk [] (by simp [-Option.some.injEq] <;> rfl) trivial ?_
  refine AW.iff (decide (j < v.length)) (by simp) (fun h => AW.skip ?_) (fun h => AW.exit (x_then (x_then (blockA_exit ?_))))
  · rw [decide_eq_true_eq] at h
    obtain ⟨e, he⟩ : ∃ e, v[j]? = some e := ⟨_, List.getElem?_eq_getElem h⟩
    have hf := find_drop he hn
    refine AW.seq (AW.block ?_)
    refine AW.st teOk [] (by simp [he, -Option.some.injEq] <;> rfl) ?_ ?_
    · first | trivial | omega | (simp [allP, growOk] <;> omega)
    by_cases hc : e.1 = a
    · refine AW.iff true (by simp [hc]) (fun _ => ?_) (fun h => by cases h)
      refine AW.st teOk [] (by simp [he, -Option.some.injEq] <;> rfl) ?_ ?_
      · first | trivial | omega | (simp [allP, growOk] <;> omega)
      refine AW.ret ⟨.inr rfl, _, Weak.refl _, ?_⟩
      simp [hf.1 hc]
    · refine AW.iff false (by simp [hc]) (fun h => by cases h) (fun _ => AW.skip ?_)
      refine AW.text teOk (ans := []) (by simp [-Option.some.injEq] <;> rfl) ?_ ?_
      · trivial
      refine ⟨_, _, Weak.normT hA [0, 1, 5] [] [] 0 _ (by simp) (by simp) (by simp), ?_, j + 1, rfl, h, hf.2 hc, ?_⟩
      · omega
      · simp
        exact wrap_s j (by omega)
  · rw [decide_eq_false_iff_not] at h
    refine AW.st teOk [] (by simp [-Option.some.injEq] <;> rfl) trivial ?_
    refine AW.ret ⟨.inr rfl, _, Weak.refl _, ?_⟩
    have : countI v a = 0 := count_none a (List.any_eq_false.2 fun x hx => by
      obtain ⟨i, hi, rfl⟩ := List.getElem_of_mem hx
      have := hn i (by omega) _ (List.getElem?_eq_getElem hi)
      simpa using this)
    simp [this]
def withI (a c : Int) : Bool → V2 → V2
  | put, [] => if put = true then [] else [(a, c)]
  | put, e :: l => (if put = false ∧ a ≤ e.1 then [(a, c)] else []) ++ ((if e.1 = a then [] else [e]) ++ withI a c (put || decide (a ≤ e.1)) l)
theorem rwith_pure (v : V2) (a c : Int) (ha : 1 ≤ a) (hc0 : 0 ≤ c) (hc1 : c ≤ 1000000) (hl : v.length < 100000000000) : Pure Try.prog 41 [.c (encV v), .c (cI a), .c (cI c)] (.c (encV (withI a c (c == 0) v))) := by
  refine pure_of teOk Try.func41 (by kernel_rfl) (c := _) rfl (N := 69) rfl (rs := [Go.ResultVar.tmp 6]) rfl (by simp) fun base A w0 hA => ?_
  refine AW.st teOk [] (by simp [-Option.some.injEq] <;> rfl) trivial ?_
  refine AW.seq ?_
  have h1 : decide (a < 1) = false := by simp; omega
  have h2 : decide (c < 0) = false := by simp; omega
  have h3 : decide (c > 1000000) = false := by simp; omega
  refine AW.st teOk [] (by simp [h1, h2, h3, -Option.some.injEq] <;> rfl) trivial ?_
  refine AW.iff false (by simp) (fun h => by cases h) (fun _ => AW.skip ?_)
  refine AW.st teOk [] (by simp [-Option.some.injEq] <;> rfl) trivial ?_
  refine AW.st teOk [] (by simp [-Option.some.injEq] <;> rfl) trivial ?_
  refine AW.weak (Weak.nil 7 2 _ (by simp <;> rfl)) (AW.seq ?_)
  refine AW.st teOk [] (by simp [-Option.some.injEq] <;> rfl) trivial ?_
  refine AW.block (AW.loop (fun m s => ∃ j o put, m = v.length - j ∧ j ≤ v.length ∧ o.length ≤ 2 * j ∧ withI a c (c == 0) v = o ++ withI a c put (v.drop j) ∧ s = ⟨[(0, .c (encV v)), (1, .c (cI a)), (2, .c (cI c)), (7, .c (.ref 0 0 o.length)), (8, .c (cB put)), (9, .c (cI j))], [(0, ⟨2, o.map encE⟩)], 1⟩) _ (Weak.normT hA [0, 1, 2, 7, 8, 9] [(7, 0)] [] 1 _ (by simp) (by simp) (by simp)) ⟨0, [], c == 0, rfl, Nat.zero_le _, by simp, rfl, by simp⟩ ?_)
  rintro m s ⟨j, o, put, rfl, hj, ho, hw, rfl⟩
  refine AW.seq ?_
  refine AW.st teOk [] (by simp [-Option.some.injEq] <;> rfl) trivial ?_
  refine AW.iff (decide (j < v.length)) (by simp) (fun h => AW.skip ?_) (fun h => AW.exit (x_then (x_then (blockA_exit ?_))))
  · rw [decide_eq_true_eq] at h
    obtain ⟨e, he⟩ : ∃ e, v[j]? = some e := ⟨_, List.getElem?_eq_getElem h⟩
    have hd : v.drop j = e :: v.drop (j + 1) := by
      rw [List.drop_eq_getElem_cons h, (List.getElem?_eq_some_iff.1 he).2]
    refine AW.seq (AW.block ?_)
    rw [hd, withI] at hw
    refine AW.mid (fun s => ∃ o', o' = o ++ (if put = false ∧ a ≤ e.1 then [(a, c)] else []) ∧ s = ⟨[(0, .c (encV v)), (1, .c (cI a)), (2, .c (cI c)), (7, .c (.ref 0 0 o'.length)), (8, .c (cB (put || decide (a ≤ e.1)))), (9, .c (cI j))], [(0, ⟨2, o'.map encE⟩)], 1⟩) ?_ ?_
    · cases put with
      | true =>
        refine AW.st teOk [] (by simp [-Option.some.injEq] <;> rfl) trivial ?_
        exact AW.iff false (by simp) (fun h => by cases h) (fun _ => AW.skip ⟨_, Weak.normT hA [0, 1, 2, 7, 8, 9] [(7, 0)] [] 1 _ (by simp) (by simp) (by simp), o, by simp, by simp⟩)
      | false =>
        refine AW.st teOk [] (by simp [he, -Option.some.injEq] <;> rfl) ?_ ?_
        · first | trivial | omega | (simp [allP, growOk] <;> omega)
        by_cases hge : a ≤ e.1
        · refine AW.iff true (by simp [hge]) (fun _ => ?_) (fun h => by cases h)
          refine AW.st teOk [] (by simp [-Option.some.injEq] <;> rfl) ?_ ?_
          · simp [growOk]
            omega
          refine AW.text teOk (ans := []) (by simp [-Option.some.injEq] <;> rfl) ?_ ?_
          · trivial
          exact ⟨_, Weak.normT hA [0, 1, 2, 7, 8, 9] [(7, 0)] [] 1 _ (by simp) (by simp) (by simp), o ++ [(a, c)], by simp [hge], by simp [hge]⟩
        · refine AW.iff false (by simp [hge]) (fun h => by cases h) (fun _ => AW.skip ?_)
          exact ⟨_, Weak.normT hA [0, 1, 2, 7, 8, 9] [(7, 0)] [] 1 _ (by simp) (by simp) (by simp), o, by simp [hge], by simp [hge]⟩
    · rintro s ⟨o', ho', rfl⟩
      have ho2 : o'.length ≤ 2 * j + 1 := by
        rw [ho', List.length_append]
        split <;> simp <;> omega
      refine AW.st teOk [] (by simp [he, -Option.some.injEq] <;> rfl) ?_ ?_
      · first | trivial | omega | (simp [allP, growOk] <;> omega)
      by_cases hne : e.1 = a
      · refine AW.iff false (by simp [hne]) (fun h => by cases h) (fun _ => AW.skip ?_)
        refine AW.text teOk (ans := []) (by simp [-Option.some.injEq] <;> rfl) ?_ ?_
        · trivial
        refine ⟨_, _, Weak.normT hA [0, 1, 2, 7, 8, 9] [(7, 0)] [] 1 _ (by simp) (by simp) (by simp), ?_, j + 1, o', put || decide (a ≤ e.1), rfl, h, ?_, ?_, ?_⟩
        · omega
        · omega
        · rw [hw, ho', if_pos hne, List.append_assoc]; rfl
        · simp
          exact wrap_s j (by omega)
      · refine AW.iff true (by simp [hne]) (fun _ => ?_) (fun h => by cases h)
        refine AW.text teOk (ans := []) (by simp [he, -Option.some.injEq] <;> rfl) ?_ ?_
        · simp [growOk]
          omega
        refine AW.text teOk (ans := []) (by simp [-Option.some.injEq] <;> rfl) ?_ ?_
        · trivial
        refine ⟨_, _, Weak.normT hA [0, 1, 2, 7, 8, 9] [(7, 0)] [] 1 _ (by simp) (by simp) (by simp), ?_, j + 1, o' ++ [e], put || decide (a ≤ e.1), rfl, h, ?_, ?_, ?_⟩
        · omega
        · simp; omega
        · rw [hw, ho', if_neg hne, List.append_assoc, List.append_assoc]
        · simp
          exact wrap_s j (by omega)
  · rw [decide_eq_false_iff_not] at h
    have hjl : j = v.length := by omega
    subst hjl
    rw [List.drop_length, withI] at hw
    refine AW.mid (fun s => ∃ o', o' = withI a c (c == 0) v ∧ s = ⟨[(7, .c (.ref 0 0 o'.length))], [(0, ⟨2, o'.map encE⟩)], 1⟩) ?_ ?_
    · cases put with
      | true =>
        refine AW.st teOk [] (by simp [-Option.some.injEq] <;> rfl) trivial ?_
        exact AW.iff false (by simp) (fun h => by cases h) (fun _ => AW.skip ⟨_, Weak.normT hA [7] [(7, 0)] [] 1 _ (by simp) (by simp) (by simp), o, by simpa using hw.symm, by simp⟩)
      | false =>
        refine AW.st teOk [] (by simp [-Option.some.injEq] <;> rfl) trivial ?_
        refine AW.iff true (by simp) (fun _ => ?_) (fun h => by cases h)
        refine AW.text teOk (ans := []) (by simp [-Option.some.injEq] <;> rfl) ?_ ?_
        · simp [growOk]
          omega
        exact ⟨_, Weak.normT hA [7] [(7, 0)] [] 1 _ (by simp) (by simp) (by simp), o ++ [(a, c)], by simpa using hw.symm, by simp⟩
    · rintro s ⟨o', rfl, rfl⟩
      refine AW.st teOk [] (by simp [-Option.some.injEq] <;> rfl) trivial ?_
      refine AW.ret ⟨.inr rfl, _, Weak.frzT 6 [] _ (by simp <;> exact ⟨rfl, rfl, rfl⟩) (by simp <;> rfl) (flat_encE _), ?_⟩
      simp
theorem withI_length (a c : Int) : ∀ (v : V2) (put : Bool), (withI a c put v).length ≤ v.length + (if put = true then 0 else 1)
  | [], put => by cases put <;> simp [withI]
  | e :: l, put => by
    have ih := withI_length a c l (put || decide (a ≤ e.1))
    rw [withI]
    cases put with
    | true =>
      simp only [Bool.true_or, if_true, Bool.true_eq_false, false_and, if_false, List.nil_append, List.length_append] at ih ⊢
      split <;> simp <;> omega
    | false =>
      by_cases hge : a ≤ e.1
      · simp only [hge, decide_true, Bool.or_true, if_true, and_self, List.length_append] at ih ⊢
        split <;> simp <;> omega
      · simp only [hge, decide_false, Bool.or_false, and_false, if_false, List.nil_append, List.length_append, Bool.false_eq_true] at ih ⊢
        split <;> simp <;> omega
def stepI (out : V2) (e : E2) : V2 := if e.2 > countI out e.1 then withI e.1 e.2 (e.2 == 0) out else out
def rjoinI (a b : V2) : V2 := b.foldl stepI a
theorem stepI_length (o : V2) (e : E2) : (stepI o e).length ≤ o.length + 1 := by
  unfold stepI
  split
  · have := withI_length e.1 e.2 o (e.2 == 0)
    split at this <;> omega
  · omega
/-- Entries that a vector may have. -/
def Okv (v : V2) : Prop := ∀ e ∈ v, 1 ≤ e.1 ∧ 1 ≤ e.2 ∧ e.2 ≤ 1000000
theorem rjoin_pure (a b : V2) (hb : Okv b) (hab : a.length + b.length < 10000000000) : Pure Try.prog 20 [.c (encV a), .c (encV b)] (.c (encV (rjoinI a b))) := by
  refine pure_of teOk Try.func20 (by kernel_rfl) (c := _) rfl (N := 42) rfl (rs := [Go.ResultVar.tmp 4]) rfl (by simp) fun base A w0 hA => ?_
  refine AW.st teOk [] (by simp [-Option.some.injEq] <;> rfl) trivial ?_
  refine AW.st teOk [] (by simp [-Option.some.injEq] <;> rfl) ?_ ?_
  · simp [growOk]
    exact ⟨⟨by omega, by omega⟩, fun e x y _ he => by rw [← he]; rfl⟩
  refine AW.weak (Weak.frzT 5 [] _ (by simp <;> exact ⟨rfl, rfl, rfl⟩) (by simp <;> rfl) (by simp)) (AW.seq ?_)
  refine AW.st teOk [] (by simp [-Option.some.injEq] <;> rfl) trivial ?_
  refine AW.block (AW.loop (fun m s => ∃ j o, m = b.length - j ∧ j ≤ b.length ∧ o.length ≤ a.length + j ∧ rjoinI a b = (b.drop j).foldl stepI o ∧ s = ⟨[(0, .c (encV a)), (1, .c (encV b)), (5, .c (encV o)), (6, .c (cI j))], [], 0⟩) _ (Weak.normT hA [0, 1, 5, 6] [] [] 0 _ (by simp) (by simp) (by simp)) ⟨0, a, rfl, Nat.zero_le _, Nat.le_refl _, rfl, by simp⟩ ?_)
  rintro m s ⟨j, o, rfl, hj, ho, hr, rfl⟩
  refine AW.seq ?_
  refine AW.st teOk [] (by simp [-Option.some.injEq] <;> rfl) trivial ?_
  refine AW.iff (decide (j < b.length)) (by simp) (fun h => AW.skip ?_) (fun h => AW.exit (x_then (x_then (blockA_exit ?_))))
  · rw [decide_eq_true_eq] at h
    obtain ⟨e, he⟩ : ∃ e, b[j]? = some e := ⟨_, List.getElem?_eq_getElem h⟩
    have hd : b.drop j = e :: b.drop (j + 1) := by
      rw [List.drop_eq_getElem_cons h, (List.getElem?_eq_some_iff.1 he).2]
    rw [hd, List.foldl_cons] at hr
    have hs := stepI_length o e
    obtain ⟨e1, e2, e3⟩ := hb e (List.mem_of_getElem? he)
    refine AW.seq (AW.block ?_)
    refine AW.dr mixed teOk [.c (cI (countI o e.1))] (by simp [he, -Option.some.injEq] <;> rfl) (by kernel_rfl) (by kernel_rfl) ?_ ?_
    · simp [allP]
      exact ⟨h, rcount_pure o e.1 (by omega)⟩
    by_cases hc : e.2 > countI o e.1
    · refine AW.iff true (by simp [hc]) (fun _ => ?_) (fun h => by cases h)
      refine AW.draw mixed teOk (ans := [.c (encV (withI e.1 e.2 (e.2 == 0) o))]) (by simp [he, -Option.some.injEq] <;> rfl) (by kernel_rfl) (by kernel_rfl) ?_ ?_
      · simp [allP]
        exact ⟨h, rwith_pure o e.1 e.2 e1 (by omega) e3 (by omega)⟩
      refine AW.text teOk (ans := []) (by simp [-Option.some.injEq] <;> rfl) ?_ ?_
      · trivial
      refine ⟨_, _, Weak.normT hA [0, 1, 5, 6] [] [] 0 _ (by simp) (by simp) (by simp), ?_, j + 1, stepI o e, rfl, h, ?_, hr, ?_⟩
      · omega
      · omega
      · simp [stepI, hc]
        exact wrap_s j (by omega)
    · refine AW.iff false (by simp; omega) (fun h => by cases h) (fun _ => AW.skip ?_)
      refine AW.text teOk (ans := []) (by simp [-Option.some.injEq] <;> rfl) ?_ ?_
      · trivial
      refine ⟨_, _, Weak.normT hA [0, 1, 5, 6] [] [] 0 _ (by simp) (by simp) (by simp), ?_, j + 1, stepI o e, rfl, h, ?_, hr, ?_⟩
      · omega
      · omega
      · simp [stepI, hc]
        exact wrap_s j (by omega)
  · rw [decide_eq_false_iff_not] at h
    rw [List.drop_eq_nil_of_le (by omega)] at hr
    refine AW.st teOk [] (by simp [-Option.some.injEq] <;> rfl) trivial ?_
    refine AW.ret ⟨.inr rfl, _, Weak.refl _, ?_⟩
    simp [hr]
end Go.Proofs.Ytopcklnnkpjanaa.Abs
