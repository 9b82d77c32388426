/- The reference: lists held against each other, one more number put in. -/
import Derived.Test.YtopcklnnkpjanaaWInts
import Derived.Test.YtopcklnnkpjanaaWRef
import Derived.Test.YtopcklnnkpjanaaWLat
namespace Go.Proofs.Ytopcklnnkpjanaa.Abs
open Go Go.RowKit
set_option linter.unusedVariables false
set_option linter.unusedSimpArgs false
set_option maxHeartbeats 4000000
theorem take_eq_step {α : Type} {a b : List α} {j : Nat} {x y : α} (hx : a[j]? = some x) (hy : b[j]? = some y) (ht : a.take j = b.take j) (h : x = y) : a.take (j + 1) = b.take (j + 1) := by
  rw [List.take_add_one, List.take_add_one, hx, hy, ht, h]
theorem eqInts_pure (a b : List Int) (hl : a.length < 1000000000000) : Pure Try.prog 73 [.c (encIs a), .c (encIs b)] (.c (cB (decide (a = b)))) := by
  refine pure_of teOk Try.func73 (by kernel_rfl) (c := _) rfl (N := 26) rfl (rs := [Go.ResultVar.tmp 4]) rfl (by simp) fun base A w0 hA => ?_
  refine AW.st teOk [] (by simp [-Option.some.injEq] <;> rfl) trivial ?_
  refine AW.seq ?_
  refine AW.st teOk [] (by simp [-Option.some.injEq] <;> rfl) trivial ?_
  by_cases hlen : a.length = b.length
  · refine AW.iff false (by simp [hlen]) (fun h => by cases h) (fun _ => AW.skip ?_)
    refine AW.seq ?_
    refine AW.st teOk [] (by simp [-Option.some.injEq] <;> rfl) trivial ?_
    refine AW.block (AW.loop (fun m s => ∃ j : Nat, m = a.length - j ∧ j ≤ a.length ∧ a.take j = b.take j ∧ s = ⟨[(0, .c (encIs a)), (1, .c (encIs b)), (5, .c (cI j))], [], 0⟩) _ (Weak.normT hA [0, 1, 5] [] [] 0 _ (by simp) (by simp) (by simp)) ⟨0, rfl, Nat.zero_le _, rfl, by simp⟩ ?_)
    rintro m s ⟨j, rfl, hj, ht, rfl⟩
    refine AW.seq ?_
    refine AW.st teOk [] (by simp [-Option.some.injEq] <;> rfl) trivial ?_
    refine AW.iff (decide (j < a.length)) (by simp) (fun h => AW.skip ?_) (fun h => AW.exit (x_then (x_then (blockA_exit ?_))))
    · rw [decide_eq_true_eq] at h
      obtain ⟨x, hx⟩ : ∃ x, a[j]? = some x := ⟨_, List.getElem?_eq_getElem h⟩
      obtain ⟨y, hy⟩ : ∃ y, b[j]? = some y := ⟨_, List.getElem?_eq_getElem (by omega)⟩
      refine AW.seq (AW.block ?_)
      refine AW.dr mixed teOk [] (by simp [hx, hy, -Option.some.injEq] <;> rfl) (by kernel_rfl) (by kernel_rfl) ?_ ?_
      · simp [allP]; omega
      by_cases hxy : x = y
      · refine AW.iff false (by simp [hxy]) (fun h => by cases h) (fun _ => AW.skip ?_)
        refine AW.text teOk (ans := []) (by simp [-Option.some.injEq] <;> rfl) ?_ ?_
        · trivial
        refine ⟨_, _, Weak.normT hA [0, 1, 5] [] [] 0 _ (by simp) (by simp) (by simp), ?_, j + 1, rfl, h, take_eq_step hx hy ht hxy, ?_⟩
        · omega
        · simp
          exact wrap_s j (by omega)
      · refine AW.iff true (by simp [hxy]) (fun _ => ?_) (fun h => by cases h)
        refine AW.st teOk [] (by simp [-Option.some.injEq] <;> rfl) trivial ?_
        refine AW.ret ⟨.inr rfl, _, Weak.refl _, ?_⟩
        have : a ≠ b := fun h => by rw [h, hy] at hx; cases hx; exact hxy rfl
        simp [this]
    · rw [decide_eq_false_iff_not] at h
      obtain rfl : j = a.length := by omega
      rw [List.take_length, hlen, List.take_length] at ht
      refine AW.st teOk [] (by simp [-Option.some.injEq] <;> rfl) trivial ?_
      refine AW.ret ⟨.inr rfl, _, Weak.refl _, ?_⟩
      simp [ht]
  · refine AW.iff true (by simp; omega) (fun _ => ?_) (fun h => by cases h)
    refine AW.st teOk [] (by simp [-Option.some.injEq] <;> rfl) trivial ?_
    refine AW.ret ⟨.inr rfl, _, Weak.refl _, ?_⟩
    have : a ≠ b := fun h => hlen (by rw [h])
    simp [this]
theorem eqVec_pure (a b : V2) (hl : a.length < 1000000000000) : Pure Try.prog 36 [.c (encV a), .c (encV b)] (.c (cB (decide (a = b)))) := by
  refine pure_of teOk Try.func36 (by kernel_rfl) (c := _) rfl (N := 26) rfl (rs := [Go.ResultVar.tmp 4]) rfl (by simp) fun base A w0 hA => ?_
  refine AW.st teOk [] (by simp [-Option.some.injEq] <;> rfl) trivial ?_
  refine AW.seq ?_
  refine AW.st teOk [] (by simp [-Option.some.injEq] <;> rfl) trivial ?_
  by_cases hlen : a.length = b.length
  · refine AW.iff false (by simp [hlen]) (fun h => by cases h) (fun _ => AW.skip ?_)
    refine AW.seq ?_
    refine AW.st teOk [] (by simp [-Option.some.injEq] <;> rfl) trivial ?_
    refine AW.block (AW.loop (fun m s => ∃ j : Nat, m = a.length - j ∧ j ≤ a.length ∧ a.take j = b.take j ∧ s = ⟨[(0, .c (encV a)), (1, .c (encV b)), (5, .c (cI j))], [], 0⟩) _ (Weak.normT hA [0, 1, 5] [] [] 0 _ (by simp) (by simp) (by simp)) ⟨0, rfl, Nat.zero_le _, rfl, by simp⟩ ?_)
    rintro m s ⟨j, rfl, hj, ht, rfl⟩
    refine AW.seq ?_
    refine AW.st teOk [] (by simp [-Option.some.injEq] <;> rfl) trivial ?_
    refine AW.iff (decide (j < a.length)) (by simp) (fun h => AW.skip ?_) (fun h => AW.exit (x_then (x_then (blockA_exit ?_))))
    · rw [decide_eq_true_eq] at h
      obtain ⟨x, hx⟩ : ∃ x, a[j]? = some x := ⟨_, List.getElem?_eq_getElem h⟩
      obtain ⟨y, hy⟩ : ∃ y, b[j]? = some y := ⟨_, List.getElem?_eq_getElem (by omega)⟩
      refine AW.seq (AW.block ?_)
      refine AW.dr mixed teOk [] (by simp [hx, hy, -Option.some.injEq] <;> rfl) (by kernel_rfl) (by kernel_rfl) ?_ ?_
      · simp [allP]; omega
      by_cases hxy : x = y
      · refine AW.iff false (by simp [hxy]) (fun h => by cases h) (fun _ => AW.skip ?_)
        refine AW.text teOk (ans := []) (by simp [-Option.some.injEq] <;> rfl) ?_ ?_
        · trivial
        refine ⟨_, _, Weak.normT hA [0, 1, 5] [] [] 0 _ (by simp) (by simp) (by simp), ?_, j + 1, rfl, h, take_eq_step hx hy ht hxy, ?_⟩
        · omega
        · simp
          exact wrap_s j (by omega)
      · have hne : (x.1 == y.1 && x.2 == y.2) = false := by
          rw [Bool.eq_false_iff]
          intro h
          simp at h
          exact hxy (Prod.ext h.1 h.2)
        refine AW.iff true (by simp; simp at hne; exact Decidable.not_and_iff_or_not.1 fun h => hne h.1 h.2) (fun _ => ?_) (fun h => by cases h)
        refine AW.st teOk [] (by simp [-Option.some.injEq] <;> rfl) trivial ?_
        refine AW.ret ⟨.inr rfl, _, Weak.refl _, ?_⟩
        have : a ≠ b := fun h => by rw [h, hy] at hx; cases hx; exact hxy rfl
        simp [this]
    · rw [decide_eq_false_iff_not] at h
      obtain rfl : j = a.length := by omega
      rw [List.take_length, hlen, List.take_length] at ht
      refine AW.st teOk [] (by simp [-Option.some.injEq] <;> rfl) trivial ?_
      refine AW.ret ⟨.inr rfl, _, Weak.refl _, ?_⟩
      simp [ht]
  · refine AW.iff true (by simp; omega) (fun _ => ?_) (fun h => by cases h)
    refine AW.st teOk [] (by simp [-Option.some.injEq] <;> rfl) trivial ?_
    refine AW.ret ⟨.inr rfl, _, Weak.refl _, ?_⟩
    have : a ≠ b := fun h => hlen (by rw [h])
    simp [this]
theorem rle_pure (a b : V2) (hla : a.length < 1000000000000) (hl : b.length < 1000000000000) : Pure Try.prog 37 [.c (encV a), .c (encV b)] (.c (cB (leI a b))) := by
  refine pure_of teOk Try.func37 (by kernel_rfl) (c := _) rfl (N := 25) rfl (rs := [Go.ResultVar.tmp 4]) rfl (by simp) fun base A w0 hA => ?_
  refine AW.st teOk [] (by simp [-Option.some.injEq] <;> rfl) trivial ?_
  refine AW.seq ?_
  refine AW.st teOk [] (by simp [-Option.some.injEq] <;> rfl) trivial ?_
  refine AW.block (AW.loop (fun m s => ∃ j : Nat, m = a.length - j ∧ j ≤ a.length ∧ leI a b = leI (a.drop j) b ∧ s = ⟨[(0, .c (encV a)), (1, .c (encV b)), (5, .c (cI j))], [], 0⟩) _ (Weak.normT hA [0, 1, 5] [] [] 0 _ (by simp) (by simp) (by simp)) ⟨0, rfl, Nat.zero_le _, rfl, by simp⟩ ?_)
  rintro m s ⟨j, rfl, hj, hle, rfl⟩
  refine AW.seq ?_
  refine AW.st teOk [] (by simp [-Option.some.injEq] <;> rfl) trivial ?_
  refine AW.iff (decide (j < a.length)) (by simp) (fun h => AW.skip ?_) (fun h => AW.exit (x_then (x_then (blockA_exit ?_))))
  · rw [decide_eq_true_eq] at h
    obtain ⟨e, he⟩ : ∃ e, a[j]? = some e := ⟨_, List.getElem?_eq_getElem h⟩
    have hd : a.drop j = e :: a.drop (j + 1) := by
      rw [List.drop_eq_getElem_cons h, (List.getElem?_eq_some_iff.1 he).2]
    refine AW.seq (AW.block ?_)
    refine AW.dr mixed teOk [.c (cI (countI b e.1))] (by simp [he, -Option.some.injEq] <;> rfl) (by kernel_rfl) (by kernel_rfl) ?_ ?_
    · simp [allP]
      exact ⟨by omega, rcount_pure b e.1 hl⟩
    by_cases hc : e.2 > countI b e.1
    · refine AW.iff true (by simp [hc]) (fun _ => ?_) (fun h => by cases h)
      refine AW.st teOk [] (by simp [-Option.some.injEq] <;> rfl) trivial ?_
      refine AW.ret ⟨.inr rfl, _, Weak.refl _, ?_⟩
      rw [hle, hd]
      simp [leI]
      omega
    · refine AW.iff false (by simp; omega) (fun h => by cases h) (fun _ => AW.skip ?_)
      refine AW.text teOk (ans := []) (by simp [-Option.some.injEq] <;> rfl) ?_ ?_
      · trivial
      refine ⟨_, _, Weak.normT hA [0, 1, 5] [] [] 0 _ (by simp) (by simp) (by simp), ?_, j + 1, rfl, h, ?_, ?_⟩
      · omega
      · rw [hle, hd, leI, List.all_cons, decide_eq_true (by omega), Bool.true_and]
        rfl
      · simp
        exact wrap_s j (by omega)
  · rw [decide_eq_false_iff_not] at h
    refine AW.st teOk [] (by simp [-Option.some.injEq] <;> rfl) trivial ?_
    refine AW.ret ⟨.inr rfl, _, Weak.refl _, ?_⟩
    rw [hle, List.drop_eq_nil_of_le (by omega)]
    simp [leI]
def rinsN (a : Int) : Bool → List Int → List Int
  | put, [] => if put = true then [] else [a]
  | put, e :: l => (if put = false ∧ a ≤ e then [a] else []) ++ ((if e = a then [] else [e]) ++ rinsN a (put || decide (a ≤ e)) l)
theorem rinsN_true (a : Int) : ∀ l : List Int, (∀ x ∈ l, x ≠ a) → rinsN a true l = l
  | [], _ => rfl
  | e :: l, h => by
    rw [rinsN, if_neg (by simp), if_neg (h e (by simp)), Bool.true_or, rinsN_true a l fun x hx => h x (by simp [hx])]
    rfl
theorem rins_is (a : Int) : ∀ l : List Int, AscN l → rinsN a false l = insN l a
  | [], _ => by simp [rinsN, insN, hasN, posN]
  | e :: l, h => by
    obtain ⟨h1, h2⟩ := List.pairwise_cons.1 h
    rw [rinsN]
    by_cases hae : a ≤ e
    · have hl : ∀ x ∈ l, x ≠ a := fun x hx => by have := h1 x hx; omega
      rw [if_pos ⟨rfl, hae⟩, decide_eq_true hae, Bool.or_true, rinsN_true a l hl]
      by_cases he : e = a
      · subst he
        simp [insN, hasN]
      · have hh : hasN (e :: l) a = false := by
          simp [hasN, he]
          exact fun x hx => hl x hx
        have hp : posN (e :: l) a = 0 := by
          unfold posN
          rw [List.countP_eq_zero]
          intro x hx
          simp
          rcases List.mem_cons.1 hx with rfl | hx
          · omega
          · have := h1 x hx; omega
        rw [insN, hh, hp, if_neg he]
        rfl
    · have he : e ≠ a := by omega
      rw [if_neg (by simp [hae]), if_neg he, decide_eq_false hae, Bool.or_false, rins_is a l h2]
      have hh : hasN (e :: l) a = hasN l a := by simp [hasN, he]
      have hp : posN (e :: l) a = posN l a + 1 := by
        unfold posN
        rw [List.countP_cons_of_pos (by simp; omega)]
      unfold insN
      rw [hh, hp]
      by_cases hx : hasN l a = true
      · rw [if_pos hx, if_pos hx]; rfl
      · rw [if_neg hx, if_neg hx]; rfl
theorem rins_pure (v : List Int) (a : Int) (hv : AscN v) (hl : v.length < 100000000000) : Pure Try.prog 78 [.c (encIs v), .c (cI a)] (.c (encIs (insN v a))) := by
  rw [← rins_is a v hv]
  refine pure_of teOk Try.func78 (by kernel_rfl) (c := _) rfl (N := 48) rfl (rs := [Go.ResultVar.tmp 4]) rfl (by simp) fun base A w0 hA => ?_
  refine AW.st teOk [] (by simp [-Option.some.injEq] <;> rfl) trivial ?_
  refine AW.st teOk [] (by simp [-Option.some.injEq] <;> rfl) trivial ?_
  refine AW.weak (Weak.nil 5 1 _ (by simp <;> rfl)) ?_
  refine AW.st teOk [] (by simp [-Option.some.injEq] <;> rfl) trivial ?_
  refine AW.seq ?_
  refine AW.st teOk [] (by simp [-Option.some.injEq] <;> rfl) trivial ?_
  refine AW.block (AW.loop (fun m s => ∃ j o put, m = v.length - j ∧ j ≤ v.length ∧ o.length ≤ 2 * j ∧ rinsN a false v = o ++ rinsN a put (v.drop j) ∧ s = ⟨[(0, .c (encIs v)), (1, .c (cI a)), (5, .c (.ref 0 0 o.length)), (6, .c (cB put)), (7, .c (cI j))], [(0, ⟨1, o.map encn⟩)], 1⟩) _ (Weak.normT hA [0, 1, 5, 6, 7] [(5, 0)] [] 1 _ (by simp) (by simp) (by simp)) ⟨0, [], false, rfl, Nat.zero_le _, by simp, rfl, by simp⟩ ?_)
  rintro m s ⟨j, o, put, rfl, hj, ho, hw, rfl⟩
  refine AW.seq ?_
  refine AW.st teOk [] (by simp [-Option.some.injEq] <;> rfl) trivial ?_
  refine AW.iff (decide (j < v.length)) (by simp) (fun h => AW.skip ?_) (fun h => AW.exit (x_then (x_then (blockA_exit ?_))))
  · rw [decide_eq_true_eq] at h
    obtain ⟨e, he⟩ : ∃ e, v[j]? = some e := ⟨_, List.getElem?_eq_getElem h⟩
    have hd : v.drop j = e :: v.drop (j + 1) := by
      rw [List.drop_eq_getElem_cons h, (List.getElem?_eq_some_iff.1 he).2]
    refine AW.seq (AW.block ?_)
    rw [hd, rinsN] at hw
    refine AW.mid (fun s => ∃ o', o' = o ++ (if put = false ∧ a ≤ e then [a] else []) ∧ s = ⟨[(0, .c (encIs v)), (1, .c (cI a)), (5, .c (.ref 0 0 o'.length)), (6, .c (cB (put || decide (a ≤ e)))), (7, .c (cI j))], [(0, ⟨1, o'.map encn⟩)], 1⟩) ?_ ?_
    · cases put with
      | true =>
        refine AW.st teOk [] (by simp [-Option.some.injEq] <;> rfl) trivial ?_
        exact AW.iff false (by simp) (fun h => by cases h) (fun _ => AW.skip ⟨_, Weak.normT hA [0, 1, 5, 6, 7] [(5, 0)] [] 1 _ (by simp) (by simp) (by simp), o, by simp, by simp⟩)
      | false =>
        refine AW.st teOk [] (by simp [he, -Option.some.injEq] <;> rfl) ?_ ?_
        · first | trivial | omega | (simp [allP, growOk] <;> omega)
        by_cases hge : a ≤ e
        · refine AW.iff true (by simp [hge]) (fun _ => ?_) (fun h => by cases h)
          refine AW.st teOk [] (by simp [-Option.some.injEq] <;> rfl) ?_ ?_
          · simp [growOk]
            omega
          refine AW.text teOk (ans := []) (by simp [-Option.some.injEq] <;> rfl) ?_ ?_
          · trivial
          exact ⟨_, Weak.normT hA [0, 1, 5, 6, 7] [(5, 0)] [] 1 _ (by simp) (by simp) (by simp), o ++ [a], by simp [hge], by simp [hge]⟩
        · refine AW.iff false (by simp; omega) (fun h => by cases h) (fun _ => AW.skip ?_)
          exact ⟨_, Weak.normT hA [0, 1, 5, 6, 7] [(5, 0)] [] 1 _ (by simp) (by simp) (by simp), o, by simp [hge], by simp [hge]⟩
    · rintro s ⟨o', ho', rfl⟩
      have ho2 : o'.length ≤ 2 * j + 1 := by
        rw [ho', List.length_append]
        split <;> simp <;> omega
      refine AW.st teOk [] (by simp [he, -Option.some.injEq] <;> rfl) ?_ ?_
      · first | trivial | omega | (simp [allP, growOk] <;> omega)
      by_cases hne : e = a
      · refine AW.iff false (by simp [hne]) (fun h => by cases h) (fun _ => AW.skip ?_)
        refine AW.text teOk (ans := []) (by simp [-Option.some.injEq] <;> rfl) ?_ ?_
        · trivial
        refine ⟨_, _, Weak.normT hA [0, 1, 5, 6, 7] [(5, 0)] [] 1 _ (by simp) (by simp) (by simp), ?_, j + 1, o', put || decide (a ≤ e), rfl, h, ?_, ?_, ?_⟩
        · omega
        · omega
        · rw [hw, ho', if_pos hne, List.append_assoc]; rfl
        · simp
          exact wrap_s j (by omega)
      · refine AW.iff true (by simp [hne]) (fun _ => ?_) (fun h => by cases h)
        refine AW.text teOk (ans := []) (by simp [he, -Option.some.injEq] <;> rfl) ?_ ?_
        · simp [growOk]
          omega
        refine AW.text teOk (ans := []) (by simp [-Option.some.injEq] <;> rfl) ?_ ?_
        · trivial
        refine ⟨_, _, Weak.normT hA [0, 1, 5, 6, 7] [(5, 0)] [] 1 _ (by simp) (by simp) (by simp), ?_, j + 1, o' ++ [e], put || decide (a ≤ e), rfl, h, ?_, ?_, ?_⟩
        · omega
        · simp; omega
        · rw [hw, ho', if_neg hne, List.append_assoc, List.append_assoc]
        · simp
          exact wrap_s j (by omega)
  · rw [decide_eq_false_iff_not] at h
    have hjl : j = v.length := by omega
    subst hjl
    rw [List.drop_length, rinsN] at hw
    refine AW.mid (fun s => ∃ o', o' = rinsN a false v ∧ s = ⟨[(5, .c (.ref 0 0 o'.length))], [(0, ⟨1, o'.map encn⟩)], 1⟩) ?_ ?_
    · cases put with
      | true =>
        refine AW.st teOk [] (by simp [-Option.some.injEq] <;> rfl) trivial ?_
        exact AW.iff false (by simp) (fun h => by cases h) (fun _ => AW.skip ⟨_, Weak.normT hA [5] [(5, 0)] [] 1 _ (by simp) (by simp) (by simp), o, by simpa using hw.symm, by simp⟩)
      | false =>
        refine AW.st teOk [] (by simp [-Option.some.injEq] <;> rfl) trivial ?_
        refine AW.iff true (by simp) (fun _ => ?_) (fun h => by cases h)
        refine AW.text teOk (ans := []) (by simp [-Option.some.injEq] <;> rfl) ?_ ?_
        · simp [growOk]
          omega
        exact ⟨_, Weak.normT hA [5] [(5, 0)] [] 1 _ (by simp) (by simp) (by simp), o ++ [a], by simpa using hw.symm, by simp⟩
    · rintro s ⟨o', rfl, rfl⟩
      refine AW.st teOk [] (by simp [-Option.some.injEq] <;> rfl) trivial ?_
      refine AW.ret ⟨.inr rfl, _, Weak.frzT 4 [] _ (by simp <;> exact ⟨rfl, rfl, rfl⟩) (by simp <;> rfl) (flat_encn _), ?_⟩
      simp
end Go.Proofs.Ytopcklnnkpjanaa.Abs
