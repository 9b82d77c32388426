/- Agreement: the laws' inputs; the fixed example. -/
import Derived.Test.YtopcklnnkpjanaaWAgr12
import Derived.Test.YtopcklnnkpjanaaWBase
namespace Go.Proofs.Ytopcklnnkpjanaa.Abs
open Go Go.RowKit
set_option linter.unusedVariables false
set_option linter.unusedSimpArgs false
set_option maxHeartbeats 4000000
/-- An empty literal in a slot: an object without elements. -/
theorem Weak.emp {A : Old} (t k : Nat) (s : St) (ht : look t s.τ = some (.c (.row k true []))) : Weak A s ⟨putT t (.c (.ref s.fr 0 0)) s.τ, putA s.fr ⟨k, []⟩ s.σ, s.fr + 1⟩ := fun base w0 n β a w I => by
  obtain ⟨I', hle, hok, hfr⟩ := virt_inv I k
  refine ⟨_, I', I.defers, I.size, fun u x hx => ?_, hfr, I.ext.step hle fun x hx => ⟨hok x hx, rfl⟩⟩
  have hx' : look u (putT t (.c (.ref s.fr 0 0)) s.τ) = some x := hx
  rw [look_putT] at hx'
  split at hx'
  · rename_i e
    cases hx'
    subst e
    obtain ⟨y, hy, hr⟩ := I.tmps _ _ ht
    cases hr with
    | c hr =>
    cases hr with
    | fz hr =>
    cases hr with
    | row vs h1 h2 h3 h4 h5 h6 =>
    have hc := h2 rfl
    subst hc
    exact ⟨_, hy, .c (.refv (updB_self _ _ _))⟩
  · obtain ⟨y, hy, hr⟩ := I.tmps u x hx'
    exact ⟨y, hy, hr.mono (fun b hb => ⟨hok b hb, rfl⟩) hle⟩
theorem index_lt (x : Int) {k : Int} (hk : 0 < k) (hk2 : k < 4000000000000000000) : 0 ≤ indexI x k ∧ indexI x k < k := by
  unfold indexI
  rw [if_neg (by omega)]
  have h1 := Int.tmod_lt_of_pos x hk
  have h2 := Int.lt_tmod_of_pos x hk
  have hw : IntKind.i64.wrap (x.tmod k + k) = x.tmod k + k := by rw [IntKind.wrap_i64]; omega
  rw [hw]
  exact ⟨Int.tmod_nonneg _ (by omega), Int.tmod_lt_of_pos _ (by omega)⟩
theorem digX_nn {b x : Int} (hb : 1 ≤ b) (hx : 0 ≤ x ∧ x < 1099511627776) : ∀ j, 0 ≤ digX b x j ∧ digX b x j < 1099511627776
  | 0 => hx
  | j + 1 => by
    obtain ⟨h1, h2⟩ := digX_nn hb hx j
    have h3 : 0 ≤ (digX b x j).tdiv b := Int.tdiv_nonneg h1 (by omega)
    have h4 : (digX b x j).tdiv b ≤ digX b x j := by
      rw [Int.tdiv_eq_ediv_of_nonneg h1]
      exact Int.ediv_le_self _ h1
    have h5 : IntKind.i64.wrap ((digX b x j).tdiv b) = (digX b x j).tdiv b := by rw [IntKind.wrap_i64]; omega
    unfold digX
    rw [h5]
    omega
theorem digit_lt (x : Int) {b : Int} (hb : 1 ≤ b) (i : Nat) : 0 ≤ digitI x b i ∧ digitI x b i < b := by
  unfold digitI
  have h := digX_nn hb (index_lt x (k := 1099511627776) (by omega) (by omega)) i
  exact ⟨Int.tmod_nonneg _ h.1, Int.tmod_lt_of_pos _ (by omega)⟩
def atI (l : List Int) (i : Int) : Int := (l[(indexI i l.length).toNat]?).getD 0
theorem at_pure (l : List Int) (i : Int) (hl : l.length < 4000000000000000000) : Pure Try.prog 46 [.c (encIs l), .c (cI i)] (.c (cI (atI l i))) := by
  unfold atI
  refine pure_of teOk Try.func46 (by kernel_rfl) (c := _) rfl (N := 15) rfl (rs := [Go.ResultVar.tmp 4]) rfl (by simp) fun base A w0 hA => ?_
  refine AW.st teOk [] (by simp [-Option.some.injEq] <;> rfl) trivial ?_
  refine AW.seq ?_
  refine AW.st teOk [] (by simp [-Option.some.injEq] <;> rfl) trivial ?_
  by_cases h0 : l.length = 0
  · refine AW.iff true (by simp [h0]) (fun _ => ?_) (fun h => by cases h)
    refine AW.st teOk [] (by simp [-Option.some.injEq] <;> rfl) trivial ?_
    refine AW.ret ⟨.inr rfl, _, Weak.refl _, ?_⟩
    have : l = [] := List.eq_nil_of_length_eq_zero h0
    subst this
    simp
  · refine AW.iff false (by simp; intro e; exact h0 (by rw [e]; rfl)) (fun h => by cases h) (fun _ => AW.skip ?_)
    have hi := index_lt i (k := l.length) (by omega) (by omega)
    have hip := index_pure i l.length
    obtain ⟨j, hj⟩ : ∃ j : Nat, indexI i l.length = j := ⟨(indexI i l.length).toNat, by omega⟩
    rw [hj] at hip hi ⊢
    obtain ⟨x, hx⟩ : ∃ x, l[j]? = some x := ⟨_, List.getElem?_eq_getElem (by omega)⟩
    rw [Int.toNat_natCast, hx]
    refine AW.st teOk [.fz (.c (cI j))] (by simp [hx, -Option.some.injEq] <;> rfl) ?_ ?_
    · exact ⟨hip, by omega⟩
    refine AW.ret ⟨.inr rfl, _, Weak.refl _, ?_⟩
    simp
theorem index_pure' (x k : Int) : Pure Try.prog 59 [.c (cI x), .c (cI k)] (.c (cI (indexI x k))) := index_pure x k
theorem digit_pure' (x b : Int) (i : Nat) (hb : b ≠ 0) (hi : i < 1000) : Pure Try.prog 45 [.c (cI x), .c (cI b), .c (cI i)] (.c (cI (digitI x b i))) := digit_pure x b i hb hi
def sizeN (l : List Int) : Nat := (1 + digitI (atI l 0) 5 3).toNat
theorem size_is (l : List Int) : (sizeN l : Int) = 1 + digitI (atI l 0) 5 3 ∧ 1 ≤ sizeN l ∧ sizeN l ≤ 5 := by
  have := digit_lt (atI l 0) (b := 5) (by omega) 3
  unfold sizeN
  omega
theorem size_pure (l : List Int) (hl : l.length < 4000000000000000000) : Pure Try.prog 54 [.c (encIs l)] (.c (cI (sizeN l))) := by
  obtain ⟨h1, h2⟩ := size_is l
  have hd := digit_lt (atI l 0) (b := 5) (by omega) 3
  have hw : IntKind.i64.wrap (1 + digitI (atI l 0) 5 3) = sizeN l := by rw [← h1, IntKind.wrap_i64]; omega
  refine pure_of teOk Try.func54 (by kernel_rfl) (c := _) rfl (N := 7) rfl (rs := [Go.ResultVar.tmp 2]) rfl (by simp) fun base A w0 hA => ?_
  refine AW.st teOk [] (by simp [-Option.some.injEq] <;> rfl) trivial ?_
  refine AW.st teOk [.fz (.c (cI (atI l 0))), .fz (.c (cI (digitI (atI l 0) 5 3)))] (by simp [-Option.some.injEq] <;> rfl) ?_ ?_
  · exact ⟨at_pure l 0 hl, digit_pure' _ 5 3 (by omega) (by omega)⟩
  refine AW.ret ⟨.inr rfl, _, Weak.refl _, ?_⟩
  simp [hw]
def vecTo (l : List Int) (i k : Nat) : Nat → V2
  | 0 => []
  | a + 1 => if digitI (atI l (5 + 3 * i + k)) 4 a > 0 then vecTo l i k a ++ [((a : Int) + 1, digitI (atI l (5 + 3 * i + k)) 4 a)] else vecTo l i k a
def insTo (l : List Int) (i : Nat) : Nat → List V2
  | 0 => []
  | k + 1 => insTo l i k ++ [vecTo l i k 4]
def manyN (l : List Int) (i : Nat) : Nat := (digitI (atI l (1 + i)) 4 0).toNat
def allTo (l : List Int) : Nat → List (List V2)
  | 0 => []
  | i + 1 => allTo l i ++ [insTo l i (manyN l i)]
def propN (l : List Int) : Nat := (1 + digitI (atI l 0) 4 0).toNat
def inputsI (l : List Int) : List (List V2) := allTo l (propN l)
theorem vecTo_ok (l : List Int) (i k : Nat) : ∀ a : Nat, a ≤ 4 → V4 (vecTo l i k a) ∧ (∀ e ∈ vecTo l i k a, e.1 ≤ a) ∧ (vecTo l i k a).length ≤ a
  | 0, _ => ⟨V4.nil, (fun e he => by cases he), Nat.le_refl _⟩
  | a + 1, ha => by
    obtain ⟨h1, h2, h3⟩ := vecTo_ok l i k a (by omega)
    have hd := digit_lt (atI l (5 + 3 * i + k)) (b := 4) (by omega) a
    unfold vecTo
    split
    · rename_i hp
      generalize digitI (atI l (5 + 3 * i + k)) 4 a = d at *
      generalize vecTo l i k a = v at *
      have hc : ∀ x, cnt (v ++ [((a : Int) + 1, d)]) x = if x = (a : Int) + 1 then d else cnt v x := fun x => by
        clear h1 h3
        induction v with
        | nil => simp only [List.nil_append, cnt]; split <;> split <;> first | rfl | omega
        | cons e v ih =>
          have := h2 e (by simp)
          rw [List.cons_append, cnt_cons, cnt_cons, ih fun e he => h2 e (by simp [he])]
          split
          · rw [if_neg (by omega)]
          · rfl
      refine ⟨⟨⟨fun e he => ?_, ?_⟩, fun x => ?_, fun x hx => ?_⟩, fun e he => ?_, by simp; omega⟩
      · rcases List.mem_append.1 he with he | he
        · exact h1.val.1 e he
        · rw [List.mem_singleton.1 he]
          exact ⟨by show (1 : Int) ≤ a + 1; omega, by show 1 ≤ d; omega, by show d ≤ _; omega⟩
      · refine List.pairwise_append.2 ⟨h1.val.2, List.pairwise_singleton _ _, fun e he f hf => ?_⟩
        rw [List.mem_singleton.1 hf]
        have := h2 e he
        show e.1 < (a : Int) + 1
        omega
      · rw [hc]
        split
        · omega
        · exact h1.c x
      · rw [hc, if_neg (by omega)]
        exact h1.a x hx
      · rcases List.mem_append.1 he with he | he
        · have := h2 e he
          omega
        · rw [List.mem_singleton.1 he]
          show (a : Int) + 1 ≤ _
          omega
    · exact ⟨h1, fun e he => by have := h2 e he; omega, by omega⟩
theorem insTo_ok (l : List Int) (i : Nat) : ∀ k : Nat, (insTo l i k).length = k ∧ ∀ v ∈ insTo l i k, V4 v
  | 0 => ⟨rfl, (fun v hv => by cases hv)⟩
  | k + 1 => by
    obtain ⟨h1, h2⟩ := insTo_ok l i k
    unfold insTo
    refine ⟨by simp [h1], fun v hv => ?_⟩
    rcases List.mem_append.1 hv with hv | hv
    · exact h2 v hv
    · rw [List.mem_singleton.1 hv]
      exact (vecTo_ok l i k 4 (by omega)).1
theorem many_is (l : List Int) (i : Nat) : (manyN l i : Int) = digitI (atI l (1 + i)) 4 0 ∧ manyN l i ≤ 3 := by
  have := digit_lt (atI l (1 + i)) (b := 4) (by omega) 0
  unfold manyN
  omega
theorem prop_is (l : List Int) : (propN l : Int) = 1 + digitI (atI l 0) 4 0 ∧ propN l ≤ 4 ∧ 1 ≤ propN l := by
  have := digit_lt (atI l 0) (b := 4) (by omega) 0
  unfold propN
  omega
theorem allTo_ok (l : List Int) : ∀ i : Nat, (allTo l i).length = i ∧ ∀ x ∈ allTo l i, x.length ≤ 3 ∧ ∀ v ∈ x, V4 v
  | 0 => ⟨rfl, (fun v hv => by cases hv)⟩
  | i + 1 => by
    obtain ⟨h1, h2⟩ := allTo_ok l i
    unfold allTo
    refine ⟨by simp [h1], fun v hv => ?_⟩
    rcases List.mem_append.1 hv with hv | hv
    · exact h2 v hv
    · rw [List.mem_singleton.1 hv]
      obtain ⟨h3, h4⟩ := insTo_ok l i (manyN l i)
      have := (many_is l i).2
      exact ⟨by omega, h4⟩
theorem inputs_ok (l : List Int) : InsOk (inputsI l) := ⟨by have := (allTo_ok l (propN l)).1; have := (prop_is l).2.1; unfold inputsI; omega, (allTo_ok l (propN l)).2⟩
theorem inputs_pure (l : List Int) (hl : l.length < 4000000000000000000) : Pure Try.prog 44 [.c (encIs l)] (.c (.row 1 false ((inputsI l).map encIn))) := by
  obtain ⟨hn1, hn2, hn3⟩ := prop_is l
  have hwn : IntKind.i64.wrap (1 + digitI (atI l 0) 4 0) = propN l := by rw [← hn1, IntKind.wrap_i64]; omega
  refine pure_of teOk Try.func44 (by kernel_rfl) (c := _) rfl (N := 59) rfl (rs := [Go.ResultVar.tmp 2]) rfl (by simp) fun base A w0 hA => ?_
  refine AW.st teOk [] (by simp [-Option.some.injEq] <;> rfl) trivial ?_
  refine AW.st teOk [] (by simp [-Option.some.injEq] <;> rfl) trivial ?_
  refine AW.weak (Weak.nil 3 1 _ (by simp <;> rfl)) (AW.seq ?_)
  refine AW.st teOk [] (by simp [-Option.some.injEq] <;> rfl) trivial ?_
  refine AW.block (AW.loop (fun m s => ∃ i : Nat, i ≤ propN l ∧ m = propN l - i ∧ s = ⟨[(0, .c (encIs l)), (3, .c (.ref 0 0 i)), (4, .c (cI i))], [(0, ⟨1, (allTo l i).map encIn⟩)], 1⟩) _ (Weak.normS hA [0, 3, 4] [(3, 0)] [] [] 1 _ (by simp) (by simp) (by simp)) ⟨0, Nat.zero_le _, rfl, by simp [allTo]⟩ ?_)
  rintro m s ⟨i, hi, rfl, rfl⟩
  have hal := (allTo_ok l i).1
  refine AW.seq ?_
  refine AW.st teOk [.fz (.c (cI (atI l 0))), .fz (.c (cI (digitI (atI l 0) 4 0)))] (by simp [hwn, -Option.some.injEq] <;> rfl) ?_ ?_
  · exact ⟨at_pure l 0 hl, digit_pure' _ 4 0 (by omega) (by omega)⟩
  refine AW.iff (decide (i < propN l)) (by simp) (fun h => AW.skip ?_) (fun h => AW.exit (x_then (x_then (blockA_exit ?_))))
  · rw [decide_eq_true_eq] at h
    have hinc : IntKind.i64.wrap ((i : Int) + 1) = (i : Int) + 1 := wrap_s _ (by omega)
    have hall : allTo l (i + 1) = allTo l i ++ [insTo l i (manyN l i)] := rfl
    generalize allTo l i = A0 at *
    refine AW.mid (fun s => s = ⟨[(0, .c (encIs l)), (3, .c (.ref 0 0 (i + 1))), (4, .c (cI i))], [(0, ⟨1, (allTo l (i + 1)).map encIn⟩)], 1⟩) (AW.block ?_) ?_
    · refine AW.st teOk [] (by simp [-Option.some.injEq] <;> rfl) trivial ?_
      refine AW.weak (Weak.nil 5 1 _ (by simp <;> rfl)) ?_
      obtain ⟨hm1, hm2⟩ := many_is l i
      refine AW.mid (fun s => s = ⟨[(0, .c (encIs l)), (3, .c (.ref 0 0 i)), (4, .c (cI i)), (5, .c (encVs (insTo l i (manyN l i))))], [(0, ⟨1, A0.map encIn⟩)], 1⟩) ?_ ?_
      · refine AW.st teOk [] (by simp [-Option.some.injEq] <;> rfl) trivial ?_
        refine AW.block (AW.loop (fun m s => ∃ k : Nat, k ≤ manyN l i ∧ m = manyN l i - k ∧ s = ⟨[(0, .c (encIs l)), (3, .c (.ref 0 0 i)), (4, .c (cI i)), (5, .c (.ref 1 0 k)), (6, .c (cI k))], [(0, ⟨1, A0.map encIn⟩), (1, ⟨1, (insTo l i k).map encC⟩)], 2⟩) _ (Weak.normS hA [0, 3, 4, 5, 6] [(3, 0), (5, 1)] [] [] 2 _ (by simp) (by simp) (by simp)) ⟨0, Nat.zero_le _, rfl, by simp [insTo]⟩ ?_)
        rintro m s ⟨k, hk, rfl, rfl⟩
        have hil := (insTo_ok l i k).1
        have hw1 : IntKind.i64.wrap (1 + (i : Int)) = 1 + (i : Int) := by rw [IntKind.wrap_i64]; omega
        refine AW.seq ?_
        refine AW.st teOk [.fz (.c (cI (atI l (1 + i)))), .fz (.c (cI (digitI (atI l (1 + i)) 4 0)))] (by simp [hw1, ← hm1, -Option.some.injEq] <;> rfl) ?_ ?_
        · exact ⟨at_pure l _ hl, by rw [hm1]; exact digit_pure' _ 4 0 (by omega) (by omega)⟩
        refine AW.iff (decide (k < manyN l i)) (by simp) (fun h => AW.skip ?_) (fun h => AW.exit (x_then (x_then (blockA_exit ?_))))
        · rename_i h2
          rw [decide_eq_true_eq] at h
          have hinck : IntKind.i64.wrap ((k : Int) + 1) = (k : Int) + 1 := wrap_s _ (by omega)
          have hins : insTo l i (k + 1) = insTo l i k ++ [vecTo l i k 4] := rfl
          generalize insTo l i k = A1 at *
          refine AW.mid (fun s => s = ⟨[(0, .c (encIs l)), (3, .c (.ref 0 0 i)), (4, .c (cI i)), (5, .c (.ref 1 0 (k + 1))), (6, .c (cI k))], [(0, ⟨1, A0.map encIn⟩), (1, ⟨1, (insTo l i (k + 1)).map encC⟩)], 2⟩) (AW.block ?_) ?_
          · refine AW.st teOk [] (by simp [-Option.some.injEq] <;> rfl) trivial ?_
            refine AW.weak (Weak.emp 7 2 _ (by simp <;> rfl)) ?_
            refine AW.mid (fun s => s = ⟨[(0, .c (encIs l)), (3, .c (.ref 0 0 i)), (4, .c (cI i)), (5, .c (.ref 1 0 k)), (6, .c (cI k)), (7, .c (encV (vecTo l i k 4)))], [(0, ⟨1, A0.map encIn⟩), (1, ⟨1, A1.map encC⟩)], 2⟩) ?_ ?_
            · refine AW.st teOk [] (by simp [-Option.some.injEq] <;> rfl) trivial ?_
              refine AW.block (AW.loop (fun m s => ∃ a : Nat, a ≤ 4 ∧ m = 4 - a ∧ s = ⟨[(0, .c (encIs l)), (3, .c (.ref 0 0 i)), (4, .c (cI i)), (5, .c (.ref 1 0 k)), (6, .c (cI k)), (7, .c (.ref 2 0 (vecTo l i k a).length)), (8, .c (cI a))], [(0, ⟨1, A0.map encIn⟩), (1, ⟨1, A1.map encC⟩), (2, ⟨2, (vecTo l i k a).map encE⟩)], 3⟩) _ (Weak.normS hA [0, 3, 4, 5, 6, 7, 8] [(3, 0), (5, 1), (7, 2)] [] [] 3 _ (by simp) (by simp) (by simp)) ⟨0, Nat.zero_le _, rfl, by simp [vecTo]⟩ ?_)
              rintro m s ⟨a, ha, rfl, rfl⟩
              obtain ⟨_, _, hvl⟩ := vecTo_ok l i k a ha
              have hw2 : IntKind.i64.wrap (3 * (i : Int)) = 3 * (i : Int) := by rw [IntKind.wrap_i64]; omega
              have hw3 : IntKind.i64.wrap (5 + 3 * (i : Int)) = 5 + 3 * (i : Int) := by rw [IntKind.wrap_i64]; omega
              have hw4 : IntKind.i64.wrap (5 + 3 * (i : Int) + (k : Int)) = 5 + 3 * (i : Int) + (k : Int) := by rw [IntKind.wrap_i64]; omega
              refine AW.seq ?_
              refine AW.st teOk [] (by simp [-Option.some.injEq] <;> rfl) trivial ?_
              refine AW.iff (decide (a < 4)) (by simp <;> omega) (fun h => AW.skip ?_) (fun h => AW.exit (x_then (x_then (blockA_exit ?_))))
              · rename_i h3
                rw [decide_eq_true_eq] at h
                have hinca : IntKind.i64.wrap ((a : Int) + 1) = (a : Int) + 1 := wrap_s _ (by omega)
                have hvec : vecTo l i k (a + 1) = if digitI (atI l (5 + 3 * i + k)) 4 a > 0 then vecTo l i k a ++ [((a : Int) + 1, digitI (atI l (5 + 3 * i + k)) 4 a)] else vecTo l i k a := rfl
                have hdp := digit_pure' (atI l (5 + 3 * i + k)) 4 a (by omega) (by omega)
                generalize vecTo l i k a = v at *
                generalize digitI (atI l (5 + 3 * i + k)) 4 a = d at *
                refine AW.mid (fun s => s = ⟨[(0, .c (encIs l)), (3, .c (.ref 0 0 i)), (4, .c (cI i)), (5, .c (.ref 1 0 k)), (6, .c (cI k)), (7, .c (.ref 2 0 (vecTo l i k (a + 1)).length)), (8, .c (cI a))], [(0, ⟨1, A0.map encIn⟩), (1, ⟨1, A1.map encC⟩), (2, ⟨2, (vecTo l i k (a + 1)).map encE⟩)], 3⟩) (AW.block ?_) ?_
                · refine AW.st teOk [.fz (.c (cI (atI l (5 + 3 * i + k)))), .fz (.c (cI d))] (by simp [hw2, hw3, hw4, -Option.some.injEq] <;> rfl) ?_ ?_
                  · exact ⟨at_pure l _ hl, hdp⟩
                  refine AW.st teOk [] (by simp [-Option.some.injEq] <;> rfl) trivial ?_
                  by_cases hd : d > 0
                  · refine AW.iff true (by simp; omega) (fun _ => ?_) (fun h => by cases h)
                    rw [hvec, if_pos hd]
                    refine AW.text teOk (ans := []) (by simp [hinca, -Option.some.injEq] <;> rfl) ?_ ?_
                    · simp [growOk]
                      omega
                    exact ⟨_, Weak.normS hA [0, 3, 4, 5, 6, 7, 8] [(3, 0), (5, 1), (7, 2)] [] [] 3 _ (by simp) (by simp) (by simp), by simp⟩
                  · refine AW.iff false (by simp; omega) (fun h => by cases h) (fun _ => AW.skip ?_)
                    rw [hvec, if_neg hd]
                    exact ⟨_, Weak.normS hA [0, 3, 4, 5, 6, 7, 8] [(3, 0), (5, 1), (7, 2)] [] [] 3 _ (by simp) (by simp) (by simp), by simp⟩
                rintro s rfl
                refine AW.text teOk (ans := []) (by simp [-Option.some.injEq] <;> rfl) ?_ ?_
                · trivial
                refine ⟨_, _, Weak.normS hA [0, 3, 4, 5, 6, 7, 8] [(3, 0), (5, 1), (7, 2)] [] [] 3 _ (by simp) (by simp) (by simp), ?_, a + 1, h, rfl, ?_⟩
                · omega
                · simp [hinca]
              have hend : a = 4 := by
                rw [decide_eq_false_iff_not] at h
                omega
              subst hend
              exact ⟨_, (Weak.frzT 7 [] _ (by simp <;> exact ⟨rfl, rfl, rfl⟩) (by simp <;> rfl) (by simp)).trans (Weak.normS hA [0, 3, 4, 5, 6, 7] [(3, 0), (5, 1)] [] [] 2 _ (by simp) (by simp) (by simp)), by simp⟩
            rintro s rfl
            refine AW.text teOk (ans := []) (by simp [-Option.some.injEq] <;> rfl) ?_ ?_
            · simp [growOk]
              omega
            exact ⟨_, Weak.normS hA [0, 3, 4, 5, 6] [(3, 0), (5, 1)] [] [] 2 _ (by simp) (by simp) (by simp), by simp [hins, hil]⟩
          rintro s rfl
          refine AW.text teOk (ans := []) (by simp [-Option.some.injEq] <;> rfl) ?_ ?_
          · trivial
          refine ⟨_, _, Weak.normS hA [0, 3, 4, 5, 6] [(3, 0), (5, 1)] [] [] 2 _ (by simp) (by simp) (by simp), ?_, k + 1, h, rfl, ?_⟩
          · omega
          · simp [hinck]
        have hend : k = manyN l i := by
          rw [decide_eq_false_iff_not] at h
          omega
        subst hend
        have htk : ((insTo l i (manyN l i)).map encC).take (manyN l i) = (insTo l i (manyN l i)).map encC := List.take_of_length_le (by rw [List.length_map, hil]; exact Nat.le_refl _)
        exact ⟨_, (Weak.frzT 5 [] _ (by simp <;> exact ⟨rfl, rfl, rfl⟩) (by simp <;> rfl) (by simp)).trans (Weak.normS hA [0, 3, 4, 5] [(3, 0)] [] [] 1 _ (by simp) (by simp) (by simp)), by simp [hil, htk]⟩
      rintro s rfl
      refine AW.text teOk (ans := []) (by simp [-Option.some.injEq] <;> rfl) ?_ ?_
      · simp [growOk]
        omega
      exact ⟨_, Weak.normS hA [0, 3, 4] [(3, 0)] [] [] 1 _ (by simp) (by simp) (by simp), by simp [hall, hal]⟩
    rintro s rfl
    refine AW.text teOk (ans := []) (by simp [-Option.some.injEq] <;> rfl) ?_ ?_
    · trivial
    refine ⟨_, _, Weak.normS hA [0, 3, 4] [(3, 0)] [] [] 1 _ (by simp) (by simp) (by simp), ?_, i + 1, h, rfl, ?_⟩
    · omega
    · simp [hinc]
  have hend : i = propN l := by
    rw [decide_eq_false_iff_not] at h
    omega
  subst hend
  have htk : ((allTo l (propN l)).map encIn).take (propN l) = (allTo l (propN l)).map encIn := List.take_of_length_le (by rw [List.length_map, hal]; exact Nat.le_refl _)
  refine AW.st teOk [] (by simp [-Option.some.injEq] <;> rfl) trivial ?_
  refine AW.ret ⟨.inr rfl, _, Weak.frzT 2 [] _ (by simp <;> exact ⟨rfl, rfl, rfl⟩) (by simp <;> rfl) (by simp), ?_⟩
  simp [inputsI, hal, htk]
def awI : List (List V2) := [[[(1, 1)]], [[(2, 1)]]]
def awI1 : List (List V2) := [[[(1, 1)]]]
def awG : GrS := drainS 700 (newG 3 awI)
theorem awG_is : awG.decs.length = 2 ∧ awG.pks.length = 0 ∧ awG.accs.length = 3 := by decide +kernel
theorem aw_ok : InsOk awI := by
  have one : ∀ a : Int, 1 ≤ a ∧ a ≤ 4 → V4 [(a, 1)] := fun a ha => ⟨⟨fun e he => by rw [List.mem_singleton.1 he]; exact ⟨by show 1 ≤ a; omega, by show (1 : Int) ≤ 1; omega, by show (1 : Int) ≤ _; omega⟩, List.pairwise_singleton _ _⟩, fun x => by simp only [cnt]; split <;> omega, fun x hx => by simp only [cnt]; rw [if_neg (by omega)]; omega⟩
  refine ⟨by decide, fun l hl => ?_⟩
  unfold awI at hl
  simp only [List.mem_cons, List.not_mem_nil, or_false] at hl
  rcases hl with rfl | rfl
  · exact ⟨by decide, fun v hv => by rw [List.mem_singleton.1 hv]; exact one 1 (by omega)⟩
  · exact ⟨by decide, fun v hv => by rw [List.mem_singleton.1 hv]; exact one 2 (by omega)⟩
theorem aw_ok1 : InsOk awI1 := ⟨by decide, fun l hl => aw_ok.all l (by unfold awI1 at hl; rw [List.mem_singleton.1 hl]; simp [awI])⟩
theorem gnew_pure (n : Nat) (hn : 1 ≤ n ∧ n ≤ 12) {ins : List (List V2)} (hi : InsOk ins) : Pure Try.prog 47 [.c (cI n), .c (.row 1 false (ins.map encIn))] (.agg (encGr (newG n ins))) := (gnew_new n hn ins hi.len hi.all).group
theorem lit_v (a : Int) : LeC (.row 2 true [[cI a, cI 1]]) (encV [(a, 1)]) := LeC.rows rfl (one_le (.cons (.refl _) (.cons (.refl _) .nil)))
theorem lit_l (a : Int) : LeC (.row 1 true [[.row 2 true [[cI a, cI 1]]]]) (encVs [[(a, 1)]]) := LeC.rows rfl (one_le (.cons (lit_v a) .nil))
theorem lit_2 : LeC (.row 1 true [[.row 1 true [[.row 2 true [[cI 1, cI 1]]]]], [.row 1 true [[.row 2 true [[cI 2, cI 1]]]]]]) (.row 1 false (awI.map encIn)) := LeC.rows rfl fun i e e' h h' => by
  match i, h, h' with
  | 0, h, h' => cases h; cases h'; exact .cons (lit_l 1) .nil
  | 1, h, h' => cases h; cases h'; exact .cons (lit_l 2) .nil
theorem lit_1 : LeC (.row 1 true [[.row 1 true [[.row 2 true [[cI 1, cI 1]]]]]]) (.row 1 false (awI1.map encIn)) := LeC.rows rfl (one_le (.cons (lit_l 1) .nil))
theorem aw_n2 : Pure Try.prog 47 [.c (cI 3), .c (.row 1 true [[.row 1 true [[.row 2 true [[cI 1, cI 1]]]]], [.row 1 true [[.row 2 true [[cI 2, cI 1]]]]]])] (.agg (encGr (newG 3 awI))) :=
  (gnew_pure 3 (by omega) aw_ok).le (.cons (.refl _) (.cons (.c lit_2) .nil)) (.refl _)
theorem aw_n1 : Pure Try.prog 47 [.c (cI 3), .c (.row 1 true [[.row 1 true [[.row 2 true [[cI 1, cI 1]]]]]])] (.agg (encGr (newG 3 awI1))) :=
  (gnew_pure 3 (by omega) aw_ok1).le (.cons (.refl _) (.cons (.c lit_1) .nil)) (.refl _)
def awL : GrS := loseS (newG 3 awI1) 0
theorem awL_is : awL.pks.length = 2 := by decide +kernel
def awA : V2 := ((awG.decs[0]?).map (·.v)).getD []
def awB : V2 := ((awG.decs[1]?).map (·.v)).getD []
theorem awAB : (leI awA awB || leI awB awA) = true ∧ awA.length < 100 ∧ awB.length < 100 ∧ (rjoinI awA awB).length = 2 ∧ (awB.all fun e => decide (1 ≤ e.1 ∧ 1 ≤ e.2 ∧ e.2 ≤ 1000000)) = true := by decide +kernel
theorem aw_dec : ∃ a b r, awG.decs = a :: b :: r ∧ a.v = awA ∧ b.v = awB := by
  have h := awG_is.1
  unfold awA awB
  match awG.decs, h with
  | [a, b], _ => exact ⟨a, b, [], rfl, rfl, rfl⟩
theorem awake17_pure : Pure Try.prog 51 [] (.c (cB true)) := by
  have hp := new_pot (n := 3) (by omega) aw_ok
  have hw := new_W (n := 3) (by omega) aw_ok
  have hw1 := new_W (n := 3) (by omega) aw_ok1
  have hd := drain_pure _ hw 700 hp (by omega)
  have hl := lose_pure _ hw1 (by omega) 0
  obtain ⟨h1, h2, h3⟩ := awG_is
  obtain ⟨a1, a2, a3, a4, a5⟩ := awAB
  have hL := awL_is
  have hle1 := rle_pure awA awB (by omega) (by omega)
  have hle2 := rle_pure awB awA (by omega) (by omega)
  have hj := rjoin_pure awA awB (fun e he => by rw [List.all_eq_true] at a5; simpa using a5 e he) (by omega)
  obtain ⟨x, y, r, hG, hxA, hyB⟩ := aw_dec
  have hn2 := aw_n2
  have hn1 := aw_n1
  change Pure _ _ _ (.agg (encGr awG)) at hd
  change Pure _ _ _ (.agg (encGr awL)) at hl
  clear hp hw hw1
  generalize awG = G at *
  generalize awL = L at *
  generalize newG 3 awI = N2 at *
  generalize newG 3 awI1 = N1 at *
  have hkl : G.pks = [] := List.eq_nil_of_length_eq_zero h2
  have hrest : r = [] := by
    rw [hG] at h1
    exact List.eq_nil_of_length_eq_zero (by simpa using h1)
  subst hrest
  refine pure_of teOk Try.func51 (by kernel_rfl) (c := _) rfl (N := 65) rfl (rs := [Go.ResultVar.tmp 0]) rfl (by simp) fun base A w0 hA => ?_
  refine AW.st teOk [] (by simp [-Option.some.injEq] <;> rfl) trivial ?_
  refine AW.st teOk [.fz (.agg (encGr N2)), .fz (.agg (encGr G))] (by simp [-Option.some.injEq] <;> rfl) ?_ ?_
  · exact ⟨hn2, hd⟩
  refine AW.seq ?_
  refine AW.st teOk [] (by simp [h3, hkl, hG, -Option.some.injEq] <;> rfl) trivial ?_
  refine AW.iff false (by simp) (fun h => by cases h) (fun _ => AW.skip ?_)
  refine AW.dr mixed teOk [] (by simp [hG, -Option.some.injEq] <;> rfl) (by kernel_rfl) (by kernel_rfl) ?_ ?_
  · simp [allP, hG]
  cases hle : leI awA awB with
  | true =>
    rw [hle] at hle1
    refine AW.st teOk [.fz (.c (cB true)), .fz (.c (encV (rjoinI awA awB))), .fz (.agg (encGr N1)), .fz (.agg (encGr L))] (by simp [hxA, hyB, a4, hL, -Option.some.injEq] <;> rfl) ?_ ?_
    · exact ⟨hle1, hj, hn1, hl⟩
    refine AW.ret ⟨.inr rfl, _, Weak.refl _, ?_⟩
    simp
  | false =>
    have hle' : leI awB awA = true := by rw [hle] at a1; simpa using a1
    rw [hle] at hle1
    rw [hle'] at hle2
    refine AW.st teOk [.fz (.c (cB false)), .fz (.c (cB true)), .fz (.c (encV (rjoinI awA awB))), .fz (.agg (encGr N1)), .fz (.agg (encGr L))] (by simp [hxA, hyB, a4, hL, -Option.some.injEq] <;> rfl) ?_ ?_
    · exact ⟨hle1, hle2, hj, hn1, hl⟩
    refine AW.ret ⟨.inr rfl, _, Weak.refl _, ?_⟩
    simp
end Go.Proofs.Ytopcklnnkpjanaa.Abs
