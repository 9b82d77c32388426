/- Joined for the claim: WXpro WXlaw WXSafe -/
import Derived.Test.YtphlhadgcfndhaaDoorJd13
section
namespace Go.Proofs.YtphlhadgcfndhaaDoor.Abs
open Go Go.RowKit
set_option linter.unusedVariables false
set_option linter.unusedSimpArgs false
set_option maxHeartbeats 4000000
def vecQ (n : Int) (k : Nat) : Nat → V2
  | 0 => []
  | a + 1 => if digitI n 3 (1 + 2 * k + (a + 1)) > 0 then vecQ n k a ++ [(((a + 1 : Nat) : Int), digitI n 3 (1 + 2 * k + (a + 1)))] else vecQ n k a
def insQ (n : Int) : Nat → List V2
  | 0 => []
  | k + 1 => insQ n k ++ [vecQ n k 2]
def cntQ (n : Int) : Nat := (digitI n 3 0).toNat
def allQ (l : List Int) : Nat → List (List V2)
  | 0 => []
  | i + 1 => allQ l i ++ [insQ (l.getD i 0) (cntQ (l.getD i 0))]
def progI (l : List Int) : List (List V2) := allQ l (min l.length 2)
theorem vecQ_ok (n : Int) (k : Nat) : ∀ a : Nat, a ≤ 2 → V4 (vecQ n k a) ∧ (∀ e ∈ vecQ n k a, e.1 ≤ a) ∧ (vecQ n k a).length ≤ a ∧ Sub (vecQ n k a) topV
  | 0, _ => ⟨V4.nil, (fun e he => by cases he), Nat.le_refl _, nil_sub top_val⟩
  | a + 1, ha => by
    obtain ⟨h1, h2, h3, h4⟩ := vecQ_ok n k a (by omega)
    have hd := digit_lt n (b := 3) (by omega) (1 + 2 * k + (a + 1))
    unfold vecQ
    split
    · rename_i hp
      generalize digitI n 3 (1 + 2 * k + (a + 1)) = d at *
      generalize vecQ n k a = v at *
      have hc : ∀ x, cnt (v ++ [(((a + 1 : Nat) : Int), d)]) x = if x = ((a + 1 : Nat) : Int) then d else cnt v x := fun x => by
        clear h1 h3 h4
        induction v with
        | nil => simp only [List.nil_append, cnt]; split <;> split <;> first | rfl | omega
        | cons e v ih =>
          have := h2 e (by simp)
          rw [List.cons_append, cnt_cons, cnt_cons, ih fun e he => h2 e (by simp [he])]
          split
          · rw [if_neg (by omega)]
          · rfl
      refine ⟨⟨⟨fun e he => ?_, ?_⟩, fun x => ?_, fun x hx => ?_⟩, fun e he => ?_, by simp; omega, fun x => ?_⟩
      · rcases List.mem_append.1 he with he | he
        · exact h1.val.1 e he
        · rw [List.mem_singleton.1 he]
          exact ⟨by show (1 : Int) ≤ ((a + 1 : Nat) : Int); omega, by show 1 ≤ d; omega, by show d ≤ _; omega⟩
      · refine List.pairwise_append.2 ⟨h1.val.2, List.pairwise_singleton _ _, fun e he f hf => ?_⟩
        rw [List.mem_singleton.1 hf]
        have := h2 e he
        show e.1 < ((a + 1 : Nat) : Int)
        omega
      · rw [hc]
        split
        · omega
        · exact h1.c x
      · rw [hc, if_neg (by omega)]
        exact h1.a x hx
      · rcases List.mem_append.1 he with he | he
        · have := h2 e he
          omega
        · rw [List.mem_singleton.1 he]
          show ((a + 1 : Nat) : Int) ≤ _
          omega
      · rw [hc]
        split
        · rename_i hx
          have : cnt topV x = 2 := by
            have : a = 0 ∨ a = 1 := by omega
            rcases this with rfl | rfl
            · rw [hx]; decide
            · rw [hx]; decide
          omega
        · exact h4 x
    · exact ⟨h1, fun e he => by have := h2 e he; omega, by omega, h4⟩
theorem insQ_ok (n : Int) : ∀ k : Nat, (insQ n k).length = k ∧ ∀ v ∈ insQ n k, V4 v ∧ Sub v topV
  | 0 => ⟨rfl, (fun v hv => by cases hv)⟩
  | k + 1 => by
    obtain ⟨h1, h2⟩ := insQ_ok n k
    unfold insQ
    refine ⟨by simp [h1], fun v hv => ?_⟩
    rcases List.mem_append.1 hv with hv | hv
    · exact h2 v hv
    · rw [List.mem_singleton.1 hv]
      have := vecQ_ok n k 2 (by omega)
      exact ⟨this.1, this.2.2.2⟩
theorem cntQ_is (n : Int) : (cntQ n : Int) = digitI n 3 0 ∧ cntQ n ≤ 2 := by
  have := digit_lt n (b := 3) (by omega) 0
  unfold cntQ
  omega
theorem allQ_ok (l : List Int) : ∀ i : Nat, (allQ l i).length = i ∧ ∀ x ∈ allQ l i, x.length ≤ 2 ∧ ∀ v ∈ x, V4 v ∧ Sub v topV
  | 0 => ⟨rfl, (fun v hv => by cases hv)⟩
  | i + 1 => by
    obtain ⟨h1, h2⟩ := allQ_ok l i
    unfold allQ
    refine ⟨by simp [h1], fun v hv => ?_⟩
    rcases List.mem_append.1 hv with hv | hv
    · exact h2 v hv
    · rw [List.mem_singleton.1 hv]
      obtain ⟨h3, h4⟩ := insQ_ok (l.getD i 0) (cntQ (l.getD i 0))
      have := (cntQ_is (l.getD i 0)).2
      exact ⟨by omega, h4⟩
/-- How many acceptors. -/
def accQ (n : Int) : Nat := (1 + indexI n 2).toNat
theorem accQ_is (n : Int) : (accQ n : Int) = 1 + indexI n 2 ∧ 1 ≤ accQ n ∧ accQ n ≤ 2 := by
  have := index_lt n (k := 2) (by omega) (by omega)
  unfold accQ
  omega
theorem prog_pins (n : Int) (l : List Int) : PIns (progI l) (accQ n) := by
  have h := allQ_ok l (min l.length 2)
  have := accQ_is n
  exact ⟨by omega, by unfold progI; omega, h.2⟩
theorem idx2 (n : Int) : 0 ≤ indexI n 2 ∧ indexI n 2 ≤ 2 := by
  have := index_lt n (k := 2) (by omega) (by omega)
  omega
@[simp] def zPg : List Cell := [cI 0, nilC, cI 0, cI 0]
theorem prog_pure (na : Int) (l : List Int) (nl nm : Int) : Pure Tryd.prog 12 [.c (cI na), .c (encIs l), .c (cI nl), .c (cI nm)] (.agg (encPg (accQ na) (indexI nl 2) (indexI nm 2) (progI l))) := by
  obtain ⟨ha1, ha2, ha3⟩ := accQ_is na
  have hwa : IntKind.i64.wrap (1 + indexI na 2) = accQ na := by rw [← ha1, IntKind.wrap_i64]; omega
  obtain ⟨P, hP⟩ : ∃ P, P = progI l := ⟨_, rfl⟩
  refine pure_of teOk Tryd.func12 (by kernel_rfl) (c := _) rfl (N := 76) rfl (rs := [Go.ResultVar.cell 8 24]) rfl (by simp) fun base A w0 hA => ?_
  refine AW.st teOk [] (by simp [-Option.some.injEq] <;> rfl) trivial ?_
  refine AW.st teOk [.fz (.c (cI (indexI na 2))), .fz (.c (cI (indexI nl 2))), .fz (.c (cI (indexI nm 2)))] (by simp [hwa, -Option.some.injEq] <;> rfl) ?_ ?_
  · exact ⟨index_pure' _ _, index_pure' _ _, index_pure' _ _⟩
  generalize indexI nl 2 = lo at *
  generalize indexI nm 2 = am at *
  generalize accQ na = M at *
  clear hwa ha1
  refine AW.to (s2 := ⟨[(1, .c (encIs l)), (8, .c (.ptr 0 0 0)), (9, .c (.ptr 1 0 0))], [(0, ⟨4, [zPg]⟩), (1, ⟨4, [[cI M, .ref 2 0 0, cI lo, cI am]]⟩), (2, ⟨1, []⟩)], 3⟩) ((Weak.nilP 9 1 1 _ (by simp <;> rfl) (by simp <;> exact ⟨rfl, rfl⟩) rfl (by simp)).trans (Weak.normS hA [1, 8, 9] [(8, 0), (9, 1)] [(8, 2)] [6] 3 _ (by simp [putA]) (by simp [putA]) (by simp [putA]))) (by simp [putA]) ?_
  refine AW.seq ?_
  refine AW.st teOk [] (by simp [-Option.some.injEq] <;> rfl) trivial ?_
  refine AW.block (AW.loop (fun m s => ∃ i : Nat, i ≤ min l.length 2 ∧ m = min l.length 2 - i ∧ s = ⟨[(1, .c (encIs l)), (8, .c (.ptr 0 0 0)), (9, .c (.ptr 1 0 0)), (10, .c (cI i))], [(0, ⟨4, [zPg]⟩), (1, ⟨4, [[cI M, .ref 2 0 i, cI lo, cI am]]⟩), (2, ⟨1, (allQ l i).map encIn⟩)], 3⟩) _ (Weak.normS hA [1, 8, 9, 10] [(8, 0), (9, 1)] [(2, 2)] [1] 3 _ (by simp) (by simp) (by simp)) ⟨0, Nat.zero_le _, rfl, by simp [allQ]⟩ ?_)
  rintro m s ⟨i, hi, rfl, rfl⟩
  have hal := (allQ_ok l i).1
  refine AW.seq ?_
  by_cases hlt : i < min l.length 2
  · have hlt1 : i < l.length := by omega
    have hlt2 : i < 2 := by omega
    have hlt2' : (i : Int) < 2 := by omega
    obtain ⟨n, hn⟩ : ∃ n, l[i]? = some n := ⟨_, List.getElem?_eq_getElem hlt1⟩
    have hgn : l.getD i 0 = n := by rw [List.getD_eq_getElem?_getD, hn]; rfl
    have hinc : IntKind.i64.wrap ((i : Int) + 1) = (i : Int) + 1 := wrap_s _ (by omega)
    have hall : allQ l (i + 1) = allQ l i ++ [insQ n (cntQ n)] := by rw [allQ, hgn]
    obtain ⟨hm1, hm2⟩ := cntQ_is n
    generalize allQ l i = A0 at *
    refine AW.st teOk [] (by simp [hlt1, hlt2', -Option.some.injEq] <;> rfl) trivial ?_
    refine AW.iff true (by simp) (fun _ => AW.skip ?_) (fun h => by cases h)
    refine AW.mid (fun s => s = ⟨[(1, .c (encIs l)), (8, .c (.ptr 0 0 0)), (9, .c (.ptr 1 0 0)), (10, .c (cI i))], [(0, ⟨4, [zPg]⟩), (1, ⟨4, [[cI M, .ref 2 0 (i + 1), cI lo, cI am]]⟩), (2, ⟨1, (allQ l (i + 1)).map encIn⟩)], 3⟩) (AW.block ?_) ?_
    · refine AW.st teOk [] (by simp [-Option.some.injEq] <;> rfl) trivial ?_
      refine AW.weak (Weak.nil 11 1 _ (by simp <;> rfl)) ?_
      refine AW.mid (fun s => s = ⟨[(1, .c (encIs l)), (8, .c (.ptr 0 0 0)), (9, .c (.ptr 1 0 0)), (10, .c (cI i)), (11, .c (encVs (insQ n (cntQ n))))], [(0, ⟨4, [zPg]⟩), (1, ⟨4, [[cI M, .ref 2 0 i, cI lo, cI am]]⟩), (2, ⟨1, (A0).map encIn⟩)], 3⟩) ?_ ?_
      · refine AW.st teOk [] (by simp [-Option.some.injEq] <;> rfl) trivial ?_
        refine AW.block (AW.loop (fun m s => ∃ k : Nat, k ≤ cntQ n ∧ m = cntQ n - k ∧ s = ⟨[(1, .c (encIs l)), (8, .c (.ptr 0 0 0)), (9, .c (.ptr 1 0 0)), (10, .c (cI i)), (11, .c (.ref 3 0 k)), (12, .c (cI k))], [(0, ⟨4, [zPg]⟩), (1, ⟨4, [[cI M, .ref 2 0 i, cI lo, cI am]]⟩), (2, ⟨1, (A0).map encIn⟩), (3, ⟨1, (insQ n k).map encC⟩)], 4⟩) _ (Weak.normS hA [1, 8, 9, 10, 11, 12] [(8, 0), (9, 1), (11, 3)] [(2, 2)] [1] 4 _ (by simp) (by simp) (by simp)) ⟨0, Nat.zero_le _, rfl, by simp [insQ]⟩ ?_)
        rintro m s ⟨k, hk, rfl, rfl⟩
        have hil := (insQ_ok n k).1
        refine AW.seq ?_
        refine AW.st teOk [.fz (.c (cI (digitI n 3 0)))] (by simp [hn, ← hm1, -Option.some.injEq] <;> rfl) ?_ ?_
        · exact ⟨hlt1, by rw [hm1]; exact digit_pure' n 3 0 (by omega) (by omega)⟩
        refine AW.iff (decide (k < cntQ n)) (by simp) (fun h => AW.skip ?_) (fun h => AW.exit (x_then (x_then (blockA_exit ?_))))
        · rw [decide_eq_true_eq] at h
          have hinck : IntKind.i64.wrap ((k : Int) + 1) = (k : Int) + 1 := wrap_s _ (by omega)
          have hins : insQ n (k + 1) = insQ n k ++ [vecQ n k 2] := rfl
          generalize insQ n k = A1 at *
          refine AW.mid (fun s => s = ⟨[(1, .c (encIs l)), (8, .c (.ptr 0 0 0)), (9, .c (.ptr 1 0 0)), (10, .c (cI i)), (11, .c (.ref 3 0 (k + 1))), (12, .c (cI k))], [(0, ⟨4, [zPg]⟩), (1, ⟨4, [[cI M, .ref 2 0 i, cI lo, cI am]]⟩), (2, ⟨1, (A0).map encIn⟩), (3, ⟨1, (insQ n (k + 1)).map encC⟩)], 4⟩) (AW.block ?_) ?_
          · refine AW.st teOk [] (by simp [-Option.some.injEq] <;> rfl) trivial ?_
            refine AW.weak (Weak.nil 13 2 _ (by simp <;> rfl)) ?_
            refine AW.mid (fun s => s = ⟨[(1, .c (encIs l)), (8, .c (.ptr 0 0 0)), (9, .c (.ptr 1 0 0)), (10, .c (cI i)), (11, .c (.ref 3 0 k)), (12, .c (cI k)), (13, .c (encV (vecQ n k 2)))], [(0, ⟨4, [zPg]⟩), (1, ⟨4, [[cI M, .ref 2 0 i, cI lo, cI am]]⟩), (2, ⟨1, (A0).map encIn⟩), (3, ⟨1, A1.map encC⟩)], 4⟩) ?_ ?_
            · refine AW.st teOk [] (by simp [-Option.some.injEq] <;> rfl) trivial ?_
              refine AW.block (AW.loop (fun m s => ∃ a b : Nat, a ≤ 2 ∧ b = a + 1 ∧ m = 2 - a ∧ s = ⟨[(1, .c (encIs l)), (8, .c (.ptr 0 0 0)), (9, .c (.ptr 1 0 0)), (10, .c (cI i)), (11, .c (.ref 3 0 k)), (12, .c (cI k)), (13, .c (.ref 4 0 (vecQ n k a).length)), (14, .c (cI b))], [(0, ⟨4, [zPg]⟩), (1, ⟨4, [[cI M, .ref 2 0 i, cI lo, cI am]]⟩), (2, ⟨1, (A0).map encIn⟩), (3, ⟨1, A1.map encC⟩), (4, ⟨2, (vecQ n k a).map encE⟩)], 5⟩) (2 - 0) (Weak.normS hA [1, 8, 9, 10, 11, 12, 13, 14] [(8, 0), (9, 1), (11, 3), (13, 4)] [(2, 2)] [1] 5 _ (by simp) (by simp) (by simp)) ⟨0, 1, Nat.zero_le _, rfl, rfl, by simp [vecQ]⟩ ?_)
              rintro m s ⟨a, b, ha, hb, rfl, rfl⟩
              obtain ⟨_, _, hvl, _⟩ := vecQ_ok n k a ha
              refine AW.seq ?_
              refine AW.st teOk [] (by simp [-Option.some.injEq] <;> rfl) trivial ?_
              refine AW.iff (decide (a < 2)) (by simp <;> omega) (fun h => AW.skip ?_) (fun h => AW.exit (x_then (x_then (blockA_exit ?_))))
              · rename_i h3
                rw [decide_eq_true_eq] at h
                have hincb : IntKind.i64.wrap ((b : Int) + 1) = (b : Int) + 1 := wrap_s _ (by omega)
                have hw2 : IntKind.i64.wrap (2 * (k : Int)) = 2 * (k : Int) := by rw [IntKind.wrap_i64]; omega
                have hw3 : IntKind.i64.wrap (1 + 2 * (k : Int)) = 1 + 2 * (k : Int) := by rw [IntKind.wrap_i64]; omega
                have hw4 : IntKind.i64.wrap (1 + 2 * (k : Int) + (b : Int)) = ((1 + 2 * k + (a + 1) : Nat) : Int) := by rw [IntKind.wrap_i64]; omega
                obtain ⟨q, hq⟩ : ∃ q, q = 1 + 2 * k + (a + 1) := ⟨_, rfl⟩
                rw [← hq] at hw4
                have hvec : vecQ n k (a + 1) = if digitI n 3 q > 0 then vecQ n k a ++ [(((b : Nat) : Int), digitI n 3 q)] else vecQ n k a := by rw [vecQ, ← hq, ← hb]
                have hdp := digit_pure' n 3 q (by omega) (by omega)
                generalize vecQ n k a = v at *
                generalize digitI n 3 q = d at *
                refine AW.mid (fun s => s = ⟨[(1, .c (encIs l)), (8, .c (.ptr 0 0 0)), (9, .c (.ptr 1 0 0)), (10, .c (cI i)), (11, .c (.ref 3 0 k)), (12, .c (cI k)), (13, .c (.ref 4 0 (vecQ n k (a + 1)).length)), (14, .c (cI b))], [(0, ⟨4, [zPg]⟩), (1, ⟨4, [[cI M, .ref 2 0 i, cI lo, cI am]]⟩), (2, ⟨1, (A0).map encIn⟩), (3, ⟨1, A1.map encC⟩), (4, ⟨2, (vecQ n k (a + 1)).map encE⟩)], 5⟩) (AW.block ?_) ?_
                · refine AW.st teOk [.fz (.c (cI d))] (by simp [hn, hw2, hw3, hw4, -Option.some.injEq] <;> rfl) ?_ ?_
                  · exact ⟨hlt1, hdp⟩
                  refine AW.st teOk [] (by simp [-Option.some.injEq] <;> rfl) trivial ?_
                  by_cases hd : d > 0
                  · refine AW.iff true (by simp; omega) (fun _ => ?_) (fun h => by cases h)
                    rw [hvec, if_pos hd]
                    refine AW.text teOk (ans := []) (by simp [-Option.some.injEq] <;> rfl) ?_ ?_
                    · simp [growOk]
                      omega
                    exact ⟨_, Weak.normS hA [1, 8, 9, 10, 11, 12, 13, 14] [(8, 0), (9, 1), (11, 3), (13, 4)] [(2, 2)] [1] 5 _ (by simp) (by simp) (by simp), by simp⟩
                  · refine AW.iff false (by simp; omega) (fun h => by cases h) (fun _ => AW.skip ?_)
                    rw [hvec, if_neg hd]
                    exact ⟨_, Weak.normS hA [1, 8, 9, 10, 11, 12, 13, 14] [(8, 0), (9, 1), (11, 3), (13, 4)] [(2, 2)] [1] 5 _ (by simp) (by simp) (by simp), by simp⟩
                rintro s rfl
                refine AW.text teOk (ans := []) (by simp [-Option.some.injEq] <;> rfl) ?_ ?_
                · trivial
                refine ⟨_, _, Weak.normS hA [1, 8, 9, 10, 11, 12, 13, 14] [(8, 0), (9, 1), (11, 3), (13, 4)] [(2, 2)] [1] 5 _ (by simp) (by simp) (by simp), ?_, a + 1, b + 1, h, by omega, rfl, ?_⟩
                · omega
                · simp [hincb]
              have hend : a = 2 := by
                rw [decide_eq_false_iff_not] at h
                omega
              subst hend
              exact ⟨_, (Weak.frzT 13 [] _ (by simp <;> exact ⟨rfl, rfl, rfl⟩) (by simp <;> rfl) (by simp)).trans (Weak.normS hA [1, 8, 9, 10, 11, 12, 13] [(8, 0), (9, 1), (11, 3)] [(2, 2)] [1] 4 _ (by simp) (by simp) (by simp)), by simp⟩
            rintro s rfl
            refine AW.text teOk (ans := []) (by simp [-Option.some.injEq] <;> rfl) ?_ ?_
            · simp [growOk]
              omega
            exact ⟨_, Weak.normS hA [1, 8, 9, 10, 11, 12] [(8, 0), (9, 1), (11, 3)] [(2, 2)] [1] 4 _ (by simp) (by simp) (by simp), by simp [hins, hil]⟩
          rintro s rfl
          refine AW.text teOk (ans := []) (by simp [-Option.some.injEq] <;> rfl) ?_ ?_
          · trivial
          refine ⟨_, _, Weak.normS hA [1, 8, 9, 10, 11, 12] [(8, 0), (9, 1), (11, 3)] [(2, 2)] [1] 4 _ (by simp) (by simp) (by simp), ?_, k + 1, h, rfl, ?_⟩
          · omega
          · simp [hinck]
        have hend : k = cntQ n := by
          rw [decide_eq_false_iff_not] at h
          omega
        subst hend
        have htk : ((insQ n (cntQ n)).map encC).take (cntQ n) = (insQ n (cntQ n)).map encC := List.take_of_length_le (by rw [List.length_map, hil]; exact Nat.le_refl _)
        exact ⟨_, (Weak.frzT 11 [] _ (by simp <;> exact ⟨rfl, rfl, rfl⟩) (by simp <;> rfl) (by simp)).trans (Weak.normS hA [1, 8, 9, 10, 11] [(8, 0), (9, 1)] [(2, 2)] [1] 3 _ (by simp) (by simp) (by simp)), by simp [hil, htk]⟩
      rintro s rfl
      refine AW.text teOk (ans := []) (by simp [-Option.some.injEq] <;> rfl) ?_ ?_
      · simp [growOk]
        omega
      exact ⟨_, Weak.normS hA [1, 8, 9, 10] [(8, 0), (9, 1)] [(7, 2)] [1] 3 _ (by simp) (by simp) (by simp), by simp [hall, hal]⟩
    rintro s rfl
    refine AW.text teOk (ans := []) (by simp [-Option.some.injEq] <;> rfl) ?_ ?_
    · trivial
    refine ⟨_, _, Weak.normS hA [1, 8, 9, 10] [(8, 0), (9, 1)] [(2, 2)] [1] 3 _ (by simp) (by simp) (by simp), ?_, i + 1, hlt, rfl, ?_⟩
    · omega
    · simp [hinc]
  have hend : i = min l.length 2 := by omega
  have hPe : allQ l i = P := by rw [hP, hend]; rfl
  rw [hPe] at hal ⊢
  rw [← hP]
  refine AW.mid (fun s => s = ⟨[(1, .c (encIs l)), (8, .c (.ptr 0 0 0)), (9, .c (.ptr 1 0 0)), (10, .c (cI i)), (31, .c (cB false))], [(0, ⟨4, [zPg]⟩), (1, ⟨4, [[cI M, .ref 2 0 i, cI lo, cI am]]⟩), (2, ⟨1, (P).map encIn⟩)], 3⟩) ?_ ?_
  · by_cases h1 : i < l.length
    · have h2 : ¬ (i : Int) < 2 := by omega
      refine AW.text teOk (ans := []) (by simp [h1, h2, -Option.some.injEq] <;> rfl) ?_ ?_
      · trivial
      exact ⟨_, Weak.normS hA [1, 8, 9, 10, 31] [(8, 0), (9, 1)] [(2, 2)] [1] 3 _ (by simp) (by simp) (by simp), by simp⟩
    · refine AW.text teOk (ans := []) (by simp [h1, -Option.some.injEq] <;> rfl) ?_ ?_
      · trivial
      exact ⟨_, Weak.normS hA [1, 8, 9, 10, 31] [(8, 0), (9, 1)] [(2, 2)] [1] 3 _ (by simp) (by simp) (by simp), by simp⟩
  rintro s rfl
  refine AW.iff false (by simp) (fun h => by cases h) (fun _ => AW.exit (x_then (x_then (blockA_exit ?_))))
  have htk : (P.map encIn).take i = P.map encIn := List.take_of_length_le (by rw [List.length_map, hal]; exact Nat.le_refl _)
  refine AW.to (s2 := ⟨[(8, .c (.ptr 0 0 0)), (9, .c (.ptr 1 0 0))], [(0, ⟨4, [zPg]⟩), (1, ⟨4, [encPg M lo am P]⟩)], 2⟩) ((Weak.freeze 2 ⟨1, P.map encIn⟩ [1] _ (by simp) (by simp)).trans (Weak.normS hA [8, 9] [(8, 0), (9, 1)] [] [1] 2 _ (by simp [hal, htk]) (by simp [hal, htk]) (by simp [hal, htk]))) (by simp [hal, htk]) ?_
  refine AW.st teOk [] (by simp [-Option.some.injEq] <;> rfl) trivial ?_
  refine AW.ret ⟨.inr rfl, _, Weak.refl _, ?_⟩
  simp
end Go.Proofs.YtphlhadgcfndhaaDoor.Abs
end
section
namespace Go.Proofs.YtphlhadgcfndhaaDoor.Abs
open Go Go.RowKit
set_option linter.unusedVariables false
set_option linter.unusedSimpArgs false
set_option maxHeartbeats 4000000
theorem pkW_perm {a b : List PkS} (h : a.Perm b) : pkW a = pkW b := by
  induction h with
  | nil => rfl
  | cons x _ ih =>
    unfold pkW at *
    rw [List.map_cons, List.map_cons, List.sum_cons, List.sum_cons, ih]
  | swap x y l =>
    unfold pkW
    simp only [List.map_cons, List.sum_cons]
    omega
  | trans _ _ h1 h2 => rw [h1, h2]
theorem pot_can (g : GrS) : pot (canG g) = pot g := by
  unfold pot
  show pkW (sortP g.pks) + _ = _
  rw [pkW_perm (sortP_perm g.pks)]
  rfl
/-- A closed search without forgetting finds a state without packets. -/
theorem final_found {ins : List (List V2)} {m : Nat} (h0 : PIns ins m) {lim : Nat} {s0 : XpS} {e : ExS} (hX : InvX lim s0 e) (hc : Closed e.fds e.fds.length) (hj : ∀ f ∈ e.fds, ∃ k, JX ins m 0 k f.s) : 1 ≤ e.fin := by
  have key : ∀ n : Nat, ∀ f ∈ e.fds, pot f.s.g ≤ n → ∃ q ∈ e.fds, q.s.g.pks.length = 0 := fun n => by
    induction n with
    | zero =>
      intro f hf hp
      obtain ⟨k, hJ⟩ := hj f hf
      have := pot_nn hJ.x.w
      exact ⟨f, hf, by omega⟩
    | succ n ih =>
      intro f hf hp
      by_cases hk : f.s.g.pks.length = 0
      · exact ⟨f, hf, hk⟩
      · obtain ⟨k, hJ⟩ := hj f hf
        obtain ⟨j, hjf⟩ := List.mem_iff_getElem?.1 hf
        have ha := acts_first (s := f.s) fun h => hk (by rw [h]; rfl)
        obtain ⟨q, hq, hqs⟩ := hc j f (List.getElem?_eq_some_iff.1 hjf).1 hjf _ ha
        refine ih q hq ?_
        have hpk : f.s.g.pks[0]? = some f.s.g.pks[0] := List.getElem?_eq_getElem (by omega)
        have hd := case_pot hJ.x.w hpk (deliv_case hJ.x.w hpk)
        have he : perfX f.s (1, 0) = { f.s with g := delivS f.s.g 0 } := by
          unfold perfX
          rw [if_pos ha, if_pos rfl]
          rfl
        rw [hqs, he]
        show pot (canG (delivS f.s.g 0)) ≤ n
        rw [pot_can]
        omega
  obtain ⟨f, hf, _⟩ := hX.f.z
  have hfm := List.mem_of_getElem? hf
  obtain ⟨q, hq, h1⟩ := key (pot f.s.g).toNat f hfm (by omega)
  rw [hX.n.fin]
  have : ∀ l : List Fd, q ∈ l → 1 ≤ (l.map fun f => finN f.s).sum := fun l => by
    induction l with
    | nil => intro h; cases h
    | cons x l ih =>
      intro h
      rw [List.map_cons, List.sum_cons]
      rcases List.mem_cons.1 h with rfl | h
      · unfold finN
        rw [if_pos h1]
        omega
      · have := ih h
        omega
  exact this e.fds hq
theorem good_all {ins : List (List V2)} {m : Nat} (h0 : PIns ins m) {lo am : Int} (hlo : 0 ≤ lo ∧ lo ≤ 2) (ham : 0 ≤ am ∧ am ≤ 2) {L : List Fd} (hF : InvF (canX ⟨newG m ins, lo, am⟩) L) : ∀ f ∈ L, ∃ k, JX ins m am k f.s := fun f hf => by
  obtain ⟨j, hj⟩ := List.mem_iff_getElem?.1 hf
  have hg := good_of h0 hlo ham
  exact ⟨f.dep, (hF.all (J := fun k s => JX ins m am k s ∧ canX s = s) hg.z hg.st j f hj).1⟩
/-- P40.6, its first half. -/
theorem safe_law {ins : List (List V2)} {m : Nat} (h0 : PIns ins m) {lo : Int} (hlo : 0 ≤ lo ∧ lo ≤ 2) {lim : Nat} (hl : 1 ≤ lim) :
    exploreX lim (canX ⟨newG m ins, lo, 0⟩) = .long ∨ ∃ e, exploreX lim (canX ⟨newG m ins, lo, 0⟩) = .go e ∧ 1 ≤ e.fin ∧ e.dep ≤ e.fds.length ∧ e.fds.length ≤ lim := by
  have h := explore_is hl (safe_init m ins lo 0)
  generalize exploreX lim (canX ⟨newG m ins, lo, 0⟩) = o at h
  cases o with
  | long => exact .inl rfl
  | go e =>
    obtain ⟨hX, hc⟩ := h
    have hj := good_all h0 hlo (by omega) hX.f
    exact .inr ⟨e, rfl, final_found h0 hX hc hj, by have := dep_bound hX; omega, hX.n.len⟩
  | bad e =>
    obtain ⟨hF, hN, L, x, hL, _, hs, _⟩ := h
    obtain ⟨k, hJ⟩ := good_all h0 hlo (by omega) hF x (by rw [hL]; simp)
    rw [hJ.safe] at hs
    cases hs
/-! ### to the end -/
/-- What holds of a state without losses and without forgetting. -/
structure JE (ins : List (List V2)) (m : Nat) (k : Nat) (s : XpS) : Prop where
  j : JX ins m 0 k s
  lo : s.lo = 0
  e : InvE (fun _ => false) s.g
  d : pot s.g + k ≤ (2 * (m : Int) + 1) * (7 * (ins.length : Int) + 12) + 58
theorem JE.init {ins : List (List V2)} {m : Nat} (h0 : PIns ins m) : JE ins m 0 ⟨newG m ins, 0, 0⟩ := by
  refine ⟨JX.init h0 (by omega) (by omega), rfl, new_E _, ?_⟩
  have h := new_is m ins
  have hw := (JX.init h0 (lo := 0) (am := 0) (by omega) (by omega)).x.w
  have hm := h0.m
  have hl := h0.len
  have h1 : ((newG m ins).props.map fun p => 12 - sizV p.v).sum ≤ 12 * ((newG m ins).props.map fun p => 12 - sizV p.v).length := le_sum 12 _ fun x hx => by
    obtain ⟨p, hp, rfl⟩ := List.mem_map.1 hx
    have := (siz_le (hw.p p hp).v).1
    omega
  rw [List.length_map] at h1
  have h2 : (newG m ins).props.length = ins.length := by rw [h.props, List.length_map]
  have h3 : (newG m ins).nxt.sum = 0 := by
    rw [h.nxt]
    induction ins.length with
    | zero => rfl
    | succ k ih => rw [List.replicate_succ, List.sum_cons, ih]; rfl
  have h4 := h.pw
  have h5 : (newG m ins).accs.length = m := by rw [h.accs, List.length_replicate]
  rw [h2] at h1
  show pot (newG m ins) + ((0 : Nat) : Int) ≤ _
  unfold pot
  rw [h3, h5]
  generalize ((newG m ins).props.map fun p => 12 - sizV p.v).sum = S at *
  generalize pkW (newG m ins).pks = W at *
  generalize ins.length = n at *
  have hmn : m = 1 ∨ m = 2 := by omega
  have hnn : n = 0 ∨ n = 1 ∨ n = 2 := by omega
  rcases hmn with rfl | rfl <;> rcases hnn with rfl | rfl | rfl <;> omega
theorem JE.low {ins : List (List V2)} {m k : Nat} (h0 : PIns ins m) {s : XpS} (h : JE ins m k s) : (s.g.pks.length : Int) + (2 * (m : Int) + 1) * (7 * (ins.length : Int) + 12) ≤ pot s.g := by
  have hx := h.j.x
  have h1 : 8 * (s.g.props.length : Int) ≤ (s.g.props.map fun p => 12 - sizV p.v).sum := by
    have : ∀ l : List PrS, (∀ p ∈ l, sizV p.v ≤ 4) → 8 * (l.length : Int) ≤ (l.map fun p => 12 - sizV p.v).sum := fun l => by
      induction l with
      | nil => intro _; simp
      | cons p l ih =>
        intro hp
        have := ih fun q hq => hp q (by simp [hq])
        have := hp p (by simp)
        rw [List.map_cons, List.sum_cons, List.length_cons]
        omega
    exact this _ fun p hp => by
      have := siz_mono (hx.v.pr p hp)
      have := h0.x.sz
      omega
  have h2 : s.g.nxt.sum ≤ 1 * s.g.nxt.length := le_sum 1 _ fun x hx' => by
    obtain ⟨i, hi⟩ := List.mem_iff_getElem?.1 hx'
    have hil := (List.getElem?_eq_some_iff.1 hi).1
    have e1 := hx.w.nn.x
    have e2 := hx.w.nn.i
    have e3 := hx.w.nn.p
    obtain ⟨p, hp⟩ : ∃ p, s.g.props[i]? = some p := ⟨_, List.getElem?_eq_getElem (by omega)⟩
    obtain ⟨l, hl⟩ : ∃ l, s.g.ins[i]? = some l := ⟨_, List.getElem?_eq_getElem (by omega)⟩
    by_cases hne : l = []
    · subst hne
      have := hx.z i x hi hl
      omega
    · have h3 := (hx.e.f i p l x hp hl hi hne).1
      have h4 : l.length ≤ 2 := (h0.two l (by rw [← hx.i]; exact List.mem_of_getElem? hl)).1
      have := (hx.w.x i x hi).1
      omega
  have h3 := (pkW_nn s.g.pks).2
  have e1 := hx.w.nn.x
  have e2 := hx.w.nn.i
  have e3 := hx.w.nn.p
  have e4 := hx.al
  have e5 : s.g.ins.length = ins.length := by rw [hx.i]
  have hm := h0.m
  have hl := h0.len
  unfold pot
  rw [e4]
  have e6 : s.g.props.length = ins.length := by omega
  have e7 : s.g.nxt.length = ins.length := by omega
  rw [e6] at h1
  rw [e7] at h2
  generalize (s.g.props.map fun p => 12 - sizV p.v).sum = S at *
  generalize pkW s.g.pks = W at *
  generalize s.g.nxt.sum = X at *
  generalize s.g.pks.length = P at *
  generalize ins.length = n at *
  have hmn : m = 1 ∨ m = 2 := by omega
  rcases hmn with rfl | rfl <;> omega
theorem JE.acts {ins : List (List V2)} {m k : Nat} {s : XpS} (h : JE ins m k s) : actsX s = actsD s.g.pks.length := by
  have ha := (h.j.c rfl).1
  unfold actsX actsL actsF
  rw [h.lo, ha]
  simp
theorem JE.step {ins : List (List V2)} {m k : Nat} (h0 : PIns ins m) {s : XpS} (h : JE ins m k s) {a : ActP} (ha : a ∈ actsX s) : JE ins m (k + 1) (canX (perfX s a)) := by
  have hj := (h.j.perf h0 ha).can
  rw [h.acts] at ha
  obtain ⟨i, hi, rfl⟩ := mem_actsD.1 ha
  have ha2 : ((1, (i : Int)) : ActP) ∈ actsX s := by rw [h.acts]; exact ha
  have he : perfX s (1, (i : Int)) = { s with g := delivS s.g i } := by
    unfold perfX
    rw [if_pos ha2, if_pos rfl]
    rfl
  have hk : s.g.pks[i]? = some s.g.pks[i] := List.getElem?_eq_getElem hi
  have c := deliv_case h.j.x.w hk
  refine ⟨hj, ?_, ?_, ?_⟩
  · rw [he]; exact h.lo
  · rw [he]
    exact can_E (case_E h.j.x.w h.e hk c)
  · have := case_pot h.j.x.w hk c
    have := h.d
    rw [he]
    show pot (canG (delivS s.g i)) + ((k + 1 : Nat) : Int) ≤ _
    rw [pot_can]
    omega
def insN2 (ins : List (List V2)) : Nat := (ins.map List.length).sum
theorem JE.ends {ins : List (List V2)} {m k : Nat} (h0 : PIns ins m) {s : XpS} (h : JE ins m k s) (hp : s.g.pks.length = 0) : s.g.decs.length = insN2 ins := by
  have hx := h.j.x
  have hpk : s.g.pks = [] := List.eq_nil_of_length_eq_zero hp
  have hal : 0 < s.g.accs.length := hx.w.al.1
  have hend : ∀ {i : Nat} {l : List V2}, s.g.ins[i]? = some l → decsOf s.g.decs i = upto l.length := fun hl => ends_E hx.w h.e hpk (by
    have e : (List.range s.g.accs.length).filter (fun a => !(fun _ : Nat => false) a) = List.range s.g.accs.length := List.filter_eq_self.2 fun a _ => rfl
    rw [e, List.length_range]
    omega) hl
  rw [← decs_sum s.g.ins.length s.g.decs h.e.r, hx.i]
  unfold insN2
  congr 1
  refine List.ext_getElem? fun i => ?_
  rw [List.getElem?_map, List.getElem?_map]
  by_cases hi : i < ins.length
  · obtain ⟨l, hl⟩ : ∃ l, ins[i]? = some l := ⟨_, List.getElem?_eq_getElem hi⟩
    rw [List.getElem?_range hi, hl]
    have := hend (i := i) (l := l) (by rw [hx.i]; exact hl)
    simp only [Option.map_some, this]
    simp [upto]
  · rw [List.getElem?_eq_none (by simpa using hi), List.getElem?_eq_none (by simpa using hi)]
    rfl
end Go.Proofs.YtphlhadgcfndhaaDoor.Abs
end
section
namespace Go.Proofs.YtphlhadgcfndhaaDoor.Abs
open Go Go.RowKit
set_option linter.unusedVariables false
set_option linter.unusedSimpArgs false
set_option maxHeartbeats 4000000
def repL : ExO → List Cell
  | .go e => repA e.fds.length e.steps e.fin e.dep true nilC
  | .long => repA 0 0 0 0 false nilC
  | .bad e => repA e.fds.length e.steps e.fin e.dep false (.row 2 false ((schedX e.fds (e.fds.length - 1) (e.fds.length - 1)).map encA))
def repN : ExO → Int
  | .long => 3
  | _ => 0
theorem insN2_take {ins : List (List V2)} {j : Nat} {l : List V2} (h : ins[j]? = some l) : insN2 (ins.take (j + 1)) = insN2 (ins.take j) + l.length := by
  unfold insN2
  rw [List.take_add_one, h, List.map_append, List.sum_append]
  simp
theorem insN2_le : ∀ ins : List (List V2), (∀ l ∈ ins, l.length ≤ 2) → insN2 ins ≤ 2 * ins.length
  | [], _ => by simp [insN2]
  | l :: ins, h => by
    have := insN2_le ins fun q hq => h q (by simp [hq])
    have := h l (by simp)
    unfold insN2 at *
    rw [List.map_cons, List.sum_cons, List.length_cons]
    omega
theorem repO_is (o : ExO) : ∃ a b c d s v, repL o = repA a b c d s v ∧ (v = nilC ∨ ∃ es, v = .row 2 false es) ∧ repO o = .tup [.agg (repA a b c d s v), .c (cI (repN o))] := by
  cases o with
  | go e => exact ⟨_, _, _, _, _, _, rfl, .inl rfl, rfl⟩
  | long => exact ⟨_, _, _, _, _, _, rfl, .inl rfl, rfl⟩
  | bad e => exact ⟨_, _, _, _, _, _, rfl, .inr ⟨_, rfl⟩, rfl⟩
theorem xsafe_pure (na : Int) (l : List Int) (nl : Int) (sc : List Int) (hsc : sc.length < 4000000000000000000) : Pure Tryd.prog 4 [.c (cI na), .c (encIs l), .c (cI nl), .c (encIs sc)] (.c (cB true)) := by
  have c0 := prog_pure na l nl 0
  have hp := prog_pins na l
  have hlo := idx2 nl
  rw [show indexI 0 2 = 0 by decide] at c0
  generalize accQ na = M at *
  generalize indexI nl 2 = lo at *
  generalize progI l = ins at *
  have c1 := explore_ok hp hlo (am := 0) (by omega) 300
  have hlaw := safe_law hp hlo (lim := 300) (by omega)
  rw [show limOf 300 = 300 by decide] at c1
  generalize exploreX 300 (canX ⟨newG M ins, lo, 0⟩) = o at *
  have hm := hp.m
  have hpl := hp.len
  have c2 := initX_pure M (by omega) hp.ok 0 0
  have hJ0 := JE.init hp
  generalize (⟨newG M ins, 0, 0⟩ : XpS) = x0 at *
  refine pure_of teOk Tryd.func4 (by kernel_rfl) (c := _) rfl (N := 110) rfl (rs := [Go.ResultVar.tmp 8]) rfl (by simp) fun base A w0 hA => ?_
  refine AW.st teOk [] (by simp [-Option.some.injEq] <;> rfl) trivial ?_
  refine AW.st teOk [.fz (.agg (encPg M lo 0 ins))] (by simp [-Option.some.injEq] <;> rfl) ?_ ?_
  · simpa using c0
  obtain ⟨r1, r2, r3, r4, r5, r6, e1, e2, e3⟩ := repO_is o
  rw [e3] at c1
  refine AW.mid (fun s => s = ⟨[(3, .c (encIs sc)), (9, .c (.ptr 0 0 0)), (10, .c (.ptr 1 0 0)), (11, .c (cI (repN o)))], [(0, ⟨4, [encPg M lo 0 ins]⟩), (1, ⟨6, [repL o]⟩)], 2⟩) ?_ ?_
  · rw [e1]
    rcases e2 with rfl | ⟨es, rfl⟩
    · refine AW.text teOk (ans := [.fz (.tup [.agg (repA r1 r2 r3 r4 r5 nilC), .c (cI (repN o))])]) (by simp [-Option.some.injEq] <;> rfl) ?_ ?_
      · simpa using c1
      exact ⟨_, Weak.normS hA [3, 9, 10, 11] [(9, 0), (10, 1)] [] [] 2 _ (by simp) (by simp) (by simp), by simp⟩
    · refine AW.text teOk (ans := [.fz (.tup [.agg (repA r1 r2 r3 r4 r5 (.row 2 false es)), .c (cI (repN o))])]) (by simp [-Option.some.injEq] <;> rfl) ?_ ?_
      · simpa using c1
      exact ⟨_, Weak.normS hA [3, 9, 10, 11] [(9, 0), (10, 1)] [] [] 2 _ (by simp) (by simp) (by simp), by simp⟩
  rintro s rfl
  refine AW.mid (fun s => s = ⟨[(3, .c (encIs sc)), (9, .c (.ptr 0 0 0))], [(0, ⟨4, [encPg M lo 0 ins]⟩)], 1⟩) ?_ ?_
  · rcases hlaw with rfl | ⟨e, rfl, h1, h2, h3⟩
    · unfold repL repN
      refine AW.st teOk [] (by simp [-Option.some.injEq] <;> rfl) trivial ?_
      refine AW.iff false (by simp) (fun h => by cases h) (fun _ => AW.skip ⟨_, Weak.normS hA [3, 9] [(9, 0)] [] [] 1 _ (by simp) (by simp) (by simp), by simp⟩)
    · unfold repL repN
      have h1' : ¬ (e.fin : Int) < 1 := by omega
      have h2' : ¬ (e.dep : Int) > e.fds.length := by omega
      have h2'' : ¬ e.dep > e.fds.length := by omega
      refine AW.st teOk [] (by simp [h1', h2', h2'', -Option.some.injEq] <;> rfl) trivial ?_
      refine AW.iff false (by simp) (fun h => by cases h) (fun _ => AW.skip ⟨_, Weak.normS hA [3, 9] [(9, 0)] [] [] 1 _ (by simp) (by simp) (by simp), by simp⟩)
  rintro s rfl
  refine AW.st teOk [] (by simp [-Option.some.injEq] <;> rfl) trivial ?_
  refine AW.st teOk [.fz (.agg (encXp x0))] (by simp [-Option.some.injEq] <;> rfl) ?_ ?_
  · simpa using c2
  refine AW.seq ?_
  refine AW.st teOk [] (by simp [-Option.some.injEq] <;> rfl) trivial ?_
  refine AW.block (AW.loop (fun m' s => ∃ (i : Nat) (s1 : XpS), m' = 400 - i ∧ i ≤ 60 ∧ JE ins M i s1 ∧ s = ⟨[(3, .c (encIs sc)), (9, .c (.ptr 0 0 0)), (12, .c (.ptr 1 0 0)), (13, .c (cI i))], [(0, ⟨4, [encPg M 0 0 ins]⟩), (1, ⟨9, [encXp s1]⟩)], 2⟩) (400 - 0) (Weak.normS hA [3, 9, 12, 13] [(9, 0), (12, 1)] [] [] 2 _ (by simp) (by simp) (by simp)) ⟨0, x0, rfl, Nat.zero_le _, hJ0, by simp⟩ ?_)
  rintro m' s ⟨i, s1, rfl, hi, hJ, rfl⟩
  have hlow := hJ.low hp
  have hd := hJ.d
  have hok := hJ.j.ok hp (by omega)
  obtain ⟨n1, N1, hN1, hw1⟩ := hok.w
  have hsf := hJ.j.safe
  have c3 := acts_pure s1 (by have := hok.k; omega) (by have := hw1.al; omega)
  have c4 := safe_pure s1 hw1 hN1
  rw [hsf] at c4
  have hinc : IntKind.i64.wrap ((i : Int) + 1) = (i : Int) + 1 := wrap_s _ (by omega)
  have hal := acts_len s1
  have hk20 := hok.k
  have hal12 := hw1.al
  have hlen0 : (actsX s1).length = s1.g.pks.length := by rw [hJ.acts, actsD_len]
  refine AW.seq ?_
  refine AW.st teOk [] (by simp [-Option.some.injEq] <;> rfl) trivial ?_
  refine AW.iff true (by simp; omega) (fun _ => AW.skip ?_) (fun h => by cases h)
  refine AW.seq (AW.block ?_)
  obtain ⟨L, hL⟩ : ∃ L, L = actsX s1 := ⟨_, rfl⟩
  rw [← hL] at c3 hal hlen0
  refine AW.st teOk [.fz (.c (.row 2 false (L.map encA)))] (by simp [-Option.some.injEq] <;> rfl) ?_ ?_
  · simpa using c3
  refine AW.seq ?_
  refine AW.st teOk [.fz (.c (cB true))] (by simp [-Option.some.injEq] <;> rfl) ?_ ?_
  · simpa using c4
  refine AW.iff false (by simp) (fun h => by cases h) (fun _ => AW.skip ?_)
  refine AW.seq ?_
  refine AW.st teOk [] (by simp [-Option.some.injEq] <;> rfl) trivial ?_
  by_cases hz : L.length = 0
  · refine AW.iff true (by simp [hz]) (fun _ => ?_) (fun h => by cases h)
    have hend := hJ.ends hp (by omega)
    refine AW.to (s2 := ⟨[(9, .c (.ptr 0 0 0)), (12, .c (.ptr 1 0 0))], [(0, ⟨4, [encPg M 0 0 ins]⟩), (1, ⟨9, [encXp s1]⟩)], 2⟩) (Weak.normS hA [9, 12] [(9, 0), (12, 1)] [] [] 2 _ (by simp) (by simp) (by simp)) (by simp) ?_
    refine AW.st teOk [] (by simp [-Option.some.injEq] <;> rfl) trivial ?_
    refine AW.seq ?_
    refine AW.st teOk [] (by simp [-Option.some.injEq] <;> rfl) trivial ?_
    refine AW.block (AW.loop (fun m' s => ∃ (j : Nat), m' = ins.length - j ∧ j ≤ ins.length ∧ s = ⟨[(9, .c (.ptr 0 0 0)), (12, .c (.ptr 1 0 0)), (15, .c (cI (insN2 (ins.take j)))), (16, .c (cI j))], [(0, ⟨4, [encPg M 0 0 ins]⟩), (1, ⟨9, [encXp s1]⟩)], 2⟩) (ins.length - 0) (Weak.normS hA [9, 12, 15, 16] [(9, 0), (12, 1)] [] [] 2 _ (by simp) (by simp) (by simp)) ⟨0, rfl, Nat.zero_le _, by simp [insN2]⟩ ?_)
    rintro m' s ⟨j, rfl, hj, rfl⟩
    refine AW.seq ?_
    refine AW.st teOk [] (by simp [-Option.some.injEq] <;> rfl) trivial ?_
    refine AW.iff (decide (j < ins.length)) (by simp) (fun h => AW.skip ?_) (fun h => AW.exit (x_then (x_then (blockA_exit ?_))))
    · rw [decide_eq_true_eq] at h
      obtain ⟨l2, hl2⟩ : ∃ l2, ins[j]? = some l2 := ⟨_, List.getElem?_eq_getElem h⟩
      have htk := insN2_take hl2
      have hb1 := insN2_le (ins.take j) fun q hq => (hp.two q (List.mem_of_mem_take hq)).1
      have hb2 := (hp.two l2 (List.mem_of_getElem? hl2)).1
      rw [List.length_take] at hb1
      have hw : IntKind.i64.wrap ((insN2 (ins.take j) : Int) + (l2.length : Int)) = (insN2 (ins.take (j + 1)) : Int) := by rw [htk, IntKind.wrap_i64]; omega
      have hincj : IntKind.i64.wrap ((j : Int) + 1) = (j : Int) + 1 := wrap_s _ (by omega)
      refine AW.seq (AW.block ?_)
      refine AW.text teOk (ans := []) (by simp [hl2, hw, -Option.some.injEq] <;> rfl) ?_ ?_
      · simpa using h
      refine AW.text teOk (ans := []) (by simp [-Option.some.injEq] <;> rfl) ?_ ?_
      · trivial
      refine ⟨_, _, Weak.normS hA [9, 12, 15, 16] [(9, 0), (12, 1)] [] [] 2 _ (by simp) (by simp) (by simp), ?_, j + 1, rfl, h, ?_⟩
      · omega
      · simp [hincj]
    have hjl : j = ins.length := by
      rw [decide_eq_false_iff_not] at h
      omega
    rw [hjl, List.take_length, ← hend]
    refine AW.st teOk [.fz (.c (cB true))] (by simp [-Option.some.injEq] <;> rfl) ?_ ?_
    · exact awake40_pure
    refine AW.ret ⟨.inr rfl, _, Weak.refl _, ?_⟩
    simp
  · obtain ⟨q, hq⟩ : ∃ q : Nat, indexI (atI sc i) L.length = q := ⟨(indexI (atI sc i) L.length).toNat, by have := index_lt (atI sc i) (k := L.length) (by omega) (by omega); omega⟩
    have hql : q < L.length := by have := index_lt (atI sc i) (k := L.length) (by omega) (by omega); omega
    obtain ⟨a, ha⟩ : ∃ a, L[q]? = some a := ⟨_, List.getElem?_eq_getElem hql⟩
    have hma : a ∈ actsX s1 := by rw [← hL]; exact List.mem_of_getElem? ha
    have c5 := perf_pure s1 hw1 hN1 hok.lo hok.am a
    have c6 := ((hJ.j.perf hp hma).ok hp (by omega)).can
    have c7 := at_pure sc i hsc
    have c8 := index_pure' (atI sc i) L.length
    rw [hq] at c8
    refine AW.iff false (by simp [hz]) (fun h => by cases h) (fun _ => AW.skip ?_)
    refine AW.draw mixed teOk (ans := [.c (cI (atI sc i)), .c (cI q), .agg (encXp (perfX s1 a)), .agg (encXp (canX (perfX s1 a)))]) (by simp [ha, -Option.some.injEq] <;> rfl) (by kernel_rfl) (by kernel_rfl) ?_ ?_
    · simp [allP]
      exact ⟨c7, c8, hql, c5, c6⟩
    refine AW.text teOk (ans := []) (by simp [-Option.some.injEq] <;> rfl) ?_ ?_
    · trivial
    refine ⟨_, _, Weak.normS hA [3, 9, 12, 13] [(9, 0), (12, 1)] [] [] 2 _ (by simp) (by simp) (by simp), ?_, i + 1, canX (perfX s1 a), rfl, by omega, hJ.step hp hma, ?_⟩
    · omega
    · simp [hinc]
theorem exploreSafe_row (na : Int) (l : List Int) (nl : Int) (sc : List Int) (_ : (Lit.int .i64 na).wf = true) (_ : l.length < 4000000000000000000) (_ : (Lit.int .i64 nl).wf = true) (hsc : sc.length < 4000000000000000000) : Pure Tryd.prog 4 [.c (cI na), .c (encIs l), .c (cI nl), .c (encIs sc)] (.c (cB true)) := xsafe_pure na l nl sc hsc
end Go.Proofs.YtphlhadgcfndhaaDoor.Abs
end
