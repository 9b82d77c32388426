/- Joined for the claim: WXpro WRl WRm -/
import Derived.Test.YtphlhadgcfndhaaGreatDoorJd15
import Derived.Test.YtphlhadgcfndhaaGreatDoorJd13
section
namespace Go.Proofs.YtphlhadgcfndhaaGreatDoor.Abs
open Go Go.RowKit
set_option linter.unusedVariables false
set_option linter.unusedSimpArgs false
set_option maxHeartbeats 4000000
def vecQ (n : Int) (k : Nat) : Nat → V2
  | 0 => []
  | a + 1 => if digitI n 3 (1 + 2 * k + (a + 1)) > 0 then vecQ n k a ++ [(((a + 1 : Nat) : Int), digitI n 3 (1 + 2 * k + (a + 1)))] else vecQ n k a
def insQ (n : Int) : Nat → List V2
  | 0 => []
  | k + 1 => insQ n k ++ [vecQ n k 2]
def cntQ (n : Int) : Nat := (digitI n 3 0).toNat
def allQ (l : List Int) : Nat → List (List V2)
  | 0 => []
  | i + 1 => allQ l i ++ [insQ (l.getD i 0) (cntQ (l.getD i 0))]
def progI (l : List Int) : List (List V2) := allQ l (min l.length 2)
theorem vecQ_ok (n : Int) (k : Nat) : ∀ a : Nat, a ≤ 2 → V4 (vecQ n k a) ∧ (∀ e ∈ vecQ n k a, e.1 ≤ a) ∧ (vecQ n k a).length ≤ a ∧ Sub (vecQ n k a) topV
  | 0, _ => ⟨V4.nil, (fun e he => by cases he), Nat.le_refl _, nil_sub top_val⟩
  | a + 1, ha => by
    obtain ⟨h1, h2, h3, h4⟩ := vecQ_ok n k a (by omega)
    have hd := digit_lt n (b := 3) (by omega) (1 + 2 * k + (a + 1))
    unfold vecQ
    split
    · rename_i hp
      generalize digitI n 3 (1 + 2 * k + (a + 1)) = d at *
      generalize vecQ n k a = v at *
      have hc : ∀ x, cnt (v ++ [(((a + 1 : Nat) : Int), d)]) x = if x = ((a + 1 : Nat) : Int) then d else cnt v x := fun x => by
        clear h1 h3 h4
        induction v with
        | nil => simp only [List.nil_append, cnt]; split <;> split <;> first | rfl | omega
        | cons e v ih =>
          have := h2 e (by simp)
          rw [List.cons_append, cnt_cons, cnt_cons, ih fun e he => h2 e (by simp [he])]
          split
          · rw [if_neg (by omega)]
          · rfl
      refine ⟨⟨⟨fun e he => ?_, ?_⟩, fun x => ?_, fun x hx => ?_⟩, fun e he => ?_, by simp; omega, fun x => ?_⟩
      · rcases List.mem_append.1 he with he | he
        · exact h1.val.1 e he
        · rw [List.mem_singleton.1 he]
          exact ⟨by show (1 : Int) ≤ ((a + 1 : Nat) : Int); omega, by show 1 ≤ d; omega, by show d ≤ _; omega⟩
      · refine List.pairwise_append.2 ⟨h1.val.2, List.pairwise_singleton _ _, fun e he f hf => ?_⟩
        rw [List.mem_singleton.1 hf]
        have := h2 e he
        show e.1 < ((a + 1 : Nat) : Int)
        omega
      · rw [hc]
        split
        · omega
        · exact h1.c x
      · rw [hc, if_neg (by omega)]
        exact h1.a x hx
      · rcases List.mem_append.1 he with he | he
        · have := h2 e he
          omega
        · rw [List.mem_singleton.1 he]
          show ((a + 1 : Nat) : Int) ≤ _
          omega
      · rw [hc]
        split
        · rename_i hx
          have : cnt topV x = 2 := by
            have : a = 0 ∨ a = 1 := by omega
            rcases this with rfl | rfl
            · rw [hx]; decide
            · rw [hx]; decide
          omega
        · exact h4 x
    · exact ⟨h1, fun e he => by have := h2 e he; omega, by omega, h4⟩
theorem insQ_ok (n : Int) : ∀ k : Nat, (insQ n k).length = k ∧ ∀ v ∈ insQ n k, V4 v ∧ Sub v topV
  | 0 => ⟨rfl, (fun v hv => by cases hv)⟩
  | k + 1 => by
    obtain ⟨h1, h2⟩ := insQ_ok n k
    unfold insQ
    refine ⟨by simp [h1], fun v hv => ?_⟩
    rcases List.mem_append.1 hv with hv | hv
    · exact h2 v hv
    · rw [List.mem_singleton.1 hv]
      have := vecQ_ok n k 2 (by omega)
      exact ⟨this.1, this.2.2.2⟩
theorem cntQ_is (n : Int) : (cntQ n : Int) = digitI n 3 0 ∧ cntQ n ≤ 2 := by
  have := digit_lt n (b := 3) (by omega) 0
  unfold cntQ
  omega
theorem allQ_ok (l : List Int) : ∀ i : Nat, (allQ l i).length = i ∧ ∀ x ∈ allQ l i, x.length ≤ 2 ∧ ∀ v ∈ x, V4 v ∧ Sub v topV
  | 0 => ⟨rfl, (fun v hv => by cases hv)⟩
  | i + 1 => by
    obtain ⟨h1, h2⟩ := allQ_ok l i
    unfold allQ
    refine ⟨by simp [h1], fun v hv => ?_⟩
    rcases List.mem_append.1 hv with hv | hv
    · exact h2 v hv
    · rw [List.mem_singleton.1 hv]
      obtain ⟨h3, h4⟩ := insQ_ok (l.getD i 0) (cntQ (l.getD i 0))
      have := (cntQ_is (l.getD i 0)).2
      exact ⟨by omega, h4⟩
/-- How many acceptors. -/
def accQ (n : Int) : Nat := (1 + indexI n 2).toNat
theorem accQ_is (n : Int) : (accQ n : Int) = 1 + indexI n 2 ∧ 1 ≤ accQ n ∧ accQ n ≤ 2 := by
  have := index_lt n (k := 2) (by omega) (by omega)
  unfold accQ
  omega
theorem prog_pins (n : Int) (l : List Int) : PIns (progI l) (accQ n) := by
  have h := allQ_ok l (min l.length 2)
  have := accQ_is n
  exact ⟨by omega, by unfold progI; omega, h.2⟩
theorem idx2 (n : Int) : 0 ≤ indexI n 2 ∧ indexI n 2 ≤ 2 := by
  have := index_lt n (k := 2) (by omega) (by omega)
  omega
@[simp] def zPg : List Cell := [cI 0, nilC, cI 0, cI 0]
theorem prog_pure (na : Int) (l : List Int) (nl nm : Int) : Pure Tryz.prog 5 [.c (cI na), .c (encIs l), .c (cI nl), .c (cI nm)] (.agg (encPg (accQ na) (indexI nl 2) (indexI nm 2) (progI l))) := by
  obtain ⟨ha1, ha2, ha3⟩ := accQ_is na
  have hwa : IntKind.i64.wrap (1 + indexI na 2) = accQ na := by rw [← ha1, IntKind.wrap_i64]; omega
  obtain ⟨P, hP⟩ : ∃ P, P = progI l := ⟨_, rfl⟩
  refine pure_of teOk Tryz.func5 (by kernel_rfl) (c := _) rfl (N := 76) rfl (rs := [Go.ResultVar.cell 8 27]) rfl (by simp) fun base A w0 hA => ?_
  refine AW.st teOk [] (by simp [-Option.some.injEq] <;> rfl) trivial ?_
  refine AW.st teOk [.fz (.c (cI (indexI na 2))), .fz (.c (cI (indexI nl 2))), .fz (.c (cI (indexI nm 2)))] (by simp [hwa, -Option.some.injEq] <;> rfl) ?_ ?_
  · exact ⟨index_pure' _ _, index_pure' _ _, index_pure' _ _⟩
  generalize indexI nl 2 = lo at *
  generalize indexI nm 2 = am at *
  generalize accQ na = M at *
  clear hwa ha1
  refine AW.to (s2 := ⟨[(1, .c (encIs l)), (8, .c (.ptr 0 0 0)), (9, .c (.ptr 1 0 0))], [(0, ⟨4, [zPg]⟩), (1, ⟨4, [[cI M, .ref 2 0 0, cI lo, cI am]]⟩), (2, ⟨1, []⟩)], 3⟩) ((Weak.nilP 9 1 1 _ (by simp <;> rfl) (by simp <;> exact ⟨rfl, rfl⟩) rfl (by simp)).trans (Weak.normS hA [1, 8, 9] [(8, 0), (9, 1)] [(8, 2)] [6] 3 _ (by simp [putA]) (by simp [putA]) (by simp [putA]))) (by simp [putA]) ?_
  refine AW.seq ?_
  refine AW.st teOk [] (by simp [-Option.some.injEq] <;> rfl) trivial ?_
  refine AW.block (AW.loop (fun m s => ∃ i : Nat, i ≤ min l.length 2 ∧ m = min l.length 2 - i ∧ s = ⟨[(1, .c (encIs l)), (8, .c (.ptr 0 0 0)), (9, .c (.ptr 1 0 0)), (10, .c (cI i))], [(0, ⟨4, [zPg]⟩), (1, ⟨4, [[cI M, .ref 2 0 i, cI lo, cI am]]⟩), (2, ⟨1, (allQ l i).map encIn⟩)], 3⟩) _ (Weak.normS hA [1, 8, 9, 10] [(8, 0), (9, 1)] [(2, 2)] [1] 3 _ (by simp) (by simp) (by simp)) ⟨0, Nat.zero_le _, rfl, by simp [allQ]⟩ ?_)
  rintro m s ⟨i, hi, rfl, rfl⟩
  have hal := (allQ_ok l i).1
  refine AW.seq ?_
  by_cases hlt : i < min l.length 2
  · have hlt1 : i < l.length := by omega
    have hlt2 : i < 2 := by omega
    have hlt2' : (i : Int) < 2 := by omega
    obtain ⟨n, hn⟩ : ∃ n, l[i]? = some n := ⟨_, List.getElem?_eq_getElem hlt1⟩
    have hgn : l.getD i 0 = n := by rw [List.getD_eq_getElem?_getD, hn]; rfl
    have hinc : IntKind.i64.wrap ((i : Int) + 1) = (i : Int) + 1 := wrap_s _ (by omega)
    have hall : allQ l (i + 1) = allQ l i ++ [insQ n (cntQ n)] := by rw [allQ, hgn]
    obtain ⟨hm1, hm2⟩ := cntQ_is n
    generalize allQ l i = A0 at *
    refine AW.st teOk [] (by simp [hlt1, hlt2', -Option.some.injEq] <;> rfl) trivial ?_
    refine AW.iff true (by simp) (fun _ => AW.skip ?_) (fun h => by cases h)
    refine AW.mid (fun s => s = ⟨[(1, .c (encIs l)), (8, .c (.ptr 0 0 0)), (9, .c (.ptr 1 0 0)), (10, .c (cI i))], [(0, ⟨4, [zPg]⟩), (1, ⟨4, [[cI M, .ref 2 0 (i + 1), cI lo, cI am]]⟩), (2, ⟨1, (allQ l (i + 1)).map encIn⟩)], 3⟩) (AW.block ?_) ?_
    · refine AW.st teOk [] (by simp [-Option.some.injEq] <;> rfl) trivial ?_
      refine AW.weak (Weak.nil 11 1 _ (by simp <;> rfl)) ?_
      refine AW.mid (fun s => s = ⟨[(1, .c (encIs l)), (8, .c (.ptr 0 0 0)), (9, .c (.ptr 1 0 0)), (10, .c (cI i)), (11, .c (encVs (insQ n (cntQ n))))], [(0, ⟨4, [zPg]⟩), (1, ⟨4, [[cI M, .ref 2 0 i, cI lo, cI am]]⟩), (2, ⟨1, (A0).map encIn⟩)], 3⟩) ?_ ?_
      · refine AW.st teOk [] (by simp [-Option.some.injEq] <;> rfl) trivial ?_
        refine AW.block (AW.loop (fun m s => ∃ k : Nat, k ≤ cntQ n ∧ m = cntQ n - k ∧ s = ⟨[(1, .c (encIs l)), (8, .c (.ptr 0 0 0)), (9, .c (.ptr 1 0 0)), (10, .c (cI i)), (11, .c (.ref 3 0 k)), (12, .c (cI k))], [(0, ⟨4, [zPg]⟩), (1, ⟨4, [[cI M, .ref 2 0 i, cI lo, cI am]]⟩), (2, ⟨1, (A0).map encIn⟩), (3, ⟨1, (insQ n k).map encC⟩)], 4⟩) _ (Weak.normS hA [1, 8, 9, 10, 11, 12] [(8, 0), (9, 1), (11, 3)] [(2, 2)] [1] 4 _ (by simp) (by simp) (by simp)) ⟨0, Nat.zero_le _, rfl, by simp [insQ]⟩ ?_)
        rintro m s ⟨k, hk, rfl, rfl⟩
        have hil := (insQ_ok n k).1
        refine AW.seq ?_
        refine AW.st teOk [.fz (.c (cI (digitI n 3 0)))] (by simp [hn, ← hm1, -Option.some.injEq] <;> rfl) ?_ ?_
        · exact ⟨hlt1, by rw [hm1]; exact digit_pure' n 3 0 (by omega) (by omega)⟩
        refine AW.iff (decide (k < cntQ n)) (by simp) (fun h => AW.skip ?_) (fun h => AW.exit (x_then (x_then (blockA_exit ?_))))
        · rw [decide_eq_true_eq] at h
          have hinck : IntKind.i64.wrap ((k : Int) + 1) = (k : Int) + 1 := wrap_s _ (by omega)
          have hins : insQ n (k + 1) = insQ n k ++ [vecQ n k 2] := rfl
          generalize insQ n k = A1 at *
          refine AW.mid (fun s => s = ⟨[(1, .c (encIs l)), (8, .c (.ptr 0 0 0)), (9, .c (.ptr 1 0 0)), (10, .c (cI i)), (11, .c (.ref 3 0 (k + 1))), (12, .c (cI k))], [(0, ⟨4, [zPg]⟩), (1, ⟨4, [[cI M, .ref 2 0 i, cI lo, cI am]]⟩), (2, ⟨1, (A0).map encIn⟩), (3, ⟨1, (insQ n (k + 1)).map encC⟩)], 4⟩) (AW.block ?_) ?_
          · refine AW.st teOk [] (by simp [-Option.some.injEq] <;> rfl) trivial ?_
            refine AW.weak (Weak.nil 13 2 _ (by simp <;> rfl)) ?_
            refine AW.mid (fun s => s = ⟨[(1, .c (encIs l)), (8, .c (.ptr 0 0 0)), (9, .c (.ptr 1 0 0)), (10, .c (cI i)), (11, .c (.ref 3 0 k)), (12, .c (cI k)), (13, .c (encV (vecQ n k 2)))], [(0, ⟨4, [zPg]⟩), (1, ⟨4, [[cI M, .ref 2 0 i, cI lo, cI am]]⟩), (2, ⟨1, (A0).map encIn⟩), (3, ⟨1, A1.map encC⟩)], 4⟩) ?_ ?_
            · refine AW.st teOk [] (by simp [-Option.some.injEq] <;> rfl) trivial ?_
              refine AW.block (AW.loop (fun m s => ∃ a b : Nat, a ≤ 2 ∧ b = a + 1 ∧ m = 2 - a ∧ s = ⟨[(1, .c (encIs l)), (8, .c (.ptr 0 0 0)), (9, .c (.ptr 1 0 0)), (10, .c (cI i)), (11, .c (.ref 3 0 k)), (12, .c (cI k)), (13, .c (.ref 4 0 (vecQ n k a).length)), (14, .c (cI b))], [(0, ⟨4, [zPg]⟩), (1, ⟨4, [[cI M, .ref 2 0 i, cI lo, cI am]]⟩), (2, ⟨1, (A0).map encIn⟩), (3, ⟨1, A1.map encC⟩), (4, ⟨2, (vecQ n k a).map encE⟩)], 5⟩) (2 - 0) (Weak.normS hA [1, 8, 9, 10, 11, 12, 13, 14] [(8, 0), (9, 1), (11, 3), (13, 4)] [(2, 2)] [1] 5 _ (by simp) (by simp) (by simp)) ⟨0, 1, Nat.zero_le _, rfl, rfl, by simp [vecQ]⟩ ?_)
              rintro m s ⟨a, b, ha, hb, rfl, rfl⟩
              obtain ⟨_, _, hvl, _⟩ := vecQ_ok n k a ha
              refine AW.seq ?_
              refine AW.st teOk [] (by simp [-Option.some.injEq] <;> rfl) trivial ?_
              refine AW.iff (decide (a < 2)) (by simp <;> omega) (fun h => AW.skip ?_) (fun h => AW.exit (x_then (x_then (blockA_exit ?_))))
              · rename_i h3
                rw [decide_eq_true_eq] at h
                have hincb : IntKind.i64.wrap ((b : Int) + 1) = (b : Int) + 1 := wrap_s _ (by omega)
                have hw2 : IntKind.i64.wrap (2 * (k : Int)) = 2 * (k : Int) := by rw [IntKind.wrap_i64]; omega
                have hw3 : IntKind.i64.wrap (1 + 2 * (k : Int)) = 1 + 2 * (k : Int) := by rw [IntKind.wrap_i64]; omega
                have hw4 : IntKind.i64.wrap (1 + 2 * (k : Int) + (b : Int)) = ((1 + 2 * k + (a + 1) : Nat) : Int) := by rw [IntKind.wrap_i64]; omega
                obtain ⟨q, hq⟩ : ∃ q, q = 1 + 2 * k + (a + 1) := ⟨_, rfl⟩
                rw [← hq] at hw4
                have hvec : vecQ n k (a + 1) = if digitI n 3 q > 0 then vecQ n k a ++ [(((b : Nat) : Int), digitI n 3 q)] else vecQ n k a := by rw [vecQ, ← hq, ← hb]
                have hdp := digit_pure' n 3 q (by omega) (by omega)
                generalize vecQ n k a = v at *
                generalize digitI n 3 q = d at *
                refine AW.mid (fun s => s = ⟨[(1, .c (encIs l)), (8, .c (.ptr 0 0 0)), (9, .c (.ptr 1 0 0)), (10, .c (cI i)), (11, .c (.ref 3 0 k)), (12, .c (cI k)), (13, .c (.ref 4 0 (vecQ n k (a + 1)).length)), (14, .c (cI b))], [(0, ⟨4, [zPg]⟩), (1, ⟨4, [[cI M, .ref 2 0 i, cI lo, cI am]]⟩), (2, ⟨1, (A0).map encIn⟩), (3, ⟨1, A1.map encC⟩), (4, ⟨2, (vecQ n k (a + 1)).map encE⟩)], 5⟩) (AW.block ?_) ?_
                · refine AW.st teOk [.fz (.c (cI d))] (by simp [hn, hw2, hw3, hw4, -Option.some.injEq] <;> rfl) ?_ ?_
                  · exact ⟨hlt1, hdp⟩
                  refine AW.st teOk [] (by simp [-Option.some.injEq] <;> rfl) trivial ?_
                  by_cases hd : d > 0
                  · refine AW.iff true (by simp; omega) (fun _ => ?_) (fun h => by cases h)
                    rw [hvec, if_pos hd]
                    refine AW.text teOk (ans := []) (by simp [-Option.some.injEq] <;> rfl) ?_ ?_
                    · simp [growOk]
                      omega
                    exact ⟨_, Weak.normS hA [1, 8, 9, 10, 11, 12, 13, 14] [(8, 0), (9, 1), (11, 3), (13, 4)] [(2, 2)] [1] 5 _ (by simp) (by simp) (by simp), by simp⟩
                  · refine AW.iff false (by simp; omega) (fun h => by cases h) (fun _ => AW.skip ?_)
                    rw [hvec, if_neg hd]
                    exact ⟨_, Weak.normS hA [1, 8, 9, 10, 11, 12, 13, 14] [(8, 0), (9, 1), (11, 3), (13, 4)] [(2, 2)] [1] 5 _ (by simp) (by simp) (by simp), by simp⟩
                rintro s rfl
                refine AW.text teOk (ans := []) (by simp [-Option.some.injEq] <;> rfl) ?_ ?_
                · trivial
                refine ⟨_, _, Weak.normS hA [1, 8, 9, 10, 11, 12, 13, 14] [(8, 0), (9, 1), (11, 3), (13, 4)] [(2, 2)] [1] 5 _ (by simp) (by simp) (by simp), ?_, a + 1, b + 1, h, by omega, rfl, ?_⟩
                · omega
                · simp [hincb]
              have hend : a = 2 := by
                rw [decide_eq_false_iff_not] at h
                omega
              subst hend
              exact ⟨_, (Weak.frzT 13 [] _ (by simp <;> exact ⟨rfl, rfl, rfl⟩) (by simp <;> rfl) (by simp)).trans (Weak.normS hA [1, 8, 9, 10, 11, 12, 13] [(8, 0), (9, 1), (11, 3)] [(2, 2)] [1] 4 _ (by simp) (by simp) (by simp)), by simp⟩
            rintro s rfl
            refine AW.text teOk (ans := []) (by simp [-Option.some.injEq] <;> rfl) ?_ ?_
            · simp [growOk]
              omega
            exact ⟨_, Weak.normS hA [1, 8, 9, 10, 11, 12] [(8, 0), (9, 1), (11, 3)] [(2, 2)] [1] 4 _ (by simp) (by simp) (by simp), by simp [hins, hil]⟩
          rintro s rfl
          refine AW.text teOk (ans := []) (by simp [-Option.some.injEq] <;> rfl) ?_ ?_
          · trivial
          refine ⟨_, _, Weak.normS hA [1, 8, 9, 10, 11, 12] [(8, 0), (9, 1), (11, 3)] [(2, 2)] [1] 4 _ (by simp) (by simp) (by simp), ?_, k + 1, h, rfl, ?_⟩
          · omega
          · simp [hinck]
        have hend : k = cntQ n := by
          rw [decide_eq_false_iff_not] at h
          omega
        subst hend
        have htk : ((insQ n (cntQ n)).map encC).take (cntQ n) = (insQ n (cntQ n)).map encC := List.take_of_length_le (by rw [List.length_map, hil]; exact Nat.le_refl _)
        exact ⟨_, (Weak.frzT 11 [] _ (by simp <;> exact ⟨rfl, rfl, rfl⟩) (by simp <;> rfl) (by simp)).trans (Weak.normS hA [1, 8, 9, 10, 11] [(8, 0), (9, 1)] [(2, 2)] [1] 3 _ (by simp) (by simp) (by simp)), by simp [hil, htk]⟩
      rintro s rfl
      refine AW.text teOk (ans := []) (by simp [-Option.some.injEq] <;> rfl) ?_ ?_
      · simp [growOk]
        omega
      exact ⟨_, Weak.normS hA [1, 8, 9, 10] [(8, 0), (9, 1)] [(7, 2)] [1] 3 _ (by simp) (by simp) (by simp), by simp [hall, hal]⟩
    rintro s rfl
    refine AW.text teOk (ans := []) (by simp [-Option.some.injEq] <;> rfl) ?_ ?_
    · trivial
    refine ⟨_, _, Weak.normS hA [1, 8, 9, 10] [(8, 0), (9, 1)] [(2, 2)] [1] 3 _ (by simp) (by simp) (by simp), ?_, i + 1, hlt, rfl, ?_⟩
    · omega
    · simp [hinc]
  have hend : i = min l.length 2 := by omega
  have hPe : allQ l i = P := by rw [hP, hend]; rfl
  rw [hPe] at hal ⊢
  rw [← hP]
  refine AW.mid (fun s => s = ⟨[(1, .c (encIs l)), (8, .c (.ptr 0 0 0)), (9, .c (.ptr 1 0 0)), (10, .c (cI i)), (31, .c (cB false))], [(0, ⟨4, [zPg]⟩), (1, ⟨4, [[cI M, .ref 2 0 i, cI lo, cI am]]⟩), (2, ⟨1, (P).map encIn⟩)], 3⟩) ?_ ?_
  · by_cases h1 : i < l.length
    · have h2 : ¬ (i : Int) < 2 := by omega
      refine AW.text teOk (ans := []) (by simp [h1, h2, -Option.some.injEq] <;> rfl) ?_ ?_
      · trivial
      exact ⟨_, Weak.normS hA [1, 8, 9, 10, 31] [(8, 0), (9, 1)] [(2, 2)] [1] 3 _ (by simp) (by simp) (by simp), by simp⟩
    · refine AW.text teOk (ans := []) (by simp [h1, -Option.some.injEq] <;> rfl) ?_ ?_
      · trivial
      exact ⟨_, Weak.normS hA [1, 8, 9, 10, 31] [(8, 0), (9, 1)] [(2, 2)] [1] 3 _ (by simp) (by simp) (by simp), by simp⟩
  rintro s rfl
  refine AW.iff false (by simp) (fun h => by cases h) (fun _ => AW.exit (x_then (x_then (blockA_exit ?_))))
  have htk : (P.map encIn).take i = P.map encIn := List.take_of_length_le (by rw [List.length_map, hal]; exact Nat.le_refl _)
  refine AW.to (s2 := ⟨[(8, .c (.ptr 0 0 0)), (9, .c (.ptr 1 0 0))], [(0, ⟨4, [zPg]⟩), (1, ⟨4, [encPg M lo am P]⟩)], 2⟩) ((Weak.freeze 2 ⟨1, P.map encIn⟩ [1] _ (by simp) (by simp)).trans (Weak.normS hA [8, 9] [(8, 0), (9, 1)] [] [1] 2 _ (by simp [hal, htk]) (by simp [hal, htk]) (by simp [hal, htk]))) (by simp [hal, htk]) ?_
  refine AW.st teOk [] (by simp [-Option.some.injEq] <;> rfl) trivial ?_
  refine AW.ret ⟨.inr rfl, _, Weak.refl _, ?_⟩
  simp
end Go.Proofs.YtphlhadgcfndhaaGreatDoor.Abs
end
section
namespace Go.Proofs.YtphlhadgcfndhaaGreatDoor.Abs
open Go Go.RowKit
set_option linter.unusedVariables false
set_option linter.unusedSimpArgs false
set_option maxHeartbeats 4000000
theorem JX.rsm {ins : List (List V2)} {m k : Nat} {am0 : Int} (h0 : PIns ins m) (hk : k ≤ 5000) {s : XpS} (h : JX ins m am0 k s) : RSm s := by
  have hok := h.ok h0 hk
  have hsm := hok.sm.sm
  have hde := h.x.decs h0.x
  have hpk := h.x.pks h0.x
  have e1 := h.x.w.nn.x
  have e2 := h.x.w.nn.i
  have e3 := h.x.w.nn.p
  have hil : s.g.ins.length ≤ 2 := by rw [h.x.i]; exact h0.len
  have hal : s.g.accs.length ≤ 2 := by rw [h.x.al]; exact h0.m.2
  have hw := h.x.w
  have hA : ∀ v ∈ s.g.accs, (vecN v).length ≤ 9 := fun v hv => (vec_small (hw.a v hv)).2
  have hP : ∀ q ∈ s.g.props.zip s.g.nxt, (rpF q).length ≤ 25 := fun q hq => by
    have hp := (List.of_mem_zip hq).1
    have hpw := hw.p _ hp
    obtain ⟨g1, g2⟩ := vec_small hpw.v
    have hl := acks_len hpw.asc (h.b.a _ hp)
    unfold rpF
    rw [List.length_append, List.length_append]
    simp only [List.length_cons, List.length_nil]
    omega
  have hK : ∀ q ∈ s.g.pks, (pkN q).length ≤ 13 := fun q hq => by
    have := (vec_small (hw.k q hq).1).2
    unfold pkN
    rw [List.length_append]
    simp only [List.length_cons, List.length_nil]
    omega
  have hD : ∀ d ∈ s.g.decs, (rdN d).length ≤ 11 := fun d hd => by
    have := (vec_small (hw.d d hd)).2
    unfold rdN
    rw [List.length_append]
    simp only [List.length_cons, List.length_nil]
    omega
  refine ⟨fun x hx => ?_, ?_, by omega, by omega, by omega⟩
  · unfold rkN rkH at hx
    have hin : ∀ y, y ∈ keyN (canX s) → 0 ≤ y ∧ y < 100 := hsm
    unfold keyN at hin
    rcases List.mem_append.1 hx with hx | hx
    · refine hin x (List.mem_append_left _ ?_)
      simp only [List.mem_cons, List.not_mem_nil, or_false] at hx
      have hpl : (canX s).g.pks.length = s.g.pks.length := sortP_len _
      have hdl : (canX s).g.decs.length = s.g.decs.length := by
        show (s.g.decs.map _).length = _
        rw [List.length_map]
      rw [hpl, hdl]
      rcases hx with rfl | rfl | rfl | rfl
      · exact List.mem_cons_self ..
      · exact List.mem_cons_of_mem _ (List.mem_cons_self ..)
      · simp
      · simp
    rcases List.mem_append.1 hx with hx | hx
    · exact hin x (List.mem_append_right _ (List.mem_append_left _ hx))
    rcases List.mem_append.1 hx with hx | hx
    · obtain ⟨⟨p, q⟩, hq, hx⟩ := List.mem_flatMap.1 hx
      obtain ⟨hp, hq⟩ := List.of_mem_zip hq
      have hpr : ∀ y ∈ prN p, 0 ≤ y ∧ y < 100 := fun y hy => hin y (List.mem_append_right _ (List.mem_append_right _ (List.mem_append_left _ (List.mem_flatMap.2 ⟨p, hp, hy⟩))))
      have hqn : 0 ≤ q ∧ q < 100 := hin q (List.mem_append_right _ (List.mem_append_right _ (List.mem_append_right _ (List.mem_append_right _ (List.mem_append_left _ hq)))))
      unfold rpF at hx
      unfold prN at hpr
      rcases List.mem_append.1 hx with hx | hx
      · exact hpr x (List.mem_append_left _ hx)
      rcases List.mem_append.1 hx with hx | hx
      · simp only [List.mem_cons, List.not_mem_nil, or_false] at hx
        rcases hx with rfl | rfl | rfl | rfl
        · exact hpr _ (List.mem_append_right _ (List.mem_append_left _ (by simp)))
        · exact hpr _ (List.mem_append_right _ (List.mem_append_left _ (by simp)))
        · exact hpr _ (List.mem_append_right _ (List.mem_append_left _ (by simp)))
        · exact hqn
      · exact hpr x (List.mem_append_right _ (List.mem_append_right _ hx))
    rcases List.mem_append.1 hx with hx | hx
    · obtain ⟨q, hq, hx⟩ := List.mem_flatMap.1 hx
      exact hin x (List.mem_append_right _ (List.mem_append_right _ (List.mem_append_right _ (List.mem_append_right _ (List.mem_append_right _ (List.mem_append_left _ (List.mem_flatMap.2 ⟨q, sortP_mem.2 hq, hx⟩)))))))
    · obtain ⟨d, hd, hx⟩ := List.mem_flatMap.1 hx
      have hdm : ({ d with step := 0 } : DeS) ∈ (canX s).g.decs := List.mem_map.2 ⟨d, hd, rfl⟩
      refine hin x (List.mem_append_right _ (List.mem_append_right _ (List.mem_append_right _ (List.mem_append_right _ (List.mem_append_right _ (List.mem_append_right _ (List.mem_flatMap.2 ⟨_, hdm, ?_⟩)))))))
      unfold rdN at hx
      unfold deN
      rcases List.mem_append.1 hx with hx | hx
      · refine List.mem_append_left _ ?_
        simp only [List.mem_cons, List.not_mem_nil, or_false] at hx
        rcases hx with rfl | rfl
        · simp
        · simp
      · exact List.mem_append_right _ hx
  · have l1 := flat_len vecN 9 s.g.accs fun v hv => hA v hv
    have l2 := flat_len rpF 25 (s.g.props.zip s.g.nxt) fun v hv => hP v hv
    have l4 := flat_len pkN 13 s.g.pks fun v hv => hK v hv
    have l5 := flat_len rdN 11 s.g.decs fun v hv => hD v hv
    rw [List.length_zip] at l2
    unfold rkN rkH
    simp only [List.length_append, List.length_cons, List.length_nil]
    omega
theorem JX.dec {ins : List (List V2)} {m k : Nat} {am0 : Int} {s : XpS} (h : JX ins m am0 k s) : ∀ d ∈ s.g.decs, ∃ (p q : Nat) (l : List V2) (own : V2), d.prop = p ∧ d.input = q ∧ s.g.ins[p]? = some l ∧ l[q]? = some own := fun d hd => by
  obtain ⟨_, i, l, p, v, k1, k2, k3, k4, _⟩ := h.x.v.de d hd
  exact ⟨i, d.input.toNat, l, v, k1, by omega, k2, k4⟩
/-- All that is told of a state. -/
structure XAll (s : XpS) : Prop where
  same : Pure Tryz.prog 9 [.agg (encXp s), .agg (encXp s)] (.c (cB true))
  can : Pure Tryz.prog 10 [.agg (encXp s)] (.agg (encXp (canX s)))
  rcan : Pure Tryz.prog 11 [.agg (encXp s)] (.agg (encXp (canX s)))
  act : Pure Tryz.prog 12 [.agg (encXp s)] (.c (.row 2 false ((actsX s).map encA)))
  ract : Pure Tryz.prog 13 [.agg (encXp s)] (.c (.row 2 false ((actsX s).map encA)))
  safe : Pure Tryz.prog 14 [.agg (encXp s)] (.c (cB (safeG s.g)))
  rsafe : Pure Tryz.prog 15 [.agg (encXp s)] (.c (cB (safeG s.g)))
  perf : ∀ a, Pure Tryz.prog 16 [.agg (encXp s), .agg (encA a)] (.agg (encXp (perfX s a)))
  rperf : ∀ a, Pure Tryz.prog 17 [.agg (encXp s), .agg (encA a)] (.agg (encXp (perfX s a)))
  len : (actsX s).length < 1000000
theorem JX.told {ins : List (List V2)} {m k : Nat} {am0 : Int} (h0 : PIns ins m) (hk : k ≤ 5000) {s : XpS} (h : JX ins m am0 k s) : XAll s := by
  have hok := h.ok h0 hk
  obtain ⟨m1, N1, hN1, hw1⟩ := hok.w
  have hk20 := hok.k
  have hal := hw1.al
  have hdl := hw1.dl
  have hal2 := acts_len s
  exact ⟨same40_pure s hok.b (h.rsm h0 hk), hok.can, rcan_pure s (by omega) hok.k hok.v, acts_pure s (by omega) (by omega), ract_pure s (by omega) (by omega), safe_pure s hw1 hN1, rsafe_pure s hw1 hN1 h.dec, perf_pure s hw1 hN1 hok.lo hok.am, rperf_pure s hw1 hN1 hok.lo hok.am, by omega⟩
end Go.Proofs.YtphlhadgcfndhaaGreatDoor.Abs
end
section
namespace Go.Proofs.YtphlhadgcfndhaaGreatDoor.Abs
open Go Go.RowKit
set_option linter.unusedVariables false
set_option linter.unusedSimpArgs false
set_option maxHeartbeats 4000000
theorem xsteps_pure (na : Int) (l : List Int) (nl nm : Int) (sc : List Int) (raw : List ActP) : Pure Tryz.prog 3 [.c (cI na), .c (encIs l), .c (cI nl), .c (cI nm), .c (encIs sc), .c (.row 2 false (raw.map encA))] (.c (cB true)) := by
  refine pure_of teOk Tryz.func3 (by kernel_rfl) (c := _) rfl (N := 160) rfl (rs := [Go.ResultVar.tmp 12]) rfl (by simp) fun base A w0 hA => ?_
  refine AW.st teOk [] (by simp [-Option.some.injEq] <;> rfl) trivial ?_
  refine AW.seq ?_
  by_cases h40 : (sc.length : Int) > 40
  · refine AW.st teOk [] (by simp [h40, -Option.some.injEq] <;> rfl) trivial ?_
    refine AW.iff true (by simp) (fun _ => ?_) (fun h => by cases h)
    refine AW.st teOk [.fz (.c (cB true))] (by simp [-Option.some.injEq] <;> rfl) ?_ ?_
    · exact awake40_pure
    refine AW.ret ⟨.inr rfl, _, Weak.refl _, ?_⟩
    simp
  refine AW.st teOk [] (by simp [h40, -Option.some.injEq] <;> rfl) trivial ?_
  refine AW.iff false (by simp) (fun h => by cases h) (fun _ => AW.skip ?_)
  have c0 := prog_pure (IntKind.i64.wrap (na + IntKind.i64.wrap ((sc.length : Int) / 20))) l nl nm
  have hp := prog_pins (IntKind.i64.wrap (na + IntKind.i64.wrap ((sc.length : Int) / 20))) l
  have hlo := idx2 nl
  have ham := idx2 nm
  generalize accQ (IntKind.i64.wrap (na + IntKind.i64.wrap ((sc.length : Int) / 20))) = M at *
  generalize indexI nl 2 = lo at *
  generalize indexI nm 2 = am at *
  generalize progI l = ins at *
  have hm := hp.m
  have hpl := hp.len
  have c2 := initX_pure M (by omega) hp.ok lo am
  have c3 := rinit_pure M (by omega) hp.ok lo am
  have c4 := conv_pure M lo am ins
  have hJ0 := JX.init hp hlo ham
  generalize (⟨newG M ins, lo, am⟩ : XpS) = x0 at *
  refine AW.st teOk [.fz (.agg (encPg M lo am ins))] (by simp [-Option.some.injEq] <;> rfl) ?_ ?_
  · simpa using c0
  refine AW.dr mixed teOk [.agg (encXp x0), .agg (encPg M lo am ins), .agg (encXp x0)] (by simp [-Option.some.injEq] <;> rfl) (by kernel_rfl) (by kernel_rfl) ?_ ?_
  · simp [allP]
    exact ⟨c2, c4, c3⟩
  refine AW.to (s2 := ⟨[(4, .c (encIs sc)), (5, .c (.row 2 false (raw.map encA))), (14, .c (.ptr 0 0 0)), (15, .c (.ptr 1 0 0))], [(0, ⟨9, [encXp x0]⟩), (1, ⟨9, [encXp x0]⟩)], 2⟩) (Weak.normS hA [4, 5, 14, 15] [(14, 0), (15, 1)] [] [] 2 _ (by simp) (by simp) (by simp)) (by simp) ?_
  have hA0 := hJ0.told hp (by omega)
  refine AW.seq ?_
  refine AW.st teOk [.fz (.c (cB true))] (by simp [-Option.some.injEq] <;> rfl) ?_ ?_
  · simpa using hA0.same
  refine AW.iff false (by simp) (fun h => by cases h) (fun _ => AW.skip ?_)
  refine AW.seq ?_
  refine AW.st teOk [] (by simp [-Option.some.injEq] <;> rfl) trivial ?_
  refine AW.block (AW.loop (fun m' s => ∃ (i k : Nat) (s1 : XpS), m' = sc.length - i ∧ i ≤ sc.length ∧ k ≤ i ∧ JX ins M am k s1 ∧ s = ⟨[(4, .c (encIs sc)), (5, .c (.row 2 false (raw.map encA))), (14, .c (.ptr 0 0 0)), (15, .c (.ptr 1 0 0)), (16, .c (cI i))], [(0, ⟨9, [encXp s1]⟩), (1, ⟨9, [encXp s1]⟩)], 2⟩) (sc.length - 0) (Weak.normS hA [4, 5, 14, 15, 16] [(14, 0), (15, 1)] [] [] 2 _ (by simp) (by simp) (by simp)) ⟨0, 0, x0, rfl, Nat.zero_le _, Nat.zero_le _, hJ0, by simp⟩ ?_)
  rintro m' s ⟨i, k, s0, rfl, hi, hk, hJs, rfl⟩
  refine AW.seq ?_
  refine AW.st teOk [] (by simp [-Option.some.injEq] <;> rfl) trivial ?_
  refine AW.iff (decide (i < sc.length)) (by simp) (fun h => AW.skip ?_) (fun h => AW.exit (x_then (x_then (blockA_exit ?_))))
  · rw [decide_eq_true_eq] at h
    have hinc : IntKind.i64.wrap ((i : Int) + 1) = (i : Int) + 1 := wrap_s _ (by omega)
    obtain ⟨n, hn⟩ : ∃ n, sc[i]? = some n := ⟨_, List.getElem?_eq_getElem h⟩
    have hAs := hJs.told hp (by omega)
    have hJ := hJs.can
    have hA1 := hJ.told hp (by omega)
    obtain ⟨s1, hs1⟩ : ∃ s1, s1 = canX s0 := ⟨_, rfl⟩
    have c5 := hAs.can
    have c6 := hAs.rcan
    rw [← hs1] at hJ hA1 c5 c6
    obtain ⟨L, hL⟩ : ∃ L, L = actsX s1 := ⟨_, rfl⟩
    have c7 := hA1.act
    have c8 := hA1.ract
    have hLl := hA1.len
    rw [← hL] at c7 c8 hLl
    have c9 := hA1.safe
    have c10 := hA1.rsafe
    generalize safeG s1.g = sf at *
    refine AW.seq (AW.block ?_)
    refine AW.dr mixed teOk [.agg (encXp s1), .agg (encXp s1)] (by simp [-Option.some.injEq] <;> rfl) (by kernel_rfl) (by kernel_rfl) ?_ ?_
    · simp [allP]
      exact ⟨c5, c6⟩
    refine AW.to (s2 := ⟨[(4, .c (encIs sc)), (5, .c (.row 2 false (raw.map encA))), (14, .c (.ptr 0 0 0)), (15, .c (.ptr 1 0 0)), (16, .c (cI i))], [(0, ⟨9, [encXp s1]⟩), (1, ⟨9, [encXp s1]⟩)], 2⟩) (Weak.normS hA [4, 5, 14, 15, 16] [(14, 0), (15, 1)] [] [] 2 _ (by simp) (by simp) (by simp)) (by simp) ?_
    refine AW.dr mixed teOk [.c (.row 2 false (L.map encA)), .c (.row 2 false (L.map encA))] (by simp [-Option.some.injEq] <;> rfl) (by kernel_rfl) (by kernel_rfl) ?_ ?_
    · simp [allP]
      exact ⟨c7, c8⟩
    refine AW.to (s2 := ⟨[(4, .c (encIs sc)), (5, .c (.row 2 false (raw.map encA))), (14, .c (.ptr 0 0 0)), (15, .c (.ptr 1 0 0)), (16, .c (cI i)), (17, .c (.row 2 false (L.map encA))), (18, .c (.row 2 false (L.map encA)))], [(0, ⟨9, [encXp s1]⟩), (1, ⟨9, [encXp s1]⟩)], 2⟩) (Weak.normS hA [4, 5, 14, 15, 16, 17, 18] [(14, 0), (15, 1)] [] [] 2 _ (by simp) (by simp) (by simp)) (by simp) ?_
    refine AW.seq ?_
    refine AW.dr mixed teOk [.c (cB true), .c (cB sf), .c (cB sf)] (by simp [-Option.some.injEq] <;> rfl) (by kernel_rfl) (by kernel_rfl) ?_ ?_
    · simp [allP]
      exact ⟨hA1.same, c9, c10⟩
    refine AW.iff false (by simp) (fun h => by cases h) (fun _ => AW.skip ?_)
    refine AW.mid (fun s => s = ⟨[(4, .c (encIs sc)), (5, .c (.row 2 false (raw.map encA))), (14, .c (.ptr 0 0 0)), (15, .c (.ptr 1 0 0)), (16, .c (cI i)), (17, .c (.row 2 false (L.map encA))), (18, .c (.row 2 false (L.map encA)))], [(0, ⟨9, [encXp s1]⟩), (1, ⟨9, [encXp s1]⟩)], 2⟩) ?_ ?_
    · refine AW.st teOk [] (by simp [-Option.some.injEq] <;> rfl) trivial ?_
      refine AW.block (AW.loop (fun m' s => ∃ q : Nat, m' = L.length - q ∧ q ≤ L.length ∧ s = ⟨[(4, .c (encIs sc)), (5, .c (.row 2 false (raw.map encA))), (14, .c (.ptr 0 0 0)), (15, .c (.ptr 1 0 0)), (16, .c (cI i)), (17, .c (.row 2 false (L.map encA))), (18, .c (.row 2 false (L.map encA))), (19, .c (cI q))], [(0, ⟨9, [encXp s1]⟩), (1, ⟨9, [encXp s1]⟩)], 2⟩) (L.length - 0) (Weak.normS hA [4, 5, 14, 15, 16, 17, 18, 19] [(14, 0), (15, 1)] [] [] 2 _ (by simp) (by simp) (by simp)) ⟨0, rfl, Nat.zero_le _, by simp⟩ ?_)
      rintro m' s ⟨q, rfl, hq, rfl⟩
      refine AW.seq ?_
      refine AW.st teOk [] (by simp [-Option.some.injEq] <;> rfl) trivial ?_
      refine AW.iff (decide (q < L.length)) (by simp) (fun h => AW.skip ?_) (fun h => AW.exit (x_then (x_then (blockA_exit ?_))))
      · rw [decide_eq_true_eq] at h
        obtain ⟨a, ha⟩ : ∃ a, L[q]? = some a := ⟨_, List.getElem?_eq_getElem h⟩
        have hincq : IntKind.i64.wrap ((q : Int) + 1) = (q : Int) + 1 := wrap_s _ (by omega)
        refine AW.seq (AW.block ?_)
        refine AW.dr mixed teOk [] (by simp [ha, -Option.some.injEq] <;> rfl) (by kernel_rfl) (by kernel_rfl) ?_ ?_
        · simp [allP, h]
        refine AW.iff false (by simp) (fun h => by cases h) (fun _ => AW.skip ?_)
        refine AW.text teOk (ans := []) (by simp [-Option.some.injEq] <;> rfl) ?_ ?_
        · trivial
        refine ⟨_, _, Weak.normS hA [4, 5, 14, 15, 16, 17, 18, 19] [(14, 0), (15, 1)] [] [] 2 _ (by simp) (by simp) (by simp), ?_, q + 1, rfl, h, ?_⟩
        · omega
        · simp [hincq]
      exact ⟨_, Weak.normS hA [4, 5, 14, 15, 16, 17, 18] [(14, 0), (15, 1)] [] [] 2 _ (by simp) (by simp) (by simp), by simp⟩
    rintro s rfl
    refine AW.mid (fun s => s = ⟨[(4, .c (encIs sc)), (5, .c (.row 2 false (raw.map encA))), (14, .c (.ptr 0 0 0)), (15, .c (.ptr 1 0 0)), (16, .c (cI i)), (17, .c (.row 2 false (L.map encA))), (18, .c (.row 2 false (L.map encA)))], [(0, ⟨9, [encXp s1]⟩), (1, ⟨9, [encXp s1]⟩)], 2⟩) ?_ ?_
    · refine AW.st teOk [] (by simp [-Option.some.injEq] <;> rfl) trivial ?_
      refine AW.iff (decide (i < raw.length)) (by simp) (fun h => ?_) (fun h => AW.skip ?_)
      · rw [decide_eq_true_eq] at h
        obtain ⟨r, hr⟩ : ∃ r, raw[i]? = some r := ⟨_, List.getElem?_eq_getElem h⟩
        have d1 := hA1.perf r
        have d2 := hA1.rperf r
        have d3 : Pure Tryz.prog 9 [.agg (encXp (perfX s1 r)), .agg (encXp (perfX s1 r))] (.c (cB true)) := by
          by_cases hra : r ∈ actsX s1
          · exact ((hJ.perf hp hra).told hp (by omega)).same
          · rw [show perfX s1 r = s1 by unfold perfX; rw [if_neg hra]]
            exact hA1.same
        generalize perfX s1 r = s2 at *
        refine AW.dr mixed teOk [.agg (encXp s2)] (by simp [hr, -Option.some.injEq] <;> rfl) (by kernel_rfl) (by kernel_rfl) ?_ ?_
        · simp [allP]
          exact ⟨h, d1⟩
        refine AW.dr mixed teOk [.agg (encXp s2), .c (cB true)] (by simp [hr, -Option.some.injEq] <;> rfl) (by kernel_rfl) (by kernel_rfl) ?_ ?_
        · simp [allP]
          exact ⟨h, d2, d3⟩
        refine AW.iff false (by simp) (fun h => by cases h) (fun _ => AW.skip ?_)
        exact ⟨_, Weak.normS hA [4, 5, 14, 15, 16, 17, 18] [(14, 0), (15, 1)] [] [] 2 _ (by simp) (by simp) (by simp), by simp⟩
      · exact ⟨_, Weak.normS hA [4, 5, 14, 15, 16, 17, 18] [(14, 0), (15, 1)] [] [] 2 _ (by simp) (by simp) (by simp), by simp⟩
    rintro s rfl
    refine AW.seq ?_
    refine AW.st teOk [] (by simp [-Option.some.injEq] <;> rfl) trivial ?_
    by_cases hz : L.length = 0
    · refine AW.iff true (by simp [hz]) (fun _ => ?_) (fun h => by cases h)
      refine AW.st teOk [.fz (.c (cB true))] (by simp [-Option.some.injEq] <;> rfl) ?_ ?_
      · exact awake40_pure
      refine AW.ret ⟨.inr rfl, _, Weak.refl _, ?_⟩
      simp
    refine AW.iff false (by simp [hz]) (fun h => by cases h) (fun _ => AW.skip ?_)
    obtain ⟨q, hq⟩ : ∃ q : Nat, indexI n L.length = q := ⟨(indexI n L.length).toNat, by have := index_lt n (k := L.length) (by omega) (by omega); omega⟩
    have hql : q < L.length := by have := index_lt n (k := L.length) (by omega) (by omega); omega
    obtain ⟨a, ha⟩ : ∃ a, L[q]? = some a := ⟨_, List.getElem?_eq_getElem hql⟩
    have hma : a ∈ actsX s1 := by rw [← hL]; exact List.mem_of_getElem? ha
    have e1 := hA1.perf a
    have e2 := hA1.rperf a
    have e3 := index_pure' n L.length
    rw [hq] at e3
    have hJ2 := hJ.perf hp hma
    have hA2 := hJ2.told hp (by omega)
    generalize perfX s1 a = s2 at *
    refine AW.st teOk [.fz (.c (cI q))] (by simp [hn, -Option.some.injEq] <;> rfl) ?_ ?_
    · exact ⟨h, e3⟩
    refine AW.dr mixed teOk [.agg (encXp s2), .agg (encXp s2)] (by simp [ha, -Option.some.injEq] <;> rfl) (by kernel_rfl) (by kernel_rfl) ?_ ?_
    · simp [allP]
      exact ⟨hql, e1, hql, e2⟩
    refine AW.st teOk [.fz (.c (cB true))] (by simp [-Option.some.injEq] <;> rfl) ?_ ?_
    · simpa using hA2.same
    refine AW.iff false (by simp) (fun h => by cases h) (fun _ => AW.skip ?_)
    refine AW.text teOk (ans := []) (by simp [-Option.some.injEq] <;> rfl) ?_ ?_
    · trivial
    refine ⟨_, _, Weak.normS hA [4, 5, 14, 15, 16] [(14, 0), (15, 1)] [] [] 2 _ (by simp) (by simp) (by simp), ?_, i + 1, k + 1, s2, rfl, h, by omega, hJ2, ?_⟩
    · omega
    · simp [hinc]
  refine AW.st teOk [.fz (.c (cB true))] (by simp [-Option.some.injEq] <;> rfl) ?_ ?_
  · exact awake40_pure
  refine AW.ret ⟨.inr rfl, _, Weak.refl _, ?_⟩
  simp
theorem exploreSteps_row (na : Int) (l : List Int) (nl nm : Int) (sc : List Int) (raw : List (Int × Int)) (_ : (Lit.int .i64 na).wf = true) (_ : l.length < 4000000000000000000) (_ : (Lit.int .i64 nl).wf = true) (_ : (Lit.int .i64 nm).wf = true) (_ : sc.length < 4000000000000000000) (hraw : raw.length ≤ 9223372036854775807 ∧ ∀ x ∈ raw, (Lit.int .i64 x.1).wf = true ∧ (Lit.int .i64 x.2).wf = true) : Pure Tryz.prog 3 [.c (cI na), .c (encIs l), .c (cI nl), .c (cI nm), .c (encIs sc), .c (.row 2 false (raw.map encA))] (.c (cB true)) := xsteps_pure na l nl nm sc raw
end Go.Proofs.YtphlhadgcfndhaaGreatDoor.Abs
end
