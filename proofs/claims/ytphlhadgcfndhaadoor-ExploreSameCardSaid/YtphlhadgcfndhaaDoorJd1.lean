/- Joined for the claim: WClone WVec WSrch -/
import Derived.Test.YtphlhadgcfndhaaDoorAbsS
section
namespace Go.Proofs.YtphlhadgcfndhaaDoor.Abs
open Go Go.RowKit
set_option linter.unusedVariables false
set_option linter.unusedSimpArgs false
theorem cloneV_pure (es : List (List Cell)) (hk : ∀ e ∈ es, e.length = 2) (hf : ∀ e ∈ es, e.all frozenC = true) (hb : es.length < 1000000000000) : Pure Tryd.prog 71 [.c (.row 2 false es)] (.c (.row 2 false es)) := by
  refine pure_of teOk Tryd.func71 (by kernel_rfl) (c := _) rfl (N := 8) rfl (rs := [Go.ResultVar.tmp 2]) rfl (by simp) fun base A w0 hA => ?_
  refine AW.st teOk [] (by simp [-Option.some.injEq] <;> rfl) trivial ?_
  refine AW.mid (fun s => s = ⟨[(0, .c (.row 2 false es))], [], 0⟩) ?_ ?_
  · by_cases he : es = []
    · subst he
      refine AW.st teOk [] (by simp [-Option.some.injEq] <;> rfl) trivial ?_
      refine AW.either (by simp) ?_ (AW.skip ⟨_, Weak.normT hA [0] [] [] 0 _ (by simp) (by simp) (by simp), by simp⟩)
      refine AW.st teOk [] (by simp [-Option.some.injEq] <;> rfl) trivial ?_
      refine AW.ret ⟨.inr rfl, _, Weak.le 2 _ (by simp <;> rfl) (.c (LeC.nil 2)), ?_⟩
      simp
    · refine AW.st teOk [] (by simp [he, -Option.some.injEq] <;> rfl) trivial ?_
      refine AW.iff false (by simp) (fun h => by cases h) fun _ => AW.skip ⟨_, Weak.normT hA [0] [] [] 0 _ (by simp) (by simp) (by simp), by simp⟩
  · rintro s rfl
    refine AW.st teOk [] (by simp [-Option.some.injEq] <;> rfl) ?_ ?_
    · simp [growOk]
      exact ⟨by omega, hk⟩
    refine AW.ret ⟨.inr rfl, _, Weak.frzT 2 [] _ (by simp; exact ⟨rfl, rfl, rfl⟩) (by simp <;> rfl) (flatO_of hf), ?_⟩
    simp
end Go.Proofs.YtphlhadgcfndhaaDoor.Abs
end
section
namespace Go.Proofs.YtphlhadgcfndhaaDoor.Abs
open Go Go.RowKit
set_option linter.unusedVariables false
set_option linter.unusedSimpArgs false
set_option maxHeartbeats 4000000
abbrev E2 := Int × Int
abbrev cI (n : Int) : Cell := .sc (.int .i64 n)
abbrev cB (b : Bool) : Cell := .sc (.bool b)
@[simp] def encE (e : E2) : List Cell := [cI e.1, cI e.2]
abbrev encV (l : List E2) : Cell := .row 2 false (l.map encE)
@[simp] theorem flat_encE (l : List E2) : flatO ⟨2, l.map encE⟩ = true := flatO_of fun e he => by
  obtain ⟨x, _, rfl⟩ := List.mem_map.1 he
  rfl
def boundI (k : Bool) (x y : Int) : Int := if k = true then (if y > x then y else x) else (if y < x then y else x)
def consP (e : E2) (l : List E2) : List E2 := if e.2 > 0 then e :: l else l
def mergeI (k : Bool) : List E2 → List E2 → List E2
  | [], [] => []
  | x :: a, [] => consP (x.1, boundI k x.2 0) (mergeI k a [])
  | [], y :: b => consP (y.1, boundI k 0 y.2) (mergeI k [] b)
  | x :: a, y :: b => if x.1 < y.1 then consP (x.1, boundI k x.2 0) (mergeI k a (y :: b)) else if y.1 < x.1 then consP (y.1, boundI k 0 y.2) (mergeI k (x :: a) b) else consP (x.1, boundI k x.2 y.2) (mergeI k a b)
termination_by a b => a.length + b.length
abbrev fK (k : Bool) : Cell := .sc (.func (.func 49) #[.bool k] #[])
theorem of_pure (k : Bool) (x y : Int) : Pure Tryd.prog 49 [.c (cB k), .c (cI x), .c (cI y)] (.c (cI (boundI k x y))) := by
  refine pure_of teOk Tryd.func49 (by kernel_rfl) (c := _) rfl (N := 15) rfl (rs := [Go.ResultVar.tmp 6]) rfl (by simp) fun base A w0 hA => ?_
  refine AW.st teOk [] (by simp [-Option.some.injEq] <;> rfl) trivial ?_
  refine AW.seq ?_
  refine AW.st teOk [] (by simp [-Option.some.injEq] <;> rfl) trivial ?_
  cases k with
  | true =>
    refine AW.iff true (by simp) (fun _ => ?_) (fun h => by cases h)
    refine AW.st teOk [] (by simp [-Option.some.injEq] <;> rfl) trivial ?_
    refine AW.ret ⟨.inr rfl, _, Weak.refl _, ?_⟩
    simp [boundI]
  | false =>
    refine AW.iff false (by simp) (fun h => by cases h) (fun _ => AW.skip ?_)
    refine AW.st teOk [] (by simp [-Option.some.injEq] <;> rfl) trivial ?_
    refine AW.ret ⟨.inr rfl, _, Weak.refl _, ?_⟩
    simp [boundI]
theorem merge_pure (k : Bool) (a b : List E2) (hab : a.length + b.length < 1000000000000) : Pure Tryd.prog 48 [.c (encV a), .c (encV b), .c (fK k)] (.c (encV (mergeI k a b))) := by
  refine pure_of teOk Tryd.func48 (by kernel_rfl) (c := _) rfl (N := 105) rfl (rs := [Go.ResultVar.tmp 6]) rfl (by simp) fun base A w0 hA => ?_
  refine AW.st teOk [] (by simp [-Option.some.injEq] <;> rfl) trivial ?_
  refine AW.st teOk [] (by simp [-Option.some.injEq] <;> rfl) trivial ?_
  refine AW.weak (Weak.nil 7 2 _ (by simp <;> rfl)) (AW.seq (AW.block (AW.loop (fun m s => ∃ a' b' o, m = a'.length + b'.length ∧ o ++ mergeI k a' b' = mergeI k a b ∧ o.length + a'.length + b'.length < 1000000000000 ∧
    s = ⟨[(0, .c (encV a')), (1, .c (encV b')), (2, .c (fK k)), (7, .c (.ref 0 0 o.length))], [(0, ⟨2, o.map encE⟩)], 1⟩) _ (Weak.normT hA [0, 1, 2, 7] [(7, 0)] [] 1 _ (by simp) (by simp) (by simp)) ⟨a, b, [], rfl, rfl, by simpa using hab, by simp⟩ ?_)))
  rintro m s ⟨a', b', o, rfl, ho, hl, rfl⟩
  refine AW.mid (fun s => (a' ≠ [] ∨ b' ≠ []) ∧ s = ⟨[(0, .c (encV a')), (1, .c (encV b')), (2, .c (fK k)), (7, .c (.ref 0 0 o.length))], [(0, ⟨2, o.map encE⟩)], 1⟩) ?_ ?_
  · rcases a' with _ | ⟨x, a'⟩
    · rcases b' with _ | ⟨y, b'⟩
      · refine AW.st teOk [] (by simp [-Option.some.injEq] <;> rfl) trivial ?_
        refine AW.iff false (by simp) (fun h => by cases h) (fun _ => AW.exit (x_then (x_then (blockA_exit ?_))))
        refine AW.st teOk [] (by simp [-Option.some.injEq] <;> rfl) trivial ?_
        rw [mergeI, List.append_nil] at ho
        refine AW.ret ⟨.inr rfl, _, Weak.frzT 6 [] _ (by simp <;> exact ⟨rfl, rfl, rfl⟩) (by simp <;> rfl) (flat_encE o), ?_⟩
        simp [ho]
      · refine AW.st teOk [] (by simp [-Option.some.injEq] <;> rfl) trivial ?_
        exact AW.iff true (by simp) (fun _ => AW.skip ⟨_, Weak.normT hA [0, 1, 2, 7] [(7, 0)] [] 1 _ (by simp) (by simp) (by simp), by simp, by simp⟩) (fun h => by cases h)
    · refine AW.st teOk [] (by simp [-Option.some.injEq] <;> rfl) trivial ?_
      exact AW.iff true (by simp) (fun _ => AW.skip ⟨_, Weak.normT hA [0, 1, 2, 7] [(7, 0)] [] 1 _ (by simp) (by simp) (by simp), by simp, by simp⟩) (fun h => by cases h)
  rintro s ⟨hne, rfl⟩
  refine AW.block ?_
  refine AW.st teOk [] (by simp [-Option.some.injEq] <;> rfl) trivial ?_
  refine AW.mid (fun s => ∃ a'' b'' e, mergeI k a' b' = consP e (mergeI k a'' b'') ∧ a''.length + b''.length < a'.length + b'.length ∧
    s = ⟨[(0, .c (encV a'')), (1, .c (encV b'')), (2, .c (fK k)), (7, .c (.ref 0 0 o.length)), (8, .c (.ptr 1 0 0))], [(1, ⟨2, [encE e]⟩), (0, ⟨2, o.map encE⟩)], 2⟩) ?_ ?_
  · refine AW.block ?_
    have hall : (∃ x a2, a' = x :: a2 ∧ b' = []) ∨ (∃ y b2, a' = [] ∧ b' = y :: b2) ∨ ∃ x a2 y b2, a' = x :: a2 ∧ b' = y :: b2 := by
      rcases a' with _ | ⟨x, a'⟩ <;> rcases b' with _ | ⟨y, b'⟩ <;> simp at hne ⊢
    rcases hall with ⟨x, a2, rfl, rfl⟩ | ⟨y, b2, rfl, rfl⟩ | ⟨x, a2, y, b2, rfl, rfl⟩
    · refine AW.dr mixed teOk [] (by simp [-Option.some.injEq] <;> rfl) (by kernel_rfl) (by kernel_rfl) ?_ ?_
      · first | trivial | omega | (simp [allP, growOk] <;> omega)
      refine AW.iff true (by simp) (fun _ => ?_) (fun h => by cases h)
      refine AW.dr mixed teOk [.c (cI (boundI k x.2 0))] (by simp [-Option.some.injEq] <;> rfl) (by kernel_rfl) (by kernel_rfl) ?_ ?_
      · simp [allP]
        exact of_pure k x.2 0
      refine AW.text teOk (ans := []) (by simp [-Option.some.injEq] <;> rfl) ?_ ?_
      · first | trivial | omega | (simp [allP, growOk] <;> omega)
      exact ⟨_, Weak.normT hA [0, 1, 2, 7, 8] [(7, 0), (8, 1)] [] 2 _ (by simp) (by simp) (by simp), a2, [], (x.1, boundI k x.2 0), by rw [mergeI], by simp, by simp⟩
    · refine AW.dr mixed teOk [] (by simp [-Option.some.injEq] <;> rfl) (by kernel_rfl) (by kernel_rfl) ?_ ?_
      · first | trivial | omega | (simp [allP, growOk] <;> omega)
      refine AW.iff false (by simp) (fun h => by cases h) (fun _ => ?_)
      refine AW.dr mixed teOk [] (by simp [-Option.some.injEq] <;> rfl) (by kernel_rfl) (by kernel_rfl) ?_ ?_
      · first | trivial | omega | (simp [allP, growOk] <;> omega)
      refine AW.iff true (by simp) (fun _ => ?_) (fun h => by cases h)
      refine AW.dr mixed teOk [.c (cI (boundI k 0 y.2))] (by simp [-Option.some.injEq] <;> rfl) (by kernel_rfl) (by kernel_rfl) ?_ ?_
      · simp [allP]
        exact of_pure k 0 y.2
      refine AW.text teOk (ans := []) (by simp [-Option.some.injEq] <;> rfl) ?_ ?_
      · first | trivial | omega | (simp [allP, growOk] <;> omega)
      exact ⟨_, Weak.normT hA [0, 1, 2, 7, 8] [(7, 0), (8, 1)] [] 2 _ (by simp) (by simp) (by simp), [], b2, (y.1, boundI k 0 y.2), by rw [mergeI], by simp, by simp⟩
    · by_cases h1 : x.1 < y.1
      · refine AW.dr mixed teOk [] (by simp [h1, -Option.some.injEq] <;> rfl) (by kernel_rfl) (by kernel_rfl) ?_ ?_
        · first | trivial | omega | (simp [allP, growOk] <;> omega)
        refine AW.iff true (by simp) (fun _ => ?_) (fun h => by cases h)
        refine AW.dr mixed teOk [.c (cI (boundI k x.2 0))] (by simp [-Option.some.injEq] <;> rfl) (by kernel_rfl) (by kernel_rfl) ?_ ?_
        · simp [allP]
          exact of_pure k x.2 0
        refine AW.text teOk (ans := []) (by simp [-Option.some.injEq] <;> rfl) ?_ ?_
        · first | trivial | omega | (simp [allP, growOk] <;> omega)
        exact ⟨_, Weak.normT hA [0, 1, 2, 7, 8] [(7, 0), (8, 1)] [] 2 _ (by simp) (by simp) (by simp), a2, y :: b2, (x.1, boundI k x.2 0), by rw [mergeI, if_pos h1], by simp, by simp⟩
      · refine AW.dr mixed teOk [] (by simp [h1, -Option.some.injEq] <;> rfl) (by kernel_rfl) (by kernel_rfl) ?_ ?_
        · first | trivial | omega | (simp [allP, growOk] <;> omega)
        refine AW.iff false (by simp) (fun h => by cases h) (fun _ => ?_)
        by_cases h2 : y.1 < x.1
        · refine AW.dr mixed teOk [] (by simp [h2, -Option.some.injEq] <;> rfl) (by kernel_rfl) (by kernel_rfl) ?_ ?_
          · first | trivial | omega | (simp [allP, growOk] <;> omega)
          refine AW.iff true (by simp) (fun _ => ?_) (fun h => by cases h)
          refine AW.dr mixed teOk [.c (cI (boundI k 0 y.2))] (by simp [-Option.some.injEq] <;> rfl) (by kernel_rfl) (by kernel_rfl) ?_ ?_
          · simp [allP]
            exact of_pure k 0 y.2
          refine AW.text teOk (ans := []) (by simp [-Option.some.injEq] <;> rfl) ?_ ?_
          · first | trivial | omega | (simp [allP, growOk] <;> omega)
          exact ⟨_, Weak.normT hA [0, 1, 2, 7, 8] [(7, 0), (8, 1)] [] 2 _ (by simp) (by simp) (by simp), x :: a2, b2, (y.1, boundI k 0 y.2), by rw [mergeI, if_neg h1, if_pos h2], by simp, by simp⟩
        · refine AW.dr mixed teOk [] (by simp [h2, -Option.some.injEq] <;> rfl) (by kernel_rfl) (by kernel_rfl) ?_ ?_
          · first | trivial | omega | (simp [allP, growOk] <;> omega)
          refine AW.iff false (by simp) (fun h => by cases h) (fun _ => ?_)
          refine AW.dr mixed teOk [.c (cI (boundI k x.2 y.2))] (by simp [-Option.some.injEq] <;> rfl) (by kernel_rfl) (by kernel_rfl) ?_ ?_
          · simp [allP]
            exact of_pure k x.2 y.2
          refine AW.draw mixed teOk (ans := []) (by simp [-Option.some.injEq] <;> rfl) (by kernel_rfl) (by kernel_rfl) ?_ ?_
          · simp [allP]; omega
          exact ⟨_, Weak.normT hA [0, 1, 2, 7, 8] [(7, 0), (8, 1)] [] 2 _ (by simp) (by simp) (by simp), a2, b2, (x.1, boundI k x.2 y.2), by rw [mergeI, if_neg h1, if_neg h2], by simp; omega, by simp⟩
  · rintro s ⟨a'', b'', e, hm, hlt, rfl⟩
    refine AW.st teOk [] (by simp [-Option.some.injEq] <;> rfl) trivial ?_
    by_cases he : e.2 > 0
    · refine AW.iff true (by simp [he]) (fun _ => ?_) (fun h => by cases h)
      refine AW.text teOk (ans := []) (by simp [-Option.some.injEq] <;> rfl) ?_ ?_
      · simp [growOk]
        omega
      refine ⟨_, _, Weak.normT hA [0, 1, 2, 7] [(7, 0)] [] 1 _ (by simp) (by simp) (by simp), ?_, a'', b'', o ++ [e], rfl, ?_, ?_, by simp⟩
      · exact hlt
      · rw [← ho, hm, consP, if_pos he, List.append_assoc]; rfl
      · first | trivial | omega | (simp [allP, growOk] <;> omega)
    · refine AW.iff false (by simp [he]) (fun h => by cases h) (fun _ => AW.skip ?_)
      refine ⟨_, _, Weak.normT hA [0, 1, 2, 7] [(7, 0)] [] 1 _ (by simp) (by simp) (by simp), ?_, a'', b'', o, rfl, ?_, ?_, by simp⟩
      · exact hlt
      · rw [← ho, hm, consP, if_neg he]
      · omega
end Go.Proofs.YtphlhadgcfndhaaDoor.Abs
end
section
namespace Go.Proofs.YtphlhadgcfndhaaDoor.Abs
open Go Go.RowKit
set_option linter.unusedVariables false
set_option linter.unusedSimpArgs false
set_option maxHeartbeats 4000000
def cmpI (x y : Int) : Int := if x < y then -1 else if x > y then 1 else 0
theorem isNaN_pure (x : Int) : Pure Tryd.prog 75 [.c (cI x)] (.c (cB false)) := by
  refine pure_of teOk Tryd.func75 (by kernel_rfl) (c := _) rfl (N := 6) rfl (rs := [Go.ResultVar.tmp 2]) rfl (by simp) fun base A w0 hA => ?_
  refine AW.st teOk [] (by simp [-Option.some.injEq] <;> rfl) trivial ?_
  refine AW.st teOk [] (by simp [-Option.some.injEq] <;> rfl) trivial ?_
  refine AW.ret ⟨.inr rfl, _, Weak.refl _, ?_⟩
  simp
theorem cmp_pure (x y : Int) : Pure Tryd.prog 61 [.c (cI x), .c (cI y)] (.c (cI (cmpI x y))) := by
  refine pure_of teOk Tryd.func61 (by kernel_rfl) (c := _) rfl (N := 20) rfl (rs := [Go.ResultVar.tmp 4]) rfl (by simp) fun base A w0 hA => ?_
  refine AW.st teOk [] (by simp [-Option.some.injEq] <;> rfl) trivial ?_
  refine AW.st teOk [.fz (.c (cB false))] (by simp [-Option.some.injEq] <;> rfl) ?_ ?_
  · exact isNaN_pure x
  refine AW.st teOk [.fz (.c (cB false))] (by simp [-Option.some.injEq] <;> rfl) ?_ ?_
  · exact isNaN_pure y
  refine AW.seq ?_
  refine AW.st teOk [] (by simp [-Option.some.injEq] <;> rfl) trivial ?_
  refine AW.iff false (by simp) (fun h => by cases h) (fun _ => AW.skip ?_)
  refine AW.seq ?_
  refine AW.st teOk [] (by simp [-Option.some.injEq] <;> rfl) trivial ?_
  refine AW.iff false (by simp) (fun h => by cases h) (fun _ => AW.skip ?_)
  refine AW.seq ?_
  refine AW.st teOk [] (by simp [-Option.some.injEq] <;> rfl) trivial ?_
  refine AW.iff (decide (x < y)) (by simp) (fun h => ?_) (fun h => AW.skip ?_)
  · refine AW.st teOk [] (by simp [-Option.some.injEq] <;> rfl) trivial ?_
    refine AW.ret ⟨.inr rfl, _, Weak.refl _, ?_⟩
    rw [decide_eq_true_eq] at h
    simp [cmpI, h]
  refine AW.seq ?_
  rw [decide_eq_false_iff_not] at h
  refine AW.st teOk [] (by simp [-Option.some.injEq] <;> rfl) trivial ?_
  refine AW.iff (decide (x > y)) (by simp) (fun h => ?_) (fun h => AW.skip ?_)
  · refine AW.st teOk [] (by simp [-Option.some.injEq] <;> rfl) trivial ?_
    refine AW.ret ⟨.inr rfl, _, Weak.refl _, ?_⟩
    rw [decide_eq_true_eq] at h
    simp [cmpI, h]
    omega
  refine AW.st teOk [] (by simp [-Option.some.injEq] <;> rfl) trivial ?_
  refine AW.ret ⟨.inr rfl, _, Weak.refl _, ?_⟩
  rw [decide_eq_false_iff_not] at h
  simp [cmpI]
  rw [if_neg (by omega), if_neg (by omega)]
abbrev fS : Cell := .sc (.func (.func 82) #[] #[])
theorem search1_pure (e : E2) (a : Int) : Pure Tryd.prog 82 [.agg (encE e), .c (cI a)] (.c (cI (cmpI e.1 a))) := by
  refine pure_of teOk Tryd.func82 (by kernel_rfl) (c := _) rfl (N := 9) rfl (rs := [Go.ResultVar.tmp 4]) rfl (by simp) fun base A w0 hA => ?_
  refine AW.st teOk [] (by simp [-Option.some.injEq] <;> rfl) trivial ?_
  refine AW.st teOk [.fz (.c (cI (cmpI e.1 a)))] (by simp [-Option.some.injEq] <;> rfl) ?_ ?_
  · exact cmp_pure e.1 a
  refine AW.ret ⟨.inr rfl, _, Weak.refl _, ?_⟩
  simp
/-- In order of their authors. -/
def Asc (v : List E2) : Prop := v.Pairwise fun x y => x.1 < y.1
/-- Where an author's entry is, or would be. -/
def posI (v : List E2) (a : Int) : Nat := v.countP fun x => decide (x.1 < a)
def hasI (v : List E2) (a : Int) : Bool := v.any fun x => decide (x.1 = a)
theorem mid_s (i j n : Nat) (h : i ≤ n) (h2 : j ≤ n) (hn : n < 1000000000000) : IntKind.i64.wrap ((IntKind.u64.wrap (IntKind.i64.wrap ((i : Int) + j))).fdiv (2 ^ min 1 IntKind.u64.bits)) = ((i + j) / 2 : Nat) := by
  have e1 : IntKind.i64.wrap ((i : Int) + j) = (i : Int) + j := by rw [IntKind.wrap_i64]; omega
  have e2 : IntKind.u64.wrap ((i : Int) + j) = (i : Int) + j := by rw [IntKind.wrap_u64]; omega
  have e3 : (2 : Int) ^ min 1 IntKind.u64.bits = 2 := rfl
  rw [e1, e2, e3, Int.fdiv_eq_ediv_of_nonneg _ (by omega), IntKind.wrap_i64]
  omega
theorem pos_split {v : List E2} (hv : Asc v) (a : Int) {i : Nat} {e : E2} (he : v[i]? = some e) : (e.1 < a → i + 1 ≤ posI v a) ∧ (¬ e.1 < a → posI v a ≤ i) := by
  obtain ⟨hlt, rfl⟩ := List.getElem?_eq_some_iff.1 he
  have hp := List.pairwise_iff_getElem.1 hv
  have hsplit : posI v a = (v.take i).countP (fun x => decide (x.1 < a)) + (v.drop i).countP (fun x => decide (x.1 < a)) := by
    rw [posI, ← List.countP_append, List.take_append_drop]
  refine ⟨fun h => ?_, fun h => ?_⟩
  · have h1 : (v.take i).countP (fun x => decide (x.1 < a)) = i := by
      rw [List.countP_eq_length.2, List.length_take]
      · omega
      · intro x hx
        obtain ⟨q, hq, rfl⟩ := List.getElem_of_mem hx
        rw [List.length_take] at hq
        rw [List.getElem_take]
        have := hp q i (by omega) hlt (by omega)
        simp only [decide_eq_true_eq]
        omega
    rw [List.drop_eq_getElem_cons hlt, List.countP_cons_of_pos (by simpa using h)] at hsplit
    omega
  · have h1 : (v.drop i).countP (fun x => decide (x.1 < a)) = 0 := by
      rw [List.countP_eq_zero]
      intro x hx
      obtain ⟨q, hq, rfl⟩ := List.getElem_of_mem hx
      rw [List.length_drop] at hq
      rw [List.getElem_drop]
      simp only [decide_eq_true_eq]
      by_cases h0 : q = 0
      · subst h0; exact h
      · have := hp i (i + q) hlt (by omega) (by omega)
        omega
    have h2 : (v.take i).countP (fun x => decide (x.1 < a)) ≤ i := by
      have := List.countP_le_length (p := fun x : E2 => decide (x.1 < a)) (l := v.take i)
      rw [List.length_take] at this
      omega
    omega
theorem has_pos {v : List E2} (hv : Asc v) (a : Int) : hasI v a = (v[posI v a]?.any fun e => decide (e.1 = a)) := by
  rw [Bool.eq_iff_iff]
  constructor
  · intro h
    obtain ⟨e, he, h1⟩ := List.any_eq_true.1 h
    rw [decide_eq_true_eq] at h1
    obtain ⟨i, hi, rfl⟩ := List.getElem_of_mem he
    have g := pos_split hv a (List.getElem?_eq_getElem hi)
    have g2 := g.2 (by omega)
    have hple : i ≤ posI v a := by
      by_cases h0 : posI v a < i
      · have hpl : posI v a < v.length := by omega
        have := (pos_split hv a (List.getElem?_eq_getElem hpl)).1 (by
          have := List.pairwise_iff_getElem.1 hv (posI v a) i hpl hi h0
          omega)
        omega
      · omega
    have : posI v a = i := by omega
    rw [this, List.getElem?_eq_getElem hi]
    simpa using h1
  · intro h
    cases he : v[posI v a]? with
    | none => rw [he] at h; cases h
    | some e =>
      rw [he] at h
      exact List.any_eq_true.2 ⟨e, List.mem_of_getElem? he, h⟩
theorem bsf_pure (v : List E2) (a : Int) (hv : Asc v) (hl : v.length < 1000000000000) : Pure Tryd.prog 81 [.c (encV v), .c (cI a), .c fS] (.tup [.c (cI (posI v a)), .c (cB (hasI v a))]) := by
  refine pure_of teOk Tryd.func81 (by kernel_rfl) (c := _) rfl (N := 49) rfl (rs := [Go.ResultVar.tmp 6, Go.ResultVar.tmp 7]) rfl (by simp) fun base A w0 hA => ?_
  refine AW.st teOk [] (by simp [-Option.some.injEq] <;> rfl) trivial ?_
  refine AW.st teOk [] (by simp [-Option.some.injEq] <;> rfl) trivial ?_
  refine AW.st teOk [] (by simp [-Option.some.injEq] <;> rfl) trivial ?_
  refine AW.seq (AW.block (AW.loop (fun m s => ∃ i j : Nat, m = j - i ∧ i ≤ posI v a ∧ posI v a ≤ j ∧ j ≤ v.length ∧ s = ⟨[(0, .c (encV v)), (1, .c (cI a)), (2, .c fS), (8, .c (cI v.length)), (9, .c (cI i)), (10, .c (cI j))], [], 0⟩) _ (Weak.normT hA [0, 1, 2, 8, 9, 10] [] [] 0 _ (by simp) (by simp) (by simp)) ⟨0, v.length, rfl, Nat.zero_le _, List.countP_le_length, Nat.le_refl _, by simp⟩ ?_))
  rintro m s ⟨i, j, rfl, hi, hj, hjl, rfl⟩
  refine AW.seq ?_
  refine AW.st teOk [] (by simp [-Option.some.injEq] <;> rfl) trivial ?_
  refine AW.iff (decide (i < j)) (by simp) (fun h => AW.skip ?_) (fun h => AW.exit (x_then (x_then (blockA_exit ?_))))
  · rw [decide_eq_true_eq] at h
    refine AW.block ?_
    obtain ⟨q, hq⟩ : ∃ q, q = (i + j) / 2 := ⟨_, rfl⟩
    have hmid := mid_s i j v.length (by omega) hjl hl
    rw [← hq] at hmid
    refine AW.st teOk [] (by simp [hmid, -Option.some.injEq] <;> rfl) trivial ?_
    have hm : q < v.length := by omega
    obtain ⟨e, he⟩ : ∃ e, v[q]? = some e := ⟨_, List.getElem?_eq_getElem hm⟩
    have hps := pos_split hv a he
    refine AW.st teOk [.fz (.c (cI (cmpI e.1 a)))] (by simp [he, -Option.some.injEq] <;> rfl) ?_ ?_
    · exact ⟨by omega, search1_pure e a⟩
    by_cases hc : e.1 < a
    · refine AW.iff true (by simp [cmpI, hc]) (fun _ => ?_) (fun h => by cases h)
      refine AW.text teOk (ans := []) (by simp [-Option.some.injEq] <;> rfl) ?_ ?_
      · trivial
      refine ⟨_, _, Weak.normT hA [0, 1, 2, 8, 9, 10] [] [] 0 _ (by simp) (by simp) (by simp), ?_, q + 1, j, rfl, hps.1 hc, hj, hjl, ?_⟩
      · omega
      · simp
        exact wrap_s q (by omega)
    · refine AW.iff false (by simp [cmpI, hc]; split <;> omega) (fun h => by cases h) (fun _ => ?_)
      refine AW.text teOk (ans := []) (by simp [-Option.some.injEq] <;> rfl) ?_ ?_
      · trivial
      refine ⟨_, _, Weak.normT hA [0, 1, 2, 8, 9, 10] [] [] 0 _ (by simp) (by simp) (by simp), ?_, i, q, rfl, hi, hps.2 hc, by omega, by simp⟩
      omega
  · rw [decide_eq_false_iff_not] at h
    have hij : i = posI v a := by omega
    subst hij
    have hhas := has_pos hv a
    by_cases hp : posI v a < v.length
    · obtain ⟨e, he⟩ : ∃ e, v[posI v a]? = some e := ⟨_, List.getElem?_eq_getElem hp⟩
      rw [he] at hhas
      have hge : ¬ e.1 < a := fun h1 => by
        have := (pos_split hv a he).1 h1
        omega
      have hd : decide (posI v a < v.length) = true := by simpa using hp
      refine AW.st teOk [.fz (.c (cI (cmpI e.1 a)))] (by simp [he, hd, -Option.some.injEq] <;> rfl) ?_ ?_
      · exact ⟨by omega, search1_pure e a⟩
      refine AW.ret ⟨.inr rfl, _, Weak.refl _, ?_⟩
      simp [hhas, cmpI, hge]
      split
      · rw [decide_eq_false (by omega)]; rfl
      · rw [decide_eq_true (by omega)]; rfl
    · refine AW.st teOk [] (by simp [hp, -Option.some.injEq] <;> rfl) trivial ?_
      refine AW.ret ⟨.inr rfl, _, Weak.refl _, ?_⟩
      rw [List.getElem?_eq_none (by omega)] at hhas
      simp [hhas]
theorem search_pure (v : List E2) (a : Int) (hv : Asc v) (hl : v.length < 1000000000000) : Pure Tryd.prog 72 [.c (encV v), .c (cI a)] (.tup [.c (cI (posI v a)), .c (cB (hasI v a))]) := by
  refine pure_of teOk Tryd.func72 (by kernel_rfl) (c := _) rfl (N := 11) rfl (rs := [Go.ResultVar.tmp 4, Go.ResultVar.tmp 5]) rfl (by simp) fun base A w0 hA => ?_
  refine AW.st teOk [] (by simp [-Option.some.injEq] <;> rfl) trivial ?_
  refine AW.st teOk [.fz (.tup [.c (cI (posI v a)), .c (cB (hasI v a))])] (by simp [-Option.some.injEq] <;> rfl) ?_ ?_
  · exact bsf_pure v a hv hl
  refine AW.ret ⟨.inr rfl, _, Weak.refl _, ?_⟩
  simp
/-- The count of an author. -/
def countI (v : List E2) (a : Int) : Int := match v.find? fun x => decide (x.1 = a) with
  | some e => e.2
  | none => 0
theorem count_pos {v : List E2} (hv : Asc v) (a : Int) {e : E2} (he : v[posI v a]? = some e) (h : e.1 = a) : countI v a = e.2 := by
  unfold countI
  have : v.find? (fun x => decide (x.1 = a)) = some e := by
    obtain ⟨hlt, rfl⟩ := List.getElem?_eq_some_iff.1 he
    rw [List.find?_eq_some_iff_getElem]
    refine ⟨by simpa using h, posI v a, hlt, rfl, fun j hj => ?_⟩
    have := List.pairwise_iff_getElem.1 hv j (posI v a) (by omega) hlt hj
    simp
    omega
  rw [this]
theorem count_none {v : List E2} (a : Int) (h : hasI v a = false) : countI v a = 0 := by
  unfold countI
  have : v.find? (fun x => decide (x.1 = a)) = none := by
    rw [List.find?_eq_none]
    intro x hx
    have := List.any_eq_false.1 h x hx
    simpa using this
  rw [this]
theorem get_pure (v : List E2) (a : Int) (hv : Asc v) (hl : v.length < 1000000000000) : Pure Tryd.prog 50 [.c (encV v), .c (cI a)] (.c (cI (countI v a))) := by
  refine pure_of teOk Tryd.func50 (by kernel_rfl) (c := _) rfl (N := 19) rfl (rs := [Go.ResultVar.tmp 4]) rfl (by simp) fun base A w0 hA => ?_
  refine AW.st teOk [] (by simp [-Option.some.injEq] <;> rfl) trivial ?_
  refine AW.seq ?_
  refine AW.st teOk [.fz (.tup [.c (cI (posI v a)), .c (cB (hasI v a))])] (by simp [-Option.some.injEq] <;> rfl) ?_ ?_
  · exact search_pure v a hv hl
  refine AW.st teOk [] (by simp [-Option.some.injEq] <;> rfl) trivial ?_
  have hhas := has_pos hv a
  refine AW.iff (hasI v a) (by simp) (fun h => ?_) (fun h => AW.skip ?_)
  · rw [h] at hhas
    obtain ⟨e, he, h1⟩ : ∃ e, v[posI v a]? = some e ∧ e.1 = a := by
      cases he : v[posI v a]? with
      | none => rw [he] at hhas; cases hhas
      | some e => rw [he] at hhas; exact ⟨e, rfl, by simpa using hhas.symm⟩
    have hlt := (List.getElem?_eq_some_iff.1 he).1
    refine AW.st teOk [] (by simp [he, -Option.some.injEq] <;> rfl) ?_ ?_
    · first | trivial | omega | (simp [allP, growOk] <;> omega)
    refine AW.ret ⟨.inr rfl, _, Weak.refl _, ?_⟩
    simp [count_pos hv a he h1]
  · refine AW.st teOk [] (by simp [-Option.some.injEq] <;> rfl) trivial ?_
    refine AW.ret ⟨.inr rfl, _, Weak.refl _, ?_⟩
    simp [count_none a h]
def leI (a b : List E2) : Bool := a.all fun e => decide (e.2 ≤ countI b e.1)
theorem le_pure (a b : List E2) (hb : Asc b) (hla : a.length < 1000000000000) (hl : b.length < 1000000000000) : Pure Tryd.prog 32 [.c (encV a), .c (encV b)] (.c (cB (leI a b))) := by
  refine pure_of teOk Tryd.func32 (by kernel_rfl) (c := _) rfl (N := 21) rfl (rs := [Go.ResultVar.tmp 4]) rfl (by simp) fun base A w0 hA => ?_
  refine AW.st teOk [] (by simp [-Option.some.injEq] <;> rfl) trivial ?_
  refine AW.seq ?_
  refine AW.st teOk [] (by simp [-Option.some.injEq] <;> rfl) trivial ?_
  refine AW.block (AW.loop (fun m s => ∃ j : Nat, m = a.length - j ∧ j ≤ a.length ∧ leI a b = leI (a.drop j) b ∧ s = ⟨[(0, .c (encV a)), (1, .c (encV b)), (7, .c (encV a)), (8, .c (cI a.length)), (9, .c (cI j))], [], 0⟩) _ (Weak.normT hA [0, 1, 7, 8, 9] [] [] 0 _ (by simp) (by simp) (by simp)) ⟨0, rfl, Nat.zero_le _, rfl, by simp⟩ ?_)
  rintro m s ⟨j, rfl, hj, hle, rfl⟩
  refine AW.st teOk [] (by simp [-Option.some.injEq] <;> rfl) trivial ?_
  refine AW.seq (AW.iff (decide (j < a.length)) (by simp) (fun h => AW.skip ?_) (fun h => AW.exit (x_then (x_then (blockA_exit ?_)))))
  · rw [decide_eq_true_eq] at h
    obtain ⟨e, he⟩ : ∃ e, a[j]? = some e := ⟨_, List.getElem?_eq_getElem h⟩
    have hd : a.drop j = e :: a.drop (j + 1) := by
      rw [List.drop_eq_getElem_cons h, (List.getElem?_eq_some_iff.1 he).2]
    refine AW.seq (AW.block ?_)
    refine AW.st teOk [] (by simp [he, -Option.some.injEq] <;> rfl) ?_ ?_
    · first | trivial | omega | (simp [allP, growOk] <;> omega)
    refine AW.dr mixed teOk [.c (cI (countI b e.1))] (by simp [he, -Option.some.injEq] <;> rfl) (by kernel_rfl) (by kernel_rfl) ?_ ?_
    · simp [allP]
      exact get_pure b e.1 hb hl
    by_cases hc : e.2 > countI b e.1
    · refine AW.iff true (by simp [hc]) (fun _ => ?_) (fun h => by cases h)
      refine AW.st teOk [] (by simp [-Option.some.injEq] <;> rfl) trivial ?_
      refine AW.ret ⟨.inr rfl, _, Weak.refl _, ?_⟩
      rw [hle, hd]
      simp [leI]
      omega
    · refine AW.iff false (by simp; omega) (fun h => by cases h) (fun _ => AW.skip ?_)
      refine AW.text teOk (ans := []) (by simp [-Option.some.injEq] <;> rfl) ?_ ?_
      · trivial
      refine ⟨_, _, Weak.normT hA [0, 1, 7, 8, 9] [] [] 0 _ (by simp) (by simp) (by simp), ?_, j + 1, rfl, h, ?_, ?_⟩
      · omega
      · rw [hle, hd, leI, List.all_cons, decide_eq_true (by omega), Bool.true_and]
        rfl
      · simp
        exact wrap_s j (by omega)
  · rw [decide_eq_false_iff_not] at h
    refine AW.st teOk [] (by simp [-Option.some.injEq] <;> rfl) trivial ?_
    refine AW.ret ⟨.inr rfl, _, Weak.refl _, ?_⟩
    rw [hle, List.drop_eq_nil_of_le (by omega)]
    simp [leI]
theorem join_pure (a b : List E2) (hab : a.length + b.length < 1000000000000) : Pure Tryd.prog 30 [.c (encV a), .c (encV b)] (.c (encV (mergeI true a b))) := by
  refine pure_of teOk Tryd.func30 (by kernel_rfl) (c := _) rfl (N := 9) rfl (rs := [Go.ResultVar.tmp 4]) rfl (by simp) fun base A w0 hA => ?_
  refine AW.st teOk [] (by simp [-Option.some.injEq] <;> rfl) trivial ?_
  refine AW.st teOk [.fz (.c (encV (mergeI true a b)))] (by simp [-Option.some.injEq] <;> rfl) ?_ ?_
  · exact merge_pure true a b hab
  refine AW.ret ⟨.inr rfl, _, Weak.refl _, ?_⟩
  simp
end Go.Proofs.YtphlhadgcfndhaaDoor.Abs
end
