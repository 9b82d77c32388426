/- Vectors: merge. -/
import Derived.Test.YtopcklnnkpjanaaWClone
namespace Go.Proofs.Ytopcklnnkpjanaa.Abs
open Go Go.RowKit
set_option linter.unusedVariables false
set_option linter.unusedSimpArgs false
set_option maxHeartbeats 4000000
abbrev E2 := Int × Int
abbrev cI (n : Int) : Cell := .sc (.int .i64 n)
abbrev cB (b : Bool) : Cell := .sc (.bool b)
@[simp] def encE (e : E2) : List Cell := [cI e.1, cI e.2]
abbrev encV (l : List E2) : Cell := .row 2 false (l.map encE)
@[simp] theorem flat_encE (l : List E2) : flatO ⟨2, l.map encE⟩ = true := flatO_of fun e he => by
  obtain ⟨x, _, rfl⟩ := List.mem_map.1 he
  rfl
def boundI (k : Bool) (x y : Int) : Int := if k = true then (if y > x then y else x) else (if y < x then y else x)
def consP (e : E2) (l : List E2) : List E2 := if e.2 > 0 then e :: l else l
def mergeI (k : Bool) : List E2 → List E2 → List E2
  | [], [] => []
  | x :: a, [] => consP (x.1, boundI k x.2 0) (mergeI k a [])
  | [], y :: b => consP (y.1, boundI k 0 y.2) (mergeI k [] b)
  | x :: a, y :: b => if x.1 < y.1 then consP (x.1, boundI k x.2 0) (mergeI k a (y :: b)) else if y.1 < x.1 then consP (y.1, boundI k 0 y.2) (mergeI k (x :: a) b) else consP (x.1, boundI k x.2 y.2) (mergeI k a b)
termination_by a b => a.length + b.length
abbrev fK (k : Bool) : Cell := .sc (.func (.func 101) #[.bool k] #[])
theorem of_pure (k : Bool) (x y : Int) : Pure Try.prog 101 [.c (cB k), .c (cI x), .c (cI y)] (.c (cI (boundI k x y))) := by
  refine pure_of teOk Try.func101 (by kernel_rfl) (c := _) rfl (N := 15) rfl (rs := [Go.ResultVar.tmp 6]) rfl (by simp) fun base A w0 hA => ?_
  refine AW.st teOk [] (by simp [-Option.some.injEq] <;> rfl) trivial ?_
  refine AW.seq ?_
  refine AW.st teOk [] (by simp [-Option.some.injEq] <;> rfl) trivial ?_
  cases k with
  | true =>
    refine AW.iff true (by simp) (fun _ => ?_) (fun h => by cases h)
    refine AW.st teOk [] (by simp [-Option.some.injEq] <;> rfl) trivial ?_
    refine AW.ret ⟨.inr rfl, _, Weak.refl _, ?_⟩
    simp [boundI]
  | false =>
    refine AW.iff false (by simp) (fun h => by cases h) (fun _ => AW.skip ?_)
    refine AW.st teOk [] (by simp [-Option.some.injEq] <;> rfl) trivial ?_
    refine AW.ret ⟨.inr rfl, _, Weak.refl _, ?_⟩
    simp [boundI]
theorem merge_pure (k : Bool) (a b : List E2) (hab : a.length + b.length < 1000000000000) : Pure Try.prog 100 [.c (encV a), .c (encV b), .c (fK k)] (.c (encV (mergeI k a b))) := by
  refine pure_of teOk Try.func100 (by kernel_rfl) (c := _) rfl (N := 105) rfl (rs := [Go.ResultVar.tmp 6]) rfl (by simp) fun base A w0 hA => ?_
  refine AW.st teOk [] (by simp [-Option.some.injEq] <;> rfl) trivial ?_
  refine AW.st teOk [] (by simp [-Option.some.injEq] <;> rfl) trivial ?_
  refine AW.weak (Weak.nil 7 2 _ (by simp <;> rfl)) (AW.seq (AW.block (AW.loop (fun m s => ∃ a' b' o, m = a'.length + b'.length ∧ o ++ mergeI k a' b' = mergeI k a b ∧ o.length + a'.length + b'.length < 1000000000000 ∧
    s = ⟨[(0, .c (encV a')), (1, .c (encV b')), (2, .c (fK k)), (7, .c (.ref 0 0 o.length))], [(0, ⟨2, o.map encE⟩)], 1⟩) _ (Weak.normT hA [0, 1, 2, 7] [(7, 0)] [] 1 _ (by simp) (by simp) (by simp)) ⟨a, b, [], rfl, rfl, by simpa using hab, by simp⟩ ?_)))
  rintro m s ⟨a', b', o, rfl, ho, hl, rfl⟩
  refine AW.mid (fun s => (a' ≠ [] ∨ b' ≠ []) ∧ s = ⟨[(0, .c (encV a')), (1, .c (encV b')), (2, .c (fK k)), (7, .c (.ref 0 0 o.length))], [(0, ⟨2, o.map encE⟩)], 1⟩) ?_ ?_
  · rcases a' with _ | ⟨x, a'⟩
    · rcases b' with _ | ⟨y, b'⟩
      · refine AW.st teOk [] (by simp [-Option.some.injEq] <;> rfl) trivial ?_
        refine AW.iff false (by simp) (fun h => by cases h) (fun _ => AW.exit (x_then (x_then (blockA_exit ?_))))
        refine AW.st teOk [] (by simp [-Option.some.injEq] <;> rfl) trivial ?_
        rw [mergeI, List.append_nil] at ho
        refine AW.ret ⟨.inr rfl, _, Weak.frzT 6 [] _ (by simp <;> exact ⟨rfl, rfl, rfl⟩) (by simp <;> rfl) (flat_encE o), ?_⟩
        simp [ho]
      · refine AW.st teOk [] (by simp [-Option.some.injEq] <;> rfl) trivial ?_
        exact AW.iff true (by simp) (fun _ => AW.skip ⟨_, Weak.normT hA [0, 1, 2, 7] [(7, 0)] [] 1 _ (by simp) (by simp) (by simp), by simp, by simp⟩) (fun h => by cases h)
    · refine AW.st teOk [] (by simp [-Option.some.injEq] <;> rfl) trivial ?_
      exact AW.iff true (by simp) (fun _ => AW.skip ⟨_, Weak.normT hA [0, 1, 2, 7] [(7, 0)] [] 1 _ (by simp) (by simp) (by simp), by simp, by simp⟩) (fun h => by cases h)
  rintro s ⟨hne, rfl⟩
  refine AW.block ?_
  refine AW.st teOk [] (by simp [-Option.some.injEq] <;> rfl) trivial ?_
  refine AW.mid (fun s => ∃ a'' b'' e, mergeI k a' b' = consP e (mergeI k a'' b'') ∧ a''.length + b''.length < a'.length + b'.length ∧
    s = ⟨[(0, .c (encV a'')), (1, .c (encV b'')), (2, .c (fK k)), (7, .c (.ref 0 0 o.length)), (8, .c (.ptr 1 0 0))], [(1, ⟨2, [encE e]⟩), (0, ⟨2, o.map encE⟩)], 2⟩) ?_ ?_
  · refine AW.block ?_
    have hall : (∃ x a2, a' = x :: a2 ∧ b' = []) ∨ (∃ y b2, a' = [] ∧ b' = y :: b2) ∨ ∃ x a2 y b2, a' = x :: a2 ∧ b' = y :: b2 := by
      rcases a' with _ | ⟨x, a'⟩ <;> rcases b' with _ | ⟨y, b'⟩ <;> simp at hne ⊢
    rcases hall with ⟨x, a2, rfl, rfl⟩ | ⟨y, b2, rfl, rfl⟩ | ⟨x, a2, y, b2, rfl, rfl⟩
    · refine AW.dr mixed teOk [] (by simp [-Option.some.injEq] <;> rfl) (by kernel_rfl) (by kernel_rfl) ?_ ?_
      · first | trivial | omega | (simp [allP, growOk] <;> omega)
      refine AW.iff true (by simp) (fun _ => ?_) (fun h => by cases h)
      refine AW.dr mixed teOk [.c (cI (boundI k x.2 0))] (by simp [-Option.some.injEq] <;> rfl) (by kernel_rfl) (by kernel_rfl) ?_ ?_
      · simp [allP]
        exact of_pure k x.2 0
      refine AW.text teOk (ans := []) (by simp [-Option.some.injEq] <;> rfl) ?_ ?_
      · first | trivial | omega | (simp [allP, growOk] <;> omega)
      exact ⟨_, Weak.normT hA [0, 1, 2, 7, 8] [(7, 0), (8, 1)] [] 2 _ (by simp) (by simp) (by simp), a2, [], (x.1, boundI k x.2 0), by rw [mergeI], by simp, by simp⟩
    · refine AW.dr mixed teOk [] (by simp [-Option.some.injEq] <;> rfl) (by kernel_rfl) (by kernel_rfl) ?_ ?_
      · first | trivial | omega | (simp [allP, growOk] <;> omega)
      refine AW.iff false (by simp) (fun h => by cases h) (fun _ => ?_)
      refine AW.dr mixed teOk [] (by simp [-Option.some.injEq] <;> rfl) (by kernel_rfl) (by kernel_rfl) ?_ ?_
      · first | trivial | omega | (simp [allP, growOk] <;> omega)
      refine AW.iff true (by simp) (fun _ => ?_) (fun h => by cases h)
      refine AW.dr mixed teOk [.c (cI (boundI k 0 y.2))] (by simp [-Option.some.injEq] <;> rfl) (by kernel_rfl) (by kernel_rfl) ?_ ?_
      · simp [allP]
        exact of_pure k 0 y.2
      refine AW.text teOk (ans := []) (by simp [-Option.some.injEq] <;> rfl) ?_ ?_
      · first | trivial | omega | (simp [allP, growOk] <;> omega)
      exact ⟨_, Weak.normT hA [0, 1, 2, 7, 8] [(7, 0), (8, 1)] [] 2 _ (by simp) (by simp) (by simp), [], b2, (y.1, boundI k 0 y.2), by rw [mergeI], by simp, by simp⟩
    · by_cases h1 : x.1 < y.1
      · refine AW.dr mixed teOk [] (by simp [h1, -Option.some.injEq] <;> rfl) (by kernel_rfl) (by kernel_rfl) ?_ ?_
        · first | trivial | omega | (simp [allP, growOk] <;> omega)
        refine AW.iff true (by simp) (fun _ => ?_) (fun h => by cases h)
        refine AW.dr mixed teOk [.c (cI (boundI k x.2 0))] (by simp [-Option.some.injEq] <;> rfl) (by kernel_rfl) (by kernel_rfl) ?_ ?_
        · simp [allP]
          exact of_pure k x.2 0
        refine AW.text teOk (ans := []) (by simp [-Option.some.injEq] <;> rfl) ?_ ?_
        · first | trivial | omega | (simp [allP, growOk] <;> omega)
        exact ⟨_, Weak.normT hA [0, 1, 2, 7, 8] [(7, 0), (8, 1)] [] 2 _ (by simp) (by simp) (by simp), a2, y :: b2, (x.1, boundI k x.2 0), by rw [mergeI, if_pos h1], by simp, by simp⟩
      · refine AW.dr mixed teOk [] (by simp [h1, -Option.some.injEq] <;> rfl) (by kernel_rfl) (by kernel_rfl) ?_ ?_
        · first | trivial | omega | (simp [allP, growOk] <;> omega)
        refine AW.iff false (by simp) (fun h => by cases h) (fun _ => ?_)
        by_cases h2 : y.1 < x.1
        · refine AW.dr mixed teOk [] (by simp [h2, -Option.some.injEq] <;> rfl) (by kernel_rfl) (by kernel_rfl) ?_ ?_
          · first | trivial | omega | (simp [allP, growOk] <;> omega)
          refine AW.iff true (by simp) (fun _ => ?_) (fun h => by cases h)
          refine AW.dr mixed teOk [.c (cI (boundI k 0 y.2))] (by simp [-Option.some.injEq] <;> rfl) (by kernel_rfl) (by kernel_rfl) ?_ ?_
          · simp [allP]
            exact of_pure k 0 y.2
          refine AW.text teOk (ans := []) (by simp [-Option.some.injEq] <;> rfl) ?_ ?_
          · first | trivial | omega | (simp [allP, growOk] <;> omega)
          exact ⟨_, Weak.normT hA [0, 1, 2, 7, 8] [(7, 0), (8, 1)] [] 2 _ (by simp) (by simp) (by simp), x :: a2, b2, (y.1, boundI k 0 y.2), by rw [mergeI, if_neg h1, if_pos h2], by simp, by simp⟩
        · refine AW.dr mixed teOk [] (by simp [h2, -Option.some.injEq] <;> rfl) (by kernel_rfl) (by kernel_rfl) ?_ ?_
          · first | trivial | omega | (simp [allP, growOk] <;> omega)
          refine AW.iff false (by simp) (fun h => by cases h) (fun _ => ?_)
          refine AW.dr mixed teOk [.c (cI (boundI k x.2 y.2))] (by simp [-Option.some.injEq] <;> rfl) (by kernel_rfl) (by kernel_rfl) ?_ ?_
          · simp [allP]
            exact of_pure k x.2 y.2
          refine AW.draw mixed teOk (ans := []) (by simp [-Option.some.injEq] <;> rfl) (by kernel_rfl) (by kernel_rfl) ?_ ?_
          · simp [allP]; omega
          exact ⟨_, Weak.normT hA [0, 1, 2, 7, 8] [(7, 0), (8, 1)] [] 2 _ (by simp) (by simp) (by simp), a2, b2, (x.1, boundI k x.2 y.2), by rw [mergeI, if_neg h1, if_neg h2], by simp; omega, by simp⟩
  · rintro s ⟨a'', b'', e, hm, hlt, rfl⟩
    refine AW.st teOk [] (by simp [-Option.some.injEq] <;> rfl) trivial ?_
    by_cases he : e.2 > 0
    · refine AW.iff true (by simp [he]) (fun _ => ?_) (fun h => by cases h)
      refine AW.text teOk (ans := []) (by simp [-Option.some.injEq] <;> rfl) ?_ ?_
      · simp [growOk]
        omega
      refine ⟨_, _, Weak.normT hA [0, 1, 2, 7] [(7, 0)] [] 1 _ (by simp) (by simp) (by simp), ?_, a'', b'', o ++ [e], rfl, ?_, ?_, by simp⟩
      · exact hlt
      · rw [← ho, hm, consP, if_pos he, List.append_assoc]; rfl
      · first | trivial | omega | (simp [allP, growOk] <;> omega)
    · refine AW.iff false (by simp [he]) (fun h => by cases h) (fun _ => AW.skip ?_)
      refine ⟨_, _, Weak.normT hA [0, 1, 2, 7] [(7, 0)] [] 1 _ (by simp) (by simp) (by simp), ?_, a'', b'', o, rfl, ?_, ?_, by simp⟩
      · exact hlt
      · rw [← ho, hm, consP, if_neg he]
      · omega
end Go.Proofs.Ytopcklnnkpjanaa.Abs
