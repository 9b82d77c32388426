/- Joined for the claim: WClone WVec WSrch WInts WAcc WRef -/
import Derived.Test.YtphlhadgcfndhaaGreatDoorAbsS
section
namespace Go.Proofs.YtphlhadgcfndhaaGreatDoor.Abs
open Go Go.RowKit
set_option linter.unusedVariables false
set_option linter.unusedSimpArgs false
theorem cloneV_pure (es : List (List Cell)) (hk : ∀ e ∈ es, e.length = 2) (hf : ∀ e ∈ es, e.all frozenC = true) (hb : es.length < 1000000000000) : Pure Tryz.prog 84 [.c (.row 2 false es)] (.c (.row 2 false es)) := by
  refine pure_of teOk Tryz.func84 (by kernel_rfl) (c := _) rfl (N := 8) rfl (rs := [Go.ResultVar.tmp 2]) rfl (by simp) fun base A w0 hA => ?_
  refine AW.st teOk [] (by simp [-Option.some.injEq] <;> rfl) trivial ?_
  refine AW.mid (fun s => s = ⟨[(0, .c (.row 2 false es))], [], 0⟩) ?_ ?_
  · by_cases he : es = []
    · subst he
      refine AW.st teOk [] (by simp [-Option.some.injEq] <;> rfl) trivial ?_
      refine AW.either (by simp) ?_ (AW.skip ⟨_, Weak.normT hA [0] [] [] 0 _ (by simp) (by simp) (by simp), by simp⟩)
      refine AW.st teOk [] (by simp [-Option.some.injEq] <;> rfl) trivial ?_
      refine AW.ret ⟨.inr rfl, _, Weak.le 2 _ (by simp <;> rfl) (.c (LeC.nil 2)), ?_⟩
      simp
    · refine AW.st teOk [] (by simp [he, -Option.some.injEq] <;> rfl) trivial ?_
      refine AW.iff false (by simp) (fun h => by cases h) fun _ => AW.skip ⟨_, Weak.normT hA [0] [] [] 0 _ (by simp) (by simp) (by simp), by simp⟩
  · rintro s rfl
    refine AW.st teOk [] (by simp [-Option.some.injEq] <;> rfl) ?_ ?_
    · simp [growOk]
      exact ⟨by omega, hk⟩
    refine AW.ret ⟨.inr rfl, _, Weak.frzT 2 [] _ (by simp; exact ⟨rfl, rfl, rfl⟩) (by simp <;> rfl) (flatO_of hf), ?_⟩
    simp
end Go.Proofs.YtphlhadgcfndhaaGreatDoor.Abs
end
section
namespace Go.Proofs.YtphlhadgcfndhaaGreatDoor.Abs
open Go Go.RowKit
set_option linter.unusedVariables false
set_option linter.unusedSimpArgs false
set_option maxHeartbeats 4000000
abbrev E2 := Int × Int
abbrev cI (n : Int) : Cell := .sc (.int .i64 n)
abbrev cB (b : Bool) : Cell := .sc (.bool b)
@[simp] def encE (e : E2) : List Cell := [cI e.1, cI e.2]
abbrev encV (l : List E2) : Cell := .row 2 false (l.map encE)
@[simp] theorem flat_encE (l : List E2) : flatO ⟨2, l.map encE⟩ = true := flatO_of fun e he => by
  obtain ⟨x, _, rfl⟩ := List.mem_map.1 he
  rfl
def boundI (k : Bool) (x y : Int) : Int := if k = true then (if y > x then y else x) else (if y < x then y else x)
def consP (e : E2) (l : List E2) : List E2 := if e.2 > 0 then e :: l else l
def mergeI (k : Bool) : List E2 → List E2 → List E2
  | [], [] => []
  | x :: a, [] => consP (x.1, boundI k x.2 0) (mergeI k a [])
  | [], y :: b => consP (y.1, boundI k 0 y.2) (mergeI k [] b)
  | x :: a, y :: b => if x.1 < y.1 then consP (x.1, boundI k x.2 0) (mergeI k a (y :: b)) else if y.1 < x.1 then consP (y.1, boundI k 0 y.2) (mergeI k (x :: a) b) else consP (x.1, boundI k x.2 y.2) (mergeI k a b)
termination_by a b => a.length + b.length
abbrev fK (k : Bool) : Cell := .sc (.func (.func 66) #[.bool k] #[])
theorem of_pure (k : Bool) (x y : Int) : Pure Tryz.prog 66 [.c (cB k), .c (cI x), .c (cI y)] (.c (cI (boundI k x y))) := by
  refine pure_of teOk Tryz.func66 (by kernel_rfl) (c := _) rfl (N := 15) rfl (rs := [Go.ResultVar.tmp 6]) rfl (by simp) fun base A w0 hA => ?_
  refine AW.st teOk [] (by simp [-Option.some.injEq] <;> rfl) trivial ?_
  refine AW.seq ?_
  refine AW.st teOk [] (by simp [-Option.some.injEq] <;> rfl) trivial ?_
  cases k with
  | true =>
    refine AW.iff true (by simp) (fun _ => ?_) (fun h => by cases h)
    refine AW.st teOk [] (by simp [-Option.some.injEq] <;> rfl) trivial ?_
    refine AW.ret ⟨.inr rfl, _, Weak.refl _, ?_⟩
    simp [boundI]
  | false =>
    refine AW.iff false (by simp) (fun h => by cases h) (fun _ => AW.skip ?_)
    refine AW.st teOk [] (by simp [-Option.some.injEq] <;> rfl) trivial ?_
    refine AW.ret ⟨.inr rfl, _, Weak.refl _, ?_⟩
    simp [boundI]
theorem merge_pure (k : Bool) (a b : List E2) (hab : a.length + b.length < 1000000000000) : Pure Tryz.prog 65 [.c (encV a), .c (encV b), .c (fK k)] (.c (encV (mergeI k a b))) := by
  refine pure_of teOk Tryz.func65 (by kernel_rfl) (c := _) rfl (N := 105) rfl (rs := [Go.ResultVar.tmp 6]) rfl (by simp) fun base A w0 hA => ?_
  refine AW.st teOk [] (by simp [-Option.some.injEq] <;> rfl) trivial ?_
  refine AW.st teOk [] (by simp [-Option.some.injEq] <;> rfl) trivial ?_
  refine AW.weak (Weak.nil 7 2 _ (by simp <;> rfl)) (AW.seq (AW.block (AW.loop (fun m s => ∃ a' b' o, m = a'.length + b'.length ∧ o ++ mergeI k a' b' = mergeI k a b ∧ o.length + a'.length + b'.length < 1000000000000 ∧
    s = ⟨[(0, .c (encV a')), (1, .c (encV b')), (2, .c (fK k)), (7, .c (.ref 0 0 o.length))], [(0, ⟨2, o.map encE⟩)], 1⟩) _ (Weak.normT hA [0, 1, 2, 7] [(7, 0)] [] 1 _ (by simp) (by simp) (by simp)) ⟨a, b, [], rfl, rfl, by simpa using hab, by simp⟩ ?_)))
  rintro m s ⟨a', b', o, rfl, ho, hl, rfl⟩
  refine AW.mid (fun s => (a' ≠ [] ∨ b' ≠ []) ∧ s = ⟨[(0, .c (encV a')), (1, .c (encV b')), (2, .c (fK k)), (7, .c (.ref 0 0 o.length))], [(0, ⟨2, o.map encE⟩)], 1⟩) ?_ ?_
  · rcases a' with _ | ⟨x, a'⟩
    · rcases b' with _ | ⟨y, b'⟩
      · refine AW.st teOk [] (by simp [-Option.some.injEq] <;> rfl) trivial ?_
        refine AW.iff false (by simp) (fun h => by cases h) (fun _ => AW.exit (x_then (x_then (blockA_exit ?_))))
        refine AW.st teOk [] (by simp [-Option.some.injEq] <;> rfl) trivial ?_
        rw [mergeI, List.append_nil] at ho
        refine AW.ret ⟨.inr rfl, _, Weak.frzT 6 [] _ (by simp <;> exact ⟨rfl, rfl, rfl⟩) (by simp <;> rfl) (flat_encE o), ?_⟩
        simp [ho]
      · refine AW.st teOk [] (by simp [-Option.some.injEq] <;> rfl) trivial ?_
        exact AW.iff true (by simp) (fun _ => AW.skip ⟨_, Weak.normT hA [0, 1, 2, 7] [(7, 0)] [] 1 _ (by simp) (by simp) (by simp), by simp, by simp⟩) (fun h => by cases h)
    · refine AW.st teOk [] (by simp [-Option.some.injEq] <;> rfl) trivial ?_
      exact AW.iff true (by simp) (fun _ => AW.skip ⟨_, Weak.normT hA [0, 1, 2, 7] [(7, 0)] [] 1 _ (by simp) (by simp) (by simp), by simp, by simp⟩) (fun h => by cases h)
  rintro s ⟨hne, rfl⟩
  refine AW.block ?_
  refine AW.st teOk [] (by simp [-Option.some.injEq] <;> rfl) trivial ?_
  refine AW.mid (fun s => ∃ a'' b'' e, mergeI k a' b' = consP e (mergeI k a'' b'') ∧ a''.length + b''.length < a'.length + b'.length ∧
    s = ⟨[(0, .c (encV a'')), (1, .c (encV b'')), (2, .c (fK k)), (7, .c (.ref 0 0 o.length)), (8, .c (.ptr 1 0 0))], [(1, ⟨2, [encE e]⟩), (0, ⟨2, o.map encE⟩)], 2⟩) ?_ ?_
  · refine AW.block ?_
    have hall : (∃ x a2, a' = x :: a2 ∧ b' = []) ∨ (∃ y b2, a' = [] ∧ b' = y :: b2) ∨ ∃ x a2 y b2, a' = x :: a2 ∧ b' = y :: b2 := by
      rcases a' with _ | ⟨x, a'⟩ <;> rcases b' with _ | ⟨y, b'⟩ <;> simp at hne ⊢
    rcases hall with ⟨x, a2, rfl, rfl⟩ | ⟨y, b2, rfl, rfl⟩ | ⟨x, a2, y, b2, rfl, rfl⟩
    · refine AW.dr mixed teOk [] (by simp [-Option.some.injEq] <;> rfl) (by kernel_rfl) (by kernel_rfl) ?_ ?_
      · first | trivial | omega | (simp [allP, growOk] <;> omega)
      refine AW.iff true (by simp) (fun _ => ?_) (fun h => by cases h)
      refine AW.dr mixed teOk [.c (cI (boundI k x.2 0))] (by simp [-Option.some.injEq] <;> rfl) (by kernel_rfl) (by kernel_rfl) ?_ ?_
      · simp [allP]
        exact of_pure k x.2 0
      refine AW.text teOk (ans := []) (by simp [-Option.some.injEq] <;> rfl) ?_ ?_
      · first | trivial | omega | (simp [allP, growOk] <;> omega)
      exact ⟨_, Weak.normT hA [0, 1, 2, 7, 8] [(7, 0), (8, 1)] [] 2 _ (by simp) (by simp) (by simp), a2, [], (x.1, boundI k x.2 0), by rw [mergeI], by simp, by simp⟩
    · refine AW.dr mixed teOk [] (by simp [-Option.some.injEq] <;> rfl) (by kernel_rfl) (by kernel_rfl) ?_ ?_
      · first | trivial | omega | (simp [allP, growOk] <;> omega)
      refine AW.iff false (by simp) (fun h => by cases h) (fun _ => ?_)
      refine AW.dr mixed teOk [] (by simp [-Option.some.injEq] <;> rfl) (by kernel_rfl) (by kernel_rfl) ?_ ?_
      · first | trivial | omega | (simp [allP, growOk] <;> omega)
      refine AW.iff true (by simp) (fun _ => ?_) (fun h => by cases h)
      refine AW.dr mixed teOk [.c (cI (boundI k 0 y.2))] (by simp [-Option.some.injEq] <;> rfl) (by kernel_rfl) (by kernel_rfl) ?_ ?_
      · simp [allP]
        exact of_pure k 0 y.2
      refine AW.text teOk (ans := []) (by simp [-Option.some.injEq] <;> rfl) ?_ ?_
      · first | trivial | omega | (simp [allP, growOk] <;> omega)
      exact ⟨_, Weak.normT hA [0, 1, 2, 7, 8] [(7, 0), (8, 1)] [] 2 _ (by simp) (by simp) (by simp), [], b2, (y.1, boundI k 0 y.2), by rw [mergeI], by simp, by simp⟩
    · by_cases h1 : x.1 < y.1
      · refine AW.dr mixed teOk [] (by simp [h1, -Option.some.injEq] <;> rfl) (by kernel_rfl) (by kernel_rfl) ?_ ?_
        · first | trivial | omega | (simp [allP, growOk] <;> omega)
        refine AW.iff true (by simp) (fun _ => ?_) (fun h => by cases h)
        refine AW.dr mixed teOk [.c (cI (boundI k x.2 0))] (by simp [-Option.some.injEq] <;> rfl) (by kernel_rfl) (by kernel_rfl) ?_ ?_
        · simp [allP]
          exact of_pure k x.2 0
        refine AW.text teOk (ans := []) (by simp [-Option.some.injEq] <;> rfl) ?_ ?_
        · first | trivial | omega | (simp [allP, growOk] <;> omega)
        exact ⟨_, Weak.normT hA [0, 1, 2, 7, 8] [(7, 0), (8, 1)] [] 2 _ (by simp) (by simp) (by simp), a2, y :: b2, (x.1, boundI k x.2 0), by rw [mergeI, if_pos h1], by simp, by simp⟩
      · refine AW.dr mixed teOk [] (by simp [h1, -Option.some.injEq] <;> rfl) (by kernel_rfl) (by kernel_rfl) ?_ ?_
        · first | trivial | omega | (simp [allP, growOk] <;> omega)
        refine AW.iff false (by simp) (fun h => by cases h) (fun _ => ?_)
        by_cases h2 : y.1 < x.1
        · refine AW.dr mixed teOk [] (by simp [h2, -Option.some.injEq] <;> rfl) (by kernel_rfl) (by kernel_rfl) ?_ ?_
          · first | trivial | omega | (simp [allP, growOk] <;> omega)
          refine AW.iff true (by simp) (fun _ => ?_) (fun h => by cases h)
          refine AW.dr mixed teOk [.c (cI (boundI k 0 y.2))] (by simp [-Option.some.injEq] <;> rfl) (by kernel_rfl) (by kernel_rfl) ?_ ?_
          · simp [allP]
            exact of_pure k 0 y.2
          refine AW.text teOk (ans := []) (by simp [-Option.some.injEq] <;> rfl) ?_ ?_
          · first | trivial | omega | (simp [allP, growOk] <;> omega)
          exact ⟨_, Weak.normT hA [0, 1, 2, 7, 8] [(7, 0), (8, 1)] [] 2 _ (by simp) (by simp) (by simp), x :: a2, b2, (y.1, boundI k 0 y.2), by rw [mergeI, if_neg h1, if_pos h2], by simp, by simp⟩
        · refine AW.dr mixed teOk [] (by simp [h2, -Option.some.injEq] <;> rfl) (by kernel_rfl) (by kernel_rfl) ?_ ?_
          · first | trivial | omega | (simp [allP, growOk] <;> omega)
          refine AW.iff false (by simp) (fun h => by cases h) (fun _ => ?_)
          refine AW.dr mixed teOk [.c (cI (boundI k x.2 y.2))] (by simp [-Option.some.injEq] <;> rfl) (by kernel_rfl) (by kernel_rfl) ?_ ?_
          · simp [allP]
            exact of_pure k x.2 y.2
          refine AW.draw mixed teOk (ans := []) (by simp [-Option.some.injEq] <;> rfl) (by kernel_rfl) (by kernel_rfl) ?_ ?_
          · simp [allP]; omega
          exact ⟨_, Weak.normT hA [0, 1, 2, 7, 8] [(7, 0), (8, 1)] [] 2 _ (by simp) (by simp) (by simp), a2, b2, (x.1, boundI k x.2 y.2), by rw [mergeI, if_neg h1, if_neg h2], by simp; omega, by simp⟩
  · rintro s ⟨a'', b'', e, hm, hlt, rfl⟩
    refine AW.st teOk [] (by simp [-Option.some.injEq] <;> rfl) trivial ?_
    by_cases he : e.2 > 0
    · refine AW.iff true (by simp [he]) (fun _ => ?_) (fun h => by cases h)
      refine AW.text teOk (ans := []) (by simp [-Option.some.injEq] <;> rfl) ?_ ?_
      · simp [growOk]
        omega
      refine ⟨_, _, Weak.normT hA [0, 1, 2, 7] [(7, 0)] [] 1 _ (by simp) (by simp) (by simp), ?_, a'', b'', o ++ [e], rfl, ?_, ?_, by simp⟩
      · exact hlt
      · rw [← ho, hm, consP, if_pos he, List.append_assoc]; rfl
      · first | trivial | omega | (simp [allP, growOk] <;> omega)
    · refine AW.iff false (by simp [he]) (fun h => by cases h) (fun _ => AW.skip ?_)
      refine ⟨_, _, Weak.normT hA [0, 1, 2, 7] [(7, 0)] [] 1 _ (by simp) (by simp) (by simp), ?_, a'', b'', o, rfl, ?_, ?_, by simp⟩
      · exact hlt
      · rw [← ho, hm, consP, if_neg he]
      · omega
end Go.Proofs.YtphlhadgcfndhaaGreatDoor.Abs
end
section
namespace Go.Proofs.YtphlhadgcfndhaaGreatDoor.Abs
open Go Go.RowKit
set_option linter.unusedVariables false
set_option linter.unusedSimpArgs false
set_option maxHeartbeats 4000000
def cmpI (x y : Int) : Int := if x < y then -1 else if x > y then 1 else 0
theorem isNaN_pure (x : Int) : Pure Tryz.prog 88 [.c (cI x)] (.c (cB false)) := by
  refine pure_of teOk Tryz.func88 (by kernel_rfl) (c := _) rfl (N := 6) rfl (rs := [Go.ResultVar.tmp 2]) rfl (by simp) fun base A w0 hA => ?_
  refine AW.st teOk [] (by simp [-Option.some.injEq] <;> rfl) trivial ?_
  refine AW.st teOk [] (by simp [-Option.some.injEq] <;> rfl) trivial ?_
  refine AW.ret ⟨.inr rfl, _, Weak.refl _, ?_⟩
  simp
theorem cmp_pure (x y : Int) : Pure Tryz.prog 61 [.c (cI x), .c (cI y)] (.c (cI (cmpI x y))) := by
  refine pure_of teOk Tryz.func61 (by kernel_rfl) (c := _) rfl (N := 20) rfl (rs := [Go.ResultVar.tmp 4]) rfl (by simp) fun base A w0 hA => ?_
  refine AW.st teOk [] (by simp [-Option.some.injEq] <;> rfl) trivial ?_
  refine AW.st teOk [.fz (.c (cB false))] (by simp [-Option.some.injEq] <;> rfl) ?_ ?_
  · exact isNaN_pure x
  refine AW.st teOk [.fz (.c (cB false))] (by simp [-Option.some.injEq] <;> rfl) ?_ ?_
  · exact isNaN_pure y
  refine AW.seq ?_
  refine AW.st teOk [] (by simp [-Option.some.injEq] <;> rfl) trivial ?_
  refine AW.iff false (by simp) (fun h => by cases h) (fun _ => AW.skip ?_)
  refine AW.seq ?_
  refine AW.st teOk [] (by simp [-Option.some.injEq] <;> rfl) trivial ?_
  refine AW.iff false (by simp) (fun h => by cases h) (fun _ => AW.skip ?_)
  refine AW.seq ?_
  refine AW.st teOk [] (by simp [-Option.some.injEq] <;> rfl) trivial ?_
  refine AW.iff (decide (x < y)) (by simp) (fun h => ?_) (fun h => AW.skip ?_)
  · refine AW.st teOk [] (by simp [-Option.some.injEq] <;> rfl) trivial ?_
    refine AW.ret ⟨.inr rfl, _, Weak.refl _, ?_⟩
    rw [decide_eq_true_eq] at h
    simp [cmpI, h]
  refine AW.seq ?_
  rw [decide_eq_false_iff_not] at h
  refine AW.st teOk [] (by simp [-Option.some.injEq] <;> rfl) trivial ?_
  refine AW.iff (decide (x > y)) (by simp) (fun h => ?_) (fun h => AW.skip ?_)
  · refine AW.st teOk [] (by simp [-Option.some.injEq] <;> rfl) trivial ?_
    refine AW.ret ⟨.inr rfl, _, Weak.refl _, ?_⟩
    rw [decide_eq_true_eq] at h
    simp [cmpI, h]
    omega
  refine AW.st teOk [] (by simp [-Option.some.injEq] <;> rfl) trivial ?_
  refine AW.ret ⟨.inr rfl, _, Weak.refl _, ?_⟩
  rw [decide_eq_false_iff_not] at h
  simp [cmpI]
  rw [if_neg (by omega), if_neg (by omega)]
abbrev fS : Cell := .sc (.func (.func 98) #[] #[])
theorem search1_pure (e : E2) (a : Int) : Pure Tryz.prog 98 [.agg (encE e), .c (cI a)] (.c (cI (cmpI e.1 a))) := by
  refine pure_of teOk Tryz.func98 (by kernel_rfl) (c := _) rfl (N := 9) rfl (rs := [Go.ResultVar.tmp 4]) rfl (by simp) fun base A w0 hA => ?_
  refine AW.st teOk [] (by simp [-Option.some.injEq] <;> rfl) trivial ?_
  refine AW.st teOk [.fz (.c (cI (cmpI e.1 a)))] (by simp [-Option.some.injEq] <;> rfl) ?_ ?_
  · exact cmp_pure e.1 a
  refine AW.ret ⟨.inr rfl, _, Weak.refl _, ?_⟩
  simp
/-- In order of their authors. -/
def Asc (v : List E2) : Prop := v.Pairwise fun x y => x.1 < y.1
/-- Where an author's entry is, or would be. -/
def posI (v : List E2) (a : Int) : Nat := v.countP fun x => decide (x.1 < a)
def hasI (v : List E2) (a : Int) : Bool := v.any fun x => decide (x.1 = a)
theorem mid_s (i j n : Nat) (h : i ≤ n) (h2 : j ≤ n) (hn : n < 1000000000000) : IntKind.i64.wrap ((IntKind.u64.wrap (IntKind.i64.wrap ((i : Int) + j))).fdiv (2 ^ min 1 IntKind.u64.bits)) = ((i + j) / 2 : Nat) := by
  have e1 : IntKind.i64.wrap ((i : Int) + j) = (i : Int) + j := by rw [IntKind.wrap_i64]; omega
  have e2 : IntKind.u64.wrap ((i : Int) + j) = (i : Int) + j := by rw [IntKind.wrap_u64]; omega
  have e3 : (2 : Int) ^ min 1 IntKind.u64.bits = 2 := rfl
  rw [e1, e2, e3, Int.fdiv_eq_ediv_of_nonneg _ (by omega), IntKind.wrap_i64]
  omega
theorem pos_split {v : List E2} (hv : Asc v) (a : Int) {i : Nat} {e : E2} (he : v[i]? = some e) : (e.1 < a → i + 1 ≤ posI v a) ∧ (¬ e.1 < a → posI v a ≤ i) := by
  obtain ⟨hlt, rfl⟩ := List.getElem?_eq_some_iff.1 he
  have hp := List.pairwise_iff_getElem.1 hv
  have hsplit : posI v a = (v.take i).countP (fun x => decide (x.1 < a)) + (v.drop i).countP (fun x => decide (x.1 < a)) := by
    rw [posI, ← List.countP_append, List.take_append_drop]
  refine ⟨fun h => ?_, fun h => ?_⟩
  · have h1 : (v.take i).countP (fun x => decide (x.1 < a)) = i := by
      rw [List.countP_eq_length.2, List.length_take]
      · omega
      · intro x hx
        obtain ⟨q, hq, rfl⟩ := List.getElem_of_mem hx
        rw [List.length_take] at hq
        rw [List.getElem_take]
        have := hp q i (by omega) hlt (by omega)
        simp only [decide_eq_true_eq]
        omega
    rw [List.drop_eq_getElem_cons hlt, List.countP_cons_of_pos (by simpa using h)] at hsplit
    omega
  · have h1 : (v.drop i).countP (fun x => decide (x.1 < a)) = 0 := by
      rw [List.countP_eq_zero]
      intro x hx
      obtain ⟨q, hq, rfl⟩ := List.getElem_of_mem hx
      rw [List.length_drop] at hq
      rw [List.getElem_drop]
      simp only [decide_eq_true_eq]
      by_cases h0 : q = 0
      · subst h0; exact h
      · have := hp i (i + q) hlt (by omega) (by omega)
        omega
    have h2 : (v.take i).countP (fun x => decide (x.1 < a)) ≤ i := by
      have := List.countP_le_length (p := fun x : E2 => decide (x.1 < a)) (l := v.take i)
      rw [List.length_take] at this
      omega
    omega
theorem has_pos {v : List E2} (hv : Asc v) (a : Int) : hasI v a = (v[posI v a]?.any fun e => decide (e.1 = a)) := by
  rw [Bool.eq_iff_iff]
  constructor
  · intro h
    obtain ⟨e, he, h1⟩ := List.any_eq_true.1 h
    rw [decide_eq_true_eq] at h1
    obtain ⟨i, hi, rfl⟩ := List.getElem_of_mem he
    have g := pos_split hv a (List.getElem?_eq_getElem hi)
    have g2 := g.2 (by omega)
    have hple : i ≤ posI v a := by
      by_cases h0 : posI v a < i
      · have hpl : posI v a < v.length := by omega
        have := (pos_split hv a (List.getElem?_eq_getElem hpl)).1 (by
          have := List.pairwise_iff_getElem.1 hv (posI v a) i hpl hi h0
          omega)
        omega
      · omega
    have : posI v a = i := by omega
    rw [this, List.getElem?_eq_getElem hi]
    simpa using h1
  · intro h
    cases he : v[posI v a]? with
    | none => rw [he] at h; cases h
    | some e =>
      rw [he] at h
      exact List.any_eq_true.2 ⟨e, List.mem_of_getElem? he, h⟩
theorem bsf_pure (v : List E2) (a : Int) (hv : Asc v) (hl : v.length < 1000000000000) : Pure Tryz.prog 97 [.c (encV v), .c (cI a), .c fS] (.tup [.c (cI (posI v a)), .c (cB (hasI v a))]) := by
  refine pure_of teOk Tryz.func97 (by kernel_rfl) (c := _) rfl (N := 49) rfl (rs := [Go.ResultVar.tmp 6, Go.ResultVar.tmp 7]) rfl (by simp) fun base A w0 hA => ?_
  refine AW.st teOk [] (by simp [-Option.some.injEq] <;> rfl) trivial ?_
  refine AW.st teOk [] (by simp [-Option.some.injEq] <;> rfl) trivial ?_
  refine AW.st teOk [] (by simp [-Option.some.injEq] <;> rfl) trivial ?_
  refine AW.seq (AW.block (AW.loop (fun m s => ∃ i j : Nat, m = j - i ∧ i ≤ posI v a ∧ posI v a ≤ j ∧ j ≤ v.length ∧ s = ⟨[(0, .c (encV v)), (1, .c (cI a)), (2, .c fS), (8, .c (cI v.length)), (9, .c (cI i)), (10, .c (cI j))], [], 0⟩) _ (Weak.normT hA [0, 1, 2, 8, 9, 10] [] [] 0 _ (by simp) (by simp) (by simp)) ⟨0, v.length, rfl, Nat.zero_le _, List.countP_le_length, Nat.le_refl _, by simp⟩ ?_))
  rintro m s ⟨i, j, rfl, hi, hj, hjl, rfl⟩
  refine AW.seq ?_
  refine AW.st teOk [] (by simp [-Option.some.injEq] <;> rfl) trivial ?_
  refine AW.iff (decide (i < j)) (by simp) (fun h => AW.skip ?_) (fun h => AW.exit (x_then (x_then (blockA_exit ?_))))
  · rw [decide_eq_true_eq] at h
    refine AW.block ?_
    obtain ⟨q, hq⟩ : ∃ q, q = (i + j) / 2 := ⟨_, rfl⟩
    have hmid := mid_s i j v.length (by omega) hjl hl
    rw [← hq] at hmid
    refine AW.st teOk [] (by simp [hmid, -Option.some.injEq] <;> rfl) trivial ?_
    have hm : q < v.length := by omega
    obtain ⟨e, he⟩ : ∃ e, v[q]? = some e := ⟨_, List.getElem?_eq_getElem hm⟩
    have hps := pos_split hv a he
    refine AW.st teOk [.fz (.c (cI (cmpI e.1 a)))] (by simp [he, -Option.some.injEq] <;> rfl) ?_ ?_
    · exact ⟨by omega, search1_pure e a⟩
    by_cases hc : e.1 < a
    · refine AW.iff true (by simp [cmpI, hc]) (fun _ => ?_) (fun h => by cases h)
      refine AW.text teOk (ans := []) (by simp [-Option.some.injEq] <;> rfl) ?_ ?_
      · trivial
      refine ⟨_, _, Weak.normT hA [0, 1, 2, 8, 9, 10] [] [] 0 _ (by simp) (by simp) (by simp), ?_, q + 1, j, rfl, hps.1 hc, hj, hjl, ?_⟩
      · omega
      · simp
        exact wrap_s q (by omega)
    · refine AW.iff false (by simp [cmpI, hc]; split <;> omega) (fun h => by cases h) (fun _ => ?_)
      refine AW.text teOk (ans := []) (by simp [-Option.some.injEq] <;> rfl) ?_ ?_
      · trivial
      refine ⟨_, _, Weak.normT hA [0, 1, 2, 8, 9, 10] [] [] 0 _ (by simp) (by simp) (by simp), ?_, i, q, rfl, hi, hps.2 hc, by omega, by simp⟩
      omega
  · rw [decide_eq_false_iff_not] at h
    have hij : i = posI v a := by omega
    subst hij
    have hhas := has_pos hv a
    by_cases hp : posI v a < v.length
    · obtain ⟨e, he⟩ : ∃ e, v[posI v a]? = some e := ⟨_, List.getElem?_eq_getElem hp⟩
      rw [he] at hhas
      have hge : ¬ e.1 < a := fun h1 => by
        have := (pos_split hv a he).1 h1
        omega
      have hd : decide (posI v a < v.length) = true := by simpa using hp
      refine AW.st teOk [.fz (.c (cI (cmpI e.1 a)))] (by simp [he, hd, -Option.some.injEq] <;> rfl) ?_ ?_
      · exact ⟨by omega, search1_pure e a⟩
      refine AW.ret ⟨.inr rfl, _, Weak.refl _, ?_⟩
      simp [hhas, cmpI, hge]
      split
      · rw [decide_eq_false (by omega)]; rfl
      · rw [decide_eq_true (by omega)]; rfl
    · refine AW.st teOk [] (by simp [hp, -Option.some.injEq] <;> rfl) trivial ?_
      refine AW.ret ⟨.inr rfl, _, Weak.refl _, ?_⟩
      rw [List.getElem?_eq_none (by omega)] at hhas
      simp [hhas]
theorem search_pure (v : List E2) (a : Int) (hv : Asc v) (hl : v.length < 1000000000000) : Pure Tryz.prog 89 [.c (encV v), .c (cI a)] (.tup [.c (cI (posI v a)), .c (cB (hasI v a))]) := by
  refine pure_of teOk Tryz.func89 (by kernel_rfl) (c := _) rfl (N := 11) rfl (rs := [Go.ResultVar.tmp 4, Go.ResultVar.tmp 5]) rfl (by simp) fun base A w0 hA => ?_
  refine AW.st teOk [] (by simp [-Option.some.injEq] <;> rfl) trivial ?_
  refine AW.st teOk [.fz (.tup [.c (cI (posI v a)), .c (cB (hasI v a))])] (by simp [-Option.some.injEq] <;> rfl) ?_ ?_
  · exact bsf_pure v a hv hl
  refine AW.ret ⟨.inr rfl, _, Weak.refl _, ?_⟩
  simp
/-- The count of an author. -/
def countI (v : List E2) (a : Int) : Int := match v.find? fun x => decide (x.1 = a) with
  | some e => e.2
  | none => 0
theorem count_pos {v : List E2} (hv : Asc v) (a : Int) {e : E2} (he : v[posI v a]? = some e) (h : e.1 = a) : countI v a = e.2 := by
  unfold countI
  have : v.find? (fun x => decide (x.1 = a)) = some e := by
    obtain ⟨hlt, rfl⟩ := List.getElem?_eq_some_iff.1 he
    rw [List.find?_eq_some_iff_getElem]
    refine ⟨by simpa using h, posI v a, hlt, rfl, fun j hj => ?_⟩
    have := List.pairwise_iff_getElem.1 hv j (posI v a) (by omega) hlt hj
    simp
    omega
  rw [this]
theorem count_none {v : List E2} (a : Int) (h : hasI v a = false) : countI v a = 0 := by
  unfold countI
  have : v.find? (fun x => decide (x.1 = a)) = none := by
    rw [List.find?_eq_none]
    intro x hx
    have := List.any_eq_false.1 h x hx
    simpa using this
  rw [this]
theorem get_pure (v : List E2) (a : Int) (hv : Asc v) (hl : v.length < 1000000000000) : Pure Tryz.prog 67 [.c (encV v), .c (cI a)] (.c (cI (countI v a))) := by
  refine pure_of teOk Tryz.func67 (by kernel_rfl) (c := _) rfl (N := 19) rfl (rs := [Go.ResultVar.tmp 4]) rfl (by simp) fun base A w0 hA => ?_
  refine AW.st teOk [] (by simp [-Option.some.injEq] <;> rfl) trivial ?_
  refine AW.seq ?_
  refine AW.st teOk [.fz (.tup [.c (cI (posI v a)), .c (cB (hasI v a))])] (by simp [-Option.some.injEq] <;> rfl) ?_ ?_
  · exact search_pure v a hv hl
  refine AW.st teOk [] (by simp [-Option.some.injEq] <;> rfl) trivial ?_
  have hhas := has_pos hv a
  refine AW.iff (hasI v a) (by simp) (fun h => ?_) (fun h => AW.skip ?_)
  · rw [h] at hhas
    obtain ⟨e, he, h1⟩ : ∃ e, v[posI v a]? = some e ∧ e.1 = a := by
      cases he : v[posI v a]? with
      | none => rw [he] at hhas; cases hhas
      | some e => rw [he] at hhas; exact ⟨e, rfl, by simpa using hhas.symm⟩
    have hlt := (List.getElem?_eq_some_iff.1 he).1
    refine AW.st teOk [] (by simp [he, -Option.some.injEq] <;> rfl) ?_ ?_
    · first | trivial | omega | (simp [allP, growOk] <;> omega)
    refine AW.ret ⟨.inr rfl, _, Weak.refl _, ?_⟩
    simp [count_pos hv a he h1]
  · refine AW.st teOk [] (by simp [-Option.some.injEq] <;> rfl) trivial ?_
    refine AW.ret ⟨.inr rfl, _, Weak.refl _, ?_⟩
    simp [count_none a h]
def leI (a b : List E2) : Bool := a.all fun e => decide (e.2 ≤ countI b e.1)
theorem le_pure (a b : List E2) (hb : Asc b) (hla : a.length < 1000000000000) (hl : b.length < 1000000000000) : Pure Tryz.prog 32 [.c (encV a), .c (encV b)] (.c (cB (leI a b))) := by
  refine pure_of teOk Tryz.func32 (by kernel_rfl) (c := _) rfl (N := 21) rfl (rs := [Go.ResultVar.tmp 4]) rfl (by simp) fun base A w0 hA => ?_
  refine AW.st teOk [] (by simp [-Option.some.injEq] <;> rfl) trivial ?_
  refine AW.seq ?_
  refine AW.st teOk [] (by simp [-Option.some.injEq] <;> rfl) trivial ?_
  refine AW.block (AW.loop (fun m s => ∃ j : Nat, m = a.length - j ∧ j ≤ a.length ∧ leI a b = leI (a.drop j) b ∧ s = ⟨[(0, .c (encV a)), (1, .c (encV b)), (7, .c (encV a)), (8, .c (cI a.length)), (9, .c (cI j))], [], 0⟩) _ (Weak.normT hA [0, 1, 7, 8, 9] [] [] 0 _ (by simp) (by simp) (by simp)) ⟨0, rfl, Nat.zero_le _, rfl, by simp⟩ ?_)
  rintro m s ⟨j, rfl, hj, hle, rfl⟩
  refine AW.st teOk [] (by simp [-Option.some.injEq] <;> rfl) trivial ?_
  refine AW.seq (AW.iff (decide (j < a.length)) (by simp) (fun h => AW.skip ?_) (fun h => AW.exit (x_then (x_then (blockA_exit ?_)))))
  · rw [decide_eq_true_eq] at h
    obtain ⟨e, he⟩ : ∃ e, a[j]? = some e := ⟨_, List.getElem?_eq_getElem h⟩
    have hd : a.drop j = e :: a.drop (j + 1) := by
      rw [List.drop_eq_getElem_cons h, (List.getElem?_eq_some_iff.1 he).2]
    refine AW.seq (AW.block ?_)
    refine AW.st teOk [] (by simp [he, -Option.some.injEq] <;> rfl) ?_ ?_
    · first | trivial | omega | (simp [allP, growOk] <;> omega)
    refine AW.dr mixed teOk [.c (cI (countI b e.1))] (by simp [he, -Option.some.injEq] <;> rfl) (by kernel_rfl) (by kernel_rfl) ?_ ?_
    · simp [allP]
      exact get_pure b e.1 hb hl
    by_cases hc : e.2 > countI b e.1
    · refine AW.iff true (by simp [hc]) (fun _ => ?_) (fun h => by cases h)
      refine AW.st teOk [] (by simp [-Option.some.injEq] <;> rfl) trivial ?_
      refine AW.ret ⟨.inr rfl, _, Weak.refl _, ?_⟩
      rw [hle, hd]
      simp [leI]
      omega
    · refine AW.iff false (by simp; omega) (fun h => by cases h) (fun _ => AW.skip ?_)
      refine AW.text teOk (ans := []) (by simp [-Option.some.injEq] <;> rfl) ?_ ?_
      · trivial
      refine ⟨_, _, Weak.normT hA [0, 1, 7, 8, 9] [] [] 0 _ (by simp) (by simp) (by simp), ?_, j + 1, rfl, h, ?_, ?_⟩
      · omega
      · rw [hle, hd, leI, List.all_cons, decide_eq_true (by omega), Bool.true_and]
        rfl
      · simp
        exact wrap_s j (by omega)
  · rw [decide_eq_false_iff_not] at h
    refine AW.st teOk [] (by simp [-Option.some.injEq] <;> rfl) trivial ?_
    refine AW.ret ⟨.inr rfl, _, Weak.refl _, ?_⟩
    rw [hle, List.drop_eq_nil_of_le (by omega)]
    simp [leI]
theorem join_pure (a b : List E2) (hab : a.length + b.length < 1000000000000) : Pure Tryz.prog 30 [.c (encV a), .c (encV b)] (.c (encV (mergeI true a b))) := by
  refine pure_of teOk Tryz.func30 (by kernel_rfl) (c := _) rfl (N := 9) rfl (rs := [Go.ResultVar.tmp 4]) rfl (by simp) fun base A w0 hA => ?_
  refine AW.st teOk [] (by simp [-Option.some.injEq] <;> rfl) trivial ?_
  refine AW.st teOk [.fz (.c (encV (mergeI true a b)))] (by simp [-Option.some.injEq] <;> rfl) ?_ ?_
  · exact merge_pure true a b hab
  refine AW.ret ⟨.inr rfl, _, Weak.refl _, ?_⟩
  simp
end Go.Proofs.YtphlhadgcfndhaaGreatDoor.Abs
end
section
namespace Go.Proofs.YtphlhadgcfndhaaGreatDoor.Abs
open Go Go.RowKit
set_option linter.unusedVariables false
set_option linter.unusedSimpArgs false
set_option maxHeartbeats 4000000
@[simp] def encn (n : Int) : List Cell := [cI n]
abbrev encIs (l : List Int) : Cell := .row 1 false (l.map encn)
@[simp] theorem flat_encn (l : List Int) : flatO ⟨1, l.map encn⟩ = true := flatO_of fun e he => by
  obtain ⟨x, _, rfl⟩ := List.mem_map.1 he
  rfl
def AscN (l : List Int) : Prop := l.Pairwise (· < ·)
def posN (l : List Int) (a : Int) : Nat := l.countP fun x => decide (x < a)
def hasN (l : List Int) (a : Int) : Bool := l.any fun x => decide (x = a)
theorem posN_split {v : List Int} (hv : AscN v) (a : Int) {i : Nat} {e : Int} (he : v[i]? = some e) : (e < a → i + 1 ≤ posN v a) ∧ (¬ e < a → posN v a ≤ i) := by
  have h1 : Asc (v.map fun x => (x, (0 : Int))) := by
    unfold Asc
    rw [List.pairwise_map]
    exact hv
  have h2 := pos_split h1 a (i := i) (e := (e, 0)) (by rw [List.getElem?_map, he]; rfl)
  have h3 : posI (v.map fun x => (x, (0 : Int))) a = posN v a := by
    unfold posI posN
    rw [List.countP_map]
    rfl
  rw [h3] at h2
  exact h2
theorem hasN_pos {v : List Int} (hv : AscN v) (a : Int) : hasN v a = (v[posN v a]?.any fun e => decide (e = a)) := by
  have h1 : Asc (v.map fun x => (x, (0 : Int))) := by
    unfold Asc
    rw [List.pairwise_map]
    exact hv
  have h2 := has_pos h1 a
  have h3 : posI (v.map fun x => (x, (0 : Int))) a = posN v a := by
    unfold posI posN
    rw [List.countP_map]
    rfl
  rw [h3, List.getElem?_map] at h2
  unfold hasI at h2
  rw [List.any_map] at h2
  unfold hasN
  rw [show (v.any fun x => decide (x = a)) = v.any ((fun x : E2 => decide (x.1 = a)) ∘ fun x => (x, (0 : Int))) from rfl, h2]
  cases v[posN v a]? <;> rfl
/-- One more number, in its place. -/
def insN (l : List Int) (a : Int) : List Int := if hasN l a = true then l else l.take (posN l a) ++ a :: l.drop (posN l a)
theorem sisNaN_pure (x : Int) : Pure Tryz.prog 105 [.c (cI x)] (.c (cB false)) := by
  refine pure_of teOk Tryz.func105 (by kernel_rfl) (c := _) rfl (N := 6) rfl (rs := [Go.ResultVar.tmp 2]) rfl (by simp) fun base A w0 hA => ?_
  refine AW.st teOk [] (by simp [-Option.some.injEq] <;> rfl) trivial ?_
  refine AW.st teOk [] (by simp [-Option.some.injEq] <;> rfl) trivial ?_
  refine AW.ret ⟨.inr rfl, _, Weak.refl _, ?_⟩
  simp
theorem less_pure (x y : Int) : Pure Tryz.prog 104 [.c (cI x), .c (cI y)] (.c (cB (decide (x < y)))) := by
  refine pure_of teOk Tryz.func104 (by kernel_rfl) (c := _) rfl (N := 17) rfl (rs := [Go.ResultVar.tmp 4]) rfl (by simp) fun base A w0 hA => ?_
  refine AW.st teOk [] (by simp [-Option.some.injEq] <;> rfl) trivial ?_
  refine AW.st teOk [.fz (.c (cB false))] (by simp [-Option.some.injEq] <;> rfl) ?_ ?_
  · exact isNaN_pure x
  refine AW.ret ⟨.inr rfl, _, Weak.refl _, ?_⟩
  simp
theorem cloneN_pure (l : List Int) (hb : l.length < 1000000000000) : Pure Tryz.prog 54 [.c (encIs l)] (.c (encIs l)) := by
  refine pure_of teOk Tryz.func54 (by kernel_rfl) (c := _) rfl (N := 8) rfl (rs := [Go.ResultVar.tmp 2]) rfl (by simp) fun base A w0 hA => ?_
  refine AW.st teOk [] (by simp [-Option.some.injEq] <;> rfl) trivial ?_
  refine AW.mid (fun s => s = ⟨[(0, .c (encIs l))], [], 0⟩) ?_ ?_
  · by_cases he : l = []
    · subst he
      refine AW.st teOk [] (by simp [-Option.some.injEq] <;> rfl) trivial ?_
      refine AW.either (by simp) ?_ (AW.skip ⟨_, Weak.normT hA [0] [] [] 0 _ (by simp) (by simp) (by simp), by simp⟩)
      refine AW.st teOk [] (by simp [-Option.some.injEq] <;> rfl) trivial ?_
      refine AW.ret ⟨.inr rfl, _, Weak.le 2 _ (by simp <;> rfl) (.c (LeC.nil 1)), ?_⟩
      simp
    · refine AW.st teOk [] (by simp [he, -Option.some.injEq] <;> rfl) trivial ?_
      refine AW.iff false (by simp) (fun h => by cases h) fun _ => AW.skip ⟨_, Weak.normT hA [0] [] [] 0 _ (by simp) (by simp) (by simp), by simp⟩
  · rintro s rfl
    refine AW.st teOk [] (by simp [-Option.some.injEq] <;> rfl) ?_ ?_
    · simp [growOk]
      omega
    refine AW.ret ⟨.inr rfl, _, Weak.frzT 2 [] _ (by simp; exact ⟨rfl, rfl, rfl⟩) (by simp <;> rfl) (flat_encn l), ?_⟩
    simp
theorem bsN_pure (v : List Int) (a : Int) (hv : AscN v) (hl : v.length < 1000000000000) : Pure Tryz.prog 101 [.c (encIs v), .c (cI a)] (.tup [.c (cI (posN v a)), .c (cB (hasN v a))]) := by
  refine pure_of teOk Tryz.func101 (by kernel_rfl) (c := _) rfl (N := 54) rfl (rs := [Go.ResultVar.tmp 4, Go.ResultVar.tmp 5]) rfl (by simp) fun base A w0 hA => ?_
  refine AW.st teOk [] (by simp [-Option.some.injEq] <;> rfl) trivial ?_
  refine AW.st teOk [] (by simp [-Option.some.injEq] <;> rfl) trivial ?_
  refine AW.st teOk [] (by simp [-Option.some.injEq] <;> rfl) trivial ?_
  refine AW.seq (AW.block (AW.loop (fun m s => ∃ i j : Nat, m = j - i ∧ i ≤ posN v a ∧ posN v a ≤ j ∧ j ≤ v.length ∧ s = ⟨[(0, .c (encIs v)), (1, .c (cI a)), (6, .c (cI v.length)), (7, .c (cI i)), (8, .c (cI j))], [], 0⟩) _ (Weak.normT hA [0, 1, 6, 7, 8] [] [] 0 _ (by simp) (by simp) (by simp)) ⟨0, v.length, rfl, Nat.zero_le _, List.countP_le_length, Nat.le_refl _, by simp⟩ ?_))
  rintro m s ⟨i, j, rfl, hi, hj, hjl, rfl⟩
  refine AW.seq ?_
  refine AW.st teOk [] (by simp [-Option.some.injEq] <;> rfl) trivial ?_
  refine AW.iff (decide (i < j)) (by simp) (fun h => AW.skip ?_) (fun h => AW.exit (x_then (x_then (blockA_exit ?_))))
  · rw [decide_eq_true_eq] at h
    refine AW.block ?_
    obtain ⟨q, hq⟩ : ∃ q, q = (i + j) / 2 := ⟨_, rfl⟩
    have hmid := mid_s i j v.length (by omega) hjl hl
    rw [← hq] at hmid
    refine AW.st teOk [] (by simp [hmid, -Option.some.injEq] <;> rfl) trivial ?_
    have hm : q < v.length := by omega
    obtain ⟨e, he⟩ : ∃ e, v[q]? = some e := ⟨_, List.getElem?_eq_getElem hm⟩
    have hps := posN_split hv a he
    refine AW.st teOk [.fz (.c (cB (decide (e < a))))] (by simp [he, -Option.some.injEq] <;> rfl) ?_ ?_
    · exact ⟨by omega, less_pure e a⟩
    by_cases hc : e < a
    · refine AW.iff true (by simp [hc]) (fun _ => ?_) (fun h => by cases h)
      refine AW.text teOk (ans := []) (by simp [-Option.some.injEq] <;> rfl) ?_ ?_
      · trivial
      refine ⟨_, _, Weak.normT hA [0, 1, 6, 7, 8] [] [] 0 _ (by simp) (by simp) (by simp), ?_, q + 1, j, rfl, hps.1 hc, hj, hjl, ?_⟩
      · omega
      · simp
        exact wrap_s q (by omega)
    · refine AW.iff false (by simp; omega) (fun h => by cases h) (fun _ => ?_)
      refine AW.text teOk (ans := []) (by simp [-Option.some.injEq] <;> rfl) ?_ ?_
      · trivial
      refine ⟨_, _, Weak.normT hA [0, 1, 6, 7, 8] [] [] 0 _ (by simp) (by simp) (by simp), ?_, i, q, rfl, hi, hps.2 hc, by omega, by simp⟩
      omega
  · rw [decide_eq_false_iff_not] at h
    have hij : i = posN v a := by omega
    subst hij
    have hhas := hasN_pos hv a
    by_cases hp : posN v a < v.length
    · obtain ⟨e, he⟩ : ∃ e, v[posN v a]? = some e := ⟨_, List.getElem?_eq_getElem hp⟩
      rw [he] at hhas
      have hd : decide (posN v a < v.length) = true := by simpa using hp
      by_cases hea : e = a
      · subst hea
        refine AW.st teOk [] (by simp [he, hd, -Option.some.injEq] <;> rfl) ?_ ?_
        · omega
        refine AW.ret ⟨.inr rfl, _, Weak.refl _, ?_⟩
        simp [hhas]
      · have hea' : (e == a) = false := by simpa using hea
        refine AW.st teOk [.fz (.c (cB false))] (by simp [he, hd, hea', -Option.some.injEq] <;> rfl) ?_ ?_
        · exact ⟨by omega, sisNaN_pure e⟩
        refine AW.ret ⟨.inr rfl, _, Weak.refl _, ?_⟩
        simp [hhas, hea]
    · have hd : decide (posN v a < v.length) = false := by simpa using hp
      refine AW.st teOk [] (by simp [hd, -Option.some.injEq] <;> rfl) trivial ?_
      refine AW.ret ⟨.inr rfl, _, Weak.refl _, ?_⟩
      rw [List.getElem?_eq_none (by omega)] at hhas
      simp [hhas]
end Go.Proofs.YtphlhadgcfndhaaGreatDoor.Abs
end
section
namespace Go.Proofs.YtphlhadgcfndhaaGreatDoor.Abs
open Go Go.RowKit
set_option linter.unusedVariables false
set_option linter.unusedSimpArgs false
set_option maxHeartbeats 4000000
theorem consP_length (e : E2) (l : List E2) : (consP e l).length ≤ l.length + 1 := by
  unfold consP
  split <;> simp
theorem mergeI_length (k : Bool) (a b : List E2) : (mergeI k a b).length ≤ a.length + b.length := by
  induction a, b using mergeI.induct with
  | case1 => simp [mergeI]
  | case2 x a ih => rw [mergeI]; have := consP_length (x.1, boundI k x.2 0) (mergeI k a []); simp at *; omega
  | case3 y b ih => rw [mergeI]; have := consP_length (y.1, boundI k 0 y.2) (mergeI k [] b); simp at *; omega
  | case4 x a y b h ih => rw [mergeI, if_pos h]; have := consP_length (x.1, boundI k x.2 0) (mergeI k a (y :: b)); simp at *; omega
  | case5 x a y b h h2 ih => rw [mergeI, if_neg h, if_pos h2]; have := consP_length (y.1, boundI k 0 y.2) (mergeI k (x :: a) b); simp at *; omega
  | case6 x a y b h h2 ih => rw [mergeI, if_neg h, if_neg h2]; have := consP_length (x.1, boundI k x.2 y.2) (mergeI k a b); simp at *; omega
abbrev V2 := List E2
@[simp] def encC (v : V2) : List Cell := [encV v]
@[simp] def encBl (b : Bool) : List Cell := [cB b]
abbrev encVs (l : List V2) : Cell := .row 1 false (l.map encC)
abbrev encBs (l : List Bool) : Cell := .row 1 false (l.map encBl)
@[simp] theorem flat_encC (l : List V2) : flatO ⟨1, l.map encC⟩ = true := flatO_of fun e he => by
  obtain ⟨x, _, rfl⟩ := List.mem_map.1 he
  rfl
@[simp] theorem flat_encBl (l : List Bool) : flatO ⟨1, l.map encBl⟩ = true := flatO_of fun e he => by
  obtain ⟨x, _, rfl⟩ := List.mem_map.1 he
  rfl
def totI (l : List V2) : Nat := (l.map List.length).sum
def accI (v : V2) : List V2 → V2 × List Bool
  | [] => (v, [])
  | x :: l => ((accI (mergeI true v x) l).1, leI v x :: (accI (mergeI true v x) l).2)
/-- A join with nothing. -/
abbrev self (v : V2) : V2 := mergeI true v []
theorem accept_pure (v : V2) (l : List V2) (hl : ∀ x ∈ l, Asc x) (hb : v.length + totI l < 100000000000) (hn : l.length < 100000000000) : Pure Tryz.prog 90 [.agg [encV v], .c (encVs l)] (.tup [.agg [encV (accI (self v) l).1], .c (encBs (accI (self v) l).2)]) := by
  refine pure_of teOk Tryz.func90 (by kernel_rfl) (c := _) rfl (N := 32) rfl (rs := [Go.ResultVar.cell 4 89, Go.ResultVar.tmp 5]) rfl (by simp) fun base A w0 hA => ?_
  refine AW.st teOk [] (by simp [-Option.some.injEq] <;> rfl) trivial ?_
  refine AW.st teOk [] (by simp [-Option.some.injEq] <;> rfl) trivial ?_
  refine AW.st teOk [.fz (.c (encV (self v)))] (by simp [-Option.some.injEq] <;> rfl) ?_ ?_
  · exact (join_pure v [] (by simp; omega)).le (.cons (.refl _) (.cons (.c (.nil 2)) .nil)) (.refl _)
  refine AW.weak (Weak.nil 6 1 _ (by simp <;> rfl)) (AW.seq ?_)
  refine AW.st teOk [] (by simp [-Option.some.injEq] <;> rfl) trivial ?_
  refine AW.block (AW.loop (fun m s => ∃ j cur reps, m = l.length - j ∧ j ≤ l.length ∧ cur.length + totI (l.drop j) < 100000000000 ∧ (accI (self v) l).1 = (accI cur (l.drop j)).1 ∧ (accI (self v) l).2 = reps ++ (accI cur (l.drop j)).2 ∧ reps.length = j ∧
    s = ⟨[(4, .c (.ptr 0 0 0)), (6, .c (.ref 1 0 j)), (7, .c (encV cur)), (13, .c (encVs l)), (14, .c (cI l.length)), (15, .c (cI j))], [(1, ⟨1, reps.map encBl⟩), (0, ⟨1, [[.sc (.slice none 0 0)]]⟩)], 2⟩) _ (Weak.normT hA [4, 6, 7, 13, 14, 15] [(4, 0), (6, 1)] [] 2 _ (by simp) (by simp) (by simp)) ⟨0, self v, [], rfl, Nat.zero_le _, ?_, rfl, rfl, rfl, by simp⟩ ?_)
  · have h0 : (self v).length ≤ v.length + 0 := mergeI_length true v []
    show (self v).length + totI (l.drop 0) < 100000000000
    rw [List.drop_zero]
    omega
  rintro m s ⟨j, cur, reps, rfl, hj, hc, h1, h2, h3, rfl⟩
  refine AW.st teOk [] (by simp [-Option.some.injEq] <;> rfl) trivial ?_
  refine AW.seq (AW.iff (decide (j < l.length)) (by simp) (fun h => AW.skip ?_) (fun h => AW.exit (x_then (x_then (blockA_exit ?_)))))
  · rw [decide_eq_true_eq] at h
    obtain ⟨x, hx⟩ : ∃ x, l[j]? = some x := ⟨_, List.getElem?_eq_getElem h⟩
    have hd : l.drop j = x :: l.drop (j + 1) := by
      rw [List.drop_eq_getElem_cons h, (List.getElem?_eq_some_iff.1 hx).2]
    have hxa := hl x (List.mem_of_getElem? hx)
    rw [hd] at hc h1 h2
    simp only [totI, List.map_cons, List.sum_cons] at hc
    refine AW.seq (AW.block ?_)
    refine AW.st teOk [] (by simp [hx, -Option.some.injEq] <;> rfl) ?_ ?_
    · first | trivial | omega | (simp [allP, growOk] <;> omega)
    refine AW.st teOk [.fz (.c (cB (leI cur x)))] (by simp [-Option.some.injEq] <;> rfl) ?_ ?_
    · simp [growOk]
      exact ⟨le_pure cur x hxa (by omega) (by omega), by omega, by omega⟩
    refine AW.text teOk (ans := [.fz (.c (encV (mergeI true cur x)))]) (by simp [-Option.some.injEq] <;> rfl) ?_ ?_
    · exact join_pure cur x (by omega)
    refine AW.text teOk (ans := []) (by simp [-Option.some.injEq] <;> rfl) ?_ ?_
    · trivial
    refine ⟨_, _, Weak.normT hA [4, 6, 7, 13, 14, 15] [(4, 0), (6, 1)] [] 2 _ (by simp) (by simp) (by simp), ?_, j + 1, mergeI true cur x, reps ++ [leI cur x], rfl, h, ?_, ?_, ?_, ?_, ?_⟩
    · omega
    · have := mergeI_length true cur x
      simp only [totI]
      omega
    · rw [h1, accI]
    · rw [h2, accI, List.append_assoc]; rfl
    · simp [h3]
    · simp
      exact wrap_s j (by omega)
  · rw [decide_eq_false_iff_not] at h
    have hjl : j = l.length := by omega
    subst hjl
    rw [List.drop_length] at h1 h2
    rw [accI] at h1 h2
    refine AW.st teOk [] (by simp [-Option.some.injEq] <;> rfl) trivial ?_
    refine AW.ret ⟨.inr rfl, _, Weak.frzT 5 [] _ (by simp <;> exact ⟨rfl, rfl, rfl⟩) (by simp <;> rfl) (flat_encBl reps), ?_⟩
    rw [List.append_nil] at h2
    rw [← h3, h1, h2]
    simp
end Go.Proofs.YtphlhadgcfndhaaGreatDoor.Abs
end
section
namespace Go.Proofs.YtphlhadgcfndhaaGreatDoor.Abs
open Go Go.RowKit
set_option linter.unusedVariables false
set_option linter.unusedSimpArgs false
set_option maxHeartbeats 4000000
theorem find_drop {v : List E2} {a : Int} {j : Nat} {e : E2} (he : v[j]? = some e) (hn : ∀ i, i < j → ∀ x, v[i]? = some x → x.1 ≠ a) : (e.1 = a → countI v a = e.2) ∧ (e.1 ≠ a → ∀ i, i < j + 1 → ∀ x, v[i]? = some x → x.1 ≠ a) := by
  refine ⟨fun h => ?_, fun h i hi x hx => ?_⟩
  · unfold countI
    have : v.find? (fun x => decide (x.1 = a)) = some e := by
      obtain ⟨hlt, rfl⟩ := List.getElem?_eq_some_iff.1 he
      rw [List.find?_eq_some_iff_getElem]
      exact ⟨by simpa using h, j, hlt, rfl, fun i hi => by simpa using hn i hi _ (List.getElem?_eq_getElem (by omega))⟩
    rw [this]
  · by_cases hij : i = j
    · subst hij
      rw [he] at hx
      cases hx
      exact h
    · exact hn i (by omega) x hx
theorem rcount_pure (v : V2) (a : Int) (hl : v.length < 1000000000000) : Pure Tryz.prog 69 [.c (encV v), .c (cI a)] (.c (cI (countI v a))) := by
  refine pure_of teOk Tryz.func69 (by kernel_rfl) (c := _) rfl (N := 24) rfl (rs := [Go.ResultVar.tmp 4]) rfl (by simp) fun base A w0 hA => ?_
  refine AW.st teOk [] (by simp [-Option.some.injEq] <;> rfl) trivial ?_
  refine AW.seq ?_
  refine AW.st teOk [] (by simp [-Option.some.injEq] <;> rfl) trivial ?_
  refine AW.block (AW.loop (fun m s => ∃ j : Nat, m = v.length - j ∧ j ≤ v.length ∧ (∀ i, i < j → ∀ x, v[i]? = some x → x.1 ≠ a) ∧ s = ⟨[(0, .c (encV v)), (1, .c (cI a)), (5, .c (cI j))], [], 0⟩) _ (Weak.normT hA [0, 1, 5] [] [] 0 _ (by simp) (by simp) (by simp)) ⟨0, rfl, Nat.zero_le _, fun i hi => by omega, by simp⟩ ?_)
  rintro m s ⟨j, rfl, hj, hn, rfl⟩
  refine AW.seq ?_
  refine AW.st teOk [] (by simp [-Option.some.injEq] <;> rfl) trivial ?_
  refine AW.iff (decide (j < v.length)) (by simp) (fun h => AW.skip ?_) (fun h => AW.exit (x_then (x_then (blockA_exit ?_))))
  · rw [decide_eq_true_eq] at h
    obtain ⟨e, he⟩ : ∃ e, v[j]? = some e := ⟨_, List.getElem?_eq_getElem h⟩
    have hf := find_drop he hn
    refine AW.seq (AW.block ?_)
    refine AW.st teOk [] (by simp [he, -Option.some.injEq] <;> rfl) ?_ ?_
    · first | trivial | omega | (simp [allP, growOk] <;> omega)
    by_cases hc : e.1 = a
    · refine AW.iff true (by simp [hc]) (fun _ => ?_) (fun h => by cases h)
      refine AW.st teOk [] (by simp [he, -Option.some.injEq] <;> rfl) ?_ ?_
      · first | trivial | omega | (simp [allP, growOk] <;> omega)
      refine AW.ret ⟨.inr rfl, _, Weak.refl _, ?_⟩
      simp [hf.1 hc]
    · refine AW.iff false (by simp [hc]) (fun h => by cases h) (fun _ => AW.skip ?_)
      refine AW.text teOk (ans := []) (by simp [-Option.some.injEq] <;> rfl) ?_ ?_
      · trivial
      refine ⟨_, _, Weak.normT hA [0, 1, 5] [] [] 0 _ (by simp) (by simp) (by simp), ?_, j + 1, rfl, h, hf.2 hc, ?_⟩
      · omega
      · simp
        exact wrap_s j (by omega)
  · rw [decide_eq_false_iff_not] at h
    refine AW.st teOk [] (by simp [-Option.some.injEq] <;> rfl) trivial ?_
    refine AW.ret ⟨.inr rfl, _, Weak.refl _, ?_⟩
    have : countI v a = 0 := count_none a (List.any_eq_false.2 fun x hx => by
      obtain ⟨i, hi, rfl⟩ := List.getElem_of_mem hx
      have := hn i (by omega) _ (List.getElem?_eq_getElem hi)
      simpa using this)
    simp [this]
def withI (a c : Int) : Bool → V2 → V2
  | put, [] => if put = true then [] else [(a, c)]
  | put, e :: l => (if put = false ∧ a ≤ e.1 then [(a, c)] else []) ++ ((if e.1 = a then [] else [e]) ++ withI a c (put || decide (a ≤ e.1)) l)
theorem rwith_pure (v : V2) (a c : Int) (ha : 1 ≤ a) (hc0 : 0 ≤ c) (hc1 : c ≤ 1000000) (hl : v.length < 100000000000) : Pure Tryz.prog 70 [.c (encV v), .c (cI a), .c (cI c)] (.c (encV (withI a c (c == 0) v))) := by
  refine pure_of teOk Tryz.func70 (by kernel_rfl) (c := _) rfl (N := 69) rfl (rs := [Go.ResultVar.tmp 6]) rfl (by simp) fun base A w0 hA => ?_
  refine AW.st teOk [] (by simp [-Option.some.injEq] <;> rfl) trivial ?_
  refine AW.seq ?_
  have h1 : decide (a < 1) = false := by simp; omega
  have h2 : decide (c < 0) = false := by simp; omega
  have h3 : decide (c > 1000000) = false := by simp; omega
  refine AW.st teOk [] (by simp [h1, h2, h3, -Option.some.injEq] <;> rfl) trivial ?_
  refine AW.iff false (by simp) (fun h => by cases h) (fun _ => AW.skip ?_)
  refine AW.st teOk [] (by simp [-Option.some.injEq] <;> rfl) trivial ?_
  refine AW.st teOk [] (by simp [-Option.some.injEq] <;> rfl) trivial ?_
  refine AW.weak (Weak.nil 7 2 _ (by simp <;> rfl)) (AW.seq ?_)
  refine AW.st teOk [] (by simp [-Option.some.injEq] <;> rfl) trivial ?_
  refine AW.block (AW.loop (fun m s => ∃ j o put, m = v.length - j ∧ j ≤ v.length ∧ o.length ≤ 2 * j ∧ withI a c (c == 0) v = o ++ withI a c put (v.drop j) ∧ s = ⟨[(0, .c (encV v)), (1, .c (cI a)), (2, .c (cI c)), (7, .c (.ref 0 0 o.length)), (8, .c (cB put)), (9, .c (cI j))], [(0, ⟨2, o.map encE⟩)], 1⟩) _ (Weak.normT hA [0, 1, 2, 7, 8, 9] [(7, 0)] [] 1 _ (by simp) (by simp) (by simp)) ⟨0, [], c == 0, rfl, Nat.zero_le _, by simp, rfl, by simp⟩ ?_)
  rintro m s ⟨j, o, put, rfl, hj, ho, hw, rfl⟩
  refine AW.seq ?_
  refine AW.st teOk [] (by simp [-Option.some.injEq] <;> rfl) trivial ?_
  refine AW.iff (decide (j < v.length)) (by simp) (fun h => AW.skip ?_) (fun h => AW.exit (x_then (x_then (blockA_exit ?_))))
  · rw [decide_eq_true_eq] at h
    obtain ⟨e, he⟩ : ∃ e, v[j]? = some e := ⟨_, List.getElem?_eq_getElem h⟩
    have hd : v.drop j = e :: v.drop (j + 1) := by
      rw [List.drop_eq_getElem_cons h, (List.getElem?_eq_some_iff.1 he).2]
    refine AW.seq (AW.block ?_)
    rw [hd, withI] at hw
    refine AW.mid (fun s => ∃ o', o' = o ++ (if put = false ∧ a ≤ e.1 then [(a, c)] else []) ∧ s = ⟨[(0, .c (encV v)), (1, .c (cI a)), (2, .c (cI c)), (7, .c (.ref 0 0 o'.length)), (8, .c (cB (put || decide (a ≤ e.1)))), (9, .c (cI j))], [(0, ⟨2, o'.map encE⟩)], 1⟩) ?_ ?_
    · cases put with
      | true =>
        refine AW.st teOk [] (by simp [-Option.some.injEq] <;> rfl) trivial ?_
        exact AW.iff false (by simp) (fun h => by cases h) (fun _ => AW.skip ⟨_, Weak.normT hA [0, 1, 2, 7, 8, 9] [(7, 0)] [] 1 _ (by simp) (by simp) (by simp), o, by simp, by simp⟩)
      | false =>
        refine AW.st teOk [] (by simp [he, -Option.some.injEq] <;> rfl) ?_ ?_
        · first | trivial | omega | (simp [allP, growOk] <;> omega)
        by_cases hge : a ≤ e.1
        · refine AW.iff true (by simp [hge]) (fun _ => ?_) (fun h => by cases h)
          refine AW.st teOk [] (by simp [-Option.some.injEq] <;> rfl) ?_ ?_
          · simp [growOk]
            omega
          refine AW.text teOk (ans := []) (by simp [-Option.some.injEq] <;> rfl) ?_ ?_
          · trivial
          exact ⟨_, Weak.normT hA [0, 1, 2, 7, 8, 9] [(7, 0)] [] 1 _ (by simp) (by simp) (by simp), o ++ [(a, c)], by simp [hge], by simp [hge]⟩
        · refine AW.iff false (by simp [hge]) (fun h => by cases h) (fun _ => AW.skip ?_)
          exact ⟨_, Weak.normT hA [0, 1, 2, 7, 8, 9] [(7, 0)] [] 1 _ (by simp) (by simp) (by simp), o, by simp [hge], by simp [hge]⟩
    · rintro s ⟨o', ho', rfl⟩
      have ho2 : o'.length ≤ 2 * j + 1 := by
        rw [ho', List.length_append]
        split <;> simp <;> omega
      refine AW.st teOk [] (by simp [he, -Option.some.injEq] <;> rfl) ?_ ?_
      · first | trivial | omega | (simp [allP, growOk] <;> omega)
      by_cases hne : e.1 = a
      · refine AW.iff false (by simp [hne]) (fun h => by cases h) (fun _ => AW.skip ?_)
        refine AW.text teOk (ans := []) (by simp [-Option.some.injEq] <;> rfl) ?_ ?_
        · trivial
        refine ⟨_, _, Weak.normT hA [0, 1, 2, 7, 8, 9] [(7, 0)] [] 1 _ (by simp) (by simp) (by simp), ?_, j + 1, o', put || decide (a ≤ e.1), rfl, h, ?_, ?_, ?_⟩
        · omega
        · omega
        · rw [hw, ho', if_pos hne, List.append_assoc]; rfl
        · simp
          exact wrap_s j (by omega)
      · refine AW.iff true (by simp [hne]) (fun _ => ?_) (fun h => by cases h)
        refine AW.text teOk (ans := []) (by simp [he, -Option.some.injEq] <;> rfl) ?_ ?_
        · simp [growOk]
          omega
        refine AW.text teOk (ans := []) (by simp [-Option.some.injEq] <;> rfl) ?_ ?_
        · trivial
        refine ⟨_, _, Weak.normT hA [0, 1, 2, 7, 8, 9] [(7, 0)] [] 1 _ (by simp) (by simp) (by simp), ?_, j + 1, o' ++ [e], put || decide (a ≤ e.1), rfl, h, ?_, ?_, ?_⟩
        · omega
        · simp; omega
        · rw [hw, ho', if_neg hne, List.append_assoc, List.append_assoc]
        · simp
          exact wrap_s j (by omega)
  · rw [decide_eq_false_iff_not] at h
    have hjl : j = v.length := by omega
    subst hjl
    rw [List.drop_length, withI] at hw
    refine AW.mid (fun s => ∃ o', o' = withI a c (c == 0) v ∧ s = ⟨[(7, .c (.ref 0 0 o'.length))], [(0, ⟨2, o'.map encE⟩)], 1⟩) ?_ ?_
    · cases put with
      | true =>
        refine AW.st teOk [] (by simp [-Option.some.injEq] <;> rfl) trivial ?_
        exact AW.iff false (by simp) (fun h => by cases h) (fun _ => AW.skip ⟨_, Weak.normT hA [7] [(7, 0)] [] 1 _ (by simp) (by simp) (by simp), o, by simpa using hw.symm, by simp⟩)
      | false =>
        refine AW.st teOk [] (by simp [-Option.some.injEq] <;> rfl) trivial ?_
        refine AW.iff true (by simp) (fun _ => ?_) (fun h => by cases h)
        refine AW.text teOk (ans := []) (by simp [-Option.some.injEq] <;> rfl) ?_ ?_
        · simp [growOk]
          omega
        exact ⟨_, Weak.normT hA [7] [(7, 0)] [] 1 _ (by simp) (by simp) (by simp), o ++ [(a, c)], by simpa using hw.symm, by simp⟩
    · rintro s ⟨o', rfl, rfl⟩
      refine AW.st teOk [] (by simp [-Option.some.injEq] <;> rfl) trivial ?_
      refine AW.ret ⟨.inr rfl, _, Weak.frzT 6 [] _ (by simp <;> exact ⟨rfl, rfl, rfl⟩) (by simp <;> rfl) (flat_encE _), ?_⟩
      simp
theorem withI_length (a c : Int) : ∀ (v : V2) (put : Bool), (withI a c put v).length ≤ v.length + (if put = true then 0 else 1)
  | [], put => by cases put <;> simp [withI]
  | e :: l, put => by
    have ih := withI_length a c l (put || decide (a ≤ e.1))
    rw [withI]
    cases put with
    | true =>
      simp only [Bool.true_or, if_true, Bool.true_eq_false, false_and, if_false, List.nil_append, List.length_append] at ih ⊢
      split <;> simp <;> omega
    | false =>
      by_cases hge : a ≤ e.1
      · simp only [hge, decide_true, Bool.or_true, if_true, and_self, List.length_append] at ih ⊢
        split <;> simp <;> omega
      · simp only [hge, decide_false, Bool.or_false, and_false, if_false, List.nil_append, List.length_append, Bool.false_eq_true] at ih ⊢
        split <;> simp <;> omega
def stepI (out : V2) (e : E2) : V2 := if e.2 > countI out e.1 then withI e.1 e.2 (e.2 == 0) out else out
def rjoinI (a b : V2) : V2 := b.foldl stepI a
theorem stepI_length (o : V2) (e : E2) : (stepI o e).length ≤ o.length + 1 := by
  unfold stepI
  split
  · have := withI_length e.1 e.2 o (e.2 == 0)
    split at this <;> omega
  · omega
/-- Entries that a vector may have. -/
def Okv (v : V2) : Prop := ∀ e ∈ v, 1 ≤ e.1 ∧ 1 ≤ e.2 ∧ e.2 ≤ 1000000
theorem rjoin_pure (a b : V2) (hb : Okv b) (hab : a.length + b.length < 10000000000) : Pure Tryz.prog 34 [.c (encV a), .c (encV b)] (.c (encV (rjoinI a b))) := by
  refine pure_of teOk Tryz.func34 (by kernel_rfl) (c := _) rfl (N := 42) rfl (rs := [Go.ResultVar.tmp 4]) rfl (by simp) fun base A w0 hA => ?_
  refine AW.st teOk [] (by simp [-Option.some.injEq] <;> rfl) trivial ?_
  refine AW.st teOk [] (by simp [-Option.some.injEq] <;> rfl) ?_ ?_
  · simp [growOk]
    exact ⟨⟨by omega, by omega⟩, fun e x y _ he => by rw [← he]; rfl⟩
  refine AW.weak (Weak.frzT 5 [] _ (by simp <;> exact ⟨rfl, rfl, rfl⟩) (by simp <;> rfl) (by simp)) (AW.seq ?_)
  refine AW.st teOk [] (by simp [-Option.some.injEq] <;> rfl) trivial ?_
  refine AW.block (AW.loop (fun m s => ∃ j o, m = b.length - j ∧ j ≤ b.length ∧ o.length ≤ a.length + j ∧ rjoinI a b = (b.drop j).foldl stepI o ∧ s = ⟨[(0, .c (encV a)), (1, .c (encV b)), (5, .c (encV o)), (6, .c (cI j))], [], 0⟩) _ (Weak.normT hA [0, 1, 5, 6] [] [] 0 _ (by simp) (by simp) (by simp)) ⟨0, a, rfl, Nat.zero_le _, Nat.le_refl _, rfl, by simp⟩ ?_)
  rintro m s ⟨j, o, rfl, hj, ho, hr, rfl⟩
  refine AW.seq ?_
  refine AW.st teOk [] (by simp [-Option.some.injEq] <;> rfl) trivial ?_
  refine AW.iff (decide (j < b.length)) (by simp) (fun h => AW.skip ?_) (fun h => AW.exit (x_then (x_then (blockA_exit ?_))))
  · rw [decide_eq_true_eq] at h
    obtain ⟨e, he⟩ : ∃ e, b[j]? = some e := ⟨_, List.getElem?_eq_getElem h⟩
    have hd : b.drop j = e :: b.drop (j + 1) := by
      rw [List.drop_eq_getElem_cons h, (List.getElem?_eq_some_iff.1 he).2]
    rw [hd, List.foldl_cons] at hr
    have hs := stepI_length o e
    obtain ⟨e1, e2, e3⟩ := hb e (List.mem_of_getElem? he)
    refine AW.seq (AW.block ?_)
    refine AW.dr mixed teOk [.c (cI (countI o e.1))] (by simp [he, -Option.some.injEq] <;> rfl) (by kernel_rfl) (by kernel_rfl) ?_ ?_
    · simp [allP]
      exact ⟨h, rcount_pure o e.1 (by omega)⟩
    by_cases hc : e.2 > countI o e.1
    · refine AW.iff true (by simp [hc]) (fun _ => ?_) (fun h => by cases h)
      refine AW.draw mixed teOk (ans := [.c (encV (withI e.1 e.2 (e.2 == 0) o))]) (by simp [he, -Option.some.injEq] <;> rfl) (by kernel_rfl) (by kernel_rfl) ?_ ?_
      · simp [allP]
        exact ⟨h, rwith_pure o e.1 e.2 e1 (by omega) e3 (by omega)⟩
      refine AW.text teOk (ans := []) (by simp [-Option.some.injEq] <;> rfl) ?_ ?_
      · trivial
      refine ⟨_, _, Weak.normT hA [0, 1, 5, 6] [] [] 0 _ (by simp) (by simp) (by simp), ?_, j + 1, stepI o e, rfl, h, ?_, hr, ?_⟩
      · omega
      · omega
      · simp [stepI, hc]
        exact wrap_s j (by omega)
    · refine AW.iff false (by simp; omega) (fun h => by cases h) (fun _ => AW.skip ?_)
      refine AW.text teOk (ans := []) (by simp [-Option.some.injEq] <;> rfl) ?_ ?_
      · trivial
      refine ⟨_, _, Weak.normT hA [0, 1, 5, 6] [] [] 0 _ (by simp) (by simp) (by simp), ?_, j + 1, stepI o e, rfl, h, ?_, hr, ?_⟩
      · omega
      · omega
      · simp [stepI, hc]
        exact wrap_s j (by omega)
  · rw [decide_eq_false_iff_not] at h
    rw [List.drop_eq_nil_of_le (by omega)] at hr
    refine AW.st teOk [] (by simp [-Option.some.injEq] <;> rfl) trivial ?_
    refine AW.ret ⟨.inr rfl, _, Weak.refl _, ?_⟩
    simp [hr]
end Go.Proofs.YtphlhadgcfndhaaGreatDoor.Abs
end
