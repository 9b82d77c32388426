/- Acceptors. -/
import Derived.Test.YtopcklnnkpjanaaWSrch
namespace Go.Proofs.Ytopcklnnkpjanaa.Abs
open Go Go.RowKit
set_option linter.unusedVariables false
set_option linter.unusedSimpArgs false
set_option maxHeartbeats 4000000
theorem consP_length (e : E2) (l : List E2) : (consP e l).length ≤ l.length + 1 := by
  unfold consP
  split <;> simp
theorem mergeI_length (k : Bool) (a b : List E2) : (mergeI k a b).length ≤ a.length + b.length := by
  induction a, b using mergeI.induct with
  | case1 => simp [mergeI]
  | case2 x a ih => rw [mergeI]; have := consP_length (x.1, boundI k x.2 0) (mergeI k a []); simp at *; omega
  | case3 y b ih => rw [mergeI]; have := consP_length (y.1, boundI k 0 y.2) (mergeI k [] b); simp at *; omega
  | case4 x a y b h ih => rw [mergeI, if_pos h]; have := consP_length (x.1, boundI k x.2 0) (mergeI k a (y :: b)); simp at *; omega
  | case5 x a y b h h2 ih => rw [mergeI, if_neg h, if_pos h2]; have := consP_length (y.1, boundI k 0 y.2) (mergeI k (x :: a) b); simp at *; omega
  | case6 x a y b h h2 ih => rw [mergeI, if_neg h, if_neg h2]; have := consP_length (x.1, boundI k x.2 y.2) (mergeI k a b); simp at *; omega
abbrev V2 := List E2
@[simp] def encC (v : V2) : List Cell := [encV v]
@[simp] def encBl (b : Bool) : List Cell := [cB b]
abbrev encVs (l : List V2) : Cell := .row 1 false (l.map encC)
abbrev encBs (l : List Bool) : Cell := .row 1 false (l.map encBl)
@[simp] theorem flat_encC (l : List V2) : flatO ⟨1, l.map encC⟩ = true := flatO_of fun e he => by
  obtain ⟨x, _, rfl⟩ := List.mem_map.1 he
  rfl
@[simp] theorem flat_encBl (l : List Bool) : flatO ⟨1, l.map encBl⟩ = true := flatO_of fun e he => by
  obtain ⟨x, _, rfl⟩ := List.mem_map.1 he
  rfl
def totI (l : List V2) : Nat := (l.map List.length).sum
def accI (v : V2) : List V2 → V2 × List Bool
  | [] => (v, [])
  | x :: l => ((accI (mergeI true v x) l).1, leI v x :: (accI (mergeI true v x) l).2)
/-- A join with nothing. -/
abbrev self (v : V2) : V2 := mergeI true v []
theorem accept_pure (v : V2) (l : List V2) (hl : ∀ x ∈ l, Asc x) (hb : v.length + totI l < 100000000000) (hn : l.length < 100000000000) : Pure Try.prog 65 [.agg [encV v], .c (encVs l)] (.tup [.agg [encV (accI (self v) l).1], .c (encBs (accI (self v) l).2)]) := by
  refine pure_of teOk Try.func65 (by kernel_rfl) (c := _) rfl (N := 32) rfl (rs := [Go.ResultVar.cell 4 29, Go.ResultVar.tmp 5]) rfl (by simp) fun base A w0 hA => ?_
  refine AW.st teOk [] (by simp [-Option.some.injEq] <;> rfl) trivial ?_
  refine AW.st teOk [] (by simp [-Option.some.injEq] <;> rfl) trivial ?_
  refine AW.st teOk [.fz (.c (encV (self v)))] (by simp [-Option.some.injEq] <;> rfl) ?_ ?_
  · exact (join_pure v [] (by simp; omega)).le (.cons (.refl _) (.cons (.c (.nil 2)) .nil)) (.refl _)
  refine AW.weak (Weak.nil 6 1 _ (by simp <;> rfl)) (AW.seq ?_)
  refine AW.st teOk [] (by simp [-Option.some.injEq] <;> rfl) trivial ?_
  refine AW.block (AW.loop (fun m s => ∃ j cur reps, m = l.length - j ∧ j ≤ l.length ∧ cur.length + totI (l.drop j) < 100000000000 ∧ (accI (self v) l).1 = (accI cur (l.drop j)).1 ∧ (accI (self v) l).2 = reps ++ (accI cur (l.drop j)).2 ∧ reps.length = j ∧
    s = ⟨[(4, .c (.ptr 0 0 0)), (6, .c (.ref 1 0 j)), (7, .c (encV cur)), (13, .c (encVs l)), (14, .c (cI l.length)), (15, .c (cI j))], [(1, ⟨1, reps.map encBl⟩), (0, ⟨1, [[.sc (.slice none 0 0)]]⟩)], 2⟩) _ (Weak.normT hA [4, 6, 7, 13, 14, 15] [(4, 0), (6, 1)] [] 2 _ (by simp) (by simp) (by simp)) ⟨0, self v, [], rfl, Nat.zero_le _, ?_, rfl, rfl, rfl, by simp⟩ ?_)
  · have h0 : (self v).length ≤ v.length + 0 := mergeI_length true v []
    show (self v).length + totI (l.drop 0) < 100000000000
    rw [List.drop_zero]
    omega
  rintro m s ⟨j, cur, reps, rfl, hj, hc, h1, h2, h3, rfl⟩
  refine AW.st teOk [] (by simp [-Option.some.injEq] <;> rfl) trivial ?_
  refine AW.seq (AW.iff (decide (j < l.length)) (by simp) (fun h => AW.skip ?_) (fun h => AW.exit (x_then (x_then (blockA_exit ?_)))))
  · rw [decide_eq_true_eq] at h
    obtain ⟨x, hx⟩ : ∃ x, l[j]? = some x := ⟨_, List.getElem?_eq_getElem h⟩
    have hd : l.drop j = x :: l.drop (j + 1) := by
      rw [List.drop_eq_getElem_cons h, (List.getElem?_eq_some_iff.1 hx).2]
    have hxa := hl x (List.mem_of_getElem? hx)
    rw [hd] at hc h1 h2
    simp only [totI, List.map_cons, List.sum_cons] at hc
    refine AW.seq (AW.block ?_)
    refine AW.st teOk [] (by simp [hx, -Option.some.injEq] <;> rfl) ?_ ?_
    · first | trivial | omega | (simp [allP, growOk] <;> omega)
    refine AW.st teOk [.fz (.c (cB (leI cur x)))] (by simp [-Option.some.injEq] <;> rfl) ?_ ?_
    · simp [growOk]
      exact ⟨le_pure cur x hxa (by omega) (by omega), by omega, by omega⟩
    refine AW.text teOk (ans := [.fz (.c (encV (mergeI true cur x)))]) (by simp [-Option.some.injEq] <;> rfl) ?_ ?_
    · exact join_pure cur x (by omega)
    refine AW.text teOk (ans := []) (by simp [-Option.some.injEq] <;> rfl) ?_ ?_
    · trivial
    refine ⟨_, _, Weak.normT hA [4, 6, 7, 13, 14, 15] [(4, 0), (6, 1)] [] 2 _ (by simp) (by simp) (by simp), ?_, j + 1, mergeI true cur x, reps ++ [leI cur x], rfl, h, ?_, ?_, ?_, ?_, ?_⟩
    · omega
    · have := mergeI_length true cur x
      simp only [totI]
      omega
    · rw [h1, accI]
    · rw [h2, accI, List.append_assoc]; rfl
    · simp [h3]
    · simp
      exact wrap_s j (by omega)
  · rw [decide_eq_false_iff_not] at h
    have hjl : j = l.length := by omega
    subst hjl
    rw [List.drop_length] at h1 h2
    rw [accI] at h1 h2
    refine AW.st teOk [] (by simp [-Option.some.injEq] <;> rfl) trivial ?_
    refine AW.ret ⟨.inr rfl, _, Weak.frzT 5 [] _ (by simp <;> exact ⟨rfl, rfl, rfl⟩) (by simp <;> rfl) (flat_encBl reps), ?_⟩
    rw [List.append_nil] at h2
    rw [← h3, h1, h2]
    simp
end Go.Proofs.Ytopcklnnkpjanaa.Abs
