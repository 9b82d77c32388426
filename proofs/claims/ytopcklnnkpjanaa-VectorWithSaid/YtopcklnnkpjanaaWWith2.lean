/- The law VectorWith. -/
import Derived.Test.YtopcklnnkpjanaaWWith
namespace Go.Proofs.Ytopcklnnkpjanaa.Abs
open Go Go.RowKit
set_option linter.unusedVariables false
set_option linter.unusedSimpArgs false
set_option maxHeartbeats 4000000
theorem rwith_bad (v : V2) (a c : Int) (hb : a < 1 ∨ c < 0 ∨ c > 1000000) : Pure Try.prog 41 [.c (encV v), .c (cI a), .c (cI c)] (.c (encV v)) := by
  refine pure_of teOk Try.func41 (by kernel_rfl) (c := _) rfl (N := 69) rfl (rs := [Go.ResultVar.tmp 6]) rfl (by simp) fun base A w0 hA => ?_
  refine AW.st teOk [] (by simp [-Option.some.injEq] <;> rfl) trivial ?_
  refine AW.seq ?_
  by_cases h1 : a < 1
  · refine AW.st teOk [] (by simp [h1, -Option.some.injEq] <;> rfl) trivial ?_
    refine AW.iff true (by simp) (fun _ => ?_) (fun h => by cases h)
    refine AW.st teOk [] (by simp [-Option.some.injEq] <;> rfl) trivial ?_
    refine AW.ret ⟨.inr rfl, _, Weak.refl _, ?_⟩
    simp
  · by_cases h2 : c < 0
    · refine AW.st teOk [] (by simp [h1, h2, -Option.some.injEq] <;> rfl) trivial ?_
      refine AW.iff true (by simp) (fun _ => ?_) (fun h => by cases h)
      refine AW.st teOk [] (by simp [-Option.some.injEq] <;> rfl) trivial ?_
      refine AW.ret ⟨.inr rfl, _, Weak.refl _, ?_⟩
      simp
    · have h3 : c > 1000000 := by omega
      refine AW.st teOk [] (by simp [h1, h2, h3, -Option.some.injEq] <;> rfl) trivial ?_
      refine AW.iff true (by simp) (fun _ => ?_) (fun h => by cases h)
      refine AW.st teOk [] (by simp [-Option.some.injEq] <;> rfl) trivial ?_
      refine AW.ret ⟨.inr rfl, _, Weak.refl _, ?_⟩
      simp
theorem meet_pure (a b : List E2) (hab : a.length + b.length < 1000000000000) : Pure Try.prog 79 [.c (encV a), .c (encV b)] (.c (encV (mergeI false a b))) := by
  refine pure_of teOk Try.func79 (by kernel_rfl) (c := _) rfl (N := 9) rfl (rs := [Go.ResultVar.tmp 4]) rfl (by simp) fun base A w0 hA => ?_
  refine AW.st teOk [] (by simp [-Option.some.injEq] <;> rfl) trivial ?_
  refine AW.st teOk [.fz (.c (encV (mergeI false a b)))] (by simp [-Option.some.injEq] <;> rfl) ?_ ?_
  · exact merge_pure false a b hab
  refine AW.ret ⟨.inr rfl, _, Weak.refl _, ?_⟩
  simp
def sizI : V2 → Int
  | [] => 0
  | e :: l => e.2 + sizI l
theorem siz_range : ∀ {v : V2}, (∀ e ∈ v, 0 ≤ e.2 ∧ e.2 ≤ 1000000) → 0 ≤ sizI v ∧ sizI v ≤ 1000000 * v.length
  | [], _ => by simp [sizI]
  | e :: l, h => by
    have h1 := h e (by simp)
    have h2 := siz_range (v := l) fun x hx => h x (by simp [hx])
    rw [sizI, List.length_cons]
    omega
theorem siz_app : ∀ (a b : V2), sizI (a ++ b) = sizI a + sizI b
  | [], b => by simp [sizI]
  | e :: l, b => by
    rw [List.cons_append, sizI, sizI, siz_app l b]
    omega
theorem size_pure (v : V2) (hv : ∀ e ∈ v, 0 ≤ e.2 ∧ e.2 ≤ 1000000) (hl : v.length < 1000000000) : Pure Try.prog 80 [.c (encV v)] (.c (cI (sizI v))) := by
  refine pure_of teOk Try.func80 (by kernel_rfl) (c := _) rfl (N := 18) rfl (rs := [Go.ResultVar.tmp 2]) rfl (by simp) fun base A w0 hA => ?_
  refine AW.st teOk [] (by simp [-Option.some.injEq] <;> rfl) trivial ?_
  refine AW.st teOk [] (by simp [-Option.some.injEq] <;> rfl) trivial ?_
  refine AW.seq ?_
  refine AW.st teOk [] (by simp [-Option.some.injEq] <;> rfl) trivial ?_
  refine AW.block (AW.loop (fun m s => ∃ j : Nat, m = v.length - j ∧ j ≤ v.length ∧ s = ⟨[(3, .c (cI (sizI (v.take j)))), (6, .c (encV v)), (7, .c (cI v.length)), (8, .c (cI j))], [], 0⟩) _ (Weak.normT hA [3, 6, 7, 8] [] [] 0 _ (by simp) (by simp) (by simp)) ⟨0, rfl, Nat.zero_le _, by simp [sizI]⟩ ?_)
  rintro m s ⟨j, rfl, hj, rfl⟩
  refine AW.st teOk [] (by simp [-Option.some.injEq] <;> rfl) trivial ?_
  refine AW.seq (AW.iff (decide (j < v.length)) (by simp) (fun h => AW.skip ?_) (fun h => AW.exit (x_then (x_then (blockA_exit ?_)))))
  · rw [decide_eq_true_eq] at h
    obtain ⟨e, he⟩ : ∃ e, v[j]? = some e := ⟨_, List.getElem?_eq_getElem h⟩
    have htk : v.take (j + 1) = v.take j ++ [e] := by rw [List.take_add_one, he]; rfl
    have hr := siz_range (v := v.take j) fun x hx => hv x (List.mem_of_mem_take hx)
    have hrl : (v.take j).length ≤ v.length := by rw [List.length_take]; omega
    have hre := hv e (List.mem_of_getElem? he)
    have hs : sizI (v.take (j + 1)) = sizI (v.take j) + e.2 := by rw [htk, siz_app]; simp [sizI]
    refine AW.seq (AW.block ?_)
    refine AW.st teOk [] (by simp [he, -Option.some.injEq] <;> rfl) ?_ ?_
    · first | trivial | omega | (simp [allP, growOk] <;> omega)
    refine AW.text teOk (ans := []) (by simp [he, -Option.some.injEq] <;> rfl) ?_ ?_
    · trivial
    refine AW.text teOk (ans := []) (by simp [-Option.some.injEq] <;> rfl) ?_ ?_
    · trivial
    refine ⟨_, _, Weak.normT hA [3, 6, 7, 8] [] [] 0 _ (by simp) (by simp) (by simp), ?_, j + 1, rfl, h, ?_⟩
    · omega
    · simp [hs]
      refine ⟨?_, wrap_s j (by omega)⟩
      rw [IntKind.wrap_i64]
      omega
  · rw [decide_eq_false_iff_not] at h
    have : j = v.length := by omega
    subst this
    refine AW.st teOk [] (by simp [-Option.some.injEq] <;> rfl) trivial ?_
    refine AW.ret ⟨.inr rfl, _, Weak.refl _, ?_⟩
    simp
theorem equalV_no (x y : E2) (a b : V2) (hl : a.length = b.length) (hxy : x ≠ y) : Pure Try.prog 105 [.c (encV (x :: a)), .c (encV (y :: b))] (.c (cB false)) := by
  refine pure_of teOk Try.func105 (by kernel_rfl) (c := _) rfl (N := 26) rfl (rs := [Go.ResultVar.tmp 4]) rfl (by simp) fun base A w0 hA => ?_
  refine AW.st teOk [] (by simp [-Option.some.injEq] <;> rfl) trivial ?_
  refine AW.seq ?_
  refine AW.st teOk [] (by simp [-Option.some.injEq] <;> rfl) trivial ?_
  refine AW.iff false (by simp [hl]) (fun h => by cases h) (fun _ => AW.skip ?_)
  refine AW.seq ?_
  refine AW.st teOk [] (by simp [-Option.some.injEq] <;> rfl) trivial ?_
  refine AW.block (AW.loop (fun m s => m = 0 ∧ s = ⟨[(0, .c (encV (x :: a))), (1, .c (encV (y :: b))), (12, .c (cI (a.length + 1))), (13, .c (cI 0))], [], 0⟩) _ (Weak.normT hA [0, 1, 12, 13] [] [] 0 _ (by simp) (by simp) (by simp)) ⟨rfl, by simp⟩ ?_)
  rintro m s ⟨rfl, rfl⟩
  have h0 : (0 : Int) < (a.length : Int) + 1 := by omega
  refine AW.st teOk [] (by simp [h0, -Option.some.injEq] <;> rfl) trivial ?_
  refine AW.seq (AW.iff true (by simp) (fun h => AW.skip ?_) (fun h => by cases h))
  refine AW.seq (AW.block ?_)
  refine AW.st teOk [] (by simp [-Option.some.injEq] <;> rfl) trivial ?_
  refine AW.dr mixed teOk [] (by simp [-Option.some.injEq] <;> rfl) (by kernel_rfl) (by kernel_rfl) ?_ ?_
  · simp [allP]
  refine AW.iff true (by simp; exact Decidable.or_iff_not_imp_left.2 fun h1 h2 => hxy (Prod.ext (Decidable.not_not.1 h1) h2)) (fun _ => ?_) (fun h => by cases h)
  refine AW.st teOk [] (by simp [-Option.some.injEq] <;> rfl) trivial ?_
  refine AW.ret ⟨.inr rfl, _, Weak.refl _, ?_⟩
  simp
theorem validV_zero : Pure Try.prog 82 [.c (encV [(0, 0)])] (.c (cI 9)) := by
  refine pure_of teOk Try.func82 (by kernel_rfl) (c := _) rfl (N := 39) rfl (rs := [Go.ResultVar.tmp 2]) rfl (by simp) fun base A w0 hA => ?_
  refine AW.st teOk [] (by simp [-Option.some.injEq] <;> rfl) trivial ?_
  refine AW.seq ?_
  refine AW.st teOk [] (by simp [-Option.some.injEq] <;> rfl) trivial ?_
  refine AW.block (AW.loop (fun m s => m = 0 ∧ s = ⟨[(0, .c (encV [(0, 0)])), (5, .c (encV [(0, 0)])), (6, .c (cI 1)), (7, .c (cI 0))], [], 0⟩) _ (Weak.normT hA [0, 5, 6, 7] [] [] 0 _ (by simp) (by simp) (by simp)) ⟨rfl, by simp⟩ ?_)
  rintro m s ⟨rfl, rfl⟩
  refine AW.st teOk [] (by simp [-Option.some.injEq] <;> rfl) trivial ?_
  refine AW.seq (AW.iff true (by simp) (fun h => AW.skip ?_) (fun h => by cases h))
  refine AW.seq (AW.block ?_)
  refine AW.st teOk [] (by simp [-Option.some.injEq] <;> rfl) ?_ ?_
  · first | trivial | omega | (simp [allP, growOk] <;> omega)
  refine AW.seq ?_
  refine AW.st teOk [] (by simp [-Option.some.injEq] <;> rfl) trivial ?_
  refine AW.iff true (by simp) (fun _ => ?_) (fun h => by cases h)
  refine AW.st teOk [] (by simp [-Option.some.injEq] <;> rfl) trivial ?_
  refine AW.ret ⟨.inr rfl, _, Weak.refl _, ?_⟩
  simp
theorem compare_no (a b : V2) (ha : Asc a) (hb : Asc b) (hla : a.length < 1000000) (hlb : b.length < 1000000) (h1 : Pure Try.prog 105 [.c (encV a), .c (encV b)] (.c (cB false))) (h2 : leI a b = false) (h3 : leI b a = false) : Pure Try.prog 81 [.c (encV a), .c (encV b)] (.c (cI 3)) := by
  refine pure_of teOk Try.func81 (by kernel_rfl) (c := _) rfl (N := 17) rfl (rs := [Go.ResultVar.tmp 4]) rfl (by simp) fun base A w0 hA => ?_
  refine AW.st teOk [] (by simp [-Option.some.injEq] <;> rfl) trivial ?_
  refine AW.seq (AW.block ?_)
  refine AW.st teOk [.fz (.c (cB false))] (by simp [-Option.some.injEq] <;> rfl) ?_ ?_
  · exact h1
  refine AW.iff false (by simp) (fun h => by cases h) (fun _ => ?_)
  refine AW.st teOk [.fz (.c (cB false))] (by simp [-Option.some.injEq] <;> rfl) ?_ ?_
  · rw [← h2]; exact le_pure a b hb (by omega) (by omega)
  refine AW.iff false (by simp) (fun h => by cases h) (fun _ => ?_)
  refine AW.st teOk [.fz (.c (cB false))] (by simp [-Option.some.injEq] <;> rfl) ?_ ?_
  · rw [← h3]; exact le_pure b a ha (by omega) (by omega)
  refine AW.iff false (by simp) (fun h => by cases h) (fun _ => AW.skip ?_)
  refine AW.st teOk [] (by simp [-Option.some.injEq] <;> rfl) trivial ?_
  refine AW.ret ⟨.inr rfl, _, Weak.refl _, ?_⟩
  simp
end Go.Proofs.Ytopcklnnkpjanaa.Abs
