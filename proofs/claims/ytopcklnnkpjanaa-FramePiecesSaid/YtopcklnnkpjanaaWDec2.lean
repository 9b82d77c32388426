/- Frames: slices cloned and joined, decoding. -/
import Derived.Test.YtopcklnnkpjanaaWDec
namespace Go.Proofs.Ytopcklnnkpjanaa.Abs
open Go Go.RowKit Fr
set_option linter.unusedVariables false
set_option linter.unusedSimpArgs false
set_option maxHeartbeats 4000000
theorem cloneB_pure (l : List Int) (hb : l.length < 1000000000000) : Pure Try.prog 69 [.c (encB l)] (.c (encB l)) := by
  refine pure_of teOk Try.func69 (by kernel_rfl) (c := _) rfl (N := 8) rfl (rs := [Go.ResultVar.tmp 2]) rfl (by simp) fun base A w0 hA => ?_
  refine AW.st teOk [] (by simp [-Option.some.injEq] <;> rfl) trivial ?_
  refine AW.mid (fun s => s = ⟨[(0, .c (encB l))], [], 0⟩) ?_ ?_
  · by_cases he : l = []
    · subst he
      refine AW.st teOk [] (by simp [-Option.some.injEq] <;> rfl) trivial ?_
      refine AW.either (by simp) ?_ (AW.skip ⟨_, Weak.normT hA [0] [] [] 0 _ (by simp) (by simp) (by simp), by simp⟩)
      refine AW.st teOk [] (by simp [-Option.some.injEq] <;> rfl) trivial ?_
      refine AW.ret ⟨.inr rfl, _, Weak.le 2 _ (by simp <;> rfl) (.c (LeC.nil 1)), ?_⟩
      simp
    · refine AW.st teOk [] (by simp [he, -Option.some.injEq] <;> rfl) trivial ?_
      refine AW.iff false (by simp) (fun h => by cases h) fun _ => AW.skip ⟨_, Weak.normT hA [0] [] [] 0 _ (by simp) (by simp) (by simp), by simp⟩
  · rintro s rfl
    refine AW.st teOk [] (by simp [-Option.some.injEq] <;> rfl) ?_ ?_
    · simp [growOk]
      omega
    refine AW.ret ⟨.inr rfl, _, Weak.frzT 2 [] _ (by simp; exact ⟨rfl, rfl, rfl⟩) (by simp <;> rfl) (flat_encb l), ?_⟩
    simp
theorem growB_new (n : Nat) (hn : n < 1000000000000) : New Try.prog 97 [.c (.sc (.slice none 0 0)), .c (cI n)] (.c (.ref 0 0 0)) [(0, ⟨1, []⟩)] 1 := by
  refine new_of teOk Try.func97 (by kernel_rfl) (c := _) rfl (N := 27) rfl (rs := [Go.ResultVar.tmp 4]) rfl (by simp) fun base A w0 hA => ?_
  refine AW.st teOk [] (by simp [-Option.some.injEq] <;> rfl) trivial ?_
  refine AW.seq ?_
  refine AW.st teOk [] (by simp [-Option.some.injEq] <;> rfl) trivial ?_
  refine AW.iff false (by simp) (fun h => by cases h) (fun _ => AW.skip ?_)
  have hw := wrap_nat n (by omega)
  refine AW.mid (fun s => s = ⟨[(0, .c (.ref 0 0 0))], [(0, ⟨1, []⟩)], 1⟩) ?_ ?_
  · refine AW.st teOk [] (by simp [hw, -Option.some.injEq] <;> rfl) trivial ?_
    refine AW.st teOk [] (by simp [-Option.some.injEq] <;> rfl) trivial ?_
    by_cases h0 : n = 0
    · subst h0
      refine AW.iff false (by simp) (fun h => by cases h) (fun _ => AW.skip ?_)
      exact ⟨_, (Weak.nil 0 1 _ (by simp <;> rfl)).trans (Weak.normT hA [0] [(0, 0)] [] 1 _ (by simp) (by simp) (by simp)), by simp⟩
    · refine AW.iff true (by simp; omega) (fun _ => ?_) (fun h => by cases h)
      refine AW.text teOk (ans := []) (by simp [-Option.some.injEq] <;> rfl) ?_ ?_
      · simp [growOk]; omega
      exact ⟨_, (Weak.shrinkT 0 0 _ (by simp <;> exact ⟨rfl, rfl, rfl⟩) (by simp <;> rfl)).trans (Weak.normT hA [0] [(0, 0)] [] 1 _ (by simp) (by simp) (by simp)), by simp⟩
  · rintro s rfl
    refine AW.st teOk [] (by simp [-Option.some.injEq] <;> rfl) trivial ?_
    refine AW.ret ⟨.inr rfl, _, Weak.normT hA [4] [(4, 0)] [] 1 _ (by simp) (by simp) (by simp), ?_⟩
    simp
@[simp] def encP (p : List Int) : List Cell := [encB p]
@[simp] theorem flat_encP (l : List (List Int)) : flatO ⟨1, l.map encP⟩ = true := flatO_of fun e he => by
  obtain ⟨x, _, rfl⟩ := List.mem_map.1 he
  rfl
/-- The first of some lists, one behind the other. -/
def preF (ls : List (List Int)) (j : Nat) : List Int := (ls.take j).flatten
theorem pre_zero (ls : List (List Int)) : preF ls 0 = [] := rfl
theorem pre_all (ls : List (List Int)) : preF ls ls.length = ls.flatten := by rw [preF, List.take_length]
theorem take_flat (ls : List (List Int)) {j : Nat} {x : List Int} (hx : ls[j]? = some x) : preF ls (j + 1) = preF ls j ++ x := by
  obtain ⟨h, rfl⟩ := List.getElem?_eq_some_iff.1 hx
  have : ls.take (j + 1) = ls.take j ++ [ls[j]] := by simp
  rw [preF, this, List.flatten_append, List.flatten_cons, List.flatten_nil, List.append_nil]
  rfl
theorem take_len (ls : List (List Int)) (j : Nat) : (preF ls j).length ≤ ls.flatten.length := by
  have := congrArg (fun x : List (List Int) => x.flatten.length) (List.take_append_drop j ls)
  simp only [List.flatten_append, List.length_append] at this
  unfold preF
  omega
theorem add_s (a b n : Nat) (h : a + b ≤ n) (hn : n < 1000000000000) : IntKind.i64.wrap ((a : Int) + (b : Int)) = ((a + b : Nat) : Int) := by
  rw [IntKind.wrap_i64]
  omega
theorem concatB_pure (ls : List (List Int)) (hn : ls.length < 1000000000000) (hb : ls.flatten.length < 1000000000000) : Pure Try.prog 68 [.c (.row 1 true (ls.map encP))] (.c (encB ls.flatten)) := by
  refine pure_of teOk Try.func68 (by kernel_rfl) (c := _) rfl (N := 36) rfl (rs := [Go.ResultVar.tmp 2]) rfl (by simp) fun base A w0 hA => ?_
  refine AW.st teOk [] (by simp [-Option.some.injEq] <;> rfl) trivial ?_
  refine AW.st teOk [] (by simp [-Option.some.injEq] <;> rfl) trivial ?_
  refine AW.seq ?_
  refine AW.st teOk [] (by simp [-Option.some.injEq] <;> rfl) trivial ?_
  refine AW.block (AW.loop (fun m s => ∃ j : Nat, m = ls.length - j ∧ j ≤ ls.length ∧ s = ⟨[(0, .c (.row 1 true (ls.map encP))), (3, .c (cI (preF ls j).length)), (9, .c (.row 1 true (ls.map encP))), (10, .c (cI ls.length)), (11, .c (cI j))], [], 0⟩) _ (Weak.normT hA [0, 3, 9, 10, 11] [] [] 0 _ (by simp) (by simp) (by simp)) ⟨0, rfl, Nat.zero_le _, by simp [pre_zero]⟩ ?_)
  rintro m s ⟨j, rfl, hj, rfl⟩
  refine AW.st teOk [] (by simp [-Option.some.injEq] <;> rfl) trivial ?_
  refine AW.seq (AW.iff (decide (j < ls.length)) (by simp) (fun h => AW.skip ?_) (fun h => AW.exit (x_then (x_then (blockA_exit ?_)))))
  · rw [decide_eq_true_eq] at h
    obtain ⟨x, hx⟩ : ∃ x, ls[j]? = some x := ⟨_, List.getElem?_eq_getElem h⟩
    have ht := take_flat ls hx
    have hl := take_len ls (j + 1)
    rw [ht, List.length_append] at hl
    obtain ⟨q, hq⟩ : ∃ q, q = (preF ls j).length := ⟨_, rfl⟩
    rw [← hq] at hl ⊢
    have hw := add_s q x.length _ hl hb
    obtain ⟨r, hr⟩ : ∃ r, r = q + x.length := ⟨_, rfl⟩
    rw [← hr] at hw
    refine AW.seq (AW.block ?_)
    refine AW.st teOk [] (by simp [hx, -Option.some.injEq] <;> rfl) ?_ ?_
    · first | trivial | omega | (simp [allP, growOk] <;> omega)
    refine AW.st teOk [] (by simp [hw, -Option.some.injEq] <;> rfl) trivial ?_
    refine AW.st teOk [] (by simp [-Option.some.injEq] <;> rfl) trivial ?_
    refine AW.iff false (by simp) (fun h => by cases h) (fun _ => AW.skip ?_)
    refine AW.text teOk (ans := []) (by simp [-Option.some.injEq] <;> rfl) ?_ ?_
    · trivial
    refine ⟨_, _, Weak.normT hA [0, 3, 9, 10, 11] [] [] 0 _ (by simp) (by simp) (by simp), ?_, j + 1, rfl, h, ?_⟩
    · omega
    · rw [ht, List.length_append, ← hq, ← hr]
      simp
      exact wrap_s j (by omega)
  · rw [decide_eq_false_iff_not] at h
    obtain rfl : j = ls.length := by omega
    rw [pre_all]
    obtain ⟨q, hq⟩ : ∃ q, q = ls.flatten.length := ⟨_, rfl⟩
    rw [← hq] at hb ⊢
    refine AW.st teOk [.new (.c (.ref 0 0 0)) [(0, ⟨1, []⟩)] 1] (by simp [-Option.some.injEq] <;> rfl) ?_ ?_
    · exact growB_new q hb
    refine AW.seq ?_
    refine AW.st teOk [] (by simp [-Option.some.injEq] <;> rfl) trivial ?_
    refine AW.block (AW.loop (fun m s => ∃ j : Nat, m = ls.length - j ∧ j ≤ ls.length ∧ s = ⟨[(0, .c (.row 1 true (ls.map encP))), (6, .c (.ref 0 0 (preF ls j).length)), (25, .c (.row 1 true (ls.map encP))), (26, .c (cI ls.length)), (27, .c (cI j))], [(0, ⟨1, (preF ls j).map encb⟩)], 1⟩) _ (Weak.normT hA [0, 6, 25, 26, 27] [(6, 0)] [] 1 _ (by simp) (by simp) (by simp)) ⟨0, rfl, Nat.zero_le _, by simp [pre_zero]⟩ ?_)
    rintro m s ⟨j, rfl, hj, rfl⟩
    refine AW.st teOk [] (by simp [-Option.some.injEq] <;> rfl) trivial ?_
    refine AW.seq (AW.iff (decide (j < ls.length)) (by simp) (fun h => AW.skip ?_) (fun h => AW.exit (x_then (x_then (blockA_exit ?_)))))
    · rw [decide_eq_true_eq] at h
      obtain ⟨x, hx⟩ : ∃ x, ls[j]? = some x := ⟨_, List.getElem?_eq_getElem h⟩
      have ht := take_flat ls hx
      have hl := take_len ls (j + 1)
      rw [ht, List.length_append, ← hq] at hl
      obtain ⟨o, ho⟩ : ∃ o, o = preF ls j := ⟨_, rfl⟩
      rw [← ho] at hl ht ⊢
      refine AW.seq (AW.block ?_)
      refine AW.st teOk [] (by simp [hx, -Option.some.injEq] <;> rfl) ?_ ?_
      · first | trivial | omega | (simp [allP, growOk] <;> omega)
      by_cases hx0 : x = []
      · subst hx0
        refine AW.text teOk (ans := []) (by simp [-Option.some.injEq] <;> rfl) ?_ ?_
        · trivial
        refine AW.text teOk (ans := []) (by simp [-Option.some.injEq] <;> rfl) ?_ ?_
        · trivial
        refine ⟨_, _, Weak.normT hA [0, 6, 25, 26, 27] [(6, 0)] [] 1 _ (by simp) (by simp) (by simp), ?_, j + 1, rfl, h, ?_⟩
        · omega
        · rw [ht, List.append_nil]
          simp
          exact wrap_s j (by omega)
      refine AW.text teOk (ans := []) (by simp [hx0, -Option.some.injEq] <;> rfl) ?_ ?_
      · simp [growOk]; omega
      refine AW.text teOk (ans := []) (by simp [-Option.some.injEq] <;> rfl) ?_ ?_
      · trivial
      refine ⟨_, _, Weak.normT hA [0, 6, 25, 26, 27] [(6, 0)] [] 1 _ (by simp) (by simp) (by simp), ?_, j + 1, rfl, h, ?_⟩
      · omega
      · rw [ht]
        simp
        exact wrap_s j (by omega)
    · rw [decide_eq_false_iff_not] at h
      obtain rfl : j = ls.length := by omega
      rw [pre_all]
      generalize ls.flatten = fl
      refine AW.st teOk [] (by simp [-Option.some.injEq] <;> rfl) trivial ?_
      refine AW.ret ⟨.inr rfl, _, Weak.frzT 2 [] _ (by simp <;> exact ⟨rfl, rfl, rfl⟩) (by simp <;> rfl) (flat_encb _), ?_⟩
      simp
end Go.Proofs.Ytopcklnnkpjanaa.Abs
