/- slices.Delete and slices.Clone of a vector, live. -/
import Derived.Test.YtopcklnnkpjanaaWIns3
namespace Go.Proofs.Ytopcklnnkpjanaa.Abs
open Go Go.RowKit
set_option linter.unusedVariables false
set_option linter.unusedSimpArgs false
set_option maxHeartbeats 4000000
def delL {α : Type} (l : List α) (i : Nat) : List α := l.take i ++ l.drop (i + 1)
theorem delL_map {α β : Type} (f : α → β) (l : List α) (i : Nat) : delL (l.map f) i = (delL l i).map f := by simp [delL, List.map_take, List.map_drop]
theorem delL_len {α : Type} (l : List α) (i : Nat) (h : i < l.length) : (delL l i).length = l.length - 1 := by simp [delL]; omega
theorem delV_con (es : List (List Cell)) (hf : flatO ⟨2, es⟩ = true) (i : Nat) (hi : i < es.length) (hl : es.length < 1000000000) : Con Try.prog 85 [.c (.ref 1000000 0 es.length), .c (cI i), .c (cI ((i : Int) + 1))] [(1000000, ⟨2, es⟩)] 1000020 (.c (.ref 1000000 0 (es.length - 1))) [(1000000, ⟨2, delL es i ++ [zE]⟩)] 1000040 := by
  refine con_of teOk Try.func85 (by kernel_rfl) (c := _) rfl (N := 33) rfl (rs := [Go.ResultVar.tmp 6]) rfl (by simp) fun base A w0 rest hrest hrefs hA => ?_
  have hh := hiS_low hrest
  have hl' := loS_low hrest
  have hdr := fun k hk => drop_rest hrest k hk
  have hrn : ∀ (ρ : List (Nat × Nat)) (ids : List Nat), (ids.all fun i => decide (1000000 ≤ i)) = true → rnS 1000000 ρ ids rest = rest := fun ρ ids h => rnS_low h hrest
  have hrn0 : ∀ (ρ : List (Nat × Nat)), rnS 1000000 ρ [] rest = rest := fun ρ => hrn ρ [] rfl
  refine AW.st teOk [] (by simp [-Option.some.injEq] <;> rfl) trivial ?_
  refine AW.st teOk [] (by simp [hdr, -Option.some.injEq] <;> rfl) ?_ ?_
  · omega
  refine AW.seq ?_
  refine AW.st teOk [] (by simp [-Option.some.injEq] <;> rfl) trivial ?_
  refine AW.iff false (by simp; omega) (fun h => by cases h) (fun _ => AW.skip ?_)
  refine AW.st teOk [] (by simp [-Option.some.injEq] <;> rfl) trivial ?_
  have hfd : ∀ k, flatO ⟨2, es.drop k⟩ = true := fun k => by
    unfold flatO at hf ⊢
    rw [List.all_eq_true] at hf ⊢
    exact fun e he => hf e (List.mem_of_mem_drop he)
  have hft : ∀ k, flatO ⟨2, es.take k⟩ = true := fun k => by
    unfold flatO at hf ⊢
    rw [List.all_eq_true] at hf ⊢
    exact fun e he => hf e (List.mem_of_mem_take he)
  have hft2 : ∀ k m, flatO ⟨2, (es.drop m).take k⟩ = true := fun k m => by
    have := hfd m
    unfold flatO at this ⊢
    rw [List.all_eq_true] at this ⊢
    exact fun e he => this e (List.mem_of_mem_take he)
  obtain ⟨L, hL⟩ : ∃ L, L = es.drop (es.length - 1) := ⟨_, rfl⟩
  have hLl : L.length = 1 := by rw [hL, List.length_drop]; omega
  have hDl := delL_len es i hi
  obtain ⟨D, hD⟩ : ∃ D, D = delL es i := ⟨_, rfl⟩
  rw [← hD] at hDl ⊢
  refine AW.mid (fun s => s = ⟨[(0, .c (.ref 1000000 0 (es.length - 1))), (7, .c (cI es.length))], [(1000000, ⟨2, D ++ L⟩)] ++ rest, 1000034⟩) ?_ ?_
  · by_cases hlast : (i : Int) + 1 < es.length
    · refine AW.draw mixed teOk (ans := []) (by simp [hdr, hlast, -Option.some.injEq] <;> rfl) (by kernel_rfl) (by kernel_rfl) ?_ ?_
      · simp [allP]
        omega
      have e1 : es.take i ++ (es.drop (i + 1)).take (es.length - (i + 1)) ++ es.drop (i + (es.length - (i + 1))) = D ++ L := by
        rw [hD, hL, List.take_of_length_le (l := es.drop (i + 1)) (by rw [List.length_drop]; omega), delL, show i + (es.length - (i + 1)) = es.length - 1 from by omega]
      have e2 : i + (es.length - (i + 1)) = es.length - 1 := by omega
      exact ⟨_, Weak.normCS hA hrefs [0, 7] [(0, 1000000)] [] [] 1000034 _ (by simp [hl', hdr]) (by simp) (by simp) (by simp) (by simp [hh, hdr]) (by simp [hh, hdr, hft, hfd, hf, hft2]), by simp [normL, hh, hl', hrn0, hdr]; exact ⟨e2, by rw [← e1, List.append_assoc, e2]⟩⟩
    · have hi1 : i + 1 = es.length := by omega
      refine AW.draw mixed teOk (ans := []) (by simp [hdr, hlast, -Option.some.injEq] <;> rfl) (by kernel_rfl) (by kernel_rfl) ?_ ?_
      · simp [allP]
        omega
      have e1 : es = D ++ L := by
        rw [hD, hL, delL, List.drop_eq_nil_of_le (by omega), List.append_nil, show es.length - 1 = i from by omega, List.take_append_drop]
      have e2 : i = es.length - 1 := by omega
      exact ⟨_, Weak.normCS hA hrefs [0, 7] [(0, 1000000)] [] [] 1000034 _ (by simp [hl', hdr]) (by simp) (by simp) (by simp) (by simp [hh, hdr]) (by simp [hh, hdr, hft, hfd, hf, hft2]), by simp [normL, hh, hl', hrn0, hdr]; exact ⟨e2, e1⟩⟩
  rintro s rfl
  have hn1 : ((es.length - 1 : Nat) : Int) < es.length := by omega
  have hn2 : es.length - (es.length - 1) = 1 := by omega
  have hn3 : es.length - 1 + 1 = es.length := by omega
  generalize es.length - 1 = n1 at *
  refine AW.st teOk [] (by simp [hdr, hn1, hn2, -Option.some.injEq] <;> rfl) ?_ ?_
  · omega
  refine AW.st teOk [] (by simp [hdr, -Option.some.injEq] <;> rfl) trivial ?_
  have hz1 : (D ++ L).take n1 = D := by
    rw [List.take_append_of_le_length (by omega), List.take_of_length_le (by omega)]
  have hz2 : (D ++ L).drop (n1 + 1) = [] := List.drop_eq_nil_of_le (by rw [List.length_append]; omega)
  have hfD : flatO ⟨2, D⟩ = true := by
    rw [hD, delL]
    exact flat_app (hft _) (hfd _)
  refine AW.ret ⟨.inr rfl, _, Weak.normCS hA hrefs [6] [(6, 1000000)] [] [] 1000040 _ (by simp [hl', hdr]) (by simp) (by simp) (by simp) (by simp [hh, hdr]) (by simp [hh, hdr, hz1, hz2, hfD]), by simp, ?_, rfl⟩
  simp [normL, hh, hl', hrn0, hdr, hz1, hz2, zE]
  done
theorem cloneV_new (es : List (List Cell)) (hk : ∀ e ∈ es, e.length = 2) (hf : flatO ⟨2, es⟩ = true) (hb : es.length < 1000000000) : New Try.prog 83 [.c (.row 2 false es)] (.c (.ref 0 0 es.length)) [(0, ⟨2, es⟩)] 1 := by
  refine new_of teOk Try.func83 (by kernel_rfl) (c := _) rfl (N := 8) rfl (rs := [Go.ResultVar.tmp 2]) rfl (by simp) fun base A w0 hA => ?_
  refine AW.st teOk [] (by simp [-Option.some.injEq] <;> rfl) trivial ?_
  refine AW.mid (fun s => s = ⟨[(0, .c (.row 2 false es))], [], 0⟩) ?_ ?_
  · by_cases he : es = []
    · subst he
      refine AW.st teOk [] (by simp [-Option.some.injEq] <;> rfl) trivial ?_
      refine AW.either (by simp) ?_ (AW.skip ⟨_, Weak.normT hA [0] [] [] 0 _ (by simp) (by simp) (by simp), by simp⟩)
      refine AW.st teOk [] (by simp [-Option.some.injEq] <;> rfl) trivial ?_
      refine AW.ret ⟨.inr rfl, _, (Weak.nil 2 2 _ (by simp <;> rfl)).trans (Weak.normT hA [2] [(2, 0)] [] 1 _ (by simp [putT]) (by simp [putT]) (by simp [putT])), ?_⟩
      simp [putT]
    · refine AW.st teOk [] (by simp [he, -Option.some.injEq] <;> rfl) trivial ?_
      refine AW.iff false (by simp) (fun h => by cases h) fun _ => AW.skip ⟨_, Weak.normT hA [0] [] [] 0 _ (by simp) (by simp) (by simp), by simp⟩
  · rintro s rfl
    refine AW.st teOk [] (by simp [-Option.some.injEq] <;> rfl) ?_ ?_
    · simp [growOk]
      exact ⟨by omega, hk⟩
    refine AW.ret ⟨.inr rfl, _, Weak.normT hA [2] [(2, 0)] [] 1 _ (by simp) (by simp) (by simp [hf]), ?_⟩
    simp
end Go.Proofs.Ytopcklnnkpjanaa.Abs
