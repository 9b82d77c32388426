/- slices.Insert of one string, of one number, of one value. Written by insgen.py. -/
import Derived.Test.YtphlhadgcfndhaaGreatJd1
namespace Go.Proofs.YtphlhadgcfndhaaGreat.Abs
open Go Go.RowKit
set_option linter.unusedVariables false
set_option linter.unusedSimpArgs false
set_option maxHeartbeats 4000000
abbrev cS (s : ByteArray) : Cell := .sc (.string s)
abbrev zS : List Cell := [.sc (.string { data := #[] })]
abbrev zN : List Cell := [cI 0]
abbrev zH : List Cell := [.sc (.string { data := #[] }), .sc (.string { data := #[] }), cB false, cI 0, .sc (.string { data := #[] }), cB false, cI 0, cI 0, .sc (.slice none 0 0), cB false]
theorem insS_con (es : List (List Cell)) (hf : flatO ⟨1, es⟩ = true) (hk : ∀ e ∈ es, e.length = 1) (i : Nat) (hi : i ≤ es.length) (hl : es.length < 1000000000) (x : List Cell) (hx : x.length = 1) (hxf : x.all frozenC = true) :
    Con Tryz.prog 87 [.c (.ref 1000000 0 es.length), .c (cI i), .c (.row 1 true [x])] [(1000000, ⟨1, es⟩)] 1000020 (.c (.ref 1000100 0 (es.length + 1))) [(1000100, ⟨1, es.take i ++ x :: es.drop i⟩)] 1000101 := by
  refine con_of teOk Tryz.func87 (by kernel_rfl) (c := _) rfl (N := 95) rfl (rs := [Go.ResultVar.tmp 6]) rfl (by simp) fun base A w0 rest hrest hrefs hA => ?_
  have hh := hiS_low hrest
  have hl' := loS_low hrest
  have hdr := fun k hk => drop_rest hrest k hk
  have hrn : ∀ (ρ : List (Nat × Nat)) (ids : List Nat), (ids.all fun i => decide (1000000 ≤ i)) = true → rnS 1000000 ρ ids rest = rest := fun ρ ids h => rnS_low h hrest
  have hrn0 : ∀ (ρ : List (Nat × Nat)), rnS 1000000 ρ [] rest = rest := fun ρ => hrn ρ [] rfl
  by_cases hin : i = es.length
  · subst hin
    refine AW.st teOk [] (by simp [-Option.some.injEq] <;> rfl) trivial ?_
    refine AW.st teOk [] (by simp [-Option.some.injEq] <;> rfl) ?_ ?_
    · first | trivial | omega
    refine AW.st teOk [] (by simp [-Option.some.injEq] <;> rfl) trivial ?_
    refine AW.seq ?_
    refine AW.st teOk [] (by simp [-Option.some.injEq] <;> rfl) trivial ?_
    refine AW.iff false (by simp) (fun h => by cases h) (fun _ => AW.skip ?_)
    refine AW.st teOk [] (by simp [-Option.some.injEq] <;> rfl) trivial ?_
    refine AW.seq ?_
    refine AW.st teOk [] (by simp [-Option.some.injEq] <;> rfl) trivial ?_
    refine AW.iff true (by simp) (fun _ => ?_) (fun h => by cases h)
    refine AW.st teOk [] (by simp [hdr, -Option.some.injEq] <;> rfl) ?_ ?_
    · simp [growOk]
      exact ⟨by omega, hx⟩
    have hfx := flat_app hf (flat_one (k := 1) hxf)
    have he : es.take es.length ++ x :: es.drop es.length = es ++ [x] := by rw [List.take_of_length_le (Nat.le_refl _), List.drop_eq_nil_of_le (Nat.le_refl _)]
    rw [he]
    refine AW.ret ⟨.inr rfl, _, Weak.normCS hA hrefs [6] [(6, 1000100)] [] [] 1000101 _ (by simp [hl', hdr]) (by simp) (by simp) (by simp) (by simp [hh, hdr]) (by simp [hh, hdr, hfx]), by simp [normL], by simp [normL, hh, hl', hrn0, hdr], rfl⟩
  have hlt : i < es.length := by omega
  have hlt2 : (i : Int) < es.length := by omega
  have hne : (es.length : Int) ≠ i := by omega
  have hne2 : ((i : Int) == (es.length : Int)) = false := by simp; omega
  refine AW.st teOk [] (by simp [-Option.some.injEq] <;> rfl) trivial ?_
  refine AW.st teOk [] (by simp [hlt2, -Option.some.injEq] <;> rfl) ?_ ?_
  · first | trivial | omega
  refine AW.st teOk [] (by simp [-Option.some.injEq] <;> rfl) trivial ?_
  refine AW.seq ?_
  refine AW.st teOk [] (by simp [-Option.some.injEq] <;> rfl) trivial ?_
  refine AW.iff false (by simp) (fun h => by cases h) (fun _ => AW.skip ?_)
  refine AW.st teOk [] (by simp [-Option.some.injEq] <;> rfl) trivial ?_
  refine AW.seq ?_
  refine AW.st teOk [] (by simp [-Option.some.injEq] <;> rfl) trivial ?_
  refine AW.iff false (by simp; omega) (fun h => by cases h) (fun _ => AW.skip ?_)
  refine AW.to (s2 := ⟨[(0, .c (.ref 1000000 0 es.length)), (1, .c (cI i)), (2, .c (.row 1 true [x])), (7, .c (cI 1)), (8, .c (cI es.length))], [(1000000, ⟨1, es⟩)] ++ rest, 1000020⟩) (Weak.normCS hA hrefs [0, 1, 2, 7, 8] [(0, 1000000)] [] [] 1000020 _ (by simp [hl', hdr]) (by simp) (by simp) (by simp) (by simp [hh, hdr]) (by simp [hh, hdr, hf])) (by simp [normL, hh, hl', hrn0, hdr]) ?_
  refine AW.split 0 (id := 1000000) ⟨1, es⟩ (by simp) (by simp) hf ?_ ?_
  · have hgl := grow_list es zS x i hlt
    dsimp only at hgl
    refine AW.to (s2 := ⟨[(0, .c (.row 1 true es)), (1, .c (cI i)), (2, .c (.row 1 true [x])), (7, .c (cI 1)), (8, .c (cI es.length))], rest, 1000020⟩) (Weak.normCS hA hrefs [0, 1, 2, 7, 8] [] [] [] 1000020 _ (by simp [hl', hdr, mapAt_nil]) (by simp) (by simp) (by simp) (by simp [hh, hdr, mapAt_nil]) (by simp [hh, hdr, mapAt_nil])) (by simp [normL, hh, hl', hrn0, hdr, mapAt_nil]) ?_
    have hn1 : IntKind.i64.wrap ((es.length : Int) + 1) = (es.length : Int) + 1 := wrap_s _ (by omega)
    have hn2 : IntKind.i64.wrap ((es.length : Int) + 1 - (i : Int)) = ((es.length + 1 - i : Nat) : Int) := by rw [IntKind.wrap_i64]; omega
    have hn3 : IntKind.i64.wrap ((i : Int) + 1) = (i : Int) + 1 := wrap_s _ (by omega)
    have hgt : (es.length : Int) + 1 > es.length := by omega
    refine AW.seq ?_
    refine AW.st teOk [] (by simp [hn1, hgt, -Option.some.injEq] <;> rfl) trivial ?_
    refine AW.iff true (by simp) (fun _ => ?_) (fun h => by cases h)
    have hmin : min i es.length = i := by omega
    refine AW.st teOk [] (by simp [hn1, hn2, hdr, -Option.some.injEq] <;> rfl) ?_ ?_
    · simp [growOk]
      omega
    obtain ⟨L0, hL0⟩ : ∃ L0, L0 = es.take i ++ List.replicate (es.length + 1 - i) zS := ⟨_, rfl⟩
    rw [← hL0] at hgl
    have hl0 : L0.length = es.length + 1 := by rw [hL0]; simp; omega
    have hf0 : flatO ⟨1, L0⟩ = true := by
      rw [hL0]
      refine flat_app (flat_take hf i) (flatO_of fun e he => by rw [(List.mem_replicate.1 he).2]; rfl)
    have hk0 : ∀ e ∈ L0, e.length = 1 := fun e he => by
      rw [hL0] at he
      rcases List.mem_append.1 he with he | he
      · exact hk e (List.mem_of_mem_take he)
      · rw [(List.mem_replicate.1 he).2]; rfl
    have hsum : i + (es.length + 1 - i) = es.length + 1 := by omega
    refine AW.to (s2 := ⟨[(0, .c (.row 1 true es)), (1, .c (cI i)), (2, .c (.row 1 true [x])), (7, .c (cI 1)), (8, .c (cI es.length)), (9, .c (.ref 1000021 0 (es.length + 1)))], [(1000021, ⟨1, L0⟩)] ++ rest, 1000022⟩) (Weak.normCS hA hrefs [0, 1, 2, 7, 8, 9] [(9, 1000021)] [] [] 1000022 _ (by simp [hl', hdr]) (by simp) (by simp) (by simp) (by simp [hh, hdr]) (by simp [hh, hdr, ← hL0, hf0])) (by simp [normL, hh, hl', hrn0, hdr, ← hL0, hmin, hsum]) ?_
    have hi1 : (i : Int) < (es.length : Int) + 1 := by omega
    have hi2 : (i : Int) + 1 < (es.length : Int) + 1 := by omega
    have htx : List.take (es.length + 1 - i) [x] = [x] := List.take_of_length_le (by simp; omega)
    have hm1 : min 1 (es.length + 1 - i) = 1 := by omega
    refine AW.st teOk [] (by simp [hi1, hdr, -Option.some.injEq] <;> rfl) ?_ ?_
    · omega
    obtain ⟨L1, hL1⟩ : ∃ L1, L1 = L0.take i ++ [x] ++ L0.drop (i + 1) := ⟨_, rfl⟩
    rw [← hL1] at hgl
    have hl1 : L1.length = es.length + 1 := by rw [hL1]; simp; omega
    have hxf2 := flat_one (k := 1) hxf
    have hf1 : flatO ⟨1, L1⟩ = true := by rw [hL1]; exact flat_app (flat_app (flat_take hf0 i) (flat_one hxf)) (flat_drop hf0 _)
    refine AW.to (s2 := ⟨[(0, .c (.row 1 true es)), (1, .c (cI i)), (2, .c (.row 1 true [x])), (7, .c (cI 1)), (8, .c (cI es.length)), (9, .c (.ref 1000021 0 (es.length + 1)))], [(1000021, ⟨1, L1⟩)] ++ rest, 1000022⟩) (Weak.normCS hA hrefs [0, 1, 2, 7, 8, 9] [(9, 1000021)] [] [] 1000022 _ (by simp [hl', hdr]) (by simp) (by simp) (by simp) (by simp [hh, hdr]) (by simp [hh, hdr, htx, hm1]; exact ⟨flat_take hf0 i, flat_app (flat_one hxf) (flat_drop hf0 _)⟩)) (by simp [normL, hh, hl', hrn0, hdr, htx, hm1, hL1]) ?_
    refine AW.dr mixed teOk [] (by simp [hn3, hi2, hlt2, hdr, -Option.some.injEq] <;> rfl) (by kernel_rfl) (by kernel_rfl) ?_ ?_
    · simp [allP]
      exact ⟨⟨by omega, by omega⟩, hi, by omega, fun e he => hk e (List.mem_of_mem_drop he)⟩
    refine AW.st teOk [] (by simp [hdr, -Option.some.injEq] <;> rfl) trivial ?_
    have hfin : flatO ⟨1, es.take i ++ x :: es.drop i⟩ = true := flat_app (flat_take hf i) (flat_app (flat_one hxf) (flat_drop hf i))
    have hgl2 : L1.take (i + 1) ++ ((es.drop i).take (es.length - i) ++ L1.drop (i + 1 + (es.length - i))) = es.take i ++ x :: es.drop i := by rw [← hgl, List.append_assoc]
    refine AW.ret ⟨.inr rfl, _, Weak.normCS hA hrefs [6] [(6, 1000100)] [] [] 1000101 _ (by simp [hl', hdr]) (by simp) (by simp) (by simp) (by simp [hh, hdr]) (by simp [hh, hdr]; exact ⟨flat_take hf1 _, flat_take (flat_drop hf i) _, flat_drop hf1 _⟩), by simp [normL], by simp [normL, hh, hl', hrn0, hdr]; exact hgl2, rfl⟩
  · have hsl := shift_list es [.any] x i hlt
    dsimp only at hsl
    obtain ⟨L0, hL0⟩ : ∃ L0, L0 = es ++ [[.any]] := ⟨_, rfl⟩
    rw [← hL0] at hsl
    have hl0 : L0.length = es.length + 1 := by rw [hL0]; simp
    have hf0 : flatO ⟨1, L0⟩ = true := by rw [hL0]; exact flat_app hf (flat_one rfl)
    have hk0 : ∀ e ∈ L0, e.length = 1 := fun e he => by
      rw [hL0] at he
      rcases List.mem_append.1 he with he | he
      · exact hk e he
      · rw [List.mem_singleton.1 he]; rfl
    have hne0 : L0 ≠ [] := fun h => by rw [h] at hl0; cases hl0
    refine AW.to (s2 := ⟨[(0, .c (.ref 1000000 0 es.length)), (1, .c (cI i)), (2, .c (.row 1 true [x])), (7, .c (cI 1)), (8, .c (cI es.length))], [(1000000, ⟨1, L0⟩)] ++ rest, 1000020⟩) (Weak.normCS hA hrefs [0, 1, 2, 7, 8] [(0, 1000000)] [] [] 1000020 _ (by simp [hl', hdr]) (by simp) (by simp) (by simp) (by simp [hh, hdr]) (by simp [hh, hdr, ← hL0, hf0])) (by simp [normL, hh, hl', hrn0, hdr, ← hL0]) ?_
    have hn1 : IntKind.i64.wrap ((es.length : Int) + 1) = (es.length : Int) + 1 := wrap_s _ (by omega)
    have hn3 : IntKind.i64.wrap ((i : Int) + 1) = (i : Int) + 1 := wrap_s _ (by omega)
    refine AW.seq ?_
    refine AW.stX teOk (ι := Nat) [] 4 (by simp [hn1, -Option.some.injEq] <;> rfl) trivial rfl rfl (d := 30) rfl (by decide) (fun c => .c (cI c)) (fun c => ⟨[(31, .c (cB false)), (30, .c (cI c)), (29, .c (.ref 1000000 0 es.length)), (28, .c (cI ((es.length : Int) + 1))), (27, .c (cI 1)), (26, .c (cI es.length)), (0, .c (.ref 1000000 0 es.length)), (1, .c (cI i)), (2, .c (.row 1 true [x])), (7, .c (cI 1)), (8, .c (cI es.length))], [(1000000, ⟨1, L0⟩)] ++ rest, 1000025⟩) (fun c => es.length + 1 ≤ c) (fun β a w I => ?_) (fun c hc => ?_) (fun c hc => ?_)
    · exact cap_run' teOk I (.tmp 29) 51 9 rfl rfl rfl (by simp <;> exact ⟨rfl, rfl, rfl⟩) (by simp <;> rfl) hne0 (by rw [hl0]; exact Nat.le_refl _)
    · have hc' : ¬ ((es.length : Int) + 1 > (c : Int)) := by omega
      exact ⟨_, _, by simp [hc', -Option.some.injEq] <;> rfl, by trivial⟩
    refine AW.iff false (by simp) (fun h => by cases h) (fun _ => AW.skip ?_)
    have hi1 : (i : Int) < (es.length : Int) + 1 := by omega
    have hi2 : (i : Int) + 1 < (es.length : Int) + 1 := by omega
    refine AW.st teOk [] (by simp [hn1, hdr, -Option.some.injEq] <;> rfl) ?_ ?_
    · omega
    refine AW.to (s2 := ⟨[(0, .c (.ref 1000000 0 (es.length + 1))), (1, .c (cI i)), (2, .c (.row 1 true [x])), (7, .c (cI 1)), (8, .c (cI es.length))], [(1000000, ⟨1, L0⟩)] ++ rest, 1000020⟩) (Weak.normCS hA hrefs [0, 1, 2, 7, 8] [(0, 1000000)] [] [] 1000020 _ (by simp [hl', hdr]) (by simp) (by simp) (by simp) (by simp [hh, hdr]) (by simp [hh, hdr, hf0])) (by simp [normL, hh, hl', hrn0, hdr]) ?_
    refine AW.seq ?_
    refine AW.stX teOk (ι := Unit) [] 6 (by simp [hn3, hi2, -Option.some.injEq] <;> rfl) ?_ rfl rfl (d := 67) rfl (by decide) (fun _ => .c (cB false)) (fun _ => ⟨[(68, .c (cB true)), (67, .c (cB false)), (66, .c (.ref 1000000 (i + 1) (es.length - i))), (65, .c (cI ((i : Int) + 1))), (64, .c (cI 1)), (63, .c (cI i)), (62, .c (.ref 1000000 0 (es.length + 1))), (61, .c (.row 1 true [x])), (0, .c (.ref 1000000 0 (es.length + 1))), (1, .c (cI i)), (2, .c (.row 1 true [x])), (7, .c (cI 1)), (8, .c (cI es.length))], [(1000000, ⟨1, L0⟩)] ++ rest, 1000027⟩) (fun _ => True) (fun β a w I => ?_) (fun c hc => ?_) (fun c hc => ?_)
    · omega
    · exact over_run' teOk I (.tmp 61) (.tmp 66) 51 4 9 rfl Tryz.func115 (by kernel_rfl) (by kernel_rfl) (by kernel_rfl) (by kernel_rfl) rfl rfl rfl 1 true x [] (by simp) (by decide) ⟨1, L0⟩ (by simp <;> exact ⟨rfl, rfl, rfl⟩) (by simp) hne0 (by show 0 < 1; decide)
    · exact ⟨_, _, by simp [-Option.some.injEq] <;> rfl, by trivial⟩
    refine AW.iff true (by simp) (fun _ => ?_) (fun h => by cases h)
    have hfit : i + (es.length + 1 - i) ≤ L0.length := by omega
    have hmn : min (es.length + 1 - i) (es.length - i) = es.length - i := by omega
    have hmn2 : min (es.length - i) (es.length + 1 - i) = es.length - i := by omega
    have hmn3 : min (es.length + 1 - i) (L0.length - i) = es.length + 1 - i := by omega
    refine AW.dr mixed teOk [] (by simp [hn3, hi1, hi2, hdr, hfit, -Option.some.injEq] <;> rfl) (by kernel_rfl) (by kernel_rfl) ?_ ?_
    · simp [allP]
      exact ⟨⟨by omega, by omega⟩, by omega, by omega, fun e he => hk0 e (List.mem_of_mem_drop (List.mem_of_mem_take he))⟩
    have htt : List.take (es.length - i) (List.take (es.length + 1 - i) (List.drop i L0)) = List.take (es.length - i) (List.drop i L0) := by rw [List.take_take, hmn2]
    have hmm : min (es.length + 1 - i) (min (L0.length - i) (es.length - i)) = es.length - i := by omega
    obtain ⟨L1, hL1⟩ : ∃ L1, L1 = L0.take (i + 1) ++ (L0.drop i).take (es.length - i) ++ L0.drop (i + 1 + (es.length - i)) := ⟨_, rfl⟩
    rw [← hL1] at hsl
    have hl1 : L1.length = es.length + 1 := by rw [hL1]; simp; omega
    have hf1 : flatO ⟨1, L1⟩ = true := by rw [hL1]; exact flat_app (flat_app (flat_take hf0 _) (flat_take (flat_drop hf0 _) _)) (flat_drop hf0 _)
    refine AW.to (s2 := ⟨[(0, .c (.ref 1000000 0 (es.length + 1))), (1, .c (cI i)), (2, .c (.row 1 true [x])), (7, .c (cI 1)), (8, .c (cI es.length))], [(1000000, ⟨1, L1⟩)] ++ rest, 1000020⟩) (Weak.normCS hA hrefs [0, 1, 2, 7, 8] [(0, 1000000)] [] [] 1000020 _ (by simp [hl', hdr]) (by simp) (by simp) (by simp) (by simp [hh, hdr]) (by simp [hh, hdr, htt, hmm]; exact ⟨flat_take hf0 _, flat_take (flat_drop hf0 _) _, flat_drop hf0 _⟩)) (by simp [normL, hh, hl', hrn0, hdr, htt, hmm, hL1]) ?_
    have htx : List.take (es.length + 1 - i) [x] = [x] := List.take_of_length_le (by simp; omega)
    have hm1 : min 1 (es.length + 1 - i) = 1 := by omega
    refine AW.st teOk [] (by simp [hi1, hdr, -Option.some.injEq] <;> rfl) ?_ ?_
    · omega
    refine AW.st teOk [] (by simp [hdr, -Option.some.injEq] <;> rfl) trivial ?_
    refine AW.ret ⟨.inr rfl, _, (Weak.ren 6 1000000 (lo := 0) (m := es.length + 1) (o := ⟨1, es.take i ++ x :: es.drop i⟩) _ (by simp) (by simp [htx, hm1, ← hsl]) (by simp)).trans (Weak.normCS hA hrefs [6] [(6, 1000100)] [] [] 1000101 _ (by simp [hl', hdr]) (by simp) (by simp) (by simp) (by simp [hh, hdr]) (by simp [hh, hdr]; exact ⟨flat_take hf i, flat_app (flat_one hxf) (flat_drop hf i)⟩)), by simp [normL], by simp [normL, hh, hl', hrn0, hdr], rfl⟩
theorem insN_con (es : List (List Cell)) (hf : flatO ⟨1, es⟩ = true) (hk : ∀ e ∈ es, e.length = 1) (i : Nat) (hi : i ≤ es.length) (hl : es.length < 1000000000) (x : List Cell) (hx : x.length = 1) (hxf : x.all frozenC = true) :
    Con Tryz.prog 108 [.c (.ref 1000000 0 es.length), .c (cI i), .c (.row 1 true [x])] [(1000000, ⟨1, es⟩)] 1000020 (.c (.ref 1000100 0 (es.length + 1))) [(1000100, ⟨1, es.take i ++ x :: es.drop i⟩)] 1000101 := by
  refine con_of teOk Tryz.func108 (by kernel_rfl) (c := _) rfl (N := 95) rfl (rs := [Go.ResultVar.tmp 6]) rfl (by simp) fun base A w0 rest hrest hrefs hA => ?_
  have hh := hiS_low hrest
  have hl' := loS_low hrest
  have hdr := fun k hk => drop_rest hrest k hk
  have hrn : ∀ (ρ : List (Nat × Nat)) (ids : List Nat), (ids.all fun i => decide (1000000 ≤ i)) = true → rnS 1000000 ρ ids rest = rest := fun ρ ids h => rnS_low h hrest
  have hrn0 : ∀ (ρ : List (Nat × Nat)), rnS 1000000 ρ [] rest = rest := fun ρ => hrn ρ [] rfl
  by_cases hin : i = es.length
  · subst hin
    refine AW.st teOk [] (by simp [-Option.some.injEq] <;> rfl) trivial ?_
    refine AW.st teOk [] (by simp [-Option.some.injEq] <;> rfl) ?_ ?_
    · first | trivial | omega
    refine AW.st teOk [] (by simp [-Option.some.injEq] <;> rfl) trivial ?_
    refine AW.seq ?_
    refine AW.st teOk [] (by simp [-Option.some.injEq] <;> rfl) trivial ?_
    refine AW.iff false (by simp) (fun h => by cases h) (fun _ => AW.skip ?_)
    refine AW.st teOk [] (by simp [-Option.some.injEq] <;> rfl) trivial ?_
    refine AW.seq ?_
    refine AW.st teOk [] (by simp [-Option.some.injEq] <;> rfl) trivial ?_
    refine AW.iff true (by simp) (fun _ => ?_) (fun h => by cases h)
    refine AW.st teOk [] (by simp [hdr, -Option.some.injEq] <;> rfl) ?_ ?_
    · simp [growOk]
      exact ⟨by omega, hx⟩
    have hfx := flat_app hf (flat_one (k := 1) hxf)
    have he : es.take es.length ++ x :: es.drop es.length = es ++ [x] := by rw [List.take_of_length_le (Nat.le_refl _), List.drop_eq_nil_of_le (Nat.le_refl _)]
    rw [he]
    refine AW.ret ⟨.inr rfl, _, Weak.normCS hA hrefs [6] [(6, 1000100)] [] [] 1000101 _ (by simp [hl', hdr]) (by simp) (by simp) (by simp) (by simp [hh, hdr]) (by simp [hh, hdr, hfx]), by simp [normL], by simp [normL, hh, hl', hrn0, hdr], rfl⟩
  have hlt : i < es.length := by omega
  have hlt2 : (i : Int) < es.length := by omega
  have hne : (es.length : Int) ≠ i := by omega
  have hne2 : ((i : Int) == (es.length : Int)) = false := by simp; omega
  refine AW.st teOk [] (by simp [-Option.some.injEq] <;> rfl) trivial ?_
  refine AW.st teOk [] (by simp [hlt2, -Option.some.injEq] <;> rfl) ?_ ?_
  · first | trivial | omega
  refine AW.st teOk [] (by simp [-Option.some.injEq] <;> rfl) trivial ?_
  refine AW.seq ?_
  refine AW.st teOk [] (by simp [-Option.some.injEq] <;> rfl) trivial ?_
  refine AW.iff false (by simp) (fun h => by cases h) (fun _ => AW.skip ?_)
  refine AW.st teOk [] (by simp [-Option.some.injEq] <;> rfl) trivial ?_
  refine AW.seq ?_
  refine AW.st teOk [] (by simp [-Option.some.injEq] <;> rfl) trivial ?_
  refine AW.iff false (by simp; omega) (fun h => by cases h) (fun _ => AW.skip ?_)
  refine AW.to (s2 := ⟨[(0, .c (.ref 1000000 0 es.length)), (1, .c (cI i)), (2, .c (.row 1 true [x])), (7, .c (cI 1)), (8, .c (cI es.length))], [(1000000, ⟨1, es⟩)] ++ rest, 1000020⟩) (Weak.normCS hA hrefs [0, 1, 2, 7, 8] [(0, 1000000)] [] [] 1000020 _ (by simp [hl', hdr]) (by simp) (by simp) (by simp) (by simp [hh, hdr]) (by simp [hh, hdr, hf])) (by simp [normL, hh, hl', hrn0, hdr]) ?_
  refine AW.split 0 (id := 1000000) ⟨1, es⟩ (by simp) (by simp) hf ?_ ?_
  · have hgl := grow_list es zN x i hlt
    dsimp only at hgl
    refine AW.to (s2 := ⟨[(0, .c (.row 1 true es)), (1, .c (cI i)), (2, .c (.row 1 true [x])), (7, .c (cI 1)), (8, .c (cI es.length))], rest, 1000020⟩) (Weak.normCS hA hrefs [0, 1, 2, 7, 8] [] [] [] 1000020 _ (by simp [hl', hdr, mapAt_nil]) (by simp) (by simp) (by simp) (by simp [hh, hdr, mapAt_nil]) (by simp [hh, hdr, mapAt_nil])) (by simp [normL, hh, hl', hrn0, hdr, mapAt_nil]) ?_
    have hn1 : IntKind.i64.wrap ((es.length : Int) + 1) = (es.length : Int) + 1 := wrap_s _ (by omega)
    have hn2 : IntKind.i64.wrap ((es.length : Int) + 1 - (i : Int)) = ((es.length + 1 - i : Nat) : Int) := by rw [IntKind.wrap_i64]; omega
    have hn3 : IntKind.i64.wrap ((i : Int) + 1) = (i : Int) + 1 := wrap_s _ (by omega)
    have hgt : (es.length : Int) + 1 > es.length := by omega
    refine AW.seq ?_
    refine AW.st teOk [] (by simp [hn1, hgt, -Option.some.injEq] <;> rfl) trivial ?_
    refine AW.iff true (by simp) (fun _ => ?_) (fun h => by cases h)
    have hmin : min i es.length = i := by omega
    refine AW.st teOk [] (by simp [hn1, hn2, hdr, -Option.some.injEq] <;> rfl) ?_ ?_
    · simp [growOk]
      omega
    obtain ⟨L0, hL0⟩ : ∃ L0, L0 = es.take i ++ List.replicate (es.length + 1 - i) zN := ⟨_, rfl⟩
    rw [← hL0] at hgl
    have hl0 : L0.length = es.length + 1 := by rw [hL0]; simp; omega
    have hf0 : flatO ⟨1, L0⟩ = true := by
      rw [hL0]
      refine flat_app (flat_take hf i) (flatO_of fun e he => by rw [(List.mem_replicate.1 he).2]; rfl)
    have hk0 : ∀ e ∈ L0, e.length = 1 := fun e he => by
      rw [hL0] at he
      rcases List.mem_append.1 he with he | he
      · exact hk e (List.mem_of_mem_take he)
      · rw [(List.mem_replicate.1 he).2]; rfl
    have hsum : i + (es.length + 1 - i) = es.length + 1 := by omega
    refine AW.to (s2 := ⟨[(0, .c (.row 1 true es)), (1, .c (cI i)), (2, .c (.row 1 true [x])), (7, .c (cI 1)), (8, .c (cI es.length)), (9, .c (.ref 1000021 0 (es.length + 1)))], [(1000021, ⟨1, L0⟩)] ++ rest, 1000022⟩) (Weak.normCS hA hrefs [0, 1, 2, 7, 8, 9] [(9, 1000021)] [] [] 1000022 _ (by simp [hl', hdr]) (by simp) (by simp) (by simp) (by simp [hh, hdr]) (by simp [hh, hdr, ← hL0, hf0])) (by simp [normL, hh, hl', hrn0, hdr, ← hL0, hmin, hsum]) ?_
    have hi1 : (i : Int) < (es.length : Int) + 1 := by omega
    have hi2 : (i : Int) + 1 < (es.length : Int) + 1 := by omega
    have htx : List.take (es.length + 1 - i) [x] = [x] := List.take_of_length_le (by simp; omega)
    have hm1 : min 1 (es.length + 1 - i) = 1 := by omega
    refine AW.st teOk [] (by simp [hi1, hdr, -Option.some.injEq] <;> rfl) ?_ ?_
    · omega
    obtain ⟨L1, hL1⟩ : ∃ L1, L1 = L0.take i ++ [x] ++ L0.drop (i + 1) := ⟨_, rfl⟩
    rw [← hL1] at hgl
    have hl1 : L1.length = es.length + 1 := by rw [hL1]; simp; omega
    have hxf2 := flat_one (k := 1) hxf
    have hf1 : flatO ⟨1, L1⟩ = true := by rw [hL1]; exact flat_app (flat_app (flat_take hf0 i) (flat_one hxf)) (flat_drop hf0 _)
    refine AW.to (s2 := ⟨[(0, .c (.row 1 true es)), (1, .c (cI i)), (2, .c (.row 1 true [x])), (7, .c (cI 1)), (8, .c (cI es.length)), (9, .c (.ref 1000021 0 (es.length + 1)))], [(1000021, ⟨1, L1⟩)] ++ rest, 1000022⟩) (Weak.normCS hA hrefs [0, 1, 2, 7, 8, 9] [(9, 1000021)] [] [] 1000022 _ (by simp [hl', hdr]) (by simp) (by simp) (by simp) (by simp [hh, hdr]) (by simp [hh, hdr, htx, hm1]; exact ⟨flat_take hf0 i, flat_app (flat_one hxf) (flat_drop hf0 _)⟩)) (by simp [normL, hh, hl', hrn0, hdr, htx, hm1, hL1]) ?_
    refine AW.dr mixed teOk [] (by simp [hn3, hi2, hlt2, hdr, -Option.some.injEq] <;> rfl) (by kernel_rfl) (by kernel_rfl) ?_ ?_
    · simp [allP]
      exact ⟨⟨by omega, by omega⟩, hi, by omega, fun e he => hk e (List.mem_of_mem_drop he)⟩
    refine AW.st teOk [] (by simp [hdr, -Option.some.injEq] <;> rfl) trivial ?_
    have hfin : flatO ⟨1, es.take i ++ x :: es.drop i⟩ = true := flat_app (flat_take hf i) (flat_app (flat_one hxf) (flat_drop hf i))
    have hgl2 : L1.take (i + 1) ++ ((es.drop i).take (es.length - i) ++ L1.drop (i + 1 + (es.length - i))) = es.take i ++ x :: es.drop i := by rw [← hgl, List.append_assoc]
    refine AW.ret ⟨.inr rfl, _, Weak.normCS hA hrefs [6] [(6, 1000100)] [] [] 1000101 _ (by simp [hl', hdr]) (by simp) (by simp) (by simp) (by simp [hh, hdr]) (by simp [hh, hdr]; exact ⟨flat_take hf1 _, flat_take (flat_drop hf i) _, flat_drop hf1 _⟩), by simp [normL], by simp [normL, hh, hl', hrn0, hdr]; exact hgl2, rfl⟩
  · have hsl := shift_list es [.any] x i hlt
    dsimp only at hsl
    obtain ⟨L0, hL0⟩ : ∃ L0, L0 = es ++ [[.any]] := ⟨_, rfl⟩
    rw [← hL0] at hsl
    have hl0 : L0.length = es.length + 1 := by rw [hL0]; simp
    have hf0 : flatO ⟨1, L0⟩ = true := by rw [hL0]; exact flat_app hf (flat_one rfl)
    have hk0 : ∀ e ∈ L0, e.length = 1 := fun e he => by
      rw [hL0] at he
      rcases List.mem_append.1 he with he | he
      · exact hk e he
      · rw [List.mem_singleton.1 he]; rfl
    have hne0 : L0 ≠ [] := fun h => by rw [h] at hl0; cases hl0
    refine AW.to (s2 := ⟨[(0, .c (.ref 1000000 0 es.length)), (1, .c (cI i)), (2, .c (.row 1 true [x])), (7, .c (cI 1)), (8, .c (cI es.length))], [(1000000, ⟨1, L0⟩)] ++ rest, 1000020⟩) (Weak.normCS hA hrefs [0, 1, 2, 7, 8] [(0, 1000000)] [] [] 1000020 _ (by simp [hl', hdr]) (by simp) (by simp) (by simp) (by simp [hh, hdr]) (by simp [hh, hdr, ← hL0, hf0])) (by simp [normL, hh, hl', hrn0, hdr, ← hL0]) ?_
    have hn1 : IntKind.i64.wrap ((es.length : Int) + 1) = (es.length : Int) + 1 := wrap_s _ (by omega)
    have hn3 : IntKind.i64.wrap ((i : Int) + 1) = (i : Int) + 1 := wrap_s _ (by omega)
    refine AW.seq ?_
    refine AW.stX teOk (ι := Nat) [] 4 (by simp [hn1, -Option.some.injEq] <;> rfl) trivial rfl rfl (d := 30) rfl (by decide) (fun c => .c (cI c)) (fun c => ⟨[(31, .c (cB false)), (30, .c (cI c)), (29, .c (.ref 1000000 0 es.length)), (28, .c (cI ((es.length : Int) + 1))), (27, .c (cI 1)), (26, .c (cI es.length)), (0, .c (.ref 1000000 0 es.length)), (1, .c (cI i)), (2, .c (.row 1 true [x])), (7, .c (cI 1)), (8, .c (cI es.length))], [(1000000, ⟨1, L0⟩)] ++ rest, 1000025⟩) (fun c => es.length + 1 ≤ c) (fun β a w I => ?_) (fun c hc => ?_) (fun c hc => ?_)
    · exact cap_run' teOk I (.tmp 29) 22 3 rfl rfl rfl (by simp <;> exact ⟨rfl, rfl, rfl⟩) (by simp <;> rfl) hne0 (by rw [hl0]; exact Nat.le_refl _)
    · have hc' : ¬ ((es.length : Int) + 1 > (c : Int)) := by omega
      exact ⟨_, _, by simp [hc', -Option.some.injEq] <;> rfl, by trivial⟩
    refine AW.iff false (by simp) (fun h => by cases h) (fun _ => AW.skip ?_)
    have hi1 : (i : Int) < (es.length : Int) + 1 := by omega
    have hi2 : (i : Int) + 1 < (es.length : Int) + 1 := by omega
    refine AW.st teOk [] (by simp [hn1, hdr, -Option.some.injEq] <;> rfl) ?_ ?_
    · omega
    refine AW.to (s2 := ⟨[(0, .c (.ref 1000000 0 (es.length + 1))), (1, .c (cI i)), (2, .c (.row 1 true [x])), (7, .c (cI 1)), (8, .c (cI es.length))], [(1000000, ⟨1, L0⟩)] ++ rest, 1000020⟩) (Weak.normCS hA hrefs [0, 1, 2, 7, 8] [(0, 1000000)] [] [] 1000020 _ (by simp [hl', hdr]) (by simp) (by simp) (by simp) (by simp [hh, hdr]) (by simp [hh, hdr, hf0])) (by simp [normL, hh, hl', hrn0, hdr]) ?_
    refine AW.seq ?_
    refine AW.stX teOk (ι := Unit) [] 6 (by simp [hn3, hi2, -Option.some.injEq] <;> rfl) ?_ rfl rfl (d := 67) rfl (by decide) (fun _ => .c (cB false)) (fun _ => ⟨[(68, .c (cB true)), (67, .c (cB false)), (66, .c (.ref 1000000 (i + 1) (es.length - i))), (65, .c (cI ((i : Int) + 1))), (64, .c (cI 1)), (63, .c (cI i)), (62, .c (.ref 1000000 0 (es.length + 1))), (61, .c (.row 1 true [x])), (0, .c (.ref 1000000 0 (es.length + 1))), (1, .c (cI i)), (2, .c (.row 1 true [x])), (7, .c (cI 1)), (8, .c (cI es.length))], [(1000000, ⟨1, L0⟩)] ++ rest, 1000027⟩) (fun _ => True) (fun β a w I => ?_) (fun c hc => ?_) (fun c hc => ?_)
    · omega
    · exact over_run' teOk I (.tmp 61) (.tmp 66) 22 4 3 rfl Tryz.func121 (by kernel_rfl) (by kernel_rfl) (by kernel_rfl) (by kernel_rfl) rfl rfl rfl 1 true x [] (by simp) (by decide) ⟨1, L0⟩ (by simp <;> exact ⟨rfl, rfl, rfl⟩) (by simp) hne0 (by show 0 < 1; decide)
    · exact ⟨_, _, by simp [-Option.some.injEq] <;> rfl, by trivial⟩
    refine AW.iff true (by simp) (fun _ => ?_) (fun h => by cases h)
    have hfit : i + (es.length + 1 - i) ≤ L0.length := by omega
    have hmn : min (es.length + 1 - i) (es.length - i) = es.length - i := by omega
    have hmn2 : min (es.length - i) (es.length + 1 - i) = es.length - i := by omega
    have hmn3 : min (es.length + 1 - i) (L0.length - i) = es.length + 1 - i := by omega
    refine AW.dr mixed teOk [] (by simp [hn3, hi1, hi2, hdr, hfit, -Option.some.injEq] <;> rfl) (by kernel_rfl) (by kernel_rfl) ?_ ?_
    · simp [allP]
      exact ⟨⟨by omega, by omega⟩, by omega, by omega, fun e he => hk0 e (List.mem_of_mem_drop (List.mem_of_mem_take he))⟩
    have htt : List.take (es.length - i) (List.take (es.length + 1 - i) (List.drop i L0)) = List.take (es.length - i) (List.drop i L0) := by rw [List.take_take, hmn2]
    have hmm : min (es.length + 1 - i) (min (L0.length - i) (es.length - i)) = es.length - i := by omega
    obtain ⟨L1, hL1⟩ : ∃ L1, L1 = L0.take (i + 1) ++ (L0.drop i).take (es.length - i) ++ L0.drop (i + 1 + (es.length - i)) := ⟨_, rfl⟩
    rw [← hL1] at hsl
    have hl1 : L1.length = es.length + 1 := by rw [hL1]; simp; omega
    have hf1 : flatO ⟨1, L1⟩ = true := by rw [hL1]; exact flat_app (flat_app (flat_take hf0 _) (flat_take (flat_drop hf0 _) _)) (flat_drop hf0 _)
    refine AW.to (s2 := ⟨[(0, .c (.ref 1000000 0 (es.length + 1))), (1, .c (cI i)), (2, .c (.row 1 true [x])), (7, .c (cI 1)), (8, .c (cI es.length))], [(1000000, ⟨1, L1⟩)] ++ rest, 1000020⟩) (Weak.normCS hA hrefs [0, 1, 2, 7, 8] [(0, 1000000)] [] [] 1000020 _ (by simp [hl', hdr]) (by simp) (by simp) (by simp) (by simp [hh, hdr]) (by simp [hh, hdr, htt, hmm]; exact ⟨flat_take hf0 _, flat_take (flat_drop hf0 _) _, flat_drop hf0 _⟩)) (by simp [normL, hh, hl', hrn0, hdr, htt, hmm, hL1]) ?_
    have htx : List.take (es.length + 1 - i) [x] = [x] := List.take_of_length_le (by simp; omega)
    have hm1 : min 1 (es.length + 1 - i) = 1 := by omega
    refine AW.st teOk [] (by simp [hi1, hdr, -Option.some.injEq] <;> rfl) ?_ ?_
    · omega
    refine AW.st teOk [] (by simp [hdr, -Option.some.injEq] <;> rfl) trivial ?_
    refine AW.ret ⟨.inr rfl, _, (Weak.ren 6 1000000 (lo := 0) (m := es.length + 1) (o := ⟨1, es.take i ++ x :: es.drop i⟩) _ (by simp) (by simp [htx, hm1, ← hsl]) (by simp)).trans (Weak.normCS hA hrefs [6] [(6, 1000100)] [] [] 1000101 _ (by simp [hl', hdr]) (by simp) (by simp) (by simp) (by simp [hh, hdr]) (by simp [hh, hdr]; exact ⟨flat_take hf i, flat_app (flat_one hxf) (flat_drop hf i)⟩)), by simp [normL], by simp [normL, hh, hl', hrn0, hdr], rfl⟩
theorem insH_con (es : List (List Cell)) (hf : flatO ⟨10, es⟩ = true) (hk : ∀ e ∈ es, e.length = 10) (i : Nat) (hi : i ≤ es.length) (hl : es.length < 1000000000) (x : List Cell) (hx : x.length = 10) (hxf : x.all frozenC = true) :
    Con Tryz.prog 85 [.c (.ref 1000000 0 es.length), .c (cI i), .c (.row 10 true [x])] [(1000000, ⟨10, es⟩)] 1000020 (.c (.ref 1000100 0 (es.length + 1))) [(1000100, ⟨10, es.take i ++ x :: es.drop i⟩)] 1000101 := by
  refine con_of teOk Tryz.func85 (by kernel_rfl) (c := _) rfl (N := 95) rfl (rs := [Go.ResultVar.tmp 6]) rfl (by simp) fun base A w0 rest hrest hrefs hA => ?_
  have hh := hiS_low hrest
  have hl' := loS_low hrest
  have hdr := fun k hk => drop_rest hrest k hk
  have hrn : ∀ (ρ : List (Nat × Nat)) (ids : List Nat), (ids.all fun i => decide (1000000 ≤ i)) = true → rnS 1000000 ρ ids rest = rest := fun ρ ids h => rnS_low h hrest
  have hrn0 : ∀ (ρ : List (Nat × Nat)), rnS 1000000 ρ [] rest = rest := fun ρ => hrn ρ [] rfl
  by_cases hin : i = es.length
  · subst hin
    refine AW.st teOk [] (by simp [-Option.some.injEq] <;> rfl) trivial ?_
    refine AW.st teOk [] (by simp [-Option.some.injEq] <;> rfl) ?_ ?_
    · first | trivial | omega
    refine AW.st teOk [] (by simp [-Option.some.injEq] <;> rfl) trivial ?_
    refine AW.seq ?_
    refine AW.st teOk [] (by simp [-Option.some.injEq] <;> rfl) trivial ?_
    refine AW.iff false (by simp) (fun h => by cases h) (fun _ => AW.skip ?_)
    refine AW.st teOk [] (by simp [-Option.some.injEq] <;> rfl) trivial ?_
    refine AW.seq ?_
    refine AW.st teOk [] (by simp [-Option.some.injEq] <;> rfl) trivial ?_
    refine AW.iff true (by simp) (fun _ => ?_) (fun h => by cases h)
    refine AW.st teOk [] (by simp [hdr, -Option.some.injEq] <;> rfl) ?_ ?_
    · simp [growOk]
      exact ⟨by omega, hx⟩
    have hfx := flat_app hf (flat_one (k := 10) hxf)
    have he : es.take es.length ++ x :: es.drop es.length = es ++ [x] := by rw [List.take_of_length_le (Nat.le_refl _), List.drop_eq_nil_of_le (Nat.le_refl _)]
    rw [he]
    refine AW.ret ⟨.inr rfl, _, Weak.normCS hA hrefs [6] [(6, 1000100)] [] [] 1000101 _ (by simp [hl', hdr]) (by simp) (by simp) (by simp) (by simp [hh, hdr]) (by simp [hh, hdr, hfx]), by simp [normL], by simp [normL, hh, hl', hrn0, hdr], rfl⟩
  have hlt : i < es.length := by omega
  have hlt2 : (i : Int) < es.length := by omega
  have hne : (es.length : Int) ≠ i := by omega
  have hne2 : ((i : Int) == (es.length : Int)) = false := by simp; omega
  refine AW.st teOk [] (by simp [-Option.some.injEq] <;> rfl) trivial ?_
  refine AW.st teOk [] (by simp [hlt2, -Option.some.injEq] <;> rfl) ?_ ?_
  · first | trivial | omega
  refine AW.st teOk [] (by simp [-Option.some.injEq] <;> rfl) trivial ?_
  refine AW.seq ?_
  refine AW.st teOk [] (by simp [-Option.some.injEq] <;> rfl) trivial ?_
  refine AW.iff false (by simp) (fun h => by cases h) (fun _ => AW.skip ?_)
  refine AW.st teOk [] (by simp [-Option.some.injEq] <;> rfl) trivial ?_
  refine AW.seq ?_
  refine AW.st teOk [] (by simp [-Option.some.injEq] <;> rfl) trivial ?_
  refine AW.iff false (by simp; omega) (fun h => by cases h) (fun _ => AW.skip ?_)
  refine AW.to (s2 := ⟨[(0, .c (.ref 1000000 0 es.length)), (1, .c (cI i)), (2, .c (.row 10 true [x])), (7, .c (cI 1)), (8, .c (cI es.length))], [(1000000, ⟨10, es⟩)] ++ rest, 1000020⟩) (Weak.normCS hA hrefs [0, 1, 2, 7, 8] [(0, 1000000)] [] [] 1000020 _ (by simp [hl', hdr]) (by simp) (by simp) (by simp) (by simp [hh, hdr]) (by simp [hh, hdr, hf])) (by simp [normL, hh, hl', hrn0, hdr]) ?_
  refine AW.split 0 (id := 1000000) ⟨10, es⟩ (by simp) (by simp) hf ?_ ?_
  · have hgl := grow_list es zH x i hlt
    dsimp only at hgl
    refine AW.to (s2 := ⟨[(0, .c (.row 10 true es)), (1, .c (cI i)), (2, .c (.row 10 true [x])), (7, .c (cI 1)), (8, .c (cI es.length))], rest, 1000020⟩) (Weak.normCS hA hrefs [0, 1, 2, 7, 8] [] [] [] 1000020 _ (by simp [hl', hdr, mapAt_nil]) (by simp) (by simp) (by simp) (by simp [hh, hdr, mapAt_nil]) (by simp [hh, hdr, mapAt_nil])) (by simp [normL, hh, hl', hrn0, hdr, mapAt_nil]) ?_
    have hn1 : IntKind.i64.wrap ((es.length : Int) + 1) = (es.length : Int) + 1 := wrap_s _ (by omega)
    have hn2 : IntKind.i64.wrap ((es.length : Int) + 1 - (i : Int)) = ((es.length + 1 - i : Nat) : Int) := by rw [IntKind.wrap_i64]; omega
    have hn3 : IntKind.i64.wrap ((i : Int) + 1) = (i : Int) + 1 := wrap_s _ (by omega)
    have hgt : (es.length : Int) + 1 > es.length := by omega
    refine AW.seq ?_
    refine AW.st teOk [] (by simp [hn1, hgt, -Option.some.injEq] <;> rfl) trivial ?_
    refine AW.iff true (by simp) (fun _ => ?_) (fun h => by cases h)
    have hmin : min i es.length = i := by omega
    refine AW.st teOk [] (by simp [hn1, hn2, hdr, -Option.some.injEq] <;> rfl) ?_ ?_
    · simp [growOk]
      omega
    obtain ⟨L0, hL0⟩ : ∃ L0, L0 = es.take i ++ List.replicate (es.length + 1 - i) zH := ⟨_, rfl⟩
    rw [← hL0] at hgl
    have hl0 : L0.length = es.length + 1 := by rw [hL0]; simp; omega
    have hf0 : flatO ⟨10, L0⟩ = true := by
      rw [hL0]
      refine flat_app (flat_take hf i) (flatO_of fun e he => by rw [(List.mem_replicate.1 he).2]; rfl)
    have hk0 : ∀ e ∈ L0, e.length = 10 := fun e he => by
      rw [hL0] at he
      rcases List.mem_append.1 he with he | he
      · exact hk e (List.mem_of_mem_take he)
      · rw [(List.mem_replicate.1 he).2]; rfl
    have hsum : i + (es.length + 1 - i) = es.length + 1 := by omega
    refine AW.to (s2 := ⟨[(0, .c (.row 10 true es)), (1, .c (cI i)), (2, .c (.row 10 true [x])), (7, .c (cI 1)), (8, .c (cI es.length)), (9, .c (.ref 1000021 0 (es.length + 1)))], [(1000021, ⟨10, L0⟩)] ++ rest, 1000022⟩) (Weak.normCS hA hrefs [0, 1, 2, 7, 8, 9] [(9, 1000021)] [] [] 1000022 _ (by simp [hl', hdr]) (by simp) (by simp) (by simp) (by simp [hh, hdr]) (by simp [hh, hdr, ← hL0, hf0])) (by simp [normL, hh, hl', hrn0, hdr, ← hL0, hmin, hsum]) ?_
    have hi1 : (i : Int) < (es.length : Int) + 1 := by omega
    have hi2 : (i : Int) + 1 < (es.length : Int) + 1 := by omega
    have htx : List.take (es.length + 1 - i) [x] = [x] := List.take_of_length_le (by simp; omega)
    have hm1 : min 1 (es.length + 1 - i) = 1 := by omega
    refine AW.st teOk [] (by simp [hi1, hdr, -Option.some.injEq] <;> rfl) ?_ ?_
    · omega
    obtain ⟨L1, hL1⟩ : ∃ L1, L1 = L0.take i ++ [x] ++ L0.drop (i + 1) := ⟨_, rfl⟩
    rw [← hL1] at hgl
    have hl1 : L1.length = es.length + 1 := by rw [hL1]; simp; omega
    have hxf2 := flat_one (k := 10) hxf
    have hf1 : flatO ⟨10, L1⟩ = true := by rw [hL1]; exact flat_app (flat_app (flat_take hf0 i) (flat_one hxf)) (flat_drop hf0 _)
    refine AW.to (s2 := ⟨[(0, .c (.row 10 true es)), (1, .c (cI i)), (2, .c (.row 10 true [x])), (7, .c (cI 1)), (8, .c (cI es.length)), (9, .c (.ref 1000021 0 (es.length + 1)))], [(1000021, ⟨10, L1⟩)] ++ rest, 1000022⟩) (Weak.normCS hA hrefs [0, 1, 2, 7, 8, 9] [(9, 1000021)] [] [] 1000022 _ (by simp [hl', hdr]) (by simp) (by simp) (by simp) (by simp [hh, hdr]) (by simp [hh, hdr, htx, hm1]; exact ⟨flat_take hf0 i, flat_app (flat_one hxf) (flat_drop hf0 _)⟩)) (by simp [normL, hh, hl', hrn0, hdr, htx, hm1, hL1]) ?_
    refine AW.dr mixed teOk [] (by simp [hn3, hi2, hlt2, hdr, -Option.some.injEq] <;> rfl) (by kernel_rfl) (by kernel_rfl) ?_ ?_
    · simp [allP]
      exact ⟨⟨by omega, by omega⟩, hi, by omega, fun e he => hk e (List.mem_of_mem_drop he)⟩
    refine AW.st teOk [] (by simp [hdr, -Option.some.injEq] <;> rfl) trivial ?_
    have hfin : flatO ⟨10, es.take i ++ x :: es.drop i⟩ = true := flat_app (flat_take hf i) (flat_app (flat_one hxf) (flat_drop hf i))
    have hgl2 : L1.take (i + 1) ++ ((es.drop i).take (es.length - i) ++ L1.drop (i + 1 + (es.length - i))) = es.take i ++ x :: es.drop i := by rw [← hgl, List.append_assoc]
    refine AW.ret ⟨.inr rfl, _, Weak.normCS hA hrefs [6] [(6, 1000100)] [] [] 1000101 _ (by simp [hl', hdr]) (by simp) (by simp) (by simp) (by simp [hh, hdr]) (by simp [hh, hdr]; exact ⟨flat_take hf1 _, flat_take (flat_drop hf i) _, flat_drop hf1 _⟩), by simp [normL], by simp [normL, hh, hl', hrn0, hdr]; exact hgl2, rfl⟩
  · have hsl := shift_list es [.any, .any, .any, .any, .any, .any, .any, .any, .any, .any] x i hlt
    dsimp only at hsl
    obtain ⟨L0, hL0⟩ : ∃ L0, L0 = es ++ [[.any, .any, .any, .any, .any, .any, .any, .any, .any, .any]] := ⟨_, rfl⟩
    rw [← hL0] at hsl
    have hl0 : L0.length = es.length + 1 := by rw [hL0]; simp
    have hf0 : flatO ⟨10, L0⟩ = true := by rw [hL0]; exact flat_app hf (flat_one rfl)
    have hk0 : ∀ e ∈ L0, e.length = 10 := fun e he => by
      rw [hL0] at he
      rcases List.mem_append.1 he with he | he
      · exact hk e he
      · rw [List.mem_singleton.1 he]; rfl
    have hne0 : L0 ≠ [] := fun h => by rw [h] at hl0; cases hl0
    refine AW.to (s2 := ⟨[(0, .c (.ref 1000000 0 es.length)), (1, .c (cI i)), (2, .c (.row 10 true [x])), (7, .c (cI 1)), (8, .c (cI es.length))], [(1000000, ⟨10, L0⟩)] ++ rest, 1000020⟩) (Weak.normCS hA hrefs [0, 1, 2, 7, 8] [(0, 1000000)] [] [] 1000020 _ (by simp [hl', hdr]) (by simp) (by simp) (by simp) (by simp [hh, hdr]) (by simp [hh, hdr, ← hL0, hf0])) (by simp [normL, hh, hl', hrn0, hdr, ← hL0]) ?_
    have hn1 : IntKind.i64.wrap ((es.length : Int) + 1) = (es.length : Int) + 1 := wrap_s _ (by omega)
    have hn3 : IntKind.i64.wrap ((i : Int) + 1) = (i : Int) + 1 := wrap_s _ (by omega)
    refine AW.seq ?_
    refine AW.stX teOk (ι := Nat) [] 4 (by simp [hn1, -Option.some.injEq] <;> rfl) trivial rfl rfl (d := 30) rfl (by decide) (fun c => .c (cI c)) (fun c => ⟨[(31, .c (cB false)), (30, .c (cI c)), (29, .c (.ref 1000000 0 es.length)), (28, .c (cI ((es.length : Int) + 1))), (27, .c (cI 1)), (26, .c (cI es.length)), (0, .c (.ref 1000000 0 es.length)), (1, .c (cI i)), (2, .c (.row 10 true [x])), (7, .c (cI 1)), (8, .c (cI es.length))], [(1000000, ⟨10, L0⟩)] ++ rest, 1000025⟩) (fun c => es.length + 1 ≤ c) (fun β a w I => ?_) (fun c hc => ?_) (fun c hc => ?_)
    · exact cap_run' teOk I (.tmp 29) 37 53 rfl rfl rfl (by simp <;> exact ⟨rfl, rfl, rfl⟩) (by simp <;> rfl) hne0 (by rw [hl0]; exact Nat.le_refl _)
    · have hc' : ¬ ((es.length : Int) + 1 > (c : Int)) := by omega
      exact ⟨_, _, by simp [hc', -Option.some.injEq] <;> rfl, by trivial⟩
    refine AW.iff false (by simp) (fun h => by cases h) (fun _ => AW.skip ?_)
    have hi1 : (i : Int) < (es.length : Int) + 1 := by omega
    have hi2 : (i : Int) + 1 < (es.length : Int) + 1 := by omega
    refine AW.st teOk [] (by simp [hn1, hdr, -Option.some.injEq] <;> rfl) ?_ ?_
    · omega
    refine AW.to (s2 := ⟨[(0, .c (.ref 1000000 0 (es.length + 1))), (1, .c (cI i)), (2, .c (.row 10 true [x])), (7, .c (cI 1)), (8, .c (cI es.length))], [(1000000, ⟨10, L0⟩)] ++ rest, 1000020⟩) (Weak.normCS hA hrefs [0, 1, 2, 7, 8] [(0, 1000000)] [] [] 1000020 _ (by simp [hl', hdr]) (by simp) (by simp) (by simp) (by simp [hh, hdr]) (by simp [hh, hdr, hf0])) (by simp [normL, hh, hl', hrn0, hdr]) ?_
    refine AW.seq ?_
    refine AW.stX teOk (ι := Unit) [] 6 (by simp [hn3, hi2, -Option.some.injEq] <;> rfl) ?_ rfl rfl (d := 67) rfl (by decide) (fun _ => .c (cB false)) (fun _ => ⟨[(68, .c (cB true)), (67, .c (cB false)), (66, .c (.ref 1000000 (i + 1) (es.length - i))), (65, .c (cI ((i : Int) + 1))), (64, .c (cI 1)), (63, .c (cI i)), (62, .c (.ref 1000000 0 (es.length + 1))), (61, .c (.row 10 true [x])), (0, .c (.ref 1000000 0 (es.length + 1))), (1, .c (cI i)), (2, .c (.row 10 true [x])), (7, .c (cI 1)), (8, .c (cI es.length))], [(1000000, ⟨10, L0⟩)] ++ rest, 1000027⟩) (fun _ => True) (fun β a w I => ?_) (fun c hc => ?_) (fun c hc => ?_)
    · omega
    · exact over_run' teOk I (.tmp 61) (.tmp 66) 37 4 53 rfl Tryz.func111 (by kernel_rfl) (by kernel_rfl) (by kernel_rfl) (by kernel_rfl) rfl rfl rfl 10 true x [] (by simp) (by decide) ⟨10, L0⟩ (by simp <;> exact ⟨rfl, rfl, rfl⟩) (by simp) hne0 (by show 0 < 10; decide)
    · exact ⟨_, _, by simp [-Option.some.injEq] <;> rfl, by trivial⟩
    refine AW.iff true (by simp) (fun _ => ?_) (fun h => by cases h)
    have hfit : i + (es.length + 1 - i) ≤ L0.length := by omega
    have hmn : min (es.length + 1 - i) (es.length - i) = es.length - i := by omega
    have hmn2 : min (es.length - i) (es.length + 1 - i) = es.length - i := by omega
    have hmn3 : min (es.length + 1 - i) (L0.length - i) = es.length + 1 - i := by omega
    refine AW.dr mixed teOk [] (by simp [hn3, hi1, hi2, hdr, hfit, -Option.some.injEq] <;> rfl) (by kernel_rfl) (by kernel_rfl) ?_ ?_
    · simp [allP]
      exact ⟨⟨by omega, by omega⟩, by omega, by omega, fun e he => hk0 e (List.mem_of_mem_drop (List.mem_of_mem_take he))⟩
    have htt : List.take (es.length - i) (List.take (es.length + 1 - i) (List.drop i L0)) = List.take (es.length - i) (List.drop i L0) := by rw [List.take_take, hmn2]
    have hmm : min (es.length + 1 - i) (min (L0.length - i) (es.length - i)) = es.length - i := by omega
    obtain ⟨L1, hL1⟩ : ∃ L1, L1 = L0.take (i + 1) ++ (L0.drop i).take (es.length - i) ++ L0.drop (i + 1 + (es.length - i)) := ⟨_, rfl⟩
    rw [← hL1] at hsl
    have hl1 : L1.length = es.length + 1 := by rw [hL1]; simp; omega
    have hf1 : flatO ⟨10, L1⟩ = true := by rw [hL1]; exact flat_app (flat_app (flat_take hf0 _) (flat_take (flat_drop hf0 _) _)) (flat_drop hf0 _)
    refine AW.to (s2 := ⟨[(0, .c (.ref 1000000 0 (es.length + 1))), (1, .c (cI i)), (2, .c (.row 10 true [x])), (7, .c (cI 1)), (8, .c (cI es.length))], [(1000000, ⟨10, L1⟩)] ++ rest, 1000020⟩) (Weak.normCS hA hrefs [0, 1, 2, 7, 8] [(0, 1000000)] [] [] 1000020 _ (by simp [hl', hdr]) (by simp) (by simp) (by simp) (by simp [hh, hdr]) (by simp [hh, hdr, htt, hmm]; exact ⟨flat_take hf0 _, flat_take (flat_drop hf0 _) _, flat_drop hf0 _⟩)) (by simp [normL, hh, hl', hrn0, hdr, htt, hmm, hL1]) ?_
    have htx : List.take (es.length + 1 - i) [x] = [x] := List.take_of_length_le (by simp; omega)
    have hm1 : min 1 (es.length + 1 - i) = 1 := by omega
    refine AW.st teOk [] (by simp [hi1, hdr, -Option.some.injEq] <;> rfl) ?_ ?_
    · omega
    refine AW.st teOk [] (by simp [hdr, -Option.some.injEq] <;> rfl) trivial ?_
    refine AW.ret ⟨.inr rfl, _, (Weak.ren 6 1000000 (lo := 0) (m := es.length + 1) (o := ⟨10, es.take i ++ x :: es.drop i⟩) _ (by simp) (by simp [htx, hm1, ← hsl]) (by simp)).trans (Weak.normCS hA hrefs [6] [(6, 1000100)] [] [] 1000101 _ (by simp [hl', hdr]) (by simp) (by simp) (by simp) (by simp [hh, hdr]) (by simp [hh, hdr]; exact ⟨flat_take hf i, flat_app (flat_one hxf) (flat_drop hf i)⟩)), by simp [normL], by simp [normL, hh, hl', hrn0, hdr], rfl⟩
end Go.Proofs.YtphlhadgcfndhaaGreat.Abs
