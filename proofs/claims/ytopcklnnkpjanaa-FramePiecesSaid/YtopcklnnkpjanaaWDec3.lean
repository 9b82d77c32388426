/- Frames: decoding, by the program and by the reference. -/
import Derived.Test.YtopcklnnkpjanaaWDec2
namespace Go.Proofs.Ytopcklnnkpjanaa.Abs
open Go Go.RowKit Fr
set_option linter.unusedVariables false
set_option linter.unusedSimpArgs false
set_option maxHeartbeats 4000000
theorem enc_drop (l : List Int) (n : Nat) : (l.map encb).drop n = (l.drop n).map encb := List.map_drop.symm
theorem enc_take (l : List Int) (n : Nat) : (l.map encb).take n = (l.take n).map encb := List.map_take.symm
abbrev decV (l : List Int) : AVal := .tup [.c (encB (Dec l).1), .c (cI (Dec l).2.1), .c (cI (Dec l).2.2)]
theorem nil_row : LeC (.sc (.slice none 0 0)) (encB []) := LeC.nil 1
/-- The words and ends of a decoding. -/
theorem dec_nums {n : Int} (h0 : 0 ≤ n) (h1 : n ≤ 65536) : IntKind.i64.wrap (4 + IntKind.i64.wrap n) = 4 + n ∧ IntKind.i64.wrap (4 + n + 4) = n + 8 := by
  simp only [IntKind.wrap_i64]
  omega
theorem dec_pure (l : List Int) (hb : Bytes l) (hl : l.length < 100000000000) : Pure Try.prog 66 [.c (encB l)] (decV l) := by
  refine pure_of teOk Try.func66 (by kernel_rfl) (c := _) rfl (N := 37) rfl (rs := [Go.ResultVar.tmp 2, Go.ResultVar.tmp 3, Go.ResultVar.tmp 4]) rfl (by simp) fun base A w0 hA => ?_
  refine AW.st teOk [] (by simp [-Option.some.injEq] <;> rfl) trivial ?_
  refine AW.seq ?_
  refine AW.st teOk [] (by simp [-Option.some.injEq] <;> rfl) trivial ?_
  by_cases h4 : l.length < 4
  · refine AW.iff true (by simp; omega) (fun _ => ?_) (fun h => by cases h)
    refine AW.st teOk [] (by simp [-Option.some.injEq] <;> rfl) trivial ?_
    refine AW.ret ⟨.inr rfl, _, Weak.le 2 _ (by simp <;> rfl) (.c nil_row), ?_⟩
    simp [decV, Dec, h4]
  refine AW.iff false (by simp; omega) (fun h => by cases h) (fun _ => AW.skip ?_)
  have hw := word4_range hb
  obtain ⟨n, hn⟩ : ∃ n, n = word4 l := ⟨_, rfl⟩
  refine AW.st teOk [.fz (.c (cU n))] (by simp [-Option.some.injEq] <;> rfl) ?_ ?_
  · rw [hn]; exact word_pure l hb (by omega)
  rw [← hn] at hw
  refine AW.seq ?_
  refine AW.st teOk [] (by simp [-Option.some.injEq] <;> rfl) trivial ?_
  by_cases hbig : n > 65536
  · refine AW.iff true (by simp [hbig]) (fun _ => ?_) (fun h => by cases h)
    refine AW.st teOk [] (by simp [-Option.some.injEq] <;> rfl) trivial ?_
    refine AW.ret ⟨.inr rfl, _, Weak.le 2 _ (by simp <;> rfl) (.c nil_row), ?_⟩
    simp [decV, Dec, h4, ← hn, hbig]
  refine AW.iff false (by simp; omega) (fun h => by cases h) (fun _ => AW.skip ?_)
  obtain ⟨e1, e2⟩ := dec_nums hw.1 (by omega)
  obtain ⟨q, rfl⟩ : ∃ q : Nat, n = q := ⟨n.toNat, by omega⟩
  obtain ⟨r, hr⟩ : ∃ r : Nat, r = 4 + q := ⟨_, rfl⟩
  have e3 : (4 : Int) + (q : Int) = (r : Int) := by omega
  rw [e3] at e1 e2
  refine AW.st teOk [] (by simp [e1, -Option.some.injEq] <;> rfl) trivial ?_
  refine AW.seq ?_
  refine AW.st teOk [] (by simp [e2, -Option.some.injEq] <;> rfl) trivial ?_
  by_cases hshort : (l.length : Int) < q + 8
  · refine AW.iff true (by simp [hshort]) (fun _ => ?_) (fun h => by cases h)
    refine AW.st teOk [] (by simp [-Option.some.injEq] <;> rfl) trivial ?_
    refine AW.ret ⟨.inr rfl, _, Weak.le 2 _ (by simp <;> rfl) (.c nil_row), ?_⟩
    simp [decV, Dec, h4, ← hn, hbig, hshort]
  refine AW.iff false (by simp; omega) (fun h => by cases h) (fun _ => AW.skip ?_)
  refine AW.seq ?_
  obtain ⟨x, hx⟩ : ∃ x, x = word4 (l.drop r) := ⟨_, rfl⟩
  obtain ⟨y, hy⟩ : ∃ y, y = ((sumN (l.take r) : Nat) : Int) := ⟨_, rfl⟩
  have p1 := word_pure (l.drop r) (hb.drop r) (by rw [List.length_drop]; omega)
  have p2 := sum_pure (l.take r) (hb.take r) (by rw [List.length_take]; omega)
  rw [← hx] at p1
  rw [← hy] at p2
  rw [encB, List.map_drop] at p1
  rw [encB, List.map_take] at p2
  refine AW.dr mixed teOk [.c (cU x), .c (cU y)] (by simp [-Option.some.injEq] <;> rfl) (by kernel_rfl) (by kernel_rfl) ?_ ?_
  · simp [allP]
    exact ⟨by omega, p1, by omega, p2⟩
  by_cases hxy : x = y
  · refine AW.iff false (by simp [hxy]) (fun h => by cases h) (fun _ => AW.skip ?_)
    have p3 := cloneB_pure ((l.take r).drop 4) (by rw [List.length_drop, List.length_take]; omega)
    obtain ⟨z, hz⟩ : ∃ z, z = (l.take r).drop 4 := ⟨_, rfl⟩
    rw [← hz] at p3
    have hcut : ((l.map encb).take r).drop 4 = z.map encb := by rw [hz, enc_take, enc_drop]
    refine AW.st teOk [.fz (.c (encB z))] (by simp [e2, hcut, -Option.some.injEq] <;> rfl) ?_ ?_
    · exact ⟨by omega, p3⟩
    refine AW.ret ⟨.inr rfl, _, Weak.refl _, ?_⟩
    have hd : Dec l = (z, (q : Int) + 8, 0) := by
      unfold Dec
      rw [if_neg h4, ← hn, if_neg hbig, if_neg hshort, Int.toNat_natCast, ← hr, if_pos (by rw [← hx, ← hy, hxy]), ← hz]
    simp [decV, hd]
  · refine AW.iff true (by simp [hxy]) (fun _ => ?_) (fun h => by cases h)
    refine AW.st teOk [] (by simp [-Option.some.injEq] <;> rfl) trivial ?_
    refine AW.ret ⟨.inr rfl, _, Weak.le 2 _ (by simp <;> rfl) (.c nil_row), ?_⟩
    have hd : Dec l = ([], 0, 4) := by
      unfold Dec
      rw [if_neg h4, ← hn, if_neg hbig, if_neg hshort, Int.toNat_natCast, ← hr, if_neg (by rw [← hx, ← hy]; exact hxy)]
    simp [decV, hd]
theorem rdec_pure (l : List Int) (hb : Bytes l) (hl : l.length < 100000000000) : Pure Try.prog 70 [.c (encB l)] (decV l) := by
  refine pure_of teOk Try.func70 (by kernel_rfl) (c := _) rfl (N := 38) rfl (rs := [Go.ResultVar.tmp 2, Go.ResultVar.tmp 3, Go.ResultVar.tmp 4]) rfl (by simp) fun base A w0 hA => ?_
  refine AW.st teOk [] (by simp [-Option.some.injEq] <;> rfl) trivial ?_
  refine AW.seq ?_
  refine AW.st teOk [] (by simp [-Option.some.injEq] <;> rfl) trivial ?_
  by_cases h4 : l.length < 4
  · refine AW.iff true (by simp; omega) (fun _ => ?_) (fun h => by cases h)
    refine AW.st teOk [] (by simp [-Option.some.injEq] <;> rfl) trivial ?_
    refine AW.ret ⟨.inr rfl, _, Weak.le 2 _ (by simp <;> rfl) (.c nil_row), ?_⟩
    simp [decV, Dec, h4]
  refine AW.iff false (by simp; omega) (fun h => by cases h) (fun _ => AW.skip ?_)
  have hw := word4_range hb
  obtain ⟨n, hn⟩ : ∃ n, n = word4 l := ⟨_, rfl⟩
  refine AW.st teOk [.fz (.c (cU n))] (by simp [-Option.some.injEq] <;> rfl) ?_ ?_
  · rw [hn]; exact four_pure l hb (by omega)
  rw [← hn] at hw
  refine AW.seq ?_
  refine AW.st teOk [] (by simp [-Option.some.injEq] <;> rfl) trivial ?_
  by_cases hbig : n > 65536
  · refine AW.iff true (by simp [hbig]) (fun _ => ?_) (fun h => by cases h)
    refine AW.st teOk [] (by simp [-Option.some.injEq] <;> rfl) trivial ?_
    refine AW.ret ⟨.inr rfl, _, Weak.le 2 _ (by simp <;> rfl) (.c nil_row), ?_⟩
    simp [decV, Dec, h4, ← hn, hbig]
  refine AW.iff false (by simp; omega) (fun h => by cases h) (fun _ => AW.skip ?_)
  obtain ⟨e1, e2⟩ := dec_nums hw.1 (by omega)
  obtain ⟨q, rfl⟩ : ∃ q : Nat, n = q := ⟨n.toNat, by omega⟩
  obtain ⟨r, hr⟩ : ∃ r : Nat, r = 4 + q := ⟨_, rfl⟩
  have e3 : (4 : Int) + (q : Int) = (r : Int) := by omega
  rw [e3] at e1 e2
  refine AW.st teOk [] (by simp [e1, -Option.some.injEq] <;> rfl) trivial ?_
  refine AW.seq ?_
  refine AW.st teOk [] (by simp [e2, -Option.some.injEq] <;> rfl) trivial ?_
  by_cases hshort : (l.length : Int) < q + 8
  · refine AW.iff true (by simp [hshort]) (fun _ => ?_) (fun h => by cases h)
    refine AW.st teOk [] (by simp [-Option.some.injEq] <;> rfl) trivial ?_
    refine AW.ret ⟨.inr rfl, _, Weak.le 2 _ (by simp <;> rfl) (.c nil_row), ?_⟩
    simp [decV, Dec, h4, ← hn, hbig, hshort]
  refine AW.iff false (by simp; omega) (fun h => by cases h) (fun _ => AW.skip ?_)
  refine AW.seq ?_
  obtain ⟨x, hx⟩ : ∃ x, x = word4 (l.drop r) := ⟨_, rfl⟩
  obtain ⟨y, hy⟩ : ∃ y, y = ((sumN (l.take r) : Nat) : Int) := ⟨_, rfl⟩
  have p1 := four_pure (l.drop r) (hb.drop r) (by rw [List.length_drop]; omega)
  have p2 := rsum_pure (l.take r) (hb.take r) (by rw [List.length_take]; omega)
  rw [← hx] at p1
  rw [← hy] at p2
  rw [encB, List.map_drop] at p1
  rw [encB, List.map_take] at p2
  refine AW.dr mixed teOk [.c (cU x), .c (cU y)] (by simp [-Option.some.injEq] <;> rfl) (by kernel_rfl) (by kernel_rfl) ?_ ?_
  · simp [allP]
    exact ⟨by omega, p1, by omega, p2⟩
  by_cases hxy : x = y
  · refine AW.iff false (by simp [hxy]) (fun h => by cases h) (fun _ => AW.skip ?_)
    obtain ⟨z, hz⟩ : ∃ z, z = (l.take r).drop 4 := ⟨_, rfl⟩
    have hzl : z.length ≤ l.length := by rw [hz, List.length_drop, List.length_take]; omega
    have hcut : ((l.map encb).take r).drop 4 = z.map encb := by rw [hz, enc_take, enc_drop]
    have hd : Dec l = (z, (q : Int) + 8, 0) := by
      unfold Dec
      rw [if_neg h4, ← hn, if_neg hbig, if_neg hshort, Int.toNat_natCast, ← hr, if_pos (by rw [← hx, ← hy, hxy]), ← hz]
    refine AW.st teOk [] (by simp [e2, hcut, -Option.some.injEq] <;> rfl) ?_ ?_
    · simp [growOk]; omega
    refine AW.ret ⟨.inr rfl, _, Weak.frzT 2 [] _ (by simp <;> exact ⟨rfl, rfl, rfl⟩) (by simp <;> rfl) (flat_encb z), ?_⟩
    simp [decV, hd]
  · refine AW.iff true (by simp [hxy]) (fun _ => ?_) (fun h => by cases h)
    refine AW.st teOk [] (by simp [-Option.some.injEq] <;> rfl) trivial ?_
    refine AW.ret ⟨.inr rfl, _, Weak.le 2 _ (by simp <;> rfl) (.c nil_row), ?_⟩
    have hd : Dec l = ([], 0, 4) := by
      unfold Dec
      rw [if_neg h4, ← hn, if_neg hbig, if_neg hshort, Int.toNat_natCast, ← hr, if_neg (by rw [← hx, ← hy]; exact hxy)]
    simp [decV, hd]
end Go.Proofs.Ytopcklnnkpjanaa.Abs
