/- Frames: appending. -/
import Derived.Test.YtopcklnnkpjanaaWFeed2
namespace Go.Proofs.Ytopcklnnkpjanaa.Abs
open Go Go.RowKit Fr
set_option linter.unusedVariables false
set_option linter.unusedSimpArgs false
set_option maxHeartbeats 4000000
theorem drop_rest : ∀ {rest : Sig} (_ : ∀ i, (look i rest).isSome = true → i < LIM) (k : Nat) (_ : 1000000 ≤ k), drop k rest = rest
  | [], _, _, _ => rfl
  | (t, o) :: r, h, k, hk => by
    have h1 := h t (by simp [look])
    have hr : ∀ i, (look i r).isSome = true → i < LIM := fun i hi => h i (by
      rw [look]
      split
      · rfl
      · exact hi)
    unfold drop
    rw [if_neg (by unfold LIM at h1; omega), drop_rest hr k hk]
theorem word_b (n : Int) (h0 : 0 ≤ n) : IntKind.u8.wrap (n.fdiv (2 ^ min 24 IntKind.u32.bits)) = (n / 16777216) % 256 ∧ IntKind.u8.wrap (n.fdiv (2 ^ min 16 IntKind.u32.bits)) = (n / 65536) % 256 ∧ IntKind.u8.wrap (n.fdiv (2 ^ min 8 IntKind.u32.bits)) = (n / 256) % 256 ∧ IntKind.u8.wrap n = n % 256 := by
  have e1 : (2 : Int) ^ min 24 IntKind.u32.bits = 16777216 := rfl
  have e2 : (2 : Int) ^ min 16 IntKind.u32.bits = 65536 := rfl
  have e3 : (2 : Int) ^ min 8 IntKind.u32.bits = 256 := rfl
  rw [e1, e2, e3]
  simp only [IntKind.wrap_u8, Int.fdiv_eq_ediv_of_nonneg _ (show (0 : Int) ≤ 16777216 by decide), Int.fdiv_eq_ediv_of_nonneg _ (show (0 : Int) ≤ 65536 by decide), Int.fdiv_eq_ediv_of_nonneg _ (show (0 : Int) ≤ 256 by decide), and_self]
theorem word_new (n : Int) (h0 : 0 ≤ n) : New Try.prog 71 [.c (.sc (.slice none 0 0)), .c (cU n)] (.c (.ref 0 0 4)) [(0, ⟨1, (be4 n).map encb⟩)] 1 := by
  refine new_of teOk Try.func71 (by kernel_rfl) (c := _) rfl (N := 19) rfl (rs := [Go.ResultVar.tmp 4]) rfl (by simp) fun base A w0 hA => ?_
  obtain ⟨w1, w2, w3, w4⟩ := word_b n h0
  refine AW.st teOk [] (by simp [-Option.some.injEq] <;> rfl) trivial ?_
  refine AW.st teOk [] (by simp [w1, w2, w3, w4, -Option.some.injEq] <;> rfl) ?_ ?_
  · simp [growOk]
  refine AW.ret ⟨.inr rfl, _, Weak.normT hA [4] [(4, 0)] [] 1 _ (by simp) (by simp) (by simp [flatO]), ?_⟩
  simp [be4]
theorem word_con (n : Int) (h0 : 0 ≤ n) (l : List Int) (hl : l.length < 1000000000000) : Con Try.prog 71 [.c (.ref 1000000 0 l.length), .c (cU n)] [(1000000, ⟨1, l.map encb⟩)] 1000003 (.c (.ref 1000017 0 (l.length + 4))) [(1000017, ⟨1, (l ++ be4 n).map encb⟩)] 1000019 := by
  refine con_of teOk Try.func71 (by kernel_rfl) (c := _) rfl (N := 19) rfl (rs := [Go.ResultVar.tmp 4]) rfl (by simp) fun base A w0 rest hrest hA => ?_
  have hdr := fun k hk => drop_rest hrest k hk
  obtain ⟨w1, w2, w3, w4⟩ := word_b n h0
  refine AW.st teOk [] (by simp [-Option.some.injEq] <;> rfl) trivial ?_
  refine AW.st teOk [] (by simp [w1, w2, w3, w4, hdr, -Option.some.injEq] <;> rfl) ?_ ?_
  · simp [growOk]
    omega
  refine AW.ret ⟨.inr rfl, _, Weak.refl _, ?_⟩
  simp [be4, hdr]
theorem u32_len (n : Nat) (h : n ≤ 65536) : IntKind.u32.wrap (n : Int) = n := by rw [IntKind.wrap_u32]; omega
/-- What appending a payload answers. -/
def appV (dst p : List Int) : AVal := if 65536 < p.length then .tup [.c (encB []), .c (cI 3)] else .tup [.c (encB (dst ++ frm p)), .c (cI 0)]
theorem append_pure (dst p : List Int) (hbp : Bytes p) (hd : dst.length < 100000000000) : Pure Try.prog 26 [.c (encB dst), .c (encB p)] (appV dst p) := by
  refine pure_le teOk Try.func26 (by kernel_rfl) (c := _) rfl (N := 25) rfl (rs := [Go.ResultVar.tmp 4, Go.ResultVar.tmp 5]) rfl (by simp) fun base A w0 hA => ?_
  refine AW.st teOk [] (by simp [-Option.some.injEq] <;> rfl) trivial ?_
  refine AW.seq ?_
  refine AW.st teOk [] (by simp [-Option.some.injEq] <;> rfl) trivial ?_
  by_cases hp : 65536 < p.length
  · refine AW.iff true (by simp; omega) (fun _ => ?_) (fun h => by cases h)
    refine AW.st teOk [] (by simp [-Option.some.injEq] <;> rfl) trivial ?_
    refine AW.ret ⟨.inr rfl, _, _, Weak.refl _, by simp <;> rfl, ?_⟩
    rw [appV, if_pos hp]
    exact .tups (.cons (.c nil_row) (.cons (.refl _) .nil))
  refine AW.iff false (by simp; omega) (fun h => by cases h) (fun _ => AW.skip ?_)
  have hu := u32_len p.length (by omega)
  refine AW.weak (Weak.normT hA [0, 1] [] [] 1000000 _ (by simp) (by simp) (by simp)) ?_
  refine AW.st teOk [.new (.c (.ref 0 0 4)) [(0, ⟨1, (be4 p.length).map encb⟩)] 1] (by simp [hu, -Option.some.injEq] <;> rfl) ?_ ?_
  · exact word_new p.length (by omega)
  obtain ⟨w, hw⟩ : ∃ w, w = be4 (p.length : Int) ++ p := ⟨_, rfl⟩
  have hbw : Bytes w := hw ▸ (be4_bytes _).append hbp
  have hwl : w.length = 4 + p.length := by rw [hw]; simp [be4]; omega
  have hfl : flatO ⟨1, (be4 (p.length : Int)).map encb⟩ = true := flat_encb _
  refine AW.mid (fun s => s = ⟨[(0, .c (encB dst)), (6, .c (.ref 1000000 0 w.length))], [(1000000, ⟨1, w.map encb⟩)], 1000001⟩) ?_ ?_
  · by_cases hp0 : p = []
    · subst hp0
      refine AW.text teOk (ans := []) (by simp [-Option.some.injEq] <;> rfl) ?_ ?_
      · trivial
      exact ⟨_, Weak.normT hA [0, 6] [(6, 1000000)] [] 1000001 _ (by simp) (by simp) (by simp), by rw [hwl]; simp [hw]⟩
    · refine AW.text teOk (ans := []) (by simp [hp0, -Option.some.injEq] <;> rfl) ?_ ?_
      · simp [growOk, be4]
        omega
      exact ⟨_, Weak.normT hA [0, 6] [(6, 1000000)] [] 1000001 _ (by simp) (by simp) (by simp), by rw [hwl]; simp [hw]⟩
  rintro s rfl
  have hs := sumN_lt w
  have hfw : w ++ be4 ((sumN w : Nat) : Int) = frm p := by rw [hw]; rfl
  obtain ⟨q, hq⟩ : ∃ q, q = sumN w := ⟨_, rfl⟩
  rw [← hq] at hs hfw
  have pw := word_con (q : Int) (by omega) w (by omega)
  rw [hfw] at pw
  refine AW.st teOk [.rd (.c (cU q)), .own (.c (.ref 1000017 0 (w.length + 4))) [(1000017, ⟨1, (frm p).map encb⟩)] 1000019] (by simp [-Option.some.injEq] <;> rfl) ?_ ?_
  · have ps := sum_pure w hbw (by omega)
    rw [← hq] at ps
    have ht : (w.map encb).take w.length = w.map encb := by simp
    exact ⟨⟨⟨flat_encb w, trivial⟩, ps⟩, pw⟩
  have hfl2 : (frm p).length = w.length + 4 := by rw [frm_length, hwl]; omega
  rw [appV, if_neg hp, ← hfl2]
  have hfb : (frm p).length < 1000000 := by omega
  generalize frm p = f at *
  refine AW.to (s2 := ⟨[(0, .c (encB dst)), (6, .c (encB f))], [], 0⟩) ((Weak.frzT 6 [] _ (by simp <;> exact ⟨rfl, rfl, rfl⟩) (by simp <;> rfl) (by simp)).trans (Weak.normT hA [0, 6] [] [] 0 _ (by simp) (by simp) (by simp))) (by simp) ?_
  obtain ⟨df, hdf⟩ : ∃ x, x = dst ++ f := ⟨_, rfl⟩
  rw [← hdf]
  refine AW.st teOk [.fz (.c (encB df))] (by simp [-Option.some.injEq] <;> rfl) ?_ ?_
  · have := concatB_pure [dst, f] (by simp) (by simp; omega)
    rw [hdf]
    simpa using this
  refine AW.ret ⟨.inr rfl, _, _, Weak.refl _, by simp <;> rfl, ?_⟩
  exact .refl _
end Go.Proofs.Ytopcklnnkpjanaa.Abs
