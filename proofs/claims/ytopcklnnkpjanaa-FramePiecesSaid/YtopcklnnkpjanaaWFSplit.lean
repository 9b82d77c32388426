/- FrameSplit. -/
import Derived.Test.YtopcklnnkpjanaaWFLaw
namespace Go.Proofs.Ytopcklnnkpjanaa.Abs
open Go Go.RowKit Fr
set_option linter.unusedVariables false
set_option linter.unusedSimpArgs false
set_option maxHeartbeats 4000000
theorem le_nilSp : LeV (.agg [.sc (.slice none 0 0), cI 0]) (encSp ([], 0)) := leSp 0
theorem fsplit_law (b : List Int) (cut : Int) (hw0 : b.length ≤ 9223372036854775807 ∧ ∀ x ∈ b, (Lit.int .u8 x).wf = true) (hw1 : (Lit.int .u16 cut).wf = true) : Pure Try.prog 6 [.c (encB b), .c (.sc (.int .u16 cut))] (.c (cB true)) := by
  have hb : Bytes b := Bytes.of hw0.2
  have hc := wf_u16 hw1
  refine pure_of teOk Try.func6 (by kernel_rfl) (c := _) rfl (N := 72) rfl (rs := [Go.ResultVar.tmp 4]) rfl (by simp) fun base A w0 hA => ?_
  refine AW.st teOk [] (by simp [-Option.some.injEq] <;> rfl) trivial ?_
  refine AW.seq ?_
  refine AW.st teOk [] (by simp [-Option.some.injEq] <;> rfl) trivial ?_
  by_cases h1 : b.length > 500
  · refine AW.iff true (by simp; omega) (fun _ => ?_) (fun h => by cases h)
    refine AW.st teOk [.fz (.c (cB true))] (by simp [-Option.some.injEq] <;> rfl) ?_ ?_
    · exact awake02_pure
    refine AW.ret ⟨.inr rfl, _, Weak.refl _, ?_⟩
    simp
  refine AW.iff false (by simp; omega) (fun h => by cases h) (fun _ => AW.skip ?_)
  refine AW.st teOk [] (by simp [-Option.some.injEq] <;> rfl) trivial ?_
  refine AW.mid (fun s => ∃ n : Nat, n ≤ b.length ∧ s = ⟨[(0, .c (encB b)), (5, .c (cI n))], [], 0⟩) ?_ ?_
  · refine AW.st teOk [] (by simp [-Option.some.injEq] <;> rfl) trivial ?_
    by_cases h0 : b = []
    · subst h0
      refine AW.iff false (by simp) (fun h => by cases h) (fun _ => AW.skip ?_)
      exact ⟨_, Weak.normT hA [0, 5] [] [] 0 _ (by simp) (by simp) (by simp), 0, Nat.le_refl _, by simp⟩
    · have hpos : 0 < b.length := List.length_pos_iff.2 h0
      refine AW.iff true (by simp; omega) (fun _ => ?_) (fun h => by cases h)
      have hcw : IntKind.i64.wrap cut = cut := by rw [IntKind.wrap_i64]; omega
      have hrem : Int.tmod cut (b.length : Int) = ((cut.toNat % b.length : Nat) : Int) := by
        rw [Int.tmod_eq_emod_of_nonneg hc.1]
        obtain ⟨q, rfl⟩ : ∃ q : Nat, cut = q := ⟨cut.toNat, by omega⟩
        simp
      have hlt : cut.toNat % b.length < b.length := Nat.mod_lt _ hpos
      refine AW.text teOk (ans := []) (by simp [hcw, hrem, -Option.some.injEq] <;> rfl) ?_ ?_
      · omega
      exact ⟨_, Weak.normT hA [0, 5] [] [] 0 _ (by simp) (by simp) (by simp), cut.toNat % b.length, by omega, by simp⟩
  rintro s ⟨n, hn, rfl⟩
  have hta := hb.take n
  have hdr := hb.drop n
  have e0 : feedF [] 0 b = feedI b := rfl
  have e1 : feedF [] 0 (b.take n) = feedI (b.take n) := rfl
  have hsp := feed_split (b.drop n) hdr _ (b.take n) (Nat.le_refl _) hta
  rw [List.take_append_drop] at hsp
  have p0 := (feed_pure [] b 0 (by intro x hx; cases hx) hb (by simp) (by omega)).le (.cons le_nilSp (.cons (.refl _) .nil)) (.refl _)
  have p1 := (feed_pure [] (b.take n) 0 (by intro x hx; cases hx) hta (by simp) (by rw [List.length_take]; omega)).le (.cons le_nilSp (.cons (.refl _) .nil)) (.refl _)
  have f0 := feed_bytes _ b (Nat.le_refl _) hb
  have f1 := feed_bytes _ (b.take n) (Nat.le_refl _) hta
  rw [e0] at p0
  rw [e1] at p1
  obtain ⟨⟨⟨tb, te⟩, tl⟩, ht⟩ : ∃ r, r = feedI (b.take n) := ⟨_, rfl⟩
  rw [← ht] at p1 hsp f1
  dsimp only [encSp] at p1 hsp f1
  have hlt : (b.take n).length ≤ b.length := by rw [List.length_take]; omega
  have hld : (b.drop n).length ≤ b.length := by rw [List.length_drop]; omega
  have p2 := feed_pure tb (b.drop n) te f1.1 hdr (by omega) (by omega)
  have f2 := feedF_bytes te f1.1 hdr
  obtain ⟨⟨⟨ub, ue⟩, ul⟩, hu⟩ : ∃ r, r = feedF tb te (b.drop n) := ⟨_, rfl⟩
  rw [← hu] at p2 hsp f2
  dsimp only [encSp] at p2 hsp f2
  rw [hsp] at p0 f0
  dsimp only [encSp] at p0 f0
  rw [encB, List.map_take] at p1
  rw [show encB (b.drop n) = .row 1 false ((b.map encb).drop n) by rw [encB, List.map_drop]] at p2
  refine AW.st teOk [.fz (.tup [.agg [encB ub, cI ue], .c (encPs (tl ++ ul))])] (by simp [-Option.some.injEq] <;> rfl) ?_ ?_
  · exact p0
  refine AW.st teOk [.fz (.tup [.agg [encB tb, cI te], .c (encPs tl)])] (by simp [-Option.some.injEq] <;> rfl) ?_ ?_
  · exact ⟨by omega, p1⟩
  refine AW.dr mixed teOk [.tup [.agg [encB ub, cI ue], .c (encPs ul)]] (by simp [-Option.some.injEq] <;> rfl) (by kernel_rfl) (by kernel_rfl) ?_ ?_
  · simp [allP]
    exact ⟨by omega, p2⟩
  have hsame := same_pure (tl ++ ul) (tl ++ ul) f0.2.1 f0.2.1 (by omega)
  simp at hsame
  have hll : (tl ++ ul).length ≤ b.length := f0.2.2.2
  rw [List.length_append] at hll
  by_cases hu0 : ul = []
  · subst hu0
    refine AW.st teOk [.rd (.c (cB true)), .fz (.c (cB true))] (by simp [-Option.some.injEq] <;> rfl) ?_ ?_
    · simp [growOk]
      rw [List.append_nil] at hsame
      exact ⟨by omega, ⟨⟨trivial, flat_encP tl, trivial⟩, hsame⟩, awake02_pure⟩
    refine AW.ret ⟨.inr rfl, _, Weak.refl _, ?_⟩
    simp
  · have ht : (tl.map encP ++ ul.map encP).take (tl.length + ul.length) = tl.map encP ++ ul.map encP := List.take_of_length_le (by simp)
    refine AW.st teOk [.rd (.c (cB true)), .fz (.c (cB true))] (by simp [hu0, ht, -Option.some.injEq] <;> rfl) ?_ ?_
    · simp [growOk]
      refine ⟨by omega, by omega, ⟨⟨trivial, ?_, trivial⟩, ?_⟩, awake02_pure⟩
      · have := flat_encP (tl ++ ul)
        rw [List.map_append] at this
        exact this
      · rw [← List.map_append]
        exact hsame
    refine AW.ret ⟨.inr rfl, _, Weak.refl _, ?_⟩
    simp
end Go.Proofs.Ytopcklnnkpjanaa.Abs
