/- VectorWith. -/
import Derived.Test.YtopcklnnkpjanaaWWith3
namespace Go.Proofs.Ytopcklnnkpjanaa.Abs
open Go Go.RowKit
set_option linter.unusedVariables false
set_option linter.unusedSimpArgs false
set_option maxHeartbeats 4000000
theorem awake3_pure : Pure Try.prog 39 [] (.c (cB true)) := by
  refine pure_of teOk Try.func39 (by kernel_rfl) (c := _) rfl (N := 47) rfl (rs := [Go.ResultVar.tmp 0]) rfl (by simp) fun base A w0 hA => ?_
  refine AW.st teOk [] (by simp [-Option.some.injEq] <;> rfl) trivial ?_
  refine AW.st teOk [] (by simp [-Option.some.injEq] <;> rfl) trivial ?_
  have m1 : mergeI true [(1, 2), (3, 1)] [(1, 1), (2, 5)] = [(1, 2), (2, 5), (3, 1)] := by simp [mergeI, consP, boundI]
  have m2 : mergeI false [(1, 2), (3, 1)] [(1, 1), (2, 5)] = [(1, 1)] := by simp [mergeI, consP, boundI]
  have aA : Asc [((1 : Int), (2 : Int)), (3, 1)] := by simp [Asc]
  have aB : Asc [((1 : Int), (1 : Int)), (2, 5)] := by simp [Asc]
  refine AW.to (s2 := ⟨[(1, .c (encV [(1, 2), (3, 1)])), (2, .c (encV [(1, 1), (2, 5)]))], [], 0⟩) (((Weak.le 1 _ (by simp <;> rfl) (.c (LeC.loose 2 true _))).trans (Weak.le 2 _ (by simp <;> rfl) (.c (LeC.loose 2 true _)))).trans (Weak.normT hA [1, 2] [] [] 0 _ (by simp) (by simp) (by simp))) (by simp) ?_
  refine AW.st teOk [.fz (.c (encV [(1, 2), (2, 5), (3, 1)])), .fz (.c (encV [(1, 1)]))] (by simp [-Option.some.injEq] <;> rfl) ?_ ?_
  · have h1 := join_pure [(1, 2), (3, 1)] [(1, 1), (2, 5)] (by simp)
    have h2 := meet_pure [(1, 2), (3, 1)] [(1, 1), (2, 5)] (by simp)
    rw [m1] at h1
    rw [m2] at h2
    exact ⟨h1, h2⟩
  refine AW.st teOk [.fz (.c (cI 8)), .fz (.c (cI 1)), .fz (.c (cI 3)), .fz (.c (cI 9)), .fz (.c (cI 1)), .fz (.c (cB true))] (by simp [-Option.some.injEq] <;> rfl) ?_ ?_
  · have s1 := size_pure [(1, 2), (2, 5), (3, 1)] (by simp) (by simp)
    have s2 := size_pure [(1, 1)] (by simp) (by simp)
    have s3 := compare_no [(1, 2), (3, 1)] [(1, 1), (2, 5)] aA aB (by simp) (by simp) (equalV_no (1, 2) (1, 1) [(3, 1)] [(2, 5)] rfl (by decide)) (by decide) (by decide)
    have s4 := validV_zero.le (.cons (.c (LeC.loose 2 true [[cI 0, cI 0]])) .nil) (.refl _)
    have s5 := get_pure [(1, 2), (3, 1)] 3 aA (by simp)
    have s6 := le_pure [(1, 1)] [(1, 2), (3, 1)] aA (by simp) (by simp)
    exact ⟨s1, s2, s3, s4, s5, s6⟩
  refine AW.ret ⟨.inr rfl, _, Weak.refl _, ?_⟩
  simp
theorem vwith_pure (v : V2) (a c o : Int) {p q r s : Prop} (_ : v.length ≤ 9223372036854775807 ∧ p) (_ : q) (_ : r) (_ : s) : Pure Try.prog 10 [.c (encV v), .c (cI a), .c (cI c), .c (cI o)] (.c (cB true)) := by
  refine pure_of teOk Try.func10 (by kernel_rfl) (c := _) rfl (N := 73) rfl (rs := [Go.ResultVar.tmp 8]) rfl (by simp) fun base A w0 hA => ?_
  refine AW.st teOk [] (by simp [-Option.some.injEq] <;> rfl) trivial ?_
  obtain ⟨g, hok⟩ : ∃ g, okJ v = g := ⟨_, rfl⟩
  have hvp := valid3_pure [v] (by simp)
  rw [List.all_cons, List.all_nil, Bool.and_true, hok] at hvp
  refine AW.seq ?_
  refine AW.st teOk [.fz (.c (cB g))] (by simp [-Option.some.injEq] <;> rfl) ?_ ?_
  · exact hvp.le (.cons (.c (LeC.loose 1 true _)) .nil) (.refl _)
  cases g with
  | false =>
    refine AW.iff true (by simp) (fun _ => ?_) (fun h => by cases h)
    refine AW.st teOk [.fz (.c (cB true))] (by simp [-Option.some.injEq] <;> rfl) ?_ ?_
    · exact awake3_pure
    refine AW.ret ⟨.inr rfl, _, Weak.refl _, ?_⟩
    simp
  | true =>
    obtain ⟨h40, hv⟩ := okJ_val hok
    refine AW.iff false (by simp) (fun h => by cases h) (fun _ => AW.skip ?_)
    obtain ⟨hw, hwl, hwc⟩ := withS_facts hv a c
    have hwp := with_pure v a c hv.2 (by omega)
    have hrw : Pure Try.prog 41 [.c (encV v), .c (cI a), .c (cI c)] (.c (encV (withS v a c))) := by
      by_cases hb : a < 1 ∨ c < 0 ∨ c > 1000000
      · have : withS v a c = v := if_pos hb
        rw [this]
        exact rwith_bad v a c hb
      · rw [withS_eq hv.2 hb]
        exact rwith_pure v a c (by omega) (by omega) (by omega) (by omega)
    obtain ⟨w, hww⟩ : ∃ w, w = withS v a c := ⟨_, rfl⟩
    rw [← hww] at hw hwl hwc hwp hrw
    refine AW.st teOk [.fz (.c (encV w))] (by simp [-Option.some.injEq] <;> rfl) ?_ ?_
    · exact hwp
    have g1 := eqVec_pure w w (by omega)
    rw [decide_eq_true rfl] at g1
    have g2 := val_pure w (by omega)
    rw [valI_zero hw] at g2
    have g3 := get_pure v o hv.2 (by omega)
    have g4 := rcount_pure v o (by omega)
    refine AW.seq ?_
    refine AW.st teOk [.fz (.c (encV w)), .fz (.c (cB true)), .fz (.c (cI 0)), .fz (.c (cI (countI v o))), .fz (.c (cI (countI v o)))] (by simp [-Option.some.injEq] <;> rfl) ?_ ?_
    · exact ⟨hrw, g1, g2, g3, g4⟩
    refine AW.iff false (by simp) (fun h => by cases h) (fun _ => AW.skip ?_)
    refine AW.mid (fun s => ¬ (a < 1 ∨ c < 0 ∨ c > 1000000) ∧ s = ⟨[(0, .c (encV v)), (1, .c (cI a)), (2, .c (cI c)), (3, .c (cI o)), (9, .c (encV w))], [], 0⟩) ?_ ?_
    · by_cases hb : a < 1 ∨ c < 0 ∨ c > 1000000
      · by_cases h1 : a < 1
        · refine AW.st teOk [] (by simp [h1, -Option.some.injEq] <;> rfl) trivial ?_
          refine AW.iff true (by simp) (fun _ => ?_) (fun h => by cases h)
          refine AW.st teOk [.fz (.c (cB true))] (by simp [-Option.some.injEq] <;> rfl) ?_ ?_
          · exact awake3_pure
          refine AW.ret ⟨.inr rfl, _, Weak.refl _, ?_⟩
          simp
        · by_cases h2 : c < 0
          · refine AW.st teOk [] (by simp [h1, h2, -Option.some.injEq] <;> rfl) trivial ?_
            refine AW.iff true (by simp) (fun _ => ?_) (fun h => by cases h)
            refine AW.st teOk [.fz (.c (cB true))] (by simp [-Option.some.injEq] <;> rfl) ?_ ?_
            · exact awake3_pure
            refine AW.ret ⟨.inr rfl, _, Weak.refl _, ?_⟩
            simp
          · have h3 : c > 1000000 := by omega
            refine AW.st teOk [] (by simp [h1, h2, h3, -Option.some.injEq] <;> rfl) trivial ?_
            refine AW.iff true (by simp) (fun _ => ?_) (fun h => by cases h)
            refine AW.st teOk [.fz (.c (cB true))] (by simp [-Option.some.injEq] <;> rfl) ?_ ?_
            · exact awake3_pure
            refine AW.ret ⟨.inr rfl, _, Weak.refl _, ?_⟩
            simp
      · have h1 : ¬ a < 1 := by omega
        have h2 : ¬ c < 0 := by omega
        have h3 : ¬ c > 1000000 := by omega
        refine AW.st teOk [] (by simp [h1, h2, h3, -Option.some.injEq] <;> rfl) trivial ?_
        exact AW.iff false (by simp) (fun h => by cases h) (fun _ => AW.skip ⟨_, Weak.normT hA [0, 1, 2, 3, 9] [] [] 0 _ (by simp) (by simp) (by simp), hb, by simp⟩)
    rintro s ⟨hb, rfl⟩
    have hcw := hwc hb
    have e1 : countI w a = c := by rw [count_cnt, hcw, if_pos rfl]
    have p1 := get_pure w a hw.2 (by omega)
    rw [e1] at p1
    by_cases hoa : o = a
    · refine AW.st teOk [.fz (.c (cI c)), .fz (.c (cB true))] (by simp [hoa, -Option.some.injEq] <;> rfl) ?_ ?_
      · exact ⟨p1, awake3_pure⟩
      refine AW.ret ⟨.inr rfl, _, Weak.refl _, ?_⟩
      simp
    · have e2 : countI w o = countI v o := by rw [count_cnt, hcw, if_neg hoa, count_cnt]
      have p2 := get_pure w o hw.2 (by omega)
      rw [e2] at p2
      have hoa' : (o == a) = false := by simpa using hoa
      refine AW.st teOk [.fz (.c (cI c)), .fz (.c (cI (countI v o))), .fz (.c (cI (countI v o))), .fz (.c (cB true))] (by simp [hoa, hoa', -Option.some.injEq] <;> rfl) ?_ ?_
      · exact ⟨p1, p2, g3, awake3_pure⟩
      refine AW.ret ⟨.inr rfl, _, Weak.refl _, ?_⟩
      simp
end Go.Proofs.Ytopcklnnkpjanaa.Abs
