/- Lists of numbers in order: searched, cloned, one more put in. -/
import Derived.Test.YtopcklnnkpjanaaWSrch
namespace Go.Proofs.Ytopcklnnkpjanaa.Abs
open Go Go.RowKit
set_option linter.unusedVariables false
set_option linter.unusedSimpArgs false
set_option maxHeartbeats 4000000
@[simp] def encn (n : Int) : List Cell := [cI n]
abbrev encIs (l : List Int) : Cell := .row 1 false (l.map encn)
@[simp] theorem flat_encn (l : List Int) : flatO ⟨1, l.map encn⟩ = true := flatO_of fun e he => by
  obtain ⟨x, _, rfl⟩ := List.mem_map.1 he
  rfl
def AscN (l : List Int) : Prop := l.Pairwise (· < ·)
def posN (l : List Int) (a : Int) : Nat := l.countP fun x => decide (x < a)
def hasN (l : List Int) (a : Int) : Bool := l.any fun x => decide (x = a)
theorem posN_split {v : List Int} (hv : AscN v) (a : Int) {i : Nat} {e : Int} (he : v[i]? = some e) : (e < a → i + 1 ≤ posN v a) ∧ (¬ e < a → posN v a ≤ i) := by
  have h1 : Asc (v.map fun x => (x, (0 : Int))) := by
    unfold Asc
    rw [List.pairwise_map]
    exact hv
  have h2 := pos_split h1 a (i := i) (e := (e, 0)) (by rw [List.getElem?_map, he]; rfl)
  have h3 : posI (v.map fun x => (x, (0 : Int))) a = posN v a := by
    unfold posI posN
    rw [List.countP_map]
    rfl
  rw [h3] at h2
  exact h2
theorem hasN_pos {v : List Int} (hv : AscN v) (a : Int) : hasN v a = (v[posN v a]?.any fun e => decide (e = a)) := by
  have h1 : Asc (v.map fun x => (x, (0 : Int))) := by
    unfold Asc
    rw [List.pairwise_map]
    exact hv
  have h2 := has_pos h1 a
  have h3 : posI (v.map fun x => (x, (0 : Int))) a = posN v a := by
    unfold posI posN
    rw [List.countP_map]
    rfl
  rw [h3, List.getElem?_map] at h2
  unfold hasI at h2
  rw [List.any_map] at h2
  unfold hasN
  rw [show (v.any fun x => decide (x = a)) = v.any ((fun x : E2 => decide (x.1 = a)) ∘ fun x => (x, (0 : Int))) from rfl, h2]
  cases v[posN v a]? <;> rfl
/-- One more number, in its place. -/
def insN (l : List Int) (a : Int) : List Int := if hasN l a = true then l else l.take (posN l a) ++ a :: l.drop (posN l a)
theorem sisNaN_pure (x : Int) : Pure Try.prog 104 [.c (cI x)] (.c (cB false)) := by
  refine pure_of teOk Try.func104 (by kernel_rfl) (c := _) rfl (N := 6) rfl (rs := [Go.ResultVar.tmp 2]) rfl (by simp) fun base A w0 hA => ?_
  refine AW.st teOk [] (by simp [-Option.some.injEq] <;> rfl) trivial ?_
  refine AW.st teOk [] (by simp [-Option.some.injEq] <;> rfl) trivial ?_
  refine AW.ret ⟨.inr rfl, _, Weak.refl _, ?_⟩
  simp
theorem less_pure (x y : Int) : Pure Try.prog 103 [.c (cI x), .c (cI y)] (.c (cB (decide (x < y)))) := by
  refine pure_of teOk Try.func103 (by kernel_rfl) (c := _) rfl (N := 17) rfl (rs := [Go.ResultVar.tmp 4]) rfl (by simp) fun base A w0 hA => ?_
  refine AW.st teOk [] (by simp [-Option.some.injEq] <;> rfl) trivial ?_
  refine AW.st teOk [.fz (.c (cB false))] (by simp [-Option.some.injEq] <;> rfl) ?_ ?_
  · exact isNaN_pure x
  refine AW.ret ⟨.inr rfl, _, Weak.refl _, ?_⟩
  simp
theorem cloneN_pure (l : List Int) (hb : l.length < 1000000000000) : Pure Try.prog 102 [.c (encIs l)] (.c (encIs l)) := by
  refine pure_of teOk Try.func102 (by kernel_rfl) (c := _) rfl (N := 8) rfl (rs := [Go.ResultVar.tmp 2]) rfl (by simp) fun base A w0 hA => ?_
  refine AW.st teOk [] (by simp [-Option.some.injEq] <;> rfl) trivial ?_
  refine AW.mid (fun s => s = ⟨[(0, .c (encIs l))], [], 0⟩) ?_ ?_
  · by_cases he : l = []
    · subst he
      refine AW.st teOk [] (by simp [-Option.some.injEq] <;> rfl) trivial ?_
      refine AW.either (by simp) ?_ (AW.skip ⟨_, Weak.normT hA [0] [] [] 0 _ (by simp) (by simp) (by simp), by simp⟩)
      refine AW.st teOk [] (by simp [-Option.some.injEq] <;> rfl) trivial ?_
      refine AW.ret ⟨.inr rfl, _, Weak.le 2 _ (by simp <;> rfl) (.c (LeC.nil 1)), ?_⟩
      simp
    · refine AW.st teOk [] (by simp [he, -Option.some.injEq] <;> rfl) trivial ?_
      refine AW.iff false (by simp) (fun h => by cases h) fun _ => AW.skip ⟨_, Weak.normT hA [0] [] [] 0 _ (by simp) (by simp) (by simp), by simp⟩
  · rintro s rfl
    refine AW.st teOk [] (by simp [-Option.some.injEq] <;> rfl) ?_ ?_
    · simp [growOk]
      omega
    refine AW.ret ⟨.inr rfl, _, Weak.frzT 2 [] _ (by simp; exact ⟨rfl, rfl, rfl⟩) (by simp <;> rfl) (flat_encn l), ?_⟩
    simp
theorem bsN_pure (v : List Int) (a : Int) (hv : AscN v) (hl : v.length < 1000000000000) : Pure Try.prog 77 [.c (encIs v), .c (cI a)] (.tup [.c (cI (posN v a)), .c (cB (hasN v a))]) := by
  refine pure_of teOk Try.func77 (by kernel_rfl) (c := _) rfl (N := 54) rfl (rs := [Go.ResultVar.tmp 4, Go.ResultVar.tmp 5]) rfl (by simp) fun base A w0 hA => ?_
  refine AW.st teOk [] (by simp [-Option.some.injEq] <;> rfl) trivial ?_
  refine AW.st teOk [] (by simp [-Option.some.injEq] <;> rfl) trivial ?_
  refine AW.st teOk [] (by simp [-Option.some.injEq] <;> rfl) trivial ?_
  refine AW.seq (AW.block (AW.loop (fun m s => ∃ i j : Nat, m = j - i ∧ i ≤ posN v a ∧ posN v a ≤ j ∧ j ≤ v.length ∧ s = ⟨[(0, .c (encIs v)), (1, .c (cI a)), (6, .c (cI v.length)), (7, .c (cI i)), (8, .c (cI j))], [], 0⟩) _ (Weak.normT hA [0, 1, 6, 7, 8] [] [] 0 _ (by simp) (by simp) (by simp)) ⟨0, v.length, rfl, Nat.zero_le _, List.countP_le_length, Nat.le_refl _, by simp⟩ ?_))
  rintro m s ⟨i, j, rfl, hi, hj, hjl, rfl⟩
  refine AW.seq ?_
  refine AW.st teOk [] (by simp [-Option.some.injEq] <;> rfl) trivial ?_
  refine AW.iff (decide (i < j)) (by simp) (fun h => AW.skip ?_) (fun h => AW.exit (x_then (x_then (blockA_exit ?_))))
  · rw [decide_eq_true_eq] at h
    refine AW.block ?_
    obtain ⟨q, hq⟩ : ∃ q, q = (i + j) / 2 := ⟨_, rfl⟩
    have hmid := mid_s i j v.length (by omega) hjl hl
    rw [← hq] at hmid
    refine AW.st teOk [] (by simp [hmid, -Option.some.injEq] <;> rfl) trivial ?_
    have hm : q < v.length := by omega
    obtain ⟨e, he⟩ : ∃ e, v[q]? = some e := ⟨_, List.getElem?_eq_getElem hm⟩
    have hps := posN_split hv a he
    refine AW.st teOk [.fz (.c (cB (decide (e < a))))] (by simp [he, -Option.some.injEq] <;> rfl) ?_ ?_
    · exact ⟨by omega, less_pure e a⟩
    by_cases hc : e < a
    · refine AW.iff true (by simp [hc]) (fun _ => ?_) (fun h => by cases h)
      refine AW.text teOk (ans := []) (by simp [-Option.some.injEq] <;> rfl) ?_ ?_
      · trivial
      refine ⟨_, _, Weak.normT hA [0, 1, 6, 7, 8] [] [] 0 _ (by simp) (by simp) (by simp), ?_, q + 1, j, rfl, hps.1 hc, hj, hjl, ?_⟩
      · omega
      · simp
        exact wrap_s q (by omega)
    · refine AW.iff false (by simp; omega) (fun h => by cases h) (fun _ => ?_)
      refine AW.text teOk (ans := []) (by simp [-Option.some.injEq] <;> rfl) ?_ ?_
      · trivial
      refine ⟨_, _, Weak.normT hA [0, 1, 6, 7, 8] [] [] 0 _ (by simp) (by simp) (by simp), ?_, i, q, rfl, hi, hps.2 hc, by omega, by simp⟩
      omega
  · rw [decide_eq_false_iff_not] at h
    have hij : i = posN v a := by omega
    subst hij
    have hhas := hasN_pos hv a
    by_cases hp : posN v a < v.length
    · obtain ⟨e, he⟩ : ∃ e, v[posN v a]? = some e := ⟨_, List.getElem?_eq_getElem hp⟩
      rw [he] at hhas
      have hd : decide (posN v a < v.length) = true := by simpa using hp
      by_cases hea : e = a
      · subst hea
        refine AW.st teOk [] (by simp [he, hd, -Option.some.injEq] <;> rfl) ?_ ?_
        · omega
        refine AW.ret ⟨.inr rfl, _, Weak.refl _, ?_⟩
        simp [hhas]
      · have hea' : (e == a) = false := by simpa using hea
        refine AW.st teOk [.fz (.c (cB false))] (by simp [he, hd, hea', -Option.some.injEq] <;> rfl) ?_ ?_
        · exact ⟨by omega, sisNaN_pure e⟩
        refine AW.ret ⟨.inr rfl, _, Weak.refl _, ?_⟩
        simp [hhas, hea]
    · have hd : decide (posN v a < v.length) = false := by simpa using hp
      refine AW.st teOk [] (by simp [hd, -Option.some.injEq] <;> rfl) trivial ?_
      refine AW.ret ⟨.inr rfl, _, Weak.refl _, ?_⟩
      rw [List.getElem?_eq_none (by omega)] at hhas
      simp [hhas]
end Go.Proofs.Ytopcklnnkpjanaa.Abs
