/- Joined for the claim: WPa WBase WPb WPc WNre -/
import Derived.Test.YtphlhadgcfndhaaGreatJd4
import Derived.Test.YtphlhadgcfndhaaGreatAbsS
section
namespace Go.Proofs.YtphlhadgcfndhaaGreat.Abs
open Go Go.RowKit
set_option linter.unusedVariables false
set_option linter.unusedSimpArgs false
set_option maxHeartbeats 4000000
set_option maxRecDepth 8000
theorem take_eq_s {α : Type} {a b : List α} {i : Nat} {x y : α} (h : a.take i = b.take i) (hx : a[i]? = some x) (hy : b[i]? = some y) : a.take (i + 1) = b.take (i + 1) ↔ x = y := by
  rw [List.take_add_one, List.take_add_one, h, hx, hy]
  simp
theorem eqSt_pure (a b : List Str) (hl : a.length < 1000000000) : Pure Tryz.prog 80 [.c (encSs a), .c (encSs b)] (.c (cB (decide (a = b)))) := by
  refine pure_of teOk Tryz.func80 (by kernel_rfl) (c := _) rfl (N := 26) rfl (rs := [Go.ResultVar.tmp 4]) rfl (by simp) fun base A w0 hA => ?_
  refine AW.st teOk [] (by simp [-Option.some.injEq] <;> rfl) trivial ?_
  refine AW.seq ?_
  refine AW.st teOk [] (by simp [-Option.some.injEq] <;> rfl) trivial ?_
  refine AW.iff ((a.length : Int) != (b.length : Int)) (by simp) (fun h => ?_) (fun h => AW.skip ?_)
  · refine AW.st teOk [] (by simp [-Option.some.injEq] <;> rfl) trivial ?_
    refine AW.ret ⟨.inr rfl, _, Weak.refl _, ?_⟩
    have h : a.length ≠ b.length := by
      simp at h
      omega
    have : a ≠ b := fun e => h (by rw [e])
    simp [this]
  have hab : a.length = b.length := by
    simp at h
    omega
  refine AW.seq ?_
  refine AW.st teOk [] (by simp [-Option.some.injEq] <;> rfl) trivial ?_
  refine AW.block (AW.loop (fun m s => ∃ i : Nat, m = a.length - i ∧ i ≤ a.length ∧ a.take i = b.take i ∧ s = ⟨[(0, .c (encSs a)), (1, .c (encSs b)), (4, .c (cB false)), (5, .c (cI i))], [], 0⟩) _ (Weak.normT hA [0, 1, 4, 5] [] [] 0 _ (by simp) (by simp) (by simp)) ⟨0, rfl, Nat.zero_le _, by simp, by simp⟩ ?_)
  rintro m s ⟨i, rfl, hi, ht, rfl⟩
  refine AW.seq ?_
  refine AW.st teOk [] (by simp [-Option.some.injEq] <;> rfl) trivial ?_
  refine AW.iff (decide (i < a.length)) (by simp) (fun h => AW.skip ?_) (fun h => AW.exit (x_then (x_then (blockA_exit ?_))))
  · rw [decide_eq_true_eq] at h
    obtain ⟨x, hx⟩ : ∃ e, a[i]? = some e := ⟨_, List.getElem?_eq_getElem h⟩
    obtain ⟨y, hy⟩ : ∃ e, b[i]? = some e := ⟨_, List.getElem?_eq_getElem (by omega)⟩
    refine AW.seq (AW.block ?_)
    refine AW.dr mixed teOk [] (by simp [hx, hy, -Option.some.injEq] <;> rfl) (by kernel_rfl) (by kernel_rfl) ?_ ?_
    · simp [allP]
      omega
    refine AW.iff (x.toList != y.toList) (by simp [bne]) (fun hc => ?_) (fun hc => AW.skip ?_)
    · refine AW.st teOk [] (by simp [-Option.some.injEq] <;> rfl) trivial ?_
      refine AW.ret ⟨.inr rfl, _, Weak.refl _, ?_⟩
      have : a ≠ b := fun e => by
        subst e
        rw [hx] at hy
        cases hy
        simp at hc
      simp [this]
    · refine AW.text teOk (ans := []) (by simp [-Option.some.injEq] <;> rfl) ?_ ?_
      · trivial
      have hxy : x = y := str_ext (by simpa using hc)
      refine ⟨_, _, Weak.normT hA [0, 1, 4, 5] [] [] 0 _ (by simp) (by simp) (by simp), ?_, i + 1, rfl, h, (take_eq_s ht hx hy).2 hxy, ?_⟩
      · omega
      · simp
        exact wrap_s i (by omega)
  · rw [decide_eq_false_iff_not] at h
    have : a = b := by
      have e1 : a.take i = a := List.take_of_length_le (by omega)
      have e2 : b.take i = b := List.take_of_length_le (by omega)
      rw [e1, e2] at ht
      exact ht
    subst this
    refine AW.st teOk [] (by simp [-Option.some.injEq] <;> rfl) trivial ?_
    refine AW.ret ⟨.inr rfl, _, Weak.refl _, ?_⟩
    simp
theorem sameL_ne {a b : List HV} (h : a ≠ b) : sameL a b = false := by
  cases hq : sameL a b with
  | false => rfl
  | true => exact absurd (sameL_iff.1 hq) h
theorem ne_at {α : Type} {a b : List α} {i : Nat} {x y : α} (hx : a[i]? = some x) (hy : b[i]? = some y) (h : x ≠ y) : a ≠ b := fun e => by
  subst e
  rw [hx] at hy
  cases hy
  exact h rfl
theorem hv_ext {x y : HV} (h0 : (x.o.toList == y.o.toList) = true) (h1 : (x.f.toList == y.f.toList) = true) (h2 : (x.set != y.set) = false) (h3 : (x.n != y.n) = false) (h4 : (x.s.toList == y.s.toList) = true) (h5 : (x.hm != y.hm) = false) (h6 : (x.mx != y.mx) = false) (h7 : (x.sum != y.sum) = false) (h8 : (x.fl != y.fl) = false) (h9 : x.el = y.el) : x = y := by
  obtain ⟨a1, a2, a3, a4, a5, a6, a7, a8, a9, a10⟩ := x
  obtain ⟨b1, b2, b3, b4, b5, b6, b7, b8, b9, b10⟩ := y
  simp only [bne_eq_false_iff_eq, beq_iff_eq] at *
  simp only [HV.mk.injEq]
  exact ⟨str_ext h0, str_ext h1, h2, h3, str_ext h4, h5, h6, h7, h9, h8⟩
theorem sameVr_pure (a b : List HV) (hl : a.length < 1000000000) (hb : ElB a) : Pure Tryz.prog 42 [.c (encHs a), .c (encHs b)] (.c (cB (sameL a b))) := by
  refine pure_of teOk Tryz.func42 (by kernel_rfl) (c := _) rfl (N := 96) rfl (rs := [Go.ResultVar.tmp 4]) rfl (by simp) fun base A w0 hA => ?_
  refine AW.st teOk [] (by simp [-Option.some.injEq] <;> rfl) trivial ?_
  refine AW.seq ?_
  refine AW.st teOk [] (by simp [-Option.some.injEq] <;> rfl) trivial ?_
  refine AW.iff ((a.length : Int) != (b.length : Int)) (by simp) (fun h => ?_) (fun h => AW.skip ?_)
  · refine AW.st teOk [] (by simp [-Option.some.injEq] <;> rfl) trivial ?_
    refine AW.ret ⟨.inr rfl, _, Weak.refl _, ?_⟩
    have h : a.length ≠ b.length := by
      simp at h
      omega
    simp [sameL_len h]
  have hab : a.length = b.length := by
    simp at h
    omega
  refine AW.seq ?_
  refine AW.st teOk [] (by simp [-Option.some.injEq] <;> rfl) trivial ?_
  refine AW.block (AW.loop (fun m s => ∃ i : Nat, m = a.length - i ∧ i ≤ a.length ∧ a.take i = b.take i ∧ s = ⟨[(0, .c (encHs a)), (1, .c (encHs b)), (4, .c (cB false)), (5, .c (cI i))], [], 0⟩) _ (Weak.normT hA [0, 1, 4, 5] [] [] 0 _ (by simp) (by simp) (by simp)) ⟨0, rfl, Nat.zero_le _, by simp, by simp⟩ ?_)
  rintro m s ⟨i, rfl, hi, ht, rfl⟩
  refine AW.seq ?_
  refine AW.st teOk [] (by simp [-Option.some.injEq] <;> rfl) trivial ?_
  refine AW.iff (decide (i < a.length)) (by simp) (fun h => AW.skip ?_) (fun h => AW.exit (x_then (x_then (blockA_exit ?_))))
  · rw [decide_eq_true_eq] at h
    obtain ⟨x, hx⟩ : ∃ e, a[i]? = some e := ⟨_, List.getElem?_eq_getElem h⟩
    obtain ⟨y, hy⟩ : ∃ e, b[i]? = some e := ⟨_, List.getElem?_eq_getElem (by omega)⟩
    have hel := hb x (List.mem_of_getElem? hx)
    refine AW.seq (AW.block ?_)
    refine AW.dr mixed teOk [] (by simp [hx, hy, -Option.some.injEq] <;> rfl) (by kernel_rfl) (by kernel_rfl) ?_ ?_
    · simp [allP]
      omega
    refine AW.to (s2 := ⟨[(0, .c (encHs a)), (1, .c (encHs b)), (4, .c (cB false)), (5, .c (cI i)), (6, .c (.fad (encH x))), (7, .c (.fad (encH y)))], [], 0⟩) ((Weak.normS hA [0, 1, 4, 5, 6, 7] [(6, 0), (7, 1)] [] [] 2 _ (by simp) (by simp) (by simp)).trans ((Weak.freeze 0 ⟨10, [encH x]⟩ [] _ (by simp) rfl).trans ((Weak.freeze 1 ⟨10, [encH y]⟩ [] _ (by simp [mapAt_nil]) rfl).trans (Weak.normT hA [0, 1, 4, 5, 6, 7] [] [] 0 _ (by simp [mapAt_nil]) (by simp [mapAt_nil]) (by simp [mapAt_nil]))))) (by simp [mapAt_nil]) ?_
    cases h0 : (x.o.toList == y.o.toList) with
    | false =>
      refine AW.st teOk [] (by simp [h0, -Option.some.injEq] <;> rfl) ?_ ?_
      · trivial
      refine AW.iff true (by simp) (fun _ => ?_) (fun h => by cases h)
      refine AW.st teOk [] (by simp [-Option.some.injEq] <;> rfl) trivial ?_
      refine AW.ret ⟨.inr rfl, _, Weak.refl _, ?_⟩
      simp [sameL_ne (ne_at hx hy fun e => by subst e; simp at h0)]
    | true =>
    cases h1 : (x.f.toList == y.f.toList) with
    | false =>
      refine AW.st teOk [] (by simp [h0, h1, -Option.some.injEq] <;> rfl) ?_ ?_
      · trivial
      refine AW.iff true (by simp) (fun _ => ?_) (fun h => by cases h)
      refine AW.st teOk [] (by simp [-Option.some.injEq] <;> rfl) trivial ?_
      refine AW.ret ⟨.inr rfl, _, Weak.refl _, ?_⟩
      simp [sameL_ne (ne_at hx hy fun e => by subst e; simp at h1)]
    | true =>
    cases h2 : (x.set != y.set) with
    | true =>
      refine AW.st teOk [] (by simp [h0, h1, h2, -Option.some.injEq] <;> rfl) ?_ ?_
      · trivial
      refine AW.iff true (by simp) (fun _ => ?_) (fun h => by cases h)
      refine AW.st teOk [] (by simp [-Option.some.injEq] <;> rfl) trivial ?_
      refine AW.ret ⟨.inr rfl, _, Weak.refl _, ?_⟩
      simp [sameL_ne (ne_at hx hy fun e => by subst e; simp at h2)]
    | false =>
    cases h3 : (x.n != y.n) with
    | true =>
      refine AW.st teOk [] (by simp [h0, h1, h2, h3, -Option.some.injEq] <;> rfl) ?_ ?_
      · trivial
      refine AW.iff true (by simp) (fun _ => ?_) (fun h => by cases h)
      refine AW.st teOk [] (by simp [-Option.some.injEq] <;> rfl) trivial ?_
      refine AW.ret ⟨.inr rfl, _, Weak.refl _, ?_⟩
      simp [sameL_ne (ne_at hx hy fun e => by subst e; simp at h3)]
    | false =>
    cases h4 : (x.s.toList == y.s.toList) with
    | false =>
      refine AW.st teOk [] (by simp [h0, h1, h2, h3, h4, -Option.some.injEq] <;> rfl) ?_ ?_
      · trivial
      refine AW.iff true (by simp) (fun _ => ?_) (fun h => by cases h)
      refine AW.st teOk [] (by simp [-Option.some.injEq] <;> rfl) trivial ?_
      refine AW.ret ⟨.inr rfl, _, Weak.refl _, ?_⟩
      simp [sameL_ne (ne_at hx hy fun e => by subst e; simp at h4)]
    | true =>
    cases h5 : (x.hm != y.hm) with
    | true =>
      refine AW.st teOk [] (by simp [h0, h1, h2, h3, h4, h5, -Option.some.injEq] <;> rfl) ?_ ?_
      · trivial
      refine AW.iff true (by simp) (fun _ => ?_) (fun h => by cases h)
      refine AW.st teOk [] (by simp [-Option.some.injEq] <;> rfl) trivial ?_
      refine AW.ret ⟨.inr rfl, _, Weak.refl _, ?_⟩
      simp [sameL_ne (ne_at hx hy fun e => by subst e; simp at h5)]
    | false =>
    cases h6 : (x.mx != y.mx) with
    | true =>
      refine AW.st teOk [] (by simp [h0, h1, h2, h3, h4, h5, h6, -Option.some.injEq] <;> rfl) ?_ ?_
      · trivial
      refine AW.iff true (by simp) (fun _ => ?_) (fun h => by cases h)
      refine AW.st teOk [] (by simp [-Option.some.injEq] <;> rfl) trivial ?_
      refine AW.ret ⟨.inr rfl, _, Weak.refl _, ?_⟩
      simp [sameL_ne (ne_at hx hy fun e => by subst e; simp at h6)]
    | false =>
    cases h7 : (x.sum != y.sum) with
    | true =>
      refine AW.st teOk [] (by simp [h0, h1, h2, h3, h4, h5, h6, h7, -Option.some.injEq] <;> rfl) ?_ ?_
      · trivial
      refine AW.iff true (by simp) (fun _ => ?_) (fun h => by cases h)
      refine AW.st teOk [] (by simp [-Option.some.injEq] <;> rfl) trivial ?_
      refine AW.ret ⟨.inr rfl, _, Weak.refl _, ?_⟩
      simp [sameL_ne (ne_at hx hy fun e => by subst e; simp at h7)]
    | false =>
    cases h8 : (x.fl != y.fl) with
    | true =>
      refine AW.st teOk [] (by simp [h0, h1, h2, h3, h4, h5, h6, h7, h8, -Option.some.injEq] <;> rfl) ?_ ?_
      · trivial
      refine AW.iff true (by simp) (fun _ => ?_) (fun h => by cases h)
      refine AW.st teOk [] (by simp [-Option.some.injEq] <;> rfl) trivial ?_
      refine AW.ret ⟨.inr rfl, _, Weak.refl _, ?_⟩
      simp [sameL_ne (ne_at hx hy fun e => by subst e; simp at h8)]
    | false =>
    refine AW.st teOk [.fz (.c (cB (decide (x.el = y.el))))] (by simp [h0, h1, h2, h3, h4, h5, h6, h7, h8, -Option.some.injEq] <;> rfl) ?_ ?_
    · exact eqSt_pure x.el y.el hel
    refine AW.iff (!decide (x.el = y.el)) (by simp) (fun he => ?_) (fun he => AW.skip ?_)
    · refine AW.st teOk [] (by simp [-Option.some.injEq] <;> rfl) trivial ?_
      refine AW.ret ⟨.inr rfl, _, Weak.refl _, ?_⟩
      simp [sameL_ne (ne_at hx hy fun e => by subst e; simp at he)]
    · have hxy : x = y := hv_ext h0 h1 h2 h3 h4 h5 h6 h7 h8 (by simpa using he)
      refine AW.text teOk (ans := []) (by simp [-Option.some.injEq] <;> rfl) ?_ ?_
      · trivial
      refine ⟨_, _, Weak.normT hA [0, 1, 4, 5] [] [] 0 _ (by simp) (by simp) (by simp), ?_, i + 1, rfl, h, (take_eq_s ht hx hy).2 hxy, ?_⟩
      · omega
      · simp
        exact wrap_s i (by omega)
  · rw [decide_eq_false_iff_not] at h
    have : a = b := by
      have e1 : a.take i = a := List.take_of_length_le (by omega)
      have e2 : b.take i = b := List.take_of_length_le (by omega)
      rw [e1, e2] at ht
      exact ht
    subst this
    refine AW.st teOk [] (by simp [-Option.some.injEq] <;> rfl) trivial ?_
    refine AW.ret ⟨.inr rfl, _, Weak.refl _, ?_⟩
    simp [sameL_iff.2 rfl]
end Go.Proofs.YtphlhadgcfndhaaGreat.Abs
end
section
namespace Go.Proofs.YtphlhadgcfndhaaGreat.Abs
open Go Go.RowKit
set_option linter.unusedVariables false
set_option linter.unusedSimpArgs false

def indexI (x k : Int) : Int := if k < 1 then 0 else (IntKind.i64.wrap (x.tmod k + k)).tmod k
theorem index_pure (x k : Int) : Pure Tryz.prog 12 [.c (.sc (.int .i64 x)), .c (.sc (.int .i64 k))] (.c (.sc (.int .i64 (indexI x k)))) := by
  refine pure_of teOk Tryz.func12 (by kernel_rfl) (c := _) rfl (N := 14) rfl (rs := [Go.ResultVar.tmp 4]) rfl (by simp) fun base A w0 hA => ?_
  refine AW.st teOk [] (by simp [-Option.some.injEq] <;> rfl) trivial ?_
  refine AW.seq ?_
  refine AW.st teOk [] (by simp [-Option.some.injEq] <;> rfl) trivial ?_
  refine AW.iff (decide (k < 1)) (by simp) (fun h => ?_) (fun h => ?_)
  · refine AW.st teOk [] (by simp [-Option.some.injEq] <;> rfl) trivial ?_
    refine AW.ret ⟨.inr rfl, _, Weak.refl _, ?_⟩
    simp
    simp only [decide_eq_true_eq] at h
    rw [indexI, if_pos h]
  · simp only [decide_eq_false_iff_not] at h
    refine AW.skip ?_
    refine AW.st teOk [] (by simp [-Option.some.injEq] <;> rfl) ?_ ?_
    · have : k ≠ 0 := by omega
      simp [this]
    refine AW.ret ⟨.inr rfl, _, Weak.refl _, ?_⟩
    simp
    rw [indexI, if_neg h]
def digX (b x : Int) : Nat → Int
  | 0 => x
  | j + 1 => IntKind.i64.wrap ((digX b x j).tdiv b)
def digitI (x b : Int) (i : Nat) : Int := (digX b (indexI x 1099511627776) i).tmod b
theorem digit_pure (x b : Int) (i : Nat) (hb : b ≠ 0) (hi : i < 1000) : Pure Tryz.prog 25 [.c (.sc (.int .i64 x)), .c (.sc (.int .i64 b)), .c (.sc (.int .i64 i))] (.c (.sc (.int .i64 (digitI x b i)))) := by
  refine pure_of teOk Tryz.func25 (by kernel_rfl) (c := _) rfl (N := 22) rfl (rs := [Go.ResultVar.tmp 6]) rfl (by simp) fun base A w0 hA => ?_
  refine AW.st teOk [] (by simp [-Option.some.injEq] <;> rfl) trivial ?_
  refine AW.st teOk [.fz (.c (.sc (.int .i64 (indexI x 1099511627776))))] (by simp [-Option.some.injEq] <;> rfl) ?_ ?_
  · exact index_pure _ _
  refine AW.seq ?_
  refine AW.st teOk [] (by simp [-Option.some.injEq] <;> rfl) trivial ?_
  refine AW.block ?_
  refine AW.loop (fun m s => ∃ j : Nat, j ≤ i ∧ m = i - j ∧ s = ⟨[(0, .c (.sc (.int .i64 x))), (1, .c (.sc (.int .i64 b))), (2, .c (.sc (.int .i64 i))), (7, .c (.sc (.int .i64 (digX b (indexI x 1099511627776) j)))), (8, .c (.sc (.int .i64 j)))], [], 0⟩) i (Weak.norm hA [0, 1, 2, 7, 8] [] [] 0 _ rfl (by simp) (by simp)) ⟨0, Nat.zero_le _, rfl, ?_⟩ ?_
  · simp [digX]
  rintro m s ⟨j, hj, rfl, rfl⟩
  refine AW.seq ?_
  refine AW.st teOk [] (by simp [-Option.some.injEq] <;> rfl) trivial ?_
  refine AW.iff (decide (j < i)) (by simp) (fun h => ?_) (fun h => ?_)
  · simp only [decide_eq_true_eq] at h
    refine AW.skip ?_
    refine AW.seq (AW.block ?_)
    refine AW.text teOk (ans := []) (by simp [-Option.some.injEq]; rfl) (by simp [hb]) ?_
    refine AW.text teOk (ans := []) (by simp [-Option.some.injEq]; rfl) (by simp) ?_
    refine ⟨_, _, Weak.norm hA [0, 1, 2, 7, 8] [] [] 0 _ rfl (by simp) (by simp), ?_, j + 1, h, rfl, ?_⟩
    · omega
    · simp [digX]
      exact wrap_s j (by omega)
  · simp only [decide_eq_false_iff_not] at h
    have hji : j = i := by omega
    subst hji
    refine AW.exit (x_then (x_then (blockA_exit ?_)))
    refine AW.st teOk [] (by simp [-Option.some.injEq] <;> rfl) ?_ ?_
    · simp [hb]
    refine AW.ret ⟨.inr rfl, _, Weak.refl _, ?_⟩
    simp
    rw [digitI]
end Go.Proofs.YtphlhadgcfndhaaGreat.Abs
end
section
namespace Go.Proofs.YtphlhadgcfndhaaGreat.Abs
open Go Go.RowKit
set_option linter.unusedVariables false
set_option linter.unusedSimpArgs false
set_option maxHeartbeats 4000000
set_option maxRecDepth 8000
theorem indexP_lt (x : Int) {k : Int} (hk : 0 < k) (hk2 : k < 4000000000000000000) : 0 ≤ indexI x k ∧ indexI x k < k := by
  unfold indexI
  rw [if_neg (by omega)]
  have h1 := Int.tmod_lt_of_pos x hk
  have h2 := Int.lt_tmod_of_pos x hk
  have hw : IntKind.i64.wrap (x.tmod k + k) = x.tmod k + k := by rw [IntKind.wrap_i64]; omega
  rw [hw]
  exact ⟨Int.tmod_nonneg _ (by omega), Int.tmod_lt_of_pos _ (by omega)⟩
def nameL : List Str := [⟨#[97]⟩, ⟨#[98]⟩, ⟨#[99]⟩, ⟨#[120, 49]⟩]
def nameS (n : Int) : Str := nameL.getD (indexI n 4).toNat ⟨#[97]⟩
theorem name_pure (n : Int) : Pure Tryz.prog 79 [.c (cI n)] (.c (cS (nameS n))) := by
  refine pure_of teOk Tryz.func79 (by kernel_rfl) (c := _) rfl (N := 8) rfl (rs := [Go.ResultVar.tmp 2]) rfl (by simp) fun base A w0 hA => ?_
  obtain ⟨h0, h1⟩ := indexP_lt n (k := 4) (by omega) (by omega)
  have hix := index_pure n 4
  obtain ⟨i, hi⟩ : ∃ i : Nat, indexI n 4 = i := ⟨(indexI n 4).toNat, by omega⟩
  have hn : nameS n = nameL.getD i ⟨#[97]⟩ := by unfold nameS; rw [hi]; rfl
  rw [hi] at hix h1
  rw [hn]
  have h4 : i = 0 ∨ i = 1 ∨ i = 2 ∨ i = 3 := by omega
  refine AW.st teOk [] (by simp [-Option.some.injEq] <;> rfl) trivial ?_
  rcases h4 with rfl | rfl | rfl | rfl
  · refine AW.st teOk [.fz (.c (cI 0))] (by simp [-Option.some.injEq] <;> rfl) ?_ ?_
    · first | exact ⟨hix, by omega⟩ | exact hix
    refine AW.ret ⟨.inr rfl, _, Weak.refl _, rfl⟩
  · refine AW.st teOk [.fz (.c (cI 1))] (by simp [-Option.some.injEq] <;> rfl) ?_ ?_
    · first | exact ⟨hix, by omega⟩ | exact hix
    refine AW.ret ⟨.inr rfl, _, Weak.refl _, rfl⟩
  · refine AW.st teOk [.fz (.c (cI 2))] (by simp [-Option.some.injEq] <;> rfl) ?_ ?_
    · first | exact ⟨hix, by omega⟩ | exact hix
    refine AW.ret ⟨.inr rfl, _, Weak.refl _, rfl⟩
  · refine AW.st teOk [.fz (.c (cI 3))] (by simp [-Option.some.injEq] <;> rfl) ?_ ?_
    · first | exact ⟨hix, by omega⟩ | exact hix
    refine AW.ret ⟨.inr rfl, _, Weak.refl _, rfl⟩
def effS (n : Int) (w : Bool) : EfS :=
  let o := nameS (digitI n 4 1)
  let f := nameS (digitI n 4 2)
  let v := digitI n 16 3 - 5
  if w = true then ⟨1, o, f, v, nameS (digitI n 4 5)⟩
  else if digitI n 4 0 = 0 then ⟨2, o, f, v, ⟨#[]⟩⟩
  else if digitI n 4 0 = 1 then ⟨3, o, f, v, ⟨#[]⟩⟩
  else if digitI n 4 0 = 2 then ⟨4, o, f, 0, nameS (digitI n 4 5)⟩
  else ⟨5, o, f, 0, ⟨#[]⟩⟩
theorem digX_nnP {b x : Int} (hb : 1 ≤ b) (hx : 0 ≤ x ∧ x < 1099511627776) : ∀ j, 0 ≤ digX b x j ∧ digX b x j < 1099511627776
  | 0 => hx
  | j + 1 => by
    obtain ⟨h1, h2⟩ := digX_nnP hb hx j
    have h3 : 0 ≤ (digX b x j).tdiv b := Int.tdiv_nonneg h1 (by omega)
    have h4 : (digX b x j).tdiv b ≤ digX b x j := by
      rw [Int.tdiv_eq_ediv_of_nonneg h1]
      exact Int.ediv_le_self _ h1
    have h5 : IntKind.i64.wrap ((digX b x j).tdiv b) = (digX b x j).tdiv b := by rw [IntKind.wrap_i64]; omega
    unfold digX
    rw [h5]
    omega
theorem digitP_lt (x : Int) {b : Int} (hb : 1 ≤ b) (i : Nat) : 0 ≤ digitI x b i ∧ digitI x b i < b := by
  unfold digitI
  have h := digX_nnP hb (indexP_lt x (k := 1099511627776) (by omega) (by omega)) i
  exact ⟨Int.tmod_nonneg _ h.1, Int.tmod_lt_of_pos _ (by omega)⟩
theorem dP (x b : Int) (i : Nat) (hb : b ≠ 0) (hi : i < 1000) : Pure Tryz.prog 25 [.c (cI x), .c (cI b), .c (cI i)] (.c (cI (digitI x b i))) := digit_pure x b i hb hi
theorem eff_pure (n : Int) (w : Bool) : Pure Tryz.prog 41 [.c (cI n), .c (cB w)] (.agg (encE' (effS n w))) := by
  refine pure_of teOk Tryz.func41 (by kernel_rfl) (c := _) rfl (N := 51) rfl (rs := [Go.ResultVar.cell 4 81]) rfl (by simp) fun base A w0 hA => ?_
  have d1 := dP n 4 1 (by decide) (by decide)
  have d2 := dP n 4 2 (by decide) (by decide)
  have d3 := dP n 16 3 (by decide) (by decide)
  have d5 := dP n 4 5 (by decide) (by decide)
  have d0 := dP n 4 0 (by decide) (by decide)
  have b3 := digitP_lt n (b := 16) (by omega) 3
  have hw : IntKind.i64.wrap (digitI n 16 3 - 5) = digitI n 16 3 - 5 := by rw [IntKind.wrap_i64]; omega
  unfold effS
  generalize digitI n 4 1 = x1 at *
  generalize digitI n 4 2 = x2 at *
  generalize digitI n 16 3 = x3 at *
  generalize digitI n 4 5 = x5 at *
  generalize digitI n 4 0 = x0 at *
  have n1 := name_pure x1
  have n2 := name_pure x2
  have n5 := name_pure x5
  refine AW.st teOk [] (by simp [-Option.some.injEq] <;> rfl) trivial ?_
  refine AW.st teOk [.fz (.c (cI x1)), .fz (.c (cS (nameS x1))), .fz (.c (cI x2)), .fz (.c (cS (nameS x2)))] (by simp [-Option.some.injEq] <;> rfl) ?_ ?_
  · exact ⟨d1, n1, d2, n2⟩
  refine AW.st teOk [.fz (.c (cI x3))] (by simp [hw, -Option.some.injEq] <;> rfl) ?_ ?_
  · exact d3
  refine AW.mid (fun s => ∃ e : EfS, e = (if w = true then ⟨1, nameS x1, nameS x2, x3 - 5, nameS x5⟩ else if x0 = 0 then ⟨2, nameS x1, nameS x2, x3 - 5, ⟨#[]⟩⟩ else if x0 = 1 then ⟨3, nameS x1, nameS x2, x3 - 5, ⟨#[]⟩⟩ else if x0 = 2 then ⟨4, nameS x1, nameS x2, 0, nameS x5⟩ else ⟨5, nameS x1, nameS x2, 0, ⟨#[]⟩⟩) ∧ s = ⟨[(4, .c (.ptr 0 0 0)), (5, .c (.ptr 1 0 0))], [(0, ⟨5, [encE' ⟨0, ⟨#[]⟩, ⟨#[]⟩, 0, ⟨#[]⟩⟩]⟩), (1, ⟨5, [encE' e]⟩)], 2⟩) ?_ ?_
  · refine AW.block ?_
    refine AW.st teOk [] (by simp [-Option.some.injEq] <;> rfl) trivial ?_
    refine AW.iff w (by simp) (fun h => ?_) (fun h => ?_)
    · refine AW.st teOk [] (by simp [-Option.some.injEq] <;> rfl) trivial ?_
      refine AW.st teOk [] (by simp [-Option.some.injEq] <;> rfl) trivial ?_
      refine AW.text teOk (ans := [.fz (.c (cI x5)), .fz (.c (cS (nameS x5)))]) (by simp [-Option.some.injEq] <;> rfl) ?_ ?_
      · exact ⟨d5, n5⟩
      refine ⟨_, Weak.normS hA [4, 5] [(4, 0), (5, 1)] [] [] 2 _ (by simp) (by simp) (by simp), _, rfl, by simp [h]⟩
    · refine AW.st teOk [.fz (.c (cI x0))] (by simp [-Option.some.injEq] <;> rfl) ?_ ?_
      · exact d0
      refine AW.iff (x0 == 0) (by simp) (fun h0 => ?_) (fun h0 => ?_)
      · have h0 : x0 = 0 := by simpa using h0
        refine AW.st teOk [] (by simp [-Option.some.injEq] <;> rfl) trivial ?_
        refine AW.text teOk (ans := []) (by simp [-Option.some.injEq] <;> rfl) ?_ ?_
        · trivial
        refine ⟨_, Weak.normS hA [4, 5] [(4, 0), (5, 1)] [] [] 2 _ (by simp) (by simp) (by simp), _, rfl, by simp [h, h0]⟩
      have h0 : x0 ≠ 0 := by simpa using h0
      refine AW.st teOk [.fz (.c (cI x0))] (by simp [-Option.some.injEq] <;> rfl) ?_ ?_
      · exact d0
      refine AW.iff (x0 == 1) (by simp) (fun h1 => ?_) (fun h1 => ?_)
      · have h1 : x0 = 1 := by simpa using h1
        refine AW.st teOk [] (by simp [-Option.some.injEq] <;> rfl) trivial ?_
        refine AW.text teOk (ans := []) (by simp [-Option.some.injEq] <;> rfl) ?_ ?_
        · trivial
        refine ⟨_, Weak.normS hA [4, 5] [(4, 0), (5, 1)] [] [] 2 _ (by simp) (by simp) (by simp), _, rfl, by simp [h, h0, h1]⟩
      have h1 : x0 ≠ 1 := by simpa using h1
      refine AW.st teOk [.fz (.c (cI x0))] (by simp [-Option.some.injEq] <;> rfl) ?_ ?_
      · exact d0
      refine AW.iff (x0 == 2) (by simp) (fun h2 => ?_) (fun h2 => ?_)
      · have h2 : x0 = 2 := by simpa using h2
        refine AW.st teOk [] (by simp [-Option.some.injEq] <;> rfl) trivial ?_
        refine AW.text teOk (ans := [.fz (.c (cI x5)), .fz (.c (cS (nameS x5)))]) (by simp [-Option.some.injEq] <;> rfl) ?_ ?_
        · exact ⟨d5, n5⟩
        refine ⟨_, Weak.normS hA [4, 5] [(4, 0), (5, 1)] [] [] 2 _ (by simp) (by simp) (by simp), _, rfl, by simp [h, h0, h1, h2]⟩
      have h2 : x0 ≠ 2 := by simpa using h2
      refine AW.text teOk (ans := []) (by simp [-Option.some.injEq] <;> rfl) ?_ ?_
      · trivial
      refine ⟨_, Weak.normS hA [4, 5] [(4, 0), (5, 1)] [] [] 2 _ (by simp) (by simp) (by simp), _, rfl, by simp [h, h0, h1, h2]⟩
  · rintro s ⟨e, rfl, rfl⟩
    refine AW.st teOk [] (by simp [-Option.some.injEq] <;> rfl) trivial ?_
    refine AW.ret ⟨.inr rfl, _, Weak.refl _, ?_⟩
    simp
end Go.Proofs.YtphlhadgcfndhaaGreat.Abs
end
section
namespace Go.Proofs.YtphlhadgcfndhaaGreat.Abs
open Go Go.RowKit
set_option linter.unusedVariables false
set_option linter.unusedSimpArgs false
set_option maxHeartbeats 4000000
set_option maxRecDepth 8000
theorem posS_le (l : List Str) (s : Str) : posS l s ≤ l.length := List.countP_le_length
@[simp] theorem flat_encs' (l : List Str) : flatO ⟨1, l.map encs⟩ = true := flatO_of fun e he => by
  obtain ⟨x, _, rfl⟩ := List.mem_map.1 he
  rfl
theorem one_encs {l : List Str} {e : List Cell} (h : e ∈ l.map encs) : e.length = 1 := by
  obtain ⟨x, _, rfl⟩ := List.mem_map.1 h
  rfl
theorem rins_pure (l : List Str) (s : Str) (h : AscS l) (hl : l.length < 1000000000) : Pure Tryz.prog 44 [.c (encSs l), .c (cS s)] (.c (encSs (insL l s))) := by
  refine pure_of teOk Tryz.func44 (by kernel_rfl) (c := _) rfl (N := 49) rfl (rs := [Go.ResultVar.tmp 4]) rfl (by simp) fun base A w0 hA => ?_
  have hp := posS_le l s
  refine AW.st teOk [] (by simp [-Option.some.injEq] <;> rfl) trivial ?_
  refine AW.st teOk [] (by simp [-Option.some.injEq] <;> rfl) trivial ?_
  refine AW.mid (fun s' => s' = ⟨[(0, .c (encSs l)), (1, .c (cS s)), (5, .c (cI (posS l s)))], [], 0⟩) ?_ ?_
  · refine AW.block (AW.loop (fun m s' => ∃ k : Nat, m = l.length - k ∧ k ≤ posS l s ∧ s' = ⟨[(0, .c (encSs l)), (1, .c (cS s)), (5, .c (cI k))], [], 0⟩) _ (Weak.normT hA [0, 1, 5] [] [] 0 _ (by simp) (by simp) (by simp)) ⟨0, rfl, Nat.zero_le _, by simp⟩ ?_)
    rintro m s' ⟨k, rfl, hk, rfl⟩
    refine AW.seq ?_
    by_cases hkl : k < l.length
    · obtain ⟨x, hx⟩ : ∃ e, l[k]? = some e := ⟨_, List.getElem?_eq_getElem hkl⟩
      have hc := cnt_split (monoS h s) hx
      obtain ⟨_, rfl⟩ := List.getElem?_eq_some_iff.1 hx
      cases hlt : sLt l[k] s with
      | true =>
        have hk1 := hc.1 hlt
        unfold sLt at hlt
        refine AW.st teOk [] (by simp [hkl, hlt, -Option.some.injEq] <;> rfl) ?_ ?_
        · first | trivial | omega | (simp; omega)
        refine AW.iff true (by simp) (fun _ => AW.skip ?_) (fun h => by cases h)
        refine AW.block ?_
        refine AW.text teOk (ans := []) (by simp [-Option.some.injEq] <;> rfl) ?_ ?_
        · trivial
        refine ⟨_, _, Weak.normT hA [0, 1, 5] [] [] 0 _ (by simp) (by simp) (by simp), ?_, k + 1, rfl, hk1, ?_⟩
        · omega
        · simp
          exact wrap_s k (by omega)
      | false =>
        have hk1 : posS l s ≤ k := hc.2 hlt
        have hkp : k = posS l s := by omega
        unfold sLt at hlt
        refine AW.st teOk [] (by simp [hkl, hlt, -Option.some.injEq] <;> rfl) ?_ ?_
        · first | trivial | omega | (simp; omega)
        refine AW.iff false (by simp) (fun h => by cases h) (fun _ => AW.exit (x_then (x_then (blockA_exit ?_))))
        rw [← hkp]
        exact ⟨_, Weak.normT hA [0, 1, 5] [] [] 0 _ (by simp) (by simp) (by simp), by simp⟩
    · have hkp : k = posS l s := by omega
      refine AW.st teOk [] (by simp [hkl, -Option.some.injEq] <;> rfl) ?_ ?_
      · first | trivial | omega | (simp; omega)
      refine AW.iff false (by simp) (fun h => by cases h) (fun _ => AW.exit (x_then (x_then (blockA_exit ?_))))
      rw [← hkp]
      exact ⟨_, Weak.normT hA [0, 1, 5] [] [] 0 _ (by simp) (by simp) (by simp), by simp⟩
  rintro s' rfl
  obtain ⟨k, hk⟩ : ∃ k, k = posS l s := ⟨_, rfl⟩
  rw [← hk] at hp ⊢
  cases hh : hasS l s with
  | true =>
    have hx : ∃ hkl : k < l.length, l[k] = s := by
      unfold hasS at hh
      rw [← hk] at hh
      cases hq : l[k]? with
      | none => rw [hq] at hh; simp at hh
      | some x =>
        rw [hq] at hh
        obtain ⟨h1, h2⟩ := List.getElem?_eq_some_iff.1 hq
        exact ⟨h1, h2.trans (by simpa using hh)⟩
    obtain ⟨hkl, hx⟩ := hx
    have hins : insL l s = l := by unfold insL; rw [if_pos hh]
    rw [hins]
    refine AW.seq ?_
    refine AW.st teOk [] (by simp [hkl, hx, -Option.some.injEq] <;> rfl) ?_ ?_
    · first | trivial | omega | (simp; omega)
    refine AW.iff true (by simp) (fun _ => ?_) (fun h => by cases h)
    refine AW.st teOk [] (by simp [-Option.some.injEq] <;> rfl) ?_ ?_
    · simp [growOk]
      omega
    refine AW.ret ⟨.inr rfl, _, Weak.freeze 14 ⟨1, l.map encs⟩ [] _ (by simp) (flat_encs' l), ?_⟩
    simp
  | false =>
    have hins : insL l s = l.take k ++ s :: l.drop k := by unfold insL; rw [if_neg (by simp [hh]), ← hk]
    rw [hins]
    refine AW.mid (fun s' => s' = ⟨[(0, .c (encSs l)), (1, .c (cS s)), (5, .c (cI k))], [], 0⟩) ?_ ?_
    · by_cases hkl : k < l.length
      · have hne : (l[k].toList == s.toList) = false := by
          cases hq : (l[k].toList == s.toList) with
          | false => rfl
          | true =>
            have e : l[k] = s := str_ext (by simpa using hq)
            have : hasS l s = true := by
              unfold hasS
              rw [← hk, List.getElem?_eq_getElem hkl]
              simp [e]
            rw [this] at hh
            cases hh
        refine AW.st teOk [] (by simp [hkl, hne, -Option.some.injEq] <;> rfl) ?_ ?_
        · first | trivial | omega | (simp; omega)
        refine AW.iff false (by simp) (fun h => by cases h) (fun _ => AW.skip ?_)
        exact ⟨_, Weak.normT hA [0, 1, 5] [] [] 0 _ (by simp) (by simp) (by simp), by simp⟩
      · refine AW.st teOk [] (by simp [hkl, -Option.some.injEq] <;> rfl) ?_ ?_
        · first | trivial | omega | (simp; omega)
        refine AW.iff false (by simp) (fun h => by cases h) (fun _ => AW.skip ?_)
        exact ⟨_, Weak.normT hA [0, 1, 5] [] [] 0 _ (by simp) (by simp) (by simp), by simp⟩
    rintro s' rfl
    have htl : (l.take k).length = k := by rw [List.length_take]; omega
    have hmin : min k l.length = k := by omega
    refine AW.st teOk [] (by simp [-Option.some.injEq] <;> rfl) ?_ ?_
    · simp [growOk, hmin]
      exact ⟨by omega, by omega, fun e he => one_encs (List.mem_of_mem_take he)⟩
    refine AW.to (s2 := ⟨[(0, .c (encSs l)), (1, .c (cS s)), (5, .c (cI k)), (6, .c (.ref 0 0 k))], [(0, ⟨1, (l.take k).map encs⟩)], 1⟩) (Weak.normT hA [0, 1, 5, 6] [(6, 0)] [] 1 _ (by simp) (by simp) (by simp; rw [← List.map_take]; exact flat_encs' _)) (by simp [hmin]) ?_
    have hdm : (l.map encs).drop k = (l.drop k).map encs := List.map_drop.symm
    obtain ⟨D, hD⟩ : ∃ D, D = l.drop k := ⟨_, rfl⟩
    have hDl : D.length = l.length - k := by rw [hD, List.length_drop]
    rw [← hD] at hdm ⊢
    cases D with
    | nil =>
      have he : ((l.map encs).drop k).isEmpty = true := by rw [hdm]; rfl
      refine AW.dr mixed teOk [] (by simp [he, hmin, -Option.some.injEq] <;> rfl) (by kernel_rfl) (by kernel_rfl) ?_ ?_
      · simp [growOk, allP, hmin]
        omega
      have hcat : (l.map encs).take k ++ [[cS s]] = (l.take k ++ [s]).map encs := by rw [List.map_append, List.map_take]; rfl
      have hlen : (l.take k ++ [s]).length = k + 1 := by rw [List.length_append, htl]; rfl
      rw [hcat]
      refine AW.ret ⟨.inr rfl, _, Weak.freeze 4 ⟨1, (l.take k ++ [s]).map encs⟩ [] _ (by simp) (flat_encs' _), ?_⟩
      generalize l.take k ++ [s] = R at *
      have htk : (R.map encs).take (k + 1) = R.map encs := List.take_of_length_le (by rw [List.length_map, hlen]; exact Nat.le_refl _)
      simp [htk, hlen]
    | cons d D =>
      have he : ((l.map encs).drop k).isEmpty = false := by rw [hdm]; rfl
      refine AW.dr mixed teOk [] (by simp [he, hmin, -Option.some.injEq] <;> rfl) (by kernel_rfl) (by kernel_rfl) ?_ ?_
      · simp [growOk, allP, hmin]
        exact ⟨by omega, by omega, by omega, fun e he => one_encs (List.mem_of_mem_drop he)⟩
      have hcat : (l.map encs).take k ++ [cS s] :: (l.map encs).drop k = (l.take k ++ s :: d :: D).map encs := by rw [List.map_append, List.map_take, hdm]; rfl
      have hlen : (l.take k ++ s :: d :: D).length = k + 1 + (l.length - k) := by rw [List.length_append, htl, List.length_cons, hDl]; omega
      rw [hcat]
      refine AW.ret ⟨.inr rfl, _, Weak.freeze 8 ⟨1, (l.take k ++ s :: d :: D).map encs⟩ [] _ (by simp) (flat_encs' _), ?_⟩
      generalize l.take k ++ s :: d :: D = R at *
      have htk : (R.map encs).take (k + 1 + (l.length - k)) = R.map encs := List.take_of_length_le (by rw [List.length_map, hlen]; exact Nat.le_refl _)
      simp [htk, hlen]
end Go.Proofs.YtphlhadgcfndhaaGreat.Abs
end
section
namespace Go.Proofs.YtphlhadgcfndhaaGreat.Abs
open Go Go.RowKit
set_option linter.unusedVariables false
set_option linter.unusedSimpArgs false
set_option maxHeartbeats 4000000
abbrev encOps (ops : List OpS) : Cell := .row 6 false (ops.map encOp)
@[simp] abbrev encHi (ops : List OpS) : List Cell := [encOps ops]
def inR (n : Nat) (x : Int) : Bool := decide (0 ≤ x) && decide (x < n)
def opAt (ops : List OpS) (x : Int) : Option OpS := if 0 ≤ x then ops[x.toNat]? else none
def reqB (o : OpS) : Bool := o.kind != 3 && o.ret != 0
def penB (o : OpS) : Bool := o.kind != 1 && o.ret == 0
def preB (a b : OpS) : Bool := a.ret != 0 && decide (a.ret < b.call)
def preS (ops : List OpS) (a b : Int) : Bool := match opAt ops a, opAt ops b with
  | some x, some y => preB x y
  | _, _ => false
theorem opAt_some {ops : List OpS} {x : Int} (h : inR ops.length x = true) : ∃ o, opAt ops x = some o ∧ ops[x.toNat]? = some o ∧ 0 ≤ x ∧ x < ops.length := by
  simp only [inR, Bool.and_eq_true, decide_eq_true_eq] at h
  refine ⟨ops[x.toNat], ?_, List.getElem?_eq_getElem (by omega), h.1, h.2⟩
  rw [opAt, if_pos h.1]
  exact List.getElem?_eq_getElem (by omega)
theorem opAt_none {ops : List OpS} {x : Int} (h : inR ops.length x = false) : opAt ops x = none := by
  simp only [inR, Bool.and_eq_false_iff, decide_eq_false_iff_not] at h
  unfold opAt
  split
  · rcases h with h | h
    · omega
    · exact List.getElem?_eq_none (by omega)
  · rfl
theorem req_pure (o : OpS) : Pure Tryz.prog 45 [.agg (encOp o)] (.c (cB (reqB o))) := by
  refine pure_of teOk Tryz.func45 (by kernel_rfl) (c := _) rfl (N := 11) rfl (rs := [Go.ResultVar.tmp 2]) rfl (by simp) fun base A w0 hA => ?_
  refine AW.st teOk [] (by simp [-Option.some.injEq] <;> rfl) trivial ?_
  cases h : o.kind != 3 with
  | true =>
    refine AW.st teOk [] (by simp [h, -Option.some.injEq] <;> rfl) trivial ?_
    refine AW.ret ⟨.inr rfl, _, Weak.refl _, ?_⟩
    simp [reqB, h]
  | false =>
    refine AW.st teOk [] (by simp [h, -Option.some.injEq] <;> rfl) trivial ?_
    refine AW.ret ⟨.inr rfl, _, Weak.refl _, ?_⟩
    simp [reqB, h]
theorem pre_pure (a b : OpS) : Pure Tryz.prog 82 [.agg (encOp a), .agg (encOp b)] (.c (cB (preB a b))) := by
  refine pure_of teOk Tryz.func82 (by kernel_rfl) (c := _) rfl (N := 15) rfl (rs := [Go.ResultVar.tmp 4]) rfl (by simp) fun base A w0 hA => ?_
  refine AW.st teOk [] (by simp [-Option.some.injEq] <;> rfl) trivial ?_
  cases h : a.ret != 0 with
  | true =>
    refine AW.st teOk [] (by simp [h, -Option.some.injEq] <;> rfl) trivial ?_
    refine AW.ret ⟨.inr rfl, _, Weak.refl _, ?_⟩
    simp [preB, h]
  | false =>
    refine AW.st teOk [] (by simp [h, -Option.some.injEq] <;> rfl) trivial ?_
    refine AW.ret ⟨.inr rfl, _, Weak.refl _, ?_⟩
    simp [preB, h]
theorem inR_pure (ops : List OpS) (x : Int) : Pure Tryz.prog 81 [.agg (encHi ops), .c (cI x)] (.c (cB (inR ops.length x))) := by
  refine pure_of teOk Tryz.func81 (by kernel_rfl) (c := _) rfl (N := 14) rfl (rs := [Go.ResultVar.tmp 4]) rfl (by simp) fun base A w0 hA => ?_
  refine AW.st teOk [] (by simp [-Option.some.injEq] <;> rfl) trivial ?_
  cases h : decide (0 ≤ x) with
  | true =>
    have h' : decide (x ≥ 0) = true := h
    refine AW.st teOk [] (by simp [h', -Option.some.injEq] <;> rfl) trivial ?_
    refine AW.ret ⟨.inr rfl, _, Weak.refl _, ?_⟩
    simp [inR, h]
  | false =>
    have h' : decide (x ≥ 0) = false := h
    refine AW.st teOk [] (by simp [h', -Option.some.injEq] <;> rfl) trivial ?_
    refine AW.ret ⟨.inr rfl, _, Weak.refl _, ?_⟩
    simp [inR, h]
theorem prec_pure (ops : List OpS) (a b : Int) : Pure Tryz.prog 46 [.agg (encHi ops), .c (cI a), .c (cI b)] (.c (cB (preS ops a b))) := by
  refine pure_of teOk Tryz.func46 (by kernel_rfl) (c := _) rfl (N := 28) rfl (rs := [Go.ResultVar.tmp 6]) rfl (by simp) fun base A w0 hA => ?_
  refine AW.st teOk [] (by simp [-Option.some.injEq] <;> rfl) trivial ?_
  cases ha : inR ops.length a with
  | false =>
    have e := opAt_none ha
    refine AW.dr mixed teOk [.c (cB false)] (by simp [-Option.some.injEq] <;> rfl) (by kernel_rfl) (by kernel_rfl) ?_ ?_
    · simp [allP]
      exact ha ▸ inR_pure ops a
    refine AW.ret ⟨.inr rfl, _, Weak.refl _, ?_⟩
    simp [preS, e]
  | true =>
    obtain ⟨x, e1, e2, e3, e4⟩ := opAt_some ha
    cases hb : inR ops.length b with
    | false =>
      have e := opAt_none hb
      refine AW.dr mixed teOk [.c (cB true), .c (cB false)] (by simp [-Option.some.injEq] <;> rfl) (by kernel_rfl) (by kernel_rfl) ?_ ?_
      · simp [allP]
        exact ⟨ha ▸ inR_pure ops a, hb ▸ inR_pure ops b⟩
      refine AW.ret ⟨.inr rfl, _, Weak.refl _, ?_⟩
      simp [preS, e1, e]
    | true =>
      obtain ⟨y, f1, f2, f3, f4⟩ := opAt_some hb
      refine AW.dr mixed teOk [.c (cB true), .c (cB true), .c (cB (preB x y))] (by simp [e2, f2, -Option.some.injEq] <;> rfl) (by kernel_rfl) (by kernel_rfl) ?_ ?_
      · simp [allP]
        exact ⟨ha ▸ inR_pure ops a, hb ▸ inR_pure ops b, ⟨e3, e4⟩, ⟨f3, f4⟩, pre_pure x y⟩
      refine AW.ret ⟨.inr rfl, _, Weak.refl _, ?_⟩
      simp [preS, e1, f1]
end Go.Proofs.YtphlhadgcfndhaaGreat.Abs
end
