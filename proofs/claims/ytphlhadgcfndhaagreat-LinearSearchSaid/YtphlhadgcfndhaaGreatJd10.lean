/- Joined for the claim: WBase WPb WPc WNdl WNwa WNwb -/
import Derived.Test.YtphlhadgcfndhaaGreatAbsS
import Derived.Test.YtphlhadgcfndhaaGreatJd9
import Derived.Test.YtphlhadgcfndhaaGreatJd6
import Derived.Test.YtphlhadgcfndhaaGreatJd8
section
namespace Go.Proofs.YtphlhadgcfndhaaGreat.Abs
open Go Go.RowKit
set_option linter.unusedVariables false
set_option linter.unusedSimpArgs false

def indexI (x k : Int) : Int := if k < 1 then 0 else (IntKind.i64.wrap (x.tmod k + k)).tmod k
theorem index_pure (x k : Int) : Pure Tryz.prog 12 [.c (.sc (.int .i64 x)), .c (.sc (.int .i64 k))] (.c (.sc (.int .i64 (indexI x k)))) := by
  refine pure_of teOk Tryz.func12 (by kernel_rfl) (c := _) rfl (N := 14) rfl (rs := [Go.ResultVar.tmp 4]) rfl (by simp) fun base A w0 hA => ?_
  refine AW.st teOk [] (by simp [-Option.some.injEq] <;> rfl) trivial ?_
  refine AW.seq ?_
  refine AW.st teOk [] (by simp [-Option.some.injEq] <;> rfl) trivial ?_
  refine AW.iff (decide (k < 1)) (by simp) (fun h => ?_) (fun h => ?_)
  · refine AW.st teOk [] (by simp [-Option.some.injEq] <;> rfl) trivial ?_
    refine AW.ret ⟨.inr rfl, _, Weak.refl _, ?_⟩
    simp
    simp only [decide_eq_true_eq] at h
    rw [indexI, if_pos h]
  · simp only [decide_eq_false_iff_not] at h
    refine AW.skip ?_
    refine AW.st teOk [] (by simp [-Option.some.injEq] <;> rfl) ?_ ?_
    · have : k ≠ 0 := by omega
      simp [this]
    refine AW.ret ⟨.inr rfl, _, Weak.refl _, ?_⟩
    simp
    rw [indexI, if_neg h]
def digX (b x : Int) : Nat → Int
  | 0 => x
  | j + 1 => IntKind.i64.wrap ((digX b x j).tdiv b)
def digitI (x b : Int) (i : Nat) : Int := (digX b (indexI x 1099511627776) i).tmod b
theorem digit_pure (x b : Int) (i : Nat) (hb : b ≠ 0) (hi : i < 1000) : Pure Tryz.prog 25 [.c (.sc (.int .i64 x)), .c (.sc (.int .i64 b)), .c (.sc (.int .i64 i))] (.c (.sc (.int .i64 (digitI x b i)))) := by
  refine pure_of teOk Tryz.func25 (by kernel_rfl) (c := _) rfl (N := 22) rfl (rs := [Go.ResultVar.tmp 6]) rfl (by simp) fun base A w0 hA => ?_
  refine AW.st teOk [] (by simp [-Option.some.injEq] <;> rfl) trivial ?_
  refine AW.st teOk [.fz (.c (.sc (.int .i64 (indexI x 1099511627776))))] (by simp [-Option.some.injEq] <;> rfl) ?_ ?_
  · exact index_pure _ _
  refine AW.seq ?_
  refine AW.st teOk [] (by simp [-Option.some.injEq] <;> rfl) trivial ?_
  refine AW.block ?_
  refine AW.loop (fun m s => ∃ j : Nat, j ≤ i ∧ m = i - j ∧ s = ⟨[(0, .c (.sc (.int .i64 x))), (1, .c (.sc (.int .i64 b))), (2, .c (.sc (.int .i64 i))), (7, .c (.sc (.int .i64 (digX b (indexI x 1099511627776) j)))), (8, .c (.sc (.int .i64 j)))], [], 0⟩) i (Weak.norm hA [0, 1, 2, 7, 8] [] [] 0 _ rfl (by simp) (by simp)) ⟨0, Nat.zero_le _, rfl, ?_⟩ ?_
  · simp [digX]
  rintro m s ⟨j, hj, rfl, rfl⟩
  refine AW.seq ?_
  refine AW.st teOk [] (by simp [-Option.some.injEq] <;> rfl) trivial ?_
  refine AW.iff (decide (j < i)) (by simp) (fun h => ?_) (fun h => ?_)
  · simp only [decide_eq_true_eq] at h
    refine AW.skip ?_
    refine AW.seq (AW.block ?_)
    refine AW.text teOk (ans := []) (by simp [-Option.some.injEq]; rfl) (by simp [hb]) ?_
    refine AW.text teOk (ans := []) (by simp [-Option.some.injEq]; rfl) (by simp) ?_
    refine ⟨_, _, Weak.norm hA [0, 1, 2, 7, 8] [] [] 0 _ rfl (by simp) (by simp), ?_, j + 1, h, rfl, ?_⟩
    · omega
    · simp [digX]
      exact wrap_s j (by omega)
  · simp only [decide_eq_false_iff_not] at h
    have hji : j = i := by omega
    subst hji
    refine AW.exit (x_then (x_then (blockA_exit ?_)))
    refine AW.st teOk [] (by simp [-Option.some.injEq] <;> rfl) ?_ ?_
    · simp [hb]
    refine AW.ret ⟨.inr rfl, _, Weak.refl _, ?_⟩
    simp
    rw [digitI]
end Go.Proofs.YtphlhadgcfndhaaGreat.Abs
end
section
namespace Go.Proofs.YtphlhadgcfndhaaGreat.Abs
open Go Go.RowKit
set_option linter.unusedVariables false
set_option linter.unusedSimpArgs false
set_option maxHeartbeats 4000000
set_option maxRecDepth 8000
theorem indexP_lt (x : Int) {k : Int} (hk : 0 < k) (hk2 : k < 4000000000000000000) : 0 ≤ indexI x k ∧ indexI x k < k := by
  unfold indexI
  rw [if_neg (by omega)]
  have h1 := Int.tmod_lt_of_pos x hk
  have h2 := Int.lt_tmod_of_pos x hk
  have hw : IntKind.i64.wrap (x.tmod k + k) = x.tmod k + k := by rw [IntKind.wrap_i64]; omega
  rw [hw]
  exact ⟨Int.tmod_nonneg _ (by omega), Int.tmod_lt_of_pos _ (by omega)⟩
def nameL : List Str := [⟨#[97]⟩, ⟨#[98]⟩, ⟨#[99]⟩, ⟨#[120, 49]⟩]
def nameS (n : Int) : Str := nameL.getD (indexI n 4).toNat ⟨#[97]⟩
theorem name_pure (n : Int) : Pure Tryz.prog 79 [.c (cI n)] (.c (cS (nameS n))) := by
  refine pure_of teOk Tryz.func79 (by kernel_rfl) (c := _) rfl (N := 8) rfl (rs := [Go.ResultVar.tmp 2]) rfl (by simp) fun base A w0 hA => ?_
  obtain ⟨h0, h1⟩ := indexP_lt n (k := 4) (by omega) (by omega)
  have hix := index_pure n 4
  obtain ⟨i, hi⟩ : ∃ i : Nat, indexI n 4 = i := ⟨(indexI n 4).toNat, by omega⟩
  have hn : nameS n = nameL.getD i ⟨#[97]⟩ := by unfold nameS; rw [hi]; rfl
  rw [hi] at hix h1
  rw [hn]
  have h4 : i = 0 ∨ i = 1 ∨ i = 2 ∨ i = 3 := by omega
  refine AW.st teOk [] (by simp [-Option.some.injEq] <;> rfl) trivial ?_
  rcases h4 with rfl | rfl | rfl | rfl
  · refine AW.st teOk [.fz (.c (cI 0))] (by simp [-Option.some.injEq] <;> rfl) ?_ ?_
    · first | exact ⟨hix, by omega⟩ | exact hix
    refine AW.ret ⟨.inr rfl, _, Weak.refl _, rfl⟩
  · refine AW.st teOk [.fz (.c (cI 1))] (by simp [-Option.some.injEq] <;> rfl) ?_ ?_
    · first | exact ⟨hix, by omega⟩ | exact hix
    refine AW.ret ⟨.inr rfl, _, Weak.refl _, rfl⟩
  · refine AW.st teOk [.fz (.c (cI 2))] (by simp [-Option.some.injEq] <;> rfl) ?_ ?_
    · first | exact ⟨hix, by omega⟩ | exact hix
    refine AW.ret ⟨.inr rfl, _, Weak.refl _, rfl⟩
  · refine AW.st teOk [.fz (.c (cI 3))] (by simp [-Option.some.injEq] <;> rfl) ?_ ?_
    · first | exact ⟨hix, by omega⟩ | exact hix
    refine AW.ret ⟨.inr rfl, _, Weak.refl _, rfl⟩
def effS (n : Int) (w : Bool) : EfS :=
  let o := nameS (digitI n 4 1)
  let f := nameS (digitI n 4 2)
  let v := digitI n 16 3 - 5
  if w = true then ⟨1, o, f, v, nameS (digitI n 4 5)⟩
  else if digitI n 4 0 = 0 then ⟨2, o, f, v, ⟨#[]⟩⟩
  else if digitI n 4 0 = 1 then ⟨3, o, f, v, ⟨#[]⟩⟩
  else if digitI n 4 0 = 2 then ⟨4, o, f, 0, nameS (digitI n 4 5)⟩
  else ⟨5, o, f, 0, ⟨#[]⟩⟩
theorem digX_nnP {b x : Int} (hb : 1 ≤ b) (hx : 0 ≤ x ∧ x < 1099511627776) : ∀ j, 0 ≤ digX b x j ∧ digX b x j < 1099511627776
  | 0 => hx
  | j + 1 => by
    obtain ⟨h1, h2⟩ := digX_nnP hb hx j
    have h3 : 0 ≤ (digX b x j).tdiv b := Int.tdiv_nonneg h1 (by omega)
    have h4 : (digX b x j).tdiv b ≤ digX b x j := by
      rw [Int.tdiv_eq_ediv_of_nonneg h1]
      exact Int.ediv_le_self _ h1
    have h5 : IntKind.i64.wrap ((digX b x j).tdiv b) = (digX b x j).tdiv b := by rw [IntKind.wrap_i64]; omega
    unfold digX
    rw [h5]
    omega
theorem digitP_lt (x : Int) {b : Int} (hb : 1 ≤ b) (i : Nat) : 0 ≤ digitI x b i ∧ digitI x b i < b := by
  unfold digitI
  have h := digX_nnP hb (indexP_lt x (k := 1099511627776) (by omega) (by omega)) i
  exact ⟨Int.tmod_nonneg _ h.1, Int.tmod_lt_of_pos _ (by omega)⟩
theorem dP (x b : Int) (i : Nat) (hb : b ≠ 0) (hi : i < 1000) : Pure Tryz.prog 25 [.c (cI x), .c (cI b), .c (cI i)] (.c (cI (digitI x b i))) := digit_pure x b i hb hi
theorem eff_pure (n : Int) (w : Bool) : Pure Tryz.prog 41 [.c (cI n), .c (cB w)] (.agg (encE' (effS n w))) := by
  refine pure_of teOk Tryz.func41 (by kernel_rfl) (c := _) rfl (N := 51) rfl (rs := [Go.ResultVar.cell 4 81]) rfl (by simp) fun base A w0 hA => ?_
  have d1 := dP n 4 1 (by decide) (by decide)
  have d2 := dP n 4 2 (by decide) (by decide)
  have d3 := dP n 16 3 (by decide) (by decide)
  have d5 := dP n 4 5 (by decide) (by decide)
  have d0 := dP n 4 0 (by decide) (by decide)
  have b3 := digitP_lt n (b := 16) (by omega) 3
  have hw : IntKind.i64.wrap (digitI n 16 3 - 5) = digitI n 16 3 - 5 := by rw [IntKind.wrap_i64]; omega
  unfold effS
  generalize digitI n 4 1 = x1 at *
  generalize digitI n 4 2 = x2 at *
  generalize digitI n 16 3 = x3 at *
  generalize digitI n 4 5 = x5 at *
  generalize digitI n 4 0 = x0 at *
  have n1 := name_pure x1
  have n2 := name_pure x2
  have n5 := name_pure x5
  refine AW.st teOk [] (by simp [-Option.some.injEq] <;> rfl) trivial ?_
  refine AW.st teOk [.fz (.c (cI x1)), .fz (.c (cS (nameS x1))), .fz (.c (cI x2)), .fz (.c (cS (nameS x2)))] (by simp [-Option.some.injEq] <;> rfl) ?_ ?_
  · exact ⟨d1, n1, d2, n2⟩
  refine AW.st teOk [.fz (.c (cI x3))] (by simp [hw, -Option.some.injEq] <;> rfl) ?_ ?_
  · exact d3
  refine AW.mid (fun s => ∃ e : EfS, e = (if w = true then ⟨1, nameS x1, nameS x2, x3 - 5, nameS x5⟩ else if x0 = 0 then ⟨2, nameS x1, nameS x2, x3 - 5, ⟨#[]⟩⟩ else if x0 = 1 then ⟨3, nameS x1, nameS x2, x3 - 5, ⟨#[]⟩⟩ else if x0 = 2 then ⟨4, nameS x1, nameS x2, 0, nameS x5⟩ else ⟨5, nameS x1, nameS x2, 0, ⟨#[]⟩⟩) ∧ s = ⟨[(4, .c (.ptr 0 0 0)), (5, .c (.ptr 1 0 0))], [(0, ⟨5, [encE' ⟨0, ⟨#[]⟩, ⟨#[]⟩, 0, ⟨#[]⟩⟩]⟩), (1, ⟨5, [encE' e]⟩)], 2⟩) ?_ ?_
  · refine AW.block ?_
    refine AW.st teOk [] (by simp [-Option.some.injEq] <;> rfl) trivial ?_
    refine AW.iff w (by simp) (fun h => ?_) (fun h => ?_)
    · refine AW.st teOk [] (by simp [-Option.some.injEq] <;> rfl) trivial ?_
      refine AW.st teOk [] (by simp [-Option.some.injEq] <;> rfl) trivial ?_
      refine AW.text teOk (ans := [.fz (.c (cI x5)), .fz (.c (cS (nameS x5)))]) (by simp [-Option.some.injEq] <;> rfl) ?_ ?_
      · exact ⟨d5, n5⟩
      refine ⟨_, Weak.normS hA [4, 5] [(4, 0), (5, 1)] [] [] 2 _ (by simp) (by simp) (by simp), _, rfl, by simp [h]⟩
    · refine AW.st teOk [.fz (.c (cI x0))] (by simp [-Option.some.injEq] <;> rfl) ?_ ?_
      · exact d0
      refine AW.iff (x0 == 0) (by simp) (fun h0 => ?_) (fun h0 => ?_)
      · have h0 : x0 = 0 := by simpa using h0
        refine AW.st teOk [] (by simp [-Option.some.injEq] <;> rfl) trivial ?_
        refine AW.text teOk (ans := []) (by simp [-Option.some.injEq] <;> rfl) ?_ ?_
        · trivial
        refine ⟨_, Weak.normS hA [4, 5] [(4, 0), (5, 1)] [] [] 2 _ (by simp) (by simp) (by simp), _, rfl, by simp [h, h0]⟩
      have h0 : x0 ≠ 0 := by simpa using h0
      refine AW.st teOk [.fz (.c (cI x0))] (by simp [-Option.some.injEq] <;> rfl) ?_ ?_
      · exact d0
      refine AW.iff (x0 == 1) (by simp) (fun h1 => ?_) (fun h1 => ?_)
      · have h1 : x0 = 1 := by simpa using h1
        refine AW.st teOk [] (by simp [-Option.some.injEq] <;> rfl) trivial ?_
        refine AW.text teOk (ans := []) (by simp [-Option.some.injEq] <;> rfl) ?_ ?_
        · trivial
        refine ⟨_, Weak.normS hA [4, 5] [(4, 0), (5, 1)] [] [] 2 _ (by simp) (by simp) (by simp), _, rfl, by simp [h, h0, h1]⟩
      have h1 : x0 ≠ 1 := by simpa using h1
      refine AW.st teOk [.fz (.c (cI x0))] (by simp [-Option.some.injEq] <;> rfl) ?_ ?_
      · exact d0
      refine AW.iff (x0 == 2) (by simp) (fun h2 => ?_) (fun h2 => ?_)
      · have h2 : x0 = 2 := by simpa using h2
        refine AW.st teOk [] (by simp [-Option.some.injEq] <;> rfl) trivial ?_
        refine AW.text teOk (ans := [.fz (.c (cI x5)), .fz (.c (cS (nameS x5)))]) (by simp [-Option.some.injEq] <;> rfl) ?_ ?_
        · exact ⟨d5, n5⟩
        refine ⟨_, Weak.normS hA [4, 5] [(4, 0), (5, 1)] [] [] 2 _ (by simp) (by simp) (by simp), _, rfl, by simp [h, h0, h1, h2]⟩
      have h2 : x0 ≠ 2 := by simpa using h2
      refine AW.text teOk (ans := []) (by simp [-Option.some.injEq] <;> rfl) ?_ ?_
      · trivial
      refine ⟨_, Weak.normS hA [4, 5] [(4, 0), (5, 1)] [] [] 2 _ (by simp) (by simp) (by simp), _, rfl, by simp [h, h0, h1, h2]⟩
  · rintro s ⟨e, rfl, rfl⟩
    refine AW.st teOk [] (by simp [-Option.some.injEq] <;> rfl) trivial ?_
    refine AW.ret ⟨.inr rfl, _, Weak.refl _, ?_⟩
    simp
end Go.Proofs.YtphlhadgcfndhaaGreat.Abs
end
section
namespace Go.Proofs.YtphlhadgcfndhaaGreat.Abs
open Go Go.RowKit
set_option linter.unusedVariables false
set_option linter.unusedSimpArgs false
set_option maxHeartbeats 4000000
set_option maxRecDepth 8000
theorem posS_le (l : List Str) (s : Str) : posS l s ≤ l.length := List.countP_le_length
@[simp] theorem flat_encs' (l : List Str) : flatO ⟨1, l.map encs⟩ = true := flatO_of fun e he => by
  obtain ⟨x, _, rfl⟩ := List.mem_map.1 he
  rfl
theorem one_encs {l : List Str} {e : List Cell} (h : e ∈ l.map encs) : e.length = 1 := by
  obtain ⟨x, _, rfl⟩ := List.mem_map.1 h
  rfl
theorem rins_pure (l : List Str) (s : Str) (h : AscS l) (hl : l.length < 1000000000) : Pure Tryz.prog 44 [.c (encSs l), .c (cS s)] (.c (encSs (insL l s))) := by
  refine pure_of teOk Tryz.func44 (by kernel_rfl) (c := _) rfl (N := 49) rfl (rs := [Go.ResultVar.tmp 4]) rfl (by simp) fun base A w0 hA => ?_
  have hp := posS_le l s
  refine AW.st teOk [] (by simp [-Option.some.injEq] <;> rfl) trivial ?_
  refine AW.st teOk [] (by simp [-Option.some.injEq] <;> rfl) trivial ?_
  refine AW.mid (fun s' => s' = ⟨[(0, .c (encSs l)), (1, .c (cS s)), (5, .c (cI (posS l s)))], [], 0⟩) ?_ ?_
  · refine AW.block (AW.loop (fun m s' => ∃ k : Nat, m = l.length - k ∧ k ≤ posS l s ∧ s' = ⟨[(0, .c (encSs l)), (1, .c (cS s)), (5, .c (cI k))], [], 0⟩) _ (Weak.normT hA [0, 1, 5] [] [] 0 _ (by simp) (by simp) (by simp)) ⟨0, rfl, Nat.zero_le _, by simp⟩ ?_)
    rintro m s' ⟨k, rfl, hk, rfl⟩
    refine AW.seq ?_
    by_cases hkl : k < l.length
    · obtain ⟨x, hx⟩ : ∃ e, l[k]? = some e := ⟨_, List.getElem?_eq_getElem hkl⟩
      have hc := cnt_split (monoS h s) hx
      obtain ⟨_, rfl⟩ := List.getElem?_eq_some_iff.1 hx
      cases hlt : sLt l[k] s with
      | true =>
        have hk1 := hc.1 hlt
        unfold sLt at hlt
        refine AW.st teOk [] (by simp [hkl, hlt, -Option.some.injEq] <;> rfl) ?_ ?_
        · first | trivial | omega | (simp; omega)
        refine AW.iff true (by simp) (fun _ => AW.skip ?_) (fun h => by cases h)
        refine AW.block ?_
        refine AW.text teOk (ans := []) (by simp [-Option.some.injEq] <;> rfl) ?_ ?_
        · trivial
        refine ⟨_, _, Weak.normT hA [0, 1, 5] [] [] 0 _ (by simp) (by simp) (by simp), ?_, k + 1, rfl, hk1, ?_⟩
        · omega
        · simp
          exact wrap_s k (by omega)
      | false =>
        have hk1 : posS l s ≤ k := hc.2 hlt
        have hkp : k = posS l s := by omega
        unfold sLt at hlt
        refine AW.st teOk [] (by simp [hkl, hlt, -Option.some.injEq] <;> rfl) ?_ ?_
        · first | trivial | omega | (simp; omega)
        refine AW.iff false (by simp) (fun h => by cases h) (fun _ => AW.exit (x_then (x_then (blockA_exit ?_))))
        rw [← hkp]
        exact ⟨_, Weak.normT hA [0, 1, 5] [] [] 0 _ (by simp) (by simp) (by simp), by simp⟩
    · have hkp : k = posS l s := by omega
      refine AW.st teOk [] (by simp [hkl, -Option.some.injEq] <;> rfl) ?_ ?_
      · first | trivial | omega | (simp; omega)
      refine AW.iff false (by simp) (fun h => by cases h) (fun _ => AW.exit (x_then (x_then (blockA_exit ?_))))
      rw [← hkp]
      exact ⟨_, Weak.normT hA [0, 1, 5] [] [] 0 _ (by simp) (by simp) (by simp), by simp⟩
  rintro s' rfl
  obtain ⟨k, hk⟩ : ∃ k, k = posS l s := ⟨_, rfl⟩
  rw [← hk] at hp ⊢
  cases hh : hasS l s with
  | true =>
    have hx : ∃ hkl : k < l.length, l[k] = s := by
      unfold hasS at hh
      rw [← hk] at hh
      cases hq : l[k]? with
      | none => rw [hq] at hh; simp at hh
      | some x =>
        rw [hq] at hh
        obtain ⟨h1, h2⟩ := List.getElem?_eq_some_iff.1 hq
        exact ⟨h1, h2.trans (by simpa using hh)⟩
    obtain ⟨hkl, hx⟩ := hx
    have hins : insL l s = l := by unfold insL; rw [if_pos hh]
    rw [hins]
    refine AW.seq ?_
    refine AW.st teOk [] (by simp [hkl, hx, -Option.some.injEq] <;> rfl) ?_ ?_
    · first | trivial | omega | (simp; omega)
    refine AW.iff true (by simp) (fun _ => ?_) (fun h => by cases h)
    refine AW.st teOk [] (by simp [-Option.some.injEq] <;> rfl) ?_ ?_
    · simp [growOk]
      omega
    refine AW.ret ⟨.inr rfl, _, Weak.freeze 14 ⟨1, l.map encs⟩ [] _ (by simp) (flat_encs' l), ?_⟩
    simp
  | false =>
    have hins : insL l s = l.take k ++ s :: l.drop k := by unfold insL; rw [if_neg (by simp [hh]), ← hk]
    rw [hins]
    refine AW.mid (fun s' => s' = ⟨[(0, .c (encSs l)), (1, .c (cS s)), (5, .c (cI k))], [], 0⟩) ?_ ?_
    · by_cases hkl : k < l.length
      · have hne : (l[k].toList == s.toList) = false := by
          cases hq : (l[k].toList == s.toList) with
          | false => rfl
          | true =>
            have e : l[k] = s := str_ext (by simpa using hq)
            have : hasS l s = true := by
              unfold hasS
              rw [← hk, List.getElem?_eq_getElem hkl]
              simp [e]
            rw [this] at hh
            cases hh
        refine AW.st teOk [] (by simp [hkl, hne, -Option.some.injEq] <;> rfl) ?_ ?_
        · first | trivial | omega | (simp; omega)
        refine AW.iff false (by simp) (fun h => by cases h) (fun _ => AW.skip ?_)
        exact ⟨_, Weak.normT hA [0, 1, 5] [] [] 0 _ (by simp) (by simp) (by simp), by simp⟩
      · refine AW.st teOk [] (by simp [hkl, -Option.some.injEq] <;> rfl) ?_ ?_
        · first | trivial | omega | (simp; omega)
        refine AW.iff false (by simp) (fun h => by cases h) (fun _ => AW.skip ?_)
        exact ⟨_, Weak.normT hA [0, 1, 5] [] [] 0 _ (by simp) (by simp) (by simp), by simp⟩
    rintro s' rfl
    have htl : (l.take k).length = k := by rw [List.length_take]; omega
    have hmin : min k l.length = k := by omega
    refine AW.st teOk [] (by simp [-Option.some.injEq] <;> rfl) ?_ ?_
    · simp [growOk, hmin]
      exact ⟨by omega, by omega, fun e he => one_encs (List.mem_of_mem_take he)⟩
    refine AW.to (s2 := ⟨[(0, .c (encSs l)), (1, .c (cS s)), (5, .c (cI k)), (6, .c (.ref 0 0 k))], [(0, ⟨1, (l.take k).map encs⟩)], 1⟩) (Weak.normT hA [0, 1, 5, 6] [(6, 0)] [] 1 _ (by simp) (by simp) (by simp; rw [← List.map_take]; exact flat_encs' _)) (by simp [hmin]) ?_
    have hdm : (l.map encs).drop k = (l.drop k).map encs := List.map_drop.symm
    obtain ⟨D, hD⟩ : ∃ D, D = l.drop k := ⟨_, rfl⟩
    have hDl : D.length = l.length - k := by rw [hD, List.length_drop]
    rw [← hD] at hdm ⊢
    cases D with
    | nil =>
      have he : ((l.map encs).drop k).isEmpty = true := by rw [hdm]; rfl
      refine AW.dr mixed teOk [] (by simp [he, hmin, -Option.some.injEq] <;> rfl) (by kernel_rfl) (by kernel_rfl) ?_ ?_
      · simp [growOk, allP, hmin]
        omega
      have hcat : (l.map encs).take k ++ [[cS s]] = (l.take k ++ [s]).map encs := by rw [List.map_append, List.map_take]; rfl
      have hlen : (l.take k ++ [s]).length = k + 1 := by rw [List.length_append, htl]; rfl
      rw [hcat]
      refine AW.ret ⟨.inr rfl, _, Weak.freeze 4 ⟨1, (l.take k ++ [s]).map encs⟩ [] _ (by simp) (flat_encs' _), ?_⟩
      generalize l.take k ++ [s] = R at *
      have htk : (R.map encs).take (k + 1) = R.map encs := List.take_of_length_le (by rw [List.length_map, hlen]; exact Nat.le_refl _)
      simp [htk, hlen]
    | cons d D =>
      have he : ((l.map encs).drop k).isEmpty = false := by rw [hdm]; rfl
      refine AW.dr mixed teOk [] (by simp [he, hmin, -Option.some.injEq] <;> rfl) (by kernel_rfl) (by kernel_rfl) ?_ ?_
      · simp [growOk, allP, hmin]
        exact ⟨by omega, by omega, by omega, fun e he => one_encs (List.mem_of_mem_drop he)⟩
      have hcat : (l.map encs).take k ++ [cS s] :: (l.map encs).drop k = (l.take k ++ s :: d :: D).map encs := by rw [List.map_append, List.map_take, hdm]; rfl
      have hlen : (l.take k ++ s :: d :: D).length = k + 1 + (l.length - k) := by rw [List.length_append, htl, List.length_cons, hDl]; omega
      rw [hcat]
      refine AW.ret ⟨.inr rfl, _, Weak.freeze 8 ⟨1, (l.take k ++ s :: d :: D).map encs⟩ [] _ (by simp) (flat_encs' _), ?_⟩
      generalize l.take k ++ s :: d :: D = R at *
      have htk : (R.map encs).take (k + 1 + (l.length - k)) = R.map encs := List.take_of_length_le (by rw [List.length_map, hlen]; exact Nat.le_refl _)
      simp [htk, hlen]
end Go.Proofs.YtphlhadgcfndhaaGreat.Abs
end
section
namespace Go.Proofs.YtphlhadgcfndhaaGreat.Abs
open Go Go.RowKit
set_option linter.unusedVariables false
set_option linter.unusedSimpArgs false
def rdD (σ : Sig) : Nat → Cell → Cell
  | n + 1, .ref id lo m => match look id σ with
    | some o => if lo + m ≤ o.es.length then .row o.k false (((o.es.drop lo).take m).map fun e => e.map (rdD σ n)) else .any
    | none => .any
  | n + 1, .ptr id i off => match look id σ with
    | some o => match o.es[i]? with
      | some e => .fad ((e.drop off).map (rdD σ n))
      | none => .any
    | none => .any
  | 0, .ref _ _ _ => .any
  | 0, .ptr _ _ _ => .any
  | _, c => c
def rdDV (σ : Sig) : AVal → AVal
  | .c x => .c (rdD σ 3 x)
  | .agg cs => .agg (cs.map (rdD σ 3))
  | _ => .any
section
variable {base : Nat} {w0 w : World} {β : Nat → Bnd}
theorem rdD_rep {σ : Sig} {A : Nat → Prop} (I : Inv base A w0 β σ w) : ∀ (n : Nat) {c : Cell} {v : Value}, RepC w (okOf base A w β) β c v → RepF w (rdOk w β (okOf base A w β)) (rdD σ n c) v := by
  have lift : ∀ {c : Cell} {v : Value}, RepF w (okOf base A w β) c v → RepF w (rdOk w β (okOf base A w β)) c v := fun h => h.mono fun b hb => ⟨⟨hb.2.1, .inl hb⟩, rfl⟩
  have frz : ∀ (n : Nat) {c : Cell} {v : Value}, frozenC c = true → RepC w (okOf base A w β) β c v → RepF w (rdOk w β (okOf base A w β)) (rdD σ n c) v := fun n {c v} hf hr => by
    have e : rdD σ n c = c := by cases n <;> cases c <;> first | rfl | (cases hf)
    rw [e]
    exact lift (hr.frozen hf)
  intro n
  induction n with
  | zero =>
    intro c v hr
    cases c with
    | ref id lo m => exact .any v hr.one
    | ptr id i off => exact .any v hr.one
    | any => exact frz 0 rfl hr
    | sc u => exact frz 0 rfl hr
    | bit => exact frz 0 rfl hr
    | row k t es => exact frz 0 rfl hr
    | fad cs => exact frz 0 rfl hr
    | fn g cs => exact frz 0 rfl hr
  | succ n ih =>
    intro c v hr
    cases c with
    | any => exact frz _ rfl hr
    | sc u => exact frz _ rfl hr
    | bit => exact frz _ rfl hr
    | row k t es => exact frz _ rfl hr
    | fad cs => exact frz _ rfl hr
    | fn g cs => exact frz _ rfl hr
    | ref id lo m =>
      simp only [rdD]
      split
      · rename_i o ho
        split
        · rename_i hlen
          rcases ref_live I ho (.c hr) with ⟨b, k, cap, hb, hcap, rfl⟩ | ⟨_, hoe, rfl, rfl, ad, rfl⟩
          · have O := I.obj id b k cap o hb ho
            obtain ⟨es, hes⟩ : ∃ es, es = ((o.es.drop lo).take m).map fun e => e.map (rdD σ n) := ⟨_, rfl⟩
            rw [← hes]
            have hl : es.length = m := by rw [hes, List.length_map, List.length_take, List.length_drop]; omega
            have cell : ∀ (q : Nat) (e : List Cell), es[q]? = some e → e.length = k ∧ ∀ (j : Nat) (c : Cell), e[j]? = some c → ∃ v, w.cell? (Addr.add ⟨b, lo * k, none⟩ (q * k + j)) = some v ∧ RepF w (rdOk w β (okOf base A w β)) c v := fun q e he => by
              rw [hes, List.getElem?_map] at he
              cases hz : ((o.es.drop lo).take m)[q]? with
              | none => rw [hz] at he; cases he
              | some e0 =>
                rw [hz] at he
                cases he
                have hq : q < m := by
                  have := (List.getElem?_eq_some_iff.1 hz).1
                  rw [List.length_take, List.length_drop] at this
                  omega
                rw [List.getElem?_take_of_lt hq, List.getElem?_drop] at hz
                refine ⟨by rw [List.length_map]; exact O.hlen e0 (List.mem_of_getElem? hz), fun j c hc => ?_⟩
                rw [List.getElem?_map] at hc
                cases hy : e0[j]? with
                | none => rw [hy] at hc; cases hc
                | some c0 =>
                  rw [hy] at hc
                  cases hc
                  obtain ⟨v, hv, hr⟩ := objCell I hb ho hz hy
                  refine ⟨v, ?_, ih hr⟩
                  rw [Addr.add_lit, ← hv]
                  congr 2
                  rw [Nat.add_mul]
                  omega
            have hk : ∀ e ∈ es, e.length = k := fun e he => by
              obtain ⟨q, hq⟩ := List.mem_iff_getElem?.1 he
              exact (cell q e hq).1
            have := RepF.row (w := w) (ok := rdOk w β (okOf base A w β)) (k := k) (t := false) (es := es) (A := some ⟨b, lo * k, none⟩) (cap := cap - lo) (fun q j => (w.cell? (Addr.add ⟨b, lo * k, none⟩ (q * k + j))).getD undef) (by omega) (fun h => by cases h) hk (fun _ => ⟨_, rfl, (I.lo id b k cap hb).2, .inr ⟨id, k, cap, hb⟩⟩)
              (fun ad had q e he j hj => by
                cases had
                obtain ⟨v, hv, _⟩ := (cell q e he).2 j _ (List.getElem?_eq_getElem (by rw [hk e (List.mem_of_getElem? he)]; exact hj))
                rw [hv]; rfl)
              (fun q e he j c hc => by
                obtain ⟨v, hv, hr⟩ := (cell q e he).2 j c hc
                rw [hv]; exact hr)
            rw [hl] at this
            rw [O.hk]
            exact this
          · rw [hoe]
            exact RepF.row (es := []) (cap := 0) (fun _ _ => undef) (Nat.le_refl _) (fun h => by cases h) (by simp) (by simp) (fun ad _ i e h => by simp at h) (fun i e h => by simp at h)
        · exact .any v hr.one
      · exact .any v hr.one
    | ptr id i off =>
      simp only [rdD]
      split
      · rename_i o ho
        split
        · rename_i e he
          obtain ⟨b, k, cap, hb, rfl⟩ := ptr_live I ho (.c hr)
          have cell : ∀ (j : Nat) (c : Cell), ((e.drop off).map (rdD σ n))[j]? = some c → ∃ v, w.cell? (Addr.add ⟨b, i * k + off, none⟩ j) = some v ∧ RepF w (rdOk w β (okOf base A w β)) c v := fun j c hc => by
            rw [List.getElem?_map] at hc
            cases hy : (e.drop off)[j]? with
            | none => rw [hy] at hc; cases hc
            | some c0 =>
              rw [hy] at hc
              cases hc
              rw [List.getElem?_drop] at hy
              obtain ⟨v, hv, hr⟩ := objCell I hb ho he hy
              refine ⟨v, ?_, ih hr⟩
              rw [Addr.add_lit, ← hv]
              congr 2
              omega
          exact .fad (fun j => (w.cell? (Addr.add ⟨b, i * k + off, none⟩ j)).getD undef) ⟨(I.lo id b k cap hb).2, .inr ⟨id, k, cap, hb⟩⟩
            (fun j hj => by
              obtain ⟨v, hv, _⟩ := cell j _ (List.getElem?_eq_getElem hj)
              rw [hv]; rfl)
            (fun j c hc => by
              obtain ⟨v, hv, hr⟩ := cell j c hc
              rw [hv]; exact hr)
        · exact .any v hr.one
      · exact .any v hr.one
theorem rdDV_rep {σ : Sig} {A : Nat → Prop} (I : Inv base A w0 β σ w) {c : AVal} {v : Value} (hr : RepV w (okOf base A w β) β c v) : RepV w (rdOk w β (okOf base A w β)) noB (rdDV σ c) v := by
  cases hr with
  | any => exact .any _
  | c h => exact .c (.fz (rdD_rep I 3 h))
  | agg h =>
    refine .agg ⟨by rw [List.length_map]; exact h.1, fun i c v hc hv => ?_⟩
    rename_i cs vs
    rw [List.getElem?_map] at hc
    cases hx : cs[i]? with
    | none => rw [hx] at hc; cases hc
    | some x =>
      rw [hx] at hc
      cases hc
      exact .fz (rdD_rep I 3 (h.2 i x v hx hv))
  | tup => exact .any _
  | cut => exact .any _
end
theorem SemC.deep {P : Program} {g : FuncId} {s : St} {xs : List AVal} {r : AVal} (hr : plainV r = true) (hP : Pure P g (xs.map (rdDV s.σ)) r) : SemC P g xs s r s.σ s.fr := by
  refine ⟨hP.1, fun A base w0 n β a w vs I hvs => ?_⟩
  refine (hP.2 w (rdOk w β (okOf base A.own w β)) vs (fun b hb => hb.1) ⟨by rw [List.length_map]; exact hvs.1, fun i x v hx hv => ?_⟩).mono ?_
  · rw [List.getElem?_map] at hx
    cases hq : xs[i]? with
    | none => rw [hq] at hx; cases hx
    | some y =>
      rw [hq] at hx
      cases hx
      exact rdDV_rep I.inv (hvs.2 i y v hq hv)
  · rintro e w' ⟨v, rfl, hv, hB⟩
    obtain ⟨I', hok⟩ := I.inv.more hB
    exact ⟨v, β, rfl, I', BLe.refl' β, hok, I.fresh, plain_rep hv hr⟩
/-! ### a chain of operations -/
def RA (P : Program) (base : Nat) (A : Old) (w0 : World) (n : Nat) (ops : Array Oper) (k : Nat) (s : St) (Q : Exit → St → Prop) : Prop :=
  ∀ β a w, InvS base A w0 n β s a w → wpOps P ops (fun e a' w' => ∃ s' β', Q e s' ∧ InvS base A w0 n β' s' a' w') (List.range' k (ops.size - k)) a w
section
variable {P : Program} {base : Nat} {A : Old} {w0 : World} {n : Nat}
theorem AW.regionA {id : Nat} {ops : Array Oper} {s : St} {Q : Exit → St → Prop} (h : RA P base A w0 n ops 0 s Q) : AW P base A w0 n (.region id ops false) s Q := fun β a w I => by
  refine wp_region ?_
  rw [List.range_eq_range']
  exact h β a w I
theorem RA.done {ops : Array Oper} {k : Nat} {s : St} {Q : Exit → St → Prop} (hk : ops.size ≤ k) (h : Q .normal s) : RA P base A w0 n ops k s Q := fun β a w I => by
  rw [show ops.size - k = 0 by omega]
  exact ⟨s, β, h, I⟩
theorem RA.pre {T : TyEnv} (hT : TOk P T) {ops : Array Oper} {k : Nat} {s s' : St} {Q : Exit → St → Prop} (j : Nat) (ans : List Ans) {ans' : List Ans} {p : Prop} (hj : k + j ≤ ops.size) (he : evOps P T n ops ((ops.toList.drop k).take j) s ans = some (s', ans', p)) (hp : p) (h : RA P base A w0 n ops (k + j) s' Q) : RA P base A w0 n ops k s Q := fun β a w I => by
  rw [show ops.size - k = j + (ops.size - (k + j)) by omega]
  exact evOps_pre hT j k (ops.size - (k + j)) (by omega) he hp I fun β' a' w' I' => h β' a' w' I'
/-- A function that captures two variables is made, and handed to a reader beside a slice. -/
theorem RA.lendF {ops : Array Oper} {k : Nat} {o1 o2 : Oper} {g f : FuncId} {x p q : Operand} {d1 d2 : Nat} {ats : Array TypeId} {s : St} {r : AVal} {Q : Exit → St → Prop} (h1 : ops[k]? = some o1) (h2 : ops[k + 1]? = some o2) (hop1 : o1.op = .makeFunc (.func g) #[] #[p, q]) (hop2 : o2.op = .call { callee := .value (.func f), args := #[x, .tmp d1], argTypes := ats }) (hd1 : o1.dst = some d1) (hd2 : o2.dst = some d2) (hg1 : o1.guard = none) (hg2 : o2.guard = none) (hdn1 : d1 < n) (hdn2 : d2 < n) (hx : ∀ t, x = .tmp t → t ≠ d1) (hr : plainV r = true)
    {cp cq : Cell} (hcp : opval s.τ p = .c cp) (hcq : opval s.τ q = .c cq) (hP : Pure P f [rdDV s.σ (opval s.τ x), .c (.fn g [rdD s.σ 3 cp, rdD s.σ 3 cq])] r)
    (h : RA P base A w0 n ops (k + 2) ⟨putT d2 r (putT d1 .any s.τ), s.σ, s.fr⟩ Q) : RA P base A w0 n ops k s Q := fun β a w I => by
  have hlt := (Array.getElem?_eq_some_iff.1 h2).1
  rw [show ops.size - k = (ops.size - (k + 2)) + 1 + 1 by omega, List.range'_succ, List.range'_succ, wpOps_cons]
  unfold wpOp
  rw [h1]
  simp only
  have hw1 : Region.wanted o1 (yielded ops a.tmps) = true := by unfold Region.wanted; rw [hg1]
  rw [hw1, if_pos rfl]
  left
  unfold Oper.wp
  obtain ⟨F, hF⟩ : ∃ F : Value, F = .func (.func g) #[] #[a.eval p, a.eval q] := ⟨_, rfl⟩
  have hrun1 : (execOp a.eval o1).run P w = .ok (.value F) w := by
    simp [execOp, hop1, Instr.makeFunc, hF]
  rw [hrun1, Oper.upon_value, hd1]
  have I1 := put_inv (fr' := s.fr) I I.inv (BLe.refl' β) (fun x hx => ⟨hx, rfl⟩) I.fresh (d := some d1) (v := .any) (u := F) (.any _) (τ' := putT d1 .any s.τ) (by unfold putD; simp only; rw [if_pos hdn1])
  rw [wpOps_cons]
  unfold wpOp
  rw [h2]
  simp only
  have hw2 : Region.wanted o2 (yielded ops (a.put (some d1) F).tmps) = true := by unfold Region.wanted; rw [hg2]
  rw [hw2, if_pos rfl]
  left
  unfold Oper.wp
  obtain ⟨fn, hfn, hname, hbody⟩ := hP.1
  have hsz : d1 < a.tmps.size := by rw [I.size]; exact hdn1
  have e1 : (a.put (some d1) F).eval (.tmp d1) = F := by
    simp [Act.put, Act.eval, hsz]
  have e2 : (a.put (some d1) F).eval x = a.eval x := by
    cases x with
    | tmp t =>
      have := hx t rfl
      simp [Act.put, Act.eval, Array.getD_eq_getD_getElem?, Array.getElem?_setIfInBounds, Ne.symm this]
    | const v => rfl
    | global g => rfl
    | func f => rfl
  have e3 : (a.put (some d1) F).eval (.func f) = .func (.func f) #[] #[] := rfl
  have hrun2 : (execOp (a.put (some d1) F).eval o2).run P w = .ok (.enter f #[a.eval x, F]) w := by
    obtain ⟨b, hb⟩ := Option.isSome_iff_exists.1 hbody
    simp [execOp, hop2, resolve, Deferred.ofValue, invoke, callFunc, hfn, hname, hb, e1, e2, e3]
    simpa using hname
  rw [hrun2, Oper.upon_enter]
  have hpv : RepF w (rdOk w β (okOf base A.own w β)) (rdD s.σ 3 cp) (a.eval p) := by
    have := opval_rep I p
    rw [hcp] at this
    cases this with
    | c h => exact rdD_rep I.inv 3 h
  have hqv : RepF w (rdOk w β (okOf base A.own w β)) (rdD s.σ 3 cq) (a.eval q) := by
    have := opval_rep I q
    rw [hcq] at this
    cases this with
    | c h => exact rdD_rep I.inv 3 h
  refine (hP.2 w (rdOk w β (okOf base A.own w β)) #[a.eval x, F] (fun b hb => hb.1) ⟨rfl, fun i y v hy hv => ?_⟩).mono ?_
  · match i, hy, hv with
    | 0, hy, hv =>
      cases hy
      cases hv
      exact rdDV_rep I.inv (opval_rep I x)
    | 1, hy, hv =>
      cases hy
      have hv : some F = some v := hv
      cases hv
      rw [hF]
      refine .c (.fz (.fn _ rfl fun j c v hc hv => ?_))
      match j, hc, hv with
      | 0, hc, hv => cases hc; cases hv; exact hpv
      | 1, hc, hv => cases hc; cases hv; exact hqv
      | j + 2, hc, hv => simp at hc
    | i + 2, hy, hv => simp at hy
  · rintro e w' ⟨v, rfl, hv, hB⟩
    obtain ⟨I', hok⟩ := I1.inv.more hB
    have := put_inv (fr' := s.fr) I1 I' (BLe.refl' β) hok I1.fresh (d := some d2) (v := r) (u := v) (plain_rep hv hr) (τ' := putT d2 r (putT d1 .any s.τ)) (by unfold putD; simp only; rw [if_pos hdn2])
    rw [hd2]
    exact h β _ w' this
end
end Go.Proofs.YtphlhadgcfndhaaGreat.Abs
end
section
namespace Go.Proofs.YtphlhadgcfndhaaGreat.Abs
open Go Go.RowKit
set_option linter.unusedVariables false
set_option linter.unusedSimpArgs false
set_option maxHeartbeats 4000000
set_option maxRecDepth 4000
theorem AW.loop0 {P : Program} {base : Nat} {A : Old} {w0 : World} {n : Nat} {c : Code} {s : St} {Q : Exit → St → Prop} (h : AW P base A w0 n c s (thenA (fun _ => False) Q)) : AW P base A w0 n (.loop c) s Q :=
  AW.loop (fun m t => t = s) 0 (Weak.refl _) rfl (fun m t ht => by
    subst ht
    refine h.mono fun e s' hq => ⟨s', Weak.refl _, ?_⟩
    cases e with
    | normal => exact hq.elim
    | exit id => exact hq
    | goto l => exact hq
    | ret => exact hq
    | panic ch => exact hq
    | outgrown => exact hq)
theorem AW.loop1 {P : Program} {base : Nat} {A : Old} {w0 : World} {n : Nat} {c : Code} {s : St} {Q : Exit → St → Prop} (J : St → Prop) (h0 : AW P base A w0 n c s (thenA (fun s' => ∃ s1, Weak A s' s1 ∧ J s1) Q)) (h1 : ∀ s1, J s1 → AW P base A w0 n c s1 (thenA (fun _ => False) Q)) : AW P base A w0 n (.loop c) s Q :=
  AW.loop (fun m t => m = 1 ∧ t = s ∨ m = 0 ∧ J t) 1 (Weak.refl _) (.inl ⟨rfl, rfl⟩) (fun m t ht => by
    rcases ht with ⟨rfl, rfl⟩ | ⟨rfl, hJ⟩
    · refine h0.mono fun e s' hq => ⟨s', Weak.refl _, ?_⟩
      cases e with
      | normal =>
        obtain ⟨s1, hw, hJ⟩ := hq
        exact ⟨s1, 0, hw, by omega, .inr ⟨rfl, hJ⟩⟩
      | exit id => exact hq
      | goto l => exact hq
      | ret => exact hq
      | panic ch => exact hq
      | outgrown => exact hq
    · refine (h1 t hJ).mono fun e s' hq => ⟨s', Weak.refl _, ?_⟩
      cases e with
      | normal => exact hq.elim
      | exit id => exact hq
      | goto l => exact hq
      | ret => exact hq
      | panic ch => exact hq
      | outgrown => exact hq)
theorem Pure.anyF {P : Program} {f : FuncId} {a : AVal} {F : Cell} {r : AVal} (h : Pure P f [a, .c .any] r) : Pure P f [a, .c F] r := Pure.le h (.cons (.refl _) (.cons (.c (.any _)) .nil)) (.refl _)
theorem insSt_pure (n : Nat) (hn : n ≤ 1) : Pure Tryz.prog 118 [.c .any, .c (cI 0), .c (cI n), .c .any] (.tup []) := by
  refine pure_of teOk Tryz.func118 (by kernel_rfl) (c := _) rfl (N := 53) rfl (rs := []) rfl (by simp) fun base A w0 hA => ?_
  refine AW.st teOk [] (by simp [-Option.some.injEq] <;> rfl) trivial ?_
  refine AW.block (AW.loop0 ?_)
  refine AW.seq ?_
  refine AW.st teOk [] (by simp [-Option.some.injEq] <;> rfl) trivial ?_
  refine AW.iff false (by simp; omega) (fun h => by cases h) (fun _ => AW.exit (x_then (x_then (blockA_exit ⟨.inl rfl, _, Weak.refl _, rfl⟩))))
theorem insInt_pure (n : Nat) (hn : n ≤ 1) : Pure Tryz.prog 123 [.c .any, .c (cI 0), .c (cI n), .c .any] (.tup []) := by
  refine pure_of teOk Tryz.func123 (by kernel_rfl) (c := _) rfl (N := 53) rfl (rs := []) rfl (by simp) fun base A w0 hA => ?_
  refine AW.st teOk [] (by simp [-Option.some.injEq] <;> rfl) trivial ?_
  refine AW.block (AW.loop0 ?_)
  refine AW.seq ?_
  refine AW.st teOk [] (by simp [-Option.some.injEq] <;> rfl) trivial ?_
  refine AW.iff false (by simp; omega) (fun h => by cases h) (fun _ => AW.exit (x_then (x_then (blockA_exit ⟨.inl rfl, _, Weak.refl _, rfl⟩))))
theorem stabSt_pure (n : Nat) (hn : n ≤ 1) : Pure Tryz.prog 100 [.c .any, .c (cI n), .c .any] (.tup []) := by
  refine pure_of teOk Tryz.func100 (by kernel_rfl) (c := _) rfl (N := 63) rfl (rs := []) rfl (by simp) fun base A w0 hA => ?_
  refine AW.st teOk [] (by simp [-Option.some.injEq] <;> rfl) trivial ?_
  refine AW.st teOk [] (by simp [-Option.some.injEq] <;> rfl) trivial ?_
  refine AW.seq (AW.block (AW.loop0 ?_))
  refine AW.seq ?_
  refine AW.st teOk [] (by simp [-Option.some.injEq] <;> rfl) trivial ?_
  refine AW.iff false (by simp; omega) (fun h => by cases h) (fun _ => AW.exit (x_then (x_then (blockA_exit ?_))))
  refine AW.st teOk [.fz (.tup [])] (by simp [-Option.some.injEq] <;> rfl) ?_ ?_
  · exact insSt_pure n hn
  refine AW.block (AW.loop0 ?_)
  refine AW.seq ?_
  refine AW.st teOk [] (by simp [-Option.some.injEq] <;> rfl) trivial ?_
  refine AW.iff false (by simp; omega) (fun h => by cases h) (fun _ => AW.exit (x_then (x_then (blockA_exit ⟨.inl rfl, _, Weak.refl _, rfl⟩))))
theorem stabInt_pure (n : Nat) (hn : n ≤ 1) : Pure Tryz.prog 109 [.c .any, .c (cI n), .c .any] (.tup []) := by
  refine pure_of teOk Tryz.func109 (by kernel_rfl) (c := _) rfl (N := 63) rfl (rs := []) rfl (by simp) fun base A w0 hA => ?_
  refine AW.st teOk [] (by simp [-Option.some.injEq] <;> rfl) trivial ?_
  refine AW.st teOk [] (by simp [-Option.some.injEq] <;> rfl) trivial ?_
  refine AW.seq (AW.block (AW.loop0 ?_))
  refine AW.seq ?_
  refine AW.st teOk [] (by simp [-Option.some.injEq] <;> rfl) trivial ?_
  refine AW.iff false (by simp; omega) (fun h => by cases h) (fun _ => AW.exit (x_then (x_then (blockA_exit ?_))))
  refine AW.st teOk [.fz (.tup [])] (by simp [-Option.some.injEq] <;> rfl) ?_ ?_
  · exact insInt_pure n hn
  refine AW.block (AW.loop0 ?_)
  refine AW.seq ?_
  refine AW.st teOk [] (by simp [-Option.some.injEq] <;> rfl) trivial ?_
  refine AW.iff false (by simp; omega) (fun h => by cases h) (fun _ => AW.exit (x_then (x_then (blockA_exit ⟨.inl rfl, _, Weak.refl _, rfl⟩))))
theorem sortSt_pure (F : Cell) : Pure Tryz.prog 61 [.c (.sc (.slice none 0 0)), .c F] (.tup []) := by
  refine Pure.anyF ?_
  refine pure_of teOk Tryz.func61 (by kernel_rfl) (c := _) rfl (N := 9) rfl (rs := []) rfl (by simp) fun base A w0 hA => ?_
  refine AW.text teOk (ans := [.fz (.tup [])]) (by simp [-Option.some.injEq] <;> rfl) ?_ ?_
  · exact Pure.le (stabSt_pure 0 (by omega)) (.cons (.c (.any _)) (.cons (.refl _) (.cons (.refl _) .nil))) (.refl _)
  exact ⟨.inl rfl, _, Weak.refl _, rfl⟩
theorem sort0_pure (F : Cell) : Pure Tryz.prog 76 [.c (.sc (.slice none 0 0)), .c F] (.tup []) := by
  refine Pure.anyF ?_
  refine pure_of teOk Tryz.func76 (by kernel_rfl) (c := _) rfl (N := 9) rfl (rs := []) rfl (by simp) fun base A w0 hA => ?_
  refine AW.text teOk (ans := [.fz (.tup [])]) (by simp [-Option.some.injEq] <;> rfl) ?_ ?_
  · exact Pure.le (stabInt_pure 0 (by omega)) (.cons (.c (.any _)) (.cons (.refl _) (.cons (.refl _) .nil))) (.refl _)
  exact ⟨.inl rfl, _, Weak.refl _, rfl⟩
theorem sort1_pure (F : Cell) : Pure Tryz.prog 76 [.c (.row 1 false [[cI 0]]), .c F] (.tup []) := by
  refine Pure.anyF ?_
  refine pure_of teOk Tryz.func76 (by kernel_rfl) (c := _) rfl (N := 9) rfl (rs := []) rfl (by simp) fun base A w0 hA => ?_
  refine AW.text teOk (ans := [.fz (.tup [])]) (by simp [-Option.some.injEq] <;> rfl) ?_ ?_
  · exact Pure.le (stabInt_pure 1 (by omega)) (.cons (.c (.any _)) (.cons (.refl _) (.cons (.refl _) .nil))) (.refl _)
  exact ⟨.inl rfl, _, Weak.refl _, rfl⟩
theorem comp0_pure : Pure Tryz.prog 64 [.c (.sc (.slice none 0 0)), .c .any] (.c (.sc (.slice none 0 0))) := by
  refine pure_of teOk Tryz.func64 (by kernel_rfl) (c := _) rfl (N := 66) rfl (rs := [Go.ResultVar.tmp 4]) rfl (by simp) fun base A w0 hA => ?_
  refine AW.st teOk [] (by simp [-Option.some.injEq] <;> rfl) trivial ?_
  refine AW.seq ?_
  refine AW.st teOk [] (by simp [-Option.some.injEq] <;> rfl) trivial ?_
  refine AW.iff true (by simp) (fun _ => ?_) (fun h => by cases h)
  refine AW.st teOk [] (by simp [-Option.some.injEq] <;> rfl) trivial ?_
  refine AW.ret ⟨.inr rfl, _, Weak.refl _, rfl⟩
end Go.Proofs.YtphlhadgcfndhaaGreat.Abs
end
section
namespace Go.Proofs.YtphlhadgcfndhaaGreat.Abs
open Go Go.RowKit
set_option linter.unusedVariables false
set_option linter.unusedSimpArgs false
set_option maxHeartbeats 4000000
set_option maxRecDepth 4000
@[simp] abbrev nilC : Cell := .sc (.slice none 0 0)
@[simp] abbrev evC (e : EfS) : List Cell := [cB true, cI 101, cI 1, cI 0, .row 5 false [encE' e], cB false, nilC, cI 1, cI 2]
theorem chain1_pure (e : EfS) : Pure Tryz.prog 34 [.c (.row 9 false [evC e])] (.tup [.c nilC, .c (cB true)]) := by
  refine pure_of teOk Tryz.func34 (by kernel_rfl) (c := _) rfl (N := 44) rfl (rs := [Go.ResultVar.tmp 2, Go.ResultVar.tmp 3]) rfl (by simp) fun base A w0 hA => ?_
  refine AW.st teOk [] (by simp [-Option.some.injEq] <;> rfl) trivial ?_
  refine AW.st teOk [] (by simp [-Option.some.injEq] <;> rfl) trivial ?_
  refine AW.seq ?_
  refine AW.st teOk [] (by simp [-Option.some.injEq] <;> rfl) trivial ?_
  refine AW.block (AW.loop1 (fun s => s = ⟨[(2, .c nilC), (3, .c (cB false)), (4, .c nilC), (8, .c (.row 9 false [evC e])), (9, .c (cI 1)), (10, .c (cI 1))], [], 0⟩) ?_ ?_)
  · refine AW.st teOk [] (by simp [-Option.some.injEq] <;> rfl) trivial ?_
    refine AW.seq ?_
    refine AW.iff true (by simp) (fun _ => AW.skip ?_) (fun h => by cases h)
    refine AW.seq (AW.block ?_)
    refine AW.st teOk [] (by simp [-Option.some.injEq] <;> rfl) trivial ?_
    refine AW.st teOk [] (by simp [-Option.some.injEq] <;> rfl) trivial ?_
    refine AW.iff false (by simp) (fun h => by cases h) (fun _ => AW.skip ?_)
    refine AW.text teOk (ans := []) (by simp [-Option.some.injEq] <;> rfl) ?_ ?_
    · trivial
    exact ⟨_, Weak.normT hA [2, 3, 4, 8, 9, 10] [] [] 0 _ (by simp) (by simp) (by simp), by simp⟩
  rintro s rfl
  refine AW.st teOk [] (by simp [-Option.some.injEq] <;> rfl) trivial ?_
  refine AW.seq ?_
  refine AW.iff false (by simp) (fun h => by cases h) (fun _ => AW.exit (x_then (x_then (blockA_exit ?_))))
  refine AW.st teOk [.fz (.tup [])] (by simp [-Option.some.injEq] <;> rfl) ?_ ?_
  · exact sortSt_pure _
  refine AW.st teOk [.fz (.c nilC)] (by simp [-Option.some.injEq] <;> rfl) ?_ ?_
  · exact Pure.anyF comp0_pure
  refine AW.seq ?_
  refine AW.st teOk [] (by simp [-Option.some.injEq] <;> rfl) trivial ?_
  refine AW.block (AW.loop0 ?_)
  refine AW.seq ?_
  refine AW.st teOk [] (by simp [-Option.some.injEq] <;> rfl) trivial ?_
  refine AW.iff false (by simp) (fun h => by cases h) (fun _ => AW.exit (x_then (x_then (blockA_exit ?_))))
  refine AW.st teOk [] (by simp [-Option.some.injEq] <;> rfl) trivial ?_
  refine AW.ret ⟨.inr rfl, _, Weak.refl _, rfl⟩
@[simp] abbrev upC (e : EfS) : List Cell := [cI 101, cI 1, cI 0, .row 5 false [encE' e]]
theorem block0_pure (e : EfS) : Pure Tryz.prog 35 [.c nilC, .agg (upC e)] (.c (cI 0)) := by
  refine pure_of teOk Tryz.func35 (by kernel_rfl) (c := _) rfl (N := 21) rfl (rs := [Go.ResultVar.tmp 4]) rfl (by simp) fun base A w0 hA => ?_
  refine AW.st teOk [] (by simp [-Option.some.injEq] <;> rfl) trivial ?_
  refine AW.seq ?_
  refine AW.st teOk [] (by simp [-Option.some.injEq] <;> rfl) trivial ?_
  refine AW.block (AW.loop0 ?_)
  refine AW.st teOk [] (by simp [-Option.some.injEq] <;> rfl) trivial ?_
  refine AW.seq ?_
  refine AW.iff false (by simp) (fun h => by cases h) (fun _ => AW.exit (x_then (x_then (blockA_exit ?_))))
  refine AW.st teOk [] (by simp [-Option.some.injEq] <;> rfl) trivial ?_
  refine AW.ret ⟨.inr rfl, _, Weak.refl _, rfl⟩
theorem byCall0_pure (cs : List Cell) : Pure Tryz.prog 38 [.c (.fad cs), .c nilC] (.tup []) := by
  refine pure_of teOk Tryz.func38 (by kernel_rfl) (c := _) rfl (N := 7) rfl (rs := []) rfl (by simp) fun base A w0 hA => ?_
  refine AW.st teOk [] (by simp [-Option.some.injEq] <;> rfl) trivial ?_
  refine AW.to (s2 := ⟨[(1, .c nilC), (2, .c (.fad [.fad cs]))], [], 0⟩) ((Weak.freeze 0 ⟨1, [[.fad cs]]⟩ [] _ (by simp) rfl).trans (Weak.normT hA [1, 2] [] [] 0 _ (by simp) (by simp) (by simp [mapAt_nil]))) (by simp [mapAt_nil]) ?_
  refine AW.text teOk (ans := [.fz (.tup [])]) (by simp [-Option.some.injEq] <;> rfl) ?_ ?_
  · exact sort0_pure _
  exact ⟨.inl rfl, _, Weak.refl _, rfl⟩
theorem byCall1_pure (cs : List Cell) : Pure Tryz.prog 38 [.c (.fad cs), .c (.row 1 false [[cI 0]])] (.tup []) := by
  refine pure_of teOk Tryz.func38 (by kernel_rfl) (c := _) rfl (N := 7) rfl (rs := []) rfl (by simp) fun base A w0 hA => ?_
  refine AW.st teOk [] (by simp [-Option.some.injEq] <;> rfl) trivial ?_
  refine AW.to (s2 := ⟨[(1, .c (.row 1 false [[cI 0]])), (2, .c (.fad [.fad cs]))], [], 0⟩) ((Weak.freeze 0 ⟨1, [[.fad cs]]⟩ [] _ (by simp) rfl).trans (Weak.normT hA [1, 2] [] [] 0 _ (by simp) (by simp) (by simp [mapAt_nil]))) (by simp [mapAt_nil]) ?_
  refine AW.text teOk (ans := [.fz (.tup [])]) (by simp [-Option.some.injEq] <;> rfl) ?_ ?_
  · exact sort1_pure _
  exact ⟨.inl rfl, _, Weak.refl _, rfl⟩

/-! ### the functions that choose -/
theorem idx1_pure (g : FuncId) (caps : List Cell) (hf : ∀ c ∈ caps, frozenC c = true) (b : Bool) (hP : Pure Tryz.prog g (.c (cI 0) :: caps.map .c) (.c (cB b))) : Pure Tryz.prog 69 [.c (.row 1 false [[cI 0]]), .c (.fn g caps)] (.c (cI (if b = true then 0 else -1))) := by
  unfold frozenC at hf
  have hf' := eq_true hf
  refine pure_of teOk Tryz.func69 (by kernel_rfl) (c := _) rfl (N := 19) rfl (rs := [Go.ResultVar.tmp 4]) rfl (by simp) fun base A w0 hA => ?_
  refine AW.st teOk [] (by simp [-Option.some.injEq] <;> rfl) trivial ?_
  refine AW.seq ?_
  refine AW.st teOk [] (by simp [-Option.some.injEq] <;> rfl) trivial ?_
  refine AW.block (AW.loop1 (fun s => b = false ∧ s = ⟨[(7, .c (cI 1)), (8, .c (cI 1))], [], 0⟩) ?_ ?_)
  · refine AW.st teOk [] (by simp [-Option.some.injEq] <;> rfl) trivial ?_
    refine AW.seq ?_
    refine AW.iff true (by simp) (fun _ => AW.skip ?_) (fun h => by cases h)
    refine AW.seq (AW.block ?_)
    refine AW.st teOk [] (by simp [-Option.some.injEq] <;> rfl) trivial ?_
    refine AW.st teOk [.fz (.c (cB b))] (by simp [hf', -Option.some.injEq] <;> rfl) ?_ ?_
    · exact hP
    refine AW.iff b (by simp) (fun hb => ?_) (fun hb => AW.skip ?_)
    · subst hb
      refine AW.st teOk [] (by simp [-Option.some.injEq] <;> rfl) trivial ?_
      refine AW.ret ⟨.inr rfl, _, Weak.refl _, rfl⟩
    · subst hb
      refine AW.text teOk (ans := []) (by simp [-Option.some.injEq] <;> rfl) ?_ ?_
      · trivial
      exact ⟨_, Weak.normT hA [7, 8] [] [] 0 _ (by simp) (by simp) (by simp), rfl, by simp⟩
  rintro s ⟨rfl, rfl⟩
  refine AW.st teOk [] (by simp [-Option.some.injEq] <;> rfl) trivial ?_
  refine AW.seq ?_
  refine AW.iff false (by simp) (fun h => by cases h) (fun _ => AW.exit (x_then (x_then (blockA_exit ?_))))
  refine AW.st teOk [] (by simp [-Option.some.injEq] <;> rfl) trivial ?_
  refine AW.ret ⟨.inr rfl, _, Weak.refl _, rfl⟩
theorem has1_pure (g : FuncId) (caps : List Cell) (hf : ∀ c ∈ caps, frozenC c = true) (b : Bool) (hP : Pure Tryz.prog g (.c (cI 0) :: caps.map .c) (.c (cB b))) : Pure Tryz.prog 71 [.c (.row 1 false [[cI 0]]), .c (.fn g caps)] (.c (cB b)) := by
  refine pure_of teOk Tryz.func71 (by kernel_rfl) (c := _) rfl (N := 9) rfl (rs := [Go.ResultVar.tmp 4]) rfl (by simp) fun base A w0 hA => ?_
  refine AW.st teOk [] (by simp [-Option.some.injEq] <;> rfl) trivial ?_
  refine AW.st teOk [.fz (.c (cI (if b = true then 0 else -1)))] (by simp [-Option.some.injEq] <;> rfl) ?_ ?_
  · exact idx1_pure g caps hf b hP
  refine AW.ret ⟨.inr rfl, _, Weak.refl _, ?_⟩
  cases b <;> simp
theorem w11_pure (W : Cell) (hW : frozenC W = true) : Pure Tryz.prog 72 [.c (cI 0), .c (.fad [cI 0]), .c (.fad [W])] (.c (cB false)) := by
  refine pure_of teOk Tryz.func72 (by kernel_rfl) (c := _) rfl (N := 14) rfl (rs := [Go.ResultVar.tmp 4]) rfl (by simp) fun base A w0 hA => ?_
  refine AW.st teOk [] (by simp [-Option.some.injEq] <;> rfl) trivial ?_
  refine AW.st teOk [] (by simp [-Option.some.injEq] <;> rfl) trivial ?_
  refine AW.ret ⟨.inr rfl, _, Weak.refl _, rfl⟩
theorem w1_pure (W : Cell) (hW : frozenC W = true) : Pure Tryz.prog 70 [.c (cI 0), .c (.fad [.row 1 false [[cI 0]]]), .c (.fad [W])] (.c (cB true)) := by
  refine pure_of teOk Tryz.func70 (by kernel_rfl) (c := _) rfl (N := 9) rfl (rs := [Go.ResultVar.tmp 4]) rfl (by simp) fun base A w0 hA => ?_
  refine AW.st teOk [] (by simp [-Option.some.injEq] <;> rfl) trivial ?_
  refine AW.to (s2 := ⟨[(1, .c (.fad [.row 1 false [[cI 0]]])), (2, .c (.fad [W])), (3, .c (.fad [cI 0])), (4, .c (cB false))], [], 0⟩) ((Weak.freeze 0 ⟨1, [[cI 0]]⟩ [] _ (by simp) rfl).trans (Weak.normT hA [1, 2, 3, 4] [] [] 0 _ (by simp) (by simp) (by simp [mapAt_nil]))) (by simp [mapAt_nil]) ?_
  refine AW.st teOk [.fz (.c (cB false))] (by simp [-Option.some.injEq] <;> rfl) ?_ ?_
  · exact has1_pure _ [.fad [cI 0], .fad [W]] (by simp) false (w11_pure W hW)
  refine AW.ret ⟨.inr rfl, _, Weak.refl _, rfl⟩
end Go.Proofs.YtphlhadgcfndhaaGreat.Abs
end
