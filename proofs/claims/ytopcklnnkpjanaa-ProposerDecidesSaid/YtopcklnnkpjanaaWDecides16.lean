/- ProposerDecides. -/
import Derived.Test.YtopcklnnkpjanaaWRounds16
import Derived.Test.YtopcklnnkpjanaaWSum
namespace Go.Proofs.Ytopcklnnkpjanaa.Abs
open Go Go.RowKit
set_option linter.unusedVariables false
set_option linter.unusedSimpArgs false
set_option maxHeartbeats 4000000
theorem hasN_mem {l : List Int} {a : Int} : hasN l a = true ↔ a ∈ l := by
  unfold hasN
  rw [List.any_eq_true]
  constructor
  · rintro ⟨x, hx, h⟩
    rw [decide_eq_true_eq] at h
    exact h ▸ hx
  · intro h
    exact ⟨a, h, by simp⟩
theorem insN_mem {l : List Int} {a y : Int} : y ∈ insN l a ↔ y = a ∨ y ∈ l := by
  unfold insN
  split
  · rename_i h
    rw [hasN_mem] at h
    constructor
    · exact fun hy => .inr hy
    · rintro (rfl | hy)
      · exact h
      · exact hy
  · have h2 : y ∈ l ↔ y ∈ l.take (posN l a) ∨ y ∈ l.drop (posN l a) := by
      rw [← List.mem_append, List.take_append_drop]
    rw [List.mem_append, List.mem_cons, h2]
    constructor
    · rintro (h | h | h)
      · exact .inr (.inl h)
      · exact .inl h
      · exact .inr (.inr h)
    · rintro (h | h | h)
      · exact .inr (.inl h)
      · exact .inl h
      · exact .inr (.inr h)
theorem insN_new {l : List Int} {a : Int} (h : a ∉ l) : (insN l a).length = l.length + 1 := by
  unfold insN
  rw [if_neg (by rw [hasN_mem]; exact h), List.length_append, List.length_cons, List.length_take, List.length_drop]
  have : posN l a ≤ l.length := List.countP_le_length
  omega
theorem insN_old {l : List Int} {a : Int} (h : a ∈ l) : insN l a = l := by
  unfold insN
  rw [if_pos (hasN_mem.2 h)]
/-- The acceptors that were seen, of twelve. -/
def seenC (l : List Int) : List Cell := (List.range 12).map fun x : Nat => cB (decide ((x : Int) ∈ l))
theorem seen_len (l : List Int) : (seenC l).length = 12 := by simp [seenC]
theorem seen_drop (l : List Int) {a : Nat} (h : a < 12) : (seenC l).drop a = cB (decide ((a : Int) ∈ l)) :: (seenC l).drop (a + 1) := by
  rw [List.drop_eq_getElem_cons (by rw [seen_len]; exact h)]
  congr 1
  simp [seenC]
theorem seen_set (l : List Int) {a : Nat} (h : a < 12) : (seenC l).take a ++ cB true :: (seenC l).drop (a + 1) = seenC (insN l a) := by
  rw [show (seenC l).take a ++ cB true :: (seenC l).drop (a + 1) = (seenC l).take a ++ [cB true] ++ (seenC l).drop (a + 1) by simp]
  apply List.ext_getElem?
  intro i
  have hg : ∀ l, (seenC l)[i]? = if i < 12 then some (cB (decide ((i : Int) ∈ l))) else none := fun l => by
    unfold seenC
    rw [List.getElem?_map]
    by_cases hi : i < 12
    · rw [if_pos hi, List.getElem?_range hi]; rfl
    · rw [if_neg hi, List.getElem?_eq_none (by simp; omega)]; rfl
  have hl := seen_len l
  by_cases h1 : i < a
  · rw [List.append_assoc, List.getElem?_append_left (by rw [List.length_take]; omega), List.getElem?_take_of_lt h1, hg, hg]
    rw [if_pos (by omega), if_pos (by omega)]
    congr 3
    rw [insN_mem]
    simp
    omega
  · by_cases h2 : i = a
    · subst h2
      rw [List.append_assoc, List.getElem?_append_right (by rw [List.length_take]; omega), hg, if_pos h]
      have : i - ((seenC l).take i).length = 0 := by rw [List.length_take]; omega
      rw [this]
      simp [insN_mem]
    · rw [List.getElem?_append_right (by rw [List.length_append, List.length_take]; simp; omega), List.getElem?_drop, List.length_append, List.length_take]
      have : a + 1 + (i - (min a (seenC l).length + [cB true].length)) = i := by simp; omega
      rw [this, hg, hg]
      by_cases h3 : i < 12
      · rw [if_pos h3, if_pos h3]
        congr 3
        rw [insN_mem]
        simp
        omega
      · rw [if_neg h3, if_neg h3]
theorem seen_frz (l : List Int) : ∀ x ∈ seenC l, frozenC x = true := fun x hx => by
  obtain ⟨i, _, rfl⟩ := List.mem_map.1 hx
  rfl
theorem seen_zero : seenC [] = [cB false, cB false, cB false, cB false, cB false, cB false, cB false, cB false, cB false, cB false, cB false, cB false] := by
  simp [seenC, List.range, List.range.loop]
theorem u8_mod (x n : Int) (h : 0 ≤ x ∧ x < 256) (hn : 1 ≤ n ∧ n ≤ 12) : ∃ a : Nat, Int.tmod (IntKind.i64.wrap x) n = a ∧ (a : Int) < n := by
  have hw : IntKind.i64.wrap x = x := by rw [IntKind.wrap_i64]; omega
  rw [hw, Int.tmod_eq_emod_of_nonneg h.1]
  have h1 := Int.emod_nonneg x (b := n) (by omega)
  have h2 := Int.emod_lt_of_pos x (b := n) (by omega)
  exact ⟨(x % n).toNat, by omega, by omega⟩
theorem u8_twelve (x : Int) (h : 0 ≤ x ∧ x < 256) : 1 ≤ IntKind.i64.wrap (1 + Int.tmod (IntKind.i64.wrap x) 12) ∧ IntKind.i64.wrap (1 + Int.tmod (IntKind.i64.wrap x) 12) ≤ 12 := by
  have hw : IntKind.i64.wrap x = x := by rw [IntKind.wrap_i64]; omega
  rw [hw, Int.tmod_eq_emod_of_nonneg h.1, IntKind.wrap_i64]
  omega
theorem pdecides_law (acc : Int) (v : V2) (fr : List Int) (hw0 : (Lit.int .u8 acc).wf = true) (hw1 : v.length ≤ 9223372036854775807 ∧ ∀ x ∈ v, (Lit.int .i64 x.1).wf = true ∧ (Lit.int .i64 x.2).wf = true)
    (hw2 : fr.length ≤ 9223372036854775807 ∧ ∀ x ∈ fr, (Lit.int .u8 x).wf = true) :
    Pure Try.prog 8 [.c (.sc (.int .u8 acc)), .c (encV v), .c (encB fr)] (.c (cB true)) := by
  have hfb := Fr.Bytes.of hw2.2
  have hacc := Fr.wf_u8 hw0
  refine pure_of teOk Try.func8 (by kernel_rfl) (c := _) rfl (N := 100) rfl (rs := [Go.ResultVar.tmp 6]) rfl (by simp) fun base A w0 hA => ?_
  refine AW.st teOk [] (by simp [-Option.some.injEq] <;> rfl) trivial ?_
  refine AW.mid (fun s => v.length ≤ 20 ∧ Val v ∧ fr.length ≤ 60 ∧ s = ⟨[(0, .c (.sc (.int .u8 acc))), (1, .c (encV v)), (2, .c (encB fr))], [], 0⟩) ?_ ?_
  · by_cases h20 : v.length ≤ 20
    · have h20' : ¬ (20 : Int) < v.length := by omega
      by_cases h0 : valI v = 0
      · have hv := ok20_ok (v := v) (by simp [ok20, h20, h0])
        by_cases h60 : fr.length ≤ 60
        · have h60' : ¬ (60 : Int) < fr.length := by omega
          refine AW.st teOk [.fz (.c (cI 0))] (by simp [h20', h60', -Option.some.injEq] <;> rfl) ?_ ?_
          · exact h0 ▸ val_pure v (by omega)
          refine AW.iff false (by simp) (fun h => by cases h) (fun _ => AW.skip ?_)
          exact ⟨_, Weak.normT hA [0, 1, 2] [] [] 0 _ (by simp) (by simp) (by simp), h20, hv.2, h60, by simp⟩
        · have h60' : (60 : Int) < fr.length := by omega
          refine AW.st teOk [.fz (.c (cI 0))] (by simp [h20', h60', -Option.some.injEq] <;> rfl) ?_ ?_
          · exact h0 ▸ val_pure v (by omega)
          refine AW.iff true (by simp) (fun _ => ?_) (fun h => by cases h)
          refine AW.st teOk [.fz (.c (cB true))] (by simp [-Option.some.injEq] <;> rfl) ?_ ?_
          · exact awake16_pure
          refine AW.ret ⟨.inr rfl, _, Weak.refl _, ?_⟩
          simp
      · have h0' : (valI v != 0) = true := by simpa using h0
        refine AW.st teOk [.fz (.c (cI (valI v)))] (by simp [h20', h0', -Option.some.injEq] <;> rfl) ?_ ?_
        · exact val_pure v (by omega)
        refine AW.iff true (by simp) (fun _ => ?_) (fun h => by cases h)
        refine AW.st teOk [.fz (.c (cB true))] (by simp [-Option.some.injEq] <;> rfl) ?_ ?_
        · exact awake16_pure
        refine AW.ret ⟨.inr rfl, _, Weak.refl _, ?_⟩
        simp
    · have h20' : (20 : Int) < v.length := by omega
      refine AW.st teOk [] (by simp [h20', -Option.some.injEq] <;> rfl) trivial ?_
      refine AW.iff true (by simp) (fun _ => ?_) (fun h => by cases h)
      refine AW.st teOk [.fz (.c (cB true))] (by simp [-Option.some.injEq] <;> rfl) ?_ ?_
      · exact awake16_pure
      refine AW.ret ⟨.inr rfl, _, Weak.refl _, ?_⟩
      simp
  rintro s ⟨h20, hv, h60, rfl⟩
  refine AW.mid (fun s => ∃ n : Int, (1 ≤ n ∧ n ≤ 12) ∧ s = ⟨[(1, .c (encV v)), (2, .c (encB fr)), (7, .c (cI n))], [], 0⟩) ?_ ?_
  · refine AW.text teOk (ans := []) (by simp [-Option.some.injEq] <;> rfl) ?_ ?_
    · first | trivial | omega | (simp [allP, growOk] <;> omega)
    exact ⟨_, Weak.normT hA [1, 2, 7] [] [] 0 _ (by simp) (by simp) (by simp), _, u8_twelve acc hacc, by simp⟩
  rintro s ⟨n, hn, rfl⟩
  have b0 := PrB.new n hv h20
  have q0 := pnew_pure n hv (by omega)
  refine AW.st teOk [.fz (.agg (encPr ⟨n, v, 1, [], false⟩))] (by simp [-Option.some.injEq] <;> rfl) ?_ ?_
  · exact q0
  refine AW.st teOk [] (by simp [-Option.some.injEq] <;> rfl) trivial ?_
  refine AW.st teOk [] (by simp [-Option.some.injEq] <;> rfl) trivial ?_
  refine AW.seq ?_
  refine AW.st teOk [] (by simp [-Option.some.injEq] <;> rfl) trivial ?_
  refine AW.block (AW.loop (fun m s => ∃ (i : Nat) (acks : List Int), m = fr.length - i ∧ i ≤ fr.length ∧ AscN acks ∧ acks.length ≤ i ∧ s = ⟨[(1, .c (encV v)), (2, .c (encB fr)), (7, .c (cI n)), (8, .c (.ptr 0 0 0)), (9, .c (.ptr 1 0 0)), (10, .c (cI acks.length)), (11, .c (cI i))], [(1, ⟨12, [seenC acks]⟩), (0, ⟨5, [encPr ⟨n, v, 1, acks, decide (2 * (acks.length : Int) > n)⟩]⟩)], 2⟩) _ (Weak.normT hA [1, 2, 7, 8, 9, 10, 11] [(8, 0), (9, 1)] [] 2 _ (by simp) (by simp) (by simp)) ⟨0, [], rfl, Nat.zero_le _, List.Pairwise.nil, Nat.le_refl _, ?_⟩ ?_)
  · simp [seen_zero]
    omega
  rintro m s ⟨i, acks, rfl, hi, hasc, hal, rfl⟩
  refine AW.seq ?_
  refine AW.st teOk [] (by simp [-Option.some.injEq] <;> rfl) trivial ?_
  refine AW.iff (decide (i < fr.length)) (by simp) (fun h => AW.skip ?_) (fun h => AW.exit (x_then (x_then (blockA_exit ?_))))
  · rw [decide_eq_true_eq] at h
    obtain ⟨x, hx⟩ : ∃ x, fr[i]? = some x := ⟨_, List.getElem?_eq_getElem h⟩
    obtain ⟨a, ha, han⟩ := u8_mod x n (hfb x (List.mem_of_getElem? hx)) hn
    refine AW.seq (AW.block ?_)
    refine AW.st teOk [] (by simp [hx, ha, -Option.some.injEq] <;> rfl) ?_ ?_
    · omega
    obtain ⟨acks', hk'⟩ : ∃ k, k = if 2 * (acks.length : Int) > n then acks else insN acks a := ⟨_, rfl⟩
    have hlen : acks'.length ≤ acks.length + 1 := by
      rw [hk']
      split
      · omega
      · exact insN_len acks a
    have hasc' : AscN acks' := by
      rw [hk']
      split
      · exact hasc
      · exact insN_asc hasc a
    have hrec : recvS ⟨n, v, 1, acks, decide (2 * (acks.length : Int) > n)⟩ a 1 v = (⟨n, v, 1, acks', decide (2 * (acks'.length : Int) > n)⟩, false) := by
      unfold recvS
      by_cases hd : 2 * (acks.length : Int) > n
      · rw [if_pos (.inl (by simpa using hd)), hk', if_pos hd]
      · rw [if_neg (by simp; omega), if_pos (leI_refl hv), hk', if_neg hd]
    have hw := two_len acks.length (by omega)
    have hw' := two_len acks'.length (by omega)
    have hsd := seen_drop acks (a := a) (by omega)
    have hss := seen_set acks (a := a) (by omega)
    have hsl := seen_len acks
    refine AW.mid (fun s => s = ⟨[(1, .c (encV v)), (2, .c (encB fr)), (7, .c (cI n)), (8, .c (.ptr 0 0 0)), (9, .c (.ptr 1 0 0)), (10, .c (cI acks'.length)), (11, .c (cI i)), (12, .c (cI a))], [(1, ⟨12, [seenC acks']⟩), (0, ⟨5, [encPr ⟨n, v, 1, acks, decide (2 * (acks.length : Int) > n)⟩]⟩)], 2⟩) ?_ ?_
    · by_cases hin : (a : Int) ∈ acks
      · have he : acks' = acks := by
          rw [hk', insN_old hin]
          split <;> rfl
        rw [he]
        refine AW.st teOk [] (by simp [hsd, hin, -Option.some.injEq] <;> rfl) ?_ ?_
        · omega
        refine AW.iff false (by simp) (fun h => by cases h) (fun _ => AW.skip ?_)
        exact ⟨_, Weak.normT hA [1, 2, 7, 8, 9, 10, 11, 12] [(8, 0), (9, 1)] [] 2 _ (by simp) (by simp) (by simp; exact seen_frz _), by simp⟩
      · by_cases hd : 2 * (acks.length : Int) > n
        · have he : acks' = acks := by rw [hk', if_pos hd]
          rw [he]
          have hd' : ¬ 2 * (acks.length : Int) ≤ n := by omega
          refine AW.st teOk [] (by simp [hsd, hin, hw, hd', -Option.some.injEq] <;> rfl) ?_ ?_
          · omega
          refine AW.iff false (by simp) (fun h => by cases h) (fun _ => AW.skip ?_)
          exact ⟨_, Weak.normT hA [1, 2, 7, 8, 9, 10, 11, 12] [(8, 0), (9, 1)] [] 2 _ (by simp) (by simp) (by simp; exact seen_frz _), by simp⟩
        · have he : acks' = insN acks a := by rw [hk', if_neg hd]
          have hl1 := insN_new hin
          have hd' : 2 * (acks.length : Int) ≤ n := by omega
          refine AW.st teOk [] (by simp [hsd, hin, hw, hd', -Option.some.injEq] <;> rfl) ?_ ?_
          · omega
          refine AW.iff true (by simp) (fun _ => ?_) (fun h => by cases h)
          have ha11 : a ≤ 11 := by omega
          refine AW.st teOk [] (by simp [hss, hsl, ha11, -Option.some.injEq] <;> rfl) ?_ ?_
          · omega
          refine AW.text teOk (ans := []) (by simp [-Option.some.injEq] <;> rfl) ?_ ?_
          · trivial
          have hw1 := wrap_s acks.length (by omega)
          exact ⟨_, Weak.normT hA [1, 2, 7, 8, 9, 10, 11, 12] [(8, 0), (9, 1)] [] 2 _ (by simp) (by simp) (by simp; exact seen_frz _), by rw [he, hl1]; simp [hw1]⟩
    rintro s rfl
    have hok : PrOk ⟨n, v, 1, acks, decide (2 * (acks.length : Int) > n)⟩ := ⟨hv, by show v.length < _; omega, hasc, by show acks.length < _; omega, by show (0 : Int) ≤ 1 ∧ (1 : Int) < _; omega⟩
    have p1 := precv_pure hok a 1 (v := v) (by omega)
    rw [hrec] at p1
    dsimp only at p1
    refine AW.st teOk [.fz (.tup [.agg (encPr ⟨n, v, 1, acks', decide (2 * (acks'.length : Int) > n)⟩), .c (cB false)])] (by simp [-Option.some.injEq] <;> rfl) ?_ ?_
    · exact p1
    refine AW.seq ?_
    refine AW.st teOk [] (by simp [hw', -Option.some.injEq] <;> rfl) trivial ?_
    refine AW.iff false (by simp) (fun h => by cases h) (fun _ => AW.skip ?_)
    refine AW.text teOk (ans := []) (by simp [-Option.some.injEq] <;> rfl) ?_ ?_
    · trivial
    refine AW.text teOk (ans := []) (by simp [-Option.some.injEq] <;> rfl) ?_ ?_
    · trivial
    refine ⟨_, _, (Weak.normT hA [1, 2, 7, 8, 9, 10, 11] [(8, 0), (9, 1)] [] 2 _ (by simp) (by simp) (by simp; exact seen_frz _)).trans (Weak.to (s1 := ⟨_, [(0, _), (1, _)], _⟩) (by simp <;> exact ⟨rfl, ⟨rfl, rfl⟩, rfl⟩) (Weak.swap [] (by decide))), ?_, i + 1, acks', rfl, h, hasc', by omega, ?_⟩
    · omega
    · simp
      exact wrap_s i (by omega)
  · refine AW.st teOk [.fz (.c (cB true)), .fz (.c (cB true))] (by simp [-Option.some.injEq] <;> rfl) ?_ ?_
    · have := eqVec_pure v v (by omega)
      simp at this
      exact ⟨this, awake16_pure⟩
    refine AW.ret ⟨.inr rfl, _, Weak.refl _, ?_⟩
    simp
end Go.Proofs.Ytopcklnnkpjanaa.Abs
