/- Joined for the claim: WXact WXperf -/
import Derived.Test.YtphlhadgcfndhaaDoorWXkwJd
import Derived.Test.YtphlhadgcfndhaaDoorJd10
import Derived.Test.YtphlhadgcfndhaaDoorJd6
import Derived.Lib.Strings
section
namespace Go.Proofs.YtphlhadgcfndhaaDoor.Abs
open Go Go.RowKit
set_option linter.unusedVariables false
set_option linter.unusedSimpArgs false
set_option maxHeartbeats 4000000
@[simp] def encA (a : ActP) : List Cell := [cI a.1, cI a.2]
@[simp] theorem flat_encA (l : List ActP) : flatO ⟨2, l.map encA⟩ = true := flatO_of fun e he => by
  obtain ⟨x, _, rfl⟩ := List.mem_map.1 he
  rfl
theorem actsD_succ (n : Nat) : actsD (n + 1) = actsD n ++ [(1, (n : Int))] := by simp [actsD, List.range_succ]
theorem actsL_succ (lo : Int) (n : Nat) : actsL lo (n + 1) = actsL lo n ++ if lo > 0 then [(2, (n : Int))] else [] := by
  unfold actsL
  rw [List.range_succ, List.filterMap_append]
  congr 1
  by_cases h : lo > 0 <;> simp [h]
theorem actsF_succ (am : Int) (accs : List V2) (n : Nat) : actsF am accs (n + 1) = actsF am accs n ++ if am > 0 ∧ 0 < (accs.getD n []).length then [(3, (n : Int))] else [] := by
  unfold actsF
  rw [List.range_succ, List.filterMap_append]
  congr 1
  by_cases h : am > 0 ∧ 0 < (accs.getD n []).length
  · rw [if_pos h, List.filterMap_cons, if_pos h]
    rfl
  · rw [if_neg h, List.filterMap_cons, if_neg h]
    rfl
theorem actsL_len (lo : Int) (n : Nat) : (actsL lo n).length ≤ n := by
  unfold actsL
  exact Nat.le_trans (List.length_filterMap_le _ _) (by simp)
theorem actsF_len (am : Int) (accs : List V2) (n : Nat) : (actsF am accs n).length ≤ n := by
  unfold actsF
  exact Nat.le_trans (List.length_filterMap_le _ _) (by simp)
theorem actsD_len (n : Nat) : (actsD n).length = n := by simp [actsD]
theorem acts_new (s : XpS) (hk : s.g.pks.length < 1000000) (ha : s.g.accs.length < 1000000) : New Tryd.prog 14 [.agg (encXp s)] (.c (.ref 0 0 (actsX s).length)) [(0, ⟨2, (actsX s).map encA⟩)] 1 := by
  obtain ⟨⟨accs, props, ins, nxt, pks, decs, steps⟩, lo, am⟩ := s
  dsimp only at *
  refine new_of teOk Tryd.func14 (by kernel_rfl) (c := _) rfl (N := 62) rfl (rs := [Go.ResultVar.tmp 2]) rfl (by simp) fun base A w0 hA => ?_
  refine AW.st teOk [] (by simp [-Option.some.injEq] <;> rfl) trivial ?_
  refine AW.st teOk [] (by simp [-Option.some.injEq] <;> rfl) trivial ?_
  refine AW.to (s2 := ⟨[(1, .c (.fad (encXp ⟨⟨accs, props, ins, nxt, pks, decs, steps⟩, lo, am⟩))), (3, .c (.ref 0 0 0))], [(0, ⟨2, []⟩)], 1⟩) ((Weak.freeze 0 ⟨9, [encXp ⟨⟨accs, props, ins, nxt, pks, decs, steps⟩, lo, am⟩]⟩ [] _ (by simp [putA]) (by simp)).trans ((Weak.nil 3 2 _ (by simp <;> rfl)).trans (Weak.normS hA [1, 3] [(3, 0)] [] [] 1 _ (by simp [putT]) (by simp [putT]) (by simp [putT])))) (by simp [putT, mapAt_nil']) ?_
  refine AW.seq ?_
  refine AW.st teOk [] (by simp [-Option.some.injEq] <;> rfl) trivial ?_
  refine AW.block (AW.loop (fun m s => ∃ (j : Nat) (d : List ActP), m = pks.length - j ∧ j ≤ pks.length ∧ d = actsD j ∧ s = ⟨[(1, .c (.fad (encXp ⟨⟨accs, props, ins, nxt, pks, decs, steps⟩, lo, am⟩))), (3, .c (.ref 0 0 d.length)), (11, .c (cI pks.length)), (12, .c (cI j))], [(0, ⟨2, d.map encA⟩)], 1⟩) _ (Weak.normS hA [1, 3, 11, 12] [(3, 0)] [] [] 1 _ (by simp) (by simp) (by simp)) ⟨0, [], rfl, Nat.zero_le _, rfl, by simp⟩ ?_)
  rintro m s ⟨j, d, rfl, hj, hd, rfl⟩
  have hdl : d.length ≤ j := by rw [hd, actsD_len]; exact Nat.le_refl _
  refine AW.st teOk [] (by simp [-Option.some.injEq] <;> rfl) trivial ?_
  refine AW.seq (AW.iff (decide (j < pks.length)) (by simp) (fun h => AW.skip ?_) (fun h => AW.exit (x_then (x_then (blockA_exit ?_)))))
  · rw [decide_eq_true_eq] at h
    have hinc : IntKind.i64.wrap ((j : Int) + 1) = (j : Int) + 1 := wrap_s _ (by omega)
    refine AW.seq (AW.block ?_)
    refine AW.st teOk [] (by simp [-Option.some.injEq] <;> rfl) trivial ?_
    refine AW.text teOk (ans := []) (by simp [-Option.some.injEq] <;> rfl) ?_ ?_
    · simp [growOk]
      omega
    refine AW.text teOk (ans := []) (by simp [-Option.some.injEq] <;> rfl) ?_ ?_
    · trivial
    refine ⟨_, _, Weak.normS hA [1, 3, 11, 12] [(3, 0)] [] [] 1 _ (by simp) (by simp) (by simp), ?_, j + 1, d ++ [(1, (j : Int))], rfl, h, ?_, ?_⟩
    · omega
    · rw [actsD_succ, hd]
    · simp [hinc]
  have hjl : j = pks.length := by
    rw [decide_eq_false_iff_not] at h
    omega
  rw [hjl] at hd
  refine AW.to (s2 := ⟨[(1, .c (.fad (encXp ⟨⟨accs, props, ins, nxt, pks, decs, steps⟩, lo, am⟩))), (3, .c (.ref 0 0 d.length))], [(0, ⟨2, d.map encA⟩)], 1⟩) (Weak.normS hA [1, 3] [(3, 0)] [] [] 1 _ (by simp) (by simp) (by simp)) (by simp) ?_
  clear hjl h hj hdl
  have hdl : d.length ≤ pks.length := by rw [hd, actsD_len]; exact Nat.le_refl _
  clear j
  refine AW.seq ?_
  refine AW.st teOk [] (by simp [-Option.some.injEq] <;> rfl) trivial ?_
  refine AW.block (AW.loop (fun m s => ∃ (j : Nat) (e : List ActP), m = pks.length - j ∧ j ≤ pks.length ∧ e = d ++ actsL lo j ∧ s = ⟨[(1, .c (.fad (encXp ⟨⟨accs, props, ins, nxt, pks, decs, steps⟩, lo, am⟩))), (3, .c (.ref 0 0 e.length)), (24, .c (cI pks.length)), (25, .c (cI j))], [(0, ⟨2, e.map encA⟩)], 1⟩) _ (Weak.normS hA [1, 3, 24, 25] [(3, 0)] [] [] 1 _ (by simp) (by simp) (by simp)) ⟨0, d, rfl, Nat.zero_le _, by simp [actsL], by simp⟩ ?_)
  rintro m s ⟨j, e, rfl, hj, he, rfl⟩
  have hel : e.length ≤ pks.length + j := by rw [he, List.length_append]; have := actsL_len lo j; omega
  refine AW.st teOk [] (by simp [-Option.some.injEq] <;> rfl) trivial ?_
  refine AW.seq (AW.iff (decide (j < pks.length)) (by simp) (fun h => AW.skip ?_) (fun h => AW.exit (x_then (x_then (blockA_exit ?_)))))
  · rw [decide_eq_true_eq] at h
    have hinc : IntKind.i64.wrap ((j : Int) + 1) = (j : Int) + 1 := wrap_s _ (by omega)
    have hsc := actsL_succ lo j
    refine AW.seq (AW.block ?_)
    refine AW.st teOk [] (by simp [-Option.some.injEq] <;> rfl) trivial ?_
    refine AW.st teOk [] (by simp [-Option.some.injEq] <;> rfl) trivial ?_
    refine AW.iff (decide (lo > 0)) (by simp) (fun hc => ?_) (fun hc => AW.skip ?_)
    · rw [decide_eq_true_eq] at hc
      refine AW.text teOk (ans := []) (by simp [-Option.some.injEq] <;> rfl) ?_ ?_
      · simp [growOk]
        omega
      refine AW.text teOk (ans := []) (by simp [-Option.some.injEq] <;> rfl) ?_ ?_
      · trivial
      refine ⟨_, _, Weak.normS hA [1, 3, 24, 25] [(3, 0)] [] [] 1 _ (by simp) (by simp) (by simp), ?_, j + 1, e ++ [(2, (j : Int))], rfl, h, ?_, ?_⟩
      · omega
      · rw [hsc, if_pos hc, he, List.append_assoc]
      · simp [hinc]
    · rw [decide_eq_false_iff_not] at hc
      refine AW.text teOk (ans := []) (by simp [-Option.some.injEq] <;> rfl) ?_ ?_
      · trivial
      refine ⟨_, _, Weak.normS hA [1, 3, 24, 25] [(3, 0)] [] [] 1 _ (by simp) (by simp) (by simp), ?_, j + 1, e, rfl, h, ?_, ?_⟩
      · omega
      · rw [hsc, if_neg hc, he, List.append_nil]
      · simp [hinc]
  have hjl : j = pks.length := by
    rw [decide_eq_false_iff_not] at h
    omega
  rw [hjl] at he
  refine AW.to (s2 := ⟨[(1, .c (.fad (encXp ⟨⟨accs, props, ins, nxt, pks, decs, steps⟩, lo, am⟩))), (3, .c (.ref 0 0 e.length))], [(0, ⟨2, e.map encA⟩)], 1⟩) (Weak.normS hA [1, 3] [(3, 0)] [] [] 1 _ (by simp) (by simp) (by simp)) (by simp) ?_
  have hel2 : e.length ≤ 2 * pks.length := by omega
  clear hel hjl h hj j
  refine AW.seq ?_
  refine AW.st teOk [] (by simp [-Option.some.injEq] <;> rfl) trivial ?_
  refine AW.block (AW.loop (fun m s => ∃ (j : Nat) (f : List ActP), m = accs.length - j ∧ j ≤ accs.length ∧ f = e ++ actsF am accs j ∧ s = ⟨[(1, .c (.fad (encXp ⟨⟨accs, props, ins, nxt, pks, decs, steps⟩, lo, am⟩))), (3, .c (.ref 0 0 f.length)), (39, .c (encVs accs)), (40, .c (cI accs.length)), (41, .c (cI j))], [(0, ⟨2, f.map encA⟩)], 1⟩) _ (Weak.normS hA [1, 3, 39, 40, 41] [(3, 0)] [] [] 1 _ (by simp) (by simp) (by simp)) ⟨0, e, rfl, Nat.zero_le _, by simp [actsF], by simp⟩ ?_)
  rintro m s ⟨j, f, rfl, hj, hf, rfl⟩
  have hfl : f.length ≤ 2 * pks.length + j := by rw [hf, List.length_append]; have := actsF_len am accs j; omega
  refine AW.st teOk [] (by simp [-Option.some.injEq] <;> rfl) trivial ?_
  refine AW.seq (AW.iff (decide (j < accs.length)) (by simp) (fun h => AW.skip ?_) (fun h => AW.exit (x_then (x_then (blockA_exit ?_)))))
  · rw [decide_eq_true_eq] at h
    obtain ⟨x, hx⟩ : ∃ x, accs[j]? = some x := ⟨_, List.getElem?_eq_getElem h⟩
    have hinc : IntKind.i64.wrap ((j : Int) + 1) = (j : Int) + 1 := wrap_s _ (by omega)
    have hsc := actsF_succ am accs j
    have hgx : accs.getD j [] = x := by rw [List.getD_eq_getElem?_getD, hx]; rfl
    rw [hgx] at hsc
    refine AW.seq (AW.block ?_)
    refine AW.st teOk [] (by simp [hx, -Option.some.injEq] <;> rfl) ?_ ?_
    · simpa using h
    by_cases hc : am > 0
    · refine AW.st teOk [] (by simp [hc, -Option.some.injEq] <;> rfl) trivial ?_
      refine AW.iff (decide (0 < x.length)) (by simp [hc]) (fun hc2 => ?_) (fun hc2 => AW.skip ?_)
      · rw [decide_eq_true_eq] at hc2
        refine AW.text teOk (ans := []) (by simp [-Option.some.injEq] <;> rfl) ?_ ?_
        · simp [growOk]
          omega
        refine AW.text teOk (ans := []) (by simp [-Option.some.injEq] <;> rfl) ?_ ?_
        · trivial
        refine ⟨_, _, Weak.normS hA [1, 3, 39, 40, 41] [(3, 0)] [] [] 1 _ (by simp) (by simp) (by simp), ?_, j + 1, f ++ [(3, (j : Int))], rfl, h, ?_, ?_⟩
        · omega
        · rw [hsc, if_pos ⟨hc, hc2⟩, hf, List.append_assoc]
        · simp [hinc]
      · rw [decide_eq_false_iff_not] at hc2
        refine AW.text teOk (ans := []) (by simp [-Option.some.injEq] <;> rfl) ?_ ?_
        · trivial
        refine ⟨_, _, Weak.normS hA [1, 3, 39, 40, 41] [(3, 0)] [] [] 1 _ (by simp) (by simp) (by simp), ?_, j + 1, f, rfl, h, ?_, ?_⟩
        · omega
        · rw [hsc, if_neg (fun hh => hc2 hh.2), hf, List.append_nil]
        · simp [hinc]
    · refine AW.st teOk [] (by simp [hc, -Option.some.injEq] <;> rfl) trivial ?_
      refine AW.iff false (by simp [hc]) (fun hc2 => by cases hc2) (fun hc2 => AW.skip ?_)
      refine AW.text teOk (ans := []) (by simp [-Option.some.injEq] <;> rfl) ?_ ?_
      · trivial
      refine ⟨_, _, Weak.normS hA [1, 3, 39, 40, 41] [(3, 0)] [] [] 1 _ (by simp) (by simp) (by simp), ?_, j + 1, f, rfl, h, ?_, ?_⟩
      · omega
      · rw [hsc, if_neg (fun hh => hc hh.1), hf, List.append_nil]
      · simp [hinc]
  have hjl : j = accs.length := by
    rw [decide_eq_false_iff_not] at h
    omega
  rw [hjl, he, hd] at hf
  refine AW.st teOk [] (by simp [-Option.some.injEq] <;> rfl) trivial ?_
  have hfx : actsX ⟨⟨accs, props, ins, nxt, pks, decs, steps⟩, lo, am⟩ = f := hf.symm
  rw [hfx]
  refine AW.ret ⟨.inr rfl, _, Weak.normS hA [2] [(2, 0)] [] [] 1 _ (by simp) (by simp) (by simp), ?_⟩
  simp
theorem acts_pure (s : XpS) (hk : s.g.pks.length < 1000000) (ha : s.g.accs.length < 1000000) : Pure Tryd.prog 14 [.agg (encXp s)] (.c (.row 2 false ((actsX s).map encA))) :=
  (acts_new s hk ha).pure ⟨[(0, .c (.row 2 false ((actsX s).map encA)))], [], 1⟩ (fun A => (Weak.freeze 0 ⟨2, (actsX s).map encA⟩ [] _ (by simp) (by simp)).be (by simp)) rfl rfl
theorem acts_len (s : XpS) : (actsX s).length ≤ 2 * s.g.pks.length + s.g.accs.length := by
  unfold actsX
  rw [List.length_append, List.length_append, actsD_len]
  have := actsL_len s.lo s.g.pks.length
  have := actsF_len s.am s.g.accs s.g.accs.length
  omega
theorem aidx_pure (l : List ActP) (a : ActP) (hl : l.length < 1000000000) (r : Int) (hr : (∃ j : Nat, r = j ∧ l[j]? = some a ∧ ∀ i < j, l[i]? ≠ some a) ∨ r = -1 ∧ a ∉ l) : Pure Tryd.prog 64 [.c (.row 2 false (l.map encA)), .agg (encA a)] (.c (cI r)) := by
  refine pure_of teOk Tryd.func64 (by kernel_rfl) (c := _) rfl (N := 19) rfl (rs := [Go.ResultVar.tmp 4]) rfl (by simp) fun base A w0 hA => ?_
  refine AW.st teOk [] (by simp [-Option.some.injEq] <;> rfl) trivial ?_
  refine AW.to (s2 := ⟨[(0, .c (.row 2 false (l.map encA))), (3, .c (.fad (encA a)))], [], 1⟩) ((Weak.freeze 0 ⟨2, [encA a]⟩ [] _ (by simp) (by simp)).trans (Weak.normS hA [0, 3] [] [] [] 1 _ (by simp) (by simp) (by simp))) (by simp [mapAt_nil']) ?_
  refine AW.seq ?_
  refine AW.st teOk [] (by simp [-Option.some.injEq] <;> rfl) trivial ?_
  refine AW.block (AW.loop (fun m s => ∃ (j : Nat), m = l.length - j ∧ j ≤ l.length ∧ (∀ i < j, l[i]? ≠ some a) ∧ s = ⟨[(0, .c (.row 2 false (l.map encA))), (3, .c (.fad (encA a))), (7, .c (cI l.length)), (8, .c (cI j))], [], 1⟩) _ (Weak.normS hA [0, 3, 7, 8] [] [] [] 1 _ (by simp) (by simp) (by simp)) ⟨0, rfl, Nat.zero_le _, fun i hi => by omega, by simp⟩ ?_)
  rintro m s ⟨j, rfl, hj, hb, rfl⟩
  refine AW.st teOk [] (by simp [-Option.some.injEq] <;> rfl) trivial ?_
  refine AW.seq (AW.iff (decide (j < l.length)) (by simp) (fun h => AW.skip ?_) (fun h => AW.exit (x_then (x_then (blockA_exit ?_)))))
  · rw [decide_eq_true_eq] at h
    obtain ⟨x, hx⟩ : ∃ x, l[j]? = some x := ⟨_, List.getElem?_eq_getElem h⟩
    have hinc : IntKind.i64.wrap ((j : Int) + 1) = (j : Int) + 1 := wrap_s _ (by omega)
    refine AW.seq (AW.block ?_)
    refine AW.st teOk [] (by simp [-Option.some.injEq] <;> rfl) trivial ?_
    refine AW.dr mixed teOk [] (by simp [hx, -Option.some.injEq] <;> rfl) (by kernel_rfl) (by kernel_rfl) ?_ ?_
    · simpa [allP] using h
    have hdec : (a.1 == x.1 && a.2 == x.2) = decide (x = a) := by
      rw [Bool.eq_iff_iff, Bool.and_eq_true, beq_iff_eq, beq_iff_eq, decide_eq_true_eq]
      constructor
      · rintro ⟨h1, h2⟩
        exact Prod.ext h1.symm h2.symm
      · rintro rfl
        exact ⟨rfl, rfl⟩
    refine AW.iff (decide (x = a)) (by simp; exact hdec) (fun hc => ?_) (fun hc => AW.skip ?_)
    · rw [decide_eq_true_eq] at hc
      subst hc
      have hrj : r = j := by
        rcases hr with ⟨q, hq, h1, h2⟩ | ⟨_, h2⟩
        · rcases Nat.lt_trichotomy j q with h3 | h3 | h3
          · exact absurd hx (h2 j h3)
          · omega
          · exact absurd h1 (hb q h3)
        · exact absurd (List.mem_of_getElem? hx) h2
      refine AW.st teOk [] (by simp [-Option.some.injEq] <;> rfl) trivial ?_
      refine AW.ret ⟨.inr rfl, _, Weak.refl _, ?_⟩
      simp [hrj]
    · rw [decide_eq_false_iff_not] at hc
      refine AW.text teOk (ans := []) (by simp [-Option.some.injEq] <;> rfl) ?_ ?_
      · trivial
      refine ⟨_, _, Weak.normS hA [0, 3, 7, 8] [] [] [] 1 _ (by simp) (by simp) (by simp), ?_, j + 1, rfl, h, ?_, ?_⟩
      · omega
      · intro i hi he
        by_cases hij : i = j
        · subst hij
          rw [hx] at he
          exact hc (Option.some.inj he)
        · exact hb i (by omega) he
      · simp [hinc]
  rw [decide_eq_false_iff_not] at h
  have hrj : r = -1 := by
    rcases hr with ⟨q, hq, h1, h2⟩ | ⟨h1, _⟩
    · exact absurd h1 (hb q (by have := (List.getElem?_eq_some_iff.1 h1).1; omega))
    · exact h1
  refine AW.st teOk [] (by simp [-Option.some.injEq] <;> rfl) trivial ?_
  refine AW.ret ⟨.inr rfl, _, Weak.refl _, ?_⟩
  simp [hrj]
theorem first_at {α : Type} [DecidableEq α] : ∀ (l : List α) (a : α), a ∈ l → ∃ j : Nat, l[j]? = some a ∧ ∀ i < j, l[i]? ≠ some a
  | [], a, h => by cases h
  | x :: l, a, h => by
    by_cases hx : x = a
    · subst hx
      exact ⟨0, rfl, fun i hi => by omega⟩
    · rcases List.mem_cons.1 h with rfl | h
      · exact absurd rfl hx
      · obtain ⟨j, h1, h2⟩ := first_at l a h
        refine ⟨j + 1, by simpa using h1, fun i hi => ?_⟩
        cases i with
        | zero => simpa using hx
        | succ i => simpa using h2 i (by omega)
theorem ahas_pure (l : List ActP) (a : ActP) (hl : l.length < 1000000000) : Pure Tryd.prog 37 [.c (.row 2 false (l.map encA)), .agg (encA a)] (.c (cB (decide (a ∈ l)))) := by
  obtain ⟨r, hr, hr2⟩ : ∃ r : Int, ((∃ j : Nat, r = j ∧ l[j]? = some a ∧ ∀ i < j, l[i]? ≠ some a) ∨ r = -1 ∧ a ∉ l) ∧ decide (r ≥ 0) = decide (a ∈ l) := by
    by_cases h : a ∈ l
    · obtain ⟨j, h1, h2⟩ := first_at l a h
      exact ⟨j, .inl ⟨j, rfl, h1, h2⟩, by simp [h]⟩
    · exact ⟨-1, .inr ⟨rfl, h⟩, by simp [h]⟩
  refine pure_of teOk Tryd.func37 (by kernel_rfl) (c := _) rfl (N := 9) rfl (rs := [Go.ResultVar.tmp 4]) rfl (by simp) fun base A w0 hA => ?_
  refine AW.st teOk [] (by simp [-Option.some.injEq] <;> rfl) trivial ?_
  refine AW.st teOk [.fz (.c (cI r))] (by simp [-Option.some.injEq] <;> rfl) ?_ ?_
  · simpa using aidx_pure l a hl r hr
  refine AW.ret ⟨.inr rfl, _, Weak.refl _, ?_⟩
  rw [← hr2]
  simp
theorem xclone_pure (s : XpS) (hg : GrB s.g) : Pure Tryd.prog 34 [.agg (encXp s)] (.agg (encXp s)) :=
  (xclone_new s hg).pure ⟨[(0, .agg (encXp s))], [], 3⟩ (fun A => by
    refine (Weak.freeze 0 ⟨1, s.g.accs.map encC⟩ [] _ (by simp) (by simp)).trans ?_
    refine (Weak.freeze 1 ⟨5, s.g.pks.map encPk⟩ [] _ (by simp) (by simp)).trans ?_
    exact (Weak.freeze 2 ⟨4, s.g.decs.map encDe⟩ [] _ (by simp) (by simp)).be (by simp)) rfl rfl
theorem strB_eq {k l : List Int} (hk : ∀ x ∈ k, 0 ≤ x ∧ x < 100) (hl : ∀ x ∈ l, 0 ≤ x ∧ x < 100) : ((strB (strN k)).toList == (strB (strN l)).toList) = decide (k = l) := by
  have digs : ∀ k : List Int, (∀ x ∈ k, 0 ≤ x ∧ x < 100) → ∀ y ∈ strN k, 0 ≤ y ∧ y < 256 := fun k => by
    induction k with
    | nil => intro _ y hy; cases hy
    | cons x k ih =>
      intro h y hy
      have hx := h x (by simp)
      rw [strN] at hy
      rcases List.mem_append.1 hy with hy | hy
      · unfold digN at hy
        split at hy
        · rw [List.mem_singleton.1 hy]
          omega
        · simp only [List.mem_cons, List.not_mem_nil, or_false] at hy
          rcases hy with rfl | rfl <;> omega
      · rcases List.mem_cons.1 hy with rfl | hy
        · omega
        · exact ih (fun z hz => h z (by simp [hz])) y hy
  have inj : ∀ a b : List Int, (∀ y ∈ a, 0 ≤ y ∧ y < 256) → (∀ y ∈ b, 0 ≤ y ∧ y < 256) → a.map (fun n => UInt8.ofNat n.toNat) = b.map (fun n => UInt8.ofNat n.toNat) → a = b := fun a => by
    induction a with
    | nil =>
      intro b _ _ h
      cases b with
      | nil => rfl
      | cons y b => cases h
    | cons x a ih =>
      intro b ha hb h
      cases b with
      | nil => cases h
      | cons y b =>
        rw [List.map_cons, List.map_cons] at h
        injection h with h1 h2
        have hx := ha x (by simp)
        have hy := hb y (by simp)
        have h3 := congrArg UInt8.toNat h1
        rw [UInt8.toNat_ofNat', UInt8.toNat_ofNat'] at h3
        have : x = y := by omega
        rw [this, ih b (fun z hz => ha z (by simp [hz])) (fun z hz => hb z (by simp [hz])) h2]
  rw [Bool.eq_iff_iff, beq_iff_eq, decide_eq_true_eq, Go.Lib.toList_data, Go.Lib.toList_data]
  constructor
  · intro h
    exact strN_inj hk hl (inj _ _ (digs k hk) (digs l hl) h)
  · rintro rfl
    rfl
/-- Two states are one. -/
def sameX (s t : XpS) : Bool := decide (keyN s = keyN t)
theorem sameX_iff {s t : XpS} : sameX s t = true ↔ s = t := by
  unfold sameX
  rw [decide_eq_true_eq]
  exact ⟨keyN_inj, fun h => h ▸ rfl⟩
theorem xsame_pure (s t : XpS) (hs : GrB s.g) (ht : GrB t.g) (hk : s.g.pks.length < 20 ∧ t.g.pks.length < 20) (hv : (∀ k ∈ s.g.pks, k.v.length < 1000000) ∧ ∀ k ∈ t.g.pks, k.v.length < 1000000) (h1 : XSm (canX s)) (h2 : XSm (canX t)) : Pure Tryd.prog 20 [.agg (encXp s), .agg (encXp t)] (.c (cB (sameX (canX s) (canX t)))) := by
  have he := strB_eq h1.sm h2.sm
  refine pure_of teOk Tryd.func20 (by kernel_rfl) (c := _) rfl (N := 12) rfl (rs := [Go.ResultVar.tmp 4]) rfl (by simp) fun base A w0 hA => ?_
  refine AW.st teOk [] (by simp [-Option.some.injEq] <;> rfl) trivial ?_
  refine AW.dr mixed teOk [.agg (encXp (canX s)), .c (.sc (.string (strB (strN (keyN (canX s)))))), .agg (encXp (canX t)), .c (.sc (.string (strB (strN (keyN (canX t))))))] (by simp [-Option.some.injEq] <;> rfl) (by kernel_rfl) (by kernel_rfl) ?_ ?_
  · simp [allP]
    exact ⟨xcan_pure s hs hk.1 hv.1, xkey_pure _ h1, xcan_pure t ht hk.2 hv.2, xkey_pure _ h2⟩
  refine AW.ret ⟨.inr rfl, _, Weak.refl _, ?_⟩
  simp [he, sameX]
end Go.Proofs.YtphlhadgcfndhaaDoor.Abs
end
section
namespace Go.Proofs.YtphlhadgcfndhaaDoor.Abs
open Go Go.RowKit
set_option linter.unusedVariables false
set_option linter.unusedSimpArgs false
set_option maxHeartbeats 4000000
theorem perf_del {s : XpS} {i : Nat} (h : ((1, (i : Int)) : ActP) ∈ actsX s) : perfX s (1, (i : Int)) = { s with g := delivS s.g i } := by
  unfold perfX
  rw [if_pos h, if_pos rfl]
  rfl
theorem perf_lose {s : XpS} {i : Nat} (h : ((2, (i : Int)) : ActP) ∈ actsX s) : perfX s (2, (i : Int)) = { s with g := { s.g with pks := delL s.g.pks i }, lo := s.lo - 1 } := by
  unfold perfX
  rw [if_pos h, if_neg (show ¬ ((2 : Int) = 1) by decide), if_pos rfl]
  rfl
theorem perf_forg {s : XpS} {i : Nat} (h : ((3, (i : Int)) : ActP) ∈ actsX s) : perfX s (3, (i : Int)) = { s with g := forgG s.g i, am := s.am - 1 } := by
  unfold perfX
  rw [if_pos h, if_neg (show ¬ ((3 : Int) = 1) by decide), if_neg (show ¬ ((3 : Int) = 2) by decide)]
  rfl
@[simp] theorem plain_encA (l : List ActP) : plainO ⟨2, l.map encA⟩ = true := by
  unfold plainO
  rw [List.all_eq_true]
  intro e he
  obtain ⟨x, _, rfl⟩ := List.mem_map.1 he
  rfl
theorem nil_cell1 : LeC (.sc (.slice none 0 0)) (encV []) := .nil 2
theorem perf_pure (s : XpS) {n N : Nat} (hw : GrW s.g n N) (hN : N < 1000000) (hlo : s.lo < 1000000) (ham : s.am < 1000000) (a : ActP) : Pure Tryd.prog 17 [.agg (encXp s), .agg (encA a)] (.agg (encXp (perfX s a))) := by
  have hb := hw.b (by omega)
  have hkl := hw.kl
  have hal := hw.al
  have c0 := xclone_pure s hb
  have cn := xclone_new s hb
  have hal2 : (actsX s).length < 1000000000 := by have := acts_len s; omega
  have c1 := acts_pure s (by omega) (by omega)
  have c1n := acts_new s (by omega) (by omega)
  have c2 := ahas_pure (actsX s) a hal2
  by_cases ha : a ∈ actsX s
  · rw [decide_eq_true ha] at c2
    rcases mem_actsX ha with ⟨i, hi, rfl⟩ | ⟨hl0, i, hi, rfl⟩ | ⟨hl0, i, hi, rfl⟩
    · rw [perf_del ha]
      have c3 := deliv_pure s.g hw (by omega) (i : Int)
      have hz : delivZ s.g (i : Int) = delivS s.g i := by unfold delivZ; rw [if_pos ⟨by omega, by omega⟩]; rfl
      rw [hz] at c3
      generalize delivS s.g i = g' at *
      obtain ⟨⟨accs, props, ins, nxt, pks, decs, steps⟩, lo, am⟩ := s
      dsimp only at *
      generalize actsX ⟨⟨accs, props, ins, nxt, pks, decs, steps⟩, lo, am⟩ = L at *
      refine pure_of teOk Tryd.func17 (by kernel_rfl) (c := _) rfl (N := 49) rfl (rs := [Go.ResultVar.cell 4 47]) rfl (by simp) fun base A w0 hA => ?_
      refine AW.st teOk [] (by simp [-Option.some.injEq] <;> rfl) trivial ?_
      refine AW.st teOk [.fz (.agg (encXp ⟨⟨accs, props, ins, nxt, pks, decs, steps⟩, lo, am⟩))] (by simp [-Option.some.injEq] <;> rfl) ?_ ?_
      · simpa using c0
      refine AW.seq ?_
      refine AW.dr mixed teOk [.c (.row 2 false (L.map encA)), .c (cB true)] (by simp [-Option.some.injEq] <;> rfl) (by kernel_rfl) (by kernel_rfl) ?_ ?_
      · simp [allP]
        exact ⟨c1, c2⟩
      refine AW.iff false (by simp) (fun h => by cases h) (fun _ => AW.skip ?_)
      refine AW.seq ?_
      refine AW.st teOk [] (by simp [-Option.some.injEq] <;> rfl) trivial ?_
      refine AW.block ?_
      refine AW.st teOk [] (by simp [-Option.some.injEq] <;> rfl) trivial ?_
      refine AW.iff true (by simp) (fun _ => ?_) (fun h => by cases h)
      refine AW.text teOk (ans := [.fz (.agg (encGr g'))]) (by simp [-Option.some.injEq] <;> rfl) ?_ ?_
      · simpa using c3
      refine AW.st teOk [] (by simp [-Option.some.injEq] <;> rfl) trivial ?_
      refine AW.ret ⟨.inr rfl, _, Weak.refl _, ?_⟩
      simp
    · rw [perf_lose ha]
      have c3 := lose_pure s.g hw (by omega) (i : Int)
      have hz : loseS s.g (i : Int) = { s.g with pks := delL s.g.pks i } := by unfold loseS; rw [if_pos ⟨by omega, by omega⟩]; rfl
      rw [hz] at c3
      generalize ({ s.g with pks := delL s.g.pks i } : GrS) = g' at *
      obtain ⟨⟨accs, props, ins, nxt, pks, decs, steps⟩, lo, am⟩ := s
      dsimp only at *
      have hsub : IntKind.i64.wrap (lo - 1) = lo - 1 := by rw [IntKind.wrap_i64]; omega
      generalize actsX ⟨⟨accs, props, ins, nxt, pks, decs, steps⟩, lo, am⟩ = L at *
      refine pure_of teOk Tryd.func17 (by kernel_rfl) (c := _) rfl (N := 49) rfl (rs := [Go.ResultVar.cell 4 47]) rfl (by simp) fun base A w0 hA => ?_
      refine AW.st teOk [] (by simp [-Option.some.injEq] <;> rfl) trivial ?_
      refine AW.st teOk [.fz (.agg (encXp ⟨⟨accs, props, ins, nxt, pks, decs, steps⟩, lo, am⟩))] (by simp [-Option.some.injEq] <;> rfl) ?_ ?_
      · simpa using c0
      refine AW.seq ?_
      refine AW.dr mixed teOk [.c (.row 2 false (L.map encA)), .c (cB true)] (by simp [-Option.some.injEq] <;> rfl) (by kernel_rfl) (by kernel_rfl) ?_ ?_
      · simp [allP]
        exact ⟨c1, c2⟩
      refine AW.iff false (by simp) (fun h => by cases h) (fun _ => AW.skip ?_)
      refine AW.seq ?_
      refine AW.st teOk [] (by simp [-Option.some.injEq] <;> rfl) trivial ?_
      refine AW.block ?_
      refine AW.st teOk [] (by simp [-Option.some.injEq] <;> rfl) trivial ?_
      refine AW.iff false (by simp) (fun h => by cases h) (fun _ => ?_)
      refine AW.st teOk [] (by simp [-Option.some.injEq] <;> rfl) trivial ?_
      refine AW.iff true (by simp) (fun _ => ?_) (fun h => by cases h)
      refine AW.st teOk [.fz (.agg (encGr g'))] (by simp [-Option.some.injEq] <;> rfl) ?_ ?_
      · simpa using c3
      refine AW.text teOk (ans := []) (by simp [hsub, -Option.some.injEq] <;> rfl) ?_ ?_
      · trivial
      refine AW.st teOk [] (by simp [-Option.some.injEq] <;> rfl) trivial ?_
      refine AW.ret ⟨.inr rfl, _, Weak.refl _, ?_⟩
      simp
    · rw [perf_forg ha]
      have hset : (s.g.accs.map encC).set i [.sc (.slice none 0 0)] = (s.g.accs.map encC).set i [.sc (.slice none 0 0)] := rfl
      obtain ⟨⟨accs, props, ins, nxt, pks, decs, steps⟩, lo, am⟩ := s
      dsimp only at *
      have hsub : IntKind.i64.wrap (am - 1) = am - 1 := by rw [IntKind.wrap_i64]; omega
      generalize actsX ⟨⟨accs, props, ins, nxt, pks, decs, steps⟩, lo, am⟩ = L at *
      refine pure_of teOk Tryd.func17 (by kernel_rfl) (c := _) rfl (N := 49) rfl (rs := [Go.ResultVar.cell 4 47]) rfl (by simp) fun base A w0 hA => ?_
      refine AW.st teOk [] (by simp [-Option.some.injEq] <;> rfl) trivial ?_
      refine AW.st teOk [.new (.agg (refX 0 ⟨⟨accs, props, ins, nxt, pks, decs, steps⟩, lo, am⟩)) (sigX 0 ⟨⟨accs, props, ins, nxt, pks, decs, steps⟩, lo, am⟩) 3] (by simp [-Option.some.injEq] <;> rfl) ?_ ?_
      · simpa using cn
      refine AW.to (s2 := ⟨[(2, .c (.ptr 0 0 0)), (3, .c (.ptr 1 0 0)), (4, .c (.ptr 2 0 0))], [(0, ⟨9, [[.ref 3 0 accs.length, .row 5 false (props.map encPr'), .row 1 false (ins.map encIn), encIs nxt, .row 5 false (pks.map encPk), .row 4 false (decs.map encDe), cI steps, cI lo, cI am]]⟩), (1, ⟨2, [encA (3, (i : Int))]⟩), (2, ⟨9, [nilX]⟩), (3, ⟨1, accs.map encC⟩)], 4⟩) ((Weak.freeze 5 ⟨5, pks.map encPk⟩ [0] _ (by simp) (by simp)).trans ((Weak.freeze 6 ⟨4, decs.map encDe⟩ [0] _ (by simp) (by simp)).trans (Weak.normS hA [2, 3, 4] [(2, 0), (3, 1), (4, 2)] [(4, 3)] [0] 4 _ (by simp) (by simp) (by simp)))) (by simp) ?_
      refine AW.seq ?_
      refine AW.dr mixed teOk [.tup [.c (.ref 0 0 L.length), .c (.row 2 true (L.map encA))], .c (cB true)] (by simp [-Option.some.injEq] <;> rfl) (by kernel_rfl) (by kernel_rfl) ?_ ?_
      · simp [allP, flatVs, flatV, flatCs, flatC, flatAt]
        exact ⟨by simpa using c1n, by simpa using c2⟩
      refine AW.iff false (by simp) (fun h => by cases h) (fun _ => AW.skip ?_)
      refine AW.to (s2 := ⟨[(2, .c (.ptr 0 0 0)), (3, .c (.ptr 1 0 0)), (4, .c (.ptr 2 0 0))], [(0, ⟨9, [[.ref 3 0 accs.length, .row 5 false (props.map encPr'), .row 1 false (ins.map encIn), encIs nxt, .row 5 false (pks.map encPk), .row 4 false (decs.map encDe), cI steps, cI lo, cI am]]⟩), (1, ⟨2, [encA (3, (i : Int))]⟩), (2, ⟨9, [nilX]⟩), (3, ⟨1, accs.map encC⟩)], 4⟩) (Weak.normS hA [2, 3, 4] [(2, 0), (3, 1), (4, 2)] [(3, 3)] [0] 4 _ (by simp) (by simp) (by simp)) (by simp) ?_
      refine AW.seq ?_
      refine AW.st teOk [] (by simp [-Option.some.injEq] <;> rfl) trivial ?_
      refine AW.block ?_
      refine AW.st teOk [] (by simp [-Option.some.injEq] <;> rfl) trivial ?_
      refine AW.iff false (by simp) (fun h => by cases h) (fun _ => ?_)
      refine AW.st teOk [] (by simp [-Option.some.injEq] <;> rfl) trivial ?_
      refine AW.iff false (by simp) (fun h => by cases h) (fun _ => ?_)
      refine AW.st teOk [] (by simp [-Option.some.injEq] <;> rfl) trivial ?_
      refine AW.iff true (by simp) (fun _ => ?_) (fun h => by cases h)
      have hx : accs[i]? = some accs[i] := List.getElem?_eq_getElem hi
      refine AW.st teOk [] (by simp [hx, -Option.some.injEq] <;> rfl) ?_ ?_
      · simpa using hi
      obtain ⟨a2, ha2⟩ : ∃ a2, a2 = accs.set i [] := ⟨_, rfl⟩
      have hal3 : a2.length = accs.length := by rw [ha2, List.length_set]
      have htk : (a2.map encC).take accs.length = a2.map encC := List.take_of_length_le (by rw [List.length_map]; omega)
      have hle : ∀ (j : Nat) (e e' : List Cell), ((accs.map encC).set i [.sc (.slice none 0 0)])[j]? = some e → (a2.map encC)[j]? = some e' → LeCs e e' := fun j e e' h1 h2 => by
        rw [List.getElem?_set] at h1
        rw [ha2, List.getElem?_map, List.getElem?_set] at h2
        split at h1
        · rename_i hji
          subst hji
          rw [if_pos rfl] at h2
          split at h1
          · rename_i hlt
            rw [List.length_map] at hlt
            rw [if_pos hlt] at h2
            cases h1
            cases h2
            exact .cons nil_cell1 .nil
          · cases h1
        · rename_i hji
          rw [if_neg hji, ← List.getElem?_map, h1] at h2
          cases h2
          rw [List.getElem?_map] at h1
          cases hq : accs[j]? with
          | none => rw [hq] at h1; cases h1
          | some q =>
            rw [hq] at h1
            cases h1
            exact .cons (.refl _) .nil
      refine AW.to (s2 := ⟨[(2, .c (.ptr 0 0 0)), (4, .c (.ptr 1 0 0))], [(0, ⟨9, [[encVs a2, .row 5 false (props.map encPr'), .row 1 false (ins.map encIn), encIs nxt, .row 5 false (pks.map encPk), .row 4 false (decs.map encDe), cI steps, cI lo, cI am]]⟩), (1, ⟨9, [nilX]⟩)], 2⟩) ((Weak.leO 3 (o := ⟨1, (accs.map encC).set i [.sc (.slice none 0 0)]⟩) (o' := ⟨1, a2.map encC⟩) _ (by simp [putA]) rfl (by simp [hal3]) hle).trans ((Weak.freeze 3 ⟨1, a2.map encC⟩ [0] _ (by simp [putA]) (by simp)).trans (Weak.normS hA [2, 4] [(2, 0), (4, 1)] [] [0] 2 _ (by simp [putA, hal3, htk]) (by simp [putA, hal3, htk]) (by simp [putA, hal3, htk])))) (by simp [putA, hal3, htk]) ?_
      refine AW.text teOk (ans := []) (by simp [hsub, -Option.some.injEq] <;> rfl) ?_ ?_
      · trivial
      refine AW.st teOk [] (by simp [-Option.some.injEq] <;> rfl) trivial ?_
      refine AW.ret ⟨.inr rfl, _, Weak.refl _, ?_⟩
      simp [forgG, ha2]
  · have hp : perfX s a = s := by unfold perfX; rw [if_neg ha]
    rw [hp]
    rw [decide_eq_false ha] at c2
    obtain ⟨⟨accs, props, ins, nxt, pks, decs, steps⟩, lo, am⟩ := s
    dsimp only at *
    generalize actsX ⟨⟨accs, props, ins, nxt, pks, decs, steps⟩, lo, am⟩ = L at *
    refine pure_of teOk Tryd.func17 (by kernel_rfl) (c := _) rfl (N := 49) rfl (rs := [Go.ResultVar.cell 4 47]) rfl (by simp) fun base A w0 hA => ?_
    refine AW.st teOk [] (by simp [-Option.some.injEq] <;> rfl) trivial ?_
    refine AW.st teOk [.fz (.agg (encXp ⟨⟨accs, props, ins, nxt, pks, decs, steps⟩, lo, am⟩))] (by simp [-Option.some.injEq] <;> rfl) ?_ ?_
    · simpa using c0
    refine AW.seq ?_
    refine AW.dr mixed teOk [.c (.row 2 false (L.map encA)), .c (cB false)] (by simp [-Option.some.injEq] <;> rfl) (by kernel_rfl) (by kernel_rfl) ?_ ?_
    · simp [allP]
      exact ⟨c1, by simpa using c2⟩
    refine AW.iff true (by simp) (fun h => ?_) (fun h => by cases h)
    refine AW.st teOk [] (by simp [-Option.some.injEq] <;> rfl) trivial ?_
    refine AW.ret ⟨.inr rfl, _, Weak.refl _, ?_⟩
    simp
theorem initX_pure (m : Nat) (hm : 1 ≤ m ∧ m ≤ 12) {ins : List (List V2)} (hi : InsOk ins) (lo am : Int) : Pure Tryd.prog 13 [.agg [cI m, .row 1 false (ins.map encIn), cI lo, cI am]] (.agg (encXp ⟨newG m ins, lo, am⟩)) := by
  have c0 : Pure Tryd.prog 29 [.c (cI m), .c (.row 1 false (ins.map encIn))] (.agg (encGr (newG m ins))) := (gnew_new m hm ins hi.len hi.all).group
  generalize newG m ins = g at *
  refine pure_of teOk Tryd.func13 (by kernel_rfl) (c := _) rfl (N := 13) rfl (rs := [Go.ResultVar.cell 2 47]) rfl (by simp) fun base A w0 hA => ?_
  refine AW.st teOk [] (by simp [-Option.some.injEq] <;> rfl) trivial ?_
  refine AW.dr mixed teOk [.agg (encGr g)] (by simp [-Option.some.injEq] <;> rfl) (by kernel_rfl) (by kernel_rfl) ?_ ?_
  · simp [allP]
    exact c0
  refine AW.ret ⟨.inr rfl, _, Weak.refl _, ?_⟩
  simp
end Go.Proofs.YtphlhadgcfndhaaDoor.Abs
end
