/- Joined for the claim: WXact WXperf WBase WAgr14 WRgr -/
import Derived.Test.YtphlhadgcfndhaaGreatDoorJd8
import Derived.Test.YtphlhadgcfndhaaGreatDoorJd5
import Derived.Lib.Strings
import Derived.Test.YtphlhadgcfndhaaGreatDoorAbsS
section
namespace Go.Proofs.YtphlhadgcfndhaaGreatDoor.Abs
open Go Go.RowKit
set_option linter.unusedVariables false
set_option linter.unusedSimpArgs false
set_option maxHeartbeats 4000000
@[simp] def encA (a : ActP) : List Cell := [cI a.1, cI a.2]
@[simp] theorem flat_encA (l : List ActP) : flatO ⟨2, l.map encA⟩ = true := flatO_of fun e he => by
  obtain ⟨x, _, rfl⟩ := List.mem_map.1 he
  rfl
theorem actsD_succ (n : Nat) : actsD (n + 1) = actsD n ++ [(1, (n : Int))] := by simp [actsD, List.range_succ]
theorem actsL_succ (lo : Int) (n : Nat) : actsL lo (n + 1) = actsL lo n ++ if lo > 0 then [(2, (n : Int))] else [] := by
  unfold actsL
  rw [List.range_succ, List.filterMap_append]
  congr 1
  by_cases h : lo > 0 <;> simp [h]
theorem actsF_succ (am : Int) (accs : List V2) (n : Nat) : actsF am accs (n + 1) = actsF am accs n ++ if am > 0 ∧ 0 < (accs.getD n []).length then [(3, (n : Int))] else [] := by
  unfold actsF
  rw [List.range_succ, List.filterMap_append]
  congr 1
  by_cases h : am > 0 ∧ 0 < (accs.getD n []).length
  · rw [if_pos h, List.filterMap_cons, if_pos h]
    rfl
  · rw [if_neg h, List.filterMap_cons, if_neg h]
    rfl
theorem actsL_len (lo : Int) (n : Nat) : (actsL lo n).length ≤ n := by
  unfold actsL
  exact Nat.le_trans (List.length_filterMap_le _ _) (by simp)
theorem actsF_len (am : Int) (accs : List V2) (n : Nat) : (actsF am accs n).length ≤ n := by
  unfold actsF
  exact Nat.le_trans (List.length_filterMap_le _ _) (by simp)
theorem actsD_len (n : Nat) : (actsD n).length = n := by simp [actsD]
theorem acts_new (s : XpS) (hk : s.g.pks.length < 1000000) (ha : s.g.accs.length < 1000000) : New Tryz.prog 12 [.agg (encXp s)] (.c (.ref 0 0 (actsX s).length)) [(0, ⟨2, (actsX s).map encA⟩)] 1 := by
  obtain ⟨⟨accs, props, ins, nxt, pks, decs, steps⟩, lo, am⟩ := s
  dsimp only at *
  refine new_of teOk Tryz.func12 (by kernel_rfl) (c := _) rfl (N := 62) rfl (rs := [Go.ResultVar.tmp 2]) rfl (by simp) fun base A w0 hA => ?_
  refine AW.st teOk [] (by simp [-Option.some.injEq] <;> rfl) trivial ?_
  refine AW.st teOk [] (by simp [-Option.some.injEq] <;> rfl) trivial ?_
  refine AW.to (s2 := ⟨[(1, .c (.fad (encXp ⟨⟨accs, props, ins, nxt, pks, decs, steps⟩, lo, am⟩))), (3, .c (.ref 0 0 0))], [(0, ⟨2, []⟩)], 1⟩) ((Weak.freeze 0 ⟨9, [encXp ⟨⟨accs, props, ins, nxt, pks, decs, steps⟩, lo, am⟩]⟩ [] _ (by simp [putA]) (by simp)).trans ((Weak.nil 3 2 _ (by simp <;> rfl)).trans (Weak.normS hA [1, 3] [(3, 0)] [] [] 1 _ (by simp [putT]) (by simp [putT]) (by simp [putT])))) (by simp [putT, mapAt_nil']) ?_
  refine AW.seq ?_
  refine AW.st teOk [] (by simp [-Option.some.injEq] <;> rfl) trivial ?_
  refine AW.block (AW.loop (fun m s => ∃ (j : Nat) (d : List ActP), m = pks.length - j ∧ j ≤ pks.length ∧ d = actsD j ∧ s = ⟨[(1, .c (.fad (encXp ⟨⟨accs, props, ins, nxt, pks, decs, steps⟩, lo, am⟩))), (3, .c (.ref 0 0 d.length)), (11, .c (cI pks.length)), (12, .c (cI j))], [(0, ⟨2, d.map encA⟩)], 1⟩) _ (Weak.normS hA [1, 3, 11, 12] [(3, 0)] [] [] 1 _ (by simp) (by simp) (by simp)) ⟨0, [], rfl, Nat.zero_le _, rfl, by simp⟩ ?_)
  rintro m s ⟨j, d, rfl, hj, hd, rfl⟩
  have hdl : d.length ≤ j := by rw [hd, actsD_len]; exact Nat.le_refl _
  refine AW.st teOk [] (by simp [-Option.some.injEq] <;> rfl) trivial ?_
  refine AW.seq (AW.iff (decide (j < pks.length)) (by simp) (fun h => AW.skip ?_) (fun h => AW.exit (x_then (x_then (blockA_exit ?_)))))
  · rw [decide_eq_true_eq] at h
    have hinc : IntKind.i64.wrap ((j : Int) + 1) = (j : Int) + 1 := wrap_s _ (by omega)
    refine AW.seq (AW.block ?_)
    refine AW.st teOk [] (by simp [-Option.some.injEq] <;> rfl) trivial ?_
    refine AW.text teOk (ans := []) (by simp [-Option.some.injEq] <;> rfl) ?_ ?_
    · simp [growOk]
      omega
    refine AW.text teOk (ans := []) (by simp [-Option.some.injEq] <;> rfl) ?_ ?_
    · trivial
    refine ⟨_, _, Weak.normS hA [1, 3, 11, 12] [(3, 0)] [] [] 1 _ (by simp) (by simp) (by simp), ?_, j + 1, d ++ [(1, (j : Int))], rfl, h, ?_, ?_⟩
    · omega
    · rw [actsD_succ, hd]
    · simp [hinc]
  have hjl : j = pks.length := by
    rw [decide_eq_false_iff_not] at h
    omega
  rw [hjl] at hd
  refine AW.to (s2 := ⟨[(1, .c (.fad (encXp ⟨⟨accs, props, ins, nxt, pks, decs, steps⟩, lo, am⟩))), (3, .c (.ref 0 0 d.length))], [(0, ⟨2, d.map encA⟩)], 1⟩) (Weak.normS hA [1, 3] [(3, 0)] [] [] 1 _ (by simp) (by simp) (by simp)) (by simp) ?_
  clear hjl h hj hdl
  have hdl : d.length ≤ pks.length := by rw [hd, actsD_len]; exact Nat.le_refl _
  clear j
  refine AW.seq ?_
  refine AW.st teOk [] (by simp [-Option.some.injEq] <;> rfl) trivial ?_
  refine AW.block (AW.loop (fun m s => ∃ (j : Nat) (e : List ActP), m = pks.length - j ∧ j ≤ pks.length ∧ e = d ++ actsL lo j ∧ s = ⟨[(1, .c (.fad (encXp ⟨⟨accs, props, ins, nxt, pks, decs, steps⟩, lo, am⟩))), (3, .c (.ref 0 0 e.length)), (24, .c (cI pks.length)), (25, .c (cI j))], [(0, ⟨2, e.map encA⟩)], 1⟩) _ (Weak.normS hA [1, 3, 24, 25] [(3, 0)] [] [] 1 _ (by simp) (by simp) (by simp)) ⟨0, d, rfl, Nat.zero_le _, by simp [actsL], by simp⟩ ?_)
  rintro m s ⟨j, e, rfl, hj, he, rfl⟩
  have hel : e.length ≤ pks.length + j := by rw [he, List.length_append]; have := actsL_len lo j; omega
  refine AW.st teOk [] (by simp [-Option.some.injEq] <;> rfl) trivial ?_
  refine AW.seq (AW.iff (decide (j < pks.length)) (by simp) (fun h => AW.skip ?_) (fun h => AW.exit (x_then (x_then (blockA_exit ?_)))))
  · rw [decide_eq_true_eq] at h
    have hinc : IntKind.i64.wrap ((j : Int) + 1) = (j : Int) + 1 := wrap_s _ (by omega)
    have hsc := actsL_succ lo j
    refine AW.seq (AW.block ?_)
    refine AW.st teOk [] (by simp [-Option.some.injEq] <;> rfl) trivial ?_
    refine AW.st teOk [] (by simp [-Option.some.injEq] <;> rfl) trivial ?_
    refine AW.iff (decide (lo > 0)) (by simp) (fun hc => ?_) (fun hc => AW.skip ?_)
    · rw [decide_eq_true_eq] at hc
      refine AW.text teOk (ans := []) (by simp [-Option.some.injEq] <;> rfl) ?_ ?_
      · simp [growOk]
        omega
      refine AW.text teOk (ans := []) (by simp [-Option.some.injEq] <;> rfl) ?_ ?_
      · trivial
      refine ⟨_, _, Weak.normS hA [1, 3, 24, 25] [(3, 0)] [] [] 1 _ (by simp) (by simp) (by simp), ?_, j + 1, e ++ [(2, (j : Int))], rfl, h, ?_, ?_⟩
      · omega
      · rw [hsc, if_pos hc, he, List.append_assoc]
      · simp [hinc]
    · rw [decide_eq_false_iff_not] at hc
      refine AW.text teOk (ans := []) (by simp [-Option.some.injEq] <;> rfl) ?_ ?_
      · trivial
      refine ⟨_, _, Weak.normS hA [1, 3, 24, 25] [(3, 0)] [] [] 1 _ (by simp) (by simp) (by simp), ?_, j + 1, e, rfl, h, ?_, ?_⟩
      · omega
      · rw [hsc, if_neg hc, he, List.append_nil]
      · simp [hinc]
  have hjl : j = pks.length := by
    rw [decide_eq_false_iff_not] at h
    omega
  rw [hjl] at he
  refine AW.to (s2 := ⟨[(1, .c (.fad (encXp ⟨⟨accs, props, ins, nxt, pks, decs, steps⟩, lo, am⟩))), (3, .c (.ref 0 0 e.length))], [(0, ⟨2, e.map encA⟩)], 1⟩) (Weak.normS hA [1, 3] [(3, 0)] [] [] 1 _ (by simp) (by simp) (by simp)) (by simp) ?_
  have hel2 : e.length ≤ 2 * pks.length := by omega
  clear hel hjl h hj j
  refine AW.seq ?_
  refine AW.st teOk [] (by simp [-Option.some.injEq] <;> rfl) trivial ?_
  refine AW.block (AW.loop (fun m s => ∃ (j : Nat) (f : List ActP), m = accs.length - j ∧ j ≤ accs.length ∧ f = e ++ actsF am accs j ∧ s = ⟨[(1, .c (.fad (encXp ⟨⟨accs, props, ins, nxt, pks, decs, steps⟩, lo, am⟩))), (3, .c (.ref 0 0 f.length)), (39, .c (encVs accs)), (40, .c (cI accs.length)), (41, .c (cI j))], [(0, ⟨2, f.map encA⟩)], 1⟩) _ (Weak.normS hA [1, 3, 39, 40, 41] [(3, 0)] [] [] 1 _ (by simp) (by simp) (by simp)) ⟨0, e, rfl, Nat.zero_le _, by simp [actsF], by simp⟩ ?_)
  rintro m s ⟨j, f, rfl, hj, hf, rfl⟩
  have hfl : f.length ≤ 2 * pks.length + j := by rw [hf, List.length_append]; have := actsF_len am accs j; omega
  refine AW.st teOk [] (by simp [-Option.some.injEq] <;> rfl) trivial ?_
  refine AW.seq (AW.iff (decide (j < accs.length)) (by simp) (fun h => AW.skip ?_) (fun h => AW.exit (x_then (x_then (blockA_exit ?_)))))
  · rw [decide_eq_true_eq] at h
    obtain ⟨x, hx⟩ : ∃ x, accs[j]? = some x := ⟨_, List.getElem?_eq_getElem h⟩
    have hinc : IntKind.i64.wrap ((j : Int) + 1) = (j : Int) + 1 := wrap_s _ (by omega)
    have hsc := actsF_succ am accs j
    have hgx : accs.getD j [] = x := by rw [List.getD_eq_getElem?_getD, hx]; rfl
    rw [hgx] at hsc
    refine AW.seq (AW.block ?_)
    refine AW.st teOk [] (by simp [hx, -Option.some.injEq] <;> rfl) ?_ ?_
    · simpa using h
    by_cases hc : am > 0
    · refine AW.st teOk [] (by simp [hc, -Option.some.injEq] <;> rfl) trivial ?_
      refine AW.iff (decide (0 < x.length)) (by simp [hc]) (fun hc2 => ?_) (fun hc2 => AW.skip ?_)
      · rw [decide_eq_true_eq] at hc2
        refine AW.text teOk (ans := []) (by simp [-Option.some.injEq] <;> rfl) ?_ ?_
        · simp [growOk]
          omega
        refine AW.text teOk (ans := []) (by simp [-Option.some.injEq] <;> rfl) ?_ ?_
        · trivial
        refine ⟨_, _, Weak.normS hA [1, 3, 39, 40, 41] [(3, 0)] [] [] 1 _ (by simp) (by simp) (by simp), ?_, j + 1, f ++ [(3, (j : Int))], rfl, h, ?_, ?_⟩
        · omega
        · rw [hsc, if_pos ⟨hc, hc2⟩, hf, List.append_assoc]
        · simp [hinc]
      · rw [decide_eq_false_iff_not] at hc2
        refine AW.text teOk (ans := []) (by simp [-Option.some.injEq] <;> rfl) ?_ ?_
        · trivial
        refine ⟨_, _, Weak.normS hA [1, 3, 39, 40, 41] [(3, 0)] [] [] 1 _ (by simp) (by simp) (by simp), ?_, j + 1, f, rfl, h, ?_, ?_⟩
        · omega
        · rw [hsc, if_neg (fun hh => hc2 hh.2), hf, List.append_nil]
        · simp [hinc]
    · refine AW.st teOk [] (by simp [hc, -Option.some.injEq] <;> rfl) trivial ?_
      refine AW.iff false (by simp [hc]) (fun hc2 => by cases hc2) (fun hc2 => AW.skip ?_)
      refine AW.text teOk (ans := []) (by simp [-Option.some.injEq] <;> rfl) ?_ ?_
      · trivial
      refine ⟨_, _, Weak.normS hA [1, 3, 39, 40, 41] [(3, 0)] [] [] 1 _ (by simp) (by simp) (by simp), ?_, j + 1, f, rfl, h, ?_, ?_⟩
      · omega
      · rw [hsc, if_neg (fun hh => hc hh.1), hf, List.append_nil]
      · simp [hinc]
  have hjl : j = accs.length := by
    rw [decide_eq_false_iff_not] at h
    omega
  rw [hjl, he, hd] at hf
  refine AW.st teOk [] (by simp [-Option.some.injEq] <;> rfl) trivial ?_
  have hfx : actsX ⟨⟨accs, props, ins, nxt, pks, decs, steps⟩, lo, am⟩ = f := hf.symm
  rw [hfx]
  refine AW.ret ⟨.inr rfl, _, Weak.normS hA [2] [(2, 0)] [] [] 1 _ (by simp) (by simp) (by simp), ?_⟩
  simp
theorem acts_pure (s : XpS) (hk : s.g.pks.length < 1000000) (ha : s.g.accs.length < 1000000) : Pure Tryz.prog 12 [.agg (encXp s)] (.c (.row 2 false ((actsX s).map encA))) :=
  (acts_new s hk ha).pure ⟨[(0, .c (.row 2 false ((actsX s).map encA)))], [], 1⟩ (fun A => (Weak.freeze 0 ⟨2, (actsX s).map encA⟩ [] _ (by simp) (by simp)).be (by simp)) rfl rfl
theorem acts_len (s : XpS) : (actsX s).length ≤ 2 * s.g.pks.length + s.g.accs.length := by
  unfold actsX
  rw [List.length_append, List.length_append, actsD_len]
  have := actsL_len s.lo s.g.pks.length
  have := actsF_len s.am s.g.accs s.g.accs.length
  omega
theorem aidx_pure (l : List ActP) (a : ActP) (hl : l.length < 1000000000) (r : Int) (hr : (∃ j : Nat, r = j ∧ l[j]? = some a ∧ ∀ i < j, l[i]? ≠ some a) ∨ r = -1 ∧ a ∉ l) : Pure Tryz.prog 71 [.c (.row 2 false (l.map encA)), .agg (encA a)] (.c (cI r)) := by
  refine pure_of teOk Tryz.func71 (by kernel_rfl) (c := _) rfl (N := 19) rfl (rs := [Go.ResultVar.tmp 4]) rfl (by simp) fun base A w0 hA => ?_
  refine AW.st teOk [] (by simp [-Option.some.injEq] <;> rfl) trivial ?_
  refine AW.to (s2 := ⟨[(0, .c (.row 2 false (l.map encA))), (3, .c (.fad (encA a)))], [], 1⟩) ((Weak.freeze 0 ⟨2, [encA a]⟩ [] _ (by simp) (by simp)).trans (Weak.normS hA [0, 3] [] [] [] 1 _ (by simp) (by simp) (by simp))) (by simp [mapAt_nil']) ?_
  refine AW.seq ?_
  refine AW.st teOk [] (by simp [-Option.some.injEq] <;> rfl) trivial ?_
  refine AW.block (AW.loop (fun m s => ∃ (j : Nat), m = l.length - j ∧ j ≤ l.length ∧ (∀ i < j, l[i]? ≠ some a) ∧ s = ⟨[(0, .c (.row 2 false (l.map encA))), (3, .c (.fad (encA a))), (7, .c (cI l.length)), (8, .c (cI j))], [], 1⟩) _ (Weak.normS hA [0, 3, 7, 8] [] [] [] 1 _ (by simp) (by simp) (by simp)) ⟨0, rfl, Nat.zero_le _, fun i hi => by omega, by simp⟩ ?_)
  rintro m s ⟨j, rfl, hj, hb, rfl⟩
  refine AW.st teOk [] (by simp [-Option.some.injEq] <;> rfl) trivial ?_
  refine AW.seq (AW.iff (decide (j < l.length)) (by simp) (fun h => AW.skip ?_) (fun h => AW.exit (x_then (x_then (blockA_exit ?_)))))
  · rw [decide_eq_true_eq] at h
    obtain ⟨x, hx⟩ : ∃ x, l[j]? = some x := ⟨_, List.getElem?_eq_getElem h⟩
    have hinc : IntKind.i64.wrap ((j : Int) + 1) = (j : Int) + 1 := wrap_s _ (by omega)
    refine AW.seq (AW.block ?_)
    refine AW.st teOk [] (by simp [-Option.some.injEq] <;> rfl) trivial ?_
    refine AW.dr mixed teOk [] (by simp [hx, -Option.some.injEq] <;> rfl) (by kernel_rfl) (by kernel_rfl) ?_ ?_
    · simpa [allP] using h
    have hdec : (a.1 == x.1 && a.2 == x.2) = decide (x = a) := by
      rw [Bool.eq_iff_iff, Bool.and_eq_true, beq_iff_eq, beq_iff_eq, decide_eq_true_eq]
      constructor
      · rintro ⟨h1, h2⟩
        exact Prod.ext h1.symm h2.symm
      · rintro rfl
        exact ⟨rfl, rfl⟩
    refine AW.iff (decide (x = a)) (by simp; exact hdec) (fun hc => ?_) (fun hc => AW.skip ?_)
    · rw [decide_eq_true_eq] at hc
      subst hc
      have hrj : r = j := by
        rcases hr with ⟨q, hq, h1, h2⟩ | ⟨_, h2⟩
        · rcases Nat.lt_trichotomy j q with h3 | h3 | h3
          · exact absurd hx (h2 j h3)
          · omega
          · exact absurd h1 (hb q h3)
        · exact absurd (List.mem_of_getElem? hx) h2
      refine AW.st teOk [] (by simp [-Option.some.injEq] <;> rfl) trivial ?_
      refine AW.ret ⟨.inr rfl, _, Weak.refl _, ?_⟩
      simp [hrj]
    · rw [decide_eq_false_iff_not] at hc
      refine AW.text teOk (ans := []) (by simp [-Option.some.injEq] <;> rfl) ?_ ?_
      · trivial
      refine ⟨_, _, Weak.normS hA [0, 3, 7, 8] [] [] [] 1 _ (by simp) (by simp) (by simp), ?_, j + 1, rfl, h, ?_, ?_⟩
      · omega
      · intro i hi he
        by_cases hij : i = j
        · subst hij
          rw [hx] at he
          exact hc (Option.some.inj he)
        · exact hb i (by omega) he
      · simp [hinc]
  rw [decide_eq_false_iff_not] at h
  have hrj : r = -1 := by
    rcases hr with ⟨q, hq, h1, h2⟩ | ⟨h1, _⟩
    · exact absurd h1 (hb q (by have := (List.getElem?_eq_some_iff.1 h1).1; omega))
    · exact h1
  refine AW.st teOk [] (by simp [-Option.some.injEq] <;> rfl) trivial ?_
  refine AW.ret ⟨.inr rfl, _, Weak.refl _, ?_⟩
  simp [hrj]
theorem first_at {α : Type} [DecidableEq α] : ∀ (l : List α) (a : α), a ∈ l → ∃ j : Nat, l[j]? = some a ∧ ∀ i < j, l[i]? ≠ some a
  | [], a, h => by cases h
  | x :: l, a, h => by
    by_cases hx : x = a
    · subst hx
      exact ⟨0, rfl, fun i hi => by omega⟩
    · rcases List.mem_cons.1 h with rfl | h
      · exact absurd rfl hx
      · obtain ⟨j, h1, h2⟩ := first_at l a h
        refine ⟨j + 1, by simpa using h1, fun i hi => ?_⟩
        cases i with
        | zero => simpa using hx
        | succ i => simpa using h2 i (by omega)
theorem ahas_pure (l : List ActP) (a : ActP) (hl : l.length < 1000000000) : Pure Tryz.prog 36 [.c (.row 2 false (l.map encA)), .agg (encA a)] (.c (cB (decide (a ∈ l)))) := by
  obtain ⟨r, hr, hr2⟩ : ∃ r : Int, ((∃ j : Nat, r = j ∧ l[j]? = some a ∧ ∀ i < j, l[i]? ≠ some a) ∨ r = -1 ∧ a ∉ l) ∧ decide (r ≥ 0) = decide (a ∈ l) := by
    by_cases h : a ∈ l
    · obtain ⟨j, h1, h2⟩ := first_at l a h
      exact ⟨j, .inl ⟨j, rfl, h1, h2⟩, by simp [h]⟩
    · exact ⟨-1, .inr ⟨rfl, h⟩, by simp [h]⟩
  refine pure_of teOk Tryz.func36 (by kernel_rfl) (c := _) rfl (N := 9) rfl (rs := [Go.ResultVar.tmp 4]) rfl (by simp) fun base A w0 hA => ?_
  refine AW.st teOk [] (by simp [-Option.some.injEq] <;> rfl) trivial ?_
  refine AW.st teOk [.fz (.c (cI r))] (by simp [-Option.some.injEq] <;> rfl) ?_ ?_
  · simpa using aidx_pure l a hl r hr
  refine AW.ret ⟨.inr rfl, _, Weak.refl _, ?_⟩
  rw [← hr2]
  simp
theorem xclone_pure (s : XpS) (hg : GrB s.g) : Pure Tryz.prog 26 [.agg (encXp s)] (.agg (encXp s)) :=
  (xclone_new s hg).pure ⟨[(0, .agg (encXp s))], [], 3⟩ (fun A => by
    refine (Weak.freeze 0 ⟨1, s.g.accs.map encC⟩ [] _ (by simp) (by simp)).trans ?_
    refine (Weak.freeze 1 ⟨5, s.g.pks.map encPk⟩ [] _ (by simp) (by simp)).trans ?_
    exact (Weak.freeze 2 ⟨4, s.g.decs.map encDe⟩ [] _ (by simp) (by simp)).be (by simp)) rfl rfl
theorem strB_eq {k l : List Int} (hk : ∀ x ∈ k, 0 ≤ x ∧ x < 100) (hl : ∀ x ∈ l, 0 ≤ x ∧ x < 100) : ((strB (strN k)).toList == (strB (strN l)).toList) = decide (k = l) := by
  have digs : ∀ k : List Int, (∀ x ∈ k, 0 ≤ x ∧ x < 100) → ∀ y ∈ strN k, 0 ≤ y ∧ y < 256 := fun k => by
    induction k with
    | nil => intro _ y hy; cases hy
    | cons x k ih =>
      intro h y hy
      have hx := h x (by simp)
      rw [strN] at hy
      rcases List.mem_append.1 hy with hy | hy
      · unfold digN at hy
        split at hy
        · rw [List.mem_singleton.1 hy]
          omega
        · simp only [List.mem_cons, List.not_mem_nil, or_false] at hy
          rcases hy with rfl | rfl <;> omega
      · rcases List.mem_cons.1 hy with rfl | hy
        · omega
        · exact ih (fun z hz => h z (by simp [hz])) y hy
  have inj : ∀ a b : List Int, (∀ y ∈ a, 0 ≤ y ∧ y < 256) → (∀ y ∈ b, 0 ≤ y ∧ y < 256) → a.map (fun n => UInt8.ofNat n.toNat) = b.map (fun n => UInt8.ofNat n.toNat) → a = b := fun a => by
    induction a with
    | nil =>
      intro b _ _ h
      cases b with
      | nil => rfl
      | cons y b => cases h
    | cons x a ih =>
      intro b ha hb h
      cases b with
      | nil => cases h
      | cons y b =>
        rw [List.map_cons, List.map_cons] at h
        injection h with h1 h2
        have hx := ha x (by simp)
        have hy := hb y (by simp)
        have h3 := congrArg UInt8.toNat h1
        rw [UInt8.toNat_ofNat', UInt8.toNat_ofNat'] at h3
        have : x = y := by omega
        rw [this, ih b (fun z hz => ha z (by simp [hz])) (fun z hz => hb z (by simp [hz])) h2]
  rw [Bool.eq_iff_iff, beq_iff_eq, decide_eq_true_eq, Go.Lib.toList_data, Go.Lib.toList_data]
  constructor
  · intro h
    exact strN_inj hk hl (inj _ _ (digs k hk) (digs l hl) h)
  · rintro rfl
    rfl
/-- Two states are one. -/
def sameX (s t : XpS) : Bool := decide (keyN s = keyN t)
theorem sameX_iff {s t : XpS} : sameX s t = true ↔ s = t := by
  unfold sameX
  rw [decide_eq_true_eq]
  exact ⟨keyN_inj, fun h => h ▸ rfl⟩
end Go.Proofs.YtphlhadgcfndhaaGreatDoor.Abs
end
section
namespace Go.Proofs.YtphlhadgcfndhaaGreatDoor.Abs
open Go Go.RowKit
set_option linter.unusedVariables false
set_option linter.unusedSimpArgs false
set_option maxHeartbeats 4000000
theorem perf_del {s : XpS} {i : Nat} (h : ((1, (i : Int)) : ActP) ∈ actsX s) : perfX s (1, (i : Int)) = { s with g := delivS s.g i } := by
  unfold perfX
  rw [if_pos h, if_pos rfl]
  rfl
theorem perf_lose {s : XpS} {i : Nat} (h : ((2, (i : Int)) : ActP) ∈ actsX s) : perfX s (2, (i : Int)) = { s with g := { s.g with pks := delL s.g.pks i }, lo := s.lo - 1 } := by
  unfold perfX
  rw [if_pos h, if_neg (show ¬ ((2 : Int) = 1) by decide), if_pos rfl]
  rfl
theorem perf_forg {s : XpS} {i : Nat} (h : ((3, (i : Int)) : ActP) ∈ actsX s) : perfX s (3, (i : Int)) = { s with g := forgG s.g i, am := s.am - 1 } := by
  unfold perfX
  rw [if_pos h, if_neg (show ¬ ((3 : Int) = 1) by decide), if_neg (show ¬ ((3 : Int) = 2) by decide)]
  rfl
@[simp] theorem plain_encA (l : List ActP) : plainO ⟨2, l.map encA⟩ = true := by
  unfold plainO
  rw [List.all_eq_true]
  intro e he
  obtain ⟨x, _, rfl⟩ := List.mem_map.1 he
  rfl
theorem nil_cell1 : LeC (.sc (.slice none 0 0)) (encV []) := .nil 2
theorem perf_pure (s : XpS) {n N : Nat} (hw : GrW s.g n N) (hN : N < 1000000) (hlo : s.lo < 1000000) (ham : s.am < 1000000) (a : ActP) : Pure Tryz.prog 16 [.agg (encXp s), .agg (encA a)] (.agg (encXp (perfX s a))) := by
  have hb := hw.b (by omega)
  have hkl := hw.kl
  have hal := hw.al
  have c0 := xclone_pure s hb
  have cn := xclone_new s hb
  have hal2 : (actsX s).length < 1000000000 := by have := acts_len s; omega
  have c1 := acts_pure s (by omega) (by omega)
  have c1n := acts_new s (by omega) (by omega)
  have c2 := ahas_pure (actsX s) a hal2
  by_cases ha : a ∈ actsX s
  · rw [decide_eq_true ha] at c2
    rcases mem_actsX ha with ⟨i, hi, rfl⟩ | ⟨hl0, i, hi, rfl⟩ | ⟨hl0, i, hi, rfl⟩
    · rw [perf_del ha]
      have c3 := deliv_pure s.g hw (by omega) (i : Int)
      have hz : delivZ s.g (i : Int) = delivS s.g i := by unfold delivZ; rw [if_pos ⟨by omega, by omega⟩]; rfl
      rw [hz] at c3
      generalize delivS s.g i = g' at *
      obtain ⟨⟨accs, props, ins, nxt, pks, decs, steps⟩, lo, am⟩ := s
      dsimp only at *
      generalize actsX ⟨⟨accs, props, ins, nxt, pks, decs, steps⟩, lo, am⟩ = L at *
      refine pure_of teOk Tryz.func16 (by kernel_rfl) (c := _) rfl (N := 49) rfl (rs := [Go.ResultVar.cell 4 36]) rfl (by simp) fun base A w0 hA => ?_
      refine AW.st teOk [] (by simp [-Option.some.injEq] <;> rfl) trivial ?_
      refine AW.st teOk [.fz (.agg (encXp ⟨⟨accs, props, ins, nxt, pks, decs, steps⟩, lo, am⟩))] (by simp [-Option.some.injEq] <;> rfl) ?_ ?_
      · simpa using c0
      refine AW.seq ?_
      refine AW.dr mixed teOk [.c (.row 2 false (L.map encA)), .c (cB true)] (by simp [-Option.some.injEq] <;> rfl) (by kernel_rfl) (by kernel_rfl) ?_ ?_
      · simp [allP]
        exact ⟨c1, c2⟩
      refine AW.iff false (by simp) (fun h => by cases h) (fun _ => AW.skip ?_)
      refine AW.seq ?_
      refine AW.st teOk [] (by simp [-Option.some.injEq] <;> rfl) trivial ?_
      refine AW.block ?_
      refine AW.st teOk [] (by simp [-Option.some.injEq] <;> rfl) trivial ?_
      refine AW.iff true (by simp) (fun _ => ?_) (fun h => by cases h)
      refine AW.text teOk (ans := [.fz (.agg (encGr g'))]) (by simp [-Option.some.injEq] <;> rfl) ?_ ?_
      · simpa using c3
      refine AW.st teOk [] (by simp [-Option.some.injEq] <;> rfl) trivial ?_
      refine AW.ret ⟨.inr rfl, _, Weak.refl _, ?_⟩
      simp
    · rw [perf_lose ha]
      have c3 := lose_pure s.g hw (by omega) (i : Int)
      have hz : loseS s.g (i : Int) = { s.g with pks := delL s.g.pks i } := by unfold loseS; rw [if_pos ⟨by omega, by omega⟩]; rfl
      rw [hz] at c3
      generalize ({ s.g with pks := delL s.g.pks i } : GrS) = g' at *
      obtain ⟨⟨accs, props, ins, nxt, pks, decs, steps⟩, lo, am⟩ := s
      dsimp only at *
      have hsub : IntKind.i64.wrap (lo - 1) = lo - 1 := by rw [IntKind.wrap_i64]; omega
      generalize actsX ⟨⟨accs, props, ins, nxt, pks, decs, steps⟩, lo, am⟩ = L at *
      refine pure_of teOk Tryz.func16 (by kernel_rfl) (c := _) rfl (N := 49) rfl (rs := [Go.ResultVar.cell 4 36]) rfl (by simp) fun base A w0 hA => ?_
      refine AW.st teOk [] (by simp [-Option.some.injEq] <;> rfl) trivial ?_
      refine AW.st teOk [.fz (.agg (encXp ⟨⟨accs, props, ins, nxt, pks, decs, steps⟩, lo, am⟩))] (by simp [-Option.some.injEq] <;> rfl) ?_ ?_
      · simpa using c0
      refine AW.seq ?_
      refine AW.dr mixed teOk [.c (.row 2 false (L.map encA)), .c (cB true)] (by simp [-Option.some.injEq] <;> rfl) (by kernel_rfl) (by kernel_rfl) ?_ ?_
      · simp [allP]
        exact ⟨c1, c2⟩
      refine AW.iff false (by simp) (fun h => by cases h) (fun _ => AW.skip ?_)
      refine AW.seq ?_
      refine AW.st teOk [] (by simp [-Option.some.injEq] <;> rfl) trivial ?_
      refine AW.block ?_
      refine AW.st teOk [] (by simp [-Option.some.injEq] <;> rfl) trivial ?_
      refine AW.iff false (by simp) (fun h => by cases h) (fun _ => ?_)
      refine AW.st teOk [] (by simp [-Option.some.injEq] <;> rfl) trivial ?_
      refine AW.iff true (by simp) (fun _ => ?_) (fun h => by cases h)
      refine AW.st teOk [.fz (.agg (encGr g'))] (by simp [-Option.some.injEq] <;> rfl) ?_ ?_
      · simpa using c3
      refine AW.text teOk (ans := []) (by simp [hsub, -Option.some.injEq] <;> rfl) ?_ ?_
      · trivial
      refine AW.st teOk [] (by simp [-Option.some.injEq] <;> rfl) trivial ?_
      refine AW.ret ⟨.inr rfl, _, Weak.refl _, ?_⟩
      simp
    · rw [perf_forg ha]
      have hset : (s.g.accs.map encC).set i [.sc (.slice none 0 0)] = (s.g.accs.map encC).set i [.sc (.slice none 0 0)] := rfl
      obtain ⟨⟨accs, props, ins, nxt, pks, decs, steps⟩, lo, am⟩ := s
      dsimp only at *
      have hsub : IntKind.i64.wrap (am - 1) = am - 1 := by rw [IntKind.wrap_i64]; omega
      generalize actsX ⟨⟨accs, props, ins, nxt, pks, decs, steps⟩, lo, am⟩ = L at *
      refine pure_of teOk Tryz.func16 (by kernel_rfl) (c := _) rfl (N := 49) rfl (rs := [Go.ResultVar.cell 4 36]) rfl (by simp) fun base A w0 hA => ?_
      refine AW.st teOk [] (by simp [-Option.some.injEq] <;> rfl) trivial ?_
      refine AW.st teOk [.new (.agg (refX 0 ⟨⟨accs, props, ins, nxt, pks, decs, steps⟩, lo, am⟩)) (sigX 0 ⟨⟨accs, props, ins, nxt, pks, decs, steps⟩, lo, am⟩) 3] (by simp [-Option.some.injEq] <;> rfl) ?_ ?_
      · simpa using cn
      refine AW.to (s2 := ⟨[(2, .c (.ptr 0 0 0)), (3, .c (.ptr 1 0 0)), (4, .c (.ptr 2 0 0))], [(0, ⟨9, [[.ref 3 0 accs.length, .row 5 false (props.map encPr'), .row 1 false (ins.map encIn), encIs nxt, .row 5 false (pks.map encPk), .row 4 false (decs.map encDe), cI steps, cI lo, cI am]]⟩), (1, ⟨2, [encA (3, (i : Int))]⟩), (2, ⟨9, [nilX]⟩), (3, ⟨1, accs.map encC⟩)], 4⟩) ((Weak.freeze 5 ⟨5, pks.map encPk⟩ [0] _ (by simp) (by simp)).trans ((Weak.freeze 6 ⟨4, decs.map encDe⟩ [0] _ (by simp) (by simp)).trans (Weak.normS hA [2, 3, 4] [(2, 0), (3, 1), (4, 2)] [(4, 3)] [0] 4 _ (by simp) (by simp) (by simp)))) (by simp) ?_
      refine AW.seq ?_
      refine AW.dr mixed teOk [.tup [.c (.ref 0 0 L.length), .c (.row 2 true (L.map encA))], .c (cB true)] (by simp [-Option.some.injEq] <;> rfl) (by kernel_rfl) (by kernel_rfl) ?_ ?_
      · simp [allP, flatVs, flatV, flatCs, flatC, flatAt]
        exact ⟨by simpa using c1n, by simpa using c2⟩
      refine AW.iff false (by simp) (fun h => by cases h) (fun _ => AW.skip ?_)
      refine AW.to (s2 := ⟨[(2, .c (.ptr 0 0 0)), (3, .c (.ptr 1 0 0)), (4, .c (.ptr 2 0 0))], [(0, ⟨9, [[.ref 3 0 accs.length, .row 5 false (props.map encPr'), .row 1 false (ins.map encIn), encIs nxt, .row 5 false (pks.map encPk), .row 4 false (decs.map encDe), cI steps, cI lo, cI am]]⟩), (1, ⟨2, [encA (3, (i : Int))]⟩), (2, ⟨9, [nilX]⟩), (3, ⟨1, accs.map encC⟩)], 4⟩) (Weak.normS hA [2, 3, 4] [(2, 0), (3, 1), (4, 2)] [(3, 3)] [0] 4 _ (by simp) (by simp) (by simp)) (by simp) ?_
      refine AW.seq ?_
      refine AW.st teOk [] (by simp [-Option.some.injEq] <;> rfl) trivial ?_
      refine AW.block ?_
      refine AW.st teOk [] (by simp [-Option.some.injEq] <;> rfl) trivial ?_
      refine AW.iff false (by simp) (fun h => by cases h) (fun _ => ?_)
      refine AW.st teOk [] (by simp [-Option.some.injEq] <;> rfl) trivial ?_
      refine AW.iff false (by simp) (fun h => by cases h) (fun _ => ?_)
      refine AW.st teOk [] (by simp [-Option.some.injEq] <;> rfl) trivial ?_
      refine AW.iff true (by simp) (fun _ => ?_) (fun h => by cases h)
      have hx : accs[i]? = some accs[i] := List.getElem?_eq_getElem hi
      refine AW.st teOk [] (by simp [hx, -Option.some.injEq] <;> rfl) ?_ ?_
      · simpa using hi
      obtain ⟨a2, ha2⟩ : ∃ a2, a2 = accs.set i [] := ⟨_, rfl⟩
      have hal3 : a2.length = accs.length := by rw [ha2, List.length_set]
      have htk : (a2.map encC).take accs.length = a2.map encC := List.take_of_length_le (by rw [List.length_map]; omega)
      have hle : ∀ (j : Nat) (e e' : List Cell), ((accs.map encC).set i [.sc (.slice none 0 0)])[j]? = some e → (a2.map encC)[j]? = some e' → LeCs e e' := fun j e e' h1 h2 => by
        rw [List.getElem?_set] at h1
        rw [ha2, List.getElem?_map, List.getElem?_set] at h2
        split at h1
        · rename_i hji
          subst hji
          rw [if_pos rfl] at h2
          split at h1
          · rename_i hlt
            rw [List.length_map] at hlt
            rw [if_pos hlt] at h2
            cases h1
            cases h2
            exact .cons nil_cell1 .nil
          · cases h1
        · rename_i hji
          rw [if_neg hji, ← List.getElem?_map, h1] at h2
          cases h2
          rw [List.getElem?_map] at h1
          cases hq : accs[j]? with
          | none => rw [hq] at h1; cases h1
          | some q =>
            rw [hq] at h1
            cases h1
            exact .cons (.refl _) .nil
      refine AW.to (s2 := ⟨[(2, .c (.ptr 0 0 0)), (4, .c (.ptr 1 0 0))], [(0, ⟨9, [[encVs a2, .row 5 false (props.map encPr'), .row 1 false (ins.map encIn), encIs nxt, .row 5 false (pks.map encPk), .row 4 false (decs.map encDe), cI steps, cI lo, cI am]]⟩), (1, ⟨9, [nilX]⟩)], 2⟩) ((Weak.leO 3 (o := ⟨1, (accs.map encC).set i [.sc (.slice none 0 0)]⟩) (o' := ⟨1, a2.map encC⟩) _ (by simp [putA]) rfl (by simp [hal3]) hle).trans ((Weak.freeze 3 ⟨1, a2.map encC⟩ [0] _ (by simp [putA]) (by simp)).trans (Weak.normS hA [2, 4] [(2, 0), (4, 1)] [] [0] 2 _ (by simp [putA, hal3, htk]) (by simp [putA, hal3, htk]) (by simp [putA, hal3, htk])))) (by simp [putA, hal3, htk]) ?_
      refine AW.text teOk (ans := []) (by simp [hsub, -Option.some.injEq] <;> rfl) ?_ ?_
      · trivial
      refine AW.st teOk [] (by simp [-Option.some.injEq] <;> rfl) trivial ?_
      refine AW.ret ⟨.inr rfl, _, Weak.refl _, ?_⟩
      simp [forgG, ha2]
  · have hp : perfX s a = s := by unfold perfX; rw [if_neg ha]
    rw [hp]
    rw [decide_eq_false ha] at c2
    obtain ⟨⟨accs, props, ins, nxt, pks, decs, steps⟩, lo, am⟩ := s
    dsimp only at *
    generalize actsX ⟨⟨accs, props, ins, nxt, pks, decs, steps⟩, lo, am⟩ = L at *
    refine pure_of teOk Tryz.func16 (by kernel_rfl) (c := _) rfl (N := 49) rfl (rs := [Go.ResultVar.cell 4 36]) rfl (by simp) fun base A w0 hA => ?_
    refine AW.st teOk [] (by simp [-Option.some.injEq] <;> rfl) trivial ?_
    refine AW.st teOk [.fz (.agg (encXp ⟨⟨accs, props, ins, nxt, pks, decs, steps⟩, lo, am⟩))] (by simp [-Option.some.injEq] <;> rfl) ?_ ?_
    · simpa using c0
    refine AW.seq ?_
    refine AW.dr mixed teOk [.c (.row 2 false (L.map encA)), .c (cB false)] (by simp [-Option.some.injEq] <;> rfl) (by kernel_rfl) (by kernel_rfl) ?_ ?_
    · simp [allP]
      exact ⟨c1, by simpa using c2⟩
    refine AW.iff true (by simp) (fun h => ?_) (fun h => by cases h)
    refine AW.st teOk [] (by simp [-Option.some.injEq] <;> rfl) trivial ?_
    refine AW.ret ⟨.inr rfl, _, Weak.refl _, ?_⟩
    simp
theorem initX_pure (m : Nat) (hm : 1 ≤ m ∧ m ≤ 12) {ins : List (List V2)} (hi : InsOk ins) (lo am : Int) : Pure Tryz.prog 6 [.agg [cI m, .row 1 false (ins.map encIn), cI lo, cI am]] (.agg (encXp ⟨newG m ins, lo, am⟩)) := by
  have c0 : Pure Tryz.prog 22 [.c (cI m), .c (.row 1 false (ins.map encIn))] (.agg (encGr (newG m ins))) := (gnew_new m hm ins hi.len hi.all).group
  generalize newG m ins = g at *
  refine pure_of teOk Tryz.func6 (by kernel_rfl) (c := _) rfl (N := 13) rfl (rs := [Go.ResultVar.cell 2 36]) rfl (by simp) fun base A w0 hA => ?_
  refine AW.st teOk [] (by simp [-Option.some.injEq] <;> rfl) trivial ?_
  refine AW.dr mixed teOk [.agg (encGr g)] (by simp [-Option.some.injEq] <;> rfl) (by kernel_rfl) (by kernel_rfl) ?_ ?_
  · simp [allP]
    exact c0
  refine AW.ret ⟨.inr rfl, _, Weak.refl _, ?_⟩
  simp
end Go.Proofs.YtphlhadgcfndhaaGreatDoor.Abs
end
section
namespace Go.Proofs.YtphlhadgcfndhaaGreatDoor.Abs
open Go Go.RowKit
set_option linter.unusedVariables false
set_option linter.unusedSimpArgs false

def indexI (x k : Int) : Int := if k < 1 then 0 else (IntKind.i64.wrap (x.tmod k + k)).tmod k
theorem index_pure (x k : Int) : Pure Tryz.prog 18 [.c (.sc (.int .i64 x)), .c (.sc (.int .i64 k))] (.c (.sc (.int .i64 (indexI x k)))) := by
  refine pure_of teOk Tryz.func18 (by kernel_rfl) (c := _) rfl (N := 14) rfl (rs := [Go.ResultVar.tmp 4]) rfl (by simp) fun base A w0 hA => ?_
  refine AW.st teOk [] (by simp [-Option.some.injEq] <;> rfl) trivial ?_
  refine AW.seq ?_
  refine AW.st teOk [] (by simp [-Option.some.injEq] <;> rfl) trivial ?_
  refine AW.iff (decide (k < 1)) (by simp) (fun h => ?_) (fun h => ?_)
  · refine AW.st teOk [] (by simp [-Option.some.injEq] <;> rfl) trivial ?_
    refine AW.ret ⟨.inr rfl, _, Weak.refl _, ?_⟩
    simp
    simp only [decide_eq_true_eq] at h
    rw [indexI, if_pos h]
  · simp only [decide_eq_false_iff_not] at h
    refine AW.skip ?_
    refine AW.st teOk [] (by simp [-Option.some.injEq] <;> rfl) ?_ ?_
    · have : k ≠ 0 := by omega
      simp [this]
    refine AW.ret ⟨.inr rfl, _, Weak.refl _, ?_⟩
    simp
    rw [indexI, if_neg h]
def digX (b x : Int) : Nat → Int
  | 0 => x
  | j + 1 => IntKind.i64.wrap ((digX b x j).tdiv b)
def digitI (x b : Int) (i : Nat) : Int := (digX b (indexI x 1099511627776) i).tmod b
theorem digit_pure (x b : Int) (i : Nat) (hb : b ≠ 0) (hi : i < 1000) : Pure Tryz.prog 21 [.c (.sc (.int .i64 x)), .c (.sc (.int .i64 b)), .c (.sc (.int .i64 i))] (.c (.sc (.int .i64 (digitI x b i)))) := by
  refine pure_of teOk Tryz.func21 (by kernel_rfl) (c := _) rfl (N := 22) rfl (rs := [Go.ResultVar.tmp 6]) rfl (by simp) fun base A w0 hA => ?_
  refine AW.st teOk [] (by simp [-Option.some.injEq] <;> rfl) trivial ?_
  refine AW.st teOk [.fz (.c (.sc (.int .i64 (indexI x 1099511627776))))] (by simp [-Option.some.injEq] <;> rfl) ?_ ?_
  · exact index_pure _ _
  refine AW.seq ?_
  refine AW.st teOk [] (by simp [-Option.some.injEq] <;> rfl) trivial ?_
  refine AW.block ?_
  refine AW.loop (fun m s => ∃ j : Nat, j ≤ i ∧ m = i - j ∧ s = ⟨[(0, .c (.sc (.int .i64 x))), (1, .c (.sc (.int .i64 b))), (2, .c (.sc (.int .i64 i))), (7, .c (.sc (.int .i64 (digX b (indexI x 1099511627776) j)))), (8, .c (.sc (.int .i64 j)))], [], 0⟩) i (Weak.norm hA [0, 1, 2, 7, 8] [] [] 0 _ rfl (by simp) (by simp)) ⟨0, Nat.zero_le _, rfl, ?_⟩ ?_
  · simp [digX]
  rintro m s ⟨j, hj, rfl, rfl⟩
  refine AW.seq ?_
  refine AW.st teOk [] (by simp [-Option.some.injEq] <;> rfl) trivial ?_
  refine AW.iff (decide (j < i)) (by simp) (fun h => ?_) (fun h => ?_)
  · simp only [decide_eq_true_eq] at h
    refine AW.skip ?_
    refine AW.seq (AW.block ?_)
    refine AW.text teOk (ans := []) (by simp [-Option.some.injEq]; rfl) (by simp [hb]) ?_
    refine AW.text teOk (ans := []) (by simp [-Option.some.injEq]; rfl) (by simp) ?_
    refine ⟨_, _, Weak.norm hA [0, 1, 2, 7, 8] [] [] 0 _ rfl (by simp) (by simp), ?_, j + 1, h, rfl, ?_⟩
    · omega
    · simp [digX]
      exact wrap_s j (by omega)
  · simp only [decide_eq_false_iff_not] at h
    have hji : j = i := by omega
    subst hji
    refine AW.exit (x_then (x_then (blockA_exit ?_)))
    refine AW.st teOk [] (by simp [-Option.some.injEq] <;> rfl) ?_ ?_
    · simp [hb]
    refine AW.ret ⟨.inr rfl, _, Weak.refl _, ?_⟩
    simp
    rw [digitI]
end Go.Proofs.YtphlhadgcfndhaaGreatDoor.Abs
end
section
namespace Go.Proofs.YtphlhadgcfndhaaGreatDoor.Abs
open Go Go.RowKit
set_option linter.unusedVariables false
set_option linter.unusedSimpArgs false
set_option maxHeartbeats 4000000
/-- An empty literal in a slot: an object without elements. -/
theorem Weak.emp {A : Old} (t k : Nat) (s : St) (ht : look t s.τ = some (.c (.row k true []))) : Weak A s ⟨putT t (.c (.ref s.fr 0 0)) s.τ, putA s.fr ⟨k, []⟩ s.σ, s.fr + 1⟩ := fun base w0 n β a w I => by
  obtain ⟨I', hle, hok, hfr⟩ := virt_inv I k
  refine ⟨_, I', I.defers, I.size, fun u x hx => ?_, hfr, I.ext.step hle fun x hx => ⟨hok x hx, rfl⟩⟩
  have hx' : look u (putT t (.c (.ref s.fr 0 0)) s.τ) = some x := hx
  rw [look_putT] at hx'
  split at hx'
  · rename_i e
    cases hx'
    subst e
    obtain ⟨y, hy, hr⟩ := I.tmps _ _ ht
    cases hr with
    | c hr =>
    cases hr with
    | fz hr =>
    cases hr with
    | row vs h1 h2 h3 h4 h5 h6 =>
    have hc := h2 rfl
    subst hc
    exact ⟨_, hy, .c (.refv (updB_self _ _ _))⟩
  · obtain ⟨y, hy, hr⟩ := I.tmps u x hx'
    exact ⟨y, hy, hr.mono (fun b hb => ⟨hok b hb, rfl⟩) hle⟩
theorem index_lt (x : Int) {k : Int} (hk : 0 < k) (hk2 : k < 4000000000000000000) : 0 ≤ indexI x k ∧ indexI x k < k := by
  unfold indexI
  rw [if_neg (by omega)]
  have h1 := Int.tmod_lt_of_pos x hk
  have h2 := Int.lt_tmod_of_pos x hk
  have hw : IntKind.i64.wrap (x.tmod k + k) = x.tmod k + k := by rw [IntKind.wrap_i64]; omega
  rw [hw]
  exact ⟨Int.tmod_nonneg _ (by omega), Int.tmod_lt_of_pos _ (by omega)⟩
theorem digX_nn {b x : Int} (hb : 1 ≤ b) (hx : 0 ≤ x ∧ x < 1099511627776) : ∀ j, 0 ≤ digX b x j ∧ digX b x j < 1099511627776
  | 0 => hx
  | j + 1 => by
    obtain ⟨h1, h2⟩ := digX_nn hb hx j
    have h3 : 0 ≤ (digX b x j).tdiv b := Int.tdiv_nonneg h1 (by omega)
    have h4 : (digX b x j).tdiv b ≤ digX b x j := by
      rw [Int.tdiv_eq_ediv_of_nonneg h1]
      exact Int.ediv_le_self _ h1
    have h5 : IntKind.i64.wrap ((digX b x j).tdiv b) = (digX b x j).tdiv b := by rw [IntKind.wrap_i64]; omega
    unfold digX
    rw [h5]
    omega
theorem digit_lt (x : Int) {b : Int} (hb : 1 ≤ b) (i : Nat) : 0 ≤ digitI x b i ∧ digitI x b i < b := by
  unfold digitI
  have h := digX_nn hb (index_lt x (k := 1099511627776) (by omega) (by omega)) i
  exact ⟨Int.tmod_nonneg _ h.1, Int.tmod_lt_of_pos _ (by omega)⟩
def atI (l : List Int) (i : Int) : Int := (l[(indexI i l.length).toNat]?).getD 0
theorem index_pure' (x k : Int) : Pure Tryz.prog 18 [.c (cI x), .c (cI k)] (.c (cI (indexI x k))) := index_pure x k
theorem digit_pure' (x b : Int) (i : Nat) (hb : b ≠ 0) (hi : i < 1000) : Pure Tryz.prog 21 [.c (cI x), .c (cI b), .c (cI i)] (.c (cI (digitI x b i))) := digit_pure x b i hb hi
def sizeN (l : List Int) : Nat := (1 + digitI (atI l 0) 5 3).toNat
theorem size_is (l : List Int) : (sizeN l : Int) = 1 + digitI (atI l 0) 5 3 ∧ 1 ≤ sizeN l ∧ sizeN l ≤ 5 := by
  have := digit_lt (atI l 0) (b := 5) (by omega) 3
  unfold sizeN
  omega
def vecTo (l : List Int) (i k : Nat) : Nat → V2
  | 0 => []
  | a + 1 => if digitI (atI l (5 + 3 * i + k)) 4 a > 0 then vecTo l i k a ++ [((a : Int) + 1, digitI (atI l (5 + 3 * i + k)) 4 a)] else vecTo l i k a
def insTo (l : List Int) (i : Nat) : Nat → List V2
  | 0 => []
  | k + 1 => insTo l i k ++ [vecTo l i k 4]
def manyN (l : List Int) (i : Nat) : Nat := (digitI (atI l (1 + i)) 4 0).toNat
def allTo (l : List Int) : Nat → List (List V2)
  | 0 => []
  | i + 1 => allTo l i ++ [insTo l i (manyN l i)]
def propN (l : List Int) : Nat := (1 + digitI (atI l 0) 4 0).toNat
def inputsI (l : List Int) : List (List V2) := allTo l (propN l)
theorem vecTo_ok (l : List Int) (i k : Nat) : ∀ a : Nat, a ≤ 4 → V4 (vecTo l i k a) ∧ (∀ e ∈ vecTo l i k a, e.1 ≤ a) ∧ (vecTo l i k a).length ≤ a
  | 0, _ => ⟨V4.nil, (fun e he => by cases he), Nat.le_refl _⟩
  | a + 1, ha => by
    obtain ⟨h1, h2, h3⟩ := vecTo_ok l i k a (by omega)
    have hd := digit_lt (atI l (5 + 3 * i + k)) (b := 4) (by omega) a
    unfold vecTo
    split
    · rename_i hp
      generalize digitI (atI l (5 + 3 * i + k)) 4 a = d at *
      generalize vecTo l i k a = v at *
      have hc : ∀ x, cnt (v ++ [((a : Int) + 1, d)]) x = if x = (a : Int) + 1 then d else cnt v x := fun x => by
        clear h1 h3
        induction v with
        | nil => simp only [List.nil_append, cnt]; split <;> split <;> first | rfl | omega
        | cons e v ih =>
          have := h2 e (by simp)
          rw [List.cons_append, cnt_cons, cnt_cons, ih fun e he => h2 e (by simp [he])]
          split
          · rw [if_neg (by omega)]
          · rfl
      refine ⟨⟨⟨fun e he => ?_, ?_⟩, fun x => ?_, fun x hx => ?_⟩, fun e he => ?_, by simp; omega⟩
      · rcases List.mem_append.1 he with he | he
        · exact h1.val.1 e he
        · rw [List.mem_singleton.1 he]
          exact ⟨by show (1 : Int) ≤ a + 1; omega, by show 1 ≤ d; omega, by show d ≤ _; omega⟩
      · refine List.pairwise_append.2 ⟨h1.val.2, List.pairwise_singleton _ _, fun e he f hf => ?_⟩
        rw [List.mem_singleton.1 hf]
        have := h2 e he
        show e.1 < (a : Int) + 1
        omega
      · rw [hc]
        split
        · omega
        · exact h1.c x
      · rw [hc, if_neg (by omega)]
        exact h1.a x hx
      · rcases List.mem_append.1 he with he | he
        · have := h2 e he
          omega
        · rw [List.mem_singleton.1 he]
          show (a : Int) + 1 ≤ _
          omega
    · exact ⟨h1, fun e he => by have := h2 e he; omega, by omega⟩
theorem insTo_ok (l : List Int) (i : Nat) : ∀ k : Nat, (insTo l i k).length = k ∧ ∀ v ∈ insTo l i k, V4 v
  | 0 => ⟨rfl, (fun v hv => by cases hv)⟩
  | k + 1 => by
    obtain ⟨h1, h2⟩ := insTo_ok l i k
    unfold insTo
    refine ⟨by simp [h1], fun v hv => ?_⟩
    rcases List.mem_append.1 hv with hv | hv
    · exact h2 v hv
    · rw [List.mem_singleton.1 hv]
      exact (vecTo_ok l i k 4 (by omega)).1
theorem many_is (l : List Int) (i : Nat) : (manyN l i : Int) = digitI (atI l (1 + i)) 4 0 ∧ manyN l i ≤ 3 := by
  have := digit_lt (atI l (1 + i)) (b := 4) (by omega) 0
  unfold manyN
  omega
theorem prop_is (l : List Int) : (propN l : Int) = 1 + digitI (atI l 0) 4 0 ∧ propN l ≤ 4 ∧ 1 ≤ propN l := by
  have := digit_lt (atI l 0) (b := 4) (by omega) 0
  unfold propN
  omega
theorem allTo_ok (l : List Int) : ∀ i : Nat, (allTo l i).length = i ∧ ∀ x ∈ allTo l i, x.length ≤ 3 ∧ ∀ v ∈ x, V4 v
  | 0 => ⟨rfl, (fun v hv => by cases hv)⟩
  | i + 1 => by
    obtain ⟨h1, h2⟩ := allTo_ok l i
    unfold allTo
    refine ⟨by simp [h1], fun v hv => ?_⟩
    rcases List.mem_append.1 hv with hv | hv
    · exact h2 v hv
    · rw [List.mem_singleton.1 hv]
      obtain ⟨h3, h4⟩ := insTo_ok l i (manyN l i)
      have := (many_is l i).2
      exact ⟨by omega, h4⟩
theorem inputs_ok (l : List Int) : InsOk (inputsI l) := ⟨by have := (allTo_ok l (propN l)).1; have := (prop_is l).2.1; unfold inputsI; omega, (allTo_ok l (propN l)).2⟩
def awI : List (List V2) := [[[(1, 1)]], [[(2, 1)]]]
def awI1 : List (List V2) := [[[(1, 1)]]]
def awG : GrS := drainS 700 (newG 3 awI)
theorem awG_is : awG.decs.length = 2 ∧ awG.pks.length = 0 ∧ awG.accs.length = 3 := by decide +kernel
theorem aw_ok : InsOk awI := by
  have one : ∀ a : Int, 1 ≤ a ∧ a ≤ 4 → V4 [(a, 1)] := fun a ha => ⟨⟨fun e he => by rw [List.mem_singleton.1 he]; exact ⟨by show 1 ≤ a; omega, by show (1 : Int) ≤ 1; omega, by show (1 : Int) ≤ _; omega⟩, List.pairwise_singleton _ _⟩, fun x => by simp only [cnt]; split <;> omega, fun x hx => by simp only [cnt]; rw [if_neg (by omega)]; omega⟩
  refine ⟨by decide, fun l hl => ?_⟩
  unfold awI at hl
  simp only [List.mem_cons, List.not_mem_nil, or_false] at hl
  rcases hl with rfl | rfl
  · exact ⟨by decide, fun v hv => by rw [List.mem_singleton.1 hv]; exact one 1 (by omega)⟩
  · exact ⟨by decide, fun v hv => by rw [List.mem_singleton.1 hv]; exact one 2 (by omega)⟩
theorem aw_ok1 : InsOk awI1 := ⟨by decide, fun l hl => aw_ok.all l (by unfold awI1 at hl; rw [List.mem_singleton.1 hl]; simp [awI])⟩
theorem gnew_pure (n : Nat) (hn : 1 ≤ n ∧ n ≤ 12) {ins : List (List V2)} (hi : InsOk ins) : Pure Tryz.prog 22 [.c (cI n), .c (.row 1 false (ins.map encIn))] (.agg (encGr (newG n ins))) := (gnew_new n hn ins hi.len hi.all).group
theorem lit_v (a : Int) : LeC (.row 2 true [[cI a, cI 1]]) (encV [(a, 1)]) := LeC.rows rfl (one_le (.cons (.refl _) (.cons (.refl _) .nil)))
theorem lit_l (a : Int) : LeC (.row 1 true [[.row 2 true [[cI a, cI 1]]]]) (encVs [[(a, 1)]]) := LeC.rows rfl (one_le (.cons (lit_v a) .nil))
theorem lit_2 : LeC (.row 1 true [[.row 1 true [[.row 2 true [[cI 1, cI 1]]]]], [.row 1 true [[.row 2 true [[cI 2, cI 1]]]]]]) (.row 1 false (awI.map encIn)) := LeC.rows rfl fun i e e' h h' => by
  match i, h, h' with
  | 0, h, h' => cases h; cases h'; exact .cons (lit_l 1) .nil
  | 1, h, h' => cases h; cases h'; exact .cons (lit_l 2) .nil
theorem lit_1 : LeC (.row 1 true [[.row 1 true [[.row 2 true [[cI 1, cI 1]]]]]]) (.row 1 false (awI1.map encIn)) := LeC.rows rfl (one_le (.cons (lit_l 1) .nil))
theorem aw_n2 : Pure Tryz.prog 22 [.c (cI 3), .c (.row 1 true [[.row 1 true [[.row 2 true [[cI 1, cI 1]]]]], [.row 1 true [[.row 2 true [[cI 2, cI 1]]]]]])] (.agg (encGr (newG 3 awI))) :=
  (gnew_pure 3 (by omega) aw_ok).le (.cons (.refl _) (.cons (.c lit_2) .nil)) (.refl _)
theorem aw_n1 : Pure Tryz.prog 22 [.c (cI 3), .c (.row 1 true [[.row 1 true [[.row 2 true [[cI 1, cI 1]]]]]])] (.agg (encGr (newG 3 awI1))) :=
  (gnew_pure 3 (by omega) aw_ok1).le (.cons (.refl _) (.cons (.c lit_1) .nil)) (.refl _)
def awL : GrS := loseS (newG 3 awI1) 0
theorem awL_is : awL.pks.length = 2 := by decide +kernel
def awA : V2 := ((awG.decs[0]?).map (·.v)).getD []
def awB : V2 := ((awG.decs[1]?).map (·.v)).getD []
theorem awAB : (leI awA awB || leI awB awA) = true ∧ awA.length < 100 ∧ awB.length < 100 ∧ (rjoinI awA awB).length = 2 ∧ (awB.all fun e => decide (1 ≤ e.1 ∧ 1 ≤ e.2 ∧ e.2 ≤ 1000000)) = true := by decide +kernel
theorem aw_dec : ∃ a b r, awG.decs = a :: b :: r ∧ a.v = awA ∧ b.v = awB := by
  have h := awG_is.1
  unfold awA awB
  match awG.decs, h with
  | [a, b], _ => exact ⟨a, b, [], rfl, rfl, rfl⟩
end Go.Proofs.YtphlhadgcfndhaaGreatDoor.Abs
end
section
namespace Go.Proofs.YtphlhadgcfndhaaGreatDoor.Abs
open Go Go.RowKit
set_option linter.unusedVariables false
set_option linter.unusedSimpArgs false
set_option maxHeartbeats 4000000
theorem rsend_pure (g : GrS) (i : Nat) (p : PrS) (hp : g.props[i]? = some p) (hn : p.n = g.accs.length) (hal : g.accs.length ≤ 12) (hkl : g.pks.length < 1000000000) : Pure Tryz.prog 48 [.agg (encGr g), .c (cI i)] (.agg (encGr (sendS g i p))) := by
  have hil := (List.getElem?_eq_some_iff.1 hp).1
  obtain ⟨n, hpn⟩ : ∃ n : Nat, p.n = n := ⟨p.n.toNat, by omega⟩
  have hg' : sendS g i p = { g with pks := g.pks ++ propsTo i p n } := by unfold sendS; rw [hpn]; rfl
  rw [hg']
  obtain ⟨accs, props, ins, nxt, pks, decs, steps⟩ := g
  obtain ⟨pn, v, r, acks, dc⟩ := p
  dsimp only at *
  subst hpn
  have hna : n = accs.length := by omega
  refine pure_of teOk Tryz.func48 (by kernel_rfl) (c := _) rfl (N := 39) rfl (rs := [Go.ResultVar.cell 4 43]) rfl (by simp) fun base A w0 hA => ?_
  refine AW.st teOk [] (by simp [-Option.some.injEq] <;> rfl) trivial ?_
  refine AW.st teOk [] (by simp [-Option.some.injEq] <;> rfl) ?_ ?_
  · simp [growOk]
    omega
  refine AW.seq ?_
  refine AW.st teOk [] (by simp [-Option.some.injEq] <;> rfl) trivial ?_
  refine AW.block (AW.loop (fun m s => ∃ (j : Nat) (ks : List PkS), ks = pks ++ propsTo i ⟨n, v, r, acks, dc⟩ j ∧ j ≤ n ∧ m = n - j ∧ s = ⟨[(1, .c (cI i)), (2, .c (.ptr 0 0 0)), (4, .c (.ptr 1 0 0)), (5, .c (.ref 2 0 ks.length)), (6, .c (cI j))], [(0, ⟨7, [encGr ⟨accs, props, ins, nxt, pks, decs, steps⟩]⟩), (1, ⟨7, [nilG]⟩), (2, ⟨5, ks.map encPk⟩)], 3⟩) _ (Weak.normS hA [1, 2, 4, 5, 6] [(2, 0), (4, 1), (5, 2)] [] [] 3 _ (by simp) (by simp) (by simp)) ⟨0, pks, by simp [propsTo], Nat.zero_le _, rfl, by simp⟩ ?_)
  rintro m s ⟨j, ks, hks, hj, rfl, rfl⟩
  have hpl := propsTo_len i ⟨n, v, r, acks, dc⟩ j
  have hsucc := propsTo_succ i ⟨n, v, r, acks, dc⟩ j
  have hinc : IntKind.i64.wrap ((j : Int) + 1) = (j : Int) + 1 := wrap_s _ (by omega)
  dsimp only at hsucc
  refine AW.seq ?_
  refine AW.st teOk [] (by simp [-Option.some.injEq] <;> rfl) trivial ?_
  refine AW.iff (decide (j < accs.length)) (by simp) (fun h => AW.skip ?_) (fun h => AW.exit (x_then (x_then (blockA_exit ?_))))
  · rw [decide_eq_true_eq] at h
    rw [← hna] at h
    have hlen : ks.length = pks.length + j := by rw [hks, List.length_append, hpl]
    refine AW.seq (AW.block ?_)
    refine AW.draw mixed teOk (ans := []) (by simp [hp, -Option.some.injEq] <;> rfl) (by kernel_rfl) (by kernel_rfl) ?_ ?_
    · simp [allP, growOk]
      omega
    refine AW.text teOk (ans := []) (by simp [-Option.some.injEq] <;> rfl) ?_ ?_
    · trivial
    refine ⟨_, _, Weak.normS hA [1, 2, 4, 5, 6] [(2, 0), (4, 1), (5, 2)] [] [] 3 _ (by simp) (by simp) (by simp), ?_, j + 1, ks ++ [⟨false, i, j, r, v⟩], by rw [hsucc, hks, List.append_assoc], h, rfl, ?_⟩
    · omega
    · simp [hinc]
  have hje : j = n := by
    rw [decide_eq_false_iff_not] at h
    omega
  subst hje
  rw [← hks]
  refine AW.st teOk [] (by simp [-Option.some.injEq] <;> rfl) trivial ?_
  refine AW.st teOk [] (by simp [-Option.some.injEq] <;> rfl) trivial ?_
  refine AW.ret ⟨.inr rfl, _, (Weak.freeze 2 _ [0, 1] _ (by simp <;> rfl) (by simp)), ?_⟩
  simp
theorem rlose_pure (g : GrS) (i : Int) (hkl : g.pks.length < 1000000000) : Pure Tryz.prog 40 [.agg (encGr g), .c (cI i)] (.agg (encGr (loseS g i))) := by
  unfold loseS
  by_cases hi : 0 ≤ i ∧ i < g.pks.length
  · obtain ⟨j, rfl⟩ : ∃ j : Nat, i = j := ⟨i.toNat, by omega⟩
    rw [if_pos hi, Int.toNat_natCast]
    obtain ⟨accs, props, ins, nxt, pks, decs, steps⟩ := g
    dsimp only at *
    have hj : j < pks.length := by omega
    have hj0 : ¬ ((j : Int) < 0) := by omega
    have hj1 : ¬ ((j : Int) ≥ pks.length) := by omega
    have hic : IntKind.i64.wrap ((j : Int) + 1) = (j : Int) + 1 := wrap_s _ (by omega)
    have hm : (delL pks j).map encPk = (pks.map encPk).take j ++ (pks.map encPk).drop (j + 1) := by unfold delL; rw [List.map_append, List.map_take, List.map_drop]
    have hl := delL_len pks j hj
    refine pure_of teOk Tryz.func40 (by kernel_rfl) (c := _) rfl (N := 29) rfl (rs := [Go.ResultVar.cell 4 43]) rfl (by simp) fun base A w0 hA => ?_
    refine AW.st teOk [] (by simp [-Option.some.injEq] <;> rfl) trivial ?_
    refine AW.seq ?_
    refine AW.st teOk [] (by simp [hj0, hj1, -Option.some.injEq] <;> rfl) trivial ?_
    refine AW.iff false (by simp) (fun h => by cases h) (fun _ => AW.skip ?_)
    have hmin : min j pks.length = j := by omega
    obtain ⟨ks, hks⟩ : ∃ ks, ks = delL pks j := ⟨_, rfl⟩
    rw [← hks] at hm hl ⊢
    by_cases hd : pks.length ≤ j + 1
    · have hdn : (pks.map encPk).drop (j + 1) = [] := List.drop_eq_nil_of_le (by rw [List.length_map]; exact hd)
      rw [hdn, List.append_nil] at hm
      have hlj : ks.length = j := by omega
      have htk : (ks.map encPk).take j = ks.map encPk := List.take_of_length_le (by rw [List.length_map, hlj]; exact Nat.le_refl _)
      refine AW.dr mixed teOk [] (by simp [hic, hmin, hd, ← hm, -Option.some.injEq] <;> rfl) (by kernel_rfl) (by kernel_rfl) ?_ ?_
      · simp [allP, growOk, hmin]
        omega
      refine AW.to (s2 := ⟨[(2, .c (.ptr 0 0 0)), (4, .c (.ptr 1 0 0))], [(0, ⟨7, [encGr ⟨accs, props, ins, nxt, ks, decs, steps⟩]⟩), (1, ⟨7, [nilG]⟩)], 2⟩) ((Weak.freeze 16 ⟨5, ks.map encPk⟩ [0] _ (by simp [← hm]) (by simp)).trans (Weak.normS hA [2, 4] [(2, 0), (4, 1)] [] [] 2 _ (by simp) (by simp) (by simp))) (by simp [← hm, hlj, hmin, htk]) ?_
      refine AW.st teOk [] (by simp [-Option.some.injEq] <;> rfl) trivial ?_
      refine AW.ret ⟨.inr rfl, _, Weak.refl _, ?_⟩
      simp
    · have hl2 : j + (pks.length - (j + 1)) = ks.length := by omega
      have htk : (ks.map encPk).take ks.length = ks.map encPk := List.take_of_length_le (by rw [List.length_map]; exact Nat.le_refl _)
      refine AW.dr mixed teOk [] (by simp [hic, hmin, hd, -Option.some.injEq] <;> rfl) (by kernel_rfl) (by kernel_rfl) ?_ ?_
      · simp [allP, growOk, hmin]
        exact ⟨by omega, ⟨by omega, fun e he => enc5 pks e (List.mem_of_mem_take he)⟩, by omega, by omega, fun e he => enc5 pks e (List.mem_of_mem_drop he)⟩
      refine AW.to (s2 := ⟨[(2, .c (.ptr 0 0 0)), (4, .c (.ptr 1 0 0))], [(0, ⟨7, [encGr ⟨accs, props, ins, nxt, ks, decs, steps⟩]⟩), (1, ⟨7, [nilG]⟩)], 2⟩) ((Weak.freeze 22 ⟨5, ks.map encPk⟩ [0] _ (by simp [← hm]) (by simp)).trans (Weak.normS hA [2, 4] [(2, 0), (4, 1)] [] [] 2 _ (by simp) (by simp) (by simp [hl2]))) (by simp [hmin, hl2, htk]) ?_
      refine AW.st teOk [] (by simp [-Option.some.injEq] <;> rfl) trivial ?_
      refine AW.ret ⟨.inr rfl, _, Weak.refl _, ?_⟩
      simp
  · rw [if_neg hi]
    obtain ⟨accs, props, ins, nxt, pks, decs, steps⟩ := g
    dsimp only at *
    refine pure_of teOk Tryz.func40 (by kernel_rfl) (c := _) rfl (N := 29) rfl (rs := [Go.ResultVar.cell 4 43]) rfl (by simp) fun base A w0 hA => ?_
    refine AW.st teOk [] (by simp [-Option.some.injEq] <;> rfl) trivial ?_
    refine AW.seq ?_
    by_cases hi0 : i < 0
    · refine AW.st teOk [] (by simp [hi0, -Option.some.injEq] <;> rfl) trivial ?_
      refine AW.iff true (by simp) (fun _ => ?_) (fun h => by cases h)
      refine AW.st teOk [] (by simp [-Option.some.injEq] <;> rfl) trivial ?_
      refine AW.ret ⟨.inr rfl, _, Weak.refl _, ?_⟩
      simp
    · have hi1 : i ≥ pks.length := by omega
      refine AW.st teOk [] (by simp [hi0, hi1, -Option.some.injEq] <;> rfl) trivial ?_
      refine AW.iff true (by simp) (fun _ => ?_) (fun h => by cases h)
      refine AW.st teOk [] (by simp [-Option.some.injEq] <;> rfl) trivial ?_
      refine AW.ret ⟨.inr rfl, _, Weak.refl _, ?_⟩
      simp
theorem rwithp_pure (l : List PrS) (i : Nat) (hi : i < l.length) (hl : l.length < 1000000000) (p : PrS) : Pure Tryz.prog 78 [.c (.row 5 false (l.map encPr')), .c (cI i), .agg (encPr p)] (.c (.row 5 false ((l.set i p).map encPr'))) := by
  have hset : (l.map encPr').set i (encPr p) = (l.set i p).map encPr' := set_enc encPr' l i p
  have hfl : flatO ⟨5, (l.map encPr').set i (encPr p)⟩ = true := by rw [hset]; exact flat_encPr' _
  refine pure_of teOk Tryz.func78 (by kernel_rfl) (c := _) rfl (N := 16) rfl (rs := [Go.ResultVar.tmp 6]) rfl (by simp) fun base A w0 hA => ?_
  refine AW.st teOk [] (by simp [-Option.some.injEq] <;> rfl) trivial ?_
  refine AW.st teOk [] (by simp [-Option.some.injEq] <;> rfl) ?_ ?_
  · simp [growOk]
    omega
  obtain ⟨q, hq⟩ : ∃ q, l[i]? = some q := ⟨_, List.getElem?_eq_getElem hi⟩
  refine AW.st teOk [] (by simp [hq, -Option.some.injEq] <;> rfl) ?_ ?_
  · exact hi
  refine AW.st teOk [] (by simp [-Option.some.injEq] <;> rfl) trivial ?_
  refine AW.ret ⟨.inr rfl, _, Weak.frzT 6 [] _ (by simp <;> exact ⟨rfl, rfl, rfl⟩) (by simp <;> rfl) (by simp [hfl]), ?_⟩
  have htk : ((l.map encPr').set i (encPr p)).take l.length = (l.map encPr').set i (encPr p) := List.take_of_length_le (by rw [List.length_set, List.length_map]; exact Nat.le_refl _)
  simpa using htk
end Go.Proofs.YtphlhadgcfndhaaGreatDoor.Abs
end
