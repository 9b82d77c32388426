/- Joined for the claim: WRa WRp WXsf -/
import Derived.Test.YtphlhadgcfndhaaGreatDoorJd9
import Derived.Test.YtphlhadgcfndhaaGreatDoorJd10
section
namespace Go.Proofs.YtphlhadgcfndhaaGreatDoor.Abs
open Go Go.RowKit
set_option linter.unusedVariables false
set_option linter.unusedSimpArgs false
set_option maxHeartbeats 4000000
theorem actsL_none {lo : Int} (h : ¬ lo > 0) : ∀ n : Nat, actsL lo n = []
  | 0 => rfl
  | n + 1 => by rw [actsL_succ, actsL_none h n, if_neg h]; rfl
theorem actsF_none {am : Int} (h : ¬ am > 0) (accs : List V2) : ∀ n : Nat, actsF am accs n = []
  | 0 => rfl
  | n + 1 => by rw [actsF_succ, actsF_none h accs n, if_neg (fun hh => h hh.1)]; rfl
theorem and_cases (a b : Prop) [Decidable a] [Decidable b] (h : ¬ (a ∧ b)) : decide a = false ∨ decide a = true ∧ decide b = false := by
  by_cases h1 : a
  · exact .inr ⟨decide_eq_true h1, decide_eq_false fun h2 => h ⟨h1, h2⟩⟩
  · exact .inl (decide_eq_false h1)
theorem ract_pure (s : XpS) (hk : s.g.pks.length < 1000000) (ha : s.g.accs.length < 1000000) : Pure Tryz.prog 13 [.agg (encXp s)] (.c (.row 2 false ((actsX s).map encA))) := by
  obtain ⟨⟨accs, props, ins, nxt, pks, decs, steps⟩, lo, am⟩ := s
  dsimp only at *
  refine pure_of teOk Tryz.func13 (by kernel_rfl) (c := _) rfl (N := 65) rfl (rs := [Go.ResultVar.tmp 2]) rfl (by simp) fun base A w0 hA => ?_
  refine AW.st teOk [] (by simp [-Option.some.injEq] <;> rfl) trivial ?_
  refine AW.st teOk [] (by simp [-Option.some.injEq] <;> rfl) trivial ?_
  refine AW.weak (Weak.nil 3 2 _ (by simp <;> rfl)) ?_
  refine AW.seq ?_
  refine AW.st teOk [] (by simp [-Option.some.injEq] <;> rfl) trivial ?_
  refine AW.block (AW.loop (fun m s => ∃ (j : Nat) (d : List ActP), m = pks.length - j ∧ j ≤ pks.length ∧ d = actsD j ∧ s = ⟨[(1, .c (.ptr 0 0 0)), (3, .c (.ref 1 0 d.length)), (4, .c (cI j))], [(0, ⟨9, [encXp ⟨⟨accs, props, ins, nxt, pks, decs, steps⟩, lo, am⟩]⟩), (1, ⟨2, d.map encA⟩)], 2⟩) (pks.length - 0) (Weak.normS hA [1, 3, 4] [(1, 0), (3, 1)] [] [] 2 _ (by simp [putA]) (by simp [putA]) (by simp [putA])) ⟨0, [], rfl, Nat.zero_le _, rfl, by simp [putA]⟩ ?_)
  rintro m s ⟨j, d, rfl, hj, hd, rfl⟩
  have hdl : d.length ≤ j := by rw [hd, actsD_len]; exact Nat.le_refl _
  refine AW.seq ?_
  refine AW.st teOk [] (by simp [-Option.some.injEq] <;> rfl) trivial ?_
  refine AW.iff (decide (j < pks.length)) (by simp) (fun h => AW.skip ?_) (fun h => AW.exit (x_then (x_then (blockA_exit ?_))))
  · rw [decide_eq_true_eq] at h
    have hinc : IntKind.i64.wrap ((j : Int) + 1) = (j : Int) + 1 := wrap_s _ (by omega)
    refine AW.seq (AW.block ?_)
    refine AW.text teOk (ans := []) (by simp [-Option.some.injEq] <;> rfl) ?_ ?_
    · simp [growOk]
      omega
    refine AW.text teOk (ans := []) (by simp [-Option.some.injEq] <;> rfl) ?_ ?_
    · trivial
    refine ⟨_, _, Weak.normS hA [1, 3, 4] [(1, 0), (3, 1)] [] [] 2 _ (by simp) (by simp) (by simp), ?_, j + 1, d ++ [(1, (j : Int))], rfl, h, ?_, ?_⟩
    · omega
    · rw [actsD_succ, hd]
    · simp [hinc]
  have hjl : j = pks.length := by
    rw [decide_eq_false_iff_not] at h
    omega
  rw [hjl] at hd
  clear hjl h hj hdl
  have hdl : d.length ≤ pks.length := by rw [hd, actsD_len]; exact Nat.le_refl _
  refine AW.mid (fun s => ∃ e : List ActP, e = d ++ actsL lo pks.length ∧ s = ⟨[(1, .c (.ptr 0 0 0)), (3, .c (.ref 1 0 e.length))], [(0, ⟨9, [encXp ⟨⟨accs, props, ins, nxt, pks, decs, steps⟩, lo, am⟩]⟩), (1, ⟨2, e.map encA⟩)], 2⟩) ?_ ?_
  · refine AW.st teOk [] (by simp [-Option.some.injEq] <;> rfl) trivial ?_
    refine AW.block (AW.loop (fun m s => ∃ (j : Nat) (e : List ActP), m = pks.length - j ∧ j ≤ pks.length ∧ e = d ++ actsL lo j ∧ s = ⟨[(1, .c (.ptr 0 0 0)), (3, .c (.ref 1 0 e.length)), (5, .c (cI j))], [(0, ⟨9, [encXp ⟨⟨accs, props, ins, nxt, pks, decs, steps⟩, lo, am⟩]⟩), (1, ⟨2, e.map encA⟩)], 2⟩) (pks.length - 0) (Weak.normS hA [1, 3, 5] [(1, 0), (3, 1)] [] [] 2 _ (by simp) (by simp) (by simp)) ⟨0, d, rfl, Nat.zero_le _, by simp [actsL], by simp⟩ ?_)
    clear j
    rintro m s ⟨j, e, rfl, hj, he, rfl⟩
    have hel : e.length ≤ pks.length + j := by rw [he, List.length_append]; have := actsL_len lo j; omega
    refine AW.seq ?_
    by_cases hlt : j < pks.length ∧ lo > 0
    · obtain ⟨hlt1, hlt2⟩ := hlt
      have hinc : IntKind.i64.wrap ((j : Int) + 1) = (j : Int) + 1 := wrap_s _ (by omega)
      have hsc := actsL_succ lo j
      rw [if_pos hlt2] at hsc
      refine AW.st teOk [] (by simp [hlt1, hlt2, -Option.some.injEq] <;> rfl) trivial ?_
      refine AW.iff true (by simp) (fun _ => AW.skip ?_) (fun h => by cases h)
      refine AW.seq (AW.block ?_)
      refine AW.text teOk (ans := []) (by simp [-Option.some.injEq] <;> rfl) ?_ ?_
      · simp [growOk]
        omega
      refine AW.text teOk (ans := []) (by simp [-Option.some.injEq] <;> rfl) ?_ ?_
      · trivial
      refine ⟨_, _, Weak.normS hA [1, 3, 5] [(1, 0), (3, 1)] [] [] 2 _ (by simp) (by simp) (by simp), ?_, j + 1, e ++ [(2, (j : Int))], rfl, hlt1, ?_, ?_⟩
      · omega
      · rw [hsc, he, List.append_assoc]
      · simp [hinc]
    · have hfin : e = d ++ actsL lo pks.length := by
        by_cases hlo : lo > 0
        · rw [he, show j = pks.length by omega]
        · rw [he, actsL_none hlo, actsL_none hlo]
      rcases and_cases _ _ hlt with h1 | ⟨h1, h2⟩
      · refine AW.st teOk [] (by simp [h1, -Option.some.injEq] <;> rfl) trivial ?_
        refine AW.iff false (by simp) (fun h => by cases h) (fun _ => AW.exit (x_then (x_then (blockA_exit ?_))))
        exact ⟨_, Weak.normS hA [1, 3] [(1, 0), (3, 1)] [] [] 2 _ (by simp) (by simp) (by simp), e, hfin, by simp⟩
      · refine AW.st teOk [] (by simp [h1, h2, -Option.some.injEq] <;> rfl) trivial ?_
        refine AW.iff false (by simp) (fun h => by cases h) (fun _ => AW.exit (x_then (x_then (blockA_exit ?_))))
        exact ⟨_, Weak.normS hA [1, 3] [(1, 0), (3, 1)] [] [] 2 _ (by simp) (by simp) (by simp), e, hfin, by simp⟩
  rintro s ⟨e, he, rfl⟩
  have hel : e.length ≤ 2 * pks.length := by rw [he, List.length_append]; have := actsL_len lo pks.length; omega
  refine AW.mid (fun s => ∃ f : List ActP, f = e ++ actsF am accs accs.length ∧ s = ⟨[(1, .c (.ptr 0 0 0)), (3, .c (.ref 1 0 f.length))], [(0, ⟨9, [encXp ⟨⟨accs, props, ins, nxt, pks, decs, steps⟩, lo, am⟩]⟩), (1, ⟨2, f.map encA⟩)], 2⟩) ?_ ?_
  · refine AW.st teOk [] (by simp [-Option.some.injEq] <;> rfl) trivial ?_
    refine AW.block (AW.loop (fun m s => ∃ (j : Nat) (f : List ActP), m = accs.length - j ∧ j ≤ accs.length ∧ f = e ++ actsF am accs j ∧ s = ⟨[(1, .c (.ptr 0 0 0)), (3, .c (.ref 1 0 f.length)), (6, .c (cI j))], [(0, ⟨9, [encXp ⟨⟨accs, props, ins, nxt, pks, decs, steps⟩, lo, am⟩]⟩), (1, ⟨2, f.map encA⟩)], 2⟩) (accs.length - 0) (Weak.normS hA [1, 3, 6] [(1, 0), (3, 1)] [] [] 2 _ (by simp) (by simp) (by simp)) ⟨0, e, rfl, Nat.zero_le _, by simp [actsF], by simp⟩ ?_)
    clear j
    rintro m s ⟨j, f, rfl, hj, hf, rfl⟩
    have hfl : f.length ≤ 2 * pks.length + j := by rw [hf, List.length_append]; have := actsF_len am accs j; omega
    refine AW.seq ?_
    by_cases hlt : j < accs.length ∧ am > 0
    · obtain ⟨hlt1, hlt2⟩ := hlt
      obtain ⟨x, hx⟩ : ∃ x, accs[j]? = some x := ⟨_, List.getElem?_eq_getElem hlt1⟩
      have hinc : IntKind.i64.wrap ((j : Int) + 1) = (j : Int) + 1 := wrap_s _ (by omega)
      have hgx : accs.getD j [] = x := by rw [List.getD_eq_getElem?_getD, hx]; rfl
      have hsc := actsF_succ am accs j
      rw [hgx] at hsc
      refine AW.st teOk [] (by simp [hlt1, hlt2, -Option.some.injEq] <;> rfl) trivial ?_
      refine AW.iff true (by simp) (fun _ => AW.skip ?_) (fun h => by cases h)
      refine AW.seq (AW.block ?_)
      refine AW.st teOk [] (by simp [hx, -Option.some.injEq] <;> rfl) ?_ ?_
      · simpa using hlt1
      refine AW.iff (decide (0 < x.length)) (by simp) (fun hc2 => ?_) (fun hc2 => AW.skip ?_)
      · rw [decide_eq_true_eq] at hc2
        refine AW.text teOk (ans := []) (by simp [-Option.some.injEq] <;> rfl) ?_ ?_
        · simp [growOk]
          omega
        refine AW.text teOk (ans := []) (by simp [-Option.some.injEq] <;> rfl) ?_ ?_
        · trivial
        refine ⟨_, _, Weak.normS hA [1, 3, 6] [(1, 0), (3, 1)] [] [] 2 _ (by simp) (by simp) (by simp), ?_, j + 1, f ++ [(3, (j : Int))], rfl, hlt1, ?_, ?_⟩
        · omega
        · rw [hsc, if_pos ⟨hlt2, hc2⟩, hf, List.append_assoc]
        · simp [hinc]
      · rw [decide_eq_false_iff_not] at hc2
        refine AW.text teOk (ans := []) (by simp [-Option.some.injEq] <;> rfl) ?_ ?_
        · trivial
        refine ⟨_, _, Weak.normS hA [1, 3, 6] [(1, 0), (3, 1)] [] [] 2 _ (by simp) (by simp) (by simp), ?_, j + 1, f, rfl, hlt1, ?_, ?_⟩
        · omega
        · rw [hsc, if_neg (fun hh => hc2 hh.2), hf, List.append_nil]
        · simp [hinc]
    · have hfin : f = e ++ actsF am accs accs.length := by
        by_cases ham : am > 0
        · rw [hf, show j = accs.length by omega]
        · rw [hf, actsF_none ham, actsF_none ham]
      rcases and_cases _ _ hlt with h1 | ⟨h1, h2⟩
      · refine AW.st teOk [] (by simp [h1, -Option.some.injEq] <;> rfl) trivial ?_
        refine AW.iff false (by simp) (fun h => by cases h) (fun _ => AW.exit (x_then (x_then (blockA_exit ?_))))
        exact ⟨_, Weak.normS hA [1, 3] [(1, 0), (3, 1)] [] [] 2 _ (by simp) (by simp) (by simp), f, hfin, by simp⟩
      · refine AW.st teOk [] (by simp [h1, h2, -Option.some.injEq] <;> rfl) trivial ?_
        refine AW.iff false (by simp) (fun h => by cases h) (fun _ => AW.exit (x_then (x_then (blockA_exit ?_))))
        exact ⟨_, Weak.normS hA [1, 3] [(1, 0), (3, 1)] [] [] 2 _ (by simp) (by simp) (by simp), f, hfin, by simp⟩
  rintro s ⟨f, hf, rfl⟩
  have hfx : actsX ⟨⟨accs, props, ins, nxt, pks, decs, steps⟩, lo, am⟩ = f := by rw [hf, he, hd]; rfl
  rw [hfx]
  refine AW.st teOk [] (by simp [-Option.some.injEq] <;> rfl) trivial ?_
  refine AW.ret ⟨.inr rfl, _, Weak.frzT 2 [] _ (by simp <;> exact ⟨rfl, rfl, rfl⟩) (by simp <;> rfl) (by simp), ?_⟩
  simp
end Go.Proofs.YtphlhadgcfndhaaGreatDoor.Abs
end
section
namespace Go.Proofs.YtphlhadgcfndhaaGreatDoor.Abs
open Go Go.RowKit
set_option linter.unusedVariables false
set_option linter.unusedSimpArgs false
set_option maxHeartbeats 4000000
theorem rinit_pure (m : Nat) (hm : 1 ≤ m ∧ m ≤ 12) {ins : List (List V2)} (hi : InsOk ins) (lo am : Int) : Pure Tryz.prog 7 [.agg [cI m, .row 1 false (ins.map encIn), cI lo, cI am]] (.agg (encXp ⟨newG m ins, lo, am⟩)) := by
  have c0 := rnew_pure m hm ins hi
  generalize newG m ins = g at *
  refine pure_of teOk Tryz.func7 (by kernel_rfl) (c := _) rfl (N := 13) rfl (rs := [Go.ResultVar.cell 2 45]) rfl (by simp) fun base A w0 hA => ?_
  refine AW.st teOk [] (by simp [-Option.some.injEq] <;> rfl) trivial ?_
  refine AW.dr mixed teOk [.agg (encGr g)] (by simp [-Option.some.injEq] <;> rfl) (by kernel_rfl) (by kernel_rfl) ?_ ?_
  · simp [allP]
    exact c0
  refine AW.ret ⟨.inr rfl, _, Weak.refl _, ?_⟩
  simp
theorem conv_pure (m lo am : Int) (ins : List (List V2)) : Pure Tryz.prog 8 [.agg [cI m, .row 1 false (ins.map encIn), cI lo, cI am]] (.agg [cI m, .row 1 false (ins.map encIn), cI lo, cI am]) := by
  refine pure_of teOk Tryz.func8 (by kernel_rfl) (c := _) rfl (N := 12) rfl (rs := [Go.ResultVar.cell 2 47]) rfl (by simp) fun base A w0 hA => ?_
  refine AW.st teOk [] (by simp [-Option.some.injEq] <;> rfl) trivial ?_
  refine AW.st teOk [] (by simp [-Option.some.injEq] <;> rfl) trivial ?_
  refine AW.ret ⟨.inr rfl, _, Weak.refl _, ?_⟩
  simp
theorem mem_take_succ {L : List ActP} {i : Nat} {x a : ActP} (hx : L[i]? = some x) : a ∈ L.take (i + 1) ↔ a ∈ L.take i ∨ a = x := by
  rw [List.take_add_one, hx, List.mem_append]
  simp
theorem act_dec (x a : ActP) : (x.1 == a.1 && x.2 == a.2) = decide (a = x) := by
  rw [Bool.eq_iff_iff, Bool.and_eq_true, beq_iff_eq, beq_iff_eq, decide_eq_true_eq]
  constructor
  · rintro ⟨h1, h2⟩
    exact Prod.ext h1.symm h2.symm
  · rintro rfl
    exact ⟨rfl, rfl⟩
theorem rperf_pure (s : XpS) {n N : Nat} (hw : GrW s.g n N) (hN : N < 1000000) (hlo : s.lo < 1000000) (ham : s.am < 1000000) (a : ActP) : Pure Tryz.prog 17 [.agg (encXp s), .agg (encA a)] (.agg (encXp (perfX s a))) := by
  have hkl := hw.kl
  have hal := hw.al
  have c1 := ract_pure s (by omega) (by omega)
  have hLl := acts_len s
  obtain ⟨L, hL⟩ : ∃ L, L = actsX s := ⟨_, rfl⟩
  have cd : ∀ i : Int, 0 ≤ i → i < s.g.pks.length → Pure Tryz.prog 39 [.agg (encGr s.g), .c (cI i)] (.agg (encGr (delivS s.g i.toNat))) := fun i h1 h2 => by
    have := rdeliv_pure s.g hw (by omega) i
    rwa [show delivZ s.g i = delivS s.g i.toNat by unfold delivZ; rw [if_pos ⟨h1, h2⟩]] at this
  have cl : ∀ i : Int, 0 ≤ i → i < s.g.pks.length → Pure Tryz.prog 40 [.agg (encGr s.g), .c (cI i)] (.agg (encGr { s.g with pks := delL s.g.pks i.toNat })) := fun i h1 h2 => by
    have := rlose_pure s.g i (by omega)
    rwa [show loseS s.g i = { s.g with pks := delL s.g.pks i.toNat } by unfold loseS; rw [if_pos ⟨h1, h2⟩]] at this
  have hpx : perfX s a = if a ∈ L then if a.1 = 1 then { s with g := delivS s.g a.2.toNat } else if a.1 = 2 then { s with g := { s.g with pks := delL s.g.pks a.2.toNat }, lo := s.lo - 1 } else { s with g := forgG s.g a.2.toNat, am := s.am - 1 } else s := by
    rw [hL]
    rfl
  have hmem : a ∈ L → (a.1 = 1 ∧ 0 ≤ a.2 ∧ a.2 < s.g.pks.length) ∨ (a.1 = 2 ∧ 0 < s.lo ∧ 0 ≤ a.2 ∧ a.2 < s.g.pks.length) ∨ (a.1 = 3 ∧ 0 < s.am ∧ 0 ≤ a.2 ∧ a.2 < s.g.accs.length) := fun h => by
    rw [hL] at h
    rcases mem_actsX h with ⟨i, hi, rfl⟩ | ⟨h0, i, hi, rfl⟩ | ⟨h0, i, hi, rfl⟩
    · exact .inl ⟨rfl, by show (0 : Int) ≤ (i : Int); omega, by show (i : Int) < _; omega⟩
    · exact .inr (.inl ⟨rfl, h0, by show (0 : Int) ≤ (i : Int); omega, by show (i : Int) < _; omega⟩)
    · exact .inr (.inr ⟨rfl, h0, by show (0 : Int) ≤ (i : Int); omega, by show (i : Int) < _; omega⟩)
  rw [hpx]
  rw [← hL] at c1 hLl
  clear hpx hL hw
  obtain ⟨a1, a2⟩ := a
  dsimp only at *
  refine pure_of teOk Tryz.func17 (by kernel_rfl) (c := _) rfl (N := 68) rfl (rs := [Go.ResultVar.cell 4 45]) rfl (by simp) fun base A w0 hA => ?_
  refine AW.st teOk [] (by simp [-Option.some.injEq] <;> rfl) trivial ?_
  refine AW.st teOk [.fz (.c (.row 2 false (L.map encA)))] (by simp [-Option.some.injEq] <;> rfl) ?_ ?_
  · simpa using c1
  refine AW.st teOk [] (by simp [-Option.some.injEq] <;> rfl) trivial ?_
  refine AW.mid (fun s' => s' = ⟨[(2, .c (.ptr 0 0 0)), (3, .c (.ptr 1 0 0)), (4, .c (.ptr 2 0 0)), (6, .c (cB (decide ((a1, a2) ∈ L))))], [(0, ⟨9, [encXp s]⟩), (1, ⟨2, [[cI a1, cI a2]]⟩), (2, ⟨9, [nilX]⟩)], 3⟩) ?_ ?_
  · refine AW.st teOk [] (by simp [-Option.some.injEq] <;> rfl) trivial ?_
    refine AW.block (AW.loop (fun m s' => ∃ i : Nat, m = L.length - i ∧ i ≤ L.length ∧ s' = ⟨[(2, .c (.ptr 0 0 0)), (3, .c (.ptr 1 0 0)), (4, .c (.ptr 2 0 0)), (5, .c (.row 2 false (L.map encA))), (6, .c (cB (decide ((a1, a2) ∈ L.take i)))), (7, .c (cI i))], [(0, ⟨9, [encXp s]⟩), (1, ⟨2, [[cI a1, cI a2]]⟩), (2, ⟨9, [nilX]⟩)], 3⟩) (L.length - 0) (Weak.normS hA [2, 3, 4, 5, 6, 7] [(2, 0), (3, 1), (4, 2)] [] [] 3 _ (by simp) (by simp) (by simp)) ⟨0, rfl, Nat.zero_le _, by simp⟩ ?_)
    rintro m s' ⟨i, rfl, hi, rfl⟩
    refine AW.seq ?_
    refine AW.st teOk [] (by simp [-Option.some.injEq] <;> rfl) trivial ?_
    refine AW.iff (decide (i < L.length)) (by simp) (fun h => AW.skip ?_) (fun h => AW.exit (x_then (x_then (blockA_exit ?_))))
    · rw [decide_eq_true_eq] at h
      obtain ⟨x, hx⟩ : ∃ x, L[i]? = some x := ⟨_, List.getElem?_eq_getElem h⟩
      have hinc : IntKind.i64.wrap ((i : Int) + 1) = (i : Int) + 1 := wrap_s _ (by omega)
      have hms := mem_take_succ (a := (a1, a2)) hx
      refine AW.seq (AW.block ?_)
      by_cases hm : (a1, a2) ∈ L.take i
      · rw [decide_eq_true hm]
        refine AW.draw mixed teOk (ans := []) (by simp [-Option.some.injEq] <;> rfl) (by kernel_rfl) (by kernel_rfl) ?_ ?_
        · simp [allP]
        refine AW.text teOk (ans := []) (by simp [-Option.some.injEq] <;> rfl) ?_ ?_
        · trivial
        refine ⟨_, _, Weak.normS hA [2, 3, 4, 5, 6, 7] [(2, 0), (3, 1), (4, 2)] [] [] 3 _ (by simp) (by simp) (by simp), ?_, i + 1, rfl, h, ?_⟩
        · omega
        · simp [hinc, decide_eq_true (hms.2 (.inl hm))]
      · rw [decide_eq_false hm]
        have hd : decide ((a1, a2) ∈ L.take (i + 1)) = (x.1 == a1 && x.2 == a2) := by
          rw [act_dec x (a1, a2)]
          rw [decide_eq_decide]
          exact ⟨fun h => (hms.1 h).resolve_left hm, fun h => hms.2 (.inr h)⟩
        refine AW.draw mixed teOk (ans := []) (by simp [hx, -Option.some.injEq] <;> rfl) (by kernel_rfl) (by kernel_rfl) ?_ ?_
        · simp [allP, h]
        refine AW.text teOk (ans := []) (by simp [-Option.some.injEq] <;> rfl) ?_ ?_
        · trivial
        refine ⟨_, _, Weak.normS hA [2, 3, 4, 5, 6, 7] [(2, 0), (3, 1), (4, 2)] [] [] 3 _ (by simp) (by simp) (by simp), ?_, i + 1, rfl, h, ?_⟩
        · omega
        · rw [hd]
          simp [hinc]
    have hil : i = L.length := by
      rw [decide_eq_false_iff_not] at h
      omega
    rw [hil, List.take_length]
    exact ⟨_, Weak.normS hA [2, 3, 4, 6] [(2, 0), (3, 1), (4, 2)] [] [] 3 _ (by simp) (by simp) (by simp), by simp⟩
  rintro s' rfl
  obtain ⟨⟨accs, props, ins, nxt, pks, decs, steps⟩, lo, am⟩ := s
  dsimp only at *
  by_cases hm : (a1, a2) ∈ L
  · rw [decide_eq_true hm, if_pos hm]
    refine AW.seq ?_
    refine AW.st teOk [] (by simp [-Option.some.injEq] <;> rfl) trivial ?_
    refine AW.iff false (by simp) (fun h => by cases h) (fun _ => AW.skip ?_)
    refine AW.seq ?_
    refine AW.st teOk [] (by simp [-Option.some.injEq] <;> rfl) trivial ?_
    refine AW.block ?_
    rcases hmem hm with ⟨rfl, h0, h1⟩ | ⟨rfl, hl0, h0, h1⟩ | ⟨rfl, hl0, h0, h1⟩
    · have c3 := cd a2 h0 h1
      rw [if_pos rfl]
      generalize delivS ⟨accs, props, ins, nxt, pks, decs, steps⟩ a2.toNat = g' at *
      refine AW.st teOk [] (by simp [-Option.some.injEq] <;> rfl) trivial ?_
      refine AW.iff true (by simp) (fun _ => ?_) (fun h => by cases h)
      refine AW.text teOk (ans := [.fz (.agg (encGr g'))]) (by simp [-Option.some.injEq] <;> rfl) ?_ ?_
      · simpa using c3
      refine AW.st teOk [] (by simp [-Option.some.injEq] <;> rfl) trivial ?_
      refine AW.ret ⟨.inr rfl, _, Weak.refl _, ?_⟩
      simp
    · have c3 := cl a2 h0 h1
      rw [if_neg (by decide), if_pos rfl]
      have hsub : IntKind.i64.wrap (lo - 1) = lo - 1 := by rw [IntKind.wrap_i64]; omega
      generalize (⟨accs, props, ins, nxt, delL pks a2.toNat, decs, steps⟩ : GrS) = g' at *
      refine AW.st teOk [] (by simp [-Option.some.injEq] <;> rfl) trivial ?_
      refine AW.iff false (by simp) (fun h => by cases h) (fun _ => ?_)
      refine AW.st teOk [] (by simp [-Option.some.injEq] <;> rfl) trivial ?_
      refine AW.iff true (by simp) (fun _ => ?_) (fun h => by cases h)
      refine AW.st teOk [.fz (.agg (encGr g'))] (by simp [-Option.some.injEq] <;> rfl) ?_ ?_
      · simpa using c3
      refine AW.text teOk (ans := []) (by simp [hsub, -Option.some.injEq] <;> rfl) ?_ ?_
      · trivial
      refine AW.st teOk [] (by simp [-Option.some.injEq] <;> rfl) trivial ?_
      refine AW.ret ⟨.inr rfl, _, Weak.refl _, ?_⟩
      simp
    · rw [if_neg (by decide), if_neg (by decide)]
      have hsub : IntKind.i64.wrap (am - 1) = am - 1 := by rw [IntKind.wrap_i64]; omega
      obtain ⟨i, rfl⟩ : ∃ i : Nat, a2 = i := ⟨a2.toNat, by omega⟩
      have hi : i < accs.length := by omega
      have hx : accs[i]? = some accs[i] := List.getElem?_eq_getElem hi
      refine AW.st teOk [] (by simp [-Option.some.injEq] <;> rfl) trivial ?_
      refine AW.iff false (by simp) (fun h => by cases h) (fun _ => ?_)
      refine AW.st teOk [] (by simp [-Option.some.injEq] <;> rfl) trivial ?_
      refine AW.iff false (by simp) (fun h => by cases h) (fun _ => ?_)
      refine AW.st teOk [] (by simp [-Option.some.injEq] <;> rfl) ?_ ?_
      · simp [growOk]
        omega
      refine AW.st teOk [] (by simp [hx, -Option.some.injEq] <;> rfl) ?_ ?_
      · simpa using hi
      refine AW.st teOk [] (by simp [-Option.some.injEq] <;> rfl) trivial ?_
      obtain ⟨a2, ha2⟩ : ∃ a2, a2 = accs.set i [] := ⟨_, rfl⟩
      have hal3 : a2.length = accs.length := by rw [ha2, List.length_set]
      have htk : (a2.map encC).take accs.length = a2.map encC := List.take_of_length_le (by rw [List.length_map]; omega)
      have hle : ∀ (j : Nat) (e e' : List Cell), ((accs.map encC).set i [.sc (.slice none 0 0)])[j]? = some e → (a2.map encC)[j]? = some e' → LeCs e e' := fun j e e' h1 h2 => by
        rw [List.getElem?_set] at h1
        rw [ha2, List.getElem?_map, List.getElem?_set] at h2
        split at h1
        · rename_i hji
          subst hji
          rw [if_pos rfl] at h2
          split at h1
          · rename_i hlt
            rw [List.length_map] at hlt
            rw [if_pos hlt] at h2
            cases h1
            cases h2
            exact .cons nil_cell1 .nil
          · cases h1
        · rename_i hji
          rw [if_neg hji, ← List.getElem?_map, h1] at h2
          cases h2
          rw [List.getElem?_map] at h1
          cases hq : accs[j]? with
          | none => rw [hq] at h1; cases h1
          | some q =>
            rw [hq] at h1
            cases h1
            exact .cons (.refl _) .nil
      refine AW.to (s2 := ⟨[(2, .c (.ptr 0 0 0)), (4, .c (.ptr 1 0 0))], [(0, ⟨9, [[encVs a2, .row 5 false (props.map encPr'), .row 1 false (ins.map encIn), encIs nxt, .row 5 false (pks.map encPk), .row 4 false (decs.map encDe), cI steps, cI lo, cI am]]⟩), (1, ⟨9, [nilX]⟩)], 2⟩) ((Weak.leO 15 (o := ⟨1, (accs.map encC).set i [.sc (.slice none 0 0)]⟩) (o' := ⟨1, a2.map encC⟩) _ (by simp [putA]) rfl (by simp [hal3]) hle).trans ((Weak.freeze 15 ⟨1, a2.map encC⟩ [0] _ (by simp [putA]) (by simp)).trans (Weak.normS hA [2, 4] [(2, 0), (4, 1)] [] [0] 2 _ (by simp [putA, hal3, htk]) (by simp [putA, hal3, htk]) (by simp [putA, hal3, htk])))) (by simp [putA, hal3, htk]) ?_
      refine AW.text teOk (ans := []) (by simp [hsub, -Option.some.injEq] <;> rfl) ?_ ?_
      · trivial
      refine AW.st teOk [] (by simp [-Option.some.injEq] <;> rfl) trivial ?_
      refine AW.ret ⟨.inr rfl, _, Weak.refl _, ?_⟩
      simp [forgG, ha2]
  · rw [decide_eq_false hm, if_neg hm]
    refine AW.seq ?_
    refine AW.st teOk [] (by simp [-Option.some.injEq] <;> rfl) trivial ?_
    refine AW.iff true (by simp) (fun _ => ?_) (fun h => by cases h)
    refine AW.st teOk [] (by simp [-Option.some.injEq] <;> rfl) trivial ?_
    refine AW.ret ⟨.inr rfl, _, Weak.refl _, ?_⟩
    simp
end Go.Proofs.YtphlhadgcfndhaaGreatDoor.Abs
end
section
namespace Go.Proofs.YtphlhadgcfndhaaGreatDoor.Abs
open Go Go.RowKit
set_option linter.unusedVariables false
set_option linter.unusedSimpArgs false
set_option maxHeartbeats 4000000
theorem veq_pure (a b : V2) (hl : a.length < 1000000000000) : Pure Tryz.prog 68 [.c (encV a), .c (encV b)] (.c (cB (decide (a = b)))) := by
  by_cases hab : a.length = b.length
  · have hab' : ((a.length : Int) != b.length) = false := by simp [hab]
    refine pure_of teOk Tryz.func68 (by kernel_rfl) (c := _) rfl (N := 26) rfl (rs := [Go.ResultVar.tmp 4]) rfl (by simp) fun base A w0 hA => ?_
    refine AW.st teOk [] (by simp [-Option.some.injEq] <;> rfl) trivial ?_
    refine AW.seq ?_
    refine AW.st teOk [] (by simp [hab, -Option.some.injEq] <;> rfl) trivial ?_
    refine AW.iff false (by simp) (fun h => by cases h) (fun _ => AW.skip ?_)
    refine AW.seq ?_
    refine AW.st teOk [] (by simp [-Option.some.injEq] <;> rfl) trivial ?_
    refine AW.block (AW.loop (fun m s => ∃ (j : Nat), m = a.length - j ∧ j ≤ a.length ∧ a.take j = b.take j ∧ s = ⟨[(0, .c (encV a)), (1, .c (encV b)), (12, .c (cI a.length)), (13, .c (cI j))], [], 0⟩) _ (Weak.normS hA [0, 1, 12, 13] [] [] [] 0 _ (by simp) (by simp) (by simp)) ⟨0, rfl, Nat.zero_le _, rfl, by simp [hab]⟩ ?_)
    rintro m s ⟨j, rfl, hj, hb, rfl⟩
    refine AW.st teOk [] (by simp [-Option.some.injEq] <;> rfl) trivial ?_
    refine AW.seq (AW.iff (decide (j < a.length)) (by simp) (fun h => AW.skip ?_) (fun h => AW.exit (x_then (x_then (blockA_exit ?_)))))
    · rw [decide_eq_true_eq] at h
      obtain ⟨x, hx⟩ : ∃ x, a[j]? = some x := ⟨_, List.getElem?_eq_getElem h⟩
      obtain ⟨y, hy⟩ : ∃ y, b[j]? = some y := ⟨_, List.getElem?_eq_getElem (by omega)⟩
      have hinc : IntKind.i64.wrap ((j : Int) + 1) = (j : Int) + 1 := wrap_s _ (by omega)
      have hdec : (x.1 == y.1 && x.2 == y.2) = decide (x = y) := by
        rw [Bool.eq_iff_iff, Bool.and_eq_true, beq_iff_eq, beq_iff_eq, decide_eq_true_eq]
        constructor
        · rintro ⟨h1, h2⟩
          exact Prod.ext h1 h2
        · rintro rfl
          exact ⟨rfl, rfl⟩
      have hdec2 : (!x.1 == y.1 || !x.2 == y.2) = !decide (x = y) := by rw [← Bool.not_and, hdec]
      refine AW.seq (AW.block ?_)
      refine AW.st teOk [] (by simp [-Option.some.injEq] <;> rfl) trivial ?_
      refine AW.dr mixed teOk [] (by simp [hx, hy, -Option.some.injEq] <;> rfl) (by kernel_rfl) (by kernel_rfl) ?_ ?_
      · simp [allP]
        omega
      refine AW.iff (!decide (x = y)) (by simp; exact hdec2) (fun hc => ?_) (fun hc => AW.skip ?_)
      · have hne : x ≠ y := by simpa using hc
        have hab2 : ¬ a = b := fun e => by
          subst e
          rw [hx] at hy
          exact hne (Option.some.inj hy)
        refine AW.st teOk [] (by simp [-Option.some.injEq] <;> rfl) trivial ?_
        refine AW.ret ⟨.inr rfl, _, Weak.refl _, ?_⟩
        simp [hab2]
      · have he : x = y := by simpa using hc
        subst he
        refine AW.text teOk (ans := []) (by simp [-Option.some.injEq] <;> rfl) ?_ ?_
        · trivial
        refine ⟨_, _, Weak.normS hA [0, 1, 12, 13] [] [] [] 0 _ (by simp) (by simp) (by simp), ?_, j + 1, rfl, h, ?_, ?_⟩
        · omega
        · rw [List.take_add_one, List.take_add_one, hb, hx, hy]
        · simp [hinc]
    rw [decide_eq_false_iff_not] at h
    have he : a = b := by
      rw [List.take_of_length_le (show a.length ≤ j by omega), List.take_of_length_le (show b.length ≤ j by omega)] at hb
      exact hb
    refine AW.st teOk [] (by simp [-Option.some.injEq] <;> rfl) trivial ?_
    refine AW.ret ⟨.inr rfl, _, Weak.refl _, ?_⟩
    simp [he]
  · have hne : ¬ a = b := fun e => hab (by rw [e])
    refine pure_of teOk Tryz.func68 (by kernel_rfl) (c := _) rfl (N := 26) rfl (rs := [Go.ResultVar.tmp 4]) rfl (by simp) fun base A w0 hA => ?_
    refine AW.st teOk [] (by simp [-Option.some.injEq] <;> rfl) trivial ?_
    refine AW.seq ?_
    refine AW.st teOk [] (by simp [hab, -Option.some.injEq] <;> rfl) trivial ?_
    refine AW.iff true (by simp; omega) (fun _ => ?_) (fun h => by cases h)
    refine AW.st teOk [] (by simp [-Option.some.injEq] <;> rfl) trivial ?_
    refine AW.ret ⟨.inr rfl, _, Weak.refl _, ?_⟩
    simp [hne]
theorem comp_pure (a b : V2) (ha : Asc a) (hb : Asc b) (hla : a.length < 1000000000000) (hlb : b.length < 1000000000000) : Pure Tryz.prog 33 [.c (encV a), .c (encV b)] (.c (cI (compI a b))) := by
  have e1 := veq_pure a b hla
  have e2 := le_pure a b hb hla hlb
  have e3 := le_pure b a ha hlb hla
  unfold compI
  refine pure_of teOk Tryz.func33 (by kernel_rfl) (c := _) rfl (N := 17) rfl (rs := [Go.ResultVar.tmp 4]) rfl (by simp) fun base A w0 hA => ?_
  refine AW.st teOk [] (by simp [-Option.some.injEq] <;> rfl) trivial ?_
  refine AW.seq (AW.block ?_)
  refine AW.st teOk [.fz (.c (cB (decide (a = b))))] (by simp [-Option.some.injEq] <;> rfl) ?_ ?_
  · exact e1
  refine AW.iff (decide (a = b)) (by simp) (fun h => ?_) (fun h => ?_)
  · rw [decide_eq_true_eq] at h
    refine AW.st teOk [] (by simp [-Option.some.injEq] <;> rfl) trivial ?_
    refine AW.ret ⟨.inr rfl, _, Weak.refl _, ?_⟩
    simp [h]
  rw [decide_eq_false_iff_not] at h
  refine AW.st teOk [.fz (.c (cB (leI a b)))] (by simp [-Option.some.injEq] <;> rfl) ?_ ?_
  · exact e2
  refine AW.iff (leI a b) (by simp) (fun h2 => ?_) (fun h2 => ?_)
  · refine AW.st teOk [] (by simp [-Option.some.injEq] <;> rfl) trivial ?_
    refine AW.ret ⟨.inr rfl, _, Weak.refl _, ?_⟩
    simp [h, h2]
  refine AW.st teOk [.fz (.c (cB (leI b a)))] (by simp [-Option.some.injEq] <;> rfl) ?_ ?_
  · exact e3
  refine AW.iff (leI b a) (by simp) (fun h3 => ?_) (fun h3 => AW.skip ?_)
  · refine AW.st teOk [] (by simp [-Option.some.injEq] <;> rfl) trivial ?_
    refine AW.ret ⟨.inr rfl, _, Weak.refl _, ?_⟩
    simp [h, h2, h3]
  refine AW.st teOk [] (by simp [-Option.some.injEq] <;> rfl) trivial ?_
  refine AW.ret ⟨.inr rfl, _, Weak.refl _, ?_⟩
  simp [h, h2, h3]
/-- An input, if there is one. -/
def inpR (g : GrS) (d : DeS) : AVal := match inpX g d with
  | some v => .tup [.c (encV v), .c (cB true)]
  | none => .tup [.c (.sc (.slice none 0 0)), .c (cB false)]
theorem input_pure (g : GrS) (d : DeS) (hil : g.ins.length < 1000000000) : Pure Tryz.prog 31 [.agg (encGr g), .agg (encDe d)] (inpR g d) := by
  obtain ⟨accs, props, ins, nxt, pks, decs, steps⟩ := g
  obtain ⟨dp, di, dv, ds⟩ := d
  dsimp only at *
  unfold inpR inpX
  dsimp only
  refine pure_of teOk Tryz.func31 (by kernel_rfl) (c := _) rfl (N := 44) rfl (rs := [Go.ResultVar.tmp 4, Go.ResultVar.tmp 5]) rfl (by simp) fun base A w0 hA => ?_
  refine AW.st teOk [] (by simp [-Option.some.injEq] <;> rfl) trivial ?_
  refine AW.seq ?_
  by_cases h1 : dp < 0
  · have hn : ¬ (0 ≤ dp ∧ 0 ≤ di) := by omega
    rw [if_neg hn]
    refine AW.dr mixed teOk [] (by simp [h1, -Option.some.injEq] <;> rfl) (by kernel_rfl) (by kernel_rfl) ?_ ?_
    · simp [allP]
    refine AW.iff true (by simp) (fun _ => ?_) (fun h => by cases h)
    refine AW.st teOk [] (by simp [-Option.some.injEq] <;> rfl) trivial ?_
    refine AW.ret ⟨.inr rfl, _, Weak.refl _, ?_⟩
    simp
  obtain ⟨p, rfl⟩ : ∃ p : Nat, dp = p := ⟨dp.toNat, by omega⟩
  by_cases h2 : ins.length ≤ p
  · have hn : ins[p]? = none := List.getElem?_eq_none h2
    have h1' : ¬ (p : Int) < 0 := by omega
    have h2' : (p : Int) ≥ ins.length := by omega
    have hnn : (if 0 ≤ (p : Int) ∧ 0 ≤ di then (ins[((p : Int)).toNat]?).bind fun l => l[di.toNat]? else none) = none := by
      split
      · show (ins[p]?).bind _ = none
        rw [hn]
        rfl
      · rfl
    rw [hnn]
    refine AW.dr mixed teOk [] (by simp [h1', h2, h2', -Option.some.injEq] <;> rfl) (by kernel_rfl) (by kernel_rfl) ?_ ?_
    · simp [allP]
    refine AW.iff true (by simp [h2]) (fun _ => ?_) (fun h => by cases h)
    refine AW.st teOk [] (by simp [-Option.some.injEq] <;> rfl) trivial ?_
    refine AW.ret ⟨.inr rfl, _, Weak.refl _, ?_⟩
    simp
  obtain ⟨l, hl⟩ : ∃ l, ins[p]? = some l := ⟨_, List.getElem?_eq_getElem (by omega)⟩
  have h1' : ¬ (p : Int) < 0 := by omega
  have h2' : ¬ (p : Int) ≥ ins.length := by omega
  by_cases h3 : di < 0
  · have hn : ¬ (0 ≤ (p : Int) ∧ 0 ≤ di) := by omega
    rw [if_neg hn]
    refine AW.dr mixed teOk [] (by simp [h1', h2, h2', h3, -Option.some.injEq] <;> rfl) (by kernel_rfl) (by kernel_rfl) ?_ ?_
    · simp [allP]
    refine AW.iff true (by simp [h2, h3]) (fun _ => ?_) (fun h => by cases h)
    refine AW.st teOk [] (by simp [-Option.some.injEq] <;> rfl) trivial ?_
    refine AW.ret ⟨.inr rfl, _, Weak.refl _, ?_⟩
    simp
  obtain ⟨q, rfl⟩ : ∃ q : Nat, di = q := ⟨di.toNat, by omega⟩
  rw [if_pos ⟨by omega, by omega⟩, show ((p : Int)).toNat = p from rfl, hl, show ((q : Int)).toNat = q from rfl]
  rw [Option.bind_some]
  by_cases h4 : l.length ≤ q
  · have hn : l[q]? = none := List.getElem?_eq_none h4
    rw [hn]
    refine AW.dr mixed teOk [] (by simp [h1', h2, h2', h3, hl, h4, -Option.some.injEq] <;> rfl) (by kernel_rfl) (by kernel_rfl) ?_ ?_
    · simp [allP]
      omega
    refine AW.iff true (by simp [h2, h3, h4]) (fun _ => ?_) (fun h => by cases h)
    refine AW.st teOk [] (by simp [-Option.some.injEq] <;> rfl) trivial ?_
    refine AW.ret ⟨.inr rfl, _, Weak.refl _, ?_⟩
    simp
  obtain ⟨v, hv⟩ : ∃ v, l[q]? = some v := ⟨_, List.getElem?_eq_getElem (by omega)⟩
  rw [hv]
  refine AW.dr mixed teOk [] (by simp [h1', h2, h2', h3, hl, h4, -Option.some.injEq] <;> rfl) (by kernel_rfl) (by kernel_rfl) ?_ ?_
  · simp [allP]
    omega
  refine AW.iff false (by simp [h2, h3, h4] <;> omega) (fun h => by cases h) (fun _ => AW.skip ?_)
  refine AW.dr mixed teOk [] (by simp [hl, hv, -Option.some.injEq] <;> rfl) (by kernel_rfl) (by kernel_rfl) ?_ ?_
  · simp [allP]
    omega
  refine AW.ret ⟨.inr rfl, _, Weak.refl _, ?_⟩
  simp
theorem safeG_false {g : GrS} {j : Nat} {d : DeS} (hd : g.decs[j]? = some d) (h : safeAt g (allIns g.ins) j d = false) : safeG g = false := by
  unfold safeG
  rw [List.all_eq_false]
  exact ⟨j, List.mem_range.2 (List.getElem?_eq_some_iff.1 hd).1, by rw [hd]; simpa using h⟩
theorem safeG_true {g : GrS} (h : ∀ (i : Nat) d, g.decs[i]? = some d → safeAt g (allIns g.ins) i d = true) : safeG g = true := by
  unfold safeG
  rw [List.all_eq_true]
  intro i _
  cases hd : g.decs[i]? with
  | none => rfl
  | some d => exact h i d hd
theorem safe_pure (s : XpS) {n N : Nat} (hw : GrW s.g n N) (hN : N < 1000000) : Pure Tryz.prog 14 [.agg (encXp s)] (.c (cB (safeG s.g))) := by
  have hins : ∀ l ∈ s.g.ins, l.length ≤ 3 ∧ ∀ v ∈ l, V4 v := hw.i
  have hil : s.g.ins.length < 1000000 := by have := hw.nn.i; have := hw.n4; omega
  have hdl : s.g.decs.length < 1000000 := by have := hw.dl; omega
  have hd4 := hw.d
  have sF : ∀ {j : Nat} {d : DeS}, s.g.decs[j]? = some d → safeAt s.g (allIns s.g.ins) j d = false → safeG s.g = false := fun hd h => safeG_false hd h
  have sT : (∀ (i : Nat) d, s.g.decs[i]? = some d → safeAt s.g (allIns s.g.ins) i d = true) → safeG s.g = true := safeG_true
  have hall4 : V4 (allIns s.g.ins) := all_4 fun l hl => (hins l hl).2
  have hinp : ∀ d v, inpX s.g d = some v → V4 v := fun d v h => by
    unfold inpX at h
    split at h
    · cases hl : s.g.ins[d.prop.toNat]? with
      | none => rw [hl] at h; cases h
      | some l =>
        rw [hl] at h
        exact (hins l (List.mem_of_getElem? hl)).2 v (List.mem_of_getElem? h)
    · cases h
  have ci := fun d => input_pure s.g d (by omega)
  have hst : ∀ j d, safeAt s.g (allIns s.g.ins) j d = (match inpX s.g d with
    | none => false
    | some own => leI own d.v && (leI d.v (allIns s.g.ins) && (s.g.decs.take j).all fun o => decide (compI d.v o.v ≠ 3))) := fun j d => rfl
  clear hw
  generalize hR : safeG s.g = R at *
  generalize hX : (fun d => inpX s.g d) = X
  obtain ⟨⟨accs, props, ins, nxt, pks, decs, steps⟩, lo, am⟩ := s
  dsimp only at *
  refine pure_of teOk Tryz.func14 (by kernel_rfl) (c := _) rfl (N := 83) rfl (rs := [Go.ResultVar.tmp 2]) rfl (by simp) fun base A w0 hA => ?_
  refine AW.st teOk [] (by simp [-Option.some.injEq] <;> rfl) trivial ?_
  refine AW.st teOk [] (by simp [-Option.some.injEq] <;> rfl) trivial ?_
  refine AW.to (s2 := ⟨[(1, .c (.fad (encXp ⟨⟨accs, props, ins, nxt, pks, decs, steps⟩, lo, am⟩))), (3, .c (encV []))], [], 1⟩) ((Weak.freeze 0 ⟨9, [encXp ⟨⟨accs, props, ins, nxt, pks, decs, steps⟩, lo, am⟩]⟩ [] _ (by simp [putA]) (by simp)).trans ((Weak.le 3 _ (by simp <;> rfl) (.c (LeC.nil 2))).trans (Weak.normS hA [1, 3] [] [] [] 1 _ (by simp [putT]) (by simp [putT]) (by simp [putT])))) (by simp [putT, mapAt_nil']) ?_
  refine AW.seq ?_
  refine AW.st teOk [] (by simp [-Option.some.injEq] <;> rfl) trivial ?_
  refine AW.block (AW.loop (fun m s => ∃ (j : Nat) (a : V2), m = ins.length - j ∧ j ≤ ins.length ∧ a = allIns (ins.take j) ∧ s = ⟨[(1, .c (.fad (encXp ⟨⟨accs, props, ins, nxt, pks, decs, steps⟩, lo, am⟩))), (3, .c (encV a)), (16, .c (.row 1 false (ins.map encIn))), (17, .c (cI ins.length)), (18, .c (cI j))], [], 1⟩) _ (Weak.normS hA [1, 3, 16, 17, 18] [] [] [] 1 _ (by simp) (by simp) (by simp)) ⟨0, [], rfl, Nat.zero_le _, rfl, by simp⟩ ?_)
  rintro m s ⟨j, a, rfl, hj, ha, rfl⟩
  have ha4 : V4 a := by rw [ha]; exact all_4 fun l hl => (hins l (List.mem_of_mem_take hl)).2
  refine AW.st teOk [] (by simp [-Option.some.injEq] <;> rfl) trivial ?_
  refine AW.seq (AW.iff (decide (j < ins.length)) (by simp) (fun h => AW.skip ?_) (fun h => AW.exit (x_then (x_then (blockA_exit ?_)))))
  · rw [decide_eq_true_eq] at h
    obtain ⟨l, hl⟩ : ∃ l, ins[j]? = some l := ⟨_, List.getElem?_eq_getElem h⟩
    obtain ⟨hll, hl4⟩ := hins l (List.mem_of_getElem? hl)
    have hinc : IntKind.i64.wrap ((j : Int) + 1) = (j : Int) + 1 := wrap_s _ (by omega)
    have hnx : allIns (ins.take (j + 1)) = l.foldl (mergeI true) a := by
      rw [List.take_add_one, hl, ha]
      unfold allIns
      rw [List.foldl_append]
      rfl
    refine AW.seq (AW.block ?_)
    refine AW.st teOk [] (by simp [hl, -Option.some.injEq] <;> rfl) ?_ ?_
    · simpa using h
    refine AW.st teOk [] (by simp [-Option.some.injEq] <;> rfl) trivial ?_
    refine AW.block (AW.loop (fun m s => ∃ (q : Nat) (b : V2), m = l.length - q ∧ q ≤ l.length ∧ b = (l.take q).foldl (mergeI true) a ∧ s = ⟨[(1, .c (.fad (encXp ⟨⟨accs, props, ins, nxt, pks, decs, steps⟩, lo, am⟩))), (3, .c (encV b)), (16, .c (.row 1 false (ins.map encIn))), (17, .c (cI ins.length)), (18, .c (cI j)), (22, .c (encVs l)), (23, .c (cI l.length)), (24, .c (cI q))], [], 1⟩) _ (Weak.normS hA [1, 3, 16, 17, 18, 22, 23, 24] [] [] [] 1 _ (by simp) (by simp) (by simp)) ⟨0, a, rfl, Nat.zero_le _, rfl, by simp⟩ ?_)
    rintro m s ⟨q, b, rfl, hq, hb, rfl⟩
    have hb4 : V4 b := by rw [hb]; exact (fold1 _ a ha4 fun v hv => hl4 v (List.mem_of_mem_take hv)).1
    refine AW.st teOk [] (by simp [-Option.some.injEq] <;> rfl) trivial ?_
    refine AW.seq (AW.iff (decide (q < l.length)) (by simp) (fun h2 => AW.skip ?_) (fun h2 => AW.exit (x_then (x_then (blockA_exit ?_)))))
    · rw [decide_eq_true_eq] at h2
      obtain ⟨v, hv⟩ : ∃ v, l[q]? = some v := ⟨_, List.getElem?_eq_getElem h2⟩
      have hv4 := hl4 v (List.mem_of_getElem? hv)
      have hincq : IntKind.i64.wrap ((q : Int) + 1) = (q : Int) + 1 := wrap_s _ (by omega)
      refine AW.seq (AW.block ?_)
      refine AW.st teOk [] (by simp [hv, -Option.some.injEq] <;> rfl) ?_ ?_
      · simpa using h2
      refine AW.text teOk (ans := [.fz (.c (encV (mergeI true b v)))]) (by simp [-Option.some.injEq] <;> rfl) ?_ ?_
      · exact join_pure b v (by have := hb4.le; have := hv4.le; omega)
      refine AW.text teOk (ans := []) (by simp [-Option.some.injEq] <;> rfl) ?_ ?_
      · trivial
      refine ⟨_, _, Weak.normS hA [1, 3, 16, 17, 18, 22, 23, 24] [] [] [] 1 _ (by simp) (by simp) (by simp), ?_, q + 1, mergeI true b v, rfl, h2, ?_, ?_⟩
      · omega
      · rw [List.take_add_one, hv, List.foldl_append, ← hb]
        rfl
      · simp [hincq]
    have hql : q = l.length := by
      rw [decide_eq_false_iff_not] at h2
      omega
    rw [hql, List.take_length, ← hnx] at hb
    refine AW.text teOk (ans := []) (by simp [-Option.some.injEq] <;> rfl) ?_ ?_
    · trivial
    refine ⟨_, _, Weak.normS hA [1, 3, 16, 17, 18] [] [] [] 1 _ (by simp) (by simp) (by simp), ?_, j + 1, b, rfl, h, hb, ?_⟩
    · omega
    · simp [hinc]
  have hjl : j = ins.length := by
    rw [decide_eq_false_iff_not] at h
    omega
  rw [hjl, List.take_length] at ha
  rw [← ha] at sF sT hst hall4
  refine AW.to (s2 := ⟨[(1, .c (.fad (encXp ⟨⟨accs, props, ins, nxt, pks, decs, steps⟩, lo, am⟩))), (3, .c (encV a))], [], 1⟩) (Weak.normS hA [1, 3] [] [] [] 1 _ (by simp) (by simp) (by simp)) (by simp) ?_
  clear hjl h hj ha ha4 j
  refine AW.seq ?_
  refine AW.st teOk [] (by simp [-Option.some.injEq] <;> rfl) trivial ?_
  refine AW.block (AW.loop (fun m s => ∃ (j : Nat), m = decs.length - j ∧ j ≤ decs.length ∧ (∀ i d, i < j → decs[i]? = some d → safeAt ⟨accs, props, ins, nxt, pks, decs, steps⟩ a i d = true) ∧ s = ⟨[(1, .c (.fad (encXp ⟨⟨accs, props, ins, nxt, pks, decs, steps⟩, lo, am⟩))), (3, .c (encV a)), (35, .c (.row 4 false (decs.map encDe))), (36, .c (cI decs.length)), (37, .c (cI j))], [], 1⟩) _ (Weak.normS hA [1, 3, 35, 36, 37] [] [] [] 1 _ (by simp) (by simp) (by simp)) ⟨0, rfl, Nat.zero_le _, fun i d hi => by omega, by simp⟩ ?_)
  rintro m s ⟨j, rfl, hj, hb, rfl⟩
  refine AW.st teOk [] (by simp [-Option.some.injEq] <;> rfl) trivial ?_
  refine AW.seq (AW.iff (decide (j < decs.length)) (by simp) (fun h => AW.skip ?_) (fun h => AW.exit (x_then (x_then (blockA_exit ?_)))))
  · rw [decide_eq_true_eq] at h
    obtain ⟨d, hd⟩ : ∃ d, decs[j]? = some d := ⟨_, List.getElem?_eq_getElem h⟩
    have hd4' := hd4 d (List.mem_of_getElem? hd)
    have hinc : IntKind.i64.wrap ((j : Int) + 1) = (j : Int) + 1 := wrap_s _ (by omega)
    have hst' := hst j d
    have cid := ci d
    have hinp' := hinp d
    refine AW.seq (AW.block ?_)
    refine AW.st teOk [] (by simp [hd, -Option.some.injEq] <;> rfl) ?_ ?_
    · simpa using h
    refine AW.to (s2 := ⟨[(1, .c (.fad (encXp ⟨⟨accs, props, ins, nxt, pks, decs, steps⟩, lo, am⟩))), (3, .c (encV a)), (35, .c (.row 4 false (decs.map encDe))), (36, .c (cI decs.length)), (37, .c (cI j)), (8, .c (cI j)), (9, .c (.fad (encDe d)))], [], 1⟩) ((Weak.freeze 5 ⟨4, [encDe d]⟩ [] _ (by simp) (by simp)).trans (Weak.normS hA [1, 3, 35, 36, 37, 8, 9] [] [] [] 1 _ (by simp [mapAt_nil']) (by simp [mapAt_nil']) (by simp [mapAt_nil']))) (by simp [mapAt_nil']) ?_
    unfold inpR at cid
    cases hin : inpX ⟨accs, props, ins, nxt, pks, decs, steps⟩ d with
    | none =>
      rw [hin] at cid hst'
      refine AW.st teOk [.fz (.tup [.c (.sc (.slice none 0 0)), .c (cB false)])] (by simp [-Option.some.injEq] <;> rfl) ?_ ?_
      · simpa using cid
      refine AW.seq ?_
      refine AW.st teOk [] (by simp [-Option.some.injEq] <;> rfl) trivial ?_
      refine AW.iff true (by simp) (fun _ => ?_) (fun h => by cases h)
      have hR0 := sF hd hst'
      refine AW.st teOk [] (by simp [-Option.some.injEq] <;> rfl) trivial ?_
      refine AW.ret ⟨.inr rfl, _, Weak.refl _, ?_⟩
      simp [hR0]
    | some own =>
      rw [hin] at cid hst'
      have ho4 := hinp' own hin
      have e1 := le_pure own d.v hd4'.val.2 (by have := ho4.le; omega) (by have := hd4'.le; omega)
      have e2 := le_pure d.v a hall4.val.2 (by have := hd4'.le; omega) (by have := hall4.le; omega)
      dsimp only at hst'
      refine AW.st teOk [.fz (.tup [.c (encV own), .c (cB true)])] (by simp [-Option.some.injEq] <;> rfl) ?_ ?_
      · simpa using cid
      refine AW.seq ?_
      cases h1 : leI own d.v with
      | false =>
        rw [h1] at e1 hst'
        have hR0 := sF hd hst'
        refine AW.st teOk [.fz (.c (cB false))] (by simp [-Option.some.injEq] <;> rfl) ?_ ?_
        · exact e1
        refine AW.iff true (by simp) (fun _ => ?_) (fun h => by cases h)
        refine AW.st teOk [] (by simp [-Option.some.injEq] <;> rfl) trivial ?_
        refine AW.ret ⟨.inr rfl, _, Weak.refl _, ?_⟩
        simp [hR0]
      | true =>
      rw [h1] at e1 hst'
      cases h2 : leI d.v a with
      | false =>
        rw [h2] at e2 hst'
        have hR0 := sF hd hst'
        refine AW.st teOk [.fz (.c (cB true)), .fz (.c (cB false))] (by simp [-Option.some.injEq] <;> rfl) ?_ ?_
        · exact ⟨e1, e2⟩
        refine AW.iff true (by simp) (fun _ => ?_) (fun h => by cases h)
        refine AW.st teOk [] (by simp [-Option.some.injEq] <;> rfl) trivial ?_
        refine AW.ret ⟨.inr rfl, _, Weak.refl _, ?_⟩
        simp [hR0]
      | true =>
      rw [h2] at e2 hst'
      refine AW.st teOk [.fz (.c (cB true)), .fz (.c (cB true))] (by simp [-Option.some.injEq] <;> rfl) ?_ ?_
      · exact ⟨e1, e2⟩
      refine AW.iff false (by simp) (fun h => by cases h) (fun _ => AW.skip ?_)
      obtain ⟨D, hD⟩ : ∃ D, D = decs.take j := ⟨_, rfl⟩
      have hDl : D.length = j := by rw [hD, List.length_take]; omega
      have hDm : ∀ o ∈ D, V4 o.v := fun o ho => hd4 o (by rw [hD] at ho; exact List.mem_of_mem_take ho)
      have htk : (decs.map encDe).take j = D.map encDe := by rw [hD, List.map_take]
      rw [← hD] at hst'
      refine AW.st teOk [] (by simp [htk, -Option.some.injEq] <;> rfl) ?_ ?_
      · first | trivial | omega | (simp [allP, growOk] <;> omega)
      refine AW.block (AW.loop (fun m s => ∃ (q : Nat), m = j - q ∧ q ≤ j ∧ ((D.take q).all fun o => decide (compI d.v o.v ≠ 3)) = true ∧ s = ⟨[(1, .c (.fad (encXp ⟨⟨accs, props, ins, nxt, pks, decs, steps⟩, lo, am⟩))), (3, .c (encV a)), (35, .c (.row 4 false (decs.map encDe))), (36, .c (cI decs.length)), (37, .c (cI j)), (9, .c (.fad (encDe d))), (69, .c (.row 4 false (D.map encDe))), (70, .c (cI j)), (71, .c (cI q))], [], 1⟩) _ (Weak.normS hA [1, 3, 35, 36, 37, 9, 69, 70, 71] [] [] [] 1 _ (by simp) (by simp) (by simp)) ⟨0, rfl, Nat.zero_le _, rfl, by simp [hDl]⟩ ?_)
      rintro m s ⟨q, rfl, hq, hbq, rfl⟩
      refine AW.st teOk [] (by simp [-Option.some.injEq] <;> rfl) trivial ?_
      refine AW.seq (AW.iff (decide (q < j)) (by simp) (fun h3 => AW.skip ?_) (fun h3 => AW.exit (x_then (x_then (blockA_exit ?_)))))
      · rw [decide_eq_true_eq] at h3
        obtain ⟨o, ho⟩ : ∃ o, D[q]? = some o := ⟨_, List.getElem?_eq_getElem (by omega)⟩
        have ho4' := hDm o (List.mem_of_getElem? ho)
        have hincq : IntKind.i64.wrap ((q : Int) + 1) = (q : Int) + 1 := wrap_s _ (by omega)
        have e3 := comp_pure d.v o.v hd4'.val.2 ho4'.val.2 (by have := hd4'.le; omega) (by have := ho4'.le; omega)
        refine AW.seq (AW.block ?_)
        refine AW.st teOk [] (by simp [ho, -Option.some.injEq] <;> rfl) ?_ ?_
        · first | trivial | omega | (simp [allP, growOk] <;> omega)
        refine AW.to (s2 := ⟨[(1, .c (.fad (encXp ⟨⟨accs, props, ins, nxt, pks, decs, steps⟩, lo, am⟩))), (3, .c (encV a)), (35, .c (.row 4 false (decs.map encDe))), (36, .c (cI decs.length)), (37, .c (cI j)), (9, .c (.fad (encDe d))), (69, .c (.row 4 false (D.map encDe))), (70, .c (cI j)), (71, .c (cI q)), (13, .c (.fad (encDe o)))], [], 1⟩) ((Weak.freeze 4 ⟨4, [encDe o]⟩ [] _ (by simp) (by simp)).trans (Weak.normS hA [1, 3, 35, 36, 37, 9, 69, 70, 71, 13] [] [] [] 1 _ (by simp [mapAt_nil']) (by simp [mapAt_nil']) (by simp [mapAt_nil']))) (by simp [mapAt_nil']) ?_
        refine AW.st teOk [.fz (.c (cI (compI d.v o.v)))] (by simp [-Option.some.injEq] <;> rfl) ?_ ?_
        · simpa using e3
        refine AW.iff (decide (compI d.v o.v = 3)) (by simp <;> rfl) (fun h4 => ?_) (fun h4 => AW.skip ?_)
        · rw [decide_eq_true_eq] at h4
          have hfa : (D.all fun o => decide (compI d.v o.v ≠ 3)) = false := by
            rw [List.all_eq_false]
            exact ⟨o, List.mem_of_getElem? ho, by simp [h4]⟩
          rw [hfa] at hst'
          have hR0 := sF hd hst'
          refine AW.st teOk [] (by simp [-Option.some.injEq] <;> rfl) trivial ?_
          refine AW.ret ⟨.inr rfl, _, Weak.refl _, ?_⟩
          simp [hR0]
        · rw [decide_eq_false_iff_not] at h4
          refine AW.text teOk (ans := []) (by simp [-Option.some.injEq] <;> rfl) ?_ ?_
          · trivial
          refine ⟨_, _, Weak.normS hA [1, 3, 35, 36, 37, 9, 69, 70, 71] [] [] [] 1 _ (by simp) (by simp) (by simp), ?_, q + 1, rfl, h3, ?_, ?_⟩
          · omega
          · rw [List.take_add_one, ho, List.all_append, hbq]
            simp [h4]
          · simp [hincq]
      have hql : q = j := by
        rw [decide_eq_false_iff_not] at h3
        omega
      rw [hql, List.take_of_length_le (by omega)] at hbq
      rw [hbq] at hst'
      refine AW.text teOk (ans := []) (by simp [-Option.some.injEq] <;> rfl) ?_ ?_
      · trivial
      refine ⟨_, _, Weak.normS hA [1, 3, 35, 36, 37] [] [] [] 1 _ (by simp) (by simp) (by simp), ?_, j + 1, rfl, h, ?_, ?_⟩
      · omega
      · intro i e hi he
        by_cases hij : i = j
        · subst hij
          rw [hd] at he
          cases he
          exact hst'
        · exact hb i e (by omega) he
      · simp [hinc]
  rw [decide_eq_false_iff_not] at h
  have hR1 := sT fun i d hd => hb i d (by have := (List.getElem?_eq_some_iff.1 hd).1; omega) hd
  refine AW.st teOk [] (by simp [-Option.some.injEq] <;> rfl) trivial ?_
  refine AW.ret ⟨.inr rfl, _, Weak.refl _, ?_⟩
  simp [hR1]
end Go.Proofs.YtphlhadgcfndhaaGreatDoor.Abs
end
