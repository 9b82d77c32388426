/- Agreement: the reference's functions. -/
import Derived.Test.YtopcklnnkpjanaaWAgr14
namespace Go.Proofs.Ytopcklnnkpjanaa.Abs
open Go Go.RowKit
set_option linter.unusedVariables false
set_option linter.unusedSimpArgs false
set_option maxHeartbeats 4000000
theorem rsend_pure (g : GrS) (i : Nat) (p : PrS) (hp : g.props[i]? = some p) (hn : p.n = g.accs.length) (hal : g.accs.length ≤ 12) (hkl : g.pks.length < 1000000000) : Pure Try.prog 93 [.agg (encGr g), .c (cI i)] (.agg (encGr (sendS g i p))) := by
  have hil := (List.getElem?_eq_some_iff.1 hp).1
  obtain ⟨n, hpn⟩ : ∃ n : Nat, p.n = n := ⟨p.n.toNat, by omega⟩
  have hg' : sendS g i p = { g with pks := g.pks ++ propsTo i p n } := by unfold sendS; rw [hpn]; rfl
  rw [hg']
  obtain ⟨accs, props, ins, nxt, pks, decs, steps⟩ := g
  obtain ⟨pn, v, r, acks, dc⟩ := p
  dsimp only at *
  subst hpn
  have hna : n = accs.length := by omega
  refine pure_of teOk Try.func93 (by kernel_rfl) (c := _) rfl (N := 39) rfl (rs := [Go.ResultVar.cell 4 96]) rfl (by simp) fun base A w0 hA => ?_
  refine AW.st teOk [] (by simp [-Option.some.injEq] <;> rfl) trivial ?_
  refine AW.st teOk [] (by simp [-Option.some.injEq] <;> rfl) ?_ ?_
  · simp [growOk]
    omega
  refine AW.seq ?_
  refine AW.st teOk [] (by simp [-Option.some.injEq] <;> rfl) trivial ?_
  refine AW.block (AW.loop (fun m s => ∃ (j : Nat) (ks : List PkS), ks = pks ++ propsTo i ⟨n, v, r, acks, dc⟩ j ∧ j ≤ n ∧ m = n - j ∧ s = ⟨[(1, .c (cI i)), (2, .c (.ptr 0 0 0)), (4, .c (.ptr 1 0 0)), (5, .c (.ref 2 0 ks.length)), (6, .c (cI j))], [(0, ⟨7, [encGr ⟨accs, props, ins, nxt, pks, decs, steps⟩]⟩), (1, ⟨7, [nilG]⟩), (2, ⟨5, ks.map encPk⟩)], 3⟩) _ (Weak.normS hA [1, 2, 4, 5, 6] [(2, 0), (4, 1), (5, 2)] [] [] 3 _ (by simp) (by simp) (by simp)) ⟨0, pks, by simp [propsTo], Nat.zero_le _, rfl, by simp⟩ ?_)
  rintro m s ⟨j, ks, hks, hj, rfl, rfl⟩
  have hpl := propsTo_len i ⟨n, v, r, acks, dc⟩ j
  have hsucc := propsTo_succ i ⟨n, v, r, acks, dc⟩ j
  have hinc : IntKind.i64.wrap ((j : Int) + 1) = (j : Int) + 1 := wrap_s _ (by omega)
  dsimp only at hsucc
  refine AW.seq ?_
  refine AW.st teOk [] (by simp [-Option.some.injEq] <;> rfl) trivial ?_
  refine AW.iff (decide (j < accs.length)) (by simp) (fun h => AW.skip ?_) (fun h => AW.exit (x_then (x_then (blockA_exit ?_))))
  · rw [decide_eq_true_eq] at h
    rw [← hna] at h
    have hlen : ks.length = pks.length + j := by rw [hks, List.length_append, hpl]
    refine AW.seq (AW.block ?_)
    refine AW.draw mixed teOk (ans := []) (by simp [hp, -Option.some.injEq] <;> rfl) (by kernel_rfl) (by kernel_rfl) ?_ ?_
    · simp [allP, growOk]
      omega
    refine AW.text teOk (ans := []) (by simp [-Option.some.injEq] <;> rfl) ?_ ?_
    · trivial
    refine ⟨_, _, Weak.normS hA [1, 2, 4, 5, 6] [(2, 0), (4, 1), (5, 2)] [] [] 3 _ (by simp) (by simp) (by simp), ?_, j + 1, ks ++ [⟨false, i, j, r, v⟩], by rw [hsucc, hks, List.append_assoc], h, rfl, ?_⟩
    · omega
    · simp [hinc]
  have hje : j = n := by
    rw [decide_eq_false_iff_not] at h
    omega
  subst hje
  rw [← hks]
  refine AW.st teOk [] (by simp [-Option.some.injEq] <;> rfl) trivial ?_
  refine AW.st teOk [] (by simp [-Option.some.injEq] <;> rfl) trivial ?_
  refine AW.ret ⟨.inr rfl, _, (Weak.freeze 2 _ [0, 1] _ (by simp <;> rfl) (by simp)), ?_⟩
  simp
theorem rlose_pure (g : GrS) (i : Int) (hkl : g.pks.length < 1000000000) : Pure Try.prog 60 [.agg (encGr g), .c (cI i)] (.agg (encGr (loseS g i))) := by
  unfold loseS
  by_cases hi : 0 ≤ i ∧ i < g.pks.length
  · obtain ⟨j, rfl⟩ : ∃ j : Nat, i = j := ⟨i.toNat, by omega⟩
    rw [if_pos hi, Int.toNat_natCast]
    obtain ⟨accs, props, ins, nxt, pks, decs, steps⟩ := g
    dsimp only at *
    have hj : j < pks.length := by omega
    have hj0 : ¬ ((j : Int) < 0) := by omega
    have hj1 : ¬ ((j : Int) ≥ pks.length) := by omega
    have hic : IntKind.i64.wrap ((j : Int) + 1) = (j : Int) + 1 := wrap_s _ (by omega)
    have hm : (delL pks j).map encPk = (pks.map encPk).take j ++ (pks.map encPk).drop (j + 1) := by unfold delL; rw [List.map_append, List.map_take, List.map_drop]
    have hl := delL_len pks j hj
    refine pure_of teOk Try.func60 (by kernel_rfl) (c := _) rfl (N := 29) rfl (rs := [Go.ResultVar.cell 4 96]) rfl (by simp) fun base A w0 hA => ?_
    refine AW.st teOk [] (by simp [-Option.some.injEq] <;> rfl) trivial ?_
    refine AW.seq ?_
    refine AW.st teOk [] (by simp [hj0, hj1, -Option.some.injEq] <;> rfl) trivial ?_
    refine AW.iff false (by simp) (fun h => by cases h) (fun _ => AW.skip ?_)
    have hmin : min j pks.length = j := by omega
    obtain ⟨ks, hks⟩ : ∃ ks, ks = delL pks j := ⟨_, rfl⟩
    rw [← hks] at hm hl ⊢
    by_cases hd : pks.length ≤ j + 1
    · have hdn : (pks.map encPk).drop (j + 1) = [] := List.drop_eq_nil_of_le (by rw [List.length_map]; exact hd)
      rw [hdn, List.append_nil] at hm
      have hlj : ks.length = j := by omega
      have htk : (ks.map encPk).take j = ks.map encPk := List.take_of_length_le (by rw [List.length_map, hlj]; exact Nat.le_refl _)
      refine AW.dr mixed teOk [] (by simp [hic, hmin, hd, ← hm, -Option.some.injEq] <;> rfl) (by kernel_rfl) (by kernel_rfl) ?_ ?_
      · simp [allP, growOk, hmin]
        omega
      refine AW.to (s2 := ⟨[(2, .c (.ptr 0 0 0)), (4, .c (.ptr 1 0 0))], [(0, ⟨7, [encGr ⟨accs, props, ins, nxt, ks, decs, steps⟩]⟩), (1, ⟨7, [nilG]⟩)], 2⟩) ((Weak.freeze 16 ⟨5, ks.map encPk⟩ [0] _ (by simp [← hm]) (by simp)).trans (Weak.normS hA [2, 4] [(2, 0), (4, 1)] [] [] 2 _ (by simp) (by simp) (by simp))) (by simp [← hm, hlj, hmin, htk]) ?_
      refine AW.st teOk [] (by simp [-Option.some.injEq] <;> rfl) trivial ?_
      refine AW.ret ⟨.inr rfl, _, Weak.refl _, ?_⟩
      simp
    · have hl2 : j + (pks.length - (j + 1)) = ks.length := by omega
      have htk : (ks.map encPk).take ks.length = ks.map encPk := List.take_of_length_le (by rw [List.length_map]; exact Nat.le_refl _)
      refine AW.dr mixed teOk [] (by simp [hic, hmin, hd, -Option.some.injEq] <;> rfl) (by kernel_rfl) (by kernel_rfl) ?_ ?_
      · simp [allP, growOk, hmin]
        exact ⟨by omega, ⟨by omega, fun e he => enc5 pks e (List.mem_of_mem_take he)⟩, by omega, by omega, fun e he => enc5 pks e (List.mem_of_mem_drop he)⟩
      refine AW.to (s2 := ⟨[(2, .c (.ptr 0 0 0)), (4, .c (.ptr 1 0 0))], [(0, ⟨7, [encGr ⟨accs, props, ins, nxt, ks, decs, steps⟩]⟩), (1, ⟨7, [nilG]⟩)], 2⟩) ((Weak.freeze 22 ⟨5, ks.map encPk⟩ [0] _ (by simp [← hm]) (by simp)).trans (Weak.normS hA [2, 4] [(2, 0), (4, 1)] [] [] 2 _ (by simp) (by simp) (by simp [hl2]))) (by simp [hmin, hl2, htk]) ?_
      refine AW.st teOk [] (by simp [-Option.some.injEq] <;> rfl) trivial ?_
      refine AW.ret ⟨.inr rfl, _, Weak.refl _, ?_⟩
      simp
  · rw [if_neg hi]
    obtain ⟨accs, props, ins, nxt, pks, decs, steps⟩ := g
    dsimp only at *
    refine pure_of teOk Try.func60 (by kernel_rfl) (c := _) rfl (N := 29) rfl (rs := [Go.ResultVar.cell 4 96]) rfl (by simp) fun base A w0 hA => ?_
    refine AW.st teOk [] (by simp [-Option.some.injEq] <;> rfl) trivial ?_
    refine AW.seq ?_
    by_cases hi0 : i < 0
    · refine AW.st teOk [] (by simp [hi0, -Option.some.injEq] <;> rfl) trivial ?_
      refine AW.iff true (by simp) (fun _ => ?_) (fun h => by cases h)
      refine AW.st teOk [] (by simp [-Option.some.injEq] <;> rfl) trivial ?_
      refine AW.ret ⟨.inr rfl, _, Weak.refl _, ?_⟩
      simp
    · have hi1 : i ≥ pks.length := by omega
      refine AW.st teOk [] (by simp [hi0, hi1, -Option.some.injEq] <;> rfl) trivial ?_
      refine AW.iff true (by simp) (fun _ => ?_) (fun h => by cases h)
      refine AW.st teOk [] (by simp [-Option.some.injEq] <;> rfl) trivial ?_
      refine AW.ret ⟨.inr rfl, _, Weak.refl _, ?_⟩
      simp
theorem rwithp_pure (l : List PrS) (i : Nat) (hi : i < l.length) (hl : l.length < 1000000000) (p : PrS) : Pure Try.prog 95 [.c (.row 5 false (l.map encPr')), .c (cI i), .agg (encPr p)] (.c (.row 5 false ((l.set i p).map encPr'))) := by
  have hset : (l.map encPr').set i (encPr p) = (l.set i p).map encPr' := set_enc encPr' l i p
  have hfl : flatO ⟨5, (l.map encPr').set i (encPr p)⟩ = true := by rw [hset]; exact flat_encPr' _
  refine pure_of teOk Try.func95 (by kernel_rfl) (c := _) rfl (N := 16) rfl (rs := [Go.ResultVar.tmp 6]) rfl (by simp) fun base A w0 hA => ?_
  refine AW.st teOk [] (by simp [-Option.some.injEq] <;> rfl) trivial ?_
  refine AW.st teOk [] (by simp [-Option.some.injEq] <;> rfl) ?_ ?_
  · simp [growOk]
    omega
  obtain ⟨q, hq⟩ : ∃ q, l[i]? = some q := ⟨_, List.getElem?_eq_getElem hi⟩
  refine AW.st teOk [] (by simp [hq, -Option.some.injEq] <;> rfl) ?_ ?_
  · exact hi
  refine AW.st teOk [] (by simp [-Option.some.injEq] <;> rfl) trivial ?_
  refine AW.ret ⟨.inr rfl, _, Weak.frzT 6 [] _ (by simp <;> exact ⟨rfl, rfl, rfl⟩) (by simp <;> rfl) (by simp [hfl]), ?_⟩
  have htk : ((l.map encPr').set i (encPr p)).take l.length = (l.map encPr').set i (encPr p) := List.take_of_length_le (by rw [List.length_set, List.length_map]; exact Nat.le_refl _)
  simpa using htk
end Go.Proofs.Ytopcklnnkpjanaa.Abs
