/- AgreementPlays. -/
import Derived.Test.YtopcklnnkpjanaaWAEnds
import Derived.Test.YtopcklnnkpjanaaWRgr4
namespace Go.Proofs.Ytopcklnnkpjanaa.Abs
open Go Go.RowKit
set_option linter.unusedVariables false
set_option linter.unusedSimpArgs false
set_option maxHeartbeats 4000000
theorem GrW.up {g : GrS} {n N M : Nat} (h : GrW g n N) (hM : N ≤ M) : GrW g n M := ⟨h.nn, h.n4, h.al, h.a, fun p hp => (h.p p hp).mono hM, h.i, h.x, h.k, h.d, by have := h.kl; omega, by have := h.dl; omega, by have := h.s; omega⟩
theorem loseS_W {g : GrS} {n N : Nat} (h : GrW g n N) (i : Int) : GrW (loseS g i) n (N + 28) := by
  unfold loseS
  split
  · rename_i hi
    have hdl := delL_len g.pks i.toNat (by omega)
    refine ⟨⟨h.nn.p, h.nn.i, h.nn.x, h.nn.b⟩, h.n4, h.al, h.a, fun p hp => (h.p p hp).mono (by omega), h.i, h.x, fun k hk => h.k k (mem_delL hk), h.d, by have := h.kl; show (delL g.pks i.toNat).length ≤ _; omega, by have := h.dl; show g.decs.length ≤ _; omega, by have := h.s; show 0 ≤ g.steps ∧ g.steps ≤ _; omega⟩
  · exact h.up (by omega)
theorem resendS_W {g : GrS} {n N : Nat} (h : GrW g n N) (i : Int) : GrW (resendS g i) n (N + 28) := by
  unfold resendS
  split
  · rename_i hv
    unfold validS at hv
    rw [Bool.and_eq_true, decide_eq_true_eq] at hv
    split
    · rename_i p hp
      split
      · have hpw := h.p p (List.mem_of_getElem? hp)
        have hal := h.al
        have hn := hpw.n
        cases hl : g.ins[i.toNat]? with
        | none => rw [hl] at hv; cases hv.2
        | some l =>
        rw [hl] at hv
        have hl0 : 0 < l.length := by simpa using hv.2
        refine ⟨⟨h.nn.p, h.nn.i, h.nn.x, h.nn.b⟩, h.n4, h.al, h.a, fun p hp => (h.p p hp).mono (by omega), h.i, h.x, fun k hk => ?_, h.d, ?_, by have := h.dl; show g.decs.length ≤ _; omega, by have := h.s; show 0 ≤ g.steps ∧ g.steps ≤ _; omega⟩
        · rcases List.mem_append.1 hk with hk | hk
          · exact h.k k hk
          · obtain ⟨a, ha, rfl⟩ := mem_propsTo.1 hk
            exact ⟨hpw.v, ⟨by show (0 : Int) ≤ a; omega, by show (a : Int) < (g.accs.length : Int); omega⟩, i.toNat, l, rfl, hl, hl0⟩
        · show (g.pks ++ propsTo i.toNat p p.n.toNat).length ≤ _
          rw [List.length_append, propsTo_len]
          have := h.kl
          omega
      · exact h.up (by omega)
    · exact h.up (by omega)
  · exact h.up (by omega)
theorem delivZ_W {g : GrS} {n N : Nat} (h : GrW g n N) (i : Int) : GrW (delivZ g i) n (N + 28) := by
  unfold delivZ
  split
  · exact (deliv_W h (by omega)).up (by omega)
  · exact h.up (by omega)
theorem rnewl_pure' (l : List Int) : Pure Try.prog 57 [.c (cI (sizeN l)), .c (.row 1 false ((inputsI l).map encIn))] (.agg (encGr (newG (sizeN l) (inputsI l)))) := rnew_pure _ (by have := (size_is l).2; omega) _ (inputs_ok l)
theorem aplays_pure (l c : List Int) (hl : l.length < 4000000000000000000) (hc : c.length < 4000000000000000000) : Pure Try.prog 17 [.c (encIs l), .c (encIs c)] (.c (cB true)) := by
  have haw := awake17_pure
  refine pure_of teOk Try.func17 (by kernel_rfl) (c := _) rfl (N := 93) rfl (rs := [Go.ResultVar.tmp 4]) rfl (by simp) fun base A w0 hA => ?_
  refine AW.st teOk [] (by simp [-Option.some.injEq] <;> rfl) trivial ?_
  refine AW.seq ?_
  by_cases h80 : (c.length : Int) > 80
  · refine AW.st teOk [] (by simp [h80, -Option.some.injEq] <;> rfl) trivial ?_
    refine AW.iff true (by simp) (fun _ => ?_) (fun h => by cases h)
    refine AW.st teOk [.fz (.c (cB true))] (by simp [-Option.some.injEq] <;> rfl) ?_ ?_
    · exact haw
    refine AW.ret ⟨.inr rfl, _, Weak.refl _, ?_⟩
    simp
  refine AW.st teOk [] (by simp [h80, -Option.some.injEq] <;> rfl) trivial ?_
  refine AW.iff false (by simp) (fun h => by cases h) (fun _ => AW.skip ?_)
  have p1 := size_pure l hl
  have p2 := inputs_pure l hl
  have p3 := newl_pure' l
  have r3 := rnewl_pure' l
  have hW0 := newl_W l
  generalize newG (sizeN l) (inputsI l) = G0 at *
  generalize inputsI l = I at *
  refine AW.st teOk [.fz (.c (cI (sizeN l))), .fz (.c (.row 1 false (I.map encIn))), .fz (.agg (encGr G0)), .fz (.c (cI (sizeN l))), .fz (.c (.row 1 false (I.map encIn))), .fz (.agg (encGr G0))] (by simp [-Option.some.injEq] <;> rfl) ?_ ?_
  · exact ⟨p1, p2, p3, p1, p2, r3⟩
  refine AW.seq ?_
  refine AW.st teOk [] (by simp [-Option.some.injEq] <;> rfl) trivial ?_
  refine AW.block (AW.loop (fun m s => ∃ (i : Nat) (G : GrS), i ≤ c.length ∧ m = c.length - i ∧ GrW G I.length (100 + 28 * i) ∧ s = ⟨[(1, .c (encIs c)), (5, .c (.ptr 0 0 0)), (6, .c (.ptr 1 0 0)), (7, .c (cI i))], [(0, ⟨7, [encGr G]⟩), (1, ⟨7, [encGr G]⟩)], 2⟩) _ (Weak.normS hA [1, 5, 6, 7] [(5, 0), (6, 1)] [] [] 2 _ (by simp) (by simp) (by simp)) ⟨0, G0, Nat.zero_le _, rfl, hW0, by simp⟩ ?_)
  rintro m s ⟨i, G, hi, rfl, hW, rfl⟩
  refine AW.seq ?_
  refine AW.st teOk [] (by simp [-Option.some.injEq] <;> rfl) trivial ?_
  refine AW.iff (decide (i < c.length)) (by simp) (fun h => AW.skip ?_) (fun h => AW.exit (x_then (x_then (blockA_exit ?_))))
  · rw [decide_eq_true_eq] at h
    have hinc : IntKind.i64.wrap ((i : Int) + 1) = (i : Int) + 1 := wrap_s _ (by omega)
    obtain ⟨x, hx⟩ : ∃ x, c[i]? = some x := ⟨_, List.getElem?_eq_getElem h⟩
    have hkl := hW.kl
    have q1 := index_pure' x 1099511627776
    have q2 := digit_pure' x 8 0 (by omega) (by omega)
    have q3 := index_pure' x 1000
    refine AW.mid (fun s => ∃ G2 : GrS, GrW G2 I.length (100 + 28 * (i + 1)) ∧ s = ⟨[(1, .c (encIs c)), (5, .c (.ptr 0 0 0)), (6, .c (.ptr 1 0 0)), (7, .c (cI i))], [(0, ⟨7, [encGr G2]⟩), (1, ⟨7, [encGr G2]⟩)], 2⟩) (AW.block ?_) ?_
    · refine AW.st teOk [] (by simp [hx, -Option.some.injEq] <;> rfl) ?_ ?_
      · exact h
      refine AW.st teOk [.fz (.c (cI (indexI x 1099511627776)))] (by simp [-Option.some.injEq] <;> rfl) ?_ ?_
      · exact q1
      refine AW.mid (fun s => ∃ t : Int, s = ⟨[(1, .c (encIs c)), (5, .c (.ptr 0 0 0)), (6, .c (.ptr 1 0 0)), (7, .c (cI i)), (8, .c (cI x)), (9, .c (cI t))], [(0, ⟨7, [encGr G]⟩), (1, ⟨7, [encGr G]⟩)], 2⟩) ?_ ?_
      · refine AW.st teOk [] (by simp [-Option.some.injEq] <;> rfl) trivial ?_
        by_cases h0 : G.pks.length = 0
        · refine AW.iff false (by simp [h0]) (fun h => by cases h) (fun _ => AW.skip ?_)
          exact ⟨_, Weak.normS hA [1, 5, 6, 7, 8, 9] [(5, 0), (6, 1)] [] [] 2 _ (by simp) (by simp) (by simp), _, by simp <;> rfl⟩
        · have hw1 : IntKind.i64.wrap ((G.pks.length : Int) + 1) = (G.pks.length : Int) + 1 := wrap_s _ (by omega)
          refine AW.iff true (by simp; omega) (fun _ => ?_) (fun h => by cases h)
          refine AW.draw mixed teOk (ans := [.c (cI (indexI x 1099511627776))]) (by simp [hw1, -Option.some.injEq] <;> rfl) (by kernel_rfl) (by kernel_rfl) ?_ ?_
          · simp [allP, hw1]
            trace_state
            exact q1
          exact ⟨_, Weak.normS hA [1, 5, 6, 7, 8, 9] [(5, 0), (6, 1)] [] [] 2 _ (by simp) (by simp) (by simp), _, by simp <;> rfl⟩
      rintro s ⟨t, rfl⟩
      refine AW.mid (fun s => ∃ G2 : GrS, GrW G2 I.length (100 + 28 * (i + 1)) ∧ s = ⟨[(1, .c (encIs c)), (5, .c (.ptr 0 0 0)), (6, .c (.ptr 1 0 0)), (7, .c (cI i))], [(0, ⟨7, [encGr G2]⟩), (1, ⟨7, [encGr G2]⟩)], 2⟩) ?_ ?_
      · refine AW.st teOk [.fz (.c (cI (digitI x 8 0)))] (by simp [-Option.some.injEq] <;> rfl) ?_ ?_
        · exact q2
        generalize digitI x 8 0 = dg at *
        refine AW.block ?_
        refine AW.st teOk [] (by simp [-Option.some.injEq] <;> rfl) trivial ?_
        by_cases d0 : dg = 0
        · have a1 := lose_pure G hW (by omega) t
          have a2 := rlose_pure G t (by omega)
          have hW2 := loseS_W hW t
          refine AW.iff true (by simp [d0]) (fun _ => ?_) (fun h => by cases h)
          refine AW.draw mixed teOk (ans := [.agg (encGr (loseS G t)), .agg (encGr (loseS G t))]) (by simp [-Option.some.injEq] <;> rfl) (by kernel_rfl) (by kernel_rfl) ?_ ?_
          · simp [allP]
            exact ⟨a1, a2⟩
          exact ⟨_, Weak.normS hA [1, 5, 6, 7] [(5, 0), (6, 1)] [] [] 2 _ (by simp) (by simp) (by simp), _, hW2, by simp⟩
        refine AW.iff false (by simp [d0]) (fun h => by cases h) (fun _ => ?_)
        refine AW.st teOk [] (by simp [-Option.some.injEq] <;> rfl) trivial ?_
        by_cases d1 : dg = 1
        · have a1 := resend_pure G hW (by omega) t
          have a2 := rresend_pure G hW (by omega) t
          have hW2 := resendS_W hW t
          refine AW.iff true (by simp [d1]) (fun _ => ?_) (fun h => by cases h)
          refine AW.draw mixed teOk (ans := [.agg (encGr (resendS G t)), .agg (encGr (resendS G t))]) (by simp [-Option.some.injEq] <;> rfl) (by kernel_rfl) (by kernel_rfl) ?_ ?_
          · simp [allP]
            exact ⟨a1, a2⟩
          exact ⟨_, Weak.normS hA [1, 5, 6, 7] [(5, 0), (6, 1)] [] [] 2 _ (by simp) (by simp) (by simp), _, hW2, by simp⟩
        refine AW.iff false (by simp [d1]) (fun h => by cases h) (fun _ => ?_)
        refine AW.st teOk [] (by simp [-Option.some.injEq] <;> rfl) trivial ?_
        by_cases d2 : dg = 2
        · obtain ⟨y, hy⟩ : ∃ y, y = IntKind.i64.wrap (indexI x 1000 - 500) := ⟨_, rfl⟩
          have a1 := run_pure G hW [x, y] (by simp; omega)
          have a2 := rrun_pure G hW [x, y] (by simp; omega)
          have hW2 := run_W [x, y] hW
          refine AW.iff true (by simp [d2]) (fun _ => ?_) (fun h => by cases h)
          refine AW.st teOk [.fz (.c (cI (indexI x 1000)))] (by simp [← hy, -Option.some.injEq] <;> rfl) ?_ ?_
          · exact q3
          refine AW.weak (Weak.le 10 _ (v' := .c (encIs [x, y])) (by simp <;> rfl) (.c (LeC.loose _ _ _))) ?_
          refine AW.draw mixed teOk (ans := [.agg (encGr (runS G [x, y])), .agg (encGr (runS G [x, y]))]) (by simp [-Option.some.injEq] <;> rfl) (by kernel_rfl) (by kernel_rfl) ?_ ?_
          · simp [allP]
            exact ⟨a1, a2⟩
          exact ⟨_, Weak.normS hA [1, 5, 6, 7] [(5, 0), (6, 1)] [] [] 2 _ (by simp) (by simp) (by simp), _, hW2, by simp⟩
        refine AW.iff false (by simp [d2]) (fun h => by cases h) (fun _ => ?_)
        have a1 := deliv_pure G hW (by omega) t
        have a2 := rdeliv_pure G hW (by omega) t
        have hW2 := delivZ_W hW t
        refine AW.draw mixed teOk (ans := [.agg (encGr (delivZ G t)), .agg (encGr (delivZ G t))]) (by simp [-Option.some.injEq] <;> rfl) (by kernel_rfl) (by kernel_rfl) ?_ ?_
        · simp [allP]
          exact ⟨a1, a2⟩
        exact ⟨_, Weak.normS hA [1, 5, 6, 7] [(5, 0), (6, 1)] [] [] 2 _ (by simp) (by simp) (by simp), _, hW2, by simp⟩
      rintro s ⟨G2, hW2, rfl⟩
      have hsm := same_pure G2 hW2 (by omega)
      refine AW.st teOk [.fz (.c (cB true))] (by simp [-Option.some.injEq] <;> rfl) ?_ ?_
      · exact hsm
      refine AW.iff false (by simp) (fun h => by cases h) (fun _ => AW.skip ?_)
      exact ⟨_, Weak.normS hA [1, 5, 6, 7] [(5, 0), (6, 1)] [] [] 2 _ (by simp) (by simp) (by simp), G2, hW2, by simp⟩
    rintro s ⟨G2, hW2, rfl⟩
    refine AW.text teOk (ans := []) (by simp [-Option.some.injEq] <;> rfl) ?_ ?_
    · trivial
    refine ⟨_, _, Weak.normS hA [1, 5, 6, 7] [(5, 0), (6, 1)] [] [] 2 _ (by simp) (by simp) (by simp), ?_, i + 1, G2, h, rfl, hW2, ?_⟩
    · omega
    · simp [hinc]
  refine AW.st teOk [.fz (.c (cB true))] (by simp [-Option.some.injEq] <;> rfl) ?_ ?_
  · exact haw
  refine AW.ret ⟨.inr rfl, _, Weak.refl _, ?_⟩
  simp
end Go.Proofs.Ytopcklnnkpjanaa.Abs
