/- Agreement: the reference's other functions. -/
import Derived.Test.YtopcklnnkpjanaaWRgr2
namespace Go.Proofs.Ytopcklnnkpjanaa.Abs
open Go Go.RowKit
set_option linter.unusedVariables false
set_option linter.unusedSimpArgs false
set_option maxHeartbeats 4000000
theorem rdeliv_pure (g : GrS) {n N : Nat} (h : GrW g n N) (hN : N < 100000000) (i : Int) : Pure Try.prog 63 [.agg (encGr g), .c (cI i)] (.agg (encGr (delivZ g i))) := by
  unfold delivZ
  by_cases hi : 0 ≤ i ∧ i < g.pks.length
  · rw [if_pos hi]
    have := rdeliv_in g h hN i.toNat (by omega)
    rwa [show ((i.toNat : Nat) : Int) = i by omega] at this
  · rw [if_neg hi]
    clear h
    obtain ⟨accs, props, ins, nxt, pks, decs, steps⟩ := g
    dsimp only at *
    refine pure_of teOk Try.func63 (by kernel_rfl) (c := _) rfl (N := 173) rfl (rs := [Go.ResultVar.cell 4 96]) rfl (by simp) fun base A w0 hA => ?_
    refine AW.st teOk [] (by simp [-Option.some.injEq] <;> rfl) trivial ?_
    refine AW.seq ?_
    by_cases hi0 : i < 0
    · refine AW.st teOk [] (by simp [hi0, -Option.some.injEq] <;> rfl) trivial ?_
      refine AW.iff true (by simp) (fun _ => ?_) (fun h => by cases h)
      refine AW.st teOk [] (by simp [-Option.some.injEq] <;> rfl) trivial ?_
      refine AW.ret ⟨.inr rfl, _, Weak.refl _, ?_⟩
      simp
    · have hi1 : i ≥ pks.length := by omega
      refine AW.st teOk [] (by simp [hi0, hi1, -Option.some.injEq] <;> rfl) trivial ?_
      refine AW.iff true (by simp) (fun _ => ?_) (fun h => by cases h)
      refine AW.st teOk [] (by simp [-Option.some.injEq] <;> rfl) trivial ?_
      refine AW.ret ⟨.inr rfl, _, Weak.refl _, ?_⟩
      simp
theorem rresend_pure (g : GrS) {n N : Nat} (h : GrW g n N) (hN : N < 100000000) (i : Int) : Pure Try.prog 62 [.agg (encGr g), .c (cI i)] (.agg (encGr (resendS g i))) := by
  have hpl := h.nn.p
  have hil := h.nn.i
  have hal := h.al
  have hkl := h.kl
  unfold resendS validS
  by_cases hi0 : i < 0
  · rw [decide_eq_false (by omega), Bool.false_and, if_neg (by simp)]
    refine pure_of teOk Try.func62 (by kernel_rfl) (c := _) rfl (N := 35) rfl (rs := [Go.ResultVar.cell 4 96]) rfl (by simp) fun base A w0 hA => ?_
    refine AW.st teOk [] (by simp [-Option.some.injEq] <;> rfl) trivial ?_
    refine AW.seq ?_
    refine AW.st teOk [] (by simp [hi0, -Option.some.injEq] <;> rfl) trivial ?_
    refine AW.iff true (by simp) (fun _ => ?_) (fun h => by cases h)
    refine AW.st teOk [] (by simp [-Option.some.injEq] <;> rfl) trivial ?_
    refine AW.ret ⟨.inr rfl, _, Weak.refl _, ?_⟩
    simp
  obtain ⟨j, rfl⟩ : ∃ j : Nat, i = j := ⟨i.toNat, by omega⟩
  rw [decide_eq_true (by omega), Bool.true_and]
  simp only [Int.toNat_natCast]
  by_cases hj : (j : Int) ≥ g.props.length
  · have hn : g.ins[j]? = none := List.getElem?_eq_none (by omega)
    rw [hn]
    simp only [Bool.false_eq_true, if_false]
    refine pure_of teOk Try.func62 (by kernel_rfl) (c := _) rfl (N := 35) rfl (rs := [Go.ResultVar.cell 4 96]) rfl (by simp) fun base A w0 hA => ?_
    refine AW.st teOk [] (by simp [-Option.some.injEq] <;> rfl) trivial ?_
    refine AW.seq ?_
    refine AW.st teOk [] (by simp [hi0, hj, -Option.some.injEq] <;> rfl) trivial ?_
    refine AW.iff true (by simp) (fun _ => ?_) (fun h => by cases h)
    refine AW.st teOk [] (by simp [-Option.some.injEq] <;> rfl) trivial ?_
    refine AW.ret ⟨.inr rfl, _, Weak.refl _, ?_⟩
    simp
  obtain ⟨l, hl⟩ : ∃ l, g.ins[j]? = some l := ⟨_, List.getElem?_eq_getElem (by omega)⟩
  obtain ⟨p, hp⟩ : ∃ p, g.props[j]? = some p := ⟨_, List.getElem?_eq_getElem (by omega)⟩
  have hjl := (List.getElem?_eq_some_iff.1 hl).1
  have hjp := (List.getElem?_eq_some_iff.1 hp).1
  rw [hl, hp]
  simp only [decide_eq_true_eq]
  by_cases hl0 : l = []
  · rw [if_neg (by rw [hl0]; simp)]
    subst hl0
    refine pure_of teOk Try.func62 (by kernel_rfl) (c := _) rfl (N := 35) rfl (rs := [Go.ResultVar.cell 4 96]) rfl (by simp) fun base A w0 hA => ?_
    refine AW.st teOk [] (by simp [-Option.some.injEq] <;> rfl) trivial ?_
    refine AW.seq ?_
    refine AW.st teOk [] (by simp [hi0, hj, hl, -Option.some.injEq] <;> rfl) ?_ ?_
    · exact hjl
    refine AW.iff true (by simp) (fun _ => ?_) (fun h => by cases h)
    refine AW.st teOk [] (by simp [-Option.some.injEq] <;> rfl) trivial ?_
    refine AW.ret ⟨.inr rfl, _, Weak.refl _, ?_⟩
    simp
  rw [if_pos (List.length_pos_iff.2 hl0)]
  have hlz : ((l.length : Int) == 0) = false := by
    have := List.length_pos_iff.2 hl0
    simp
    exact hl0
  cases hd : p.dec with
  | true =>
    rw [if_neg (by simp)]
    refine pure_of teOk Try.func62 (by kernel_rfl) (c := _) rfl (N := 35) rfl (rs := [Go.ResultVar.cell 4 96]) rfl (by simp) fun base A w0 hA => ?_
    refine AW.st teOk [] (by simp [-Option.some.injEq] <;> rfl) trivial ?_
    refine AW.seq ?_
    refine AW.st teOk [] (by simp [hi0, hj, hl, hlz, hp, hd, -Option.some.injEq] <;> rfl) ?_ ?_
    · exact ⟨hjl, hjp⟩
    refine AW.iff true (by simp) (fun _ => ?_) (fun h => by cases h)
    refine AW.st teOk [] (by simp [-Option.some.injEq] <;> rfl) trivial ?_
    refine AW.ret ⟨.inr rfl, _, Weak.refl _, ?_⟩
    simp
  | false =>
    rw [if_pos rfl]
    have hsc := rsend_pure g j p hp (h.p p (List.mem_of_getElem? hp)).n hal.2 (by omega)
    obtain ⟨G, hG⟩ : ∃ G, G = sendS g j p := ⟨_, rfl⟩
    rw [← hG] at hsc ⊢
    refine pure_of teOk Try.func62 (by kernel_rfl) (c := _) rfl (N := 35) rfl (rs := [Go.ResultVar.cell 4 96]) rfl (by simp) fun base A w0 hA => ?_
    refine AW.st teOk [] (by simp [-Option.some.injEq] <;> rfl) trivial ?_
    refine AW.seq ?_
    refine AW.st teOk [] (by simp [hi0, hj, hl, hlz, hp, hd, -Option.some.injEq] <;> rfl) ?_ ?_
    · exact ⟨hjl, hjp⟩
    refine AW.iff false (by simp) (fun h => by cases h) (fun _ => AW.skip ?_)
    refine AW.st teOk [.fz (.agg (encGr G))] (by simp [-Option.some.injEq] <;> rfl) ?_ ?_
    · exact hsc
    refine AW.ret ⟨.inr rfl, _, Weak.refl _, ?_⟩
    simp
theorem rrun_pure (g : GrS) {n N : Nat} (h : GrW g n N) (l : List Int) (hN : N + 14 * l.length < 100000000) : Pure Try.prog 56 [.agg (encGr g), .c (encIs l)] (.agg (encGr (runS g l))) := by
  refine pure_of teOk Try.func56 (by kernel_rfl) (c := _) rfl (N := 31) rfl (rs := [Go.ResultVar.cell 4 96]) rfl (by simp) fun base A w0 hA => ?_
  refine AW.st teOk [] (by simp [-Option.some.injEq] <;> rfl) trivial ?_
  refine AW.seq ?_
  refine AW.st teOk [] (by simp [-Option.some.injEq] <;> rfl) trivial ?_
  refine AW.block (AW.loop (fun m s => ∃ done rest, m = rest.length ∧ l = done ++ rest ∧ s = ⟨[(1, .c (encIs l)), (2, .c (.ptr 0 0 0)), (4, .c (.ptr 1 0 0)), (5, .c (cI done.length))], [(0, ⟨7, [encGr (runS g done)]⟩), (1, ⟨7, [nilG]⟩)], 2⟩) _ (Weak.normS hA [1, 2, 4, 5] [(2, 0), (4, 1)] [] [] 2 _ (by simp) (by simp) (by simp)) ⟨[], l, rfl, rfl, by simp [runS]⟩ ?_)
  rintro m s ⟨done, rest, rfl, hdr, rfl⟩
  have hlen : l.length = done.length + rest.length := by rw [hdr, List.length_append]
  refine AW.seq ?_
  refine AW.st teOk [] (by simp [-Option.some.injEq] <;> rfl) trivial ?_
  refine AW.iff (decide (done.length < l.length)) (by simp) (fun h => AW.skip ?_) (fun h => AW.exit (x_then (x_then (blockA_exit ?_))))
  · rename_i hW
    rw [decide_eq_true_eq] at h
    cases rest with
    | nil => simp at hlen; omega
    | cons x rest =>
    have hx : l[done.length]? = some x := by rw [hdr]; simp
    have hinc : IntKind.i64.wrap ((done.length : Int) + 1) = (done.length : Int) + 1 := wrap_s _ (by omega)
    have hw := run_W done hW
    have happ := runS_app g done x
    generalize runS g done = G at *
    have hkl := hw.kl
    have hst : stepS G x = if G.pks.length = 0 then G else delivZ G (pickI x G.pks.length) := by
      unfold stepS delivZ
      split
      · rfl
      · have := pick_lt x (k := G.pks.length) (by omega)
        rw [if_pos this]
    have hdp := rdeliv_pure G hw (by rw [List.length_cons] at hlen; omega) (pickI x G.pks.length)
    refine AW.mid (fun s => s = ⟨[(1, .c (encIs l)), (2, .c (.ptr 0 0 0)), (4, .c (.ptr 1 0 0)), (5, .c (cI done.length))], [(0, ⟨7, [encGr (stepS G x)]⟩), (1, ⟨7, [nilG]⟩)], 2⟩) (AW.block ?_) ?_
    · refine AW.st teOk [] (by simp [-Option.some.injEq] <;> rfl) trivial ?_
      refine AW.st teOk [] (by simp [-Option.some.injEq] <;> rfl) trivial ?_
      by_cases h0 : G.pks.length = 0
      · refine AW.iff false (by simp [h0]) (fun h => by cases h) (fun _ => AW.skip ?_)
        rw [hst, if_pos h0]
        exact ⟨_, Weak.normS hA [1, 2, 4, 5] [(2, 0), (4, 1)] [] [] 2 _ (by simp) (by simp) (by simp), by simp⟩
      · have hwr : IntKind.i64.wrap (x.tmod G.pks.length + G.pks.length) = x.tmod G.pks.length + G.pks.length := by
          have h1 := Int.tmod_lt_of_pos x (show (0 : Int) < G.pks.length by omega)
          have h2 := Int.lt_tmod_of_pos x (show (0 : Int) < G.pks.length by omega)
          rw [IntKind.wrap_i64]
          omega
        refine AW.iff true (by simp; omega) (fun _ => ?_) (fun h => by cases h)
        rw [hst, if_neg h0]
        generalize hG : delivZ G (pickI x G.pks.length) = G' at *
        unfold pickI at hdp
        refine AW.draw mixed teOk (ans := [.agg (encGr G')]) (by simp [hwr, hx, -Option.some.injEq] <;> rfl) (by kernel_rfl) (by kernel_rfl) ?_ ?_
        · simp [allP, hwr]
          exact ⟨h, (fun e => h0 (by rw [e]; rfl)), hdp⟩
        exact ⟨_, Weak.normS hA [1, 2, 4, 5] [(2, 0), (4, 1)] [] [] 2 _ (by simp) (by simp) (by simp), by simp⟩
    rintro s rfl
    refine AW.text teOk (ans := []) (by simp [-Option.some.injEq] <;> rfl) ?_ ?_
    · trivial
    refine ⟨_, _, Weak.normS hA [1, 2, 4, 5] [(2, 0), (4, 1)] [] [] 2 _ (by simp) (by simp) (by simp), ?_, done ++ [x], rest, rfl, by rw [hdr, List.append_assoc]; rfl, ?_⟩
    · simp
    · simp [hinc, happ]
  have hend : done = l := by
    rw [decide_eq_false_iff_not] at h
    have : rest = [] := List.eq_nil_of_length_eq_zero (by omega)
    rw [hdr, this, List.append_nil]
  rw [hend]
  refine AW.st teOk [] (by simp [-Option.some.injEq] <;> rfl) trivial ?_
  refine AW.ret ⟨.inr rfl, _, Weak.refl _, ?_⟩
  simp
theorem rdrain_pure (g : GrS) {n N : Nat} (h : GrW g n N) (m : Nat) (hm : pot g ≤ m) (hN : N + 14 * m < 10000000) (M : Int) (hM : (m : Int) < M) : Pure Try.prog 55 [.agg (encGr g), .c (cI M)] (.agg (encGr (drainS m g))) := by
  refine pure_of teOk Try.func55 (by kernel_rfl) (c := _) rfl (N := 20) rfl (rs := [Go.ResultVar.cell 4 96]) rfl (by simp) fun base A w0 hA => ?_
  refine AW.st teOk [] (by simp [-Option.some.injEq] <;> rfl) trivial ?_
  refine AW.seq ?_
  refine AW.st teOk [] (by simp [-Option.some.injEq] <;> rfl) trivial ?_
  refine AW.block (AW.loop (fun j s => ∃ i, j + i = m ∧ s = ⟨[(1, .c (cI M)), (2, .c (.ptr 0 0 0)), (4, .c (.ptr 1 0 0)), (5, .c (cI i))], [(0, ⟨7, [encGr (drainS i g)]⟩), (1, ⟨7, [nilG]⟩)], 2⟩) m (Weak.normS hA [1, 2, 4, 5] [(2, 0), (4, 1)] [] [] 2 _ (by simp) (by simp) (by simp)) ⟨0, rfl, by simp [drainS]⟩ ?_)
  rintro j s ⟨i, hi, rfl⟩
  have hw := drain_W i h
  have hadd := drain_add i 1 g
  have hstop := fun h => drain_stop (g := drainS i g) h (m - i)
  have hall := drain_add i (m - i) g
  have hend := drain_end m h hm
  rw [show i + (m - i) = m by omega] at hall
  generalize drainS i g = G at *
  have hkl := hw.kl
  have hdp := rdeliv_pure G hw (by omega) 0
  have hi5 : (i : Int) < M := by omega
  by_cases h0 : G.pks.length = 0
  · rw [hall, hstop h0]
    refine AW.seq ?_
    refine AW.st teOk [] (by simp [hi5, h0, -Option.some.injEq] <;> rfl) trivial ?_
    refine AW.iff false (by simp [h0]) (fun h => by cases h) (fun h => AW.exit (x_then (x_then (blockA_exit ?_))))
    refine AW.st teOk [] (by simp [-Option.some.injEq] <;> rfl) trivial ?_
    refine AW.ret ⟨.inr rfl, _, Weak.refl _, ?_⟩
    simp
  · have him : i < m := by
      refine Nat.lt_of_not_le fun hle => h0 ?_
      have : m - i = 0 := by omega
      rw [this] at hall
      rw [hall] at hend
      exact hend
    unfold delivZ at hdp
    rw [if_pos (by omega)] at hdp
    rw [drain_succ 0 G, if_neg h0] at hadd
    change drainS (i + 1) g = delivS G 0 at hadd
    simp only [Int.toNat_zero] at hdp
    rw [← hadd] at hdp
    have hinc : IntKind.i64.wrap ((i : Int) + 1) = (i : Int) + 1 := wrap_s _ (by omega)
    have hlt : 0 < G.pks.length := by omega
    refine AW.seq ?_
    refine AW.st teOk [] (by simp [hi5, hlt, -Option.some.injEq] <;> rfl) trivial ?_
    refine AW.iff true (by simp [hlt]) (fun _ => AW.skip ?_) (fun h => by cases h)
    refine AW.seq (AW.block ?_)
    refine AW.text teOk (ans := [.fz (.agg (encGr (drainS (i + 1) g)))]) (by simp [-Option.some.injEq] <;> rfl) ?_ ?_
    · exact hdp
    refine AW.text teOk (ans := []) (by simp [-Option.some.injEq] <;> rfl) ?_ ?_
    · trivial
    refine ⟨_, j - 1, Weak.normS hA [1, 2, 4, 5] [(2, 0), (4, 1)] [] [] 2 _ (by simp) (by simp) (by simp), by omega, i + 1, by omega, ?_⟩
    simp [hinc]
end Go.Proofs.Ytopcklnnkpjanaa.Abs
