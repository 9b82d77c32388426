/- ProposerPlays. -/
import Derived.Test.YtopcklnnkpjanaaWLaw16
namespace Go.Proofs.Ytopcklnnkpjanaa.Abs
open Go Go.RowKit
set_option linter.unusedVariables false
set_option linter.unusedSimpArgs false
set_option maxHeartbeats 4000000
theorem small_ok {l : List RpS} (h : smallI l = true) : l.length ≤ 60 ∧ ∀ x ∈ l, x.2.2.1.length ≤ 20 ∧ Val x.2.2.1 := by
  unfold smallI at h
  rw [Bool.and_eq_true, decide_eq_true_eq, List.all_eq_true] at h
  exact ⟨h.2, fun x hx => ok20_ok (h.1 x hx)⟩
theorem pplays_law (acc : Int) (v : V2) (l : List RpS) (hw0 : (Lit.int .u8 acc).wf = true) (hw1 : v.length ≤ 9223372036854775807 ∧ ∀ x ∈ v, (Lit.int .i64 x.1).wf = true ∧ (Lit.int .i64 x.2).wf = true)
    (hw2 : l.length ≤ 9223372036854775807 ∧ ∀ x ∈ l, (Lit.int .i64 x.1).wf = true ∧ (Lit.int .i64 x.2.1).wf = true ∧ (x.2.2.1.length ≤ 9223372036854775807 ∧ ∀ y ∈ x.2.2.1, (Lit.int .i64 y.1).wf = true ∧ (Lit.int .i64 y.2).wf = true) ∧ True) :
    Pure Try.prog 7 [.c (.sc (.int .u8 acc)), .c (encV v), .c (encRps l)] (.c (cB true)) := by
  refine pure_of teOk Try.func7 (by kernel_rfl) (c := _) rfl (N := 135) rfl (rs := [Go.ResultVar.tmp 6]) rfl (by simp) fun base A w0 hA => ?_
  refine AW.st teOk [] (by simp [-Option.some.injEq] <;> rfl) trivial ?_
  refine AW.mid (fun s => v.length ≤ 20 ∧ Val v ∧ smallI l = true ∧ s = ⟨[(0, .c (.sc (.int .u8 acc))), (1, .c (encV v)), (2, .c (encRps l))], [], 0⟩) ?_ ?_
  · by_cases h20 : v.length ≤ 20
    · have h20' : ¬ (20 : Int) < v.length := by omega
      by_cases h0 : valI v = 0
      · have hv := ok20_ok (v := v) (by simp [ok20, h20, h0])
        have ps := small_pure l hw2.1
        cases hs : smallI l with
        | true =>
          rw [hs] at ps
          refine AW.st teOk [.fz (.c (cI 0)), .fz (.c (cB true))] (by simp [h20', -Option.some.injEq] <;> rfl) ?_ ?_
          · exact ⟨h0 ▸ val_pure v (by omega), ps⟩
          refine AW.iff false (by simp) (fun h => by cases h) (fun _ => AW.skip ?_)
          exact ⟨_, Weak.normT hA [0, 1, 2] [] [] 0 _ (by simp) (by simp) (by simp), h20, hv.2, rfl, by simp⟩
        | false =>
          rw [hs] at ps
          refine AW.st teOk [.fz (.c (cI 0)), .fz (.c (cB false))] (by simp [h20', -Option.some.injEq] <;> rfl) ?_ ?_
          · exact ⟨h0 ▸ val_pure v (by omega), ps⟩
          refine AW.iff true (by simp) (fun _ => ?_) (fun h => by cases h)
          refine AW.st teOk [.fz (.c (cB true))] (by simp [-Option.some.injEq] <;> rfl) ?_ ?_
          · exact awake16_pure
          refine AW.ret ⟨.inr rfl, _, Weak.refl _, ?_⟩
          simp
      · have h0' : (valI v != 0) = true := by simpa using h0
        refine AW.st teOk [.fz (.c (cI (valI v)))] (by simp [h20', h0', -Option.some.injEq] <;> rfl) ?_ ?_
        · exact val_pure v (by omega)
        refine AW.iff true (by simp) (fun _ => ?_) (fun h => by cases h)
        refine AW.st teOk [.fz (.c (cB true))] (by simp [-Option.some.injEq] <;> rfl) ?_ ?_
        · exact awake16_pure
        refine AW.ret ⟨.inr rfl, _, Weak.refl _, ?_⟩
        simp
    · have h20' : (20 : Int) < v.length := by omega
      refine AW.st teOk [] (by simp [h20', -Option.some.injEq] <;> rfl) trivial ?_
      refine AW.iff true (by simp) (fun _ => ?_) (fun h => by cases h)
      refine AW.st teOk [.fz (.c (cB true))] (by simp [-Option.some.injEq] <;> rfl) ?_ ?_
      · exact awake16_pure
      refine AW.ret ⟨.inr rfl, _, Weak.refl _, ?_⟩
      simp
  rintro s ⟨h20, hv, hs, rfl⟩
  obtain ⟨h60, hall⟩ := small_ok hs
  refine AW.mid (fun s => ∃ n : Int, s = ⟨[(1, .c (encV v)), (2, .c (encRps l)), (7, .c (cI n))], [], 0⟩) ?_ ?_
  · refine AW.text teOk (ans := []) (by simp [-Option.some.injEq] <;> rfl) ?_ ?_
    · first | trivial | omega | (simp [allP, growOk] <;> omega)
    exact ⟨_, Weak.normT hA [1, 2, 7] [] [] 0 _ (by simp) (by simp) (by simp), _, by simp <;> rfl⟩
  rintro s ⟨n, rfl⟩
  have b0 := PrB.new n hv h20
  have q0 := pnew_pure n hv (by omega)
  refine AW.st teOk [.fz (.agg (encPr ⟨n, v, 1, [], false⟩))] (by simp [-Option.some.injEq] <;> rfl) ?_ ?_
  · exact q0
  refine AW.seq ?_
  refine AW.st teOk [] (by simp [-Option.some.injEq] <;> rfl) trivial ?_
  refine AW.weak (Weak.leP 9 _ ⟨5, [encPr ⟨n, v, 1, [], false⟩]⟩ (by simp <;> exact ⟨rfl, rfl, rfl⟩) (by simp <;> rfl) (by rfl) (by rfl) (by exact one_le (.cons (.refl _) (.cons (.refl _) (.cons (.refl _) (.cons (nil_cell 1) (.cons (.refl _) .nil))))))) ?_
  refine AW.block (AW.loop (fun m s => ∃ (i : Nat) (p : PrS), m = l.length - i ∧ i ≤ l.length ∧ PrB p (i + 1) ∧ s = ⟨[(2, .c (encRps l)), (8, .c (.ptr 0 0 0)), (9, .c (.ptr 1 0 0)), (10, .c (cI i))], [(1, ⟨5, [encPr p]⟩), (0, ⟨5, [encPr p]⟩)], 2⟩) _ (Weak.normT hA [2, 8, 9, 10] [(8, 0), (9, 1)] [] 2 _ (by simp) (by simp) (by simp)) ⟨0, ⟨n, v, 1, [], false⟩, rfl, Nat.zero_le _, b0, by simp⟩ ?_)
  rintro m s ⟨i, p, rfl, hi, hb, rfl⟩
  have hok := hb.ok (by omega)
  refine AW.seq ?_
  refine AW.st teOk [] (by simp [-Option.some.injEq] <;> rfl) trivial ?_
  refine AW.iff (decide (i < l.length)) (by simp) (fun h => AW.skip ?_) (fun h => AW.exit (x_then (x_then (blockA_exit ?_))))
  · rw [decide_eq_true_eq] at h
    obtain ⟨x, hx⟩ : ∃ x, l[i]? = some x := ⟨_, List.getElem?_eq_getElem h⟩
    obtain ⟨hxl, hxv⟩ := hall x (List.mem_of_getElem? hx)
    have psame := same16_pure hok
    refine AW.seq (AW.block ?_)
    refine AW.seq ?_
    refine AW.st teOk [.fz (.c (cB true))] (by simp [-Option.some.injEq] <;> rfl) ?_ ?_
    · exact psame
    refine AW.iff false (by simp) (fun h => by cases h) (fun _ => AW.skip ?_)
    refine AW.mid (fun s => s = ⟨[(2, .c (encRps l)), (8, .c (.ptr 0 0 0)), (9, .c (.ptr 1 0 0)), (10, .c (cI i))], [(1, ⟨5, [encPr p]⟩), (0, ⟨5, [encPr p]⟩)], 2⟩) ?_ ?_
    · refine AW.st teOk [] (by simp [hx, -Option.some.injEq] <;> rfl) ?_ ?_
      · first | trivial | omega | (simp [allP, growOk] <;> omega)
      obtain ⟨xa, xb, xv, xp⟩ := x
      cases xp with
      | true =>
        refine AW.iff true (by simp) (fun _ => ?_) (fun h => by cases h)
        have p1 := pprop_pure hok (v := xv) (by have : xv.length ≤ 20 := hxl; omega)
        have p2 := rprop_pure hok (v := xv) hxv (by have : xv.length ≤ 20 := hxl; omega)
        have hb2 := hb.prop hxv hxl
        dsimp only at hb2
        generalize propS p xv = p' at *
        refine AW.dr mixed teOk [.agg (encPr p'), .agg (encPr p')] (by simp [hx, -Option.some.injEq] <;> rfl) (by kernel_rfl) (by kernel_rfl) ?_ ?_
        · simp [allP]
          exact ⟨h, p1, h, p2⟩
        refine AW.exit (x_then (blockA_exit ?_))
        refine AW.text teOk (ans := []) (by simp [-Option.some.injEq] <;> rfl) ?_ ?_
        · trivial
        refine ⟨_, _, Weak.normT hA [2, 8, 9, 10] [(8, 0), (9, 1)] [] 2 _ (by simp) (by simp) (by simp), ?_, i + 1, p', rfl, h, hb2, ?_⟩
        · omega
        · simp
          exact wrap_s i (by omega)
      | false =>
        refine AW.iff false (by simp) (fun h => by cases h) (fun _ => AW.skip ?_)
        exact ⟨_, Weak.normT hA [2, 8, 9, 10] [(8, 0), (9, 1)] [] 2 _ (by simp) (by simp) (by simp), by simp⟩
    rintro s rfl
    refine AW.mid (fun s => ∃ r : Int, s = ⟨[(2, .c (encRps l)), (8, .c (.ptr 0 0 0)), (9, .c (.ptr 1 0 0)), (10, .c (cI i)), (11, .c (cI r))], [(1, ⟨5, [encPr p]⟩), (0, ⟨5, [encPr p]⟩)], 2⟩) ?_ ?_
    · refine AW.text teOk (ans := []) (by simp [-Option.some.injEq] <;> rfl) ?_ ?_
      · trivial
      exact ⟨_, Weak.normT hA [2, 8, 9, 10, 11] [(8, 0), (9, 1)] [] 2 _ (by simp) (by simp) (by simp), p.r, by simp⟩
    rintro s ⟨r, rfl⟩
    refine AW.mid (fun s => ∃ r : Int, s = ⟨[(2, .c (encRps l)), (8, .c (.ptr 0 0 0)), (9, .c (.ptr 1 0 0)), (10, .c (cI i)), (11, .c (cI r))], [(1, ⟨5, [encPr p]⟩), (0, ⟨5, [encPr p]⟩)], 2⟩) ?_ ?_
    · by_cases h1 : x.2.1 > 0
      · have h1' : (0 : Int) < x.2.1 := h1
        refine AW.st teOk [] (by simp [hx, h1', -Option.some.injEq] <;> rfl) ?_ ?_
        · first | trivial | omega | (simp [allP, growOk] <;> omega)
        by_cases h2 : x.2.1 < 5
        · refine AW.iff true (by simp [h2]) (fun _ => ?_) (fun h => by cases h)
          refine AW.text teOk (ans := []) (by simp [hx, -Option.some.injEq] <;> rfl) ?_ ?_
          · first | trivial | omega | (simp [allP, growOk] <;> omega)
          exact ⟨_, Weak.normT hA [2, 8, 9, 10, 11] [(8, 0), (9, 1)] [] 2 _ (by simp) (by simp) (by simp), _, by simp <;> rfl⟩
        · refine AW.iff false (by simp; omega) (fun h => by cases h) (fun _ => AW.skip ?_)
          exact ⟨_, Weak.normT hA [2, 8, 9, 10, 11] [(8, 0), (9, 1)] [] 2 _ (by simp) (by simp) (by simp), r, by simp⟩
      · have h1' : ¬ (0 : Int) < x.2.1 := h1
        refine AW.st teOk [] (by simp [hx, h1', -Option.some.injEq] <;> rfl) ?_ ?_
        · first | trivial | omega | (simp [allP, growOk] <;> omega)
        refine AW.iff false (by simp) (fun h => by cases h) (fun _ => AW.skip ?_)
        exact ⟨_, Weak.normT hA [2, 8, 9, 10, 11] [(8, 0), (9, 1)] [] 2 _ (by simp) (by simp) (by simp), r, by simp⟩
    rintro s ⟨r, rfl⟩
    have p1 := precv_pure hok x.1 r (v := x.2.2.1) (by omega)
    have p2 := rrecv_pure hok x.1 r hxv (by omega)
    have hb2 := hb.recv x.1 r hxv hxl
    obtain ⟨⟨p', again⟩, hp'⟩ : ∃ z, z = recvS p x.1 r x.2.2.1 := ⟨_, rfl⟩
    rw [← hp'] at p1 p2 hb2
    dsimp only at p1 p2 hb2
    refine AW.dr mixed teOk [.tup [.agg (encPr p'), .c (cB again)]] (by simp [hx, -Option.some.injEq] <;> rfl) (by kernel_rfl) (by kernel_rfl) ?_ ?_
    · simp [allP]
      exact ⟨h, p1⟩
    refine AW.dr mixed teOk [.tup [.agg (encPr p'), .c (cB again)]] (by simp [hx, -Option.some.injEq] <;> rfl) (by kernel_rfl) (by kernel_rfl) ?_ ?_
    · simp [allP]
      exact ⟨h, p2⟩
    refine AW.seq ?_
    refine AW.st teOk [] (by simp [-Option.some.injEq] <;> rfl) trivial ?_
    refine AW.iff false (by simp) (fun h => by cases h) (fun _ => AW.skip ?_)
    refine AW.draw mixed teOk (ans := []) (by simp [-Option.some.injEq] <;> rfl) (by kernel_rfl) (by kernel_rfl) ?_ ?_
    · simp [allP]
    refine AW.text teOk (ans := []) (by simp [-Option.some.injEq] <;> rfl) ?_ ?_
    · trivial
    refine ⟨_, _, Weak.normT hA [2, 8, 9, 10] [(8, 0), (9, 1)] [] 2 _ (by simp) (by simp) (by simp), ?_, i + 1, p', rfl, h, hb2, ?_⟩
    · omega
    · simp
      exact wrap_s i (by omega)
  · refine AW.st teOk [.fz (.c (cB true)), .fz (.c (cB true))] (by simp [-Option.some.injEq] <;> rfl) ?_ ?_
    · exact ⟨same16_pure hok, awake16_pure⟩
    refine AW.ret ⟨.inr rfl, _, Weak.refl _, ?_⟩
    simp
end Go.Proofs.Ytopcklnnkpjanaa.Abs
