/- ProposerRounds. -/
import Derived.Test.YtopcklnnkpjanaaWPlays16
namespace Go.Proofs.Ytopcklnnkpjanaa.Abs
open Go Go.RowKit
set_option linter.unusedVariables false
set_option linter.unusedSimpArgs false
set_option maxHeartbeats 4000000
theorem leI_cnt {u v : V2} (hu : Val u) (hv : Val v) : leI u v = true ↔ ∀ x, cnt u x ≤ cnt v x := by
  rw [leI_iff]
  constructor
  · intro h x
    by_cases hx : ∃ e ∈ u, e.1 = x
    · obtain ⟨e, he, rfl⟩ := hx
      rw [cnt_mem hu.2 he]
      exact h e he
    · rw [cnt_zero fun q hq => fun hqx => hx ⟨q, hq, hqx⟩]
      exact (cnt_range (a := x) hv.1).1
  · intro h e he
    have := h e.1
    rwa [cnt_mem hu.2 he] at this
theorem leI_refl {u : V2} (hu : Val u) : leI u u = true := (leI_cnt hu hu).2 fun x => Int.le_refl _
theorem leI_merge {u v : V2} (hu : Val u) (hv : Val v) : leI u (mergeI true u v) = true := by
  have m := mrg_is true hu hv
  rw [leI_cnt hu m.val]
  intro x
  rw [m.cnt, bndT]
  split <;> omega
theorem leI_merge' {u v : V2} (hu : Val u) (hv : Val v) : leI v (mergeI true u v) = true := by
  have m := mrg_is true hu hv
  rw [leI_cnt hv m.val]
  intro x
  rw [m.cnt, bndT]
  split <;> omega
theorem recv_facts {p : PrS} {k : Nat} (h : PrB p k) (a r : Int) {v : V2} (hv : Val v) :
    ((recvS p a r v).2 = false → (recvS p a r v).1.v = p.v ∧ (recvS p a r v).1.r = p.r) ∧
    ((recvS p a r v).2 = true → (recvS p a r v).1.v ≠ p.v ∧ leI p.v (recvS p a r v).1.v = true ∧ (recvS p a r v).1.r = p.r + 1 ∧ (recvS p a r v).1.acks = []) := by
  unfold recvS
  split
  · exact ⟨fun _ => ⟨rfl, rfl⟩, (fun h => by cases h)⟩
  · split
    · exact ⟨fun _ => ⟨rfl, rfl⟩, (fun h => by cases h)⟩
    · rename_i hle
      refine ⟨(fun h => by cases h), fun _ => ⟨fun he => hle ?_, leI_merge h.v hv, rfl, rfl⟩⟩
      have := leI_merge' h.v hv
      rwa [show mergeI true p.v v = p.v from he] at this
theorem prounds_law (acc : Int) (v : V2) (l : List RpS) (hw0 : (Lit.int .u8 acc).wf = true) (hw1 : v.length ≤ 9223372036854775807 ∧ ∀ x ∈ v, (Lit.int .i64 x.1).wf = true ∧ (Lit.int .i64 x.2).wf = true)
    (hw2 : l.length ≤ 9223372036854775807 ∧ ∀ x ∈ l, (Lit.int .i64 x.1).wf = true ∧ (Lit.int .i64 x.2.1).wf = true ∧ (x.2.2.1.length ≤ 9223372036854775807 ∧ ∀ y ∈ x.2.2.1, (Lit.int .i64 y.1).wf = true ∧ (Lit.int .i64 y.2).wf = true) ∧ True) :
    Pure Try.prog 9 [.c (.sc (.int .u8 acc)), .c (encV v), .c (encRps l)] (.c (cB true)) := by
  refine pure_of teOk Try.func9 (by kernel_rfl) (c := _) rfl (N := 104) rfl (rs := [Go.ResultVar.tmp 6]) rfl (by simp) fun base A w0 hA => ?_
  refine AW.st teOk [] (by simp [-Option.some.injEq] <;> rfl) trivial ?_
  refine AW.mid (fun s => v.length ≤ 20 ∧ Val v ∧ smallI l = true ∧ s = ⟨[(0, .c (.sc (.int .u8 acc))), (1, .c (encV v)), (2, .c (encRps l))], [], 0⟩) ?_ ?_
  · by_cases h20 : v.length ≤ 20
    · have h20' : ¬ (20 : Int) < v.length := by omega
      by_cases h0 : valI v = 0
      · have hv := ok20_ok (v := v) (by simp [ok20, h20, h0])
        have ps := small_pure l hw2.1
        cases hs : smallI l with
        | true =>
          rw [hs] at ps
          refine AW.st teOk [.fz (.c (cI 0)), .fz (.c (cB true))] (by simp [h20', -Option.some.injEq] <;> rfl) ?_ ?_
          · exact ⟨h0 ▸ val_pure v (by omega), ps⟩
          refine AW.iff false (by simp) (fun h => by cases h) (fun _ => AW.skip ?_)
          exact ⟨_, Weak.normT hA [0, 1, 2] [] [] 0 _ (by simp) (by simp) (by simp), h20, hv.2, rfl, by simp⟩
        | false =>
          rw [hs] at ps
          refine AW.st teOk [.fz (.c (cI 0)), .fz (.c (cB false))] (by simp [h20', -Option.some.injEq] <;> rfl) ?_ ?_
          · exact ⟨h0 ▸ val_pure v (by omega), ps⟩
          refine AW.iff true (by simp) (fun _ => ?_) (fun h => by cases h)
          refine AW.st teOk [.fz (.c (cB true))] (by simp [-Option.some.injEq] <;> rfl) ?_ ?_
          · exact awake16_pure
          refine AW.ret ⟨.inr rfl, _, Weak.refl _, ?_⟩
          simp
      · have h0' : (valI v != 0) = true := by simpa using h0
        refine AW.st teOk [.fz (.c (cI (valI v)))] (by simp [h20', h0', -Option.some.injEq] <;> rfl) ?_ ?_
        · exact val_pure v (by omega)
        refine AW.iff true (by simp) (fun _ => ?_) (fun h => by cases h)
        refine AW.st teOk [.fz (.c (cB true))] (by simp [-Option.some.injEq] <;> rfl) ?_ ?_
        · exact awake16_pure
        refine AW.ret ⟨.inr rfl, _, Weak.refl _, ?_⟩
        simp
    · have h20' : (20 : Int) < v.length := by omega
      refine AW.st teOk [] (by simp [h20', -Option.some.injEq] <;> rfl) trivial ?_
      refine AW.iff true (by simp) (fun _ => ?_) (fun h => by cases h)
      refine AW.st teOk [.fz (.c (cB true))] (by simp [-Option.some.injEq] <;> rfl) ?_ ?_
      · exact awake16_pure
      refine AW.ret ⟨.inr rfl, _, Weak.refl _, ?_⟩
      simp
  rintro s ⟨h20, hv, hs, rfl⟩
  obtain ⟨h60, hall⟩ := small_ok hs
  obtain ⟨n, hn⟩ : ∃ n : Int, IntKind.i64.wrap (1 + Int.tmod (IntKind.i64.wrap acc) 12) = n := ⟨_, rfl⟩
  have b0 := PrB.new n hv h20
  have q0 := pnew_pure n hv (by omega)
  refine AW.st teOk [.fz (.agg (encPr ⟨n, v, 1, [], false⟩))] (by simp [hn, -Option.some.injEq] <;> rfl) ?_ ?_
  · exact q0
  refine AW.seq ?_
  refine AW.st teOk [] (by simp [-Option.some.injEq] <;> rfl) trivial ?_
  refine AW.block (AW.loop (fun m s => ∃ (i : Nat) (p : PrS), m = l.length - i ∧ i ≤ l.length ∧ PrB p (i + 1) ∧ s = ⟨[(2, .c (encRps l)), (7, .c (.ptr 0 0 0)), (8, .c (cI i))], [(0, ⟨5, [encPr p]⟩)], 1⟩) _ (Weak.normT hA [2, 7, 8] [(7, 0)] [] 1 _ (by simp) (by simp) (by simp)) ⟨0, ⟨n, v, 1, [], false⟩, rfl, Nat.zero_le _, b0, by simp⟩ ?_)
  rintro m s ⟨i, p, rfl, hi, hb, rfl⟩
  have hok := hb.ok (by omega)
  refine AW.seq ?_
  refine AW.st teOk [] (by simp [-Option.some.injEq] <;> rfl) trivial ?_
  refine AW.iff (decide (i < l.length)) (by simp) (fun h => AW.skip ?_) (fun h => AW.exit (x_then (x_then (blockA_exit ?_))))
  · rw [decide_eq_true_eq] at h
    obtain ⟨x, hx⟩ : ∃ x, l[i]? = some x := ⟨_, List.getElem?_eq_getElem h⟩
    obtain ⟨hxl, hxv⟩ := hall x (List.mem_of_getElem? hx)
    refine AW.seq (AW.block ?_)
    have p1 := precv_pure hok x.1 p.r (v := x.2.2.1) (by omega)
    have hb2 := hb.recv x.1 p.r hxv hxl
    have hf := recv_facts hb x.1 p.r hxv
    obtain ⟨⟨p', again⟩, hp'⟩ : ∃ z, z = recvS p x.1 p.r x.2.2.1 := ⟨_, rfl⟩
    rw [← hp'] at p1 hb2 hf
    dsimp only at p1 hb2 hf
    have hok2 := hb2.ok (by omega)
    have h11 := add_one p.r hok.r
    have e1 := eqVec_pure p'.v p.v (by have := hok2.vl; omega)
    have e2 := rle_pure p.v p'.v (by have := hok.vl; omega) (by have := hok2.vl; omega)
    refine AW.dr mixed teOk [.tup [.agg (encPr p'), .c (cB again)]] (by simp [hx, -Option.some.injEq] <;> rfl) (by kernel_rfl) (by kernel_rfl) ?_ ?_
    · simp [allP]
      exact ⟨h, p1⟩
    cases again with
    | false =>
      obtain ⟨f1, f2⟩ := hf.1 rfl
      rw [f1] at e1 e2
      rw [leI_refl hb.v] at e2
      simp only [decide_true] at e1
      refine AW.st teOk [.fz (.c (cB true))] (by simp [f1, -Option.some.injEq] <;> rfl) ?_ ?_
      · exact e1
      refine AW.seq ?_
      have hne : (p.r == p.r + 1) = false := by simp; omega
      refine AW.st teOk [.fz (.c (cB true))] (by simp [f1, f2, h11, hne, -Option.some.injEq] <;> rfl) ?_ ?_
      · exact e2
      refine AW.iff false (by simp) (fun h => by cases h) (fun _ => AW.skip ?_)
      refine AW.text teOk (ans := []) (by simp [-Option.some.injEq] <;> rfl) ?_ ?_
      · trivial
      refine AW.text teOk (ans := []) (by simp [-Option.some.injEq] <;> rfl) ?_ ?_
      · trivial
      refine ⟨_, _, Weak.normT hA [2, 7, 8] [(7, 0)] [] 1 _ (by simp) (by simp) (by simp), ?_, i + 1, p', rfl, h, hb2, ?_⟩
      · omega
      · simp [f1, f2]
        exact wrap_s i (by omega)
    | true =>
      obtain ⟨f1, f2, f3, f4⟩ := hf.2 rfl
      rw [f2] at e2
      rw [decide_eq_false f1] at e1
      refine AW.st teOk [.fz (.c (cB false))] (by simp [-Option.some.injEq] <;> rfl) ?_ ?_
      · exact e1
      refine AW.seq ?_
      refine AW.st teOk [.fz (.c (cB true))] (by simp [f3, f4, h11, -Option.some.injEq] <;> rfl) ?_ ?_
      · exact e2
      refine AW.iff false (by simp) (fun h => by cases h) (fun _ => AW.skip ?_)
      refine AW.text teOk (ans := []) (by simp [-Option.some.injEq] <;> rfl) ?_ ?_
      · trivial
      refine AW.text teOk (ans := []) (by simp [-Option.some.injEq] <;> rfl) ?_ ?_
      · trivial
      refine ⟨_, _, Weak.normT hA [2, 7, 8] [(7, 0)] [] 1 _ (by simp) (by simp) (by simp), ?_, i + 1, p', rfl, h, hb2, ?_⟩
      · omega
      · simp [f3, f4]
        exact wrap_s i (by omega)
  · refine AW.st teOk [.fz (.c (cB true))] (by simp [-Option.some.injEq] <;> rfl) ?_ ?_
    · exact awake16_pure
    refine AW.ret ⟨.inr rfl, _, Weak.refl _, ?_⟩
    simp
end Go.Proofs.Ytopcklnnkpjanaa.Abs
