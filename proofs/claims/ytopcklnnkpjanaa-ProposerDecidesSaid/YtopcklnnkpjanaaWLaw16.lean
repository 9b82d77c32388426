/- The proposers' laws: their helpers. -/
import Derived.Test.YtopcklnnkpjanaaWProp3
namespace Go.Proofs.Ytopcklnnkpjanaa.Abs
open Go Go.RowKit
set_option linter.unusedVariables false
set_option linter.unusedSimpArgs false
set_option maxHeartbeats 4000000
abbrev RpS := Int × Int × V2 × Bool
@[simp] def encRp (x : RpS) : List Cell := [cI x.1, cI x.2.1, encV x.2.2.1, cB x.2.2.2]
abbrev encRps (l : List RpS) : Cell := .row 4 false (l.map encRp)
def ok20 (v : V2) : Bool := decide (v.length ≤ 20) && (valI v == 0)
theorem ok20_ok {v : V2} (h : ok20 v = true) : v.length ≤ 20 ∧ Val v := by
  unfold ok20 at h
  rw [Bool.and_eq_true, decide_eq_true_eq, beq_iff_eq] at h
  obtain ⟨h1, h2, _⟩ := valGo_ok v none h.2
  exact ⟨h.1, val_of h1 h2⟩
def smallI (l : List RpS) : Bool := l.all (fun x => ok20 x.2.2.1) && decide (l.length ≤ 60)
theorem small_pure (l : List RpS) (hl : l.length ≤ 9223372036854775807) : Pure Try.prog 28 [.c (encRps l)] (.c (cB (smallI l))) := by
  refine pure_of teOk Try.func28 (by kernel_rfl) (c := _) rfl (N := 29) rfl (rs := [Go.ResultVar.tmp 2]) rfl (by simp) fun base A w0 hA => ?_
  refine AW.st teOk [] (by simp [-Option.some.injEq] <;> rfl) trivial ?_
  refine AW.seq ?_
  refine AW.st teOk [] (by simp [-Option.some.injEq] <;> rfl) trivial ?_
  refine AW.block (AW.loop (fun m s => ∃ j : Nat, m = l.length - j ∧ j ≤ l.length ∧ l.all (fun x => ok20 x.2.2.1) = (l.drop j).all (fun x => ok20 x.2.2.1) ∧ s = ⟨[(0, .c (encRps l)), (3, .c (cI j))], [], 0⟩) _ (Weak.normT hA [0, 3] [] [] 0 _ (by simp) (by simp) (by simp)) ⟨0, rfl, Nat.zero_le _, rfl, by simp⟩ ?_)
  rintro m s ⟨j, rfl, hj, hd, rfl⟩
  refine AW.seq ?_
  refine AW.st teOk [] (by simp [-Option.some.injEq] <;> rfl) trivial ?_
  refine AW.iff (decide (j < l.length)) (by simp) (fun h => AW.skip ?_) (fun h => AW.exit (x_then (x_then (blockA_exit ?_))))
  · rw [decide_eq_true_eq] at h
    obtain ⟨x, hx⟩ : ∃ x, l[j]? = some x := ⟨_, List.getElem?_eq_getElem h⟩
    have he : l.drop j = x :: l.drop (j + 1) := by
      rw [List.drop_eq_getElem_cons h, (List.getElem?_eq_some_iff.1 hx).2]
    rw [he, List.all_cons] at hd
    refine AW.seq (AW.block ?_)
    by_cases h20 : x.2.2.1.length ≤ 20
    · have h20' : ¬ (20 : Int) < x.2.2.1.length := by omega
      refine AW.st teOk [.fz (.c (cI (valI x.2.2.1)))] (by simp [hx, h20', -Option.some.injEq] <;> rfl) ?_ ?_
      · exact ⟨by simpa using h, val_pure x.2.2.1 (by omega)⟩
      by_cases h0 : valI x.2.2.1 = 0
      · refine AW.iff false (by simp [h0]) (fun h => by cases h) (fun _ => AW.skip ?_)
        refine AW.text teOk (ans := []) (by simp [-Option.some.injEq] <;> rfl) ?_ ?_
        · trivial
        refine ⟨_, _, Weak.normT hA [0, 3] [] [] 0 _ (by simp) (by simp) (by simp), ?_, j + 1, rfl, h, ?_, ?_⟩
        · omega
        · rw [hd]; simp [ok20, h20, h0]
        · simp
          exact wrap_s j (by omega)
      · refine AW.iff true (by simp [h0]) (fun _ => ?_) (fun h => by cases h)
        refine AW.st teOk [] (by simp [-Option.some.injEq] <;> rfl) trivial ?_
        refine AW.ret ⟨.inr rfl, _, Weak.refl _, ?_⟩
        rw [smallI, hd]
        simp [ok20, h0]
    · have h20' : (20 : Int) < x.2.2.1.length := by omega
      refine AW.st teOk [] (by simp [hx, h20', -Option.some.injEq] <;> rfl) ?_ ?_
      · first | trivial | omega | (simp [allP, growOk] <;> omega)
      refine AW.iff true (by simp) (fun _ => ?_) (fun h => by cases h)
      refine AW.st teOk [] (by simp [-Option.some.injEq] <;> rfl) trivial ?_
      refine AW.ret ⟨.inr rfl, _, Weak.refl _, ?_⟩
      rw [smallI, hd]
      simp [ok20, h20]
  · rw [decide_eq_false_iff_not] at h
    rw [List.drop_eq_nil_of_le (by omega)] at hd
    refine AW.st teOk [] (by simp [-Option.some.injEq] <;> rfl) trivial ?_
    refine AW.ret ⟨.inr rfl, _, Weak.refl _, ?_⟩
    rw [smallI, hd]
    simp
    omega
theorem same16_pure {p : PrS} (h : PrOk p) : Pure Try.prog 31 [.agg (encPr p), .agg (encPr p)] (.c (cB true)) := by
  have h1 := eqVec_pure p.v p.v (by have := h.vl; omega)
  have h2 := eqInts_pure p.acks p.acks (by have := h.al; omega)
  simp at h1 h2
  obtain ⟨n, pv, pr, acks, dec⟩ := p
  refine pure_of teOk Try.func31 (by kernel_rfl) (c := _) rfl (N := 38) rfl (rs := [Go.ResultVar.tmp 4]) rfl (by simp) fun base A w0 hA => ?_
  refine AW.st teOk [] (by simp [-Option.some.injEq] <;> rfl) trivial ?_
  refine AW.st teOk [.fz (.c (cB true)), .fz (.c (cB true))] (by simp [-Option.some.injEq] <;> rfl) ?_ ?_
  · exact ⟨h1, h2⟩
  refine AW.ret ⟨.inr rfl, _, Weak.refl _, ?_⟩
  simp
theorem val1 : Val [((1 : Int), (1 : Int))] := val_of (fun e he => by simp at he; subst he; decide) (by simp [Asc])
theorem val12 : Val [((1 : Int), (1 : Int)), (2, 1)] := val_of (fun e he => by simp at he; rcases he with rfl | rfl <;> decide) (by simp [Asc])
theorem val3 : Val [((3 : Int), (1 : Int))] := val_of (fun e he => by simp at he; subst he; decide) (by simp [Asc])
theorem tight (es : List (List Cell)) : LeV (.c (.row 2 true es)) (.c (.row 2 false es)) := .c (.loose 2 true es)
theorem awake16_pure : Pure Try.prog 29 [] (.c (cB true)) := by
  have b1 := PrB.new 3 val1 (by decide)
  have e1 : recvS (newS 3 [(1, 1)]) 0 1 [(1, 1), (2, 1)] = (⟨3, [(1, 1), (2, 1)], 2, [], false⟩, true) := by simp [recvS, newS, nextS, leI, countI, mergeI, consP, boundI]
  have b2 := b1.recv 0 1 val12 (by decide)
  have q1 := (precv_pure (b1.ok (by decide)) 0 1 (v := [(1, 1), (2, 1)]) (by decide))
  rw [e1] at b2 q1
  have e2 : recvS ⟨3, [(1, 1), (2, 1)], 2, [], false⟩ 0 2 [(1, 1), (2, 1)] = (⟨3, [(1, 1), (2, 1)], 2, [0], false⟩, false) := by simp [recvS, leI, countI, insN, hasN, posN]
  have b3 := b2.recv 0 2 val12 (by decide)
  have q2 := (precv_pure (b2.ok (by decide)) 0 2 (v := [(1, 1), (2, 1)]) (by decide))
  rw [e2] at b3 q2
  have e3 : recvS ⟨3, [(1, 1), (2, 1)], 2, [0], false⟩ 2 2 [(1, 1), (2, 1)] = (⟨3, [(1, 1), (2, 1)], 2, [0, 2], true⟩, false) := by simp [recvS, leI, countI, insN, hasN, posN]
  have b4 := b3.recv 2 2 val12 (by decide)
  have q3 := (precv_pure (b3.ok (by decide)) 2 2 (v := [(1, 1), (2, 1)]) (by decide))
  rw [e3] at b4 q3
  have e4 : propS ⟨3, [(1, 1), (2, 1)], 2, [0, 2], true⟩ [(3, 1)] = ⟨3, [(1, 1), (2, 1), (3, 1)], 3, [], false⟩ := by simp [propS, nextS, mergeI, consP, boundI]
  have q4 := (pprop_pure (b4.ok (by decide)) (v := [(3, 1)]) (by decide))
  rw [e4] at q4
  have q0 := pnew_pure 3 val1 (by decide)
  refine pure_of teOk Try.func29 (by kernel_rfl) (c := _) rfl (N := 83) rfl (rs := [Go.ResultVar.tmp 0]) rfl (by simp) fun base A w0 hA => ?_
  refine AW.st teOk [] (by simp [-Option.some.injEq] <;> rfl) trivial ?_
  refine AW.st teOk [.fz (.agg (encPr ⟨3, [(1, 1)], 1, [], false⟩))] (by simp [-Option.some.injEq] <;> rfl) ?_ ?_
  · exact q0.le (.cons (.refl _) (.cons (tight _) .nil)) (.refl _)
  refine AW.st teOk [.fz (.tup [.agg (encPr ⟨3, [(1, 1), (2, 1)], 2, [], false⟩), .c (cB true)])] (by simp [-Option.some.injEq] <;> rfl) ?_ ?_
  · exact q1.le (.cons (.refl _) (.cons (.refl _) (.cons (.refl _) (.cons (tight _) .nil)))) (.refl _)
  refine AW.st teOk [.fz (.tup [.agg (encPr ⟨3, [(1, 1), (2, 1)], 2, [0], false⟩), .c (cB false)])] (by simp [-Option.some.injEq] <;> rfl) ?_ ?_
  · exact q2
  refine AW.st teOk [.fz (.tup [.agg (encPr ⟨3, [(1, 1), (2, 1)], 2, [0, 2], true⟩), .c (cB false)])] (by simp [-Option.some.injEq] <;> rfl) ?_ ?_
  · exact q3
  refine AW.st teOk [.fz (.agg (encPr ⟨3, [(1, 1), (2, 1), (3, 1)], 3, [], false⟩))] (by simp [-Option.some.injEq] <;> rfl) ?_ ?_
  · exact q4.le (.cons (.refl _) (.cons (tight _) .nil)) (.refl _)
  refine AW.st teOk [] (by simp [-Option.some.injEq] <;> rfl) trivial ?_
  refine AW.ret ⟨.inr rfl, _, Weak.refl _, ?_⟩
  simp
end Go.Proofs.Ytopcklnnkpjanaa.Abs
