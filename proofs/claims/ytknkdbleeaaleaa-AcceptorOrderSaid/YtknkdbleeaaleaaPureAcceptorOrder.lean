import Derived.Test.YtknkdbleeaaleaaStmtAcceptorOrder
import Derived.Test.YtknkdbleeaaleaaAcc
namespace Go.Proofs.Ytknkdbleeaaleaa.Pure
open Go.RowKit Go.Proofs.Ytknkdbleeaaleaa.Print Go.Proofs.YtknkdbleeaaleaaW.PrintWords Go.Proofs.YtknkdbleeaaleaaW.PrintLast Go.Proofs.YtknkdbleeaaleaaW.PrintMore
theorem rdB' {xs : List Bool} {i : Nat} (h : i < xs.length) : rdOf false xs (i : Int) = xs[i] := by
  unfold rdOf
  simp [List.getD_eq_getElem?_getD, h]
theorem accV_up : ∀ {vs : List (List S69)} {a : List S69}, Val a → (∀ v ∈ vs, Val v) → le a (accV a vs) = true
  | [], _, ha, _ => le_refl' ha
  | v :: vs, a, ha, hs => by
    have hv := hs v (by simp)
    have hs' : ∀ x ∈ vs, Val x := fun x hx => hs x (by simp [hx])
    exact le_trans' ha (jval ha hv) (accV_val (vs := vs) (jval ha hv) hs') (le_jl ha hv) (accV_up (vs := vs) (jval ha hv) hs')
theorem accR_at : ∀ {vs : List (List S69)} {a : List S69} {i : Nat} (hi : i < vs.length), (accR a vs)[i]'(by rw [accR_len]; exact hi) = le (accV a (vs.take i)) vs[i]
  | v :: vs, a, 0, _ => rfl
  | v :: vs, a, i + 1, hi => accR_at (vs := vs) (a := mrg true a v) (i := i) (by simp at hi; omega)
theorem accV_has : ∀ {vs : List (List S69)} {a : List S69} {k : Nat}, Val a → (∀ v ∈ vs, Val v) → (hk : k < vs.length) → le vs[k] (accV a vs) = true
  | v :: vs, a, 0, ha, hs, _ => by
    have hv := hs v (by simp)
    have hs' : ∀ x ∈ vs, Val x := fun x hx => hs x (by simp [hx])
    exact le_trans' hv (jval ha hv) (accV_val (vs := vs) (jval ha hv) hs') (le_jr ha hv) (accV_up (vs := vs) (jval ha hv) hs')
  | v :: vs, a, k + 1, ha, hs, hk => accV_has (vs := vs) (k := k) (jval ha (hs v (by simp))) (fun x hx => hs x (by simp [hx])) (by simp at hk; omega)
theorem ord {vs : List (List S69)} {a : List S69} (ha : Val a) (hs : ∀ v ∈ vs, Val v) {i k : Nat} (hk : k < i) (hi : i < vs.length) (h : (accR a vs)[i]'(by rw [accR_len]; exact hi) = true) : le (vs[k]'(by omega)) vs[i] = true := by
  rw [accR_at hi] at h
  have ht : ∀ x ∈ vs.take i, Val x := fun x hx => hs x (List.mem_of_mem_take hx)
  have h1 := accV_has (vs := vs.take i) (k := k) ha ht (by rw [List.length_take]; omega)
  rw [List.getElem_take] at h1
  exact le_trans' (hs _ (List.getElem_mem _)) (accV_val ha ht) (hs _ (List.getElem_mem _)) h1 h
theorem ord_l1 (vs : List (List S69)) (a : List S69) (ha : Val a) (hv : ∀ v ∈ vs, Val v ∧ v.length ≤ 30) (hl : vs.length ≤ 40) (i : Nat) (hi : i < vs.length) (H : Ev (fun k => elasticstorelaw15_AcceptorOrder.l0 k vs (accR a vs) ((i + 1 : Nat) : Int)) true) : ∀ (n j : Nat), j + n = i →
    Ev (fun k => elasticstorelaw15_AcceptorOrder.l1 k vs (accR a vs) (i : Int) (j : Int)) true := by
  have hR := accR_len vs a
  intro n
  induction n with
  | zero =>
    intro j hj
    refine Ev.suc (Ev.congr (fun k => ?_) H)
    rw [elasticstorelaw15_AcceptorOrder.l1, if_neg (by omega), wS63 i (by omega)]
  | succ n ih =>
    intro j hj
    have hx := ih (j + 1) (by omega)
    have h1 := (hv vs[i] (List.getElem_mem hi)).2
    have h2 := (hv (vs[j]'(by omega)) (List.getElem_mem (by omega))).2
    by_cases c1 : (accR a vs)[i] = true
    · by_cases c2 : (accR a vs)[j] = true
      · refine Ev.suc (Ev.congr (fun k => ?_) (Ev.bind ((rle_is (vs[j]'(by omega)) vs[i] (by omega) (by omega)).val (ord ha (fun v h => (hv v h).1) (by omega) hi c1)) (G := fun t k => if t = true then (elasticstorelaw15_AcceptorOrder.l1 k vs (accR a vs) (i : Int) ((j + 1 : Nat) : Int)) else (some false)) (Ev.congr (fun k => if_pos rfl) hx)))
        rw [elasticstorelaw15_AcceptorOrder.l1, if_pos (by omega), if_pos (by omega), if_pos (by omega), rdB' (by omega), if_pos c1, if_pos (by omega), if_pos (by omega), rdB' (by omega), if_pos c2, if_pos (by omega), if_pos (by omega), rdL (by omega), rdL (by omega), wS63 j (by omega)]
      · refine Ev.suc (Ev.congr (fun k => ?_) hx)
        rw [elasticstorelaw15_AcceptorOrder.l1, if_pos (by omega), if_pos (by omega), if_pos (by omega), rdB' (by omega), if_pos c1, if_pos (by omega), if_pos (by omega), rdB' (by omega), if_neg c2, wS63 j (by omega)]
    · refine Ev.suc (Ev.congr (fun k => ?_) hx)
      rw [elasticstorelaw15_AcceptorOrder.l1, if_pos (by omega), if_pos (by omega), if_pos (by omega), rdB' (by omega), if_neg c1, wS63 j (by omega)]
theorem ord_l0 (vs : List (List S69)) (a : List S69) (ha : Val a) (hv : ∀ v ∈ vs, Val v ∧ v.length ≤ 30) (hl : vs.length ≤ 40) : ∀ (n i : Nat), i + n = vs.length →
    Ev (fun k => elasticstorelaw15_AcceptorOrder.l0 k vs (accR a vs) (i : Int)) true := by
  have hR := accR_len vs a
  intro n
  induction n with
  | zero =>
    intro i hi
    refine Ev.suc (Ev.congr (fun k => ?_) awake15_end)
    rw [elasticstorelaw15_AcceptorOrder.l0, if_neg (by omega)]
  | succ n ih =>
    intro i hi
    refine Ev.suc (Ev.congr (fun k => ?_) (ord_l1 vs a ha hv hl i (by omega) (ih (i + 1) (by omega)) i 0 (by omega)))
    rw [elasticstorelaw15_AcceptorOrder.l0, if_pos (by omega)]
    rfl
theorem AcceptorOrder : AcceptorOrder.Pure := by
  intro a vs _ hvs
  refine Ev.done' (F := fun k => elasticstorelaw15_AcceptorOrder.f k a vs) ?_
  have out : Ev (fun k => elasticstorelaw15_AcceptorOrder.j0 k vs true a) true := Ev.suc (Ev.congr (fun k => by rw [elasticstorelaw15_AcceptorOrder.j0, if_pos rfl]) awake15_end)
  refine Ev.bind (valid15_is vs hvs.1) ?_
  by_cases h : (ok15 vs && decide (vs.length ≤ 40)) = true
  · refine Ev.congr (fun k => if_pos h) ?_
    refine Ev.bind (valid15_is [a] (by simp)) ?_
    have hb := Bool.and_eq_true_iff.1 h
    have hm := ok15_mem hb.1
    have hl : vs.length ≤ 40 := of_decide_eq_true hb.2
    by_cases h2 : (ok15 [a] && decide ([a].length ≤ 40)) = true
    · rw [h2]
      obtain ⟨ha, la⟩ := ok15_mem (Bool.and_eq_true_iff.1 h2).1 a (by simp)
      refine Ev.suc (Ev.congr (fun k => ?_) (Ev.bind (acceptAll_is a vs 30 ha (by omega) hm (by omega) (by omega)) (G := fun t k => (if (t.2.length : Int) = (vs.length : Int) then (elasticstorelaw15_AcceptorOrder.l0 k vs t.2 0) else (some false))) ?_))
      · rw [elasticstorelaw15_AcceptorOrder.j0, if_neg (by simp)]
      · refine Ev.congr (fun k => if_pos (by rw [accR_len])) ?_
        exact ord_l0 vs a ha hm hl vs.length 0 (by omega)
    · rw [Bool.not_eq_true] at h2
      rw [h2]
      exact out
  · refine Ev.congr (fun k => if_neg h) out
end Go.Proofs.Ytknkdbleeaaleaa.Pure
