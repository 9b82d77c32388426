import Derived.Test.YtknkdbleeaaleaaStmtAcceptorAll
import Derived.Test.YtknkdbleeaaleaaAcc
namespace Go.Proofs.Ytknkdbleeaaleaa.Pure
open Go.RowKit Go.Proofs.Ytknkdbleeaaleaa.Print Go.Proofs.YtknkdbleeaaleaaW.PrintWords Go.Proofs.YtknkdbleeaaleaaW.PrintLast Go.Proofs.YtknkdbleeaaleaaW.PrintMore
theorem rdB {xs : List Bool} {i : Nat} (h : i < xs.length) : rdOf false xs (i : Int) = xs[i] := by
  unfold rdOf
  simp [List.getD_eq_getElem?_getD, h]
theorem all_l (vs : List (List S69)) (R : List Bool) (V : List S69) (hv : ∀ v ∈ vs, Val v ∧ v.length ≤ 30) (hl : vs.length ≤ 40) (hR : R.length = vs.length) (lV : V.length ≤ 1000000) : ∀ (n i : Nat) (a : List S69), i + n = vs.length → Val a → a.length ≤ 1000 + 30 * i → R.drop i = accR a (vs.drop i) → V = accV a (vs.drop i) →
    Ev (fun k => elasticstorelaw15_AcceptorAll.l0 k vs R a (i : Int) V) true := by
  intro n
  induction n with
  | zero =>
    intro i a hi ha hal hr hw
    rw [List.drop_eq_nil_of_le (by omega)] at hw
    refine Ev.suc (Ev.congr (fun k => ?_) (Ev.bind ((req_is V a (by omega)).val ((eqv_iff _ _).2 hw)) (G := fun t k => if t = true then ((elasticstorelaw15_awake.f k).bind fun t489 => (some t489)) else (some false)) (Ev.congr (fun k => if_pos rfl) awake15_end)))
    rw [elasticstorelaw15_AcceptorAll.l0, if_neg (by omega)]
  | succ n ih =>
    intro i a hi ha hal hr hw
    have hil : i < vs.length := by omega
    obtain ⟨h1, h2⟩ := hv vs[i] (List.getElem_mem hil)
    have h3 := jlen ha h1
    rw [dropC hil] at hr hw
    rw [dropC (by omega)] at hr
    simp only [accR, List.cons.injEq] at hr
    refine Ev.suc (Ev.congr (fun k => ?_) (Ev.bind (rle_is a vs[i] (by omega) (by omega)) (G := fun t k => if ((rdOf false R (i : Int)) != t) = true then (some false) else ((elasticstoreref03_Join.f k a vs[i]).bind fun t494 => (elasticstorelaw15_AcceptorAll.l0 k vs R t494 ((i + 1 : Nat) : Int) V))) ?_))
    · rw [elasticstorelaw15_AcceptorAll.l0, if_pos (by omega), if_pos (by omega), if_pos (by omega), rdL hil, wS63 i (by omega)]
    · refine Ev.congr (fun k => if_neg (by rw [rdB (by omega), hr.1]; simp)) ?_
      refine Ev.bind (rjoin_is ha h1 (by omega) (by omega)) ?_
      exact ih (i + 1) _ (by omega) (jval ha h1) (by omega) hr.2 hw
theorem AcceptorAll : AcceptorAll.Pure := by
  intro a vs _ hvs
  refine Ev.done' (F := fun k => elasticstorelaw15_AcceptorAll.f k a vs) ?_
  have out : Ev (fun k => elasticstorelaw15_AcceptorAll.j0 k vs true a) true := Ev.suc (Ev.congr (fun k => by rw [elasticstorelaw15_AcceptorAll.j0, if_pos rfl]) awake15_end)
  refine Ev.bind (valid15_is vs hvs.1) ?_
  by_cases h : (ok15 vs && decide (vs.length ≤ 40)) = true
  · refine Ev.congr (fun k => if_pos h) ?_
    refine Ev.bind (valid15_is [a] (by simp)) ?_
    have hb := Bool.and_eq_true_iff.1 h
    have hm := ok15_mem hb.1
    have hl : vs.length ≤ 40 := of_decide_eq_true hb.2
    by_cases h2 : (ok15 [a] && decide ([a].length ≤ 40)) = true
    · rw [h2]
      obtain ⟨ha, la⟩ := ok15_mem (Bool.and_eq_true_iff.1 h2).1 a (by simp)
      have lV := accV_len ha hm
      refine Ev.suc (Ev.congr (fun k => ?_) (Ev.bind (acceptAll_is a vs 30 ha (by omega) hm (by omega) (by omega)) (G := fun t k => (if (t.2.length : Int) = (vs.length : Int) then (elasticstorelaw15_AcceptorAll.l0 k vs t.2 a 0 t.1) else (some false))) ?_))
      · rw [elasticstorelaw15_AcceptorAll.j0, if_neg (by simp)]
      · refine Ev.congr (fun k => if_pos (by rw [accR_len])) ?_
        exact all_l vs _ _ hm hl (accR_len vs a) (by show (accV a vs).length ≤ _; omega) vs.length 0 a (by omega) ha (by omega) rfl rfl
    · rw [Bool.not_eq_true] at h2
      rw [h2]
      exact out
  · refine Ev.congr (fun k => if_neg h) out
end Go.Proofs.Ytknkdbleeaaleaa.Pure
