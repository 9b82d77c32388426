import Derived.Test.YtknkdbleeaaleaaStmtVectorLattice
import Derived.Test.YtknkdbleeaaleaaVec3
namespace Go.Proofs.Ytknkdbleeaaleaa.Pure
open Go.RowKit Go.Proofs.Ytknkdbleeaaleaa.Print Go.Proofs.YtknkdbleeaaleaaW.PrintWords Go.Proofs.YtknkdbleeaaleaaW.PrintLast Go.Proofs.YtknkdbleeaaleaaW.PrintMore
theorem VectorLattice : VectorLattice.Pure := by
  intro a b c _ _ _
  refine Ev.done (F := fun k => elasticstorelaw03_VectorLattice.f k a b c) ?_
  refine guard (by simp) fun h => ?_
  obtain ⟨⟨la, ha⟩, h⟩ := okL_cons h
  obtain ⟨⟨lb, hb⟩, h⟩ := okL_cons h
  obtain ⟨⟨lc, hc⟩, _⟩ := okL_cons h
  have J : ∀ {u v : List S69}, Val u → Val v → Val (mrg true u v) := fun hu hv => (mrg_is true hu hv).val
  have M : ∀ {u v : List S69}, Val u → Val v → Val (mrg false u v) := fun hu hv => (mrg_is false hu hv).val
  have lJ : ∀ {u v : List S69}, Val u → Val v → (mrg true u v).length ≤ u.length + v.length := fun hu hv => (mrg_is true hu hv).len
  have lM : ∀ {u v : List S69}, Val u → Val v → (mrg false u v).length ≤ u.length + v.length := fun hu hv => (mrg_is false hu hv).len
  have cJ : ∀ {u v : List S69} (_ : Val u) (_ : Val v) (x : Int), Pure.cnt (mrg true u v) x = if Pure.cnt u x ≤ Pure.cnt v x then Pure.cnt v x else Pure.cnt u x := fun hu hv x => by rw [(mrg_is true hu hv).cnt, bndT]
  have cM : ∀ {u v : List S69} (_ : Val u) (_ : Val v) (x : Int), Pure.cnt (mrg false u v) x = if Pure.cnt u x ≤ Pure.cnt v x then Pure.cnt u x else Pure.cnt v x := fun hu hv x => by rw [(mrg_is false hu hv).cnt, bndF]
  have jab := J ha hb; have jba := J hb ha; have mab := M ha hb; have mba := M hb ha; have jaa := J ha ha; have maa := M ha ha
  have jbc := J hb hc; have mbc := M hb hc; have mac := M ha hc
  have l1 := lJ ha hb; have l2 := lJ hb ha; have l3 := lM ha hb; have l4 := lM hb ha; have l5 := lJ ha ha; have l6 := lM ha ha; have l7 := lJ hb hc; have l8 := lM hb hc; have l9 := lM ha hc
  have l10 := lJ ha jbc; have l11 := lJ jab hc; have l12 := lM ha mbc; have l13 := lM mab hc; have l14 := lJ ha mab; have l15 := lM ha jbc; have l16 := lJ mab mac
  refine Ev.bind (ejoin a b (by omega)) ?_
  refine Ev.bind (ejoin b a (by omega)) ?_
  refine Ev.bind ((req_is _ _ (by omega)).val (eqv_cnt jab jba fun x => by rw [cJ ha hb, cJ hb ha]; split <;> split <;> omega)) ?_
  refine Ev.congr (fun k => if_pos rfl) ?_
  refine Ev.bind (emeet a b (by omega)) ?_
  refine Ev.bind (emeet b a (by omega)) ?_
  refine Ev.bind ((req_is _ _ (by omega)).val (eqv_cnt mab mba fun x => by rw [cM ha hb, cM hb ha]; split <;> split <;> omega)) ?_
  refine Ev.congr (fun k => if_pos rfl) ?_
  refine Ev.bind (ejoin a a (by omega)) ?_
  refine Ev.bind ((req_is _ _ (by omega)).val (eqv_cnt jaa ha fun x => by rw [cJ ha ha]; split <;> omega)) ?_
  refine Ev.congr (fun k => if_pos rfl) ?_
  refine Ev.bind (emeet a a (by omega)) ?_
  refine Ev.bind ((req_is _ _ (by omega)).val (eqv_cnt maa ha fun x => by rw [cM ha ha]; split <;> omega)) ?_
  refine Ev.suc ?_
  refine Ev.congr (fun k => by rw [elasticstorelaw03_VectorLattice.j0, if_neg (show ¬ (!true) = true by decide)]) ?_
  refine Ev.bind (ejoin b c (by omega)) ?_
  refine Ev.bind (ejoin a _ (by omega)) ?_
  refine Ev.bind (ejoin a b (by omega)) ?_
  refine Ev.bind (ejoin _ c (by omega)) ?_
  refine Ev.bind ((req_is _ _ (by omega)).val (eqv_cnt (J ha jbc) (J jab hc) fun x => by rw [cJ ha jbc, cJ jab hc, cJ hb hc, cJ ha hb]; (repeat' split) <;> omega)) ?_
  refine Ev.congr (fun k => if_pos rfl) ?_
  refine Ev.bind (emeet b c (by omega)) ?_
  refine Ev.bind (emeet a _ (by omega)) ?_
  refine Ev.bind (emeet a b (by omega)) ?_
  refine Ev.bind (emeet _ c (by omega)) ?_
  refine Ev.bind ((req_is _ _ (by omega)).val (eqv_cnt (M ha mbc) (M mab hc) fun x => by rw [cM ha mbc, cM mab hc, cM hb hc, cM ha hb]; (repeat' split) <;> omega)) ?_
  refine Ev.suc ?_
  refine Ev.congr (fun k => by rw [elasticstorelaw03_VectorLattice.j1, if_neg (show ¬ (!true) = true by decide)]) ?_
  refine Ev.bind (emeet a b (by omega)) ?_
  refine Ev.bind (ejoin a _ (by omega)) ?_
  refine Ev.bind ((req_is _ _ (by omega)).val (eqv_cnt (J ha mab) ha fun x => by rw [cJ ha mab, cM ha hb]; (repeat' split) <;> omega)) ?_
  refine Ev.congr (fun k => if_pos rfl) ?_
  refine Ev.bind (ejoin b c (by omega)) ?_
  refine Ev.bind (emeet a _ (by omega)) ?_
  refine Ev.bind (emeet a b (by omega)) ?_
  refine Ev.bind (emeet a c (by omega)) ?_
  refine Ev.bind (ejoin _ _ (by omega)) ?_
  refine Ev.bind ((req_is _ _ (by omega)).val (eqv_cnt (M ha jbc) (J mab mac) fun x => by rw [cM ha jbc, cJ hb hc, cJ mab mac, cM ha hb, cM ha hc]; (repeat' split) <;> omega)) ?_
  exact Ev.congr (fun k => if_pos rfl) awake_end
end Go.Proofs.Ytknkdbleeaaleaa.Pure
