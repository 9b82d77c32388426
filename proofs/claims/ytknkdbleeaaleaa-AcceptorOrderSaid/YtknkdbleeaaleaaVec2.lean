/- The merge, the reference's Join and Meet and With, and the sanity check. -/
import Derived.Test.YtknkdbleeaaleaaVec
namespace Go.Proofs.Ytknkdbleeaaleaa.Pure
open Go.RowKit Go.Proofs.Ytknkdbleeaaleaa.Print Go.Proofs.YtknkdbleeaaleaaW.PrintWords Go.Proofs.YtknkdbleeaaleaaW.PrintLast Go.Proofs.YtknkdbleeaaleaaW.PrintMore

theorem bndT (x y : Int) : bnd true x y = if x ≤ y then y else x := by
  show mx x y = _
  unfold mx
  split <;> split <;> omega
theorem bndF (x y : Int) : bnd false x y = if x ≤ y then x else y := by
  show mn x y = _
  exact mnEq x y
theorem bnd_range (b : Bool) {x y : Int} (hx : 0 ≤ x ∧ x ≤ 1000000) (hy : 0 ≤ y ∧ y ≤ 1000000) : 0 ≤ bnd b x y ∧ bnd b x y ≤ 1000000 := by
  cases b with
  | true => rw [bndT]; split <;> omega
  | false => rw [bndF]; split <;> omega
theorem bnd_zero (b : Bool) : bnd b 0 0 = 0 := by cases b <;> rfl
theorem put_law {k n : Int} {l : List S69} (hk : 1 ≤ k) (hn : 0 ≤ n ∧ n ≤ 1000000) (hl : Val l) (hb : ∀ e ∈ l, k < e.f0) :
    Val (putE k n l) ∧ (∀ e ∈ putE k n l, k ≤ e.f0) ∧ (∀ a, cnt (putE k n l) a = if k = a then n else cnt l a) ∧ (putE k n l).length ≤ l.length + 1 ∧ sz (putE k n l) = n + sz l := by
  unfold putE
  by_cases h : n > 0
  · simp only [if_pos h]
    refine ⟨val_cons.2 ⟨⟨hk, by show 1 ≤ n; omega, hn.2⟩, hb, hl⟩, fun e he => ?_, fun a => rfl, by simp, rfl⟩
    rcases List.mem_cons.1 he with rfl | he
    · exact Int.le_refl _
    · have := hb e he
      omega
  · simp only [if_neg h]
    refine ⟨hl, fun e he => by have := hb e he; omega, fun a => ?_, by omega, by omega⟩
    split
    · rename_i ha
      subst ha
      rw [cnt_zero fun e he => by have := hb e he; omega]
      omega
    · rfl
structure MI (b : Bool) (u v r : List S69) : Prop where
  val : Val r
  low : ∀ q, (∀ e ∈ u, q < e.f0) → (∀ e ∈ v, q < e.f0) → ∀ e ∈ r, q < e.f0
  cnt : ∀ a, cnt r a = bnd b (cnt u a) (cnt v a)
  len : r.length ≤ u.length + v.length
theorem mrg_step {b : Bool} {u v u' v' r : List S69} {k p q : Int} (ih : MI b u' v' r) (hk : 1 ≤ k) (hp : 0 ≤ p ∧ p ≤ 1000000) (hq : 0 ≤ q ∧ q ≤ 1000000)
    (hu : ∀ a, cnt u a = if k = a then p else cnt u' a) (hv : ∀ a, cnt v a = if k = a then q else cnt v' a) (lu : ∀ e ∈ u', k < e.f0) (lv : ∀ e ∈ v', k < e.f0)
    (hl : ∀ q, (∀ e ∈ u, q < e.f0) → (∀ e ∈ v, q < e.f0) → q < k) (hlen : u'.length + v'.length + 1 ≤ u.length + v.length) : MI b u v (putE k (bnd b p q) r) := by
  have hlow := ih.low k lu lv
  obtain ⟨h1, h2, h3, h4, _⟩ := put_law hk (bnd_range b hp hq) ih.val hlow
  refine ⟨h1, fun q' a1 a2 e he => by have := h2 e he; have := hl q' a1 a2; omega, fun a => ?_, by have := ih.len; omega⟩
  rw [h3, hu, hv]
  split
  · rfl
  · exact ih.cnt a
theorem cnt_cons (e : S69) (l : List S69) (a : Int) : cnt (e :: l) a = if e.f0 = a then e.f1 else cnt l a := rfl
theorem cnt_skip {l : List S69} {k : Int} (h : ∀ e ∈ l, k < e.f0) (a : Int) : cnt l a = if k = a then 0 else cnt l a := by
  split
  · rename_i ha
    subst ha
    exact cnt_zero fun e he => by have := h e he; omega
  · rfl
theorem mrg_law (b : Bool) : ∀ (n : Nat) (u v : List S69), u.length + v.length = n → Val u → Val v → MI b u v (mrg b u v) := by
  intro n
  induction n using Nat.strongRecOn with
  | _ n ih =>
    intro u v hn hu hv
    match u, v, hu, hv with
    | [], [], _, _ =>
      rw [mrg]
      exact ⟨val_nil, (fun _ _ _ e he => by cases he), (fun a => (bnd_zero b).symm), by simp⟩
    | x :: u, [], hu, _ =>
      obtain ⟨g, hx, hu'⟩ := val_cons.1 hu
      rw [mrg_xn]
      exact mrg_step (ih (u.length + 0) (by simp at hn; omega) u [] rfl hu' val_nil) g.1 ⟨by have := g.2.1; omega, g.2.2⟩ (by omega) (cnt_cons x u) (fun a => by split <;> rfl) hx (fun e he => by cases he) (fun q h _ => h x (by simp)) (by simp)
    | [], y :: v, _, hv =>
      obtain ⟨g, hy, hv'⟩ := val_cons.1 hv
      rw [mrg_ny]
      exact mrg_step (ih (0 + v.length) (by simp at hn; omega) [] v (by simp) val_nil hv') g.1 (by omega) ⟨by have := g.2.1; omega, g.2.2⟩ (fun a => by split <;> rfl) (cnt_cons y v) (fun e he => by cases he) hy (fun q _ h => h y (by simp)) (by simp)
    | x :: u, y :: v, hu, hv =>
      obtain ⟨gx, hx, hu'⟩ := val_cons.1 hu
      obtain ⟨gy, hy, hv'⟩ := val_cons.1 hv
      simp only [List.length_cons] at hn
      by_cases h1 : x.f0 < y.f0
      · rw [mrg_lt b x y u v h1]
        have lv : ∀ e ∈ y :: v, x.f0 < e.f0 := fun e he => by
          rcases List.mem_cons.1 he with rfl | he
          · exact h1
          · have := hy e he
            omega
        exact mrg_step (ih (u.length + (v.length + 1)) (by omega) u (y :: v) (by simp) hu' hv) gx.1 ⟨by have := gx.2.1; omega, gx.2.2⟩ (by omega) (cnt_cons x u) (cnt_skip lv) hx lv (fun q h _ => h x (by simp)) (by simp; omega)
      · by_cases h2 : y.f0 < x.f0
        · rw [mrg_gt b x y u v h1 h2]
          have lu : ∀ e ∈ x :: u, y.f0 < e.f0 := fun e he => by
            rcases List.mem_cons.1 he with rfl | he
            · exact h2
            · have := hx e he
              omega
          exact mrg_step (ih ((u.length + 1) + v.length) (by omega) (x :: u) v (by simp) hu hv') gy.1 (by omega) ⟨by have := gy.2.1; omega, gy.2.2⟩ (cnt_skip lu) (cnt_cons y v) lu hy (fun q _ h => h y (by simp)) (by simp; omega)
        · have he : x.f0 = y.f0 := by omega
          rw [mrg_eq b x y u v h1 h2]
          exact mrg_step (ih (u.length + v.length) (by omega) u v rfl hu' hv') gx.1 ⟨by have := gx.2.1; omega, gx.2.2⟩ ⟨by have := gy.2.1; omega, gy.2.2⟩ (cnt_cons x u) (fun a => by rw [cnt_cons, he]) hx (fun e h => by have := hy e h; omega) (fun q h _ => h x (by simp)) (by simp; omega)
theorem mrg_is (b : Bool) {u v : List S69} (hu : Val u) (hv : Val v) : MI b u v (mrg b u v) := mrg_law b _ u v rfl hu hv
theorem mrg_sz : ∀ (n : Nat) (u v : List S69), u.length + v.length = n → Val u → Val v → sz (mrg true u v) + sz (mrg false u v) = sz u + sz v := by
  intro n
  induction n using Nat.strongRecOn with
  | _ n ih =>
    intro u v hn hu hv
    have szP : ∀ (b : Bool) (k p q : Int) (u' v' : List S69), Val u' → Val v' → 1 ≤ k → 0 ≤ p ∧ p ≤ 1000000 → 0 ≤ q ∧ q ≤ 1000000 → (∀ e ∈ u', k < e.f0) → (∀ e ∈ v', k < e.f0) → sz (putE k (bnd b p q) (mrg b u' v')) = bnd b p q + sz (mrg b u' v') :=
      fun b k p q u' v' h1 h2 h3 h4 h5 h6 h7 => (put_law h3 (bnd_range b h4 h5) (mrg_is b h1 h2).val ((mrg_is b h1 h2).low k h6 h7)).2.2.2.2
    have both : ∀ p q, bnd true p q + bnd false p q = p + q := fun p q => by rw [bndT, bndF]; split <;> omega
    match u, v, hu, hv with
    | [], [], _, _ =>
      rw [mrg, mrg]
    | x :: u, [], hu, _ =>
      obtain ⟨g, hx, hu'⟩ := val_cons.1 hu
      have p0 : 0 ≤ x.f1 ∧ x.f1 ≤ 1000000 := ⟨by have := g.2.1; omega, g.2.2⟩
      have := ih (u.length + 0) (by simp at hn; omega) u [] rfl hu' val_nil
      have := both x.f1 0
      rw [mrg_xn, mrg_xn, szP _ _ _ _ u [] hu' val_nil g.1 p0 (by omega) hx (fun e he => by cases he), szP _ _ _ _ u [] hu' val_nil g.1 p0 (by omega) hx (fun e he => by cases he)]
      simp only [sz] at *
      omega
    | [], y :: v, _, hv =>
      obtain ⟨g, hy, hv'⟩ := val_cons.1 hv
      have p0 : 0 ≤ y.f1 ∧ y.f1 ≤ 1000000 := ⟨by have := g.2.1; omega, g.2.2⟩
      have := ih (0 + v.length) (by simp at hn; omega) [] v (by simp) val_nil hv'
      have := both 0 y.f1
      rw [mrg_ny, mrg_ny, szP _ _ _ _ [] v val_nil hv' g.1 (by omega) p0 (fun e he => by cases he) hy, szP _ _ _ _ [] v val_nil hv' g.1 (by omega) p0 (fun e he => by cases he) hy]
      simp only [sz] at *
      omega
    | x :: u, y :: v, hu, hv =>
      obtain ⟨gx, hx, hu'⟩ := val_cons.1 hu
      obtain ⟨gy, hy, hv'⟩ := val_cons.1 hv
      have px : 0 ≤ x.f1 ∧ x.f1 ≤ 1000000 := ⟨by have := gx.2.1; omega, gx.2.2⟩
      have py : 0 ≤ y.f1 ∧ y.f1 ≤ 1000000 := ⟨by have := gy.2.1; omega, gy.2.2⟩
      simp only [List.length_cons] at hn
      by_cases h1 : x.f0 < y.f0
      · have lv : ∀ e ∈ y :: v, x.f0 < e.f0 := fun e he => by
          rcases List.mem_cons.1 he with rfl | he
          · exact h1
          · have := hy e he
            omega
        have := ih (u.length + (v.length + 1)) (by omega) u (y :: v) (by simp) hu' hv
        have := both x.f1 0
        rw [mrg_lt true x y u v h1, mrg_lt false x y u v h1, szP _ _ _ _ u (y :: v) hu' hv gx.1 px (by omega) hx lv, szP _ _ _ _ u (y :: v) hu' hv gx.1 px (by omega) hx lv]
        have e1 : sz (x :: u) = x.f1 + sz u := rfl
        omega
      · by_cases h2 : y.f0 < x.f0
        · have lu : ∀ e ∈ x :: u, y.f0 < e.f0 := fun e he => by
            rcases List.mem_cons.1 he with rfl | he
            · exact h2
            · have := hx e he
              omega
          have := ih ((u.length + 1) + v.length) (by omega) (x :: u) v (by simp) hu hv'
          have := both 0 y.f1
          rw [mrg_gt true x y u v h1 h2, mrg_gt false x y u v h1 h2, szP _ _ _ _ (x :: u) v hu hv' gy.1 (by omega) py lu hy, szP _ _ _ _ (x :: u) v hu hv' gy.1 (by omega) py lu hy]
          have e1 : sz (y :: v) = y.f1 + sz v := rfl
          omega
        · have he : x.f0 = y.f0 := by omega
          have lv : ∀ e ∈ v, x.f0 < e.f0 := fun e h => by have := hy e h; omega
          have := ih (u.length + v.length) (by omega) u v rfl hu' hv'
          have := both x.f1 y.f1
          rw [mrg_eq true x y u v h1 h2, mrg_eq false x y u v h1 h2, szP _ _ _ _ u v hu' hv' gx.1 px py hx lv, szP _ _ _ _ u v hu' hv' gx.1 px py hx lv]
          have e1 : sz (y :: v) = y.f1 + sz v := rfl
          have e2 : sz (x :: u) = x.f1 + sz u := rfl
          omega

/-! ### the reference's With -/
def wth (a c : Int) : Bool → List S69 → List S69
  | d, [] => if d then [] else [⟨a, c⟩]
  | d, e :: l => if d = false ∧ e.f0 ≥ a then ⟨a, c⟩ :: (if e.f0 = a then wth a c true l else e :: wth a c true l) else if e.f0 = a then wth a c d l else e :: wth a c d l
theorem with_l (l : List S69) (a c : Int) (hl : l.length < 1099511627776) : ∀ (n i : Nat) (acc : List S69) (d : Bool), i + n = l.length → acc.length ≤ 2 * i → Ev (fun k => elasticstoreref03_With.l0 k l a c acc d (i : Int)) (acc ++ wth a c d (l.drop i)) := by
  intro n
  induction n with
  | zero =>
    intro i acc d hi ha
    refine Ev.suc (Ev.congr (fun k => ?_) (Ev.some _))
    rw [elasticstoreref03_With.l0, if_neg (by omega), List.drop_eq_nil_of_le (by omega)]
    cases d with
    | true => simp [wth]
    | false => rw [if_neg (by simp), if_pos (by omega)]; simp [wth]
  | succ n ih =>
    intro i acc d hi ha
    have hil : i < l.length := by omega
    refine Ev.suc (Ev.suc ?_)
    rw [dropC hil]
    by_cases hd : d = false ∧ l[i].f0 ≥ a
    · obtain ⟨rfl, hge⟩ := hd
      by_cases he : l[i].f0 = a
      · refine Ev.congr (fun k => ?_) ((ih (i + 1) (acc ++ [⟨a, c⟩]) true (by omega) (by simp; omega)).val ?_)
        · rw [elasticstoreref03_With.l0, if_pos (by omega), if_neg (by simp), if_pos (by omega), rdN hil, decide_eq_true hge, elasticstoreref03_With.j2, if_pos rfl, if_pos (by omega), Option.bind_some, if_pos (by omega), if_pos (by omega), rdN hil, if_pos he, wS i (by omega)]
        · conv => rhs; unfold wth
          rw [if_pos ⟨rfl, hge⟩, if_pos he]
          simp
      · refine Ev.congr (fun k => ?_) ((ih (i + 1) ((acc ++ [⟨a, c⟩]) ++ [l[i]]) true (by omega) (by simp; omega)).val ?_)
        · rw [elasticstoreref03_With.l0, if_pos (by omega), if_neg (by simp), if_pos (by omega), rdN hil, decide_eq_true hge, elasticstoreref03_With.j2, if_pos rfl, if_pos (by omega), Option.bind_some, if_pos (by omega), if_pos (by omega), rdN hil, if_neg he, if_pos (by simp; omega), wS i (by omega)]
        · conv => rhs; unfold wth
          rw [if_pos ⟨rfl, hge⟩, if_neg he]
          simp
    · have hstep : ∀ k, elasticstoreref03_With.l0 (k + 1 + 1) l a c acc d (i : Int) = elasticstoreref03_With.j2 (k + 1) l a c acc d (i : Int) false := by
        intro k
        rw [elasticstoreref03_With.l0, if_pos (by omega)]
        cases d with
        | true => rw [if_pos rfl]
        | false =>
          have : ¬ l[i].f0 ≥ a := fun h => hd ⟨rfl, h⟩
          rw [if_neg (by simp), if_pos (by omega), rdN hil, decide_eq_false this]
      by_cases he : l[i].f0 = a
      · refine Ev.congr (fun k => ?_) ((ih (i + 1) acc d (by omega) (by omega)).val ?_)
        · rw [hstep, elasticstoreref03_With.j2, if_neg (by simp), if_pos (by omega), if_pos (by omega), rdN hil, if_pos he, wS i (by omega)]
        · conv => rhs; unfold wth
          rw [if_neg hd, if_pos he]
      · refine Ev.congr (fun k => ?_) ((ih (i + 1) (acc ++ [l[i]]) d (by omega) (by simp; omega)).val ?_)
        · rw [hstep, elasticstoreref03_With.j2, if_neg (by simp), if_pos (by omega), if_pos (by omega), rdN hil, if_neg he, if_pos (by omega), wS i (by omega)]
        · conv => rhs; unfold wth
          rw [if_neg hd, if_neg he]
          simp
theorem rwith_is (l : List S69) (a c : Int) (hl : l.length < 1099511627776) (ha : 1 ≤ a) (hc : 0 ≤ c ∧ c ≤ 1000000) : Ev (fun k => elasticstoreref03_With.f k l a c) (wth a c (c == 0) l) := by
  have h : Ev (fun k => elasticstoreref03_With.j0 k l a c false) (wth a c (c == 0) l) := by
    refine Ev.suc (Ev.congr (fun k => ?_) (with_l l a c hl l.length 0 [] (c == 0) (by omega) (by simp)))
    rw [elasticstoreref03_With.j0, if_neg (by simp)]
    rfl
  refine Ev.congr (fun k => ?_) h
  rw [elasticstoreref03_With.f, if_neg (by omega), if_neg (by omega), decide_eq_false (by omega)]
theorem rwith_out (l : List S69) (a c : Int) (h : a < 1 ∨ c < 0 ∨ c > 1000000) : Ev (fun k => elasticstoreref03_With.f k l a c) l := by
  have h' : Ev (fun k => elasticstoreref03_With.j0 k l a c true) l := by
    refine Ev.suc (Ev.congr (fun k => ?_) (Ev.some _))
    rw [elasticstoreref03_With.j0, if_pos rfl]
  refine Ev.congr (fun k => ?_) h'
  rw [elasticstoreref03_With.f]
  split
  · rfl
  · split
    · rfl
    · rw [decide_eq_true (by omega)]
theorem wth_true (a c : Int) : ∀ {l : List S69}, Val l → Val (wth a c true l) ∧ (∀ q, (∀ e ∈ l, q < e.f0) → ∀ e ∈ wth a c true l, q < e.f0) ∧ (∀ x, cnt (wth a c true l) x = if x = a then 0 else cnt l x) ∧ (wth a c true l).length ≤ l.length
  | [], _ => by
    simp [wth, val_nil, cnt]
  | e :: l, h => by
    obtain ⟨g, hx, h'⟩ := val_cons.1 h
    obtain ⟨i1, i2, i3, i4⟩ := wth_true a c h'
    have hd : ¬ (true = false ∧ e.f0 ≥ a) := fun k => by cases k.1
    unfold wth
    rw [if_neg hd]
    split
    · rename_i he
      refine ⟨i1, fun q hq => i2 q fun e' he' => hq e' (by simp [he']), fun x => ?_, by simp; omega⟩
      rw [i3, cnt_cons, he]
      split
      · rfl
      · rw [if_neg (by omega)]
    · rename_i he
      refine ⟨val_cons.2 ⟨g, i2 _ hx, i1⟩, fun q hq e' he' => ?_, fun x => ?_, by simp; omega⟩
      · rcases List.mem_cons.1 he' with rfl | he'
        · exact hq _ (by simp)
        · exact i2 q (fun e' he' => hq e' (by simp [he'])) e' he'
      · rw [cnt_cons, cnt_cons, i3]
        by_cases hxa : x = a
        · subst hxa
          rw [if_neg he, if_pos rfl, if_pos rfl]
        · rw [if_neg hxa, if_neg hxa]
theorem wth_false {a c : Int} (ha : 1 ≤ a) (hc : 1 ≤ c ∧ c ≤ 1000000) : ∀ {l : List S69}, Val l → Val (wth a c false l) ∧ (∀ q, q < a → (∀ e ∈ l, q < e.f0) → ∀ e ∈ wth a c false l, q < e.f0) ∧ (∀ x, cnt (wth a c false l) x = if x = a then c else cnt l x) ∧ (wth a c false l).length ≤ l.length + 1
  | [], _ => by
    have e : wth a c false [] = [⟨a, c⟩] := by simp [wth]
    rw [e]
    refine ⟨val_cons.2 ⟨⟨ha, hc.1, hc.2⟩, (fun e he => by cases he), val_nil⟩, fun q hq _ e he => ?_, fun x => ?_, by simp⟩
    · rw [List.mem_singleton.1 he]
      exact hq
    · show (if a = x then c else 0) = if x = a then c else 0
      split <;> split <;> omega
  | e :: l, h => by
    obtain ⟨g, hx, h'⟩ := val_cons.1 h
    unfold wth
    by_cases hge : e.f0 ≥ a
    · rw [if_pos ⟨rfl, hge⟩]
      obtain ⟨i1, i2, i3, i4⟩ := wth_true a c h'
      have i5 := i2 _ hx
      split
      · rename_i he
        refine ⟨val_cons.2 ⟨⟨ha, hc.1, hc.2⟩, fun e' he' => by have := i5 e' he'; show a < _; omega, i1⟩, fun q hq _ e' he' => ?_, fun x => ?_, by simp; omega⟩
        · rcases List.mem_cons.1 he' with rfl | he'
          · exact hq
          · have := i5 e' he'
            omega
        · rw [cnt_cons, i3, cnt_cons, he]
          by_cases hxa : x = a
          · subst hxa
            rw [if_pos rfl, if_pos rfl]
          · rw [if_neg (by show ¬ a = x; omega), if_neg hxa, if_neg hxa, if_neg (by omega)]
      · rename_i he
        refine ⟨val_cons.2 ⟨⟨ha, hc.1, hc.2⟩, fun e' he' => ?_, val_cons.2 ⟨g, i5, i1⟩⟩, fun q hq hl e' he' => ?_, fun x => ?_, by simp; omega⟩
        · show a < _
          rcases List.mem_cons.1 he' with rfl | he'
          · omega
          · have := i5 e' he'
            omega
        · rcases List.mem_cons.1 he' with rfl | he'
          · exact hq
          · rcases List.mem_cons.1 he' with rfl | he'
            · omega
            · have := i5 e' he'
              omega
        · rw [cnt_cons, cnt_cons, i3, cnt_cons]
          by_cases hxa : x = a
          · subst hxa
            rw [if_pos rfl, if_pos rfl]
          · rw [if_neg (by show ¬ a = x; omega), if_neg hxa, if_neg hxa]
    · rw [if_neg fun k => hge k.2, if_neg (by omega)]
      obtain ⟨i1, i2, i3, i4⟩ := wth_false ha hc h'
      refine ⟨val_cons.2 ⟨g, i2 _ (by omega) hx, i1⟩, fun q hq hl e' he' => ?_, fun x => ?_, by simp; omega⟩
      · rcases List.mem_cons.1 he' with rfl | he'
        · exact hl _ (by simp)
        · exact i2 q hq (fun e' he' => hl e' (by simp [he'])) e' he'
      · rw [cnt_cons, cnt_cons, i3]
        by_cases hxa : x = a
        · subst hxa
          rw [if_neg (by omega), if_pos rfl, if_pos rfl]
        · rw [if_neg hxa, if_neg hxa]

/-! ### the reference's Join and Meet -/
theorem val_drop {l : List S69} (h : Val l) (i : Nat) : Val (l.drop i) := ⟨fun e he => h.1 e (List.mem_of_mem_drop he), h.2.sublist (List.drop_sublist i l)⟩
theorem rjoin_l (v : List S69) (hv : Val v) (hl : v.length < 1000000) : ∀ (n i : Nat) (acc : List S69), i + n = v.length → Val acc → acc.length ≤ 1000000 + i → ∃ r, Ev (fun k => elasticstoreref03_Join.l0 k v acc (i : Int)) r ∧ Val r ∧ ∀ x, cnt r x = bnd true (cnt acc x) (cnt (v.drop i) x) := by
  intro n
  induction n with
  | zero =>
    intro i acc hi ha hlen
    refine ⟨acc, Ev.suc (Ev.congr (fun k => ?_) (Ev.some _)), ha, fun x => ?_⟩
    · rw [elasticstoreref03_Join.l0, if_neg (by omega)]
    · rw [List.drop_eq_nil_of_le (by omega)]
      have := (cnt_range (a := x) ha.1).1
      show _ = bnd true (cnt acc x) 0
      rw [bndT]
      split <;> omega
  | succ n ih =>
    intro i acc hi ha hlen
    have hil : i < v.length := by omega
    have hd := val_drop hv i
    rw [dropC hil] at hd ⊢
    obtain ⟨g, hx, hd'⟩ := val_cons.1 hd
    have hz : cnt (v.drop (i + 1)) v[i].f0 = 0 := cnt_zero fun e he => by have := hx e he; omega
    by_cases hgt : v[i].f1 > cnt acc v[i].f0
    · have g' := g
      unfold Good at g'
      obtain ⟨w1, _, w3, w4⟩ := wth_false g'.1 g'.2 ha
      obtain ⟨r, h1, h2, h3⟩ := ih (i + 1) (wth v[i].f0 v[i].f1 false acc) (by omega) w1 (by omega)
      have hw : Ev (fun k => elasticstoreref03_With.f k acc v[i].f0 v[i].f1) (wth v[i].f0 v[i].f1 false acc) := by
        have := rwith_is acc v[i].f0 v[i].f1 (by omega) g'.1 (by omega)
        rwa [show (v[i].f1 == 0) = false from by simp; omega] at this
      refine ⟨r, Ev.suc (Ev.congr (fun k => ?_) (Ev.bind (count_is acc v[i].f0 (by omega)) (G := fun t k => if v[i].f1 > t then (elasticstoreref03_With.f k acc v[i].f0 v[i].f1).bind fun t195 => elasticstoreref03_Join.l0 k v t195 ((i + 1 : Nat) : Int) else elasticstoreref03_Join.l0 k v acc ((i + 1 : Nat) : Int)) ?_)), h2, fun x => ?_⟩
      · rw [elasticstoreref03_Join.l0, if_pos (by omega), if_pos (by omega), rdN hil, wS i (by omega)]
      · simp only [if_pos hgt]
        exact Ev.bind hw h1
      · rw [h3, w3, cnt_cons]
        by_cases hxa : x = v[i].f0
        · subst hxa
          rw [if_pos rfl, if_pos rfl, hz, bndT, bndT]
          split <;> split <;> omega
        · rw [if_neg hxa, if_neg (by omega)]
    · obtain ⟨r, h1, h2, h3⟩ := ih (i + 1) acc (by omega) ha (by omega)
      refine ⟨r, Ev.suc (Ev.congr (fun k => ?_) (Ev.bind (count_is acc v[i].f0 (by omega)) (G := fun t k => if v[i].f1 > t then (elasticstoreref03_With.f k acc v[i].f0 v[i].f1).bind fun t195 => elasticstoreref03_Join.l0 k v t195 ((i + 1 : Nat) : Int) else elasticstoreref03_Join.l0 k v acc ((i + 1 : Nat) : Int)) ?_)), h2, fun x => ?_⟩
      · rw [elasticstoreref03_Join.l0, if_pos (by omega), if_pos (by omega), rdN hil, wS i (by omega)]
      · simp only [if_neg hgt]
        exact h1
      · rw [h3, cnt_cons]
        by_cases hxa : v[i].f0 = x
        · subst hxa
          have := (cnt_range (a := v[i].f0) ha.1).1
          rw [if_pos rfl, hz, bndT, bndT]
          split <;> split <;> omega
        · rw [if_neg hxa]
theorem rjoin_is {u v : List S69} (hu : Val u) (hv : Val v) (lu : u.length < 1000000) (lv : v.length < 1000000) : Ev (fun k => elasticstoreref03_Join.f k u v) (mrg true u v) := by
  obtain ⟨r, h1, h2, h3⟩ := rjoin_l v hv lv v.length 0 u (by omega) hu (by omega)
  have m := mrg_is true hu hv
  have : r = mrg true u v := ext_cnt h2 m.val fun a => by rw [h3, m.cnt]; rfl
  rw [← this]
  refine Ev.congr (fun k => ?_) h1
  rw [elasticstoreref03_Join.f, Option.bind_some, if_pos (by simp; omega)]
  rfl
def mt (v : List S69) : List S69 → List S69
  | [] => []
  | e :: l => putE e.f0 (mn e.f1 (cnt v e.f0)) (mt v l)
theorem mt_law {v : List S69} (hv : Val v) : ∀ {l : List S69}, Val l → Val (mt v l) ∧ (∀ q, (∀ e ∈ l, q < e.f0) → ∀ e ∈ mt v l, q < e.f0) ∧ (∀ x, cnt (mt v l) x = bnd false (cnt l x) (cnt v x)) ∧ (mt v l).length ≤ l.length
  | [], _ => by
    refine ⟨val_nil, (fun q _ e he => by cases he), fun x => ?_, Nat.le_refl _⟩
    have := (cnt_range (a := x) hv.1).1
    show 0 = bnd false 0 (cnt v x)
    rw [bndF]
    split <;> omega
  | e :: l, h => by
    obtain ⟨g, hx, h'⟩ := val_cons.1 h
    unfold Good at g
    obtain ⟨i1, i2, i3, i4⟩ := mt_law hv h'
    have hc := cnt_range (a := e.f0) hv.1
    obtain ⟨p1, p2, p3, p4, _⟩ := put_law (k := e.f0) (n := mn e.f1 (cnt v e.f0)) (l := mt v l) g.1 (by rw [mnEq]; split <;> omega) i1 (i2 _ hx)
    refine ⟨p1, fun q hq e' he' => by have := p2 e' he'; have := hq e (by simp); omega, fun x => ?_, by show (putE _ _ _).length ≤ _; simp; omega⟩
    show cnt (putE _ _ _) x = _
    rw [p3, cnt_cons]
    split
    · rename_i ha
      subst ha
      rfl
    · exact i3 x
theorem rmeet_l (u v : List S69) (lu : u.length < 1000000) (lv : v.length < 1000000) : ∀ (n i : Nat) (acc : List S69), i + n = u.length → acc.length ≤ i → Ev (fun k => elasticstoreref03_Meet.l0 k u v acc (i : Int)) (acc ++ mt v (u.drop i)) := by
  intro n
  induction n with
  | zero =>
    intro i acc hi ha
    refine Ev.suc (Ev.congr (fun k => ?_) (Ev.some _))
    rw [elasticstoreref03_Meet.l0, if_neg (by omega), List.drop_eq_nil_of_le (by omega)]
    simp [mt]
  | succ n ih =>
    intro i acc hi ha
    have hil : i < u.length := by omega
    refine Ev.suc ?_
    rw [dropC hil]
    refine Ev.congr (fun k => ?_) (Ev.bind (count_is v u[i].f0 (by omega)) (G := fun t k => if mn u[i].f1 t > 0 then elasticstoreref03_Meet.l0 k u v (acc ++ [⟨u[i].f0, mn u[i].f1 t⟩]) ((i + 1 : Nat) : Int) else elasticstoreref03_Meet.l0 k u v acc ((i + 1 : Nat) : Int)) ?_)
    · rw [elasticstoreref03_Meet.l0, if_pos (by omega), if_pos (by omega), rdN hil, wS i (by omega)]
      simp only [if_pos (show acc.length < 8796093022208 by omega)]
    · show Ev _ (acc ++ putE _ _ _)
      unfold putE
      by_cases hp : mn u[i].f1 (cnt v u[i].f0) > 0
      · simp only [if_pos hp]
        exact (ih (i + 1) _ (by omega) (by simp; omega)).val (by simp)
      · simp only [if_neg hp]
        exact ih (i + 1) acc (by omega) (by omega)
theorem rmeet_is {u v : List S69} (hu : Val u) (hv : Val v) (lu : u.length < 1000000) (lv : v.length < 1000000) : Ev (fun k => elasticstoreref03_Meet.f k u v) (mrg false u v) := by
  obtain ⟨h1, _, h3, _⟩ := mt_law hv hu
  have m := mrg_is false hu hv
  have : mt v u = mrg false u v := ext_cnt h1 m.val fun a => by rw [h3, m.cnt]
  rw [← this]
  exact (rmeet_l u v lu lv u.length 0 [] (by omega) (by simp)).val (by simp)
theorem join_is (u v : List S69) (h : u.length + v.length < 8796093022208) : vector_Join.f u v = some (mrg true u v) := by
  rw [vector_Join.f, vector_merge_upper.f, if_pos h]
  rfl
theorem meet_is (u v : List S69) (h : u.length + v.length < 8796093022208) : vector_Meet.f u v = some (mrg false u v) := by
  rw [vector_Meet.f, vector_merge_lower.f, if_pos h]
  rfl
theorem ejoin (u v : List S69) (h : u.length + v.length < 8796093022208) : Ev (fun _ => vector_Join.f u v) (mrg true u v) := Ev.const fun _ => join_is u v h
theorem emeet (u v : List S69) (h : u.length + v.length < 8796093022208) : Ev (fun _ => vector_Meet.f u v) (mrg false u v) := Ev.const fun _ => meet_is u v h
def cmp (u v : List S69) : Int := if eqv u v = true then 0 else if le u v = true then 1 else if le v u = true then 2 else 3
theorem cmpv_is {u v : List S69} (hu : Srt u) (hv : Srt v) (lu : u.length < 1000000) (lv : v.length < 1000000) : Ev (fun k => vector_Compare.f k u v) (cmp u v) := by
  refine Ev.bind (eq_is u v (by omega)) ?_
  unfold cmp
  by_cases h1 : eqv u v = true
  · rw [if_pos h1]
    exact Ev.congr (fun k => if_pos h1) (Ev.some _)
  · rw [if_neg h1]
    refine Ev.congr (fun k => if_neg h1) ?_
    refine Ev.bind (vle_is u v hv (by omega) (by omega)) ?_
    by_cases h2 : le u v = true
    · rw [if_pos h2]
      exact Ev.congr (fun k => if_pos h2) (Ev.some _)
    · rw [if_neg h2]
      refine Ev.congr (fun k => if_neg h2) ?_
      refine Ev.bind (vle_is v u hu (by omega) (by omega)) ?_
      by_cases h3 : le v u = true
      · simp only [if_pos h3]
        exact Ev.some _
      · simp only [if_neg h3]
        exact Ev.some _
end Go.Proofs.Ytknkdbleeaaleaa.Pure
