/- The lattice of vectors. -/
import Derived.Test.YtopcklnnkpjanaaWRef
namespace Go.Proofs.Ytopcklnnkpjanaa.Abs
open Go Go.RowKit
set_option linter.unusedVariables false
set_option linter.unusedSimpArgs false
def cnt : List E2 → Int → Int
  | [], _ => 0
  | e :: l, a => if e.1 = a then e.2 else cnt l a
def Good (e : E2) : Prop := 1 ≤ e.1 ∧ 1 ≤ e.2 ∧ e.2 ≤ 1000000
def Srt (l : List E2) : Prop := l.Pairwise fun a b => a.1 < b.1
def Val (l : List E2) : Prop := (∀ e ∈ l, Good e) ∧ Srt l
instance (e : E2) : Decidable (Good e) := by unfold Good; infer_instance
theorem val_nil : Val [] := ⟨(fun e he => by cases he), List.Pairwise.nil⟩
theorem val_cons {x : E2} {l : List E2} : Val (x :: l) ↔ Good x ∧ (∀ e ∈ l, x.1 < e.1) ∧ Val l := by
  unfold Val Srt
  rw [List.pairwise_cons]
  simp only [List.mem_cons, forall_eq_or_imp]
  exact ⟨fun h => ⟨h.1.1, h.2.1, h.1.2, h.2.2⟩, fun h => ⟨⟨h.1, h.2.2.1⟩, h.2.1, h.2.2.2⟩⟩
theorem cnt_zero : ∀ {l : List E2} {a : Int}, (∀ e ∈ l, e.1 ≠ a) → cnt l a = 0
  | [], _, _ => rfl
  | e :: l, a, h => by
    unfold cnt
    rw [if_neg (h e (by simp))]
    exact cnt_zero fun e he => h e (by simp [he])
theorem cnt_range : ∀ {l : List E2} {a : Int}, (∀ e ∈ l, Good e) → 0 ≤ cnt l a ∧ cnt l a ≤ 1000000
  | [], _, _ => by simp [cnt]
  | e :: l, a, h => by
    unfold cnt
    have := h e (by simp)
    unfold Good at this
    split
    · omega
    · exact cnt_range fun e he => h e (by simp [he])
theorem cnt_mem : ∀ {l : List E2} (_ : Srt l) {e : E2}, e ∈ l → cnt l e.1 = e.2
  | x :: l, h, e, he => by
    unfold cnt
    rcases List.mem_cons.1 he with rfl | he
    · rw [if_pos rfl]
    · have hp := List.pairwise_cons.1 h
      have := hp.1 e he
      rw [if_neg (by omega)]
      exact cnt_mem hp.2 he
theorem ext_cnt : ∀ {u v : List E2}, Val u → Val v → (∀ a, cnt u a = cnt v a) → u = v
  | [], [], _, _, _ => rfl
  | [], y :: v, _, hv, h => by
    have := h y.1
    have g := (val_cons.1 hv).1
    simp only [cnt, if_true] at this
    unfold Good at g
    omega
  | x :: u, [], hu, _, h => by
    have := h x.1
    have g := (val_cons.1 hu).1
    simp only [cnt, if_true] at this
    unfold Good at g
    omega
  | x :: u, y :: v, hu, hv, h => by
    obtain ⟨gx, hx, hu'⟩ := val_cons.1 hu
    obtain ⟨gy, hy, hv'⟩ := val_cons.1 hv
    have h1 := h x.1
    have h2 := h y.1
    unfold Good at gx gy
    simp only [cnt, if_true] at h1 h2
    have e : x.1 = y.1 := by
      rcases Int.lt_trichotomy x.1 y.1 with hl | hl | hl
      · rw [if_neg (by omega), cnt_zero fun e he => by have := hy e he; omega] at h1
        omega
      · exact hl
      · rw [if_neg (by omega), cnt_zero fun e he => by have := hx e he; omega] at h2
        omega
    rw [if_pos e.symm] at h1
    have hxy : x = y := by
      cases x; cases y
      simp only at e h1
      subst e h1
      rfl
    subst hxy
    rw [ext_cnt hu' hv' fun a => ?_]
    have := h a
    simp only [cnt] at this
    by_cases ha : x.1 = a
    · subst ha
      rw [cnt_zero fun e he => by have := hx e he; omega, cnt_zero fun e he => by have := hy e he; omega]
    · rwa [if_neg ha, if_neg ha] at this

def le : List E2 → List E2 → Bool
  | [], _ => true
  | e :: u, v => if e.2 > cnt v e.1 then false else le u v
theorem le_all : ∀ (u v : List E2), le u v = true ↔ ∀ e ∈ u, e.2 ≤ cnt v e.1
  | [], v => by simp [le]
  | e :: u, v => by
    unfold le
    simp only [List.mem_cons, forall_eq_or_imp]
    split
    · exact ⟨(fun h => by cases h), (fun h => by omega)⟩
    · rw [le_all u v]
      exact ⟨fun h => ⟨by omega, h⟩, fun h => h.2⟩
theorem le_iff {u v : List E2} (hu : Val u) (hv : Val v) : le u v = true ↔ ∀ a, cnt u a ≤ cnt v a := by
  rw [le_all]
  constructor
  · intro h a
    by_cases hm : ∃ e ∈ u, e.1 = a
    · obtain ⟨e, he, rfl⟩ := hm
      rw [cnt_mem hu.2 he]
      exact h e he
    · rw [cnt_zero fun e he h => hm ⟨e, he, h⟩]
      exact (cnt_range hv.1).1
  · intro h e he
    have := h e.1
    rwa [cnt_mem hu.2 he] at this
theorem bndT (x y : Int) : boundI true x y = if x ≤ y then y else x := by
  simp only [boundI, if_true]
  split <;> split <;> omega
theorem bndF (x y : Int) : boundI false x y = if x ≤ y then x else y := by
  simp only [boundI, Bool.false_eq_true, if_false]
  split <;> split <;> omega
abbrev putE (k n : Int) (l : List E2) : List E2 := consP (k, n) l
theorem bnd_range (b : Bool) {x y : Int} (hx : 0 ≤ x ∧ x ≤ 1000000) (hy : 0 ≤ y ∧ y ≤ 1000000) : 0 ≤ boundI b x y ∧ boundI b x y ≤ 1000000 := by
  cases b with
  | true => rw [bndT]; split <;> omega
  | false => rw [bndF]; split <;> omega
theorem bnd_zero (b : Bool) : boundI b 0 0 = 0 := by cases b <;> rfl
theorem put_law {k n : Int} {l : List E2} (hk : 1 ≤ k) (hn : 0 ≤ n ∧ n ≤ 1000000) (hl : Val l) (hb : ∀ e ∈ l, k < e.1) :
    Val (putE k n l) ∧ (∀ e ∈ putE k n l, k ≤ e.1) ∧ (∀ a, cnt (putE k n l) a = if k = a then n else cnt l a) ∧ (putE k n l).length ≤ l.length + 1 := by
  unfold putE consP
  by_cases h : n > 0
  · simp only [if_pos h]
    refine ⟨val_cons.2 ⟨⟨hk, by show 1 ≤ n; omega, hn.2⟩, hb, hl⟩, fun e he => ?_, fun a => rfl, by simp⟩
    rcases List.mem_cons.1 he with rfl | he
    · exact Int.le_refl _
    · have := hb e he
      omega
  · simp only [if_neg h]
    refine ⟨hl, fun e he => by have := hb e he; omega, fun a => ?_, by omega⟩
    split
    · rename_i ha
      subst ha
      rw [cnt_zero fun e he => by have := hb e he; omega]
      omega
    · rfl
structure MI (b : Bool) (u v r : List E2) : Prop where
  val : Val r
  low : ∀ q, (∀ e ∈ u, q < e.1) → (∀ e ∈ v, q < e.1) → ∀ e ∈ r, q < e.1
  cnt : ∀ a, cnt r a = boundI b (cnt u a) (cnt v a)
  len : r.length ≤ u.length + v.length
theorem mrg_step {b : Bool} {u v u' v' r : List E2} {k p q : Int} (ih : MI b u' v' r) (hk : 1 ≤ k) (hp : 0 ≤ p ∧ p ≤ 1000000) (hq : 0 ≤ q ∧ q ≤ 1000000)
    (hu : ∀ a, cnt u a = if k = a then p else cnt u' a) (hv : ∀ a, cnt v a = if k = a then q else cnt v' a) (lu : ∀ e ∈ u', k < e.1) (lv : ∀ e ∈ v', k < e.1)
    (hl : ∀ q, (∀ e ∈ u, q < e.1) → (∀ e ∈ v, q < e.1) → q < k) (hlen : u'.length + v'.length + 1 ≤ u.length + v.length) : MI b u v (putE k (boundI b p q) r) := by
  have hlow := ih.low k lu lv
  obtain ⟨h1, h2, h3, h4⟩ := put_law hk (bnd_range b hp hq) ih.val hlow
  refine ⟨h1, fun q' a1 a2 e he => by have := h2 e he; have := hl q' a1 a2; omega, fun a => ?_, by have := ih.len; omega⟩
  rw [h3, hu, hv]
  split
  · rfl
  · exact ih.cnt a
theorem cnt_cons (e : E2) (l : List E2) (a : Int) : cnt (e :: l) a = if e.1 = a then e.2 else cnt l a := rfl
theorem cnt_skip {l : List E2} {k : Int} (h : ∀ e ∈ l, k < e.1) (a : Int) : cnt l a = if k = a then 0 else cnt l a := by
  split
  · rename_i ha
    subst ha
    exact cnt_zero fun e he => by have := h e he; omega
  · rfl
theorem mrg_xn (b : Bool) (x : E2) (u : List E2) : mergeI b (x :: u) [] = putE x.1 (boundI b x.2 0) (mergeI b u []) := by rw [mergeI]
theorem mrg_ny (b : Bool) (y : E2) (v : List E2) : mergeI b [] (y :: v) = putE y.1 (boundI b 0 y.2) (mergeI b [] v) := by rw [mergeI]
theorem mrg_lt (b : Bool) (x y : E2) (u v : List E2) (h : x.1 < y.1) : mergeI b (x :: u) (y :: v) = putE x.1 (boundI b x.2 0) (mergeI b u (y :: v)) := by rw [mergeI, if_pos h]
theorem mrg_gt (b : Bool) (x y : E2) (u v : List E2) (h : ¬ x.1 < y.1) (h2 : y.1 < x.1) : mergeI b (x :: u) (y :: v) = putE y.1 (boundI b 0 y.2) (mergeI b (x :: u) v) := by rw [mergeI, if_neg h, if_pos h2]
theorem mrg_eq (b : Bool) (x y : E2) (u v : List E2) (h : ¬ x.1 < y.1) (h2 : ¬ y.1 < x.1) : mergeI b (x :: u) (y :: v) = putE x.1 (boundI b x.2 y.2) (mergeI b u v) := by rw [mergeI, if_neg h, if_neg h2]
theorem mrg_law (b : Bool) : ∀ (n : Nat) (u v : List E2), u.length + v.length = n → Val u → Val v → MI b u v (mergeI b u v) := by
  intro n
  induction n using Nat.strongRecOn with
  | _ n ih =>
    intro u v hn hu hv
    match u, v, hu, hv with
    | [], [], _, _ =>
      rw [mergeI]
      exact ⟨val_nil, (fun _ _ _ e he => by cases he), (fun a => (bnd_zero b).symm), by simp⟩
    | x :: u, [], hu, _ =>
      obtain ⟨g, hx, hu'⟩ := val_cons.1 hu
      rw [mrg_xn]
      exact mrg_step (ih (u.length + 0) (by simp at hn; omega) u [] rfl hu' val_nil) g.1 ⟨by have := g.2.1; omega, g.2.2⟩ (by omega) (cnt_cons x u) (fun a => by split <;> rfl) hx (fun e he => by cases he) (fun q h _ => h x (by simp)) (by simp)
    | [], y :: v, _, hv =>
      obtain ⟨g, hy, hv'⟩ := val_cons.1 hv
      rw [mrg_ny]
      exact mrg_step (ih (0 + v.length) (by simp at hn; omega) [] v (by simp) val_nil hv') g.1 (by omega) ⟨by have := g.2.1; omega, g.2.2⟩ (fun a => by split <;> rfl) (cnt_cons y v) (fun e he => by cases he) hy (fun q _ h => h y (by simp)) (by simp)
    | x :: u, y :: v, hu, hv =>
      obtain ⟨gx, hx, hu'⟩ := val_cons.1 hu
      obtain ⟨gy, hy, hv'⟩ := val_cons.1 hv
      simp only [List.length_cons] at hn
      by_cases h1 : x.1 < y.1
      · rw [mrg_lt b x y u v h1]
        have lv : ∀ e ∈ y :: v, x.1 < e.1 := fun e he => by
          rcases List.mem_cons.1 he with rfl | he
          · exact h1
          · have := hy e he
            omega
        exact mrg_step (ih (u.length + (v.length + 1)) (by omega) u (y :: v) (by simp) hu' hv) gx.1 ⟨by have := gx.2.1; omega, gx.2.2⟩ (by omega) (cnt_cons x u) (cnt_skip lv) hx lv (fun q h _ => h x (by simp)) (by simp; omega)
      · by_cases h2 : y.1 < x.1
        · rw [mrg_gt b x y u v h1 h2]
          have lu : ∀ e ∈ x :: u, y.1 < e.1 := fun e he => by
            rcases List.mem_cons.1 he with rfl | he
            · exact h2
            · have := hx e he
              omega
          exact mrg_step (ih ((u.length + 1) + v.length) (by omega) (x :: u) v (by simp) hu hv') gy.1 (by omega) ⟨by have := gy.2.1; omega, gy.2.2⟩ (cnt_skip lu) (cnt_cons y v) lu hy (fun q _ h => h y (by simp)) (by simp; omega)
        · have he : x.1 = y.1 := by omega
          rw [mrg_eq b x y u v h1 h2]
          exact mrg_step (ih (u.length + v.length) (by omega) u v rfl hu' hv') gx.1 ⟨by have := gx.2.1; omega, gx.2.2⟩ ⟨by have := gy.2.1; omega, gy.2.2⟩ (cnt_cons x u) (fun a => by rw [cnt_cons, he]) hx (fun e h => by have := hy e h; omega) (fun q h _ => h x (by simp)) (by simp; omega)
theorem mrg_is (b : Bool) {u v : List E2} (hu : Val u) (hv : Val v) : MI b u v (mergeI b u v) := mrg_law b _ u v rfl hu hv
def wth (a c : Int) : Bool → List E2 → List E2
  | d, [] => if d then [] else [(a, c)]
  | d, e :: l => if d = false ∧ e.1 ≥ a then (a, c) :: (if e.1 = a then wth a c true l else e :: wth a c true l) else if e.1 = a then wth a c d l else e :: wth a c d l
theorem wth_true (a c : Int) : ∀ {l : List E2}, Val l → Val (wth a c true l) ∧ (∀ q, (∀ e ∈ l, q < e.1) → ∀ e ∈ wth a c true l, q < e.1) ∧ (∀ x, cnt (wth a c true l) x = if x = a then 0 else cnt l x) ∧ (wth a c true l).length ≤ l.length
  | [], _ => by
    simp [wth, val_nil, cnt]
  | e :: l, h => by
    obtain ⟨g, hx, h'⟩ := val_cons.1 h
    obtain ⟨i1, i2, i3, i4⟩ := wth_true a c h'
    have hd : ¬ (true = false ∧ e.1 ≥ a) := fun k => by cases k.1
    unfold wth
    rw [if_neg hd]
    split
    · rename_i he
      refine ⟨i1, fun q hq => i2 q fun e' he' => hq e' (by simp [he']), fun x => ?_, by simp; omega⟩
      rw [i3, cnt_cons, he]
      split
      · rfl
      · rw [if_neg (by omega)]
    · rename_i he
      refine ⟨val_cons.2 ⟨g, i2 _ hx, i1⟩, fun q hq e' he' => ?_, fun x => ?_, by simp; omega⟩
      · rcases List.mem_cons.1 he' with rfl | he'
        · exact hq _ (by simp)
        · exact i2 q (fun e' he' => hq e' (by simp [he'])) e' he'
      · rw [cnt_cons, cnt_cons, i3]
        by_cases hxa : x = a
        · subst hxa
          rw [if_neg he, if_pos rfl, if_pos rfl]
        · rw [if_neg hxa, if_neg hxa]
theorem wth_false {a c : Int} (ha : 1 ≤ a) (hc : 1 ≤ c ∧ c ≤ 1000000) : ∀ {l : List E2}, Val l → Val (wth a c false l) ∧ (∀ q, q < a → (∀ e ∈ l, q < e.1) → ∀ e ∈ wth a c false l, q < e.1) ∧ (∀ x, cnt (wth a c false l) x = if x = a then c else cnt l x) ∧ (wth a c false l).length ≤ l.length + 1
  | [], _ => by
    have e : wth a c false [] = [(a, c)] := by simp [wth]
    rw [e]
    refine ⟨val_cons.2 ⟨⟨ha, hc.1, hc.2⟩, (fun e he => by cases he), val_nil⟩, fun q hq _ e he => ?_, fun x => ?_, by simp⟩
    · rw [List.mem_singleton.1 he]
      exact hq
    · show (if a = x then c else 0) = if x = a then c else 0
      split <;> split <;> omega
  | e :: l, h => by
    obtain ⟨g, hx, h'⟩ := val_cons.1 h
    unfold wth
    by_cases hge : e.1 ≥ a
    · rw [if_pos ⟨rfl, hge⟩]
      obtain ⟨i1, i2, i3, i4⟩ := wth_true a c h'
      have i5 := i2 _ hx
      split
      · rename_i he
        refine ⟨val_cons.2 ⟨⟨ha, hc.1, hc.2⟩, fun e' he' => by have := i5 e' he'; show a < _; omega, i1⟩, fun q hq _ e' he' => ?_, fun x => ?_, by simp; omega⟩
        · rcases List.mem_cons.1 he' with rfl | he'
          · exact hq
          · have := i5 e' he'
            omega
        · rw [cnt_cons, i3, cnt_cons, he]
          by_cases hxa : x = a
          · subst hxa
            rw [if_pos rfl, if_pos rfl]
          · rw [if_neg (by show ¬ a = x; omega), if_neg hxa, if_neg hxa, if_neg (by omega)]
      · rename_i he
        refine ⟨val_cons.2 ⟨⟨ha, hc.1, hc.2⟩, fun e' he' => ?_, val_cons.2 ⟨g, i5, i1⟩⟩, fun q hq hl e' he' => ?_, fun x => ?_, by simp; omega⟩
        · show a < _
          rcases List.mem_cons.1 he' with rfl | he'
          · omega
          · have := i5 e' he'
            omega
        · rcases List.mem_cons.1 he' with rfl | he'
          · exact hq
          · rcases List.mem_cons.1 he' with rfl | he'
            · omega
            · have := i5 e' he'
              omega
        · rw [cnt_cons, cnt_cons, i3, cnt_cons]
          by_cases hxa : x = a
          · subst hxa
            rw [if_pos rfl, if_pos rfl]
          · rw [if_neg (by show ¬ a = x; omega), if_neg hxa, if_neg hxa]
    · rw [if_neg fun k => hge k.2, if_neg (by omega)]
      obtain ⟨i1, i2, i3, i4⟩ := wth_false ha hc h'
      refine ⟨val_cons.2 ⟨g, i2 _ (by omega) hx, i1⟩, fun q hq hl e' he' => ?_, fun x => ?_, by simp; omega⟩
      · rcases List.mem_cons.1 he' with rfl | he'
        · exact hl _ (by simp)
        · exact i2 q hq (fun e' he' => hl e' (by simp [he'])) e' he'
      · rw [cnt_cons, cnt_cons, i3]
        by_cases hxa : x = a
        · subst hxa
          rw [if_neg (by omega), if_pos rfl, if_pos rfl]
        · rw [if_neg hxa, if_neg hxa]

end Go.Proofs.Ytopcklnnkpjanaa.Abs
