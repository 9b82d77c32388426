/- Joined for the claim: WLat WRef2 WLaw15 WChain WProp -/
import Derived.Test.YtphlhadgcfndhaaGreatDoorJd1
section
namespace Go.Proofs.YtphlhadgcfndhaaGreatDoor.Abs
open Go Go.RowKit
set_option linter.unusedVariables false
set_option linter.unusedSimpArgs false
def cnt : List E2 → Int → Int
  | [], _ => 0
  | e :: l, a => if e.1 = a then e.2 else cnt l a
def Good (e : E2) : Prop := 1 ≤ e.1 ∧ 1 ≤ e.2 ∧ e.2 ≤ 1000000
def Srt (l : List E2) : Prop := l.Pairwise fun a b => a.1 < b.1
def Val (l : List E2) : Prop := (∀ e ∈ l, Good e) ∧ Srt l
instance (e : E2) : Decidable (Good e) := by unfold Good; infer_instance
theorem val_nil : Val [] := ⟨(fun e he => by cases he), List.Pairwise.nil⟩
theorem val_cons {x : E2} {l : List E2} : Val (x :: l) ↔ Good x ∧ (∀ e ∈ l, x.1 < e.1) ∧ Val l := by
  unfold Val Srt
  rw [List.pairwise_cons]
  simp only [List.mem_cons, forall_eq_or_imp]
  exact ⟨fun h => ⟨h.1.1, h.2.1, h.1.2, h.2.2⟩, fun h => ⟨⟨h.1, h.2.2.1⟩, h.2.1, h.2.2.2⟩⟩
theorem cnt_zero : ∀ {l : List E2} {a : Int}, (∀ e ∈ l, e.1 ≠ a) → cnt l a = 0
  | [], _, _ => rfl
  | e :: l, a, h => by
    unfold cnt
    rw [if_neg (h e (by simp))]
    exact cnt_zero fun e he => h e (by simp [he])
theorem cnt_range : ∀ {l : List E2} {a : Int}, (∀ e ∈ l, Good e) → 0 ≤ cnt l a ∧ cnt l a ≤ 1000000
  | [], _, _ => by simp [cnt]
  | e :: l, a, h => by
    unfold cnt
    have := h e (by simp)
    unfold Good at this
    split
    · omega
    · exact cnt_range fun e he => h e (by simp [he])
theorem cnt_mem : ∀ {l : List E2} (_ : Srt l) {e : E2}, e ∈ l → cnt l e.1 = e.2
  | x :: l, h, e, he => by
    unfold cnt
    rcases List.mem_cons.1 he with rfl | he
    · rw [if_pos rfl]
    · have hp := List.pairwise_cons.1 h
      have := hp.1 e he
      rw [if_neg (by omega)]
      exact cnt_mem hp.2 he
theorem ext_cnt : ∀ {u v : List E2}, Val u → Val v → (∀ a, cnt u a = cnt v a) → u = v
  | [], [], _, _, _ => rfl
  | [], y :: v, _, hv, h => by
    have := h y.1
    have g := (val_cons.1 hv).1
    simp only [cnt, if_true] at this
    unfold Good at g
    omega
  | x :: u, [], hu, _, h => by
    have := h x.1
    have g := (val_cons.1 hu).1
    simp only [cnt, if_true] at this
    unfold Good at g
    omega
  | x :: u, y :: v, hu, hv, h => by
    obtain ⟨gx, hx, hu'⟩ := val_cons.1 hu
    obtain ⟨gy, hy, hv'⟩ := val_cons.1 hv
    have h1 := h x.1
    have h2 := h y.1
    unfold Good at gx gy
    simp only [cnt, if_true] at h1 h2
    have e : x.1 = y.1 := by
      rcases Int.lt_trichotomy x.1 y.1 with hl | hl | hl
      · rw [if_neg (by omega), cnt_zero fun e he => by have := hy e he; omega] at h1
        omega
      · exact hl
      · rw [if_neg (by omega), cnt_zero fun e he => by have := hx e he; omega] at h2
        omega
    rw [if_pos e.symm] at h1
    have hxy : x = y := by
      cases x; cases y
      simp only at e h1
      subst e h1
      rfl
    subst hxy
    rw [ext_cnt hu' hv' fun a => ?_]
    have := h a
    simp only [cnt] at this
    by_cases ha : x.1 = a
    · subst ha
      rw [cnt_zero fun e he => by have := hx e he; omega, cnt_zero fun e he => by have := hy e he; omega]
    · rwa [if_neg ha, if_neg ha] at this

def le : List E2 → List E2 → Bool
  | [], _ => true
  | e :: u, v => if e.2 > cnt v e.1 then false else le u v
theorem le_all : ∀ (u v : List E2), le u v = true ↔ ∀ e ∈ u, e.2 ≤ cnt v e.1
  | [], v => by simp [le]
  | e :: u, v => by
    unfold le
    simp only [List.mem_cons, forall_eq_or_imp]
    split
    · exact ⟨(fun h => by cases h), (fun h => by omega)⟩
    · rw [le_all u v]
      exact ⟨fun h => ⟨by omega, h⟩, fun h => h.2⟩
theorem le_iff {u v : List E2} (hu : Val u) (hv : Val v) : le u v = true ↔ ∀ a, cnt u a ≤ cnt v a := by
  rw [le_all]
  constructor
  · intro h a
    by_cases hm : ∃ e ∈ u, e.1 = a
    · obtain ⟨e, he, rfl⟩ := hm
      rw [cnt_mem hu.2 he]
      exact h e he
    · rw [cnt_zero fun e he h => hm ⟨e, he, h⟩]
      exact (cnt_range hv.1).1
  · intro h e he
    have := h e.1
    rwa [cnt_mem hu.2 he] at this
theorem bndT (x y : Int) : boundI true x y = if x ≤ y then y else x := by
  simp only [boundI, if_true]
  split <;> split <;> omega
theorem bndF (x y : Int) : boundI false x y = if x ≤ y then x else y := by
  simp only [boundI, Bool.false_eq_true, if_false]
  split <;> split <;> omega
abbrev putE (k n : Int) (l : List E2) : List E2 := consP (k, n) l
theorem bnd_range (b : Bool) {x y : Int} (hx : 0 ≤ x ∧ x ≤ 1000000) (hy : 0 ≤ y ∧ y ≤ 1000000) : 0 ≤ boundI b x y ∧ boundI b x y ≤ 1000000 := by
  cases b with
  | true => rw [bndT]; split <;> omega
  | false => rw [bndF]; split <;> omega
theorem bnd_zero (b : Bool) : boundI b 0 0 = 0 := by cases b <;> rfl
theorem put_law {k n : Int} {l : List E2} (hk : 1 ≤ k) (hn : 0 ≤ n ∧ n ≤ 1000000) (hl : Val l) (hb : ∀ e ∈ l, k < e.1) :
    Val (putE k n l) ∧ (∀ e ∈ putE k n l, k ≤ e.1) ∧ (∀ a, cnt (putE k n l) a = if k = a then n else cnt l a) ∧ (putE k n l).length ≤ l.length + 1 := by
  unfold putE consP
  by_cases h : n > 0
  · simp only [if_pos h]
    refine ⟨val_cons.2 ⟨⟨hk, by show 1 ≤ n; omega, hn.2⟩, hb, hl⟩, fun e he => ?_, fun a => rfl, by simp⟩
    rcases List.mem_cons.1 he with rfl | he
    · exact Int.le_refl _
    · have := hb e he
      omega
  · simp only [if_neg h]
    refine ⟨hl, fun e he => by have := hb e he; omega, fun a => ?_, by omega⟩
    split
    · rename_i ha
      subst ha
      rw [cnt_zero fun e he => by have := hb e he; omega]
      omega
    · rfl
structure MI (b : Bool) (u v r : List E2) : Prop where
  val : Val r
  low : ∀ q, (∀ e ∈ u, q < e.1) → (∀ e ∈ v, q < e.1) → ∀ e ∈ r, q < e.1
  cnt : ∀ a, cnt r a = boundI b (cnt u a) (cnt v a)
  len : r.length ≤ u.length + v.length
theorem mrg_step {b : Bool} {u v u' v' r : List E2} {k p q : Int} (ih : MI b u' v' r) (hk : 1 ≤ k) (hp : 0 ≤ p ∧ p ≤ 1000000) (hq : 0 ≤ q ∧ q ≤ 1000000)
    (hu : ∀ a, cnt u a = if k = a then p else cnt u' a) (hv : ∀ a, cnt v a = if k = a then q else cnt v' a) (lu : ∀ e ∈ u', k < e.1) (lv : ∀ e ∈ v', k < e.1)
    (hl : ∀ q, (∀ e ∈ u, q < e.1) → (∀ e ∈ v, q < e.1) → q < k) (hlen : u'.length + v'.length + 1 ≤ u.length + v.length) : MI b u v (putE k (boundI b p q) r) := by
  have hlow := ih.low k lu lv
  obtain ⟨h1, h2, h3, h4⟩ := put_law hk (bnd_range b hp hq) ih.val hlow
  refine ⟨h1, fun q' a1 a2 e he => by have := h2 e he; have := hl q' a1 a2; omega, fun a => ?_, by have := ih.len; omega⟩
  rw [h3, hu, hv]
  split
  · rfl
  · exact ih.cnt a
theorem cnt_cons (e : E2) (l : List E2) (a : Int) : cnt (e :: l) a = if e.1 = a then e.2 else cnt l a := rfl
theorem cnt_skip {l : List E2} {k : Int} (h : ∀ e ∈ l, k < e.1) (a : Int) : cnt l a = if k = a then 0 else cnt l a := by
  split
  · rename_i ha
    subst ha
    exact cnt_zero fun e he => by have := h e he; omega
  · rfl
theorem mrg_xn (b : Bool) (x : E2) (u : List E2) : mergeI b (x :: u) [] = putE x.1 (boundI b x.2 0) (mergeI b u []) := by rw [mergeI]
theorem mrg_ny (b : Bool) (y : E2) (v : List E2) : mergeI b [] (y :: v) = putE y.1 (boundI b 0 y.2) (mergeI b [] v) := by rw [mergeI]
theorem mrg_lt (b : Bool) (x y : E2) (u v : List E2) (h : x.1 < y.1) : mergeI b (x :: u) (y :: v) = putE x.1 (boundI b x.2 0) (mergeI b u (y :: v)) := by rw [mergeI, if_pos h]
theorem mrg_gt (b : Bool) (x y : E2) (u v : List E2) (h : ¬ x.1 < y.1) (h2 : y.1 < x.1) : mergeI b (x :: u) (y :: v) = putE y.1 (boundI b 0 y.2) (mergeI b (x :: u) v) := by rw [mergeI, if_neg h, if_pos h2]
theorem mrg_eq (b : Bool) (x y : E2) (u v : List E2) (h : ¬ x.1 < y.1) (h2 : ¬ y.1 < x.1) : mergeI b (x :: u) (y :: v) = putE x.1 (boundI b x.2 y.2) (mergeI b u v) := by rw [mergeI, if_neg h, if_neg h2]
theorem mrg_law (b : Bool) : ∀ (n : Nat) (u v : List E2), u.length + v.length = n → Val u → Val v → MI b u v (mergeI b u v) := by
  intro n
  induction n using Nat.strongRecOn with
  | _ n ih =>
    intro u v hn hu hv
    match u, v, hu, hv with
    | [], [], _, _ =>
      rw [mergeI]
      exact ⟨val_nil, (fun _ _ _ e he => by cases he), (fun a => (bnd_zero b).symm), by simp⟩
    | x :: u, [], hu, _ =>
      obtain ⟨g, hx, hu'⟩ := val_cons.1 hu
      rw [mrg_xn]
      exact mrg_step (ih (u.length + 0) (by simp at hn; omega) u [] rfl hu' val_nil) g.1 ⟨by have := g.2.1; omega, g.2.2⟩ (by omega) (cnt_cons x u) (fun a => by split <;> rfl) hx (fun e he => by cases he) (fun q h _ => h x (by simp)) (by simp)
    | [], y :: v, _, hv =>
      obtain ⟨g, hy, hv'⟩ := val_cons.1 hv
      rw [mrg_ny]
      exact mrg_step (ih (0 + v.length) (by simp at hn; omega) [] v (by simp) val_nil hv') g.1 (by omega) ⟨by have := g.2.1; omega, g.2.2⟩ (fun a => by split <;> rfl) (cnt_cons y v) (fun e he => by cases he) hy (fun q _ h => h y (by simp)) (by simp)
    | x :: u, y :: v, hu, hv =>
      obtain ⟨gx, hx, hu'⟩ := val_cons.1 hu
      obtain ⟨gy, hy, hv'⟩ := val_cons.1 hv
      simp only [List.length_cons] at hn
      by_cases h1 : x.1 < y.1
      · rw [mrg_lt b x y u v h1]
        have lv : ∀ e ∈ y :: v, x.1 < e.1 := fun e he => by
          rcases List.mem_cons.1 he with rfl | he
          · exact h1
          · have := hy e he
            omega
        exact mrg_step (ih (u.length + (v.length + 1)) (by omega) u (y :: v) (by simp) hu' hv) gx.1 ⟨by have := gx.2.1; omega, gx.2.2⟩ (by omega) (cnt_cons x u) (cnt_skip lv) hx lv (fun q h _ => h x (by simp)) (by simp; omega)
      · by_cases h2 : y.1 < x.1
        · rw [mrg_gt b x y u v h1 h2]
          have lu : ∀ e ∈ x :: u, y.1 < e.1 := fun e he => by
            rcases List.mem_cons.1 he with rfl | he
            · exact h2
            · have := hx e he
              omega
          exact mrg_step (ih ((u.length + 1) + v.length) (by omega) (x :: u) v (by simp) hu hv') gy.1 (by omega) ⟨by have := gy.2.1; omega, gy.2.2⟩ (cnt_skip lu) (cnt_cons y v) lu hy (fun q _ h => h y (by simp)) (by simp; omega)
        · have he : x.1 = y.1 := by omega
          rw [mrg_eq b x y u v h1 h2]
          exact mrg_step (ih (u.length + v.length) (by omega) u v rfl hu' hv') gx.1 ⟨by have := gx.2.1; omega, gx.2.2⟩ ⟨by have := gy.2.1; omega, gy.2.2⟩ (cnt_cons x u) (fun a => by rw [cnt_cons, he]) hx (fun e h => by have := hy e h; omega) (fun q h _ => h x (by simp)) (by simp; omega)
theorem mrg_is (b : Bool) {u v : List E2} (hu : Val u) (hv : Val v) : MI b u v (mergeI b u v) := mrg_law b _ u v rfl hu hv
def wth (a c : Int) : Bool → List E2 → List E2
  | d, [] => if d then [] else [(a, c)]
  | d, e :: l => if d = false ∧ e.1 ≥ a then (a, c) :: (if e.1 = a then wth a c true l else e :: wth a c true l) else if e.1 = a then wth a c d l else e :: wth a c d l
theorem wth_true (a c : Int) : ∀ {l : List E2}, Val l → Val (wth a c true l) ∧ (∀ q, (∀ e ∈ l, q < e.1) → ∀ e ∈ wth a c true l, q < e.1) ∧ (∀ x, cnt (wth a c true l) x = if x = a then 0 else cnt l x) ∧ (wth a c true l).length ≤ l.length
  | [], _ => by
    simp [wth, val_nil, cnt]
  | e :: l, h => by
    obtain ⟨g, hx, h'⟩ := val_cons.1 h
    obtain ⟨i1, i2, i3, i4⟩ := wth_true a c h'
    have hd : ¬ (true = false ∧ e.1 ≥ a) := fun k => by cases k.1
    unfold wth
    rw [if_neg hd]
    split
    · rename_i he
      refine ⟨i1, fun q hq => i2 q fun e' he' => hq e' (by simp [he']), fun x => ?_, by simp; omega⟩
      rw [i3, cnt_cons, he]
      split
      · rfl
      · rw [if_neg (by omega)]
    · rename_i he
      refine ⟨val_cons.2 ⟨g, i2 _ hx, i1⟩, fun q hq e' he' => ?_, fun x => ?_, by simp; omega⟩
      · rcases List.mem_cons.1 he' with rfl | he'
        · exact hq _ (by simp)
        · exact i2 q (fun e' he' => hq e' (by simp [he'])) e' he'
      · rw [cnt_cons, cnt_cons, i3]
        by_cases hxa : x = a
        · subst hxa
          rw [if_neg he, if_pos rfl, if_pos rfl]
        · rw [if_neg hxa, if_neg hxa]
theorem wth_false {a c : Int} (ha : 1 ≤ a) (hc : 1 ≤ c ∧ c ≤ 1000000) : ∀ {l : List E2}, Val l → Val (wth a c false l) ∧ (∀ q, q < a → (∀ e ∈ l, q < e.1) → ∀ e ∈ wth a c false l, q < e.1) ∧ (∀ x, cnt (wth a c false l) x = if x = a then c else cnt l x) ∧ (wth a c false l).length ≤ l.length + 1
  | [], _ => by
    have e : wth a c false [] = [(a, c)] := by simp [wth]
    rw [e]
    refine ⟨val_cons.2 ⟨⟨ha, hc.1, hc.2⟩, (fun e he => by cases he), val_nil⟩, fun q hq _ e he => ?_, fun x => ?_, by simp⟩
    · rw [List.mem_singleton.1 he]
      exact hq
    · show (if a = x then c else 0) = if x = a then c else 0
      split <;> split <;> omega
  | e :: l, h => by
    obtain ⟨g, hx, h'⟩ := val_cons.1 h
    unfold wth
    by_cases hge : e.1 ≥ a
    · rw [if_pos ⟨rfl, hge⟩]
      obtain ⟨i1, i2, i3, i4⟩ := wth_true a c h'
      have i5 := i2 _ hx
      split
      · rename_i he
        refine ⟨val_cons.2 ⟨⟨ha, hc.1, hc.2⟩, fun e' he' => by have := i5 e' he'; show a < _; omega, i1⟩, fun q hq _ e' he' => ?_, fun x => ?_, by simp; omega⟩
        · rcases List.mem_cons.1 he' with rfl | he'
          · exact hq
          · have := i5 e' he'
            omega
        · rw [cnt_cons, i3, cnt_cons, he]
          by_cases hxa : x = a
          · subst hxa
            rw [if_pos rfl, if_pos rfl]
          · rw [if_neg (by show ¬ a = x; omega), if_neg hxa, if_neg hxa, if_neg (by omega)]
      · rename_i he
        refine ⟨val_cons.2 ⟨⟨ha, hc.1, hc.2⟩, fun e' he' => ?_, val_cons.2 ⟨g, i5, i1⟩⟩, fun q hq hl e' he' => ?_, fun x => ?_, by simp; omega⟩
        · show a < _
          rcases List.mem_cons.1 he' with rfl | he'
          · omega
          · have := i5 e' he'
            omega
        · rcases List.mem_cons.1 he' with rfl | he'
          · exact hq
          · rcases List.mem_cons.1 he' with rfl | he'
            · omega
            · have := i5 e' he'
              omega
        · rw [cnt_cons, cnt_cons, i3, cnt_cons]
          by_cases hxa : x = a
          · subst hxa
            rw [if_pos rfl, if_pos rfl]
          · rw [if_neg (by show ¬ a = x; omega), if_neg hxa, if_neg hxa]
    · rw [if_neg fun k => hge k.2, if_neg (by omega)]
      obtain ⟨i1, i2, i3, i4⟩ := wth_false ha hc h'
      refine ⟨val_cons.2 ⟨g, i2 _ (by omega) hx, i1⟩, fun q hq hl e' he' => ?_, fun x => ?_, by simp; omega⟩
      · rcases List.mem_cons.1 he' with rfl | he'
        · exact hl _ (by simp)
        · exact i2 q hq (fun e' he' => hl e' (by simp [he'])) e' he'
      · rw [cnt_cons, cnt_cons, i3]
        by_cases hxa : x = a
        · subst hxa
          rw [if_neg (by omega), if_pos rfl, if_pos rfl]
        · rw [if_neg hxa, if_neg hxa]

end Go.Proofs.YtphlhadgcfndhaaGreatDoor.Abs
end
section
namespace Go.Proofs.YtphlhadgcfndhaaGreatDoor.Abs
open Go Go.RowKit
set_option linter.unusedVariables false
set_option linter.unusedSimpArgs false
set_option maxHeartbeats 4000000
theorem take_eq_step {α : Type} {a b : List α} {j : Nat} {x y : α} (hx : a[j]? = some x) (hy : b[j]? = some y) (ht : a.take j = b.take j) (h : x = y) : a.take (j + 1) = b.take (j + 1) := by
  rw [List.take_add_one, List.take_add_one, hx, hy, ht, h]
theorem rle_pure (a b : V2) (hla : a.length < 1000000000000) (hl : b.length < 1000000000000) : Pure Tryz.prog 35 [.c (encV a), .c (encV b)] (.c (cB (leI a b))) := by
  refine pure_of teOk Tryz.func35 (by kernel_rfl) (c := _) rfl (N := 25) rfl (rs := [Go.ResultVar.tmp 4]) rfl (by simp) fun base A w0 hA => ?_
  refine AW.st teOk [] (by simp [-Option.some.injEq] <;> rfl) trivial ?_
  refine AW.seq ?_
  refine AW.st teOk [] (by simp [-Option.some.injEq] <;> rfl) trivial ?_
  refine AW.block (AW.loop (fun m s => ∃ j : Nat, m = a.length - j ∧ j ≤ a.length ∧ leI a b = leI (a.drop j) b ∧ s = ⟨[(0, .c (encV a)), (1, .c (encV b)), (5, .c (cI j))], [], 0⟩) _ (Weak.normT hA [0, 1, 5] [] [] 0 _ (by simp) (by simp) (by simp)) ⟨0, rfl, Nat.zero_le _, rfl, by simp⟩ ?_)
  rintro m s ⟨j, rfl, hj, hle, rfl⟩
  refine AW.seq ?_
  refine AW.st teOk [] (by simp [-Option.some.injEq] <;> rfl) trivial ?_
  refine AW.iff (decide (j < a.length)) (by simp) (fun h => AW.skip ?_) (fun h => AW.exit (x_then (x_then (blockA_exit ?_))))
  · rw [decide_eq_true_eq] at h
    obtain ⟨e, he⟩ : ∃ e, a[j]? = some e := ⟨_, List.getElem?_eq_getElem h⟩
    have hd : a.drop j = e :: a.drop (j + 1) := by
      rw [List.drop_eq_getElem_cons h, (List.getElem?_eq_some_iff.1 he).2]
    refine AW.seq (AW.block ?_)
    refine AW.dr mixed teOk [.c (cI (countI b e.1))] (by simp [he, -Option.some.injEq] <;> rfl) (by kernel_rfl) (by kernel_rfl) ?_ ?_
    · simp [allP]
      exact ⟨by omega, rcount_pure b e.1 hl⟩
    by_cases hc : e.2 > countI b e.1
    · refine AW.iff true (by simp [hc]) (fun _ => ?_) (fun h => by cases h)
      refine AW.st teOk [] (by simp [-Option.some.injEq] <;> rfl) trivial ?_
      refine AW.ret ⟨.inr rfl, _, Weak.refl _, ?_⟩
      rw [hle, hd]
      simp [leI]
      omega
    · refine AW.iff false (by simp; omega) (fun h => by cases h) (fun _ => AW.skip ?_)
      refine AW.text teOk (ans := []) (by simp [-Option.some.injEq] <;> rfl) ?_ ?_
      · trivial
      refine ⟨_, _, Weak.normT hA [0, 1, 5] [] [] 0 _ (by simp) (by simp) (by simp), ?_, j + 1, rfl, h, ?_, ?_⟩
      · omega
      · rw [hle, hd, leI, List.all_cons, decide_eq_true (by omega), Bool.true_and]
        rfl
      · simp
        exact wrap_s j (by omega)
  · rw [decide_eq_false_iff_not] at h
    refine AW.st teOk [] (by simp [-Option.some.injEq] <;> rfl) trivial ?_
    refine AW.ret ⟨.inr rfl, _, Weak.refl _, ?_⟩
    rw [hle, List.drop_eq_nil_of_le (by omega)]
    simp [leI]
def rinsN (a : Int) : Bool → List Int → List Int
  | put, [] => if put = true then [] else [a]
  | put, e :: l => (if put = false ∧ a ≤ e then [a] else []) ++ ((if e = a then [] else [e]) ++ rinsN a (put || decide (a ≤ e)) l)
theorem rinsN_true (a : Int) : ∀ l : List Int, (∀ x ∈ l, x ≠ a) → rinsN a true l = l
  | [], _ => rfl
  | e :: l, h => by
    rw [rinsN, if_neg (by simp), if_neg (h e (by simp)), Bool.true_or, rinsN_true a l fun x hx => h x (by simp [hx])]
    rfl
theorem rins_is (a : Int) : ∀ l : List Int, AscN l → rinsN a false l = insN l a
  | [], _ => by simp [rinsN, insN, hasN, posN]
  | e :: l, h => by
    obtain ⟨h1, h2⟩ := List.pairwise_cons.1 h
    rw [rinsN]
    by_cases hae : a ≤ e
    · have hl : ∀ x ∈ l, x ≠ a := fun x hx => by have := h1 x hx; omega
      rw [if_pos ⟨rfl, hae⟩, decide_eq_true hae, Bool.or_true, rinsN_true a l hl]
      by_cases he : e = a
      · subst he
        simp [insN, hasN]
      · have hh : hasN (e :: l) a = false := by
          simp [hasN, he]
          exact fun x hx => hl x hx
        have hp : posN (e :: l) a = 0 := by
          unfold posN
          rw [List.countP_eq_zero]
          intro x hx
          simp
          rcases List.mem_cons.1 hx with rfl | hx
          · omega
          · have := h1 x hx; omega
        rw [insN, hh, hp, if_neg he]
        rfl
    · have he : e ≠ a := by omega
      rw [if_neg (by simp [hae]), if_neg he, decide_eq_false hae, Bool.or_false, rins_is a l h2]
      have hh : hasN (e :: l) a = hasN l a := by simp [hasN, he]
      have hp : posN (e :: l) a = posN l a + 1 := by
        unfold posN
        rw [List.countP_cons_of_pos (by simp; omega)]
      unfold insN
      rw [hh, hp]
      by_cases hx : hasN l a = true
      · rw [if_pos hx, if_pos hx]; rfl
      · rw [if_neg hx, if_neg hx]; rfl
theorem rins_pure (v : List Int) (a : Int) (hv : AscN v) (hl : v.length < 100000000000) : Pure Tryz.prog 94 [.c (encIs v), .c (cI a)] (.c (encIs (insN v a))) := by
  rw [← rins_is a v hv]
  refine pure_of teOk Tryz.func94 (by kernel_rfl) (c := _) rfl (N := 48) rfl (rs := [Go.ResultVar.tmp 4]) rfl (by simp) fun base A w0 hA => ?_
  refine AW.st teOk [] (by simp [-Option.some.injEq] <;> rfl) trivial ?_
  refine AW.st teOk [] (by simp [-Option.some.injEq] <;> rfl) trivial ?_
  refine AW.weak (Weak.nil 5 1 _ (by simp <;> rfl)) ?_
  refine AW.st teOk [] (by simp [-Option.some.injEq] <;> rfl) trivial ?_
  refine AW.seq ?_
  refine AW.st teOk [] (by simp [-Option.some.injEq] <;> rfl) trivial ?_
  refine AW.block (AW.loop (fun m s => ∃ j o put, m = v.length - j ∧ j ≤ v.length ∧ o.length ≤ 2 * j ∧ rinsN a false v = o ++ rinsN a put (v.drop j) ∧ s = ⟨[(0, .c (encIs v)), (1, .c (cI a)), (5, .c (.ref 0 0 o.length)), (6, .c (cB put)), (7, .c (cI j))], [(0, ⟨1, o.map encn⟩)], 1⟩) _ (Weak.normT hA [0, 1, 5, 6, 7] [(5, 0)] [] 1 _ (by simp) (by simp) (by simp)) ⟨0, [], false, rfl, Nat.zero_le _, by simp, rfl, by simp⟩ ?_)
  rintro m s ⟨j, o, put, rfl, hj, ho, hw, rfl⟩
  refine AW.seq ?_
  refine AW.st teOk [] (by simp [-Option.some.injEq] <;> rfl) trivial ?_
  refine AW.iff (decide (j < v.length)) (by simp) (fun h => AW.skip ?_) (fun h => AW.exit (x_then (x_then (blockA_exit ?_))))
  · rw [decide_eq_true_eq] at h
    obtain ⟨e, he⟩ : ∃ e, v[j]? = some e := ⟨_, List.getElem?_eq_getElem h⟩
    have hd : v.drop j = e :: v.drop (j + 1) := by
      rw [List.drop_eq_getElem_cons h, (List.getElem?_eq_some_iff.1 he).2]
    refine AW.seq (AW.block ?_)
    rw [hd, rinsN] at hw
    refine AW.mid (fun s => ∃ o', o' = o ++ (if put = false ∧ a ≤ e then [a] else []) ∧ s = ⟨[(0, .c (encIs v)), (1, .c (cI a)), (5, .c (.ref 0 0 o'.length)), (6, .c (cB (put || decide (a ≤ e)))), (7, .c (cI j))], [(0, ⟨1, o'.map encn⟩)], 1⟩) ?_ ?_
    · cases put with
      | true =>
        refine AW.st teOk [] (by simp [-Option.some.injEq] <;> rfl) trivial ?_
        exact AW.iff false (by simp) (fun h => by cases h) (fun _ => AW.skip ⟨_, Weak.normT hA [0, 1, 5, 6, 7] [(5, 0)] [] 1 _ (by simp) (by simp) (by simp), o, by simp, by simp⟩)
      | false =>
        refine AW.st teOk [] (by simp [he, -Option.some.injEq] <;> rfl) ?_ ?_
        · first | trivial | omega | (simp [allP, growOk] <;> omega)
        by_cases hge : a ≤ e
        · refine AW.iff true (by simp [hge]) (fun _ => ?_) (fun h => by cases h)
          refine AW.st teOk [] (by simp [-Option.some.injEq] <;> rfl) ?_ ?_
          · simp [growOk]
            omega
          refine AW.text teOk (ans := []) (by simp [-Option.some.injEq] <;> rfl) ?_ ?_
          · trivial
          exact ⟨_, Weak.normT hA [0, 1, 5, 6, 7] [(5, 0)] [] 1 _ (by simp) (by simp) (by simp), o ++ [a], by simp [hge], by simp [hge]⟩
        · refine AW.iff false (by simp; omega) (fun h => by cases h) (fun _ => AW.skip ?_)
          exact ⟨_, Weak.normT hA [0, 1, 5, 6, 7] [(5, 0)] [] 1 _ (by simp) (by simp) (by simp), o, by simp [hge], by simp [hge]⟩
    · rintro s ⟨o', ho', rfl⟩
      have ho2 : o'.length ≤ 2 * j + 1 := by
        rw [ho', List.length_append]
        split <;> simp <;> omega
      refine AW.st teOk [] (by simp [he, -Option.some.injEq] <;> rfl) ?_ ?_
      · first | trivial | omega | (simp [allP, growOk] <;> omega)
      by_cases hne : e = a
      · refine AW.iff false (by simp [hne]) (fun h => by cases h) (fun _ => AW.skip ?_)
        refine AW.text teOk (ans := []) (by simp [-Option.some.injEq] <;> rfl) ?_ ?_
        · trivial
        refine ⟨_, _, Weak.normT hA [0, 1, 5, 6, 7] [(5, 0)] [] 1 _ (by simp) (by simp) (by simp), ?_, j + 1, o', put || decide (a ≤ e), rfl, h, ?_, ?_, ?_⟩
        · omega
        · omega
        · rw [hw, ho', if_pos hne, List.append_assoc]; rfl
        · simp
          exact wrap_s j (by omega)
      · refine AW.iff true (by simp [hne]) (fun _ => ?_) (fun h => by cases h)
        refine AW.text teOk (ans := []) (by simp [he, -Option.some.injEq] <;> rfl) ?_ ?_
        · simp [growOk]
          omega
        refine AW.text teOk (ans := []) (by simp [-Option.some.injEq] <;> rfl) ?_ ?_
        · trivial
        refine ⟨_, _, Weak.normT hA [0, 1, 5, 6, 7] [(5, 0)] [] 1 _ (by simp) (by simp) (by simp), ?_, j + 1, o' ++ [e], put || decide (a ≤ e), rfl, h, ?_, ?_, ?_⟩
        · omega
        · simp; omega
        · rw [hw, ho', if_neg hne, List.append_assoc, List.append_assoc]
        · simp
          exact wrap_s j (by omega)
  · rw [decide_eq_false_iff_not] at h
    have hjl : j = v.length := by omega
    subst hjl
    rw [List.drop_length, rinsN] at hw
    refine AW.mid (fun s => ∃ o', o' = rinsN a false v ∧ s = ⟨[(5, .c (.ref 0 0 o'.length))], [(0, ⟨1, o'.map encn⟩)], 1⟩) ?_ ?_
    · cases put with
      | true =>
        refine AW.st teOk [] (by simp [-Option.some.injEq] <;> rfl) trivial ?_
        exact AW.iff false (by simp) (fun h => by cases h) (fun _ => AW.skip ⟨_, Weak.normT hA [5] [(5, 0)] [] 1 _ (by simp) (by simp) (by simp), o, by simpa using hw.symm, by simp⟩)
      | false =>
        refine AW.st teOk [] (by simp [-Option.some.injEq] <;> rfl) trivial ?_
        refine AW.iff true (by simp) (fun _ => ?_) (fun h => by cases h)
        refine AW.text teOk (ans := []) (by simp [-Option.some.injEq] <;> rfl) ?_ ?_
        · simp [growOk]
          omega
        exact ⟨_, Weak.normT hA [5] [(5, 0)] [] 1 _ (by simp) (by simp) (by simp), o ++ [a], by simpa using hw.symm, by simp⟩
    · rintro s ⟨o', rfl, rfl⟩
      refine AW.st teOk [] (by simp [-Option.some.injEq] <;> rfl) trivial ?_
      refine AW.ret ⟨.inr rfl, _, Weak.frzT 4 [] _ (by simp <;> exact ⟨rfl, rfl, rfl⟩) (by simp <;> rfl) (flat_encn _), ?_⟩
      simp
end Go.Proofs.YtphlhadgcfndhaaGreatDoor.Abs
end
section
namespace Go.Proofs.YtphlhadgcfndhaaGreatDoor.Abs
open Go Go.RowKit
set_option linter.unusedVariables false
set_option linter.unusedSimpArgs false
set_option maxHeartbeats 4000000
def valGo : Option Int → V2 → Int
  | _, [] => 0
  | p, e :: l => if e.1 < 1 ∨ e.2 < 1 ∨ e.2 > 1000000 then 9 else if (p.any fun q => decide (q ≥ e.1)) = true then 7 else valGo (some e.1) l
def valI (v : V2) : Int := valGo none v
def prevI (v : V2) (j : Nat) : Option Int := if j = 0 then none else (v[j - 1]?).map (·.1)
theorem sub_s (j : Nat) (h : 0 < j) (h2 : j < 1000000000000) : IntKind.i64.wrap ((j : Int) - 1) = ((j - 1 : Nat) : Int) := by
  rw [IntKind.wrap_i64]; omega
def okI (v : V2) : Bool := decide (v.length ≤ 30) && (valI v == 0)
theorem accept1_pure (v x : V2) (hx : Asc x) (hb : v.length + x.length < 10000000000) : Pure Tryz.prog 74 [.agg [encV v], .c (encV x)] (.tup [.agg [encV (mergeI true (self v) x)], .c (cB (leI (self v) x))]) := by
  refine pure_of teOk Tryz.func74 (by kernel_rfl) (c := _) rfl (N := 18) rfl (rs := [Go.ResultVar.cell 4 89, Go.ResultVar.tmp 5]) rfl (by simp) fun base A w0 hA => ?_
  refine AW.st teOk [] (by simp [-Option.some.injEq] <;> rfl) trivial ?_
  refine AW.st teOk [.fz (.tup [.agg [encV (accI (self v) [x]).1], .c (encBs (accI (self v) [x]).2)])] (by simp [-Option.some.injEq] <;> rfl) ?_ ?_
  · exact (accept_pure v [x] (by simpa using hx) (by simp [totI]; omega) (by simp)).le (.cons (.refl _) (.cons (.c (.loose 1 true [encC x])) .nil)) (.refl _)
  refine AW.dr mixed teOk [] (by simp [-Option.some.injEq] <;> rfl) (by kernel_rfl) (by kernel_rfl) ?_ ?_
  · simp [allP, accI]
  refine AW.ret ⟨.inr rfl, _, Weak.refl _, ?_⟩
  simp [accI]
end Go.Proofs.YtphlhadgcfndhaaGreatDoor.Abs
end
section
namespace Go.Proofs.YtphlhadgcfndhaaGreatDoor.Abs
open Go Go.RowKit
set_option linter.unusedVariables false
set_option linter.unusedSimpArgs false
set_option maxHeartbeats 4000000
theorem asc1 (e : E2) : Asc [e] := by simp [Asc]
def chainGo (v : V2) : List V2 → List V2
  | [] => []
  | x :: l => rjoinI v x :: chainGo (rjoinI v x) l
theorem rjoinI_length (b : V2) : ∀ a : V2, (rjoinI a b).length ≤ a.length + b.length := by
  induction b with
  | nil => intro a; exact Nat.le_refl _
  | cons e b ih =>
    intro a
    have h1 := ih (stepI a e)
    have h2 := stepI_length a e
    show (rjoinI (stepI a e) b).length ≤ _
    rw [List.length_cons]
    omega
theorem valGo_ok : ∀ (v : V2) (p : Option Int), valGo p v = 0 → Okv v ∧ Asc v ∧ ∀ q, p = some q → ∀ e ∈ v, q < e.1
  | [], p, _ => ⟨fun e he => (by cases he), List.Pairwise.nil, fun q _ e he => (by cases he)⟩
  | e :: l, p, h => by
    rw [valGo] at h
    split at h
    · cases h
    · rename_i hb
      split at h
      · cases h
      · rename_i hp
        obtain ⟨h1, h2, h3⟩ := valGo_ok l (some e.1) h
        have h4 := h3 e.1 rfl
        refine ⟨fun x hx => ?_, List.Pairwise.cons h4 h2, fun q hq x hx => ?_⟩
        · rcases List.mem_cons.1 hx with rfl | hx
          · omega
          · exact h1 x hx
        · subst hq
          simp at hp
          rcases List.mem_cons.1 hx with rfl | hx
          · exact hp
          · have := h4 x hx
            omega
theorem okI_ok {v : V2} (h : okI v = true) : v.length ≤ 30 ∧ Okv v ∧ Asc v := by
  unfold okI at h
  rw [Bool.and_eq_true, decide_eq_true_eq, beq_iff_eq] at h
  obtain ⟨h1, h2, _⟩ := valGo_ok v none h.2
  exact ⟨h.1, h1, h2⟩
theorem count_cnt : ∀ (v : V2) (a : Int), countI v a = cnt v a
  | [], a => rfl
  | e :: l, a => by
    have ih := count_cnt l a
    unfold countI at ih ⊢
    rw [List.find?_cons, cnt]
    by_cases h : e.1 = a
    · simp [h]
    · simp only [decide_eq_false h, if_neg h]
      exact ih
theorem leI_iff (u v : V2) : leI u v = true ↔ ∀ e ∈ u, e.2 ≤ cnt v e.1 := by
  unfold leI
  rw [List.all_eq_true]
  simp only [decide_eq_true_eq, count_cnt]
theorem withI_wth (a c : Int) : ∀ (l : V2) (d : Bool), withI a c d l = wth a c d l
  | [], d => by cases d <;> simp [withI, wth]
  | e :: l, d => by
    rw [withI, wth, withI_wth]
    cases d with
    | true => simp; split <;> simp_all
    | false =>
      by_cases h : a ≤ e.1
      · simp [h]
        split <;> simp
      · have hne : ¬ e.1 = a := by omega
        simp [h, hne]
theorem val_of {v : V2} (h1 : Okv v) (h2 : Asc v) : Val v := ⟨h1, h2⟩
theorem step_law {a : V2} (ha : Val a) {e : E2} (he : Good e) : Val (stepI a e) ∧ ∀ x, cnt (stepI a e) x = if x = e.1 then (if cnt a x ≤ e.2 then e.2 else cnt a x) else cnt a x := by
  unfold Good at he
  unfold stepI
  rw [count_cnt]
  split
  · rename_i h
    have h0 : (e.2 == 0) = false := by simp; omega
    rw [h0, withI_wth]
    obtain ⟨i1, _, i3, _⟩ := wth_false he.1 ⟨he.2.1, he.2.2⟩ ha
    refine ⟨i1, fun x => ?_⟩
    rw [i3]
    split
    · rename_i hx
      subst hx
      rw [if_pos (by omega)]
    · rfl
  · rename_i h
    refine ⟨ha, fun x => ?_⟩
    split
    · rename_i hx
      subst hx
      split <;> omega
    · rfl
theorem rjoin_law : ∀ (b a : V2), Val a → Val b → Val (rjoinI a b) ∧ ∀ x, cnt (rjoinI a b) x = boundI true (cnt a x) (cnt b x)
  | [], a, ha, _ => ⟨ha, fun x => by
    have := (cnt_range (a := x) ha.1).1
    rw [bndT]
    show cnt a x = if cnt a x ≤ 0 then 0 else cnt a x
    split <;> omega⟩
  | e :: b, a, ha, hb => by
    obtain ⟨g, hx, hb'⟩ := val_cons.1 hb
    obtain ⟨s1, s2⟩ := step_law ha g
    obtain ⟨r1, r2⟩ := rjoin_law b (stepI a e) s1 hb'
    refine ⟨r1, fun x => ?_⟩
    show cnt (rjoinI (stepI a e) b) x = _
    rw [r2, s2, bndT, bndT, cnt_cons]
    have g' := g
    unfold Good at g'
    by_cases h : x = e.1
    · subst h
      have h0 : cnt b e.1 = 0 := cnt_zero fun q hq => by have := hx q hq; omega
      rw [if_pos rfl, if_pos rfl, h0]
      have := (cnt_range (a := e.1) ha.1).1
      split <;> split <;> omega
    · rw [if_neg h, if_neg (Ne.symm h)]
theorem merge_up {v w : V2} (hv : Val v) (hw : Val w) (h : ∀ x, cnt v x ≤ cnt w x) : mergeI true v w = w := by
  have m := mrg_is true hv hw
  refine ext_cnt m.val hw fun a => ?_
  rw [m.cnt, bndT]
  have := h a
  split <;> omega
theorem chain_all : ∀ (l : List V2) (v : V2), Val v → (∀ x ∈ l, Val x) → (∀ x ∈ chainGo v l, Asc x) ∧ (chainGo v l).length = l.length ∧ (accI v (chainGo v l)).2 = List.replicate l.length true
  | [], v, _, _ => ⟨fun x hx => (by cases hx), rfl, rfl⟩
  | x :: l, v, hv, hl => by
    obtain ⟨r1, r2⟩ := rjoin_law x v hv (hl x (by simp))
    obtain ⟨i1, i2, i3⟩ := chain_all l (rjoinI v x) r1 fun y hy => hl y (by simp [hy])
    have hle : ∀ q, cnt v q ≤ cnt (rjoinI v x) q := fun q => by
      rw [r2, bndT]
      split <;> omega
    refine ⟨fun y hy => ?_, by simp [chainGo, i2], ?_⟩
    · rcases List.mem_cons.1 hy with rfl | hy
      · exact r1.2
      · exact i1 y hy
    · have h1 : leI v (rjoinI v x) = true := (leI_iff _ _).2 fun e he => by
        have := hle e.1
        rwa [cnt_mem hv.2 he] at this
      rw [chainGo, accI, h1, merge_up hv r1 hle, i3]
      rfl
theorem chain_tot : ∀ (l : List V2) (v : V2) (M : Nat), (∀ x ∈ l, x.length ≤ 30) → v.length + 30 * l.length ≤ M → totI (chainGo v l) ≤ l.length * M
  | [], v, M, _, _ => by simp [chainGo, totI]
  | x :: l, v, M, hx, hM => by
    have h1 := rjoinI_length x v
    have h2 := hx x (by simp)
    rw [List.length_cons] at hM
    have ih := chain_tot l (rjoinI v x) M (fun y hy => hx y (by simp [hy])) (by omega)
    simp only [chainGo, totI, List.map_cons, List.sum_cons, List.length_cons] at ih ⊢
    rw [Nat.succ_mul]
    omega
theorem chain_facts (l : List V2) (h : ∀ x ∈ l, okI x = true) (hl : l.length ≤ 40) : (∀ x ∈ chainGo [] l, Asc x) ∧ (chainGo [] l).length = l.length ∧ totI (chainGo [] l) < 10000000000 ∧ (accI (self []) (chainGo [] l)).2 = List.replicate l.length true := by
  obtain ⟨i1, i2, i3⟩ := chain_all l [] val_nil fun x hx => by
    obtain ⟨_, h2, h3⟩ := okI_ok (h x hx)
    exact val_of h2 h3
  have ht := chain_tot l [] 1200 (fun x hx => (okI_ok (h x hx)).1) (by simp; omega)
  have hs : self [] = [] := by simp [self, mergeI]
  rw [hs]
  exact ⟨i1, i2, by omega, i3⟩
end Go.Proofs.YtphlhadgcfndhaaGreatDoor.Abs
end
section
namespace Go.Proofs.YtphlhadgcfndhaaGreatDoor.Abs
open Go Go.RowKit
set_option linter.unusedVariables false
set_option linter.unusedSimpArgs false
set_option maxHeartbeats 4000000
structure PrS where
  n : Int
  v : V2
  r : Int
  acks : List Int
  dec : Bool
abbrev encPr (p : PrS) : List Cell := [cI p.n, encV p.v, cI p.r, encIs p.acks, cB p.dec]
structure PrOk (p : PrS) : Prop where
  v : Val p.v
  vl : p.v.length < 1000000000
  asc : AscN p.acks
  al : p.acks.length < 10000000000
  r : 0 ≤ p.r ∧ p.r < 1000000000000
theorem merge_nil {v : V2} (h : Val v) : mergeI true v [] = v := by
  have m := mrg_is true h val_nil
  refine ext_cnt m.val h fun a => ?_
  rw [m.cnt, bndT]
  have := (cnt_range (a := a) h.1).1
  show (if cnt v a ≤ 0 then (0 : Int) else cnt v a) = cnt v a
  split <;> omega
theorem rjoin_merge {a b : V2} (ha : Val a) (hb : Val b) : rjoinI a b = mergeI true a b := by
  obtain ⟨h1, h2⟩ := rjoin_law b a ha hb
  have m := mrg_is true ha hb
  exact ext_cnt h1 m.val fun x => by rw [h2, m.cnt]
def newS (n : Int) (v : V2) : PrS := ⟨n, v, 1, [], false⟩
def nextS (p : PrS) (v : V2) : PrS := ⟨p.n, mergeI true p.v v, p.r + 1, [], false⟩
def recvS (p : PrS) (a r : Int) (v : V2) : PrS × Bool :=
  if p.dec = true ∨ r ≠ p.r ∨ a < 0 ∨ a ≥ p.n then (p, false)
  else if leI v p.v = true then (⟨p.n, p.v, p.r, insN p.acks a, decide (2 * ((insN p.acks a).length : Int) > p.n)⟩, false)
  else (nextS p v, true)
def propS (p : PrS) (v : V2) : PrS := if p.dec = true then nextS p v else p
theorem insN_len (l : List Int) (a : Int) : (insN l a).length ≤ l.length + 1 := by
  unfold insN
  split
  · omega
  · rw [List.length_append, List.length_cons, List.length_take, List.length_drop]
    omega
theorem nil_cell (k : Nat) : LeC (.sc (.slice none 0 0)) (.row k false []) := .nil k
theorem add_one (r : Int) (h : 0 ≤ r ∧ r < 1000000000000) : IntKind.i64.wrap (r + 1) = r + 1 := by rw [IntKind.wrap_i64]; omega
theorem joinN_pure {v : V2} (h : Val v) (hl : v.length < 10000000000) : Pure Tryz.prog 30 [.c (encV v), .c (.sc (.slice none 0 0))] (.c (encV v)) := by
  have := (join_pure v [] (by simp; omega)).le (.cons (.refl _) (.cons (.c (.nil 2)) .nil)) (.refl _)
  rwa [merge_nil h] at this
theorem pnew_pure (n : Int) {v : V2} (h : Val v) (hl : v.length < 10000000000) : Pure Tryz.prog 46 [.c (cI n), .c (encV v)] (.agg (encPr (newS n v))) := by
  refine pure_le teOk Tryz.func46 (by kernel_rfl) (c := _) rfl (N := 9) rfl (rs := [Go.ResultVar.cell 4 109]) rfl (by simp) fun base A w0 hA => ?_
  refine AW.st teOk [] (by simp [-Option.some.injEq] <;> rfl) trivial ?_
  refine AW.st teOk [.fz (.c (encV v))] (by simp [-Option.some.injEq] <;> rfl) ?_ ?_
  · exact joinN_pure h hl
  refine AW.ret ⟨.inr rfl, _, _, Weak.refl _, by simp <;> rfl, ?_⟩
  exact .aggs (.cons (.refl _) (.cons (.refl _) (.cons (.refl _) (.cons (nil_cell 1) (.cons (.refl _) .nil)))))
theorem pclone_pure {p : PrS} (h : PrOk p) : Pure Tryz.prog 99 [.agg (encPr p)] (.agg (encPr p)) := by
  obtain ⟨n, v, r, acks, dec⟩ := p
  have hv := h.v
  have hvl := h.vl
  have hal := h.al
  dsimp only at hv hvl hal
  refine pure_of teOk Tryz.func99 (by kernel_rfl) (c := _) rfl (N := 12) rfl (rs := [Go.ResultVar.cell 2 109]) rfl (by simp) fun base A w0 hA => ?_
  refine AW.st teOk [] (by simp [-Option.some.injEq] <;> rfl) trivial ?_
  refine AW.st teOk [.fz (.c (encV v))] (by simp [-Option.some.injEq] <;> rfl) ?_ ?_
  · exact joinN_pure hv (by omega)
  refine AW.st teOk [.fz (.c (encIs acks))] (by simp [-Option.some.injEq] <;> rfl) ?_ ?_
  · exact cloneN_pure acks (by omega)
  refine AW.st teOk [] (by simp [-Option.some.injEq] <;> rfl) trivial ?_
  refine AW.ret ⟨.inr rfl, _, Weak.refl _, ?_⟩
  simp
theorem pnext_pure {p : PrS} (h : PrOk p) {v : V2} (hl : v.length < 10000000000) : Pure Tryz.prog 100 [.agg (encPr p), .c (encV v)] (.agg (encPr (nextS p v))) := by
  obtain ⟨n, pv, r, acks, dec⟩ := p
  have hvl := h.vl
  have hr := add_one r h.r
  dsimp only at hvl
  refine pure_le teOk Tryz.func100 (by kernel_rfl) (c := _) rfl (N := 15) rfl (rs := [Go.ResultVar.cell 4 109]) rfl (by simp) fun base A w0 hA => ?_
  refine AW.st teOk [] (by simp [-Option.some.injEq] <;> rfl) trivial ?_
  refine AW.dr mixed teOk [.c (encV (mergeI true pv v))] (by simp [hr, -Option.some.injEq] <;> rfl) (by kernel_rfl) (by kernel_rfl) ?_ ?_
  · simp [allP]
    exact join_pure pv v (by omega)
  refine AW.ret ⟨.inr rfl, _, _, Weak.refl _, by simp <;> rfl, ?_⟩
  exact .aggs (.cons (.refl _) (.cons (.refl _) (.cons (.refl _) (.cons (nil_cell 1) (.cons (.refl _) .nil)))))
theorem pprop_pure {p : PrS} (h : PrOk p) {v : V2} (hl : v.length < 10000000000) : Pure Tryz.prog 93 [.agg (encPr p), .c (encV v)] (.agg (encPr (propS p v))) := by
  have p1 := pclone_pure h
  have p2 := pnext_pure h hl
  obtain ⟨n, pv, r, acks, dec⟩ := p
  refine pure_of teOk Tryz.func93 (by kernel_rfl) (c := _) rfl (N := 13) rfl (rs := [Go.ResultVar.cell 4 109]) rfl (by simp) fun base A w0 hA => ?_
  refine AW.st teOk [] (by simp [-Option.some.injEq] <;> rfl) trivial ?_
  refine AW.seq ?_
  refine AW.st teOk [] (by simp [-Option.some.injEq] <;> rfl) trivial ?_
  cases dec with
  | false =>
    refine AW.iff true (by simp) (fun _ => ?_) (fun h => by cases h)
    refine AW.st teOk [.fz (.agg (encPr ⟨n, pv, r, acks, false⟩))] (by simp [-Option.some.injEq] <;> rfl) ?_ ?_
    · exact p1
    refine AW.ret ⟨.inr rfl, _, Weak.refl _, ?_⟩
    simp
    simp [propS]
  | true =>
    refine AW.iff false (by simp) (fun h => by cases h) (fun _ => AW.skip ?_)
    obtain ⟨x, hx⟩ : ∃ x, x = nextS ⟨n, pv, r, acks, true⟩ v := ⟨_, rfl⟩
    rw [show propS ⟨n, pv, r, acks, true⟩ v = x by rw [hx]; rfl]
    rw [← hx] at p2
    obtain ⟨n', pv', r', acks', dec'⟩ := x
    refine AW.st teOk [.fz (.agg (encPr ⟨n', pv', r', acks', dec'⟩))] (by simp [-Option.some.injEq] <;> rfl) ?_ ?_
    · exact p2
    refine AW.ret ⟨.inr rfl, _, Weak.refl _, ?_⟩
    simp
end Go.Proofs.YtphlhadgcfndhaaGreatDoor.Abs
end
