/- What the functions of the package vector and of its reference answer, said of plain lists of entries. -/
import Derived.Test.YtknkdbleeaaleaaPrint2
import Derived.Test.YtknkdbleeaaleaaPrint4
import Derived.Test.YtknkdbleeaaleaaPrint6
import Derived.Test.YtknkdbleeaaleaaPrint9
import Derived.Test.YtknkdbleeaaleaaPrint13
import Derived.Test.YtknkdbleeaaleaaMerge
namespace Go.Proofs.Ytknkdbleeaaleaa.Pure
open Go.RowKit Go.Proofs.Ytknkdbleeaaleaa.Print Go.Proofs.YtknkdbleeaaleaaW.PrintWords Go.Proofs.YtknkdbleeaaleaaW.PrintLast Go.Proofs.YtknkdbleeaaleaaW.PrintMore

/-! ### fuel -/
/-- With fuel enough, the answer is r. -/
def Ev {α : Type} (F : Nat → Option α) (r : α) : Prop := ∃ K, ∀ k, K ≤ k → F k = some r
theorem Ev.const {α : Type} {F : Nat → Option α} {r : α} (h : ∀ k, F k = some r) : Ev F r := ⟨0, fun k _ => h k⟩
theorem Ev.bind {α β : Type} {F : Nat → Option α} {G : α → Nat → Option β} {a : α} {r : β} (hF : Ev F a) (hG : Ev (G a) r) : Ev (fun k => (F k).bind fun t => G t k) r := by
  obtain ⟨K, hK⟩ := hF
  obtain ⟨J, hJ⟩ := hG
  refine ⟨K + J, fun k hk => ?_⟩
  show (F k).bind _ = _
  rw [hK k (by omega)]
  exact hJ k (by omega)
theorem Ev.suc {α : Type} {F : Nat → Option α} {r : α} (h : Ev (fun k => F (k + 1)) r) : Ev F r := by
  obtain ⟨K, hK⟩ := h
  refine ⟨K + 1, fun k hk => ?_⟩
  obtain ⟨j, rfl⟩ : ∃ j, k = j + 1 := ⟨k - 1, by omega⟩
  exact hK j (by omega)
theorem Ev.congr {α : Type} {F G : Nat → Option α} {r : α} (h : ∀ k, G k = F k) (hF : Ev F r) : Ev G r := by
  obtain ⟨K, hK⟩ := hF
  exact ⟨K, fun k hk => (h k).trans (hK k hk)⟩
theorem Ev.val {α : Type} {F : Nat → Option α} {r s : α} (hF : Ev F r) (h : r = s) : Ev F s := h ▸ hF
theorem Ev.some {α : Type} (r : α) : Ev (fun _ => Option.some r) r := ⟨0, fun _ _ => rfl⟩

/-! ### numbers and places -/
theorem w64 {n : Int} (h0 : -9223372036854775808 ≤ n) (h1 : n ≤ 9223372036854775807) : wrap64 n = n := by unfold wrap64; omega
theorem wS (i : Nat) (h : i < 4611686018427387904) : wrap64 ((i : Int) + 1) = ((i + 1 : Nat) : Int) := by rw [w64 (by omega) (by omega)]; omega
theorem rdN {xs : List S69} {i : Nat} (h : i < xs.length) : rd_T69 xs (i : Int) = xs[i] := by
  unfold rd_T69
  simp [List.getD_eq_getElem?_getD, h]
theorem rdL {xs : List (List S69)} {i : Nat} (h : i < xs.length) : rd_L2 xs (i : Int) = xs[i] := by
  unfold rd_L2
  simp [List.getD_eq_getElem?_getD, h]
theorem dropC {α : Type} {xs : List α} {i : Nat} (h : i < xs.length) : xs.drop i = xs[i] :: xs.drop (i + 1) := List.drop_eq_getElem_cons h

/-! ### vectors -/
def cnt : List S69 → Int → Int
  | [], _ => 0
  | e :: l, a => if e.f0 = a then e.f1 else cnt l a
def Good (e : S69) : Prop := 1 ≤ e.f0 ∧ 1 ≤ e.f1 ∧ e.f1 ≤ 1000000
def Srt (l : List S69) : Prop := l.Pairwise fun a b => a.f0 < b.f0
def Val (l : List S69) : Prop := (∀ e ∈ l, Good e) ∧ Srt l
instance (e : S69) : Decidable (Good e) := by unfold Good; infer_instance
theorem val_nil : Val [] := ⟨(fun e he => by cases he), List.Pairwise.nil⟩
theorem val_cons {x : S69} {l : List S69} : Val (x :: l) ↔ Good x ∧ (∀ e ∈ l, x.f0 < e.f0) ∧ Val l := by
  unfold Val Srt
  rw [List.pairwise_cons]
  simp only [List.mem_cons, forall_eq_or_imp]
  exact ⟨fun h => ⟨h.1.1, h.2.1, h.1.2, h.2.2⟩, fun h => ⟨⟨h.1, h.2.2.1⟩, h.2.1, h.2.2.2⟩⟩
theorem cnt_zero : ∀ {l : List S69} {a : Int}, (∀ e ∈ l, e.f0 ≠ a) → cnt l a = 0
  | [], _, _ => rfl
  | e :: l, a, h => by
    unfold cnt
    rw [if_neg (h e (by simp))]
    exact cnt_zero fun e he => h e (by simp [he])
theorem cnt_range : ∀ {l : List S69} {a : Int}, (∀ e ∈ l, Good e) → 0 ≤ cnt l a ∧ cnt l a ≤ 1000000
  | [], _, _ => by simp [cnt]
  | e :: l, a, h => by
    unfold cnt
    have := h e (by simp)
    unfold Good at this
    split
    · omega
    · exact cnt_range fun e he => h e (by simp [he])
theorem cnt_mem : ∀ {l : List S69} (_ : Srt l) {e : S69}, e ∈ l → cnt l e.f0 = e.f1
  | x :: l, h, e, he => by
    unfold cnt
    rcases List.mem_cons.1 he with rfl | he
    · rw [if_pos rfl]
    · have hp := List.pairwise_cons.1 h
      have := hp.1 e he
      rw [if_neg (by omega)]
      exact cnt_mem hp.2 he
theorem ext_cnt : ∀ {u v : List S69}, Val u → Val v → (∀ a, cnt u a = cnt v a) → u = v
  | [], [], _, _, _ => rfl
  | [], y :: v, _, hv, h => by
    have := h y.f0
    have g := (val_cons.1 hv).1
    simp only [cnt, if_true] at this
    unfold Good at g
    omega
  | x :: u, [], hu, _, h => by
    have := h x.f0
    have g := (val_cons.1 hu).1
    simp only [cnt, if_true] at this
    unfold Good at g
    omega
  | x :: u, y :: v, hu, hv, h => by
    obtain ⟨gx, hx, hu'⟩ := val_cons.1 hu
    obtain ⟨gy, hy, hv'⟩ := val_cons.1 hv
    have h1 := h x.f0
    have h2 := h y.f0
    unfold Good at gx gy
    simp only [cnt, if_true] at h1 h2
    have e : x.f0 = y.f0 := by
      rcases Int.lt_trichotomy x.f0 y.f0 with hl | hl | hl
      · rw [if_neg (by omega), cnt_zero fun e he => by have := hy e he; omega] at h1
        omega
      · exact hl
      · rw [if_neg (by omega), cnt_zero fun e he => by have := hx e he; omega] at h2
        omega
    rw [if_pos e.symm] at h1
    have hxy : x = y := by
      cases x; cases y
      simp only at e h1
      subst e h1
      rfl
    subst hxy
    rw [ext_cnt hu' hv' fun a => ?_]
    have := h a
    simp only [cnt] at this
    by_cases ha : x.f0 = a
    · subst ha
      rw [cnt_zero fun e he => by have := hx e he; omega, cnt_zero fun e he => by have := hy e he; omega]
    · rwa [if_neg ha, if_neg ha] at this

/-! ### the validity check -/
def vvs : Option Int → List S69 → Int
  | _, [] => 0
  | p, e :: l => if Good e then (match p with
    | none => vvs (some e.f0) l
    | some q => if q ≥ e.f0 then 7 else vvs (some e.f0) l) else 9
theorem vvs_zero_some : ∀ (l : List S69) (q : Int), vvs (some q) l = 0 ↔ Val l ∧ ∀ e ∈ l, q < e.f0
  | [], q => by simp [vvs, val_nil]
  | x :: l, q => by
    unfold vvs
    rw [val_cons]
    by_cases hg : Good x
    · rw [if_pos hg]
      simp only [List.mem_cons, forall_eq_or_imp]
      split
      · rename_i h
        exact ⟨(fun h => absurd h (by decide)), (fun h => by omega)⟩
      · rename_i h
        rw [vvs_zero_some l x.f0]
        exact ⟨fun k => ⟨⟨hg, k.2, k.1⟩, by omega, fun e he => by have := k.2 e he; omega⟩, fun k => ⟨k.1.2.2, k.1.2.1⟩⟩
    · rw [if_neg hg]
      exact ⟨(fun h => absurd h (by decide)), (fun h => absurd h.1.1 hg)⟩
theorem vvs_zero (l : List S69) : vvs none l = 0 ↔ Val l := by
  cases l with
  | nil => simp [vvs, val_nil]
  | cons x l =>
    unfold vvs
    rw [val_cons]
    by_cases hg : Good x
    · rw [if_pos hg]
      simp only []
      rw [vvs_zero_some]
      exact ⟨fun k => ⟨hg, k.2, k.1⟩, fun k => ⟨k.2.2, k.2.1⟩⟩
    · rw [if_neg hg]
      exact ⟨(fun h => absurd h (by decide)), (fun h => absurd h.1 hg)⟩
/-- The author before place i. -/
def prv (l : List S69) : Nat → Option Int
  | 0 => none
  | i + 1 => l[i]?.map (·.f0)
theorem prv_pos {l : List S69} {i : Nat} (h0 : 0 < i) (h : i ≤ l.length) : prv l i = some (rd_T69 l ((i : Int) - 1)).f0 := by
  obtain ⟨j, rfl⟩ : ∃ j, i = j + 1 := ⟨i - 1, by omega⟩
  have e : ((j + 1 : Nat) : Int) - 1 = (j : Int) := by omega
  rw [e, rdN (by omega)]
  show l[j]?.map _ = _
  rw [List.getElem?_eq_getElem (by omega)]
  rfl
theorem validate_l (l : List S69) (hl : l.length < 4611686018427387904) : ∀ (n i : Nat), i + n = l.length → Ev (fun k => vector_Validate.l0 k l l (l.length : Int) (i : Int)) (vvs (prv l i) (l.drop i)) := by
  intro n
  induction n with
  | zero =>
    intro i hi
    refine Ev.suc (Ev.congr (fun k => ?_) (Ev.some _))
    rw [vector_Validate.l0, if_neg (by omega), List.drop_eq_nil_of_le (by omega)]
    simp [vvs]
  | succ n ih =>
    intro i hi
    have hil : i < l.length := by omega
    refine Ev.suc (Ev.suc ?_)
    rw [dropC hil]
    by_cases hg : Good l[i]
    · have hg' := hg
      unfold Good at hg'
      have hnext := ih (i + 1) (by omega)
      by_cases h0 : i = 0
      · subst h0
        refine Ev.congr (fun k => ?_) (hnext.val (s := vvs (prv l 0) (l[0] :: l.drop 1)) ?_)
        · rw [vector_Validate.l0, if_pos (by omega), if_pos (by omega), if_pos (by omega), rdN hil, if_neg (by omega), if_neg (by omega), vector_Validate.j1, if_neg (by simp; omega), if_neg (by omega), wS 0 (by omega)]
        · show vvs (l[0]?.map _) _ = vvs none _
          rw [List.getElem?_eq_getElem hil]
          conv => rhs; unfold vvs
          rw [if_pos hg]
          rfl
      · have hp := prv_pos (l := l) (i := i) (by omega) (by omega)
        have hj : (i : Int) - 1 = ((i - 1 : Nat) : Int) := by omega
        have hn : prv l (i + 1) = some l[i].f0 := by
          show l[i]?.map _ = _
          rw [List.getElem?_eq_getElem hil]
          rfl
        by_cases hq : l[i].f0 ≤ (rd_T69 l ((i : Int) - 1)).f0
        · refine Ev.congr (fun k => ?_) ((Ev.some (7 : Int)).val ?_)
          · rw [vector_Validate.l0, if_pos (by omega), if_pos (by omega), if_pos (by omega), rdN hil, if_neg (by omega), if_neg (by omega), vector_Validate.j1, if_neg (by simp; omega), if_pos (by omega), w64 (by omega) (by omega), if_pos (by omega), if_pos (by omega), if_pos hq]
          · rw [hp]
            unfold vvs
            rw [if_pos hg]
            simp only []
            rw [if_pos hq]
        · refine Ev.congr (fun k => ?_) (hnext.val ?_)
          · rw [vector_Validate.l0, if_pos (by omega), if_pos (by omega), if_pos (by omega), rdN hil, if_neg (by omega), if_neg (by omega), vector_Validate.j1, if_neg (by simp; omega), if_pos (by omega), w64 (n := (i : Int) - 1) (by omega) (by omega), if_pos (by omega), if_pos (by omega), if_neg hq, wS i (by omega)]
          · rw [hp, hn]
            conv => rhs; unfold vvs
            rw [if_pos hg]
            simp only []
            rw [if_neg hq]
    · refine Ev.congr (fun k => ?_) ((Ev.some (9 : Int)).val ?_)
      · rw [vector_Validate.l0, if_pos (by omega), if_pos (by omega), if_pos (by omega), rdN hil]
        unfold Good at hg
        split
        · rw [vector_Validate.j1, if_pos rfl]
        · split
          · rw [vector_Validate.j1, if_pos rfl]
          · rw [vector_Validate.j1, if_pos (by simp; omega)]
      · unfold vvs
        rw [if_neg hg]
theorem validate_is (l : List S69) (hl : l.length < 4611686018427387904) : Ev (fun k => vector_Validate.f k l) (vvs none l) := validate_l l hl l.length 0 (by omega)
theorem rvalidate_l (l : List S69) (hl : l.length < 4611686018427387904) : ∀ (n i : Nat), i + n = l.length → Ev (fun k => elasticstoreref03_ValidateVector.l0 k l (i : Int)) (vvs (prv l i) (l.drop i)) := by
  intro n
  induction n with
  | zero =>
    intro i hi
    refine Ev.suc (Ev.congr (fun k => ?_) (Ev.some _))
    rw [elasticstoreref03_ValidateVector.l0, if_neg (by omega), List.drop_eq_nil_of_le (by omega)]
    simp [vvs]
  | succ n ih =>
    intro i hi
    have hil : i < l.length := by omega
    refine Ev.suc (Ev.suc ?_)
    rw [dropC hil]
    by_cases hg : Good l[i]
    · have hg' := hg
      unfold Good at hg'
      have hnext := ih (i + 1) (by omega)
      by_cases h0 : i = 0
      · subst h0
        refine Ev.congr (fun k => ?_) (hnext.val (s := vvs (prv l 0) (l[0] :: l.drop 1)) ?_)
        · rw [elasticstoreref03_ValidateVector.l0, if_pos (by omega), if_pos (by omega), rdN hil, if_neg (by omega), if_neg (by omega), elasticstoreref03_ValidateVector.j1, if_neg (by simp; omega), if_neg (by omega), wS 0 (by omega)]
        · show vvs (l[0]?.map _) _ = vvs none _
          rw [List.getElem?_eq_getElem hil]
          conv => rhs; unfold vvs
          rw [if_pos hg]
          rfl
      · have hp := prv_pos (l := l) (i := i) (by omega) (by omega)
        have hn : prv l (i + 1) = some l[i].f0 := by
          show l[i]?.map _ = _
          rw [List.getElem?_eq_getElem hil]
          rfl
        by_cases hq : l[i].f0 ≤ (rd_T69 l ((i : Int) - 1)).f0
        · refine Ev.congr (fun k => ?_) ((Ev.some (7 : Int)).val ?_)
          · rw [elasticstoreref03_ValidateVector.l0, if_pos (by omega), if_pos (by omega), rdN hil, if_neg (by omega), if_neg (by omega), elasticstoreref03_ValidateVector.j1, if_neg (by simp; omega), if_pos (by omega), w64 (by omega) (by omega), if_pos (by omega), if_pos (by omega), if_pos (by omega), if_pos (by omega), rdN hil, if_pos hq]
          · rw [hp]
            unfold vvs
            rw [if_pos hg]
            simp only []
            rw [if_pos hq]
        · refine Ev.congr (fun k => ?_) (hnext.val ?_)
          · rw [elasticstoreref03_ValidateVector.l0, if_pos (by omega), if_pos (by omega), rdN hil, if_neg (by omega), if_neg (by omega), elasticstoreref03_ValidateVector.j1, if_neg (by simp; omega), if_pos (by omega), w64 (n := (i : Int) - 1) (by omega) (by omega), if_pos (by omega), if_pos (by omega), if_pos (by omega), if_pos (by omega), rdN hil, if_neg hq, wS i (by omega)]
          · rw [hp, hn]
            conv => rhs; unfold vvs
            rw [if_pos hg]
            simp only []
            rw [if_neg hq]
    · refine Ev.congr (fun k => ?_) ((Ev.some (9 : Int)).val ?_)
      · rw [elasticstoreref03_ValidateVector.l0, if_pos (by omega), if_pos (by omega), rdN hil]
        unfold Good at hg
        split
        · rw [elasticstoreref03_ValidateVector.j1, if_pos rfl]
        · split
          · rw [elasticstoreref03_ValidateVector.j1, if_pos rfl]
          · rw [elasticstoreref03_ValidateVector.j1, if_pos (by simp; omega)]
      · unfold vvs
        rw [if_neg hg]
theorem rvalidate_is (l : List S69) (hl : l.length < 4611686018427387904) : Ev (fun k => elasticstoreref03_ValidateVector.f k l) (vvs none l) := rvalidate_l l hl l.length 0 (by omega)

/-! ### the loops of the reference -/
theorem mnEq (a b : Int) : mn a b = if a ≤ b then a else b := by
  unfold mn
  split <;> split <;> omega
theorem count_l (l : List S69) (a : Int) (hl : l.length < 4611686018427387904) : ∀ (n i : Nat), i + n = l.length → Ev (fun k => elasticstoreref03_Count.l0 k l a (i : Int)) (cnt (l.drop i) a) := by
  intro n
  induction n with
  | zero =>
    intro i hi
    refine Ev.suc (Ev.congr (fun k => ?_) (Ev.some _))
    rw [elasticstoreref03_Count.l0, if_neg (by omega), List.drop_eq_nil_of_le (by omega)]
    rfl
  | succ n ih =>
    intro i hi
    have hil : i < l.length := by omega
    refine Ev.suc ?_
    rw [dropC hil]
    by_cases hg : l[i].f0 = a
    · refine Ev.congr (fun k => ?_) ((Ev.some l[i].f1).val ?_)
      · rw [elasticstoreref03_Count.l0, if_pos (by omega), if_pos (by omega), rdN hil, if_pos hg]
      · unfold cnt
        rw [if_pos hg]
    · refine Ev.congr (fun k => ?_) ((ih (i + 1) (by omega)).val ?_)
      · rw [elasticstoreref03_Count.l0, if_pos (by omega), if_pos (by omega), rdN hil, if_neg hg, wS i (by omega)]
      · conv => rhs; unfold cnt
        rw [if_neg hg]
theorem count_is (l : List S69) (a : Int) (hl : l.length < 4611686018427387904) : Ev (fun k => elasticstoreref03_Count.f k l a) (cnt l a) := count_l l a hl l.length 0 (by omega)

def eqv : List S69 → List S69 → Bool
  | [], [] => true
  | x :: u, y :: v => if x.f0 = y.f0 ∧ x.f1 = y.f1 then eqv u v else false
  | _, _ => false
theorem eqv_iff : ∀ (u v : List S69), eqv u v = true ↔ u = v
  | [], [] => by simp [eqv]
  | [], y :: v => by simp [eqv]
  | x :: u, [] => by simp [eqv]
  | ⟨a, b⟩ :: u, ⟨c, d⟩ :: v => by
    unfold eqv
    by_cases h : a = c ∧ b = d
    · rw [if_pos h, eqv_iff u v]
      obtain ⟨rfl, rfl⟩ := h
      simp
    · rw [if_neg h]
      simp only [List.cons.injEq, S69.mk.injEq]
      exact ⟨(fun h => by cases h), (fun k => absurd k.1 h)⟩
theorem eqv_len : ∀ (u v : List S69), u.length ≠ v.length → eqv u v = false := by
  intro u v h
  cases e : eqv u v with
  | false => rfl
  | true => exact absurd (congrArg List.length ((eqv_iff u v).1 e)) h
theorem req_l (u v : List S69) (hl : u.length < 4611686018427387904) (he : u.length = v.length) : ∀ (n i : Nat), i + n = u.length → Ev (fun k => elasticstoreref03_EqualVector.l0 k u v (i : Int)) (eqv (u.drop i) (v.drop i)) := by
  intro n
  induction n with
  | zero =>
    intro i hi
    refine Ev.suc (Ev.congr (fun k => ?_) (Ev.some _))
    rw [elasticstoreref03_EqualVector.l0, if_neg (by omega), List.drop_eq_nil_of_le (by omega), List.drop_eq_nil_of_le (by omega)]
    rfl
  | succ n ih =>
    intro i hi
    have hil : i < u.length := by omega
    have hiv : i < v.length := by omega
    refine Ev.suc ?_
    rw [dropC hil, dropC hiv]
    by_cases hg : u[i].f0 = v[i].f0 ∧ u[i].f1 = v[i].f1
    · refine Ev.congr (fun k => ?_) ((ih (i + 1) (by omega)).val ?_)
      · rw [elasticstoreref03_EqualVector.l0, if_pos (by omega), if_pos (by omega), if_pos (by omega), rdN hil, rdN hiv, if_neg (by simp [hg.1, hg.2]), wS i (by omega)]
      · conv => rhs; unfold eqv
        rw [if_pos hg]
    · refine Ev.congr (fun k => ?_) ((Ev.some false).val ?_)
      · rw [elasticstoreref03_EqualVector.l0, if_pos (by omega), if_pos (by omega), if_pos (by omega), rdN hil, rdN hiv, if_pos]
        simp only [Bool.or_eq_true, Bool.not_eq_true', beq_eq_false_iff_ne, ne_eq]
        omega
      · unfold eqv
        rw [if_neg hg]
theorem req_is (u v : List S69) (hl : u.length < 4611686018427387904) : Ev (fun k => elasticstoreref03_EqualVector.f k u v) (eqv u v) := by
  by_cases he : u.length = v.length
  · refine Ev.congr (fun k => ?_) (req_l u v hl he u.length 0 (by omega))
    rw [elasticstoreref03_EqualVector.f, if_pos (by omega)]
    rfl
  · refine Ev.congr (fun k => ?_) ((Ev.some false).val (eqv_len u v he).symm)
    rw [elasticstoreref03_EqualVector.f, if_neg (by omega)]
theorem eq_l (u v : List S69) (hl : u.length < 4611686018427387904) (he : u.length = v.length) : ∀ (n i : Nat), i + n = u.length → Ev (fun k => api_Entry_50.l0 k u v (u.length : Int) (i : Int)) (eqv (u.drop i) (v.drop i)) := by
  intro n
  induction n with
  | zero =>
    intro i hi
    refine Ev.suc (Ev.congr (fun k => ?_) (Ev.some _))
    rw [api_Entry_50.l0, if_neg (by omega), List.drop_eq_nil_of_le (by omega), List.drop_eq_nil_of_le (by omega)]
    rfl
  | succ n ih =>
    intro i hi
    have hil : i < u.length := by omega
    have hiv : i < v.length := by omega
    refine Ev.suc ?_
    rw [dropC hil, dropC hiv]
    by_cases hg : u[i].f0 = v[i].f0 ∧ u[i].f1 = v[i].f1
    · refine Ev.congr (fun k => ?_) ((ih (i + 1) (by omega)).val ?_)
      · rw [api_Entry_50.l0, if_pos (by omega), if_pos (by omega), if_pos (by omega), if_pos (by omega), rdN hil, rdN hiv, if_neg (by simp [hg.1, hg.2]), wS i (by omega)]
      · conv => rhs; unfold eqv
        rw [if_pos hg]
    · refine Ev.congr (fun k => ?_) ((Ev.some false).val ?_)
      · rw [api_Entry_50.l0, if_pos (by omega), if_pos (by omega), if_pos (by omega), if_pos (by omega), rdN hil, rdN hiv, if_pos]
        simp only [Bool.or_eq_true, Bool.not_eq_true', beq_eq_false_iff_ne, ne_eq]
        omega
      · unfold eqv
        rw [if_neg hg]
theorem eq_is (u v : List S69) (hl : u.length < 4611686018427387904) : Ev (fun k => api_Entry_50.f k u v) (eqv u v) := by
  by_cases he : u.length = v.length
  · refine Ev.congr (fun k => ?_) (eq_l u v hl he u.length 0 (by omega))
    rw [api_Entry_50.f, if_pos (by omega)]
    rfl
  · refine Ev.congr (fun k => ?_) ((Ev.some false).val (eqv_len u v he).symm)
    rw [api_Entry_50.f, if_neg (by omega)]

/-! ### below -/
def le : List S69 → List S69 → Bool
  | [], _ => true
  | e :: u, v => if e.f1 > cnt v e.f0 then false else le u v
theorem le_all : ∀ (u v : List S69), le u v = true ↔ ∀ e ∈ u, e.f1 ≤ cnt v e.f0
  | [], v => by simp [le]
  | e :: u, v => by
    unfold le
    simp only [List.mem_cons, forall_eq_or_imp]
    split
    · exact ⟨(fun h => by cases h), (fun h => by omega)⟩
    · rw [le_all u v]
      exact ⟨fun h => ⟨by omega, h⟩, fun h => h.2⟩
theorem le_iff {u v : List S69} (hu : Val u) (hv : Val v) : le u v = true ↔ ∀ a, cnt u a ≤ cnt v a := by
  rw [le_all]
  constructor
  · intro h a
    by_cases hm : ∃ e ∈ u, e.f0 = a
    · obtain ⟨e, he, rfl⟩ := hm
      rw [cnt_mem hu.2 he]
      exact h e he
    · rw [cnt_zero fun e he h => hm ⟨e, he, h⟩]
      exact (cnt_range hv.1).1
  · intro h e he
    have := h e.f0
    rwa [cnt_mem hu.2 he] at this
theorem rle_l (u v : List S69) (hl : u.length < 4611686018427387904) (hv : v.length < 4611686018427387904) : ∀ (n i : Nat), i + n = u.length → Ev (fun k => elasticstoreref03_LessEqual.l0 k u v (i : Int)) (le (u.drop i) v) := by
  intro n
  induction n with
  | zero =>
    intro i hi
    refine Ev.suc (Ev.congr (fun k => ?_) (Ev.some _))
    rw [elasticstoreref03_LessEqual.l0, if_neg (by omega), List.drop_eq_nil_of_le (by omega)]
    rfl
  | succ n ih =>
    intro i hi
    have hil : i < u.length := by omega
    refine Ev.suc ?_
    rw [dropC hil]
    refine Ev.congr (fun k => ?_) (Ev.bind (count_is v u[i].f0 hv) (G := fun t k => if u[i].f1 > t then some false else elasticstoreref03_LessEqual.l0 k u v ((i + 1 : Nat) : Int)) ?_)
    · rw [elasticstoreref03_LessEqual.l0, if_pos (by omega), if_pos (by omega), rdN hil, wS i (by omega)]
    · unfold le
      split
      · exact Ev.some _
      · exact ih (i + 1) (by omega)
theorem rle_is (u v : List S69) (hl : u.length < 4611686018427387904) (hv : v.length < 4611686018427387904) : Ev (fun k => elasticstoreref03_LessEqual.f k u v) (le u v) := rle_l u v hl hv u.length 0 (by omega)

/-! ### the search -/
theorem cmp_is (a b x : Int) : vector_search_1.f a b x = some (if a < x then -1 else if a > x then 1 else 0) := by
  simp only [vector_search_1.f, cmp_Compare_int.f, cmp_isNaN_int.f, Option.bind_some, bne_self_eq_false, Bool.false_eq_true, if_false]
  split
  · rfl
  · split <;> rfl
theorem mid_is (lo hi : Nat) (h : lo + hi < 4611686018427387904) : wrap64 (IntKind.u64.wrap (wrap64 ((lo : Int) + (hi : Int))) / 2) = (((lo + hi) / 2 : Nat) : Int) := by
  rw [w64 (n := (lo : Int) + hi) (by omega) (by omega), IntKind.wrap_u64, w64 (by omega) (by omega)]
  omega
/-- The place where an author stands, or would stand. -/
def plc : List S69 → Int → Nat
  | [], _ => 0
  | e :: l, a => if e.f0 < a then plc l a + 1 else 0
theorem plc_le : ∀ (l : List S69) (a : Int), plc l a ≤ l.length
  | [], _ => Nat.le_refl _
  | e :: l, a => by
    unfold plc
    have := plc_le l a
    simp only [List.length_cons]
    split <;> omega
theorem plc_lt : ∀ {l : List S69} (_ : Srt l) {a : Int} {i : Nat} (hi : i < l.length), l[i].f0 < a ↔ i < plc l a
  | e :: l, h, a, i, hi => by
    obtain ⟨h1, h2⟩ := List.pairwise_cons.1 h
    unfold plc
    cases i with
    | zero =>
      show e.f0 < a ↔ _
      split <;> rename_i hh
      · exact ⟨fun _ => by omega, fun _ => hh⟩
      · exact ⟨fun k => absurd k hh, fun k => by omega⟩
    | succ i =>
      have hi' : i < l.length := by simpa using hi
      show l[i].f0 < a ↔ _
      split <;> rename_i hh
      · rw [plc_lt h2 hi']
        omega
      · have := h1 l[i] (List.getElem_mem hi')
        exact ⟨fun k => by omega, fun k => by omega⟩
theorem cnt_plc : ∀ {l : List S69} (_ : Srt l) (a : Int), cnt l a = if h : plc l a < l.length then (if l[plc l a].f0 = a then l[plc l a].f1 else 0) else 0
  | [], _, a => rfl
  | e :: l, h, a => by
    obtain ⟨h1, h2⟩ := List.pairwise_cons.1 h
    by_cases hh : e.f0 < a
    · have hp : plc (e :: l) a = plc l a + 1 := by
        conv => lhs; unfold plc
        rw [if_pos hh]
      have hc : cnt (e :: l) a = cnt l a := by
        conv => lhs; unfold cnt
        rw [if_neg (by omega)]
      rw [hc, cnt_plc h2 a]
      by_cases hb : plc l a < l.length
      · rw [dif_pos hb, dif_pos (by rw [hp]; simpa using hb)]
        simp only [hp, List.getElem_cons_succ]
      · rw [dif_neg hb, dif_neg (by rw [hp]; simpa using hb)]
    · have hp : plc (e :: l) a = 0 := by
        conv => lhs; unfold plc
        rw [if_neg hh]
      rw [dif_pos (by rw [hp]; simp)]
      simp only [hp, List.getElem_cons_zero]
      unfold cnt
      split
      · rfl
      · exact cnt_zero fun x hx => by have := h1 x hx; omega
theorem bs_l (l : List S69) (hs : Srt l) (hl : l.length < 1152921504606846976) (a : Int) : ∀ (n lo hi : Nat), hi - lo = n → lo ≤ plc l a → plc l a ≤ hi → hi ≤ l.length →
    Ev (fun k => vector_search_bs.l0 k l a (l.length : Int) (lo : Int) (hi : Int)) ((plc l a : Int), if h : plc l a < l.length then decide (l[plc l a].f0 = a) else false) := by
  intro n
  induction n using Nat.strongRecOn with
  | _ n ih =>
    intro lo hi hn h0 h1 h2
    refine Ev.suc ?_
    by_cases hlt : lo < hi
    · have hm : (lo + hi) / 2 < l.length := by omega
      by_cases hc : l[(lo + hi) / 2].f0 < a
      · have hp := (plc_lt hs hm).1 hc
        refine Ev.congr (fun k => ?_) (ih (hi - ((lo + hi) / 2 + 1)) (by omega) ((lo + hi) / 2 + 1) hi rfl (by omega) h1 h2)
        rw [vector_search_bs.l0, if_pos (by omega), mid_is lo hi (by omega), if_pos (by omega), if_pos (by omega), rdN hm, cmp_is, Option.bind_some, if_pos hc, if_pos (by decide), wS _ (by omega)]
      · have hp : plc l a ≤ (lo + hi) / 2 := Nat.le_of_not_lt fun h => hc ((plc_lt hs hm).2 h)
        refine Ev.congr (fun k => ?_) (ih ((lo + hi) / 2 - lo) (by omega) lo ((lo + hi) / 2) rfl h0 hp (by omega))
        rw [vector_search_bs.l0, if_pos (by omega), mid_is lo hi (by omega), if_pos (by omega), if_pos (by omega), rdN hm, cmp_is, Option.bind_some, if_neg hc, if_neg (by split <;> decide)]
    · have he : lo = plc l a := by omega
      subst he
      by_cases hb : plc l a < l.length
      · refine Ev.congr (fun k => ?_) (Ev.some _)
        have hg : ¬ l[plc l a].f0 < a := fun h => by have := (plc_lt hs hb).1 h; omega
        rw [vector_search_bs.l0, if_neg (by omega), if_pos (by omega), if_pos (by omega), if_pos (by omega), rdN hb, cmp_is, Option.bind_some, if_neg hg, dif_pos hb]
        by_cases hq : l[plc l a].f0 = a
        · rw [if_neg (by omega), decide_eq_true hq]
          rfl
        · rw [if_pos (by omega), decide_eq_false hq]
          rfl
      · refine Ev.congr (fun k => ?_) (Ev.some _)
        rw [vector_search_bs.l0, if_neg (by omega), if_neg (by omega), dif_neg hb]
theorem search_is (l : List S69) (hs : Srt l) (hl : l.length < 1152921504606846976) (a : Int) :
    Ev (fun k => vector_search.f k l a) ((plc l a : Int), if h : plc l a < l.length then decide (l[plc l a].f0 = a) else false) :=
  Ev.bind (F := fun k => vector_search_bs.f k l a) (G := fun (t : Int × Bool) _ => some (t.1, t.2)) (bs_l l hs hl a l.length 0 l.length (by omega) (Nat.zero_le _) (plc_le l a) (Nat.le_refl _)) (Ev.some _)
theorem get_is (l : List S69) (hs : Srt l) (hl : l.length < 1152921504606846976) (a : Int) : Ev (fun k => vector_Get.f k l a) (cnt l a) := by
  refine Ev.bind (search_is l hs hl a) (G := fun (t : Int × Bool) _ => if t.2 = true then (if 0 ≤ t.1 then (if t.1 < (l.length : Int) then some (rd_T69 l t.1).f1 else none) else none) else some 0) ?_
  refine Ev.congr (fun k => ?_) (Ev.some _)
  rw [cnt_plc hs a]
  by_cases hb : plc l a < l.length
  · simp only [dif_pos hb]
    by_cases hq : l[plc l a].f0 = a
    · rw [if_pos (decide_eq_true hq), if_pos (by omega), if_pos (by omega), rdN hb, if_pos hq]
    · rw [if_neg (by simp [hq]), if_neg hq]
  · simp only [dif_neg hb]
    rw [if_neg (by simp)]
theorem vle_l (u v : List S69) (hs : Srt v) (hl : u.length < 1152921504606846976) (hv : v.length < 1152921504606846976) : ∀ (n i : Nat), i + n = u.length → Ev (fun k => vector_LessEqual.l0 k v u (u.length : Int) (i : Int)) (le (u.drop i) v) := by
  intro n
  induction n with
  | zero =>
    intro i hi
    refine Ev.suc (Ev.congr (fun k => ?_) (Ev.some _))
    rw [vector_LessEqual.l0, if_neg (by omega), List.drop_eq_nil_of_le (by omega)]
    rfl
  | succ n ih =>
    intro i hi
    have hil : i < u.length := by omega
    refine Ev.suc ?_
    rw [dropC hil]
    refine Ev.congr (fun k => ?_) (Ev.bind (get_is v hs hv u[i].f0) (G := fun t k => if u[i].f1 > t then some false else vector_LessEqual.l0 k v u (u.length : Int) ((i + 1 : Nat) : Int)) ?_)
    · rw [vector_LessEqual.l0, if_pos (by omega), if_pos (by omega), if_pos (by omega), rdN hil, wS i (by omega)]
    · unfold le
      split
      · exact Ev.some _
      · exact ih (i + 1) (by omega)
theorem vle_is (u v : List S69) (hs : Srt v) (hl : u.length < 1152921504606846976) (hv : v.length < 1152921504606846976) : Ev (fun k => vector_LessEqual.f k u v) (le u v) := vle_l u v hs hl hv u.length 0 (by omega)

/-! ### sizes -/
def sz : List S69 → Int
  | [] => 0
  | e :: l => e.f1 + sz l
theorem sz_range : ∀ {l : List S69}, (∀ e ∈ l, Good e) → 0 ≤ sz l ∧ sz l ≤ 1000000 * (l.length : Int)
  | [], _ => by simp [sz]
  | e :: l, h => by
    have := sz_range (l := l) fun e he => h e (by simp [he])
    have g := h e (by simp)
    unfold Good at g
    unfold sz
    simp only [List.length_cons]
    omega
theorem size_l (l : List S69) (hg : ∀ e ∈ l, Good e) (hl : l.length < 1000000) : ∀ (n i : Nat) (acc : Int), i + n = l.length → 0 ≤ acc → acc ≤ 1000000 * (i : Int) → Ev (fun k => vector_Size.l0 k acc l (l.length : Int) (i : Int)) (acc + sz (l.drop i)) := by
  intro n
  induction n with
  | zero =>
    intro i acc hi _ _
    refine Ev.suc (Ev.congr (fun k => ?_) (Ev.some _))
    rw [vector_Size.l0, if_neg (by omega), List.drop_eq_nil_of_le (by omega)]
    simp [sz]
  | succ n ih =>
    intro i acc hi h0 h1
    have hil : i < l.length := by omega
    have g := hg l[i] (List.getElem_mem hil)
    unfold Good at g
    refine Ev.suc ?_
    rw [dropC hil]
    refine Ev.congr (fun k => ?_) ((ih (i + 1) (acc + l[i].f1) (by omega) (by omega) (by omega)).val ?_)
    · rw [vector_Size.l0, if_pos (by omega), if_pos (by omega), if_pos (by omega), rdN hil, wS i (by omega), w64 (by omega) (by omega)]
    · conv => rhs; unfold sz
      omega
theorem size_is (l : List S69) (hg : ∀ e ∈ l, Good e) (hl : l.length < 1000000) : Ev (fun k => vector_Size.f k l) (sz l) := (size_l l hg hl l.length 0 0 (by omega) (by omega) (by omega)).val (by simp)
theorem rsize_l (l : List S69) (hg : ∀ e ∈ l, Good e) (hl : l.length < 1000000) : ∀ (n i : Nat) (acc : Int), i + n = l.length → 0 ≤ acc → acc ≤ 1000000 * (i : Int) → Ev (fun k => elasticstoreref03_Size.l0 k l acc (i : Int)) (acc + sz (l.drop i)) := by
  intro n
  induction n with
  | zero =>
    intro i acc hi _ _
    refine Ev.suc (Ev.congr (fun k => ?_) (Ev.some _))
    rw [elasticstoreref03_Size.l0, if_neg (by omega), List.drop_eq_nil_of_le (by omega)]
    simp [sz]
  | succ n ih =>
    intro i acc hi h0 h1
    have hil : i < l.length := by omega
    have g := hg l[i] (List.getElem_mem hil)
    unfold Good at g
    refine Ev.suc ?_
    rw [dropC hil]
    refine Ev.congr (fun k => ?_) ((ih (i + 1) (acc + l[i].f1) (by omega) (by omega) (by omega)).val ?_)
    · rw [elasticstoreref03_Size.l0, if_pos (by omega), if_pos (by omega), rdN hil, wS i (by omega), w64 (by omega) (by omega)]
    · conv => rhs; unfold sz
      omega
theorem rsize_is (l : List S69) (hg : ∀ e ∈ l, Good e) (hl : l.length < 1000000) : Ev (fun k => elasticstoreref03_Size.f k l) (sz l) := (rsize_l l hg hl l.length 0 0 (by omega) (by omega) (by omega)).val (by simp)
theorem sz_le : ∀ {u v : List S69}, Val u → Val v → (∀ a, cnt u a ≤ cnt v a) → sz u ≤ sz v ∧ (sz u = sz v → u = v)
  | [], [], _, _, _ => by simp [sz]
  | [], y :: v, _, hv, _ => by
    obtain ⟨gy, _, hv'⟩ := val_cons.1 hv
    have := (sz_range hv'.1).1
    unfold Good at gy
    simp only [sz]
    exact ⟨by omega, fun h => by omega⟩
  | x :: u, [], hu, _, h => by
    have := h x.f0
    have g := (val_cons.1 hu).1
    simp only [cnt, if_true] at this
    unfold Good at g
    omega
  | x :: u, y :: v, hu, hv, h => by
    obtain ⟨gx, hx, hu'⟩ := val_cons.1 hu
    obtain ⟨gy, hy, hv'⟩ := val_cons.1 hv
    have h1 := h x.f0
    have h2 := h y.f0
    unfold Good at gx gy
    rcases Int.lt_trichotomy x.f0 y.f0 with hl | hl | hl
    · simp only [cnt, if_true] at h1
      rw [if_neg (by omega), cnt_zero fun e he => by have := hy e he; omega] at h1
      omega
    · simp only [cnt, if_true] at h1
      rw [if_pos hl.symm] at h1
      have := sz_le hu' hv' fun a => by
        have := h a
        simp only [cnt] at this
        by_cases ha : x.f0 = a
        · subst ha
          rw [cnt_zero fun e he => by have := hx e he; omega, cnt_zero fun e he => by have := hy e he; omega]
          omega
        · rwa [if_neg ha, if_neg (by omega)] at this
      unfold sz
      refine ⟨by omega, fun h => ?_⟩
      obtain rfl := this.2 (by omega)
      have hxy : x = y := by
        have hq : x.f1 = y.f1 := by omega
        cases x; cases y
        simp only at hl hq
        subst hl hq
        rfl
      rw [hxy]
    · have := sz_le hu hv' fun a => by
        have := h a
        by_cases ha : y.f0 = a
        · subst ha
          rw [cnt_zero fun e he => ?_]
          · exact (cnt_range hv'.1).1
          · rcases List.mem_cons.1 he with rfl | he
            · omega
            · have := hx e he
              omega
        · conv at this => rhs; unfold cnt
          rwa [if_neg ha] at this
      have e1 : sz (y :: v) = y.f1 + sz v := rfl
      rw [e1]
      exact ⟨by omega, fun h => by omega⟩
end Go.Proofs.Ytknkdbleeaaleaa.Pure
