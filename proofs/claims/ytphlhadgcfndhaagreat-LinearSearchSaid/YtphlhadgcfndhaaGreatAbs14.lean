/- The operations of a region whose order is drawn: whatever the order, they come to the same. -/
import Derived.Test.YtphlhadgcfndhaaGreatAbs13
namespace Go.Proofs.YtphlhadgcfndhaaGreat.Abs
open Go Go.RowKit
set_option linter.unusedVariables false
set_option linter.unusedSimpArgs false

structure Rec where
  u : UE
  fr : Nat
  fr' : Nat
  ans : List AVal
  ans' : List AVal
  p : Prop
def evUs (T : TyEnv) (C : FuncId → List AVal → AVal → Prop) (n : Nat) (ops : Array Oper) : List Oper → Tau → Sig → Nat → List AVal → Option (List Rec)
  | [], _, _, _, _ => some []
  | o :: r, τ, σ, fr, ans => match evU T C n ops o τ σ fr ans with
    | none => none
    | some (u, ans', p, fr') => match evUs T C n ops r (u.τ τ) (u.σ σ) fr' ans' with
      | none => none
      | some R => some (⟨u, fr, fr', ans, ans', p⟩ :: R)

/-! ### a part of the operations carried out -/
def sel {X : Type} (f : Rec → Option X) (b : Nat → Bool) : Nat → List Rec → X → X
  | _, [], x => x
  | k, r :: R, x => sel f b (k + 1) R (if b k = true then (f r).getD x else x)
def selτ (b : Nat → Bool) : Nat → List Rec → Tau → Tau
  | _, [], τ => τ
  | k, r :: R, τ => selτ b (k + 1) R (if b k = true then r.u.τ τ else τ)
def selσ (b : Nat → Bool) : Nat → List Rec → Sig → Sig
  | _, [], σ => σ
  | k, r :: R, σ => selσ b (k + 1) R (if b k = true then r.u.σ σ else σ)
def atτ (t : Nat) (r : Rec) : Option (Option AVal) := if r.u.d = some t then some (some r.u.v) else none
def atσ (id : Nat) (r : Rec) : Option (Option AObj) := match r.u.wr with
  | none => none
  | some (i, o) => if id = i then some (some o) else if r.u.kill = some id then some none else none
theorem look_uτ (r : Rec) (t : Nat) (τ : Tau) : look t (r.u.τ τ) = (atτ t r).getD (look t τ) := by
  unfold UE.τ atτ
  split
  · rename_i h
    rw [h, if_neg (by simp)]
    rfl
  · rename_i d h
    rw [look_putT, h]
    by_cases ht : t = d
    · rw [if_pos ht, if_pos (by rw [ht])]
      rfl
    · rw [if_neg ht, if_neg (by simp; omega)]
      rfl
theorem look_uσ (r : Rec) (id : Nat) (σ : Sig) : look id (r.u.σ σ) = (atσ id r).getD (look id σ) := by
  unfold UE.σ atσ
  cases h : r.u.wr with
  | none => rfl
  | some io =>
    obtain ⟨i, o⟩ := io
    cases hk : r.u.kill with
    | none =>
      simp only
      rw [look_put]
      by_cases hi : id = i
      · simp [hi]
      · simp [hi]
    | some k =>
      simp only
      rw [look_put, look_drop]
      by_cases hi : id = i
      · simp [hi]
      · by_cases hk' : id = k
        · subst hk'
          simp [hi]
        · simp [hi, hk', Ne.symm hk']
theorem look_selτ (b : Nat → Bool) (t : Nat) : ∀ (R : List Rec) (k : Nat) (τ : Tau), look t (selτ b k R τ) = sel (atτ t) b k R (look t τ)
  | [], _, _ => rfl
  | r :: R, k, τ => by
    rw [selτ, sel, look_selτ b t R]
    congr 1
    split
    · exact look_uτ r t τ
    · rfl
theorem look_selσ (b : Nat → Bool) (id : Nat) : ∀ (R : List Rec) (k : Nat) (σ : Sig), look id (selσ b k R σ) = sel (atσ id) b k R (look id σ)
  | [], _, _ => rfl
  | r :: R, k, σ => by
    rw [selσ, sel, look_selσ b id R]
    congr 1
    split
    · exact look_uσ r id σ
    · rfl
/-- Two parts that agree on who writes. -/
theorem sel_agree {X : Type} {f : Rec → Option X} {b b' : Nat → Bool} : ∀ (R : List Rec) (k : Nat) (x : X), (∀ (j : Nat) (r : Rec), R[j]? = some r → (f r).isSome = true → b (k + j) = b' (k + j)) → sel f b k R x = sel f b' k R x
  | [], _, _, _ => rfl
  | r :: R, k, x, h => by
    have h0 : (if b k = true then (f r).getD x else x) = (if b' k = true then (f r).getD x else x) := by
      cases hf : f r with
      | none => simp
      | some y =>
        have := h 0 r rfl (by rw [hf]; rfl)
        rw [Nat.add_zero] at this
        rw [this]
    rw [sel, sel, h0]
    exact sel_agree R (k + 1) _ fun j q hq hf => by
      have := h (j + 1) q (by simpa using hq) hf
      rwa [show k + (j + 1) = k + 1 + j from by omega] at this
/-- Nobody writes. -/
theorem sel_none {X : Type} {f : Rec → Option X} {b : Nat → Bool} : ∀ (R : List Rec) (k : Nat) (x : X), (∀ (j : Nat) (r : Rec), R[j]? = some r → (f r).isSome = true → b (k + j) = false) → sel f b k R x = x
  | [], _, _, _ => rfl
  | r :: R, k, x, h => by
    rw [sel]
    have h0 : (if b k = true then (f r).getD x else x) = x := by
      cases hf : f r with
      | none => simp
      | some y =>
        have := h 0 r rfl (by rw [hf]; rfl)
        rw [Nat.add_zero] at this
        rw [this]
        rfl
    rw [h0]
    exact sel_none R (k + 1) x fun j q hq hf => by
      have := h (j + 1) q (by simpa using hq) hf
      rwa [show k + (j + 1) = k + 1 + j from by omega] at this
/-- The last who writes. -/
theorem sel_last {X : Type} {f : Rec → Option X} {b : Nat → Bool} : ∀ (R : List Rec) (k : Nat) (x : X) (i : Nat) (r : Rec) (y : X), R[i]? = some r → f r = some y → b (k + i) = true → (∀ (j : Nat) (q : Rec), i < j → R[j]? = some q → (f q).isSome = true → b (k + j) = false) → sel f b k R x = y
  | [], _, _, _, _, _, h, _, _, _ => by simp at h
  | q :: R, k, x, 0, r, y, hr, hf, hb, hl => by
    simp at hr
    subst hr
    rw [Nat.add_zero] at hb
    rw [sel, if_pos hb, hf]
    exact sel_none R (k + 1) y fun j q' hq hf' => by
      have := hl (j + 1) q' (by omega) (by simpa using hq) hf'
      rwa [show k + (j + 1) = k + 1 + j from by omega] at this
  | q :: R, k, x, i + 1, r, y, hr, hf, hb, hl => by
    rw [sel]
    exact sel_last R (k + 1) _ i r y (by simpa using hr) hf (by rwa [show k + 1 + i = k + (i + 1) from by omega]) fun j q' hj hq hf' => by
      have := hl (j + 1) q' (by omega) (by simpa using hq) hf'
      rwa [show k + (j + 1) = k + 1 + j from by omega] at this
/-- One more is carried out. -/
theorem sel_up {X : Type} {f : Rec → Option X} {b : Nat → Bool} {R : List Rec} {x : X} {i : Nat} {r : Rec} (hr : R[i]? = some r) (hb : b i = false) (hl : ∀ (j : Nat) (q : Rec), i < j → R[j]? = some q → (f q).isSome = true → (f r).isSome = true → b j = false) :
    sel f (fun j => j == i || b j) 0 R x = (f r).getD (sel f b 0 R x) := by
  cases hf : f r with
  | none =>
    refine sel_agree R 0 x fun j q hq hfq => ?_
    rw [Nat.zero_add]
    have : j ≠ i := by
      rintro rfl
      rw [hr] at hq
      cases hq
      rw [hf] at hfq
      cases hfq
    simp [this]
  | some y =>
    refine sel_last R 0 x i r y hr hf (by simp) fun j q hj hq hfq => ?_
    rw [Nat.zero_add]
    have := hl j q hj hq hfq (by rw [hf]; rfl)
    simp [this]
    omega

/-! ### who waits for whom -/
inductive Dep (ops : Array Oper) : Nat → Nat → Prop
  | one {i : Nat} {o : Oper} {e : Edge} (ho : ops[i]? = some o) (he : e ∈ o.after.toList) (hb : Region.binds .any e = true) : Dep ops i e.on
  | more {i j : Nat} {o : Oper} {e : Edge} (ho : ops[i]? = some o) (he : e ∈ o.after.toList) (hb : Region.binds .any e = true) (h : Dep ops e.on j) : Dep ops i j
def adds (x : Nat) (l : List Nat) : List Nat := if l.contains x then l else x :: l
def unions (l m : List Nat) : List Nat := l.foldl (fun m x => adds x m) m
def depsOf (acc : List (List Nat)) : List Edge → List Nat
  | [] => []
  | e :: es => if Region.binds .any e = true then adds e.on (unions (acc.getD e.on []) (depsOf acc es)) else depsOf acc es
def depsAll : List Oper → List (List Nat) → List (List Nat)
  | [], acc => acc
  | o :: r, acc => depsAll r (acc ++ [depsOf acc o.after.toList])
theorem mem_adds {x y : Nat} {l : List Nat} (h : y ∈ adds x l) : y = x ∨ y ∈ l := by
  unfold adds at h
  split at h
  · exact .inr h
  · rcases List.mem_cons.1 h with h | h
    · exact .inl h
    · exact .inr h
theorem mem_unions {y : Nat} : ∀ {l m : List Nat}, y ∈ unions l m → y ∈ l ∨ y ∈ m
  | [], m, h => .inr h
  | x :: l, m, h => by
    have : y ∈ unions l (adds x m) := h
    rcases mem_unions this with h | h
    · exact .inl (by simp [h])
    · rcases mem_adds h with h | h
      · exact .inl (by simp [h])
      · exact .inr h
theorem depsOf_sound {ops : Array Oper} {acc : List (List Nat)} (hacc : ∀ (i : Nat) (l : List Nat), acc[i]? = some l → ∀ j ∈ l, Dep ops i j) {i : Nat} {o : Oper} (ho : ops[i]? = some o) : ∀ (es : List Edge), (∀ e ∈ es, e ∈ o.after.toList) → ∀ j ∈ depsOf acc es, Dep ops i j
  | [], _, j, hj => by cases hj
  | e :: es, hes, j, hj => by
    unfold depsOf at hj
    split at hj
    · rename_i hb
      have he := hes e (by simp)
      rcases mem_adds hj with rfl | hj
      · exact .one ho he hb
      · rcases mem_unions hj with hj | hj
        · refine .more ho he hb ?_
          rw [List.getD_eq_getElem?_getD] at hj
          cases ha : acc[e.on]? with
          | none => rw [ha] at hj; cases hj
          | some l =>
            rw [ha] at hj
            exact hacc _ l ha j hj
        · exact depsOf_sound hacc ho es (fun x hx => hes x (by simp [hx])) j hj
    · exact depsOf_sound hacc ho es (fun x hx => hes x (by simp [hx])) j hj
theorem depsAll_sound {ops : Array Oper} : ∀ (r : List Oper) (acc : List (List Nat)), (∀ (i : Nat) (l : List Nat), acc[i]? = some l → ∀ j ∈ l, Dep ops i j) → (∀ (q : Nat) (o : Oper), r[q]? = some o → ops[acc.length + q]? = some o) → ∀ (i : Nat) (l : List Nat), (depsAll r acc)[i]? = some l → ∀ j ∈ l, Dep ops i j
  | [], acc, hacc, _, i, l, hl => hacc i l hl
  | o :: r, acc, hacc, hr, i, l, hl => by
    unfold depsAll at hl
    refine depsAll_sound r _ (fun i l hl j hj => ?_) (fun q o' hq => ?_) i l hl
    · by_cases hi : i < acc.length
      · rw [List.getElem?_append_left hi] at hl
        exact hacc i l hl j hj
      · rw [List.getElem?_append_right (by omega)] at hl
        have h0 : i - acc.length = 0 := by
          have := (List.getElem?_eq_some_iff.1 hl).1
          simp at this
          omega
        rw [h0] at hl
        simp at hl
        subst hl
        have hi' : i = acc.length := by omega
        subst hi'
        exact depsOf_sound hacc (hr 0 o rfl) _ (fun e he => he) j hj
    · have := hr (q + 1) o' (by simpa using hq)
      rw [List.length_append, List.length_singleton]
      rwa [show acc.length + (q + 1) = acc.length + 1 + q from by omega] at this
def depTab (ops : Array Oper) : List (List Nat) := depsAll ops.toList []
theorem depTab_sound {ops : Array Oper} {i : Nat} {l : List Nat} (h : (depTab ops)[i]? = some l) {j : Nat} (hj : j ∈ l) : Dep ops i j :=
  depsAll_sound ops.toList [] (fun i l hl => by simp at hl) (fun q o ho => by simpa using ho) i l h j hj
/-- What is listed is closed. -/
def ClosedL (ops : Array Oper) (b : Nat → Bool) : Prop := ∀ (i : Nat) (o : Oper), ops[i]? = some o → b i = true → ∀ e ∈ o.after.toList, Region.binds .any e = true → b e.on = true
theorem Dep.listed {ops : Array Oper} {b : Nat → Bool} (hc : ClosedL ops b) {i j : Nat} (h : Dep ops i j) (hi : ∀ o, ops[i]? = some o → ∀ e ∈ o.after.toList, Region.binds .any e = true → b e.on = true) : b j = true := by
  induction h with
  | one ho he hb => exact hi _ ho _ he hb
  | more ho he hb h ih => exact ih (fun o' ho' => hc _ o' ho' (hi _ ho _ he hb))
end Go.Proofs.YtphlhadgcfndhaaGreat.Abs
