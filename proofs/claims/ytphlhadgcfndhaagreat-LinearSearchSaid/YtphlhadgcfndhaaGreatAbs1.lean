/- Values told without addresses, and how the machine's memory stands for them: what is only read any more (rows, told as lists), and what a call still writes (objects). -/
import Derived.Below
import Derived.Deep.AppendSrc
import Derived.Orders
import Derived.WalkKit
namespace Go.Proofs.YtphlhadgcfndhaaGreat.Abs
open Go Go.RowKit
set_option linter.unusedVariables false

inductive Cell where
  | any
  | sc (v : Value)
  | row (k : Nat) (tight : Bool) (es : List (List Cell))
  | ref (id lo n : Nat)
  | ptr (id i off : Nat)
  | fad (cs : List Cell)
  | bit
  | fn (g : FuncId) (caps : List Cell)
inductive AVal where
  | any
  | c (x : Cell)
  | agg (cs : List Cell)
  | tup (vs : List AVal)
  | cut (k c : Nat) (es : List (List Cell))
structure AObj where
  k : Nat
  es : List (List Cell)
abbrev Tau := List (Nat × AVal)
abbrev Sig := List (Nat × AObj)
def look {α : Type} (t : Nat) : List (Nat × α) → Option α
  | [] => none
  | (s, v) :: r => if t = s then some v else look t r
def drop {α : Type} (t : Nat) : List (Nat × α) → List (Nat × α)
  | [] => []
  | (s, v) :: r => if t = s then drop t r else (s, v) :: drop t r
def putA {α : Type} (t : Nat) (v : α) (l : List (Nat × α)) : List (Nat × α) := (t, v) :: drop t l
theorem look_drop {α : Type} (t s : Nat) : ∀ l : List (Nat × α), look s (drop t l) = if s = t then none else look s l
  | [] => by simp [drop, look]
  | (u, v) :: r => by
    unfold drop
    by_cases h : t = u
    · rw [if_pos h, look_drop t s r]
      by_cases hs : s = t
      · rw [if_pos hs, if_pos hs]
      · rw [if_neg hs, if_neg hs, look, if_neg (by omega)]
    · rw [if_neg h, look, look_drop t s r]
      by_cases hs : s = u
      · rw [if_pos hs, if_neg (by omega), look, if_pos hs]
      · rw [if_neg hs]
        by_cases ht : s = t
        · rw [if_pos ht, if_pos ht]
        · rw [if_neg ht, if_neg ht, look, if_neg hs]
def putT {α : Type} (t : Nat) (v : α) (l : List (Nat × α)) : List (Nat × α) := (t, v) :: l
theorem look_putT {α : Type} (t s : Nat) (v : α) (l : List (Nat × α)) : look s (putT t v l) = if s = t then some v else look s l := rfl
theorem look_put {α : Type} (t s : Nat) (v : α) (l : List (Nat × α)) : look s (putA t v l) = if s = t then some v else look s l := by
  unfold putA
  rw [look]
  by_cases h : s = t
  · rw [if_pos h, if_pos h]
  · rw [if_neg h, if_neg h, look_drop, if_neg h]

inductive Bnd where
  | no
  | dead
  | virt
  | live (b k cap : Nat)
/-- A binding may only go on: none, live, dead. -/
inductive BLe : Bnd → Bnd → Prop
  | no (x) : BLe .no x
  | same (x) : BLe x x
  | dead (b k cap) : BLe (.live b k cap) .dead
  | vdead : BLe .virt .dead
theorem BLe.trans {x y z : Bnd} (h : BLe x y) (g : BLe y z) : BLe x z := by
  cases h with
  | no => exact .no _
  | same => exact g
  | dead b k cap => cases g; exact .dead _ _ _
  | vdead => cases g; exact .vdead

/-! ### what is only read -/
inductive RepF (w : World) (ok : Nat → Prop) : Cell → Value → Prop
  | any (v : Value) (h : v.oneCell' = true) : RepF w ok .any v
  | sc (v : Value) (h : v.oneCell' = true) : RepF w ok (.sc v) v
  | bit (b : Bool) : RepF w ok .bit (.bool b)
  | row {k : Nat} {t : Bool} {es : List (List Cell)} {A : Option Addr} {cap : Nat} (vs : Nat → Nat → Value) (h1 : es.length ≤ cap) (h2 : t = true → cap = es.length) (h3 : ∀ e ∈ es, e.length = k)
      (h4 : es ≠ [] → ∃ ad, A = some ad ∧ ok ad.block)
      (h5 : ∀ ad, A = some ad → ∀ i e, es[i]? = some e → ∀ j, j < k → w.cell? (ad.add (i * k + j)) = some (vs i j))
      (h6 : ∀ i e, es[i]? = some e → ∀ j c, e[j]? = some c → RepF w ok c (vs i j)) : RepF w ok (.row k t es) (.slice A es.length cap)
  | fad {cs : List Cell} {ad : Addr} (vs : Nat → Value) (h1 : ok ad.block) (h2 : ∀ j, j < cs.length → w.cell? (ad.add j) = some (vs j))
      (h3 : ∀ j c, cs[j]? = some c → RepF w ok c (vs j)) : RepF w ok (.fad cs) (.pointer (some ad))
  | fn {g : FuncId} {caps : List Cell} (vs : Array Value) (h1 : caps.length = vs.size) (h2 : ∀ (j : Nat) (c : Cell) (v : Value), caps[j]? = some c → vs[j]? = some v → RepF w ok c v) : RepF w ok (.fn g caps) (.func (.func g) #[] vs)
theorem add_block (a : Addr) (n : Nat) : (a.add n).block = a.block := by
  unfold Addr.add
  split <;> rfl
theorem cell_same {w w' : World} {a : Addr} (h : w'.heap[a.block]? = w.heap[a.block]?) : w'.cell? a = w.cell? a := by
  unfold World.cell?
  rw [h]
theorem RepF.mono {w w' : World} {ok ok' : Nat → Prop} (h : ∀ b, ok b → ok' b ∧ w'.heap[b]? = w.heap[b]?) {c : Cell} {v : Value} (hr : RepF w ok c v) : RepF w' ok' c v := by
  induction hr with
  | any v h => exact .any v h
  | sc v h => exact .sc v h
  | bit b => exact .bit b
  | row vs h1 h2 h3 h4 h5 h6 ih =>
    refine .row vs h1 h2 h3 (fun hne => ?_) (fun ad ha i e hi j hj => ?_) ih
    · obtain ⟨ad, ha, hk⟩ := h4 hne
      exact ⟨ad, ha, (h _ hk).1⟩
    · obtain ⟨ad', ha', hk⟩ := h4 (by rintro rfl; simp at hi)
      rw [ha] at ha'
      obtain rfl := Option.some.inj ha'
      exact (cell_same (by rw [add_block]; exact (h _ hk).2)).trans (h5 ad ha i e hi j hj)
  | fad vs h1 h2 h3 ih =>
    exact .fad vs (h _ h1).1 (fun j hj => (cell_same (by rw [add_block]; exact (h _ h1).2)).trans (h2 j hj)) ih
  | fn vs h1 h2 ih => exact .fn vs h1 ih
theorem RepF.one {w : World} {ok : Nat → Prop} {c : Cell} {v : Value} (h : RepF w ok c v) : v.oneCell' = true := by
  cases h with
  | any v h => exact h
  | sc v h => exact h
  | bit => rfl
  | row => rfl
  | fad => rfl
  | fn => rfl

/-! ### what may be written, too -/
inductive RepC (w : World) (ok : Nat → Prop) (β : Nat → Bnd) : Cell → Value → Prop
  | fz {c : Cell} {v : Value} (h : RepF w ok c v) : RepC w ok β c v
  | ref {id lo n b k cap : Nat} (hb : β id = .live b k cap) (h : lo + n ≤ cap) : RepC w ok β (.ref id lo n) (.slice (some ⟨b, lo * k, none⟩) n (cap - lo))
  | refv {id : Nat} {A : Option Addr} (hb : β id = .virt) : RepC w ok β (.ref id 0 0) (.slice A 0 0)
  | gone {id lo n : Nat} {v : Value} (hb : β id = .dead) (h : v.oneCell' = true) : RepC w ok β (.ref id lo n) v
  | ptr {id i off b k cap : Nat} (hb : β id = .live b k cap) : RepC w ok β (.ptr id i off) (.pointer (some ⟨b, i * k + off, none⟩))
  | gonep {id i off : Nat} {v : Value} (hb : β id = .dead) (h : v.oneCell' = true) : RepC w ok β (.ptr id i off) v
theorem RepC.mono {w w' : World} {ok ok' : Nat → Prop} {β β' : Nat → Bnd} (h : ∀ b, ok b → ok' b ∧ w'.heap[b]? = w.heap[b]?) (hβ : ∀ id, BLe (β id) (β' id)) {c : Cell} {v : Value} (hr : RepC w ok β c v) : RepC w' ok' β' c v := by
  cases hr with
  | fz hr => exact .fz (hr.mono h)
  | ref hb hl =>
    rename_i id lo n b k cap
    have := hβ id
    rw [hb] at this
    generalize hx : β' id = x at this
    cases this with
    | same => exact .ref hx hl
    | dead => exact .gone hx rfl
  | refv hb =>
    rename_i id A
    have := hβ id
    rw [hb] at this
    generalize hx : β' id = x at this
    cases this with
    | same => exact .refv hx
    | vdead => exact .gone hx rfl
  | gone hb hv =>
    rename_i id lo n
    have := hβ id
    rw [hb] at this
    generalize hx : β' id = x at this
    cases this
    exact .gone hx hv
  | ptr hb =>
    rename_i id i off b k cap
    have := hβ id
    rw [hb] at this
    generalize hx : β' id = x at this
    cases this with
    | same => exact .ptr hx
    | dead => exact .gonep hx rfl
  | gonep hb hv =>
    rename_i id i off
    have := hβ id
    rw [hb] at this
    generalize hx : β' id = x at this
    cases this
    exact .gonep hx hv
theorem RepC.one {w : World} {ok : Nat → Prop} {β : Nat → Bnd} {c : Cell} {v : Value} (h : RepC w ok β c v) : v.oneCell' = true := by
  cases h with
  | fz h => exact h.one
  | ref => rfl
  | refv => rfl
  | gone _ h => exact h
  | ptr => rfl
  | gonep _ h => exact h
def RepL (w : World) (ok : Nat → Prop) (β : Nat → Bnd) (cs : List Cell) (vs : List Value) : Prop :=
  cs.length = vs.length ∧ ∀ (i : Nat) (c : Cell) (v : Value), cs[i]? = some c → vs[i]? = some v → RepC w ok β c v
theorem RepL.mono {w w' : World} {ok ok' : Nat → Prop} {β β' : Nat → Bnd} (h : ∀ b, ok b → ok' b ∧ w'.heap[b]? = w.heap[b]?) (hβ : ∀ id, BLe (β id) (β' id)) {cs : List Cell} {vs : List Value} (hr : RepL w ok β cs vs) : RepL w' ok' β' cs vs :=
  ⟨hr.1, fun i c v hc hv => (hr.2 i c v hc hv).mono h hβ⟩
inductive RepV (w : World) (ok : Nat → Prop) (β : Nat → Bnd) : AVal → Value → Prop
  | any (v : Value) : RepV w ok β .any v
  | c {x : Cell} {v : Value} (h : RepC w ok β x v) : RepV w ok β (.c x) v
  | agg {cs : List Cell} {vs : Array Value} (h : RepL w ok β cs vs.toList) : RepV w ok β (.agg cs) (.agg vs)
  | tup {as : List AVal} {us : Array Value} (h : as.length = us.size) (hi : ∀ (i : Nat) (a : AVal) (u : Value), as[i]? = some a → us[i]? = some u → RepV w ok β a u) : RepV w ok β (.tup as) (.tuple us)
  | cut {k c : Nat} {es : List (List Cell)} {A : Option Addr} (h : RepF w ok (.row k false es) (.slice A es.length c)) : RepV w ok β (.cut k c es) (.slice A es.length c)
theorem RepV.cutOf {w : World} {ok : Nat → Prop} {β : Nat → Bnd} {k n c : Nat} {es : List (List Cell)} {A : Option Addr} (h : RepF w ok (.row k false es) (.slice A n c)) : RepV w ok β (.cut k c es) (.slice A n c) := by
  have h' := h
  cases h with
  | row => exact .cut h'
theorem RepV.mono {w w' : World} {ok ok' : Nat → Prop} {β β' : Nat → Bnd} (h : ∀ b, ok b → ok' b ∧ w'.heap[b]? = w.heap[b]?) (hβ : ∀ id, BLe (β id) (β' id)) {x : AVal} {v : Value} (hr : RepV w ok β x v) : RepV w' ok' β' x v := by
  induction hr with
  | any v => exact .any v
  | c hr => exact .c (hr.mono h hβ)
  | agg hr => exact .agg (hr.mono h hβ)
  | tup hl _ ih => exact .tup hl ih
  | cut hr => exact .cut (hr.mono h)

/-! ### the world -/
/-- The blocks that are only read: of the old ones those of A, and all new ones that aren't live. -/
def okOf (base : Nat) (A : Nat → Prop) (w : World) (β : Nat → Bnd) (b : Nat) : Prop := (b < base → A b) ∧ b < w.heap.size ∧ ∀ id b' k cap, β id = .live b' k cap → b' ≠ b
structure ObjAt (w : World) (ok : Nat → Prop) (β : Nat → Bnd) (o : AObj) (b k cap : Nat) : Prop where
  hk : o.k = k
  hcap : o.es.length ≤ cap
  hlen : ∀ e ∈ o.es, e.length = k
  hat : ∃ (arr : Array Value) (ty : TypeId), w.heap[b]? = some (.cells arr ty (0, 0)) ∧ arr.size = cap * k ∧ (∀ v ∈ arr.toList, v.oneCell' = true) ∧
    ∀ (i : Nat) (e : List Cell), o.es[i]? = some e → ∀ (j : Nat) (c : Cell), e[j]? = some c → ∃ v, arr[i * k + j]? = some v ∧ RepC w ok β c v
structure Inv (base : Nat) (A : Nat → Prop) (w0 : World) (β : Nat → Bnd) (σ : Sig) (w : World) : Prop where
  below : Below base w0 w
  hbase : base ≤ w.heap.size
  old : ∀ b, A b → b < base
  dom : ∀ id, (look id σ).isSome = true ↔ ((∃ b k cap, β id = .live b k cap) ∨ β id = .virt)
  virt : ∀ id o, β id = .virt → look id σ = some o → o.es = []
  fin : ∃ N, ∀ id, N ≤ id → β id = .no
  lo : ∀ id b k cap, β id = .live b k cap → base ≤ b ∧ b < w.heap.size
  inj : ∀ id id' b k cap k' cap', β id = .live b k cap → β id' = .live b k' cap' → id = id'
  obj : ∀ id b k cap o, β id = .live b k cap → look id σ = some o → ObjAt w (okOf base A w β) β o b k cap
structure InvA (base : Nat) (A : Nat → Prop) (w0 : World) (n : Nat) (β : Nat → Bnd) (τ : Tau) (σ : Sig) (a : Act) (w : World) : Prop where
  inv : Inv base A w0 β σ w
  defers : a.defers = []
  size : a.tmps.size = n
  tmps : ∀ t v, look t τ = some v → ∃ u, a.tmps[t]? = some u ∧ RepV w (okOf base A w β) β v u
end Go.Proofs.YtphlhadgcfndhaaGreat.Abs
