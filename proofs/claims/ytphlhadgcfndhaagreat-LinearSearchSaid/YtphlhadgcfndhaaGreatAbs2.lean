/- How the objects change: a new one, one written, one let go, one that becomes another. -/
import Derived.Test.YtphlhadgcfndhaaGreatAbs1
namespace Go.Proofs.YtphlhadgcfndhaaGreat.Abs
open Go Go.RowKit
set_option linter.unusedVariables false

def updB (β : Nat → Bnd) (id : Nat) (x : Bnd) : Nat → Bnd := fun i => if i = id then x else β i
theorem updB_self (β : Nat → Bnd) (id : Nat) (x : Bnd) : updB β id x id = x := if_pos rfl
theorem updB_ne (β : Nat → Bnd) {id i : Nat} (x : Bnd) (h : i ≠ id) : updB β id x i = β i := if_neg h
theorem updB_le {β : Nat → Bnd} {id : Nat} {x : Bnd} (h : BLe (β id) x) : ∀ i, BLe (β i) (updB β id x i) := by
  intro i
  by_cases hi : i = id
  · subst hi
    rw [updB_self]
    exact h
  · rw [updB_ne _ _ hi]
    exact .same _
theorem look_none {α : Type} {id : Nat} {l : List (Nat × α)} (h : ¬ (look id l).isSome = true) : look id l = none := by
  cases hl : look id l with
  | none => rfl
  | some x => exact absurd (by rw [hl]; rfl) h

section
variable {base : Nat} {A : Nat → Prop} {w0 w : World} {β : Nat → Bnd} {σ : Sig}

theorem ObjAt.mono {w w' : World} {ok ok' : Nat → Prop} {β β' : Nat → Bnd} (h : ∀ b, ok b → ok' b ∧ w'.heap[b]? = w.heap[b]?) (hβ : ∀ id, BLe (β id) (β' id)) {o : AObj} {b k cap : Nat} (hb : w'.heap[b]? = w.heap[b]?) (ho : ObjAt w ok β o b k cap) : ObjAt w' ok' β' o b k cap := by
  obtain ⟨arr, ty, h1, h2, h3, h4⟩ := ho.hat
  exact ⟨ho.hk, ho.hcap, ho.hlen, arr, ty, hb.trans h1, h2, h3, fun i e he j c hc => by
    obtain ⟨v, hv, hr⟩ := h4 i e he j c hc
    exact ⟨v, hv, hr.mono h hβ⟩⟩

/-- One binding changes (to a live one whose object is told); the world keeps what is only read and the other objects. -/
theorem Inv.turn (I : Inv base A w0 β σ w) {w' : World} {id b k cap : Nat} {o : AObj} (hle : BLe (β id) (.live b k cap))
    (hbel : Below base w0 w') (hsz : w.heap.size ≤ w'.heap.size) (hlo : base ≤ b) (hb : b < w'.heap.size)
    (hkeep : ∀ i, i < w.heap.size → i ≠ b → w'.heap[i]? = w.heap[i]?)
    (hnew : ¬ okOf base A w β b) (hother : ∀ i b' k' cap', i ≠ id → β i = .live b' k' cap' → b' ≠ b)
    (hobj : (∀ x, okOf base A w β x → okOf base A w' (updB β id (.live b k cap)) x ∧ w'.heap[x]? = w.heap[x]?) → ObjAt w' (okOf base A w' (updB β id (.live b k cap))) (updB β id (.live b k cap)) o b k cap) :
    Inv base A w0 (updB β id (.live b k cap)) (putA id o σ) w' ∧ ∀ x, okOf base A w β x → okOf base A w' (updB β id (.live b k cap)) x ∧ w'.heap[x]? = w.heap[x]? := by
  have hβ := updB_le hle
  have hok : ∀ x, okOf base A w β x → okOf base A w' (updB β id (.live b k cap)) x ∧ w'.heap[x]? = w.heap[x]? := by
    intro x hx
    have hne : x ≠ b := fun e => hnew (e ▸ hx)
    refine ⟨⟨hx.1, by have := hx.2.1; omega, fun i b' k' cap' hi => ?_⟩, hkeep x hx.2.1 hne⟩
    by_cases h : i = id
    · subst h
      rw [updB_self] at hi
      cases hi
      exact fun e => hne e.symm
    · rw [updB_ne _ _ h] at hi
      exact hx.2.2 i b' k' cap' hi
  refine ⟨⟨hbel, by have := I.hbase; omega, I.old, fun i => ?_, fun i o' hi hl => ?_, ?_, fun i b' k' cap' hi => ?_, fun i i' b' k' cap' k2 cap2 hi hi' => ?_, fun i b' k' cap' o' hi hl => ?_⟩, hok⟩
  · rw [look_put]
    by_cases h : i = id
    · subst h
      rw [if_pos rfl, updB_self]
      exact ⟨fun _ => .inl ⟨b, k, cap, rfl⟩, fun _ => rfl⟩
    · rw [if_neg h, updB_ne _ _ h]
      exact I.dom i
  · by_cases h : i = id
    · subst h
      rw [updB_self] at hi
      cases hi
    · rw [look_put, if_neg h] at hl
      rw [updB_ne _ _ h] at hi
      exact I.virt i o' hi hl
  · obtain ⟨N, hN⟩ := I.fin
    refine ⟨N + id + 1, fun i hi => ?_⟩
    rw [updB_ne _ _ (by omega)]
    exact hN i (by omega)
  · by_cases h : i = id
    · subst h
      rw [updB_self] at hi
      cases hi
      exact ⟨hlo, hb⟩
    · rw [updB_ne _ _ h] at hi
      have := I.lo i b' k' cap' hi
      omega
  · by_cases h : i = id
    · by_cases h' : i' = id
      · rw [h, h']
      · subst h
        rw [updB_self] at hi
        cases hi
        rw [updB_ne _ _ h'] at hi'
        exact absurd rfl (hother i' _ _ _ h' hi')
    · by_cases h' : i' = id
      · subst h'
        rw [updB_self] at hi'
        cases hi'
        rw [updB_ne _ _ h] at hi
        exact absurd rfl (hother i _ _ _ h hi)
      · rw [updB_ne _ _ h] at hi
        rw [updB_ne _ _ h'] at hi'
        exact I.inj i i' b' k' cap' k2 cap2 hi hi'
  · rw [look_put] at hl
    by_cases h : i = id
    · subst h
      rw [if_pos rfl] at hl
      cases hl
      rw [updB_self] at hi
      cases hi
      exact hobj hok
    · rw [if_neg h] at hl
      rw [updB_ne _ _ h] at hi
      have hlt := (I.lo i b' k' cap' hi).2
      exact (I.obj i b' k' cap' o' hi hl).mono hok hβ (hkeep b' hlt (hother i b' k' cap' h hi))

/-- An object is let go: what it holds is only read from here on. -/
theorem Inv.kill (I : Inv base A w0 β σ w) {id b k cap : Nat} (hl : β id = .live b k cap) :
    Inv base A w0 (updB β id .dead) (drop id σ) w ∧ ∀ x, okOf base A w β x → okOf base A w (updB β id .dead) x := by
  have hβ : ∀ i, BLe (β i) (updB β id .dead i) := updB_le (by rw [hl]; exact .dead _ _ _)
  have hok : ∀ x, okOf base A w β x → okOf base A w (updB β id .dead) x := by
    intro x hx
    refine ⟨hx.1, hx.2.1, fun i b' k' cap' hi => ?_⟩
    by_cases h : i = id
    · subst h
      rw [updB_self] at hi
      cases hi
    · rw [updB_ne _ _ h] at hi
      exact hx.2.2 i b' k' cap' hi
  refine ⟨⟨I.below, I.hbase, I.old, fun i => ?_, fun i o' hi hl' => ?_, ?_, fun i b' k' cap' hi => ?_, fun i i' b' k' cap' k2 cap2 hi hi' => ?_, fun i b' k' cap' o' hi hl' => ?_⟩, hok⟩
  · rw [look_drop]
    by_cases h : i = id
    · subst h
      rw [if_pos rfl, updB_self]
      exact ⟨fun h => (by cases h), fun h => (by rcases h with ⟨_, _, _, h⟩ | h <;> cases h)⟩
    · rw [if_neg h, updB_ne _ _ h]
      exact I.dom i
  · rw [look_drop] at hl'
    by_cases h : i = id
    · subst h
      rw [if_pos rfl] at hl'
      cases hl'
    · rw [if_neg h] at hl'
      rw [updB_ne _ _ h] at hi
      exact I.virt i o' hi hl'
  · obtain ⟨N, hN⟩ := I.fin
    refine ⟨N + id + 1, fun i hi => ?_⟩
    rw [updB_ne _ _ (by omega)]
    exact hN i (by omega)
  · by_cases h : i = id
    · subst h
      rw [updB_self] at hi
      cases hi
    · rw [updB_ne _ _ h] at hi
      exact I.lo i b' k' cap' hi
  · by_cases h : i = id
    · subst h
      rw [updB_self] at hi
      cases hi
    · by_cases h' : i' = id
      · subst h'
        rw [updB_self] at hi'
        cases hi'
      · rw [updB_ne _ _ h] at hi
        rw [updB_ne _ _ h'] at hi'
        exact I.inj i i' b' k' cap' k2 cap2 hi hi'
  · rw [look_drop] at hl'
    by_cases h : i = id
    · subst h
      rw [if_pos rfl] at hl'
      cases hl'
    · rw [if_neg h] at hl'
      rw [updB_ne _ _ h] at hi
      exact (I.obj i b' k' cap' o' hi hl').mono (fun x hx => ⟨hok x hx, rfl⟩) hβ rfl
/-- A new object that lies nowhere: an empty row. -/
theorem Inv.virtual (I : Inv base A w0 β σ w) {n : Nat} (hn : β n = .no) {o : AObj} (ho : o.es = []) :
    Inv base A w0 (updB β n .virt) (putA n o σ) w ∧ (∀ i, BLe (β i) (updB β n .virt i)) ∧ ∀ x, okOf base A w β x → okOf base A w (updB β n .virt) x := by
  have hle : ∀ i, BLe (β i) (updB β n .virt i) := updB_le (by rw [hn]; exact .no _)
  have back : ∀ i b k cap, updB β n .virt i = .live b k cap → i ≠ n ∧ β i = .live b k cap := fun i b k cap h => by
    by_cases h1 : i = n
    · subst h1; rw [updB_self] at h; cases h
    · rw [updB_ne _ _ h1] at h; exact ⟨h1, h⟩
  have hok : ∀ x, okOf base A w β x → okOf base A w (updB β n .virt) x := fun x hx => ⟨hx.1, hx.2.1, fun i b k cap h => hx.2.2 i b k cap (back i b k cap h).2⟩
  refine ⟨⟨I.below, I.hbase, I.old, fun i => ?_, fun i o' hi hl => ?_, ?_, fun i b k cap h => I.lo i b k cap (back i b k cap h).2, fun i i' b k cap k2 cap2 h h' => I.inj i i' b k cap k2 cap2 (back i b k cap h).2 (back i' b k2 cap2 h').2, fun i b k cap o' h hl => ?_⟩, hle, hok⟩
  · rw [look_put]
    by_cases h : i = n
    · subst h
      rw [if_pos rfl, updB_self]
      exact ⟨fun _ => .inr rfl, fun _ => rfl⟩
    · rw [if_neg h, updB_ne _ _ h]
      exact I.dom i
  · rw [look_put] at hl
    by_cases h : i = n
    · subst h
      rw [if_pos rfl] at hl
      cases hl
      exact ho
    · rw [if_neg h] at hl
      rw [updB_ne _ _ h] at hi
      exact I.virt i o' hi hl
  · obtain ⟨N, hN⟩ := I.fin
    refine ⟨N + n + 1, fun i hi => ?_⟩
    rw [updB_ne _ _ (by omega)]
    exact hN i (by omega)
  · obtain ⟨h1, h2⟩ := back i b k cap h
    rw [look_put, if_neg h1] at hl
    exact (I.obj i b k cap o' h2 hl).mono (fun x hx => ⟨hok x hx, rfl⟩) hle rfl
theorem Inv.notOk (I : Inv base A w0 β σ w) {id b k cap : Nat} (hl : β id = .live b k cap) : ¬ okOf base A w β b := fun h => h.2.2 id b k cap hl rfl
/-- A world that differs in draws alone. -/
theorem Inv.heap (I : Inv base A w0 β σ w) {w' : World} (hbel : Below base w w') (hh : w'.heap = w.heap) : Inv base A w0 β σ w' := by
  have hok : ∀ x, okOf base A w β x → okOf base A w' β x ∧ w'.heap[x]? = w.heap[x]? := fun x hx => ⟨⟨hx.1, by rw [hh]; exact hx.2.1, hx.2.2⟩, by rw [hh]⟩
  exact ⟨I.below.trans hbel, by rw [hh]; exact I.hbase, I.old, I.dom, I.virt, I.fin, fun i b k c h => by rw [hh]; exact I.lo i b k c h, I.inj, fun i b k c o h hl => (I.obj i b k c o h hl).mono hok (fun i => .same _) (by rw [hh])⟩
end
end Go.Proofs.YtphlhadgcfndhaaGreat.Abs
