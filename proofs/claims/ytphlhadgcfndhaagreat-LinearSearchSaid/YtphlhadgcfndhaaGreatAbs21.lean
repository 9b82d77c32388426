/- A call by a contract whose objects have other names here; what it is handed but doesn't look into is told exactly. -/
import Derived.Test.YtphlhadgcfndhaaGreatAbs20
namespace Go.Proofs.YtphlhadgcfndhaaGreat.Abs
open Go Go.RowKit
set_option linter.unusedVariables false
set_option linter.unusedSimpArgs false

theorem drop_sub {α : Type} (t : Nat) : ∀ l : List (Nat × α), (drop t l).Sublist l
  | [] => .slnil
  | (s, v) :: r => by
    unfold drop
    split
    · exact (drop_sub t r).cons _
    · exact (drop_sub t r).cons_cons _
theorem drop_ne {α : Type} {t : Nat} {p : Nat × α} : ∀ {l : List (Nat × α)}, p ∈ drop t l → p.1 ≠ t
  | [], h => by cases h
  | (s, v) :: r, h => by
    unfold drop at h
    split at h
    · exact drop_ne h
    · rename_i hne
      rcases List.mem_cons.1 h with rfl | h
      · exact fun e => hne e.symm
      · exact drop_ne h
theorem look_of_mem {α : Type} {t : Nat} {v : α} : ∀ {l : List (Nat × α)}, (l.map Prod.fst).Nodup → (t, v) ∈ l → look t l = some v
  | [], _, h => by cases h
  | (s, u) :: l, hn, h => by
    rw [List.map_cons, List.nodup_cons] at hn
    rw [look]
    rcases List.mem_cons.1 h with h | h
    · cases h
      rw [if_pos rfl]
    · rw [if_neg (fun e => hn.1 (List.mem_map.2 ⟨_, h, e⟩))]
      exact look_of_mem hn.2 h
def minus (π : List (Nat × Nat)) (σ : Sig) : Sig := match π with
  | [] => σ
  | (i, _) :: r => drop i (minus r σ)
theorem look_minus (σ : Sig) (id : Nat) : ∀ π : List (Nat × Nat), look id (minus π σ) = if (look id π).isSome = true then none else look id σ
  | [] => rfl
  | (i, k) :: r => by
    rw [minus, look_drop, look_minus σ id r, look]
    by_cases h : id = i
    · rw [if_pos h, if_pos h]; rfl
    · rw [if_neg h, if_neg h]
def looksP : List (Nat × Nat) → Sig → Option Sig
  | [], _ => some []
  | (i, k) :: r, σ => match look i σ, looksP r σ with
    | some o, some l => some ((k, o) :: l)
    | _, _ => none
theorem look_sub {σ : Sig} (k : Nat) : ∀ {π : List (Nat × Nat)} {sub : Sig}, looksP π σ = some sub → look k sub = (look k (π.map Prod.swap)).bind fun i => look i σ
  | [], _, h => by cases h; rfl
  | (i, q) :: r, _, h => by
    unfold looksP at h
    split at h
    · rename_i o l h1 h2
      cases h
      rw [List.map_cons, look, Prod.swap, look]
      by_cases hk : k = q
      · rw [if_pos hk, if_pos hk, Option.bind_some, h1]
      · rw [if_neg hk, if_neg hk]
        exact look_sub k h2
    · cases h
theorem looksP_all {σ : Sig} : ∀ {π : List (Nat × Nat)} {sub : Sig}, looksP π σ = some sub → ∀ p ∈ π, (look p.1 σ).isSome = true
  | [], _, _, p, hp => by cases hp
  | (i, q) :: r, _, h, p, hp => by
    unfold looksP at h
    split at h
    · rename_i o l h1 h2
      rcases List.mem_cons.1 hp with rfl | hp
      · rw [h1]; rfl
      · exact looksP_all h2 p hp
    · cases h
theorem looksP_mem {σ : Sig} : ∀ {π : List (Nat × Nat)} {sub : Sig}, looksP π σ = some sub → ∀ p ∈ sub, ∃ q ∈ π, q.2 = p.1 ∧ look q.1 σ = some p.2
  | [], _, h, p, hp => by cases h; cases hp
  | (i, q) :: r, _, h, p, hp => by
    unfold looksP at h
    split at h
    · rename_i o l h1 h2
      cases h
      rcases List.mem_cons.1 hp with rfl | hp
      · exact ⟨_, List.mem_cons_self .., rfl, h1⟩
      · obtain ⟨x, hx, h3⟩ := looksP_mem h2 p hp
        exact ⟨x, List.mem_cons_of_mem _ hx, h3⟩
    · cases h
theorem look_swap {π : List (Nat × Nat)} (h1 : (π.map Prod.fst).Nodup) (h2 : (π.map Prod.snd).Nodup) {i k : Nat} : look k (π.map Prod.swap) = some i ↔ look i π = some k := by
  constructor
  · intro h
    obtain ⟨p, hp, he⟩ := List.mem_map.1 (look_mem h)
    cases he
    exact look_of_mem h1 hp
  · intro h
    exact look_of_mem (by rw [List.map_map]; exact h2) (List.mem_map.2 ⟨_, look_mem h, rfl⟩)
/-! ### names of the call -/
def exI (π ν : List (Nat × Nat)) (id : Nat) : Option Nat := match look id π with
  | some k => some k
  | none => look id ν
def exC (π ν : List (Nat × Nat)) (V : Cell → Value) : Cell → Cell
  | .ref id lo q => match exI π ν id with
    | some k => .ref k lo q
    | none => .sc (V (.ref id lo q))
  | .ptr id i off => match exI π ν id with
    | some k => .ptr k i off
    | none => .sc (V (.ptr id i off))
  | c => c
mutual
def exV (π ν : List (Nat × Nat)) (V : Cell → Value) : AVal → AVal
  | .any => .any
  | .c x => .c (exC π ν V x)
  | .agg cs => .agg (cs.map (exC π ν V))
  | .tup vs => .tup (exVs π ν V vs)
  | .cut _ _ _ => .any
def exVs (π ν : List (Nat × Nat)) (V : Cell → Value) : List AVal → List AVal
  | [] => []
  | v :: vs => exV π ν V v :: exVs π ν V vs
end
theorem exVs_get (π ν : List (Nat × Nat)) (V : Cell → Value) : ∀ (vs : List AVal) (i : Nat), (exVs π ν V vs)[i]? = vs[i]?.map (exV π ν V)
  | [], i => by simp [exVs]
  | v :: vs, 0 => by simp [exVs]
  | v :: vs, i + 1 => by simp [exVs, exVs_get π ν V vs i]
theorem exVs_len (π ν : List (Nat × Nat)) (V : Cell → Value) : ∀ vs : List AVal, (exVs π ν V vs).length = vs.length
  | [] => rfl
  | v :: vs => by simp [exVs, exVs_len π ν V vs]
def exO (π ν : List (Nat × Nat)) (V : Cell → Value) (o : AObj) : AObj := ⟨o.k, o.es.map fun e => e.map (exC π ν V)⟩
def exS (π ν : List (Nat × Nat)) (V : Cell → Value) : Sig → Sig
  | [] => []
  | (id, o) :: r => match exI π ν id with
    | some k => (k, exO π ν V o) :: exS π ν V r
    | none => exS π ν V r
/-- What a cell names is handed on, or new, or told. -/
def opqC (π ν : List (Nat × Nat)) (σ : Sig) : Cell → Prop
  | .ref id lo q => match exI π ν id with
    | some _ => True
    | none => match look id σ with
      | some o => lo + q ≤ o.es.length ∧ o.es ≠ []
      | none => False
  | .ptr id _ _ => match exI π ν id with
    | some _ => True
    | none => match look id σ with
      | some o => o.es ≠ []
      | none => False
  | _ => True
def opqCs (π ν : List (Nat × Nat)) (σ : Sig) (cs : List Cell) : Prop := ∀ c ∈ cs, opqC π ν σ c
mutual
def opqV (π ν : List (Nat × Nat)) (σ : Sig) : AVal → Prop
  | .any => True
  | .c x => opqC π ν σ x
  | .agg cs => opqCs π ν σ cs
  | .tup vs => opqVs π ν σ vs
  | .cut _ _ _ => False
def opqVs (π ν : List (Nat × Nat)) (σ : Sig) : List AVal → Prop
  | [] => True
  | v :: vs => opqV π ν σ v ∧ opqVs π ν σ vs
end
theorem opqVs_mem {π ν : List (Nat × Nat)} {σ : Sig} : ∀ {vs : List AVal}, opqVs π ν σ vs → ∀ v ∈ vs, opqV π ν σ v
  | [], _, _, h => by cases h
  | u :: vs, hp, v, h => by
    rcases List.mem_cons.1 h with rfl | h
    · exact hp.1
    · exact opqVs_mem hp.2 v h
def opqO (π ν : List (Nat × Nat)) (σ : Sig) (o : AObj) : Prop := ∀ e ∈ o.es, opqCs π ν σ e
/-- A cell that hangs on no block that is only read. -/
def freeC : Cell → Bool
  | .row _ _ es => es.isEmpty
  | .fad _ => false
  | .fn _ _ => false
  | _ => true
mutual
def freeV : AVal → Bool
  | .any => true
  | .c x => freeC x
  | .agg cs => cs.all freeC
  | .tup vs => freeVs vs
  | .cut _ _ _ => false
def freeVs : List AVal → Bool
  | [] => true
  | v :: vs => freeV v && freeVs vs
end
theorem freeVs_mem : ∀ {vs : List AVal}, freeVs vs = true → ∀ v ∈ vs, freeV v = true
  | [], _, _, h => by cases h
  | u :: vs, hp, v, h => by
    rw [freeVs, Bool.and_eq_true] at hp
    rcases List.mem_cons.1 h with rfl | h
    · exact hp.1
    · exact freeVs_mem hp.2 v h
def freeO (o : AObj) : Prop := ∀ e ∈ o.es, ∀ c ∈ e, freeC c = true
def opqS (π ν : List (Nat × Nat)) (σ : Sig) : Sig → Prop
  | [] => True
  | (id, o) :: r => (exI π ν id).isSome = true ∧ opqO π ν σ o ∧ freeO o ∧ opqS π ν σ r
/-- The exact value of what a cell names. -/
def exactV (β : Nat → Bnd) : Cell → Value
  | .ref id lo q => match β id with
    | .live b k cap => .slice (some ⟨b, lo * k, none⟩) q (cap - lo)
    | _ => .bool true
  | .ptr id i off => match β id with
    | .live b k cap => .pointer (some ⟨b, i * k + off, none⟩)
    | _ => .bool true
  | _ => .bool true
theorem exactV_one (β : Nat → Bnd) (c : Cell) : (exactV β c).oneCell' = true := by
  unfold exactV
  split
  · split <;> rfl
  · split <;> rfl
  · rfl
theorem exC_frozen {w : World} {ok : Nat → Prop} {π ν : List (Nat × Nat)} {V : Cell → Value} {c : Cell} {u : Value} (h : RepF w ok c u) : exC π ν V c = c := by cases h <;> rfl
theorem free_rep {w : World} {ok ok' : Nat → Prop} {c : Cell} {u : Value} (h : RepF w ok c u) (hf : freeC c = true) : RepF w ok' c u := by
  cases h with
  | any _ h => exact .any _ h
  | sc _ h => exact .sc _ h
  | bit b => exact .bit b
  | @row k t es A cap vs h1 h2 h3 h4 h5 h6 =>
    cases es with
    | nil => exact .row vs h1 h2 h3 (fun h => absurd rfl h) (fun ad _ i e h => by simp at h) (fun i e h => by simp at h)
    | cons e es => cases hf
  | fad => cases hf
  | fn => cases hf
section
variable {base : Nat} {A : Nat → Prop} {w0 w : World} {β : Nat → Bnd} {σ : Sig} {π ν : List (Nat × Nat)} {βh : Nat → Bnd} {okh : Nat → Prop}
theorem exC_rep (I : Inv base A w0 β σ w) (hν : ∀ p ∈ ν, β p.1 = .no) (hok : ∀ x, okOf base A w β x → okh x) (hβ : ∀ i k, look i π = some k → βh k = β i)
    {c : Cell} {u : Value} (ho : opqC π ν σ c) (h : RepC w (okOf base A w β) β c u) : RepC w okh βh (exC π ν (exactV β) c) u := by
  have dead : ∀ {id : Nat} {o : AObj}, look id σ = some o → β id ≠ .dead := fun hl hd => by
    rcases (I.dom _).1 (by rw [hl]; rfl) with ⟨b, k, cap, hb⟩ | hb
    · rw [hd] at hb; cases hb
    · rw [hd] at hb; cases hb
  have ex : ∀ {id : Nat}, β id ≠ .no → exI π ν id = look id π := fun {id} h => by
    unfold exI
    cases hp : look id π with
    | some k => rfl
    | none =>
      cases hq : look id ν with
      | none => rfl
      | some k => exact absurd (hν _ (look_mem hq)) h
  cases h with
  | fz h =>
    rw [exC_frozen h]
    exact .fz (h.mono fun x hx => ⟨hok x hx, rfl⟩)
  | @ref id lo q b k cap hb hl =>
    have hx := ex (id := id) (by rw [hb]; simp)
    simp only [exC, hx]
    cases hp : look id π with
    | some j => exact .ref (by rw [hβ id j hp]; exact hb) hl
    | none =>
      simp only
      have : exactV β (.ref id lo q) = .slice (some ⟨b, lo * k, none⟩) q (cap - lo) := by unfold exactV; simp only [hb]
      rw [this]
      exact .fz (.sc _ rfl)
  | @refv id A' hb =>
    have hx := ex (id := id) (by rw [hb]; simp)
    simp only [exC, hx]
    cases hp : look id π with
    | some j => exact .refv (by rw [hβ id j hp]; exact hb)
    | none =>
      unfold opqC at ho
      simp only [hx, hp] at ho
      cases hq : look id σ with
      | none => rw [hq] at ho; exact ho.elim
      | some o => rw [hq] at ho; exact absurd (I.virt id o hb hq) ho.2
  | @gone id lo q v hb hv =>
    have hx := ex (id := id) (by rw [hb]; simp)
    simp only [exC, hx]
    cases hp : look id π with
    | some j => exact .gone (by rw [hβ id j hp]; exact hb) hv
    | none =>
      unfold opqC at ho
      simp only [hx, hp] at ho
      cases hq : look id σ with
      | none => rw [hq] at ho; exact ho.elim
      | some o => exact absurd hb (dead hq)
  | @ptr id i off b k cap hb =>
    have hx := ex (id := id) (by rw [hb]; simp)
    simp only [exC, hx]
    cases hp : look id π with
    | some j => exact .ptr (cap := cap) (by rw [hβ id j hp]; exact hb)
    | none =>
      simp only
      have : exactV β (.ptr id i off) = .pointer (some ⟨b, i * k + off, none⟩) := by unfold exactV; simp only [hb]
      rw [this]
      exact .fz (.sc _ rfl)
  | @gonep id i off v hb hv =>
    have hx := ex (id := id) (by rw [hb]; simp)
    simp only [exC, hx]
    cases hp : look id π with
    | some j => exact .gonep (by rw [hβ id j hp]; exact hb) hv
    | none =>
      unfold opqC at ho
      simp only [hx, hp] at ho
      cases hq : look id σ with
      | none => rw [hq] at ho; exact ho.elim
      | some o => exact absurd hb (dead hq)
theorem exV_rep (I : Inv base A w0 β σ w) (hν : ∀ p ∈ ν, β p.1 = .no) (hok : ∀ x, okOf base A w β x → okh x) (hβ : ∀ i k, look i π = some k → βh k = β i)
    {x : AVal} {u : Value} (h : RepV w (okOf base A w β) β x u) (ho : opqV π ν σ x) : RepV w okh βh (exV π ν (exactV β) x) u := by
  induction h with
  | any v => rw [exV]; exact .any v
  | c h =>
    rw [exV]
    rw [opqV] at ho
    exact .c (exC_rep I hν hok hβ ho h)
  | agg h =>
    rw [exV]
    rw [opqV] at ho
    refine .agg ⟨by rw [List.length_map]; exact h.1, fun i c v hc hv => ?_⟩
    rw [List.getElem?_map] at hc
    cases hq : (_ : List Cell)[i]? with
    | none => rw [hq] at hc; cases hc
    | some q =>
      rw [hq] at hc
      cases hc
      exact exC_rep I hν hok hβ (ho q (List.mem_of_getElem? hq)) (h.2 i q v hq hv)
  | tup hl _ ih =>
    rw [exV]
    rw [opqV] at ho
    refine .tup (by rw [exVs_len]; exact hl) fun i a u ha hu => ?_
    rw [exVs_get] at ha
    cases hq : (_ : List AVal)[i]? with
    | none => rw [hq] at ha; cases ha
    | some q =>
      rw [hq] at ha
      cases ha
      exact ih i q u hq hu (opqVs_mem ho q (List.mem_of_getElem? hq))
  | cut h => rw [exV]; exact .any _
end
theorem look_exS {π ν : List (Nat × Nat)} {V : Cell → Value} (hinj : ∀ i i' k, exI π ν i = some k → exI π ν i' = some k → i = i') {id k : Nat} (hk : exI π ν id = some k) : ∀ σ : Sig, look k (exS π ν V σ) = (look id σ).map (exO π ν V)
  | [] => rfl
  | (t, o) :: r => by
    have ih := look_exS (V := V) hinj hk r
    unfold exS
    by_cases ht : id = t
    · subst ht
      rw [hk]
      simp only [look, if_true, Option.map_some]
    · rw [look, if_neg ht]
      split
      · rename_i k' hk'
        rw [look, if_neg (fun e => ht (hinj id t k hk (by rw [hk', e])))]
        exact ih
      · exact ih
theorem opqS_look {π ν : List (Nat × Nat)} {σ : Sig} {id : Nat} {o : AObj} : ∀ {σ0 : Sig}, opqS π ν σ σ0 → look id σ0 = some o → (exI π ν id).isSome = true ∧ opqO π ν σ o ∧ freeO o
  | [], _, h => by cases h
  | (t, q) :: r, hp, h => by
    rw [look] at h
    split at h
    · rename_i e
      cases h
      subst e
      exact ⟨hp.1, hp.2.1, hp.2.2.1⟩
    · exact opqS_look hp.2.2.2 h
end Go.Proofs.YtphlhadgcfndhaaGreat.Abs
