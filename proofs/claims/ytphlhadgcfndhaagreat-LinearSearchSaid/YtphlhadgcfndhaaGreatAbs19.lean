/- Names anew: what is live is named by small numbers again, what nobody names any more is forgotten. -/
import Derived.Test.YtphlhadgcfndhaaGreatAbs18
namespace Go.Proofs.YtphlhadgcfndhaaGreat.Abs
open Go Go.RowKit
set_option linter.unusedVariables false
set_option linter.unusedSimpArgs false

def rnI (L : Nat) (ρ : List (Nat × Nat)) (id : Nat) : Option Nat := if id < L then some id else look id ρ
def rnC (L : Nat) (ρ : List (Nat × Nat)) : Cell → Cell
  | .ref id lo m => match rnI L ρ id with
    | some j => .ref j lo m
    | none => .any
  | .ptr id i off => match rnI L ρ id with
    | some j => .ptr j i off
    | none => .any
  | c => c
def rnV (L : Nat) (ρ : List (Nat × Nat)) : AVal → AVal
  | .c x => .c (rnC L ρ x)
  | .agg cs => .agg (cs.map (rnC L ρ))
  | _ => .any
def rnO (L : Nat) (ρ : List (Nat × Nat)) (o : AObj) : AObj := ⟨o.k, o.es.map fun e => e.map (rnC L ρ)⟩
def rnS (L : Nat) (ρ : List (Nat × Nat)) (ids : List Nat) : Sig → Sig
  | [] => []
  | (t, o) :: r => match rnI L ρ t with
    | some j => (j, if ids.contains t = true then rnO L ρ o else o) :: rnS L ρ ids r
    | none => rnS L ρ ids r
def tidy (L : Nat) (ρ : List (Nat × Nat)) (ids : List Nat) (K : Nat) (s : St) : St := ⟨mapS (rnV L ρ) s.τ, rnS L ρ ids s.σ, K⟩
/-- A cell that is named as before. -/
def stayC (L lim : Nat) (ρ : List (Nat × Nat)) : Cell → Prop
  | .ref id _ _ => rnI L ρ id = some id ∨ id < lim
  | .ptr id _ _ => rnI L ρ id = some id ∨ id < lim
  | _ => True
structure TidyOk (L lim : Nat) (ρ : List (Nat × Nat)) (ids : List Nat) (K : Nat) (σ : Sig) : Prop where
  pairs : ∀ p ∈ ρ, L ≤ p.1 ∧ L ≤ p.2 ∧ p.2 < K ∧ ((p.1 < lim ∨ p.2 < lim) → p.1 = p.2)
  top : L ≤ K ∧ lim ≤ K
  inj : (ρ.map Prod.snd).Nodup
  keep : ∀ j, L ≤ j → j < lim → (look j σ).isSome = true → look j ρ = some j
  stay : ∀ i o, look i σ = some o → ids.contains i = false → rnI L ρ i ≠ none → ∀ e ∈ o.es, ∀ c ∈ e, stayC L lim ρ c
theorem look_mem {α : Type} {t : Nat} {v : α} : ∀ {l : List (Nat × α)}, look t l = some v → (t, v) ∈ l
  | [], h => by cases h
  | (s, u) :: l, h => by
    rw [look] at h
    split at h
    · rename_i e
      cases h
      subst e
      exact List.mem_cons_self ..
    · exact List.mem_cons_of_mem _ (look_mem h)
theorem snd_inj : ∀ {ρ : List (Nat × Nat)}, (ρ.map Prod.snd).Nodup → ∀ {i i' j : Nat}, (i, j) ∈ ρ → (i', j) ∈ ρ → i = i'
  | [], _, _, _, _, h, _ => by cases h
  | p :: ρ, hn, i, i', j, h, h' => by
    rw [List.map_cons, List.nodup_cons] at hn
    rcases List.mem_cons.1 h with rfl | h1
    · rcases List.mem_cons.1 h' with h2 | h2
      · cases h2; rfl
      · exact absurd (List.mem_map.2 ⟨_, h2, rfl⟩) hn.1
    · rcases List.mem_cons.1 h' with rfl | h2
      · exact absurd (List.mem_map.2 ⟨_, h1, rfl⟩) hn.1
      · exact snd_inj hn.2 h1 h2
section
variable {L lim K : Nat} {ρ : List (Nat × Nat)} {ids : List Nat} {σ : Sig}
theorem TidyOk.injI (h : TidyOk L lim ρ ids K σ) {i i' j : Nat} (h1 : rnI L ρ i = some j) (h2 : rnI L ρ i' = some j) : i = i' := by
  unfold rnI at h1 h2
  split at h1
  · cases h1
    split at h2
    · cases h2; rfl
    · have := (h.pairs _ (look_mem h2)).2.1
      omega
  · split at h2
    · cases h2
      have := (h.pairs _ (look_mem h1)).2.1
      omega
    · exact snd_inj h.inj (look_mem h1) (look_mem h2)
theorem look_rnS (hinj : ∀ i i' j, rnI L ρ i = some j → rnI L ρ i' = some j → i = i') {i j : Nat} (hij : rnI L ρ i = some j) : ∀ σ : Sig, look j (rnS L ρ ids σ) = (look i σ).map fun o => if ids.contains i = true then rnO L ρ o else o
  | [] => rfl
  | (t, o) :: r => by
    have ih := look_rnS hinj hij r
    unfold rnS
    by_cases ht : i = t
    · subst ht
      rw [hij]
      simp only [look, if_true, Option.map_some]
    · rw [look, if_neg ht]
      split
      · rename_i j' hj'
        rw [look, if_neg (fun e => ht (hinj i t j hij (by rw [hj', e])))]
        exact ih
      · exact ih
theorem look_rnS_src {j : Nat} : ∀ σ : Sig, (look j (rnS L ρ ids σ)).isSome = true → ∃ i, rnI L ρ i = some j ∧ (look i σ).isSome = true
  | [], h => by cases h
  | (t, o) :: r, h => by
    by_cases ht : rnI L ρ t = some j
    · exact ⟨t, ht, by rw [look, if_pos rfl]; rfl⟩
    · unfold rnS at h
      have : (look j (rnS L ρ ids r)).isSome = true := by
        split at h
        · rename_i j' hj'
          rw [look, if_neg (fun e => ht (by rw [hj', e]))] at h
          exact h
        · exact h
      obtain ⟨i, h1, h2⟩ := look_rnS_src r this
      refine ⟨i, h1, ?_⟩
      rw [look]
      split
      · rfl
      · exact h2
end
open Classical in
noncomputable def rnB (L lim : Nat) (ρ : List (Nat × Nat)) (β : Nat → Bnd) (j : Nat) : Bnd :=
  if j < L ∨ j < lim then β j else if h : ∃ i, look i ρ = some j then β (Classical.choose h) else .no
section
variable {base : Nat} {A : Old} {w0 w : World} {β : Nat → Bnd} {n : Nat} {a : Act} {L K : Nat} {ρ : List (Nat × Nat)} {ids : List Nat} {σ : Sig}
theorem rnB_low {lim j : Nat} (h : j < L ∨ j < lim) : rnB L lim ρ β j = β j := if_pos h
theorem rnB_at {lim : Nat} (h : TidyOk L lim ρ ids K σ) {i j : Nat} (hij : rnI L ρ i = some j) : rnB L lim ρ β j = β i := by
  unfold rnI at hij
  split at hij
  · cases hij
    exact rnB_low (.inl ‹_›)
  · have hp := h.pairs _ (look_mem hij)
    simp only at hp
    by_cases hlo : j < L ∨ j < lim
    · rw [rnB_low hlo]
      have : j < lim := by omega
      rw [hp.2.2.2 (.inr this)]
    · unfold rnB
      have hex : ∃ i, look i ρ = some j := ⟨i, hij⟩
      rw [if_neg hlo, dif_pos hex]
      have := Classical.choose_spec hex
      rw [snd_inj h.inj (look_mem this) (look_mem hij)]
theorem rnB_src {lim : Nat} (h : TidyOk L lim ρ ids K σ) (hdom : ∀ i, ((∃ b k cap, β i = .live b k cap) ∨ β i = .virt) → (look i σ).isSome = true) {j : Nat} (hj : (∃ b k cap, rnB L lim ρ β j = .live b k cap) ∨ rnB L lim ρ β j = .virt) : ∃ i, rnI L ρ i = some j ∧ β i = rnB L lim ρ β j := by
  by_cases hlo : j < L ∨ j < lim
  · rw [rnB_low hlo] at hj ⊢
    refine ⟨j, ?_, rfl⟩
    unfold rnI
    by_cases hL : j < L
    · rw [if_pos hL]
    · rw [if_neg hL]
      exact h.keep j (by omega) (by omega) (hdom j hj)
  · unfold rnB at hj ⊢
    rw [if_neg hlo] at hj ⊢
    by_cases hex : ∃ i, look i ρ = some j
    · rw [dif_pos hex] at hj ⊢
      have hc := Classical.choose_spec hex
      refine ⟨_, ?_, rfl⟩
      unfold rnI
      have := (h.pairs _ (look_mem hc)).1
      rw [if_neg (by simp only at this; omega)]
      exact hc
    · rw [dif_neg hex] at hj
      rcases hj with ⟨_, _, _, hj⟩ | hj <;> cases hj
theorem rn_repC {lim : Nat} (h : TidyOk L lim ρ ids K σ) {ok ok' : Nat → Prop} (hok : ∀ b, ok b → ok' b) {c : Cell} {v : Value} (hr : RepC w ok β c v) : RepC w ok' (rnB L lim ρ β) (rnC L ρ c) v := by
  have one := hr.one
  cases hr with
  | fz hf =>
    have hf' := hf.mono (w' := w) (ok' := ok') fun b hb => ⟨hok b hb, rfl⟩
    cases c with
    | ref => cases hf
    | ptr => cases hf
    | any => exact .fz hf'
    | sc => exact .fz hf'
    | bit => exact .fz hf'
    | row => exact .fz hf'
    | fad => exact .fz hf'
    | fn => exact .fz hf'
  | ref hb hl =>
    simp only [rnC]
    split
    · rename_i j hj
      exact .ref ((rnB_at h hj).trans hb) hl
    · exact .fz (.any _ one)
  | refv hb =>
    simp only [rnC]
    split
    · rename_i j hj
      exact .refv ((rnB_at h hj).trans hb)
    · exact .fz (.any _ one)
  | gone hb hv =>
    simp only [rnC]
    split
    · rename_i j hj
      exact .gone ((rnB_at h hj).trans hb) hv
    · exact .fz (.any _ one)
  | ptr hb =>
    simp only [rnC]
    split
    · rename_i j hj
      exact .ptr ((rnB_at h hj).trans hb)
    · exact .fz (.any _ one)
  | gonep hb hv =>
    simp only [rnC]
    split
    · rename_i j hj
      exact .gonep ((rnB_at h hj).trans hb) hv
    · exact .fz (.any _ one)
theorem stay_repC {lim : Nat} (h : TidyOk L lim ρ ids K σ) {ok ok' : Nat → Prop} (hok : ∀ b, ok b → ok' b) {c : Cell} {v : Value} (hs : stayC L lim ρ c) (hr : RepC w ok β c v) : RepC w ok' (rnB L lim ρ β) c v := by
  have same : ∀ {id : Nat}, (rnI L ρ id = some id ∨ id < lim) → rnB L lim ρ β id = β id := fun h1 => by
    rcases h1 with h1 | h1
    · exact rnB_at h h1
    · exact rnB_low (.inr h1)
  cases hr with
  | fz hf => exact .fz (hf.mono fun b hb => ⟨hok b hb, rfl⟩)
  | ref hb hl => exact .ref ((same hs).trans hb) hl
  | refv hb => exact .refv ((same hs).trans hb)
  | gone hb hv => exact .gone ((same hs).trans hb) hv
  | ptr hb => exact .ptr ((same hs).trans hb)
  | gonep hb hv => exact .gonep ((same hs).trans hb) hv
theorem Weak.tidy (L : Nat) (ρ : List (Nat × Nat)) (ids : List Nat) (K : Nat) (s : St) (h : TidyOk L A.lim ρ ids K s.σ) : Weak A s (tidy L ρ ids K s) := fun base w0 n β a w I => by
  have hdom : ∀ i, ((∃ b k cap, β i = .live b k cap) ∨ β i = .virt) → (look i s.σ).isSome = true := fun i hi => (I.inv.dom i).2 hi
  have src : ∀ {j : Nat}, ((∃ b k cap, rnB L A.lim ρ β j = .live b k cap) ∨ rnB L A.lim ρ β j = .virt) → ∃ i, rnI L ρ i = some j ∧ β i = rnB L A.lim ρ β j := fun hj => rnB_src h hdom hj
  have hinj : ∀ i i' j, rnI L ρ i = some j → rnI L ρ i' = some j → i = i' := fun i i' j h1 h2 => h.injI h1 h2
  have hok : ∀ x, okOf base A.own w β x → okOf base A.own w (rnB L A.lim ρ β) x := fun x hx => ⟨hx.1, hx.2.1, fun j b k cap hj => by
    obtain ⟨i, hi, hb⟩ := src (.inl ⟨b, k, cap, hj⟩)
    exact hx.2.2 i b k cap (hb.trans hj)⟩
  have hfr : ∀ id, K ≤ id → rnB L A.lim ρ β id = .no := fun id hid => by
    have h1 := h.top
    unfold rnB
    rw [if_neg (by omega), dif_neg]
    rintro ⟨i, hi⟩
    have := (h.pairs _ (look_mem hi)).2.2.1
    simp only at this
    omega
  refine ⟨rnB L A.lim ρ β, ⟨I.inv.below, I.inv.hbase, I.inv.old, fun j => ⟨fun hj => ?_, fun hj => ?_⟩, fun j o hv hl => ?_, ⟨K, hfr⟩, fun j b k cap hj => ?_, fun j j' b k cap k' cap' hj hj' => ?_, fun j b k cap o hj hl => ?_⟩, I.defers, I.size, fun t v hv => ?_, hfr, fun id => ?_, fun x hx => ⟨hok x (I.ext.ok x hx).1, (I.ext.ok x hx).2⟩, fun x ob h => ⟨(I.ext.kp x ob h).1, hok x (I.ext.kp x ob h).2.1, (I.ext.kp x ob h).2.2⟩⟩
  · obtain ⟨i, h1, h2⟩ := look_rnS_src s.σ hj
    rw [rnB_at h h1]
    exact (I.inv.dom i).1 h2
  · obtain ⟨i, h1, h2⟩ := src hj
    show (look j (rnS L ρ ids s.σ)).isSome = true
    rw [look_rnS hinj h1, Option.isSome_map]
    exact hdom i (by rw [h2]; exact hj)
  · obtain ⟨i, h1, h2⟩ := src (.inr hv)
    have hl' : look j (rnS L ρ ids s.σ) = some o := hl
    rw [look_rnS hinj h1] at hl'
    cases hx : look i s.σ with
    | none => rw [hx] at hl'; cases hl'
    | some x =>
      rw [hx] at hl'
      simp only [Option.map_some, Option.some.injEq] at hl'
      have hxe := I.inv.virt i x (h2.trans hv) hx
      subst hl'
      split
      · show x.es.map _ = []
        rw [hxe]; rfl
      · exact hxe
  · obtain ⟨i, h1, h2⟩ := src (.inl ⟨b, k, cap, hj⟩)
    exact I.inv.lo i b k cap (h2.trans hj)
  · obtain ⟨i, h1, h2⟩ := src (.inl ⟨b, k, cap, hj⟩)
    obtain ⟨i', h1', h2'⟩ := src (.inl ⟨b, k', cap', hj'⟩)
    have := I.inv.inj i i' b k cap k' cap' (h2.trans hj) (h2'.trans hj')
    subst this
    rw [h1] at h1'
    exact Option.some.inj h1'
  · obtain ⟨i, h1, h2⟩ := src (.inl ⟨b, k, cap, hj⟩)
    have hl' : look j (rnS L ρ ids s.σ) = some o := hl
    rw [look_rnS hinj h1] at hl'
    cases hx : look i s.σ with
    | none => rw [hx] at hl'; cases hl'
    | some x =>
      rw [hx] at hl'
      simp only [Option.map_some, Option.some.injEq] at hl'
      have O := I.inv.obj i b k cap x (h2.trans hj) hx
      obtain ⟨arr, ty, g1, g2, g3, g4⟩ := O.hat
      subst hl'
      split
      · refine ⟨O.hk, by show (x.es.map _).length ≤ cap; rw [List.length_map]; exact O.hcap, fun e he => ?_, arr, ty, g1, g2, g3, fun p e he q c hc => ?_⟩
        · obtain ⟨e0, he0, rfl⟩ := List.mem_map.1 he
          rw [List.length_map]
          exact O.hlen e0 he0
        · have he' : (x.es.map fun e => e.map (rnC L ρ))[p]? = some e := he
          rw [List.getElem?_map] at he'
          cases hxp : x.es[p]? with
          | none => rw [hxp] at he'; cases he'
          | some e0 =>
            rw [hxp] at he'
            cases he'
            rw [List.getElem?_map] at hc
            cases hxc : e0[q]? with
            | none => rw [hxc] at hc; cases hc
            | some c0 =>
              rw [hxc] at hc
              cases hc
              obtain ⟨v, hv, hr⟩ := g4 p e0 hxp q c0 hxc
              exact ⟨v, hv, rn_repC h hok hr⟩
      · rename_i hnc
        refine ⟨O.hk, O.hcap, O.hlen, arr, ty, g1, g2, g3, fun p e he q c hc => ?_⟩
        obtain ⟨v, hv, hr⟩ := g4 p e he q c hc
        exact ⟨v, hv, stay_repC h hok (h.stay i x hx (by simpa using hnc) (by rw [h1]; simp) e (List.mem_of_getElem? he) c (List.mem_of_getElem? hc)) hr⟩
  · have hv' : look t (mapS (rnV L ρ) s.τ) = some v := hv
    rw [look_map] at hv'
    cases hx : look t s.τ with
    | none => rw [hx] at hv'; cases hv'
    | some x =>
      rw [hx] at hv'
      cases hv'
      obtain ⟨u, hu, hr⟩ := I.tmps t x hx
      refine ⟨u, hu, ?_⟩
      cases hr with
      | any => exact .any _
      | c hr => exact .c (rn_repC h hok hr)
      | @agg cs vs hr =>
        refine .agg ⟨by rw [List.length_map]; exact hr.1, fun i c v hc hv => ?_⟩
        rw [List.getElem?_map] at hc
        cases hxc : cs[i]? with
        | none => rw [hxc] at hc; cases hc
        | some c0 =>
          rw [hxc] at hc
          cases hc
          exact rn_repC h hok (hr.2 i c0 v hxc hv)
      | tup hl hi => exact .any _
      | cut => exact .any _
  · by_cases hid : id < A.lim
    · rw [rnB_low (.inr hid)]
      exact I.ext.ble id
    · rw [A.hlim id (by omega)]
      exact .no _
/-- Where all names are the call's own. -/
theorem TidyOk.own {ρ : List (Nat × Nat)} {ids : List Nat} {K : Nat} {σ : Sig} (h1 : (ρ.all fun p => p.2 < K) = true) (h2 : (ρ.map Prod.snd).Nodup) (h3 : ∀ i o, look i σ = some o → ids.contains i = false → look i ρ ≠ none → flatO o = true) : TidyOk 0 0 ρ ids K σ := by
  refine ⟨fun p hp => ⟨Nat.zero_le _, Nat.zero_le _, ?_, fun h => by omega⟩, ⟨Nat.zero_le _, Nat.zero_le _⟩, h2, fun j _ hj => by omega, fun i o hl hi hne e he c hc => ?_⟩
  · rw [List.all_eq_true] at h1
    simpa using h1 p hp
  · have hf := h3 i o hl hi (by simpa [rnI] using hne)
    unfold flatO at hf
    rw [List.all_eq_true] at hf
    have := hf e he
    rw [List.all_eq_true] at this
    have := this c hc
    cases c <;> first | trivial | cases this
/-- What holds between two pieces. -/
theorem AW.mid {P : Program} (J : St → Prop) {x y : Code} {s : St} {Q : Exit → St → Prop} (h1 : AW P base A w0 n x s (thenA (fun s' => ∃ s'', Weak A s' s'' ∧ J s'') Q)) (h2 : ∀ s', J s' → AW P base A w0 n y s' Q) : AW P base A w0 n (.seq x y) s Q :=
  AW.seq (h1.mono fun e s' h => ⟨s', Weak.refl _, by
    cases e with
    | normal =>
      obtain ⟨s'', hw, hJ⟩ := h
      exact (h2 s'' hJ).weak hw
    | exit id => exact h
    | goto l => exact h
    | ret => exact h
    | panic ch => exact h
    | outgrown => exact h⟩)
theorem x_then {K : St → Prop} {Q : Exit → St → Prop} {id : Nat} {s : St} (h : Q (.exit id) s) : thenA K Q (.exit id) s := h
theorem x_pass {id id' : Nat} {Q : Exit → St → Prop} {s : St} (hne : id ≠ id') (h : Q (.exit id) s) : blockA id' Q (.exit id) s := by
  simp only [blockA, if_neg hne]
  exact h
theorem all0_t (f : Value → Bool) : Array.all #[] f 0 0 = true := by simp
theorem all1_t (f : Value → Bool) (v : Value) : Array.all #[v] f 0 1 = f v := by simp
theorem one_ne_zero_t : (1 = 0) = False := by simp
theorem zero_ne_one_t : (0 = 1) = False := by simp
def norm (ks : List Nat) (ρ : List (Nat × Nat)) (ids : List Nat) (K : Nat) (s : St) : St := ⟨mapS (rnV 0 ρ) (keepT ks s.τ), rnS 0 ρ ids s.σ, K⟩
def flatRest (ρ : List (Nat × Nat)) (ids : List Nat) : Sig → Prop
  | [] => True
  | (t, o) :: r => (ids.contains t = false → (look t ρ).isSome = true → flatO o = true) ∧ flatRest ρ ids r
theorem flatRest_look {ρ : List (Nat × Nat)} {ids : List Nat} : ∀ {σ : Sig}, flatRest ρ ids σ → ∀ i o, look i σ = some o → ids.contains i = false → look i ρ ≠ none → flatO o = true
  | [], _, i, o, hl, _, _ => by cases hl
  | (t, x) :: r, h, i, o, hl, hi, hn => by
    rw [look] at hl
    split at hl
    · rename_i e
      cases hl
      subst e
      exact h.1 hi (by cases hx : look i ρ with | none => exact absurd hx hn | some _ => rfl)
    · exact flatRest_look h.2 i o hl hi hn
/-- Some slots are kept; names anew. -/
theorem Weak.norm (hA : A.lim = 0) (ks : List Nat) (ρ : List (Nat × Nat)) (ids : List Nat) (K : Nat) (s : St) (h1 : (ρ.all fun p => p.2 < K) = true) (h2 : (ρ.map Prod.snd).Nodup) (h3 : flatRest ρ ids s.σ) : Weak A s (norm ks ρ ids K s) :=
  (Weak.keep ks s).trans (Weak.tidy 0 ρ ids K ⟨keepT ks s.τ, s.σ, s.fr⟩ (by rw [hA]; exact .own h1 h2 (flatRest_look h3)))
theorem blockA_exit {id : Nat} {Q : Exit → St → Prop} {s : St} (h : Q .normal s) : blockA id Q (.exit id) s := by
  simp only [blockA, if_true]
  exact h
end
end Go.Proofs.YtphlhadgcfndhaaGreat.Abs
