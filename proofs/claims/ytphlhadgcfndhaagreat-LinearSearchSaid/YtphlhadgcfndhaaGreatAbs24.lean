/- Names anew, above a bound; an object by another name; a slice of nothing. -/
import Derived.Test.YtphlhadgcfndhaaGreatAbs23
namespace Go.Proofs.YtphlhadgcfndhaaGreat.Abs
open Go Go.RowKit
set_option linter.unusedVariables false
set_option linter.unusedSimpArgs false

def hiB (B : Nat) : Sig → Sig
  | [] => []
  | (t, v) :: r => if t < B then hiB B r else (t, v) :: hiB B r
def loB (B : Nat) : Sig → Sig
  | [] => []
  | (t, v) :: r => if t < B then (t, v) :: loB B r else loB B r
theorem look_hiB (B t : Nat) : ∀ σ : Sig, look t (hiB B σ) = if t < B then none else look t σ
  | [] => by simp [hiB, look]
  | (s, v) :: r => by
    unfold hiB
    by_cases h : s < B
    · rw [if_pos h, look_hiB B t r, look]
      by_cases ht : t = s
      · subst ht; rw [if_pos h, if_pos h]
      · rw [if_neg ht]
    · rw [if_neg h, look, look, look_hiB B t r]
      by_cases ht : t = s
      · subst ht; rw [if_pos rfl, if_neg h, if_pos rfl]
      · rw [if_neg ht, if_neg ht]
theorem look_loB (B t : Nat) : ∀ σ : Sig, look t (loB B σ) = if t < B then look t σ else none
  | [] => by simp [loB, look]
  | (s, v) :: r => by
    unfold loB
    by_cases h : s < B
    · rw [if_pos h, look, look, look_loB B t r]
      by_cases ht : t = s
      · subst ht; rw [if_pos rfl, if_pos h, if_pos rfl]
      · rw [if_neg ht, if_neg ht]
    · rw [if_neg h, look_loB B t r, look]
      by_cases ht : t = s
      · subst ht; rw [if_neg h, if_neg h]
      · rw [if_neg ht]
/-- All names are below a bound. -/
def Low (B : Nat) (G : Sig) : Prop := ∀ i, (look i G).isSome = true → i < B
theorem Low.tail {B t : Nat} {o : AObj} {r : Sig} (h : Low B ((t, o) :: r)) : t < B ∧ Low B r := ⟨h t (by simp [look]), fun i hi => h i (by
  rw [look]
  split
  · rfl
  · exact hi)⟩
theorem Low.app {B : Nat} {F G : Sig} (h : Low B F) (g : Low B G) : Low B (F ++ G) := fun i hi => by
  rw [look_app] at hi
  cases hq : look i F with
  | some o => exact h i (by rw [hq]; rfl)
  | none => rw [hq] at hi; exact g i hi
theorem Low.le {B C : Nat} {F : Sig} (h : Low B F) (hbc : B ≤ C) : Low C F := fun i hi => by have := h i hi; omega
theorem hiB_low {B : Nat} : ∀ {G : Sig}, Low B G → hiB B G = []
  | [], _ => rfl
  | (t, o) :: r, h => by rw [hiB, if_pos h.tail.1, hiB_low h.tail.2]
theorem loB_low {B : Nat} : ∀ {G : Sig}, Low B G → loB B G = G
  | [], _ => rfl
  | (t, o) :: r, h => by rw [loB, if_pos h.tail.1, loB_low h.tail.2]
theorem drop_low {B : Nat} : ∀ {G : Sig}, Low B G → ∀ k, B ≤ k → drop k G = G
  | [], _, _, _ => rfl
  | (t, o) :: r, h, k, hk => by rw [drop, drop_low h.tail.2 k hk, if_neg (by have := h.tail.1; omega)]
theorem look_low {B : Nat} {G : Sig} (h : Low B G) (k : Nat) (hk : B ≤ k) : look k G = none := look_none fun hs => by have := h k hs; omega
theorem rnS_lowB {B : Nat} {ρ : List (Nat × Nat)} {ids : List Nat} (hids : (ids.all fun i => decide (B ≤ i)) = true) : ∀ {G : Sig}, Low B G → rnS B ρ ids G = G
  | [], _ => rfl
  | (t, o) :: r, h => by
    have ht := h.tail.1
    have hn : ids.contains t = false := by
      cases hc : ids.contains t with
      | false => rfl
      | true =>
        rw [List.all_eq_true] at hids
        have := hids t (by simpa using hc)
        simp at this
        omega
    rw [rnS, rnI, if_pos ht]
    simp only [hn, Bool.false_eq_true, if_false]
    rw [rnS_lowB hids h.tail.2]
theorem rnC_low {B : Nat} {ρ : List (Nat × Nat)} {c : Cell} (h : refLt B c) : rnC B ρ c = c := by
  cases c with
  | ref id lo q => have h : id < B := h; simp [rnC, rnI, h]
  | ptr id i off => have h : id < B := h; simp [rnC, rnI, h]
  | _ => rfl
theorem flat_refs {B : Nat} {o : AObj} (h : flatO o = true) : refsLt B o := fun e he c hc => by
  unfold flatO at h
  rw [List.all_eq_true] at h
  have := h e he
  rw [List.all_eq_true] at this
  have := this c hc
  cases c <;> first | trivial | cases this
/-- What is kept without a look at its cells names what is low. -/
def restB (B : Nat) (ρ : List (Nat × Nat)) (ids : List Nat) : Sig → Prop
  | [] => True
  | (t, o) :: r => (ids.contains t = false → (look t ρ).isSome = true → refsLt B o) ∧ restB B ρ ids r
theorem restB_look {B : Nat} {ρ : List (Nat × Nat)} {ids : List Nat} : ∀ {σ : Sig}, restB B ρ ids σ → ∀ i o, look i σ = some o → ids.contains i = false → look i ρ ≠ none → refsLt B o
  | [], _, i, o, hl, _, _ => by cases hl
  | (t, x) :: r, h, i, o, hl, hi, hn => by
    rw [look] at hl
    split at hl
    · rename_i e
      cases hl
      subst e
      exact h.1 hi (by cases hq : look i ρ with | none => exact absurd hq hn | some y => rfl)
    · exact restB_look h.2 i o hl hi hn
theorem Weak.normB {A : Old} {m : Nat} {G : Sig} (B : Nat) (hA : A.lim = m) (hrefs : ∀ i o, look i G = some o → ∀ e ∈ o.es, ∀ c ∈ e, refLt m c ∨ refLt B c) (ks : List Nat) (rs fix : List (Nat × Nat)) (ids : List Nat) (K : Nat) (s : St) (hlo : loB B s.σ = G)
    (h1 : ((rhoOf s.τ rs ++ fix).all fun p => decide (B ≤ p.1) && decide (B ≤ p.2) && decide (p.2 < K) && (decide (m ≤ p.1) && decide (m ≤ p.2) || p.1 == p.2)) = true) (hK : (decide (B ≤ K) && decide (m ≤ K)) = true) (h2 : ((rhoOf s.τ rs ++ fix).map Prod.snd).Nodup)
    (h3 : ((hiB B s.σ).all fun p => decide (m ≤ p.1) || look p.1 (rhoOf s.τ rs ++ fix) == some p.1) = true) (h4 : restB B (rhoOf s.τ rs ++ fix) ids (hiB B s.σ)) :
    Weak A s ⟨mapS (rnV B (rhoOf s.τ rs ++ fix)) (keepT ks s.τ), rnS B (rhoOf s.τ rs ++ fix) ids s.σ, K⟩ := by
  generalize rhoOf s.τ rs ++ fix = ρ at *
  refine (Weak.keep ks s).trans (Weak.tidy B ρ ids K ⟨keepT ks s.τ, s.σ, s.fr⟩ ?_)
  rw [hA]
  have hlook : ∀ i, B ≤ i → look i (hiB B s.σ) = look i s.σ := fun i hi => by rw [look_hiB, if_neg (by omega)]
  refine ⟨fun p hp => ?_, by simpa using hK, h2, fun j hj hjm hs => ?_, fun i o hl hi hne e he c hc => ?_⟩
  · rw [List.all_eq_true] at h1
    have := h1 p hp
    simp only [Bool.and_eq_true, Bool.or_eq_true, decide_eq_true_eq, beq_iff_eq] at this
    exact ⟨this.1.1.1, this.1.1.2, this.1.2, fun h => by rcases this.2 with h' | h' <;> omega⟩
  · have hs' : (look j (hiB B s.σ)).isSome = true := by rw [hlook j hj]; exact hs
    obtain ⟨o, ho⟩ := Option.isSome_iff_exists.1 hs'
    rw [List.all_eq_true] at h3
    have := h3 _ (look_mem ho)
    simp only [Bool.or_eq_true, decide_eq_true_eq, beq_iff_eq] at this
    rcases this with h | h
    · omega
    · exact h
  · have low : ∀ id, id < B → rnI B ρ id = some id := fun id h => by rw [rnI, if_pos h]
    by_cases hlt : i < B
    · have hr : look i G = some o := by rw [← hlo, look_loB, if_pos hlt]; exact hl
      rcases hrefs i o hr e he c hc with this | this
      · cases c <;> first | trivial | exact .inr this
      · cases c <;> first | trivial | exact .inl (low _ this)
    · have hl' : look i (hiB B s.σ) = some o := by rw [hlook i (by omega)]; exact hl
      have hf := restB_look h4 i o hl' hi (by
        rw [rnI, if_neg hlt] at hne
        exact hne)
      have := hf e he c hc
      cases c <;> first | trivial | exact .inl (low _ this)
/-! ### an object by another name -/
def reC (id n : Nat) : Cell → Cell
  | .ref i lo q => if i = id then .ref n lo q else .ref i lo q
  | .ptr i j off => if i = id then .ptr n j off else .ptr i j off
  | c => c
def reV (id n : Nat) : AVal → AVal
  | .c x => .c (reC id n x)
  | .agg cs => .agg (cs.map (reC id n))
  | v => v
theorem Weak.renS {A : Old} (t id : Nat) {lo m : Nat} {o : AObj} (s : St) (ht : look t s.τ = some (.c (.ref id lo m))) (ho : look id s.σ = some o) (hne : o.es ≠ []) : Weak A s ⟨mapS (reV id s.fr) s.τ, putA s.fr o (drop id s.σ), s.fr + 1⟩ := fun base w0 n β a w I => by
  obtain ⟨u, hu, hr⟩ := I.tmps t _ ht
  rcases ref_live I.inv ho hr with ⟨b, k, cap, hb, hcap, rfl⟩ | ⟨_, hoe, _⟩
  · have hfr : β s.fr = .no := I.fresh s.fr (Nat.le_refl _)
    have hne2 : id ≠ s.fr := by
      rintro rfl
      rw [hb] at hfr
      cases hfr
    obtain ⟨I', hle, hok⟩ := I.inv.rename hb ho hfr
    have hcell : ∀ (c : Cell) (u : Value), RepC w (okOf base A.own w β) β c u → RepC w _ _ (reC id s.fr c) u := fun c u h => by
      have hm := h.mono (w' := w) (fun x hx => ⟨hok x hx, rfl⟩) hle
      cases h with
      | fz h => 
        have : reC id s.fr c = c := by cases h <;> rfl
        rw [this]
        exact hm
      | @ref i lo q b' k' cap' hb' hl =>
        by_cases h : i = id
        · subst h
          rw [hb] at hb'
          cases hb'
          simp only [reC, if_true]
          exact .ref (updB_self _ _ _) hl
        · simp only [reC, if_neg h]
          exact hm
      | @refv i A' hb' =>
        by_cases h : i = id
        · subst h
          rw [hb] at hb'
          cases hb'
        · simp only [reC, if_neg h]
          exact hm
      | @gone i lo q v hb' hv =>
        by_cases h : i = id
        · subst h
          rw [hb] at hb'
          cases hb'
        · simp only [reC, if_neg h]
          exact hm
      | @ptr i j off b' k' cap' hb' =>
        by_cases h : i = id
        · subst h
          rw [hb] at hb'
          cases hb'
          simp only [reC, if_true]
          exact .ptr (cap := cap) (updB_self _ _ _)
        · simp only [reC, if_neg h]
          exact hm
      | @gonep i j off v hb' hv =>
        by_cases h : i = id
        · subst h
          rw [hb] at hb'
          cases hb'
        · simp only [reC, if_neg h]
          exact hm
    refine ⟨_, I', I.defers, I.size, fun v x hx => ?_, fun i hi => ?_, I.ext.step hle fun x hx => ⟨hok x hx, rfl⟩⟩
    · have hx : look v (mapS (reV id s.fr) s.τ) = some x := hx
      rw [look_map] at hx
      cases hq : look v s.τ with
      | none => rw [hq] at hx; cases hx
      | some y =>
        rw [hq] at hx
        cases hx
        obtain ⟨u2, hu2, hr2⟩ := I.tmps v y hq
        refine ⟨u2, hu2, ?_⟩
        have hm := hr2.mono (w' := w) (fun x hx => ⟨hok x hx, rfl⟩) hle
        cases hr2 with
        | any => exact .any _
        | c h => exact .c (hcell _ _ h)
        | agg h =>
          refine .agg ⟨by rw [List.length_map]; exact h.1, fun j c v hc hv => ?_⟩
          rw [List.getElem?_map] at hc
          cases hz : (_ : List Cell)[j]? with
          | none => rw [hz] at hc; cases hc
          | some c0 =>
            rw [hz] at hc
            cases hc
            exact hcell _ _ (h.2 j c0 v hz hv)
        | tup => exact hm
        | cut => exact hm
    · have hi : s.fr + 1 ≤ i := hi
      have hid : id ≠ i := by
        rintro rfl
        have := I.fresh id (by omega)
        rw [hb] at this
        cases this
      rw [updB_ne _ _ (by omega), updB_ne _ _ (Ne.symm hid)]
      exact I.fresh i (by omega)
  · exact absurd hoe hne
def reOb (id n : Nat) (o : AObj) : AObj := ⟨o.k, o.es.map fun e => e.map (reC id n)⟩
/-- An object by another name, which some objects know. -/
theorem Weak.renO {A : Old} (id : Nat) {o : AObj} (ids : List Nat) (s : St) (ho : look id s.σ = some o) (hne : o.es ≠ []) : Weak A s ⟨mapS (reV id s.fr) s.τ, putA s.fr o (mapAt ids (reOb id s.fr) (drop id s.σ)), s.fr + 1⟩ := fun base w0 n β a w I => by
  have hl0 : ∃ b k cap, β id = .live b k cap := by
    rcases (I.inv.dom id).1 (by rw [ho]; rfl) with h | h
    · exact h
    · exact absurd (I.inv.virt id o h ho) hne
  obtain ⟨b, k, cap, hb⟩ := hl0
  have hfr : β s.fr = .no := I.fresh s.fr (Nat.le_refl _)
  have hne2 : id ≠ s.fr := by
    rintro rfl
    rw [hb] at hfr
    cases hfr
  obtain ⟨I', hle, hok⟩ := I.inv.rename hb ho hfr
  have hcell : ∀ (c : Cell) (u : Value), RepC w (okOf base A.own w β) β c u → RepC w (okOf base A.own w (updB (updB β id .dead) s.fr (.live b k cap))) (updB (updB β id .dead) s.fr (.live b k cap)) (reC id s.fr c) u := fun c u h => by
    have hm := h.mono (w' := w) (fun x hx => ⟨hok x hx, rfl⟩) hle
    cases h with
    | fz h =>
      have : reC id s.fr c = c := by cases h <;> rfl
      rw [this]
      exact hm
    | @ref i lo q b' k' cap' hb' hl =>
      by_cases h : i = id
      · subst h
        rw [hb] at hb'
        cases hb'
        simp only [reC, if_true]
        exact .ref (updB_self _ _ _) hl
      · simp only [reC, if_neg h]
        exact hm
    | @refv i A' hb' =>
      by_cases h : i = id
      · subst h
        rw [hb] at hb'
        cases hb'
      · simp only [reC, if_neg h]
        exact hm
    | @gone i lo q v hb' hv =>
      by_cases h : i = id
      · subst h
        rw [hb] at hb'
        cases hb'
      · simp only [reC, if_neg h]
        exact hm
    | @ptr i j off b' k' cap' hb' =>
      by_cases h : i = id
      · subst h
        rw [hb] at hb'
        cases hb'
        simp only [reC, if_true]
        exact .ptr (cap := cap) (updB_self _ _ _)
      · simp only [reC, if_neg h]
        exact hm
    | @gonep i j off v hb' hv =>
      by_cases h : i = id
      · subst h
        rw [hb] at hb'
        cases hb'
      · simp only [reC, if_neg h]
        exact hm
  have hlk : ∀ j, look j (putA s.fr o (mapAt ids (reOb id s.fr) (drop id s.σ))) = if j = s.fr then some o else (look j (drop id s.σ)).map fun q => if ids.contains j = true then reOb id s.fr q else q := fun j => by
    rw [look_put, look_mapAt]
  have hlk' : ∀ j, look j (putA s.fr o (drop id s.σ)) = if j = s.fr then some o else look j (drop id s.σ) := fun j => look_put _ _ _ _
  have J : Inv base A.own w0 (updB (updB β id .dead) s.fr (.live b k cap)) (putA s.fr o (mapAt ids (reOb id s.fr) (drop id s.σ))) w := by
    refine ⟨I'.below, I'.hbase, I'.old, fun j => ?_, fun j q hv hq => ?_, I'.fin, I'.lo, I'.inj, fun j b2 k2 c2 q hj hq => ?_⟩
    · have := I'.dom j
      rw [hlk'] at this
      rw [hlk]
      by_cases h : j = s.fr
      · rw [if_pos h] at this ⊢
        exact this
      · rw [if_neg h] at this ⊢
        rw [Option.isSome_map]
        exact this
    · rw [hlk] at hq
      by_cases h : j = s.fr
      · rw [if_pos h] at hq
        exact I'.virt j q hv (by rw [hlk', if_pos h]; exact hq)
      · rw [if_neg h] at hq
        cases hz : look j (drop id s.σ) with
        | none => rw [hz] at hq; cases hq
        | some q0 =>
          rw [hz] at hq
          cases hq
          have := I'.virt j q0 hv (by rw [hlk', if_neg h]; exact hz)
          split
          · show q0.es.map _ = []
            rw [this]; rfl
          · exact this
    · rw [hlk] at hq
      by_cases h : j = s.fr
      · rw [if_pos h] at hq
        exact I'.obj j b2 k2 c2 q hj (by rw [hlk', if_pos h]; exact hq)
      · rw [if_neg h] at hq
        cases hz : look j (drop id s.σ) with
        | none => rw [hz] at hq; cases hq
        | some q0 =>
          rw [hz] at hq
          cases hq
          have O := I'.obj j b2 k2 c2 q0 hj (by rw [hlk', if_neg h]; exact hz)
          have hjid : j ≠ id := fun e => by
            subst e
            rw [look_drop, if_pos rfl] at hz
            cases hz
          have hlj : look j s.σ = some q0 := by rw [look_drop, if_neg hjid] at hz; exact hz
          have hbj : β j = .live b2 k2 c2 := by rw [updB_ne _ _ h, updB_ne _ _ hjid] at hj; exact hj
          split
          · obtain ⟨g1, g2, g3, arr, ty, g4, g5, g6, g7⟩ := I.inv.obj j b2 k2 c2 q0 hbj hlj
            refine ⟨g1, by show (q0.es.map _).length ≤ c2; rw [List.length_map]; exact g2, fun e he => ?_, arr, ty, g4, g5, g6, fun i e he j' c hc => ?_⟩
            · obtain ⟨e0, he0, rfl⟩ := List.mem_map.1 he
              rw [List.length_map]
              exact g3 e0 he0
            · have he : (q0.es.map fun e => e.map (reC id s.fr))[i]? = some e := he
              rw [List.getElem?_map] at he
              cases hy : q0.es[i]? with
              | none => rw [hy] at he; cases he
              | some e0 =>
                rw [hy] at he
                cases he
                rw [List.getElem?_map] at hc
                cases hx : e0[j']? with
                | none => rw [hx] at hc; cases hc
                | some c0 =>
                  rw [hx] at hc
                  cases hc
                  obtain ⟨v, hv, hr⟩ := g7 i e0 hy j' c0 hx
                  exact ⟨v, hv, hcell c0 v hr⟩
          · exact O
  refine ⟨_, J, I.defers, I.size, fun v x hx => ?_, fun i hi => ?_, I.ext.step hle fun x hx => ⟨hok x hx, rfl⟩⟩
  · have hx : look v (mapS (reV id s.fr) s.τ) = some x := hx
    rw [look_map] at hx
    cases hq : look v s.τ with
    | none => rw [hq] at hx; cases hx
    | some y =>
      rw [hq] at hx
      cases hx
      obtain ⟨u2, hu2, hr2⟩ := I.tmps v y hq
      refine ⟨u2, hu2, ?_⟩
      have hm := hr2.mono (w' := w) (fun x hx => ⟨hok x hx, rfl⟩) hle
      cases hr2 with
      | any => exact .any _
      | c h => exact .c (hcell _ _ h)
      | agg h =>
        refine .agg ⟨by rw [List.length_map]; exact h.1, fun j c v hc hv => ?_⟩
        rw [List.getElem?_map] at hc
        cases hz : (_ : List Cell)[j]? with
        | none => rw [hz] at hc; cases hc
        | some c0 =>
          rw [hz] at hc
          cases hc
          exact hcell _ _ (h.2 j c0 v hz hv)
      | tup => exact hm
      | cut => exact hm
  · have hi : s.fr + 1 ≤ i := hi
    have hid : id ≠ i := by
      rintro rfl
      have := I.fresh id (by omega)
      rw [hb] at this
      cases this
    rw [updB_ne _ _ (by omega), updB_ne _ _ (Ne.symm hid)]
    exact I.fresh i (by omega)
end Go.Proofs.YtphlhadgcfndhaaGreat.Abs
