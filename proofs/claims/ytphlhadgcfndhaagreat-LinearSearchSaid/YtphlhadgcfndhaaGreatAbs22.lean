/- A call by a contract whose objects have other names here: it does what the contract says, and leaves the rest. -/
import Derived.Test.YtphlhadgcfndhaaGreatAbs21
namespace Go.Proofs.YtphlhadgcfndhaaGreat.Abs
open Go Go.RowKit
set_option linter.unusedVariables false
set_option linter.unusedSimpArgs false
set_option maxHeartbeats 1000000

theorem keys_lt : ∀ l : List (Nat × Nat), ∃ M, ∀ p ∈ l, p.1 < M
  | [] => ⟨0, fun p h => by cases h⟩
  | q :: l => by
    obtain ⟨M, hM⟩ := keys_lt l
    refine ⟨M + q.1 + 1, fun p h => ?_⟩
    rcases List.mem_cons.1 h with rfl | h
    · omega
    · have := hM p h; omega
theorem map_same {α : Type} {f : α → α} : ∀ {l : List α}, (∀ x ∈ l, f x = x) → l.map f = l
  | [], _ => rfl
  | x :: l, h => by rw [List.map_cons, h x (by simp), map_same fun y hy => h y (by simp [hy])]
theorem frame_calls {P : Program} {g : FuncId} {as : List AVal} {r : AVal} {σ0 sub : Sig} {m m' : Nat} {base : Nat} {A : Nat → Prop} {w0 w : World} {β : Nat → Bnd} {σ : Sig} (hI : Inv base A w0 β σ w) (π ν : List (Nat × Nat))
    (hπ1 : (π.map Prod.fst).Nodup) (hex : ((π ++ ν).map Prod.snd).Nodup) (hπ3 : ∀ p ∈ π, p.2 < m) (hν : ∀ p ∈ ν, β p.1 = .no)
    (hsub : looksP π σ = some sub) (hargs : opqVs π ν σ as) (hobj : ∀ p ∈ sub, opqO π ν σ p.2) (hr : opqV π ν σ r) (hrf : freeV r = true) (hσ0 : opqS π ν σ σ0)
    (hC : ∀ V : Cell → Value, (∀ c, (V c).oneCell' = true) → Con P g (as.map (exV π ν V)) (sub.map fun p => (p.1, exO π ν V p.2)) m (exV π ν V r) (exS π ν V σ0) m')
    {vs : Array Value} (hvs : RepAs w (okOf base A w β) β as vs) :
    Calls P g vs w fun e w' => ∃ v β', e = .returned v ∧ Inv base A w0 β' (σ0 ++ minus π σ) w' ∧ (∀ i, BLe (β i) (β' i)) ∧ (∀ x, okOf base A w β x → okOf base A w' β' x ∧ w'.heap[x]? = w.heap[x]?) ∧ (∀ i, exI π ν i = none → β' i = β i) ∧ RepV w' (okOf base A w' β') β' r v := by
  have hall := looksP_all hsub
  obtain ⟨V, hV⟩ : ∃ V, V = exactV β := ⟨_, rfl⟩
  have hπ2 : (π.map Prod.snd).Nodup := by
    rw [List.map_append] at hex
    exact (List.nodup_append.1 hex).1
  have hsw := fun {i k : Nat} => look_swap hπ1 hπ2 (i := i) (k := k)
  obtain ⟨βh, hβh⟩ : ∃ βh : Nat → Bnd, βh = fun k => match look k (π.map Prod.swap) with | some i => β i | none => .no := ⟨_, rfl⟩
  have hβ1 : ∀ i k, look i π = some k → βh k = β i := fun i k h => by
    rw [hβh]
    simp only
    rw [hsw.2 h]
  have hinv : ∀ k, βh k ≠ .no → ∃ i, look i π = some k ∧ βh k = β i := fun k h => by
    cases hq : look k (π.map Prod.swap) with
    | none => rw [hβh] at h; simp only at h; rw [hq] at h; exact absurd rfl h
    | some i => exact ⟨i, hsw.1 hq, hβ1 i k (hsw.1 hq)⟩
  have hokE : ∀ x, okOf base A w β x → okOf base A w βh x := fun x h => ⟨h.1, h.2.1, fun id b k cap hb => by
    obtain ⟨i, _, h1⟩ := hinv id (by rw [hb]; simp)
    exact h.2.2 i b k cap (by rw [← h1]; exact hb)⟩
  have hlk : ∀ k, look k (sub.map fun p => (p.1, exO π ν V p.2)) = (look k sub).map (exO π ν V) := fun k => by
    clear hobj hC hsub
    induction sub with
    | nil => rfl
    | cons p l ih =>
      rw [List.map_cons, look, look, ih]
      by_cases h : k = p.1
      · rw [if_pos h, if_pos h]; rfl
      · rw [if_neg h, if_neg h]
  have hsl : ∀ k o, look k sub = some o → ∃ i, look i π = some k ∧ look i σ = some o := fun k o h => by
    rw [look_sub k hsub] at h
    cases hq : look k (π.map Prod.swap) with
    | none => rw [hq] at h; cases h
    | some i => rw [hq] at h; exact ⟨i, hsw.1 hq, h⟩
  have hsl2 : ∀ i k, look i π = some k → look k sub = look i σ := fun i k h => by
    rw [look_sub k hsub, hsw.2 h]; rfl
  have hbig : ∀ k, m ≤ k → βh k = .no := fun k hk => by
    rw [hβh]
    simp only
    cases hq : look k (π.map Prod.swap) with
    | none => rfl
    | some i => have := hπ3 _ (look_mem (hsw.1 hq)); simp only at this; omega
  have hopq : ∀ k o, look k sub = some o → opqO π ν σ o := fun k o h => hobj (k, o) (look_mem h)
  have Ih : Inv base A w βh ((sub.map fun p => (p.1, exO π ν V p.2)) ++ []) w := by
    rw [List.append_nil]
    refine ⟨Below.refl _ _, hI.hbase, hI.old, fun k => ?_, fun k o hb hl => ?_, ⟨m, hbig⟩, fun k b kk cap hb => ?_, fun k k' b kk cap kk' cap' h1 h2 => ?_, fun k b kk cap o hb hl => ?_⟩
    · rw [hlk, Option.isSome_map]
      constructor
      · intro h
        obtain ⟨o, ho⟩ := Option.isSome_iff_exists.1 h
        obtain ⟨i, h1, h2⟩ := hsl k o ho
        rw [hβ1 i k h1]
        exact (hI.dom i).1 (by rw [h2]; rfl)
      · intro h
        obtain ⟨i, h1, h2⟩ := hinv k (by rcases h with ⟨b, kk, cap, h⟩ | h <;> rw [h] <;> simp)
        rw [hsl2 i k h1]
        rw [h2] at h
        exact (hI.dom i).2 h
    · rw [hlk] at hl
      cases hq : look k sub with
      | none => rw [hq] at hl; cases hl
      | some o1 =>
        rw [hq] at hl
        cases hl
        obtain ⟨i, h1, h2⟩ := hsl k o1 hq
        rw [hβ1 i k h1] at hb
        have := hI.virt i o1 hb h2
        show o1.es.map _ = []
        rw [this]; rfl
    · obtain ⟨i, _, h1⟩ := hinv k (by rw [hb]; simp)
      exact hI.lo i b kk cap (by rw [← h1]; exact hb)
    · obtain ⟨i, g1, e1⟩ := hinv k (by rw [h1]; simp)
      obtain ⟨i', g2, e2⟩ := hinv k' (by rw [h2]; simp)
      have := hI.inj i i' b kk cap kk' cap' (by rw [← e1]; exact h1) (by rw [← e2]; exact h2)
      subst this
      rw [g1] at g2
      cases g2
      rfl
    · rw [hlk] at hl
      cases hq : look k sub with
      | none => rw [hq] at hl; cases hl
      | some o1 =>
        rw [hq] at hl
        cases hl
        obtain ⟨i, h1, h2⟩ := hsl k o1 hq
        rw [hβ1 i k h1] at hb
        obtain ⟨g1, g2, g3, arr, ty, g4, g5, g6, g7⟩ := hI.obj i b kk cap o1 hb h2
        refine ⟨g1, by show (o1.es.map _).length ≤ cap; rw [List.length_map]; exact g2, fun e he => ?_, arr, ty, g4, g5, g6, fun j e he q c hc => ?_⟩
        · obtain ⟨e0, he0, rfl⟩ := List.mem_map.1 he
          rw [List.length_map]
          exact g3 e0 he0
        · have he : (o1.es.map fun e => e.map (exC π ν V))[j]? = some e := he
          rw [List.getElem?_map] at he
          cases hz : o1.es[j]? with
          | none => rw [hz] at he; cases he
          | some e0 =>
            rw [hz] at he
            cases he
            rw [List.getElem?_map] at hc
            cases hy : e0[q]? with
            | none => rw [hy] at hc; cases hc
            | some c0 =>
              rw [hy] at hc
              cases hc
              obtain ⟨v, hv, hr⟩ := g7 j e0 hz q c0 hy
              refine ⟨v, hv, ?_⟩
              rw [hV]
              exact exC_rep hI hν hokE hβ1 (hopq k o1 hq e0 (List.mem_of_getElem? hz) c0 (List.mem_of_getElem? hy)) hr
  have hargs' : RepAs w (okOf base A w βh) βh (as.map (exV π ν V)) vs := by
    refine ⟨by rw [List.length_map]; exact hvs.1, fun i x v hx hv => ?_⟩
    rw [List.getElem?_map] at hx
    cases hq : as[i]? with
    | none => rw [hq] at hx; cases hx
    | some y =>
      rw [hq] at hx
      cases hx
      rw [hV]
      exact exV_rep hI hν hokE hβ1 (hvs.2 i y v hq hv) (opqVs_mem hargs y (List.mem_of_getElem? hq))
  have hV1 : ∀ c, (V c).oneCell' = true := fun c => by rw [hV]; exact exactV_one β c
  refine ((hC V hV1).2 base A w βh [] vs (fun i h => by cases h) (fun i o h => by cases h) Ih hbig hargs').mono ?_
  rintro e w' ⟨v, βh', rfl, J, hle, hok, _, hv⟩
  rw [List.append_nil] at J
  -- back to the names here
  have hin : ∀ {i k : Nat}, exI π ν i = some k → (i, k) ∈ π ++ ν := fun {i k} h => by
    unfold exI at h
    split at h
    · rename_i hp
      cases h
      exact List.mem_append.2 (.inl (look_mem hp))
    · exact List.mem_append.2 (.inr (look_mem h))
  have hinj : ∀ i i' k, exI π ν i = some k → exI π ν i' = some k → i = i' := fun i i' k h1 h2 => snd_inj hex (hin h1) (hin h2)
  obtain ⟨β', hβ'⟩ : ∃ β' : Nat → Bnd, β' = fun id => match exI π ν id with | some k => βh' k | none => β id := ⟨_, rfl⟩
  have hb1 : ∀ {i k : Nat}, exI π ν i = some k → β' i = βh' k := fun {i k} h => by rw [hβ']; simp only [h]
  have hb2 : ∀ {i : Nat}, exI π ν i = none → β' i = β i := fun {i} h => by rw [hβ']; simp only [h]
  have hnone : ∀ {i : Nat}, exI π ν i = none → look i π = none := fun {i} h => by
    unfold exI at h
    split at h
    · cases h
    · assumption
  have hle' : ∀ i, BLe (β i) (β' i) := fun i => by
    cases hq : exI π ν i with
    | none => rw [hb2 hq]; exact .same _
    | some k =>
      rw [hb1 hq]
      cases hp : look i π with
      | some k2 =>
        have : k2 = k := by unfold exI at hq; rw [hp] at hq; cases hq; rfl
        subst this
        rw [← hβ1 i k2 hp]
        exact hle k2
      | none =>
        have : look i ν = some k := by unfold exI at hq; rw [hp] at hq; exact hq
        rw [hν _ (look_mem this)]
        exact .no _
  -- a live object of the caller alone
  have hoth : ∀ i b k cap, exI π ν i = none → β i = .live b k cap → okOf base A w βh b := fun i b k cap h hb => ⟨fun hlt => absurd (hI.lo i b k cap hb).1 (by omega), (hI.lo i b k cap hb).2, fun q b' k' cap' hq e => by
    subst e
    obtain ⟨i', g1, g2⟩ := hinv q (by rw [hq]; simp)
    have := hI.inj i i' b' k cap k' cap' hb (by rw [← g2]; exact hq)
    subst this
    rw [hnone h] at g1
    cases g1⟩
  have hok' : ∀ x, okOf base A w β x → okOf base A w' β' x ∧ w'.heap[x]? = w.heap[x]? := fun x hx => by
    have := hok x (hokE x hx)
    refine ⟨⟨this.1.1, this.1.2.1, fun i b k cap hb => ?_⟩, this.2⟩
    cases hq : exI π ν i with
    | none => rw [hb2 hq] at hb; exact hx.2.2 i b k cap hb
    | some q => rw [hb1 hq] at hb; exact this.1.2.2 q b k cap hb
  have hcell : ∀ (c : Cell) (u : Value), opqC π ν σ c → freeC c = true → RepC w' (okOf base A w' βh') βh' (exC π ν V c) u → RepC w' (okOf base A w' β') β' c u := fun c u ho hf h => by
    have frz : ∀ {c : Cell}, freeC c = true → exC π ν V c = c → (∀ id lo q, c ≠ .ref id lo q) → (∀ id i off, c ≠ .ptr id i off) → RepC w' (okOf base A w' βh') βh' (exC π ν V c) u → RepC w' (okOf base A w' β') β' c u := fun {c} hf e n1 n2 h => by
      rw [e] at h
      cases h with
      | fz h => exact .fz (free_rep h hf)
      | ref => exact absurd rfl (n1 _ _ _)
      | refv => exact absurd rfl (n1 _ _ _)
      | gone => exact absurd rfl (n1 _ _ _)
      | ptr => exact absurd rfl (n2 _ _ _)
      | gonep => exact absurd rfl (n2 _ _ _)
    cases c with
    | any => exact frz hf rfl (by simp) (by simp) h
    | sc v => exact frz hf rfl (by simp) (by simp) h
    | row k t es => exact frz hf rfl (by simp) (by simp) h
    | fad cs => exact frz hf rfl (by simp) (by simp) h
    | fn g cs => exact frz hf rfl (by simp) (by simp) h
    | bit => exact frz hf rfl (by simp) (by simp) h
    | ref id lo q =>
      unfold exC at h
      cases hq : exI π ν id with
      | some k =>
        simp only [hq] at h
        have e1 := hb1 hq
        cases h with
        | fz h => cases h
        | ref hb hl => exact .ref (by rw [e1]; exact hb) hl
        | refv hb => exact .refv (by rw [e1]; exact hb)
        | gone hb hv => exact .gone (by rw [e1]; exact hb) hv
      | none =>
        simp only [hq] at h
        unfold opqC at ho
        simp only [hq] at ho
        cases hz : look id σ with
        | none => rw [hz] at ho; exact ho.elim
        | some o =>
          rw [hz] at ho
          rcases (hI.dom id).1 (by rw [hz]; rfl) with ⟨b, k, cap, hb⟩ | hb
          · have hO := (hI.obj id b k cap o hb hz).hcap
            cases h with
            | fz h => cases h with
              | sc _ _ =>
                have : V (.ref id lo q) = .slice (some ⟨b, lo * k, none⟩) q (cap - lo) := by rw [hV]; unfold exactV; simp only [hb]
                rw [this]
                exact .ref (by rw [hb2 hq]; exact hb) (by have := ho.1; omega)
          · exact absurd (hI.virt id o hb hz) ho.2
    | ptr id i off =>
      unfold exC at h
      cases hq : exI π ν id with
      | some k =>
        simp only [hq] at h
        have e1 := hb1 hq
        cases h with
        | fz h => cases h
        | @ptr _ _ _ _ _ cap hb => exact .ptr (cap := cap) (by rw [e1]; exact hb)
        | gonep hb hv => exact .gonep (by rw [e1]; exact hb) hv
      | none =>
        simp only [hq] at h
        unfold opqC at ho
        simp only [hq] at ho
        cases hz : look id σ with
        | none => rw [hz] at ho; exact ho.elim
        | some o =>
          rw [hz] at ho
          rcases (hI.dom id).1 (by rw [hz]; rfl) with ⟨b, k, cap, hb⟩ | hb
          · cases h with
            | fz h => cases h with
              | sc _ _ =>
                have : V (.ptr id i off) = .pointer (some ⟨b, i * k + off, none⟩) := by rw [hV]; unfold exactV; simp only [hb]
                rw [this]
                exact .ptr (cap := cap) (by rw [hb2 hq]; exact hb)
          · exact absurd (hI.virt id o hb hz) ho
  have hval : ∀ (y : AVal) (u : Value), RepV w' (okOf base A w' βh') βh' y u → ∀ x : AVal, y = exV π ν V x → opqV π ν σ x → freeV x = true → RepV w' (okOf base A w' β') β' x u := fun y u h => by
    induction h with
    | any u =>
      intro x e ho hf
      cases x with
      | any => exact .any u
      | c x => rw [exV] at e; cases e
      | agg cs => rw [exV] at e; cases e
      | tup vs => rw [exV] at e; cases e
      | cut k c es => cases hf
    | c h =>
      intro x e ho hf
      cases x with
      | c x =>
        rw [exV] at e
        cases e
        rw [opqV] at ho
        exact .c (hcell x _ ho hf h)
      | any => rw [exV] at e; cases e
      | agg cs => rw [exV] at e; cases e
      | tup vs => rw [exV] at e; cases e
      | cut k c es => cases hf
    | agg h =>
      intro x e ho hf
      cases x with
      | agg cs =>
        rw [exV] at e
        cases e
        rw [opqV] at ho
        have hf : cs.all freeC = true := hf
        rw [List.all_eq_true] at hf
        refine .agg ⟨by have := h.1; rw [List.length_map] at this; exact this, fun i c v hc hv => ?_⟩
        exact hcell c v (ho c (List.mem_of_getElem? hc)) (hf c (List.mem_of_getElem? hc)) (h.2 i _ v (by rw [List.getElem?_map, hc]; rfl) hv)
      | any => rw [exV] at e; cases e
      | c x => rw [exV] at e; cases e
      | tup vs => rw [exV] at e; cases e
      | cut k c es => cases hf
    | tup hl _ ih =>
      intro x e ho hf
      cases x with
      | tup vs =>
        rw [exV] at e
        cases e
        rw [opqV] at ho
        rw [freeV] at hf
        rw [exVs_len] at hl
        refine .tup hl fun i x v hx hv => ?_
        exact ih i _ v (by rw [exVs_get, hx]; rfl) hv x rfl (opqVs_mem ho x (List.mem_of_getElem? hx)) (freeVs_mem hf x (List.mem_of_getElem? hx))
      | any => rw [exV] at e; cases e
      | c x => rw [exV] at e; cases e
      | agg cs => rw [exV] at e; cases e
      | cut k c es => cases hf
    | cut h =>
      intro x e ho hf
      cases x with
      | any => rw [exV] at e; cases e
      | c x => rw [exV] at e; cases e
      | agg cs => rw [exV] at e; cases e
      | tup vs => rw [exV] at e; cases e
      | cut k c es => cases hf
  have hkey : ∀ id, exI π ν id = none → look id σ0 = none := fun id h => look_none fun hs => by
    obtain ⟨o, ho⟩ := Option.isSome_iff_exists.1 hs
    have h1 := (opqS_look hσ0 ho).1
    rw [h] at h1
    cases h1
  have hfin : ∀ id, look id (σ0 ++ minus π σ) = match exI π ν id with | some k => look id σ0 | none => look id σ := fun id => by
    rw [look_app]
    cases hq : exI π ν id with
    | none =>
      rw [hkey id hq, look_minus, hnone hq]; rfl
    | some k =>
      simp only
      cases hz : look id σ0 with
      | some o => rfl
      | none =>
        simp only
        rw [look_minus]
        split
        · rfl
        · rename_i hn
          refine look_none fun hs => ?_
          have hp : look id π = none := by cases hp : look id π with | none => rfl | some x => rw [hp] at hn; exact absurd rfl hn
          have hnu : look id ν = some k := by unfold exI at hq; rw [hp] at hq; exact hq
          have := hν _ (look_mem hnu)
          rcases (hI.dom id).1 hs with ⟨b, kk, cap, hb⟩ | hb
          · rw [this] at hb; cases hb
          · rw [this] at hb; cases hb
  refine ⟨v, β', rfl, ⟨hI.below.trans J.below, J.hbase, hI.old, fun id => ?_, fun id o hb hl => ?_, ?_, fun id b k cap hb => ?_, fun id id' b k cap k' cap' h1 h2 => ?_, fun id b k cap o hb hl => ?_⟩, hle', hok', fun i h => hb2 h, hval _ v hv r rfl hr hrf⟩
  · rw [hfin]
    cases hq : exI π ν id with
    | none => rw [hb2 hq]; exact hI.dom id
    | some k =>
      rw [hb1 hq]
      have := J.dom k
      rw [look_exS hinj hq, Option.isSome_map] at this
      exact this
  · rw [hfin] at hl
    cases hq : exI π ν id with
    | none => rw [hb2 hq] at hb; rw [hq] at hl; exact hI.virt id o hb hl
    | some k =>
      rw [hb1 hq] at hb
      rw [hq] at hl
      simp only at hl
      have := J.virt k (exO π ν V o) hb (by rw [look_exS hinj hq, hl]; rfl)
      have h2 : o.es.map (fun e => e.map (exC π ν V)) = [] := this
      exact List.map_eq_nil_iff.1 h2
  · obtain ⟨N, hN⟩ := hI.fin
    obtain ⟨M, hM⟩ := keys_lt (π ++ ν)
    refine ⟨N + M, fun id h => ?_⟩
    cases hq : exI π ν id with
    | none => rw [hb2 hq]; exact hN id (by omega)
    | some k => have := hM _ (hin hq); simp only at this; omega
  · cases hq : exI π ν id with
    | none =>
      rw [hb2 hq] at hb
      have h1 := hok b (hoth id b k cap hq hb)
      exact ⟨(hI.lo id b k cap hb).1, h1.1.2.1⟩
    | some q => rw [hb1 hq] at hb; exact J.lo q b k cap hb
  · cases hq : exI π ν id with
    | none =>
      rw [hb2 hq] at h1
      have g1 := (hok b (hoth id b k cap hq h1)).1.2.2
      cases hq' : exI π ν id' with
      | none => rw [hb2 hq'] at h2; exact hI.inj id id' b k cap k' cap' h1 h2
      | some q' => rw [hb1 hq'] at h2; exact absurd rfl (g1 q' b k' cap' h2)
    | some q =>
      rw [hb1 hq] at h1
      cases hq' : exI π ν id' with
      | none =>
        rw [hb2 hq'] at h2
        have g1 := (hok b (hoth id' b k' cap' hq' h2)).1.2.2
        exact absurd rfl (g1 q b k cap h1)
      | some q' =>
        rw [hb1 hq'] at h2
        have := J.inj q q' b k cap k' cap' h1 h2
        subst this
        exact hinj id id' q hq hq'
  · rw [hfin] at hl
    cases hq : exI π ν id with
    | none =>
      rw [hb2 hq] at hb
      rw [hq] at hl
      exact (hI.obj id b k cap o hb hl).mono hok' hle' (hok b (hoth id b k cap hq hb)).2
    | some kk =>
      rw [hb1 hq] at hb
      rw [hq] at hl
      simp only at hl
      obtain ⟨g1, g2, g3, arr, ty, g4, g5, g6, g7⟩ := J.obj kk b k cap (exO π ν V o) hb (by rw [look_exS hinj hq, hl]; rfl)
      obtain ⟨_, ho, hf⟩ := opqS_look hσ0 hl
      refine ⟨g1, by have : (o.es.map _).length ≤ cap := g2; rw [List.length_map] at this; exact this, fun e he => ?_, arr, ty, g4, g5, g6, fun i e he j c hc => ?_⟩
      · have := g3 (e.map (exC π ν V)) (List.mem_map.2 ⟨e, he, rfl⟩)
        rw [List.length_map] at this
        exact this
      · obtain ⟨v, hv, hr⟩ := g7 i (e.map (exC π ν V)) (by show (o.es.map _)[i]? = _; rw [List.getElem?_map, he]; rfl) j (exC π ν V c) (by rw [List.getElem?_map, hc]; rfl)
        exact ⟨v, hv, hcell c v (ho e (List.mem_of_getElem? he) c (List.mem_of_getElem? hc)) (hf e (List.mem_of_getElem? he) c (List.mem_of_getElem? hc)) hr⟩
/-- A call by a contract whose objects have other names. -/
theorem SemC.frame {P : Program} {g : FuncId} {as : List AVal} {s : St} {r : AVal} {σ0 : Sig} {f' : Nat} (π ν : List (Nat × Nat)) (m m' : Nat) {sub : Sig}
    (hπ1 : (π.map Prod.fst).Nodup) (hex : ((π ++ ν).map Prod.snd).Nodup) (hπ3 : ∀ p ∈ π, p.2 < m) (hfr : s.fr ≤ f') (hν : ∀ p ∈ ν, s.fr ≤ p.1 ∧ p.1 < f')
    (hsub : looksP π s.σ = some sub) (hargs : opqVs π ν s.σ as) (hobj : ∀ p ∈ sub, opqO π ν s.σ p.2) (hr : opqV π ν s.σ r) (hrf : freeV r = true) (hσ0 : opqS π ν s.σ σ0)
    (hC : ∀ V : Cell → Value, (∀ c, (V c).oneCell' = true) → Con P g (as.map (exV π ν V)) (sub.map fun p => (p.1, exO π ν V p.2)) m (exV π ν V r) (exS π ν V σ0) m') : SemC P g as s r (σ0 ++ minus π s.σ) f' := by
  refine ⟨(hC (fun _ => .bool true) (fun _ => rfl)).1, fun A base w0 n β a w vs I hvs => ?_⟩
  refine (frame_calls I.inv π ν hπ1 hex hπ3 (fun p hp => I.fresh _ (hν p hp).1) hsub hargs hobj hr hrf hσ0 hC hvs).mono ?_
  rintro e w' ⟨v, β', he, I', hle, hok, hno, hv⟩
  refine ⟨v, β', he, I', hle, hok, fun id hid => ?_, hv⟩
  have hall := looksP_all hsub
  have : exI π ν id = none := by
    unfold exI
    cases hp : look id π with
    | some k =>
      have h1 := hall _ (look_mem hp)
      rcases (I.inv.dom id).1 h1 with ⟨b, kk, cap, hb⟩ | hb
      · rw [I.fresh id (by omega)] at hb; cases hb
      · rw [I.fresh id (by omega)] at hb; cases hb
    | none =>
      cases hq : look id ν with
      | none => rfl
      | some k => have := (hν _ (look_mem hq)).2; simp only at this; omega
  rw [hno id this]
  exact I.fresh id (by omega)
/-- The same, of one object that becomes another one. -/
theorem MvC.frame {P : Program} {g : FuncId} {as : List AVal} {id : Nat} {ob q : AObj} {m : Nat} (k k' M M' : Nat) (hk : k < M) (hkk : k ≠ k') (hargs : ∀ fr σ, look id σ = some ob → opqVs [(id, k)] [(fr, k')] σ as) (hf : ∀ e ∈ ob.es, ∀ c ∈ e, frozenC c = true) (hq : ∀ e ∈ q.es, ∀ c ∈ e, plainC c = true)
    (hC : ∀ fr, id ≠ fr → Con P g (as.map (exV [(id, k)] [(fr, k')] fun _ => .bool true)) [(k, ob)] M (.c (.ref k' 0 m)) [(k', q)] M') (hV : ∀ fr V, as.map (exV [(id, k)] [(fr, k')] V) = as.map (exV [(id, k)] [(fr, k')] fun _ => .bool true)) : MvC P g as id ob q m := by
  have hne : id ≠ id + 1 := by omega
  refine ⟨(hC (id + 1) hne).1, fun base A w0 w β σ fr vs I ho hno hvs => ?_⟩
  have hfr : id ≠ fr := by
    rintro rfl
    rcases (I.dom id).1 (by rw [ho]; rfl) with ⟨b, kk, cap, hb⟩ | hb
    · rw [hno] at hb; cases hb
    · rw [hno] at hb; cases hb
  have frO : ∀ (π ν : List (Nat × Nat)) (V : Cell → Value) (o : AObj), (∀ e ∈ o.es, ∀ c ∈ e, frozenC c = true) → exO π ν V o = o := fun π ν V o h => by
    cases o with
    | mk kk es =>
      unfold exO
      simp only
      congr 1
      refine map_same fun e he => map_same fun c hc => ?_
      have := h e he c hc
      cases c <;> first | rfl | (cases this)
  have plf : ∀ c : Cell, plainC c = true → frozenC c = true ∧ freeC c = true := fun c h => by cases c <;> first | exact ⟨rfl, rfl⟩ | (cases h)
  have opF : ∀ (π ν : List (Nat × Nat)) (o : AObj), (∀ e ∈ o.es, ∀ c ∈ e, frozenC c = true) → opqO π ν σ o := fun π ν o h e he c hc => by
    have := h e he c hc
    cases c <;> first | trivial | (cases this)
  have hqf : ∀ e ∈ q.es, ∀ c ∈ e, frozenC c = true := fun e he c hc => (plf c (hq e he c hc)).1
  have e1 : exI [(id, k)] [(fr, k')] fr = some k' := by simp [exI, look, Ne.symm hfr]
  refine (frame_calls (r := .c (.ref fr 0 m)) (σ0 := [(fr, q)]) (sub := [(k, ob)]) (m := M) (m' := M') I [(id, k)] [(fr, k')] (by simp) (by simp [hkk]) (fun p hp => by rw [List.mem_singleton.1 hp]; exact hk) (fun p hp => by rw [List.mem_singleton.1 hp]; exact hno)
    (by simp [looksP, ho]) (hargs fr σ ho) (fun p hp => by rw [List.mem_singleton.1 hp]; exact opF _ _ _ hf) (by simp only [opqV, opqC, e1]) rfl ⟨by rw [e1]; rfl, opF _ _ _ hqf, fun e he c hc => (plf c (hq e he c hc)).2, trivial⟩ (fun V hV1 => ?_) hvs).mono ?_
  · have := hC fr hfr
    rw [hV fr V]
    have g1 : ([(k, ob)] : Sig).map (fun p => (p.1, exO [(id, k)] [(fr, k')] V p.2)) = [(k, ob)] := by simp [frO _ _ V ob hf]
    have g2 : exS [(id, k)] [(fr, k')] V [(fr, q)] = [(k', q)] := by simp [exS, e1, frO _ _ V q hqf]
    have g3 : exV [(id, k)] [(fr, k')] V (.c (.ref fr 0 m)) = .c (.ref k' 0 m) := by simp only [exV, exC, e1]
    rw [g1, g2, g3]
    exact this
  · rintro e w' ⟨v, β', he, I', hle, hok, hn, hv⟩
    refine ⟨v, β', he, I'.congr0 fun i => ?_, hle, hok, fun i hi hb => ?_, hv⟩
    · show look i (putA fr q (drop id σ)) = look i ((fr, q) :: drop id σ)
      rw [look_put, look]
    · by_cases h : i = id
      · subst h
        rcases (I.dom i).1 (by rw [ho]; rfl) with ⟨b, kk, cap, hb'⟩ | hb'
        · rw [hb] at hb'; cases hb'
        · rw [hb] at hb'; cases hb'
      · rw [hn i (by simp [exI, look, h, hi])]
        exact hb
end Go.Proofs.YtphlhadgcfndhaaGreat.Abs
