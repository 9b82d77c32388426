/- Joined for the claim: WNfm WNsp -/
import Derived.Test.YtphlhadgcfndhaaGreatWNapJd
section
namespace Go.Proofs.YtphlhadgcfndhaaGreat.Abs
open Go Go.RowKit
set_option linter.unusedVariables false
set_option linter.unusedSimpArgs false
set_option maxHeartbeats 4000000
theorem ins_asc {α : Type} {lt : α → α → Bool} (htr : ∀ {a b c : α}, lt a b = true → lt b c = true → lt a c = true) (htri : ∀ {a b : α}, lt a b = false → lt b a = false → a = b) {l : List α} (h : l.Pairwise fun x y => lt x y = true) (a : α)
    (hn : ∀ x, l[l.countP fun x => lt x a]? = some x → x ≠ a) : (l.take (l.countP fun x => lt x a) ++ a :: l.drop (l.countP fun x => lt x a)).Pairwise fun x y => lt x y = true := by
  have hm : Mono (fun x => lt x a) l := fun i j x y hij hx hy hp => by
    obtain ⟨h1, rfl⟩ := List.getElem?_eq_some_iff.1 hx
    obtain ⟨h2, rfl⟩ := List.getElem?_eq_some_iff.1 hy
    exact htr (List.pairwise_iff_getElem.1 h i j h1 h2 hij) hp
  obtain ⟨p, hp⟩ : ∃ p, p = l.countP fun x => lt x a := ⟨_, rfl⟩
  rw [← hp] at hn ⊢
  have lo : ∀ x ∈ l.take p, lt x a = true := fun x hx => by
    obtain ⟨i, hi, rfl⟩ := List.mem_iff_getElem.1 hx
    rw [List.length_take] at hi
    rw [List.getElem_take]
    cases hq : lt l[i] a with
    | true => rfl
    | false =>
      have := (cnt_split hm (List.getElem?_eq_getElem (show i < l.length by omega))).2 hq
      omega
  have hi : ∀ x ∈ l.drop p, lt a x = true := fun x hx => by
    obtain ⟨i, hi, rfl⟩ := List.mem_iff_getElem.1 hx
    rw [List.length_drop] at hi
    rw [List.getElem_drop]
    have hp0 : p < l.length := by omega
    have h0 : lt l[p] a = false := by
      cases hq : lt l[p] a with
      | false => rfl
      | true =>
        have := (cnt_split hm (List.getElem?_eq_getElem hp0)).1 hq
        omega
    have h1 : lt a l[p] = true := by
      cases hq : lt a l[p] with
      | true => rfl
      | false => exact absurd (htri h0 hq) (hn _ (List.getElem?_eq_getElem hp0))
    by_cases hz : i = 0
    · subst hz
      simpa using h1
    · exact htr h1 (List.pairwise_iff_getElem.1 h p (p + i) hp0 (by omega) (by omega))
  rw [List.pairwise_append]
  refine ⟨h.sublist (List.take_sublist _ _), List.pairwise_cons.2 ⟨hi, h.sublist (List.drop_sublist _ _)⟩, fun x hx y hy => ?_⟩
  rcases List.mem_cons.1 hy with rfl | hy
  · exact lo x hx
  · exact htr (lo x hx) (hi y hy)
theorem insL_asc {l : List Str} (h : AscS l) (s : Str) : AscS (insL l s) := by
  unfold insL
  split
  · exact h
  · rename_i hh
    refine ins_asc (lt := sLt) sLt_trans sLt_tri h s fun x hx e => hh ?_
    subst e
    show (l[l.countP fun y => sLt y x]?.any fun y => decide (y = x)) = true
    rw [hx]
    simp
theorem insL_len (l : List Str) (s : Str) : (insL l s).length ≤ l.length + 1 := by
  unfold insL
  split
  · omega
  · have : posS l s ≤ l.length := List.countP_le_length
    simp
    omega
theorem updV_k (v : HV) (e : EfS) : (updV v e).k = v.k := by
  unfold updV
  repeat' split
  all_goals rfl
theorem updV_el (v : HV) (e : EfS) : (updV v e).el = if e.kind = 4 then insL v.el e.s else v.el := by
  unfold updV
  repeat' split
  all_goals first | rfl | omega
theorem posH_k (l : List HV) (k : Ky) : posH l k = (l.map HV.k).countP fun x => kLt x k := by
  unfold posH
  rw [List.countP_map]
  rfl
theorem ascH_k {l : List HV} : AscH l ↔ (l.map HV.k).Pairwise fun x y => kLt x y = true := by
  unfold AscH
  rw [List.pairwise_map]
theorem placeV_asc {l : List HV} (h : AscH l) (k : Ky) : AscH (placeV l k) := by
  unfold placeV
  split
  · exact h
  · rename_i hh
    rw [ascH_k] at h ⊢
    have := ins_asc (lt := kLt) kLt_trans kLt_tri h k fun x hx e => hh (by
      subst e
      rw [← posH_k, List.getElem?_map] at hx
      unfold hasH
      cases hq : l[posH l x]? with
      | none => rw [hq] at hx; cases hx
      | some v =>
        rw [hq] at hx
        have hx : v.k = x := by simpa using hx
        simp only [Option.any_some, decide_eq_true_eq]
        exact hx)
    rw [← posH_k, ← List.map_take, ← List.map_drop] at this
    rw [List.map_append, List.map_cons]
    exact this
theorem setAt_same {α β : Type} {g : α → β} {f : α → α} (h : ∀ x, g (f x) = g x) (l : List α) (p : Nat) : (setAt f l p).map g = l.map g := by
  unfold setAt
  cases hq : l[p]? with
  | none => rfl
  | some x =>
    simp only
    rw [List.map_set, h]
    exact List.set_getElem_same (by rw [List.getElem?_map, hq]; rfl)
theorem applyV_asc {l : List HV} (h : AscH l) (e : EfS) : AscH (applyV l e) := by
  have := placeV_asc h e.k
  rw [ascH_k] at this ⊢
  unfold applyV
  rw [setAt_same (fun v => updV_k v e)]
  exact this
/-- Elements in order, and not many. -/
def ElOk (N : Nat) (l : List HV) : Prop := ∀ v ∈ l, AscS v.el ∧ v.el.length ≤ N
theorem mem_setAt {α : Type} {f : α → α} {l : List α} {p : Nat} {y : α} (h : y ∈ setAt f l p) : y ∈ l ∨ ∃ x ∈ l, y = f x := by
  unfold setAt at h
  cases hq : l[p]? with
  | none => rw [hq] at h; exact .inl h
  | some x =>
    rw [hq] at h
    rcases List.mem_or_eq_of_mem_set h with h | h
    · exact .inl h
    · exact .inr ⟨x, List.mem_of_getElem? hq, h⟩
theorem placeV_mem {l : List HV} {k : Ky} {v : HV} (h : v ∈ placeV l k) : v ∈ l ∨ v = zeroV k := by
  unfold placeV at h
  split at h
  · exact .inl h
  · rcases List.mem_append.1 h with h | h
    · exact .inl (List.mem_of_mem_take h)
    · rcases List.mem_cons.1 h with h | h
      · exact .inr h
      · exact .inl (List.mem_of_mem_drop h)
theorem applyV_el {N : Nat} {l : List HV} (h : ElOk N l) (e : EfS) : ElOk (N + 1) (applyV l e) := fun y hy => by
  have hP : ElOk N (placeV l e.k) := fun v hv => by
    rcases placeV_mem hv with hv | rfl
    · exact h v hv
    · exact ⟨List.Pairwise.nil, Nat.zero_le _⟩
  rcases mem_setAt hy with hy | ⟨x, hx, rfl⟩
  · have := hP y hy
    exact ⟨this.1, by omega⟩
  · have := hP x hx
    rw [updV_el]
    split
    · exact ⟨insL_asc this.1 _, by have := insL_len x.el e.s; omega⟩
    · exact ⟨this.1, by omega⟩
theorem placeV_len (l : List HV) (k : Ky) : (placeV l k).length ≤ l.length + 1 := by
  have := posH_le l k
  unfold placeV
  split
  · omega
  · simp
    omega
theorem setAt_len {α : Type} (f : α → α) (l : List α) (p : Nat) : (setAt f l p).length = l.length := by
  unfold setAt
  split
  · simp
  · rfl
theorem applyV_len (l : List HV) (e : EfS) : (applyV l e).length ≤ l.length + 1 := by
  unfold applyV
  rw [setAt_len]
  exact placeV_len l e.k
/-! ### the objects -/
theorem nd_of : ∀ {l : List OV}, (∀ (i j : Nat) (x y : OV) (a : Nat), l[i]? = some x → l[j]? = some y → x.2 = some a → y.2 = some a → i = j) → (l.filterMap Prod.snd).Nodup
  | [], _ => List.nodup_nil
  | z :: l, h => by
    have ih : (l.filterMap Prod.snd).Nodup := nd_of fun i j x y a hx hy ex ey => by
      have := h (i + 1) (j + 1) x y a (by simpa using hx) (by simpa using hy) ex ey
      omega
    cases hz : z.2 with
    | none => rwa [List.filterMap_cons_none hz]
    | some b =>
      rw [List.filterMap_cons_some hz, List.nodup_cons]
      refine ⟨fun hm => ?_, ih⟩
      obtain ⟨y, hy, ey⟩ := List.mem_filterMap.1 hm
      obtain ⟨j, hj⟩ := List.mem_iff_getElem?.1 hy
      have := h 0 (j + 1) z y b rfl (by simpa using hj) hz ey
      omega
theorem Fam.place {N : Nat} {vs : List OV} {F : Sig} (h : Fam N vs F) (k : Ky) : Fam N (placeO vs k) F := by
  refine ⟨fun x hx hn => ?_, fun x hx id hid => ?_, placeO_nd h.nd k, h.keys, h.flat⟩
  · rcases placeO_mem hx with hx | rfl
    · exact h.emp x hx hn
    · rfl
  · rcases placeO_mem hx with hx | rfl
    · exact h.own x hx id hid
    · cases hid
theorem newEl_el {v : HV} {own : Option Nat} {e : EfS} (h : newEl (v, own) e = false) : (updV v e).el = v.el := by
  rw [updV_el]
  split
  · rename_i hk
    simp only [newEl, hk, decide_true, Bool.true_and, Bool.not_eq_false'] at h
    rw [insL, if_pos h]
  · rfl
theorem newEl_el2 {v : HV} {own : Option Nat} {e : EfS} (h : newEl (v, own) e = true) : (updV v e).el = insL v.el e.s ∧ insL v.el e.s ≠ [] := by
  simp only [newEl, Bool.and_eq_true, decide_eq_true_eq, Bool.not_eq_true'] at h
  refine ⟨by rw [updV_el, if_pos h.1], ?_⟩
  rw [insL, if_neg (by rw [h.2]; simp)]
  simp
theorem Fam.apply {N : Nat} {vs : List OV} {F : Sig} (h : Fam N vs F) (hN : LIM ≤ N) (e : EfS) : Fam (N + 1) (applyO N vs e) (famO N vs F e) := by
  have hP := h.place e.k
  obtain ⟨x, hx, _, _⟩ := place_get vs e.k
  have e1 : applyO N vs e = (placeO vs e.k).set (posH (vs.map Prod.fst) e.k) (updO N x e) := by unfold applyO setAt; rw [hx]
  have e2 : famO N vs F e = if newEl x e = true then (N, ⟨1, (insL x.1.el e.s).map encs⟩) :: (match x.2 with
    | none => F
    | some id => drop id F) else F := by unfold famO; simp only [hx]; rcases x with ⟨v, _ | _⟩ <;> rfl
  rw [e1, e2]
  generalize placeO vs e.k = P at *
  generalize posH (vs.map Prod.fst) e.k = p at *
  have hxP := List.mem_of_getElem? hx
  have hpl := (List.getElem?_eq_some_iff.1 hx).1
  obtain ⟨v, own⟩ := x
  have at_ : ∀ y, ∀ z ∈ P.set p y, z = y ∨ ∃ i, i ≠ p ∧ P[i]? = some z := fun y z hz => by
    obtain ⟨i, hi⟩ := List.mem_iff_getElem?.1 hz
    by_cases hpi : p = i
    · subst hpi
      rw [List.getElem?_set_self hpl] at hi
      cases hi
      exact .inl rfl
    · rw [List.getElem?_set_ne hpi] at hi
      exact .inr ⟨i, Ne.symm hpi, hi⟩
  cases hn : newEl (v, own) e with
  | false =>
    rw [if_neg (by simp)]
    have hu : updO N (v, own) e = (updV v e, own) := by unfold updO; rw [hn]; rfl
    have hel := newEl_el hn
    rw [hu]
    refine ⟨fun z hz hz2 => ?_, fun z hz id hid => ?_, nd_of fun i j a b c ha hb ea eb => ?_, fun i hi => by have := hP.keys i hi; omega, hP.flat⟩
    · rcases at_ _ z hz with rfl | ⟨i, _, hi⟩
      · rw [show (updV v e, own).1.el = v.el from hel]
        exact hP.emp _ hxP hz2
      · exact hP.emp z (List.mem_of_getElem? hi) hz2
    · rcases at_ _ z hz with rfl | ⟨i, _, hi⟩
      · rw [show (updV v e, own).1.el = v.el from hel]
        exact hP.own _ hxP id hid
      · exact hP.own z (List.mem_of_getElem? hi) id hid
    · have back : ∀ {i : Nat} {a : OV}, (P.set p (updV v e, own))[i]? = some a → ∃ a', P[i]? = some a' ∧ a'.2 = a.2 := fun {i a} ha => by
        by_cases hpi : p = i
        · subst hpi
          rw [List.getElem?_set_self hpl] at ha
          cases ha
          exact ⟨_, hx, rfl⟩
        · rw [List.getElem?_set_ne hpi] at ha
          exact ⟨a, ha, rfl⟩
      obtain ⟨a', ha', ea'⟩ := back ha
      obtain ⟨b', hb', eb'⟩ := back hb
      exact own_at hP.nd ha' hb' (ea'.trans ea) (eb'.trans eb)
  | true =>
    rw [if_pos rfl]
    have hu : updO N (v, own) e = (updV v e, some N) := by unfold updO; rw [hn]; rfl
    obtain ⟨hel, hne⟩ := newEl_el2 hn
    rw [hu]
    have ltN : ∀ z ∈ P, ∀ id, z.2 = some id → id ≠ N := fun z hz id hid e => by have := (hP.lt hz hid).2; omega
    obtain ⟨F', hF'⟩ : ∃ F', F' = (match own with
      | none => F
      | some id => drop id F : Sig) := ⟨_, rfl⟩
    have hsub : ∀ i o, look i F' = some o → look i F = some o := fun i o ho => by
      rw [hF'] at ho
      cases own with
      | none => exact ho
      | some id =>
        simp only at ho
        rw [look_drop] at ho
        split at ho
        · cases ho
        · exact ho
    have hkeep : ∀ i z, i ≠ p → P[i]? = some z → ∀ id, z.2 = some id → look id F' = look id F := fun i z hi hz id hid => by
      rw [hF']
      cases own with
      | none => rfl
      | some j =>
        simp only
        rw [look_drop]
        split
        · rename_i e
          subst e
          exact absurd (own_at hP.nd hz hx hid rfl) hi
        · rfl
    have e3 : (match (v, own).2 with
      | none => F
      | some id => drop id F : Sig) = F' := hF'.symm
    rw [e3]
    refine ⟨fun z hz hz2 => ?_, fun z hz id hid => ?_, nd_of fun i j a b c ha hb ea eb => ?_, fun i hi => ?_, fun i o ho => ?_⟩
    · rcases at_ _ z hz with rfl | ⟨i, _, hi⟩
      · cases hz2
      · exact hP.emp z (List.mem_of_getElem? hi) hz2
    · rcases at_ _ z hz with rfl | ⟨i, hip, hi⟩
      · cases hid
        rw [show (updV v e, some N).1.el = insL v.el e.s from hel]
        exact ⟨hne, by rw [look, if_pos rfl]⟩
      · have hzP := List.mem_of_getElem? hi
        obtain ⟨h1, h2⟩ := hP.own z hzP id hid
        refine ⟨h1, ?_⟩
        rw [look, if_neg (ltN z hzP id hid), hkeep i z hip hi id hid]
        exact h2
    · by_cases hpi : p = i
      · by_cases hpj : p = j
        · omega
        · subst hpi
          rw [List.getElem?_set_self hpl] at ha
          rw [List.getElem?_set_ne hpj] at hb
          cases ha
          cases ea
          exact absurd rfl (ltN b (List.mem_of_getElem? hb) _ eb)
      · rw [List.getElem?_set_ne hpi] at ha
        by_cases hpj : p = j
        · subst hpj
          rw [List.getElem?_set_self hpl] at hb
          cases hb
          cases eb
          exact absurd rfl (ltN a (List.mem_of_getElem? ha) _ ea)
        · rw [List.getElem?_set_ne hpj] at hb
          exact own_at hP.nd ha hb ea eb
    · rw [look] at hi
      split at hi
      · rename_i e
        have : LIM ≤ N := hN
        omega
      · obtain ⟨o, ho⟩ := Option.isSome_iff_exists.1 hi
        have := hP.keys i (by rw [hsub i o ho]; rfl)
        omega
    · rw [look] at ho
      split at ho
      · cases ho; exact flat_encs _
      · exact hP.flat i o (hsub i o ho)
end Go.Proofs.YtphlhadgcfndhaaGreat.Abs
end
section
namespace Go.Proofs.YtphlhadgcfndhaaGreat.Abs
open Go Go.RowKit
set_option linter.unusedVariables false
set_option linter.unusedSimpArgs false
set_option maxHeartbeats 4000000
structure OpS where
  p : Int
  kind : Int
  ef : List EfS
  res : List HV
  call : Int
  ret : Int
@[simp] def encOp (o : OpS) : List Cell := [cI o.p, cI o.kind, .row 5 false (o.ef.map encE'), .row 10 false (o.res.map encH), cI o.call, cI o.ret]
def stepV (vs : List HV) (o : OpS) : List HV := if o.kind = 1 then o.ef.foldl applyV vs else vs
def okV (vs : List HV) (o : OpS) : Bool := if o.kind = 2 then sameL vs o.res else true
/-! ### all is only read from here on -/
def encP (S : Nat → Bool) (x : OV) : List Cell := encX (x.1, match x.2 with
  | none => .row 1 true []
  | some id => if S id = true then .row 1 false (x.1.el.map encs) else .ref id 0 x.1.el.length)
theorem encP_0 (W : List OV) : W.map (encP fun _ => false) = W.map encO := List.map_congr_left fun x _ => by
  obtain ⟨v, own⟩ := x
  cases own <;> rfl
theorem encP_flat {S : Nat → Bool} {W : List OV} (h : ∀ x ∈ W, ∀ id, x.2 = some id → S id = true) : flatO ⟨10, W.map (encP S)⟩ = true := flatO_of fun e he => by
  obtain ⟨x, hx, rfl⟩ := List.mem_map.1 he
  obtain ⟨v, own⟩ := x
  cases own with
  | none => rfl
  | some id => simp [encP, h _ hx id rfl]
section
variable {A : Old} {τ : Tau} {fr : Nat}
theorem Weak.frzFam (hτ : ∀ id o, id < 5000000 → mapS (frzV id o) τ = τ) {W : List OV} : ∀ (ids : List Nat) (S : Nat → Bool) (F : Sig), ids.Nodup → Low 5000000 F → (∀ i o, look i F = some o → flatO o = true) → (∀ id ∈ ids, ∀ x ∈ W, x.2 = some id → look id F = some ⟨1, x.1.el.map encs⟩) → (∀ id ∈ ids, (look id F).isSome = true) →
    ∃ F', Low 5000000 F' ∧ Weak A ⟨τ, (5000000, ⟨10, W.map (encP S)⟩) :: F, fr⟩ ⟨τ, (5000000, ⟨10, W.map (encP fun i => S i || ids.contains i)⟩) :: F', fr⟩
  | [], S, F, _, hl, _, _, _ => ⟨F, hl, by simp; exact Weak.refl _⟩
  | id :: ids, S, F, hn, hl, hf, hw, hs => by
    rw [List.nodup_cons] at hn
    obtain ⟨o, ho⟩ := Option.isSome_iff_exists.1 (hs id (by simp))
    have hid : id < 5000000 := hl id (by rw [ho]; rfl)
    have hl2 : Low 5000000 (drop id F) := fun i hi => by
      rw [look_drop] at hi
      split at hi
      · cases hi
      · exact hl i hi
    obtain ⟨F', h1, h2⟩ := Weak.frzFam hτ (W := W) ids (fun i => S i || i == id) (drop id F) hn.2 hl2 (fun i o hi => by
      rw [look_drop] at hi
      split at hi
      · cases hi
      · exact hf i o hi) (fun j hj x hx hxj => by
      rw [look_drop, if_neg (fun e : j = id => hn.1 (e ▸ hj))]
      exact hw j (by simp [hj]) x hx hxj) (fun j hj => by
      rw [look_drop, if_neg (fun e : j = id => hn.1 (e ▸ hj))]
      exact hs j (by simp [hj]))
    refine ⟨F', h1, ?_⟩
    have e1 : (fun i => (S i || i == id) || ids.contains i) = fun i => S i || (id :: ids).contains i := by
      funext i
      rw [List.contains_cons, Bool.or_assoc]
    rw [e1] at h2
    refine Weak.trans ?_ h2
    have hfz := Weak.freeze (A := A) id o [5000000] ⟨τ, (5000000, ⟨10, W.map (encP S)⟩) :: F, fr⟩ (by rw [look, if_neg (by omega)]; exact ho) (hf id o ho)
    have e2 : Abs.freeze id o [5000000] ⟨τ, (5000000, ⟨10, W.map (encP S)⟩) :: F, fr⟩ = ⟨τ, (5000000, ⟨10, W.map (encP fun i => S i || i == id)⟩) :: drop id F, fr⟩ := by
      unfold Abs.freeze
      simp only
      rw [hτ id o hid, drop, if_neg (by omega), mapAt, mapAt_low _ (by decide) hl2]
      simp only [List.contains_cons, beq_self_eq_true, Bool.true_or, if_true]
      congr 2
      unfold frzO
      simp only
      rw [List.map_map]
      congr 2
      refine List.map_congr_left fun x hx => ?_
      obtain ⟨v, own⟩ := x
      cases own with
      | none => rfl
      | some j =>
        by_cases hj : j = id
        · subst hj
          have := hw j (by simp) _ hx rfl
          rw [ho] at this
          cases this
          cases hS : S j <;> simp [encP, hS, frzC]
        · have hb : (j == id) = false := beq_eq_false_iff_ne.2 hj
          cases hS : S j <;> simp [encP, hS, frzC, hj, hb]
    rw [e2] at hfz
    exact hfz
theorem Weak.frzAll {N : Nat} {W : List OV} {F : Sig} (hτ : ∀ id o, id < 5000000 → mapS (frzV id o) τ = τ) (h : Fam N W F) (hN : N ≤ 5000000) : ∃ F', Low 5000000 F' ∧ Weak A ⟨τ, (5000000, ⟨10, W.map encO⟩) :: F, fr⟩ ⟨mapS (frzV 5000000 ⟨10, (W.map Prod.fst).map encH⟩) τ, F', fr⟩ := by
  obtain ⟨F', h1, h2⟩ := Weak.frzFam (A := A) (τ := τ) (fr := fr) hτ (W := W) (W.filterMap Prod.snd) (fun _ => false) F h.nd (h.low.le hN) h.flat (fun id hid x hx hxi => (h.own x hx id hxi).2) (fun id hid => by
    obtain ⟨x, hx, hxi⟩ := List.mem_filterMap.1 hid
    rw [(h.own x hx id hxi).2]
    rfl)
  rw [encP_0] at h2
  refine ⟨F', h1, h2.trans ((Weak.leO 5000000 _ (o := ⟨10, W.map (encP fun i => (fun _ => false) i || (W.filterMap Prod.snd).contains i)⟩) (o' := ⟨10, (W.map Prod.fst).map encH⟩) (by rw [look, if_pos rfl]) rfl (by simp) (fun i e e' he he' => ?_)).trans ?_)⟩
  · rw [List.getElem?_map] at he
    rw [List.getElem?_map, List.getElem?_map] at he'
    cases hx : W[i]? with
    | none => rw [hx] at he; cases he
    | some x =>
      rw [hx] at he he'
      cases he
      cases he'
      have hxm := List.mem_of_getElem? hx
      obtain ⟨v, own⟩ := x
      have hc : LeC (match (v, own).2 with
          | none => .row 1 true []
          | some id => if ((fun _ => false) id || (W.filterMap Prod.snd).contains id) = true then .row 1 false (v.el.map encs) else .ref id 0 v.el.length) (.row 1 false (v.el.map encs)) := by
        cases own with
        | none =>
          have : v.el = [] := h.emp _ hxm rfl
          rw [this]
          exact LeC.loose 1 true []
        | some id =>
          have : (W.filterMap Prod.snd).contains id = true := by
            rw [List.contains_iff_mem]
            exact List.mem_filterMap.2 ⟨_, hxm, rfl⟩
          simp only [this, Bool.or_true, if_true]
          exact .refl _
      exact .cons (.refl _) (.cons (.refl _) (.cons (.refl _) (.cons (.refl _) (.cons (.refl _) (.cons (.refl _) (.cons (.refl _) (.cons (.refl _) (.cons hc (.cons (.refl _) .nil)))))))))
  · have hp : putA 5000000 (⟨10, (W.map Prod.fst).map encH⟩ : AObj) ((5000000, ⟨10, W.map (encP fun i => (fun _ => false) i || (W.filterMap Prod.snd).contains i)⟩) :: F') = (5000000, ⟨10, (W.map Prod.fst).map encH⟩) :: F' := by
      rw [putA, drop, if_pos rfl, drop_low h1 5000000 (Nat.le_refl _)]
    rw [hp]
    have hfz := Weak.freeze (A := A) 5000000 ⟨10, (W.map Prod.fst).map encH⟩ [] ⟨τ, (5000000, ⟨10, (W.map Prod.fst).map encH⟩) :: F', fr⟩ (by rw [look, if_pos rfl]) (flat_encH _)
    have e2 : Abs.freeze 5000000 ⟨10, (W.map Prod.fst).map encH⟩ [] ⟨τ, (5000000, ⟨10, (W.map Prod.fst).map encH⟩) :: F', fr⟩ = ⟨mapS (frzV 5000000 ⟨10, (W.map Prod.fst).map encH⟩) τ, F', fr⟩ := by
      unfold Abs.freeze
      simp only
      rw [mapAt_nil, drop, if_pos rfl, drop_low h1 5000000 (Nat.le_refl _)]
    rw [e2] at hfz
    exact hfz
end
theorem hiS_hi : ∀ {F : Sig}, (∀ i, (look i F).isSome = true → LIM ≤ i) → hiS F = F ∧ loS F = []
  | [], _ => ⟨rfl, rfl⟩
  | (t, o) :: r, h => by
    have ht := h t (by simp [look])
    have hr := hiS_hi (F := r) fun i hi => h i (by
      rw [look]
      split
      · rfl
      · exact hi)
    rw [hiS, loS, if_neg (by omega), if_neg (by omega), hr.1, hr.2]
    exact ⟨rfl, rfl⟩
theorem Weak.name2 {A : Old} (hA : A.lim = 0) {B : Nat} (hB : B < 5000000) (ks : List Nat) {τ : Tau} {O : AObj} {X : Sig} {fr : Nat} (hX : ∀ i o, look i X = some o → flatO o = true) :
    Weak A ⟨τ, (5000100, O) :: X, fr⟩ ⟨mapS (rnV B [(5000100, 5000000), (5000101, B)]) (keepT ks τ), rnS B [(5000100, 5000000), (5000101, B)] [5000100] ((5000100, O) :: X), 5000002⟩ := by
  refine (Weak.keep ks _).trans (Weak.tidy B _ [5000100] 5000002 ⟨keepT ks τ, (5000100, O) :: X, fr⟩ ?_)
  rw [hA]
  refine ⟨fun p hp => ?_, ⟨by omega, by omega⟩, by simp; omega, fun j hj hj2 => by omega, fun i o hl hi hne e he c hc => ?_⟩
  · simp only [List.mem_cons, List.not_mem_nil, or_false] at hp
    rcases hp with rfl | rfl <;> simp only <;> omega
  · have hl' : look i X = some o := by
      have : i ≠ 5000100 := fun e => by subst e; simp at hi
      have hl : look i ((5000100, O) :: X) = some o := hl
      rwa [look, if_neg this] at hl
    have := flat_refs (B := 0) (hX i o hl') e he c hc
    cases c <;> first | trivial | exact absurd this (Nat.not_lt_zero _)
theorem rn_apply {B : Nat} {W : List OV} {F : Sig} (h : Fam B W F) (hB : B < 5000000) (e : EfS) : ((applyO 5000101 W e).map encO).map (fun x => x.map (rnC B [(5000100, 5000000), (5000101, B)])) = (applyO B W e).map encO := by
  obtain ⟨x, hx, _, _⟩ := place_get W e.k
  have e1 : ∀ n, applyO n W e = (placeO W e.k).set (posH (W.map Prod.fst) e.k) (updO n x e) := fun n => by unfold applyO setAt; rw [hx]
  rw [e1, e1, List.map_set, List.map_set, List.map_set, rn_own (B := B) (h.place e.k).ownLt (Nat.le_refl _)]
  congr 1
  unfold updO
  have hxP := List.mem_of_getElem? hx
  have hown := (h.place e.k).ownLt x hxP
  obtain ⟨v, own⟩ := x
  cases hn : newEl (v, own) e with
  | true =>
    have e2 : ¬ 5000101 < B := by omega
    simp [e2]
  | false =>
    cases own with
    | none => simp
    | some id =>
      have hlt : id < B := hown id rfl
      simp [hlt]
theorem rn_fam {B : Nat} {W : List OV} {F : Sig} (h : Fam B W F) (hB : B < 5000000) (e : EfS) : rnS B [(5000100, 5000000), (5000101, B)] [5000100] (famO 5000101 W F e) = famO B W F e := by
  obtain ⟨x, hx, _, _⟩ := place_get W e.k
  have hids : (([5000100] : List Nat).all fun i => decide (B ≤ i)) = true := by simp; omega
  have hF := rnS_lowB (ρ := [(5000100, 5000000), (5000101, B)]) hids h.low
  have hFd : ∀ id, rnS B [(5000100, 5000000), (5000101, B)] [5000100] (drop id F) = drop id F := fun id => rnS_lowB hids fun i hi => by
    rw [look_drop] at hi
    split at hi
    · cases hi
    · exact h.low i hi
  have e2 : ¬ 5000101 < B := by omega
  unfold famO
  simp only [hx]
  obtain ⟨v, own⟩ := x
  cases newEl (v, own) e with
  | false => simpa using hF
  | true =>
    cases own with
    | none => simp [rnS, rnI, e2, look, hF]
    | some id => simp [rnS, rnI, e2, look, hFd]
theorem famO_flat {n : Nat} {W : List OV} {F : Sig} (h : ∀ i o, look i F = some o → flatO o = true) (e : EfS) : ∀ i o, look i (famO n W F e) = some o → flatO o = true := fun i o ho => by
  unfold famO at ho
  split at ho
  · exact h i o ho
  · split at ho
    · rw [look] at ho
      split at ho
      · cases ho; exact flat_encs _
      · split at ho
        · exact h i o ho
        · rw [look_drop] at ho
          split at ho
          · cases ho
          · exact h i o ho
    · exact h i o ho
theorem Fam.le {N M : Nat} {W : List OV} {F : Sig} (h : Fam N W F) (hNM : N ≤ M) : Fam M W F := ⟨h.emp, h.own, h.nd, fun i hi => by have := h.keys i hi; omega, h.flat⟩
theorem Weak.setK {A : Old} (hA : A.lim = 0) {τ : Tau} {N fr : Nat} {W : List OV} {F : Sig} (h : Fam N W F) (hN : N ≤ 5000000) (ks : List Nat) (K : Nat) (hK : 5000001 ≤ K) :
    Weak A ⟨τ, (5000000, ⟨10, W.map encO⟩) :: F, fr⟩ ⟨mapS (rnV 5000001 []) (keepT ks τ), (5000000, ⟨10, W.map encO⟩) :: F, K⟩ := by
  have hl : Low 5000001 F := h.low.le (by omega)
  have e : rnS 5000001 [] [] ((5000000, (⟨10, W.map encO⟩ : AObj)) :: F) = (5000000, ⟨10, W.map encO⟩) :: F := by
    rw [rnS, rnI, if_pos (by omega)]
    simp only [List.contains_nil, Bool.false_eq_true, if_false]
    rw [rnS_lowB rfl hl]
  have := Weak.tidy (A := A) 5000001 [] [] K ⟨keepT ks τ, (5000000, ⟨10, W.map encO⟩) :: F, fr⟩ (by
    rw [hA]
    refine ⟨(fun p hp => by cases hp), ⟨hK, Nat.zero_le _⟩, List.nodup_nil, (fun j hj hj2 => by omega), fun i o hl hi hne e he c hc => ?_⟩
    have hr : refLt 5000000 c := by
      by_cases hi : i = 5000000
      · subst hi
        have hl : look 5000000 ((5000000, (⟨10, W.map encO⟩ : AObj)) :: F) = some o := hl
        rw [look, if_pos rfl] at hl
        cases hl
        exact refs_le (encO_refs h) hN e he c hc
      · have hl : look i ((5000000, (⟨10, W.map encO⟩ : AObj)) :: F) = some o := hl
        rw [look, if_neg hi] at hl
        exact flat_refs (h.flat i o hl) e he c hc
    have low : ∀ id, id < 5000000 → rnI 5000001 [] id = some id := fun id h => by rw [rnI, if_pos (by omega)]
    cases c with
    | ref id lo q => exact .inl (low _ hr)
    | ptr id i off => exact .inl (low _ hr)
    | any => exact True.intro
    | sc => exact True.intro
    | row => exact True.intro
    | fad => exact True.intro
    | fn => exact True.intro
    | bit => exact True.intro)
  simp only [Abs.tidy, e] at this
  exact (Weak.keep ks _).trans this
theorem fold_ok : ∀ (l : List EfS) {N : Nat} {vs : List HV}, AscH vs → ElOk N vs → AscH (l.foldl applyV vs) ∧ ElOk (N + l.length) (l.foldl applyV vs) ∧ (l.foldl applyV vs).length ≤ vs.length + l.length
  | [], N, vs, h1, h2 => ⟨h1, h2, Nat.le_refl _⟩
  | e :: l, N, vs, h1, h2 => by
    obtain ⟨g1, g2, g3⟩ := fold_ok l (applyV_asc h1 e) (applyV_el h2 e)
    have := applyV_len vs e
    refine ⟨g1, ?_, ?_⟩
    · rw [List.length_cons, show N + (l.length + 1) = N + 1 + l.length by omega]
      exact g2
    · rw [List.foldl_cons, List.length_cons]
      omega
theorem applyO_len (n m : Nat) (W : List OV) (e : EfS) : (applyO n W e).length = (applyO m W e).length := by
  unfold applyO
  rw [setAt_len, setAt_len]
theorem step_pure (vs : List HV) (o : OpS) (hv : AscH vs) (hel : ElOk 100000 vs) (hl : vs.length < 100000) (hef : o.ef.length < 100000) : Pure Tryz.prog 24 [.c (encHs vs), .agg (encOp o)] (.tup [.c (encHs (stepV vs o)), .c (cB (okV vs o))]) := by
  refine pure_of teOk Tryz.func24 (by kernel_rfl) (c := _) rfl (N := 34) rfl (rs := [Go.ResultVar.tmp 4, Go.ResultVar.tmp 5]) rfl (by simp) fun base A w0 hA => ?_
  refine AW.st teOk [] (by simp [-Option.some.injEq] <;> rfl) trivial ?_
  refine AW.to (s2 := ⟨[(0, .c (encHs vs)), (3, .c (.fad (encOp o))), (4, .c (.sc (.slice none 0 0))), (5, .c (cB false))], [], 999999⟩) ((Weak.freeze 0 ⟨6, [encOp o]⟩ [] _ (by simp) rfl).trans (Weak.normT hA [0, 3, 4, 5] [] [] 999999 _ (by simp) (by simp) (by simp [mapAt_nil]))) (by simp [mapAt_nil]) ?_
  refine AW.st teOk [.own (.c (.ref 5000000 0 vs.length)) ((5000000, ⟨10, (clW vs).map encO⟩) :: clF vs) 5000001] (by simp [-Option.some.injEq] <;> rfl) ?_ ?_
  · simpa using clone_con vs (by omega) (fun v hv' => by have := (hel v hv').2; omega)
  have hfam0 := cl_fam vs
  have hWf := clW_fst vs
  have hWl := clW_len vs
  generalize clW vs = W0 at *
  generalize clF vs = F0 at *
  have hN0 : LIM + vs.length ≤ 5000000 := by show 1000000 + vs.length ≤ 5000000; omega
  have hfτ : ∀ id o', id < 5000000 → mapS (frzV id o') [(3, AVal.c (.fad (encOp o))), (6, .c (.ref 5000000 0 vs.length))] = [(3, AVal.c (.fad (encOp o))), (6, .c (.ref 5000000 0 vs.length))] := fun id o' hid => by
    have : ¬ 5000000 = id := by omega
    simp [this]
  refine AW.mid (fun s => o.kind ≠ 2 ∧ ∃ F', s = ⟨[(6, .c (encHs (stepV vs o)))], F', 5000002⟩) ?_ ?_
  · refine AW.st teOk [] (by simp [-Option.some.injEq] <;> rfl) trivial ?_
    refine AW.block ?_
    refine AW.st teOk [] (by simp [-Option.some.injEq] <;> rfl) trivial ?_
    refine AW.iff (o.kind == 1) (by simp) (fun h1 => ?_) (fun h1 => ?_)
    · have k1 : o.kind = 1 := by simpa using h1
      have hst : stepV vs o = o.ef.foldl applyV vs := if_pos k1
      have k2 : o.kind ≠ 2 := by omega
      obtain ⟨es, hes⟩ : ∃ es, es = o.ef := ⟨_, rfl⟩
      rw [← hes] at hst hef
      refine AW.st teOk [] (by simp [-Option.some.injEq] <;> rfl) trivial ?_
      refine AW.block (AW.loop (fun m s => ∃ (i cnt : Nat) (W : List OV) (F : Sig), m = es.length - i ∧ i ≤ es.length ∧ cnt = 1000000 + vs.length + i ∧ Fam cnt W F ∧ W.map Prod.fst = (es.take i).foldl applyV vs ∧ s = ⟨[(6, .c (.ref 5000000 0 W.length)), (16, .c (.row 5 false (es.map encE'))), (17, .c (cI es.length)), (18, .c (cI i))], (5000000, ⟨10, W.map encO⟩) :: F, 5000002⟩) _ (Weak.setK hA hfam0 hN0 [6, 16, 17, 18] 5000002 (by omega)) ⟨0, 1000000 + vs.length, W0, F0, rfl, Nat.zero_le _, rfl, hfam0, by simpa using hWf, by simp [hWl, hes]⟩ ?_)
      rintro m s ⟨i, cnt, W, F, rfl, hi, hcnt, hfam, hWv, rfl⟩
      have hcl : cnt < 5000000 := by omega
      refine AW.st teOk [] (by simp [-Option.some.injEq] <;> rfl) trivial ?_
      refine AW.seq ?_
      refine AW.iff (decide (i < es.length)) (by simp) (fun h => AW.skip ?_) (fun h => AW.exit (x_then (x_then (blockA_exit ?_))))
      · rw [decide_eq_true_eq] at h
        obtain ⟨e, he⟩ : ∃ e, es[i]? = some e := ⟨_, List.getElem?_eq_getElem h⟩
        refine AW.seq (AW.block ?_)
        refine AW.st teOk [] (by simp [he, -Option.some.injEq] <;> rfl) ?_ ?_
        · omega
        have hFl : Low 5000000 F := hfam.low.le (by omega)
        have hdF : ∀ k, 5000000 ≤ k → drop k F = F := fun k hk => drop_low hFl k hk
        obtain ⟨hhi, hlo⟩ := hiS_hi (fun j hj => (hfam.keys j hj).1)
        obtain ⟨f1, f2, f3⟩ := fold_ok (es.take i) hv hel
        rw [← hWv] at f1 f2 f3
        have hti : (es.take i).length = i := by rw [List.length_take]; omega
        rw [hti] at f2 f3
        rw [List.length_map] at f3
        refine AW.to (s2 := ⟨[(8, .c (.fad (encE' e))), (6, .c (.ref 5000000 0 W.length)), (16, .c (.row 5 false (es.map encE'))), (17, .c (cI es.length)), (18, .c (cI i))], (5000000, ⟨10, W.map encO⟩) :: F, 5000007⟩) ((Weak.keep [8, 6, 16, 17, 18] _).trans (Weak.freeze 5000005 ⟨5, [encE' e]⟩ [] _ (by simp) rfl)) (by simp [hdF, mapAt_nil]) ?_
        refine AW.to (s2 := ⟨[(8, .c (.fad (encE' e))), (6, .c (.ref 5000000 0 W.length)), (16, .c (.row 5 false (es.map encE'))), (17, .c (cI es.length)), (18, .c (cI i))], (5000000, ⟨10, W.map encO⟩) :: F, 5000018⟩) (Weak.setK hA hfam (by omega) [8, 6, 16, 17, 18] 5000018 (by omega)) (by simp) ?_
        refine AW.text teOk (ans := [.own (.c (.ref 5000100 0 (applyO 5000101 W e).length)) ((5000100, ⟨10, (applyO 5000101 W e).map encO⟩) :: famO 5000101 W F e) 5000102]) (by simp [hhi, hlo, -Option.some.injEq] <;> rfl) ?_ ?_
        · have hc := apply_con W F (hfam.le (by omega)) e f1 (fun x hx => by
            have := f2 x.1 (List.mem_map.2 ⟨x, hx, rfl⟩)
            exact ⟨this.1, by omega⟩) (by omega)
          simpa [hhi] using hc
        refine AW.text teOk (ans := []) (by simp [-Option.some.injEq] <;> rfl) ?_ ?_
        · trivial
        refine ⟨_, _, Weak.name2 hA hcl [6, 16, 17, 18] (famO_flat hfam.flat e), ?_, i + 1, cnt + 1, applyO cnt W e, famO cnt W F e, rfl, h, by omega, hfam.apply (by show 1000000 ≤ cnt; omega) e, ?_, ?_⟩
        · omega
        · rw [applyO_fst, hWv, List.take_add_one, he]
          simp
        · have hb1 : ¬ 5000100 < cnt := by omega
          have r1 := rn_apply hfam hcl e
          have r2 := rn_fam hfam hcl e
          simp only [rnS, rnI, if_neg hb1, look, if_true, List.contains_cons, beq_self_eq_true, Bool.true_or, rnO, r1, r2]
          simp [hb1, applyO_len 5000101 cnt W e]
          exact wrap_s i (by omega)
      · rw [decide_eq_false_iff_not] at h
        have hi2 : i = es.length := by omega
        rw [hi2, List.take_length] at hWv
        have hfτ2 : ∀ id o', id < 5000000 → mapS (frzV id o') [(6, AVal.c (.ref 5000000 0 W.length))] = [(6, .c (.ref 5000000 0 W.length))] := fun id o' hid => by
          have : ¬ 5000000 = id := by omega
          simp [this]
        obtain ⟨F', _, hw⟩ := Weak.frzAll (A := A) (fr := 5000002) hfτ2 hfam (by omega)
        have hl2 : W.length = (es.foldl applyV vs).length := by rw [← hWv, List.length_map]
        rw [hWv] at hw
        refine ⟨_, (Weak.setK hA hfam (by omega) [6] 5000002 (by omega)).trans (Weak.to (by simp) hw), k2, F', ?_⟩
        rw [hst]
        simp [hl2]
    · have k1 : o.kind ≠ 1 := by simpa using h1
      have hst : stepV vs o = vs := if_neg k1
      refine AW.st teOk [] (by simp [-Option.some.injEq] <;> rfl) trivial ?_
      refine AW.iff (o.kind == 2) (by simp) (fun h2 => ?_) (fun h2 => AW.skip ?_)
      · have k2 : o.kind = 2 := by simpa using h2
        refine AW.to (s2 := ⟨[(3, .c (.fad (encOp o))), (6, .c (.ref 5000000 0 vs.length))], (5000000, ⟨10, W0.map encO⟩) :: F0, 5000002⟩) (Weak.setK hA hfam0 hN0 [3, 6] 5000002 (by omega)) (by simp) ?_
        obtain ⟨F', _, hw⟩ := Weak.frzAll (A := A) (fr := 5000002) hfτ hfam0 hN0
        rw [hWf] at hw
        refine AW.to (s2 := ⟨[(3, .c (.fad (encOp o))), (6, .c (encHs vs))], F', 5000002⟩) hw (by simp) ?_
        refine AW.st teOk [.fz (.c (cB (sameL vs o.res)))] (by simp [-Option.some.injEq] <;> rfl) ?_ ?_
        · exact sameVs_pure false false vs o.res (by omega) (fun v hv' => by have := (hel v hv').2; omega)
        refine AW.ret ⟨.inr rfl, _, Weak.refl _, ?_⟩
        simp [hst, okV, k2]
      · have k2 : o.kind ≠ 2 := by simpa using h2
        obtain ⟨F', _, hw⟩ := Weak.frzAll (A := A) (fr := 5000002) hfτ hfam0 hN0
        rw [hWf] at hw
        refine ⟨_, (Weak.setK hA hfam0 hN0 [3, 6] 5000002 (by omega)).trans (Weak.to (by simp) (hw.trans (Weak.keep [6] _))), k2, F', by simp [hst]⟩
  · rintro s ⟨k2, F', rfl⟩
    refine AW.st teOk [] (by simp [-Option.some.injEq] <;> rfl) trivial ?_
    refine AW.ret ⟨.inr rfl, _, Weak.refl _, ?_⟩
    simp [okV, k2]
end Go.Proofs.YtphlhadgcfndhaaGreat.Abs
end
