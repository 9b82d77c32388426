/- What stays true of values when an effect is applied. -/
import Derived.Test.YtphlhadgcfndhaaWNapJd
namespace Go.Proofs.Ytphlhadgcfndhaa.Abs
open Go Go.RowKit
set_option linter.unusedVariables false
set_option linter.unusedSimpArgs false
set_option maxHeartbeats 4000000
theorem ins_asc {α : Type} {lt : α → α → Bool} (htr : ∀ {a b c : α}, lt a b = true → lt b c = true → lt a c = true) (htri : ∀ {a b : α}, lt a b = false → lt b a = false → a = b) {l : List α} (h : l.Pairwise fun x y => lt x y = true) (a : α)
    (hn : ∀ x, l[l.countP fun x => lt x a]? = some x → x ≠ a) : (l.take (l.countP fun x => lt x a) ++ a :: l.drop (l.countP fun x => lt x a)).Pairwise fun x y => lt x y = true := by
  have hm : Mono (fun x => lt x a) l := fun i j x y hij hx hy hp => by
    obtain ⟨h1, rfl⟩ := List.getElem?_eq_some_iff.1 hx
    obtain ⟨h2, rfl⟩ := List.getElem?_eq_some_iff.1 hy
    exact htr (List.pairwise_iff_getElem.1 h i j h1 h2 hij) hp
  obtain ⟨p, hp⟩ : ∃ p, p = l.countP fun x => lt x a := ⟨_, rfl⟩
  rw [← hp] at hn ⊢
  have lo : ∀ x ∈ l.take p, lt x a = true := fun x hx => by
    obtain ⟨i, hi, rfl⟩ := List.mem_iff_getElem.1 hx
    rw [List.length_take] at hi
    rw [List.getElem_take]
    cases hq : lt l[i] a with
    | true => rfl
    | false =>
      have := (cnt_split hm (List.getElem?_eq_getElem (show i < l.length by omega))).2 hq
      omega
  have hi : ∀ x ∈ l.drop p, lt a x = true := fun x hx => by
    obtain ⟨i, hi, rfl⟩ := List.mem_iff_getElem.1 hx
    rw [List.length_drop] at hi
    rw [List.getElem_drop]
    have hp0 : p < l.length := by omega
    have h0 : lt l[p] a = false := by
      cases hq : lt l[p] a with
      | false => rfl
      | true =>
        have := (cnt_split hm (List.getElem?_eq_getElem hp0)).1 hq
        omega
    have h1 : lt a l[p] = true := by
      cases hq : lt a l[p] with
      | true => rfl
      | false => exact absurd (htri h0 hq) (hn _ (List.getElem?_eq_getElem hp0))
    by_cases hz : i = 0
    · subst hz
      simpa using h1
    · exact htr h1 (List.pairwise_iff_getElem.1 h p (p + i) hp0 (by omega) (by omega))
  rw [List.pairwise_append]
  refine ⟨h.sublist (List.take_sublist _ _), List.pairwise_cons.2 ⟨hi, h.sublist (List.drop_sublist _ _)⟩, fun x hx y hy => ?_⟩
  rcases List.mem_cons.1 hy with rfl | hy
  · exact lo x hx
  · exact htr (lo x hx) (hi y hy)
theorem insL_asc {l : List Str} (h : AscS l) (s : Str) : AscS (insL l s) := by
  unfold insL
  split
  · exact h
  · rename_i hh
    refine ins_asc (lt := sLt) sLt_trans sLt_tri h s fun x hx e => hh ?_
    subst e
    show (l[l.countP fun y => sLt y x]?.any fun y => decide (y = x)) = true
    rw [hx]
    simp
theorem insL_len (l : List Str) (s : Str) : (insL l s).length ≤ l.length + 1 := by
  unfold insL
  split
  · omega
  · have : posS l s ≤ l.length := List.countP_le_length
    simp
    omega
theorem updV_k (v : HV) (e : EfS) : (updV v e).k = v.k := by
  unfold updV
  repeat' split
  all_goals rfl
theorem updV_el (v : HV) (e : EfS) : (updV v e).el = if e.kind = 4 then insL v.el e.s else v.el := by
  unfold updV
  repeat' split
  all_goals first | rfl | omega
theorem posH_k (l : List HV) (k : Ky) : posH l k = (l.map HV.k).countP fun x => kLt x k := by
  unfold posH
  rw [List.countP_map]
  rfl
theorem ascH_k {l : List HV} : AscH l ↔ (l.map HV.k).Pairwise fun x y => kLt x y = true := by
  unfold AscH
  rw [List.pairwise_map]
theorem placeV_asc {l : List HV} (h : AscH l) (k : Ky) : AscH (placeV l k) := by
  unfold placeV
  split
  · exact h
  · rename_i hh
    rw [ascH_k] at h ⊢
    have := ins_asc (lt := kLt) kLt_trans kLt_tri h k fun x hx e => hh (by
      subst e
      rw [← posH_k, List.getElem?_map] at hx
      unfold hasH
      cases hq : l[posH l x]? with
      | none => rw [hq] at hx; cases hx
      | some v =>
        rw [hq] at hx
        have hx : v.k = x := by simpa using hx
        simp only [Option.any_some, decide_eq_true_eq]
        exact hx)
    rw [← posH_k, ← List.map_take, ← List.map_drop] at this
    rw [List.map_append, List.map_cons]
    exact this
theorem setAt_same {α β : Type} {g : α → β} {f : α → α} (h : ∀ x, g (f x) = g x) (l : List α) (p : Nat) : (setAt f l p).map g = l.map g := by
  unfold setAt
  cases hq : l[p]? with
  | none => rfl
  | some x =>
    simp only
    rw [List.map_set, h]
    exact List.set_getElem_same (by rw [List.getElem?_map, hq]; rfl)
theorem applyV_asc {l : List HV} (h : AscH l) (e : EfS) : AscH (applyV l e) := by
  have := placeV_asc h e.k
  rw [ascH_k] at this ⊢
  unfold applyV
  rw [setAt_same (fun v => updV_k v e)]
  exact this
/-- Elements in order, and not many. -/
def ElOk (N : Nat) (l : List HV) : Prop := ∀ v ∈ l, AscS v.el ∧ v.el.length ≤ N
theorem mem_setAt {α : Type} {f : α → α} {l : List α} {p : Nat} {y : α} (h : y ∈ setAt f l p) : y ∈ l ∨ ∃ x ∈ l, y = f x := by
  unfold setAt at h
  cases hq : l[p]? with
  | none => rw [hq] at h; exact .inl h
  | some x =>
    rw [hq] at h
    rcases List.mem_or_eq_of_mem_set h with h | h
    · exact .inl h
    · exact .inr ⟨x, List.mem_of_getElem? hq, h⟩
theorem placeV_mem {l : List HV} {k : Ky} {v : HV} (h : v ∈ placeV l k) : v ∈ l ∨ v = zeroV k := by
  unfold placeV at h
  split at h
  · exact .inl h
  · rcases List.mem_append.1 h with h | h
    · exact .inl (List.mem_of_mem_take h)
    · rcases List.mem_cons.1 h with h | h
      · exact .inr h
      · exact .inl (List.mem_of_mem_drop h)
theorem applyV_el {N : Nat} {l : List HV} (h : ElOk N l) (e : EfS) : ElOk (N + 1) (applyV l e) := fun y hy => by
  have hP : ElOk N (placeV l e.k) := fun v hv => by
    rcases placeV_mem hv with hv | rfl
    · exact h v hv
    · exact ⟨List.Pairwise.nil, Nat.zero_le _⟩
  rcases mem_setAt hy with hy | ⟨x, hx, rfl⟩
  · have := hP y hy
    exact ⟨this.1, by omega⟩
  · have := hP x hx
    rw [updV_el]
    split
    · exact ⟨insL_asc this.1 _, by have := insL_len x.el e.s; omega⟩
    · exact ⟨this.1, by omega⟩
theorem placeV_len (l : List HV) (k : Ky) : (placeV l k).length ≤ l.length + 1 := by
  have := posH_le l k
  unfold placeV
  split
  · omega
  · simp
    omega
theorem setAt_len {α : Type} (f : α → α) (l : List α) (p : Nat) : (setAt f l p).length = l.length := by
  unfold setAt
  split
  · simp
  · rfl
theorem applyV_len (l : List HV) (e : EfS) : (applyV l e).length ≤ l.length + 1 := by
  unfold applyV
  rw [setAt_len]
  exact placeV_len l e.k
/-! ### the objects -/
theorem nd_of : ∀ {l : List OV}, (∀ (i j : Nat) (x y : OV) (a : Nat), l[i]? = some x → l[j]? = some y → x.2 = some a → y.2 = some a → i = j) → (l.filterMap Prod.snd).Nodup
  | [], _ => List.nodup_nil
  | z :: l, h => by
    have ih : (l.filterMap Prod.snd).Nodup := nd_of fun i j x y a hx hy ex ey => by
      have := h (i + 1) (j + 1) x y a (by simpa using hx) (by simpa using hy) ex ey
      omega
    cases hz : z.2 with
    | none => rwa [List.filterMap_cons_none hz]
    | some b =>
      rw [List.filterMap_cons_some hz, List.nodup_cons]
      refine ⟨fun hm => ?_, ih⟩
      obtain ⟨y, hy, ey⟩ := List.mem_filterMap.1 hm
      obtain ⟨j, hj⟩ := List.mem_iff_getElem?.1 hy
      have := h 0 (j + 1) z y b rfl (by simpa using hj) hz ey
      omega
theorem Fam.place {N : Nat} {vs : List OV} {F : Sig} (h : Fam N vs F) (k : Ky) : Fam N (placeO vs k) F := by
  refine ⟨fun x hx hn => ?_, fun x hx id hid => ?_, placeO_nd h.nd k, h.keys, h.flat⟩
  · rcases placeO_mem hx with hx | rfl
    · exact h.emp x hx hn
    · rfl
  · rcases placeO_mem hx with hx | rfl
    · exact h.own x hx id hid
    · cases hid
theorem newEl_el {v : HV} {own : Option Nat} {e : EfS} (h : newEl (v, own) e = false) : (updV v e).el = v.el := by
  rw [updV_el]
  split
  · rename_i hk
    simp only [newEl, hk, decide_true, Bool.true_and, Bool.not_eq_false'] at h
    rw [insL, if_pos h]
  · rfl
theorem newEl_el2 {v : HV} {own : Option Nat} {e : EfS} (h : newEl (v, own) e = true) : (updV v e).el = insL v.el e.s ∧ insL v.el e.s ≠ [] := by
  simp only [newEl, Bool.and_eq_true, decide_eq_true_eq, Bool.not_eq_true'] at h
  refine ⟨by rw [updV_el, if_pos h.1], ?_⟩
  rw [insL, if_neg (by rw [h.2]; simp)]
  simp
theorem Fam.apply {N : Nat} {vs : List OV} {F : Sig} (h : Fam N vs F) (hN : LIM ≤ N) (e : EfS) : Fam (N + 1) (applyO N vs e) (famO N vs F e) := by
  have hP := h.place e.k
  obtain ⟨x, hx, _, _⟩ := place_get vs e.k
  have e1 : applyO N vs e = (placeO vs e.k).set (posH (vs.map Prod.fst) e.k) (updO N x e) := by unfold applyO setAt; rw [hx]
  have e2 : famO N vs F e = if newEl x e = true then (N, ⟨1, (insL x.1.el e.s).map encs⟩) :: (match x.2 with
    | none => F
    | some id => drop id F) else F := by unfold famO; simp only [hx]; rcases x with ⟨v, _ | _⟩ <;> rfl
  rw [e1, e2]
  generalize placeO vs e.k = P at *
  generalize posH (vs.map Prod.fst) e.k = p at *
  have hxP := List.mem_of_getElem? hx
  have hpl := (List.getElem?_eq_some_iff.1 hx).1
  obtain ⟨v, own⟩ := x
  have at_ : ∀ y, ∀ z ∈ P.set p y, z = y ∨ ∃ i, i ≠ p ∧ P[i]? = some z := fun y z hz => by
    obtain ⟨i, hi⟩ := List.mem_iff_getElem?.1 hz
    by_cases hpi : p = i
    · subst hpi
      rw [List.getElem?_set_self hpl] at hi
      cases hi
      exact .inl rfl
    · rw [List.getElem?_set_ne hpi] at hi
      exact .inr ⟨i, Ne.symm hpi, hi⟩
  cases hn : newEl (v, own) e with
  | false =>
    rw [if_neg (by simp)]
    have hu : updO N (v, own) e = (updV v e, own) := by unfold updO; rw [hn]; rfl
    have hel := newEl_el hn
    rw [hu]
    refine ⟨fun z hz hz2 => ?_, fun z hz id hid => ?_, nd_of fun i j a b c ha hb ea eb => ?_, fun i hi => by have := hP.keys i hi; omega, hP.flat⟩
    · rcases at_ _ z hz with rfl | ⟨i, _, hi⟩
      · rw [show (updV v e, own).1.el = v.el from hel]
        exact hP.emp _ hxP hz2
      · exact hP.emp z (List.mem_of_getElem? hi) hz2
    · rcases at_ _ z hz with rfl | ⟨i, _, hi⟩
      · rw [show (updV v e, own).1.el = v.el from hel]
        exact hP.own _ hxP id hid
      · exact hP.own z (List.mem_of_getElem? hi) id hid
    · have back : ∀ {i : Nat} {a : OV}, (P.set p (updV v e, own))[i]? = some a → ∃ a', P[i]? = some a' ∧ a'.2 = a.2 := fun {i a} ha => by
        by_cases hpi : p = i
        · subst hpi
          rw [List.getElem?_set_self hpl] at ha
          cases ha
          exact ⟨_, hx, rfl⟩
        · rw [List.getElem?_set_ne hpi] at ha
          exact ⟨a, ha, rfl⟩
      obtain ⟨a', ha', ea'⟩ := back ha
      obtain ⟨b', hb', eb'⟩ := back hb
      exact own_at hP.nd ha' hb' (ea'.trans ea) (eb'.trans eb)
  | true =>
    rw [if_pos rfl]
    have hu : updO N (v, own) e = (updV v e, some N) := by unfold updO; rw [hn]; rfl
    obtain ⟨hel, hne⟩ := newEl_el2 hn
    rw [hu]
    have ltN : ∀ z ∈ P, ∀ id, z.2 = some id → id ≠ N := fun z hz id hid e => by have := (hP.lt hz hid).2; omega
    obtain ⟨F', hF'⟩ : ∃ F', F' = (match own with
      | none => F
      | some id => drop id F : Sig) := ⟨_, rfl⟩
    have hsub : ∀ i o, look i F' = some o → look i F = some o := fun i o ho => by
      rw [hF'] at ho
      cases own with
      | none => exact ho
      | some id =>
        simp only at ho
        rw [look_drop] at ho
        split at ho
        · cases ho
        · exact ho
    have hkeep : ∀ i z, i ≠ p → P[i]? = some z → ∀ id, z.2 = some id → look id F' = look id F := fun i z hi hz id hid => by
      rw [hF']
      cases own with
      | none => rfl
      | some j =>
        simp only
        rw [look_drop]
        split
        · rename_i e
          subst e
          exact absurd (own_at hP.nd hz hx hid rfl) hi
        · rfl
    have e3 : (match (v, own).2 with
      | none => F
      | some id => drop id F : Sig) = F' := hF'.symm
    rw [e3]
    refine ⟨fun z hz hz2 => ?_, fun z hz id hid => ?_, nd_of fun i j a b c ha hb ea eb => ?_, fun i hi => ?_, fun i o ho => ?_⟩
    · rcases at_ _ z hz with rfl | ⟨i, _, hi⟩
      · cases hz2
      · exact hP.emp z (List.mem_of_getElem? hi) hz2
    · rcases at_ _ z hz with rfl | ⟨i, hip, hi⟩
      · cases hid
        rw [show (updV v e, some N).1.el = insL v.el e.s from hel]
        exact ⟨hne, by rw [look, if_pos rfl]⟩
      · have hzP := List.mem_of_getElem? hi
        obtain ⟨h1, h2⟩ := hP.own z hzP id hid
        refine ⟨h1, ?_⟩
        rw [look, if_neg (ltN z hzP id hid), hkeep i z hip hi id hid]
        exact h2
    · by_cases hpi : p = i
      · by_cases hpj : p = j
        · omega
        · subst hpi
          rw [List.getElem?_set_self hpl] at ha
          rw [List.getElem?_set_ne hpj] at hb
          cases ha
          cases ea
          exact absurd rfl (ltN b (List.mem_of_getElem? hb) _ eb)
      · rw [List.getElem?_set_ne hpi] at ha
        by_cases hpj : p = j
        · subst hpj
          rw [List.getElem?_set_self hpl] at hb
          cases hb
          cases eb
          exact absurd rfl (ltN a (List.mem_of_getElem? ha) _ ea)
        · rw [List.getElem?_set_ne hpj] at hb
          exact own_at hP.nd ha hb ea eb
    · rw [look] at hi
      split at hi
      · rename_i e
        have : LIM ≤ N := hN
        omega
      · obtain ⟨o, ho⟩ := Option.isSome_iff_exists.1 hi
        have := hP.keys i (by rw [hsub i o ho]; rfl)
        omega
    · rw [look] at ho
      split at ho
      · cases ho; exact flat_encs _
      · exact hP.flat i o (hsub i o ho)
end Go.Proofs.Ytphlhadgcfndhaa.Abs
