/- Joined for the claim: WQb WQc WPa -/
import Derived.Test.YtphlhadgcfndhaaGreatJd5
import Derived.Test.YtphlhadgcfndhaaGreatJd8
import Derived.Test.YtphlhadgcfndhaaGreatJd4
section
namespace Go.Proofs.YtphlhadgcfndhaaGreat.Abs
open Go Go.RowKit
set_option linter.unusedVariables false
set_option linter.unusedSimpArgs false
/-- Updates have one effect, other operations none. -/
def OneEf (ops : List OpS) : Prop := ∀ o ∈ ops, (o.kind = 1 ∧ ∃ e, o.ef = [e]) ∨ (o.kind ≠ 1 ∧ o.ef = [])
def effx (ops : List OpS) (x : List Int) (i : Nat) : Option EfS := match ops[i]? with
  | some o => match o.ef with
    | [e] => some (if e.kind = 1 ∧ x[i]?.getD 0 ≠ 2 then touch e else e)
    | _ => none
  | none => none
inductive Path (ops : List OpS) : List Nat → List Int → List HV → Prop
  | nil : Path ops [] x0 []
  | snoc {l : List Nat} {x : List Int} {vs : List HV} {i : Nat} {o : OpS} : Path ops l x vs → i ∉ l → ops[i]? = some o → Path ops (l ++ [i]) (afterB ops x i) (stepV vs o)
theorem Path.len {ops : List OpS} {l : List Nat} {x : List Int} {vs : List HV} (h : Path ops l x vs) : x.length = 10 := by
  induction h with
  | nil => rfl
  | snoc _ _ _ ih => rw [afterB_len]; exact ih
theorem Path.nd {ops : List OpS} {l : List Nat} {x : List Int} {vs : List HV} (h : Path ops l x vs) : l.Nodup := by
  induction h with
  | nil => exact .nil
  | snoc _ hi _ ih =>
    rw [List.nodup_append]
    exact ⟨ih, by simp, fun a ha b hb e => hi (by rw [List.mem_singleton.1 hb] at e; exact e ▸ ha)⟩
theorem Path.rng {ops : List OpS} {l : List Nat} {x : List Int} {vs : List HV} (h : Path ops l x vs) : ∀ j ∈ l, j < ops.length := by
  induction h with
  | nil => intro j hj; cases hj
  | snoc _ _ ho ih =>
    intro j hj
    rcases List.mem_append.1 hj with hj | hj
    · exact ih j hj
    · rw [List.mem_singleton.1 hj]; exact (List.getElem?_eq_some_iff.1 ho).1
theorem x0_at (j : Nat) : x0[j]?.getD 0 = 0 := by
  unfold x0
  rw [List.getElem?_replicate]
  split <;> rfl
theorem Path.wt {ops : List OpS} (hn : ops.length ≤ 10) {l : List Nat} {x : List Int} {vs : List HV} (h : Path ops l x vs) : ∀ j, wtS x j = decide (j ∉ l) := by
  induction h with
  | nil =>
    intro j
    unfold wtS
    rw [x0_at]
    simp
  | snoc hp hi ho ih =>
    intro j
    have h1 := (List.getElem?_eq_some_iff.1 ho).1
    rw [afterB_wt h1 (by rw [hp.len]; omega), ih j, ← Bool.decide_and]
    congr 1
    simp
theorem Path.good {ops : List OpS} {l : List Nat} {x : List Int} {vs : List HV} (h : Path ops l x vs) : GoodV vs := by
  induction h with
  | nil => exact .nil
  | snoc hp hi ho ih =>
    unfold stepV
    split
    · rename_i o _ _
      have : ∀ (es : List EfS) (v : List HV), GoodV v → GoodV (es.foldl applyV v) := fun es => by
        induction es with
        | nil => intro v hv; exact hv
        | cons e es ih => intro v hv; exact ih _ (hv.apply e)
      exact this _ _ ih
    · exact ih
theorem sameR_iff {a b : EfS} : sameR a b = true ↔ a.k = b.k := by
  unfold sameR
  rw [str_beq, str_beq, Bool.and_eq_true, decide_eq_true_eq, decide_eq_true_eq]
  exact ⟨fun ⟨h1, h2⟩ => by rw [EfS.k, h1, h2], fun h => ⟨congrArg Prod.fst h, congrArg Prod.snd h⟩⟩
theorem after_at {ops : List OpS} {x : List Int} {i : Nat} {o : OpS} (hi : i < x.length) (ho : ops[i]? = some o) (j : Nat) : (afterB ops x i)[j]?.getD 0 = if j = i then (if (regF o.ef).isSome = true then 2 else 1) else match regF o.ef with
    | some e => if j < ops.length ∧ x[j]?.getD 0 = 2 ∧ hitB ops e j = true then 1 else x[j]?.getD 0
    | none => x[j]?.getD 0 := by
  unfold afterB
  rw [ho]
  simp only
  cases hr : regF o.ef with
  | none =>
    simp only [Option.isSome_none, Bool.false_eq_true, if_false]
    rw [List.getElem?_set]
    by_cases e : i = j
    · subst e; rw [if_pos rfl, if_pos hi, if_pos rfl]; rfl
    · rw [if_neg e, if_neg (Ne.symm e)]
  | some e =>
    simp only [Option.isSome_some, if_true]
    rw [List.getElem?_set]
    by_cases e1 : i = j
    · subst e1; rw [if_pos rfl, if_pos (by rw [dnS_len, List.length_set]; exact hi), if_pos rfl]; rfl
    · rw [if_neg e1, if_neg (Ne.symm e1)]
      unfold dnS
      rw [List.getElem?_mapIdx, List.getElem?_set, if_neg e1]
      cases hx : x[j]? with
      | none => simp
      | some b => simp
theorem hitB_iff {ops : List OpS} {e : EfS} {j : Nat} {o : OpS} (ho : ops[j]? = some o) : hitB ops e j = true ↔ ∃ f, regF o.ef = some f ∧ e.k = f.k := by
  unfold hitB
  rw [ho]
  simp only
  cases hr : regF o.ef with
  | none => simp
  | some f =>
    simp only
    rw [sameR_iff]
    exact ⟨fun h => ⟨f, rfl, h⟩, fun ⟨g, hg, h⟩ => by cases hg; exact h⟩
theorem Path.two {ops : List OpS} (hn : ops.length ≤ 10) {l : List Nat} {x : List Int} {vs : List HV} (h : Path ops l x vs) : ∀ j : Nat, x[j]?.getD 0 = 2 → ∃ (o : OpS) (e : EfS), ops[j]? = some o ∧ regF o.ef = some e := by
  induction h with
  | nil => intro j h; rw [x0_at] at h; cases h
  | snoc hp hi ho ih =>
    rename_i l x vs i o
    intro j hj
    have h1 := (List.getElem?_eq_some_iff.1 ho).1
    rw [after_at (by rw [hp.len]; omega) ho] at hj
    by_cases e : j = i
    · subst e
      rw [if_pos rfl] at hj
      cases hr : regF o.ef with
      | none => rw [hr] at hj; cases hj
      | some e => exact ⟨o, e, ho, hr⟩
    · rw [if_neg e] at hj
      cases hr : regF o.ef with
      | none => rw [hr] at hj; exact ih j hj
      | some f =>
        rw [hr] at hj
        simp only at hj
        split at hj
        · cases hj
        · exact ih j hj
theorem Path.uniq {ops : List OpS} (hn : ops.length ≤ 10) {l : List Nat} {x : List Int} {vs : List HV} (h : Path ops l x vs) : ∀ (j k : Nat) (o p : OpS) (e f : EfS), x[j]?.getD 0 = 2 → x[k]?.getD 0 = 2 → ops[j]? = some o → ops[k]? = some p → regF o.ef = some e → regF p.ef = some f → e.k = f.k → j = k := by
  induction h with
  | nil => intro j k o p e f h; rw [x0_at] at h; cases h
  | snoc hp hi ho ih =>
    rename_i l x vs i q
    intro j k o p e f hj hk hoj hpk he hf hek
    have h1 := (List.getElem?_eq_some_iff.1 ho).1
    have hx : i < x.length := by rw [hp.len]; omega
    rw [after_at hx ho] at hj hk
    by_cases ej : j = i
    · by_cases ek : k = i
      · rw [ej, ek]
      · exfalso
        subst ej
        rw [hoj] at ho
        cases ho
        rw [if_neg ek, he] at hk
        simp only at hk
        by_cases h2 : x[k]?.getD 0 = 2
        · rw [if_pos ⟨(List.getElem?_eq_some_iff.1 hpk).1, h2, (hitB_iff hpk).2 ⟨f, hf, hek⟩⟩] at hk
          cases hk
        · split at hk
          · cases hk
          · exact h2 hk
    · by_cases ek : k = i
      · exfalso
        subst ek
        rw [hpk] at ho
        cases ho
        rw [if_neg ej, hf] at hj
        simp only at hj
        by_cases h2 : x[j]?.getD 0 = 2
        · rw [if_pos ⟨(List.getElem?_eq_some_iff.1 hoj).1, h2, (hitB_iff hoj).2 ⟨e, he, hek.symm⟩⟩] at hj
          cases hj
        · split at hj
          · cases hj
          · exact h2 hj
      · rw [if_neg ej] at hj
        rw [if_neg ek] at hk
        have g : ∀ z, (match regF q.ef with
            | some e => if z < ops.length ∧ x[z]?.getD 0 = 2 ∧ hitB ops e z = true then 1 else x[z]?.getD 0
            | none => x[z]?.getD 0) = (2 : Int) → x[z]?.getD 0 = 2 := fun z hz => by
          split at hz
          · split at hz
            · cases hz
            · exact hz
          · exact hz
        exact ih j k o p e f (g j hj) (g k hk) hoj hpk he hf hek
/-! ### overwritten writes -/
def tIf (e a : EfS) : EfS := if a.kind = 1 ∧ a.k = e.k then touch a else a
theorem GoodV.fold {v : List HV} (h : GoodV v) : ∀ L : List EfS, GoodV (L.foldl applyV v) := fun L => by
  induction L generalizing v with
  | nil => exact h
  | cons a L ih => exact ih (h.apply a)
theorem over_far {e a : EfS} (he : e.kind = 1) (ha : a.kind = 1) (hk : a.k = e.k) : ∀ (M : List EfS) {v : List HV}, GoodV v → (∀ b ∈ M, ¬ (b.kind = 1 ∧ b.k = e.k)) → applyV (M.foldl applyV (applyV v a)) e = applyV (M.foldl applyV (applyV v (touch a))) e
  | [], v, hv, _ => apply_over hv a e he ha hk
  | b :: M, v, hv, hM => by
    have hb := hM b (by simp)
    simp only [List.foldl_cons]
    rw [apply_comm hv a b fun h => hb ⟨h.2.1, by rw [← h.2.2, hk]⟩, apply_comm hv (touch a) b fun h => by have := h.1; simp [touch] at this]
    exact over_far he ha hk M (hv.apply b) fun c hc => hM c (by simp [hc])
theorem over_all {e : EfS} (he : e.kind = 1) : ∀ (L : List EfS) {v : List HV}, GoodV v → applyV (L.foldl applyV v) e = applyV ((L.map (tIf e)).foldl applyV v) e
  | [], v, hv => rfl
  | a :: L, v, hv => by
    simp only [List.map_cons, List.foldl_cons]
    rw [over_all he L (hv.apply a)]
    by_cases h : a.kind = 1 ∧ a.k = e.k
    · have ht : tIf e a = touch a := if_pos h
      rw [ht]
      refine over_far he h.1 h.2 _ hv fun b hb => ?_
      obtain ⟨c, _, rfl⟩ := List.mem_map.1 hb
      unfold tIf
      split
      · intro hh; simp [touch] at hh
      · rename_i hh; exact hh
    · have ht : tIf e a = a := if_neg h
      rw [ht]
theorem filterMap_map {α β : Type} {f g : α → Option β} {h : β → β} : ∀ {l : List α}, (∀ j ∈ l, f j = (g j).map h) → l.filterMap f = (l.filterMap g).map h
  | [], _ => rfl
  | a :: l, H => by
    rw [List.filterMap_cons, List.filterMap_cons, H a (by simp), filterMap_map fun j hj => H j (by simp [hj])]
    cases g a <;> rfl
theorem filterMap_same {α β : Type} {f g : α → Option β} {l : List α} (H : ∀ j ∈ l, f j = g j) : l.filterMap f = l.filterMap g := by
  have := filterMap_map (f := f) (g := g) (h := id) (l := l) fun j hj => by rw [H j hj]; cases g j <;> rfl
  rw [this, List.map_id]
theorem Path.val {ops : List OpS} (hn : ops.length ≤ 10) (hE : OneEf ops) {l : List Nat} {x : List Int} {vs : List HV} (h : Path ops l x vs) : vs = (l.filterMap (effx ops x)).foldl applyV [] := by
  induction h with
  | nil => rfl
  | snoc hp hi ho ih =>
    rename_i l x vs i o
    have h1 := (List.getElem?_eq_some_iff.1 ho).1
    have hx : i < x.length := by rw [hp.len]; omega
    rw [List.filterMap_append, List.foldl_append]
    rcases hE o (List.mem_of_getElem? ho) with ⟨hk, e, he⟩ | ⟨hk, he⟩
    · have hst : stepV vs o = applyV vs e := by unfold stepV; rw [if_pos hk, he]; rfl
      rw [hst]
      by_cases he1 : e.kind = 1
      · have hr : regF o.ef = some e := by rw [he]; simp [regF, he1]
        have hii : effx ops (afterB ops x i) i = some e := by
          unfold effx
          rw [ho]
          simp only [he]
          rw [after_at hx ho, if_pos rfl, hr]
          simp
        have hold : l.filterMap (effx ops (afterB ops x i)) = (l.filterMap (effx ops x)).map (tIf e) := filterMap_map fun j hj => by
          have hji : j ≠ i := fun e => hi (e ▸ hj)
          obtain ⟨p, hpj⟩ : ∃ p, ops[j]? = some p := ⟨_, List.getElem?_eq_getElem (hp.rng j hj)⟩
          unfold effx
          rw [hpj]
          simp only
          rw [after_at hx ho, if_neg hji, hr]
          simp only
          cases hpe : p.ef with
          | nil => rfl
          | cons a t =>
            cases t with
            | cons _ _ => rfl
            | nil =>
              simp only [Option.map_some]
              by_cases ha : a.kind = 1
              · have hrp : regF p.ef = some a := by rw [hpe]; simp [regF, ha]
                have hh := hitB_iff (e := e) hpj
                rw [hrp] at hh
                by_cases h2 : x[j]?.getD 0 = 2
                · by_cases hak : a.k = e.k
                  · have hhit : hitB ops e j = true := hh.2 ⟨a, rfl, hak.symm⟩
                    have e0 : (if j < ops.length ∧ x[j]?.getD 0 = 2 ∧ hitB ops e j = true then (1 : Int) else x[j]?.getD 0) = 1 := if_pos ⟨hp.rng j hj, h2, hhit⟩
                    simp only [e0]
                    simp [ha, h2, tIf, hak]
                  · have hhit : ¬ hitB ops e j = true := fun h => by
                      obtain ⟨f, hf, hk⟩ := hh.1 h
                      cases hf
                      exact hak hk.symm
                    have e0 : (if j < ops.length ∧ x[j]?.getD 0 = 2 ∧ hitB ops e j = true then (1 : Int) else x[j]?.getD 0) = x[j]?.getD 0 := if_neg fun h => hhit h.2.2
                    simp only [e0]
                    simp [ha, h2, tIf, hak]
                · have e0 : (if j < ops.length ∧ x[j]?.getD 0 = 2 ∧ hitB ops e j = true then (1 : Int) else x[j]?.getD 0) = x[j]?.getD 0 := if_neg fun h => h2 h.2.1
                  simp only [e0]
                  simp [ha, h2, tIf, touch]
              · have e1 : ∀ z : Int, (if a.kind = 1 ∧ z ≠ 2 then touch a else a) = a := fun z => if_neg fun h => ha h.1
                rw [e1, e1, tIf, if_neg fun h => ha h.1]
        rw [hold, List.filterMap_cons, hii]
        simp only [List.filterMap_nil, List.foldl_cons, List.foldl_nil]
        rw [ih]
        exact over_all he1 _ .nil
      · have hr : regF o.ef = none := by rw [he]; simp [regF, he1]
        have hii : effx ops (afterB ops x i) i = some e := by
          unfold effx
          rw [ho]
          simp only [he]
          rw [if_neg fun h => he1 h.1]
        have hold : l.filterMap (effx ops (afterB ops x i)) = l.filterMap (effx ops x) := filterMap_same fun j hj => by
          have hji : j ≠ i := fun e => hi (e ▸ hj)
          unfold effx
          rw [after_at hx ho, if_neg hji, hr]
        rw [hold, List.filterMap_cons, hii]
        simp only [List.filterMap_nil, List.foldl_cons, List.foldl_nil]
        rw [← ih]
    · have hst : stepV vs o = vs := by unfold stepV; rw [if_neg hk]
      have hr : regF o.ef = none := by rw [he]; rfl
      have hii : effx ops (afterB ops x i) i = none := by
        unfold effx
        rw [ho]
        simp only [he]
      have hold : l.filterMap (effx ops (afterB ops x i)) = l.filterMap (effx ops x) := filterMap_same fun j hj => by
        have hji : j ≠ i := fun e => hi (e ▸ hj)
        unfold effx
        rw [after_at hx ho, if_neg hji, hr]
      rw [hst, hold, List.filterMap_cons, hii]
      simp only [List.filterMap_nil, List.foldl_nil]
      exact ih
open Classical in
noncomputable def appG (v : List HV) (e : EfS) : List HV := if GoodV v then applyV v e else v
theorem appG_fold : ∀ (L : List EfS) {v : List HV}, GoodV v → L.foldl appG v = L.foldl applyV v
  | [], _, _ => rfl
  | e :: L, v, h => by
    simp only [List.foldl_cons]
    rw [show appG v e = applyV v e from if_pos h]
    exact appG_fold L (h.apply e)
theorem Path.det {ops : List OpS} (hn : ops.length ≤ 10) (hE : OneEf ops) {l l' : List Nat} {x : List Int} {vs vs' : List HV} (h : Path ops l x vs) (h' : Path ops l' x vs') : l.Perm l' ∧ vs = vs' := by
  have hp : l.Perm l' := (List.perm_ext_iff_of_nodup h.nd h'.nd).2 fun j => by
    have := (h.wt hn j).symm.trans (h'.wt hn j)
    rw [decide_eq_decide] at this
    exact Decidable.not_iff_not.1 this
  refine ⟨hp, ?_⟩
  rw [h.val hn hE, h'.val hn hE, ← appG_fold _ .nil, ← appG_fold _ .nil]
  refine List.Perm.foldl_eq' (hp.filterMap _) (fun a ha b hb z => ?_) []
  by_cases hz : GoodV z
  · have e1 : ∀ c, appG z c = applyV z c := fun c => if_pos hz
    have e2 : ∀ c d, appG (applyV z c) d = applyV (applyV z c) d := fun c d => if_pos (hz.apply c)
    rw [e1, e2, e1, e2]
    by_cases hab : a.kind = 1 ∧ b.kind = 1 ∧ a.k = b.k
    · obtain ⟨i, hi, hai⟩ := List.mem_filterMap.1 ha
      obtain ⟨j, hj, hbj⟩ := List.mem_filterMap.1 hb
      have two : ∀ {i : Nat} {a : EfS}, effx ops x i = some a → a.kind = 1 → ∃ o, ops[i]? = some o ∧ regF o.ef = some a ∧ x[i]?.getD 0 = 2 := fun {i a} hai hak => by
        unfold effx at hai
        cases ho : ops[i]? with
        | none => rw [ho] at hai; cases hai
        | some o =>
          rw [ho] at hai
          simp only at hai
          cases hoe : o.ef with
          | nil => rw [hoe] at hai; cases hai
          | cons c t =>
            cases t with
            | cons _ _ => rw [hoe] at hai; cases hai
            | nil =>
              rw [hoe] at hai
              have hai := Option.some.inj hai
              split at hai
              · subst hai
                simp [touch] at hak
              · rename_i hc
                subst hai
                refine ⟨o, rfl, by rw [hoe]; simp [regF, hak], ?_⟩
                by_cases h2 : x[i]?.getD 0 = 2
                · exact h2
                · exact absurd ⟨hak, h2⟩ hc
      obtain ⟨o, ho, hro, h2i⟩ := two hai hab.1
      obtain ⟨p, hpo, hrp, h2j⟩ := two hbj hab.2.1
      have hij := h.uniq hn i j o p a b h2i h2j ho hpo hro hrp hab.2.2
      subst hij
      rw [hai] at hbj
      cases hbj
      rfl
    · exact apply_comm hz a b hab
  · have e1 : ∀ c, appG z c = z := fun c => if_neg hz
    simp only [e1]
end Go.Proofs.YtphlhadgcfndhaaGreat.Abs
end
section
namespace Go.Proofs.YtphlhadgcfndhaaGreat.Abs
open Go Go.RowKit
set_option linter.unusedVariables false
set_option linter.unusedSimpArgs false
def costAt (ops : List OpS) (i : Nat) : Bool := match ops[i]? with
  | some o => decide (o.ret = 0)
  | none => false
def costL (ops : List OpS) (l : List Nat) : Nat := l.countP (costAt ops)
theorem costL_snoc {ops : List OpS} {i : Nat} {o : OpS} (ho : ops[i]? = some o) (l : List Nat) : costL ops (l ++ [i]) = costL ops l + costB o := by
  unfold costL costB
  rw [List.countP_append, List.countP_singleton]
  unfold costAt
  rw [ho]
  simp
def dfsL (f : List Int → List HV → Nat → Option (List Nat)) (ops : List OpS) (x : List Int) (vs : List HV) (sp : Nat) : List Nat → Option (List Nat)
  | [] => none
  | i :: is => match ops[i]? with
    | none => dfsL f ops x vs sp is
    | some o => if (mayB ops x sp i && okV vs o) = true then
        (match f (afterB ops x i) (stepV vs o) (sp - costB o) with
        | some s => some (i :: s)
        | none => dfsL f ops x vs sp is)
      else dfsL f ops x vs sp is
def dfs (ops : List OpS) : Nat → List Int → List HV → Nat → Option (List Nat)
  | 0, _, _, _ => none
  | n + 1, x, vs, sp => if complB ops x = true then some [] else dfsL (dfs ops n) ops x vs sp (List.range ops.length)
def coeL (l : List Nat) : List Int := l.map fun n : Nat => (n : Int)
theorem coeL_app (l m : List Nat) : coeL (l ++ m) = coeL l ++ coeL m := List.map_append
/-- What the memo holds cannot be completed. -/
def KI (ops : List OpS) (sp0 : Nat) (ks : List (List Int)) : Prop := ∀ y ∈ ks, ∀ l vs, Path ops l y vs → ∀ n sp, n + l.length = 11 → sp + costL ops l = sp0 → dfs ops n y vs sp = none
def Agree (ops : List OpS) (sp0 : Nat) (l : List Nat) (d : Option (List Nat)) (r : RS) : Prop := match d with
  | some s => r.ok = true ∧ r.l = coeL (l ++ s)
  | none => r.ok = false ∧ KI ops sp0 r.ks
theorem wait_not {ops : List OpS} (hn : ops.length ≤ 10) {l : List Nat} {x : List Int} {vs : List HV} (h : Path ops l x vs) {sp i : Nat} (hm : mayB ops x sp i = true) : i ∉ l := by
  have h1 := mayB_wt hm
  rw [h.wt hn, decide_eq_true_eq] at h1
  exact h1
theorem run_dfs {ops : List OpS} (hn : ops.length ≤ 10) (hE : OneEf ops) (sp0 : Nat) : ∀ (n : Nat) (l : List Nat) (x : List Int) (vs : List HV) (sp : Nat) (ks : List (List Int)), Path ops l x vs → sp + costL ops l = sp0 → n + l.length = 11 → KI ops sp0 ks → Agree ops sp0 l (dfs ops n x vs sp) (runF ops n x vs sp (coeL l) ks)
  | 0, l, x, vs, sp, ks, _, _, _, hK => ⟨rfl, hK⟩
  | n + 1, l, x, vs, sp, ks, hp, hs, hl, hK => by
    unfold dfs runF
    by_cases hc : complB ops x = true
    · rw [if_pos hc, if_pos hc]
      exact ⟨rfl, by rw [List.append_nil]⟩
    rw [if_neg hc, if_neg hc]
    have hunf : dfs ops (n + 1) x vs sp = dfsL (dfs ops n) ops x vs sp (List.range ops.length) := by rw [dfs, if_neg hc]
    by_cases hx : x ∈ ks
    · rw [if_pos hx]
      have := hK x hx l vs hp (n + 1) sp hl hs
      rw [hunf] at this
      rw [this]
      exact ⟨rfl, hK⟩
    rw [if_neg hx]
    have key : ∀ (is : List Nat) (ks : List (List Int)), (dfsL (dfs ops n) ops x vs sp is = none → dfs ops (n + 1) x vs sp = none) → KI ops sp0 ks → Agree ops sp0 l (dfsL (dfs ops n) ops x vs sp is) (loopF (runF ops n) ops x vs is sp (coeL l) ks) := by
      intro is
      induction is with
      | nil =>
        intro ks hH hK
        refine ⟨rfl, fun y hy l' vs' hp' n' sp' hl' hs' => ?_⟩
        have hy : y ∈ addK ks x := hy
        unfold addK at hy
        split at hy
        · exact hK y hy l' vs' hp' n' sp' hl' hs'
        · rcases List.mem_append.1 hy with hy | hy
          · exact hK y hy l' vs' hp' n' sp' hl' hs'
          · have hyx := List.mem_singleton.1 hy
            subst hyx
            obtain ⟨hpm, hvv⟩ := hp'.det hn hE hp
            have e1 := hpm.length_eq
            have e2 : costL ops l' = costL ops l := hpm.countP_eq _
            have e3 : n' = n + 1 := by omega
            have e4 : sp' = sp := by omega
            rw [e3, e4, hvv]
            exact hH rfl
      | cons i is ih =>
        intro ks hH hK
        unfold dfsL loopF
        unfold dfsL at hH
        cases ho : ops[i]? with
        | none =>
          rw [ho] at hH
          exact ih ks hH hK
        | some o =>
          rw [ho] at hH
          simp only at hH ⊢
          by_cases hm : (mayB ops x sp i && okV vs o) = true
          · rw [if_pos hm] at hH
            rw [if_pos hm, if_pos hm]
            have hm1 : mayB ops x sp i = true := by rw [Bool.and_eq_true] at hm; exact hm.1
            have hi := wait_not hn hp hm1
            have hcs := mayB_sp hm1 ho
            have hrec := run_dfs hn hE sp0 n (l ++ [i]) (afterB ops x i) (stepV vs o) (sp - costB o) ks (hp.snoc hi ho) (by rw [costL_snoc ho]; omega) (by rw [List.length_append, List.length_singleton]; omega) hK
            have hco : coeL (l ++ [i]) = coeL l ++ [(i : Int)] := coeL_app l [i]
            rw [hco] at hrec
            cases hd : dfs ops n (afterB ops x i) (stepV vs o) (sp - costB o) with
            | some s =>
              rw [hd] at hrec
              obtain ⟨h1, h2⟩ := hrec
              rw [if_pos h1]
              refine ⟨h1, ?_⟩
              rw [h2, List.append_assoc]
              rfl
            | none =>
              rw [hd] at hrec hH
              obtain ⟨h1, h2⟩ := hrec
              rw [if_neg (by rw [h1]; simp)]
              exact ih _ hH h2
          · rw [if_neg hm] at hH
            rw [if_neg hm, if_neg hm]
            exact ih ks hH hK
    exact key _ ks (fun h => by rw [hunf]; exact h) hK
/-- The whole search. -/
def dfsS (ops : List OpS) : List Nat → Option (List Nat)
  | [] => none
  | sp :: r => match dfs ops 11 x0 [] sp with
    | some s => some s
    | none => dfsS ops r
theorem searchL_dfs {ops : List OpS} (hn : ops.length ≤ 10) (hE : OneEf ops) : ∀ r : List Nat, searchL ops r = (dfsS ops r).map coeL
  | [] => rfl
  | sp :: r => by
    have h := run_dfs hn hE sp 11 [] x0 [] sp [] .nil (by simp [costL]) rfl fun y hy => by cases hy
    unfold searchL dfsS
    cases hd : dfs ops 11 x0 [] sp with
    | some s =>
      rw [hd] at h
      obtain ⟨h1, h2⟩ := h
      have h1 : (runF ops 11 x0 [] sp [] []).ok = true := h1
      have h2 : (runF ops 11 x0 [] sp [] []).l = coeL s := h2
      rw [if_pos h1, h2]
      rfl
    | none =>
      rw [hd] at h
      have h1 : (runF ops 11 x0 [] sp [] []).ok = false := h.1
      rw [if_neg (by rw [h1]; simp)]
      exact searchL_dfs hn hE r
theorem searchS_dfs {ops : List OpS} (hn : ops.length ≤ 10) (hE : OneEf ops) : searchS ops = match dfsS ops (List.range (ops.length + 1)) with
    | some s => (coeL s, 0)
    | none => ([], 6) := by
  unfold searchS
  rw [if_neg (by omega), searchL_dfs hn hE]
  cases dfsS ops (List.range (ops.length + 1)) <;> rfl
theorem dfsS_some {ops : List OpS} : ∀ {r : List Nat} {s : List Nat}, dfsS ops r = some s → ∃ sp ∈ r, dfs ops 11 x0 [] sp = some s
  | [], s, h => by cases h
  | sp :: r, s, h => by
    unfold dfsS at h
    cases hd : dfs ops 11 x0 [] sp with
    | some t =>
      rw [hd] at h
      cases h
      exact ⟨sp, by simp, hd⟩
    | none =>
      rw [hd] at h
      obtain ⟨q, hq, he⟩ := dfsS_some h
      exact ⟨q, by simp [hq], he⟩
/-- The first that can be done. -/
theorem dfsS_first {ops : List OpS} {N sp : Nat} (hsp : sp < N) (h : (dfs ops 11 x0 [] sp).isSome = true) : ∃ q s, q ≤ sp ∧ dfs ops 11 x0 [] q = some s ∧ dfsS ops (List.range N) = some s ∧ ∀ p, p < q → dfs ops 11 x0 [] p = none := by
  have key : ∀ (k m : Nat), m + k = N → (∀ p, p < m → dfs ops 11 x0 [] p = none) → m ≤ sp → ∃ q s, q ≤ sp ∧ dfs ops 11 x0 [] q = some s ∧ dfsS ops ((List.range N).drop m) = some s ∧ ∀ p, p < q → dfs ops 11 x0 [] p = none := by
    intro k
    induction k with
    | zero => intro m hm hp hs; omega
    | succ k ih =>
      intro m hm hp hs
      have hdr : (List.range N).drop m = m :: (List.range N).drop (m + 1) := by rw [List.drop_eq_getElem_cons (by simp; omega), List.getElem_range]
      rw [hdr, dfsS]
      cases hd : dfs ops 11 x0 [] m with
      | some s => exact ⟨m, s, hs, hd, rfl, hp⟩
      | none =>
        simp only
        refine ih (m + 1) (by omega) (fun p hp' => ?_) ?_
        · by_cases e : p = m
          · rw [e]; exact hd
          · exact hp p (by omega)
        · have : m ≠ sp := fun e => by rw [← e, hd] at h; cases h
          omega
  exact key N 0 (by omega) (fun p hp => by omega) (Nat.zero_le _)
end Go.Proofs.YtphlhadgcfndhaaGreat.Abs
end
section
namespace Go.Proofs.YtphlhadgcfndhaaGreat.Abs
open Go Go.RowKit
set_option linter.unusedVariables false
set_option linter.unusedSimpArgs false
set_option maxHeartbeats 4000000
set_option maxRecDepth 8000
theorem take_eq_s {α : Type} {a b : List α} {i : Nat} {x y : α} (h : a.take i = b.take i) (hx : a[i]? = some x) (hy : b[i]? = some y) : a.take (i + 1) = b.take (i + 1) ↔ x = y := by
  rw [List.take_add_one, List.take_add_one, h, hx, hy]
  simp
theorem eqSt_pure (a b : List Str) (hl : a.length < 1000000000) : Pure Tryz.prog 80 [.c (encSs a), .c (encSs b)] (.c (cB (decide (a = b)))) := by
  refine pure_of teOk Tryz.func80 (by kernel_rfl) (c := _) rfl (N := 26) rfl (rs := [Go.ResultVar.tmp 4]) rfl (by simp) fun base A w0 hA => ?_
  refine AW.st teOk [] (by simp [-Option.some.injEq] <;> rfl) trivial ?_
  refine AW.seq ?_
  refine AW.st teOk [] (by simp [-Option.some.injEq] <;> rfl) trivial ?_
  refine AW.iff ((a.length : Int) != (b.length : Int)) (by simp) (fun h => ?_) (fun h => AW.skip ?_)
  · refine AW.st teOk [] (by simp [-Option.some.injEq] <;> rfl) trivial ?_
    refine AW.ret ⟨.inr rfl, _, Weak.refl _, ?_⟩
    have h : a.length ≠ b.length := by
      simp at h
      omega
    have : a ≠ b := fun e => h (by rw [e])
    simp [this]
  have hab : a.length = b.length := by
    simp at h
    omega
  refine AW.seq ?_
  refine AW.st teOk [] (by simp [-Option.some.injEq] <;> rfl) trivial ?_
  refine AW.block (AW.loop (fun m s => ∃ i : Nat, m = a.length - i ∧ i ≤ a.length ∧ a.take i = b.take i ∧ s = ⟨[(0, .c (encSs a)), (1, .c (encSs b)), (4, .c (cB false)), (5, .c (cI i))], [], 0⟩) _ (Weak.normT hA [0, 1, 4, 5] [] [] 0 _ (by simp) (by simp) (by simp)) ⟨0, rfl, Nat.zero_le _, by simp, by simp⟩ ?_)
  rintro m s ⟨i, rfl, hi, ht, rfl⟩
  refine AW.seq ?_
  refine AW.st teOk [] (by simp [-Option.some.injEq] <;> rfl) trivial ?_
  refine AW.iff (decide (i < a.length)) (by simp) (fun h => AW.skip ?_) (fun h => AW.exit (x_then (x_then (blockA_exit ?_))))
  · rw [decide_eq_true_eq] at h
    obtain ⟨x, hx⟩ : ∃ e, a[i]? = some e := ⟨_, List.getElem?_eq_getElem h⟩
    obtain ⟨y, hy⟩ : ∃ e, b[i]? = some e := ⟨_, List.getElem?_eq_getElem (by omega)⟩
    refine AW.seq (AW.block ?_)
    refine AW.dr mixed teOk [] (by simp [hx, hy, -Option.some.injEq] <;> rfl) (by kernel_rfl) (by kernel_rfl) ?_ ?_
    · simp [allP]
      omega
    refine AW.iff (x.toList != y.toList) (by simp [bne]) (fun hc => ?_) (fun hc => AW.skip ?_)
    · refine AW.st teOk [] (by simp [-Option.some.injEq] <;> rfl) trivial ?_
      refine AW.ret ⟨.inr rfl, _, Weak.refl _, ?_⟩
      have : a ≠ b := fun e => by
        subst e
        rw [hx] at hy
        cases hy
        simp at hc
      simp [this]
    · refine AW.text teOk (ans := []) (by simp [-Option.some.injEq] <;> rfl) ?_ ?_
      · trivial
      have hxy : x = y := str_ext (by simpa using hc)
      refine ⟨_, _, Weak.normT hA [0, 1, 4, 5] [] [] 0 _ (by simp) (by simp) (by simp), ?_, i + 1, rfl, h, (take_eq_s ht hx hy).2 hxy, ?_⟩
      · omega
      · simp
        exact wrap_s i (by omega)
  · rw [decide_eq_false_iff_not] at h
    have : a = b := by
      have e1 : a.take i = a := List.take_of_length_le (by omega)
      have e2 : b.take i = b := List.take_of_length_le (by omega)
      rw [e1, e2] at ht
      exact ht
    subst this
    refine AW.st teOk [] (by simp [-Option.some.injEq] <;> rfl) trivial ?_
    refine AW.ret ⟨.inr rfl, _, Weak.refl _, ?_⟩
    simp
theorem sameL_ne {a b : List HV} (h : a ≠ b) : sameL a b = false := by
  cases hq : sameL a b with
  | false => rfl
  | true => exact absurd (sameL_iff.1 hq) h
theorem ne_at {α : Type} {a b : List α} {i : Nat} {x y : α} (hx : a[i]? = some x) (hy : b[i]? = some y) (h : x ≠ y) : a ≠ b := fun e => by
  subst e
  rw [hx] at hy
  cases hy
  exact h rfl
theorem hv_ext {x y : HV} (h0 : (x.o.toList == y.o.toList) = true) (h1 : (x.f.toList == y.f.toList) = true) (h2 : (x.set != y.set) = false) (h3 : (x.n != y.n) = false) (h4 : (x.s.toList == y.s.toList) = true) (h5 : (x.hm != y.hm) = false) (h6 : (x.mx != y.mx) = false) (h7 : (x.sum != y.sum) = false) (h8 : (x.fl != y.fl) = false) (h9 : x.el = y.el) : x = y := by
  obtain ⟨a1, a2, a3, a4, a5, a6, a7, a8, a9, a10⟩ := x
  obtain ⟨b1, b2, b3, b4, b5, b6, b7, b8, b9, b10⟩ := y
  simp only [bne_eq_false_iff_eq, beq_iff_eq] at *
  simp only [HV.mk.injEq]
  exact ⟨str_ext h0, str_ext h1, h2, h3, str_ext h4, h5, h6, h7, h9, h8⟩
theorem sameVr_pure (a b : List HV) (hl : a.length < 1000000000) (hb : ElB a) : Pure Tryz.prog 42 [.c (encHs a), .c (encHs b)] (.c (cB (sameL a b))) := by
  refine pure_of teOk Tryz.func42 (by kernel_rfl) (c := _) rfl (N := 96) rfl (rs := [Go.ResultVar.tmp 4]) rfl (by simp) fun base A w0 hA => ?_
  refine AW.st teOk [] (by simp [-Option.some.injEq] <;> rfl) trivial ?_
  refine AW.seq ?_
  refine AW.st teOk [] (by simp [-Option.some.injEq] <;> rfl) trivial ?_
  refine AW.iff ((a.length : Int) != (b.length : Int)) (by simp) (fun h => ?_) (fun h => AW.skip ?_)
  · refine AW.st teOk [] (by simp [-Option.some.injEq] <;> rfl) trivial ?_
    refine AW.ret ⟨.inr rfl, _, Weak.refl _, ?_⟩
    have h : a.length ≠ b.length := by
      simp at h
      omega
    simp [sameL_len h]
  have hab : a.length = b.length := by
    simp at h
    omega
  refine AW.seq ?_
  refine AW.st teOk [] (by simp [-Option.some.injEq] <;> rfl) trivial ?_
  refine AW.block (AW.loop (fun m s => ∃ i : Nat, m = a.length - i ∧ i ≤ a.length ∧ a.take i = b.take i ∧ s = ⟨[(0, .c (encHs a)), (1, .c (encHs b)), (4, .c (cB false)), (5, .c (cI i))], [], 0⟩) _ (Weak.normT hA [0, 1, 4, 5] [] [] 0 _ (by simp) (by simp) (by simp)) ⟨0, rfl, Nat.zero_le _, by simp, by simp⟩ ?_)
  rintro m s ⟨i, rfl, hi, ht, rfl⟩
  refine AW.seq ?_
  refine AW.st teOk [] (by simp [-Option.some.injEq] <;> rfl) trivial ?_
  refine AW.iff (decide (i < a.length)) (by simp) (fun h => AW.skip ?_) (fun h => AW.exit (x_then (x_then (blockA_exit ?_))))
  · rw [decide_eq_true_eq] at h
    obtain ⟨x, hx⟩ : ∃ e, a[i]? = some e := ⟨_, List.getElem?_eq_getElem h⟩
    obtain ⟨y, hy⟩ : ∃ e, b[i]? = some e := ⟨_, List.getElem?_eq_getElem (by omega)⟩
    have hel := hb x (List.mem_of_getElem? hx)
    refine AW.seq (AW.block ?_)
    refine AW.dr mixed teOk [] (by simp [hx, hy, -Option.some.injEq] <;> rfl) (by kernel_rfl) (by kernel_rfl) ?_ ?_
    · simp [allP]
      omega
    refine AW.to (s2 := ⟨[(0, .c (encHs a)), (1, .c (encHs b)), (4, .c (cB false)), (5, .c (cI i)), (6, .c (.fad (encH x))), (7, .c (.fad (encH y)))], [], 0⟩) ((Weak.normS hA [0, 1, 4, 5, 6, 7] [(6, 0), (7, 1)] [] [] 2 _ (by simp) (by simp) (by simp)).trans ((Weak.freeze 0 ⟨10, [encH x]⟩ [] _ (by simp) rfl).trans ((Weak.freeze 1 ⟨10, [encH y]⟩ [] _ (by simp [mapAt_nil]) rfl).trans (Weak.normT hA [0, 1, 4, 5, 6, 7] [] [] 0 _ (by simp [mapAt_nil]) (by simp [mapAt_nil]) (by simp [mapAt_nil]))))) (by simp [mapAt_nil]) ?_
    cases h0 : (x.o.toList == y.o.toList) with
    | false =>
      refine AW.st teOk [] (by simp [h0, -Option.some.injEq] <;> rfl) ?_ ?_
      · trivial
      refine AW.iff true (by simp) (fun _ => ?_) (fun h => by cases h)
      refine AW.st teOk [] (by simp [-Option.some.injEq] <;> rfl) trivial ?_
      refine AW.ret ⟨.inr rfl, _, Weak.refl _, ?_⟩
      simp [sameL_ne (ne_at hx hy fun e => by subst e; simp at h0)]
    | true =>
    cases h1 : (x.f.toList == y.f.toList) with
    | false =>
      refine AW.st teOk [] (by simp [h0, h1, -Option.some.injEq] <;> rfl) ?_ ?_
      · trivial
      refine AW.iff true (by simp) (fun _ => ?_) (fun h => by cases h)
      refine AW.st teOk [] (by simp [-Option.some.injEq] <;> rfl) trivial ?_
      refine AW.ret ⟨.inr rfl, _, Weak.refl _, ?_⟩
      simp [sameL_ne (ne_at hx hy fun e => by subst e; simp at h1)]
    | true =>
    cases h2 : (x.set != y.set) with
    | true =>
      refine AW.st teOk [] (by simp [h0, h1, h2, -Option.some.injEq] <;> rfl) ?_ ?_
      · trivial
      refine AW.iff true (by simp) (fun _ => ?_) (fun h => by cases h)
      refine AW.st teOk [] (by simp [-Option.some.injEq] <;> rfl) trivial ?_
      refine AW.ret ⟨.inr rfl, _, Weak.refl _, ?_⟩
      simp [sameL_ne (ne_at hx hy fun e => by subst e; simp at h2)]
    | false =>
    cases h3 : (x.n != y.n) with
    | true =>
      refine AW.st teOk [] (by simp [h0, h1, h2, h3, -Option.some.injEq] <;> rfl) ?_ ?_
      · trivial
      refine AW.iff true (by simp) (fun _ => ?_) (fun h => by cases h)
      refine AW.st teOk [] (by simp [-Option.some.injEq] <;> rfl) trivial ?_
      refine AW.ret ⟨.inr rfl, _, Weak.refl _, ?_⟩
      simp [sameL_ne (ne_at hx hy fun e => by subst e; simp at h3)]
    | false =>
    cases h4 : (x.s.toList == y.s.toList) with
    | false =>
      refine AW.st teOk [] (by simp [h0, h1, h2, h3, h4, -Option.some.injEq] <;> rfl) ?_ ?_
      · trivial
      refine AW.iff true (by simp) (fun _ => ?_) (fun h => by cases h)
      refine AW.st teOk [] (by simp [-Option.some.injEq] <;> rfl) trivial ?_
      refine AW.ret ⟨.inr rfl, _, Weak.refl _, ?_⟩
      simp [sameL_ne (ne_at hx hy fun e => by subst e; simp at h4)]
    | true =>
    cases h5 : (x.hm != y.hm) with
    | true =>
      refine AW.st teOk [] (by simp [h0, h1, h2, h3, h4, h5, -Option.some.injEq] <;> rfl) ?_ ?_
      · trivial
      refine AW.iff true (by simp) (fun _ => ?_) (fun h => by cases h)
      refine AW.st teOk [] (by simp [-Option.some.injEq] <;> rfl) trivial ?_
      refine AW.ret ⟨.inr rfl, _, Weak.refl _, ?_⟩
      simp [sameL_ne (ne_at hx hy fun e => by subst e; simp at h5)]
    | false =>
    cases h6 : (x.mx != y.mx) with
    | true =>
      refine AW.st teOk [] (by simp [h0, h1, h2, h3, h4, h5, h6, -Option.some.injEq] <;> rfl) ?_ ?_
      · trivial
      refine AW.iff true (by simp) (fun _ => ?_) (fun h => by cases h)
      refine AW.st teOk [] (by simp [-Option.some.injEq] <;> rfl) trivial ?_
      refine AW.ret ⟨.inr rfl, _, Weak.refl _, ?_⟩
      simp [sameL_ne (ne_at hx hy fun e => by subst e; simp at h6)]
    | false =>
    cases h7 : (x.sum != y.sum) with
    | true =>
      refine AW.st teOk [] (by simp [h0, h1, h2, h3, h4, h5, h6, h7, -Option.some.injEq] <;> rfl) ?_ ?_
      · trivial
      refine AW.iff true (by simp) (fun _ => ?_) (fun h => by cases h)
      refine AW.st teOk [] (by simp [-Option.some.injEq] <;> rfl) trivial ?_
      refine AW.ret ⟨.inr rfl, _, Weak.refl _, ?_⟩
      simp [sameL_ne (ne_at hx hy fun e => by subst e; simp at h7)]
    | false =>
    cases h8 : (x.fl != y.fl) with
    | true =>
      refine AW.st teOk [] (by simp [h0, h1, h2, h3, h4, h5, h6, h7, h8, -Option.some.injEq] <;> rfl) ?_ ?_
      · trivial
      refine AW.iff true (by simp) (fun _ => ?_) (fun h => by cases h)
      refine AW.st teOk [] (by simp [-Option.some.injEq] <;> rfl) trivial ?_
      refine AW.ret ⟨.inr rfl, _, Weak.refl _, ?_⟩
      simp [sameL_ne (ne_at hx hy fun e => by subst e; simp at h8)]
    | false =>
    refine AW.st teOk [.fz (.c (cB (decide (x.el = y.el))))] (by simp [h0, h1, h2, h3, h4, h5, h6, h7, h8, -Option.some.injEq] <;> rfl) ?_ ?_
    · exact eqSt_pure x.el y.el hel
    refine AW.iff (!decide (x.el = y.el)) (by simp) (fun he => ?_) (fun he => AW.skip ?_)
    · refine AW.st teOk [] (by simp [-Option.some.injEq] <;> rfl) trivial ?_
      refine AW.ret ⟨.inr rfl, _, Weak.refl _, ?_⟩
      simp [sameL_ne (ne_at hx hy fun e => by subst e; simp at he)]
    · have hxy : x = y := hv_ext h0 h1 h2 h3 h4 h5 h6 h7 h8 (by simpa using he)
      refine AW.text teOk (ans := []) (by simp [-Option.some.injEq] <;> rfl) ?_ ?_
      · trivial
      refine ⟨_, _, Weak.normT hA [0, 1, 4, 5] [] [] 0 _ (by simp) (by simp) (by simp), ?_, i + 1, rfl, h, (take_eq_s ht hx hy).2 hxy, ?_⟩
      · omega
      · simp
        exact wrap_s i (by omega)
  · rw [decide_eq_false_iff_not] at h
    have : a = b := by
      have e1 : a.take i = a := List.take_of_length_le (by omega)
      have e2 : b.take i = b := List.take_of_length_le (by omega)
      rw [e1, e2] at ht
      exact ht
    subst this
    refine AW.st teOk [] (by simp [-Option.some.injEq] <;> rfl) trivial ?_
    refine AW.ret ⟨.inr rfl, _, Weak.refl _, ?_⟩
    simp [sameL_iff.2 rfl]
end Go.Proofs.YtphlhadgcfndhaaGreat.Abs
end
