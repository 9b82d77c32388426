/- A call's contract; the operations of a region, one after the other. -/
import Derived.Test.YtphlhadgcfndhaaGreatAbs11
namespace Go.Proofs.YtphlhadgcfndhaaGreat.Abs
open Go Go.RowKit
set_option linter.unusedVariables false
set_option linter.unusedSimpArgs false

def noB : Nat → Bnd := fun _ => .no
def RepAs (w : World) (ok : Nat → Prop) (β : Nat → Bnd) (as : List AVal) (vs : Array Value) : Prop :=
  as.length = vs.size ∧ ∀ (i : Nat) (a : AVal) (v : Value), as[i]? = some a → vs[i]? = some v → RepV w ok β a v
def FOk (P : Program) (f : FuncId) : Prop := ∃ fn, P.funcs[f]? = some fn ∧ (fn.name == "runtime.NumGoroutine") = false ∧ fn.body.isSome = true
/-- A call with these arguments, which are only read, comes back with this result and turns nothing that was there. -/
def Pure (P : Program) (f : FuncId) (as : List AVal) (res : AVal) : Prop := FOk P f ∧
  ∀ (w : World) (A : Nat → Prop) (vs : Array Value), (∀ b, A b → b < w.heap.size) → RepAs w A noB as vs →
    Calls P f vs w fun e w' => ∃ v, e = .returned v ∧ RepV w' (fun b => (b < w.heap.size → A b) ∧ b < w'.heap.size) noB res v ∧ Below w.heap.size w w'

structure St where
  τ : Tau
  σ : Sig
  fr : Nat
/-- What there was when the call began: what may be read, what its objects were bound to. -/
structure Old where
  own : Nat → Prop
  bnd : Nat → Bnd
  lim : Nat
  hlim : ∀ id, lim ≤ id → bnd id = .no
  kept : List (Nat × Obj)
structure Ext (base : Nat) (A : Old) (w0 : World) (β : Nat → Bnd) (w : World) : Prop where
  ble : ∀ id, BLe (A.bnd id) (β id)
  ok : ∀ x, okOf base A.own w0 A.bnd x → okOf base A.own w β x ∧ w.heap[x]? = w0.heap[x]?
  kp : ∀ x ob, (x, ob) ∈ A.kept → base ≤ x ∧ okOf base A.own w β x ∧ w.heap[x]? = some ob
theorem Ext.step {base : Nat} {A : Old} {w0 w w' : World} {β β' : Nat → Bnd} (E : Ext base A w0 β w) (hle : ∀ i, BLe (β i) (β' i)) (hok : ∀ x, okOf base A.own w β x → okOf base A.own w' β' x ∧ w'.heap[x]? = w.heap[x]?) : Ext base A w0 β' w' :=
  ⟨fun id => (E.ble id).trans (hle id), fun x hx => ⟨(hok x (E.ok x hx).1).1, (hok x (E.ok x hx).1).2.trans (E.ok x hx).2⟩, fun x ob h => ⟨(E.kp x ob h).1, (hok x (E.kp x ob h).2.1).1, (hok x (E.kp x ob h).2.1).2.trans (E.kp x ob h).2.2⟩⟩
structure InvS (base : Nat) (A : Old) (w0 : World) (n : Nat) (β : Nat → Bnd) (s : St) (a : Act) (w : World) : Prop where
  inv : Inv base A.own w0 β s.σ w
  defers : a.defers = []
  size : a.tmps.size = n
  tmps : ∀ t v, look t s.τ = some v → ∃ u, a.tmps[t]? = some u ∧ RepV w (okOf base A.own w β) β v u
  fresh : ∀ id, s.fr ≤ id → β id = .no
  ext : Ext base A w0 β w

section
variable {P : Program} {base : Nat} {A : Old} {w0 w : World} {β : Nat → Bnd} {s : St} {n : Nat} {a : Act}

theorem constV_rep {ok : Nat → Prop} (v : Value) : RepV w ok β (constV v) v := by
  have one : ∀ v : Value, v.oneCell' = true → RepV w ok β (.c (.sc v)) v := fun v h => scv v h
  cases v <;> first | exact one _ rfl | skip
  · rename_i cs
    unfold constV
    simp only
    split
    · rename_i hall
      refine .agg ⟨by simp, fun i c v hc hv => ?_⟩
      rw [List.getElem?_map, hv] at hc
      cases hc
      rw [Array.all_eq_true_iff_forall_mem] at hall
      exact .fz (.sc v (hall v (Array.mem_toList_iff.1 (List.mem_of_getElem? hv))))
    · exact .any _
  · exact .any _
theorem opval_rep (I : InvS base A w0 n β s a w) (x : Operand) : RepV w (okOf base A.own w β) β (opval s.τ x) (a.eval x) := by
  cases x with
  | tmp t =>
    show RepV w _ β ((look t s.τ).getD .any) (a.tmps.getD t undef)
    cases h : look t s.τ with
    | none => exact .any _
    | some v =>
      obtain ⟨u, hu, hr⟩ := I.tmps t v h
      have : a.tmps.getD t undef = u := by
        rw [Array.getD_eq_getD_getElem?, hu]
        rfl
      rw [this]
      exact hr
  | const v => exact constV_rep v
  | global g => exact scv _ rfl
  | func f => exact scv _ rfl
theorem RepV.frozen {ok : Nat → Prop} {v : AVal} {u : Value} (h : RepV w ok β v u) (hf : frozenV v = true) : RepV w ok noB v u := by
  cases h with
  | any => exact .any _
  | c h => exact .c (.fz (h.frozen hf))
  | agg h =>
    refine .agg ⟨h.1, fun i c v hc hv => .fz ((h.2 i c v hc hv).frozen ?_)⟩
    have hf' : List.all _ frozenC = true := hf
    rw [List.all_eq_true] at hf'
    exact hf' c (List.mem_of_getElem? hc)
  | tup => cases hf
  | cut => cases hf

def putD (n : Nat) (d : Option Nat) (v : AVal) (τ : Tau) : Option Tau := match d with
  | none => some τ
  | some d => if d < n then some (putT d v τ) else none
/-- A slot is written. -/
theorem put_inv (I : InvS base A w0 n β s a w) {w' : World} {β' : Nat → Bnd} {σ' : Sig} {fr' : Nat} (I' : Inv base A.own w0 β' σ' w') (hle : ∀ i, BLe (β i) (β' i)) (hok : ∀ x, okOf base A.own w β x → okOf base A.own w' β' x ∧ w'.heap[x]? = w.heap[x]?) (hfr : ∀ id, fr' ≤ id → β' id = .no)
    {d : Option Nat} {v : AVal} {u : Value} (hv : RepV w' (okOf base A.own w' β') β' v u) {τ' : Tau} (hp : putD n d v s.τ = some τ') : InvS base A w0 n β' ⟨τ', σ', fr'⟩ (a.put d u) w' := by
  cases d with
  | none =>
    cases hp
    exact ⟨I', I.defers, I.size, fun t v h => by
      obtain ⟨u, hu, hr⟩ := I.tmps t v h
      exact ⟨u, hu, hr.mono hok hle⟩, hfr, I.ext.step hle hok⟩
  | some d =>
    simp only [putD] at hp
    split at hp
    case isFalse => cases hp
    rename_i hd
    cases hp
    refine ⟨I', I.defers, by simp [Act.put, I.size], fun t v' h => ?_, hfr, I.ext.step hle hok⟩
    rw [look_putT] at h
    by_cases ht : t = d
    · subst ht
      rw [if_pos rfl] at h
      cases h
      refine ⟨u, ?_, hv⟩
      simp [Act.put, I.size, hd]
    · rw [if_neg ht] at h
      obtain ⟨u', hu, hr⟩ := I.tmps t v' h
      refine ⟨u', ?_, hr.mono hok hle⟩
      simp only [Act.put, Array.getElem?_setIfInBounds, if_neg (Ne.symm ht)]
      exact hu

/-- Is an operation carried out? -/
def wantedA (ops : Array Oper) (τ : Tau) (o : Oper) : Option Bool := match o.guard with
  | none => some true
  | some (j, want) => match ops[j]? with
    | some oj => match oj.dst with
      | some d => match look d τ with
        | some (.c (.sc (.bool b))) => some (b == want)
        | some (.tup _) => some false
        | _ => none
      | none => none
    | none => none
theorem wanted_sound (I : InvS base A w0 n β s a w) {ops : Array Oper} {o : Oper} {b : Bool} (h : wantedA ops s.τ o = some b) : Region.wanted o (yielded ops a.tmps) = b := by
  unfold wantedA at h
  unfold Region.wanted
  split at h
  · rename_i hg
    cases h
    rw [hg]
  · rename_i j want hg
    rw [hg]
    split at h
    case h_2 => cases h
    rename_i oj hj
    split at h
    case h_2 => cases h
    rename_i d hd
    split at h
    · rename_i t ht
      cases h
      obtain ⟨u, hu, hr⟩ := I.tmps d _ ht
      obtain ⟨rfl, _⟩ := sc_of hr
      simp only [yielded, hj, hd, Option.bind_some, hu]
      cases t <;> cases want <;> rfl
    · rename_i vs ht
      cases h
      obtain ⟨u, hu, hr⟩ := I.tmps d _ ht
      cases hr with
      | tup _ _ =>
        simp only [yielded, hj, hd, Option.bind_some, hu]
        rfl
    · cases h
theorem undef_rep {w' : World} {ok : Nat → Prop} {β' : Nat → Bnd} : RepV w' ok β' (.tup []) undef := .tup rfl (fun i a u h => by simp at h)

/-! ### what a call only reads, though it may be written later -/
def rdC (σ : Sig) : Cell → Cell
  | .ref id lo m => match look id σ with
    | some o => if lo + m ≤ o.es.length then .row o.k false ((o.es.drop lo).take m) else .any
    | none => .any
  | .ptr id i off => match look id σ with
    | some o => match o.es[i]? with
      | some e => .fad (e.drop off)
      | none => .any
    | none => .any
  | c => c
def rdV (σ : Sig) : AVal → AVal
  | .c x => .c (rdC σ x)
  | .agg cs => .agg (cs.map (rdC σ))
  | _ => .any
def flatO (o : AObj) : Bool := o.es.all fun e => e.all frozenC
def flatAt (σ : Sig) (id : Nat) : Prop := match look id σ with
  | some o => flatO o = true
  | none => True
def flatC (σ : Sig) : Cell → Prop
  | .ref id _ _ => flatAt σ id
  | .ptr id _ _ => flatAt σ id
  | _ => True
def flatCs (σ : Sig) : List Cell → Prop
  | [] => True
  | c :: cs => flatC σ c ∧ flatCs σ cs
def flatV (σ : Sig) : AVal → Prop
  | .c x => flatC σ x
  | .agg cs => flatCs σ cs
  | _ => True
def flatVs (σ : Sig) : List AVal → Prop
  | [] => True
  | v :: vs => flatV σ v ∧ flatVs σ vs
theorem flatCs_mem {σ : Sig} : ∀ {cs : List Cell}, flatCs σ cs → ∀ c ∈ cs, flatC σ c
  | [], _, _, h => by cases h
  | d :: cs, hp, c, h => by
    rcases List.mem_cons.1 h with rfl | h
    · exact hp.1
    · exact flatCs_mem hp.2 c h
theorem flatVs_mem {σ : Sig} : ∀ {cs : List AVal}, flatVs σ cs → ∀ c ∈ cs, flatV σ c
  | [], _, _, h => by cases h
  | d :: cs, hp, c, h => by
    rcases List.mem_cons.1 h with rfl | h
    · exact hp.1
    · exact flatVs_mem hp.2 c h
def plainC : Cell → Bool
  | .any => true
  | .sc _ => true
  | .bit => true
  | _ => false
def plainV : AVal → Bool
  | .any => true
  | .c x => plainC x
  | .agg cs => cs.all plainC
  | .tup vs => vs.all fun v => match v with
    | .any => true
    | .c x => plainC x
    | _ => false
  | .cut _ _ _ => false
def rdOk (w : World) (β : Nat → Bnd) (ok : Nat → Prop) (b : Nat) : Prop := b < w.heap.size ∧ (ok b ∨ ∃ id k cap, β id = .live b k cap)
theorem flat_cell {o : AObj} (hf : flatO o = true) {i : Nat} {e : List Cell} (he : o.es[i]? = some e) {j : Nat} {c : Cell} (hc : e[j]? = some c) : frozenC c = true := by
  unfold flatO at hf
  rw [List.all_eq_true] at hf
  have := hf e (List.mem_of_getElem? he)
  rw [List.all_eq_true] at this
  exact this c (List.mem_of_getElem? hc)
theorem rd_repC {σ : Sig} {A : Nat → Prop} (I : Inv base A w0 β σ w) {c : Cell} {v : Value} (hr : RepC w (okOf base A w β) β c v) (hf : flatC σ c) : RepF w (rdOk w β (okOf base A w β)) (rdC σ c) v := by
  have lift : ∀ {c : Cell} {v : Value}, RepF w (okOf base A w β) c v → RepF w (rdOk w β (okOf base A w β)) c v := fun h => h.mono fun b hb => ⟨⟨hb.2.1, .inl hb⟩, rfl⟩
  cases c with
  | any => cases hr with | fz h => exact lift h
  | sc u => cases hr with | fz h => exact lift h
  | bit => cases hr with | fz h => exact lift h
  | row k t es => cases hr with | fz h => exact lift h
  | fad cs => cases hr with | fz h => exact lift h
  | fn g cs => cases hr with | fz h => exact lift h
  | ref id lo m =>
    simp only [rdC]
    simp only [flatC, flatAt] at hf
    split
    · rename_i o ho
      rw [ho] at hf
      simp only at hf
      split
      · rename_i hlen
        rcases ref_live I ho (.c hr) with ⟨b, k, cap, hb, hcap, rfl⟩ | ⟨_, hoe, rfl, rfl, ad, rfl⟩
        · have O := I.obj id b k cap o hb ho
          have hl : ((o.es.drop lo).take m).length = m := by rw [List.length_take, List.length_drop]; omega
          have hget : ∀ (q : Nat) (e : List Cell), ((o.es.drop lo).take m)[q]? = some e → o.es[lo + q]? = some e := fun q e he => by
            have hq : q < m := by have := (List.getElem?_eq_some_iff.1 he).1; omega
            rwa [List.getElem?_take_of_lt hq, List.getElem?_drop] at he
          have cell : ∀ (q : Nat) (e : List Cell), ((o.es.drop lo).take m)[q]? = some e → ∀ (j : Nat) (c : Cell), e[j]? = some c → ∃ v, w.cell? (Addr.add ⟨b, lo * k, none⟩ (q * k + j)) = some v ∧ RepF w (rdOk w β (okOf base A w β)) c v := fun q e he j c hc => by
            have he' := hget q e he
            obtain ⟨v, hv, hr⟩ := objCell I hb ho he' hc
            refine ⟨v, ?_, lift (hr.frozen (flat_cell hf he' hc))⟩
            rw [Addr.add_lit, ← hv]
            congr 2
            rw [Nat.add_mul]
            omega
          have hk : ∀ e ∈ (o.es.drop lo).take m, e.length = k := fun e he => O.hlen e (List.mem_of_mem_drop (List.mem_of_mem_take he))
          have := RepF.row (w := w) (ok := rdOk w β (okOf base A w β)) (k := k) (t := false) (es := (o.es.drop lo).take m) (A := some ⟨b, lo * k, none⟩) (cap := cap - lo) (fun q j => (w.cell? (Addr.add ⟨b, lo * k, none⟩ (q * k + j))).getD undef) (by omega) (fun h => by cases h) hk (fun _ => ⟨_, rfl, (I.lo id b k cap hb).2, .inr ⟨id, k, cap, hb⟩⟩)
            (fun ad had q e he j hj => by
              cases had
              obtain ⟨v, hv, _⟩ := cell q e he j _ (List.getElem?_eq_getElem (by rw [hk e (List.mem_of_getElem? he)]; exact hj))
              rw [hv]; rfl)
            (fun q e he j c hc => by
              obtain ⟨v, hv, hr⟩ := cell q e he j c hc
              rw [hv]; exact hr)
          rw [hl] at this
          rw [O.hk]
          exact this
        · rw [hoe]
          exact RepF.row (es := []) (cap := 0) (fun _ _ => undef) (Nat.le_refl _) (fun h => by cases h) (by simp) (by simp) (fun ad _ i e h => by simp at h) (fun i e h => by simp at h)
      · exact .any v hr.one
    · exact .any v hr.one
  | ptr id i off =>
    simp only [rdC]
    simp only [flatC, flatAt] at hf
    split
    · rename_i o ho
      rw [ho] at hf
      simp only at hf ⊢
      split
      · rename_i e he
        obtain ⟨b, k, cap, hb, rfl⟩ := ptr_live I ho (.c hr)
        have cell : ∀ (j : Nat) (c : Cell), (e.drop off)[j]? = some c → ∃ v, w.cell? (Addr.add ⟨b, i * k + off, none⟩ j) = some v ∧ RepF w (rdOk w β (okOf base A w β)) c v := fun j c hc => by
          rw [List.getElem?_drop] at hc
          obtain ⟨v, hv, hr⟩ := objCell I hb ho he hc
          refine ⟨v, ?_, lift (hr.frozen (flat_cell hf he hc))⟩
          rw [Addr.add_lit, ← hv]
          congr 2
          omega
        exact .fad (fun j => (w.cell? (Addr.add ⟨b, i * k + off, none⟩ j)).getD undef) ⟨(I.lo id b k cap hb).2, .inr ⟨id, k, cap, hb⟩⟩
          (fun j hj => by
            obtain ⟨v, hv, _⟩ := cell j _ (List.getElem?_eq_getElem hj)
            rw [hv]; rfl)
          (fun j c hc => by
            obtain ⟨v, hv, hr⟩ := cell j c hc
            rw [hv]; exact hr)
      · exact .any v hr.one
    · exact .any v hr.one
theorem rd_repV {σ : Sig} {A : Nat → Prop} (I : Inv base A w0 β σ w) {c : AVal} {v : Value} (hr : RepV w (okOf base A w β) β c v) (hf : flatV σ c) : RepV w (rdOk w β (okOf base A w β)) noB (rdV σ c) v := by
  cases hr with
  | any => exact .any _
  | c h => exact .c (.fz (rd_repC I h hf))
  | agg h =>
    refine .agg ⟨by rw [List.length_map]; exact h.1, fun i c v hc hv => ?_⟩
    rename_i cs vs
    rw [List.getElem?_map] at hc
    cases hx : cs[i]? with
    | none => rw [hx] at hc; cases hc
    | some x =>
      rw [hx] at hc
      cases hc
      exact .fz (rd_repC I (h.2 i x v hx hv) (flatCs_mem hf x (List.mem_of_getElem? hx)))
  | tup => exact .any _
  | cut => exact .any _
theorem plain_repC {w' : World} {ok ok' : Nat → Prop} {β' : Nat → Bnd} {c : Cell} {v : Value} (hr : RepC w ok β c v) (hp : plainC c = true) : RepC w' ok' β' c v := by
  cases c with
  | any => exact .fz (.any v hr.one)
  | sc u =>
    cases hr with
    | fz h =>
      cases h with
      | sc _ h => exact .fz (.sc _ h)
  | bit =>
    cases hr with
    | fz h =>
      cases h with
      | bit b => exact .fz (.bit b)
  | row => cases hp
  | ref => cases hp
  | ptr => cases hp
  | fad => cases hp
  | fn => cases hp
theorem plain_rep {w' : World} {ok ok' : Nat → Prop} {β' : Nat → Bnd} {c : AVal} {v : Value} (hr : RepV w ok β c v) (hp : plainV c = true) : RepV w' ok' β' c v := by
  cases hr with
  | any => exact .any _
  | c h => exact .c (plain_repC h hp)
  | agg h =>
    refine .agg ⟨h.1, fun i c v hc hv => plain_repC (h.2 i c v hc hv) ?_⟩
    have hp' : List.all _ plainC = true := hp
    rw [List.all_eq_true] at hp'
    exact hp' c (List.mem_of_getElem? hc)
  | tup hl hi =>
    refine .tup hl fun i a u ha hu => ?_
    have h1 := hi i a u ha hu
    have hp' : List.all _ _ = true := hp
    rw [List.all_eq_true] at hp'
    have h2 := hp' a (List.mem_of_getElem? ha)
    cases a with
    | any => exact .any _
    | c x =>
      cases h1 with
      | c h => exact .c (plain_repC h h2)
    | agg => cases h2
    | tup => cases h2
    | cut => cases h2
  | cut => cases hp

/-! ### a call that writes its caller's objects -/
def LIM : Nat := 1000000
def hiS : Sig → Sig
  | [] => []
  | (t, v) :: r => if t < LIM then hiS r else (t, v) :: hiS r
def loS : Sig → Sig
  | [] => []
  | (t, v) :: r => if t < LIM then (t, v) :: loS r else loS r
theorem look_app {α : Type} (t : Nat) : ∀ l r : List (Nat × α), look t (l ++ r) = match look t l with
    | some v => some v
    | none => look t r
  | [], r => rfl
  | (s, v) :: l, r => by
    rw [List.cons_append, look, look]
    split
    · rfl
    · exact look_app t l r
theorem look_hi (t : Nat) : ∀ σ : Sig, look t (hiS σ) = if t < LIM then none else look t σ
  | [] => by simp [hiS, look]
  | (s, v) :: r => by
    have ih := look_hi t r
    unfold hiS
    by_cases hs : s < LIM
    · rw [if_pos hs, ih, look]
      by_cases ht : t = s
      · subst ht; rw [if_pos hs, if_pos hs]
      · rw [if_neg ht]
    · rw [if_neg hs, look, look, ih]
      by_cases ht : t = s
      · subst ht; rw [if_pos rfl, if_neg hs, if_pos rfl]
      · rw [if_neg ht, if_neg ht]
theorem look_lo (t : Nat) : ∀ σ : Sig, look t (loS σ) = if t < LIM then look t σ else none
  | [] => by simp [loS, look]
  | (s, v) :: r => by
    have ih := look_lo t r
    unfold loS
    by_cases hs : s < LIM
    · rw [if_pos hs, look, look, ih]
      by_cases ht : t = s
      · subst ht; rw [if_pos rfl, if_pos hs, if_pos rfl]
      · rw [if_neg ht, if_neg ht]
    · rw [if_neg hs, ih, look]
      by_cases ht : t = s
      · subst ht; rw [if_neg hs, if_neg hs]
      · rw [if_neg ht]
theorem look_hilo (t : Nat) (σ : Sig) : look t (hiS σ ++ loS σ) = look t σ := by
  rw [look_app, look_hi, look_lo]
  by_cases h : t < LIM
  · rw [if_pos h, if_pos h]
  · rw [if_neg h, if_neg h]
    cases look t σ <;> rfl
/-- A call whose caller has the objects σ, and others, named below LIM, which it leaves: the objects behind it. -/
def refLt (m : Nat) : Cell → Prop
  | .ref id _ _ => id < m
  | .ptr id _ _ => id < m
  | _ => True
/-- What an object names is named below m. -/
def refsLt (m : Nat) (o : AObj) : Prop := ∀ e ∈ o.es, ∀ c ∈ e, refLt m c
def Con (P : Program) (f : FuncId) (as : List AVal) (σ : Sig) (m : Nat) (r : AVal) (σ' : Sig) (m' : Nat) : Prop := FOk P f ∧
  ∀ (base : Nat) (A : Nat → Prop) (w : World) (β : Nat → Bnd) (rest : Sig) (vs : Array Value), (∀ i, (look i rest).isSome = true → i < LIM) → (∀ i o, look i rest = some o → refsLt m o) → Inv base A w β (σ ++ rest) w → (∀ id, m ≤ id → β id = .no) → RepAs w (okOf base A w β) β as vs →
    Calls P f vs w fun e w' => ∃ v β', e = .returned v ∧ Inv base A w β' (σ' ++ rest) w' ∧ (∀ i, BLe (β i) (β' i)) ∧ (∀ x, okOf base A w β x → okOf base A w' β' x ∧ w'.heap[x]? = w.heap[x]?) ∧ (∀ id, m' ≤ id → β' id = .no) ∧ RepV w' (okOf base A w' β') β' r v
/-! ### a call whose result names new objects -/
mutual
def shV (d : Nat) : AVal → AVal
  | .any => .any
  | .c (.ref id lo m) => .c (.ref (d + id) lo m)
  | .c (.ptr id i off) => .c (.ptr (d + id) i off)
  | .c x => .c x
  | .agg cs => .agg (cs.map fun
    | .ref id lo m => .ref (d + id) lo m
    | .ptr id i off => .ptr (d + id) i off
    | c => c)
  | .tup vs => .tup (shVs d vs)
  | .cut _ _ _ => .any
def shVs (d : Nat) : List AVal → List AVal
  | [] => []
  | v :: vs => shV d v :: shVs d vs
end
def shC (d : Nat) : Cell → Cell
  | .ref id lo m => .ref (d + id) lo m
  | .ptr id i off => .ptr (d + id) i off
  | c => c
def shS (d : Nat) : Sig → Sig
  | [] => []
  | (t, o) :: r => (d + t, o) :: shS d r
def flatS : Sig → Bool
  | [] => true
  | (_, o) :: r => flatO o && flatS r
theorem shV_c (d : Nat) (x : Cell) : shV d (.c x) = .c (shC d x) := by cases x <;> simp [shV, shC]
theorem shV_agg (d : Nat) (cs : List Cell) : shV d (.agg cs) = .agg (cs.map (shC d)) := by
  rw [shV]
  congr 1
theorem shVs_get (d : Nat) : ∀ (vs : List AVal) (i : Nat), (shVs d vs)[i]? = vs[i]?.map (shV d)
  | [], i => by simp [shVs]
  | v :: vs, 0 => by simp [shVs]
  | v :: vs, i + 1 => by simp [shVs, shVs_get d vs i]
theorem shVs_len (d : Nat) : ∀ vs : List AVal, (shVs d vs).length = vs.length
  | [] => rfl
  | v :: vs => by simp [shVs, shVs_len d vs]
theorem look_sh (d t : Nat) : ∀ σ : Sig, look t (shS d σ) = if t < d then none else look (t - d) σ
  | [] => by simp [shS, look]
  | (u, o) :: r => by
    rw [shS, look, look, look_sh d t r]
    by_cases h : t < d
    · rw [if_neg (by omega), if_pos h, if_pos h]
    · rw [if_neg h]
      by_cases hu : t = d + u
      · rw [if_pos hu, if_neg h, if_pos (by omega)]
      · rw [if_neg hu, if_neg h, if_neg (by omega)]
theorem flatS_get {t : Nat} {o : AObj} : ∀ {σ : Sig}, flatS σ = true → look t σ = some o → flatO o = true
  | [], _, h => by cases h
  | (u, q) :: r, hf, h => by
    unfold flatS at hf
    rw [Bool.and_eq_true] at hf
    unfold look at h
    split at h
    · cases h; exact hf.1
    · exact flatS_get hf.2 h
/-- A call with these arguments, which are only read, comes back with this result, which may name new objects, told from 0 on. -/
def New (P : Program) (f : FuncId) (as : List AVal) (r : AVal) (σ' : Sig) (m' : Nat) : Prop := FOk P f ∧
  ∀ (w : World) (A : Nat → Prop) (vs : Array Value), (∀ b, A b → b < w.heap.size) → RepAs w A noB as vs →
    Calls P f vs w fun e w' => ∃ v β', e = .returned v ∧ Inv w.heap.size A w β' σ' w' ∧ (∀ id, m' ≤ id → β' id = .no) ∧ RepV w' (okOf w.heap.size A w' β') β' r v
/-- A state says less than another. -/
def WeakP (s s' : St) : Prop := ∀ (A : Old) (base : Nat) (w0 : World) (n : Nat) (β : Nat → Bnd) (a : Act) (w : World), InvS base A w0 n β s a w → ∃ β', InvS base A w0 n β' s' a w
/-- A call in a state, told by what it does to it. -/
def SemC (P : Program) (g : FuncId) (as : List AVal) (s : St) (r : AVal) (σ' : Sig) (m' : Nat) : Prop := FOk P g ∧
  ∀ (A : Old) (base : Nat) (w0 : World) (n : Nat) (β : Nat → Bnd) (a : Act) (w : World) (vs : Array Value), InvS base A w0 n β s a w → RepAs w (okOf base A.own w β) β as vs →
    Calls P g vs w fun e w' => ∃ v β', e = .returned v ∧ Inv base A.own w0 β' σ' w' ∧ (∀ i, BLe (β i) (β' i)) ∧ (∀ x, okOf base A.own w β x → okOf base A.own w' β' x ∧ w'.heap[x]? = w.heap[x]?) ∧ (∀ id, m' ≤ id → β' id = .no) ∧ RepV w' (okOf base A.own w' β') β' r v
inductive Ans where
  | sem (r : AVal) (σ' : Sig) (m' : Nat)
  | wk (s' : St) (r : AVal)
  | fz (r : AVal)
  | rd (r : AVal)
  | own (r : AVal) (σ' : Sig) (m' : Nat)
  | new (r : AVal) (σ' : Sig) (m' : Nat)

/-- One operation: the state behind it, what must hold; a call takes its result out of the answers. -/
def evOp (P : Program) (T : TyEnv) (n : Nat) (ops : Array Oper) (o : Oper) (s : St) (ans : List Ans) : Option (St × List Ans × Prop) :=
  match wantedA ops s.τ o with
  | none => none
  | some false => match putD n o.dst (.tup []) s.τ with
    | some τ => some (⟨τ, s.σ, s.fr⟩, ans, True)
    | none => none
  | some true => match (planOp T (opval s.τ) o.op).run s.σ with
    | none => none
    | some (.call g as, p) => if isCallOp o.op = true then (match ans with
      | .sem r σ' m' :: ans => match putD n o.dst r s.τ with
        | some τ => some (⟨τ, σ', m'⟩, ans, p ∧ SemC P g as s r σ' m')
        | none => none
      | .wk s1 r :: ans => (match (planOp T (opval s1.τ) o.op).run s1.σ with
        | some (.call g1 as1, p1) => if as1.all frozenV = true then (match putD n o.dst r s1.τ with
          | some τ => some (⟨τ, s1.σ, s1.fr⟩, ans, p1 ∧ WeakP s s1 ∧ Pure P g1 as1 r)
          | none => none) else none
        | _ => none)
      | .fz r :: ans => if as.all frozenV = true then (match putD n o.dst r s.τ with
        | some τ => some (⟨τ, s.σ, s.fr⟩, ans, p ∧ Pure P g as r)
        | none => none) else none
      | .rd r :: ans => if plainV r = true then (match putD n o.dst r s.τ with
        | some τ => some (⟨τ, s.σ, s.fr⟩, ans, p ∧ flatVs s.σ as ∧ Pure P g (as.map (rdV s.σ)) r)
        | none => none) else none
      | .own r σ' m' :: ans => match putD n o.dst r s.τ with
        | some τ => some (⟨τ, σ' ++ loS s.σ, m'⟩, ans, p ∧ Con P g as (hiS s.σ) s.fr r σ' m')
        | none => none
      | .new r σ' m' :: ans => if as.all frozenV = true ∧ flatS σ' = true then (match putD n o.dst (shV s.fr r) s.τ with
        | some τ => some (⟨τ, shS s.fr σ' ++ s.σ, s.fr + m'⟩, ans, p ∧ New P g as r σ' m')
        | none => none) else none
      | [] => none) else none
    | some (e, p) => match putD n o.dst (e.aval s.fr) s.τ with
      | some τ => some (⟨τ, e.sig s.fr s.σ, s.fr + 1⟩, ans, p)
      | none => none
/-- A call by its contract. -/
theorem pure_calls (I : Inv base A.own w0 β s.σ w) {g : FuncId} {as : List AVal} {res : AVal} (hP : Pure P g as res) {vs : Array Value} (hf : as.all frozenV = true) (hr : RepAs w (okOf base A.own w β) β as vs) :
    Calls P g vs w fun e w' => ∃ v, e = .returned v ∧ Inv base A.own w0 β s.σ w' ∧ (∀ x, okOf base A.own w β x → okOf base A.own w' β x ∧ w'.heap[x]? = w.heap[x]?) ∧ RepV w' (okOf base A.own w' β) β res v := by
  rw [List.all_eq_true] at hf
  refine (hP.2 w (okOf base A.own w β) vs (fun b hb => hb.2.1) ⟨hr.1, fun i a v ha hv => (hr.2 i a v ha hv).frozen (hf a (List.mem_of_getElem? ha))⟩).mono ?_
  rintro e w' ⟨v, rfl, hv, hB⟩
  obtain ⟨I', hok⟩ := I.more hB
  refine ⟨v, rfl, I', hok, hv.mono (fun b hb => ⟨⟨fun h => ?_, hb.2, fun id b' k cap hl e => ?_⟩, rfl⟩) (fun i => .no _)⟩
  · have h2 : b < w.heap.size := by have := I.hbase; omega
    exact (hb.1 h2).1 h
  · subst e
    have h2 := (I.lo id b' k cap hl).2
    exact (hb.1 h2).2.2 id b' k cap hl rfl
theorem read_calls (I : Inv base A.own w0 β s.σ w) {g : FuncId} {as : List AVal} {res : AVal} (hP : Pure P g (as.map (rdV s.σ)) res) {vs : Array Value} (hf : flatVs s.σ as) (hp : plainV res = true) (hr : RepAs w (okOf base A.own w β) β as vs) :
    Calls P g vs w fun e w' => ∃ v, e = .returned v ∧ Inv base A.own w0 β s.σ w' ∧ (∀ x, okOf base A.own w β x → okOf base A.own w' β x ∧ w'.heap[x]? = w.heap[x]?) ∧ RepV w' (okOf base A.own w' β) β res v := by
  refine (hP.2 w (rdOk w β (okOf base A.own w β)) vs (fun b hb => hb.1) ⟨by rw [List.length_map]; exact hr.1, fun i a v ha hv => ?_⟩).mono ?_
  · rw [List.getElem?_map] at ha
    cases hx : as[i]? with
    | none => rw [hx] at ha; cases ha
    | some x =>
      rw [hx] at ha
      cases ha
      exact rd_repV I (hr.2 i x v hx hv) (flatVs_mem hf x (List.mem_of_getElem? hx))
  · rintro e w' ⟨v, rfl, hv, hB⟩
    obtain ⟨I', hok⟩ := I.more hB
    exact ⟨v, rfl, I', hok, plain_rep hv hp⟩
theorem Inv.congr0 {B : Nat → Prop} {σ σ' : Sig} (I : Inv base B w0 β σ w) (h : ∀ id, look id σ' = look id σ) : Inv base B w0 β σ' w :=
  ⟨I.below, I.hbase, I.old, fun id => by rw [h]; exact I.dom id, fun id o hv hl => I.virt id o hv (by rw [← h]; exact hl), I.fin, I.lo, I.inj, fun id b k cap o hb hl => I.obj id b k cap o hb (by rw [← h]; exact hl)⟩
theorem Inv.from {B : Nat → Prop} {σ : Sig} (I : Inv base B w0 β σ w) : Inv base B w β σ w :=
  ⟨Below.refl _ _, I.hbase, I.old, I.dom, I.virt, I.fin, I.lo, I.inj, I.obj⟩
theorem Inv.since {B : Nat → Prop} {σ : Sig} {w1 : World} (h : Below base w0 w1) (I : Inv base B w1 β σ w) : Inv base B w0 β σ w :=
  ⟨h.trans I.below, I.hbase, I.old, I.dom, I.virt, I.fin, I.lo, I.inj, I.obj⟩
theorem con_calls (I : InvS base A w0 n β s a w) {g : FuncId} {as : List AVal} {res : AVal} {σ' : Sig} {m' : Nat} (hP : Con P g as (hiS s.σ) s.fr res σ' m') {vs : Array Value} (hr : RepAs w (okOf base A.own w β) β as vs) :
    Calls P g vs w fun e w' => ∃ v β', e = .returned v ∧ Inv base A.own w0 β' (σ' ++ loS s.σ) w' ∧ (∀ i, BLe (β i) (β' i)) ∧ (∀ x, okOf base A.own w β x → okOf base A.own w' β' x ∧ w'.heap[x]? = w.heap[x]?) ∧ (∀ id, m' ≤ id → β' id = .no) ∧ RepV w' (okOf base A.own w' β') β' res v := by
  refine (hP.2 base A.own w β (loS s.σ) vs (fun i hi => ?_) (fun i o ho => ?_) (I.inv.from.congr0 fun id => look_hilo id s.σ) I.fresh hr).mono ?_
  · rw [look_lo] at hi
    split at hi
    · assumption
    · cases hi
  · rw [look_lo] at ho
    split at ho
    case isFalse => cases ho
    have low : ∀ id, β id ≠ .no → id < s.fr := fun id h => by
      rcases Nat.lt_or_ge id s.fr with h1 | h1
      · exact h1
      · exact absurd (I.fresh id h1) h
    intro e he c hc
    rcases (I.inv.dom i).1 (by rw [ho]; rfl) with ⟨b, k, cap, hb⟩ | hv
    · obtain ⟨_, _, _, arr, ty, _, _, _, hat⟩ := I.inv.obj i b k cap o hb ho
      obtain ⟨p, hp, rfl⟩ := List.getElem_of_mem he
      obtain ⟨q, hq, rfl⟩ := List.getElem_of_mem hc
      obtain ⟨v, _, hr⟩ := hat p _ (List.getElem?_eq_getElem hp) q _ (List.getElem?_eq_getElem hq)
      generalize (o.es[p])[q] = x at hr
      cases hr with
      | fz h => cases h <;> exact trivial
      | ref hb' _ => exact low _ (by rw [hb']; simp)
      | refv hb' => exact low _ (by rw [hb']; simp)
      | gone hb' _ => exact low _ (by rw [hb']; simp)
      | ptr hb' => exact low _ (by rw [hb']; simp)
      | gonep hb' _ => exact low _ (by rw [hb']; simp)
    · rw [I.inv.virt i o hv ho] at he
      cases he
  · rintro e w' ⟨v, β', rfl, I', h1, h2, h3, h4⟩
    exact ⟨v, β', rfl, I'.since I.inv.below, h1, h2, h3, h4⟩
theorem new_calls (I : InvS base A w0 n β s a w) {g : FuncId} {as : List AVal} {res : AVal} {σ' : Sig} {m' : Nat} (hP : New P g as res σ' m') (hfl : flatS σ' = true) {vs : Array Value} (hf : as.all frozenV = true) (hr : RepAs w (okOf base A.own w β) β as vs) :
    Calls P g vs w fun e w' => ∃ v β', e = .returned v ∧ Inv base A.own w0 β' (shS s.fr σ' ++ s.σ) w' ∧ (∀ i, BLe (β i) (β' i)) ∧ (∀ x, okOf base A.own w β x → okOf base A.own w' β' x ∧ w'.heap[x]? = w.heap[x]?) ∧ (∀ id, s.fr + m' ≤ id → β' id = .no) ∧ RepV w' (okOf base A.own w' β') β' (shV s.fr res) v := by
  rw [List.all_eq_true] at hf
  refine (hP.2 w (okOf base A.own w β) vs (fun b hb => hb.2.1) ⟨hr.1, fun i a v ha hv => (hr.2 i a v ha hv).frozen (hf a (List.mem_of_getElem? ha))⟩).mono ?_
  rintro e w' ⟨v, β1, rfl, J, hm, hv⟩
  have hI := I.inv
  have hlive : ∀ id b k cap, β id = .live b k cap → id < s.fr := fun id b k cap h => by
    rcases Nat.lt_or_ge id s.fr with h1 | h1
    · exact h1
    · rw [I.fresh id h1] at h; cases h
  obtain ⟨β2, hβ2⟩ : ∃ β2 : Nat → Bnd, β2 = fun id => if id < s.fr then β id else β1 (id - s.fr) := ⟨_, rfl⟩
  have lo_ : ∀ id, id < s.fr → β2 id = β id := fun id h => by rw [hβ2]; exact if_pos h
  have hi_ : ∀ id, β2 (s.fr + id) = β1 id := fun id => by rw [hβ2]; simp only; rw [if_neg (by omega), Nat.add_sub_cancel_left]
  have hi2 : ∀ id, ¬ id < s.fr → β2 id = β1 (id - s.fr) := fun id h => by rw [hβ2]; exact if_neg h
  have hle : ∀ i, BLe (β i) (β2 i) := fun i => by
    by_cases h : i < s.fr
    · rw [lo_ i h]; exact .same _
    · rw [I.fresh i (by omega)]; exact .no _
  have hsz := J.below.size
  have hok : ∀ x, okOf base A.own w β x → okOf base A.own w' β2 x ∧ w'.heap[x]? = w.heap[x]? := fun x hx => ⟨⟨hx.1, by have := hx.2.1; omega, fun id b k cap hb e => by
    by_cases h : id < s.fr
    · rw [lo_ id h] at hb
      exact hx.2.2 id b k cap hb e
    · rw [hi2 id h] at hb
      have := (J.lo _ b k cap hb).1
      have := hx.2.1
      omega⟩, J.below.block x hx.2.1⟩
  have hok2 : ∀ x, okOf w.heap.size (okOf base A.own w β) w' β1 x → okOf base A.own w' β2 x := fun x hx => ⟨fun h => (hx.1 (by have := hI.hbase; omega)).1 h, hx.2.1, fun id b k cap hb e => by
    by_cases h : id < s.fr
    · rw [lo_ id h] at hb
      have h1 := (hI.lo id b k cap hb).2
      exact (hx.1 (by omega)).2.2 id b k cap hb e
    · rw [hi2 id h] at hb
      exact hx.2.2 _ b k cap hb e⟩
  have hcell : ∀ (c : Cell) (u : Value), RepC w' (okOf w.heap.size (okOf base A.own w β) w' β1) β1 c u → RepC w' (okOf base A.own w' β2) β2 (shC s.fr c) u := fun c u h => by
    cases h with
    | fz h =>
      have : shC s.fr c = c := by cases h <;> rfl
      rw [this]
      exact .fz (h.mono fun x hx => ⟨hok2 x hx, rfl⟩)
    | ref hb hl => exact .ref (by rw [hi_]; exact hb) hl
    | refv hb => exact .refv (by rw [hi_]; exact hb)
    | gone hb hv => exact .gone (by rw [hi_]; exact hb) hv
    | ptr hb => exact .ptr (by rw [hi_]; exact hb)
    | gonep hb hv => exact .gonep (by rw [hi_]; exact hb) hv
  have hval : ∀ (x : AVal) (u : Value), RepV w' (okOf w.heap.size (okOf base A.own w β) w' β1) β1 x u → RepV w' (okOf base A.own w' β2) β2 (shV s.fr x) u := fun x u h => by
    induction h with
    | any v => rw [shV]; exact .any v
    | c h => rw [shV_c]; exact .c (hcell _ _ h)
    | agg h =>
      rw [shV_agg]
      refine .agg ⟨by rw [List.length_map]; exact h.1, fun i c v hc hv => ?_⟩
      rw [List.getElem?_map] at hc
      cases hq : (_ : List Cell)[i]? with
      | none => rw [hq] at hc; cases hc
      | some q =>
        rw [hq] at hc
        cases hc
        exact hcell _ _ (h.2 i q v hq hv)
    | tup hl _ ih =>
      rw [shV]
      refine .tup (by rw [shVs_len]; exact hl) fun i a u ha hu => ?_
      rw [shVs_get] at ha
      cases hq : (_ : List AVal)[i]? with
      | none => rw [hq] at ha; cases ha
      | some q =>
        rw [hq] at ha
        cases ha
        exact ih i q u hq hu
    | cut h =>
      rw [shV]
      exact .any _
  have hlk : ∀ id, look id (shS s.fr σ' ++ s.σ) = if id < s.fr then look id s.σ else look (id - s.fr) σ' := fun id => by
    rw [look_app, look_sh]
    by_cases h : id < s.fr
    · rw [if_pos h, if_pos h]
    · rw [if_neg h, if_neg h]
      cases hq : look (id - s.fr) σ' with
      | some o => rfl
      | none =>
        simp only
        refine look_none fun hs => ?_
        rcases (hI.dom id).1 hs with ⟨b, k, cap, hb⟩ | hb
        · exact h (hlive id b k cap hb)
        · rw [I.fresh id (by omega)] at hb; cases hb
  refine ⟨v, β2, rfl, ⟨hI.below.trans (J.below.mono hI.hbase), by have := hI.hbase; omega, hI.old, fun id => ?_, fun id o hb hl => ?_, ⟨s.fr + m', fun id h => ?_⟩, fun id b k cap hb => ?_, fun id id' b k cap k' cap' h1 h2 => ?_, fun id b k cap o hb hl => ?_⟩, hle, hok, fun id h => ?_, hval _ _ hv⟩
  · rw [hlk]
    by_cases h : id < s.fr
    · rw [if_pos h, lo_ id h]; exact hI.dom id
    · rw [if_neg h, hi2 id h]; exact J.dom _
  · rw [hlk] at hl
    by_cases h : id < s.fr
    · rw [if_pos h] at hl; rw [lo_ id h] at hb; exact hI.virt id o hb hl
    · rw [if_neg h] at hl; rw [hi2 id h] at hb; exact J.virt _ o hb hl
  · rw [hi2 id (by omega)]; exact hm _ (by omega)
  · by_cases h : id < s.fr
    · rw [lo_ id h] at hb
      have := hI.lo id b k cap hb
      omega
    · rw [hi2 id h] at hb
      have := J.lo _ b k cap hb
      have := hI.hbase
      omega
  · by_cases h : id < s.fr
    · rw [lo_ id h] at h1
      by_cases h' : id' < s.fr
      · rw [lo_ id' h'] at h2; exact hI.inj id id' b k cap k' cap' h1 h2
      · rw [hi2 id' h'] at h2
        have := hI.lo id b k cap h1
        have := J.lo _ b k' cap' h2
        omega
    · rw [hi2 id h] at h1
      by_cases h' : id' < s.fr
      · rw [lo_ id' h'] at h2
        have := hI.lo id' b k' cap' h2
        have := J.lo _ b k cap h1
        omega
      · rw [hi2 id' h'] at h2
        have := J.inj _ _ b k cap k' cap' h1 h2
        omega
  · rw [hlk] at hl
    by_cases h : id < s.fr
    · rw [if_pos h] at hl
      rw [lo_ id h] at hb
      exact (hI.obj id b k cap o hb hl).mono hok hle (J.below.block b (hI.lo id b k cap hb).2)
    · rw [if_neg h] at hl
      rw [hi2 id h] at hb
      obtain ⟨g1, g2, g3, arr, ty, g4, g5, g6, g7⟩ := J.obj _ b k cap o hb hl
      refine ⟨g1, g2, g3, arr, ty, g4, g5, g6, fun i e he j c hc => ?_⟩
      obtain ⟨u, hu, hr⟩ := g7 i e he j c hc
      have hfo := flatS_get hfl hl
      unfold flatO at hfo
      rw [List.all_eq_true] at hfo
      have hfe := hfo e (List.mem_of_getElem? he)
      rw [List.all_eq_true] at hfe
      exact ⟨u, hu, .fz ((hr.frozen (hfe c (List.mem_of_getElem? hc))).mono fun x hx => ⟨hok2 x hx, rfl⟩)⟩
  · rw [hi2 id (by omega)]; exact hm _ (by omega)
/-- A call whose result is one new object, where the names are not in order. -/
theorem new1_calls {σ : Sig} (hI : Inv base A.own w0 β σ w) {fr : Nat} (hno : β fr = .no) {g : FuncId} {as : List AVal} {m : Nat} {q : AObj} (hP : New P g as (.c (.ref 0 0 m)) [(0, q)] 1) (hfl : flatO q = true) {vs : Array Value} (hf : as.all frozenV = true) (hr : RepAs w (okOf base A.own w β) β as vs) :
    Calls P g vs w fun e w' => ∃ v β', e = .returned v ∧ Inv base A.own w0 β' (putA fr q σ) w' ∧ (∀ i, BLe (β i) (β' i)) ∧ (∀ x, okOf base A.own w β x → okOf base A.own w' β' x ∧ w'.heap[x]? = w.heap[x]?) ∧ (∀ id, id ≠ fr → β id = .no → β' id = .no) ∧ RepV w' (okOf base A.own w' β') β' (.c (.ref fr 0 m)) v := by
  rw [List.all_eq_true] at hf
  refine (hP.2 w (okOf base A.own w β) vs (fun b hb => hb.2.1) ⟨hr.1, fun i a v ha hv => (hr.2 i a v ha hv).frozen (hf a (List.mem_of_getElem? ha))⟩).mono ?_
  rintro e w' ⟨v, β1, rfl, J, hm, hv⟩
  obtain ⟨β2, hβ2⟩ : ∃ β2 : Nat → Bnd, β2 = fun id => if id = fr then β1 0 else β id := ⟨_, rfl⟩
  have ne_ : ∀ id, id ≠ fr → β2 id = β id := fun id h => by rw [hβ2]; exact if_neg h
  have eq_ : β2 fr = β1 0 := by rw [hβ2]; exact if_pos rfl
  have hle : ∀ i, BLe (β i) (β2 i) := fun i => by
    by_cases h : i = fr
    · rw [h, hno]; exact .no _
    · rw [ne_ i h]; exact .same _
  have hsz := J.below.size
  have hok : ∀ x, okOf base A.own w β x → okOf base A.own w' β2 x ∧ w'.heap[x]? = w.heap[x]? := fun x hx => ⟨⟨hx.1, by have := hx.2.1; omega, fun id b k cap hb e => by
    by_cases h : id = fr
    · rw [h, eq_] at hb
      have := (J.lo _ b k cap hb).1
      have := hx.2.1
      omega
    · rw [ne_ id h] at hb
      exact hx.2.2 id b k cap hb e⟩, J.below.block x hx.2.1⟩
  have hok2 : ∀ x, okOf w.heap.size (okOf base A.own w β) w' β1 x → okOf base A.own w' β2 x := fun x hx => ⟨fun h => (hx.1 (by have := hI.hbase; omega)).1 h, hx.2.1, fun id b k cap hb e => by
    by_cases h : id = fr
    · rw [h, eq_] at hb
      exact hx.2.2 _ b k cap hb e
    · rw [ne_ id h] at hb
      have h1 := (hI.lo id b k cap hb).2
      exact (hx.1 (by omega)).2.2 id b k cap hb e⟩
  have hlk : ∀ id, look id (putA fr q σ) = if id = fr then some q else look id σ := fun id => look_put _ _ _ _
  refine ⟨v, β2, rfl, ⟨hI.below.trans (J.below.mono hI.hbase), by have := hI.hbase; omega, hI.old, fun id => ?_, fun id o hb hl => ?_, ?_, fun id b k cap hb => ?_, fun id id' b k cap k' cap' h1 h2 => ?_, fun id b k cap o hb hl => ?_⟩, hle, hok, fun id h h2 => ?_, ?_⟩
  · rw [hlk]
    by_cases h : id = fr
    · subst h
      rw [if_pos rfl, eq_]
      exact ⟨fun _ => (J.dom 0).1 rfl, fun _ => rfl⟩
    · rw [if_neg h, ne_ id h]; exact hI.dom id
  · rw [hlk] at hl
    by_cases h : id = fr
    · subst h
      rw [if_pos rfl] at hl
      rw [eq_] at hb
      cases hl
      exact J.virt 0 _ hb rfl
    · rw [if_neg h] at hl; rw [ne_ id h] at hb; exact hI.virt id o hb hl
  · obtain ⟨N, hN⟩ := hI.fin
    exact ⟨max N (fr + 1), fun id h => by rw [ne_ id (by omega)]; exact hN id (by omega)⟩
  · by_cases h : id = fr
    · subst h
      rw [eq_] at hb
      have := J.lo _ b k cap hb
      have := hI.hbase
      omega
    · rw [ne_ id h] at hb
      have := hI.lo id b k cap hb
      omega
  · by_cases h : id = fr
    · by_cases h' : id' = fr
      · omega
      · rw [h, eq_] at h1
        rw [ne_ id' h'] at h2
        have := hI.lo id' b k' cap' h2
        have := J.lo _ b k cap h1
        omega
    · rw [ne_ id h] at h1
      by_cases h' : id' = fr
      · rw [h', eq_] at h2
        have := hI.lo id b k cap h1
        have := J.lo _ b k' cap' h2
        omega
      · rw [ne_ id' h'] at h2
        exact hI.inj id id' b k cap k' cap' h1 h2
  · rw [hlk] at hl
    by_cases h : id = fr
    · subst h
      rw [if_pos rfl] at hl
      rw [eq_] at hb
      cases hl
      obtain ⟨g1, g2, g3, arr, ty, g4, g5, g6, g7⟩ := J.obj _ b k cap _ hb rfl
      refine ⟨g1, g2, g3, arr, ty, g4, g5, g6, fun i e he j c hc => ?_⟩
      obtain ⟨u, hu, hr⟩ := g7 i e he j c hc
      unfold flatO at hfl
      rw [List.all_eq_true] at hfl
      have hfe := hfl e (List.mem_of_getElem? he)
      rw [List.all_eq_true] at hfe
      exact ⟨u, hu, .fz ((hr.frozen (hfe c (List.mem_of_getElem? hc))).mono fun x hx => ⟨hok2 x hx, rfl⟩)⟩
    · rw [if_neg h] at hl
      rw [ne_ id h] at hb
      exact (hI.obj id b k cap o hb hl).mono hok hle (J.below.block b (hI.lo id b k cap hb).2)
  · rw [ne_ id h]; exact h2
  · cases hv with
    | c hv =>
      refine .c ?_
      cases hv with
      | fz h => cases h
      | ref hb hl => exact .ref (by rw [eq_]; exact hb) hl
      | refv hb => exact .refv (by rw [eq_]; exact hb)
      | gone hb hv => exact .gone (by rw [eq_]; exact hb) hv
def plainO (o : AObj) : Bool := o.es.all fun e => e.all plainC
/-- The same, where live slices are lent; what is new is plain. -/
theorem lend1_calls {σ : Sig} (hI : Inv base A.own w0 β σ w) {fr : Nat} (hno : β fr = .no) {g : FuncId} {as : List AVal} {m : Nat} {q : AObj} (hP : New P g (as.map (rdV σ)) (.c (.ref 0 0 m)) [(0, q)] 1) (hpl : plainO q = true) {vs : Array Value} (hf : flatVs σ as) (hr : RepAs w (okOf base A.own w β) β as vs) :
    Calls P g vs w fun e w' => ∃ v β', e = .returned v ∧ Inv base A.own w0 β' (putA fr q σ) w' ∧ (∀ i, BLe (β i) (β' i)) ∧ (∀ x, okOf base A.own w β x → okOf base A.own w' β' x ∧ w'.heap[x]? = w.heap[x]?) ∧ (∀ id, id ≠ fr → β id = .no → β' id = .no) ∧ RepV w' (okOf base A.own w' β') β' (.c (.ref fr 0 m)) v := by
  refine (hP.2 w (rdOk w β (okOf base A.own w β)) vs (fun b hb => hb.1) ⟨by rw [List.length_map]; exact hr.1, fun i a v ha hv => ?_⟩).mono ?_
  · rw [List.getElem?_map] at ha
    cases hx : as[i]? with
    | none => rw [hx] at ha; cases ha
    | some x =>
      rw [hx] at ha
      cases ha
      exact rd_repV hI (hr.2 i x v hx hv) (flatVs_mem hf x (List.mem_of_getElem? hx))
  rintro e w' ⟨v, β1, rfl, J, hm, hv⟩
  obtain ⟨β2, hβ2⟩ : ∃ β2 : Nat → Bnd, β2 = fun id => if id = fr then β1 0 else β id := ⟨_, rfl⟩
  have ne_ : ∀ id, id ≠ fr → β2 id = β id := fun id h => by rw [hβ2]; exact if_neg h
  have eq_ : β2 fr = β1 0 := by rw [hβ2]; exact if_pos rfl
  have hle : ∀ i, BLe (β i) (β2 i) := fun i => by
    by_cases h : i = fr
    · rw [h, hno]; exact .no _
    · rw [ne_ i h]; exact .same _
  have hsz := J.below.size
  have hok : ∀ x, okOf base A.own w β x → okOf base A.own w' β2 x ∧ w'.heap[x]? = w.heap[x]? := fun x hx => ⟨⟨hx.1, by have := hx.2.1; omega, fun id b k cap hb e => by
    by_cases h : id = fr
    · rw [h, eq_] at hb
      have := (J.lo _ b k cap hb).1
      have := hx.2.1
      omega
    · rw [ne_ id h] at hb
      exact hx.2.2 id b k cap hb e⟩, J.below.block x hx.2.1⟩
  have hlk : ∀ id, look id (putA fr q σ) = if id = fr then some q else look id σ := fun id => look_put _ _ _ _
  refine ⟨v, β2, rfl, ⟨hI.below.trans (J.below.mono hI.hbase), by have := hI.hbase; omega, hI.old, fun id => ?_, fun id o hb hl => ?_, ?_, fun id b k cap hb => ?_, fun id id' b k cap k' cap' h1 h2 => ?_, fun id b k cap o hb hl => ?_⟩, hle, hok, fun id h h2 => ?_, ?_⟩
  · rw [hlk]
    by_cases h : id = fr
    · subst h
      rw [if_pos rfl, eq_]
      exact ⟨fun _ => (J.dom 0).1 rfl, fun _ => rfl⟩
    · rw [if_neg h, ne_ id h]; exact hI.dom id
  · rw [hlk] at hl
    by_cases h : id = fr
    · subst h
      rw [if_pos rfl] at hl
      rw [eq_] at hb
      cases hl
      exact J.virt 0 _ hb rfl
    · rw [if_neg h] at hl; rw [ne_ id h] at hb; exact hI.virt id o hb hl
  · obtain ⟨N, hN⟩ := hI.fin
    exact ⟨max N (fr + 1), fun id h => by rw [ne_ id (by omega)]; exact hN id (by omega)⟩
  · by_cases h : id = fr
    · subst h
      rw [eq_] at hb
      have := J.lo _ b k cap hb
      have := hI.hbase
      omega
    · rw [ne_ id h] at hb
      have := hI.lo id b k cap hb
      omega
  · by_cases h : id = fr
    · by_cases h' : id' = fr
      · omega
      · rw [h, eq_] at h1
        rw [ne_ id' h'] at h2
        have := hI.lo id' b k' cap' h2
        have := J.lo _ b k cap h1
        omega
    · rw [ne_ id h] at h1
      by_cases h' : id' = fr
      · rw [h', eq_] at h2
        have := hI.lo id b k cap h1
        have := J.lo _ b k' cap' h2
        omega
      · rw [ne_ id' h'] at h2
        exact hI.inj id id' b k cap k' cap' h1 h2
  · rw [hlk] at hl
    by_cases h : id = fr
    · subst h
      rw [if_pos rfl] at hl
      rw [eq_] at hb
      cases hl
      obtain ⟨g1, g2, g3, arr, ty, g4, g5, g6, g7⟩ := J.obj _ b k cap _ hb rfl
      refine ⟨g1, g2, g3, arr, ty, g4, g5, g6, fun i e he j c hc => ?_⟩
      obtain ⟨u, hu, hr⟩ := g7 i e he j c hc
      unfold plainO at hpl
      rw [List.all_eq_true] at hpl
      have hfe := hpl e (List.mem_of_getElem? he)
      rw [List.all_eq_true] at hfe
      exact ⟨u, hu, plain_repC hr (hfe c (List.mem_of_getElem? hc))⟩
    · rw [if_neg h] at hl
      rw [ne_ id h] at hb
      exact (hI.obj id b k cap o hb hl).mono hok hle (J.below.block b (hI.lo id b k cap hb).2)
  · rw [ne_ id h]; exact h2
  · cases hv with
    | c hv =>
      refine .c ?_
      cases hv with
      | fz h => cases h
      | ref hb hl => exact .ref (by rw [eq_]; exact hb) hl
      | refv hb => exact .refv (by rw [eq_]; exact hb)
      | gone hb hv => exact .gone (by rw [eq_]; exact hb) hv
/-- How a drawn region's answers tell a new object. -/
def newR : AVal → Option (Nat × AObj)
  | .tup [.c (.ref 0 0 m), .c (.row k true es)] => some (m, ⟨k, es⟩)
  | _ => none
/-- A call that turns an object into another one. -/
def MvC (P : Program) (g : FuncId) (as : List AVal) (id : Nat) (ob q : AObj) (m : Nat) : Prop := FOk P g ∧
  ∀ (base : Nat) (A : Nat → Prop) (w0 w : World) (β : Nat → Bnd) (σ : Sig) (fr : Nat) (vs : Array Value), Inv base A w0 β σ w → look id σ = some ob → β fr = .no → RepAs w (okOf base A w β) β as vs →
    Calls P g vs w fun e w' => ∃ v β', e = .returned v ∧ Inv base A w0 β' (putA fr q (drop id σ)) w' ∧ (∀ i, BLe (β i) (β' i)) ∧ (∀ x, okOf base A w β x → okOf base A w' β' x ∧ w'.heap[x]? = w.heap[x]?) ∧ (∀ i, i ≠ fr → β i = .no → β' i = .no) ∧ RepV w' (okOf base A w' β') β' (.c (.ref fr 0 m)) v
def newM : AVal → Option (Nat × Nat × AObj × AObj)
  | .tup [.c (.ref id 0 m), .c (.row k true es), .c (.row k' true es')] => some (id, m, ⟨k, es⟩, ⟨k', es'⟩)
  | _ => none
/-- A call that looks at objects, lets one go (or none), and leaves a new one. -/
def dropO (kl : Option Nat) (σ : Sig) : Sig := match kl with
  | none => σ
  | some k => drop k σ
def looksA : List (Nat × AObj) → Sig → Prop
  | [], _ => True
  | (id, ob) :: r, σ => look id σ = some ob ∧ looksA r σ
def GenC (P : Program) (g : FuncId) (as : List AVal) (v : AVal) (q : AObj) (kl : Option Nat) (obs : List (Nat × AObj)) : Prop := FOk P g ∧
  ∀ (base : Nat) (A : Nat → Prop) (w0 w : World) (β : Nat → Bnd) (σ : Sig) (fr : Nat) (vs : Array Value), Inv base A w0 β σ w → looksA obs σ → (∀ i, LIM ≤ i → β i = .no) → β fr = .no → RepAs w (okOf base A w β) β as vs →
    Calls P g vs w fun e w' => ∃ u β', e = .returned u ∧ Inv base A w0 β' (putA fr q (dropO kl σ)) w' ∧ (∀ i, BLe (β i) (β' i)) ∧ (∀ x, okOf base A w β x → okOf base A w' β' x ∧ w'.heap[x]? = w.heap[x]?) ∧ (∀ i, i ≠ fr → β i = .no → β' i = .no) ∧ RepV w' (okOf base A w' β') β' (shV fr v) u
def obsG : List AVal → Option (List (Nat × AObj))
  | [] => some []
  | .tup [.c (.ptr id 0 0), .c (.row k true es)] :: r => match obsG r with
    | some l => some ((id, ⟨k, es⟩) :: l)
    | none => none
  | _ => none
def newG : AVal → Option (AVal × AObj × Option Nat × List (Nat × AObj))
  | .tup [.any, v, .c (.row k true es), .c (.ptr id 0 0), .tup obs] => match obsG obs with
    | some l => some (v, ⟨k, es⟩, some id, l)
    | none => none
  | .tup [.any, v, .c (.row k true es), .any, .tup obs] => match obsG obs with
    | some l => some (v, ⟨k, es⟩, none, l)
    | none => none
  | _ => none
def PN (P : Program) (g : FuncId) (as : List AVal) (r : AVal) : Prop := match newG r with
  | some (v, q, kl, obs) => GenC P g as v q kl obs
  | none => match newM r with
  | some (id, m, q, ob) => MvC P g as id ob q m
  | none => match newR r with
    | some (m, o) => New P g as (.c (.ref 0 0 m)) [(0, o)] 1
    | none => Pure P g as r
theorem evOp_sound {T : TyEnv} (hT : TOk P T) {ops : Array Oper} {o : Oper} {ans ans' : List Ans} {s' : St} {p : Prop} (he : evOp P T n ops o s ans = some (s', ans', p)) (hp : p) (I : InvS base A w0 n β s a w) {i : Nat} (ho : ops[i]? = some o) {Q : Exit → Act → World → Prop} {K : Act → World → Prop}
    (hK : ∀ β' a' w', InvS base A w0 n β' s' a' w' → K a' w') : wpOp P ops Q i K a w := by
  unfold evOp at he
  unfold wpOp
  rw [ho]
  simp only
  split at he
  · cases he
  · rename_i hw
    rw [wanted_sound I hw, if_neg (by simp)]
    split at he
    case h_2 => cases he
    rename_i τ hτ
    cases he
    exact hK β _ _ (put_inv I I.inv (BLe.refl' β) (fun x h => ⟨h, rfl⟩) I.fresh undef_rep hτ)
  · rename_i hw
    rw [wanted_sound I hw, if_pos rfl]
    left
    split at he
    · cases he
    · rename_i g as q hpl
      split at he
      case isFalse => cases he
      rename_i hc
      split at he
      · split at he
        case h_2 => cases he
        rename_i τ hτ
        cases he
        obtain ⟨hq, hP⟩ := hp
        obtain ⟨fn, hfn, hname, hbody⟩ := hP.1
        obtain ⟨vs, hl, hr, hrun⟩ := call_sound (P := P) (w := w) (opval_rep I) o hc hpl
        unfold Oper.wp
        rw [hrun fn hfn hname hbody, Oper.upon_enter]
        refine (hP.2 A base w0 n β a w vs I ⟨hl, hr⟩).mono ?_
        rintro e w' ⟨v, β', rfl, I', hle, hok, hfr, hv⟩
        exact hK β' _ _ (put_inv I I' hle hok hfr hv hτ)
      · split at he
        case h_2 => cases he
        rename_i g1 as1 q1 hpl1
        split at he
        case isFalse => cases he
        rename_i hf
        split at he
        case h_2 => cases he
        rename_i τ hτ
        cases he
        obtain ⟨hq, hW, hP⟩ := hp
        obtain ⟨β1, I1⟩ := hW A base w0 n β a w I
        obtain ⟨fn, hfn, hname, hbody⟩ := hP.1
        obtain ⟨vs, hl, hr, hrun⟩ := call_sound (P := P) (w := w) (opval_rep I1) o hc hpl1
        unfold Oper.wp
        rw [hrun fn hfn hname hbody, Oper.upon_enter]
        refine (pure_calls I1.inv hP hf ⟨hl, hr⟩).mono ?_
        rintro e w' ⟨v, rfl, I', hok, hv⟩
        exact hK β1 _ _ (put_inv I1 I' (BLe.refl' β1) hok I1.fresh hv hτ)
      · split at he
        case isFalse => cases he
        rename_i hf
        split at he
        case h_2 => cases he
        rename_i τ hτ
        cases he
        obtain ⟨hq, hP⟩ := hp
        obtain ⟨fn, hfn, hname, hbody⟩ := hP.1
        obtain ⟨vs, hl, hr, hrun⟩ := call_sound (P := P) (w := w) (opval_rep I) o hc hpl
        unfold Oper.wp
        rw [hrun fn hfn hname hbody, Oper.upon_enter]
        refine (pure_calls I.inv hP hf ⟨hl, hr⟩).mono ?_
        rintro e w' ⟨v, rfl, I', hok, hv⟩
        exact hK β _ _ (put_inv I I' (BLe.refl' β) hok I.fresh hv hτ)
      · split at he
        case isFalse => cases he
        rename_i hf
        split at he
        case h_2 => cases he
        rename_i τ hτ
        cases he
        obtain ⟨hq, hfl, hP⟩ := hp
        obtain ⟨fn, hfn, hname, hbody⟩ := hP.1
        obtain ⟨vs, hl, hr, hrun⟩ := call_sound (P := P) (w := w) (opval_rep I) o hc hpl
        unfold Oper.wp
        rw [hrun fn hfn hname hbody, Oper.upon_enter]
        refine (read_calls I.inv hP hfl hf ⟨hl, hr⟩).mono ?_
        rintro e w' ⟨v, rfl, I', hok, hv⟩
        exact hK β _ _ (put_inv I I' (BLe.refl' β) hok I.fresh hv hτ)
      · split at he
        case h_2 => cases he
        rename_i τ hτ
        cases he
        obtain ⟨hq, hP⟩ := hp
        obtain ⟨fn, hfn, hname, hbody⟩ := hP.1
        obtain ⟨vs, hl, hr, hrun⟩ := call_sound (P := P) (w := w) (opval_rep I) o hc hpl
        unfold Oper.wp
        rw [hrun fn hfn hname hbody, Oper.upon_enter]
        refine (con_calls I hP ⟨hl, hr⟩).mono ?_
        rintro e w' ⟨v, β', rfl, I', hle, hok, hfr, hv⟩
        exact hK β' _ _ (put_inv I I' hle hok hfr hv hτ)
      · split at he
        case isFalse => cases he
        rename_i hf
        split at he
        case h_2 => cases he
        rename_i τ hτ
        cases he
        obtain ⟨hq, hP⟩ := hp
        obtain ⟨fn, hfn, hname, hbody⟩ := hP.1
        obtain ⟨vs, hl, hr, hrun⟩ := call_sound (P := P) (w := w) (opval_rep I) o hc hpl
        unfold Oper.wp
        rw [hrun fn hfn hname hbody, Oper.upon_enter]
        refine (new_calls I hP hf.2 hf.1 ⟨hl, hr⟩).mono ?_
        rintro e w' ⟨v, β', rfl, I', hle, hok, hfr, hv⟩
        exact hK β' _ _ (put_inv I I' hle hok hfr hv hτ)
      · cases he
    · rename_i e q hnc hpl
      split at he
      case h_2 => cases he
      rename_i τ hτ
      cases he
      obtain ⟨nx, w', hrun, u, β', hnx, I', hle, hok, hfr, hv⟩ := op_sound hT I.inv (I.fresh s.fr (Nat.le_refl _)) (opval_rep I) o hpl hp (fun g as h => hnc g as h)
      have := put_inv (fr' := s.fr + 1) I I' hle hok (fun id hid => hfr id (by omega) (I.fresh id (by omega))) hv hτ
      unfold Oper.wp
      rw [hrun]
      rcases hnx with rfl | ⟨rfl, rfl⟩
      · rw [Oper.upon_value]
        exact hK _ _ _ this
      · rw [Oper.upon_skip]
        exact hK _ _ _ this
/-- Operations, one after the other. -/
def evOps (P : Program) (T : TyEnv) (n : Nat) (ops : Array Oper) : List Oper → St → List Ans → Option (St × List Ans × Prop)
  | [], s, ans => some (s, ans, True)
  | o :: r, s, ans => match evOp P T n ops o s ans with
    | none => none
    | some (s', ans', p) => match evOps P T n ops r s' ans' with
      | none => none
      | some (s'', ans'', q) => some (s'', ans'', p ∧ q)
theorem evOps_sound {T : TyEnv} (hT : TOk P T) {ops : Array Oper} {Q : Exit → Act → World → Prop} : ∀ (m k : Nat), k + m = ops.size → ∀ {ans ans' : List Ans} {s s' : St} {p : Prop} {β : Nat → Bnd} {a : Act} {w : World}, evOps P T n ops (ops.toList.drop k) s ans = some (s', ans', p) → p → InvS base A w0 n β s a w →
    (∀ β' a' w', InvS base A w0 n β' s' a' w' → Q .normal a' w') → wpOps P ops Q (List.range' k m) a w
  | 0, k, hk, ans, ans', s, s', p, β, a, w, he, hp, I, hQ => by
    rw [List.drop_eq_nil_of_le (by simp; omega)] at he
    cases he
    exact hQ β a w I
  | m + 1, k, hk, ans, ans', s, s', p, β, a, w, he, hp, I, hQ => by
    have hlt : k < ops.toList.length := by simp; omega
    rw [List.drop_eq_getElem_cons hlt] at he
    unfold evOps at he
    split at he
    case h_1 => cases he
    rename_i s1 ans1 p1 h1
    split at he
    case h_1 => cases he
    rename_i s2 ans2 p2 h2
    cases he
    rw [List.range'_succ, wpOps_cons]
    refine evOp_sound hT h1 hp.1 I (i := k) (by rw [← Array.getElem?_toList, List.getElem?_eq_getElem hlt]) (fun β' a' w' I' => ?_)
    exact evOps_sound hT m (k + 1) (by omega) h2 hp.2 I' hQ
end
end Go.Proofs.YtphlhadgcfndhaaGreat.Abs
