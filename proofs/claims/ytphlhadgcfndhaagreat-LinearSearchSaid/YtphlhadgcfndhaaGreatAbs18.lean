/- A whole call, by its body; states that say less. -/
import Derived.Test.YtphlhadgcfndhaaGreatAbs17
namespace Go.Proofs.YtphlhadgcfndhaaGreat.Abs
open Go Go.RowKit
set_option linter.unusedVariables false
set_option linter.unusedSimpArgs false

section
variable {P : Program} {base : Nat} {A : Old} {w0 w : World} {n : Nat} {β : Nat → Bnd} {s : St} {a : Act}
def resSem (a : Act) : ResultVar → Sem Value
  | .tmp t => pure (a.tmps.getD t undef)
  | .cell b t => do loadVar t (← asAddr (a.tmps.getD b undef))
theorem resAll_sound {T : TyEnv} (hT : TOk P T) (I : InvS base A w0 n β s a w) : ∀ (rs : List ResultVar) (vs : List AVal), resAll T s rs = some vs →
    ∃ us : List Value, (rs.mapM (resSem a)).run P w = .ok us w ∧ vs.length = us.length ∧ ∀ (i : Nat) (v : AVal) (u : Value), vs[i]? = some v → us[i]? = some u → RepV w (okOf base A.own w β) noB v u
  | [], vs, h => by
    cases h
    exact ⟨[], by simp, rfl, fun i v u h => by simp at h⟩
  | r :: rs, vs, h => by
    unfold resAll at h
    split at h
    case h_2 => cases h
    rename_i v vs' hv hvs
    split at h
    case isFalse => cases h
    rename_i hf
    cases h
    obtain ⟨u, h1, h2⟩ := resOne_sound hT I hv
    obtain ⟨us, g1, g2, g3⟩ := resAll_sound hT I rs vs' hvs
    have h1' : (resSem a r).run P w = .ok u w := by
      rw [← h1]
      cases r <;> rfl
    refine ⟨u :: us, ?_, by simp [g2], fun i v' u' hv' hu' => ?_⟩
    · rw [List.mapM_cons]
      simp only [Sem.run_bind, h1', Result.andThen_ok, g1, Sem.run_pure]
    · cases i with
      | zero =>
        simp at hv' hu'
        subst hv' hu'
        exact h2.frozen hf
      | succ i => exact g3 i v' u' (by simpa using hv') (by simpa using hu')
theorem results_sound {T : TyEnv} (hT : TOk P T) (I : InvS base A w0 n β s a w) {fn : Func} {res : AVal} (h : resA T s fn.results.toList = some res) : ∃ v, (results fn a.tmps).run P w = .ok v w ∧ RepV w (okOf base A.own w β) noB res v := by
  unfold resA at h
  have run : ∀ vs, resAll T s fn.results.toList = some vs → ∃ us : List Value, (results fn a.tmps).run P w = .ok (if h : us.toArray.size = 1 then us.toArray[0] else .tuple us.toArray) w ∧ vs.length = us.length ∧ ∀ (i : Nat) (v : AVal) (u : Value), vs[i]? = some v → us[i]? = some u → RepV w (okOf base A.own w β) noB v u := fun vs hvs => by
    obtain ⟨us, g1, g2, g3⟩ := resAll_sound hT I _ vs hvs
    refine ⟨us, ?_, g2, g3⟩
    unfold results
    rw [Array.mapM_eq_mapM_toList]
    have e : (fn.results.toList.mapM fun x => (match x with | .tmp t => pure (a.tmps.getD t undef) | .cell b t => do loadVar t (← asAddr (a.tmps.getD b undef)) : Sem Value)) = fn.results.toList.mapM (resSem a) := by
      congr 1
    simp only [Sem.run_bind, Sem.run_map]
    erw [e]
    rw [g1]
    rfl
  split at h
  · rename_i v hv
    cases h
    obtain ⟨us, g1, g2, g3⟩ := run _ hv
    match us, g2 with
    | [u], _ => exact ⟨u, g1, g3 0 _ u rfl rfl⟩
  · rename_i vs hne hvs
    cases h
    obtain ⟨us, g1, g2, g3⟩ := run _ hvs
    have hsz : ¬ us.toArray.size = 1 := by
      intro h1
      match us, h1 with
      | [u], _ =>
        match vs, g2 with
        | [v], _ => exact hne v rfl
    rw [dif_neg hsz] at g1
    exact ⟨_, g1, .tup (by simpa using g2) (fun i v u hv hu => g3 i v u hv (by simpa using hu))⟩
  · cases h
def oldOf (B : Nat → Prop) : Old := ⟨B, noB, 0, fun _ _ => rfl, []⟩
theorem Ext.refl {base : Nat} {A : Old} {w : World} (hk : A.kept = []) : Ext base A w A.bnd w := ⟨BLe.refl' _, fun x hx => ⟨hx, rfl⟩, fun x ob h => by rw [hk] at h; cases h⟩
theorem init_inv {B : Nat → Prop} {vs : Array Value} {as : List AVal} {fn : Func} (hA : ∀ b, B b → b < w.heap.size) (hr : RepAs w B noB as vs) (hlen : as.length ≤ fn.ntmps) :
    InvS w.heap.size (oldOf B) w fn.ntmps noB ⟨entry 0 as, [], 0⟩ { tmps := vs ++ Array.replicate (fn.ntmps - vs.size) undef, defers := [] } w := by
  have hno : ∀ id b k cap, noB id ≠ .live b k cap := fun id b k cap h => by cases h
  refine ⟨⟨Below.refl _ _, Nat.le_refl _, hA, fun id => ⟨fun h => (by cases h), fun h => (by rcases h with ⟨_, _, _, h⟩ | h <;> cases h)⟩, fun id o h => (by cases h), ⟨0, fun _ _ => rfl⟩, fun id b k cap h => absurd h (hno id b k cap), fun id i b k c k2 c2 h => absurd h (hno id b k c), fun id b k c o h => absurd h (hno id b k c)⟩, rfl, ?_, fun t v h => ?_, fun _ _ => rfl, Ext.refl (A := oldOf B) rfl⟩
  · simp [← hr.1]
    omega
  · obtain ⟨_, h1⟩ := look_entry as 0 t v h
    rw [Nat.sub_zero] at h1
    have hlt : t < vs.size := by rw [← hr.1]; exact (List.getElem?_eq_some_iff.1 h1).1
    refine ⟨vs[t], ?_, ?_⟩
    · rw [Array.getElem?_append_left hlt, Array.getElem?_eq_getElem hlt]
    · exact (hr.2 t v _ h1 (Array.getElem?_eq_getElem hlt)).mono (fun x hx => ⟨⟨fun _ => hx, hA x hx, fun id b k cap h => absurd h (hno id b k cap)⟩, rfl⟩) (BLe.refl' noB)
/-- A call's contract, by its body. -/
theorem pure_of {T : TyEnv} (hT : TOk P T) {f : FuncId} {fn : Func} {c : Code} (hf : P.funcs[f]? = some fn) (hname : (fn.name == "runtime.NumGoroutine") = false) (hb : fn.body = some c) {N : Nat} (hN : fn.ntmps = N) {rs : List ResultVar} (hrs : fn.results.toList = rs) {as : List AVal} {res : AVal} (hlen : as.length ≤ N)
    (h : ∀ base A w0, A.lim = 0 → AW P base A w0 N c ⟨entry 0 as, [], 0⟩ fun e s => (e = .normal ∨ e = .ret) ∧ ∃ s', Weak A s s' ∧ resA T s' rs = some res) : Pure P f as res := by
  subst hN hrs
  refine ⟨⟨fn, hf, hname, by rw [hb]; rfl⟩, fun w A vs hA hr => calls_of_wp hf hb ?_⟩
  refine wp_mono (h w.heap.size (oldOf A) w rfl noB _ w (init_inv hA hr hlen)) fun e a' w' ⟨s', β', ⟨he, s'', hw, hres⟩, I'⟩ => ?_
  obtain ⟨β'', I''⟩ := hw _ _ _ _ _ _ I'
  obtain ⟨v, h1, h2⟩ := results_sound hT I'' hres
  have fin : a'.defers = [] ∧ ∃ v, (results fn a'.tmps).run P w' = .ok v w' ∧ ∃ v', Ending.returned v = .returned v' ∧ RepV w' (fun b => (b < w.heap.size → A b) ∧ b < w'.heap.size) noB res v' ∧ Below w.heap.size w w' :=
    ⟨I''.defers, v, h1, v, rfl, h2.mono (fun x hx => ⟨⟨hx.1, hx.2.1⟩, rfl⟩) (BLe.refl' noB), I''.inv.below⟩
  rcases he with rfl | rfl
  · exact fin
  · exact fin
/-- The results, which may name what is written. -/
def resAllL (T : TyEnv) (s : St) : List ResultVar → Option (List AVal)
  | [] => some []
  | r :: rs => match resOne T s r, resAllL T s rs with
    | some v, some vs => some (v :: vs)
    | _, _ => none
def resL (T : TyEnv) (s : St) (rs : List ResultVar) : Option AVal := match resAllL T s rs with
  | some [v] => some v
  | some vs => some (.tup vs)
  | none => none
theorem resAllL_sound {T : TyEnv} (hT : TOk P T) (I : InvS base A w0 n β s a w) : ∀ (rs : List ResultVar) (vs : List AVal), resAllL T s rs = some vs →
    ∃ us : List Value, (rs.mapM (resSem a)).run P w = .ok us w ∧ vs.length = us.length ∧ ∀ (i : Nat) (v : AVal) (u : Value), vs[i]? = some v → us[i]? = some u → RepV w (okOf base A.own w β) β v u
  | [], vs, h => by
    cases h
    exact ⟨[], by simp, rfl, fun i v u h => by simp at h⟩
  | r :: rs, vs, h => by
    unfold resAllL at h
    split at h
    case h_2 => cases h
    rename_i v vs' hv hvs
    cases h
    obtain ⟨u, h1, h2⟩ := resOne_sound hT I hv
    obtain ⟨us, g1, g2, g3⟩ := resAllL_sound hT I rs vs' hvs
    have h1' : (resSem a r).run P w = .ok u w := by
      cases r <;> exact h1
    refine ⟨u :: us, ?_, by simp [g2], fun i v' u' hv' hu' => ?_⟩
    · simp [h1', g1]
    · cases i with
      | zero =>
        cases hv'
        cases hu'
        exact h2
      | succ i => exact g3 i v' u' (by simpa using hv') (by simpa using hu')
theorem resultsL_sound {T : TyEnv} (hT : TOk P T) (I : InvS base A w0 n β s a w) {fn : Func} {res : AVal} (h : resL T s fn.results.toList = some res) : ∃ v, (results fn a.tmps).run P w = .ok v w ∧ RepV w (okOf base A.own w β) β res v := by
  unfold resL at h
  have run : ∀ vs, resAllL T s fn.results.toList = some vs → ∃ us : List Value, (results fn a.tmps).run P w = .ok (if h : us.toArray.size = 1 then us.toArray[0] else .tuple us.toArray) w ∧ vs.length = us.length ∧ ∀ (i : Nat) (v : AVal) (u : Value), vs[i]? = some v → us[i]? = some u → RepV w (okOf base A.own w β) β v u := fun vs hvs => by
    obtain ⟨us, g1, g2, g3⟩ := resAllL_sound hT I _ vs hvs
    refine ⟨us, ?_, g2, g3⟩
    unfold results
    rw [Array.mapM_eq_mapM_toList]
    have e : (fn.results.toList.mapM fun x => (match x with | .tmp t => pure (a.tmps.getD t undef) | .cell b t => do loadVar t (← asAddr (a.tmps.getD b undef)) : Sem Value)) = fn.results.toList.mapM (resSem a) := by
      congr 1
    simp only [Sem.run_bind, Sem.run_map]
    erw [e]
    rw [g1]
    rfl
  split at h
  · rename_i v hv
    cases h
    obtain ⟨us, g1, g2, g3⟩ := run _ hv
    match us, g2 with
    | [u], _ => exact ⟨u, g1, g3 0 _ u rfl rfl⟩
  · rename_i vs hne hvs
    cases h
    obtain ⟨us, g1, g2, g3⟩ := run _ hvs
    have hsz : ¬ us.toArray.size = 1 := by
      intro h1
      match us, h1 with
      | [u], _ =>
        match vs, g2 with
        | [v], _ => exact hne v rfl
    rw [dif_neg hsz] at g1
    exact ⟨_, g1, .tup (by simpa using g2) (fun i v u hv hu => g3 i v u hv (by simpa using hu))⟩
  · cases h
/-- A call's contract, whose result names new objects. -/
theorem new_of {T : TyEnv} (hT : TOk P T) {f : FuncId} {fn : Func} {c : Code} (hf : P.funcs[f]? = some fn) (hname : (fn.name == "runtime.NumGoroutine") = false) (hb : fn.body = some c) {N : Nat} (hN : fn.ntmps = N) {rs : List ResultVar} (hrs : fn.results.toList = rs) {as : List AVal} {res : AVal} {σ' : Sig} {m' : Nat} (hlen : as.length ≤ N)
    (h : ∀ base A w0, A.lim = 0 → AW P base A w0 N c ⟨entry 0 as, [], 0⟩ fun e s => (e = .normal ∨ e = .ret) ∧ ∃ s', Weak A s s' ∧ resL T s' rs = some res ∧ s'.σ = σ' ∧ s'.fr = m') : New P f as res σ' m' := by
  subst hN hrs
  refine ⟨⟨fn, hf, hname, by rw [hb]; rfl⟩, fun w A vs hA hr => calls_of_wp hf hb ?_⟩
  refine wp_mono (h w.heap.size (oldOf A) w rfl noB _ w (init_inv hA hr hlen)) fun e a' w' ⟨s', β', ⟨he, s'', hw, hres, hσ, hm⟩, I'⟩ => ?_
  obtain ⟨β'', I''⟩ := hw _ _ _ _ _ _ I'
  obtain ⟨v, h1, h2⟩ := resultsL_sound hT I'' hres
  have fin : a'.defers = [] ∧ ∃ v, (results fn a'.tmps).run P w' = .ok v w' ∧ ∃ v' β', Ending.returned v = .returned v' ∧ Inv w.heap.size A w β' σ' w' ∧ (∀ id, m' ≤ id → β' id = .no) ∧ RepV w' (okOf w.heap.size A w' β') β' res v' :=
    ⟨I''.defers, v, h1, v, β'', rfl, by rw [← hσ]; exact I''.inv, by rw [← hm]; exact I''.fresh, h2⟩
  rcases he with rfl | rfl
  · exact fin
  · exact fin
/-- The same, where the objects that the result doesn't name are let go. -/
theorem new_drop {T : TyEnv} (hT : TOk P T) {f : FuncId} {fn : Func} {c : Code} (hf : P.funcs[f]? = some fn) (hname : (fn.name == "runtime.NumGoroutine") = false) (hb : fn.body = some c) {N : Nat} (hN : fn.ntmps = N) {rs : List ResultVar} (hrs : fn.results.toList = rs) {as : List AVal} {res : AVal} {σ' : Sig} {m' : Nat} (hlen : as.length ≤ N)
    (h : ∀ base A w0, A.lim = 0 → AW P base A w0 N c ⟨entry 0 as, [], 0⟩ fun e s => (e = .normal ∨ e = .ret) ∧ ∃ s' r, Weak A s s' ∧ resL T s' rs = some r ∧ Weak A ⟨[(0, r)], s'.σ, s'.fr⟩ ⟨[(0, res)], σ', m'⟩) : New P f as res σ' m' := by
  subst hN hrs
  refine ⟨⟨fn, hf, hname, by rw [hb]; rfl⟩, fun w A vs hA hr => calls_of_wp hf hb ?_⟩
  refine wp_mono (h w.heap.size (oldOf A) w rfl noB _ w (init_inv hA hr hlen)) fun e a' w' ⟨s', β', ⟨he, s'', r, hw, hres, hw2⟩, I'⟩ => ?_
  obtain ⟨β'', I''⟩ := hw _ _ _ _ _ _ I'
  obtain ⟨v, h1, h2⟩ := resultsL_sound hT I'' hres
  obtain ⟨β3, I3⟩ := hw2 w.heap.size w 1 β'' ⟨#[v], []⟩ w' ⟨I''.inv, rfl, rfl, (fun t x hx => by
    simp only [look] at hx
    split at hx
    · rename_i ht
      cases hx
      subst ht
      exact ⟨v, rfl, h2⟩
    · cases hx), I''.fresh, I''.ext⟩
  obtain ⟨u, hu, hr3⟩ := I3.tmps 0 res rfl
  have hu' : v = u := by simpa using hu
  subst hu'
  have fin : a'.defers = [] ∧ ∃ v, (results fn a'.tmps).run P w' = .ok v w' ∧ ∃ v' β', Ending.returned v = .returned v' ∧ Inv w.heap.size A w β' σ' w' ∧ (∀ id, m' ≤ id → β' id = .no) ∧ RepV w' (okOf w.heap.size A w' β') β' res v' :=
    ⟨I''.defers, v, h1, v, β3, rfl, I3.inv, I3.fresh, hr3⟩
  rcases he with rfl | rfl
  · exact fin
  · exact fin
theorem con_of {T : TyEnv} (hT : TOk P T) {f : FuncId} {fn : Func} {c : Code} (hf : P.funcs[f]? = some fn) (hname : (fn.name == "runtime.NumGoroutine") = false) (hb : fn.body = some c) {N : Nat} (hN : fn.ntmps = N) {rs : List ResultVar} (hrs : fn.results.toList = rs) {as : List AVal} {res : AVal} {σ σ' : Sig} {m m' : Nat} (hlen : as.length ≤ N)
    (h : ∀ base (A : Old) w0 (rest : Sig), (∀ i, (look i rest).isSome = true → i < LIM) → (∀ i o, look i rest = some o → refsLt m o) → A.lim = m → AW P base A w0 N c ⟨entry 0 as, σ ++ rest, m⟩ fun e s => (e = .normal ∨ e = .ret) ∧ ∃ s', Weak A s s' ∧ resL T s' rs = some res ∧ s'.σ = σ' ++ rest ∧ s'.fr = m') : Con P f as σ m res σ' m' := by
  subst hN hrs
  refine ⟨⟨fn, hf, hname, by rw [hb]; rfl⟩, fun base A w β rest vs hrest hrefs hI hfr hr => calls_of_wp hf hb ?_⟩
  have I0 : InvS base ⟨A, β, m, hfr, []⟩ w fn.ntmps β ⟨entry 0 as, σ ++ rest, m⟩ { tmps := vs ++ Array.replicate (fn.ntmps - vs.size) undef, defers := [] } w := by
    refine ⟨hI, rfl, ?_, fun t v h => ?_, hfr, Ext.refl (A := ⟨A, β, m, hfr, []⟩) rfl⟩
    · simp [← hr.1]
      omega
    · obtain ⟨_, h1⟩ := look_entry as 0 t v h
      rw [Nat.sub_zero] at h1
      have hlt : t < vs.size := by rw [← hr.1]; exact (List.getElem?_eq_some_iff.1 h1).1
      refine ⟨vs[t], ?_, hr.2 t v _ h1 (Array.getElem?_eq_getElem hlt)⟩
      rw [Array.getElem?_append_left hlt, Array.getElem?_eq_getElem hlt]
  refine wp_mono (h base ⟨A, β, m, hfr, []⟩ w rest hrest hrefs rfl β _ w I0) fun e a' w' ⟨s', β', ⟨he, s'', hw, hres, hσ, hm⟩, I'⟩ => ?_
  obtain ⟨β'', I''⟩ := hw _ _ _ _ _ _ I'
  obtain ⟨v, h1, h2⟩ := resultsL_sound hT I'' hres
  have fin : a'.defers = [] ∧ ∃ v, (results fn a'.tmps).run P w' = .ok v w' ∧ ∃ v' β', Ending.returned v = .returned v' ∧ Inv base A w β' (σ' ++ rest) w' ∧ (∀ i, BLe (β i) (β' i)) ∧ (∀ x, okOf base A w β x → okOf base A w' β' x ∧ w'.heap[x]? = w.heap[x]?) ∧ (∀ id, m' ≤ id → β' id = .no) ∧ RepV w' (okOf base A w' β') β' res v' :=
    ⟨I''.defers, v, h1, v, β'', rfl, by rw [← hσ]; exact I''.inv, I''.ext.ble, I''.ext.ok, by rw [← hm]; exact I''.fresh, h2⟩
  rcases he with rfl | rfl
  · exact fin
  · exact fin
end

/-! ### states that say less -/
theorem Weak.of {A : Old} {s s' : St} (hτ : ∀ t v, look t s'.τ = some v → look t s.τ = some v ∨ v = .any ∧ (look t s.τ).isSome = true) (hσ : s'.σ = s.σ) (hfr : s.fr ≤ s'.fr) : Weak A s s' := fun base w0 n β a w I =>
  ⟨β, by rw [hσ]; exact I.inv, I.defers, I.size, fun t v h => by
    rcases hτ t v h with h | ⟨rfl, h2⟩
    · exact I.tmps t v h
    · obtain ⟨x, hx⟩ := Option.isSome_iff_exists.1 h2
      obtain ⟨u, hu, _⟩ := I.tmps t x hx
      exact ⟨u, hu, .any _⟩, fun id h => I.fresh id (by omega), I.ext⟩
def keepT (ks : List Nat) (τ : Tau) : Tau := match ks with
  | [] => []
  | k :: ks => match look k τ with
    | some v => (k, v) :: keepT ks τ
    | none => keepT ks τ
theorem look_keep (τ : Tau) (t : Nat) : ∀ ks : List Nat, ∀ v, look t (keepT ks τ) = some v → look t τ = some v
  | [], v, h => by cases h
  | k :: ks, v, h => by
    unfold keepT at h
    split at h
    · rename_i u hu
      rw [look] at h
      split at h
      · rename_i e
        cases h
        rw [e]
        exact hu
      · exact look_keep τ t ks v h
    · exact look_keep τ t ks v h
/-- Some slots are kept. -/
theorem Weak.keep {A : Old} (ks : List Nat) (s : St) : Weak A s ⟨keepT ks s.τ, s.σ, s.fr⟩ := Weak.of (fun t v h => .inl (look_keep s.τ t ks v h)) rfl (Nat.le_refl _)
/-- An object is only read from here on: what names it is its content. -/
def frzC (id : Nat) (o : AObj) : Cell → Cell
  | .ref i lo m => if i = id then (if lo + m ≤ o.es.length then .row o.k false ((o.es.drop lo).take m) else .any) else .ref i lo m
  | .ptr i j off => if i = id then (match o.es[j]? with | some e => .fad (e.drop off) | none => .any) else .ptr i j off
  | c => c
def frzV (id : Nat) (o : AObj) : AVal → AVal
  | .c x => .c (frzC id o x)
  | .agg cs => .agg (cs.map (frzC id o))
  | v => v
def frzO (id : Nat) (o : AObj) (q : AObj) : AObj := ⟨q.k, q.es.map fun e => e.map (frzC id o)⟩
def mapS {α : Type} (f : α → α) : List (Nat × α) → List (Nat × α)
  | [] => []
  | (t, v) :: r => (t, f v) :: mapS f r
theorem look_map {α : Type} (f : α → α) (t : Nat) : ∀ l : List (Nat × α), look t (mapS f l) = (look t l).map f
  | [] => rfl
  | (u, v) :: r => by
    rw [mapS, look, look, look_map f t r]
    split <;> rfl
def mapAt {α : Type} (ids : List Nat) (f : α → α) : List (Nat × α) → List (Nat × α)
  | [] => []
  | (t, v) :: r => (t, if ids.contains t = true then f v else v) :: mapAt ids f r
theorem look_mapAt {α : Type} (ids : List Nat) (f : α → α) (t : Nat) : ∀ l : List (Nat × α), look t (mapAt ids f l) = (look t l).map fun v => if ids.contains t = true then f v else v
  | [] => rfl
  | (u, v) :: r => by
    rw [mapAt, look, look, look_mapAt ids f t r]
    by_cases h : t = u
    · subst h
      rw [if_pos rfl, if_pos rfl]
      rfl
    · rw [if_neg h, if_neg h]
def freeze (id : Nat) (o : AObj) (ids : List Nat) (s : St) : St := ⟨mapS (frzV id o) s.τ, mapAt ids (frzO id o) (drop id s.σ), s.fr⟩
section
variable {base : Nat} {A : Old} {w0 w : World} {β : Nat → Bnd} {σ : Sig}
theorem frz_rep (I : Inv base A.own w0 β σ w) {id : Nat} {o : AObj} (ho : look id σ = some o) (hf : flatO o = true) {c : Cell} {v : Value} (hr : RepC w (okOf base A.own w β) β c v) (hok : ∀ x, okOf base A.own w β x → okOf base A.own w (updB β id .dead) x) (hle : ∀ i, BLe (β i) (updB β id .dead i)) :
    RepC w (okOf base A.own w (updB β id .dead)) (updB β id .dead) (frzC id o c) v := by
  have hmono : ∀ {c : Cell} {v : Value}, RepC w (okOf base A.own w β) β c v → RepC w (okOf base A.own w (updB β id .dead)) (updB β id .dead) c v := fun h => h.mono (fun x hx => ⟨hok x hx, rfl⟩) hle
  cases c with
  | ref i lo m =>
    show RepC w _ _ (if i = id then (if lo + m ≤ o.es.length then .row o.k false ((o.es.drop lo).take m) else .any) else .ref i lo m) v
    split
    · rename_i hi
      subst hi
      split
      · rename_i hlen
        refine .fz ?_
        rcases ref_live I ho (.c hr) with ⟨b, k, cap, hb, hcap, rfl⟩ | ⟨_, hoe, rfl, rfl, ad, rfl⟩
        · have O := I.obj i b k cap o hb ho
          obtain ⟨arr, ty, hh, hsz, hone, hat⟩ := O.hat
          have hl : ((o.es.drop lo).take m).length = m := by rw [List.length_take, List.length_drop]; omega
          have hget : ∀ (q : Nat) (e : List Cell), ((o.es.drop lo).take m)[q]? = some e → o.es[lo + q]? = some e := fun q e he => by
            have hq : q < m := by have := (List.getElem?_eq_some_iff.1 he).1; omega
            rwa [List.getElem?_take_of_lt hq, List.getElem?_drop] at he
          have hb' : okOf base A.own w (updB β i .dead) b := by
            have hlo := I.lo i b k cap hb
            refine ⟨fun h => by omega, hlo.2, fun q b' k' cap' hq e => ?_⟩
            by_cases hqi : q = i
            · subst hqi; rw [updB_self] at hq; cases hq
            · rw [updB_ne _ _ hqi] at hq
              subst e
              exact hqi (I.inj q i b' k' cap' k cap hq hb)
          have cell : ∀ (q : Nat) (e : List Cell), ((o.es.drop lo).take m)[q]? = some e → ∀ (j : Nat) (c : Cell), e[j]? = some c → ∃ v, w.cell? (Addr.add ⟨b, lo * k, none⟩ (q * k + j)) = some v ∧ RepF w (okOf base A.own w (updB β i .dead)) c v := fun q e he j c hc => by
            have he' := hget q e he
            obtain ⟨v, hv, hr⟩ := objCell I hb ho he' hc
            refine ⟨v, ?_, (hmono hr).frozen ?_⟩
            · rw [Addr.add_lit, ← hv]
              congr 2
              rw [Nat.add_mul]
              omega
            · unfold flatO at hf
              rw [List.all_eq_true] at hf
              have := hf e (List.mem_of_getElem? he')
              rw [List.all_eq_true] at this
              exact this c (List.mem_of_getElem? hc)
          have hk : ∀ e ∈ (o.es.drop lo).take m, e.length = k := fun e he => O.hlen e (List.mem_of_mem_drop (List.mem_of_mem_take he))
          have := RepF.row (w := w) (ok := okOf base A.own w (updB β i .dead)) (k := k) (t := false) (es := (o.es.drop lo).take m) (A := some ⟨b, lo * k, none⟩) (cap := cap - lo) (fun q j => (w.cell? (Addr.add ⟨b, lo * k, none⟩ (q * k + j))).getD undef) (by omega) (fun h => by cases h) hk (fun _ => ⟨_, rfl, hb'⟩)
            (fun ad had q e he j hj => by
              cases had
              obtain ⟨v, hv, _⟩ := cell q e he j _ (List.getElem?_eq_getElem (by rw [hk e (List.mem_of_getElem? he)]; exact hj))
              rw [hv]; rfl)
            (fun q e he j c hc => by
              obtain ⟨v, hv, hr⟩ := cell q e he j c hc
              rw [hv]; exact hr)
          rw [hl] at this
          rw [O.hk]
          exact this
        · rw [hoe]
          exact RepF.row (es := []) (cap := 0) (fun _ _ => undef) (Nat.le_refl _) (fun h => by cases h) (by simp) (by simp) (fun ad _ i e h => by simp at h) (fun i e h => by simp at h)
      · exact .fz (.any v hr.one)
    · exact hmono hr
  | any => exact hmono hr
  | sc v => exact hmono hr
  | bit => exact hmono hr
  | row k t es => exact hmono hr
  | ptr i j off =>
    show RepC w _ _ (if i = id then (match o.es[j]? with | some e => .fad (e.drop off) | none => .any) else .ptr i j off) v
    split
    · rename_i hi
      subst hi
      split
      · rename_i e he
        refine .fz ?_
        obtain ⟨b, k, cap, hb, rfl⟩ := ptr_live I ho (.c hr)
        have hb' : okOf base A.own w (updB β i .dead) b := by
          have hlo := I.lo i b k cap hb
          refine ⟨fun h => by omega, hlo.2, fun q b' k' cap' hq e => ?_⟩
          by_cases hqi : q = i
          · subst hqi; rw [updB_self] at hq; cases hq
          · rw [updB_ne _ _ hqi] at hq
            subst e
            exact hqi (I.inj q i b' k' cap' k cap hq hb)
        have cell : ∀ (q : Nat) (c : Cell), (e.drop off)[q]? = some c → ∃ v, w.cell? (Addr.add ⟨b, j * k + off, none⟩ q) = some v ∧ RepF w (okOf base A.own w (updB β i .dead)) c v := fun q c hc => by
          rw [List.getElem?_drop] at hc
          obtain ⟨v, hv, hr⟩ := objCell I hb ho he hc
          refine ⟨v, ?_, (hmono hr).frozen ?_⟩
          · rw [Addr.add_lit, ← hv]
            congr 2
            omega
          · unfold flatO at hf
            rw [List.all_eq_true] at hf
            have := hf e (List.mem_of_getElem? he)
            rw [List.all_eq_true] at this
            exact this c (List.mem_of_getElem? hc)
        exact .fad (fun q => (w.cell? (Addr.add ⟨b, j * k + off, none⟩ q)).getD undef) hb'
          (fun q hq => by
            obtain ⟨v, hv, _⟩ := cell q _ (List.getElem?_eq_getElem hq)
            rw [hv]; rfl)
          (fun q c hc => by
            obtain ⟨v, hv, hr⟩ := cell q c hc
            rw [hv]; exact hr)
      · exact .fz (.any v hr.one)
    · exact hmono hr
  | fad cs => exact hmono hr
  | fn g cs => exact hmono hr
theorem Weak.freeze (id : Nat) (o : AObj) (ids : List Nat) (s : St) (ho : look id s.σ = some o) (hf : flatO o = true) : Weak A s (freeze id o ids s) := fun base w0 n β a w I => by
  have K : Inv base A.own w0 (updB β id .dead) (drop id s.σ) w ∧ (∀ i, BLe (β i) (updB β id .dead i)) ∧ ∀ x, okOf base A.own w β x → okOf base A.own w (updB β id .dead) x := by
    rcases live_of I.inv ho with ⟨b, k, cap, hb⟩ | ⟨hb, _⟩
    · obtain ⟨h1, h2⟩ := I.inv.kill hb
      exact ⟨h1, updB_le (by rw [hb]; exact .dead _ _ _), h2⟩
    · exact I.inv.killv hb
  obtain ⟨I1, hle, hok⟩ := K
  have hfz : ∀ {c : Cell} {v : Value}, RepC w (okOf base A.own w β) β c v → RepC w (okOf base A.own w (updB β id .dead)) (updB β id .dead) (frzC id o c) v := fun hr => frz_rep I.inv ho hf hr hok hle
  refine ⟨updB β id .dead, ⟨I1.below, I1.hbase, I1.old, fun i => ?_, fun i q hv hl => ?_, I1.fin, I1.lo, I1.inj, fun i b k cap q hb hl => ?_⟩, I.defers, I.size, fun t v h => ?_, fun i hi => ?_, I.ext.step hle (fun x hx => ⟨hok x hx, rfl⟩)⟩
  · show (look i (mapAt ids (frzO id o) (drop id s.σ))).isSome = true ↔ _
    rw [look_mapAt, Option.isSome_map]
    exact I1.dom i
  · have hl' : look i (mapAt ids (frzO id o) (drop id s.σ)) = some q := hl
    rw [look_mapAt] at hl'
    cases hx : look i (drop id s.σ) with
    | none => rw [hx] at hl'; cases hl'
    | some x =>
      rw [hx] at hl'
      have hxe := I1.virt i x hv hx
      simp only [Option.map_some, Option.some.injEq] at hl'
      subst hl'
      split
      · show x.es.map _ = []
        rw [hxe]; rfl
      · exact hxe
  · have hl' : look i (mapAt ids (frzO id o) (drop id s.σ)) = some q := hl
    rw [look_mapAt] at hl'
    cases hx : look i (drop id s.σ) with
    | none => rw [hx] at hl'; cases hl'
    | some x =>
      rw [hx] at hl'
      simp only [Option.map_some, Option.some.injEq] at hl'
      subst hl'
      have hne : i ≠ id := by
        rintro rfl
        rw [updB_self] at hb
        cases hb
      have hbo : β i = .live b k cap := by rwa [updB_ne _ _ hne] at hb
      have hxo : look i s.σ = some x := by rwa [look_drop, if_neg hne] at hx
      split
      · have O := I.inv.obj i b k cap x hbo hxo
        obtain ⟨arr, ty, h1, h2, h3, h4⟩ := O.hat
        refine ⟨O.hk, by show (x.es.map _).length ≤ cap; rw [List.length_map]; exact O.hcap, fun e he => ?_, arr, ty, h1, h2, h3, fun p e he j c hc => ?_⟩
        · obtain ⟨e0, he0, rfl⟩ := List.mem_map.1 he
          rw [List.length_map]
          exact O.hlen e0 he0
        · have he' : (x.es.map fun e => e.map (frzC id o))[p]? = some e := he
          rw [List.getElem?_map] at he'
          cases hxp : x.es[p]? with
          | none => rw [hxp] at he'; cases he'
          | some e0 =>
            rw [hxp] at he'
            cases he'
            rw [List.getElem?_map] at hc
            cases hxc : e0[j]? with
            | none => rw [hxc] at hc; cases hc
            | some c0 =>
              rw [hxc] at hc
              cases hc
              obtain ⟨v, hv, hr⟩ := h4 p e0 hxp j c0 hxc
              exact ⟨v, hv, hfz hr⟩
      · exact I1.obj i b k cap x hb hx
  · have h' : look t (mapS (frzV id o) s.τ) = some v := h
    rw [look_map] at h'
    cases hx : look t s.τ with
    | none => rw [hx] at h'; cases h'
    | some x =>
      rw [hx] at h'
      cases h'
      obtain ⟨u, hu, hr⟩ := I.tmps t x hx
      refine ⟨u, hu, ?_⟩
      cases hr with
      | any => exact .any _
      | c hr => exact .c (hfz hr)
      | agg hr =>
        refine .agg ⟨by rw [List.length_map]; exact hr.1, fun i c v hc hv => ?_⟩
        rw [List.getElem?_map] at hc
        rename_i cs vs
        cases hxc : cs[i]? with
        | none => rw [hxc] at hc; cases hc
        | some c0 =>
          rw [hxc] at hc
          cases hc
          exact hfz (hr.2 i c0 v hxc hv)
      | tup hl hi => exact (RepV.tup hl hi).mono (fun x hx => ⟨hok x hx, rfl⟩) hle
      | cut hr => exact (RepV.cut hr).mono (fun x hx => ⟨hok x hx, rfl⟩) hle
  · have := I.fresh i hi
    have hne : i ≠ id := by
      rintro rfl
      rcases live_of I.inv ho with ⟨b, k, cap, hb⟩ | ⟨hb, _⟩ <;> (rw [this] at hb; cases hb)
    rw [updB_ne _ _ hne]
    exact this
end
end Go.Proofs.YtphlhadgcfndhaaGreat.Abs
