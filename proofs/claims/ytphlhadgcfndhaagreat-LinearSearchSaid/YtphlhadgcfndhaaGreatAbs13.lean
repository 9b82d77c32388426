/- The operations of a region whose order is drawn: whatever the order, they come to the same. -/
import Derived.Test.YtphlhadgcfndhaaGreatAbs12
namespace Go.Proofs.YtphlhadgcfndhaaGreat.Abs
open Go Go.RowKit
set_option linter.unusedVariables false
set_option linter.unusedSimpArgs false

/-- What an operation writes and reads. -/
structure UE where
  d : Option Nat
  v : AVal
  wr : Option (Nat × AObj)
  kill : Option Nat
  rd : List Nat
def UE.τ (u : UE) (τ : Tau) : Tau := match u.d with
  | none => τ
  | some d => putT d u.v τ
def UE.σ (u : UE) (σ : Sig) : Sig := match u.wr with
  | none => σ
  | some (id, o) => match u.kill with
    | none => putA id o σ
    | some k => putA id o (drop k σ)
def UE.wids (u : UE) : List Nat := (match u.wr with
  | none => []
  | some (id, _) => [id]) ++ (match u.kill with
  | none => []
  | some k => [k])
def Plan.ids : Plan → List Nat
  | .use ids _ => ids
  | _ => []
def UE.of (d : Option Nat) (fr : Nat) (ids : List Nat) : Eff → UE
  | .val v => ⟨d, v, none, none, ids⟩
  | .wr id o v => ⟨d, v, some (id, o), none, ids⟩
  | .new o v => ⟨d, v fr, some (fr, o), none, ids⟩
  | .mv id o v => ⟨d, v fr, some (fr, o), some id, ids⟩
  | .call _ _ => ⟨d, .any, none, none, ids⟩
theorem UE.of_σ (d : Option Nat) (fr : Nat) (ids : List Nat) (e : Eff) (σ : Sig) : (UE.of d fr ids e).σ σ = e.sig fr σ := by cases e <;> rfl
theorem UE.of_v (d : Option Nat) (fr : Nat) (ids : List Nat) (e : Eff) : (UE.of d fr ids e).v = e.aval fr := by cases e <;> rfl
theorem UE.of_d (d : Option Nat) (fr : Nat) (ids : List Nat) (e : Eff) : (UE.of d fr ids e).d = d := by cases e <;> rfl
theorem UE.of_rd (d : Option Nat) (fr : Nat) (ids : List Nat) (e : Eff) : (UE.of d fr ids e).rd = ids := by cases e <;> rfl
def okD (n : Nat) : Option Nat → Bool
  | none => true
  | some d => d < n
def idC : Cell → List Nat
  | .ref id _ _ => [id]
  | .ptr id _ _ => [id]
  | _ => []
def idCs : List Cell → List Nat
  | [] => []
  | c :: cs => idC c ++ idCs cs
def idV : AVal → List Nat
  | .c x => idC x
  | .agg cs => idCs cs
  | _ => []
def idVs : List AVal → List Nat
  | [] => []
  | v :: vs => idV v ++ idVs vs
/-- One operation's writes; a call takes its result out of the answers. -/
def evU (T : TyEnv) (C : FuncId → List AVal → AVal → Prop) (n : Nat) (ops : Array Oper) (o : Oper) (τ : Tau) (σ : Sig) (fr : Nat) (ans : List AVal) : Option (UE × List AVal × Prop × Nat) :=
  if okD n o.dst = true then
  match wantedA ops τ o with
  | none => none
  | some false => some (⟨o.dst, .tup [], none, none, []⟩, ans, True, fr)
  | some true => match (planOp T (opval τ) o.op).run σ with
    | none => none
    | some (.call g as, p) => if isCallOp o.op = true then (match ans with
      | r :: ans => match newG r with
        | some (v, q, kl, obs) => if fr < 100000 ∧ ops.size < 100000 then some (⟨o.dst, shV fr v, some (fr, q), kl, (planOp T (opval τ) o.op).ids ++ obs.map Prod.fst⟩, ans, p ∧ looksA obs σ ∧ C g as r, fr + 1) else none
        | none => match newM r with
        | some (id, m, q, ob) => some (⟨o.dst, .c (.ref fr 0 m), some (fr, q), some id, (planOp T (opval τ) o.op).ids ++ [id]⟩, ans, p ∧ look id σ = some ob ∧ C g as r, fr + 1)
        | none => match newR r with
        | some (m, q) => if as.all frozenV = true ∧ flatO q = true then some (⟨o.dst, .c (.ref fr 0 m), some (fr, q), none, (planOp T (opval τ) o.op).ids⟩, ans, p ∧ C g as r, fr + 1)
          else if plainO q = true then some (⟨o.dst, .c (.ref fr 0 m), some (fr, q), none, (planOp T (opval τ) o.op).ids ++ idVs as⟩, ans, p ∧ flatVs σ as ∧ C g (as.map (rdV σ)) r, fr + 1) else none
        | none => if as.all frozenV = true then some (⟨o.dst, r, none, none, (planOp T (opval τ) o.op).ids⟩, ans, p ∧ C g as r, fr)
          else if plainV r = true then some (⟨o.dst, r, none, none, (planOp T (opval τ) o.op).ids ++ idVs as⟩, ans, p ∧ flatVs σ as ∧ C g (as.map (rdV σ)) r, fr) else none
      | [] => none) else none
    | some (e, p) => some (UE.of o.dst fr (planOp T (opval τ) o.op).ids e, ans, p, fr + 1)
  else none

structure InvT (base : Nat) (A : Old) (w0 : World) (n : Nat) (β : Nat → Bnd) (τ : Tau) (σ : Sig) (a : Act) (w : World) : Prop where
  inv : Inv base A.own w0 β σ w
  defers : a.defers = []
  size : a.tmps.size = n
  tmps : ∀ t v, look t τ = some v → ∃ u, a.tmps[t]? = some u ∧ RepV w (okOf base A.own w β) β v u
  ext : Ext base A w0 β w

section
variable {P : Program} {base : Nat} {A : Old} {w0 w : World} {β : Nat → Bnd} {τ : Tau} {σ : Sig} {n : Nat} {a : Act}

theorem Inv.congr (I : Inv base A.own w0 β σ w) {σ' : Sig} (h : ∀ id, look id σ' = look id σ) : Inv base A.own w0 β σ' w :=
  ⟨I.below, I.hbase, I.old, fun id => by rw [h]; exact I.dom id, fun id o hv hl => I.virt id o hv (by rw [← h]; exact hl), I.fin, I.lo, I.inj, fun id b k cap o hb hl => I.obj id b k cap o hb (by rw [← h]; exact hl)⟩
theorem InvT.congr (I : InvT base A w0 n β τ σ a w) {τ' : Tau} {σ' : Sig} (ht : ∀ t, look t τ' = look t τ) (h : ∀ id, look id σ' = look id σ) : InvT base A w0 n β τ' σ' a w :=
  ⟨I.inv.congr h, I.defers, I.size, fun t v hl => I.tmps t v (by rw [← ht]; exact hl), I.ext⟩
theorem InvT.toS {fr : Nat} (I : InvT base A w0 n β τ σ a w) (hf : ∀ id, fr ≤ id → β id = .no) : InvS base A w0 n β ⟨τ, σ, fr⟩ a w := ⟨I.inv, I.defers, I.size, I.tmps, hf, I.ext⟩
theorem InvS.toT {s : St} (I : InvS base A w0 n β s a w) : InvT base A w0 n β s.τ s.σ a w := ⟨I.inv, I.defers, I.size, I.tmps, I.ext⟩
theorem opval_repT (I : InvT base A w0 n β τ σ a w) (x : Operand) : RepV w (okOf base A.own w β) β (opval τ x) (a.eval x) := by
  obtain ⟨N, hN⟩ := I.inv.fin
  exact opval_rep (I.toS hN) x
theorem wanted_soundT (I : InvT base A w0 n β τ σ a w) {ops : Array Oper} {o : Oper} {b : Bool} (h : wantedA ops τ o = some b) : Region.wanted o (yielded ops a.tmps) = b := by
  obtain ⟨N, hN⟩ := I.inv.fin
  exact wanted_sound (I.toS hN) h
theorem put_invT (I : InvT base A w0 n β τ σ a w) {w' : World} {β' : Nat → Bnd} {σ' : Sig} (I' : Inv base A.own w0 β' σ' w') (hle : ∀ i, BLe (β i) (β' i)) (hok : ∀ x, okOf base A.own w β x → okOf base A.own w' β' x ∧ w'.heap[x]? = w.heap[x]?)
    {d : Option Nat} {v : AVal} {u : Value} (hv : RepV w' (okOf base A.own w' β') β' v u) (hd : okD n d = true) (ue : UE) (h1 : ue.d = d) (h2 : ue.v = v) : InvT base A w0 n β' (ue.τ τ) σ' (a.put d u) w' := by
  obtain ⟨N, hN⟩ := I.inv.fin
  obtain ⟨N', hN'⟩ := I'.fin
  have hp : putD n d v τ = some (ue.τ τ) := by
    subst h1 h2
    unfold putD UE.τ
    unfold okD at hd
    split
    · rename_i h
      rw [h]
    · rename_i d' h
      rw [h] at hd ⊢
      simp only at hd ⊢
      rw [if_pos (by simpa using hd)]
  exact (put_inv (fr' := N') (I.toS hN) I' hle hok hN' hv hp).toT
/-- One operation, from any state in which its name for a new object is free. -/
theorem evU_sound {T : TyEnv} (hT : TOk P T) {ops : Array Oper} {o : Oper} {ans ans' : List AVal} {u : UE} {fr fr' : Nat} {p : Prop} (he : evU T (PN P) n ops o τ σ fr ans = some (u, ans', p, fr')) (hp : p) (I : InvT base A w0 n β τ σ a w) (hfr : fr' ≠ fr → β fr = .no) (hB : ∀ id, fr + ops.size ≤ id → β id = .no) {i : Nat} (ho : ops[i]? = some o) {Q : Exit → Act → World → Prop} {K : Act → World → Prop}
    (hK : ∀ β' a' w', InvT base A w0 n β' (u.τ τ) (u.σ σ) a' w' → (∀ j, j ≠ fr ∨ fr' = fr → β j = .no → β' j = .no) → K a' w') : wpOp P ops Q i K a w := by
  unfold evU at he
  split at he
  case isFalse => cases he
  rename_i hd
  unfold wpOp
  rw [ho]
  simp only
  split at he
  · cases he
  · rename_i hw
    rw [wanted_soundT I hw, if_neg (by simp)]
    cases he
    exact hK β _ _ (put_invT I I.inv (BLe.refl' β) (fun x h => ⟨h, rfl⟩) undef_rep hd _ rfl rfl) (fun _ _ h => h)
  · rename_i hw
    rw [wanted_soundT I hw, if_pos rfl]
    left
    split at he
    · cases he
    · rename_i g as q hpl
      split at he
      case isFalse => cases he
      rename_i hc
      split at he
      case h_2 => cases he
      rename_i r ans0
      split at he
      · rename_i v q kl obs hng
        split at he
        case isFalse => cases he
        rename_i hsz
        cases he
        obtain ⟨hq, hlk, hP⟩ := hp
        have hP : GenC P g as v q kl obs := by unfold PN at hP; rw [hng] at hP; exact hP
        obtain ⟨fn, hfn, hname, hbody⟩ := hP.1
        obtain ⟨vs, hl, hr, hrun⟩ := call_sound (P := P) (w := w) (opval_repT I) o hc hpl
        unfold Oper.wp
        rw [hrun fn hfn hname hbody, Oper.upon_enter]
        refine (hP.2 base A.own w0 w β σ fr vs I.inv hlk (fun i hi => hB i (by have : LIM = 1000000 := rfl; omega)) (hfr (by omega)) ⟨hl, hr⟩).mono ?_
        rintro e w' ⟨v', β', rfl, I', hle, hok, hno, hv⟩
        have I2 : Inv base A.own w0 β' (UE.σ ⟨o.dst, shV fr v, some (fr, q), kl, (planOp T (opval τ) o.op).ids ++ obs.map Prod.fst⟩ σ) w' := by cases kl <;> exact I'
        exact hK β' _ _ (put_invT I I2 hle hok hv hd _ rfl rfl) (fun j hj h => hno j (by omega) h)
      rename_i hng
      split at he
      · rename_i id m q ob hnm
        cases he
        obtain ⟨hq, hlk, hP⟩ := hp
        have hP : MvC P g as id ob q m := by unfold PN at hP; rw [hng, hnm] at hP; exact hP
        obtain ⟨fn, hfn, hname, hbody⟩ := hP.1
        obtain ⟨vs, hl, hr, hrun⟩ := call_sound (P := P) (w := w) (opval_repT I) o hc hpl
        unfold Oper.wp
        rw [hrun fn hfn hname hbody, Oper.upon_enter]
        refine (hP.2 base A.own w0 w β σ fr vs I.inv hlk (hfr (by omega)) ⟨hl, hr⟩).mono ?_
        rintro e w' ⟨v, β', rfl, I', hle, hok, hno, hv⟩
        exact hK β' _ _ (put_invT I I' hle hok hv hd _ rfl rfl) (fun j hj h => hno j (by omega) h)
      rename_i hnm
      split at he
      · rename_i m q hnr
        split at he
        · rename_i hfz
          cases he
          obtain ⟨hq, hP⟩ := hp
          have hP : New P g as (.c (.ref 0 0 m)) [(0, q)] 1 := by unfold PN at hP; rw [hng, hnm, hnr] at hP; exact hP
          obtain ⟨fn, hfn, hname, hbody⟩ := hP.1
          obtain ⟨vs, hl, hr, hrun⟩ := call_sound (P := P) (w := w) (opval_repT I) o hc hpl
          unfold Oper.wp
          rw [hrun fn hfn hname hbody, Oper.upon_enter]
          refine (new1_calls I.inv (hfr (by omega)) hP hfz.2 hfz.1 ⟨hl, hr⟩).mono ?_
          rintro e w' ⟨v, β', rfl, I', hle, hok, hno, hv⟩
          exact hK β' _ _ (put_invT I I' hle hok hv hd _ rfl rfl) (fun j hj h => hno j (by omega) h)
        · split at he
          case isFalse => cases he
          rename_i hpq
          cases he
          obtain ⟨hq, hfl, hP⟩ := hp
          have hP : New P g (as.map (rdV σ)) (.c (.ref 0 0 m)) [(0, q)] 1 := by unfold PN at hP; rw [hng, hnm, hnr] at hP; exact hP
          obtain ⟨fn, hfn, hname, hbody⟩ := hP.1
          obtain ⟨vs, hl, hr, hrun⟩ := call_sound (P := P) (w := w) (opval_repT I) o hc hpl
          unfold Oper.wp
          rw [hrun fn hfn hname hbody, Oper.upon_enter]
          refine (lend1_calls I.inv (hfr (by omega)) hP hpq hfl ⟨hl, hr⟩).mono ?_
          rintro e w' ⟨v, β', rfl, I', hle, hok, hno, hv⟩
          exact hK β' _ _ (put_invT I I' hle hok hv hd _ rfl rfl) (fun j hj h => hno j (by omega) h)
      rename_i hnr
      split at he
      · rename_i hfz
        cases he
        obtain ⟨hq, hP⟩ := hp
        have hP : Pure P g as r := by unfold PN at hP; rw [hng, hnm, hnr] at hP; exact hP
        obtain ⟨fn, hfn, hname, hbody⟩ := hP.1
        obtain ⟨vs, hl, hr, hrun⟩ := call_sound (P := P) (w := w) (opval_repT I) o hc hpl
        unfold Oper.wp
        rw [hrun fn hfn hname hbody, Oper.upon_enter]
        refine (pure_calls (s := ⟨τ, σ, 0⟩) I.inv hP hfz ⟨hl, hr⟩).mono ?_
        rintro e w' ⟨v, rfl, I', hok, hv⟩
        exact hK β _ _ (put_invT I I' (BLe.refl' β) hok hv hd _ rfl rfl) (fun _ _ h => h)
      · split at he
        case isFalse => cases he
        rename_i hpl2
        cases he
        obtain ⟨hq, hfl, hP⟩ := hp
        have hP : Pure P g (as.map (rdV σ)) r := by unfold PN at hP; rw [hng, hnm, hnr] at hP; exact hP
        obtain ⟨fn, hfn, hname, hbody⟩ := hP.1
        obtain ⟨vs, hl, hr, hrun⟩ := call_sound (P := P) (w := w) (opval_repT I) o hc hpl
        unfold Oper.wp
        rw [hrun fn hfn hname hbody, Oper.upon_enter]
        refine (read_calls (s := ⟨τ, σ, 0⟩) I.inv hP hfl hpl2 ⟨hl, hr⟩).mono ?_
        rintro e w' ⟨v, rfl, I', hok, hv⟩
        exact hK β _ _ (put_invT I I' (BLe.refl' β) hok hv hd _ rfl rfl) (fun _ _ h => h)
    · rename_i e q hnc hpl
      cases he
      obtain ⟨nx, w', hrun, v, β', hnx, I', hle, hok, hfr', hv⟩ := op_sound hT I.inv (hfr (by omega)) (opval_repT I) o hpl hp (fun g as h => hnc g as h)
      rw [← UE.of_σ o.dst fr (planOp T (opval τ) o.op).ids e σ] at I'
      rw [← UE.of_v o.dst fr (planOp T (opval τ) o.op).ids e] at hv
      have := put_invT I I' hle hok hv hd (UE.of o.dst fr (planOp T (opval τ) o.op).ids e) (UE.of_d _ _ _ _) rfl
      have hf : ∀ j, j ≠ fr ∨ fr + 1 = fr → β j = .no → β' j = .no := fun j hj h => hfr' j (by omega) h
      unfold Oper.wp
      rw [hrun]
      rcases hnx with rfl | ⟨rfl, rfl⟩
      · rw [Oper.upon_value]
        exact hK _ _ _ this hf
      · rw [Oper.upon_skip]
        exact hK _ _ _ this hf
end

/-! ### an operation's plan looks at its operands and its objects alone -/
theorem partsF_congr {T : TyEnv} {fs : Array Field} {ρ ρ' : Operand → AVal} : ∀ ps : List (Nat × Operand), (∀ x ∈ ps.map (·.2), ρ x = ρ' x) → partsF T fs ρ ps = partsF T fs ρ' ps
  | [], _ => rfl
  | (i, x) :: r, h => by
    unfold partsF
    rw [h x (by simp), partsF_congr r fun y hy => h y (by simp at hy ⊢; exact .inr hy)]
theorem partsS_congr {size : Nat} {ρ ρ' : Operand → AVal} : ∀ (m : Nat) (ps : List (Nat × Operand)), (∀ x ∈ ps.map (·.2), ρ x = ρ' x) → partsS size ρ m ps = partsS size ρ' m ps
  | _, [], _ => rfl
  | m, (i, x) :: r, h => by
    unfold partsS
    rw [h x (by simp), partsS_congr (m + 1) r fun y hy => h y (by simp at hy ⊢; exact .inr hy)]
theorem partsN_congr {size : Nat} {ρ ρ' : Operand → AVal} : ∀ (m : Nat) (ps : List (Nat × Operand)), (∀ x ∈ ps.map (·.2), ρ x = ρ' x) → partsN size ρ m ps = partsN size ρ' m ps
  | _, [], _ => rfl
  | m, (i, x) :: r, h => by
    unfold partsN
    rw [h x (by simp), partsN_congr (m + 1) r fun y hy => h y (by simp at hy ⊢; exact .inr hy)]
theorem avs_congr {ρ ρ' : Operand → AVal} : ∀ l : List Operand, (∀ x ∈ l, ρ x = ρ' x) → avs ρ l = avs ρ' l
  | [], _ => rfl
  | x :: l, h => by
    unfold avs
    rw [h x (by simp), avs_congr l fun y hy => h y (by simp [hy])]
theorem numOf_congr {ρ ρ' : Operand → AVal} {x : Option Operand} (h : ∀ y, x = some y → ρ y = ρ' y) : numOf ρ x = numOf ρ' x := by
  cases x with
  | none => rfl
  | some x => unfold numOf; simp only [h x rfl]
theorem scs_congr {ρ ρ' : Operand → AVal} : ∀ l : List Operand, (∀ x ∈ l, ρ x = ρ' x) → scs ρ l = scs ρ' l
  | [], _ => rfl
  | x :: l, h => by
    unfold scs
    rw [h x (by simp), scs_congr l fun y hy => h y (by simp [hy])]
theorem capsOf_congr {ρ ρ' : Operand → AVal} : ∀ l : List Operand, (∀ x ∈ l, ρ x = ρ' x) → capsOf ρ l = capsOf ρ' l
  | [], _ => rfl
  | x :: l, h => by
    unfold capsOf
    rw [h x (by simp), capsOf_congr l fun y hy => h y (by simp [hy])]
theorem planOp_congr {T : TyEnv} {ρ ρ' : Operand → AVal} (op : Op) (h : ∀ x ∈ op.operands.toList, ρ x = ρ' x) : planOp T ρ op = planOp T ρ' op := by
  cases op <;> try (rfl; done)
  case build t ps =>
    simp only [planOp]
    have : ∀ ti, planBuild T ti ρ ps.toList = planBuild T ti ρ' ps.toList := fun ti => by
      unfold planBuild
      simp only [partsF_congr ps.toList (fun x hx => h x (by simpa [Op.operands] using hx))]
    simp only [this]
  case buildSlice t len ps =>
    simp only [planOp]
    have : ∀ ti, planBuildS ti len ρ ps.toList = planBuildS ti len ρ' ps.toList := fun ti => by
      unfold planBuildS
      simp only [partsS_congr 0 ps.toList (fun x hx => h x (by simpa [Op.operands] using hx)), partsN_congr 0 ps.toList (fun x hx => h x (by simpa [Op.operands] using hx))]
    simp only [this]
  case slice t x lo hi mx =>
    have hx : ρ x = ρ' x := h x (by simp [Op.operands])
    have h1 : numOf ρ lo = numOf ρ' lo := numOf_congr fun y hy => h y (by subst hy; simp [Op.operands])
    have h2 : numOf ρ hi = numOf ρ' hi := numOf_congr fun y hy => h y (by subst hy; simp [Op.operands])
    have h3 : numOf ρ mx = numOf ρ' mx := numOf_congr fun y hy => h y (by subst hy; simp [Op.operands])
    simp only [planOp, planSlice, hx, h1, h2, h3]
  case makeFunc fn first captured =>
    have hs : scs ρ first.toList = scs ρ' first.toList := scs_congr _ fun x hx => h x (by simp [Op.operands]; exact .inl (by simpa using hx))
    have hc : capsOf ρ captured.toList = capsOf ρ' captured.toList := capsOf_congr _ fun x hx => h x (by simp [Op.operands]; exact .inr (by simpa using hx))
    simp only [planOp, planMakeFunc, hs, hc]
  case call c =>
    obtain ⟨callee, args, ats⟩ := c
    have ha : ∀ x ∈ args.toList, ρ x = ρ' x := fun x hx => h x (by simp [Op.operands, Call.operands]; exact .inr (by simpa using hx))
    cases callee with
    | invoke r m => rfl
    | builtin b =>
      cases b <;> try (rfl; done)
      all_goals
        simp only [planOp]
        split
        · first
            | (rename_i hargs hats
               simp only [hargs, List.mem_cons, List.not_mem_nil, or_false, forall_eq_or_imp, forall_eq] at ha
               simp only [ha])
            | (rename_i hargs
               simp only [hargs, List.mem_cons, List.not_mem_nil, or_false, forall_eq_or_imp, forall_eq] at ha
               simp only [ha])
        · rfl
    | value f =>
      have hf : ρ f = ρ' f := h f (by simp [Op.operands, Call.operands])
      simp only [planOp, hf, avs_congr args.toList ha]
  all_goals
    simp only [Op.operands, List.mem_cons, List.not_mem_nil, or_false, forall_eq_or_imp, forall_eq] at h
    simp only [planOp, h]
end Go.Proofs.YtphlhadgcfndhaaGreat.Abs
