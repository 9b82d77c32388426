/- Code over states told without addresses: regions, tests, blocks, loops, calls. -/
import Derived.Test.YtphlhadgcfndhaaGreatAbs16
namespace Go.Proofs.YtphlhadgcfndhaaGreat.Abs
open Go Go.RowKit
set_option linter.unusedVariables false
set_option linter.unusedSimpArgs false

section
variable {P : Program} {base : Nat} {A : Old} {w0 : World} {n : Nat}

def AW (P : Program) (base : Nat) (A : Old) (w0 : World) (n : Nat) (c : Code) (s : St) (Q : Exit → St → Prop) : Prop :=
  ∀ β a w, InvS base A w0 n β s a w → c.wp P (fun e a' w' => ∃ s' β', Q e s' ∧ InvS base A w0 n β' s' a' w') a w
def thenA (K : St → Prop) (Q : Exit → St → Prop) : Exit → St → Prop
  | .normal, s => K s
  | e, s => Q e s
def blockA (id : Nat) (Q : Exit → St → Prop) : Exit → St → Prop
  | .exit id', s => if id' = id then Q .normal s else Q (.exit id') s
  | e, s => Q e s
/-- A state that says less of the same. -/
def Weak (A : Old) (s s' : St) : Prop := ∀ (base : Nat) (w0 : World) (n : Nat) (β : Nat → Bnd) (a : Act) (w : World), InvS base A w0 n β s a w → ∃ β', InvS base A w0 n β' s' a w
theorem Weak.refl (s : St) : Weak A s s := fun _ _ _ β _ _ I => ⟨β, I⟩
theorem Weak.trans {s s' s'' : St} (h : Weak A s s') (g : Weak A s' s'') : Weak A s s'' := fun base w0 n β a w I => by
  obtain ⟨β', I'⟩ := h base w0 n β a w I
  exact g base w0 n β' a w I'
theorem AW.weak {c : Code} {s s' : St} {Q : Exit → St → Prop} (h : Weak A s s') (hc : AW P base A w0 n c s' Q) : AW P base A w0 n c s Q := fun β a w I => by
  obtain ⟨β', I'⟩ := h base w0 n β a w I
  exact hc β' a w I'
theorem AW.mono {c : Code} {s : St} {Q Q' : Exit → St → Prop} (hc : AW P base A w0 n c s Q) (h : ∀ e s', Q e s' → ∃ s'', Weak A s' s'' ∧ Q' e s'') : AW P base A w0 n c s Q' := fun β a w I =>
  wp_mono (hc β a w I) fun e a' w' ⟨s', β', hq, I'⟩ => by
    obtain ⟨s'', hw, hq'⟩ := h e s' hq
    obtain ⟨β'', I''⟩ := hw base w0 n β' a' w' I'
    exact ⟨s'', β'', hq', I''⟩
theorem AW.skip {s : St} {Q : Exit → St → Prop} (h : Q .normal s) : AW P base A w0 n .skip s Q := fun β a w I => wp_skip ⟨s, β, h, I⟩
theorem AW.label {l : Nat} {s : St} {Q : Exit → St → Prop} (h : Q .normal s) : AW P base A w0 n (.label l) s Q := fun β a w I => wp_label ⟨s, β, h, I⟩
theorem AW.exit {id : Nat} {s : St} {Q : Exit → St → Prop} (h : Q (.exit id) s) : AW P base A w0 n (.exit id) s Q := fun β a w I => wp_exit ⟨s, β, h, I⟩
theorem AW.ret {s : St} {Q : Exit → St → Prop} (h : Q .ret s) : AW P base A w0 n .ret s Q := fun β a w I => wp_ret ⟨s, β, h, I⟩
theorem AW.seq {x y : Code} {s : St} {Q : Exit → St → Prop} (h : AW P base A w0 n x s (thenA (fun s' => AW P base A w0 n y s' Q) Q)) : AW P base A w0 n (.seq x y) s Q := fun β a w I =>
  wp_seq (wp_mono (h β a w I) fun e a' w' ⟨s', β', hq, I'⟩ => by
    cases e with
    | normal => exact hq β' a' w' I'
    | exit id => exact ⟨s', β', hq, I'⟩
    | goto l => exact ⟨s', β', hq, I'⟩
    | ret => exact ⟨s', β', hq, I'⟩
    | panic ch => exact ⟨s', β', hq, I'⟩
    | outgrown => exact ⟨s', β', hq, I'⟩)
theorem AW.cond {c : Operand} {x y : Code} {s : St} {Q : Exit → St → Prop} (b : Bool) (hc : opval s.τ c = .c (.sc (.bool b))) (h : AW P base A w0 n (if b = true then x else y) s Q) : AW P base A w0 n (.cond c x y) s Q := fun β a w I => by
  have hr := opval_rep I c
  rw [hc] at hr
  exact wp_cond (t := b) (sc_of hr).1 (h β a w I)
theorem AW.block {id : Nat} {c : Code} {s : St} {Q : Exit → St → Prop} (h : AW P base A w0 n c s (blockA id Q)) : AW P base A w0 n (.block id c) s Q := fun β a w I =>
  wp_block (wp_mono (h β a w I) fun e a' w' ⟨s', β', hq, I'⟩ => by
    cases e with
    | normal => exact ⟨s', β', hq, I'⟩
    | exit id' =>
      by_cases hid : id' = id
      · simp only [blockA, hid, if_true] at hq
        simp only [Exit.inBlock, hid, if_true]
        exact ⟨s', β', hq, I'⟩
      · simp only [blockA, hid, if_false] at hq
        simp only [Exit.inBlock, hid, if_false]
        exact ⟨s', β', hq, I'⟩
    | goto l => exact ⟨s', β', hq, I'⟩
    | ret => exact ⟨s', β', hq, I'⟩
    | panic ch => exact ⟨s', β', hq, I'⟩
    | outgrown => exact ⟨s', β', hq, I'⟩)
theorem loop_rel {c : Code} {Q : Exit → Act → World → Prop} (J : Nat → Act → World → Prop) {m : Nat} {a : Act} {w : World} (h0 : J m a w)
    (round : ∀ m a w, J m a w → c.wp P (Exit.then (fun a' w' => ∃ m', m' < m ∧ J m' a' w') Q) a w) : (Code.loop c).wp P Q a w := by
  intro b k cs
  have key : ∀ m a w, J m a w → ∃ e a' w', Q e a' w' ∧ Arrives P (lone (b.at a (.code c :: .inLoop c :: k)) cs w) b k cs e a' w' := by
    intro m
    induction m using Nat.strongRecOn with
    | _ m ih =>
      intro a w hJ
      obtain ⟨e, a₁, w₁, hq, harr⟩ := round m a w hJ b (.inLoop c :: k) cs
      cases e with
      | normal =>
        obtain ⟨m', hlt, hJ₁⟩ := hq
        obtain ⟨e₂, a₂, w₂, hq₂, harr₂⟩ := ih m' hlt a₁ w₁ hJ₁
        exact ⟨e₂, a₂, w₂, hq₂, .of_steps (Steps.trans harr (.one step_inLoop)) harr₂⟩
      | exit id => exact ⟨_, a₁, w₁, hq, .pass (x := .inLoop c) rfl (fun _ _ => .inl (by simp)) harr⟩
      | goto l => exact ⟨_, a₁, w₁, hq, .pass (x := .inLoop c) rfl (fun _ _ => .inl (by simp)) harr⟩
      | ret => exact ⟨_, a₁, w₁, hq, .pass (x := .inLoop c) rfl (fun _ _ => .inl (by simp)) harr⟩
      | panic ch => exact ⟨_, a₁, w₁, hq, .pass (x := .inLoop c) rfl (fun _ _ => .inl (by simp)) harr⟩
      | outgrown => exact ⟨_, a₁, w₁, hq, .pass (x := .inLoop c) rfl (fun _ _ => .inl (by simp)) harr⟩
  obtain ⟨e, a', w', hq, harr⟩ := key m a w h0
  exact ⟨e, a', w', hq, .of_steps (.one step_loop) harr⟩
theorem AW.loop {c : Code} {s : St} {Q : Exit → St → Prop} (I : Nat → St → Prop) (m : Nat) {s0 : St} (hw : Weak A s s0) (h0 : I m s0)
    (round : ∀ m s, I m s → AW P base A w0 n c s (thenA (fun s' => ∃ s'' m', Weak A s' s'' ∧ m' < m ∧ I m' s'') Q)) : AW P base A w0 n (.loop c) s Q := fun β a w Iv => by
  obtain ⟨β0, I0⟩ := hw base w0 n β a w Iv
  refine loop_rel (fun m a w => ∃ s β, I m s ∧ InvS base A w0 n β s a w) ⟨s0, β0, h0, I0⟩ ?_
  rintro m a w ⟨s, β, hI, Is⟩
  refine wp_mono (round m s hI β a w Is) fun e a' w' ⟨s', β', hq, I'⟩ => ?_
  cases e with
  | normal =>
    obtain ⟨s'', m', hw', hlt, hI'⟩ := hq
    obtain ⟨β'', I''⟩ := hw' base w0 n β' a' w' I'
    exact ⟨m', hlt, s'', β'', hI', I''⟩
  | exit id => exact ⟨s', β', hq, I'⟩
  | goto l => exact ⟨s', β', hq, I'⟩
  | ret => exact ⟨s', β', hq, I'⟩
  | panic ch => exact ⟨s', β', hq, I'⟩
  | outgrown => exact ⟨s', β', hq, I'⟩
/-- A region in the text's order. -/
theorem AW.text {T : TyEnv} (hT : TOk P T) {id : Nat} {ops : Array Oper} {s s' : St} {Q : Exit → St → Prop} {ans ans' : List Ans} {p : Prop} (he : evOps P T n ops ops.toList s ans = some (s', ans', p)) (hp : p) (h : Q .normal s') : AW P base A w0 n (.region id ops false) s Q := fun β a w I => by
  refine wp_region ?_
  rw [List.range_eq_range']
  exact evOps_sound hT ops.size 0 (by omega) (by simpa using he) hp I fun β' a' w' I' => ⟨s', β', h, I'⟩
def onOk (ops : Array Oper) : Bool := (List.range ops.size).all fun i => match ops[i]? with
  | some o => o.after.toList.all fun e => decide (e.on < i) || !Region.binds .any e
  | none => true
theorem onOk_sound {ops : Array Oper} (h : onOk ops = true) : ∀ (i : Nat) (o : Oper), ops[i]? = some o → ∀ e ∈ o.after.toList, Region.binds .any e = true → e.on < i := by
  intro i o ho e he hb
  unfold onOk at h
  rw [List.all_eq_true] at h
  have := h i (List.mem_range.2 (Array.getElem?_eq_some_iff.1 ho).1)
  rw [ho] at this
  rw [List.all_eq_true] at this
  have h1 := this e he
  rw [hb] at h1
  simpa using h1
def allP : List Rec → Prop
  | [] => True
  | r :: R => r.p ∧ allP R
theorem allP_mem : ∀ {R : List Rec}, allP R → ∀ r ∈ R, r.p
  | [], _, _, h => by cases h
  | q :: R, hp, r, h => by
    rcases List.mem_cons.1 h with rfl | h
    · exact hp.1
    · exact allP_mem hp.2 r h
/-- A region whose order is drawn. -/
theorem AW.draw (hm : P.follows .mixedOrders = true) {T : TyEnv} (hT : TOk P T) {id : Nat} {ops : Array Oper} {s : St} {Q : Exit → St → Prop} {ans : List AVal} {R : List Rec} (hev : evUs T (PN P) n ops ops.toList s.τ s.σ s.fr ans = some R) (hon : onOk ops = true) (hchk : chkAll ops (depTab ops) ops.toList R = true) (hp : allP R)
    (h : Q .normal (endSt R s)) : AW P base A w0 n (.region id ops true) s Q := fun β a w I => by
  obtain ⟨hl, hat, hmono⟩ := evUs_at ops.toList s.τ s.σ s.fr ans R hev
  refine wp_region_any hm ?_
  have hd : Below base w { w with drawn := w.drawn + 1 } := ⟨rfl, rfl, rfl, Nat.le_refl _, fun _ _ => rfl⟩
  have I1 : InvS base A w0 n β s a { w with drawn := w.drawn + 1 } := ⟨I.inv.heap hd rfl, I.defers, I.size, fun t v hv => by
    obtain ⟨u, hu, hr⟩ := I.tmps t v hv
    exact ⟨u, hu, RepV.mono (w := w) (ok := okOf base A.own w β) (w' := { w with drawn := w.drawn + 1 }) (ok' := okOf base A.own { w with drawn := w.drawn + 1 } β) (β := β) (β' := β) (fun x hx => ⟨hx, rfl⟩) (BLe.refl' β) hr⟩, I.fresh, I.ext.step (BLe.refl' β) (fun x hx => ⟨hx, rfl⟩)⟩
  have hf : (fun j => (Array.replicate ops.size false).getD j false) = fun _ => false := by
    funext j
    rw [Array.getD_eq_getD_getElem?, Array.getElem?_replicate]
    split <;> rfl
  refine any_go (A := A) (base := base) (w0 := w0) (n := n) (s := s) hT hev (allP_mem hp) hchk (Q := fun e a' w' => ∃ s' β', Q e s' ∧ InvS base A w0 n β' s' a' w') (fun a' w' J => ?_) (onOk_sound hon) ops.size _ a _ (by simp) ?_ ?_ ?_
  · obtain ⟨β', I', hfr⟩ := J
    obtain ⟨e1, e2⟩ := endSt_τ R 0 s
    rw [← e1, ← e2] at I'
    have hle : ∀ (i : Nat) (r : Rec), R[i]? = some r → s.fr ≤ r.fr ∧ r.fr ≤ r.fr' := fun i r hr => by
      have hi : i < ops.toList.length := by rw [← hl]; exact (List.getElem?_eq_some_iff.1 hr).1
      obtain ⟨g1, g2⟩ := hat i _ r (List.getElem?_eq_getElem hi) hr
      have := (evU_fr g1).1
      exact ⟨g2, by omega⟩
    obtain ⟨g1, g2⟩ := endSt_fr R s hmono hle
    refine ⟨endSt R s, β', h, I'.toS fun id hid => hfr id (by omega) fun j r hr _ => ?_⟩
    have h1 := g2 j r hr
    have h2 := (hle j r hr).2
    omega
  · rw [hf]
    intro i o ho hb
    cases hb
  · exact Nat.le_trans (List.length_filter_le _ _) (by simp)
  · rw [hf]
    refine ⟨β, ?_, fun id hid _ => I.fresh id hid⟩
    rw [selτ_false, selσ_false]
    exact I1.toT
/-! ### steps as they stand in a text -/
theorem AW.st {T : TyEnv} (hT : TOk P T) {id : Nat} {ops : Array Oper} {y : Code} {s s' : St} {Q : Exit → St → Prop} (ans : List Ans) {ans' : List Ans} {p : Prop} (he : evOps P T n ops ops.toList s ans = some (s', ans', p)) (hp : p) (h : AW P base A w0 n y s' Q) : AW P base A w0 n (.seq (.region id ops false) y) s Q := AW.seq (AW.text hT he hp h)
theorem AW.dr (hm : P.follows .mixedOrders = true) {T : TyEnv} (hT : TOk P T) {id : Nat} {ops : Array Oper} {y : Code} {s : St} {Q : Exit → St → Prop} (ans : List AVal) {R : List Rec} (hev : evUs T (PN P) n ops ops.toList s.τ s.σ s.fr ans = some R) (hon : onOk ops = true) (hchk : chkAll ops (depTab ops) ops.toList R = true) (hp : allP R)
    (h : AW P base A w0 n y (endSt R s) Q) : AW P base A w0 n (.seq (.region id ops true) y) s Q := AW.seq (AW.draw hm hT hev hon hchk hp h)
/-- A test that may go either way. -/
theorem AW.either {c : Operand} {x y : Code} {s : St} {Q : Exit → St → Prop} (hc : opval s.τ c = .c .bit) (ht : AW P base A w0 n x s Q) (hf : AW P base A w0 n y s Q) : AW P base A w0 n (.cond c x y) s Q := fun β a w I => by
  have hr := opval_rep I c
  rw [hc] at hr
  generalize hv : a.eval c = v at hr
  cases hr with
  | c hr => cases hr with
    | fz hr => cases hr with
      | bit b =>
        refine wp_cond (t := b) hv ?_
        cases b with
        | true => exact ht β a w I
        | false => exact hf β a w I
theorem AW.iff (b : Bool) {c : Operand} {x y : Code} {s : St} {Q : Exit → St → Prop} (hc : opval s.τ c = .c (.sc (.bool b))) (ht : b = true → AW P base A w0 n x s Q) (hf : b = false → AW P base A w0 n y s Q) : AW P base A w0 n (.cond c x y) s Q := AW.cond b hc (by
  cases b with
  | true => exact ht rfl
  | false => exact hf rfl)
end

/-! ### a whole call -/
def entry : Nat → List AVal → Tau
  | _, [] => []
  | k, v :: vs => (k, v) :: entry (k + 1) vs
theorem look_entry : ∀ (vs : List AVal) (k t : Nat) (v : AVal), look t (entry k vs) = some v → k ≤ t ∧ vs[t - k]? = some v
  | [], _, _, _, h => by cases h
  | x :: vs, k, t, v, h => by
    rw [entry, look] at h
    split at h
    · rename_i e
      subst e
      cases h
      simp
    · rename_i hne
      obtain ⟨h1, h2⟩ := look_entry vs (k + 1) t v h
      refine ⟨by omega, ?_⟩
      rw [show t - k = (t - (k + 1)) + 1 from by omega]
      simpa using h2
def resOne (T : TyEnv) (s : St) : ResultVar → Option AVal
  | .tmp t => some (opval s.τ (.tmp t))
  | .cell a t => match opval s.τ (.tmp a), look t T with
    | .c (.ptr id i off), some ti => match look id s.σ with
      | some o => match o.es[i]? with
        | some e => readA ti (e.drop off)
        | none => none
      | none => none
    | _, _ => none
def resAll (T : TyEnv) (s : St) : List ResultVar → Option (List AVal)
  | [] => some []
  | r :: rs => match resOne T s r, resAll T s rs with
    | some v, some vs => if frozenV v = true then some (v :: vs) else none
    | _, _ => none
def resA (T : TyEnv) (s : St) (rs : List ResultVar) : Option AVal := match resAll T s rs with
  | some [v] => some v
  | some vs => some (.tup vs)
  | none => none
section
variable {P : Program} {base : Nat} {A : Old} {w0 w : World} {n : Nat} {β : Nat → Bnd} {s : St} {a : Act}
theorem read_at {σ : Sig} (I : Inv base A.own w0 β σ w) {id b k cap : Nat} (hb : β id = .live b k cap) {o : AObj} (ho : look id σ = some o) {i off : Nat} {e : List Cell} (he : o.es[i]? = some e) {t : Nat} {ti : TI} (h : TyOk P t ti) {v : AVal} (hv : readA ti (e.drop off) = some v) :
    ∃ u, (Instr.loadAt t (.pointer (some ⟨b, i * k + off, none⟩))).run P w = .ok u w ∧ RepV w (okOf base A.own w β) β v u := by
  have hc : ∀ (j : Nat) (c : Cell), (e.drop off)[j]? = some c → ∃ v, w.cell? (Addr.add ⟨b, i * k + off, none⟩ j) = some v ∧ RepC w (okOf base A.own w β) β c v := fun j c hc => by
    rw [List.getElem?_drop] at hc
    obtain ⟨v, hv, hr⟩ := objCell I hb ho he hc
    refine ⟨v, ?_, hr⟩
    rw [Addr.add_lit, Nat.add_assoc]
    exact hv
  exact read_sound h (ad := ⟨b, i * k + off, none⟩) (cs := e.drop off) (fun j => (w.cell? (Addr.add ⟨b, i * k + off, none⟩ j)).getD undef)
    (fun j hj => by
      obtain ⟨v, hv, _⟩ := hc j _ (List.getElem?_eq_getElem hj)
      rw [hv]; rfl)
    (fun j c hj => by
      obtain ⟨v, hv, hr⟩ := hc j c hj
      rw [hv]; exact hr) hv
theorem resOne_sound {T : TyEnv} (hT : TOk P T) (I : InvS base A w0 n β s a w) {r : ResultVar} {v : AVal} (h : resOne T s r = some v) :
    ∃ u, (match r with | .tmp t => pure (a.tmps.getD t undef) | .cell b t => do loadVar t (← asAddr (a.tmps.getD b undef)) : Sem Value).run P w = .ok u w ∧ RepV w (okOf base A.own w β) β v u := by
  cases r with
  | tmp t =>
    cases h
    exact ⟨_, rfl, opval_rep I (.tmp t)⟩
  | cell b t =>
    unfold resOne at h
    simp only at h
    split at h
    case h_2 => cases h
    rename_i id i off ti hop hti
    split at h
    case h_2 => cases h
    rename_i o ho
    split at h
    case h_2 => cases h
    rename_i e he
    have hr := opval_rep I (.tmp b)
    rw [hop] at hr
    obtain ⟨bb, k, cap, hb, hu⟩ := ptr_live I.inv ho hr
    have hu' : a.tmps.getD b undef = .pointer (some ⟨bb, i * k + off, none⟩) := hu
    -- the load's own run
    obtain ⟨u', h4, h5⟩ := read_at I.inv hb ho he (hT _ _ hti) (off := off) h
    refine ⟨u', ?_, h5⟩
    have h4' : (loadVar t ⟨bb, i * k + off, none⟩).run P w = .ok u' w := by
      simpa [Instr.loadAt, Instr.sureAddr] using h4
    simp only [hu', asAddr, Sem.run_bind, Sem.run_pure, Result.andThen_ok]
    exact h4'
end
end Go.Proofs.YtphlhadgcfndhaaGreat.Abs
