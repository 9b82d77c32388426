/- Joined for the claim: WDrC WXnum2 -/
import Derived.Test.YtphlhadgcfndhaaDoorAbsS
import Derived.Test.YtphlhadgcfndhaaDoorJd7
section
namespace Go.Proofs.YtphlhadgcfndhaaDoor.Abs
open Go Go.RowKit
set_option linter.unusedVariables false
set_option linter.unusedSimpArgs false
section
variable {P : Program} {ops : Array Oper} {m : Nat} {Q Qf : Exit → Act → World → Prop}
theorem upon_Q {o : Oper} {a : Act} {K K' : Act → World → Prop} (hK : ∀ a w, K a w → K' a w) (hp : ∀ ch a w, Qf (.panic ch) a w → Q (.panic ch) a w) (ho : LetsOut Qf → LetsOut Q) {r : Result Next} (h : o.upon P a K Qf r) : o.upon P a K' Q r := by
  cases r with
  | ok n w' =>
    cases n <;> simp only [Oper.upon] at h ⊢ <;>
      first
        | exact hK _ _ h
        | exact Calls.mono h (fun e w'' he => by cases e <;> first | exact hK _ _ he | exact hp _ _ _ he | exact ho he)
        | exact Rows.mono h (fun _ _ he => hK _ _ he)
  | halt x w' => cases x <;> simp only [Oper.upon] at h ⊢ <;> first | exact hp _ _ _ h | exact h
def guardsLt (ops : Array Oper) : Bool := (List.range ops.size).all fun i => match ops[i]? with
  | some o => (match o.guard with
    | some (j, _) => decide (j < i)
    | none => true)
  | none => true
theorem guardsLt_at (h : guardsLt ops = true) {i : Nat} {o : Oper} (ho : ops[i]? = some o) {j : Nat} {b : Bool} (hg : o.guard = some (j, b)) : j < i := by
  unfold guardsLt at h
  rw [List.all_eq_true] at h
  have := h i (List.mem_range.2 (Array.getElem?_eq_some_iff.1 ho).1)
  rw [ho] at this
  simp only [hg] at this
  simpa using this
theorem pop_get (hm : ops.size = m + 1) {i : Nat} (hi : i < m) : ops.pop[i]? = ops[i]? := by
  rw [Array.getElem?_pop, if_pos (by omega)]
theorem wpOp_front (hm : ops.size = m + 1) (hg : guardsLt ops = true) {i : Nat} (hi : i < m) {K K' : Act → World → Prop} (hK : ∀ a w, K a w → K' a w) (hp : ∀ ch a w, Qf (.panic ch) a w → Q (.panic ch) a w) (ho : LetsOut Qf → LetsOut Q) {a : Act} {w : World} (h : wpOp P ops.pop Qf i K a w) : wpOp P ops Q i K' a w := by
  unfold wpOp at h ⊢
  rw [pop_get hm hi] at h
  have hio : ops[i]? = some (ops[i]'(by omega)) := Array.getElem?_eq_getElem (by omega)
  generalize (ops[i]'(by omega)) = o at hio
  rw [hio] at h ⊢
  simp only at h ⊢
  have hw : Region.wanted o (yielded ops.pop a.tmps) = Region.wanted o (yielded ops a.tmps) := by
    unfold Region.wanted
    cases hgo : o.guard with
    | none => rfl
    | some g =>
      obtain ⟨j, b⟩ := g
      have := guardsLt_at hg hio hgo
      simp only [yielded, pop_get hm (show j < m by omega)]
  rw [hw] at h
  split
  · rename_i h1
    rw [if_pos h1] at h
    rcases h with h | ⟨h, h'⟩
    · exact .inl (upon_Q hK hp ho h)
    · exact .inr ⟨h, ho h'⟩
  · rename_i h1
    rw [if_neg h1] at h
    exact hK _ _ h
/-- The last waits for all others. -/
def lastOk (ops : Array Oper) : Bool := (List.range (ops.size - 1)).all fun j => ((depTab ops).getD (ops.size - 1) []).contains j
theorem last_all (hm : ops.size = m + 1) (hl : lastOk ops = true) {b : Nat → Bool} (hc : ClosedL ops b) (hr : ∀ o, ops[m]? = some o → ∀ e ∈ o.after.toList, Region.binds .any e = true → b e.on = true) {j : Nat} (hj : j < m) : b j = true := by
  unfold lastOk at hl
  rw [List.all_eq_true] at hl
  have h1 := hl j (List.mem_range.2 (by omega))
  rw [show ops.size - 1 = m by omega, List.getD_eq_getElem?_getD] at h1
  cases hD : (depTab ops)[m]? with
  | none => rw [hD] at h1; simp at h1
  | some l =>
    rw [hD] at h1
    exact (depTab_sound hD (j := j) (by simpa using h1)).listed hc hr
theorem getD_push (l : Array Bool) (hl : l.size = m) (d : Bool) {j : Nat} (hj : j < m) : (l.push false).getD j d = l.getD j d := by
  rw [Array.getD_eq_getD_getElem?, Array.getD_eq_getD_getElem?, Array.getElem?_push, if_neg (by omega)]
theorem wpAny_last (hm : ops.size = m + 1) (hg : guardsLt ops = true) (hon : onOk ops = true) (hl : lastOk ops = true) (hp : ∀ ch a w, Qf (.panic ch) a w → Q (.panic ch) a w) (ho : LetsOut Qf → LetsOut Q)
    (hf : ∀ a w, Qf .normal a w → wpOp P ops Q m (fun a w => Q .normal a w) a w) : ∀ (f : Nat) (listed : Array Bool) (a : Act) (w : World), listed.size = m → ClosedL ops (fun j => (listed.push false).getD j false) → wpAny P .any ops.pop Qf f listed a w → wpAny P .any ops Q (f + 1) (listed.push false) a w := by
  have edge := onOk_sound hon
  have opm : ops[m]? = some (ops[m]'(by omega)) := Array.getElem?_eq_getElem (by omega)
  -- which are ready
  have rdy : ∀ (listed : Array Bool), listed.size = m → ∀ i, i < m → (i ∈ Region.ready .any ops (listed.push false) ↔ i ∈ Region.ready .any ops.pop listed) := fun listed hsz i hi => by
    rw [mem_ready, mem_ready, pop_get hm hi, getD_push listed hsz true hi]
    refine and_congr_right fun _ => exists_congr fun o => and_congr_right fun hoi => ?_
    refine forall_congr' fun e => ?_
    constructor
    · intro h he hb
      have hlt := edge i o hoi e (by simpa using he) hb
      have := h he hb
      rwa [getD_push listed hsz false (by omega)] at this
    · intro h he hb
      have hlt := edge i o hoi e (by simpa using he) hb
      rw [getD_push listed hsz false (by omega)]
      exact h he hb
  have none_ready : ∀ (listed : Array Bool), listed.size = m → Region.ready .any ops.pop listed = [] → ∀ j, j < m → listed.getD j false = true := fun listed hsz hr j => by
    induction j using Nat.strongRecOn with
    | _ j ih =>
      intro hj
      cases hb : listed.getD j false with
      | true => rfl
      | false =>
        exfalso
        have hoj : ops[j]? = some (ops[j]'(by omega)) := Array.getElem?_eq_getElem (by omega)
        have : j ∈ Region.ready .any ops.pop listed := by
          rw [mem_ready]
          refine ⟨?_, ops[j]'(by omega), by rw [pop_get hm hj]; exact hoj, fun e he hbn => ?_⟩
          · rw [Array.getD_eq_getD_getElem?] at hb ⊢
            rw [Array.getElem?_eq_getElem (by omega)] at hb ⊢
            exact hb
          · have := edge j _ hoj e (by simpa using he) hbn
            exact ih e.on this (by omega)
        rw [hr] at this
        cases this
  have fin : ∀ (f : Nat) (listed : Array Bool) (a : Act) (w : World), listed.size = m → (∀ j, j < m → listed.getD j false = true) → Qf .normal a w → wpAny P .any ops Q (f + 1) (listed.push false) a w := fun f listed a w hsz hall hq => by
    have hmr : m ∈ Region.ready .any ops (listed.push false) := by
      rw [mem_ready]
      refine ⟨?_, _, opm, fun e he hbn => ?_⟩
      · rw [Array.getD_eq_getD_getElem?, Array.getElem?_push, if_pos hsz.symm]
        rfl
      · have := edge m _ opm e (by simpa using he) hbn
        rw [getD_push listed hsz false this]
        exact hall _ this
    have hafter : Region.ready .any ops ((listed.push false).setIfInBounds m true) = [] := by
      rw [List.eq_nil_iff_forall_not_mem]
      intro j hj
      rw [mem_ready] at hj
      obtain ⟨h0, o, hoj, _⟩ := hj
      have hjl : j < m + 1 := by rw [← hm]; exact (Array.getElem?_eq_some_iff.1 hoj).1
      by_cases hjm : j = m
      · subst hjm
        rw [Array.getD_eq_getD_getElem?, Array.getElem?_setIfInBounds, if_pos rfl, if_pos (by rw [Array.size_push]; omega)] at h0
        cases h0
      · rw [Array.getD_eq_getD_getElem?, Array.getElem?_setIfInBounds, if_neg (Ne.symm hjm), Array.getElem?_push, if_neg (by omega)] at h0
        have := hall j (by omega)
        rw [Array.getD_eq_getD_getElem?] at this
        rw [Array.getElem?_eq_getElem (by omega)] at h0 this
        simp only [Option.getD_some] at h0 this
        rw [this] at h0
        cases h0
    refine ⟨fun h => (by rw [h] at hmr; cases hmr), fun i hi => ?_⟩
    have him : i = m := by
      by_cases h : i = m
      · exact h
      · exfalso
        rw [mem_ready] at hi
        obtain ⟨h0, o, hoj, _⟩ := hi
        have hjl : i < m + 1 := by rw [← hm]; exact (Array.getElem?_eq_some_iff.1 hoj).1
        rw [getD_push listed hsz true (by omega)] at h0
        have := hall i (by omega)
        rw [Array.getD_eq_getD_getElem?] at this h0
        rw [Array.getElem?_eq_getElem (by omega)] at h0 this
        simp only [Option.getD_some] at h0 this
        rw [this] at h0
        cases h0
    subst him
    refine wpOp_mono (fun a' w' hq' => ?_) (hf a w hq)
    cases f with
    | zero => exact ⟨hafter, hq'⟩
    | succ f => exact ⟨fun _ => hq', fun i hi => by rw [hafter] at hi; cases hi⟩
  intro f
  induction f with
  | zero =>
    intro listed a w hsz hc h
    exact fin 0 listed a w hsz (none_ready listed hsz h.1) h.2
  | succ f ih =>
    intro listed a w hsz hc h
    obtain ⟨h0, h1⟩ := h
    by_cases hr : Region.ready .any ops.pop listed = []
    · exact fin (f + 1) listed a w hsz (none_ready listed hsz hr) (h0 hr)
    · obtain ⟨i0, hi0⟩ := List.exists_mem_of_ne_nil _ hr
      have lt_of : ∀ i, i ∈ Region.ready .any ops.pop listed → i < m := fun i hi => by
        rw [mem_ready] at hi
        obtain ⟨_, o, hoi, _⟩ := hi
        have := (Array.getElem?_eq_some_iff.1 hoi).1
        rw [Array.size_pop] at this
        omega
      have hi0m := lt_of i0 hi0
      refine ⟨fun h => ?_, fun i hi => ?_⟩
      · have := (rdy listed hsz i0 hi0m).2 hi0
        rw [h] at this
        cases this
      · have him : i < m := by
          have hi' := hi
          rw [mem_ready] at hi'
          obtain ⟨_, o, hoi, hre⟩ := hi'
          have hlt : i < m + 1 := by rw [← hm]; exact (Array.getElem?_eq_some_iff.1 hoi).1
          by_cases h : i = m
          · exfalso
            subst h
            have := last_all hm hl hc (fun o' ho' e he hb => by
              rw [hoi] at ho'
              cases ho'
              exact hre e (by simpa using he) hb) hi0m
            simp only [getD_push listed hsz false hi0m] at this
            rw [mem_ready] at hi0
            obtain ⟨h00, _⟩ := hi0
            rw [Array.getD_eq_getD_getElem?] at this h00
            rw [Array.getElem?_eq_getElem (by omega)] at h00 this
            simp only [Option.getD_some] at h00 this
            rw [this] at h00
            cases h00
          · omega
        have hif := (rdy listed hsz i him).1 hi
        refine wpOp_front hm hg him (fun a' w' hK => ?_) hp ho (h1 i hif)
        have hset : (listed.push false).setIfInBounds i true = (listed.setIfInBounds i true).push false := by
          refine Array.ext_getElem? fun j => ?_
          rw [Array.getElem?_setIfInBounds, Array.getElem?_push, Array.getElem?_push, Array.size_setIfInBounds, Array.size_push, Array.getElem?_setIfInBounds]
          by_cases hji : i = j
          · subst hji
            rw [if_pos rfl, if_pos (by omega), if_neg (by omega), if_pos rfl, if_pos (by omega)]
          · rw [if_neg hji, if_neg hji]
        rw [hset]
        refine ih (listed.setIfInBounds i true) a' w' (by simp [hsz]) ?_ hK
        rw [← hset]
        intro j oj hoj hbj e he hbn
        have gset : ∀ q, ((listed.push false).setIfInBounds i true).getD q false = (q == i || (listed.push false).getD q false) := fun q => by
          by_cases hqi : q = i
          · subst hqi
            rw [Array.getD_eq_getD_getElem?, Array.getElem?_setIfInBounds, if_pos rfl, if_pos (by rw [Array.size_push]; omega)]
            simp
          · rw [Array.getD_eq_getD_getElem?, Array.getElem?_setIfInBounds, if_neg (Ne.symm hqi), ← Array.getD_eq_getD_getElem?]
            simp [hqi]
        simp only [gset] at hbj ⊢
        by_cases hji : j = i
        · subst hji
          rw [mem_ready] at hi
          obtain ⟨_, o, hoi, hre⟩ := hi
          rw [hoi] at hoj
          cases hoj
          simp [hre e (by simpa using he) hbn]
        · simp only [beq_eq_false_iff_ne.2 hji, Bool.false_or] at hbj
          simp [hc j oj hoj hbj e he hbn]
end
section
variable {P : Program} {base : Nat} {A : Old} {w0 : World} {n : Nat}
theorem AW.drawC (hmx : P.follows .mixedOrders = true) {T : TyEnv} (hT : TOk P T) {id : Nat} {ops : Array Oper} {s s' : St} {Q : Exit → St → Prop} {ans : List AVal} {ans2 ans3 : List Ans} {R : List Rec} {o : Oper} {p : Prop} (m : Nat) (hm : ops.size = m + 1) (ho : ops[m]? = some o)
    (hev : evUs T (PN P) n ops.pop ops.pop.toList s.τ s.σ s.fr ans = some R) (hon : onOk ops = true) (hon1 : onOk ops.pop = true) (hchk : chkAll ops.pop (depTab ops.pop) ops.pop.toList R = true) (hg : guardsLt ops = true) (hl : lastOk ops = true) (hp : allP R)
    (hlast : evOp P T n ops o (endSt R s) ans2 = some (s', ans3, p)) (hp2 : p) (h : Q .normal s') : AW P base A w0 n (.region id ops true) s Q := fun β a w I => by
  obtain ⟨hlen, hat, hmono⟩ := evUs_at ops.pop.toList s.τ s.σ s.fr ans R hev
  refine wp_region_any hmx ?_
  have hd : Below base w { w with drawn := w.drawn + 1 } := ⟨rfl, rfl, rfl, Nat.le_refl _, fun _ _ => rfl⟩
  have I1 : InvS base A w0 n β s a { w with drawn := w.drawn + 1 } := ⟨I.inv.heap hd rfl, I.defers, I.size, fun t v hv => by
    obtain ⟨u, hu, hr⟩ := I.tmps t v hv
    exact ⟨u, hu, RepV.mono (w := w) (ok := okOf base A.own w β) (w' := { w with drawn := w.drawn + 1 }) (ok' := okOf base A.own { w with drawn := w.drawn + 1 } β) (β := β) (β' := β) (fun x hx => ⟨hx, rfl⟩) (BLe.refl' β) hr⟩, I.fresh, I.ext.step (BLe.refl' β) (fun x hx => ⟨hx, rfl⟩)⟩
  have hps : ops.pop.size = m := by rw [Array.size_pop]; omega
  have hrep : Array.replicate ops.size false = (Array.replicate m false).push false := by
    rw [hm, Array.replicate_succ]
  have hf : ∀ d, (fun j => (Array.replicate m false).getD j false) = fun _ => (d : Bool) && false := fun d => by
    funext j
    rw [Array.getD_eq_getD_getElem?, Array.getElem?_replicate]
    cases d <;> split <;> rfl
  have hf2 : ∀ j, ((Array.replicate m false).push false).getD j false = false := fun j => by
    rw [Array.getD_eq_getD_getElem?, Array.getElem?_push, Array.getElem?_replicate]
    split
    · rfl
    · split <;> rfl
  have key : wpAny P .any ops.pop (fun e a' w' => match e with
      | .normal => wpOp P ops (fun e a' w' => ∃ s' β', Q e s' ∧ InvS base A w0 n β' s' a' w') m (fun a' w' => ∃ s' β', Q .normal s' ∧ InvS base A w0 n β' s' a' w') a' w'
      | e => ∃ s' β', Q e s' ∧ InvS base A w0 n β' s' a' w') m (Array.replicate m false) a { w with drawn := w.drawn + 1 } := by
    refine any_go (A := A) (base := base) (w0 := w0) (n := n) (s := s) hT hev (allP_mem hp) hchk (fun a' w' J => ?_) (onOk_sound hon1) m _ a _ (by simp [hps]) ?_ ?_ ?_
    · obtain ⟨β', I', hfr⟩ := J
      obtain ⟨e1, e2⟩ := endSt_τ R 0 s
      rw [← e1, ← e2] at I'
      have hle : ∀ (i : Nat) (r : Rec), R[i]? = some r → s.fr ≤ r.fr ∧ r.fr ≤ r.fr' := fun i r hr => by
        have hi : i < ops.pop.toList.length := by rw [← hlen]; exact (List.getElem?_eq_some_iff.1 hr).1
        obtain ⟨g1, g2⟩ := hat i _ r (List.getElem?_eq_getElem hi) hr
        have := (evU_fr g1).1
        exact ⟨g2, by omega⟩
      obtain ⟨g1, g2⟩ := endSt_fr R s hmono hle
      have I2 : InvS base A w0 n β' (endSt R s) a' w' := I'.toS fun id hid => hfr id (by omega) fun j r hr _ => by
        have h1 := g2 j r hr
        have h2 := (hle j r hr).2
        omega
      exact evOp_sound hT hlast hp2 I2 ho fun β2 a2 w2 I3 => ⟨s', β2, h, I3⟩
    · rw [hf true]
      intro i o ho hb
      cases hb
    · rw [hps]
      exact Nat.le_trans (List.length_filter_le _ _) (by simp)
    · rw [hf true]
      refine ⟨β, ?_, fun id hid _ => I.fresh id hid⟩
      show InvT base A w0 n β (selτ (fun _ => false) 0 R s.τ) (selσ (fun _ => false) 0 R s.σ) a _
      rw [selτ_false, selσ_false]
      exact I1.toT
  have := wpAny_last (Q := fun e a' w' => ∃ s' β', Q e s' ∧ InvS base A w0 n β' s' a' w') hm hg hon hl (fun ch a w h => h) (fun ⟨a, w, h⟩ => ⟨a, w, h⟩) (fun a w h => h) m (Array.replicate m false) a { w with drawn := w.drawn + 1 } (by simp) (fun i o ho hb => by simp only [hf2] at hb; cases hb) key
  rw [hrep, hm]
  exact this
theorem AW.drC (hmx : P.follows .mixedOrders = true) {T : TyEnv} (hT : TOk P T) {id : Nat} {ops : Array Oper} {y : Code} {s s' : St} {Q : Exit → St → Prop} (ans : List AVal) (ans2 : List Ans) {ans3 : List Ans} {R : List Rec} {o : Oper} {p : Prop} (m : Nat) (hm : ops.size = m + 1) (ho : ops[m]? = some o)
    (hev : evUs T (PN P) n ops.pop ops.pop.toList s.τ s.σ s.fr ans = some R) (hon : onOk ops = true) (hon1 : onOk ops.pop = true) (hchk : chkAll ops.pop (depTab ops.pop) ops.pop.toList R = true) (hg : guardsLt ops = true) (hl : lastOk ops = true)
    (hlast : evOp P T n ops o (endSt R s) ans2 = some (s', ans3, p)) (hp : allP R) (hp2 : p) (h : AW P base A w0 n y s' Q) : AW P base A w0 n (.seq (.region id ops true) y) s Q := AW.seq (AW.drawC hmx hT m hm ho hev hon hon1 hchk hg hl hp hlast hp2 h)
end
end Go.Proofs.YtphlhadgcfndhaaDoor.Abs
end
section
namespace Go.Proofs.YtphlhadgcfndhaaDoor.Abs
open Go Go.RowKit
set_option linter.unusedVariables false
set_option linter.unusedSimpArgs false
set_option maxHeartbeats 4000000
theorem mapAt_nil' {α : Type} (f : α → α) : ∀ l : List (Nat × α), mapAt [] f l = l
  | [] => rfl
  | (t, v) :: r => by
    rw [mapAt, mapAt_nil' f r]
    rfl
theorem strN_one (n : Int) : strN [n] = digN n ++ [32] := rfl
theorem strN_take (l : List Int) (j : Nat) {x : Int} (hx : l[j]? = some x) : strN (l.take (j + 1)) = strN (l.take j) ++ digN x ++ [32] := by
  have : l.take (j + 1) = l.take j ++ [x] := by rw [List.take_add_one, hx]; rfl
  rw [this, strN_app, strN_one, List.append_assoc]
theorem strN_len : ∀ {l : List Int}, (∀ x ∈ l, 0 ≤ x ∧ x < 100) → (strN l).length ≤ 3 * l.length
  | [], _ => by simp [strN]
  | x :: l, h => by
    have hx := h x (by simp)
    have ih := strN_len (l := l) fun y hy => h y (by simp [hy])
    obtain ⟨n, rfl⟩ : ∃ n : Nat, x = n := ⟨x.toNat, by omega⟩
    have := digN_len n (by omega)
    rw [strN, List.length_append, List.length_cons, List.length_cons]
    omega
/-- A call may be made with fewer names in use. -/
theorem Con.lower {P : Program} {f : FuncId} {xs : List AVal} {σ σ' : Sig} {m m1 m' : Nat} {r : AVal} (h : Con P f xs σ m r σ' m') (hm : m1 ≤ m) : Con P f xs σ m1 r σ' m' :=
  ⟨h.1, fun base A w β rest vs h1 h2 I hf hr => h.2 base A w β rest vs h1 (fun i o ho e he c hc => by
    have := h2 i o ho e he c hc
    cases c <;> first | trivial | exact Nat.lt_of_lt_of_le this hm) I (fun id hid => hf id (Nat.le_trans hm hid)) hr⟩
theorem numbers_con (t : Bool) (id : Nat) (hid : id = 1000001 ∨ id = 1000103) (b : List Int) (l : List Int) (hl0 : l ≠ []) (hl : ∀ x ∈ l, 0 ≤ x ∧ x < 100) (hb : b.length + 3 * l.length < 1000000) : Con Tryd.prog 42 [.c (.ptr 1000000 0 0), .c (.row 1 t (l.map encn))] (encS id b) 1000110 (.tup []) (encS 1000112 (b ++ strN l)) 1000114 := by
  have hpos : 0 < l.length := List.length_pos_iff.2 hl0
  have hid' : id < 1000110 := by omega
  refine con_of teOk Tryd.func42 (by kernel_rfl) (c := _) rfl (N := 24) rfl (rs := []) rfl (by simp) fun base A w0 rest hrest hrefs hA => ?_
  have hh := hiS_low hrest
  have hl' := loS_low hrest
  have hdr := fun k hk => drop_rest hrest k hk
  have hrn : ∀ (ρ : List (Nat × Nat)) (ids : List Nat), (ids.all fun i => decide (1000000 ≤ i)) = true → rnS 1000000 ρ ids rest = rest := fun ρ ids h => rnS_low h hrest
  rcases hid with rfl | rfl
  all_goals
    refine AW.st teOk [] (by simp [hdr, -Option.some.injEq] <;> rfl) trivial ?_
    refine AW.block (AW.loop (fun m s => ∃ (j q : Nat), m = l.length - j ∧ j ≤ l.length ∧ (q = _ ∧ j = 0 ∨ q = 1000112) ∧ s = ⟨[(0, .c (.ptr 1000000 0 0)), (6, .c (.row 1 t (l.map encn))), (7, .c (cI l.length)), (8, .c (cI j))], encS q (b ++ strN (l.take j)) ++ rest, 1000114⟩) _ (Weak.normCS hA hrefs [0, 6, 7, 8] [(0, 1000000)] [(1000001, 1000001), (1000103, 1000103)] [1000000] 1000114 _ (by simp [hl']) (by simp) (by simp) (by simp) (by simp [hh]) (by simp [hh])) ⟨0, _, rfl, Nat.zero_le _, .inl ⟨rfl, rfl⟩, by simp [normL, hh, hl', hrn, strN] <;> rfl⟩ ?_)
  all_goals
    rintro m s ⟨j, q, rfl, hj, hq, rfl⟩
    have hinc : IntKind.i64.wrap ((j : Int) + 1) = (j : Int) + 1 := wrap_s _ (by omega)
    have h3 : ∀ q : Nat, (q = 1000001 ∧ j = 0 ∨ q = 1000112) ∨ (q = 1000103 ∧ j = 0 ∨ q = 1000112) → q = 1000001 ∨ q = 1000103 ∨ q = 1000112 := fun q h => by omega
    have hlenj : (strN (l.take j)).length ≤ 3 * j := by
      have := strN_len (l := l.take j) fun x hx => hl x (List.mem_of_mem_take hx)
      rw [List.length_take] at this
      omega
    by_cases hjn : j < l.length
    · have hbody := h3 q (by first | exact .inl hq | exact .inr hq)
      obtain ⟨x, hx⟩ : ∃ x, l[j]? = some x := ⟨_, List.getElem?_eq_getElem hjn⟩
      have hxr := hl x (List.mem_of_getElem? hx)
      have htk := strN_take l j hx
      obtain ⟨n, rfl⟩ : ∃ n : Nat, x = n := ⟨x.toNat, by omega⟩
      have hdl := digN_len n (by omega)
      have hc := appI_con q hbody (b ++ strN (l.take j)) (by rw [List.length_append]; omega) n (by omega)
      clear hq h3
      generalize strN (l.take j) = dn at *
      rcases hbody with rfl | rfl | rfl
      all_goals
        refine AW.st teOk [] (by simp [hdr, -Option.some.injEq] <;> rfl) trivial ?_
        refine AW.seq (AW.iff true (by simp [hjn]) (fun _ => AW.skip ?_) (fun h => by cases h))
        refine AW.seq (AW.block ?_)
        refine AW.st teOk [] (by simp [hdr, hx, -Option.some.injEq] <;> rfl) ?_ ?_
        · exact hjn
        refine AW.text teOk (ans := [.own (.c (.ref 1000130 0 ((b ++ dn).length + (digN n).length))) (encT 1000130 ((b ++ dn) ++ digN n)) 1000173]) (by simp [hdr, hh, hl', -Option.some.injEq] <;> rfl) ?_ ?_
        · simp [growOk]
          exact ⟨by simpa using hc, by omega, by omega⟩
        refine AW.text teOk (ans := []) (by simp [hdr, -Option.some.injEq] <;> rfl) ?_ ?_
        · trivial
        refine ⟨_, _, Weak.normCS hA hrefs [0, 6, 7, 8] [(0, 1000000)] [(1000174, 1000112)] [1000000] 1000114 _ (by simp [hl']) (by simp) (by simp) (by simp) (by simp [hh]) (by simp [hh]), ?_, j + 1, 1000112, rfl, hjn, .inr rfl, ?_⟩
        · omega
        · simp [normL, hh, hl', hrn, hinc, htk]
          omega
    have hjn' : j = l.length := by omega
    subst hjn'
    have hq2 : q = 1000112 := by omega
    subst hq2
    refine AW.st teOk [] (by simp [hdr, -Option.some.injEq] <;> rfl) trivial ?_
    refine AW.seq (AW.iff false (by simp) (fun h => by cases h) (fun h => AW.exit (x_then (x_then (blockA_exit ?_)))))
    refine ⟨.inl rfl, _, Weak.normCS hA hrefs [0] [(0, 1000000)] [(1000112, 1000112)] [1000000] 1000114 _ (by simp [hl']) (by simp) (by simp) (by simp) (by simp [hh]) (by simp [hh]), by simp, by simp [normL, hh, hl', hrn], rfl⟩
theorem vecN_len (v : V2) : (vecN v).length = 1 + 2 * v.length := by
  unfold vecN
  rw [List.length_cons]
  have e : ∀ v : V2, (v.flatMap entN).length = 2 * v.length := fun v => by
    induction v with
    | nil => rfl
    | cons x v ih => rw [List.flatMap_cons, List.length_append, ih, List.length_cons]; simp [entN]; omega
  rw [e]
  omega
theorem vec_take (v : V2) (j : Nat) {e : E2} (he : v[j]? = some e) : (v.take (j + 1)).flatMap entN = (v.take j).flatMap entN ++ [e.1, e.2] := by
  have : v.take (j + 1) = v.take j ++ [e] := by rw [List.take_add_one, he]; rfl
  rw [this, List.flatMap_append]
  simp [entN]
/-- Small entries. -/
def Sm (v : V2) : Prop := v.length < 100 ∧ ∀ e ∈ v, (0 ≤ e.1 ∧ e.1 < 100) ∧ 0 ≤ e.2 ∧ e.2 < 100
theorem Sm.nums {v : V2} (h : Sm v) : ∀ x ∈ vecN v, 0 ≤ x ∧ x < 100 := fun x hx => by
  unfold vecN at hx
  rcases List.mem_cons.1 hx with rfl | hx
  · have := h.1
    omega
  · obtain ⟨e, he, hx⟩ := List.mem_flatMap.1 hx
    have := h.2 e he
    simp only [entN, List.mem_cons, List.not_mem_nil, or_false] at hx
    rcases hx with rfl | rfl
    · exact this.1
    · exact this.2
theorem evec_con (b : List Int) (v : V2) (hv : Sm v) (hb : b.length < 900000) : Con Tryd.prog 43 [.c (.ptr 1000000 0 0), .c (encV v)] (encS 1000001 b) 1000052 (.tup []) (encS 1000103 (b ++ strN (vecN v))) 1000104 := by
  obtain ⟨hvl, hve⟩ := hv
  have hc0 := numbers_con true 1000001 (.inl rfl) b [(v.length : Int)] (by simp) (fun x hx => by rw [List.mem_singleton.1 hx]; omega) (by simp; omega)
  have hv2 : strN (vecN v) = strN [(v.length : Int)] ++ strN (v.flatMap entN) := by
    rw [← strN_app]
    rfl
  have h1l : (strN [(v.length : Int)]).length ≤ 3 := by
    have := strN_len (l := [(v.length : Int)]) fun x hx => by rw [List.mem_singleton.1 hx]; omega
    simpa using this
  obtain ⟨c, hcd⟩ : ∃ c, c = b ++ strN [(v.length : Int)] := ⟨_, rfl⟩
  have hcl : c.length < 900003 := by rw [hcd, List.length_append]; omega
  have hfin : b ++ strN (vecN v) = c ++ strN (v.flatMap entN) := by rw [hv2, hcd, List.append_assoc]
  rw [hfin]
  rw [← hcd] at hc0
  clear hfin hcd hv2 h1l
  refine con_of teOk Tryd.func43 (by kernel_rfl) (c := _) rfl (N := 25) rfl (rs := []) rfl (by simp) fun base A w0 rest hrest hrefs hA => ?_
  have hh := hiS_low hrest
  have hl' := loS_low hrest
  have hdr := fun k hk => drop_rest hrest k hk
  have hrn : ∀ (ρ : List (Nat × Nat)) (ids : List Nat), (ids.all fun i => decide (1000000 ≤ i)) = true → rnS 1000000 ρ ids rest = rest := fun ρ ids h => rnS_low h hrest
  refine AW.to (s2 := ⟨[(0, .c (.ptr 1000000 0 0)), (1, .c (encV v))], encS 1000001 b ++ rest, 1000106⟩) (Weak.normCS hA hrefs [0, 1] [(0, 1000000)] [(1000001, 1000001)] [1000000] 1000106 _ (by simp [hl']) (by simp) (by simp) (by simp) (by simp [hh]) (by simp [hh])) (by simp [normL, hh, hl', hrn]) ?_
  refine AW.st teOk [.own (.tup []) (encS 1000112 c) 1000114] (by simp [hdr, hh, hl', -Option.some.injEq] <;> rfl) ?_ ?_
  · simpa using hc0
  refine AW.st teOk [] (by simp [hdr, -Option.some.injEq] <;> rfl) trivial ?_
  refine AW.block (AW.loop (fun m s => ∃ (j : Nat), m = v.length - j ∧ j ≤ v.length ∧ s = ⟨[(0, .c (.ptr 1000000 0 0)), (11, .c (encV v)), (12, .c (cI v.length)), (13, .c (cI j))], encS 1000103 (c ++ strN ((v.take j).flatMap entN)) ++ rest, 1000104⟩) _ (Weak.normCS hA hrefs [0, 11, 12, 13] [(0, 1000000)] [(1000112, 1000103)] [1000000] 1000104 _ (by simp [hl']) (by simp) (by simp) (by simp) (by simp [hh]) (by simp [hh])) ⟨0, rfl, Nat.zero_le _, by simp [normL, hh, hl', hrn, strN]⟩ ?_)
  rintro m s ⟨j, rfl, hj, rfl⟩
  have hinc : IntKind.i64.wrap ((j : Int) + 1) = (j : Int) + 1 := wrap_s _ (by omega)
  by_cases hjn : j < v.length
  · obtain ⟨e, he⟩ : ∃ e, v[j]? = some e := ⟨_, List.getElem?_eq_getElem hjn⟩
    obtain ⟨⟨e1, e2⟩, e3, e4⟩ := hve e (List.mem_of_getElem? he)
    have htk : strN ((v.take (j + 1)).flatMap entN) = strN ((v.take j).flatMap entN) ++ strN [e.1, e.2] := by rw [vec_take v j he, strN_app]
    have hlen : (strN ((v.take j).flatMap entN)).length ≤ 600 := by
      have h1 := strN_len (l := (v.take j).flatMap entN) fun x hx => by
        obtain ⟨y, hy, hx⟩ := List.mem_flatMap.1 hx
        have := hve y (List.mem_of_mem_take hy)
        simp only [entN, List.mem_cons, List.not_mem_nil, or_false] at hx
        rcases hx with rfl | rfl
        · exact this.1
        · exact this.2
      have h2 := vecN_len (v.take j)
      unfold vecN at h2
      rw [List.length_cons, List.length_take] at h2
      omega
    have hc := numbers_con true 1000103 (.inr rfl) (c ++ strN ((v.take j).flatMap entN)) [e.1, e.2] (by simp) (fun x hx => by
      simp only [List.mem_cons, List.not_mem_nil, or_false] at hx
      rcases hx with rfl | rfl <;> omega) (by rw [List.length_append]; simp; omega)
    have htk2 : c ++ strN ((v.take (j + 1)).flatMap entN) = c ++ strN ((v.take j).flatMap entN) ++ strN [e.1, e.2] := by rw [htk, List.append_assoc]
    obtain ⟨cn, hcn⟩ : ∃ cn, cn = c ++ strN ((v.take (j + 1)).flatMap entN) := ⟨_, rfl⟩
    rw [← htk2, ← hcn] at hc
    generalize c ++ strN ((v.take j).flatMap entN) = dn at *
    refine AW.st teOk [] (by simp [hdr, -Option.some.injEq] <;> rfl) trivial ?_
    refine AW.seq (AW.iff true (by simp [hjn]) (fun _ => AW.skip ?_) (fun h => by cases h))
    refine AW.seq (AW.block ?_)
    refine AW.st teOk [] (by simp [hdr, he, -Option.some.injEq] <;> rfl) ?_ ?_
    · exact hjn
    refine AW.to (s2 := ⟨[(0, .c (.ptr 1000000 0 0)), (11, .c (encV v)), (12, .c (cI v.length)), (13, .c (cI j)), (5, .c (.fad [cI e.1, cI e.2]))], encS 1000103 dn ++ rest, 1000104⟩) ((Weak.freeze 1000107 ⟨2, [encE e]⟩ [] _ (by simp) (by simp)).trans (Weak.normCS hA hrefs [0, 11, 12, 13, 5] [(0, 1000000)] [(1000103, 1000103)] [1000000] 1000104 _ (by simp [hl', hdr, mapAt_nil']) (by simp) (by simp) (by simp) (by simp [hh, hdr, mapAt_nil']) (by simp [hh, hdr, mapAt_nil']))) (by simp [normL, hh, hl', hrn, hdr, mapAt_nil']) ?_
    refine AW.text teOk (ans := [.own (.tup []) (encS 1000112 cn) 1000114]) (by simp [hdr, hh, hl', -Option.some.injEq] <;> rfl) ?_ ?_
    · simpa using hc
    refine AW.text teOk (ans := []) (by simp [hdr, -Option.some.injEq] <;> rfl) ?_ ?_
    · trivial
    refine ⟨_, _, Weak.normCS hA hrefs [0, 11, 12, 13] [(0, 1000000)] [(1000112, 1000103)] [1000000] 1000104 _ (by simp [hl']) (by simp) (by simp) (by simp) (by simp [hh]) (by simp [hh]), ?_, j + 1, rfl, hjn, ?_⟩
    · omega
    · simp [normL, hh, hl', hrn, hinc, ← hcn]
  have hjn' : j = v.length := by omega
  subst hjn'
  rw [List.take_length]
  refine AW.st teOk [] (by simp [hdr, -Option.some.injEq] <;> rfl) trivial ?_
  refine AW.seq (AW.iff false (by simp) (fun h => by cases h) (fun h => AW.exit (x_then (x_then (blockA_exit ?_)))))
  refine ⟨.inl rfl, _, Weak.normCS hA hrefs [0] [(0, 1000000)] [(1000103, 1000103)] [1000000] 1000104 _ (by simp [hl']) (by simp) (by simp) (by simp) (by simp [hh]) (by simp [hh]), by simp, by simp [normL, hh, hl', hrn], rfl⟩
theorem xnumber_pure (b : Bool) : Pure Tryd.prog 26 [.c (cB b)] (.c (cI (numB b))) := by
  refine pure_of teOk Tryd.func26 (by kernel_rfl) (c := _) rfl (N := 4) rfl (rs := [Go.ResultVar.tmp 2]) rfl (by simp) fun base A w0 hA => ?_
  refine AW.st teOk [] (by simp [-Option.some.injEq] <;> rfl) trivial ?_
  refine AW.seq ?_
  refine AW.st teOk [] (by simp [-Option.some.injEq] <;> rfl) trivial ?_
  cases b with
  | true =>
    refine AW.iff true (by simp) (fun _ => ?_) (fun h => by cases h)
    refine AW.st teOk [] (by simp [-Option.some.injEq] <;> rfl) trivial ?_
    refine AW.ret ⟨.inr rfl, _, Weak.refl _, ?_⟩
    simp [numB]
  | false =>
    refine AW.iff false (by simp) (fun h => by cases h) (fun _ => AW.skip ?_)
    refine AW.st teOk [] (by simp [-Option.some.injEq] <;> rfl) trivial ?_
    refine AW.ret ⟨.inr rfl, _, Weak.refl _, ?_⟩
    simp [numB]
end Go.Proofs.YtphlhadgcfndhaaDoor.Abs
end
