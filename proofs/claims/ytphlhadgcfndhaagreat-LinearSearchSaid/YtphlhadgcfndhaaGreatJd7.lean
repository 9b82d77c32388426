/- Joined for the claim: WNrc WNrd WNsr WNsq WNsa -/
import Derived.Test.YtphlhadgcfndhaaGreatJd6
import Derived.Test.YtphlhadgcfndhaaGreatJd5
section
namespace Go.Proofs.YtphlhadgcfndhaaGreat.Abs
open Go Go.RowKit
set_option linter.unusedVariables false
set_option linter.unusedSimpArgs false
def deadB : Bnd → Bnd
  | .no => .no
  | _ => .dead
abbrev sO (c0 c1 c3 : Cell) (j q : Nat) : AObj := ⟨4, [[c0, c1, .ref j 0 q, c3]]⟩
theorem Inv.re2 {base : Nat} {A : Nat → Prop} {w0 w : World} {β γ : Nat → Bnd} {c0 c1 c3 : Cell} {j j' q : Nat} {O : AObj} (I : Inv base A w0 β [(0, sO c0 c1 c3 j q), (j, O)] w) (hj : j ≠ 0) (hj' : j' ≠ 0) (h0 : γ 0 = β 0) (h1 : γ j' = β j) (hoth : ∀ i, i ≠ 0 → i ≠ j' → γ i = .no ∨ γ i = .dead) (hfin : ∃ N, ∀ i, N ≤ i → γ i = .no)
    (f0 : frozenC c0 = true) (f1 : frozenC c1 = true) (f3 : frozenC c3 = true) (fO : flatO O = true) :
    Inv base A w0 γ [(0, sO c0 c1 c3 j' q), (j', O)] w ∧ ∀ x, okOf base A w γ x ↔ okOf base A w β x := by
  have hβ : ∀ id, (look id [(0, sO c0 c1 c3 j q), (j, O)]).isSome = true → id = 0 ∨ id = j := fun id h => by
    by_cases e0 : id = 0
    · exact .inl e0
    · by_cases e1 : id = j
      · exact .inr e1
      · simp [look, e0, e1] at h
  have hlβ : ∀ id b k cap, β id = .live b k cap → id = 0 ∨ id = j := fun id b k cap h => hβ id ((I.dom id).2 (.inl ⟨b, k, cap, h⟩))
  have hlγ : ∀ id b k cap, γ id = .live b k cap → id = 0 ∨ id = j' := fun id b k cap h => by
    by_cases e0 : id = 0
    · exact .inl e0
    · by_cases e1 : id = j'
      · exact .inr e1
      · rcases hoth id e0 e1 with h' | h' <;> rw [h'] at h <;> cases h
  have hok : ∀ x, okOf base A w γ x ↔ okOf base A w β x := fun x => by
    constructor
    · intro h
      refine ⟨h.1, h.2.1, fun id b k cap hb => ?_⟩
      rcases hlβ id b k cap hb with rfl | rfl
      · exact h.2.2 0 b k cap (h0.trans hb)
      · exact h.2.2 j' b k cap (h1.trans hb)
    · intro h
      refine ⟨h.1, h.2.1, fun id b k cap hb => ?_⟩
      rcases hlγ id b k cap hb with rfl | rfl
      · exact h.2.2 0 b k cap (h0.symm.trans hb)
      · exact h.2.2 j b k cap (h1.symm.trans hb)
  have hfz : ∀ (c : Cell) (u : Value), frozenC c = true → RepC w (okOf base A w β) β c u → RepC w (okOf base A w γ) γ c u := fun c u hc h => .fz ((h.frozen hc).mono fun x hx => ⟨(hok x).2 hx, rfl⟩)
  have l0 : ∀ (x y : AObj), look 0 [(0, x), (j', y)] = some x := fun x y => by simp [look]
  have l1 : ∀ (x y : AObj), look j' [(0, x), (j', y)] = some y := fun x y => by simp [look, hj']
  have m0 : ∀ (x y : AObj), look 0 [(0, x), (j, y)] = some x := fun x y => by simp [look]
  have m1 : ∀ (x y : AObj), look j [(0, x), (j, y)] = some y := fun x y => by simp [look, hj]
  refine ⟨⟨I.below, I.hbase, I.old, fun id => ?_, fun id o hv hl => ?_, hfin, fun id b k cap hb => ?_, fun id id' b k cap k' cap' hb hb' => ?_, fun id b k cap o hb hl => ?_⟩, hok⟩
  · by_cases e0 : id = 0
    · subst e0
      rw [l0, h0, ← I.dom 0, m0]
      exact Iff.rfl
    · by_cases e1 : id = j'
      · subst e1
        rw [l1, h1, ← I.dom j, m1]
      · constructor
        · intro h
          simp [look, e0, e1] at h
        · rintro (⟨b, k, cap, h⟩ | h) <;> rcases hoth id e0 e1 with h' | h' <;> rw [h'] at h <;> cases h
  · by_cases e0 : id = 0
    · subst e0
      rw [l0] at hl
      cases hl
      have := I.virt 0 _ (h0.symm.trans hv) (m0 _ _)
      cases this
    · by_cases e1 : id = j'
      · subst e1
        rw [l1] at hl
        cases hl
        exact I.virt j _ (h1.symm.trans hv) (m1 _ _)
      · simp [look, e0, e1] at hl
  · rcases hlγ id b k cap hb with rfl | rfl
    · exact I.lo 0 b k cap (h0.symm.trans hb)
    · exact I.lo j b k cap (h1.symm.trans hb)
  · rcases hlγ id b k cap hb with rfl | rfl <;> rcases hlγ id' b k' cap' hb' with rfl | rfl
    · rfl
    · have := I.inj 0 j b k cap k' cap' (h0.symm.trans hb) (h1.symm.trans hb')
      exact absurd this.symm hj
    · have := I.inj j 0 b k cap k' cap' (h1.symm.trans hb) (h0.symm.trans hb')
      exact absurd this hj
    · rfl
  · rcases hlγ id b k cap hb with rfl | rfl
    · rw [l0] at hl
      cases hl
      obtain ⟨g1, g2, g3, arr, ty, g4, g5, g6, g7⟩ := I.obj 0 b k cap _ (h0.symm.trans hb) (m0 _ _)
      refine ⟨g1, g2, fun e he => ?_, arr, ty, g4, g5, g6, fun i e he p c hc => ?_⟩
      · have he : e = [c0, c1, .ref j' 0 q, c3] := by simpa using he
        subst he
        have := g3 [c0, c1, .ref j 0 q, c3] (by simp)
        exact this
      · have hi : i = 0 := by
          cases i with
          | zero => rfl
          | succ i => simp at he
        subst hi
        have he : e = [c0, c1, .ref j' 0 q, c3] := by simpa using he.symm
        subst he
        have g7 := g7 0 [c0, c1, .ref j 0 q, c3] rfl p
        match p, hc with
        | 0, hc =>
          cases hc
          obtain ⟨v, hv, hr⟩ := g7 c0 rfl
          exact ⟨v, hv, hfz _ _ f0 hr⟩
        | 1, hc =>
          cases hc
          obtain ⟨v, hv, hr⟩ := g7 c1 rfl
          exact ⟨v, hv, hfz _ _ f1 hr⟩
        | 2, hc =>
          cases hc
          obtain ⟨v, hv, hr⟩ := g7 (.ref j 0 q) rfl
          refine ⟨v, hv, ?_⟩
          cases hr with
          | fz h => cases h
          | ref hb hl => exact .ref (h1.trans hb) hl
          | refv hb => exact .refv (h1.trans hb)
          | gone hb hv => exact .gone (h1.trans hb) hv
        | 3, hc =>
          cases hc
          obtain ⟨v, hv, hr⟩ := g7 c3 rfl
          exact ⟨v, hv, hfz _ _ f3 hr⟩
        | p + 4, hc => simp at hc
    · rw [l1] at hl
      cases hl
      obtain ⟨g1, g2, g3, arr, ty, g4, g5, g6, g7⟩ := I.obj j b k cap _ (h1.symm.trans hb) (m1 _ _)
      refine ⟨g1, g2, g3, arr, ty, g4, g5, g6, fun i e he p c hc => ?_⟩
      obtain ⟨v, hv, hr⟩ := g7 i e he p c hc
      exact ⟨v, hv, hfz _ _ (flat_cell fO he hc) hr⟩
/-- What a call does to its caller's object, to the slice of it and to its map. -/
def RunC (P : Program) (f : FuncId) (xs : List AVal) (M : Nat) (h c1 : Cell) (l : List (List Cell)) (o : Obj) (r : AVal) (c1' : Cell) (l' : List (List Cell)) (o' : Obj) : Prop := FOk P f ∧
  ∀ (base : Nat) (own : Nat → Prop) (w : World) (β : Nat → Bnd) (vs : Array Value), Inv base own w β [(0, sO h c1 (.sc (.map (some M))) 1 l.length), (1, ⟨1, l⟩)] w → base ≤ M → okOf base own w β M → w.heap[M]? = some o → (∀ id, 2 ≤ id → β id = .no) → RepAs w (okOf base own w β) β (.c (.ptr 0 0 0) :: xs) vs →
    Calls P f vs w fun e w' => ∃ v β', e = .returned v ∧ Inv base own (setB w M o') β' [(0, sO h c1' (.sc (.map (some M))) 2 l'.length), (2, ⟨1, l'⟩)] w' ∧ (∀ i, BLe (β i) (β' i)) ∧ (∀ x, okOf base own (setB w M o') β x → okOf base own w' β' x ∧ w'.heap[x]? = (setB w M o').heap[x]?) ∧ (∀ id, 3 ≤ id → β' id = .no) ∧ RepV w' (okOf base own w' β') β' r v
section
variable {P : Program} {base : Nat} {A : Old} {w0 w : World} {n M : Nat} {β : Nat → Bnd} {s : St} {a : Act}
theorem run_op {ops : Array Oper} {k : Nat} {op : Oper} {g : FuncId} {xs : List AVal} {d j : Nat} {h c1 c1' : Cell} {l l' : List (List Cell)} {es es' : Array MapEntry} {cl cl' : Nat} {T : TyEnv} {qp : Prop} {b : Bool} {Q : Exit → Act → World → Prop} {K : Act → World → Prop}
    (hM : MOk base A w0 M) (ho : ops[k]? = some op) (hd : op.dst = some d) (hg : op.guard = none) (hdn : d < n) (hc : isCallOp op.op = true) (hpl : (planOp T (opval s.τ) op.op).run s.σ = some (.call g (.c (.ptr 0 0 0) :: xs), qp)) (hxs : xs.all frozenV = true)
    (hσ : s.σ = [(0, sO h c1 (.sc (.map (some M))) j l.length), (j, ⟨1, l⟩)]) (hj : j ≠ 0) (hjf : j < s.fr) (fh : frozenC h = true) (f1 : frozenC c1 = true) (f1' : frozenC c1' = true) (fl : flatO ⟨1, l⟩ = true) (fl' : flatO ⟨1, l'⟩ = true)
    (hC : RunC P g xs M h c1 l (.map es cl) (.c (.sc (.bool b))) c1' l' (.map es' cl'))
    (I : InvS base A (setB w0 M (.map es cl)) n β s a w)
    (hK : ∀ β' a' w', InvS base A (setB w0 M (.map es' cl')) n β' ⟨putT d (.c (.sc (.bool b))) s.τ, [(0, sO h c1' (.sc (.map (some M))) s.fr l'.length), (s.fr, ⟨1, l'⟩)], s.fr + 1⟩ a' w' → K a' w') : wpOp P ops Q k K a w := by
  obtain ⟨fn, hfn, hname, hbody⟩ := hC.1
  obtain ⟨vs, hl, hr, hrun⟩ := call_sound (P := P) (w := w) (opval_rep I) op hc hpl
  unfold wpOp
  rw [ho]
  simp only
  have hw : Region.wanted op (yielded ops a.tmps) = true := by unfold Region.wanted; rw [hg]
  rw [hw, if_pos rfl]
  left
  unfold Oper.wp
  rw [hrun fn hfn hname hbody, Oper.upon_enter]
  obtain ⟨hokM, hbM⟩ := m_at hM I
  have Iv := I.inv
  rw [hσ] at Iv
  have hfr0 : 0 < s.fr := by omega
  have key := Inv.re2 (γ := fun id => if id = 0 then β 0 else if id = 1 then β j else .no) Iv hj (j' := 1) (by decide) rfl rfl (fun i h0 h1 => by simp [h0, h1]) ⟨2, fun i hi => by simp [show i ≠ 0 by omega, show i ≠ 1 by omega]⟩ fh f1 rfl fl
  obtain ⟨Ic, hokc⟩ := key
  have Ic := Ic.from0 (Below.refl base w)
  have hargs : RepAs w (okOf base A.own w fun id => if id = 0 then β 0 else if id = 1 then β j else .no) (fun id => if id = 0 then β 0 else if id = 1 then β j else .no) (.c (.ptr 0 0 0) :: xs) vs := by
    refine ⟨hl, fun i x v hx hv => ?_⟩
    have hr := hr i x v hx hv
    cases i with
    | zero =>
      rw [List.getElem?_cons_zero] at hx
      cases hx
      cases hr with
      | c hr =>
        cases hr with
        | fz h => cases h
        | ptr hb => exact .c (.ptr (by simpa using hb))
        | gonep hb hv => exact .c (.gonep (by simpa using hb) hv)
    | succ i =>
      rw [List.getElem?_cons_succ] at hx
      have hf : frozenV x = true := by
        rw [List.all_eq_true] at hxs
        exact hxs x (List.mem_of_getElem? hx)
      have fz : ∀ (c : Cell) (u : Value), frozenC c = true → RepC w (okOf base A.own w β) β c u → RepC w (okOf base A.own w fun id => if id = 0 then β 0 else if id = 1 then β j else .no) (fun id => if id = 0 then β 0 else if id = 1 then β j else .no) c u := fun c u hc h => .fz ((h.frozen hc).mono fun x hx => ⟨(hokc x).2 hx, rfl⟩)
      cases hr with
      | any => exact .any _
      | c hr => exact .c (fz _ _ hf hr)
      | agg hr =>
        have hf : List.all _ frozenC = true := hf
        rw [List.all_eq_true] at hf
        exact .agg ⟨hr.1, fun i c v hc hv => fz _ _ (hf c (List.mem_of_getElem? hc)) (hr.2 i c v hc hv)⟩
      | tup => cases hf
      | cut => cases hf
  refine (hC.2 base A.own w _ vs Ic hM.1 ((hokc M).2 hokM) hbM (fun id hid => by simp [show id ≠ 0 by omega, show id ≠ 1 by omega]) hargs).mono ?_
  rintro e w' ⟨v, βc, rfl, I', hle, hok', hno, hv⟩
  have IS := I.setM (es' := es') (cl' := cl') hM
  have I2 := Inv.re2 (γ := fun id => if id = 0 then βc 0 else if id = s.fr then βc 2 else deadB (β id)) I' (by decide) (j' := s.fr) (by omega) rfl (by simp [show s.fr ≠ 0 by omega]) (fun i h0 h1 => by
    simp only [if_neg h0, if_neg h1]
    cases β i <;> first | exact .inl rfl | exact .inr rfl) ⟨s.fr + 1, fun i hi => by simp [show i ≠ 0 by omega, show i ≠ s.fr by omega, I.fresh i (by omega), deadB]⟩ fh f1' rfl fl'
  obtain ⟨I2, hok2⟩ := I2
  have I3 := I2.from0 (IS.inv.below.trans I2.below)
  have hdom : ∀ i, i ≠ 0 → i ≠ j → β i = .no ∨ β i = .dead := fun i h0 h1 => by
    have hn : ¬ (look i [(0, sO h c1 (.sc (.map (some M))) j l.length), (j, ⟨1, l⟩)]).isSome = true := by simp [look, h0, h1]
    cases hb : β i with
    | no => exact .inl rfl
    | dead => exact .inr rfl
    | virt => exact absurd ((Iv.dom i).2 (.inr hb)) hn
    | live b k cap => exact absurd ((Iv.dom i).2 (.inl ⟨b, k, cap, hb⟩)) hn
  have h0 := hle 0
  have hw0 : (fun id => if id = 0 then β 0 else if id = 1 then β j else Bnd.no) 0 = β 0 := rfl
  have hokS : ∀ x, okOf base A.own (setB w M (.map es' cl')) β x ↔ okOf base A.own (setB w M (.map es' cl')) (fun id => if id = 0 then β 0 else if id = 1 then β j else .no) x := fun x => by
    rw [okOf_set, okOf_set]
    exact (hokc x).symm
  refine hK _ _ _ (put_inv (fr' := s.fr + 1) IS I3 (fun i => ?_) (fun x hx => ?_) (fun id hid => ?_) (d := op.dst) (v := .c (.sc (.bool b))) ?_ ?_)
  · by_cases e0 : i = 0
    · subst e0
      simpa using h0
    · by_cases e1 : i = s.fr
      · subst e1
        rw [I.fresh s.fr (Nat.le_refl _)]
        exact .no _
      · simp only [if_neg e0, if_neg e1]
        by_cases e2 : i = j
        · subst e2
          cases hb : β i with
          | no => exact .no _
          | dead => exact .same _
          | virt => exact .vdead
          | live b k cap => exact .dead _ _ _
        · rcases hdom i e0 e2 with hb | hb
          · rw [hb]; exact .no _
          · rw [hb]; exact .same _
  · obtain ⟨g1, g2⟩ := hok' x ((hokS x).1 hx)
    exact ⟨(hok2 x).2 g1, g2⟩
  · simp [show id ≠ 0 by omega, show id ≠ s.fr by omega, I.fresh id (by omega), deadB]
  · cases hv with
    | c h =>
      cases h with
      | fz h =>
        cases h with
        | sc _ h => exact .c (.fz (.sc _ h))
  · rw [hd]
    unfold putD
    simp only
    rw [if_pos hdn]
end
end Go.Proofs.YtphlhadgcfndhaaGreat.Abs
end
section
namespace Go.Proofs.YtphlhadgcfndhaaGreat.Abs
open Go Go.RowKit
set_option linter.unusedVariables false
set_option linter.unusedSimpArgs false
def RM (P : Program) (base : Nat) (A : Old) (w0 : World) (M : Nat) (n : Nat) (ops : Array Oper) (k : Nat) (s : St) (o : Obj) (Q : Exit → St → Obj → Prop) : Prop :=
  ∀ β a w, InvS base A (setB w0 M o) n β s a w → wpOps P ops (fun e a' w' => ∃ s' o' β', Q e s' o' ∧ InvS base A (setB w0 M o') n β' s' a' w') (List.range' k (ops.size - k)) a w
section
variable {P : Program} {base : Nat} {A : Old} {w0 : World} {M n : Nat} {ob : Obj}
theorem AWM.region {id : Nat} {ops : Array Oper} {s : St} {Q : Exit → St → Obj → Prop} (h : RM P base A w0 M n ops 0 s ob Q) : AWM P base A w0 M n (.region id ops false) s ob Q := fun β a w I => by
  refine wp_region ?_
  rw [List.range_eq_range']
  exact h β a w I
theorem RM.done {ops : Array Oper} {k : Nat} {s : St} {Q : Exit → St → Obj → Prop} (hk : ops.size ≤ k) (h : Q .normal s ob) : RM P base A w0 M n ops k s ob Q := fun β a w I => by
  rw [show ops.size - k = 0 by omega]
  exact ⟨s, ob, β, h, I⟩
theorem RM.pre {T : TyEnv} (hT : TOk P T) {ops : Array Oper} {k : Nat} {s s' : St} {Q : Exit → St → Obj → Prop} (j : Nat) (ans : List Ans) {ans' : List Ans} {p : Prop} (hj : k + j ≤ ops.size) (he : evOps P T n ops ((ops.toList.drop k).take j) s ans = some (s', ans', p)) (hp : p) (h : RM P base A w0 M n ops (k + j) s' ob Q) : RM P base A w0 M n ops k s ob Q := fun β a w I => by
  rw [show ops.size - k = j + (ops.size - (k + j)) by omega]
  exact evOps_pre hT j k (ops.size - (k + j)) (by omega) he hp I fun β' a' w' I' => h β' a' w' I'
theorem RM.run {ops : Array Oper} {k : Nat} {op : Oper} {g : FuncId} {xs : List AVal} {d j : Nat} {h c1 c1' : Cell} {l l' : List (List Cell)} {es es' : Array MapEntry} {cl cl' : Nat} {T : TyEnv} {qp : Prop} {b : Bool} {s : St} {Q : Exit → St → Obj → Prop}
    (hM : MOk base A w0 M) (ho : ops[k]? = some op) (hd : op.dst = some d) (hg : op.guard = none) (hdn : d < n) (hc : isCallOp op.op = true) (hpl : (planOp T (opval s.τ) op.op).run s.σ = some (.call g (.c (.ptr 0 0 0) :: xs), qp)) (hxs : xs.all frozenV = true)
    (hσ : s.σ = [(0, sO h c1 (.sc (.map (some M))) j l.length), (j, ⟨1, l⟩)]) (hj : j ≠ 0) (hjf : j < s.fr) (fh : frozenC h = true) (f1 : frozenC c1 = true) (f1' : frozenC c1' = true) (fl : flatO ⟨1, l⟩ = true) (fl' : flatO ⟨1, l'⟩ = true)
    (hC : RunC P g xs M h c1 l (.map es cl) (.c (.sc (.bool b))) c1' l' (.map es' cl'))
    (hK : RM P base A w0 M n ops (k + 1) ⟨putT d (.c (.sc (.bool b))) s.τ, [(0, sO h c1' (.sc (.map (some M))) s.fr l'.length), (s.fr, ⟨1, l'⟩)], s.fr + 1⟩ (.map es' cl') Q) : RM P base A w0 M n ops k s (.map es cl) Q := fun β a w I => by
  have hlt := (Array.getElem?_eq_some_iff.1 ho).1
  rw [show ops.size - k = (ops.size - (k + 1)) + 1 by omega, List.range'_succ, wpOps_cons]
  exact run_op hM ho hd hg hdn hc hpl hxs hσ hj hjf fh f1 f1' fl fl' hC I fun β' a' w' I' => hK β' a' w' I'
/-- A drawn region whose last operation is told by hand. -/
theorem AWM.drawL (hmx : P.follows .mixedOrders = true) {T : TyEnv} (hT : TOk P T) {id : Nat} {ops : Array Oper} {s : St} {Q : Exit → St → Obj → Prop} {ans : List AVal} {R : List Rec} (m : Nat) (hm : ops.size = m + 1)
    (hev : evUs T (PN P) n ops.pop ops.pop.toList s.τ s.σ s.fr ans = some R) (hon : onOk ops = true) (hon1 : onOk ops.pop = true) (hchk : chkAll ops.pop (depTab ops.pop) ops.pop.toList R = true) (hg : guardsLt ops = true) (hl : lastOk ops = true) (hp : allP R)
    (hlast : ∀ β a w, InvS base A (setB w0 M ob) n β (endSt R s) a w → wpOp P ops (fun e a' w' => ∃ s' o' β', Q e s' o' ∧ InvS base A (setB w0 M o') n β' s' a' w') m (fun a' w' => ∃ s' o' β', Q .normal s' o' ∧ InvS base A (setB w0 M o') n β' s' a' w') a w) : AWM P base A w0 M n (.region id ops true) s ob Q := fun β a w I => by
  obtain ⟨hlen, hat, hmono⟩ := evUs_at ops.pop.toList s.τ s.σ s.fr ans R hev
  refine wp_region_any hmx ?_
  have hd : Below base w { w with drawn := w.drawn + 1 } := ⟨rfl, rfl, rfl, Nat.le_refl _, fun _ _ => rfl⟩
  have I1 : InvS base A (setB w0 M ob) n β s a { w with drawn := w.drawn + 1 } := ⟨I.inv.heap hd rfl, I.defers, I.size, fun t v hv => by
    obtain ⟨u, hu, hr⟩ := I.tmps t v hv
    exact ⟨u, hu, RepV.mono (w := w) (ok := okOf base A.own w β) (w' := { w with drawn := w.drawn + 1 }) (ok' := okOf base A.own { w with drawn := w.drawn + 1 } β) (β := β) (β' := β) (fun x hx => ⟨hx, rfl⟩) (BLe.refl' β) hr⟩, I.fresh, I.ext.step (BLe.refl' β) (fun x hx => ⟨hx, rfl⟩)⟩
  have hps : ops.pop.size = m := by rw [Array.size_pop]; omega
  have hrep : Array.replicate ops.size false = (Array.replicate m false).push false := by
    rw [hm, Array.replicate_succ]
  have hf : ∀ d, (fun j => (Array.replicate m false).getD j false) = fun _ => (d : Bool) && false := fun d => by
    funext j
    rw [Array.getD_eq_getD_getElem?, Array.getElem?_replicate]
    cases d <;> split <;> rfl
  have hf2 : ∀ j, ((Array.replicate m false).push false).getD j false = false := fun j => by
    rw [Array.getD_eq_getD_getElem?, Array.getElem?_push, Array.getElem?_replicate]
    split
    · rfl
    · split <;> rfl
  have key : wpAny P .any ops.pop (fun e a' w' => match e with
      | .normal => wpOp P ops (fun e a' w' => ∃ s' o' β', Q e s' o' ∧ InvS base A (setB w0 M o') n β' s' a' w') m (fun a' w' => ∃ s' o' β', Q .normal s' o' ∧ InvS base A (setB w0 M o') n β' s' a' w') a' w'
      | e => ∃ s' o' β', Q e s' o' ∧ InvS base A (setB w0 M o') n β' s' a' w') m (Array.replicate m false) a { w with drawn := w.drawn + 1 } := by
    refine any_go (A := A) (base := base) (w0 := setB w0 M ob) (n := n) (s := s) hT hev (allP_mem hp) hchk (fun a' w' J => ?_) (onOk_sound hon1) m _ a _ (by simp [hps]) ?_ ?_ ?_
    · obtain ⟨β', I', hfr⟩ := J
      obtain ⟨e1, e2⟩ := endSt_τ R 0 s
      rw [← e1, ← e2] at I'
      have hle : ∀ (i : Nat) (r : Rec), R[i]? = some r → s.fr ≤ r.fr ∧ r.fr ≤ r.fr' := fun i r hr => by
        have hi : i < ops.pop.toList.length := by rw [← hlen]; exact (List.getElem?_eq_some_iff.1 hr).1
        obtain ⟨g1, g2⟩ := hat i _ r (List.getElem?_eq_getElem hi) hr
        have := (evU_fr g1).1
        exact ⟨g2, by omega⟩
      obtain ⟨g1, g2⟩ := endSt_fr R s hmono hle
      have I2 : InvS base A (setB w0 M ob) n β' (endSt R s) a' w' := I'.toS fun id hid => hfr id (by omega) fun j r hr _ => by
        have h1 := g2 j r hr
        have h2 := (hle j r hr).2
        omega
      exact hlast _ _ _ I2
    · rw [hf true]
      intro i o ho hb
      cases hb
    · rw [hps]
      exact Nat.le_trans (List.length_filter_le _ _) (by simp)
    · rw [hf true]
      refine ⟨β, ?_, fun id hid _ => I.fresh id hid⟩
      show InvT base A (setB w0 M ob) n β (selτ (fun _ => false) 0 R s.τ) (selσ (fun _ => false) 0 R s.σ) a _
      rw [selτ_false, selσ_false]
      exact I1.toT
  have := wpAny_last (Q := fun e a' w' => ∃ s' o' β', Q e s' o' ∧ InvS base A (setB w0 M o') n β' s' a' w') hm hg hon hl (fun ch a w h => h) (fun ⟨a, w, h⟩ => ⟨a, w, h⟩) (fun a w h => h) m (Array.replicate m false) a { w with drawn := w.drawn + 1 } (by simp) (fun i o ho hb => by simp only [hf2] at hb; cases hb) key
  rw [hrep, hm]
  exact this
end
/-! ### the caller that made the map -/
section
variable {P : Program} {base : Nat} {A : Old} {w0 : World} {n : Nat} {κ : Kp}
theorem RK.buildA {ops : Array Oper} {k : Nat} {o : Oper} {t d e8 : Nat} {ti : TI} {s : St} {Q : Exit → St → Kp → Prop} (ho : ops[k]? = some o) (hop : o.op = .build t #[]) (hd : o.dst = some d) (hg : o.guard = none) (hdn : d < n) (hty : TyOk P t ti) (hu : P.underlying t = some (.array 10 e8)) {i8 : TI} (h8 : TyOk P e8 i8) (hz : ti.zero = .agg (List.replicate 10 (Value.int .u8 0)).toArray)
    (h : RK P base A w0 n ops (k + 1) ⟨putT d (.agg (List.replicate 10 (.sc (.int .u8 0)))) s.τ, s.σ, s.fr⟩ κ Q) : RK P base A w0 n ops k s κ Q := fun β a w I => by
  have hlt := (Array.getElem?_eq_some_iff.1 ho).1
  rw [show ops.size - k = (ops.size - (k + 1)) + 1 by omega, List.range'_succ, wpOps_cons]
  unfold wpOp
  rw [ho]
  simp only
  have hw : Region.wanted o (yielded ops a.tmps) = true := by unfold Region.wanted; rw [hg]
  rw [hw, if_pos rfl]
  left
  unfold Oper.wp
  have hzv := run_zeroValue hty w
  have hrun : (execOp a.eval o).run P w = .ok (.value (.agg (List.replicate 10 (Value.int .u8 0)).toArray)) w := by
    obtain ⟨i, hi, _, hs8, _⟩ := info_of h8
    have hs : ∀ w, (sizeOf e8).run P w = .ok i8.size w := fun w => by simp [sizeOf, typeInfo, hi, hs8]
    simp [execOp, hop, Instr.build, run_underlying hu, hzv, hz, Result.andThen, hs, Instr.fill, Value.cells]
  rw [hrun, Oper.upon_value, hd]
  refine h β _ _ (put_inv (fr' := s.fr) I I.inv (BLe.refl' β) (fun x hx => ⟨hx, rfl⟩) I.fresh (d := some d) (v := .agg (List.replicate 10 (.sc (.int .u8 0)))) (.agg ⟨by simp, fun i c v hc hv => ?_⟩) (by unfold putD; simp only; rw [if_pos hdn]))
  rw [List.getElem?_replicate] at hc
  have hv : (List.replicate 10 (Value.int .u8 0))[i]? = some v := by simpa using hv
  rw [List.getElem?_replicate] at hv
  split at hc
  · rename_i hi
    rw [if_pos hi] at hv
    cases hc
    cases hv
    exact .fz (.sc _ rfl)
  · cases hc
theorem RK.run {ops : Array Oper} {k : Nat} {op : Oper} {g : FuncId} {xs : List AVal} {M d j : Nat} {h c1 c1' : Cell} {l l' : List (List Cell)} {es es' : Array MapEntry} {cl cl' : Nat} {T : TyEnv} {qp : Prop} {b : Bool} {s : St} {Q : Exit → St → Kp → Prop} (hwb : w0.heap.size ≤ base)
    (ho : ops[k]? = some op) (hd : op.dst = some d) (hg : op.guard = none) (hdn : d < n) (hc : isCallOp op.op = true) (hpl : (planOp T (opval s.τ) op.op).run s.σ = some (.call g (.c (.ptr 0 0 0) :: xs), qp)) (hxs : xs.all frozenV = true)
    (hσ : s.σ = [(0, sO h c1 (.sc (.map (some M))) j l.length), (j, ⟨1, l⟩)]) (hj : j ≠ 0) (hjf : j < s.fr) (fh : frozenC h = true) (f1 : frozenC c1 = true) (f1' : frozenC c1' = true) (fl : flatO ⟨1, l⟩ = true) (fl' : flatO ⟨1, l'⟩ = true)
    (hC : RunC P g xs M h c1 l (.map es cl) (.c (.sc (.bool b))) c1' l' (.map es' cl'))
    (hK : RK P base A w0 n ops (k + 1) ⟨putT d (.c (.sc (.bool b))) s.τ, [(0, sO h c1' (.sc (.map (some M))) s.fr l'.length), (s.fr, ⟨1, l'⟩)], s.fr + 1⟩ [] Q) : RK P base A w0 n ops k s [(M, .map es cl)] Q := fun β a w I => by
  have hlt := (Array.getElem?_eq_some_iff.1 ho).1
  rw [show ops.size - k = (ops.size - (k + 1)) + 1 by omega, List.range'_succ, wpOps_cons]
  obtain ⟨hMb, hMok, hMh⟩ := I.ext.kp M _ (List.mem_singleton.2 rfl)
  have hset : setB w M (.map es cl) = w := by
    show { w with heap := w.heap.setIfInBounds M (.map es cl) } = w
    have : w.heap.setIfInBounds M (.map es cl) = w.heap := by
      apply Array.ext_getElem?
      intro i
      rw [Array.getElem?_setIfInBounds]
      by_cases hi : M = i
      · subst hi
        rw [if_pos rfl, if_pos hMok.2.1, hMh]
      · rw [if_neg hi]
    rw [this]
  have hM : MOk base ⟨A.own, β, s.fr, I.fresh, []⟩ w M := ⟨hMb, hMok, rfl⟩
  have I0 : InvS base ⟨A.own, β, s.fr, I.fresh, []⟩ (setB w M (.map es cl)) n β s a w := by
    rw [hset]
    exact ⟨I.inv.from0 (Below.refl _ _), I.defers, I.size, I.tmps, I.fresh, ⟨BLe.refl' β, fun x hx => ⟨hx, rfl⟩, fun x ob hx => by cases hx⟩⟩
  refine run_op hM ho hd hg hdn hc hpl hxs hσ hj hjf fh f1 f1' fl fl' hC I0 fun β' a' w' I' => hK β' a' w' ?_
  refine ⟨I'.inv.from0 (I.inv.below.trans ((below_set hMb _ w).trans I'.inv.below)), I'.defers, I'.size, I'.tmps, I'.fresh, ⟨fun id => (I.ext.ble id).trans (I'.ext.ble id), fun x hx => ?_, fun x ob hx => by cases hx⟩⟩
  obtain ⟨g1, g2⟩ := I.ext.ok x hx
  have hne : x ≠ M := by
    have := hx.2.1
    omega
  obtain ⟨g3, g4⟩ := I'.ext.ok x (by rw [okOf_set]; exact g1)
  refine ⟨g3, ?_⟩
  rw [g4]
  show (w.heap.setIfInBounds M _)[x]? = _
  rw [Array.getElem?_setIfInBounds, if_neg (Ne.symm hne)]
  exact g2
end
end Go.Proofs.YtphlhadgcfndhaaGreat.Abs
end
section
namespace Go.Proofs.YtphlhadgcfndhaaGreat.Abs
open Go Go.RowKit
set_option linter.unusedVariables false
set_option linter.unusedSimpArgs false
set_option maxHeartbeats 4000000
set_option maxRecDepth 4000
def encS (x : List Int) : List Cell := x.map fun b => .sc (.int .u8 b)
/-- The search's object, as it is lent: its order is not looked at. -/
@[simp] abbrev encF (ops : List OpS) (sp : Nat) (c3 : Cell) : List Cell := [encOps ops, cI sp, .any, c3]
def regF (ef : List EfS) : Option EfS := match ef with
  | [e] => if e.kind = 1 then some e else none
  | _ => none
def zeroE : EfS := ⟨0, ⟨#[]⟩, ⟨#[]⟩, 0, ⟨#[]⟩⟩
def sameR (a b : EfS) : Bool := (a.o.toList == b.o.toList) && (a.f.toList == b.f.toList)
def wtS (x : List Int) (k : Nat) : Bool := x[k]?.getD 0 == 0
def complB (ops : List OpS) (x : List Int) : Bool := !anyAt (fun b o => reqB o && wtS x b.length) ops
def blkB (ops : List OpS) (x : List Int) (i : Int) : Bool := anyAt (fun b q => wtS x b.length && reqB q && preS ops b.length i) ops
def mayB (ops : List OpS) (x : List Int) (sp : Nat) (i : Nat) : Bool := match ops[i]? with
  | some o => wtS x i && (reqB o || (o.kind == 1 && sp != 0)) && !blkB ops x i
  | none => false
def hitB (ops : List OpS) (e : EfS) (j : Nat) : Bool := match ops[j]? with
  | some o => match regF o.ef with
    | some f => sameR e f
    | none => false
  | none => false
def dnS (ops : List OpS) (e : EfS) (k : Nat) (x : List Int) : List Int := x.mapIdx fun j b => if j < k ∧ b = 2 ∧ hitB ops e j = true then 1 else b
def afterB (ops : List OpS) (x : List Int) (i : Nat) : List Int := match ops[i]? with
  | some o => match regF o.ef with
    | some e => (dnS ops e ops.length (x.set i 1)).set i 2
    | none => x.set i 1
  | none => x
theorem reg_pure (ef : List EfS) : Pure Tryz.prog 90 [.c (.row 5 false (ef.map encE'))] (.tup [.agg (encE' ((regF ef).getD zeroE)), .c (cB (regF ef).isSome)]) := by
  refine pure_of teOk Tryz.func90 (by kernel_rfl) (c := _) rfl (N := 18) rfl (rs := [Go.ResultVar.cell 2 81, Go.ResultVar.tmp 3]) rfl (by simp) fun base A w0 hA => ?_
  refine AW.st teOk [] (by simp [-Option.some.injEq] <;> rfl) trivial ?_
  refine AW.seq ?_
  match ef with
  | [] =>
    refine AW.st teOk [] (by simp [-Option.some.injEq] <;> rfl) trivial ?_
    refine AW.iff true (by simp) (fun _ => ?_) (fun h => by cases h)
    refine AW.st teOk [] (by simp [-Option.some.injEq] <;> rfl) trivial ?_
    refine AW.ret ⟨.inr rfl, _, Weak.refl _, ?_⟩
    simp [regF, zeroE]
  | [e] =>
    cases h : e.kind != 1 with
    | true =>
      refine AW.st teOk [] (by simp [h, -Option.some.injEq] <;> rfl) ?_ ?_
      · first | trivial | skip
      refine AW.iff true (by simp) (fun _ => ?_) (fun h => by cases h)
      refine AW.st teOk [] (by simp [-Option.some.injEq] <;> rfl) trivial ?_
      refine AW.ret ⟨.inr rfl, _, Weak.refl _, ?_⟩
      have h : e.kind ≠ 1 := by simpa using h
      simp [regF, zeroE, h]
    | false =>
      refine AW.st teOk [] (by simp [h, -Option.some.injEq] <;> rfl) ?_ ?_
      · first | trivial | skip
      refine AW.iff false (by simp) (fun h => by cases h) (fun _ => AW.skip ?_)
      refine AW.st teOk [] (by simp [-Option.some.injEq] <;> rfl) trivial ?_
      refine AW.ret ⟨.inr rfl, _, Weak.refl _, ?_⟩
      have h : e.kind = 1 := by simpa using h
      simp [regF, h]
  | e :: f :: ef =>
    have h : ((ef.length : Int) + 1 + 1 != 1) = true := by simp; omega
    refine AW.st teOk [] (by simp [h, -Option.some.injEq] <;> rfl) trivial ?_
    refine AW.iff true (by simp) (fun _ => ?_) (fun h => by cases h)
    refine AW.st teOk [] (by simp [-Option.some.injEq] <;> rfl) trivial ?_
    refine AW.ret ⟨.inr rfl, _, Weak.refl _, ?_⟩
    simp [regF, zeroE]
theorem sameR_pure (a b : EfS) : Pure Tryz.prog 91 [.agg (encE' a), .agg (encE' b)] (.c (cB (sameR a b))) := by
  refine pure_of teOk Tryz.func91 (by kernel_rfl) (c := _) rfl (N := 17) rfl (rs := [Go.ResultVar.tmp 4]) rfl (by simp) fun base A w0 hA => ?_
  refine AW.st teOk [] (by simp [-Option.some.injEq] <;> rfl) trivial ?_
  cases h : (a.o.toList == b.o.toList) with
  | true =>
    refine AW.st teOk [] (by simp [h, -Option.some.injEq] <;> rfl) ?_ ?_
    · first | trivial | skip
    refine AW.ret ⟨.inr rfl, _, Weak.refl _, ?_⟩
    simp [sameR, h]
  | false =>
    refine AW.st teOk [] (by simp [h, -Option.some.injEq] <;> rfl) ?_ ?_
    · first | trivial | skip
    refine AW.ret ⟨.inr rfl, _, Weak.refl _, ?_⟩
    simp [sameR, h]
theorem encS_drop {x : List Int} {i : Nat} (hi : i < x.length) : (encS x).drop i = .sc (.int .u8 (x[i]?.getD 0)) :: (encS x).drop (i + 1) := by
  have h : i < (x.map fun b => Cell.sc (.int .u8 b)).length := by simpa using hi
  show (x.map fun b => Cell.sc (.int .u8 b)).drop i = _ :: (x.map fun b => Cell.sc (.int .u8 b)).drop (i + 1)
  rw [List.drop_eq_getElem_cons h, List.getElem_map, List.getElem?_eq_getElem hi]
  rfl
theorem freeze0 {A : Old} (hA : A.lim = 0) {τ : Tau} {o : AObj} {fr : Nat} (hf : flatO o = true) : Weak A ⟨τ, [(0, o)], fr⟩ ⟨mapS (frzV 0 o) τ, [], fr⟩ := by
  have h := Weak.freeze (A := A) 0 o [] ⟨τ, [(0, o)], fr⟩ (by simp [look]) hf
  have e : Abs.freeze 0 o [] ⟨τ, [(0, o)], fr⟩ = ⟨mapS (frzV 0 o) τ, [], fr⟩ := by simp [Abs.freeze, drop, mapAt_nil]
  rwa [e] at h
theorem flatEncS (x : List Int) (k : Nat) : flatO ⟨k, [encS x]⟩ = true := flatO_of fun e he => by
  rw [List.mem_singleton.1 he, List.all_eq_true]
  intro c hc
  obtain ⟨b, _, rfl⟩ := List.mem_map.1 hc
  rfl
theorem compl_pure (ops : List OpS) (sp : Nat) (c3 : Cell) (x : List Int) (hx : KeyT x) (hn : ops.length ≤ 10) : Pure Tryz.prog 50 [.c (.fad (encF ops sp c3)), .agg (encS x)] (.c (cB (complB ops x))) := by
  refine pure_of teOk Tryz.func50 (by kernel_rfl) (c := _) rfl (N := 27) rfl (rs := [Go.ResultVar.tmp 4]) rfl (by simp) fun base A w0 hA => ?_
  refine AW.st teOk [] (by simp [-Option.some.injEq] <;> rfl) trivial ?_
  refine AW.seq ?_
  refine AW.st teOk [] (by simp [-Option.some.injEq] <;> rfl) trivial ?_
  refine AW.weak (freeze0 hA (flatEncS x _)) ?_
  simp only [mapS, frzV, frzC, if_true, List.getD_cons_zero, List.drop_zero]
  refine AW.block (AW.loop (fun m s => ∃ i : Nat, m = ops.length - i ∧ i ≤ ops.length ∧ upTo (fun b o => reqB o && wtS x b.length) ops i = false ∧ s = ⟨[(3, .c (.fad (encS x))), (4, .c (cB false)), (11, .c (encOps ops)), (12, .c (cI ops.length)), (13, .c (cI i))], [], 0⟩) _ (Weak.normT hA [3, 4, 11, 12, 13] [] [] 0 _ (by simp) (by simp) (by simp)) ⟨0, rfl, Nat.zero_le _, rfl, by simp⟩ ?_)
  rintro m s ⟨i, rfl, hi, hu, rfl⟩
  refine AW.st teOk [] (by simp [-Option.some.injEq] <;> rfl) trivial ?_
  refine AW.seq ?_
  refine AW.iff (decide (i < ops.length)) (by simp) (fun h => AW.skip ?_) (fun h => AW.exit (x_then (x_then (blockA_exit ?_))))
  · rw [decide_eq_true_eq] at h
    obtain ⟨o, he⟩ : ∃ e, ops[i]? = some e := ⟨_, List.getElem?_eq_getElem h⟩
    have hd := encS_drop (x := x) (i := i) (by rw [hx.1]; omega)
    have hreq := req_pure o
    have hlen : (ops.take i).length = i := by rw [List.length_take]; omega
    refine AW.seq (AW.block ?_)
    refine AW.st teOk [] (by simp [he, -Option.some.injEq] <;> rfl) ?_ ?_
    · omega
    cases hr : reqB o with
    | false =>
      rw [hr] at hreq
      refine AW.st teOk [.fz (.c (cB false))] (by simp [he, -Option.some.injEq] <;> rfl) ?_ ?_
      · exact hreq
      refine AW.iff false (by simp) (fun h => by cases h) (fun _ => AW.skip ?_)
      refine AW.text teOk (ans := []) (by simp [-Option.some.injEq] <;> rfl) ?_ ?_
      · trivial
      refine ⟨_, _, Weak.normT hA [3, 4, 11, 12, 13] [] [] 0 _ (by simp) (by simp) (by simp), ?_, i + 1, rfl, h, ?_, ?_⟩
      · omega
      · rw [upTo_s he, hu, hr]; rfl
      · simp
        exact wrap_s i (by omega)
    | true =>
      rw [hr] at hreq
      refine AW.st teOk [.fz (.c (cB true))] (by simp [he, hd, -Option.some.injEq] <;> rfl) ?_ ?_
      · refine ⟨hreq, ?_⟩
        omega
      refine AW.iff (wtS x i) (by simp [wtS]) (fun hw => ?_) (fun hw => AW.skip ?_)
      · refine AW.st teOk [] (by simp [-Option.some.injEq] <;> rfl) trivial ?_
        refine AW.ret ⟨.inr rfl, _, Weak.refl _, ?_⟩
        have := upTo_hit (f := fun b o => reqB o && wtS x b.length) he (by simp [hr, hlen, hw])
        simp [complB, this]
      · refine AW.text teOk (ans := []) (by simp [-Option.some.injEq] <;> rfl) ?_ ?_
        · trivial
        refine ⟨_, _, Weak.normT hA [3, 4, 11, 12, 13] [] [] 0 _ (by simp) (by simp) (by simp), ?_, i + 1, rfl, h, ?_, ?_⟩
        · omega
        · rw [upTo_s he, hu, hlen, hw]; simp
        · simp
          exact wrap_s i (by omega)
  · rw [decide_eq_false_iff_not] at h
    refine AW.st teOk [] (by simp [-Option.some.injEq] <;> rfl) trivial ?_
    refine AW.ret ⟨.inr rfl, _, Weak.refl _, ?_⟩
    have : i = ops.length := by omega
    subst this
    simp [complB, ← upTo_all, hu]
end Go.Proofs.YtphlhadgcfndhaaGreat.Abs
end
section
namespace Go.Proofs.YtphlhadgcfndhaaGreat.Abs
open Go Go.RowKit
set_option linter.unusedVariables false
set_option linter.unusedSimpArgs false
set_option maxHeartbeats 4000000
set_option maxRecDepth 4000
theorem may_pure (ops : List OpS) (sp : Nat) (c3 : Cell) (x : List Int) (hx : KeyT x) (hn : ops.length ≤ 10) (i : Nat) (hi : i < ops.length) : Pure Tryz.prog 51 [.c (.fad (encF ops sp c3)), .agg (encS x), .c (cI i)] (.c (cB (mayB ops x sp i))) := by
  refine pure_of teOk Tryz.func51 (by kernel_rfl) (c := _) rfl (N := 68) rfl (rs := [Go.ResultVar.tmp 6]) rfl (by simp) fun base A w0 hA => ?_
  obtain ⟨o, he⟩ : ∃ e, ops[i]? = some e := ⟨_, List.getElem?_eq_getElem hi⟩
  have hd := encS_drop (x := x) (i := i) (by rw [hx.1]; omega)
  have hreq := req_pure o
  have hi10 : (i : Int) < 10 := by omega
  refine AW.st teOk [] (by simp [-Option.some.injEq] <;> rfl) trivial ?_
  refine AW.weak (freeze0 hA (flatEncS x _)) ?_
  simp only [mapS, frzV, frzC, if_true, List.getD_cons_zero, List.drop_zero]
  refine AW.st teOk [] (by simp [he, -Option.some.injEq] <;> rfl) ?_ ?_
  · omega
  refine AW.mid (fun s => (wtS x i && (reqB o || (o.kind == 1 && sp != 0))) = true ∧ s = ⟨[(0, .c (.fad (encF ops sp c3))), (2, .c (cI i)), (4, .c (.fad (encS x))), (6, .c (cB false))], [], 0⟩) ?_ ?_
  · cases hw : (x[i]?.getD 0 != 0) with
    | true =>
      refine AW.st teOk [] (by simp [hd, hw, -Option.some.injEq] <;> rfl) ?_ ?_
      · omega
      have hw' : wtS x i = false := by simpa [wtS] using hw
      refine AW.iff true (by simp) (fun _ => ?_) (fun h => by cases h)
      refine AW.st teOk [] (by simp [-Option.some.injEq] <;> rfl) trivial ?_
      refine AW.ret ⟨.inr rfl, _, Weak.refl _, ?_⟩
      simp [mayB, he, hw']
    | false =>
    have hw' : wtS x i = true := by simpa [wtS] using hw
    cases hr : reqB o with
    | true =>
      rw [hr] at hreq
      refine AW.st teOk [.fz (.c (cB true))] (by simp [hd, hw, -Option.some.injEq] <;> rfl) ?_ ?_
      · refine ⟨?_, hreq⟩
        omega
      refine AW.iff false (by simp) (fun h => by cases h) (fun _ => AW.skip ?_)
      exact ⟨_, Weak.normT hA [0, 2, 4, 6] [] [] 0 _ (by simp) (by simp) (by simp), by simp [hw', hr], by simp⟩
    | false =>
    rw [hr] at hreq
    cases hk : (o.kind != 1) with
    | true =>
      refine AW.st teOk [.fz (.c (cB false))] (by simp [hd, hw, hk, -Option.some.injEq] <;> rfl) ?_ ?_
      · refine ⟨?_, hreq⟩
        omega
      have hk' : o.kind ≠ 1 := by simpa using hk
      refine AW.iff true (by simp) (fun _ => ?_) (fun h => by cases h)
      refine AW.st teOk [] (by simp [-Option.some.injEq] <;> rfl) trivial ?_
      refine AW.ret ⟨.inr rfl, _, Weak.refl _, ?_⟩
      simp [mayB, he, hw', hr, hk']
    | false =>
    have hk' : o.kind = 1 := by simpa using hk
    cases hs : ((sp : Int) == 0) with
    | true =>
      refine AW.st teOk [.fz (.c (cB false))] (by simp [hd, hw, hk, hs, -Option.some.injEq] <;> rfl) ?_ ?_
      · refine ⟨?_, hreq⟩
        omega
      have hs' : sp = 0 := by simpa using hs
      refine AW.iff true (by simp) (fun _ => ?_) (fun h => by cases h)
      refine AW.st teOk [] (by simp [-Option.some.injEq] <;> rfl) trivial ?_
      refine AW.ret ⟨.inr rfl, _, Weak.refl _, ?_⟩
      simp [mayB, he, hw', hr, hk', hs']
    | false =>
      refine AW.st teOk [.fz (.c (cB false))] (by simp [hd, hw, hk, hs, -Option.some.injEq] <;> rfl) ?_ ?_
      · refine ⟨?_, hreq⟩
        omega
      have hs' : sp ≠ 0 := by simpa using hs
      refine AW.iff false (by simp) (fun h => by cases h) (fun _ => AW.skip ?_)
      exact ⟨_, Weak.normT hA [0, 2, 4, 6] [] [] 0 _ (by simp) (by simp) (by simp), by simp [hw', hr, hk', hs'], by simp⟩
  rintro s ⟨hok, rfl⟩
  have hmay : mayB ops x sp i = !blkB ops x i := by simp [mayB, he, hok]
  rw [hmay]
  refine AW.seq ?_
  refine AW.st teOk [] (by simp [-Option.some.injEq] <;> rfl) trivial ?_
  refine AW.block (AW.loop (fun m s => ∃ k : Nat, m = ops.length - k ∧ k ≤ ops.length ∧ upTo (fun b q => wtS x b.length && reqB q && preS ops b.length i) ops k = false ∧ s = ⟨[(0, .c (.fad (encF ops sp c3))), (2, .c (cI i)), (4, .c (.fad (encS x))), (6, .c (cB false)), (43, .c (encOps ops)), (44, .c (cI ops.length)), (45, .c (cI k))], [], 0⟩) _ (Weak.normT hA [0, 2, 4, 6, 43, 44, 45] [] [] 0 _ (by simp) (by simp) (by simp)) ⟨0, rfl, Nat.zero_le _, rfl, by simp⟩ ?_)
  rintro m s ⟨k, rfl, hk, hu, rfl⟩
  refine AW.st teOk [] (by simp [-Option.some.injEq] <;> rfl) trivial ?_
  refine AW.seq ?_
  refine AW.iff (decide (k < ops.length)) (by simp) (fun h => AW.skip ?_) (fun h => AW.exit (x_then (x_then (blockA_exit ?_))))
  · rw [decide_eq_true_eq] at h
    obtain ⟨q, hq⟩ : ∃ e, ops[k]? = some e := ⟨_, List.getElem?_eq_getElem h⟩
    have hdk := encS_drop (x := x) (i := k) (by rw [hx.1]; omega)
    have hreq := req_pure q
    have hpre := prec_pure ops k i
    have hlen : (ops.take k).length = k := by rw [List.length_take]; omega
    have hk10 : (k : Int) < 10 := by omega
    refine AW.seq (AW.block ?_)
    refine AW.st teOk [] (by simp [hq, -Option.some.injEq] <;> rfl) ?_ ?_
    · omega
    cases hw : (x[k]?.getD 0 == 0) with
    | false =>
      refine AW.st teOk [] (by simp [hdk, hw, -Option.some.injEq] <;> rfl) ?_ ?_
      · omega
      refine AW.iff false (by simp) (fun h => by cases h) (fun _ => AW.skip ?_)
      refine AW.text teOk (ans := []) (by simp [-Option.some.injEq] <;> rfl) ?_ ?_
      · trivial
      refine ⟨_, _, Weak.normT hA [0, 2, 4, 6, 43, 44, 45] [] [] 0 _ (by simp) (by simp) (by simp), ?_, k + 1, rfl, h, ?_, ?_⟩
      · omega
      · rw [upTo_s hq, hu, hlen]; simp [wtS, hw]
      · simp
        exact wrap_s k (by omega)
    | true =>
    cases hr : reqB q with
    | false =>
      rw [hr] at hreq
      refine AW.st teOk [.fz (.c (cB false))] (by simp [hdk, hw, -Option.some.injEq] <;> rfl) ?_ ?_
      · refine ⟨?_, hreq⟩
        omega
      refine AW.iff false (by simp) (fun h => by cases h) (fun _ => AW.skip ?_)
      refine AW.text teOk (ans := []) (by simp [-Option.some.injEq] <;> rfl) ?_ ?_
      · trivial
      refine ⟨_, _, Weak.normT hA [0, 2, 4, 6, 43, 44, 45] [] [] 0 _ (by simp) (by simp) (by simp), ?_, k + 1, rfl, h, ?_, ?_⟩
      · omega
      · rw [upTo_s hq, hu, hlen]; simp [hr]
      · simp
        exact wrap_s k (by omega)
    | true =>
      rw [hr] at hreq
      refine AW.st teOk [.fz (.c (cB true)), .fz (.c (cB (preS ops k i)))] (by simp [hdk, hw, -Option.some.injEq] <;> rfl) ?_ ?_
      · refine ⟨?_, hreq, hpre⟩
        omega
      refine AW.iff (preS ops k i) (by simp) (fun hp => ?_) (fun hp => AW.skip ?_)
      · refine AW.st teOk [] (by simp [-Option.some.injEq] <;> rfl) trivial ?_
        refine AW.ret ⟨.inr rfl, _, Weak.refl _, ?_⟩
        have := upTo_hit (f := fun b q => wtS x b.length && reqB q && preS ops b.length i) hq (by simp [hr, hlen, wtS, hw, hp])
        simp [blkB, this]
      · refine AW.text teOk (ans := []) (by simp [-Option.some.injEq] <;> rfl) ?_ ?_
        · trivial
        refine ⟨_, _, Weak.normT hA [0, 2, 4, 6, 43, 44, 45] [] [] 0 _ (by simp) (by simp) (by simp), ?_, k + 1, rfl, h, ?_, ?_⟩
        · omega
        · rw [upTo_s hq, hu, hlen]; simp [hp]
        · simp
          exact wrap_s k (by omega)
  · rw [decide_eq_false_iff_not] at h
    refine AW.st teOk [] (by simp [-Option.some.injEq] <;> rfl) trivial ?_
    refine AW.ret ⟨.inr rfl, _, Weak.refl _, ?_⟩
    have : k = ops.length := by omega
    subst this
    simp [blkB, ← upTo_all, hu]
end Go.Proofs.YtphlhadgcfndhaaGreat.Abs
end
section
namespace Go.Proofs.YtphlhadgcfndhaaGreat.Abs
open Go Go.RowKit
set_option linter.unusedVariables false
set_option linter.unusedSimpArgs false
set_option maxHeartbeats 4000000
set_option maxRecDepth 4000
theorem encS_set {x : List Int} {i : Nat} {b : Int} (hi : i < x.length) : (encS x).take i ++ .sc (.int .u8 b) :: (encS x).drop (i + 1) = encS (x.set i b) := by
  have h : i < (encS x).length := by simpa [encS] using hi
  show _ = (x.set i b).map fun b => Cell.sc (.int .u8 b)
  rw [List.map_set]
  exact (List.set_eq_take_append_cons_drop.trans (if_pos h)).symm
theorem encS_take {x : List Int} (h : x.length = 10) : (encS x).take 10 = encS x := List.take_of_length_le (by simp [encS, h])
theorem encS_fz (x : List Int) : ∀ c ∈ encS x, frozenC c = true := fun c hc => by
  obtain ⟨b, _, rfl⟩ := List.mem_map.1 hc
  rfl
theorem encS_len {x : List Int} : (encS x).length = x.length := by simp [encS]
theorem dnS_0 (ops : List OpS) (e : EfS) (y : List Int) : dnS ops e 0 y = y := by
  unfold dnS
  refine List.ext_getElem? fun j => ?_
  rw [List.getElem?_mapIdx]
  cases y[j]? with
  | none => rfl
  | some b => simp
theorem dnS_len (ops : List OpS) (e : EfS) (k : Nat) (y : List Int) : (dnS ops e k y).length = y.length := by simp [dnS]
theorem dnS_at (ops : List OpS) (e : EfS) (k : Nat) (y : List Int) : (dnS ops e k y)[k]? = y[k]? := by
  unfold dnS
  rw [List.getElem?_mapIdx]
  cases y[k]? with
  | none => rfl
  | some b => simp
theorem dnS_hit {ops : List OpS} {e : EfS} {k : Nat} {y : List Int} (h2 : y[k]?.getD 0 = 2) (hh : hitB ops e k = true) : (dnS ops e k y).set k 1 = dnS ops e (k + 1) y := by
  unfold dnS
  refine List.ext_getElem? fun j => ?_
  rw [List.getElem?_set, List.getElem?_mapIdx, List.getElem?_mapIdx]
  by_cases hj : k = j
  · subst hj
    cases hy : y[k]? with
    | none => rw [hy] at h2; simp at h2
    | some b =>
      rw [hy] at h2
      have : b = 2 := by simpa using h2
      have hl := (List.getElem?_eq_some_iff.1 hy).1
      simp [hl, this, hh]
  · rw [if_neg hj]
    cases y[j]? with
    | none => rfl
    | some b =>
      have : j < k + 1 ↔ j < k := by omega
      simp [this]
theorem dnS_miss {ops : List OpS} {e : EfS} {k : Nat} {y : List Int} (h : ¬ (y[k]?.getD 0 = 2 ∧ hitB ops e k = true)) : dnS ops e (k + 1) y = dnS ops e k y := by
  unfold dnS
  refine List.ext_getElem? fun j => ?_
  rw [List.getElem?_mapIdx, List.getElem?_mapIdx]
  by_cases hj : j = k
  · subst hj
    cases hy : y[j]? with
    | none => rfl
    | some b =>
      rw [hy] at h
      simp at h
      simp
      intro h2
      rw [h h2]
      intro h3
      cases h3
  · cases y[j]? with
    | none => rfl
    | some b =>
      have : j < k + 1 ↔ j < k := by omega
      simp [this]
@[simp] abbrev z10 : List Cell := [.sc (.int .u8 0), .sc (.int .u8 0), .sc (.int .u8 0), .sc (.int .u8 0), .sc (.int .u8 0), .sc (.int .u8 0), .sc (.int .u8 0), .sc (.int .u8 0), .sc (.int .u8 0), .sc (.int .u8 0)]
theorem after_pure (ops : List OpS) (sp : Nat) (c3 : Cell) (x : List Int) (hx : KeyT x) (hn : ops.length ≤ 10) (i : Nat) (hi : i < ops.length) : Pure Tryz.prog 52 [.c (.fad (encF ops sp c3)), .agg (encS x), .c (cI i)] (.agg (encS (afterB ops x i))) := by
  refine pure_of teOk Tryz.func52 (by kernel_rfl) (c := _) rfl (N := 66) rfl (rs := [Go.ResultVar.cell 6 75]) rfl (by simp) fun base A w0 hA => ?_
  obtain ⟨o, he⟩ : ∃ e, ops[i]? = some e := ⟨_, List.getElem?_eq_getElem hi⟩
  have hi10 : (i : Int) < 10 := by omega
  have hi9 : i ≤ 9 := by omega
  have hix : i + 1 ≤ x.length := by rw [hx.1]; omega
  have hset := encS_set (x := x) (i := i) (b := 1) hix
  have hreg := reg_pure o.ef
  have hfz := encS_fz
  unfold frozenC at hfz
  refine AW.st teOk [] (by simp [-Option.some.injEq] <;> rfl) trivial ?_
  have hxl : (encS x).length = 10 := encS_len.trans hx.1
  refine AW.st teOk [] (by simp [hxl, hi9, hset, -Option.some.injEq] <;> rfl) ?_ ?_
  · omega
  obtain ⟨y, hy⟩ : ∃ y, y = x.set i 1 := ⟨_, rfl⟩
  have hyl : y.length = 10 := by rw [hy, List.length_set]; exact hx.1
  rw [← hy]
  have hyt := encS_take hyl
  have hxl : (encS x).length = 10 := encS_len.trans hx.1
  have hel : (encS y).length = 10 := encS_len.trans hyl
  cases hrg : regF o.ef with
  | none =>
    rw [hrg] at hreg
    have hres : afterB ops x i = y := by simp [afterB, he, hrg, hy]
    refine AW.st teOk [.fz (.tup [.agg (encE' zeroE), .c (cB false)])] (by simp [he, -Option.some.injEq] <;> rfl) ?_ ?_
    · exact ⟨hi, hreg⟩
    refine AW.seq ?_
    refine AW.st teOk [] (by simp [-Option.some.injEq] <;> rfl) trivial ?_
    refine AW.iff true (by simp) (fun _ => ?_) (fun h => by cases h)
    refine AW.st teOk [] (by simp [hel, hyt, -Option.some.injEq] <;> rfl) trivial ?_
    refine AW.ret ⟨.inr rfl, _, Weak.refl _, ?_⟩
    rw [hres]
    simp [hel, hyt]
    rw [if_pos (hfz y)]
  | some e =>
    rw [hrg] at hreg
    have hres : afterB ops x i = (dnS ops e ops.length y).set i 2 := by simp [afterB, he, hrg, hy]
    refine AW.st teOk [.fz (.tup [.agg (encE' e), .c (cB true)])] (by simp [he, -Option.some.injEq] <;> rfl) ?_ ?_
    · exact ⟨hi, hreg⟩
    refine AW.seq ?_
    refine AW.st teOk [] (by simp [-Option.some.injEq] <;> rfl) trivial ?_
    refine AW.iff false (by simp) (fun h => by cases h) (fun _ => AW.skip ?_)
    refine AW.seq ?_
    refine AW.st teOk [] (by simp [-Option.some.injEq] <;> rfl) trivial ?_
    refine AW.block (AW.loop (fun m s => ∃ k : Nat, m = ops.length - k ∧ k ≤ ops.length ∧ s = ⟨[(0, .c (.fad (encF ops sp c3))), (2, .c (cI i)), (4, .c (.ptr 0 0 0)), (6, .c (.ptr 1 0 0)), (7, .c (.ptr 2 0 0)), (35, .c (encOps ops)), (36, .c (cI ops.length)), (37, .c (cI k))], [(0, ⟨10, [encS (dnS ops e k y)]⟩), (1, ⟨10, [z10]⟩), (2, ⟨5, [encE' e]⟩)], 3⟩) _ (Weak.normS hA [0, 2, 4, 6, 7, 35, 36, 37] [(4, 0), (6, 1), (7, 2)] [] [] 3 _ (by simp) (by simp) (by simpa using hfz _)) ⟨0, rfl, Nat.zero_le _, by rw [dnS_0]; simp⟩ ?_)
    rintro m s ⟨k, rfl, hk, rfl⟩
    have hzl : (dnS ops e k y).length = 10 := (dnS_len ops e k y).trans hyl
    have hel : (encS (dnS ops e k y)).length = 10 := encS_len.trans hzl
    have hzt := encS_take hzl
    refine AW.st teOk [] (by simp [-Option.some.injEq] <;> rfl) trivial ?_
    refine AW.seq ?_
    refine AW.iff (decide (k < ops.length)) (by simp) (fun h => AW.skip ?_) (fun h => AW.exit (x_then (x_then (blockA_exit ?_))))
    · rw [decide_eq_true_eq] at h
      obtain ⟨q, hq⟩ : ∃ e, ops[k]? = some e := ⟨_, List.getElem?_eq_getElem h⟩
      have hdk := encS_drop (x := dnS ops e k y) (i := k) (by rw [hzl]; omega)
      rw [dnS_at] at hdk
      have hk10 : (k : Int) < 10 := by omega
      have hk9 : k ≤ 9 := by omega
      have hset2 := encS_set (x := dnS ops e k y) (i := k) (b := 1) (by omega)
      have hregq := reg_pure q.ef
      refine AW.seq (AW.block ?_)
      refine AW.st teOk [] (by simp [hq, -Option.some.injEq] <;> rfl) ?_ ?_
      · omega
      cases hrq : regF q.ef with
      | none =>
        rw [hrq] at hregq
        have hm : ¬ (y[k]?.getD 0 = 2 ∧ hitB ops e k = true) := by simp [hitB, hq, hrq]
        refine AW.st teOk [.fz (.tup [.agg (encE' zeroE), .c (cB false)])] (by simp [-Option.some.injEq] <;> rfl) ?_ ?_
        · exact hregq
        refine AW.st teOk [] (by simp [-Option.some.injEq] <;> rfl) trivial ?_
        refine AW.iff false (by simp) (fun h => by cases h) (fun _ => AW.skip ?_)
        refine AW.text teOk (ans := []) (by simp [-Option.some.injEq] <;> rfl) ?_ ?_
        · trivial
        refine ⟨_, _, Weak.normS hA [0, 2, 4, 6, 7, 35, 36, 37] [(4, 0), (6, 1), (7, 2)] [] [] 3 _ (by simp) (by simp) (by simpa using hfz _), ?_, k + 1, rfl, h, ?_⟩
        · omega
        · rw [dnS_miss hm]
          simp
          exact wrap_s k (by omega)
      | some f =>
        rw [hrq] at hregq
        refine AW.st teOk [.fz (.tup [.agg (encE' f), .c (cB true)])] (by simp [-Option.some.injEq] <;> rfl) ?_ ?_
        · exact hregq
        cases h2 : (y[k]?.getD 0 == 2) with
        | false =>
          have hm : ¬ (y[k]?.getD 0 = 2 ∧ hitB ops e k = true) := fun h => by rw [h.1] at h2; cases h2
          refine AW.st teOk [] (by simp [hdk, h2, -Option.some.injEq] <;> rfl) ?_ ?_
          · omega
          refine AW.iff false (by simp) (fun h => by cases h) (fun _ => AW.skip ?_)
          refine AW.text teOk (ans := []) (by simp [-Option.some.injEq] <;> rfl) ?_ ?_
          · trivial
          refine ⟨_, _, Weak.normS hA [0, 2, 4, 6, 7, 35, 36, 37] [(4, 0), (6, 1), (7, 2)] [] [] 3 _ (by simp) (by simp) (by simpa using hfz _), ?_, k + 1, rfl, h, ?_⟩
          · omega
          · rw [dnS_miss hm]
            simp
            exact wrap_s k (by omega)
        | true =>
          have h2' : y[k]?.getD 0 = 2 := by simpa using h2
          have hsr := sameR_pure e f
          refine AW.st teOk [.fz (.c (cB (sameR e f)))] (by simp [hdk, h2, -Option.some.injEq] <;> rfl) ?_ ?_
          · exact ⟨by omega, hsr⟩
          refine AW.iff (sameR e f) (by simp) (fun hs => ?_) (fun hs => AW.skip ?_)
          · have hm := dnS_hit (ops := ops) (e := e) h2' (by simp [hitB, hq, hrq, hs])
            refine AW.text teOk (ans := []) (by simp [hel, hk9, hset2, -Option.some.injEq] <;> rfl) ?_ ?_
            · omega
            refine AW.text teOk (ans := []) (by simp [-Option.some.injEq] <;> rfl) ?_ ?_
            · trivial
            refine ⟨_, _, Weak.normS hA [0, 2, 4, 6, 7, 35, 36, 37] [(4, 0), (6, 1), (7, 2)] [] [] 3 _ (by simp) (by simp) (by simpa using hfz _), ?_, k + 1, rfl, h, ?_⟩
            · omega
            · rw [← hm]
              simp
              exact wrap_s k (by omega)
          · have hm : ¬ (y[k]?.getD 0 = 2 ∧ hitB ops e k = true) := by simp [hitB, hq, hrq, hs]
            refine AW.text teOk (ans := []) (by simp [-Option.some.injEq] <;> rfl) ?_ ?_
            · trivial
            refine ⟨_, _, Weak.normS hA [0, 2, 4, 6, 7, 35, 36, 37] [(4, 0), (6, 1), (7, 2)] [] [] 3 _ (by simp) (by simp) (by simpa using hfz _), ?_, k + 1, rfl, h, ?_⟩
            · omega
            · rw [dnS_miss hm]
              simp
              exact wrap_s k (by omega)
    · rw [decide_eq_false_iff_not] at h
      have hkn : k = ops.length := by omega
      subst hkn
      have hset3 := encS_set (x := dnS ops e ops.length y) (i := i) (b := 2) (by omega)
      have hel3 : (encS ((dnS ops e ops.length y).set i 2)).length = 10 := encS_len.trans (by rw [List.length_set]; exact hzl)
      have hzt3 := encS_take (x := (dnS ops e ops.length y).set i 2) (by rw [List.length_set]; exact hzl)
      refine AW.st teOk [] (by simp [hel, hi9, hset3, -Option.some.injEq] <;> rfl) ?_ ?_
      · omega
      refine AW.st teOk [] (by simp [hel3, hzt3, -Option.some.injEq] <;> rfl) trivial ?_
      refine AW.ret ⟨.inr rfl, _, Weak.refl _, ?_⟩
      rw [hres]
      simp [hel3, hzt3]
      rw [if_pos (hfz _)]
end Go.Proofs.YtphlhadgcfndhaaGreat.Abs
end
