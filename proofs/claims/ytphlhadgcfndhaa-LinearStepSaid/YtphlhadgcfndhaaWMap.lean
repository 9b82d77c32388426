/- Maps with strings as keys: a map is a block that is kept; what it holds is told beside the state. -/
import Derived.Test.YtphlhadgcfndhaaAbsS
import Derived.Scope
import Derived.MapKept
namespace Go.Proofs.Ytphlhadgcfndhaa.Abs
open Go Go.RowKit
set_option linter.unusedVariables false
set_option linter.unusedSimpArgs false
abbrev Kp := List (Nat × Obj)
def Old.at (A : Old) (κ : Kp) : Old := { A with kept := κ }
/-! ### a block that is a map changes -/
section
variable {base : Nat} {A : Nat → Prop} {w0 w : World} {β : Nat → Bnd} {σ : Sig} {M : Nat} {o o' : Obj}
theorem cell_map {w : World} {es : Array MapEntry} {cl : Nat} {ad : Addr} (h : w.heap[ad.block]? = some (.map es cl)) : w.cell? ad = none := by
  unfold World.cell?
  rw [h]
abbrev setB (w : World) (M : Nat) (o : Obj) : World := { w with heap := w.heap.setIfInBounds M o }
theorem cell_set {es es' : Array MapEntry} {cl cl' : Nat} (hb : w.heap[M]? = some (.map es cl)) (ad : Addr) : (setB w M (.map es' cl')).cell? ad = w.cell? ad := by
  by_cases h : ad.block = M
  · subst h
    rw [cell_map hb]
    exact cell_map (MapKept.heap_set (o' := .map es' cl') hb).1
  · exact cell_same ((MapKept.heap_set (o' := .map es' cl') hb).2 _ h)
theorem repF_set {es es' : Array MapEntry} {cl cl' : Nat} (hb : w.heap[M]? = some (.map es cl)) {ok : Nat → Prop} {c : Cell} {v : Value} (h : RepF w ok c v) : RepF (setB w M (.map es' cl')) ok c v := by
  induction h with
  | any v h => exact .any v h
  | sc v h => exact .sc v h
  | bit b => exact .bit b
  | row vs h1 h2 h3 h4 h5 h6 ih => exact .row vs h1 h2 h3 h4 (fun ad ha i e hi j hj => (cell_set hb _).trans (h5 ad ha i e hi j hj)) ih
  | fad vs h1 h2 h3 ih => exact .fad vs h1 (fun j hj => (cell_set hb _).trans (h2 j hj)) ih
  | fn vs h1 h2 ih => exact .fn vs h1 ih
theorem okOf_set (o : Obj) : okOf base A (setB w M o) β = okOf base A w β := by
  funext x
  unfold okOf
  simp
theorem repC_set {es es' : Array MapEntry} {cl cl' : Nat} (hb : w.heap[M]? = some (.map es cl)) {c : Cell} {v : Value} (h : RepC w (okOf base A w β) β c v) : RepC (setB w M (.map es' cl')) (okOf base A (setB w M (.map es' cl')) β) β c v := by
  rw [okOf_set]
  cases h with
  | fz h => exact .fz (repF_set hb h)
  | ref hb' hl => exact .ref hb' hl
  | refv hb' => exact .refv hb'
  | gone hb' hv => exact .gone hb' hv
  | ptr hb' => exact .ptr hb'
  | gonep hb' hv => exact .gonep hb' hv
theorem repV_set {es es' : Array MapEntry} {cl cl' : Nat} (hb : w.heap[M]? = some (.map es cl)) {c : AVal} {v : Value} (h : RepV w (okOf base A w β) β c v) : RepV (setB w M (.map es' cl')) (okOf base A (setB w M (.map es' cl')) β) β c v := by
  induction h with
  | any v => exact .any v
  | c h => exact .c (repC_set hb h)
  | agg h => exact .agg ⟨h.1, fun i c v hc hv => repC_set hb (h.2 i c v hc hv)⟩
  | tup hl _ ih => exact .tup hl ih
  | cut h => exact .cut (by rw [okOf_set]; exact repF_set hb h)
theorem Inv.setM (I : Inv base A w0 β σ w) {es es' : Array MapEntry} {cl cl' : Nat} (hb : w.heap[M]? = some (.map es cl)) (hM : base ≤ M) (hok : okOf base A w β M) : Inv base A w0 β σ (setB w M (.map es' cl')) := by
  have hs := MapKept.heap_set (o' := Obj.map es' cl') hb
  refine ⟨I.below.trans ⟨rfl, rfl, rfl, by simp, fun k hk => hs.2 k (by omega)⟩, by simpa using I.hbase, I.old, I.dom, I.virt, I.fin, fun i b k c h => by simpa using I.lo i b k c h, I.inj, fun i b k c ob h hl => ?_⟩
  obtain ⟨g1, g2, g3, arr, ty, g4, g5, g6, g7⟩ := I.obj i b k c ob h hl
  have hne : b ≠ M := fun e => hok.2.2 i b k c h e
  refine ⟨g1, g2, g3, arr, ty, (hs.2 b hne).trans g4, g5, g6, fun i e he j c hc => ?_⟩
  obtain ⟨v, hv, hr⟩ := g7 i e he j c hc
  exact ⟨v, hv, repC_set hb hr⟩
end
/-! ### code beside kept blocks -/
def AWK (P : Program) (base : Nat) (A : Old) (w0 : World) (n : Nat) (c : Code) (s : St) (κ : Kp) (Q : Exit → St → Kp → Prop) : Prop :=
  ∀ β a w, InvS base (A.at κ) w0 n β s a w → c.wp P (fun e a' w' => ∃ s' κ' β', Q e s' κ' ∧ InvS base (A.at κ') w0 n β' s' a' w') a w
def thenK (K : St → Kp → Prop) (Q : Exit → St → Kp → Prop) : Exit → St → Kp → Prop
  | .normal, s, κ => K s κ
  | e, s, κ => Q e s κ
def blockK (id : Nat) (Q : Exit → St → Kp → Prop) : Exit → St → Kp → Prop
  | .exit id', s, κ => if id' = id then Q .normal s κ else Q (.exit id') s κ
  | e, s, κ => Q e s κ
section
variable {P : Program} {base : Nat} {A : Old} {w0 : World} {n : Nat} {κ : Kp}
theorem AWK.lift {c : Code} {s : St} {Q : Exit → St → Kp → Prop} (h : AW P base (A.at κ) w0 n c s (fun e s' => Q e s' κ)) : AWK P base A w0 n c s κ Q := fun β a w I =>
  wp_mono (h β a w I) fun e a' w' ⟨s', β', hq, I'⟩ => ⟨s', κ, β', hq, I'⟩
theorem AWK.weak {c : Code} {s s' : St} {Q : Exit → St → Kp → Prop} (h : Weak (A.at κ) s s') (hc : AWK P base A w0 n c s' κ Q) : AWK P base A w0 n c s κ Q := fun β a w I => by
  obtain ⟨β', I'⟩ := h base w0 n β a w I
  exact hc β' a w I'
theorem AWK.to {c : Code} {s s1 s2 : St} {Q : Exit → St → Kp → Prop} (h : Weak (A.at κ) s s1) (e : s1 = s2) (hc : AWK P base A w0 n c s2 κ Q) : AWK P base A w0 n c s κ Q := AWK.weak h (e ▸ hc)
theorem AWK.skip {s : St} {Q : Exit → St → Kp → Prop} (h : Q .normal s κ) : AWK P base A w0 n .skip s κ Q := fun β a w I => wp_skip ⟨s, κ, β, h, I⟩
theorem AWK.label {l : Nat} {s : St} {Q : Exit → St → Kp → Prop} (h : Q .normal s κ) : AWK P base A w0 n (.label l) s κ Q := fun β a w I => wp_label ⟨s, κ, β, h, I⟩
theorem AWK.exit {id : Nat} {s : St} {Q : Exit → St → Kp → Prop} (h : Q (.exit id) s κ) : AWK P base A w0 n (.exit id) s κ Q := fun β a w I => wp_exit ⟨s, κ, β, h, I⟩
theorem AWK.ret {s : St} {Q : Exit → St → Kp → Prop} (h : Q .ret s κ) : AWK P base A w0 n .ret s κ Q := fun β a w I => wp_ret ⟨s, κ, β, h, I⟩
theorem AWK.seq {x y : Code} {s : St} {Q : Exit → St → Kp → Prop} (h : AWK P base A w0 n x s κ (thenK (fun s' κ' => AWK P base A w0 n y s' κ' Q) Q)) : AWK P base A w0 n (.seq x y) s κ Q := fun β a w I =>
  wp_seq (wp_mono (h β a w I) fun e a' w' ⟨s', κ', β', hq, I'⟩ => by
    cases e with
    | normal => exact hq β' a' w' I'
    | exit id => exact ⟨s', κ', β', hq, I'⟩
    | goto l => exact ⟨s', κ', β', hq, I'⟩
    | ret => exact ⟨s', κ', β', hq, I'⟩
    | panic ch => exact ⟨s', κ', β', hq, I'⟩
    | outgrown => exact ⟨s', κ', β', hq, I'⟩)
theorem AWK.iff (b : Bool) {c : Operand} {x y : Code} {s : St} {Q : Exit → St → Kp → Prop} (hc : opval s.τ c = .c (.sc (.bool b))) (ht : b = true → AWK P base A w0 n x s κ Q) (hf : b = false → AWK P base A w0 n y s κ Q) : AWK P base A w0 n (.cond c x y) s κ Q := fun β a w I => by
  have hr := opval_rep I c
  rw [hc] at hr
  refine wp_cond (t := b) (sc_of hr).1 ?_
  cases b with
  | true => exact ht rfl β a w I
  | false => exact hf rfl β a w I
theorem AWK.block {id : Nat} {c : Code} {s : St} {Q : Exit → St → Kp → Prop} (h : AWK P base A w0 n c s κ (blockK id Q)) : AWK P base A w0 n (.block id c) s κ Q := fun β a w I =>
  wp_block (wp_mono (h β a w I) fun e a' w' ⟨s', κ', β', hq, I'⟩ => by
    cases e with
    | normal => exact ⟨s', κ', β', hq, I'⟩
    | exit id' =>
      by_cases hid : id' = id
      · simp only [blockK, hid, if_true] at hq
        simp only [Exit.inBlock, hid, if_true]
        exact ⟨s', κ', β', hq, I'⟩
      · simp only [blockK, hid, if_false] at hq
        simp only [Exit.inBlock, hid, if_false]
        exact ⟨s', κ', β', hq, I'⟩
    | goto l => exact ⟨s', κ', β', hq, I'⟩
    | ret => exact ⟨s', κ', β', hq, I'⟩
    | panic ch => exact ⟨s', κ', β', hq, I'⟩
    | outgrown => exact ⟨s', κ', β', hq, I'⟩)
theorem AWK.loop {c : Code} {s : St} {Q : Exit → St → Kp → Prop} (I : Nat → St → Kp → Prop) (m : Nat) {s0 : St} (hw : Weak (A.at κ) s s0) (h0 : I m s0 κ)
    (round : ∀ m s κ, I m s κ → AWK P base A w0 n c s κ (thenK (fun s' κ' => ∃ s'' m', Weak (A.at κ') s' s'' ∧ m' < m ∧ I m' s'' κ') Q)) : AWK P base A w0 n (.loop c) s κ Q := fun β a w Iv => by
  obtain ⟨β0, I0⟩ := hw base w0 n β a w Iv
  refine loop_rel (fun m a w => ∃ s κ β, I m s κ ∧ InvS base (A.at κ) w0 n β s a w) ⟨s0, κ, β0, h0, I0⟩ ?_
  rintro m a w ⟨s, κ1, β, hI, Is⟩
  refine wp_mono (round m s κ1 hI β a w Is) fun e a' w' ⟨s', κ', β', hq, I'⟩ => ?_
  cases e with
  | normal =>
    obtain ⟨s'', m', hw', hlt, hI'⟩ := hq
    obtain ⟨β'', I''⟩ := hw' base w0 n β' a' w' I'
    exact ⟨m', hlt, s'', κ', β'', hI', I''⟩
  | exit id => exact ⟨s', κ', β', hq, I'⟩
  | goto l => exact ⟨s', κ', β', hq, I'⟩
  | ret => exact ⟨s', κ', β', hq, I'⟩
  | panic ch => exact ⟨s', κ', β', hq, I'⟩
  | outgrown => exact ⟨s', κ', β', hq, I'⟩
theorem AWK.scope {c : Code} {s : St} {Q : Exit → St → Kp → Prop} (h : AWK P base A w0 n c s κ (fun e s' κ' => Q e s' κ' ∧ ∀ l, e ≠ .goto l)) : AWK P base A w0 n (.scope c) s κ Q := fun β a w I =>
  wp_scope_straight (wp_mono (h β a w I) fun e a' w' ⟨s', κ', β', ⟨hq, hg⟩, I'⟩ => by
    cases e with
    | goto l => exact absurd rfl (hg l)
    | normal => exact ⟨s', κ', β', hq, I'⟩
    | exit id => exact ⟨s', κ', β', hq, I'⟩
    | ret => exact ⟨s', κ', β', hq, I'⟩
    | panic ch => exact ⟨s', κ', β', hq, I'⟩
    | outgrown => exact ⟨s', κ', β', hq, I'⟩)
theorem AWK.text {T : TyEnv} (hT : TOk P T) {id : Nat} {ops : Array Oper} {s s' : St} {Q : Exit → St → Kp → Prop} {ans ans' : List Ans} {p : Prop} (he : evOps P T n ops ops.toList s ans = some (s', ans', p)) (hp : p) (h : Q .normal s' κ) : AWK P base A w0 n (.region id ops false) s κ Q := AWK.lift (AW.text hT he hp h)
theorem AWK.st {T : TyEnv} (hT : TOk P T) {id : Nat} {ops : Array Oper} {y : Code} {s s' : St} {Q : Exit → St → Kp → Prop} (ans : List Ans) {ans' : List Ans} {p : Prop} (he : evOps P T n ops ops.toList s ans = some (s', ans', p)) (hp : p) (h : AWK P base A w0 n y s' κ Q) : AWK P base A w0 n (.seq (.region id ops false) y) s κ Q := AWK.seq (AWK.text hT he hp h)
theorem AWK.draw (hm : P.follows .mixedOrders = true) {T : TyEnv} (hT : TOk P T) {id : Nat} {ops : Array Oper} {s : St} {Q : Exit → St → Kp → Prop} {ans : List AVal} {R : List Rec} (hev : evUs T (PN P) n ops ops.toList s.τ s.σ s.fr ans = some R) (hon : onOk ops = true) (hchk : chkAll ops (depTab ops) ops.toList R = true) (hp : allP R)
    (h : Q .normal (endSt R s) κ) : AWK P base A w0 n (.region id ops true) s κ Q := AWK.lift (AW.draw hm hT hev hon hchk hp h)
theorem AWK.dr (hm : P.follows .mixedOrders = true) {T : TyEnv} (hT : TOk P T) {id : Nat} {ops : Array Oper} {y : Code} {s : St} {Q : Exit → St → Kp → Prop} (ans : List AVal) {R : List Rec} (hev : evUs T (PN P) n ops ops.toList s.τ s.σ s.fr ans = some R) (hon : onOk ops = true) (hchk : chkAll ops (depTab ops) ops.toList R = true) (hp : allP R)
    (h : AWK P base A w0 n y (endSt R s) κ Q) : AWK P base A w0 n (.seq (.region id ops true) y) s κ Q := AWK.seq (AWK.draw hm hT hev hon hchk hp h)
theorem k_then {K : St → Kp → Prop} {Q : Exit → St → Kp → Prop} {id : Nat} {s : St} (h : Q (.exit id) s κ) : thenK K Q (.exit id) s κ := h
theorem blockK_exit {id : Nat} {Q : Exit → St → Kp → Prop} {s : St} (h : Q .normal s κ) : blockK id Q (.exit id) s κ := by
  simp only [blockK, if_true]
  exact h
theorem blockK_ne {id id' : Nat} {Q : Exit → St → Kp → Prop} {s : St} (hne : id' ≠ id) (h : Q (.exit id') s κ) : blockK id Q (.exit id') s κ := by
  simp only [blockK, if_neg hne]
  exact h
/-! ### regions with operations on a map -/
def RK (P : Program) (base : Nat) (A : Old) (w0 : World) (n : Nat) (ops : Array Oper) (k : Nat) (s : St) (κ : Kp) (Q : Exit → St → Kp → Prop) : Prop :=
  ∀ β a w, InvS base (A.at κ) w0 n β s a w → wpOps P ops (fun e a' w' => ∃ s' κ' β', Q e s' κ' ∧ InvS base (A.at κ') w0 n β' s' a' w') (List.range' k (ops.size - k)) a w
theorem AWK.region {id : Nat} {ops : Array Oper} {s : St} {Q : Exit → St → Kp → Prop} (h : RK P base A w0 n ops 0 s κ Q) : AWK P base A w0 n (.region id ops false) s κ Q := fun β a w I => by
  refine wp_region ?_
  rw [List.range_eq_range']
  exact h β a w I
theorem RK.done {ops : Array Oper} {k : Nat} {s : St} {Q : Exit → St → Kp → Prop} (hk : ops.size ≤ k) (h : Q .normal s κ) : RK P base A w0 n ops k s κ Q := fun β a w I => by
  rw [show ops.size - k = 0 by omega]
  exact ⟨s, κ, β, h, I⟩
theorem evOps_pre {T : TyEnv} (hT : TOk P T) {ops : Array Oper} {Q : Exit → Act → World → Prop} : ∀ (j k m : Nat), k + (j + m) = ops.size → ∀ {A : Old} {ans ans' : List Ans} {s s' : St} {p : Prop} {β : Nat → Bnd} {a : Act} {w : World}, evOps P T n ops ((ops.toList.drop k).take j) s ans = some (s', ans', p) → p → InvS base A w0 n β s a w →
    (∀ β' a' w', InvS base A w0 n β' s' a' w' → wpOps P ops Q (List.range' (k + j) m) a' w') → wpOps P ops Q (List.range' k (j + m)) a w
  | 0, k, m, hk, A, ans, ans', s, s', p, β, a, w, he, hp, I, hQ => by
    rw [List.take_zero] at he
    cases he
    rw [Nat.zero_add]
    exact hQ β a w I
  | j + 1, k, m, hk, A, ans, ans', s, s', p, β, a, w, he, hp, I, hQ => by
    have hlt : k < ops.toList.length := by simp; omega
    rw [List.drop_eq_getElem_cons hlt, List.take_succ_cons] at he
    unfold evOps at he
    split at he
    case h_1 => cases he
    rename_i s1 ans1 p1 h1
    split at he
    case h_1 => cases he
    rename_i s2 ans2 p2 h2
    cases he
    rw [show j + 1 + m = (j + m) + 1 by omega, List.range'_succ, wpOps_cons]
    refine evOp_sound hT h1 hp.1 I (i := k) (by rw [← Array.getElem?_toList, List.getElem?_eq_getElem hlt]) (fun β' a' w' I' => ?_)
    exact evOps_pre hT j (k + 1) m (by omega) h2 hp.2 I' (fun β2 a2 w2 I2 => by
      rw [show k + 1 + j = k + (j + 1) by omega]
      exact hQ β2 a2 w2 I2)
theorem RK.pre {T : TyEnv} (hT : TOk P T) {ops : Array Oper} {k : Nat} {s s' : St} {Q : Exit → St → Kp → Prop} (j : Nat) (ans : List Ans) {ans' : List Ans} {p : Prop} (hj : k + j ≤ ops.size) (he : evOps P T n ops ((ops.toList.drop k).take j) s ans = some (s', ans', p)) (hp : p) (h : RK P base A w0 n ops (k + j) s' κ Q) : RK P base A w0 n ops k s κ Q := fun β a w I => by
  rw [show ops.size - k = j + (ops.size - (k + j)) by omega]
  exact evOps_pre hT j k (ops.size - (k + j)) (by omega) he hp I fun β' a' w' I' => h β' a' w' I'
/-- Keys, all with true, in the order in which they came. -/
def entsOf (ks : List ByteArray) : List MapEntry := ks.zipIdx.map fun x => { key := .string x.1, val := .bool true, born := x.2 }
def mapOf (ks : List ByteArray) : Obj := .map (entsOf ks).toArray ks.length
theorem ents_push (ks : List ByteArray) (k : ByteArray) : (entsOf ks).toArray.push { key := .string k, val := .bool true, born := ks.length } = (entsOf (ks ++ [k])).toArray := by
  unfold entsOf
  rw [List.zipIdx_append, List.map_append]
  simp
theorem ents_find (ks : List ByteArray) (k : ByteArray) : Instr.findNow .string (.string k) (entsOf ks) 0 = some none ∧ k ∉ ks ∨ k ∈ ks ∧ ∃ j, Instr.findNow .string (.string k) (entsOf ks) 0 = some (some (j, .bool true)) := by
  have hmem : ∀ x ∈ entsOf ks, ∃ y ∈ ks, x.key = .string y ∧ x.val = .bool true := fun x hx => by
    obtain ⟨⟨y, i⟩, hy, rfl⟩ := List.mem_map.1 hx
    exact ⟨y, (List.mem_zipIdx hy).2.2 ▸ List.getElem_mem _, rfl, rfl⟩
  rcases MapKept.findNow_spec (d := .string) (k := .string k) (by simp [MapKept.IsKey]) (entsOf ks) 0 (fun x hx => by
    obtain ⟨y, _, h, _⟩ := hmem x hx
    rw [h]
    simp [MapKept.IsKey]) with ⟨h1, h2⟩ | ⟨j, e, h1, h2, h3⟩
  · refine .inl ⟨h1, fun hk => ?_⟩
    obtain ⟨i, hi, he⟩ := List.mem_iff_getElem.1 hk
    refine h2 { key := .string k, val := .bool true, born := i } (List.mem_map.2 ⟨(k, i), ?_, rfl⟩) rfl
    rw [List.mem_zipIdx_iff_getElem?]
    simp [hi, he]
  · obtain ⟨y, hy, g1, g2⟩ := hmem e (List.mem_of_getElem? h2)
    rw [g1] at h3
    cases h3
    exact .inr ⟨hy, 0 + j, by rw [h1, g2]⟩
theorem kept_at {β : Nat → Bnd} {s : St} {a : Act} {w : World} (I : InvS base (A.at κ) w0 n β s a w) {M : Nat} {ob : Obj} (h : (M, ob) ∈ κ) : base ≤ M ∧ okOf base A.own w β M ∧ w.heap[M]? = some ob := I.ext.kp M ob h
theorem RK.make {ops : Array Oper} {k : Nat} {o : Oper} {mt d : Nat} {s : St} {Q : Exit → St → Kp → Prop} (ho : ops[k]? = some o) (hop : o.op = .makeMap mt none) (hd : o.dst = some d) (hg : o.guard = none) (hdn : d < n)
    (h : ∀ M, RK P base A w0 n ops (k + 1) ⟨putT d (.c (.sc (.map (some M)))) s.τ, s.σ, s.fr⟩ ((M, mapOf []) :: κ) Q) : RK P base A w0 n ops k s κ Q := fun β a w I => by
  have hlt := (Array.getElem?_eq_some_iff.1 ho).1
  rw [show ops.size - k = (ops.size - (k + 1)) + 1 by omega, List.range'_succ, wpOps_cons]
  unfold wpOp
  rw [ho]
  simp only
  have hw : Region.wanted o (yielded ops a.tmps) = true := by unfold Region.wanted; rw [hg]
  rw [hw, if_pos rfl]
  left
  unfold Oper.wp
  have hrun : (execOp a.eval o).run P w = .ok (.value (.map (some w.heap.size))) (w.alloc (.map #[] 0)) := by
    simp [execOp, hop, Instr.makeMap]
  rw [hrun, Oper.upon_value]
  have hB : Below w.heap.size w (w.alloc (.map #[] 0)) := ⟨rfl, rfl, rfl, by show w.heap.size ≤ (w.heap.push _).size; simp, fun q hq => (MapKept.heap_alloc w (.map #[] 0)).2 q hq⟩
  obtain ⟨I', hok⟩ := I.inv.more hB
  have J := put_inv (fr' := s.fr) I I' (BLe.refl' β) hok I.fresh (d := some d) (v := .c (.sc (.map (some w.heap.size)))) (u := .map (some w.heap.size)) (.c (.fz (.sc _ rfl))) (τ' := putT d (.c (.sc (.map (some w.heap.size)))) s.τ) (by unfold putD; simp only; rw [if_pos hdn])
  rw [hd]
  refine h w.heap.size β _ _ ⟨J.inv, J.defers, J.size, J.tmps, J.fresh, ⟨J.ext.ble, J.ext.ok, fun x ob hx => ?_⟩⟩
  rcases List.mem_cons.1 hx with hx | hx
  · cases hx
    refine ⟨I.inv.hbase, ⟨fun hlt => absurd I.inv.hbase (by omega), by show w.heap.size < (w.heap.push _).size; simp, fun id b k2 cap hb e => ?_⟩, (MapKept.heap_alloc w (.map #[] 0)).1⟩
    have := (I.inv.lo id b k2 cap hb).2
    omega
  · exact J.ext.kp x ob hx
theorem RK.find {ops : Array Oper} {k : Nat} {o : Oper} {mt kt et d M : Nat} {xm xk : Operand} {key : ByteArray} {ks : List ByteArray} {s : St} {Q : Exit → St → Kp → Prop} (ho : ops[k]? = some o) (hop : o.op = .lookup mt xm xk false) (hd : o.dst = some d) (hg : o.guard = none) (hdn : d < n)
    (hmt : P.underlying mt = some (.map kt et)) (hkt : P.underlying kt = some .string) (hz : ∀ w, (zeroValue et).run P w = .ok (.bool false) w) (b : Bool) (hbk : b = true ↔ key ∈ ks) (hm : opval s.τ xm = .c (.sc (.map (some M)))) (hk : opval s.τ xk = .c (.sc (.string key))) (hκ : (M, mapOf ks) ∈ κ)
    (h : RK P base A w0 n ops (k + 1) ⟨putT d (.c (.sc (.bool b))) s.τ, s.σ, s.fr⟩ κ Q) : RK P base A w0 n ops k s κ Q := fun β a w I => by
  have hlt := (Array.getElem?_eq_some_iff.1 ho).1
  rw [show ops.size - k = (ops.size - (k + 1)) + 1 by omega, List.range'_succ, wpOps_cons]
  unfold wpOp
  rw [ho]
  simp only
  have hw : Region.wanted o (yielded ops a.tmps) = true := by unfold Region.wanted; rw [hg]
  rw [hw, if_pos rfl]
  left
  unfold Oper.wp
  obtain ⟨_, _, hb⟩ := kept_at I hκ
  unfold mapOf at hb
  have e1 : a.eval xm = .map (some M) := by
    have := opval_rep I xm
    rw [hm] at this
    exact (sc_of this).1
  have e2 : a.eval xk = .string key := by
    have := opval_rep I xk
    rw [hk] at this
    exact (sc_of this).1
  have hck : ∀ e, (Instr.checkKey e 10000 kt (.string key)).run P w = .ok () w := fun e => MapKept.run_checkKey (k := .string key) hkt (by simp [MapKept.IsKey]) e 9999
  have hrun : (execOp a.eval o).run P w = .ok (.value (.bool b)) w := by
    rcases ents_find ks key with ⟨h1, h2⟩ | ⟨h1, j, h2⟩
    · have hf := MapKept.run_findKey (P := P) (w := w) hkt h1
      have hb0 : b = false := by
        cases b with
        | true => exact absurd (hbk.1 rfl) h2
        | false => rfl
      simp [execOp, hop, e1, e2, Instr.lookup, run_underlying hmt, MapKept.run_getObj_map hb, hck, hf, hz w, hb0, Result.andThen]
    · have hf := MapKept.run_findKey (P := P) (w := w) hkt h2
      simp [execOp, hop, e1, e2, Instr.lookup, run_underlying hmt, MapKept.run_getObj_map hb, hck, hf, hbk.2 h1, Result.andThen]
  rw [hrun, Oper.upon_value, hd]
  exact h β _ _ (put_inv (fr' := s.fr) I I.inv (BLe.refl' β) (fun x hx => ⟨hx, rfl⟩) I.fresh (d := some d) (.c (.fz (.sc _ rfl))) (by unfold putD; simp only; rw [if_pos hdn]))
theorem RK.add {ops : Array Oper} {k : Nat} {o : Oper} {mt kt et M : Nat} {xm xk xv : Operand} {key : ByteArray} {ks : List ByteArray} {s : St} {Q : Exit → St → Kp → Prop} (hwb : w0.heap.size ≤ base) (ho : ops[k]? = some o) (hop : o.op = .mapUpdate mt xm xk xv ∨ o.op = .insert mt xm xk xv) (hd : o.dst = none) (hg : o.guard = none)
    (hmt : P.underlying mt = some (.map kt et)) (hkt : P.underlying kt = some .string) (hm : opval s.τ xm = .c (.sc (.map (some M)))) (hk : opval s.τ xk = .c (.sc (.string key))) (hv : opval s.τ xv = .c (.sc (.bool true))) (hnew : key ∉ ks)
    (h : RK P base A w0 n ops (k + 1) s [(M, mapOf (ks ++ [key]))] Q) : RK P base A w0 n ops k s [(M, mapOf ks)] Q := fun β a w I => by
  have hlt := (Array.getElem?_eq_some_iff.1 ho).1
  rw [show ops.size - k = (ops.size - (k + 1)) + 1 by omega, List.range'_succ, wpOps_cons]
  unfold wpOp
  rw [ho]
  simp only
  have hw : Region.wanted o (yielded ops a.tmps) = true := by unfold Region.wanted; rw [hg]
  rw [hw, if_pos rfl]
  left
  unfold Oper.wp
  obtain ⟨hM, hokM, hb⟩ := kept_at I (List.mem_singleton.2 rfl)
  unfold mapOf at hb
  have e1 : a.eval xm = .map (some M) := by
    have := opval_rep I xm
    rw [hm] at this
    exact (sc_of this).1
  have e2 : a.eval xk = .string key := by
    have := opval_rep I xk
    rw [hk] at this
    exact (sc_of this).1
  have e3 : a.eval xv = .bool true := by
    have := opval_rep I xv
    rw [hv] at this
    exact (sc_of this).1
  have hck : ∀ e, (Instr.checkKey e 10000 kt (.string key)).run P w = .ok () w := fun e => MapKept.run_checkKey (k := .string key) hkt (by simp [MapKept.IsKey]) e 9999
  have hrun : (execOp a.eval o).run P w = .ok .skip (setB w M (mapOf (ks ++ [key]))) := by
    rcases ents_find ks key with ⟨h1, h2⟩ | ⟨h1, j, h2⟩
    · have hf := MapKept.run_findKey (P := P) (w := w) hkt h1
      have hp := ents_push ks key
      rcases hop with hop | hop <;> simp [execOp, hop, e1, e2, e3, Instr.mapUpdate, run_underlying hmt, MapKept.run_getObj_map hb, hck, hf, MapKept.run_setObj_map _ hb, Result.andThen, hp, mapOf]
    · exact absurd h1 hnew
  rw [hrun, Oper.upon_skip, hd]
  refine h β _ _ ⟨I.inv.setM hb hM hokM, I.defers, I.size, fun t v ht => ?_, I.fresh, ⟨I.ext.ble, fun x hx => ?_, fun x ob hx => ?_⟩⟩
  · obtain ⟨u, hu, hr⟩ := I.tmps t v ht
    exact ⟨u, hu, repV_set hb hr⟩
  · obtain ⟨h1, h2⟩ := I.ext.ok x hx
    have hne : x ≠ M := by have := hx.2.1; omega
    exact ⟨by rw [show okOf base (A.at [(M, mapOf (ks ++ [key]))]).own (setB w M (mapOf (ks ++ [key]))) β = okOf base A.own w β from okOf_set _]; exact h1, ((MapKept.heap_set (o' := mapOf (ks ++ [key])) hb).2 x hne).trans h2⟩
  · have hx : (x, ob) ∈ [(M, mapOf (ks ++ [key]))] := hx
    rw [List.mem_singleton] at hx
    cases hx
    exact ⟨hM, by rw [show okOf base (A.at [(M, mapOf (ks ++ [key]))]).own (setB w M (mapOf (ks ++ [key]))) β = okOf base A.own w β from okOf_set _]; exact hokM, (MapKept.heap_set (o' := mapOf (ks ++ [key])) hb).1⟩
/-- A call's contract, by its body, which may make maps. -/
theorem pure_ofK {T : TyEnv} (hT : TOk P T) {f : FuncId} {fn : Func} {c : Code} (hf : P.funcs[f]? = some fn) (hname : (fn.name == "runtime.NumGoroutine") = false) (hb : fn.body = some c) {N : Nat} (hN : fn.ntmps = N) {rs : List ResultVar} (hrs : fn.results.toList = rs) {xs : List AVal} {res : AVal} (hlen : xs.length ≤ N)
    (h : ∀ A w0, A.lim = 0 → AWK P w0.heap.size A w0 N c ⟨entry 0 xs, [], 0⟩ [] fun e s κ => (e = .normal ∨ e = .ret) ∧ ∃ s', Weak (A.at κ) s s' ∧ resA T s' rs = some res) : Pure P f xs res := by
  subst hN hrs
  refine ⟨⟨fn, hf, hname, by rw [hb]; rfl⟩, fun w A vs hA hr => calls_of_wp hf hb ?_⟩
  refine wp_mono (h (oldOf A) w rfl noB _ w (init_inv hA hr hlen)) fun e a' w' ⟨s', κ', β', ⟨he, s'', hw, hres⟩, I'⟩ => ?_
  obtain ⟨β'', I''⟩ := hw _ _ _ _ _ _ I'
  obtain ⟨v, h1, h2⟩ := results_sound hT I'' hres
  have fin : a'.defers = [] ∧ ∃ v, (results fn a'.tmps).run P w' = .ok v w' ∧ ∃ v', Ending.returned v = .returned v' ∧ RepV w' (fun b => (b < w.heap.size → A b) ∧ b < w'.heap.size) noB res v' ∧ Below w.heap.size w w' :=
    ⟨I''.defers, v, h1, v, rfl, h2.mono (fun x hx => ⟨⟨hx.1, hx.2.1⟩, rfl⟩) (BLe.refl' noB), I''.inv.below⟩
  rcases he with rfl | rfl
  · exact fin
  · exact fin
end
end Go.Proofs.Ytphlhadgcfndhaa.Abs
