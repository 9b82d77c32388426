/- Joined for the claim: WMap WNmk -/
import Derived.Test.YtphlhadgcfndhaaGreatAbsS
import Derived.Scope
import Derived.MapKept
import Derived.Test.YtphlhadgcfndhaaGreatJd3
import Derived.DeepKeys3
section
namespace Go.Proofs.YtphlhadgcfndhaaGreat.Abs
open Go Go.RowKit
set_option linter.unusedVariables false
set_option linter.unusedSimpArgs false
abbrev Kp := List (Nat × Obj)
def Old.at (A : Old) (κ : Kp) : Old := { A with kept := κ }
/-! ### a block that is a map changes -/
section
variable {base : Nat} {A : Nat → Prop} {w0 w : World} {β : Nat → Bnd} {σ : Sig} {M : Nat} {o o' : Obj}
theorem cell_map {w : World} {es : Array MapEntry} {cl : Nat} {ad : Addr} (h : w.heap[ad.block]? = some (.map es cl)) : w.cell? ad = none := by
  unfold World.cell?
  rw [h]
abbrev setB (w : World) (M : Nat) (o : Obj) : World := { w with heap := w.heap.setIfInBounds M o }
theorem cell_set {es es' : Array MapEntry} {cl cl' : Nat} (hb : w.heap[M]? = some (.map es cl)) (ad : Addr) : (setB w M (.map es' cl')).cell? ad = w.cell? ad := by
  by_cases h : ad.block = M
  · subst h
    rw [cell_map hb]
    exact cell_map (MapKept.heap_set (o' := .map es' cl') hb).1
  · exact cell_same ((MapKept.heap_set (o' := .map es' cl') hb).2 _ h)
theorem repF_set {es es' : Array MapEntry} {cl cl' : Nat} (hb : w.heap[M]? = some (.map es cl)) {ok : Nat → Prop} {c : Cell} {v : Value} (h : RepF w ok c v) : RepF (setB w M (.map es' cl')) ok c v := by
  induction h with
  | any v h => exact .any v h
  | sc v h => exact .sc v h
  | bit b => exact .bit b
  | row vs h1 h2 h3 h4 h5 h6 ih => exact .row vs h1 h2 h3 h4 (fun ad ha i e hi j hj => (cell_set hb _).trans (h5 ad ha i e hi j hj)) ih
  | fad vs h1 h2 h3 ih => exact .fad vs h1 (fun j hj => (cell_set hb _).trans (h2 j hj)) ih
  | fn vs h1 h2 ih => exact .fn vs h1 ih
theorem okOf_set (o : Obj) : okOf base A (setB w M o) β = okOf base A w β := by
  funext x
  unfold okOf
  simp
theorem repC_set {es es' : Array MapEntry} {cl cl' : Nat} (hb : w.heap[M]? = some (.map es cl)) {c : Cell} {v : Value} (h : RepC w (okOf base A w β) β c v) : RepC (setB w M (.map es' cl')) (okOf base A (setB w M (.map es' cl')) β) β c v := by
  rw [okOf_set]
  cases h with
  | fz h => exact .fz (repF_set hb h)
  | ref hb' hl => exact .ref hb' hl
  | refv hb' => exact .refv hb'
  | gone hb' hv => exact .gone hb' hv
  | ptr hb' => exact .ptr hb'
  | gonep hb' hv => exact .gonep hb' hv
theorem repV_set {es es' : Array MapEntry} {cl cl' : Nat} (hb : w.heap[M]? = some (.map es cl)) {c : AVal} {v : Value} (h : RepV w (okOf base A w β) β c v) : RepV (setB w M (.map es' cl')) (okOf base A (setB w M (.map es' cl')) β) β c v := by
  induction h with
  | any v => exact .any v
  | c h => exact .c (repC_set hb h)
  | agg h => exact .agg ⟨h.1, fun i c v hc hv => repC_set hb (h.2 i c v hc hv)⟩
  | tup hl _ ih => exact .tup hl ih
  | cut h => exact .cut (by rw [okOf_set]; exact repF_set hb h)
theorem Inv.setM (I : Inv base A w0 β σ w) {es es' : Array MapEntry} {cl cl' : Nat} (hb : w.heap[M]? = some (.map es cl)) (hM : base ≤ M) (hok : okOf base A w β M) : Inv base A w0 β σ (setB w M (.map es' cl')) := by
  have hs := MapKept.heap_set (o' := Obj.map es' cl') hb
  refine ⟨I.below.trans ⟨rfl, rfl, rfl, by simp, fun k hk => hs.2 k (by omega)⟩, by simpa using I.hbase, I.old, I.dom, I.virt, I.fin, fun i b k c h => by simpa using I.lo i b k c h, I.inj, fun i b k c ob h hl => ?_⟩
  obtain ⟨g1, g2, g3, arr, ty, g4, g5, g6, g7⟩ := I.obj i b k c ob h hl
  have hne : b ≠ M := fun e => hok.2.2 i b k c h e
  refine ⟨g1, g2, g3, arr, ty, (hs.2 b hne).trans g4, g5, g6, fun i e he j c hc => ?_⟩
  obtain ⟨v, hv, hr⟩ := g7 i e he j c hc
  exact ⟨v, hv, repC_set hb hr⟩
end
/-! ### code beside kept blocks -/
def AWK (P : Program) (base : Nat) (A : Old) (w0 : World) (n : Nat) (c : Code) (s : St) (κ : Kp) (Q : Exit → St → Kp → Prop) : Prop :=
  ∀ β a w, InvS base (A.at κ) w0 n β s a w → c.wp P (fun e a' w' => ∃ s' κ' β', Q e s' κ' ∧ InvS base (A.at κ') w0 n β' s' a' w') a w
def thenK (K : St → Kp → Prop) (Q : Exit → St → Kp → Prop) : Exit → St → Kp → Prop
  | .normal, s, κ => K s κ
  | e, s, κ => Q e s κ
def blockK (id : Nat) (Q : Exit → St → Kp → Prop) : Exit → St → Kp → Prop
  | .exit id', s, κ => if id' = id then Q .normal s κ else Q (.exit id') s κ
  | e, s, κ => Q e s κ
section
variable {P : Program} {base : Nat} {A : Old} {w0 : World} {n : Nat} {κ : Kp}
theorem AWK.lift {c : Code} {s : St} {Q : Exit → St → Kp → Prop} (h : AW P base (A.at κ) w0 n c s (fun e s' => Q e s' κ)) : AWK P base A w0 n c s κ Q := fun β a w I =>
  wp_mono (h β a w I) fun e a' w' ⟨s', β', hq, I'⟩ => ⟨s', κ, β', hq, I'⟩
theorem AWK.weak {c : Code} {s s' : St} {Q : Exit → St → Kp → Prop} (h : Weak (A.at κ) s s') (hc : AWK P base A w0 n c s' κ Q) : AWK P base A w0 n c s κ Q := fun β a w I => by
  obtain ⟨β', I'⟩ := h base w0 n β a w I
  exact hc β' a w I'
theorem AWK.to {c : Code} {s s1 s2 : St} {Q : Exit → St → Kp → Prop} (h : Weak (A.at κ) s s1) (e : s1 = s2) (hc : AWK P base A w0 n c s2 κ Q) : AWK P base A w0 n c s κ Q := AWK.weak h (e ▸ hc)
theorem AWK.skip {s : St} {Q : Exit → St → Kp → Prop} (h : Q .normal s κ) : AWK P base A w0 n .skip s κ Q := fun β a w I => wp_skip ⟨s, κ, β, h, I⟩
theorem AWK.label {l : Nat} {s : St} {Q : Exit → St → Kp → Prop} (h : Q .normal s κ) : AWK P base A w0 n (.label l) s κ Q := fun β a w I => wp_label ⟨s, κ, β, h, I⟩
theorem AWK.exit {id : Nat} {s : St} {Q : Exit → St → Kp → Prop} (h : Q (.exit id) s κ) : AWK P base A w0 n (.exit id) s κ Q := fun β a w I => wp_exit ⟨s, κ, β, h, I⟩
theorem AWK.ret {s : St} {Q : Exit → St → Kp → Prop} (h : Q .ret s κ) : AWK P base A w0 n .ret s κ Q := fun β a w I => wp_ret ⟨s, κ, β, h, I⟩
theorem AWK.seq {x y : Code} {s : St} {Q : Exit → St → Kp → Prop} (h : AWK P base A w0 n x s κ (thenK (fun s' κ' => AWK P base A w0 n y s' κ' Q) Q)) : AWK P base A w0 n (.seq x y) s κ Q := fun β a w I =>
  wp_seq (wp_mono (h β a w I) fun e a' w' ⟨s', κ', β', hq, I'⟩ => by
    cases e with
    | normal => exact hq β' a' w' I'
    | exit id => exact ⟨s', κ', β', hq, I'⟩
    | goto l => exact ⟨s', κ', β', hq, I'⟩
    | ret => exact ⟨s', κ', β', hq, I'⟩
    | panic ch => exact ⟨s', κ', β', hq, I'⟩
    | outgrown => exact ⟨s', κ', β', hq, I'⟩)
theorem AWK.iff (b : Bool) {c : Operand} {x y : Code} {s : St} {Q : Exit → St → Kp → Prop} (hc : opval s.τ c = .c (.sc (.bool b))) (ht : b = true → AWK P base A w0 n x s κ Q) (hf : b = false → AWK P base A w0 n y s κ Q) : AWK P base A w0 n (.cond c x y) s κ Q := fun β a w I => by
  have hr := opval_rep I c
  rw [hc] at hr
  refine wp_cond (t := b) (sc_of hr).1 ?_
  cases b with
  | true => exact ht rfl β a w I
  | false => exact hf rfl β a w I
theorem AWK.block {id : Nat} {c : Code} {s : St} {Q : Exit → St → Kp → Prop} (h : AWK P base A w0 n c s κ (blockK id Q)) : AWK P base A w0 n (.block id c) s κ Q := fun β a w I =>
  wp_block (wp_mono (h β a w I) fun e a' w' ⟨s', κ', β', hq, I'⟩ => by
    cases e with
    | normal => exact ⟨s', κ', β', hq, I'⟩
    | exit id' =>
      by_cases hid : id' = id
      · simp only [blockK, hid, if_true] at hq
        simp only [Exit.inBlock, hid, if_true]
        exact ⟨s', κ', β', hq, I'⟩
      · simp only [blockK, hid, if_false] at hq
        simp only [Exit.inBlock, hid, if_false]
        exact ⟨s', κ', β', hq, I'⟩
    | goto l => exact ⟨s', κ', β', hq, I'⟩
    | ret => exact ⟨s', κ', β', hq, I'⟩
    | panic ch => exact ⟨s', κ', β', hq, I'⟩
    | outgrown => exact ⟨s', κ', β', hq, I'⟩)
theorem AWK.loop {c : Code} {s : St} {Q : Exit → St → Kp → Prop} (I : Nat → St → Kp → Prop) (m : Nat) {s0 : St} (hw : Weak (A.at κ) s s0) (h0 : I m s0 κ)
    (round : ∀ m s κ, I m s κ → AWK P base A w0 n c s κ (thenK (fun s' κ' => ∃ s'' m', Weak (A.at κ') s' s'' ∧ m' < m ∧ I m' s'' κ') Q)) : AWK P base A w0 n (.loop c) s κ Q := fun β a w Iv => by
  obtain ⟨β0, I0⟩ := hw base w0 n β a w Iv
  refine loop_rel (fun m a w => ∃ s κ β, I m s κ ∧ InvS base (A.at κ) w0 n β s a w) ⟨s0, κ, β0, h0, I0⟩ ?_
  rintro m a w ⟨s, κ1, β, hI, Is⟩
  refine wp_mono (round m s κ1 hI β a w Is) fun e a' w' ⟨s', κ', β', hq, I'⟩ => ?_
  cases e with
  | normal =>
    obtain ⟨s'', m', hw', hlt, hI'⟩ := hq
    obtain ⟨β'', I''⟩ := hw' base w0 n β' a' w' I'
    exact ⟨m', hlt, s'', κ', β'', hI', I''⟩
  | exit id => exact ⟨s', κ', β', hq, I'⟩
  | goto l => exact ⟨s', κ', β', hq, I'⟩
  | ret => exact ⟨s', κ', β', hq, I'⟩
  | panic ch => exact ⟨s', κ', β', hq, I'⟩
  | outgrown => exact ⟨s', κ', β', hq, I'⟩
theorem AWK.scope {c : Code} {s : St} {Q : Exit → St → Kp → Prop} (h : AWK P base A w0 n c s κ (fun e s' κ' => Q e s' κ' ∧ ∀ l, e ≠ .goto l)) : AWK P base A w0 n (.scope c) s κ Q := fun β a w I =>
  wp_scope_straight (wp_mono (h β a w I) fun e a' w' ⟨s', κ', β', ⟨hq, hg⟩, I'⟩ => by
    cases e with
    | goto l => exact absurd rfl (hg l)
    | normal => exact ⟨s', κ', β', hq, I'⟩
    | exit id => exact ⟨s', κ', β', hq, I'⟩
    | ret => exact ⟨s', κ', β', hq, I'⟩
    | panic ch => exact ⟨s', κ', β', hq, I'⟩
    | outgrown => exact ⟨s', κ', β', hq, I'⟩)
theorem AWK.text {T : TyEnv} (hT : TOk P T) {id : Nat} {ops : Array Oper} {s s' : St} {Q : Exit → St → Kp → Prop} {ans ans' : List Ans} {p : Prop} (he : evOps P T n ops ops.toList s ans = some (s', ans', p)) (hp : p) (h : Q .normal s' κ) : AWK P base A w0 n (.region id ops false) s κ Q := AWK.lift (AW.text hT he hp h)
theorem AWK.st {T : TyEnv} (hT : TOk P T) {id : Nat} {ops : Array Oper} {y : Code} {s s' : St} {Q : Exit → St → Kp → Prop} (ans : List Ans) {ans' : List Ans} {p : Prop} (he : evOps P T n ops ops.toList s ans = some (s', ans', p)) (hp : p) (h : AWK P base A w0 n y s' κ Q) : AWK P base A w0 n (.seq (.region id ops false) y) s κ Q := AWK.seq (AWK.text hT he hp h)
theorem AWK.draw (hm : P.follows .mixedOrders = true) {T : TyEnv} (hT : TOk P T) {id : Nat} {ops : Array Oper} {s : St} {Q : Exit → St → Kp → Prop} {ans : List AVal} {R : List Rec} (hev : evUs T (PN P) n ops ops.toList s.τ s.σ s.fr ans = some R) (hon : onOk ops = true) (hchk : chkAll ops (depTab ops) ops.toList R = true) (hp : allP R)
    (h : Q .normal (endSt R s) κ) : AWK P base A w0 n (.region id ops true) s κ Q := AWK.lift (AW.draw hm hT hev hon hchk hp h)
theorem AWK.dr (hm : P.follows .mixedOrders = true) {T : TyEnv} (hT : TOk P T) {id : Nat} {ops : Array Oper} {y : Code} {s : St} {Q : Exit → St → Kp → Prop} (ans : List AVal) {R : List Rec} (hev : evUs T (PN P) n ops ops.toList s.τ s.σ s.fr ans = some R) (hon : onOk ops = true) (hchk : chkAll ops (depTab ops) ops.toList R = true) (hp : allP R)
    (h : AWK P base A w0 n y (endSt R s) κ Q) : AWK P base A w0 n (.seq (.region id ops true) y) s κ Q := AWK.seq (AWK.draw hm hT hev hon hchk hp h)
theorem k_then {K : St → Kp → Prop} {Q : Exit → St → Kp → Prop} {id : Nat} {s : St} (h : Q (.exit id) s κ) : thenK K Q (.exit id) s κ := h
theorem blockK_exit {id : Nat} {Q : Exit → St → Kp → Prop} {s : St} (h : Q .normal s κ) : blockK id Q (.exit id) s κ := by
  simp only [blockK, if_true]
  exact h
theorem blockK_ne {id id' : Nat} {Q : Exit → St → Kp → Prop} {s : St} (hne : id' ≠ id) (h : Q (.exit id') s κ) : blockK id Q (.exit id') s κ := by
  simp only [blockK, if_neg hne]
  exact h
/-! ### regions with operations on a map -/
def RK (P : Program) (base : Nat) (A : Old) (w0 : World) (n : Nat) (ops : Array Oper) (k : Nat) (s : St) (κ : Kp) (Q : Exit → St → Kp → Prop) : Prop :=
  ∀ β a w, InvS base (A.at κ) w0 n β s a w → wpOps P ops (fun e a' w' => ∃ s' κ' β', Q e s' κ' ∧ InvS base (A.at κ') w0 n β' s' a' w') (List.range' k (ops.size - k)) a w
theorem AWK.region {id : Nat} {ops : Array Oper} {s : St} {Q : Exit → St → Kp → Prop} (h : RK P base A w0 n ops 0 s κ Q) : AWK P base A w0 n (.region id ops false) s κ Q := fun β a w I => by
  refine wp_region ?_
  rw [List.range_eq_range']
  exact h β a w I
theorem RK.done {ops : Array Oper} {k : Nat} {s : St} {Q : Exit → St → Kp → Prop} (hk : ops.size ≤ k) (h : Q .normal s κ) : RK P base A w0 n ops k s κ Q := fun β a w I => by
  rw [show ops.size - k = 0 by omega]
  exact ⟨s, κ, β, h, I⟩
theorem evOps_pre {T : TyEnv} (hT : TOk P T) {ops : Array Oper} {Q : Exit → Act → World → Prop} : ∀ (j k m : Nat), k + (j + m) = ops.size → ∀ {A : Old} {ans ans' : List Ans} {s s' : St} {p : Prop} {β : Nat → Bnd} {a : Act} {w : World}, evOps P T n ops ((ops.toList.drop k).take j) s ans = some (s', ans', p) → p → InvS base A w0 n β s a w →
    (∀ β' a' w', InvS base A w0 n β' s' a' w' → wpOps P ops Q (List.range' (k + j) m) a' w') → wpOps P ops Q (List.range' k (j + m)) a w
  | 0, k, m, hk, A, ans, ans', s, s', p, β, a, w, he, hp, I, hQ => by
    rw [List.take_zero] at he
    cases he
    rw [Nat.zero_add]
    exact hQ β a w I
  | j + 1, k, m, hk, A, ans, ans', s, s', p, β, a, w, he, hp, I, hQ => by
    have hlt : k < ops.toList.length := by simp; omega
    rw [List.drop_eq_getElem_cons hlt, List.take_succ_cons] at he
    unfold evOps at he
    split at he
    case h_1 => cases he
    rename_i s1 ans1 p1 h1
    split at he
    case h_1 => cases he
    rename_i s2 ans2 p2 h2
    cases he
    rw [show j + 1 + m = (j + m) + 1 by omega, List.range'_succ, wpOps_cons]
    refine evOp_sound hT h1 hp.1 I (i := k) (by rw [← Array.getElem?_toList, List.getElem?_eq_getElem hlt]) (fun β' a' w' I' => ?_)
    exact evOps_pre hT j (k + 1) m (by omega) h2 hp.2 I' (fun β2 a2 w2 I2 => by
      rw [show k + 1 + j = k + (j + 1) by omega]
      exact hQ β2 a2 w2 I2)
theorem RK.pre {T : TyEnv} (hT : TOk P T) {ops : Array Oper} {k : Nat} {s s' : St} {Q : Exit → St → Kp → Prop} (j : Nat) (ans : List Ans) {ans' : List Ans} {p : Prop} (hj : k + j ≤ ops.size) (he : evOps P T n ops ((ops.toList.drop k).take j) s ans = some (s', ans', p)) (hp : p) (h : RK P base A w0 n ops (k + j) s' κ Q) : RK P base A w0 n ops k s κ Q := fun β a w I => by
  rw [show ops.size - k = j + (ops.size - (k + j)) by omega]
  exact evOps_pre hT j k (ops.size - (k + j)) (by omega) he hp I fun β' a' w' I' => h β' a' w' I'
/-- Keys, all with true, in the order in which they came. -/
def entsOf (ks : List ByteArray) : List MapEntry := ks.zipIdx.map fun x => { key := .string x.1, val := .bool true, born := x.2 }
def mapOf (ks : List ByteArray) : Obj := .map (entsOf ks).toArray ks.length
theorem ents_push (ks : List ByteArray) (k : ByteArray) : (entsOf ks).toArray.push { key := .string k, val := .bool true, born := ks.length } = (entsOf (ks ++ [k])).toArray := by
  unfold entsOf
  rw [List.zipIdx_append, List.map_append]
  simp
theorem ents_find (ks : List ByteArray) (k : ByteArray) : Instr.findNow .string (.string k) (entsOf ks) 0 = some none ∧ k ∉ ks ∨ k ∈ ks ∧ ∃ j, Instr.findNow .string (.string k) (entsOf ks) 0 = some (some (j, .bool true)) := by
  have hmem : ∀ x ∈ entsOf ks, ∃ y ∈ ks, x.key = .string y ∧ x.val = .bool true := fun x hx => by
    obtain ⟨⟨y, i⟩, hy, rfl⟩ := List.mem_map.1 hx
    exact ⟨y, (List.mem_zipIdx hy).2.2 ▸ List.getElem_mem _, rfl, rfl⟩
  rcases MapKept.findNow_spec (d := .string) (k := .string k) (by simp [MapKept.IsKey]) (entsOf ks) 0 (fun x hx => by
    obtain ⟨y, _, h, _⟩ := hmem x hx
    rw [h]
    simp [MapKept.IsKey]) with ⟨h1, h2⟩ | ⟨j, e, h1, h2, h3⟩
  · refine .inl ⟨h1, fun hk => ?_⟩
    obtain ⟨i, hi, he⟩ := List.mem_iff_getElem.1 hk
    refine h2 { key := .string k, val := .bool true, born := i } (List.mem_map.2 ⟨(k, i), ?_, rfl⟩) rfl
    rw [List.mem_zipIdx_iff_getElem?]
    simp [hi, he]
  · obtain ⟨y, hy, g1, g2⟩ := hmem e (List.mem_of_getElem? h2)
    rw [g1] at h3
    cases h3
    exact .inr ⟨hy, 0 + j, by rw [h1, g2]⟩
theorem kept_at {β : Nat → Bnd} {s : St} {a : Act} {w : World} (I : InvS base (A.at κ) w0 n β s a w) {M : Nat} {ob : Obj} (h : (M, ob) ∈ κ) : base ≤ M ∧ okOf base A.own w β M ∧ w.heap[M]? = some ob := I.ext.kp M ob h
theorem RK.make {ops : Array Oper} {k : Nat} {o : Oper} {mt d : Nat} {s : St} {Q : Exit → St → Kp → Prop} (ho : ops[k]? = some o) (hop : o.op = .makeMap mt none) (hd : o.dst = some d) (hg : o.guard = none) (hdn : d < n)
    (h : ∀ M, RK P base A w0 n ops (k + 1) ⟨putT d (.c (.sc (.map (some M)))) s.τ, s.σ, s.fr⟩ ((M, mapOf []) :: κ) Q) : RK P base A w0 n ops k s κ Q := fun β a w I => by
  have hlt := (Array.getElem?_eq_some_iff.1 ho).1
  rw [show ops.size - k = (ops.size - (k + 1)) + 1 by omega, List.range'_succ, wpOps_cons]
  unfold wpOp
  rw [ho]
  simp only
  have hw : Region.wanted o (yielded ops a.tmps) = true := by unfold Region.wanted; rw [hg]
  rw [hw, if_pos rfl]
  left
  unfold Oper.wp
  have hrun : (execOp a.eval o).run P w = .ok (.value (.map (some w.heap.size))) (w.alloc (.map #[] 0)) := by
    simp [execOp, hop, Instr.makeMap]
  rw [hrun, Oper.upon_value]
  have hB : Below w.heap.size w (w.alloc (.map #[] 0)) := ⟨rfl, rfl, rfl, by show w.heap.size ≤ (w.heap.push _).size; simp, fun q hq => (MapKept.heap_alloc w (.map #[] 0)).2 q hq⟩
  obtain ⟨I', hok⟩ := I.inv.more hB
  have J := put_inv (fr' := s.fr) I I' (BLe.refl' β) hok I.fresh (d := some d) (v := .c (.sc (.map (some w.heap.size)))) (u := .map (some w.heap.size)) (.c (.fz (.sc _ rfl))) (τ' := putT d (.c (.sc (.map (some w.heap.size)))) s.τ) (by unfold putD; simp only; rw [if_pos hdn])
  rw [hd]
  refine h w.heap.size β _ _ ⟨J.inv, J.defers, J.size, J.tmps, J.fresh, ⟨J.ext.ble, J.ext.ok, fun x ob hx => ?_⟩⟩
  rcases List.mem_cons.1 hx with hx | hx
  · cases hx
    refine ⟨I.inv.hbase, ⟨fun hlt => absurd I.inv.hbase (by omega), by show w.heap.size < (w.heap.push _).size; simp, fun id b k2 cap hb e => ?_⟩, (MapKept.heap_alloc w (.map #[] 0)).1⟩
    have := (I.inv.lo id b k2 cap hb).2
    omega
  · exact J.ext.kp x ob hx
theorem RK.find {ops : Array Oper} {k : Nat} {o : Oper} {mt kt et d M : Nat} {xm xk : Operand} {key : ByteArray} {ks : List ByteArray} {s : St} {Q : Exit → St → Kp → Prop} (ho : ops[k]? = some o) (hop : o.op = .lookup mt xm xk false) (hd : o.dst = some d) (hg : o.guard = none) (hdn : d < n)
    (hmt : P.underlying mt = some (.map kt et)) (hkt : P.underlying kt = some .string) (hz : ∀ w, (zeroValue et).run P w = .ok (.bool false) w) (b : Bool) (hbk : b = true ↔ key ∈ ks) (hm : opval s.τ xm = .c (.sc (.map (some M)))) (hk : opval s.τ xk = .c (.sc (.string key))) (hκ : (M, mapOf ks) ∈ κ)
    (h : RK P base A w0 n ops (k + 1) ⟨putT d (.c (.sc (.bool b))) s.τ, s.σ, s.fr⟩ κ Q) : RK P base A w0 n ops k s κ Q := fun β a w I => by
  have hlt := (Array.getElem?_eq_some_iff.1 ho).1
  rw [show ops.size - k = (ops.size - (k + 1)) + 1 by omega, List.range'_succ, wpOps_cons]
  unfold wpOp
  rw [ho]
  simp only
  have hw : Region.wanted o (yielded ops a.tmps) = true := by unfold Region.wanted; rw [hg]
  rw [hw, if_pos rfl]
  left
  unfold Oper.wp
  obtain ⟨_, _, hb⟩ := kept_at I hκ
  unfold mapOf at hb
  have e1 : a.eval xm = .map (some M) := by
    have := opval_rep I xm
    rw [hm] at this
    exact (sc_of this).1
  have e2 : a.eval xk = .string key := by
    have := opval_rep I xk
    rw [hk] at this
    exact (sc_of this).1
  have hck : ∀ e, (Instr.checkKey e 10000 kt (.string key)).run P w = .ok () w := fun e => MapKept.run_checkKey (k := .string key) hkt (by simp [MapKept.IsKey]) e 9999
  have hrun : (execOp a.eval o).run P w = .ok (.value (.bool b)) w := by
    rcases ents_find ks key with ⟨h1, h2⟩ | ⟨h1, j, h2⟩
    · have hf := MapKept.run_findKey (P := P) (w := w) hkt h1
      have hb0 : b = false := by
        cases b with
        | true => exact absurd (hbk.1 rfl) h2
        | false => rfl
      simp [execOp, hop, e1, e2, Instr.lookup, run_underlying hmt, MapKept.run_getObj_map hb, hck, hf, hz w, hb0, Result.andThen]
    · have hf := MapKept.run_findKey (P := P) (w := w) hkt h2
      simp [execOp, hop, e1, e2, Instr.lookup, run_underlying hmt, MapKept.run_getObj_map hb, hck, hf, hbk.2 h1, Result.andThen]
  rw [hrun, Oper.upon_value, hd]
  exact h β _ _ (put_inv (fr' := s.fr) I I.inv (BLe.refl' β) (fun x hx => ⟨hx, rfl⟩) I.fresh (d := some d) (.c (.fz (.sc _ rfl))) (by unfold putD; simp only; rw [if_pos hdn]))
theorem RK.add {ops : Array Oper} {k : Nat} {o : Oper} {mt kt et M : Nat} {xm xk xv : Operand} {key : ByteArray} {ks : List ByteArray} {s : St} {Q : Exit → St → Kp → Prop} (hwb : w0.heap.size ≤ base) (ho : ops[k]? = some o) (hop : o.op = .mapUpdate mt xm xk xv ∨ o.op = .insert mt xm xk xv) (hd : o.dst = none) (hg : o.guard = none)
    (hmt : P.underlying mt = some (.map kt et)) (hkt : P.underlying kt = some .string) (hm : opval s.τ xm = .c (.sc (.map (some M)))) (hk : opval s.τ xk = .c (.sc (.string key))) (hv : opval s.τ xv = .c (.sc (.bool true))) (hnew : key ∉ ks)
    (h : RK P base A w0 n ops (k + 1) s [(M, mapOf (ks ++ [key]))] Q) : RK P base A w0 n ops k s [(M, mapOf ks)] Q := fun β a w I => by
  have hlt := (Array.getElem?_eq_some_iff.1 ho).1
  rw [show ops.size - k = (ops.size - (k + 1)) + 1 by omega, List.range'_succ, wpOps_cons]
  unfold wpOp
  rw [ho]
  simp only
  have hw : Region.wanted o (yielded ops a.tmps) = true := by unfold Region.wanted; rw [hg]
  rw [hw, if_pos rfl]
  left
  unfold Oper.wp
  obtain ⟨hM, hokM, hb⟩ := kept_at I (List.mem_singleton.2 rfl)
  unfold mapOf at hb
  have e1 : a.eval xm = .map (some M) := by
    have := opval_rep I xm
    rw [hm] at this
    exact (sc_of this).1
  have e2 : a.eval xk = .string key := by
    have := opval_rep I xk
    rw [hk] at this
    exact (sc_of this).1
  have e3 : a.eval xv = .bool true := by
    have := opval_rep I xv
    rw [hv] at this
    exact (sc_of this).1
  have hck : ∀ e, (Instr.checkKey e 10000 kt (.string key)).run P w = .ok () w := fun e => MapKept.run_checkKey (k := .string key) hkt (by simp [MapKept.IsKey]) e 9999
  have hrun : (execOp a.eval o).run P w = .ok .skip (setB w M (mapOf (ks ++ [key]))) := by
    rcases ents_find ks key with ⟨h1, h2⟩ | ⟨h1, j, h2⟩
    · have hf := MapKept.run_findKey (P := P) (w := w) hkt h1
      have hp := ents_push ks key
      rcases hop with hop | hop <;> simp [execOp, hop, e1, e2, e3, Instr.mapUpdate, run_underlying hmt, MapKept.run_getObj_map hb, hck, hf, MapKept.run_setObj_map _ hb, Result.andThen, hp, mapOf]
    · exact absurd h1 hnew
  rw [hrun, Oper.upon_skip, hd]
  refine h β _ _ ⟨I.inv.setM hb hM hokM, I.defers, I.size, fun t v ht => ?_, I.fresh, ⟨I.ext.ble, fun x hx => ?_, fun x ob hx => ?_⟩⟩
  · obtain ⟨u, hu, hr⟩ := I.tmps t v ht
    exact ⟨u, hu, repV_set hb hr⟩
  · obtain ⟨h1, h2⟩ := I.ext.ok x hx
    have hne : x ≠ M := by have := hx.2.1; omega
    exact ⟨by rw [show okOf base (A.at [(M, mapOf (ks ++ [key]))]).own (setB w M (mapOf (ks ++ [key]))) β = okOf base A.own w β from okOf_set _]; exact h1, ((MapKept.heap_set (o' := mapOf (ks ++ [key])) hb).2 x hne).trans h2⟩
  · have hx : (x, ob) ∈ [(M, mapOf (ks ++ [key]))] := hx
    rw [List.mem_singleton] at hx
    cases hx
    exact ⟨hM, by rw [show okOf base (A.at [(M, mapOf (ks ++ [key]))]).own (setB w M (mapOf (ks ++ [key]))) β = okOf base A.own w β from okOf_set _]; exact hokM, (MapKept.heap_set (o' := mapOf (ks ++ [key])) hb).1⟩
/-- A call's contract, by its body, which may make maps. -/
theorem pure_ofK {T : TyEnv} (hT : TOk P T) {f : FuncId} {fn : Func} {c : Code} (hf : P.funcs[f]? = some fn) (hname : (fn.name == "runtime.NumGoroutine") = false) (hb : fn.body = some c) {N : Nat} (hN : fn.ntmps = N) {rs : List ResultVar} (hrs : fn.results.toList = rs) {xs : List AVal} {res : AVal} (hlen : xs.length ≤ N)
    (h : ∀ A w0, A.lim = 0 → AWK P w0.heap.size A w0 N c ⟨entry 0 xs, [], 0⟩ [] fun e s κ => (e = .normal ∨ e = .ret) ∧ ∃ s', Weak (A.at κ) s s' ∧ resA T s' rs = some res) : Pure P f xs res := by
  subst hN hrs
  refine ⟨⟨fn, hf, hname, by rw [hb]; rfl⟩, fun w A vs hA hr => calls_of_wp hf hb ?_⟩
  refine wp_mono (h (oldOf A) w rfl noB _ w (init_inv hA hr hlen)) fun e a' w' ⟨s', κ', β', ⟨he, s'', hw, hres⟩, I'⟩ => ?_
  obtain ⟨β'', I''⟩ := hw _ _ _ _ _ _ I'
  obtain ⟨v, h1, h2⟩ := results_sound hT I'' hres
  have fin : a'.defers = [] ∧ ∃ v, (results fn a'.tmps).run P w' = .ok v w' ∧ ∃ v', Ending.returned v = .returned v' ∧ RepV w' (fun b => (b < w.heap.size → A b) ∧ b < w'.heap.size) noB res v' ∧ Below w.heap.size w w' :=
    ⟨I''.defers, v, h1, v, rfl, h2.mono (fun x hx => ⟨⟨hx.1, hx.2.1⟩, rfl⟩) (BLe.refl' noB), I''.inv.below⟩
  rcases he with rfl | rfl
  · exact fin
  · exact fin
end
end Go.Proofs.YtphlhadgcfndhaaGreat.Abs
end
section
namespace Go.Proofs.YtphlhadgcfndhaaGreat.Abs
open Go Go.RowKit
set_option linter.unusedVariables false
set_option linter.unusedSimpArgs false
theorem cells_ty {P : Program} {t : Nat} {ti : TI} (h : TyOk P t ti) : P.cellsOf t = ti.size := by
  have := h.2.1
  unfold Program.cellsOf
  cases hi : P.info? t with
  | none => rw [hi] at this; cases this
  | some i => rw [hi] at this; simp at this; simp [this]
def keyV (x : List Int) : Value := .agg (x.map fun b => Value.int .u8 b).toArray
def KeyT (x : List Int) : Prop := x.length = 10 ∧ ∀ b ∈ x, 0 ≤ b ∧ b < 256
section
variable {P : Program} {k e : Nat}
theorem key_type (hu : P.underlying k = some (.array 10 e)) (hue : P.underlying e = some (.int .u8)) (d : Nat) : P.keyTypeAt (d + 2) k = true := by
  simp [Program.keyTypeAt, hu, hue]
theorem key_tiled (hu : P.underlying k = some (.array 10 e)) (hue : P.underlying e = some (.int .u8)) (hc : P.cellsOf k = 10) (hce : P.cellsOf e = 1) : P.tiled 2 k = true := by
  simp [Program.tiled, hu, hue, hc, hce]
theorem key_lits (hu : P.underlying k = some (.array 10 e)) (hue : P.underlying e = some (.int .u8)) (hc : P.cellsOf k = 10) (hce : P.cellsOf e = 1) {x : List Int} (hx : KeyT x) (d : Nat) : ∃ l, P.keyLits (d + 2) k (x.map fun b => Value.int .u8 b) = some l := by
  have hlen : (x.map fun b => Value.int .u8 b).length = 10 := by rw [List.length_map]; exact hx.1
  have each : ∀ i ∈ List.range 10, P.keyLits (d + 1) e (((x.map fun b => Value.int .u8 b).drop (i * 1)).take 1) = some [Lit.int .u8 (x.getD i 0)] := fun i hi => by
    have hi : i < x.length := by rw [hx.1]; exact List.mem_range.1 hi
    have e1 : ((x.map fun b => Value.int .u8 b).drop (i * 1)).take 1 = [Value.int .u8 (x.getD i 0)] := by
      rw [Nat.mul_one, ← List.map_drop, List.drop_eq_getElem_cons hi, List.map_cons, List.take_succ_cons, List.take_zero, List.getD_eq_getElem?_getD, List.getElem?_eq_getElem hi]
      rfl
    have hw : (Lit.int .u8 (x.getD i 0)).wf = true := by
      have := hx.2 (x.getD i 0) (by rw [List.getD_eq_getElem?_getD, List.getElem?_eq_getElem hi]; exact List.getElem_mem hi)
      generalize x.getD i 0 = b at *
      simp only [Lit.wf, IntKind.min, IntKind.max, IntKind.signed, IntKind.bits, Bool.and_eq_true, decide_eq_true_eq]
      simp
      omega
    rw [e1]
    unfold Program.keyLits
    simp only [hue]
    rw [if_pos ⟨trivial, hw⟩]
  refine ⟨((List.range 10).map fun i => [Lit.int .u8 (x.getD i 0)]).flatten, ?_⟩
  unfold Program.keyLits
  simp only [hu, hc, hlen, hce, if_true]
  have : (List.range 10).mapM (fun i => P.keyLits (d + 1) e (((x.map fun b => Value.int .u8 b).drop (i * 1)).take 1)) = some ((List.range 10).map fun i => [Lit.int .u8 (x.getD i 0)]) := by
    generalize List.range 10 = L at each
    induction L with
    | nil => rfl
    | cons i L ih => simp only [List.mapM_cons, each i (by simp), ih fun j hj => each j (by simp [hj])]; rfl
  rw [this]
  rfl

theorem key_of (hd : ∃ d, P.types.size = d + 1) (hu : P.underlying k = some (.array 10 e)) (hue : P.underlying e = some (.int .u8)) (hc : P.cellsOf k = 10) (hce : P.cellsOf e = 1) {x : List Int} (hx : KeyT x) : ∃ l, keyOf P k (keyV x) = some l := by
  obtain ⟨d, hd⟩ := hd
  obtain ⟨l, hl⟩ := key_lits hu hue hc hce hx d
  unfold keyOf keyV
  simp only [hu]
  have h1 : P.keyType k = true := by unfold Program.keyType; rw [hd]; exact key_type hu hue d
  have h2 : Value.formed P k (.agg (x.map fun b => Value.int .u8 b).toArray) = true := by
    unfold Value.formed
    simp [hu, hc, hx.1]
  rw [h1, h2, hd]
  simp [Value.cells, hl]
theorem key_law (hu : P.underlying k = some (.array 10 e)) (hue : P.underlying e = some (.int .u8)) (hc : P.cellsOf k = 10) (hce : P.cellsOf e = 1) : WideMaps.KeyLaw P k :=
  deep_law (m := 2) (by decide) (key_type hu hue 0) (key_tiled hu hue hc hce) (by rw [hu])
theorem keyV_inj {x y : List Int} (h : keyV x = keyV y) : x = y := by
  unfold keyV at h
  injection h with h
  have h := congrArg Array.toList h
  simp at h
  have : ∀ {x y : List Int}, x.map (Value.int .u8) = y.map (Value.int .u8) → x = y := fun {x} => by
    induction x with
    | nil => intro y h; cases y with | nil => rfl | cons => simp at h
    | cons a x ih => intro y h; cases y with
      | nil => simp at h
      | cons b y => simp at h; rw [h.1, ih h.2]
  exact this h
/-- Keys, all with true, in the order in which they came. -/
def entsA (ks : List (List Int)) : List MapEntry := ks.zipIdx.map fun x => { key := keyV x.1, val := .bool true, born := x.2 }
def mapA (ks : List (List Int)) : Obj := .map (entsA ks).toArray ks.length
theorem entsA_push (ks : List (List Int)) (k : List Int) : (entsA ks).toArray.push { key := keyV k, val := .bool true, born := ks.length } = (entsA (ks ++ [k])).toArray := by
  unfold entsA
  rw [List.zipIdx_append, List.map_append]
  simp
theorem entsA_find (hd : ∃ d, P.types.size = d + 1) (hu : P.underlying k = some (.array 10 e)) (hue : P.underlying e = some (.int .u8)) (hc : P.cellsOf k = 10) (hce : P.cellsOf e = 1) (w : World) {ks : List (List Int)} (hks : ∀ y ∈ ks, KeyT y) {x : List Int} (hx : KeyT x) :
    (Instr.findKey k (keyV x) (entsA ks)).run P w = .ok none w ∧ x ∉ ks ∨ x ∈ ks ∧ ∃ j e, (Instr.findKey k (keyV x) (entsA ks)).run P w = .ok (some (j, .bool true)) w ∧ (entsA ks)[j]? = some e ∧ e.key = keyV x ∧ e.val = .bool true := by
  have hmem : ∀ y ∈ entsA ks, ∃ z ∈ ks, y.key = keyV z ∧ y.val = .bool true := fun y hy => by
    obtain ⟨⟨z, i⟩, hz, rfl⟩ := List.mem_map.1 hy
    exact ⟨z, (List.mem_zipIdx hz).2.2 ▸ List.getElem_mem _, rfl, rfl⟩
  obtain ⟨l, hl⟩ := key_of hd hu hue hc hce hx
  rcases (key_law hu hue hc hce).find w hl (entsA ks) (fun y hy => by
    obtain ⟨z, hz, h, _⟩ := hmem y hy
    rw [h]
    exact key_of hd hu hue hc hce (hks z hz)) with ⟨h1, h2⟩ | ⟨j, e, h1, h2, h3⟩
  · refine .inl ⟨h1, fun hk => ?_⟩
    obtain ⟨i, hi, he⟩ := List.mem_iff_getElem.1 hk
    refine h2 { key := keyV x, val := .bool true, born := i } (List.mem_map.2 ⟨(x, i), ?_, rfl⟩) rfl
    rw [List.mem_zipIdx_iff_getElem?]
    simp [hi, he]
  · obtain ⟨y, hy, g1, g2⟩ := hmem e (List.mem_of_getElem? h2)
    have : y = x := keyV_inj (g1.symm.trans h3)
    subst this
    exact .inr ⟨hy, j, e, by rw [h1, g2], h2, h3, g2⟩
end

theorem agg_sc {w : World} {ok : Nat → Prop} {β : Nat → Bnd} {x : List Int} {v : Value} (h : RepV w ok β (.agg (x.map fun b => .sc (.int .u8 b))) v) : v = keyV x := by
  cases h with
  | agg h =>
    rename_i vs
    unfold keyV
    congr 1
    apply Array.ext'
    apply List.ext_getElem?
    intro i
    have hl := h.1
    rw [List.length_map] at hl
    cases hx : x[i]? with
    | none =>
      have : x.length ≤ i := List.getElem?_eq_none_iff.1 hx
      simp [hx]
      have : vs.toList.length ≤ i := by omega
      simpa using this
    | some b =>
      have hi : i < vs.toList.length := by
        have := (List.getElem?_eq_some_iff.1 hx).1
        omega
      have hv := List.getElem?_eq_getElem hi
      have hr := h.2 i (.sc (.int .u8 b)) _ (by rw [List.getElem?_map, hx]; rfl) hv
      have := (sc_of (.c hr)).1
      rw [hv, this]
      simp [hx]

/-! ### code beside a map that changes -/
def AWM (P : Program) (base : Nat) (A : Old) (w0 : World) (M : Nat) (n : Nat) (c : Code) (s : St) (κ : Obj) (Q : Exit → St → Obj → Prop) : Prop :=
  ∀ β a w, InvS base A (setB w0 M κ) n β s a w → c.wp P (fun e a' w' => ∃ s' κ' β', Q e s' κ' ∧ InvS base A (setB w0 M κ') n β' s' a' w') a w
def thenM (K : St → Obj → Prop) (Q : Exit → St → Obj → Prop) : Exit → St → Obj → Prop
  | .normal, s, κ => K s κ
  | e, s, κ => Q e s κ
def blockM (id : Nat) (Q : Exit → St → Obj → Prop) : Exit → St → Obj → Prop
  | .exit id', s, κ => if id' = id then Q .normal s κ else Q (.exit id') s κ
  | e, s, κ => Q e s κ
section
variable {P : Program} {base : Nat} {A : Old} {w0 : World} {M n : Nat} {κ : Obj}
theorem AWM.lift {c : Code} {s : St} {Q : Exit → St → Obj → Prop} (h : AW P base A (setB w0 M κ) n c s (fun e s' => Q e s' κ)) : AWM P base A w0 M n c s κ Q := fun β a w I =>
  wp_mono (h β a w I) fun e a' w' ⟨s', β', hq, I'⟩ => ⟨s', κ, β', hq, I'⟩
theorem AWM.weak {c : Code} {s s' : St} {Q : Exit → St → Obj → Prop} (h : Weak A s s') (hc : AWM P base A w0 M n c s' κ Q) : AWM P base A w0 M n c s κ Q := fun β a w I => by
  obtain ⟨β', I'⟩ := h base _ n β a w I
  exact hc β' a w I'
theorem AWM.to {c : Code} {s s1 s2 : St} {Q : Exit → St → Obj → Prop} (h : Weak A s s1) (e : s1 = s2) (hc : AWM P base A w0 M n c s2 κ Q) : AWM P base A w0 M n c s κ Q := AWM.weak h (e ▸ hc)
theorem AWM.skip {s : St} {Q : Exit → St → Obj → Prop} (h : Q .normal s κ) : AWM P base A w0 M n .skip s κ Q := fun β a w I => wp_skip ⟨s, κ, β, h, I⟩
theorem AWM.label {l : Nat} {s : St} {Q : Exit → St → Obj → Prop} (h : Q .normal s κ) : AWM P base A w0 M n (.label l) s κ Q := fun β a w I => wp_label ⟨s, κ, β, h, I⟩
theorem AWM.exit {id : Nat} {s : St} {Q : Exit → St → Obj → Prop} (h : Q (.exit id) s κ) : AWM P base A w0 M n (.exit id) s κ Q := fun β a w I => wp_exit ⟨s, κ, β, h, I⟩
theorem AWM.ret {s : St} {Q : Exit → St → Obj → Prop} (h : Q .ret s κ) : AWM P base A w0 M n .ret s κ Q := fun β a w I => wp_ret ⟨s, κ, β, h, I⟩
theorem AWM.seq {x y : Code} {s : St} {Q : Exit → St → Obj → Prop} (h : AWM P base A w0 M n x s κ (thenM (fun s' κ' => AWM P base A w0 M n y s' κ' Q) Q)) : AWM P base A w0 M n (.seq x y) s κ Q := fun β a w I =>
  wp_seq (wp_mono (h β a w I) fun e a' w' ⟨s', κ', β', hq, I'⟩ => by
    cases e with
    | normal => exact hq β' a' w' I'
    | exit id => exact ⟨s', κ', β', hq, I'⟩
    | goto l => exact ⟨s', κ', β', hq, I'⟩
    | ret => exact ⟨s', κ', β', hq, I'⟩
    | panic ch => exact ⟨s', κ', β', hq, I'⟩
    | outgrown => exact ⟨s', κ', β', hq, I'⟩)
theorem AWM.iff (b : Bool) {c : Operand} {x y : Code} {s : St} {Q : Exit → St → Obj → Prop} (hc : opval s.τ c = .c (.sc (.bool b))) (ht : b = true → AWM P base A w0 M n x s κ Q) (hf : b = false → AWM P base A w0 M n y s κ Q) : AWM P base A w0 M n (.cond c x y) s κ Q := fun β a w I => by
  have hr := opval_rep I c
  rw [hc] at hr
  refine wp_cond (t := b) (sc_of hr).1 ?_
  cases b with
  | true => exact ht rfl β a w I
  | false => exact hf rfl β a w I
theorem AWM.block {id : Nat} {c : Code} {s : St} {Q : Exit → St → Obj → Prop} (h : AWM P base A w0 M n c s κ (blockM id Q)) : AWM P base A w0 M n (.block id c) s κ Q := fun β a w I =>
  wp_block (wp_mono (h β a w I) fun e a' w' ⟨s', κ', β', hq, I'⟩ => by
    cases e with
    | normal => exact ⟨s', κ', β', hq, I'⟩
    | exit id' =>
      by_cases hid : id' = id
      · simp only [blockM, hid, if_true] at hq
        simp only [Exit.inBlock, hid, if_true]
        exact ⟨s', κ', β', hq, I'⟩
      · simp only [blockM, hid, if_false] at hq
        simp only [Exit.inBlock, hid, if_false]
        exact ⟨s', κ', β', hq, I'⟩
    | goto l => exact ⟨s', κ', β', hq, I'⟩
    | ret => exact ⟨s', κ', β', hq, I'⟩
    | panic ch => exact ⟨s', κ', β', hq, I'⟩
    | outgrown => exact ⟨s', κ', β', hq, I'⟩)
theorem AWM.loop {c : Code} {s : St} {Q : Exit → St → Obj → Prop} (I : Nat → St → Obj → Prop) (m : Nat) {s0 : St} (hw : Weak A s s0) (h0 : I m s0 κ)
    (round : ∀ m s κ, I m s κ → AWM P base A w0 M n c s κ (thenM (fun s' κ' => ∃ s'' m', Weak A s' s'' ∧ m' < m ∧ I m' s'' κ') Q)) : AWM P base A w0 M n (.loop c) s κ Q := fun β a w Iv => by
  obtain ⟨β0, I0⟩ := hw base _ n β a w Iv
  refine loop_rel (fun m a w => ∃ s κ β, I m s κ ∧ InvS base A (setB w0 M κ) n β s a w) ⟨s0, κ, β0, h0, I0⟩ ?_
  rintro m a w ⟨s, κ1, β, hI, Is⟩
  refine wp_mono (round m s κ1 hI β a w Is) fun e a' w' ⟨s', κ', β', hq, I'⟩ => ?_
  cases e with
  | normal =>
    obtain ⟨s'', m', hw', hlt, hI'⟩ := hq
    obtain ⟨β'', I''⟩ := hw' base _ n β' a' w' I'
    exact ⟨m', hlt, s'', κ', β'', hI', I''⟩
  | exit id => exact ⟨s', κ', β', hq, I'⟩
  | goto l => exact ⟨s', κ', β', hq, I'⟩
  | ret => exact ⟨s', κ', β', hq, I'⟩
  | panic ch => exact ⟨s', κ', β', hq, I'⟩
  | outgrown => exact ⟨s', κ', β', hq, I'⟩
theorem AWM.scope {c : Code} {s : St} {Q : Exit → St → Obj → Prop} (h : AWM P base A w0 M n c s κ (fun e s' κ' => Q e s' κ' ∧ ∀ l, e ≠ .goto l)) : AWM P base A w0 M n (.scope c) s κ Q := fun β a w I =>
  wp_scope_straight (wp_mono (h β a w I) fun e a' w' ⟨s', κ', β', ⟨hq, hg⟩, I'⟩ => by
    cases e with
    | goto l => exact absurd rfl (hg l)
    | normal => exact ⟨s', κ', β', hq, I'⟩
    | exit id => exact ⟨s', κ', β', hq, I'⟩
    | ret => exact ⟨s', κ', β', hq, I'⟩
    | panic ch => exact ⟨s', κ', β', hq, I'⟩
    | outgrown => exact ⟨s', κ', β', hq, I'⟩)
theorem AWM.text {T : TyEnv} (hT : TOk P T) {id : Nat} {ops : Array Oper} {s s' : St} {Q : Exit → St → Obj → Prop} {ans ans' : List Ans} {p : Prop} (he : evOps P T n ops ops.toList s ans = some (s', ans', p)) (hp : p) (h : Q .normal s' κ) : AWM P base A w0 M n (.region id ops false) s κ Q := AWM.lift (AW.text hT he hp h)
theorem AWM.st {T : TyEnv} (hT : TOk P T) {id : Nat} {ops : Array Oper} {y : Code} {s s' : St} {Q : Exit → St → Obj → Prop} (ans : List Ans) {ans' : List Ans} {p : Prop} (he : evOps P T n ops ops.toList s ans = some (s', ans', p)) (hp : p) (h : AWM P base A w0 M n y s' κ Q) : AWM P base A w0 M n (.seq (.region id ops false) y) s κ Q := AWM.seq (AWM.text hT he hp h)
theorem AWM.draw (hm : P.follows .mixedOrders = true) {T : TyEnv} (hT : TOk P T) {id : Nat} {ops : Array Oper} {s : St} {Q : Exit → St → Obj → Prop} {ans : List AVal} {R : List Rec} (hev : evUs T (PN P) n ops ops.toList s.τ s.σ s.fr ans = some R) (hon : onOk ops = true) (hchk : chkAll ops (depTab ops) ops.toList R = true) (hp : allP R)
    (h : Q .normal (endSt R s) κ) : AWM P base A w0 M n (.region id ops true) s κ Q := AWM.lift (AW.draw hm hT hev hon hchk hp h)
theorem AWM.dr (hm : P.follows .mixedOrders = true) {T : TyEnv} (hT : TOk P T) {id : Nat} {ops : Array Oper} {y : Code} {s : St} {Q : Exit → St → Obj → Prop} (ans : List AVal) {R : List Rec} (hev : evUs T (PN P) n ops ops.toList s.τ s.σ s.fr ans = some R) (hon : onOk ops = true) (hchk : chkAll ops (depTab ops) ops.toList R = true) (hp : allP R)
    (h : AWM P base A w0 M n y (endSt R s) κ Q) : AWM P base A w0 M n (.seq (.region id ops true) y) s κ Q := AWM.seq (AWM.draw hm hT hev hon hchk hp h)
theorem m_then {K : St → Obj → Prop} {Q : Exit → St → Obj → Prop} {id : Nat} {s : St} (h : Q (.exit id) s κ) : thenM K Q (.exit id) s κ := h
theorem blockM_exit {id : Nat} {Q : Exit → St → Obj → Prop} {s : St} (h : Q .normal s κ) : blockM id Q (.exit id) s κ := by
  simp only [blockM, if_true]
  exact h
theorem blockM_ne {id id' : Nat} {Q : Exit → St → Obj → Prop} {s : St} (hne : id' ≠ id) (h : Q (.exit id') s κ) : blockM id Q (.exit id') s κ := by
  simp only [blockM, if_neg hne]
  exact h

/-! ### what the map holds -/
def MOk (base : Nat) (A : Old) (w0 : World) (M : Nat) : Prop := base ≤ M ∧ okOf base A.own w0 A.bnd M ∧ A.kept = []
theorem m_at {o : Obj} {β : Nat → Bnd} {s : St} {a : Act} {w : World} (hM : MOk base A w0 M) (I : InvS base A (setB w0 M o) n β s a w) : okOf base A.own w β M ∧ w.heap[M]? = some o := by
  have h := I.ext.ok M (by rw [okOf_set]; exact hM.2.1)
  refine ⟨h.1, h.2.trans ?_⟩
  have := hM.2.1.2.1
  simp [this]
theorem Inv.from0 {A : Nat → Prop} {w1 w2 w : World} {β : Nat → Bnd} {σ : Sig} (I : Inv base A w1 β σ w) (h : Below base w2 w) : Inv base A w2 β σ w :=
  ⟨h, I.hbase, I.old, I.dom, I.virt, I.fin, I.lo, I.inj, I.obj⟩
theorem below_set (hM : base ≤ M) (o : Obj) (w : World) : Below base w (setB w M o) := ⟨rfl, rfl, rfl, by simp, fun k hk => by
  show (w.heap.setIfInBounds M o)[k]? = w.heap[k]?
  rw [Array.getElem?_setIfInBounds, if_neg (by omega)]⟩
theorem set_below (hM : base ≤ M) (o : Obj) (w : World) : Below base (setB w M o) w := ⟨rfl, rfl, rfl, by simp, fun k hk => by
  show w.heap[k]? = (w.heap.setIfInBounds M o)[k]?
  rw [Array.getElem?_setIfInBounds, if_neg (by omega)]⟩
theorem InvS.setM {es es' : Array MapEntry} {cl cl' : Nat} {β : Nat → Bnd} {s : St} {a : Act} {w : World} (hM : MOk base A w0 M) (I : InvS base A (setB w0 M (.map es cl)) n β s a w) : InvS base A (setB w0 M (.map es' cl')) n β s a (setB w M (.map es' cl')) := by
  obtain ⟨hok, hb⟩ := m_at hM I
  have hs := MapKept.heap_set (o' := Obj.map es' cl') hb
  have I1 := I.inv.setM (es' := es') (cl' := cl') hb hM.1 hok
  refine ⟨I1.from0 (((set_below hM.1 _ w0).trans (below_set hM.1 _ w0)).trans I1.below), I.defers, I.size, fun t v ht => ?_, I.fresh, I.ext.ble, fun x hx => ?_, fun x ob hx => ?_⟩
  · obtain ⟨u, hu, hr⟩ := I.tmps t v ht
    exact ⟨u, hu, repV_set hb hr⟩
  · rw [okOf_set] at hx ⊢
    obtain ⟨h1, h2⟩ := I.ext.ok x (by rw [okOf_set]; exact hx)
    refine ⟨h1, ?_⟩
    by_cases hxM : x = M
    · subst hxM
      rw [hs.1]
      have := hM.2.1.2.1
      simp [this]
    · show (w.heap.setIfInBounds M _)[x]? = (w0.heap.setIfInBounds M _)[x]?
      have h2 : w.heap[x]? = (w0.heap.setIfInBounds M (.map es cl))[x]? := h2
      rw [Array.getElem?_setIfInBounds, if_neg (Ne.symm hxM)] at h2 ⊢
      rw [Array.getElem?_setIfInBounds, if_neg (Ne.symm hxM)]
      exact h2
  · rw [hM.2.2] at hx
    cases hx
/-! ### single operations -/
theorem find_op {ops : Array Oper} {k : Nat} {o : Oper} {mt kt et d e8 : Nat} {xm xk : Operand} {x : List Int} {ks : List (List Int)} {s : St} {β : Nat → Bnd} {a : Act} {w : World} {Q : Exit → Act → World → Prop} {K : Act → World → Prop} (hM : MOk base A w0 M) (ho : ops[k]? = some o) (hop : o.op = .lookup mt xm xk false) (hd : o.dst = some d) (hg : o.guard = none) (hdn : d < n)
    (hty : ∃ d, P.types.size = d + 1) (hmt : P.underlying mt = some (.map kt et)) (hkt : P.underlying kt = some (.array 10 e8)) (he8 : P.underlying e8 = some (.int .u8)) (hc : P.cellsOf kt = 10) (hce : P.cellsOf e8 = 1) (hz : ∀ w, (zeroValue et).run P w = .ok (.bool false) w)
    (hks : ∀ y ∈ ks, KeyT y) (hx : KeyT x) (hm : opval s.τ xm = .c (.sc (.map (some M)))) (hk : opval s.τ xk = .agg (x.map fun b => .sc (.int .u8 b)))
    (I : InvS base A (setB w0 M (mapA ks)) n β s a w)
    (hK : ∀ a', InvS base A (setB w0 M (mapA ks)) n β ⟨putT d (.c (.sc (.bool (decide (x ∈ ks))))) s.τ, s.σ, s.fr⟩ a' w → K a' w) : wpOp P ops Q k K a w := by
  unfold wpOp
  rw [ho]
  simp only
  have hw : Region.wanted o (yielded ops a.tmps) = true := by unfold Region.wanted; rw [hg]
  rw [hw, if_pos rfl]
  left
  unfold Oper.wp
  obtain ⟨_, hb⟩ := m_at hM I
  unfold mapA at hb
  have e1 : a.eval xm = .map (some M) := by
    have := opval_rep I xm
    rw [hm] at this
    exact (sc_of this).1
  have e2 : a.eval xk = keyV x := by
    have := opval_rep I xk
    rw [hk] at this
    exact agg_sc this
  have hck := fun e => let ⟨l, hl⟩ := key_of hty hkt he8 hc hce hx; (key_law hkt he8 hc hce).check w e hl
  have hrun : (execOp a.eval o).run P w = .ok (.value (.bool (decide (x ∈ ks)))) w := by
    rcases entsA_find hty hkt he8 hc hce w hks hx with ⟨hf, h2⟩ | ⟨h1, j, e, hf, h2, h3, h4⟩
    · simp [execOp, hop, e1, e2, Instr.lookup, run_underlying hmt, MapKept.run_getObj_map hb, hck, hf, hz w, h2, Result.andThen]
    · simp [execOp, hop, e1, e2, Instr.lookup, run_underlying hmt, MapKept.run_getObj_map hb, hck, hf, h1, Result.andThen]
  rw [hrun, Oper.upon_value, hd]
  exact hK _ (put_inv (fr' := s.fr) I I.inv (BLe.refl' β) (fun x hx => ⟨hx, rfl⟩) I.fresh (d := some d) (.c (.fz (.sc _ rfl))) (by unfold putD; simp only; rw [if_pos hdn]))
def addK (ks : List (List Int)) (x : List Int) : List (List Int) := if x ∈ ks then ks else ks ++ [x]
theorem modify_same {α : Type} {f : α → α} : ∀ (l : List α) (j : Nat) (e : α), l[j]? = some e → f e = e → l.modify j f = l
  | [], j, e, he, _ => by simp at he
  | x :: l, 0, e, he, hf => by
    simp at he
    subst he
    simp [hf]
  | x :: l, j + 1, e, he, hf => by
    rw [List.getElem?_cons_succ] at he
    simp [modify_same l j e he hf]
theorem add_op {ops : Array Oper} {k : Nat} {o : Oper} {mt kt et e8 : Nat} {xm xk xv : Operand} {x : List Int} {ks : List (List Int)} {s : St} {β : Nat → Bnd} {a : Act} {w : World} {Q : Exit → Act → World → Prop} {K : Act → World → Prop} (hM : MOk base A w0 M) (ho : ops[k]? = some o) (hop : o.op = .mapUpdate mt xm xk xv) (hd : o.dst = none) (hg : o.guard = none)
    (hty : ∃ d, P.types.size = d + 1) (hmt : P.underlying mt = some (.map kt et)) (hkt : P.underlying kt = some (.array 10 e8)) (he8 : P.underlying e8 = some (.int .u8)) (hc : P.cellsOf kt = 10) (hce : P.cellsOf e8 = 1)
    (hks : ∀ y ∈ ks, KeyT y) (hx : KeyT x) (hm : opval s.τ xm = .c (.sc (.map (some M)))) (hk : opval s.τ xk = .agg (x.map fun b => .sc (.int .u8 b))) (hv : opval s.τ xv = .c (.sc (.bool true)))
    (I : InvS base A (setB w0 M (mapA ks)) n β s a w)
    (hK : ∀ w', InvS base A (setB w0 M (mapA (addK ks x))) n β s a w' → K a w') : wpOp P ops Q k K a w := by
  unfold wpOp
  rw [ho]
  simp only
  have hw : Region.wanted o (yielded ops a.tmps) = true := by unfold Region.wanted; rw [hg]
  rw [hw, if_pos rfl]
  left
  unfold Oper.wp
  obtain ⟨_, hb⟩ := m_at hM I
  unfold mapA at hb
  have e1 : a.eval xm = .map (some M) := by
    have := opval_rep I xm
    rw [hm] at this
    exact (sc_of this).1
  have e2 : a.eval xk = keyV x := by
    have := opval_rep I xk
    rw [hk] at this
    exact agg_sc this
  have e3 : a.eval xv = .bool true := by
    have := opval_rep I xv
    rw [hv] at this
    exact (sc_of this).1
  obtain ⟨l, hl⟩ := key_of hty hkt he8 hc hce hx
  have hck := fun e => (key_law hkt he8 hc hce).check w e hl
  have hrun : (execOp a.eval o).run P w = .ok .skip (setB w M (mapA (addK ks x))) := by
    rcases entsA_find hty hkt he8 hc hce w hks hx with ⟨hf, h2⟩ | ⟨h1, j, e, hf, h2, h3, h4⟩
    · have hp := entsA_push ks x
      simp [execOp, hop, e1, e2, e3, Instr.mapUpdate, run_underlying hmt, MapKept.run_getObj_map hb, hck, hf, MapKept.run_setObj_map _ hb, Result.andThen, hp, mapA, addK, h2]
    · have hst := (key_law hkt he8 hc hce).stays w hl
      have hmd := modify_same (f := fun e : MapEntry => { e with key := keyV x, val := .bool true }) (entsA ks) j e h2 (by cases e; simp_all)
      simp [execOp, hop, e1, e2, e3, Instr.mapUpdate, run_underlying hmt, MapKept.run_getObj_map hb, hck, hf, h2, h3, hst, MapKept.run_setObj_map _ hb, Result.andThen, hmd, mapA, addK, h1]
  rw [hrun, Oper.upon_skip, hd]
  exact hK _ (I.setM (es' := (entsA (addK ks x)).toArray) (cl' := (addK ks x).length) hM)
end
end Go.Proofs.YtphlhadgcfndhaaGreat.Abs
end
