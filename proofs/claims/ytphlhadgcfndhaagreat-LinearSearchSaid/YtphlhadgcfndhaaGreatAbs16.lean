/- A region whose order is drawn: one evaluation in the text's order tells all orders. -/
import Derived.Test.YtphlhadgcfndhaaGreatAbs15
namespace Go.Proofs.YtphlhadgcfndhaaGreat.Abs
open Go Go.RowKit
set_option linter.unusedVariables false
set_option linter.unusedSimpArgs false

theorem looks_congr {σ σ' : Sig} : ∀ ids : List Nat, (∀ id ∈ ids, look id σ = look id σ') → looks σ ids = looks σ' ids
  | [], _ => rfl
  | id :: ids, h => by
    unfold looks
    rw [h id (by simp), looks_congr ids fun x hx => h x (by simp [hx])]
theorem run_congr {σ σ' : Sig} (p : Plan) (h : ∀ id ∈ p.ids, look id σ = look id σ') : p.run σ = p.run σ' := by
  cases p with
  | fail => rfl
  | now => rfl
  | use ids f =>
    simp only [Plan.run]
    rw [looks_congr ids h]
theorem opval_congr {τ τ' : Tau} (x : Operand) (h : ∀ t, x = .tmp t → look t τ = look t τ') : opval τ x = opval τ' x := by
  cases x with
  | tmp t =>
    show (look t τ).getD .any = (look t τ').getD .any
    rw [h t rfl]
  | const v => rfl
  | global g => rfl
  | func f => rfl
/-- An operation's writes hang on what it looks at alone. -/
theorem rdC_congr {σ σ' : Sig} {c : Cell} (h : ∀ id ∈ idC c, look id σ' = look id σ) : rdC σ' c = rdC σ c ∧ (flatC σ' c ↔ flatC σ c) := by
  cases c with
  | ref id lo n => have := h id (by simp [idC]); simp [rdC, flatC, flatAt, this]
  | ptr id i off => have := h id (by simp [idC]); simp [rdC, flatC, flatAt, this]
  | _ => exact ⟨rfl, Iff.rfl⟩
theorem rdCs_congr {σ σ' : Sig} : ∀ {cs : List Cell}, (∀ id ∈ idCs cs, look id σ' = look id σ) → cs.map (rdC σ') = cs.map (rdC σ) ∧ (flatCs σ' cs ↔ flatCs σ cs)
  | [], _ => ⟨rfl, Iff.rfl⟩
  | c :: cs, h => by
    have h1 := rdC_congr (c := c) fun id hi => h id (by simp [idCs, hi])
    have h2 := rdCs_congr (cs := cs) fun id hi => h id (by simp [idCs, hi])
    rw [List.map_cons, List.map_cons, h1.1, h2.1]
    exact ⟨rfl, by rw [flatCs, flatCs, h1.2, h2.2]⟩
theorem rdV_congr {σ σ' : Sig} {v : AVal} (h : ∀ id ∈ idV v, look id σ' = look id σ) : rdV σ' v = rdV σ v ∧ (flatV σ' v ↔ flatV σ v) := by
  cases v with
  | c x => have := rdC_congr h; exact ⟨by rw [rdV, rdV, this.1], this.2⟩
  | agg cs => have := rdCs_congr h; exact ⟨by rw [rdV, rdV, this.1], this.2⟩
  | any => exact ⟨rfl, Iff.rfl⟩
  | tup vs => exact ⟨rfl, Iff.rfl⟩
  | cut k c es => exact ⟨rfl, Iff.rfl⟩
theorem rdVs_congr {σ σ' : Sig} : ∀ {vs : List AVal}, (∀ id ∈ idVs vs, look id σ' = look id σ) → vs.map (rdV σ') = vs.map (rdV σ)
  | [], _ => rfl
  | v :: vs, h => by
    rw [List.map_cons, List.map_cons, (rdV_congr fun id hi => h id (by simp [idVs, hi])).1, rdVs_congr fun id hi => h id (by simp [idVs, hi])]
theorem flatVs_congr {σ σ' : Sig} : ∀ {vs : List AVal}, (∀ id ∈ idVs vs, look id σ' = look id σ) → flatVs σ' vs = flatVs σ vs
  | [], _ => rfl
  | v :: vs, h => by
    rw [flatVs, flatVs, propext (rdV_congr fun id hi => h id (by simp [idVs, hi])).2, flatVs_congr fun id hi => h id (by simp [idVs, hi])]
theorem looksA_congr {σ σ' : Sig} : ∀ {obs : List (Nat × AObj)}, (∀ id ∈ obs.map Prod.fst, look id σ' = look id σ) → looksA obs σ' = looksA obs σ
  | [], _ => rfl
  | (id, ob) :: r, h => by
    rw [looksA, looksA, h id (by simp), looksA_congr fun i hi => h i (by simp at hi ⊢; exact .inr hi)]
theorem evU_congr {T : TyEnv} {C : FuncId → List AVal → AVal → Prop} {n : Nat} {ops : Array Oper} {o : Oper} {τ τ' : Tau} {σ σ' : Sig} {fr fr' : Nat} {ans ans' : List AVal} {u : UE} {p : Prop} (h : evU T C n ops o τ σ fr ans = some (u, ans', p, fr'))
    (ht : ∀ t ∈ o.looksAt ops, look t τ' = look t τ) (hs : ∀ id ∈ u.rd, look id σ' = look id σ) : evU T C n ops o τ' σ' fr ans = some (u, ans', p, fr') := by
  have hw : wantedA ops τ' o = wantedA ops τ o := by
    unfold wantedA
    cases hg : o.guard with
    | none => rfl
    | some g =>
      obtain ⟨j, want⟩ := g
      simp only
      cases hj : ops[j]? with
      | none => rfl
      | some oj =>
        simp only
        cases hd : oj.dst with
        | none => rfl
        | some d =>
          simp only
          rw [ht d (by
            unfold Oper.looksAt
            rw [hg]
            simp [hj, hd])]
  have hv : planOp T (opval τ') o.op = planOp T (opval τ) o.op := planOp_congr o.op fun x hx => opval_congr x fun t hxt => ht t (by
    unfold Oper.looksAt
    refine List.mem_append.2 (.inl (List.mem_filterMap.2 ⟨x, hx, ?_⟩))
    rw [hxt])
  unfold evU at h ⊢
  rw [hw, hv]
  split at h
  case isFalse => cases h
  rename_i hd
  rw [if_pos hd]
  split at h
  · cases h
  · exact h
  · have hr : (planOp T (opval τ) o.op).run σ' = (planOp T (opval τ) o.op).run σ := by
      refine run_congr _ fun id hid => hs id ?_
      split at h
      · cases h
      · split at h
        case isFalse => cases h
        split at h
        case h_2 => cases h
        split at h
        · split at h
          case isFalse => cases h
          cases h
          exact List.mem_append.2 (.inl hid)
        split at h
        · cases h
          exact List.mem_append.2 (.inl hid)
        split at h
        · split at h
          · cases h
            exact hid
          · split at h
            case isFalse => cases h
            cases h
            exact List.mem_append.2 (.inl hid)
        split at h
        · cases h
          exact hid
        · split at h
          case isFalse => cases h
          cases h
          exact List.mem_append.2 (.inl hid)
      · cases h
        rw [UE.of_rd]
        exact hid
    simp only [hr]
    split at h
    · cases h
    · split at h
      case isFalse => cases h
      rename_i hc
      split at h
      case h_2 => cases h
      split at h
      · rename_i hng
        split at h
        case isFalse => cases h
        rename_i hsz
        cases h
        have hid := looksA_congr fun id hi => hs id (List.mem_append.2 (.inr hi))
        simp only [hc, hng, hsz, if_true, and_self, hid]
      rename_i hng
      split at h
      · rename_i hnm
        cases h
        have hid := hs _ (List.mem_append.2 (.inr (List.mem_singleton.2 rfl)))
        simp only [hc, hng, hnm, if_true, hid]
      rename_i hnm
      split at h
      · rename_i hnr
        split at h
        · rename_i hfz
          cases h
          simp only [hc, hfz, hng, hnm, hnr, if_true, and_self]
        · rename_i hfz
          split at h
          case isFalse => cases h
          rename_i hpq
          cases h
          have hid : ∀ id ∈ idVs _, look id σ' = look id σ := fun id hi => hs id (List.mem_append.2 (.inr hi))
          simp only [hc, hfz, hng, hnm, hnr, hpq, if_true, if_false, rdVs_congr hid, flatVs_congr hid]
      rename_i hnr
      split at h
      · rename_i hfz
        cases h
        simp only [hc, hfz, hng, hnm, hnr, if_true]
      · rename_i hfz
        split at h
        case isFalse => cases h
        rename_i hpl
        cases h
        have hid : ∀ id ∈ idVs _, look id σ' = look id σ := fun id hi => hs id (List.mem_append.2 (.inr hi))
        simp only [hc, hfz, hng, hnm, hnr, hpl, if_true, if_false, Bool.false_eq_true, rdVs_congr hid, flatVs_congr hid]
    · rename_i e q hnc hpl
      exact h

section
variable {P : Program} {base : Nat} {A : Old} {w0 : World} {n : Nat} {ops : Array Oper} {T : TyEnv} {R : List Rec} {s : St}

def JInv (base : Nat) (A : Old) (w0 : World) (n : Nat) (R : List Rec) (s : St) (b : Nat → Bool) (a : Act) (w : World) : Prop :=
  ∃ β, InvT base A w0 n β (selτ b 0 R s.τ) (selσ b 0 R s.σ) a w ∧ ∀ id, s.fr ≤ id → (∀ (j : Nat) (r : Rec), R[j]? = some r → b j = true → (r.fr' = r.fr ∨ r.fr ≠ id)) → β id = .no
theorem confl_slot {o : Oper} {r : Rec} {o' : Oper} {r' : Rec} {t : Nat} (ht : t ∈ o.looksAt ops) (hr' : (atτ t r').isSome = true) : (confl ops o r o' r' || confl ops o' r' o r) = true := by
  unfold atτ at hr'
  split at hr'
  case isFalse => cases hr'
  rename_i hd
  unfold confl
  simp [hd, ht]
theorem wids_at {id : Nat} {r : Rec} (h : (atσ id r).isSome = true) : id ∈ r.u.wids := by
  unfold atσ at h
  unfold UE.wids
  cases hw : r.u.wr with
  | none => rw [hw] at h; cases h
  | some io =>
    obtain ⟨i, o⟩ := io
    rw [hw] at h
    simp only at h ⊢
    split at h
    · rename_i hi
      simp [hi]
    · split at h
      · rename_i hk
        rw [hk]
        simp
      · cases h
theorem confl_obj {o : Oper} {r : Rec} {o' : Oper} {r' : Rec} {id : Nat} (ht : id ∈ r.u.rd) (hr' : (atσ id r').isSome = true) : (confl ops o r o' r' || confl ops o' r' o r) = true := by
  have hw := wids_at hr'
  have : r'.u.wids.any (fun x => r.u.rd.contains x || r.u.wids.contains x) = true := List.any_eq_true.2 ⟨id, hw, by simp [ht]⟩
  unfold confl
  simp only [this, Bool.or_true, Bool.true_or]
theorem confl_ww {o : Oper} {r : Rec} {o' : Oper} {r' : Rec} {id : Nat} (ht : (atσ id r).isSome = true) (hr' : (atσ id r').isSome = true) : (confl ops o r o' r' || confl ops o' r' o r) = true := by
  have hw := wids_at hr'
  have hw' := wids_at ht
  have : r'.u.wids.any (fun x => r.u.rd.contains x || r.u.wids.contains x) = true := List.any_eq_true.2 ⟨id, hw, by simp [hw']⟩
  unfold confl
  simp only [this, Bool.or_true, Bool.true_or]
theorem confl_dd {o : Oper} {r : Rec} {o' : Oper} {r' : Rec} {t : Nat} (ht : (atτ t r).isSome = true) (hr' : (atτ t r').isSome = true) : (confl ops o r o' r' || confl ops o' r' o r) = true := by
  unfold atτ at ht hr'
  split at ht
  case isFalse => cases ht
  split at hr'
  case isFalse => cases hr'
  rename_i h1 h2
  unfold confl
  simp [h1, h2]
/-- One more operation that is ready. -/
theorem J_step (hT : TOk P T) {ans : List AVal} (hev : evUs T (PN P) n ops ops.toList s.τ s.σ s.fr ans = some R) (hp : ∀ r ∈ R, r.p) (hchk : chkAll ops (depTab ops) ops.toList R = true) {b : Nat → Bool} (hc : ClosedL ops b) {i : Nat} {o : Oper} (ho : ops[i]? = some o) (hb : b i = false) (hready : ∀ e ∈ o.after.toList, Region.binds .any e = true → b e.on = true)
    {a : Act} {w : World} (J : JInv base A w0 n R s b a w) {Q : Exit → Act → World → Prop} {K : Act → World → Prop} (hK : ∀ a' w', JInv base A w0 n R s (fun j => j == i || b j) a' w' → K a' w') : wpOp P ops Q i K a w := by
  obtain ⟨hl, hat, hmono⟩ := evUs_at ops.toList s.τ s.σ s.fr ans R hev
  have hi : i < R.length := by
    rw [hl, Array.length_toList]
    exact (Array.getElem?_eq_some_iff.1 ho).1
  obtain ⟨r, hr⟩ : ∃ r, R[i]? = some r := ⟨_, List.getElem?_eq_getElem hi⟩
  obtain ⟨hu, hfr0⟩ := hat i o r (by rw [Array.getElem?_toList]; exact ho) hr
  have hdst := (evU_fr hu).2
  have hfr1 := (evU_fr hu).1
  have getO : ∀ (j : Nat) (q : Rec), R[j]? = some q → ∃ o', ops[j]? = some o' := fun j q hq => by
    have : j < ops.toList.length := by rw [← hl]; exact (List.getElem?_eq_some_iff.1 hq).1
    exact ⟨_, by rw [← Array.getElem?_toList]; exact List.getElem?_eq_getElem this⟩
  have ord : ∀ (j : Nat) (q : Rec), R[j]? = some q → (∀ o' , ops[j]? = some o' → (confl ops o r o' q || confl ops o' q o r) = true) → b j = decide (j < i) ∨ j = i := fun j q hq hcf => by
    by_cases hji : j = i
    · exact .inr hji
    · obtain ⟨o', ho'⟩ := getO j q hq
      exact .inl (ordered hl hchk hc ho hr hb hready ho' hq hji (hcf o' ho'))
  have agree : ∀ (j : Nat) (q : Rec), R[j]? = some q → (∀ o' , ops[j]? = some o' → (confl ops o r o' q || confl ops o' q o r) = true) → b (0 + j) = decide (0 + j < i) := fun j q hq hcf => by
    rw [Nat.zero_add]
    rcases ord j q hq hcf with h | rfl
    · exact h
    · rw [hb, decide_eq_false (by omega)]
  have hu' : evU T (PN P) n ops o (selτ b 0 R s.τ) (selσ b 0 R s.σ) r.fr r.ans = some (r.u, r.ans', r.p, r.fr') := by
    refine evU_congr hu (fun t ht => ?_) (fun id hid => ?_)
    · rw [look_selτ, look_selτ]
      exact sel_agree R 0 _ fun j q hq hf => agree j q hq fun o' _ => confl_slot ht hf
    · rw [look_selσ, look_selσ]
      exact sel_agree R 0 _ fun j q hq hf => agree j q hq fun o' _ => confl_obj hid hf
  obtain ⟨β, I, hfresh⟩ := J
  have hnofr : r.fr' ≠ r.fr → β r.fr = .no := fun hne => hfresh r.fr hfr0 fun j q hq hbj => by
    by_cases hji : j = i
    · subst hji
      rw [hb] at hbj
      cases hbj
    · by_cases hcons : q.fr' = q.fr
      · exact .inl hcons
      · right
        obtain ⟨o', ho'⟩ := getO j q hq
        obtain ⟨hq1, _⟩ := hat j o' q (by rw [Array.getElem?_toList]; exact ho') hq
        have := (evU_fr hq1).1
        rcases Nat.lt_or_gt_of_ne hji with h | h
        · have := hmono j i q r h hq hr
          omega
        · have := hmono i j r q h hr hq
          omega
  have hup := evUs_up ops.toList s.τ s.σ s.fr ans R hev
  have hB : ∀ id, r.fr + ops.size ≤ id → β id = .no := fun id hid => hfresh id (by omega) fun j q hq _ => .inr (by
    have h1 := hup j q hq
    have h2 : j < ops.size := by
      have := (List.getElem?_eq_some_iff.1 hq).1
      rw [hl, Array.length_toList] at this
      exact this
    omega)
  refine evU_sound hT hu' (hp r (List.mem_of_getElem? hr)) I hnofr hB ho fun β' a' w' I' hnew => hK a' w' ⟨β', I'.congr (fun t => ?_) (fun id => ?_), fun id hid hcl => ?_⟩
  · rw [look_selτ, look_uτ, look_selτ]
    refine sel_up hr hb fun j q hij hq hf hfr => ?_
    rcases ord j q hq (fun o' _ => confl_dd hfr hf) with h | h
    · rw [h, decide_eq_false (by omega)]
    · omega
  · rw [look_selσ, look_uσ, look_selσ]
    refine sel_up hr hb fun j q hij hq hf hfr => ?_
    rcases ord j q hq (fun o' _ => confl_ww hfr hf) with h | h
    · rw [h, decide_eq_false (by omega)]
    · omega
  · refine hnew id ?_ (hfresh id hid fun j q hq hbj => hcl j q hq (by simp [hbj]))
    rcases hcl i r hr (by simp) with h | h
    · exact .inr h
    · exact .inl (Ne.symm h)
theorem any_go (hT : TOk P T) {ans : List AVal} (hev : evUs T (PN P) n ops ops.toList s.τ s.σ s.fr ans = some R) (hp : ∀ r ∈ R, r.p) (hchk : chkAll ops (depTab ops) ops.toList R = true) {Q : Exit → Act → World → Prop} (hQ : ∀ a w, JInv base A w0 n R s (fun _ => true) a w → Q .normal a w) (hon : ∀ (i : Nat) (o : Oper), ops[i]? = some o → ∀ e ∈ o.after.toList, Region.binds .any e = true → e.on < i) :
    ∀ (fuel : Nat) (listed : Array Bool) (a : Act) (w : World), listed.size = ops.size → ClosedL ops (fun j => listed.getD j false) → ((List.range ops.size).filter fun j => !listed.getD j false).length ≤ fuel → JInv base A w0 n R s (fun j => listed.getD j false) a w → wpAny P .any ops Q fuel listed a w := by
  have done : ∀ (listed : Array Bool) (a : Act) (w : World), listed.size = ops.size → JInv base A w0 n R s (fun j => listed.getD j false) a w → Region.ready .any ops listed = [] → Q .normal a w := by
    intro listed a w hsz J hr
    have hall : ∀ j, j < ops.size → listed.getD j false = true := by
      intro j
      induction j using Nat.strongRecOn with
      | _ j ih =>
        intro hj
        cases hb : listed.getD j false with
        | true => rfl
        | false =>
          exfalso
          have hm : j ∈ Region.ready .any ops listed := by
            rw [mem_ready]
            refine ⟨?_, ops[j], by simp [hj], fun e he hbn => ih e.on (hon j ops[j] (by simp [hj]) e (Array.mem_toList_iff.2 he) hbn) (by have := hon j ops[j] (by simp [hj]) e (Array.mem_toList_iff.2 he) hbn; omega)⟩
            rw [Array.getD_eq_getD_getElem?] at hb ⊢
            rw [Array.getElem?_eq_getElem (by omega)] at hb ⊢
            exact hb
          rw [hr] at hm
          cases hm
    obtain ⟨β, I, hf⟩ := J
    have hl := (evUs_at ops.toList s.τ s.σ s.fr ans R hev).1
    have hbR : ∀ (j : Nat) (q : Rec), R[j]? = some q → listed.getD j false = true := fun j q hq => hall j (by
      have := (List.getElem?_eq_some_iff.1 hq).1
      rw [hl, Array.length_toList] at this
      exact this)
    refine hQ a w ⟨β, I.congr (fun t => ?_) (fun id => ?_), fun id hid hcl => hf id hid fun j q hq hbj => hcl j q hq rfl⟩
    · rw [look_selτ, look_selτ]
      exact sel_agree R 0 _ fun j q hq _ => by rw [Nat.zero_add, hbR j q hq]
    · rw [look_selσ, look_selσ]
      exact sel_agree R 0 _ fun j q hq _ => by rw [Nat.zero_add, hbR j q hq]
  intro fuel
  induction fuel with
  | zero =>
    intro listed a w hsz hc hcnt J
    have hr : Region.ready .any ops listed = [] := by
      rw [List.eq_nil_iff_forall_not_mem]
      intro j hj
      rw [mem_ready] at hj
      obtain ⟨h0, o, ho, _⟩ := hj
      have hjl : j < ops.size := (Array.getElem?_eq_some_iff.1 ho).1
      have : j ∈ (List.range ops.size).filter fun j => !listed.getD j false := by
        rw [List.mem_filter]
        refine ⟨List.mem_range.2 hjl, ?_⟩
        rw [Array.getD_eq_getD_getElem?] at h0 ⊢
        rw [Array.getElem?_eq_getElem (by omega)] at h0 ⊢
        simp at h0 ⊢
        exact h0
      have := List.length_pos_of_mem this
      omega
    exact ⟨hr, done listed a w hsz J hr⟩
  | succ fuel ih =>
    intro listed a w hsz hc hcnt J
    refine ⟨done listed a w hsz J, fun i hi => ?_⟩
    rw [mem_ready] at hi
    obtain ⟨h0, o, ho, hready⟩ := hi
    have hil : i < ops.size := (Array.getElem?_eq_some_iff.1 ho).1
    have hb : listed.getD i false = false := by
      rw [Array.getD_eq_getD_getElem?] at h0 ⊢
      rw [Array.getElem?_eq_getElem (by omega)] at h0 ⊢
      exact h0
    have hset : ∀ j, (listed.setIfInBounds i true).getD j false = (j == i || listed.getD j false) := fun j => by
      by_cases hji : j = i
      · subst hji
        simp [Array.getD_eq_getD_getElem?, hsz, hil]
      · rw [getD_set_ne false (Ne.symm hji)]
        simp [hji]
    refine J_step hT hev hp hchk hc ho hb (fun e he hbn => hready e (Array.mem_toList_iff.1 he) hbn) J fun a' w' J' => ih (listed.setIfInBounds i true) a' w' (by simp [hsz]) ?_ ?_ ?_
    · intro j oj hoj hbj e he hbn
      simp only [hset] at hbj ⊢
      by_cases hji : j = i
      · subst hji
        rw [ho] at hoj
        cases hoj
        simp [hready e (Array.mem_toList_iff.1 he) hbn]
      · simp only [beq_eq_false_iff_ne.2 hji, Bool.false_or] at hbj
        simp [hc j oj hoj hbj e he hbn]
    · have hlt : ((List.range ops.size).filter fun j => !(listed.setIfInBounds i true).getD j false).length < ((List.range ops.size).filter fun j => !listed.getD j false).length := by
        have hsub : ((List.range ops.size).filter fun j => !(listed.setIfInBounds i true).getD j false) = ((List.range ops.size).filter fun j => !listed.getD j false).filter fun j => j != i := by
          rw [List.filter_filter]
          congr 1
          funext j
          rw [hset]
          cases hji : (j == i) <;> simp [bne, hji]
        rw [hsub]
        refine List.length_filter_lt_length_iff_exists.2 ⟨i, List.mem_filter.2 ⟨List.mem_range.2 hil, by simp [hb]⟩, by simp⟩
      omega
    · simp only [hset]
      exact J'
end
end Go.Proofs.YtphlhadgcfndhaaGreat.Abs
