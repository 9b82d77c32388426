/- Joined for the claim: WQd WPo -/
import Derived.Test.YtphlhadgcfndhaaGreatJd9
import Derived.Test.YtphlhadgcfndhaaGreatJd13
section
namespace Go.Proofs.YtphlhadgcfndhaaGreat.Abs
open Go Go.RowKit
set_option linter.unusedVariables false
set_option linter.unusedSimpArgs false
structure LInv (ops : List OpS) (l : List Nat) : Prop where
  kinds : ∀ i ∈ l, ∀ o, ops[i]? = some o → reqB o = true ∨ o.kind = 1
  ord : l.Pairwise fun (y x : Nat) => preS ops x y = false
  fut : ∀ y ∈ l, ∀ (k : Nat) (o : OpS), k ∉ l → ops[k]? = some o → reqB o = true → preS ops k y = false
theorem LInv.nil (ops : List OpS) : LInv ops [] := ⟨fun i h => (by cases h), .nil, fun i h => (by cases h)⟩
theorem blk_no {ops : List OpS} {x : List Int} {i : Int} (h : blkB ops x i = false) {k : Nat} {o : OpS} (ho : ops[k]? = some o) (hw : wtS x k = true) (hr : reqB o = true) : preS ops k i = false := by
  have := anyAt_not h ho
  have hl : (ops.take k).length = k := by
    rw [List.length_take]
    have := (List.getElem?_eq_some_iff.1 ho).1
    omega
  rw [hl, hw, hr] at this
  simpa using this
theorem preS_ret {ops : List OpS} {i : Nat} {o : OpS} (ho : ops[i]? = some o) (hr : o.ret = 0) (y : Int) : preS ops i y = false := by
  unfold preS
  rw [show opAt ops i = some o by unfold opAt; rw [if_pos (by omega)]; simpa using ho]
  cases opAt ops y with
  | none => rfl
  | some b => simp [preB, hr]
theorem may_split {ops : List OpS} {x : List Int} {sp i : Nat} {o : OpS} (h : mayB ops x sp i = true) (ho : ops[i]? = some o) : (reqB o = true ∨ o.kind = 1) ∧ blkB ops x i = false := by
  unfold mayB at h
  rw [ho] at h
  simp only [Bool.and_eq_true, Bool.or_eq_true, Bool.not_eq_true'] at h
  refine ⟨?_, h.2⟩
  rcases h.1.2 with h | h
  · exact .inl h
  · exact .inr (by simpa using h.1)
theorem LInv.snoc {ops : List OpS} (hn : ops.length ≤ 10) {l : List Nat} {x : List Int} {vs : List HV} (hp : Path ops l x vs) (h : LInv ops l) {i sp : Nat} {o : OpS} (ho : ops[i]? = some o) (hm : mayB ops x sp i = true) : LInv ops (l ++ [i]) := by
  obtain ⟨hk, hb⟩ := may_split hm ho
  have hi := wait_not hn hp hm
  refine ⟨fun j hj p hpj => ?_, ?_, fun y hy k p hkl hpk hr => ?_⟩
  · rcases List.mem_append.1 hj with hj | hj
    · exact h.kinds j hj p hpj
    · rw [List.mem_singleton.1 hj, ho] at hpj
      cases hpj
      exact hk
  · rw [List.pairwise_append]
    refine ⟨h.ord, by simp, fun y hy z hz => ?_⟩
    rw [List.mem_singleton.1 hz]
    cases hr : reqB o with
    | true => exact h.fut y hy i o hi ho hr
    | false =>
      rw [hr] at hk
      have hk1 : o.kind = 1 := hk.resolve_left (by simp)
      have hret : o.ret = 0 := by simpa [reqB, hk1] using hr
      exact preS_ret ho hret y
  · have hkl' : k ∉ l ∧ k ≠ i := by simpa using hkl
    rcases List.mem_append.1 hy with hy | hy
    · exact h.fut y hy k p hkl'.1 hpk hr
    · rw [List.mem_singleton.1 hy]
      exact blk_no hb hpk (by rw [hp.wt hn]; simpa using hkl'.1) hr
theorem runS_cons {ops : List OpS} {i : Nat} {o : OpS} (ho : ops[i]? = some o) (vs : List HV) (s : List Nat) : runS ops vs (coeL (i :: s)) = if okV vs o = true then runS ops (stepV vs o) (coeL s) else none := by
  show runS ops vs ((i : Int) :: coeL s) = _
  rw [runS, show opAt ops i = some o by unfold opAt; rw [if_pos (by omega)]; simpa using ho]
theorem dfs_sound {ops : List OpS} (hn : ops.length ≤ 10) : ∀ (n : Nat) (l : List Nat) (x : List Int) (vs : List HV) (sp : Nat) (s : List Nat), Path ops l x vs → LInv ops l → dfs ops n x vs sp = some s → ∃ x' vs', Path ops (l ++ s) x' vs' ∧ LInv ops (l ++ s) ∧ complB ops x' = true ∧ costL ops (l ++ s) ≤ costL ops l + sp ∧ runS ops vs (coeL s) = some vs'
  | 0, l, x, vs, sp, s, _, _, h => by cases h
  | n + 1, l, x, vs, sp, s, hp, hi, h => by
    unfold dfs at h
    by_cases hc : complB ops x = true
    · rw [if_pos hc] at h
      cases h
      rw [List.append_nil]
      exact ⟨x, vs, hp, hi, hc, Nat.le_add_right _ _, rfl⟩
    rw [if_neg hc] at h
    have key : ∀ is : List Nat, dfsL (dfs ops n) ops x vs sp is = some s → ∃ x' vs', Path ops (l ++ s) x' vs' ∧ LInv ops (l ++ s) ∧ complB ops x' = true ∧ costL ops (l ++ s) ≤ costL ops l + sp ∧ runS ops vs (coeL s) = some vs' := by
      intro is
      induction is with
      | nil => intro h; cases h
      | cons i is ih =>
        intro h
        unfold dfsL at h
        cases ho : ops[i]? with
        | none => rw [ho] at h; exact ih h
        | some o =>
          rw [ho] at h
          simp only at h
          by_cases hm : (mayB ops x sp i && okV vs o) = true
          · rw [if_pos hm] at h
            rw [Bool.and_eq_true] at hm
            cases hd : dfs ops n (afterB ops x i) (stepV vs o) (sp - costB o) with
            | none => rw [hd] at h; exact ih h
            | some t =>
              rw [hd] at h
              cases h
              have hni := wait_not hn hp hm.1
              have hcs := mayB_sp hm.1 ho
              obtain ⟨x', vs', h1, h2, h3, h4, h5⟩ := dfs_sound hn n (l ++ [i]) _ _ _ t (hp.snoc hni ho) (hi.snoc hn hp ho hm.1) hd
              rw [List.append_assoc] at h1 h2 h4
              rw [costL_snoc ho] at h4
              refine ⟨x', vs', h1, h2, h3, ?_, ?_⟩
              · have h4' : costL ops (l ++ i :: t) ≤ costL ops l + costB o + (sp - costB o) := h4
                omega
              · rw [runS_cons ho, if_pos hm.2]
                exact h5
          · rw [if_neg hm] at h
            exact ih h
    exact key _ h
def Can (ops : List OpS) : List Int → List HV → Nat → List Nat → Prop
  | x, _, _, [] => complB ops x = true
  | x, vs, sp, i :: t => ∃ o, ops[i]? = some o ∧ mayB ops x sp i = true ∧ okV vs o = true ∧ Can ops (afterB ops x i) (stepV vs o) (sp - costB o) t
theorem dfsL_some {f : List Int → List HV → Nat → Option (List Nat)} {ops : List OpS} {x : List Int} {vs : List HV} {sp i : Nat} {o : OpS} (ho : ops[i]? = some o) (hm : (mayB ops x sp i && okV vs o) = true) (hf : (f (afterB ops x i) (stepV vs o) (sp - costB o)).isSome = true) : ∀ {is : List Nat}, i ∈ is → (dfsL f ops x vs sp is).isSome = true
  | [], h => by cases h
  | j :: is, h => by
    unfold dfsL
    by_cases e : j = i
    · subst e
      rw [ho]
      simp only
      rw [if_pos hm]
      cases hd : f (afterB ops x j) (stepV vs o) (sp - costB o) with
      | none => rw [hd] at hf; cases hf
      | some s => rfl
    · have h' : i ∈ is := by
        rcases List.mem_cons.1 h with h | h
        · exact absurd h.symm e
        · exact h
      have ih := dfsL_some ho hm hf h'
      cases hj : ops[j]? with
      | none => exact ih
      | some p =>
        simp only
        split
        · split
          · rfl
          · exact ih
        · exact ih
theorem dfs_complete {ops : List OpS} : ∀ (n : Nat) (x : List Int) (vs : List HV) (sp : Nat) (t : List Nat), Can ops x vs sp t → t.length < n → (dfs ops n x vs sp).isSome = true
  | 0, _, _, _, _, _, h => by omega
  | n + 1, x, vs, sp, t, h, hl => by
    unfold dfs
    by_cases hc : complB ops x = true
    · rw [if_pos hc]; rfl
    rw [if_neg hc]
    match t, h with
    | [], h => exact absurd h hc
    | i :: t, h =>
      obtain ⟨o, ho, hm, hok, hr⟩ := h
      have := dfs_complete n _ _ _ t hr (by simp at hl; omega)
      exact dfsL_some ho (by rw [hm, hok]; rfl) this (List.mem_range.2 (List.getElem?_eq_some_iff.1 ho).1)
theorem compl_of {ops : List OpS} (hn : ops.length ≤ 10) {l : List Nat} {x : List Int} {vs : List HV} (hp : Path ops l x vs) : complB ops x = true ↔ ∀ (i : Nat) (o : OpS), ops[i]? = some o → reqB o = true → i ∈ l := by
  unfold complB
  rw [Bool.not_eq_true']
  have hl : ∀ (i : Nat) (o : OpS), ops[i]? = some o → (ops.take i).length = i := fun i o ho => by
    rw [List.length_take]
    have := (List.getElem?_eq_some_iff.1 ho).1
    omega
  refine ⟨fun h i o ho hr => ?_, fun h => anyAt_no fun i o ho => ?_⟩
  · have := anyAt_not h ho
    rw [hl i o ho, hr, hp.wt hn] at this
    simpa using this
  · rw [hl i o ho, hp.wt hn]
    cases hr : reqB o with
    | false => rfl
    | true =>
      have := h i o ho hr
      simp [this]
theorem can_of {N : Int} {ops : List OpS} (hn : ops.length ≤ 10) (hv : VT N ops) : ∀ (t l : List Nat) (x : List Int) (vs : List HV) (sp : Nat), Path ops l x vs → (l ++ t).Nodup → (∀ i ∈ t, ∃ o, ops[i]? = some o ∧ (reqB o = true ∨ o.kind = 1)) → (∀ (i : Nat) (o : OpS), ops[i]? = some o → reqB o = true → i ∈ l ++ t) → (t.Pairwise fun (y x : Nat) => preS ops x y = false) → (runS ops vs (coeL t)).isSome = true → costL ops t ≤ sp → Can ops x vs sp t
  | [], l, x, vs, sp, hp, _, _, hm, _, _, _ => (compl_of hn hp).2 fun i o ho hr => by have := hm i o ho hr; simpa using this
  | i :: t, l, x, vs, sp, hp, hnd, hk, hm, hord, hrun, hc => by
    obtain ⟨o, ho, hko⟩ := hk i (by simp)
    have hil : i ∉ l := fun h => by
      rw [List.nodup_append] at hnd
      exact hnd.2.2 i h i (by simp) rfl
    have hit : i ∉ t := fun h => by
      rw [List.nodup_append] at hnd
      exact (List.nodup_cons.1 hnd.2.1).1 h
    rw [runS_cons ho] at hrun
    have hok : okV vs o = true := by
      by_cases h : okV vs o = true
      · exact h
      · rw [if_neg h] at hrun; cases hrun
    rw [if_pos hok] at hrun
    have hcc : costL ops (i :: t) = costB o + costL ops t := by
      have h1 : costL ops (i :: t) = costL ops ([i] ++ t) := rfl
      rw [h1]
      unfold costL
      rw [List.countP_append]
      have := costL_snoc ho []
      simp only [List.nil_append] at this
      unfold costL at this
      rw [this]
      simp
    rw [List.pairwise_cons] at hord
    refine ⟨o, ho, ?_, hok, can_of hn hv t (l ++ [i]) _ _ _ (hp.snoc hil ho) (by rw [List.append_assoc]; exact hnd) (fun j hj => hk j (by simp [hj])) (fun j p hj hr => by rw [List.append_assoc]; exact hm j p hj hr) hord.2 hrun (by omega)⟩
    unfold mayB
    rw [ho]
    simp only [Bool.and_eq_true, Bool.or_eq_true, Bool.not_eq_true']
    refine ⟨⟨by rw [hp.wt hn]; simpa using hil, ?_⟩, anyAt_no fun q p hq => ?_⟩
    · cases hr : reqB o with
      | true => exact .inl rfl
      | false =>
        have hk1 : o.kind = 1 := hko.resolve_left (by simp [hr])
        have hret : o.ret = 0 := by simpa [reqB, hk1] using hr
        have : costB o = 1 := by simp [costB, hret]
        refine .inr ⟨by simp [hk1], ?_⟩
        have : sp ≠ 0 := by omega
        simpa using this
    · have hl : (ops.take q).length = q := by
        rw [List.length_take]
        have := (List.getElem?_eq_some_iff.1 hq).1
        omega
      rw [hl, hp.wt hn]
      cases hr : reqB p with
      | false => simp
      | true =>
        by_cases hql : q ∈ l
        · simp [hql]
        · have := hm q p hq hr
          have hpre : preS ops q i = false := by
            rcases List.mem_append.1 this with h | h
            · exact absurd h hql
            · rcases List.mem_cons.1 h with h | h
              · subst h
                cases hb : preS ops q q with
                | false => rfl
                | true => exact absurd (preS_lt hv hb) (by omega)
              · exact hord.1 q h
          simp [hpre]
theorem coe_mem {l : List Nat} {x : Int} : x ∈ coeL l ↔ ∃ n ∈ l, (n : Int) = x := List.mem_map
theorem coe_nd {l : List Nat} (h : l.Nodup) : (coeL l).Nodup := by
  unfold coeL
  refine List.Pairwise.map _ (fun a b hab e => hab ?_) h
  omega
def reqAt (ops : List OpS) (i : Nat) : Bool := match ops[i]? with
  | some o => reqB o
  | none => false
theorem len_split {ops : List OpS} : ∀ {l : List Nat}, (∀ i ∈ l, ∃ o, ops[i]? = some o ∧ (reqB o = true ∨ o.kind = 1)) → l.length = (l.filter (reqAt ops)).length + costL ops l
  | [], _ => rfl
  | i :: l, h => by
    have ih := len_split (l := l) fun j hj => h j (List.mem_cons_of_mem i hj)
    obtain ⟨o, ho, hk⟩ := h i (by simp)
    unfold costL at ih ⊢
    rw [List.filter_cons, List.countP_cons, List.length_cons, ih]
    have hr : reqAt ops i = reqB o := by unfold reqAt; rw [ho]
    have hc : costAt ops i = decide (o.ret = 0) := by unfold costAt; rw [ho]
    rw [hr, hc]
    cases hq : reqB o with
    | true =>
      have : o.ret ≠ 0 := by
        simp only [reqB, Bool.and_eq_true, bne_iff_ne, ne_eq] at hq
        exact hq.2
      simp [this]
      omega
    | false =>
      have hk1 : o.kind = 1 := hk.resolve_left (by simp [hq])
      have hret : o.ret = 0 := by simpa [reqB, hk1] using hq
      simp [hret]
      omega
/-- What the search finds where there is an order. -/
theorem finds {N : Int} {ops : List OpS} (hn : ops.length ≤ 10) (hE : OneEf ops) (hv : VT N ops) {t : List Nat} (hnd : t.Nodup) (hk : ∀ i ∈ t, ∃ o, ops[i]? = some o ∧ (reqB o = true ∨ o.kind = 1)) (hm : ∀ (i : Nat) (o : OpS), ops[i]? = some o → reqB o = true → i ∈ t) (hord : t.Pairwise fun (y x : Nat) => preS ops x y = false) (hrun : (runS ops [] (coeL t)).isSome = true) : ∃ s, searchS ops = (coeL s, 0) ∧ replayS ops (coeL s) = 0 ∧ s.length ≤ t.length := by
  have hsub : ∀ {l : List Nat}, l.Nodup → (∀ i ∈ l, i < ops.length) → l.length ≤ ops.length := fun {l} h1 h2 => by
    have hp : l.Perm ((List.range ops.length).filter fun i => decide (i ∈ l)) := (List.perm_ext_iff_of_nodup h1 (List.nodup_range.sublist List.filter_sublist)).2 fun i => by
      rw [List.mem_filter, List.mem_range, decide_eq_true_eq]
      exact ⟨fun h => ⟨h2 i h, h⟩, fun h => h.2⟩
    rw [hp.length_eq]
    exact Nat.le_trans (List.length_filter_le _ _) (by simp)
  have htl : t.length ≤ ops.length := hsub hnd fun i hi => by
    obtain ⟨o, ho, _⟩ := hk i hi
    exact (List.getElem?_eq_some_iff.1 ho).1
  have hct : costL ops t ≤ t.length := List.countP_le_length
  have hcan := can_of hn hv t [] x0 [] (costL ops t) .nil hnd hk (fun i o ho hr => hm i o ho hr) hord hrun (Nat.le_refl _)
  have hd := dfs_complete 11 _ _ _ t hcan (by omega)
  obtain ⟨q, s, hq, hds, hS, _⟩ := dfsS_first (N := ops.length + 1) (by omega) hd
  obtain ⟨x', vs', h1, h2, h3, h4, h5⟩ := dfs_sound hn 11 [] _ _ _ s .nil (LInv.nil ops) hds
  rw [List.nil_append] at h1 h2 h4
  have hms := (compl_of hn h1).1 h3
  have hks : ∀ i ∈ s, ∃ o, ops[i]? = some o ∧ (reqB o = true ∨ o.kind = 1) := fun i hi => by
    have ho := List.getElem?_eq_getElem (h1.rng i hi)
    exact ⟨_, ho, h2.kinds i hi _ ho⟩
  refine ⟨s, ?_, ?_, ?_⟩
  · rw [searchS_dfs hn hE, hS]
  · have hchk : ChkOk ops (coeL s) := by
      refine ⟨fun x hx => ?_, coe_nd h1.nd, fun i o ho hr => coe_mem.2 ⟨i, hms i o ho hr, rfl⟩, fun x hx o ho => ?_, ?_⟩
      · obtain ⟨i, hi, rfl⟩ := coe_mem.1 hx
        have := h1.rng i hi
        simp [inR]
        omega
      · obtain ⟨i, hi, rfl⟩ := coe_mem.1 hx
        have ho' : ops[i]? = some o := by
          unfold opAt at ho
          rw [if_pos (by omega)] at ho
          simpa using ho
        have := h2.kinds i hi o ho'
        unfold penB
        rcases this with h | h
        · simp only [reqB, Bool.and_eq_true, bne_iff_ne, ne_eq] at h
          simp [h.2]
        · simp [h]
      · unfold coeL
        exact List.Pairwise.map _ (fun a b hab => hab) h2.ord
    unfold replayS
    rw [hchk.chk, h5]
    rfl
  · have e1 := len_split hks
    have e2 := len_split hk
    have e3 : ((s.filter (reqAt ops)).length) = (t.filter (reqAt ops)).length := List.Perm.length_eq ((List.perm_ext_iff_of_nodup (h1.nd.sublist List.filter_sublist) (hnd.sublist List.filter_sublist)).2 fun i => by
      rw [List.mem_filter, List.mem_filter]
      refine ⟨fun ⟨_, hr⟩ => ⟨?_, hr⟩, fun ⟨_, hr⟩ => ⟨?_, hr⟩⟩
      · unfold reqAt at hr
        cases ho : ops[i]? with
        | none => rw [ho] at hr; cases hr
        | some o => rw [ho] at hr; exact hm i o ho hr
      · unfold reqAt at hr
        cases ho : ops[i]? with
        | none => rw [ho] at hr; cases hr
        | some o => rw [ho] at hr; exact hms i o ho hr)
    have e4 : costL ops [] = 0 := rfl
    omega
end Go.Proofs.YtphlhadgcfndhaaGreat.Abs
end
section
namespace Go.Proofs.YtphlhadgcfndhaaGreat.Abs
open Go Go.RowKit
set_option linter.unusedVariables false
set_option linter.unusedSimpArgs false
set_option maxHeartbeats 4000000
set_option maxRecDepth 8000
abbrev timSt (l : List Int) (W : List OpS) (i : Nat) : St := ⟨[(0, .c (encis l)), (2, .c (.ptr 0 0 0)), (3, .c (.ptr 1 0 0)), (4, .c (cI i)), (5, .c (cI i))], [(0, ⟨1, [[.sc (.slice none 0 0)]]⟩), (1, ⟨1, [[.ref 2 0 W.length]]⟩), (2, ⟨6, W.map encOp⟩)], 3⟩
theorem times_pure (l : List Int) (hl : l.length < 4000000000000000000) : Pure Tryz.prog 21 [.c (encis l)] (.agg (encHi (timesS l (min 40 l.length)))) := by
  refine pure_of teOk Tryz.func21 (by kernel_rfl) (c := _) rfl (N := 104) rfl (rs := [Go.ResultVar.cell 2 26]) rfl (by simp) fun base A w0 hA => ?_
  refine AW.st teOk [] (by simp [-Option.some.injEq] <;> rfl) trivial ?_
  refine AW.st teOk [] (by simp [-Option.some.injEq] <;> rfl) trivial ?_
  refine AW.to (s2 := ⟨[(0, .c (encis l)), (2, .c (.ptr 0 0 0)), (3, .c (.ptr 1 0 0))], [(0, ⟨1, [[.sc (.slice none 0 0)]]⟩), (1, ⟨1, [[.ref 2 0 0]]⟩), (2, ⟨6, []⟩)], 3⟩) ((Weak.nilO 2 0 6 (q := 1) (cs := [.sc (.slice none 0 0)]) _ (by simp) rfl (by simp)).trans (Weak.normS hA [0, 2, 3] [(2, 0), (3, 1)] [(4, 2)] [2] 3 _ (by simp [putA]) (by simp [putA]) (by simp [putA]))) (by simp [putA]) ?_
  refine AW.st teOk [] (by simp [-Option.some.injEq] <;> rfl) trivial ?_
  refine AW.seq ?_
  refine AW.st teOk [] (by simp [-Option.some.injEq] <;> rfl) trivial ?_
  refine AW.block (AW.loop (fun m s => ∃ i : Nat, m = 40 - i ∧ i ≤ 40 ∧ i ≤ l.length ∧ s = timSt l (timesS l i) i) _ (Weak.normS hA [0, 2, 3, 4, 5] [(2, 0), (3, 1)] [(2, 2)] [1] 3 _ (by simp) (by simp) (by simp)) ⟨0, rfl, by omega, Nat.zero_le _, by simp; exact ⟨rfl, rfl⟩⟩ ?_)
  rintro m s ⟨i, rfl, hi, hil, rfl⟩
  have hfin : i = min 40 l.length → timesS l (min 40 l.length) = timesS l i := fun h => by rw [← h]
  obtain ⟨W, hW⟩ : ∃ W, W = timesS l i := ⟨_, rfl⟩
  rw [← hW] at hfin ⊢
  refine AW.seq ?_
  by_cases h1 : i < l.length
  · by_cases h2 : (i : Int) < 40
    · refine AW.st teOk [] (by simp [h1, h2, -Option.some.injEq] <;> rfl) ?_ ?_
      · trivial
      refine AW.iff true (by simp) (fun _ => AW.skip ?_) (fun h => by cases h)
      obtain ⟨n, hx⟩ : ∃ e, l[i]? = some e := ⟨_, List.getElem?_eq_getElem h1⟩
      have hnx : timesS l (i + 1) = timesE W n (i + 1) := by rw [hW]; show timesE _ (l[i]?.getD 0) _ = _; rw [hx]; rfl
      have hWl : W.length ≤ 40 := by have := (timesS_ok l i).2.2; rw [← hW] at this; omega
      have hwi : IntKind.i64.wrap ((i : Int) + 1) = (i : Int) + 1 := wrap_s i (by omega)
      obtain ⟨d1, d2⟩ := digitP_lt n (b := 6) (by omega) 0
      have hdp := dP n 6 0 (by decide) (by decide)
      have hwp : IntKind.i64.wrap (101 + digitI n 6 0) = 101 + digitI n 6 0 := by rw [IntKind.wrap_i64]; omega
      refine AW.mid (fun s => s = ⟨[(0, .c (encis l)), (2, .c (.ptr 0 0 0)), (3, .c (.ptr 1 0 0)), (4, .c (cI (i + 1 : Nat))), (5, .c (cI i))], [(0, ⟨1, [[.sc (.slice none 0 0)]]⟩), (1, ⟨1, [[.ref 2 0 (timesE W n (i + 1)).length]]⟩), (2, ⟨6, (timesE W n (i + 1)).map encOp⟩)], 3⟩) (AW.block ?_) ?_
      · refine AW.st teOk [] (by simp [hwi, -Option.some.injEq] <;> rfl) trivial ?_
        refine AW.st teOk [.fz (.c (cI (digitI n 6 0)))] (by simp [hx, hwp, -Option.some.injEq] <;> rfl) ?_ ?_
        · exact ⟨h1, hdp⟩
        refine AW.st teOk [] (by simp [-Option.some.injEq] <;> rfl) trivial ?_
        obtain ⟨p, hp⟩ : ∃ p, p = 101 + digitI n 6 0 := ⟨_, rfl⟩
        rw [← hp]
        refine AW.mid (fun s => s = ⟨[(0, .c (encis l)), (2, .c (.ptr 0 0 0)), (3, .c (.ptr 1 0 0)), (4, .c (cI (i + 1 : Nat))), (5, .c (cI i)), (6, .c (cI p)), (7, .c (cI (lastP W p W.length)))], [(0, ⟨1, [[.sc (.slice none 0 0)]]⟩), (1, ⟨1, [[.ref 2 0 W.length]]⟩), (2, ⟨6, W.map encOp⟩)], 3⟩) ?_ ?_
        · refine AW.st teOk [] (by simp [-Option.some.injEq] <;> rfl) trivial ?_
          refine AW.block (AW.loop (fun m s => ∃ k : Nat, m = W.length - k ∧ k ≤ W.length ∧ s = ⟨[(0, .c (encis l)), (2, .c (.ptr 0 0 0)), (3, .c (.ptr 1 0 0)), (4, .c (cI (i + 1 : Nat))), (5, .c (cI i)), (6, .c (cI p)), (7, .c (cI (lastP W p k))), (8, .c (cI k))], [(0, ⟨1, [[.sc (.slice none 0 0)]]⟩), (1, ⟨1, [[.ref 2 0 W.length]]⟩), (2, ⟨6, W.map encOp⟩)], 3⟩) _ (Weak.normS hA [0, 2, 3, 4, 5, 6, 7, 8] [(2, 0), (3, 1)] [(2, 2)] [1] 3 _ (by simp) (by simp) (by simp; exact flatOpsM _)) ⟨0, rfl, Nat.zero_le _, by simp; rfl⟩ ?_)
          rintro m s ⟨k, rfl, hk, rfl⟩
          refine AW.seq ?_
          refine AW.st teOk [] (by simp [-Option.some.injEq] <;> rfl) trivial ?_
          refine AW.iff (decide (k < W.length)) (by simp) (fun h => AW.skip ?_) (fun h => AW.exit (x_then (x_then (blockA_exit ?_))))
          · rw [decide_eq_true_eq] at h
            obtain ⟨q, hq⟩ : ∃ e, W[k]? = some e := ⟨_, List.getElem?_eq_getElem h⟩
            have hlp : lastP W p (k + 1) = if q.p = p then (k : Int) else lastP W p k := by rw [lastP, hq]
            refine AW.seq (AW.block ?_)
            refine AW.st teOk [] (by simp [hq, -Option.some.injEq] <;> rfl) ?_ ?_
            · first | trivial | omega | (simp; omega)
            by_cases hqp : q.p = p
            · refine AW.iff true (by simp [hqp]) (fun _ => ?_) (fun h => by cases h)
              rw [if_pos hqp] at hlp
              refine AW.text teOk (ans := []) (by simp [-Option.some.injEq] <;> rfl) ?_ ?_
              · trivial
              refine AW.text teOk (ans := []) (by simp [-Option.some.injEq] <;> rfl) ?_ ?_
              · trivial
              refine ⟨_, _, Weak.normS hA [0, 2, 3, 4, 5, 6, 7, 8] [(2, 0), (3, 1)] [(2, 2)] [1] 3 _ (by simp) (by simp) (by simp; exact flatOpsM _), ?_, k + 1, rfl, h, ?_⟩
              · omega
              · rw [hlp]
                simp
                exact wrap_s k (by omega)
            · refine AW.iff false (by simp [hqp]) (fun h => by cases h) (fun _ => AW.skip ?_)
              rw [if_neg hqp] at hlp
              refine AW.text teOk (ans := []) (by simp [-Option.some.injEq] <;> rfl) ?_ ?_
              · trivial
              refine ⟨_, _, Weak.normS hA [0, 2, 3, 4, 5, 6, 7, 8] [(2, 0), (3, 1)] [(2, 2)] [1] 3 _ (by simp) (by simp) (by simp; exact flatOpsM _), ?_, k + 1, rfl, h, ?_⟩
              · omega
              · rw [hlp]
                simp
                exact wrap_s k (by omega)
          · rw [decide_eq_false_iff_not] at h
            have : k = W.length := by omega
            subst this
            exact ⟨_, Weak.normS hA [0, 2, 3, 4, 5, 6, 7] [(2, 0), (3, 1)] [(2, 2)] [1] 3 _ (by simp) (by simp) (by simp; exact flatOpsM _), by simp⟩
        rintro s rfl
        obtain ⟨K, hK⟩ : ∃ K, K = lastP W p W.length := ⟨_, rfl⟩
        have hKl := lastP_lt W p W.length
        rw [← hK] at hKl ⊢
        refine AW.mid (fun s => s = ⟨[(0, .c (encis l)), (2, .c (.ptr 0 0 0)), (3, .c (.ptr 1 0 0)), (4, .c (cI (i + 1 : Nat))), (5, .c (cI i)), (6, .c (cI p)), (7, .c (cI (openP W p)))], [(0, ⟨1, [[.sc (.slice none 0 0)]]⟩), (1, ⟨1, [[.ref 2 0 W.length]]⟩), (2, ⟨6, W.map encOp⟩)], 3⟩) ?_ ?_
        · by_cases hK0 : 0 ≤ K
          · have hKr : inR W.length K = true := by simp only [inR, Bool.and_eq_true, decide_eq_true_eq]; omega
            obtain ⟨q, hq1, hq2, _, _⟩ := opAt_some hKr
            have hop : openP W p = if q.ret ≠ 0 then -1 else K := by unfold openP; rw [← hK, hq1]
            have hge : K ≥ 0 := hK0
            cases hz : (q.ret != 0) with
            | true =>
              have hz' : q.ret ≠ 0 := by simpa using hz
              rw [hop, if_pos hz']
              refine AW.st teOk [] (by simp [hge, hq2, hz, -Option.some.injEq] <;> rfl) ?_ ?_
              · first | trivial | omega | (simp; omega)
              refine AW.iff true (by simp) (fun _ => ?_) (fun h => by cases h)
              refine AW.text teOk (ans := []) (by simp [-Option.some.injEq] <;> rfl) ?_ ?_
              · trivial
              exact ⟨_, Weak.normS hA [0, 2, 3, 4, 5, 6, 7] [(2, 0), (3, 1)] [(2, 2)] [1] 3 _ (by simp) (by simp) (by simp; exact flatOpsM _), by simp⟩
            | false =>
              have hz' : ¬ q.ret ≠ 0 := by simpa using hz
              rw [hop, if_neg hz']
              refine AW.st teOk [] (by simp [hge, hq2, hz, -Option.some.injEq] <;> rfl) ?_ ?_
              · first | trivial | omega | (simp; omega)
              refine AW.iff false (by simp) (fun h => by cases h) (fun _ => AW.skip ?_)
              exact ⟨_, Weak.normS hA [0, 2, 3, 4, 5, 6, 7] [(2, 0), (3, 1)] [(2, 2)] [1] 3 _ (by simp) (by simp) (by simp; exact flatOpsM _), by simp⟩
          · have hop : openP W p = K := by unfold openP; rw [← hK]; unfold opAt; rw [if_neg hK0]; show (-1 : Int) = K; omega
            have hge : ¬ K ≥ 0 := hK0
            rw [hop]
            refine AW.st teOk [] (by simp [hge, -Option.some.injEq] <;> rfl) ?_ ?_
            · first | trivial | omega | (simp; omega)
            refine AW.iff false (by simp) (fun h => by cases h) (fun _ => AW.skip ?_)
            exact ⟨_, Weak.normS hA [0, 2, 3, 4, 5, 6, 7] [(2, 0), (3, 1)] [(2, 2)] [1] 3 _ (by simp) (by simp) (by simp; exact flatOpsM _), by simp⟩
        rintro s rfl
        obtain ⟨O, hO⟩ : ∃ O, O = openP W p := ⟨_, rfl⟩
        have hd8 := dP n 8 3 (by decide) (by decide)
        have htE : timesE W n (i + 1) = match opAt W O with
            | some o => if 0 < digitI n 8 3 then W.set O.toNat { o with ret := (i : Int) + 1 } else W ++ [newO n (i + 1)]
            | none => W ++ [newO n (i + 1)] := by rw [hO, hp]; rfl
        rw [← hO]
        by_cases hset : (∃ o, opAt W O = some o) ∧ 0 < digitI n 8 3
        · obtain ⟨⟨o, ho⟩, hdig⟩ := hset
          rw [ho] at htE
          simp only [hdig, if_true] at htE
          have hO0 : O ≥ 0 ∧ W[O.toNat]? = some o := by
            unfold opAt at ho
            split at ho
            · exact ⟨by omega, ho⟩
            · cases ho
          obtain ⟨hge, hoW⟩ := hO0
          have hOl := (List.getElem?_eq_some_iff.1 hoW).1
          have hgt : digitI n 8 3 > 0 := hdig
          have hfl : flatO ⟨6, (W.map encOp).set O.toNat (encOp { o with ret := (i : Int) + 1 })⟩ = true := by rw [← List.map_set]; exact flatOpsM _
          refine AW.seq ?_
          refine AW.st teOk [.fz (.c (cI (digitI n 8 3)))] (by simp [hge, hx, hgt, -Option.some.injEq] <;> rfl) ?_ ?_
          · exact ⟨h1, hd8⟩
          refine AW.iff true (by simp) (fun _ => ?_) (fun h => by cases h)
          refine AW.st teOk [] (by simp [hoW, -Option.some.injEq] <;> rfl) ?_ ?_
          · first | trivial | omega | (simp; omega)
          refine AW.exit (x_then (blockA_exit ?_))
          rw [htE]
          exact ⟨_, Weak.normS hA [0, 2, 3, 4, 5] [(2, 0), (3, 1)] [(2, 2)] [1] 3 _ (by simp) (by simp) (by simp; exact hfl), by simp⟩
        · have hO1 : O ≥ 0 → ∃ o, opAt W O = some o := by
            rw [hO]
            unfold openP
            cases hm : opAt W (lastP W p W.length) with
            | none => intro h; simp at h
            | some o =>
              simp only
              split
              · intro h; omega
              · intro _; exact ⟨o, hm⟩
          have htn : timesE W n (i + 1) = W ++ [newO n (i + 1)] := by
            rw [htE]
            cases ho : opAt W O with
            | none => rfl
            | some o =>
              simp only
              rw [if_neg fun hd => hset ⟨⟨o, ho⟩, hd⟩]
          refine AW.mid (fun s => s = ⟨[(0, .c (encis l)), (2, .c (.ptr 0 0 0)), (3, .c (.ptr 1 0 0)), (4, .c (cI (i + 1 : Nat))), (5, .c (cI i)), (6, .c (cI p))], [(0, ⟨1, [[.sc (.slice none 0 0)]]⟩), (1, ⟨1, [[.ref 2 0 W.length]]⟩), (2, ⟨6, W.map encOp⟩)], 3⟩) ?_ ?_
          · by_cases hge : O ≥ 0
            · have hng : ¬ digitI n 8 3 > 0 := fun h => hset ⟨hO1 hge, h⟩
              refine AW.st teOk [.fz (.c (cI (digitI n 8 3)))] (by simp [hge, hx, hng, -Option.some.injEq] <;> rfl) ?_ ?_
              · exact ⟨h1, hd8⟩
              refine AW.iff false (by simp) (fun h => by cases h) (fun _ => AW.skip ?_)
              exact ⟨_, Weak.normS hA [0, 2, 3, 4, 5, 6] [(2, 0), (3, 1)] [(2, 2)] [1] 3 _ (by simp) (by simp) (by simp; exact flatOpsM _), by simp⟩
            · refine AW.st teOk [] (by simp [hge, -Option.some.injEq] <;> rfl) ?_ ?_
              · first | trivial | omega | (simp; omega)
              refine AW.iff false (by simp) (fun h => by cases h) (fun _ => AW.skip ?_)
              exact ⟨_, Weak.normS hA [0, 2, 3, 4, 5, 6] [(2, 0), (3, 1)] [(2, 2)] [1] 3 _ (by simp) (by simp) (by simp; exact flatOpsM _), by simp⟩
          rintro s rfl
          have hd3 := dP n 3 2 (by decide) (by decide)
          have hd2 := dP n 2 9 (by decide) (by decide)
          have hef := eff_pure n (digitI n 2 9 == 1)
          obtain ⟨k1, k2⟩ := digitP_lt n (b := 3) (by omega) 2
          have hw3 : IntKind.i64.wrap (1 + digitI n 3 2) = 1 + digitI n 3 2 := by rw [IntKind.wrap_i64]; omega
          have hnew : newO n (i + 1) = ⟨p, 1 + digitI n 3 2, if digitI n 3 2 = 0 then [effS n (digitI n 2 9 == 1)] else [], [], i + 1, 0⟩ := by rw [hp]; rfl
          rw [htn, hnew]
          generalize effS n (digitI n 2 9 == 1) = E at *
          refine AW.st teOk [.fz (.c (cI (digitI n 3 2)))] (by simp [hx, hw3, -Option.some.injEq] <;> rfl) ?_ ?_
          · exact ⟨h1, hd3⟩
          refine AW.mid (fun s => s = ⟨[(0, .c (encis l)), (2, .c (.ptr 0 0 0)), (3, .c (.ptr 1 0 0)), (4, .c (cI (i + 1 : Nat))), (5, .c (cI i)), (9, .c (.fad (encOp ⟨p, 1 + digitI n 3 2, if digitI n 3 2 = 0 then [E] else [], [], i + 1, 0⟩)))], [(0, ⟨1, [[.sc (.slice none 0 0)]]⟩), (1, ⟨1, [[.ref 2 0 W.length]]⟩), (2, ⟨6, W.map encOp⟩)], 3⟩) ?_ ?_
          · refine AW.st teOk [] (by simp [-Option.some.injEq] <;> rfl) trivial ?_
            by_cases hk : digitI n 3 2 = 0
            · refine AW.iff true (by simp [hk]) (fun _ => ?_) (fun h => by cases h)
              refine AW.draw mixed teOk (ans := [.c (cI (digitI n 2 9)), .agg (encE' E)]) (by simp [hx, -Option.some.injEq] <;> rfl) (by kernel_rfl) (by kernel_rfl) ?_ ?_
              · simp [allP]
                exact ⟨h1, hd2, hef⟩
              exact ⟨_, (Weak.leO 11 _ (o := ⟨6, [[cI p, cI (1 + digitI n 3 2), .row 5 true [encE' E], .sc (.slice none 0 0), cI ((i : Int) + 1), cI 0]]⟩) (o' := ⟨6, [encOp ⟨p, 1 + digitI n 3 2, if digitI n 3 2 = 0 then [E] else [], [], (i : Int) + 1, 0⟩]⟩) (by simp) rfl rfl (leCs_mid (a := []) (b := []) (by rw [if_pos hk]; exact .cons (.refl _) (.cons (.refl _) (.cons (LeC.loose 5 true _) (.cons (.nil 10) (.cons (.refl _) (.cons (.refl _) .nil)))))))).trans ((Weak.freeze 11 ⟨6, [encOp ⟨p, 1 + digitI n 3 2, if digitI n 3 2 = 0 then [E] else [], [], (i : Int) + 1, 0⟩]⟩ [] _ (by simp) rfl).trans (Weak.normS hA [0, 2, 3, 4, 5, 9] [(2, 0), (3, 1)] [(2, 2)] [1] 3 _ (by simp) (by simp) (by simp [mapAt_nil]; exact flatOpsM _))), by simp [mapAt_nil]⟩
            · refine AW.iff false (by simp; omega) (fun h => by cases h) (fun _ => AW.skip ?_)
              exact ⟨_, (Weak.leO 11 _ (o := ⟨6, [[cI p, cI (1 + digitI n 3 2), .sc (.slice none 0 0), .sc (.slice none 0 0), cI ((i : Int) + 1), cI 0]]⟩) (o' := ⟨6, [encOp ⟨p, 1 + digitI n 3 2, if digitI n 3 2 = 0 then [E] else [], [], (i : Int) + 1, 0⟩]⟩) (by simp) rfl rfl (leCs_mid (a := []) (b := []) (by rw [if_neg hk]; exact .cons (.refl _) (.cons (.refl _) (.cons (.nil 5) (.cons (.nil 10) (.cons (.refl _) (.cons (.refl _) .nil)))))))).trans ((Weak.freeze 11 ⟨6, [encOp ⟨p, 1 + digitI n 3 2, if digitI n 3 2 = 0 then [E] else [], [], (i : Int) + 1, 0⟩]⟩ [] _ (by simp) rfl).trans (Weak.normS hA [0, 2, 3, 4, 5, 9] [(2, 0), (3, 1)] [(2, 2)] [1] 3 _ (by simp) (by simp) (by simp [mapAt_nil]; exact flatOpsM _))), by simp [mapAt_nil]⟩
          rintro s rfl
          obtain ⟨oN, hoN⟩ : ∃ o : OpS, o = ⟨p, 1 + digitI n 3 2, if digitI n 3 2 = 0 then [E] else [], [], (i : Int) + 1, 0⟩ := ⟨_, rfl⟩
          rw [← hoN]
          refine AW.text teOk (ans := []) (by simp [-Option.some.injEq] <;> rfl) ?_ ?_
          · simp [growOk]
            omega
          exact ⟨_, Weak.normS hA [0, 2, 3, 4, 5] [(2, 0), (3, 1)] [(7, 2)] [1] 3 _ (by simp) (by simp) (by simp; exact flatOpsM _), by simp⟩
      rintro s rfl
      refine AW.text teOk (ans := []) (by simp [-Option.some.injEq] <;> rfl) ?_ ?_
      · trivial
      refine ⟨_, _, Weak.normS hA [0, 2, 3, 4, 5] [(2, 0), (3, 1)] [(2, 2)] [1] 3 _ (by simp) (by simp) (by simp; exact flatOpsM _), ?_, i + 1, rfl, by omega, by omega, ?_⟩
      · omega
      · rw [hnx]
        simp [hwi]
    · rw [hfin (by omega)]
      refine AW.st teOk [] (by simp [h1, h2, -Option.some.injEq] <;> rfl) ?_ ?_
      · trivial
      refine AW.iff false (by simp) (fun h => by cases h) (fun _ => AW.exit (x_then (x_then (blockA_exit ?_))))
      refine AW.st teOk [] (by simp [-Option.some.injEq] <;> rfl) ?_ ?_
      · trivial
      refine AW.ret ⟨.inr rfl, _, Weak.freeze 2 ⟨6, W.map encOp⟩ [0, 1] _ (by simp) (flatOpsM W), ?_⟩
      simp
  · rw [hfin (by omega)]
    refine AW.st teOk [] (by simp [h1, -Option.some.injEq] <;> rfl) ?_ ?_
    · trivial
    refine AW.iff false (by simp) (fun h => by cases h) (fun _ => AW.exit (x_then (x_then (blockA_exit ?_))))
    refine AW.st teOk [] (by simp [-Option.some.injEq] <;> rfl) ?_ ?_
    · trivial
    refine AW.ret ⟨.inr rfl, _, Weak.freeze 2 ⟨6, W.map encOp⟩ [0, 1] _ (by simp) (flatOpsM W), ?_⟩
    simp
end Go.Proofs.YtphlhadgcfndhaaGreat.Abs
end
