/- linear.Step. -/
import Derived.Test.YtphlhadgcfndhaaWNfmJd
namespace Go.Proofs.Ytphlhadgcfndhaa.Abs
open Go Go.RowKit
set_option linter.unusedVariables false
set_option linter.unusedSimpArgs false
set_option maxHeartbeats 4000000
structure OpS where
  p : Int
  kind : Int
  ef : List EfS
  res : List HV
  call : Int
  ret : Int
@[simp] def encOp (o : OpS) : List Cell := [cI o.p, cI o.kind, .row 5 false (o.ef.map encE'), .row 10 false (o.res.map encH), cI o.call, cI o.ret]
def stepV (vs : List HV) (o : OpS) : List HV := if o.kind = 1 then o.ef.foldl applyV vs else vs
def okV (vs : List HV) (o : OpS) : Bool := if o.kind = 2 then sameL vs o.res else true
/-! ### all is only read from here on -/
def encP (S : Nat → Bool) (x : OV) : List Cell := encX (x.1, match x.2 with
  | none => .row 1 true []
  | some id => if S id = true then .row 1 false (x.1.el.map encs) else .ref id 0 x.1.el.length)
theorem encP_0 (W : List OV) : W.map (encP fun _ => false) = W.map encO := List.map_congr_left fun x _ => by
  obtain ⟨v, own⟩ := x
  cases own <;> rfl
theorem encP_flat {S : Nat → Bool} {W : List OV} (h : ∀ x ∈ W, ∀ id, x.2 = some id → S id = true) : flatO ⟨10, W.map (encP S)⟩ = true := flatO_of fun e he => by
  obtain ⟨x, hx, rfl⟩ := List.mem_map.1 he
  obtain ⟨v, own⟩ := x
  cases own with
  | none => rfl
  | some id => simp [encP, h _ hx id rfl]
section
variable {A : Old} {τ : Tau} {fr : Nat}
theorem Weak.frzFam (hτ : ∀ id o, id < 5000000 → mapS (frzV id o) τ = τ) {W : List OV} : ∀ (ids : List Nat) (S : Nat → Bool) (F : Sig), ids.Nodup → Low 5000000 F → (∀ i o, look i F = some o → flatO o = true) → (∀ id ∈ ids, ∀ x ∈ W, x.2 = some id → look id F = some ⟨1, x.1.el.map encs⟩) → (∀ id ∈ ids, (look id F).isSome = true) →
    ∃ F', Low 5000000 F' ∧ Weak A ⟨τ, (5000000, ⟨10, W.map (encP S)⟩) :: F, fr⟩ ⟨τ, (5000000, ⟨10, W.map (encP fun i => S i || ids.contains i)⟩) :: F', fr⟩
  | [], S, F, _, hl, _, _, _ => ⟨F, hl, by simp; exact Weak.refl _⟩
  | id :: ids, S, F, hn, hl, hf, hw, hs => by
    rw [List.nodup_cons] at hn
    obtain ⟨o, ho⟩ := Option.isSome_iff_exists.1 (hs id (by simp))
    have hid : id < 5000000 := hl id (by rw [ho]; rfl)
    have hl2 : Low 5000000 (drop id F) := fun i hi => by
      rw [look_drop] at hi
      split at hi
      · cases hi
      · exact hl i hi
    obtain ⟨F', h1, h2⟩ := Weak.frzFam hτ (W := W) ids (fun i => S i || i == id) (drop id F) hn.2 hl2 (fun i o hi => by
      rw [look_drop] at hi
      split at hi
      · cases hi
      · exact hf i o hi) (fun j hj x hx hxj => by
      rw [look_drop, if_neg (fun e : j = id => hn.1 (e ▸ hj))]
      exact hw j (by simp [hj]) x hx hxj) (fun j hj => by
      rw [look_drop, if_neg (fun e : j = id => hn.1 (e ▸ hj))]
      exact hs j (by simp [hj]))
    refine ⟨F', h1, ?_⟩
    have e1 : (fun i => (S i || i == id) || ids.contains i) = fun i => S i || (id :: ids).contains i := by
      funext i
      rw [List.contains_cons, Bool.or_assoc]
    rw [e1] at h2
    refine Weak.trans ?_ h2
    have hfz := Weak.freeze (A := A) id o [5000000] ⟨τ, (5000000, ⟨10, W.map (encP S)⟩) :: F, fr⟩ (by rw [look, if_neg (by omega)]; exact ho) (hf id o ho)
    have e2 : Abs.freeze id o [5000000] ⟨τ, (5000000, ⟨10, W.map (encP S)⟩) :: F, fr⟩ = ⟨τ, (5000000, ⟨10, W.map (encP fun i => S i || i == id)⟩) :: drop id F, fr⟩ := by
      unfold Abs.freeze
      simp only
      rw [hτ id o hid, drop, if_neg (by omega), mapAt, mapAt_low _ (by decide) hl2]
      simp only [List.contains_cons, beq_self_eq_true, Bool.true_or, if_true]
      congr 2
      unfold frzO
      simp only
      rw [List.map_map]
      congr 2
      refine List.map_congr_left fun x hx => ?_
      obtain ⟨v, own⟩ := x
      cases own with
      | none => rfl
      | some j =>
        by_cases hj : j = id
        · subst hj
          have := hw j (by simp) _ hx rfl
          rw [ho] at this
          cases this
          cases hS : S j <;> simp [encP, hS, frzC]
        · have hb : (j == id) = false := beq_eq_false_iff_ne.2 hj
          cases hS : S j <;> simp [encP, hS, frzC, hj, hb]
    rw [e2] at hfz
    exact hfz
theorem Weak.frzAll {N : Nat} {W : List OV} {F : Sig} (hτ : ∀ id o, id < 5000000 → mapS (frzV id o) τ = τ) (h : Fam N W F) (hN : N ≤ 5000000) : ∃ F', Low 5000000 F' ∧ Weak A ⟨τ, (5000000, ⟨10, W.map encO⟩) :: F, fr⟩ ⟨mapS (frzV 5000000 ⟨10, (W.map Prod.fst).map encH⟩) τ, F', fr⟩ := by
  obtain ⟨F', h1, h2⟩ := Weak.frzFam (A := A) (τ := τ) (fr := fr) hτ (W := W) (W.filterMap Prod.snd) (fun _ => false) F h.nd (h.low.le hN) h.flat (fun id hid x hx hxi => (h.own x hx id hxi).2) (fun id hid => by
    obtain ⟨x, hx, hxi⟩ := List.mem_filterMap.1 hid
    rw [(h.own x hx id hxi).2]
    rfl)
  rw [encP_0] at h2
  refine ⟨F', h1, h2.trans ((Weak.leO 5000000 _ (o := ⟨10, W.map (encP fun i => (fun _ => false) i || (W.filterMap Prod.snd).contains i)⟩) (o' := ⟨10, (W.map Prod.fst).map encH⟩) (by rw [look, if_pos rfl]) rfl (by simp) (fun i e e' he he' => ?_)).trans ?_)⟩
  · rw [List.getElem?_map] at he
    rw [List.getElem?_map, List.getElem?_map] at he'
    cases hx : W[i]? with
    | none => rw [hx] at he; cases he
    | some x =>
      rw [hx] at he he'
      cases he
      cases he'
      have hxm := List.mem_of_getElem? hx
      obtain ⟨v, own⟩ := x
      have hc : LeC (match (v, own).2 with
          | none => .row 1 true []
          | some id => if ((fun _ => false) id || (W.filterMap Prod.snd).contains id) = true then .row 1 false (v.el.map encs) else .ref id 0 v.el.length) (.row 1 false (v.el.map encs)) := by
        cases own with
        | none =>
          have : v.el = [] := h.emp _ hxm rfl
          rw [this]
          exact LeC.loose 1 true []
        | some id =>
          have : (W.filterMap Prod.snd).contains id = true := by
            rw [List.contains_iff_mem]
            exact List.mem_filterMap.2 ⟨_, hxm, rfl⟩
          simp only [this, Bool.or_true, if_true]
          exact .refl _
      exact .cons (.refl _) (.cons (.refl _) (.cons (.refl _) (.cons (.refl _) (.cons (.refl _) (.cons (.refl _) (.cons (.refl _) (.cons (.refl _) (.cons hc (.cons (.refl _) .nil)))))))))
  · have hp : putA 5000000 (⟨10, (W.map Prod.fst).map encH⟩ : AObj) ((5000000, ⟨10, W.map (encP fun i => (fun _ => false) i || (W.filterMap Prod.snd).contains i)⟩) :: F') = (5000000, ⟨10, (W.map Prod.fst).map encH⟩) :: F' := by
      rw [putA, drop, if_pos rfl, drop_low h1 5000000 (Nat.le_refl _)]
    rw [hp]
    have hfz := Weak.freeze (A := A) 5000000 ⟨10, (W.map Prod.fst).map encH⟩ [] ⟨τ, (5000000, ⟨10, (W.map Prod.fst).map encH⟩) :: F', fr⟩ (by rw [look, if_pos rfl]) (flat_encH _)
    have e2 : Abs.freeze 5000000 ⟨10, (W.map Prod.fst).map encH⟩ [] ⟨τ, (5000000, ⟨10, (W.map Prod.fst).map encH⟩) :: F', fr⟩ = ⟨mapS (frzV 5000000 ⟨10, (W.map Prod.fst).map encH⟩) τ, F', fr⟩ := by
      unfold Abs.freeze
      simp only
      rw [mapAt_nil, drop, if_pos rfl, drop_low h1 5000000 (Nat.le_refl _)]
    rw [e2] at hfz
    exact hfz
end
theorem hiS_hi : ∀ {F : Sig}, (∀ i, (look i F).isSome = true → LIM ≤ i) → hiS F = F ∧ loS F = []
  | [], _ => ⟨rfl, rfl⟩
  | (t, o) :: r, h => by
    have ht := h t (by simp [look])
    have hr := hiS_hi (F := r) fun i hi => h i (by
      rw [look]
      split
      · rfl
      · exact hi)
    rw [hiS, loS, if_neg (by omega), if_neg (by omega), hr.1, hr.2]
    exact ⟨rfl, rfl⟩
theorem Weak.name2 {A : Old} (hA : A.lim = 0) {B : Nat} (hB : B < 5000000) (ks : List Nat) {τ : Tau} {O : AObj} {X : Sig} {fr : Nat} (hX : ∀ i o, look i X = some o → flatO o = true) :
    Weak A ⟨τ, (5000100, O) :: X, fr⟩ ⟨mapS (rnV B [(5000100, 5000000), (5000101, B)]) (keepT ks τ), rnS B [(5000100, 5000000), (5000101, B)] [5000100] ((5000100, O) :: X), 5000002⟩ := by
  refine (Weak.keep ks _).trans (Weak.tidy B _ [5000100] 5000002 ⟨keepT ks τ, (5000100, O) :: X, fr⟩ ?_)
  rw [hA]
  refine ⟨fun p hp => ?_, ⟨by omega, by omega⟩, by simp; omega, fun j hj hj2 => by omega, fun i o hl hi hne e he c hc => ?_⟩
  · simp only [List.mem_cons, List.not_mem_nil, or_false] at hp
    rcases hp with rfl | rfl <;> simp only <;> omega
  · have hl' : look i X = some o := by
      have : i ≠ 5000100 := fun e => by subst e; simp at hi
      have hl : look i ((5000100, O) :: X) = some o := hl
      rwa [look, if_neg this] at hl
    have := flat_refs (B := 0) (hX i o hl') e he c hc
    cases c <;> first | trivial | exact absurd this (Nat.not_lt_zero _)
theorem rn_apply {B : Nat} {W : List OV} {F : Sig} (h : Fam B W F) (hB : B < 5000000) (e : EfS) : ((applyO 5000101 W e).map encO).map (fun x => x.map (rnC B [(5000100, 5000000), (5000101, B)])) = (applyO B W e).map encO := by
  obtain ⟨x, hx, _, _⟩ := place_get W e.k
  have e1 : ∀ n, applyO n W e = (placeO W e.k).set (posH (W.map Prod.fst) e.k) (updO n x e) := fun n => by unfold applyO setAt; rw [hx]
  rw [e1, e1, List.map_set, List.map_set, List.map_set, rn_own (B := B) (h.place e.k).ownLt (Nat.le_refl _)]
  congr 1
  unfold updO
  have hxP := List.mem_of_getElem? hx
  have hown := (h.place e.k).ownLt x hxP
  obtain ⟨v, own⟩ := x
  cases hn : newEl (v, own) e with
  | true =>
    have e2 : ¬ 5000101 < B := by omega
    simp [e2]
  | false =>
    cases own with
    | none => simp
    | some id =>
      have hlt : id < B := hown id rfl
      simp [hlt]
theorem rn_fam {B : Nat} {W : List OV} {F : Sig} (h : Fam B W F) (hB : B < 5000000) (e : EfS) : rnS B [(5000100, 5000000), (5000101, B)] [5000100] (famO 5000101 W F e) = famO B W F e := by
  obtain ⟨x, hx, _, _⟩ := place_get W e.k
  have hids : (([5000100] : List Nat).all fun i => decide (B ≤ i)) = true := by simp; omega
  have hF := rnS_lowB (ρ := [(5000100, 5000000), (5000101, B)]) hids h.low
  have hFd : ∀ id, rnS B [(5000100, 5000000), (5000101, B)] [5000100] (drop id F) = drop id F := fun id => rnS_lowB hids fun i hi => by
    rw [look_drop] at hi
    split at hi
    · cases hi
    · exact h.low i hi
  have e2 : ¬ 5000101 < B := by omega
  unfold famO
  simp only [hx]
  obtain ⟨v, own⟩ := x
  cases newEl (v, own) e with
  | false => simpa using hF
  | true =>
    cases own with
    | none => simp [rnS, rnI, e2, look, hF]
    | some id => simp [rnS, rnI, e2, look, hFd]
theorem famO_flat {n : Nat} {W : List OV} {F : Sig} (h : ∀ i o, look i F = some o → flatO o = true) (e : EfS) : ∀ i o, look i (famO n W F e) = some o → flatO o = true := fun i o ho => by
  unfold famO at ho
  split at ho
  · exact h i o ho
  · split at ho
    · rw [look] at ho
      split at ho
      · cases ho; exact flat_encs _
      · split at ho
        · exact h i o ho
        · rw [look_drop] at ho
          split at ho
          · cases ho
          · exact h i o ho
    · exact h i o ho
theorem Fam.le {N M : Nat} {W : List OV} {F : Sig} (h : Fam N W F) (hNM : N ≤ M) : Fam M W F := ⟨h.emp, h.own, h.nd, fun i hi => by have := h.keys i hi; omega, h.flat⟩
theorem Weak.setK {A : Old} (hA : A.lim = 0) {τ : Tau} {N fr : Nat} {W : List OV} {F : Sig} (h : Fam N W F) (hN : N ≤ 5000000) (ks : List Nat) (K : Nat) (hK : 5000001 ≤ K) :
    Weak A ⟨τ, (5000000, ⟨10, W.map encO⟩) :: F, fr⟩ ⟨mapS (rnV 5000001 []) (keepT ks τ), (5000000, ⟨10, W.map encO⟩) :: F, K⟩ := by
  have hl : Low 5000001 F := h.low.le (by omega)
  have e : rnS 5000001 [] [] ((5000000, (⟨10, W.map encO⟩ : AObj)) :: F) = (5000000, ⟨10, W.map encO⟩) :: F := by
    rw [rnS, rnI, if_pos (by omega)]
    simp only [List.contains_nil, Bool.false_eq_true, if_false]
    rw [rnS_lowB rfl hl]
  have := Weak.tidy (A := A) 5000001 [] [] K ⟨keepT ks τ, (5000000, ⟨10, W.map encO⟩) :: F, fr⟩ (by
    rw [hA]
    refine ⟨(fun p hp => by cases hp), ⟨hK, Nat.zero_le _⟩, List.nodup_nil, (fun j hj hj2 => by omega), fun i o hl hi hne e he c hc => ?_⟩
    have hr : refLt 5000000 c := by
      by_cases hi : i = 5000000
      · subst hi
        have hl : look 5000000 ((5000000, (⟨10, W.map encO⟩ : AObj)) :: F) = some o := hl
        rw [look, if_pos rfl] at hl
        cases hl
        exact refs_le (encO_refs h) hN e he c hc
      · have hl : look i ((5000000, (⟨10, W.map encO⟩ : AObj)) :: F) = some o := hl
        rw [look, if_neg hi] at hl
        exact flat_refs (h.flat i o hl) e he c hc
    have low : ∀ id, id < 5000000 → rnI 5000001 [] id = some id := fun id h => by rw [rnI, if_pos (by omega)]
    cases c with
    | ref id lo q => exact .inl (low _ hr)
    | ptr id i off => exact .inl (low _ hr)
    | any => exact True.intro
    | sc => exact True.intro
    | row => exact True.intro
    | fad => exact True.intro
    | fn => exact True.intro
    | bit => exact True.intro)
  simp only [Abs.tidy, e] at this
  exact (Weak.keep ks _).trans this
theorem fold_ok : ∀ (l : List EfS) {N : Nat} {vs : List HV}, AscH vs → ElOk N vs → AscH (l.foldl applyV vs) ∧ ElOk (N + l.length) (l.foldl applyV vs) ∧ (l.foldl applyV vs).length ≤ vs.length + l.length
  | [], N, vs, h1, h2 => ⟨h1, h2, Nat.le_refl _⟩
  | e :: l, N, vs, h1, h2 => by
    obtain ⟨g1, g2, g3⟩ := fold_ok l (applyV_asc h1 e) (applyV_el h2 e)
    have := applyV_len vs e
    refine ⟨g1, ?_, ?_⟩
    · rw [List.length_cons, show N + (l.length + 1) = N + 1 + l.length by omega]
      exact g2
    · rw [List.foldl_cons, List.length_cons]
      omega
theorem applyO_len (n m : Nat) (W : List OV) (e : EfS) : (applyO n W e).length = (applyO m W e).length := by
  unfold applyO
  rw [setAt_len, setAt_len]
theorem step_pure (vs : List HV) (o : OpS) (hv : AscH vs) (hel : ElOk 100000 vs) (hl : vs.length < 100000) (hef : o.ef.length < 100000) : Pure Try.prog 9 [.c (encHs vs), .agg (encOp o)] (.tup [.c (encHs (stepV vs o)), .c (cB (okV vs o))]) := by
  refine pure_of teOk Try.func9 (by kernel_rfl) (c := _) rfl (N := 34) rfl (rs := [Go.ResultVar.tmp 4, Go.ResultVar.tmp 5]) rfl (by simp) fun base A w0 hA => ?_
  refine AW.st teOk [] (by simp [-Option.some.injEq] <;> rfl) trivial ?_
  refine AW.to (s2 := ⟨[(0, .c (encHs vs)), (3, .c (.fad (encOp o))), (4, .c (.sc (.slice none 0 0))), (5, .c (cB false))], [], 999999⟩) ((Weak.freeze 0 ⟨6, [encOp o]⟩ [] _ (by simp) rfl).trans (Weak.normT hA [0, 3, 4, 5] [] [] 999999 _ (by simp) (by simp) (by simp [mapAt_nil]))) (by simp [mapAt_nil]) ?_
  refine AW.st teOk [.own (.c (.ref 5000000 0 vs.length)) ((5000000, ⟨10, (clW vs).map encO⟩) :: clF vs) 5000001] (by simp [-Option.some.injEq] <;> rfl) ?_ ?_
  · simpa using clone_con vs (by omega) (fun v hv' => by have := (hel v hv').2; omega)
  have hfam0 := cl_fam vs
  have hWf := clW_fst vs
  have hWl := clW_len vs
  generalize clW vs = W0 at *
  generalize clF vs = F0 at *
  have hN0 : LIM + vs.length ≤ 5000000 := by show 1000000 + vs.length ≤ 5000000; omega
  have hfτ : ∀ id o', id < 5000000 → mapS (frzV id o') [(3, AVal.c (.fad (encOp o))), (6, .c (.ref 5000000 0 vs.length))] = [(3, AVal.c (.fad (encOp o))), (6, .c (.ref 5000000 0 vs.length))] := fun id o' hid => by
    have : ¬ 5000000 = id := by omega
    simp [this]
  refine AW.mid (fun s => o.kind ≠ 2 ∧ ∃ F', s = ⟨[(6, .c (encHs (stepV vs o)))], F', 5000002⟩) ?_ ?_
  · refine AW.st teOk [] (by simp [-Option.some.injEq] <;> rfl) trivial ?_
    refine AW.block ?_
    refine AW.st teOk [] (by simp [-Option.some.injEq] <;> rfl) trivial ?_
    refine AW.iff (o.kind == 1) (by simp) (fun h1 => ?_) (fun h1 => ?_)
    · have k1 : o.kind = 1 := by simpa using h1
      have hst : stepV vs o = o.ef.foldl applyV vs := if_pos k1
      have k2 : o.kind ≠ 2 := by omega
      obtain ⟨es, hes⟩ : ∃ es, es = o.ef := ⟨_, rfl⟩
      rw [← hes] at hst hef
      refine AW.st teOk [] (by simp [-Option.some.injEq] <;> rfl) trivial ?_
      refine AW.block (AW.loop (fun m s => ∃ (i cnt : Nat) (W : List OV) (F : Sig), m = es.length - i ∧ i ≤ es.length ∧ cnt = 1000000 + vs.length + i ∧ Fam cnt W F ∧ W.map Prod.fst = (es.take i).foldl applyV vs ∧ s = ⟨[(6, .c (.ref 5000000 0 W.length)), (16, .c (.row 5 false (es.map encE'))), (17, .c (cI es.length)), (18, .c (cI i))], (5000000, ⟨10, W.map encO⟩) :: F, 5000002⟩) _ (Weak.setK hA hfam0 hN0 [6, 16, 17, 18] 5000002 (by omega)) ⟨0, 1000000 + vs.length, W0, F0, rfl, Nat.zero_le _, rfl, hfam0, by simpa using hWf, by simp [hWl, hes]⟩ ?_)
      rintro m s ⟨i, cnt, W, F, rfl, hi, hcnt, hfam, hWv, rfl⟩
      have hcl : cnt < 5000000 := by omega
      refine AW.st teOk [] (by simp [-Option.some.injEq] <;> rfl) trivial ?_
      refine AW.seq ?_
      refine AW.iff (decide (i < es.length)) (by simp) (fun h => AW.skip ?_) (fun h => AW.exit (x_then (x_then (blockA_exit ?_))))
      · rw [decide_eq_true_eq] at h
        obtain ⟨e, he⟩ : ∃ e, es[i]? = some e := ⟨_, List.getElem?_eq_getElem h⟩
        refine AW.seq (AW.block ?_)
        refine AW.st teOk [] (by simp [he, -Option.some.injEq] <;> rfl) ?_ ?_
        · omega
        have hFl : Low 5000000 F := hfam.low.le (by omega)
        have hdF : ∀ k, 5000000 ≤ k → drop k F = F := fun k hk => drop_low hFl k hk
        obtain ⟨hhi, hlo⟩ := hiS_hi (fun j hj => (hfam.keys j hj).1)
        obtain ⟨f1, f2, f3⟩ := fold_ok (es.take i) hv hel
        rw [← hWv] at f1 f2 f3
        have hti : (es.take i).length = i := by rw [List.length_take]; omega
        rw [hti] at f2 f3
        rw [List.length_map] at f3
        refine AW.to (s2 := ⟨[(8, .c (.fad (encE' e))), (6, .c (.ref 5000000 0 W.length)), (16, .c (.row 5 false (es.map encE'))), (17, .c (cI es.length)), (18, .c (cI i))], (5000000, ⟨10, W.map encO⟩) :: F, 5000007⟩) ((Weak.keep [8, 6, 16, 17, 18] _).trans (Weak.freeze 5000005 ⟨5, [encE' e]⟩ [] _ (by simp) rfl)) (by simp [hdF, mapAt_nil]) ?_
        refine AW.to (s2 := ⟨[(8, .c (.fad (encE' e))), (6, .c (.ref 5000000 0 W.length)), (16, .c (.row 5 false (es.map encE'))), (17, .c (cI es.length)), (18, .c (cI i))], (5000000, ⟨10, W.map encO⟩) :: F, 5000018⟩) (Weak.setK hA hfam (by omega) [8, 6, 16, 17, 18] 5000018 (by omega)) (by simp) ?_
        refine AW.text teOk (ans := [.own (.c (.ref 5000100 0 (applyO 5000101 W e).length)) ((5000100, ⟨10, (applyO 5000101 W e).map encO⟩) :: famO 5000101 W F e) 5000102]) (by simp [hhi, hlo, -Option.some.injEq] <;> rfl) ?_ ?_
        · have hc := apply_con W F (hfam.le (by omega)) e f1 (fun x hx => by
            have := f2 x.1 (List.mem_map.2 ⟨x, hx, rfl⟩)
            exact ⟨this.1, by omega⟩) (by omega)
          simpa [hhi] using hc
        refine AW.text teOk (ans := []) (by simp [-Option.some.injEq] <;> rfl) ?_ ?_
        · trivial
        refine ⟨_, _, Weak.name2 hA hcl [6, 16, 17, 18] (famO_flat hfam.flat e), ?_, i + 1, cnt + 1, applyO cnt W e, famO cnt W F e, rfl, h, by omega, hfam.apply (by show 1000000 ≤ cnt; omega) e, ?_, ?_⟩
        · omega
        · rw [applyO_fst, hWv, List.take_add_one, he]
          simp
        · have hb1 : ¬ 5000100 < cnt := by omega
          have r1 := rn_apply hfam hcl e
          have r2 := rn_fam hfam hcl e
          simp only [rnS, rnI, if_neg hb1, look, if_true, List.contains_cons, beq_self_eq_true, Bool.true_or, rnO, r1, r2]
          simp [hb1, applyO_len 5000101 cnt W e]
          exact wrap_s i (by omega)
      · rw [decide_eq_false_iff_not] at h
        have hi2 : i = es.length := by omega
        rw [hi2, List.take_length] at hWv
        have hfτ2 : ∀ id o', id < 5000000 → mapS (frzV id o') [(6, AVal.c (.ref 5000000 0 W.length))] = [(6, .c (.ref 5000000 0 W.length))] := fun id o' hid => by
          have : ¬ 5000000 = id := by omega
          simp [this]
        obtain ⟨F', _, hw⟩ := Weak.frzAll (A := A) (fr := 5000002) hfτ2 hfam (by omega)
        have hl2 : W.length = (es.foldl applyV vs).length := by rw [← hWv, List.length_map]
        rw [hWv] at hw
        refine ⟨_, (Weak.setK hA hfam (by omega) [6] 5000002 (by omega)).trans (Weak.to (by simp) hw), k2, F', ?_⟩
        rw [hst]
        simp [hl2]
    · have k1 : o.kind ≠ 1 := by simpa using h1
      have hst : stepV vs o = vs := if_neg k1
      refine AW.st teOk [] (by simp [-Option.some.injEq] <;> rfl) trivial ?_
      refine AW.iff (o.kind == 2) (by simp) (fun h2 => ?_) (fun h2 => AW.skip ?_)
      · have k2 : o.kind = 2 := by simpa using h2
        refine AW.to (s2 := ⟨[(3, .c (.fad (encOp o))), (6, .c (.ref 5000000 0 vs.length))], (5000000, ⟨10, W0.map encO⟩) :: F0, 5000002⟩) (Weak.setK hA hfam0 hN0 [3, 6] 5000002 (by omega)) (by simp) ?_
        obtain ⟨F', _, hw⟩ := Weak.frzAll (A := A) (fr := 5000002) hfτ hfam0 hN0
        rw [hWf] at hw
        refine AW.to (s2 := ⟨[(3, .c (.fad (encOp o))), (6, .c (encHs vs))], F', 5000002⟩) hw (by simp) ?_
        refine AW.st teOk [.fz (.c (cB (sameL vs o.res)))] (by simp [-Option.some.injEq] <;> rfl) ?_ ?_
        · exact sameVs_pure false false vs o.res (by omega) (fun v hv' => by have := (hel v hv').2; omega)
        refine AW.ret ⟨.inr rfl, _, Weak.refl _, ?_⟩
        simp [hst, okV, k2]
      · have k2 : o.kind ≠ 2 := by simpa using h2
        obtain ⟨F', _, hw⟩ := Weak.frzAll (A := A) (fr := 5000002) hfτ hfam0 hN0
        rw [hWf] at hw
        refine ⟨_, (Weak.setK hA hfam0 hN0 [3, 6] 5000002 (by omega)).trans (Weak.to (by simp) (hw.trans (Weak.keep [6] _))), k2, F', by simp [hst]⟩
  · rintro s ⟨k2, F', rfl⟩
    refine AW.st teOk [] (by simp [-Option.some.injEq] <;> rfl) trivial ?_
    refine AW.ret ⟨.inr rfl, _, Weak.refl _, ?_⟩
    simp [okV, k2]
end Go.Proofs.Ytphlhadgcfndhaa.Abs
