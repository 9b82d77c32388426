/- linear.apply. -/
import Derived.Test.YtphlhadgcfndhaaGreatJd3
namespace Go.Proofs.YtphlhadgcfndhaaGreat.Abs
open Go Go.RowKit
set_option linter.unusedVariables false
set_option linter.unusedSimpArgs false
set_option maxHeartbeats 4000000
def insL (l : List Str) (s : Str) : List Str := if hasS l s = true then l else l.take (posS l s) ++ s :: l.drop (posS l s)
def updV (v : HV) (e : EfS) : HV :=
  if e.kind = 1 then { v with set := true, n := e.n, s := e.s }
  else if e.kind = 2 then (if v.hm = false ∨ v.mx < e.n then { v with hm := true, mx := e.n } else v)
  else if e.kind = 3 then { v with sum := IntKind.i64.wrap (v.sum + e.n) }
  else if e.kind = 4 then { v with el := insL v.el e.s }
  else if e.kind = 5 then { v with fl := true } else v
def zeroV (k : Ky) : HV := ⟨k.1, k.2, false, 0, { data := #[] }, false, 0, 0, [], false⟩
def placeV (vs : List HV) (k : Ky) : List HV := if hasH vs k = true then vs else vs.take (posH vs k) ++ zeroV k :: vs.drop (posH vs k)
def setAt {α : Type} (f : α → α) (l : List α) (p : Nat) : List α := match l[p]? with
  | some x => l.set p (f x)
  | none => l
def applyV (vs : List HV) (e : EfS) : List HV := setAt (fun v => updV v e) (placeV vs e.k) (posH vs e.k)
def placeO (vs : List OV) (k : Ky) : List OV := if hasH (vs.map Prod.fst) k = true then vs else vs.take (posH (vs.map Prod.fst) k) ++ (zeroV k, none) :: vs.drop (posH (vs.map Prod.fst) k)
def newEl (x : OV) (e : EfS) : Bool := decide (e.kind = 4) && !hasS x.1.el e.s
def updO (n : Nat) (x : OV) (e : EfS) : OV := (updV x.1 e, if newEl x e = true then some n else x.2)
def applyO (n : Nat) (vs : List OV) (e : EfS) : List OV := setAt (fun x => updO n x e) (placeO vs e.k) (posH (vs.map Prod.fst) e.k)
def famO (n : Nat) (vs : List OV) (F : Sig) (e : EfS) : Sig := match (placeO vs e.k)[posH (vs.map Prod.fst) e.k]? with
  | none => F
  | some x => if newEl x e = true then (n, ⟨1, (insL x.1.el e.s).map encs⟩) :: (match x.2 with
    | none => F
    | some id => drop id F) else F
theorem setAt_map {α β : Type} (g : α → β) (f : α → α) (f' : β → β) (h : ∀ x, g (f x) = f' (g x)) (l : List α) (p : Nat) : (setAt f l p).map g = setAt f' (l.map g) p := by
  unfold setAt
  rw [List.getElem?_map]
  cases l[p]? with
  | none => rfl
  | some x => simp [List.map_set, h]
theorem placeO_fst (vs : List OV) (k : Ky) : (placeO vs k).map Prod.fst = placeV (vs.map Prod.fst) k := by
  unfold placeO placeV
  split
  · rfl
  · simp [List.map_take, List.map_drop]
theorem applyO_fst (n : Nat) (vs : List OV) (e : EfS) : (applyO n vs e).map Prod.fst = applyV (vs.map Prod.fst) e := by
  unfold applyO applyV
  rw [setAt_map Prod.fst _ (fun v => updV v e) (fun x => rfl), placeO_fst]
theorem posH_le (l : List HV) (k : Ky) : posH l k ≤ l.length := List.countP_le_length
theorem place_get (vs : List OV) (k : Ky) : ∃ x, (placeO vs k)[posH (vs.map Prod.fst) k]? = some x ∧ (hasH (vs.map Prod.fst) k = true → vs[posH (vs.map Prod.fst) k]? = some x) ∧ (hasH (vs.map Prod.fst) k = false → x = (zeroV k, none)) := by
  have hp := posH_le (vs.map Prod.fst) k
  rw [List.length_map] at hp
  unfold placeO
  cases h : hasH (vs.map Prod.fst) k with
  | true =>
    rw [if_pos rfl]
    unfold hasH at h
    cases hq : vs[posH (vs.map Prod.fst) k]? with
    | none => rw [List.getElem?_map, hq] at h; cases h
    | some x => exact ⟨x, rfl, fun _ => rfl, fun h => by cases h⟩
  | false =>
    rw [if_neg (by simp)]
    refine ⟨_, ?_, (fun h => by cases h), fun _ => rfl⟩
    rw [List.getElem?_append_right (by rw [List.length_take]; omega), List.length_take, Nat.min_eq_left hp, Nat.sub_self]
    rfl
/-- All own elements below a bound. -/
def OwnLt (N : Nat) (l : List OV) : Prop := ∀ x ∈ l, ∀ id, x.2 = some id → id < N
theorem Fam.ownLt {N : Nat} {vs : List OV} {F : Sig} (h : Fam N vs F) : OwnLt N vs := fun x hx id hid => (h.lt hx hid).2
theorem own_refs {N : Nat} {l : List OV} (h : OwnLt N l) : refsLt N ⟨10, l.map encO⟩ := fun e he c hc => by
  obtain ⟨x, hx, rfl⟩ := List.mem_map.1 he
  obtain ⟨v, own⟩ := x
  cases own with
  | none =>
    simp only [encO, encX, ownC, List.mem_cons, List.not_mem_nil, or_false] at hc
    rcases hc with rfl | rfl | rfl | rfl | rfl | rfl | rfl | rfl | rfl | rfl <;> trivial
  | some id =>
    have := h _ hx id rfl
    simp only [encO, encX, ownC, List.mem_cons, List.not_mem_nil, or_false] at hc
    rcases hc with rfl | rfl | rfl | rfl | rfl | rfl | rfl | rfl | rfl | rfl <;> first | trivial | exact this
theorem placeO_mem {vs : List OV} {k : Ky} {x : OV} (h : x ∈ placeO vs k) : x ∈ vs ∨ x = (zeroV k, none) := by
  unfold placeO at h
  split at h
  · exact .inl h
  · rcases List.mem_append.1 h with h | h
    · exact .inl (List.mem_of_mem_take h)
    · rcases List.mem_cons.1 h with h | h
      · exact .inr h
      · exact .inl (List.mem_of_mem_drop h)
theorem placeO_own {N : Nat} {vs : List OV} (h : OwnLt N vs) (k : Ky) : OwnLt N (placeO vs k) := fun x hx id hid => by
  rcases placeO_mem hx with hx | rfl
  · exact h x hx id hid
  · cases hid
/-- Nothing is known of what own elements hold. -/
theorem encO_ex (π ν : List (Nat × Nat)) (V : Cell → Value) (l : List OV) : (l.map encO).map (fun e => e.map (exC π ν V)) = (l.map fun x => (x.1, exC π ν V (ownC x))).map encX := by
  rw [List.map_map, List.map_map]
  refine List.map_congr_left fun x _ => ?_
  simp [-ownC]
theorem opq_fam {N : Nat} {vs : List OV} {F σ : Sig} {π ν : List (Nat × Nat)} (h : Fam N vs F) (hσ : ∀ i o, look i F = some o → look i σ = some o) (hx : ∀ i, i < N → exI π ν i = none) : opqO π ν σ ⟨10, vs.map encO⟩ := fun e he c hc => by
  obtain ⟨x, hx', rfl⟩ := List.mem_map.1 he
  obtain ⟨v, own⟩ := x
  cases own with
  | none =>
    simp only [encO, encX, ownC, List.mem_cons, List.not_mem_nil, or_false] at hc
    rcases hc with rfl | rfl | rfl | rfl | rfl | rfl | rfl | rfl | rfl | rfl <;> trivial
  | some id =>
    have h1 := (h.lt hx' rfl).2
    obtain ⟨h2, h3⟩ := h.own _ hx' id rfl
    simp only [encO, encX, ownC, List.mem_cons, List.not_mem_nil, or_false] at hc
    rcases hc with rfl | rfl | rfl | rfl | rfl | rfl | rfl | rfl | rfl | rfl <;> first | trivial | skip
    simp only [opqC, hx id h1, hσ id _ h3]
    refine ⟨by simp, fun h => h2 (List.map_eq_nil_iff.1 h)⟩
theorem free_encO (l : List OV) : freeO ⟨10, l.map encO⟩ := fun e he c hc => by
  obtain ⟨x, hx', rfl⟩ := List.mem_map.1 he
  obtain ⟨v, own⟩ := x
  cases own with
  | none =>
    simp only [encO, encX, ownC, List.mem_cons, List.not_mem_nil, or_false] at hc
    rcases hc with rfl | rfl | rfl | rfl | rfl | rfl | rfl | rfl | rfl | rfl <;> rfl
  | some id =>
    simp only [encO, encX, ownC, List.mem_cons, List.not_mem_nil, or_false] at hc
    rcases hc with rfl | rfl | rfl | rfl | rfl | rfl | rfl | rfl | rfl | rfl <;> rfl
theorem ex_frozen {N : Nat} {vs : List OV} {F : Sig} (h : Fam N vs F) {π ν : List (Nat × Nat)} (hx : ∀ i, i < N → exI π ν i = none) (V : Cell → Value) : ∀ x ∈ vs.map fun x => (x.1, exC π ν V (ownC x)), frozenC x.2 = true := fun x hx' => by
  obtain ⟨y, hy, rfl⟩ := List.mem_map.1 hx'
  obtain ⟨v, own⟩ := y
  cases own with
  | none => rfl
  | some id =>
    show frozenC (exC π ν V (.ref id 0 v.el.length)) = true
    simp only [exC, hx id (h.lt hy rfl).2]
    rfl
theorem LeCs.refl : ∀ l : List Cell, LeCs l l
  | [] => .nil
  | c :: l => .cons (.refl c) (LeCs.refl l)
theorem leCs_mid {a b : List (List Cell)} {x y : List Cell} (h : LeCs x y) : ∀ (i : Nat) (e e' : List Cell), (a ++ x :: b)[i]? = some e → (a ++ y :: b)[i]? = some e' → LeCs e e' := fun i e e' h1 h2 => by
  by_cases hi : i < a.length
  · rw [List.getElem?_append_left hi] at h1 h2
    rw [h1] at h2
    cases h2
    exact LeCs.refl e
  · rw [List.getElem?_append_right (by omega)] at h1 h2
    cases hj : i - a.length with
    | zero =>
      rw [hj] at h1 h2
      cases h1
      cases h2
      exact h
    | succ j =>
      rw [hj, List.getElem?_cons_succ] at h1 h2
      rw [h1] at h2
      cases h2
      exact LeCs.refl e
theorem insS_new (s : Str) : New Tryz.prog 87 [.c (.row 1 true []), .c (cI 0), .c (.row 1 true [encs s])] (.c (.ref 0 0 1)) [(0, ⟨1, [encs s]⟩)] 1 := by
  refine new_of teOk Tryz.func87 (by kernel_rfl) (c := _) rfl (N := 95) rfl (rs := [Go.ResultVar.tmp 6]) rfl (by simp) fun base A w0 hA => ?_
  refine AW.st teOk [] (by simp [-Option.some.injEq] <;> rfl) trivial ?_
  refine AW.st teOk [] (by simp [-Option.some.injEq] <;> rfl) ?_ ?_
  · first | trivial | omega
  refine AW.st teOk [] (by simp [-Option.some.injEq] <;> rfl) trivial ?_
  refine AW.seq ?_
  refine AW.st teOk [] (by simp [-Option.some.injEq] <;> rfl) trivial ?_
  refine AW.iff false (by simp) (fun h => by cases h) (fun _ => AW.skip ?_)
  refine AW.st teOk [] (by simp [-Option.some.injEq] <;> rfl) trivial ?_
  refine AW.seq ?_
  refine AW.st teOk [] (by simp [-Option.some.injEq] <;> rfl) trivial ?_
  refine AW.iff true (by simp) (fun _ => ?_) (fun h => by cases h)
  refine AW.st teOk [] (by simp [-Option.some.injEq] <;> rfl) ?_ ?_
  · simp [growOk]
  refine AW.ret ⟨.inr rfl, _, Weak.normT hA [6] [(6, 0)] [] 1 _ (by simp) (by simp) (by simp), ?_⟩
  simp
theorem insS_mv (id : Nat) (l : List Str) (i : Nat) (hi : i ≤ l.length) (hl : l.length < 1000000000) (s : Str) : MvC Tryz.prog 87 [.c (.ref id 0 l.length), .c (cI i), .c (.row 1 true [encs s])] id ⟨1, l.map encs⟩ ⟨1, (l.take i ++ s :: l.drop i).map encs⟩ (l.length + 1) := by
  refine MvC.frame 1000000 1000100 1000020 1000101 (by omega) (by omega) (fun fr σ h => by simp) (fun e he c hc => ?_) (fun e he c hc => ?_) (fun fr hne => ?_) (fun fr V => by simp)
  · obtain ⟨x, _, rfl⟩ := List.mem_map.1 he
    rw [List.mem_singleton.1 hc]
    rfl
  · obtain ⟨x, _, rfl⟩ := List.mem_map.1 he
    rw [List.mem_singleton.1 hc]
    rfl
  · have h1 := insS_con (l.map encs) (flat_encs l) (fun e he => by
      obtain ⟨x, _, rfl⟩ := List.mem_map.1 he
      rfl) i (by rw [List.length_map]; exact hi) (by rw [List.length_map]; exact hl) (encs s) rfl rfl
    rw [List.length_map] at h1
    have e1 : (l.take i ++ s :: l.drop i).map encs = (l.map encs).take i ++ encs s :: (l.map encs).drop i := by rw [List.map_append, List.map_cons, List.map_take, List.map_drop]
    rw [e1]
    simpa using h1
theorem List.set_getElem_same {α : Type} {l : List α} {p : Nat} {x : α} (h : l[p]? = some x) : l.set p x = l := by
  obtain ⟨h1, rfl⟩ := List.getElem?_eq_some_iff.1 h
  exact List.set_getElem_self h1
theorem drop_app {α : Type} (t : Nat) : ∀ l r : List (Nat × α), drop t (l ++ r) = drop t l ++ drop t r
  | [], r => rfl
  | (s, v) :: l, r => by
    rw [List.cons_append, drop, drop]
    split
    · exact drop_app t l r
    · rw [List.cons_append, drop_app t l r]
theorem rn_own {B N : Nat} {l : List OV} (h : OwnLt N l) (hB : N ≤ B) (ρ : List (Nat × Nat)) : (l.map encO).map (fun e => e.map (rnC B ρ)) = l.map encO := map_same fun e he => map_same fun c hc => rnC_low (by
  have := own_refs h e he c hc
  cases c <;> first | trivial | exact Nat.lt_of_lt_of_le this hB)
theorem own_at : ∀ {l : List OV} {a : Nat}, (l.filterMap Prod.snd).Nodup → ∀ {i j : Nat} {x y : OV}, l[i]? = some x → l[j]? = some y → x.2 = some a → y.2 = some a → i = j
  | [], _, _, i, j, x, y, h, _, _, _ => by simp at h
  | z :: l, a, hn, i, j, x, y, hx, hy, ex, ey => by
    have tail : ∀ {j : Nat} {y : OV}, l[j]? = some y → y.2 = some a → a ∈ l.filterMap Prod.snd := fun hy ey => List.mem_filterMap.2 ⟨_, List.mem_of_getElem? hy, ey⟩
    have hn2 : (l.filterMap Prod.snd).Nodup := by
      cases hz : z.2 with
      | none => rwa [List.filterMap_cons_none hz] at hn
      | some b => rw [List.filterMap_cons_some hz] at hn; exact (List.nodup_cons.1 hn).2
    cases i with
    | zero =>
      cases j with
      | zero => rfl
      | succ j =>
        simp at hx hy
        subst hx
        rw [List.filterMap_cons_some ex] at hn
        exact absurd (tail hy ey) (List.nodup_cons.1 hn).1
    | succ i =>
      cases j with
      | zero =>
        simp at hx hy
        subst hy
        rw [List.filterMap_cons_some ey] at hn
        exact absurd (tail hx ex) (List.nodup_cons.1 hn).1
      | succ j => exact congrArg (· + 1) (own_at hn2 (i := i) (j := j) (by simpa using hx) (by simpa using hy) ex ey)
theorem re_own {l : List OV} (hn : (l.filterMap Prod.snd).Nodup) {p id : Nat} {v : HV} (hp : l[p]? = some (v, some id)) (n : Nat) : (l.map encO).map (fun e => e.map (reC id n)) = (l.set p (v, some n)).map encO := by
  refine List.ext_getElem? fun i => ?_
  rw [List.getElem?_map, List.getElem?_map, List.getElem?_map, List.getElem?_set]
  by_cases hi : p = i
  · subst hi
    rw [if_pos rfl, if_pos (List.getElem?_eq_some_iff.1 hp).1, hp]
    simp [reC]
  · rw [if_neg hi]
    cases hx : l[i]? with
    | none => rfl
    | some x =>
      obtain ⟨u, own⟩ := x
      cases own with
      | none => simp [reC]
      | some j =>
        have hj : j ≠ id := fun e => hi (own_at hn hp hx rfl (by rw [e]))
        simp [reC, hj]
theorem placeO_nd {vs : List OV} (h : (vs.filterMap Prod.snd).Nodup) (k : Ky) : ((placeO vs k).filterMap Prod.snd).Nodup := by
  unfold placeO
  split
  · exact h
  · rw [List.filterMap_append]
    show ((vs.take _).filterMap Prod.snd ++ (vs.drop _).filterMap Prod.snd).Nodup
    rw [← List.filterMap_append, List.take_append_drop]
    exact h
theorem mapAt_low {B : Nat} {ids : List Nat} (f : AObj → AObj) (hids : (ids.all fun i => decide (B ≤ i)) = true) : ∀ {G : Sig}, Low B G → mapAt ids f G = G
  | [], _ => rfl
  | (t, o) :: r, h => by
    have ht := h.tail.1
    have hn : ids.contains t = false := by
      cases hc : ids.contains t with
      | false => rfl
      | true =>
        rw [List.all_eq_true] at hids
        have := hids t (by simpa using hc)
        simp at this
        omega
    rw [mapAt, mapAt_low f hids h.tail.2]
    simp only [hn, Bool.false_eq_true, if_false]
theorem refs_set {B k p : Nat} {a : List (List Cell)} {y : List Cell} (h : refsLt B ⟨k, a⟩) (hy : ∀ c ∈ y, refLt B c) : refsLt B ⟨k, a.set p y⟩ := fun e he c hc => by
  rcases List.mem_or_eq_of_mem_set he with he | rfl
  · exact h e he c hc
  · exact hy c hc
theorem apply_con (vs : List OV) (F : Sig) (hF : Fam 5000000 vs F) (e : EfS) (hasc : AscH (vs.map Prod.fst)) (hel : ∀ x ∈ vs, AscS x.1.el ∧ x.1.el.length < 900000000) (hl : vs.length < 900000000) :
    Con Tryz.prog 48 [.c (.ref 5000000 0 vs.length), .agg (encE' e)] ((5000000, ⟨10, vs.map encO⟩) :: F) 5000020 (.c (.ref 5000100 0 (applyO 5000101 vs e).length)) ((5000100, ⟨10, (applyO 5000101 vs e).map encO⟩) :: famO 5000101 vs F e) 5000102 := by
  refine con_of teOk Tryz.func48 (by kernel_rfl) (c := _) rfl (N := 114) rfl (rs := [Go.ResultVar.tmp 4]) rfl (by simp) fun base A w0 rest hrest hrefs hA => ?_
  have hlow : Low 1000000 rest := hrest
  rw [List.cons_append]
  obtain ⟨G, hG⟩ : ∃ G, G = F ++ rest := ⟨_, rfl⟩
  rw [← hG]
  have hGl : Low 5000000 G := hG ▸ hF.low.app (hlow.le (by omega))
  have hFG : ∀ i o, look i F = some o → look i G = some o := fun i o h => by rw [hG, look_app, h]
  have hGr := fam_refs hF hrefs 5000000
  rw [← hG] at hGr
  have hdG : ∀ k, 5000000 ≤ k → drop k G = G := fun k hk => drop_low hGl k hk
  have hkG : ∀ k, 5000000 ≤ k → look k G = none := fun k hk => look_low hGl k hk
  have hloG := loB_low hGl
  have hhiG := hiB_low hGl
  have hrG : ∀ ρ ids, (ids.all fun i => decide (5000000 ≤ i)) = true → rnS 5000000 ρ ids G = G := fun ρ ids h => rnS_lowB h hGl
  obtain ⟨p, hp⟩ : ∃ p, p = posH (vs.map Prod.fst) e.k := ⟨_, rfl⟩
  obtain ⟨has, hhas⟩ : ∃ has, has = hasH (vs.map Prod.fst) e.k := ⟨_, rfl⟩
  have hpl : p ≤ vs.length := by rw [hp]; have := posH_le (vs.map Prod.fst) e.k; rwa [List.length_map] at this
  obtain ⟨W, hW⟩ : ∃ W, W = placeO vs e.k := ⟨_, rfl⟩
  obtain ⟨x, hx, hx1, hx2⟩ := place_get vs e.k
  rw [← hp] at hx1
  rw [← hhas] at hx1 hx2
  rw [← hW, ← hp] at hx
  have hWo : OwnLt 5000000 W := hW ▸ placeO_own hF.ownLt e.k
  have hap : applyO 5000101 vs e = W.set p (updO 5000101 x e) := by unfold applyO setAt; rw [← hW, ← hp, hx]
  have hfa : famO 5000101 vs F e = if newEl x e = true then (5000101, ⟨1, (insL x.1.el e.s).map encs⟩) :: (match x.2 with
    | none => F
    | some id => drop id F) else F := by unfold famO; rw [← hW, ← hp, hx]
  rw [hap, hfa, List.length_set]
  refine AW.st teOk [] (by simp [hdG, -Option.some.injEq] <;> rfl) trivial ?_
  refine AW.st teOk [.sem (.tup [.c (cI p), .c (cB has)]) ((5000020, ⟨5, [encE' e]⟩) :: (5000000, ⟨10, vs.map encO⟩) :: G) 5000024] (by simp [hdG, -Option.some.injEq] <;> rfl) ?_ ?_
  · refine SemC.readx rfl ?_ fun V hV => ?_
    · refine ⟨?_, ?_, trivial, trivial⟩
      · simp
        exact opq_fam hF (fun i o h => by
          have := hF.low i (by rw [h]; rfl)
          rw [look, if_neg (by omega), look, if_neg (by omega)]
          exact hFG i o h) (fun i _ => rfl)
      · simp [-List.mem_cons]
        intro c hc
        simp only [List.mem_cons, List.not_mem_nil, or_false] at hc
        rcases hc with rfl | rfl | rfl | rfl | rfl <;> trivial
    · have h1 := bsH_pure false (vs.map fun x => (x.1, exC [] [] V (ownC x))) (ex_frozen hF (fun i _ => rfl) V) e (by rw [List.map_map]; exact hasc) (by rw [List.length_map]; omega)
      have e2 : (vs.map fun x => (x.1, exC [] [] V (ownC x))).map Prod.fst = vs.map Prod.fst := by rw [List.map_map]; rfl
      rw [← encO_ex, e2, ← hp, ← hhas] at h1
      have e1 : ∀ (τ : Tau), [AVal.c (.ref 5000000 0 vs.length), .agg (encE' e), .c fcV].map (rxV ((5000020, ⟨5, [encE' e]⟩) :: (5000000, ⟨10, vs.map encO⟩) :: G) 5000024 V) = [.c (.row 10 false ((vs.map encO).map fun e => e.map (exC [] [] V))), .agg (encE' e), .c fcV] := fun τ => by
        simp [-encO, -exC, -List.map_map]
      exact (e1 []) ▸ h1
  refine AW.mid (fun s => s = ⟨[(0, .c (.ref 5000100 0 W.length)), (3, .c (.fad (encE' e))), (5, .c (cI p))], (5000100, ⟨10, W.map encO⟩) :: G, 5000200⟩) ?_ ?_
  · cases hcase : has with
    | true =>
      have hWv : W = vs := by rw [hW]; unfold placeO; rw [if_pos (by rw [← hhas]; exact hcase)]
      subst hWv
      have hne : W.map encO ≠ [] := fun h => by
        have := hx1 hcase
        rw [List.map_eq_nil_iff.1 h] at this
        cases this
      refine AW.st teOk [] (by simp [-Option.some.injEq] <;> rfl) trivial ?_
      refine AW.iff false (by simp) (fun h => by cases h) (fun _ => AW.skip ⟨_, (Weak.freeze 5000020 ⟨5, [encE' e]⟩ [] _ (by simp) rfl).trans ((Weak.renS 0 5000000 (lo := 0) (m := W.length) (o := ⟨10, W.map encO⟩) _ (by simp) (by simp [hdG]) hne).trans (Weak.normB 5000000 hA hGr [0, 3, 5] [(0, 5000100)] [] [] 5000200 _ (by simp [hdG, hloG, mapAt_nil]) (by simp) (by simp) (by simp) (by simp [hdG, hhiG, mapAt_nil]) (by simp [hdG, hhiG, mapAt_nil]; exact own_refs hWo))), by simp [hdG, hrG _ [] rfl, mapAt_nil]⟩)
    | false =>
      obtain ⟨zc, hzc⟩ : ∃ zc : List Cell, zc = [cS e.o, cS e.f, cB false, cI 0, cS { data := #[] }, cB false, cI 0, cI 0, .sc (.slice none 0 0), cB false] := ⟨_, rfl⟩
      have hWv : W = vs.take p ++ (zeroV e.k, none) :: vs.drop p := by rw [hW]; unfold placeO; rw [if_neg (by rw [← hhas, hcase]; simp), ← hp]
      have hWl : W.length = vs.length + 1 := by rw [hWv]; simp; omega
      refine AW.st teOk [] (by simp [-Option.some.injEq] <;> rfl) trivial ?_
      refine AW.iff true (by simp) (fun _ => ?_) (fun h => by cases h)
      refine AW.text teOk (ans := [.sem (.c (.ref 5000039 0 (vs.length + 1))) ((5000039, ⟨10, (vs.map encO).take p ++ zc :: (vs.map encO).drop p⟩) :: (5000020, ⟨5, [encE' e]⟩) :: G) 5000040]) (by simp [hdG, -Option.some.injEq] <;> rfl) ?_ ?_
      · have hx0 : ∀ i, i < 5000000 → exI [(5000000, 1000000)] [(5000039, 1000100)] i = none := fun i hi => by
          have e1 : i ≠ 5000000 := by omega
          have e2 : i ≠ 5000039 := by omega
          simp [e1, e2]
        have hob := opq_fam (σ := (5000020, ⟨5, [encE' e]⟩) :: (5000000, ⟨10, vs.map encO⟩) :: G) hF (fun i o h => by
          have := hF.low i (by rw [h]; rfl)
          rw [look, if_neg (by omega), look, if_neg (by omega)]
          exact hFG i o h) hx0
        have hS : ∀ τ : Tau, SemC Tryz.prog 85 [.c (.ref 5000000 0 vs.length), .c (cI p), .c (.row 10 true [zc])] ⟨τ, (5000020, ⟨5, [encE' e]⟩) :: (5000000, ⟨10, vs.map encO⟩) :: G, 5000039⟩ (.c (.ref 5000039 0 (vs.length + 1))) ((5000039, ⟨10, (vs.map encO).take p ++ zc :: (vs.map encO).drop p⟩) :: (5000020, ⟨5, [encE' e]⟩) :: G) 5000040 := fun τ => by
          have h : SemC Tryz.prog 85 [.c (.ref 5000000 0 vs.length), .c (cI p), .c (.row 10 true [zc])] ⟨τ, (5000020, ⟨5, [encE' e]⟩) :: (5000000, ⟨10, vs.map encO⟩) :: G, 5000039⟩ (.c (.ref 5000039 0 (vs.length + 1))) ([(5000039, ⟨10, (vs.map encO).take p ++ zc :: (vs.map encO).drop p⟩)] ++ minus [(5000000, 1000000)] ((5000020, ⟨5, [encE' e]⟩) :: (5000000, ⟨10, vs.map encO⟩) :: G)) 5000040 := SemC.frame [(5000000, 1000000)] [(5000039, 1000100)] 1000020 1000101 (sub := [(1000000, ⟨10, vs.map encO⟩)]) (by simp) (by simp) (by simp) (by simp) (by simp) (by simp) (by simp) (fun q hq => by rw [List.mem_singleton.1 hq]; exact hob) (by simp) rfl ⟨by simp, fun e' he c hc => ?_, fun e' he c hc => ?_, trivial⟩ (fun V hV => ?_)
          · simpa [hdG] using h
          · rcases List.mem_append.1 he with he | he
            · exact hob e' (List.mem_of_mem_take he) c hc
            · rcases List.mem_cons.1 he with rfl | he
              · rw [hzc] at hc
                simp only [List.mem_cons, List.not_mem_nil, or_false] at hc
                rcases hc with rfl | rfl | rfl | rfl | rfl | rfl | rfl | rfl | rfl | rfl <;> trivial
              · exact hob e' (List.mem_of_mem_drop he) c hc
          · rcases List.mem_append.1 he with he | he
            · exact free_encO vs e' (List.mem_of_mem_take he) c hc
            · rcases List.mem_cons.1 he with rfl | he
              · rw [hzc] at hc
                simp only [List.mem_cons, List.not_mem_nil, or_false] at hc
                rcases hc with rfl | rfl | rfl | rfl | rfl | rfl | rfl | rfl | rfl | rfl <;> rfl
              · exact free_encO vs e' (List.mem_of_mem_drop he) c hc
          · obtain ⟨es, hes⟩ : ∃ es, es = (vs.map encO).map fun e => e.map (exC [(5000000, 1000000)] [(5000039, 1000100)] V) := ⟨_, rfl⟩
            have hesl : es.length = vs.length := by rw [hes]; simp
            have hzl : zc.length = 10 := by rw [hzc]; rfl
            have hzf : zc.all frozenC = true := by rw [hzc]; rfl
            have hzx : zc.map (exC [(5000000, 1000000)] [(5000039, 1000100)] V) = zc := by rw [hzc]; rfl
            have h1 := insH_con es (flatO_of fun e' he => by
              rw [hes, encO_ex] at he
              obtain ⟨y, hy, rfl⟩ := List.mem_map.1 he
              have := ex_frozen hF hx0 V y hy
              simp [this, -frozenC]
              exact ⟨rfl, rfl, rfl, rfl, rfl, rfl, rfl, rfl, rfl⟩) (fun e' he => by
              rw [hes, encO_ex] at he
              obtain ⟨y, hy, rfl⟩ := List.mem_map.1 he
              rfl) p (by omega) (by omega) zc hzl hzf
            rw [hesl] at h1
            have g1 : exO [(5000000, 1000000)] [(5000039, 1000100)] V ⟨10, vs.map encO⟩ = ⟨10, es⟩ := by rw [hes]; rfl
            have g2 : exO [(5000000, 1000000)] [(5000039, 1000100)] V ⟨10, (vs.map encO).take p ++ zc :: (vs.map encO).drop p⟩ = ⟨10, es.take p ++ zc :: es.drop p⟩ := by
              unfold exO
              simp only [List.map_append, List.map_cons, hzx]
              rw [hes, List.map_take, List.map_drop]
            simp only [List.map_cons, List.map_nil, exS, exI, look, g1, g2]
            exact h1
        rw [hzc] at hS ⊢
        exact hS _
      refine ⟨_, (Weak.leO 5000039 _ (o := ⟨10, (vs.map encO).take p ++ zc :: (vs.map encO).drop p⟩) (o' := ⟨10, W.map encO⟩) (by simp) rfl (by rw [hWv]; simp) (by rw [hWv, List.map_append, List.map_cons, List.map_take, List.map_drop]; exact leCs_mid (by rw [hzc]; exact .cons (.refl _) (.cons (.refl _) (.cons (.refl _) (.cons (.refl _) (.cons (.refl _) (.cons (.refl _) (.cons (.refl _) (.cons (.refl _) (.cons (.nilT 1) (.cons (.refl _) .nil)))))))))))).trans ((Weak.freeze 5000020 ⟨5, [encE' e]⟩ [] _ (by simp [hdG]) rfl).trans (Weak.normB 5000000 hA hGr [0, 3, 5] [(0, 5000100)] [] [] 5000200 _ (by simp [hdG, hloG, mapAt_nil]) (by simp) (by simp) (by simp) (by simp [hdG, hhiG, mapAt_nil]) (by simp [hdG, hhiG, mapAt_nil]; exact own_refs hWo))), by simp [hdG, hrG _ [] rfl, mapAt_nil, hWl]⟩
  · rintro s rfl
    have hpW : p < W.length := (List.getElem?_eq_some_iff.1 hx).1
    have hxe : (W.map encO)[p]? = some (encO x) := by rw [List.getElem?_map, hx]; rfl
    have hfin : ∀ y : OV, y.2 = x.2 → OwnLt 5000000 (W.set p y) := fun y hy z hz id hid => by
      rcases List.mem_or_eq_of_mem_set hz with hz | rfl
      · exact hWo z hz id hid
      · exact hWo x (List.mem_of_getElem? hx) id (by rw [← hy]; exact hid)
    have hxW := List.mem_of_getElem? hx
    have hxv : (x ∈ vs ∨ x = (zeroV e.k, none)) := placeO_mem (by rw [← hW]; exact hxW)
    obtain ⟨v, own⟩ := x
    have hset : ∀ y, ((W.map encO).set p y)[p]? = some y := fun y => by rw [List.getElem?_set_self (by simpa using hpW)]
    refine AW.st teOk [] (by simp [hdG, -Option.some.injEq] <;> rfl) ?_ ?_
    · simpa using hpW
    refine AW.seq ?_
    refine AW.st teOk [] (by simp [hdG, -Option.some.injEq] <;> rfl) trivial ?_
    refine AW.block ?_
    refine AW.st teOk [] (by simp [-Option.some.injEq] <;> rfl) trivial ?_
    refine AW.iff (e.kind == 1) (by simp) (fun h1 => ?_) (fun h1 => ?_)
    · have k1 : e.kind = 1 := by simpa using h1
      have hn : newEl (v, own) e = false := by simp [newEl, k1]
      refine AW.draw mixed teOk (ans := []) (by simp [hxe, hset, -Option.some.injEq] <;> rfl) (by kernel_rfl) (by kernel_rfl) ?_ ?_
      · simp [allP]
      refine AW.st teOk [] (by simp [-Option.some.injEq] <;> rfl) trivial ?_
      refine AW.ret ⟨.inr rfl, _, Weak.normB 5000000 hA hGr [4] [(4, 5000100)] [] [] 5000102 _ (by simp [hdG, hloG]) (by simp) (by simp) (by simp) (by simp [hdG, hhiG]) (by
        simp [hdG, hhiG]
        have := own_refs (hfin ({ v with set := true, n := e.n, s := e.s }, own) rfl)
        rw [List.map_set] at this
        exact this), by simp, by
        rw [show updO 5000101 (v, own) e = ({ v with set := true, n := e.n, s := e.s }, own) from by simp [updO, updV, hn, k1]]
        simp [hdG, hrG _ [] rfl, hn, ← hG, List.map_set], rfl⟩
    refine AW.st teOk [] (by simp [-Option.some.injEq] <;> rfl) trivial ?_
    refine AW.iff (e.kind == 2) (by simp) (fun h2 => ?_) (fun h2 => ?_)
    · have k2 : e.kind = 2 := by simpa using h2
      have hn : newEl (v, own) e = false := by simp [newEl, k2]
      obtain ⟨b, hb⟩ : ∃ b, b = decide (v.hm = false ∨ v.mx < e.n) := ⟨_, rfl⟩
      refine AW.mid (fun s => s = ⟨[(62, .c (cB b)), (7, .c (.ptr 5000100 p 0)), (3, .c (.fad (encE' e))), (0, .c (.ref 5000100 0 W.length))], (5000100, ⟨10, W.map encO⟩) :: G, 5000200⟩) ?_ ?_
      · have hnw := Weak.normB (A := A) 5000000 hA hGr
        cases hm : v.hm with
        | false =>
          refine AW.draw mixed teOk (ans := []) (by simp [hxe, hm, -Option.some.injEq] <;> rfl) (by kernel_rfl) (by kernel_rfl) ?_ ?_
          · simp [allP]
          exact ⟨_, hnw [62, 7, 3, 0] [(0, 5000100)] [] [] 5000200 _ (by simp [hdG, hloG]) (by simp) (by simp) (by simp) (by simp [hdG, hhiG]) (by simp [hdG, hhiG]; exact own_refs hWo), by simp [hdG, hrG _ [] rfl, hb, hm]⟩
        | true =>
          refine AW.draw mixed teOk (ans := []) (by simp [hxe, hm, -Option.some.injEq] <;> rfl) (by kernel_rfl) (by kernel_rfl) ?_ ?_
          · simp [allP]
          exact ⟨_, hnw [62, 7, 3, 0] [(0, 5000100)] [] [] 5000200 _ (by simp [hdG, hloG]) (by simp) (by simp) (by simp) (by simp [hdG, hhiG]) (by simp [hdG, hhiG]; exact own_refs hWo), by simp [hdG, hrG _ [] rfl, hb, hm]⟩
      rintro s rfl
      refine AW.iff b (by simp) (fun hbt => ?_) (fun hbf => AW.skip ?_)
      · have hc : v.hm = false ∨ v.mx < e.n := by rw [hb] at hbt; simpa using hbt
        refine AW.draw mixed teOk (ans := []) (by simp [hxe, hset, -Option.some.injEq] <;> rfl) (by kernel_rfl) (by kernel_rfl) ?_ ?_
        · simp [allP]
        refine AW.st teOk [] (by simp [-Option.some.injEq] <;> rfl) trivial ?_
        refine AW.ret ⟨.inr rfl, _, Weak.normB 5000000 hA hGr [4] [(4, 5000100)] [] [] 5000102 _ (by simp [hdG, hloG]) (by simp) (by simp) (by simp) (by simp [hdG, hhiG]) (by
          simp [hdG, hhiG]
          have := own_refs (hfin ({ v with hm := true, mx := e.n }, own) rfl)
          rw [List.map_set] at this
          exact this), by simp, by
          rw [show updO 5000101 (v, own) e = ({ v with hm := true, mx := e.n }, own) from by simp [updO, updV, hn, k2, hc]]
          simp [hdG, hrG _ [] rfl, hn, ← hG, List.map_set], rfl⟩
      · have hc : ¬ (v.hm = false ∨ v.mx < e.n) := by rw [hb] at hbf; simpa using hbf
        refine AW.st teOk [] (by simp [-Option.some.injEq] <;> rfl) trivial ?_
        refine AW.ret ⟨.inr rfl, _, Weak.normB 5000000 hA hGr [4] [(4, 5000100)] [] [] 5000102 _ (by simp [hdG, hloG]) (by simp) (by simp) (by simp) (by simp [hdG, hhiG]) (by
          simp [hdG, hhiG]
          exact own_refs hWo), by simp, by
          rw [show updO 5000101 (v, own) e = (v, own) from by simp [updO, updV, hn, k2, hc]]
          rw [List.set_getElem_same hx]
          simp [hdG, hrG _ [] rfl, hn, ← hG], rfl⟩
    refine AW.st teOk [] (by simp [-Option.some.injEq] <;> rfl) trivial ?_
    refine AW.iff (e.kind == 3) (by simp) (fun h3 => ?_) (fun h3 => ?_)
    · have k3 : e.kind = 3 := by simpa using h3
      have hn : newEl (v, own) e = false := by simp [newEl, k3]
      refine AW.draw mixed teOk (ans := []) (by simp [hxe, -Option.some.injEq] <;> rfl) (by kernel_rfl) (by kernel_rfl) ?_ ?_
      · simp [allP]
      refine AW.st teOk [] (by simp [-Option.some.injEq] <;> rfl) trivial ?_
      refine AW.ret ⟨.inr rfl, _, Weak.normB 5000000 hA hGr [4] [(4, 5000100)] [] [] 5000102 _ (by simp [hdG, hloG]) (by simp) (by simp) (by simp) (by simp [hdG, hhiG]) (by
        simp [hdG, hhiG]
        have := own_refs (hfin ({ v with sum := IntKind.i64.wrap (v.sum + e.n) }, own) rfl)
        rw [List.map_set] at this
        exact this), by simp, by
        rw [show updO 5000101 (v, own) e = ({ v with sum := IntKind.i64.wrap (v.sum + e.n) }, own) from by simp [updO, updV, hn, k3]]
        simp [hdG, hrG _ [] rfl, hn, ← hG, List.map_set], rfl⟩
    refine AW.st teOk [] (by simp [-Option.some.injEq] <;> rfl) trivial ?_
    refine AW.iff (e.kind == 4) (by simp) (fun h4 => ?_) (fun h4 => ?_)
    · have k4 : e.kind = 4 := by simpa using h4
      cases own with
      | none =>
        have hel0 : v.el = [] := by
          rcases hxv with h | h
          · exact hF.emp _ h rfl
          · have := congrArg (fun y : OV => y.1.el) h
            exact this
        have hp0 : posS v.el e.s = 0 := by rw [hel0]; rfl
        have hh0 : hasS v.el e.s = false := by rw [hel0]; rfl
        have hn : newEl (v, none) e = true := by simp [newEl, k4, hh0]
        have hil : insL v.el e.s = [e.s] := by rw [insL, if_neg (by rw [hh0]; simp), hel0]; simp
        refine AW.dr mixed teOk [.tup [.c (cI 0), .c (cB false)]] (by simp [hxe, -Option.some.injEq] <;> rfl) (by kernel_rfl) (by kernel_rfl) ?_ ?_
        · simp [allP]
          have := bsS_pure true [] e.s List.Pairwise.nil (by simp)
          simpa [posS, hasS] using this
        refine AW.st teOk [] (by simp [-Option.some.injEq] <;> rfl) trivial ?_
        refine AW.iff true (by simp) (fun _ => ?_) (fun h => by cases h)
        refine AW.draw mixed teOk (ans := [.tup [.c (.ref 0 0 1), .c (.row 1 true [encs e.s])]]) (by simp [hxe, hset, -Option.some.injEq] <;> rfl) (by kernel_rfl) (by kernel_rfl) ?_ ?_
        · simp [allP]
          simpa using insS_new e.s
        refine AW.st teOk [] (by simp [-Option.some.injEq] <;> rfl) trivial ?_
        have hids : (([5000100] : List Nat).all fun i => decide (5000000 ≤ i)) = true := by decide
        refine AW.ret ⟨.inr rfl, _, Weak.normB 5000000 hA hGr [4] [(4, 5000100)] [(5000236, 5000101)] [5000100] 5000102 _ (by simp [hdG, hloG]) (by simp) (by simp) (by simp) (by simp [hdG, hhiG]) (by simp [hdG, hhiG]; exact flat_refs rfl), by simp, by
          rw [show updO 5000101 (v, none) e = ({ v with el := [e.s] }, some 5000101) from by simp [updO, updV, hn, k4, hil]]
          have hr := rn_own (B := 5000000) hWo (Nat.le_refl _) [(5000100, 5000100), (5000236, 5000101)]
          have hm : ((W.map encO).set p (encO ({ v with el := [e.s] }, some 5000236))).map (fun e => e.map (rnC 5000000 [(5000100, 5000100), (5000236, 5000101)])) = (W.set p ({ v with el := [e.s] }, some 5000101)).map encO := by
            rw [List.map_set, hr, List.map_set]
            simp
          simp [hn, hil, hdG, ← hG, hrG _ _ hids]
          rw [← List.map_map, hr], rfl⟩
      | some id =>
        have hid := hF.lt (hxv.resolve_right fun h => by cases h) rfl
        obtain ⟨hne, hlid⟩ := hF.own _ (hxv.resolve_right fun h => by cases h) id rfl
        obtain ⟨hasc2, hell⟩ := hel _ (hxv.resolve_right fun h => by cases h)
        have hell : v.el.length < 900000000 := hell
        have hasc2 : AscS v.el := hasc2
        have hlG := hFG _ _ hlid
        have hi1 : (id = 5000100) = False := by simp; omega
        cases hh : hasS v.el e.s with
        | true =>
          have hn : newEl (v, some id) e = false := by simp [newEl, k4, hh]
          have hil : insL v.el e.s = v.el := by rw [insL, if_pos hh]
          refine AW.dr mixed teOk [.tup [.c (cI (posS v.el e.s)), .c (cB true)]] (by simp [hxe, hi1, hlG, -Option.some.injEq] <;> rfl) (by kernel_rfl) (by kernel_rfl) ?_ ?_
          · simp [allP]
            have := bsS_pure false v.el e.s hasc2 (by omega)
            rw [hh] at this
            exact ⟨by simp [flatVs, flatV, flatC, flatAt, hi1, hlG], this⟩
          refine AW.st teOk [] (by simp [-Option.some.injEq] <;> rfl) trivial ?_
          refine AW.iff false (by simp) (fun h => by cases h) (fun _ => AW.skip ?_)
          refine AW.st teOk [] (by simp [-Option.some.injEq] <;> rfl) trivial ?_
          refine AW.ret ⟨.inr rfl, _, Weak.normB 5000000 hA hGr [4] [(4, 5000100)] [] [] 5000102 _ (by simp [hdG, hloG]) (by simp) (by simp) (by simp) (by simp [hdG, hhiG]) (by
            simp [hdG, hhiG]
            exact own_refs hWo), by simp, by
            rw [show updO 5000101 (v, some id) e = (v, some id) from by simp [updO, updV, hn, k4, hil]]
            rw [List.set_getElem_same hx]
            simp [hdG, hrG _ [] rfl, hn, ← hG], rfl⟩
        | false =>
          have hn : newEl (v, some id) e = true := by simp [newEl, k4, hh]
          have hil : insL v.el e.s = v.el.take (posS v.el e.s) ++ e.s :: v.el.drop (posS v.el e.s) := by rw [insL, if_neg (by rw [hh]; simp)]
          obtain ⟨q, hq⟩ : ∃ q, q = posS v.el e.s := ⟨_, rfl⟩
          have hql : q ≤ v.el.length := by rw [hq]; exact List.countP_le_length
          have hnd : (W.filterMap Prod.snd).Nodup := hW ▸ placeO_nd hF.nd e.k
          have hre := re_own hnd hx 5000214
          have hne2 : v.el.map encs ≠ [] := fun h => hne (List.map_eq_nil_iff.1 h)
          have hi2 : (5000100 = id) = False := by simp; omega
          have hG2l : Low 5000000 (drop id G) := fun i hi => by
            rw [look_drop] at hi
            split at hi
            · cases hi
            · exact hGl i hi
          have hd2 : ∀ k, 5000000 ≤ k → drop k (drop id G) = drop id G := fun k hk => drop_low hG2l k hk
          refine AW.to (s2 := ⟨[(7, .c (.ptr 5000100 p 0)), (3, .c (.fad (encE' e))), (0, .c (.ref 5000100 0 W.length))], (5000214, ⟨1, v.el.map encs⟩) :: (5000100, ⟨10, (W.set p (v, some 5000214)).map encO⟩) :: drop id G, 5000215⟩) ((Weak.keep [7, 3, 0] _).trans (Weak.renO id (o := ⟨1, v.el.map encs⟩) [5000100] _ (by simp [hi1, hlG]) hne2)) (by
            simp [hi1, hd2, hdG, mapAt_low _ (ids := [5000100]) rfl hG2l]
            refine ⟨by omega, ?_⟩
            rw [List.map_set] at hre
            exact congrArg (AObj.mk 10) hre) ?_
          obtain ⟨W2, hW2⟩ : ∃ W2, W2 = W.set p (v, some 5000214) := ⟨_, rfl⟩
          have hW2l : W2.length = W.length := by rw [hW2, List.length_set]
          have hxe2 : (W2.map encO)[p]? = some (encO (v, some 5000214)) := by rw [List.getElem?_map, hW2, List.getElem?_set_self hpW]; rfl
          have hset2 : ∀ y, ((W2.map encO).set p y)[p]? = some y := fun y => by rw [List.getElem?_set_self (by simpa [hW2l] using hpW)]
          rw [← hW2]
          have hlo2 := loB_low hG2l
          have hhi2 := hiB_low hG2l
          have hr2 : ∀ ρ ids, (ids.all fun i => decide (5000000 ≤ i)) = true → rnS 5000000 ρ ids (drop id G) = drop id G := fun ρ ids h => rnS_lowB h hG2l
          have hGr2 : ∀ i o, look i (drop id G) = some o → ∀ e ∈ o.es, ∀ c ∈ e, refLt 5000020 c ∨ refLt 5000000 c := fun i o ho => by
            rw [look_drop] at ho
            split at ho
            · cases ho
            · exact hGr i o ho
          refine AW.dr mixed teOk [.tup [.c (cI q), .c (cB false)]] (by simp [hxe2, -Option.some.injEq] <;> rfl) (by kernel_rfl) (by kernel_rfl) ?_ ?_
          · simp [allP]
            have := bsS_pure false v.el e.s hasc2 (by omega)
            rw [hh, ← hq] at this
            exact ⟨by simp [flatVs, flatV, flatC, flatAt], this⟩
          refine AW.st teOk [] (by simp [-Option.some.injEq] <;> rfl) trivial ?_
          refine AW.iff true (by simp) (fun _ => ?_) (fun h => by cases h)
          obtain ⟨L2, hL2⟩ : ∃ L2, L2 = v.el.take q ++ e.s :: v.el.drop q := ⟨_, rfl⟩
          have hL2l : L2.length = v.el.length + 1 := by rw [hL2]; simp; omega
          have hmv := insS_mv 5000214 v.el q hql (by omega) e.s
          rw [← hL2] at hmv
          rw [← hq, ← hL2] at hil
          refine AW.draw mixed teOk (ans := [.tup [.c (.ref 5000214 0 (v.el.length + 1)), .c (.row 1 true (L2.map encs)), .c (.row 1 true (v.el.map encs))]]) (by simp [hxe2, hset2, hd2, -Option.some.injEq] <;> rfl) (by kernel_rfl) (by kernel_rfl) ?_ ?_
          · simp [allP]
            exact hmv
          refine AW.st teOk [] (by simp [-Option.some.injEq] <;> rfl) trivial ?_
          have hids : (([5000100] : List Nat).all fun i => decide (5000000 ≤ i)) = true := by decide
          refine AW.ret ⟨.inr rfl, _, Weak.normB 5000000 hA hGr2 [4] [(4, 5000100)] [(5000237, 5000101)] [5000100] 5000102 _ (by simp [hd2, hlo2]) (by simp) (by simp) (by simp) (by simp [hd2, hhi2]) (by simp [hd2, hhi2]; exact flat_refs (flat_encs L2)), by simp, by
            rw [show updO 5000101 (v, some id) e = ({ v with el := L2 }, some 5000101) from by simp [updO, updV, hn, k4, hil]]
            have hr := rn_own (B := 5000000) hWo (Nat.le_refl _) [(5000100, 5000100), (5000237, 5000101)]
            have hdr0 : drop id F ++ rest = drop id G := by rw [hG, drop_app, drop_low hlow id (by have : LIM ≤ id := hid.1; exact this)]
            simp [hn, hil, hd2, hdr0, hr2 _ _ hids, hW2, List.map_set, hL2l]
            rw [← List.map_map, hr], rfl⟩
    refine AW.st teOk [] (by simp [-Option.some.injEq] <;> rfl) trivial ?_
    refine AW.iff (e.kind == 5) (by simp) (fun h5 => ?_) (fun h5 => ?_)
    · have k5 : e.kind = 5 := by simpa using h5
      have hn : newEl (v, own) e = false := by simp [newEl, k5]
      refine AW.text teOk (ans := []) (by simp [hxe, -Option.some.injEq] <;> rfl) ?_ ?_
      · trivial
      refine AW.st teOk [] (by simp [-Option.some.injEq] <;> rfl) trivial ?_
      refine AW.ret ⟨.inr rfl, _, Weak.normB 5000000 hA hGr [4] [(4, 5000100)] [] [] 5000102 _ (by simp [hdG, hloG]) (by simp) (by simp) (by simp) (by simp [hdG, hhiG]) (by
        simp [hdG, hhiG]
        have := own_refs (hfin ({ v with fl := true }, own) rfl)
        rw [List.map_set] at this
        exact this), by simp, by
        rw [show updO 5000101 (v, own) e = ({ v with fl := true }, own) from by simp [updO, updV, hn, k5]]
        simp [hdG, hrG _ [] rfl, hn, ← hG, List.map_set], rfl⟩
    · have k0 : e.kind ≠ 1 ∧ e.kind ≠ 2 ∧ e.kind ≠ 3 ∧ e.kind ≠ 4 ∧ e.kind ≠ 5 := by simp at h1 h2 h3 h4 h5; exact ⟨h1, h2, h3, h4, h5⟩
      have hn : newEl (v, own) e = false := by simp [newEl, k0]
      refine AW.skip ?_
      refine AW.st teOk [] (by simp [-Option.some.injEq] <;> rfl) trivial ?_
      refine AW.ret ⟨.inr rfl, _, Weak.normB 5000000 hA hGr [4] [(4, 5000100)] [] [] 5000102 _ (by simp [hdG, hloG]) (by simp) (by simp) (by simp) (by simp [hdG, hhiG]) (by
        simp [hdG, hhiG]
        exact own_refs hWo), by simp, by
        rw [show updO 5000101 (v, own) e = (v, own) from by simp [updO, updV, hn, k0]]
        rw [List.set_getElem_same hx]
        simp [hdG, hrG _ [] rfl, hn, ← hG], rfl⟩
end Go.Proofs.YtphlhadgcfndhaaGreat.Abs
