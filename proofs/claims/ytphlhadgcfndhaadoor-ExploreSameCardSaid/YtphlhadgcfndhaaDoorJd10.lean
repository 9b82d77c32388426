/- Joined for the claim: WXexp WXsafe -/
import Derived.Test.YtphlhadgcfndhaaDoorWXinvJd
import Derived.Test.YtphlhadgcfndhaaDoorJd9
section
namespace Go.Proofs.YtphlhadgcfndhaaDoor.Abs
open Go Go.RowKit
set_option linter.unusedVariables false
set_option linter.unusedSimpArgs false
set_option maxHeartbeats 4000000
abbrev ActP := Int × Int
def actsD (n : Nat) : List ActP := (List.range n).map fun (i : Nat) => (1, (i : Int))
def actsL (lo : Int) (n : Nat) : List ActP := (List.range n).filterMap fun (i : Nat) => if lo > 0 then some (2, (i : Int)) else none
def actsF (am : Int) (accs : List V2) (n : Nat) : List ActP := (List.range n).filterMap fun (i : Nat) => if am > 0 ∧ 0 < (accs.getD i []).length then some (3, (i : Int)) else none
def actsX (s : XpS) : List ActP := actsD s.g.pks.length ++ actsL s.lo s.g.pks.length ++ actsF s.am s.g.accs s.g.accs.length
def perfX (s : XpS) (a : ActP) : XpS :=
  if a ∈ actsX s then
    if a.1 = 1 then { s with g := delivS s.g a.2.toNat }
    else if a.1 = 2 then { s with g := { s.g with pks := delL s.g.pks a.2.toNat }, lo := s.lo - 1 }
    else { s with g := forgG s.g a.2.toNat, am := s.am - 1 }
  else s
theorem mem_actsD {n : Nat} {a : ActP} : a ∈ actsD n ↔ ∃ i : Nat, i < n ∧ a = (1, (i : Int)) := by
  unfold actsD
  rw [List.mem_map]
  constructor
  · rintro ⟨i, hi, rfl⟩
    exact ⟨i, List.mem_range.1 hi, rfl⟩
  · rintro ⟨i, hi, rfl⟩
    exact ⟨i, List.mem_range.2 hi, rfl⟩
theorem mem_actsL {lo : Int} {n : Nat} {a : ActP} : a ∈ actsL lo n ↔ 0 < lo ∧ ∃ i : Nat, i < n ∧ a = (2, (i : Int)) := by
  unfold actsL
  rw [List.mem_filterMap]
  constructor
  · rintro ⟨i, hi, h⟩
    split at h
    · rename_i hl
      cases h
      exact ⟨hl, i, List.mem_range.1 hi, rfl⟩
    · cases h
  · rintro ⟨hl, i, hi, rfl⟩
    exact ⟨i, List.mem_range.2 hi, by rw [if_pos hl]⟩
theorem mem_actsF {am : Int} {accs : List V2} {n : Nat} {a : ActP} : a ∈ actsF am accs n ↔ 0 < am ∧ ∃ i : Nat, i < n ∧ 0 < (accs.getD i []).length ∧ a = (3, (i : Int)) := by
  unfold actsF
  rw [List.mem_filterMap]
  constructor
  · rintro ⟨i, hi, h⟩
    split at h
    · rename_i hl
      cases h
      exact ⟨hl.1, i, List.mem_range.1 hi, hl.2, rfl⟩
    · cases h
  · rintro ⟨hl, i, hi, h0, rfl⟩
    exact ⟨i, List.mem_range.2 hi, by rw [if_pos ⟨hl, h0⟩]⟩
theorem mem_actsX {s : XpS} {a : ActP} (h : a ∈ actsX s) : (∃ i : Nat, i < s.g.pks.length ∧ a = (1, (i : Int))) ∨ (0 < s.lo ∧ ∃ i : Nat, i < s.g.pks.length ∧ a = (2, (i : Int))) ∨ (0 < s.am ∧ ∃ i : Nat, i < s.g.accs.length ∧ a = (3, (i : Int))) := by
  unfold actsX at h
  rcases List.mem_append.1 h with h | h
  · rcases List.mem_append.1 h with h | h
    · exact .inl (mem_actsD.1 h)
    · exact .inr (.inl (mem_actsL.1 h))
  · obtain ⟨h1, i, h2, _, h3⟩ := mem_actsF.1 h
    exact .inr (.inr ⟨h1, i, h2, h3⟩)
theorem acts_first {s : XpS} (h : s.g.pks ≠ []) : ((1, 0) : ActP) ∈ actsX s := by
  unfold actsX
  exact List.mem_append_left _ (List.mem_append_left _ (mem_actsD.2 ⟨0, List.length_pos_iff.2 h, rfl⟩))
theorem acts_nil {s : XpS} (h : s.g.pks = []) (ha : s.am = 0) : actsX s = [] := by
  unfold actsX actsD actsL actsF
  rw [h, ha]
  simp
/-- What a step may do. -/
inductive XCase (s : XpS) (a : ActP) : XpS → Prop
  | del (i : Nat) (hi : i < s.g.pks.length) (ha : a = (1, (i : Int))) : XCase s a { s with g := delivS s.g i }
  | lose (i : Nat) (hi : i < s.g.pks.length) (hl : 0 < s.lo) (ha : a = (2, (i : Int))) : XCase s a { s with g := { s.g with pks := delL s.g.pks i }, lo := s.lo - 1 }
  | forg (i : Nat) (hi : i < s.g.accs.length) (hl : 0 < s.am) (ha : a = (3, (i : Int))) : XCase s a { s with g := forgG s.g i, am := s.am - 1 }
theorem perf_case {s : XpS} {a : ActP} (h : a ∈ actsX s) : XCase s a (perfX s a) := by
  have hp := mem_actsX h
  unfold perfX
  rw [if_pos h]
  rcases hp with ⟨i, hi, rfl⟩ | ⟨hl, i, hi, rfl⟩ | ⟨hl, i, hi, rfl⟩
  · rw [if_pos rfl]
    exact .del i hi rfl
  · rw [if_neg (show ¬ ((2 : Int) = 1) by decide), if_pos rfl]
    exact .lose i hi hl rfl
  · rw [if_neg (show ¬ ((3 : Int) = 1) by decide), if_neg (show ¬ ((3 : Int) = 2) by decide)]
    exact .forg i hi hl rfl
/-! ### what is right -/
def allIns (ins : List (List V2)) : V2 := ins.foldl (fun a l => l.foldl (mergeI true) a) []
def inpX (g : GrS) (d : DeS) : Option V2 := if 0 ≤ d.prop ∧ 0 ≤ d.input then (g.ins[d.prop.toNat]?).bind fun l => l[d.input.toNat]? else none
def compI (a b : V2) : Int := if a = b then 0 else if leI a b = true then 1 else if leI b a = true then 2 else 3
def safeAt (g : GrS) (all : V2) (i : Nat) (d : DeS) : Bool := match inpX g d with
  | none => false
  | some own => leI own d.v && (leI d.v all && (g.decs.take i).all fun o => decide (compI d.v o.v ≠ 3))
def safeG (g : GrS) : Bool := (List.range g.decs.length).all fun i => match g.decs[i]? with
  | none => true
  | some d => safeAt g (allIns g.ins) i d
/-! ### the search -/
structure Fd where
  s : XpS
  fr : Nat
  act : ActP
  dep : Nat
structure ExS where
  fds : List Fd
  steps : Nat
  fin : Nat
  dep : Nat
inductive ExO where
  | go (e : ExS)
  | long
  | bad (e : ExS)
def finN (s : XpS) : Nat := if s.g.pks.length = 0 then 1 else 0
def pushX (e : ExS) (i : Nat) (f : Fd) (a : ActP) (nx : XpS) : ExS := ⟨e.fds ++ [⟨nx, i, a, f.dep + 1⟩], e.steps + 1, e.fin + finN nx, max e.dep (f.dep + 1)⟩
def knownX (e : ExS) (nx : XpS) : Bool := decide (keyN nx ∈ e.fds.map fun d => keyN d.s)
def oneX (lim i : Nat) (f : Fd) (a : ActP) (e : ExS) : ExO :=
  let nx := canX (perfX f.s a)
  if knownX e nx = true then .go { e with steps := e.steps + 1 }
  else if e.fds.length = lim then .long
  else if safeG nx.g = true then .go (pushX e i f a nx) else .bad (pushX e i f a nx)
def innerX (lim i : Nat) (f : Fd) : List ActP → ExS → ExO
  | [], e => .go e
  | a :: l, e => match oneX lim i f a e with
    | .go e' => innerX lim i f l e'
    | o => o
def outerX (lim : Nat) : Nat → Nat → ExS → ExO
  | 0, _, e => .go e
  | n + 1, i, e => match e.fds[i]? with
    | none => .go e
    | some f => match innerX lim i f (actsX f.s) e with
      | .go e' => outerX lim n (i + 1) e'
      | o => o
def firstX (s : XpS) : ExS := ⟨[⟨s, 0, (0, 0), 0⟩], 0, finN s, 0⟩
def exploreX (lim : Nat) (s : XpS) : ExO := if safeG s.g = true then outerX lim lim 0 (firstX s) else .bad (firstX s)
def schedX (fds : List Fd) : Nat → Nat → List ActP
  | 0, _ => []
  | n + 1, i => if i = 0 then [] else match fds[i]? with
    | none => []
    | some f => schedX fds n f.fr ++ [f.act]
/-! ### what holds while it runs -/
structure InvF (s0 : XpS) (L : List Fd) : Prop where
  z : ∃ f, L[0]? = some f ∧ f.s = s0 ∧ f.dep = 0
  st : ∀ (j : Nat) f, 0 < j → L[j]? = some f → f.fr < j ∧ ∃ q, L[f.fr]? = some q ∧ f.act ∈ actsX q.s ∧ f.s = canX (perfX q.s f.act) ∧ f.dep = q.dep + 1
  nd : L.Pairwise fun x y => x.s ≠ y.s
  mono : L.Pairwise fun x y => x.dep ≤ y.dep
theorem getD_last {α : Type} {L : List α} {x : α} {j : Nat} {y : α} (h : (L ++ [x])[j]? = some y) : L[j]? = some y ∨ j = L.length ∧ y = x := by
  rw [List.getElem?_append] at h
  split at h
  · exact .inl h
  · rename_i hj
    rcases Nat.lt_or_ge (j - L.length) 1 with h1 | h1
    · have : j - L.length = 0 := by omega
      rw [this] at h
      simp at h
      exact .inr ⟨by omega, h.symm⟩
    · rw [List.getElem?_eq_none (by simpa using h1)] at h
      cases h
theorem get_app_l {α : Type} {L R : List α} {j : Nat} {y : α} (h : L[j]? = some y) : (L ++ R)[j]? = some y := by
  rw [List.getElem?_append_left (List.getElem?_eq_some_iff.1 h).1]
  exact h
theorem InvF.push {s0 : XpS} {L : List Fd} (h : InvF s0 L) {i : Nat} {f : Fd} (hf : L[i]? = some f) {a : ActP} (ha : a ∈ actsX f.s) (hn : ∀ q ∈ L, q.s ≠ canX (perfX f.s a)) (hd : ∀ q ∈ L, q.dep ≤ f.dep + 1) : InvF s0 (L ++ [⟨canX (perfX f.s a), i, a, f.dep + 1⟩]) := by
  obtain ⟨g, hg, h1, h2⟩ := h.z
  have hil := (List.getElem?_eq_some_iff.1 hf).1
  refine ⟨⟨g, get_app_l hg, h1, h2⟩, fun j q hj hq => ?_, ?_, ?_⟩
  · rcases getD_last hq with hq | ⟨rfl, rfl⟩
    · obtain ⟨g1, p, g2, g3⟩ := h.st j q hj hq
      exact ⟨g1, p, get_app_l g2, g3⟩
    · exact ⟨hil, f, get_app_l hf, ha, rfl, rfl⟩
  · rw [List.pairwise_append]
    exact ⟨h.nd, List.pairwise_singleton _ _, fun x hx y hy => by
      rw [List.mem_singleton] at hy
      subst hy
      exact hn x hx⟩
  · rw [List.pairwise_append]
    exact ⟨h.mono, List.pairwise_singleton _ _, fun x hx y hy => by
      rw [List.mem_singleton] at hy
      subst hy
      exact hd x hx⟩
/-- Every state that was found has what a first state has and every step keeps. -/
theorem InvF.all {s0 : XpS} {L : List Fd} (h : InvF s0 L) {J : Nat → XpS → Prop} (h0 : J 0 s0) (hs : ∀ k s a, J k s → a ∈ actsX s → J (k + 1) (canX (perfX s a))) : ∀ (j : Nat) f, L[j]? = some f → J f.dep f.s := by
  intro j
  induction j using Nat.strongRecOn with
  | _ j ih =>
    intro f hf
    by_cases hj : j = 0
    · subst hj
      obtain ⟨g, hg, h1, h2⟩ := h.z
      rw [hf] at hg
      cases hg
      rw [h1, h2]
      exact h0
    · obtain ⟨g1, q, g2, g3, g4, g5⟩ := h.st j f (by omega) hf
      rw [g4, g5]
      exact hs _ _ _ (ih _ g1 q g2) g3
theorem InvF.dep_le {s0 : XpS} {L : List Fd} (h : InvF s0 L) : ∀ (j : Nat) f, L[j]? = some f → f.dep ≤ j := by
  intro j
  induction j using Nat.strongRecOn with
  | _ j ih =>
    intro f hf
    by_cases hj : j = 0
    · subst hj
      obtain ⟨g, hg, h1, h2⟩ := h.z
      rw [hf] at hg
      cases hg
      omega
    · obtain ⟨g1, q, g2, g3, g4, g5⟩ := h.st j f (by omega) hf
      have := ih _ g1 q g2
      omega
/-- The numbers that are counted. -/
structure InvN (lim : Nat) (e : ExS) : Prop where
  len : e.fds.length ≤ lim
  fin : e.fin = (e.fds.map fun f => finN f.s).sum
  dep : (∀ f ∈ e.fds, f.dep ≤ e.dep) ∧ ∃ f ∈ e.fds, f.dep = e.dep
def safeL (L : List Fd) : Prop := ∀ f ∈ L, safeG f.s.g = true
/-- Found before place i is closed. -/
def Closed (L : List Fd) (i : Nat) : Prop := ∀ (j : Nat) f, j < i → L[j]? = some f → ∀ a ∈ actsX f.s, ∃ q ∈ L, q.s = canX (perfX f.s a)
structure InvX (lim : Nat) (s0 : XpS) (e : ExS) : Prop where
  f : InvF s0 e.fds
  n : InvN lim e
  s : safeL e.fds
structure BadX (lim : Nat) (s0 : XpS) (e : ExS) : Prop where
  f : InvF s0 e.fds
  n : InvN lim e
  s : ∃ L x, e.fds = L ++ [x] ∧ safeL L ∧ safeG x.s.g = false ∧ x.dep = e.dep
theorem known_iff {e : ExS} {nx : XpS} : knownX e nx = true ↔ ∃ q ∈ e.fds, q.s = nx := by
  unfold knownX
  rw [decide_eq_true_eq, List.mem_map]
  constructor
  · rintro ⟨q, hq, h⟩
    exact ⟨q, hq, keyN_inj h⟩
  · rintro ⟨q, hq, rfl⟩
    exact ⟨q, hq, rfl⟩
theorem InvN.push {lim : Nat} {e : ExS} (h : InvN lim e) (hl : e.fds.length ≠ lim) (i : Nat) (f : Fd) (a : ActP) (nx : XpS) (hd : ∀ q ∈ e.fds, q.dep ≤ f.dep + 1) : InvN lim (pushX e i f a nx) ∧ (pushX e i f a nx).dep = f.dep + 1 := by
  have hm : max e.dep (f.dep + 1) = f.dep + 1 := by
    obtain ⟨q, hq, h1⟩ := h.dep.2
    have := hd q hq
    omega
  refine ⟨⟨?_, ?_, ?_, ?_⟩, hm⟩
  · show (e.fds ++ [_]).length ≤ lim
    rw [List.length_append, List.length_singleton]
    have := h.len
    omega
  · show e.fin + finN nx = ((e.fds ++ [_]).map _).sum
    rw [List.map_append, List.sum_append, ← h.fin]
    simp
  · show ∀ q ∈ e.fds ++ [_], q.dep ≤ max e.dep (f.dep + 1)
    rw [hm]
    intro q hq
    rcases List.mem_append.1 hq with hq | hq
    · exact hd q hq
    · rw [List.mem_singleton] at hq
      subst hq
      exact Nat.le_refl _
  · show ∃ q ∈ e.fds ++ [_], q.dep = max e.dep (f.dep + 1)
    rw [hm]
    exact ⟨_, List.mem_append_right _ (List.mem_singleton.2 rfl), rfl⟩
theorem InvX.step {lim : Nat} {s0 : XpS} {e : ExS} (h : InvX lim s0 e) (k : Nat) : InvX lim s0 { e with steps := k } := ⟨h.f, ⟨h.n.len, h.n.fin, h.n.dep⟩, h.s⟩
/-- One step is looked at. -/
theorem one_is {lim : Nat} {s0 : XpS} {e : ExS} (h : InvX lim s0 e) {i : Nat} {f : Fd} (hf : e.fds[i]? = some f) {a : ActP} (ha : a ∈ actsX f.s) (hd : ∀ q ∈ e.fds, q.dep ≤ f.dep + 1) :
    match oneX lim i f a e with
    | .go e' => InvX lim s0 e' ∧ (∃ R, e'.fds = e.fds ++ R) ∧ (∀ q ∈ e'.fds, q.dep ≤ f.dep + 1) ∧ ∃ q ∈ e'.fds, q.s = canX (perfX f.s a)
    | .long => True
    | .bad e' => BadX lim s0 e' := by
  unfold oneX
  dsimp only
  by_cases hk : knownX e (canX (perfX f.s a)) = true
  · rw [if_pos hk]
    exact ⟨h.step _, ⟨[], by simp⟩, hd, known_iff.1 hk⟩
  · rw [if_neg hk]
    by_cases hl : e.fds.length = lim
    · rw [if_pos hl]
      trivial
    · rw [if_neg hl]
      have hnew : ∀ q ∈ e.fds, q.s ≠ canX (perfX f.s a) := fun q hq he => hk (known_iff.2 ⟨q, hq, he⟩)
      obtain ⟨hN, hdp⟩ := h.n.push hl i f a (canX (perfX f.s a)) hd
      have hF := h.f.push hf ha hnew hd
      by_cases hs : safeG (canX (perfX f.s a)).g = true
      · rw [if_pos hs]
        refine ⟨⟨hF, hN, fun q hq => ?_⟩, ⟨_, rfl⟩, fun q hq => ?_, ⟨_, List.mem_append_right _ (List.mem_singleton.2 rfl), rfl⟩⟩
        · rcases List.mem_append.1 hq with hq | hq
          · exact h.s q hq
          · rw [List.mem_singleton] at hq
            subst hq
            exact hs
        · rcases List.mem_append.1 hq with hq | hq
          · exact hd q hq
          · rw [List.mem_singleton] at hq
            subst hq
            exact Nat.le_refl _
      · rw [if_neg hs]
        exact ⟨hF, hN, e.fds, _, rfl, h.s, by simpa using hs, hdp.symm⟩
theorem inner_is {lim : Nat} {s0 : XpS} {i : Nat} {f : Fd} : ∀ (l : List ActP) {e : ExS}, InvX lim s0 e → e.fds[i]? = some f → (∀ a ∈ l, a ∈ actsX f.s) → (∀ q ∈ e.fds, q.dep ≤ f.dep + 1) →
    match innerX lim i f l e with
    | .go e' => InvX lim s0 e' ∧ (∃ R, e'.fds = e.fds ++ R) ∧ (∀ q ∈ e'.fds, q.dep ≤ f.dep + 1) ∧ ∀ a ∈ l, ∃ q ∈ e'.fds, q.s = canX (perfX f.s a)
    | .long => True
    | .bad e' => BadX lim s0 e'
  | [], e, h, hf, ha, hd => ⟨h, ⟨[], by simp⟩, hd, fun a ha => by cases ha⟩
  | a :: l, e, h, hf, ha, hd => by
    have h1 := one_is h hf (ha a (by simp)) hd
    rw [innerX]
    generalize oneX lim i f a e = o at h1
    cases o with
    | go e' =>
      obtain ⟨g1, ⟨R, hR⟩, g3, q, hq, g4⟩ := h1
      have h2 := inner_is l g1 (i := i) (f := f) (by rw [hR]; exact get_app_l hf) (fun b hb => ha b (by simp [hb])) g3
      dsimp only at h2 ⊢
      generalize innerX lim i f l e' = o2 at h2
      cases o2 with
      | go e2 =>
        obtain ⟨k1, ⟨R2, hR2⟩, k3, k4⟩ := h2
        refine ⟨k1, ⟨R ++ R2, by rw [hR2, hR, List.append_assoc]⟩, k3, fun b hb => ?_⟩
        rcases List.mem_cons.1 hb with rfl | hb
        · exact ⟨q, by rw [hR2]; exact List.mem_append_left _ hq, g4⟩
        · exact k4 b hb
      | long => trivial
      | bad e2 => exact h2
    | long => trivial
    | bad e' => exact h1
theorem outer_is {lim : Nat} {s0 : XpS} : ∀ (n i : Nat) {e : ExS}, InvX lim s0 e → lim ≤ i + n → (∀ (f : Fd) , e.fds[i]? = some f → ∀ q ∈ e.fds, q.dep ≤ f.dep + 1) → i ≤ e.fds.length → Closed e.fds i →
    match outerX lim n i e with
    | .go e' => InvX lim s0 e' ∧ Closed e'.fds e'.fds.length
    | .long => True
    | .bad e' => BadX lim s0 e'
  | 0, i, e, h, hn, hd, hi, hc => ⟨h, by
    have := h.n.len
    have : i = e.fds.length := by omega
    rw [← this]
    exact hc⟩
  | n + 1, i, e, h, hn, hd, hi, hc => by
    rw [outerX]
    cases hf : e.fds[i]? with
    | none =>
      have := List.getElem?_eq_none_iff.1 hf
      have : i = e.fds.length := by omega
      exact ⟨h, by rw [← this]; exact hc⟩
    | some f =>
      have h1 := inner_is (actsX f.s) h hf (fun a ha => ha) (hd f hf)
      dsimp only
      generalize innerX lim i f (actsX f.s) e = o at h1
      cases o with
      | go e' =>
        obtain ⟨g1, ⟨R, hR⟩, g3, g4⟩ := h1
        have hil := (List.getElem?_eq_some_iff.1 hf).1
        refine outer_is n (i + 1) g1 (by omega) (fun f2 hf2 q hq => ?_) (by rw [hR, List.length_append]; omega) (fun j fj hj hfj a ha => ?_)
        · have hm : f.dep ≤ f2.dep := by
            have hff : e'.fds[i]? = some f := by rw [hR]; exact get_app_l hf
            have hmono := List.pairwise_iff_getElem.1 g1.f.mono i (i + 1) (List.getElem?_eq_some_iff.1 hff).1 (List.getElem?_eq_some_iff.1 hf2).1 (by omega)
            rw [(List.getElem?_eq_some_iff.1 hff).2, (List.getElem?_eq_some_iff.1 hf2).2] at hmono
            exact hmono
          have := g3 q hq
          omega
        · by_cases hji : j = i
          · subst hji
            have : e'.fds[j]? = some f := by rw [hR]; exact get_app_l hf
            rw [hfj] at this
            cases this
            exact g4 a ha
          · have hjl : e.fds[j]? = some fj := by
              rw [hR, List.getElem?_append_left (by omega)] at hfj
              exact hfj
            obtain ⟨q, hq, h5⟩ := hc j fj (by omega) hjl a ha
            exact ⟨q, by rw [hR]; exact List.mem_append_left _ hq, h5⟩
      | long => trivial
      | bad e' => exact h1
theorem first_X {lim : Nat} (hl : 1 ≤ lim) {s0 : XpS} (hs : safeG s0.g = true) : InvX lim s0 (firstX s0) :=
  ⟨⟨⟨_, rfl, rfl, rfl⟩, fun j f hj hf => by
    have : j < 1 := (List.getElem?_eq_some_iff.1 hf).1
    omega, List.pairwise_singleton _ _, List.pairwise_singleton _ _⟩, ⟨hl, by simp [firstX], fun f hf => by
    rw [List.mem_singleton.1 hf]
    exact Nat.le_refl _, ⟨_, List.mem_singleton.2 rfl, rfl⟩⟩, fun f hf => by
    rw [List.mem_singleton.1 hf]
    exact hs⟩
theorem explore_is {lim : Nat} (hl : 1 ≤ lim) {s0 : XpS} (hs : safeG s0.g = true) :
    match exploreX lim s0 with
    | .go e => InvX lim s0 e ∧ Closed e.fds e.fds.length
    | .long => True
    | .bad e => BadX lim s0 e := by
  unfold exploreX
  rw [if_pos hs]
  exact outer_is lim 0 (first_X hl hs) (by omega) (fun f hf q hq => by
    rw [List.mem_singleton.1 hq]
    exact Nat.zero_le _) (Nat.zero_le _) fun j f hj => by omega
/-- The schedule of a state leads to it. -/
inductive Leads : XpS → List ActP → XpS → Prop
  | nil (s : XpS) : Leads s [] s
  | snoc {s t : XpS} {l : List ActP} {a : ActP} (h : Leads s l t) (ha : a ∈ actsX t) : Leads s (l ++ [a]) (canX (perfX t a))
theorem sched_is {s0 : XpS} {L : List Fd} (h : InvF s0 L) : ∀ (n j : Nat) f, j ≤ n → L[j]? = some f → (schedX L n j).length = f.dep ∧ Leads s0 (schedX L n j) f.s
  | 0, j, f, hj, hf => by
    have : j = 0 := by omega
    subst this
    obtain ⟨g, hg, h1, h2⟩ := h.z
    rw [hf] at hg
    cases hg
    rw [schedX, h1, h2]
    exact ⟨rfl, .nil _⟩
  | n + 1, j, f, hj, hf => by
    rw [schedX]
    by_cases hz : j = 0
    · subst hz
      obtain ⟨g, hg, h1, h2⟩ := h.z
      rw [hf] at hg
      cases hg
      rw [if_pos rfl, h1, h2]
      exact ⟨rfl, .nil _⟩
    · rw [if_neg hz, hf]
      obtain ⟨g1, q, g2, g3, g4, g5⟩ := h.st j f (by omega) hf
      obtain ⟨k1, k2⟩ := sched_is h n f.fr q (by omega) g2
      dsimp only
      rw [List.length_append, k1, g4, g5]
      exact ⟨rfl, .snoc k2 g3⟩
end Go.Proofs.YtphlhadgcfndhaaDoor.Abs
end
section
namespace Go.Proofs.YtphlhadgcfndhaaDoor.Abs
open Go Go.RowKit
set_option linter.unusedVariables false
set_option linter.unusedSimpArgs false
set_option maxHeartbeats 4000000
theorem fold1 : ∀ (l : List V2) (a : V2), V4 a → (∀ v ∈ l, V4 v) → V4 (l.foldl (mergeI true) a) ∧ Sub a (l.foldl (mergeI true) a) ∧ ∀ v ∈ l, Sub v (l.foldl (mergeI true) a)
  | [], a, ha, _ => ⟨ha, Sub.refl _, fun v hv => by cases hv⟩
  | x :: l, a, ha, hl => by
    have hx := hl x (by simp)
    obtain ⟨h1, h2, h3⟩ := fold1 l (mergeI true a x) (ha.merge hx) fun v hv => hl v (by simp [hv])
    refine ⟨h1, (sub_l ha.val hx.val).trans h2, fun v hv => ?_⟩
    rcases List.mem_cons.1 hv with rfl | hv
    · exact (sub_r ha.val hx.val).trans h2
    · exact h3 v hv
theorem fold2 : ∀ (ls : List (List V2)) (a : V2), V4 a → (∀ l ∈ ls, ∀ v ∈ l, V4 v) →
    V4 (ls.foldl (fun a l => l.foldl (mergeI true) a) a) ∧ Sub a (ls.foldl (fun a l => l.foldl (mergeI true) a) a) ∧ ∀ l ∈ ls, ∀ v ∈ l, Sub v (ls.foldl (fun a l => l.foldl (mergeI true) a) a)
  | [], a, ha, _ => ⟨ha, Sub.refl _, fun v hv => by cases hv⟩
  | l :: ls, a, ha, hl => by
    obtain ⟨k1, k2, k3⟩ := fold1 l a ha (hl l (by simp))
    obtain ⟨h1, h2, h3⟩ := fold2 ls (l.foldl (mergeI true) a) k1 fun v hv => hl v (by simp [hv])
    refine ⟨h1, k2.trans h2, fun q hq v hv => ?_⟩
    rcases List.mem_cons.1 hq with rfl | hq
    · exact (k3 v hv).trans h2
    · exact h3 q hq v hv
theorem all_4 {ins : List (List V2)} (h : ∀ l ∈ ins, ∀ v ∈ l, V4 v) : V4 (allIns ins) := (fold2 ins [] V4.nil h).1
theorem all_sub {ins : List (List V2)} (h : ∀ l ∈ ins, ∀ v ∈ l, V4 v) : ∀ l ∈ ins, ∀ v ∈ l, Sub v (allIns ins) := (fold2 ins [] V4.nil h).2.2
/-- Decisions are right where they name inputs, and form a chain. -/
theorem safe_of {g : GrS} {n N : Nat} (hw : GrW g n N) (hv : InvV (allIns g.ins) g) (hc : ∀ d ∈ g.decs, ∀ e ∈ g.decs, Sub d.v e.v ∨ Sub e.v d.v) : safeG g = true := by
  unfold safeG
  rw [List.all_eq_true]
  intro i hi
  cases hd : g.decs[i]? with
  | none => rfl
  | some d =>
    have hm := List.mem_of_getElem? hd
    obtain ⟨h1, q, l, p, v, e1, e2, e3, e4, e5, e6, e7⟩ := hv.de d hm
    have hd4 := hw.d d hm
    have hv4 := (hw.i l (List.mem_of_getElem? e2)).2 v (List.mem_of_getElem? e4)
    have ha4 : V4 (allIns g.ins) := all_4 fun l hl => (hw.i l hl).2
    show safeAt g (allIns g.ins) i d = true
    have hin : inpX g d = some v := by
      unfold inpX
      rw [if_pos ⟨by omega, e3⟩, e1, show ((q : Int)).toNat = q from rfl, e2]
      exact e4
    unfold safeAt
    rw [hin]
    simp only [Bool.and_eq_true]
    refine ⟨(leI_sub hv4.val hd4.val).2 e5, (leI_sub hd4.val ha4.val).2 h1, ?_⟩
    rw [List.all_eq_true]
    intro o ho
    have hom := List.mem_of_mem_take ho
    have ho4 := hw.d o hom
    rw [decide_eq_true_eq]
    unfold compI
    split
    · decide
    · split
      · decide
      · rename_i h2
        rw [if_pos]
        · decide
        · rcases hc d hm o hom with h3 | h3
          · exact absurd ((leI_sub hd4.val ho4.val).2 h3) h2
          · exact (leI_sub ho4.val hd4.val).2 h3
theorem safe_nil {g : GrS} (h : g.decs = []) : safeG g = true := by
  unfold safeG
  rw [h]
  rfl
/-! ### chains -/
theorem can_C {H : Nat → V2 → Prop} {base : List V2} {g : GrS} (h : InvC H base g) : InvC H base (canG g) :=
  ⟨h.val, h.ch, h.up, h.bs, fun k hk => h.rp k (sortP_mem.1 hk), fun k hk => h.pk k (sortP_mem.1 hk), h.ak, fun d hd => by
    obtain ⟨e, he, rfl⟩ := List.mem_map.1 hd
    exact h.de e he⟩
theorem lose_C {H : Nat → V2 → Prop} {base : List V2} {g : GrS} (h : InvC H base g) (i : Nat) : InvC H base { g with pks := delL g.pks i } :=
  ⟨h.val, h.ch, h.up, h.bs, fun k hk => h.rp k (mem_delL hk), fun k hk => h.pk k (mem_delL hk), h.ak, h.de⟩
/-! ### small numbers -/
structure XB (g : GrS) : Prop where
  r : ∀ (i : Nat) p x, g.props[i]? = some p → g.nxt[i]? = some x → p.r ≤ 1 + sizV p.v + x
  k : ∀ k ∈ g.pks, 0 ≤ k.round ∧ k.round ≤ 16
  a : ∀ p ∈ g.props, ∀ a ∈ p.acks, 0 ≤ a ∧ a < 12
theorem XB.rle {g : GrS} {n N : Nat} (hw : GrW g n N) (h : XB g) {p : PrS} (hp : p ∈ g.props) : 0 ≤ p.r ∧ p.r ≤ 16 := by
  obtain ⟨i, hi⟩ := List.mem_iff_getElem?.1 hp
  have hil := (List.getElem?_eq_some_iff.1 hi).1
  have e1 := hw.nn.x
  have e3 := hw.nn.p
  obtain ⟨x, hx⟩ : ∃ x, g.nxt[i]? = some x := ⟨_, List.getElem?_eq_getElem (by omega)⟩
  have h1 := h.r i p x hi hx
  have h2 := (siz_le (hw.p p hp).v).2
  have h3 := (hw.x i x hx).2
  have h4 := (hw.p p hp).r0
  omega
theorem can_B {g : GrS} (h : XB g) : XB (canG g) := ⟨h.r, fun k hk => h.k k (sortP_mem.1 hk), h.a⟩
theorem lose_B {g : GrS} (h : XB g) (i : Nat) : XB { g with pks := delL g.pks i } := ⟨h.r, fun k hk => h.k k (mem_delL hk), h.a⟩
theorem forg_B {g : GrS} (h : XB g) (i : Nat) : XB (forgG g i) := ⟨h.r, h.k, h.a⟩
theorem new_B {n : Nat} {ins : List (List V2)} (hv : ∀ l ∈ ins, ∀ v ∈ l, V4 v) : XB (newG n ins) := by
  have h := new_is n ins
  refine ⟨fun i p x hp hx => ?_, fun k hk => ?_, fun p hp a ha => ?_⟩
  · obtain ⟨l, hl, rfl⟩ := new_pr hp
    have h0 := (siz_le (headV_4 (hv l (List.mem_of_getElem? hl)))).1
    rw [h.nxt] at hx
    have := (List.mem_replicate.1 (List.mem_of_getElem? hx)).2
    show (1 : Int) ≤ 1 + sizV (headV l) + x
    omega
  · obtain ⟨i, l, _, _, h1⟩ := h.pk k hk
    obtain ⟨a, _, rfl⟩ := mem_propsTo.1 h1
    show (0 : Int) ≤ 1 ∧ (1 : Int) ≤ 16
    omega
  · obtain ⟨i, hi⟩ := List.mem_iff_getElem?.1 hp
    obtain ⟨l, hl, rfl⟩ := new_pr hi
    cases ha
theorem case_B {g : GrS} {n N : Nat} (hw : GrW g n N) (h : XB g) {i : Nat} {k : PkS} (hk : g.pks[i]? = some k) {g' : GrS} (c : DCase g i k g') : XB g' := by
  have hkm := List.mem_of_getElem? hk
  obtain ⟨hkv, hka, q, l0, hkp, hl0, hl0'⟩ := hw.k k hkm
  have hal := hw.al.2
  have hkr := h.k k hkm
  cases c with
  | ask a hr ha =>
    refine ⟨h.r, fun k2 hk2 => ?_, h.a⟩
    rcases List.mem_append.1 hk2 with hk2 | hk2
    · exact h.k k2 (mem_delL hk2)
    · rw [List.mem_singleton.1 hk2]
      exact hkr
  | idle p hr hp hdc => exact ⟨h.r, fun k2 hk2 => h.k k2 (mem_delL hk2), h.a⟩
  | again p hr hp hdc hkr2 hle =>
    have hpm := List.mem_of_getElem? hp
    have hpw := hw.p p hpm
    have hs := siz_lt hpw.v hkv hle
    have hN := nextS_W hpw hkv
    have hnr : ∀ x, g.nxt[k.prop.toNat]? = some x → (nextS p k.v).r ≤ 1 + sizV (nextS p k.v).v + x := fun x hx => by
      have := h.r _ p x hp hx
      show p.r + 1 ≤ 1 + sizV (mergeI true p.v k.v) + x
      omega
    have e1 := hw.nn.x
    have e3 := hw.nn.p
    have hpl := (List.getElem?_eq_some_iff.1 hp).1
    obtain ⟨x, hx⟩ : ∃ x, g.nxt[k.prop.toNat]? = some x := ⟨_, List.getElem?_eq_getElem (by omega)⟩
    have hr16 : 0 ≤ (nextS p k.v).r ∧ (nextS p k.v).r ≤ 16 := by
      have h1 := hnr x hx
      have h2 := (siz_le hN.v).2
      have h3 := (hw.x _ x hx).2
      have h4 := hN.r0
      omega
    refine ⟨fun j p2 x2 hp2 hx2 => ?_, fun k2 hk2 => ?_, fun p2 hp2 a ha => ?_⟩
    · rcases get_set hp2 with ⟨rfl, rfl⟩ | ⟨_, hp2⟩
      · exact hnr x2 hx2
      · exact h.r j p2 x2 hp2 hx2
    · rcases List.mem_append.1 hk2 with hk2 | hk2
      · exact h.k k2 (mem_delL hk2)
      · obtain ⟨a, _, rfl⟩ := mem_propsTo.1 hk2
        exact hr16
    · rcases List.mem_or_eq_of_mem_set hp2 with hp2 | rfl
      · exact h.a p2 hp2 a ha
      · cases ha
  | ack p hr hp hdc hkr2 hle hn =>
    have hpm := List.mem_of_getElem? hp
    refine ⟨fun j p2 x2 hp2 hx2 => ?_, fun k2 hk2 => h.k k2 (mem_delL hk2), fun p2 hp2 a ha => ?_⟩
    · rcases get_set hp2 with ⟨rfl, rfl⟩ | ⟨_, hp2⟩
      · exact h.r _ p x2 hp hx2
      · exact h.r j p2 x2 hp2 hx2
    · rcases List.mem_or_eq_of_mem_set hp2 with hp2 | rfl
      · exact h.a p2 hp2 a ha
      · rcases ins_mem.1 ha with rfl | ha
        · omega
        · exact h.a p hpm a ha
  | last p l x hr hp hdc hkr2 hle hn hl hx hv =>
    have hpm := List.mem_of_getElem? hp
    refine ⟨fun j p2 x2 hp2 hx2 => ?_, fun k2 hk2 => h.k k2 (mem_delL hk2), fun p2 hp2 a ha => ?_⟩
    · rcases get_set hp2 with ⟨rfl, rfl⟩ | ⟨_, hp2⟩
      · exact h.r _ p x2 hp hx2
      · exact h.r j p2 x2 hp2 hx2
    · rcases List.mem_or_eq_of_mem_set hp2 with hp2 | rfl
      · exact h.a p2 hp2 a ha
      · rcases ins_mem.1 ha with rfl | ha
        · omega
        · exact h.a p hpm a ha
  | next p l x v hr hp hdc hkr2 hle hn hl hx hv =>
    have hpm := List.mem_of_getElem? hp
    have hpw := hw.p p hpm
    have hvv := (hw.i l (List.mem_of_getElem? hl)).2 v (List.mem_of_getElem? hv)
    have hs := siz_mono (sub_l hpw.v.val hvv.val)
    have hN := nextS_W hpw hvv
    have hnr : (nextS p v).r ≤ 1 + sizV (nextS p v).v + (x + 1) := by
      have := h.r _ p x hp hx
      show p.r + 1 ≤ 1 + sizV (mergeI true p.v v) + (x + 1)
      omega
    have hx3 := (hw.i l (List.mem_of_getElem? hl)).1
    have hxl := (List.getElem?_eq_some_iff.1 hv).1
    have hr16 : 0 ≤ (nextS p v).r ∧ (nextS p v).r ≤ 16 := by
      have h2 := (siz_le hN.v).2
      have h3 := (hw.x _ x hx)
      have h4 := hN.r0
      omega
    refine ⟨fun j p2 x2 hp2 hx2 => ?_, fun k2 hk2 => ?_, fun p2 hp2 a ha => ?_⟩
    · rcases get_set hp2 with ⟨rfl, rfl⟩ | ⟨hne, hp2⟩
      · rcases get_set hx2 with ⟨_, rfl⟩ | ⟨hne, _⟩
        · exact hnr
        · exact absurd rfl hne
      · rcases get_set hx2 with ⟨rfl, _⟩ | ⟨_, hx2⟩
        · exact absurd rfl hne
        · exact h.r j p2 x2 hp2 hx2
    · rcases List.mem_append.1 hk2 with hk2 | hk2
      · exact h.k k2 (mem_delL hk2)
      · obtain ⟨a, _, rfl⟩ := mem_propsTo.1 hk2
        exact hr16
    · rcases List.mem_or_eq_of_mem_set hp2 with hp2 | rfl
      · exact h.a p2 hp2 a ha
      · cases ha
end Go.Proofs.YtphlhadgcfndhaaDoor.Abs
end
