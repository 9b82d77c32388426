/- Joined for the claim: WAgr10 WAgr12 -/
import Derived.Test.YtphlhadgcfndhaaGreatDoorJd4
section
namespace Go.Proofs.YtphlhadgcfndhaaGreatDoor.Abs
open Go Go.RowKit
set_option linter.unusedVariables false
set_option linter.unusedSimpArgs false
set_option maxHeartbeats 4000000
/-- What a call's result names is only read from here on. -/
theorem New.pure {P : Program} {f : FuncId} {xs : List AVal} {r : AVal} {σ : Sig} {m : Nat} (h : New P f xs r σ m) (s' : St) {r' : AVal} (hw : ∀ A : Old, Weak A ⟨[(0, r)], σ, m⟩ s') (hs : look 0 s'.τ = some r') (hf : frozenV r' = true) : Pure P f xs r' := by
  refine ⟨h.1, fun w A vs hA hr => (h.2 w A vs hA hr).mono ?_⟩
  rintro e w' ⟨v, β', rfl, I, hm, hv⟩
  have hsz := I.below.size
  obtain ⟨β2, I2⟩ := hw (oldOf A) w.heap.size w 1 β' ⟨#[v], []⟩ w' ⟨I, rfl, rfl, (fun t x hx => by
    simp only [look] at hx
    split at hx
    · rename_i ht
      cases hx
      subst ht
      exact ⟨v, rfl, hv⟩
    · cases hx), hm, ⟨fun id => BLe.no _, fun x hx => ⟨⟨hx.1, by have := hx.2.1; omega, fun id b k cap hb e => by
      have := (I.lo id b k cap hb).1
      have := hx.2.1
      omega⟩, I.below.block x hx.2.1⟩, fun x ob h => by cases h⟩⟩
  obtain ⟨u, hu, hr3⟩ := I2.tmps 0 r' hs
  have hu' : v = u := by simpa using hu
  subst hu'
  exact ⟨v, rfl, (hr3.frozen hf).mono (fun x hx => ⟨⟨hx.1, hx.2.1⟩, rfl⟩) (BLe.refl' noB), I.below⟩
theorem group_frz (A : Old) (g : GrS) : Weak A ⟨[(0, .agg (refG 0 g))], sigG 0 g, 6⟩ ⟨[(0, .agg (encGr g))], [], 6⟩ := by
  refine (Weak.freeze 0 ⟨1, g.accs.map encC⟩ [] _ (by simp) (by simp)).trans ?_
  refine (Weak.freeze 1 ⟨5, g.props.map encPr'⟩ [] _ (by simp) (by simp)).trans ?_
  refine (Weak.freeze 2 ⟨1, g.ins.map encIn⟩ [] _ (by simp) (by simp)).trans ?_
  refine (Weak.freeze 3 ⟨1, g.nxt.map encn⟩ [] _ (by simp) (by simp)).trans ?_
  refine (Weak.freeze 4 ⟨5, g.pks.map encPk⟩ [] _ (by simp) (by simp)).trans ?_
  exact (Weak.freeze 5 ⟨4, g.decs.map encDe⟩ [] _ (by simp) (by simp)).be (by simp)
theorem New.group {P : Program} {f : FuncId} {xs : List AVal} {g : GrS} (h : New P f xs (.agg (refG 0 g)) (sigG 0 g) 6) : Pure P f xs (.agg (encGr g)) := h.pure _ (fun A => group_frz A g) rfl rfl
theorem gclone_pure (g : GrS) (hg : GrB g) : Pure Tryz.prog 72 [.agg (encGr g)] (.agg (encGr g)) := (gclone_new g hg).group
def delivZ (g : GrS) (i : Int) : GrS := if 0 ≤ i ∧ i < g.pks.length then delivS g i.toNat else g
theorem deliv_pure (g : GrS) {n N : Nat} (h : GrW g n N) (hN : N < 100000000) (i : Int) : Pure Tryz.prog 37 [.agg (encGr g), .c (cI i)] (.agg (encGr (delivZ g i))) := by
  unfold delivZ
  by_cases hi : 0 ≤ i ∧ i < g.pks.length
  · rw [if_pos hi]
    have := (deliv_new g h hN i.toNat (by omega)).group
    rwa [show ((i.toNat : Nat) : Int) = i by omega] at this
  · rw [if_neg hi]
    exact (deliv_no g h hN i (by omega)).group
def loseS (g : GrS) (i : Int) : GrS := if 0 ≤ i ∧ i < g.pks.length then { g with pks := delL g.pks i.toNat } else g
theorem lose_new (g : GrS) {n N : Nat} (h : GrW g n N) (hN : N < 100000000) (i : Int) : New Tryz.prog 38 [.agg (encGr g), .c (cI i)] (.agg (refG 0 (loseS g i))) (sigG 0 (loseS g i)) 6 := by
  have hc := gclone_new g (h.b hN)
  have hkl := h.kl
  by_cases hi : 0 ≤ i ∧ i < g.pks.length
  · obtain ⟨j, rfl⟩ : ∃ j : Nat, i = j := ⟨i.toNat, by omega⟩
    have hj : j < g.pks.length := by omega
    have hdl := delL_len g.pks j hj
    have hdc := del_con (g.pks.map encPk) (flat_encPk _) j (by simpa using hj) (by simp; omega)
    rw [delL_map, List.length_map, ← hdl] at hdc
    have hic : IntKind.i64.wrap ((j : Int) + 1) = (j : Int) + 1 := wrap_s _ (by omega)
    unfold loseS
    rw [if_pos hi, Int.toNat_natCast]
    obtain ⟨accs, props, ins, nxt, pks, decs, steps⟩ := g
    dsimp only at *
    obtain ⟨ks, hks⟩ : ∃ ks, ks = delL pks j := ⟨_, rfl⟩
    rw [← hks] at hdc hdl ⊢
    have htk : (ks.map encPk ++ [zeroK]).take ks.length = ks.map encPk := by
      rw [List.take_append_of_le_length (by simp), List.take_of_length_le (by simp)]
    refine new_drop teOk Tryz.func38 (by kernel_rfl) (c := _) rfl (N := 24) rfl (rs := [Go.ResultVar.cell 4 34]) rfl (by simp) fun base A w0 hA => ?_
    refine AW.st teOk [] (by simp [-Option.some.injEq] <;> rfl) trivial ?_
    refine AW.st teOk [.new (.agg (refG 0 ⟨accs, props, ins, nxt, pks, decs, steps⟩)) (sigG 0 ⟨accs, props, ins, nxt, pks, decs, steps⟩) 6] (by simp [-Option.some.injEq] <;> rfl) ?_ ?_
    · exact hc
    refine AW.seq ?_
    refine AW.st teOk [] (by simp [hj, -Option.some.injEq] <;> rfl) trivial ?_
    refine AW.iff true (by simp [hj]) (fun _ => ?_) (fun h => by cases h)
    refine AW.to (s2 := ⟨[(1, .c (cI j)), (2, .c (.ptr 0 0 0)), (4, .c (.ptr 1 0 0))], [(0, ⟨7, [[.ref 2 0 accs.length, .ref 3 0 props.length, .ref 4 0 ins.length, .ref 5 0 nxt.length, .ref 1000001 0 pks.length, .ref 6 0 decs.length, cI steps]]⟩), (1, ⟨7, [nilG]⟩), (2, ⟨1, accs.map encC⟩), (3, ⟨5, props.map encPr'⟩), (4, ⟨1, ins.map encIn⟩), (5, ⟨1, nxt.map encn⟩), (6, ⟨4, decs.map encDe⟩), (1000001, ⟨5, pks.map encPk⟩)], 1000015⟩) (Weak.normS hA [1, 2, 4] [(2, 0), (4, 1)] [(3, 2), (4, 3), (5, 4), (6, 5), (8, 6), (7, 1000001)] [0] 1000015 _ (by simp) (by simp) (by simp)) (by simp) ?_
    refine AW.text teOk (ans := [.own (.c (.ref 1000001 0 ks.length)) [(1000001, ⟨5, ks.map encPk ++ [zeroK]⟩)] 1000040]) (by simp [hic, -Option.some.injEq] <;> rfl) ?_ ?_
    · exact hdc
    refine AW.st teOk [] (by simp [-Option.some.injEq] <;> rfl) trivial ?_
    refine AW.ret ⟨.inr rfl, _, _, Weak.refl _, by simp <;> rfl, ?_⟩
    refine (Weak.shrink 1000001 ks.length _ (by simp <;> rfl)).trans ?_
    exact Weak.be (Weak.normS hA [0] [] [(2, 0), (3, 1), (4, 2), (5, 3), (1000001, 4), (6, 5)] [] 6 _ (by simp [putA]) (by simp [putA]) (by simp [putA, htk])) (by simp [putA, htk])
  · unfold loseS
    rw [if_neg hi]
    obtain ⟨accs, props, ins, nxt, pks, decs, steps⟩ := g
    try dsimp only at *
    refine new_drop teOk Tryz.func38 (by kernel_rfl) (c := _) rfl (N := 24) rfl (rs := [Go.ResultVar.cell 4 34]) rfl (by simp) fun base A w0 hA => ?_
    refine AW.st teOk [] (by simp [-Option.some.injEq] <;> rfl) trivial ?_
    refine AW.st teOk [.new (.agg (refG 0 ⟨accs, props, ins, nxt, pks, decs, steps⟩)) (sigG 0 ⟨accs, props, ins, nxt, pks, decs, steps⟩) 6] (by simp [-Option.some.injEq] <;> rfl) ?_ ?_
    · exact hc
    refine AW.mid (fun s => s = ⟨[(2, .c (.ptr 0 0 0)), (4, .c (.ptr 1 0 0))], (0, ⟨7, [refG 2 ⟨accs, props, ins, nxt, pks, decs, steps⟩]⟩) :: (1, ⟨7, [nilG]⟩) :: sigG 2 ⟨accs, props, ins, nxt, pks, decs, steps⟩, 8⟩) ?_ ?_
    · by_cases hi0 : i ≥ 0
      · have hi1 : ¬ i < pks.length := by omega
        refine AW.st teOk [] (by simp [hi0, hi1, -Option.some.injEq] <;> rfl) trivial ?_
        refine AW.iff false (by simp [hi0, hi1]) (fun h => by cases h) (fun _ => AW.skip ?_)
        exact ⟨_, Weak.normS hA [2, 4] [(2, 0), (4, 1)] [(3, 2), (4, 3), (5, 4), (6, 5), (7, 6), (8, 7)] [0] 8 _ (by simp) (by simp) (by simp), by simp⟩
      · refine AW.st teOk [] (by simp [hi0, -Option.some.injEq] <;> rfl) trivial ?_
        refine AW.iff false (by simp [hi0]) (fun h => by cases h) (fun _ => AW.skip ?_)
        exact ⟨_, Weak.normS hA [2, 4] [(2, 0), (4, 1)] [(3, 2), (4, 3), (5, 4), (6, 5), (7, 6), (8, 7)] [0] 8 _ (by simp) (by simp) (by simp), by simp⟩
    rintro s rfl
    refine AW.st teOk [] (by simp [-Option.some.injEq] <;> rfl) trivial ?_
    refine AW.ret ⟨.inr rfl, _, _, Weak.refl _, by simp <;> rfl, ?_⟩
    exact Weak.be (Weak.normS hA [0] [] [(2, 0), (3, 1), (4, 2), (5, 3), (6, 4), (7, 5)] [] 6 _ (by simp) (by simp) (by simp)) (by simp)
def resendS (g : GrS) (i : Int) : GrS := if validS g i = true then (match g.props[i.toNat]? with
  | some p => if p.dec = false then sendS g i.toNat p else g
  | none => g) else g
theorem lose_pure (g : GrS) {n N : Nat} (h : GrW g n N) (hN : N < 100000000) (i : Int) : Pure Tryz.prog 38 [.agg (encGr g), .c (cI i)] (.agg (encGr (loseS g i))) := (lose_new g h hN i).group
/-- Which packet a number chooses. -/
def pickI (x : Int) (k : Nat) : Int := (x.tmod k + k).tmod k
theorem pick_lt (x : Int) {k : Nat} (hk : 0 < k) : 0 ≤ pickI x k ∧ pickI x k < k := by
  unfold pickI
  have h1 := Int.tmod_lt_of_pos x (show (0 : Int) < k by omega)
  have h2 : -(k : Int) < x.tmod k := by
    have := Int.lt_tmod_of_pos x (show (0 : Int) < k by omega)
    omega
  exact ⟨Int.tmod_nonneg _ (by omega), Int.tmod_lt_of_pos _ (by omega)⟩
def stepS (g : GrS) (x : Int) : GrS := if g.pks.length = 0 then g else delivS g (pickI x g.pks.length).toNat
def runS (g : GrS) (l : List Int) : GrS := l.foldl stepS g
theorem step_W {g : GrS} {n N : Nat} (h : GrW g n N) (x : Int) : GrW (stepS g x) n (N + 14) := by
  unfold stepS
  split
  · exact ⟨h.nn, h.n4, h.al, h.a, fun p hp => (h.p p hp).mono (by omega), h.i, h.x, h.k, h.d, by have := h.kl; omega, by have := h.dl; omega, by have := h.s; omega⟩
  · rename_i h0
    have := pick_lt x (k := g.pks.length) (by omega)
    exact deliv_W h (by omega)
theorem run_W {n : Nat} : ∀ (l : List Int) {g : GrS} {N : Nat}, GrW g n N → GrW (runS g l) n (N + 14 * l.length)
  | [], g, N, h => h
  | x :: l, g, N, h => by
    have := run_W l (step_W h x)
    rw [List.length_cons, show N + 14 * (l.length + 1) = N + 14 + 14 * l.length by omega]
    exact this
theorem runS_app (g : GrS) (l : List Int) (x : Int) : runS g (l ++ [x]) = stepS (runS g l) x := by
  unfold runS
  rw [List.foldl_append]
  rfl
def drainS : Nat → GrS → GrS
  | 0, g => g
  | m + 1, g => if g.pks.length = 0 then g else drainS m (delivS g 0)
theorem drain_W {n : Nat} : ∀ (m : Nat) {g : GrS} {N : Nat}, GrW g n N → GrW (drainS m g) n (N + 14 * m)
  | 0, g, N, h => h
  | m + 1, g, N, h => by
    unfold drainS
    split
    · exact ⟨h.nn, h.n4, h.al, h.a, fun p hp => (h.p p hp).mono (by omega), h.i, h.x, h.k, h.d, by have := h.kl; omega, by have := h.dl; omega, by have := h.s; omega⟩
    · have := drain_W m (deliv_W h (i := 0) (by omega))
      rw [show N + 14 * (m + 1) = N + 14 + 14 * m by omega]
      exact this
theorem drain_stop {g : GrS} (h : g.pks.length = 0) : ∀ m : Nat, drainS m g = g
  | 0 => rfl
  | m + 1 => by unfold drainS; rw [if_pos h]
theorem drain_succ (m : Nat) (g : GrS) : drainS (m + 1) g = if g.pks.length = 0 then g else drainS m (delivS g 0) := rfl
theorem drain_add : ∀ (a b : Nat) (g : GrS), drainS (a + b) g = drainS b (drainS a g)
  | 0, b, g => by rw [Nat.zero_add]; rfl
  | a + 1, b, g => by
    rw [show a + 1 + b = (a + b) + 1 by omega, drain_succ, drain_succ]
    by_cases h : g.pks.length = 0
    · rw [if_pos h, if_pos h, drain_stop h b]
    · rw [if_neg h, if_neg h, drain_add a b]
/-- Enough steps. -/
theorem drain_end {n : Nat} : ∀ (m : Nat) {g : GrS} {N : Nat}, GrW g n N → pot g ≤ m → (drainS m g).pks.length = 0
  | 0, g, N, h, hp => by
    have := pot_nn h
    show g.pks.length = 0
    omega
  | m + 1, g, N, h, hp => by
    unfold drainS
    split
    · rename_i h0
      exact h0
    · rename_i h0
      have hi : 0 < g.pks.length := by omega
      have := case_pot h (List.getElem?_eq_getElem hi) (deliv_case h (List.getElem?_eq_getElem hi))
      exact drain_end m (deliv_W h hi) (by omega)
end Go.Proofs.YtphlhadgcfndhaaGreatDoor.Abs
end
section
namespace Go.Proofs.YtphlhadgcfndhaaGreatDoor.Abs
open Go Go.RowKit
set_option linter.unusedVariables false
set_option linter.unusedSimpArgs false
set_option maxHeartbeats 4000000
def headV (l : List V2) : V2 := l.headD []
def first0 (n len : Nat) : GrS := ⟨List.replicate n [], [], [], List.replicate len 0, [], [], 0⟩
def addS (n : Nat) (g : GrS) (l : List V2) : GrS :=
  let g1 : GrS := { g with ins := g.ins ++ [l], props := g.props ++ [newS n (headV l)] }
  if l = [] then g1 else sendS g1 g.props.length (newS n (headV l))
def newG (n : Nat) (ins : List (List V2)) : GrS := ins.foldl (addS n) (first0 n ins.length)
theorem newG_app (n : Nat) (g : GrS) (l : List (List V2)) (x : List V2) : (l ++ [x]).foldl (addS n) g = addS n (l.foldl (addS n) g) x := by
  rw [List.foldl_append]
  rfl
structure NewI (n len : Nat) (done : List (List V2)) (g : GrS) : Prop where
  accs : g.accs = List.replicate n []
  props : g.props = done.map fun l => newS n (headV l)
  ins : g.ins = done
  nxt : g.nxt = List.replicate len 0
  decs : g.decs = []
  steps : g.steps = 0
  pl : g.pks.length ≤ n * done.length
  pw : pkW g.pks ≤ 2 * (n * done.length : Nat)
  pk : ∀ k ∈ g.pks, ∃ (i : Nat) (l : List V2), done[i]? = some l ∧ l ≠ [] ∧ k ∈ propsTo i (newS n (headV l)) n
  kp : ∀ (i : Nat) (l : List V2), done[i]? = some l → l ≠ [] → ∀ k ∈ propsTo i (newS n (headV l)) n, k ∈ g.pks
theorem add_I {n len : Nat} {done : List (List V2)} {g : GrS} (h : NewI n len done g) (l : List V2) : NewI n len (done ++ [l]) (addS n g l) := by
  have hmul : n * (done.length + 1) = n * done.length + n := by rw [Nat.mul_succ]
  have hlen : g.props.length = done.length := by rw [h.props, List.length_map]
  have old : ∀ {i : Nat} {l' : List V2}, done[i]? = some l' → (done ++ [l])[i]? = some l' := fun {i l'} hi => by
    rw [List.getElem?_append_left (List.getElem?_eq_some_iff.1 hi).1]
    exact hi
  unfold addS
  by_cases hl : l = []
  · simp only [if_pos hl]
    refine ⟨h.accs, by simp [h.props], by simp [h.ins], h.nxt, h.decs, h.steps, ?_, ?_, fun k hk => ?_, fun i l' hi hne k hk => ?_⟩
    · rw [List.length_append, List.length_singleton, hmul]
      have := h.pl
      show g.pks.length ≤ _
      omega
    · rw [List.length_append, List.length_singleton, hmul]
      have := h.pw
      show pkW g.pks ≤ _
      omega
    · obtain ⟨i, l', h1, h2, h3⟩ := h.pk k hk
      exact ⟨i, l', old h1, h2, h3⟩
    · rcases Nat.lt_or_ge i done.length with hi' | hi'
      · rw [List.getElem?_append_left hi'] at hi
        exact h.kp i l' hi hne k hk
      · rw [List.getElem?_append_right hi'] at hi
        have := (List.getElem?_eq_some_iff.1 hi).1
        rw [List.length_singleton] at this
        rw [show i - done.length = 0 by omega] at hi
        cases hi
        exact absurd hl hne
  · simp only [if_neg hl, sendS]
    have hnn : (newS n (headV l)).n.toNat = n := by show ((n : Int)).toNat = n; omega
    rw [hnn, hlen]
    refine ⟨h.accs, by simp [h.props], by simp [h.ins], h.nxt, h.decs, h.steps, ?_, ?_, fun k hk => ?_, fun i l' hi hne k hk => ?_⟩
    · simp only [List.length_append, List.length_singleton, propsTo_len]
      rw [hmul]
      have := h.pl
      omega
    · simp only [List.length_append, List.length_singleton]
      rw [pkW_app, pkW_to, hmul]
      have := h.pw
      omega
    · rcases List.mem_append.1 hk with hk | hk
      · obtain ⟨i, l', h1, h2, h3⟩ := h.pk k hk
        exact ⟨i, l', old h1, h2, h3⟩
      · exact ⟨done.length, l, by simp, hl, hk⟩
    · rcases Nat.lt_or_ge i done.length with hi' | hi'
      · rw [List.getElem?_append_left hi'] at hi
        exact List.mem_append_left _ (h.kp i l' hi hne k hk)
      · rw [List.getElem?_append_right hi'] at hi
        have := (List.getElem?_eq_some_iff.1 hi).1
        rw [List.length_singleton] at this
        have he : i = done.length := by omega
        subst he
        rw [Nat.sub_self] at hi
        cases hi
        exact List.mem_append_right _ hk
theorem new_I0 (n len : Nat) : NewI n len [] (first0 n len) := ⟨rfl, rfl, rfl, rfl, rfl, rfl, Nat.zero_le _, (by show pkW [] ≤ _; simp [pkW]), (fun k hk => by cases hk), (fun i l hi => by simp at hi)⟩
theorem new_go (n len : Nat) : ∀ (rest done : List (List V2)) (g : GrS), NewI n len done g → NewI n len (done ++ rest) (rest.foldl (addS n) g)
  | [], done, g, h => by rw [List.append_nil]; exact h
  | l :: rest, done, g, h => by
    have := new_go n len rest (done ++ [l]) (addS n g l) (add_I h l)
    rw [List.append_assoc] at this
    exact this
theorem new_is (n : Nat) (ins : List (List V2)) : NewI n ins.length ins (newG n ins) := new_go n ins.length ins [] _ (new_I0 n ins.length)
theorem headV_4 {l : List V2} (h : ∀ v ∈ l, V4 v) : V4 (headV l) := by
  cases l with
  | nil => exact V4.nil
  | cons v l => exact h v (by simp)
abbrev sigN (g : GrS) : Sig := (0, ⟨7, [nilG]⟩) :: (1, ⟨7, [refG 2 g]⟩) :: sigG 2 g
theorem gnew_new (n : Nat) (hn : 1 ≤ n ∧ n ≤ 12) (ins : List (List V2)) (hi : ins.length ≤ 4) (hv : ∀ l ∈ ins, l.length ≤ 3 ∧ ∀ v ∈ l, V4 v) : New Tryz.prog 22 [.c (cI n), .c (.row 1 false (ins.map encIn))] (.agg (refG 0 (newG n ins))) (sigG 0 (newG n ins)) 6 := by
  have h1 : ¬ ((0 : Int) > n) := by omega
  have h2 : ¬ ((12 : Int) < n) := by omega
  refine new_drop teOk Tryz.func22 (by kernel_rfl) (c := _) rfl (N := 68) rfl (rs := [Go.ResultVar.cell 4 34]) rfl (by simp) fun base A w0 hA => ?_
  refine AW.st teOk [] (by simp [-Option.some.injEq] <;> rfl) trivial ?_
  refine AW.st teOk [] (by simp [h1, h2, -Option.some.injEq] <;> rfl) trivial ?_
  refine AW.dr mixed teOk [] (by simp [-Option.some.injEq] <;> rfl) (by kernel_rfl) (by kernel_rfl) ?_ ?_
  · simp [allP]
    omega
  refine AW.seq ?_
  refine AW.st teOk [] (by simp [-Option.some.injEq] <;> rfl) trivial ?_
  have hf1 : flatO ⟨1, List.replicate n [encV []]⟩ = true := flatO_of fun e he => by rw [(List.mem_replicate.1 he).2]; rfl
  have hf2 : flatO ⟨1, List.replicate ins.length [cI 0]⟩ = true := flatO_of fun e he => by rw [(List.mem_replicate.1 he).2]; rfl
  refine AW.to (s2 := ⟨[(4, .c (.ptr 0 0 0)), (5, .c (cI n)), (6, .c (.ptr 1 0 0)), (22, .c (.row 1 false (ins.map encIn))), (23, .c (cI ins.length)), (24, .c (cI 0))], sigN (first0 n ins.length), 8⟩) (((Weak.leO 6 _ (o := ⟨1, List.replicate n [.sc (.slice none 0 0)]⟩) (o' := ⟨1, List.replicate n [encV []]⟩) (by simp) rfl (by simp) (fun i e e' he he' => ?_)).trans ((Weak.nilP 6 1 5 _ (by simp [putA] <;> rfl) (by simp [putA] <;> exact ⟨rfl, rfl⟩) rfl (by simp)).trans ((Weak.nilP 6 2 1 _ (by simp [putA] <;> rfl) (by simp [putA] <;> exact ⟨rfl, rfl⟩) rfl (by simp)).trans ((Weak.nilP 6 4 5 _ (by simp [putA] <;> rfl) (by simp [putA] <;> exact ⟨rfl, rfl⟩) rfl (by simp)).trans (Weak.nilP 6 5 4 _ (by simp [putA] <;> rfl) (by simp [putA] <;> exact ⟨rfl, rfl⟩) rfl (by simp)))))).trans (Weak.normS hA [4, 5, 6, 22, 23, 24] [(4, 0), (6, 1)] [(6, 2), (16, 3), (17, 4), (9, 5), (18, 6), (19, 7)] [11] 8 _ (by simp [putA]) (by simp [putA]) (by simp [putA]; exact ⟨hf1, hf2⟩))) (by simp [putA, first0]) ?_
  · have h1 := List.mem_of_getElem? he
    have h2 := List.mem_of_getElem? he'
    rw [(List.mem_replicate.1 h1).2, (List.mem_replicate.1 h2).2]
    exact .cons (nil_cell 2) .nil
  refine AW.block (AW.loop (fun m s => ∃ done rest, m = rest.length ∧ ins = done ++ rest ∧ s = ⟨[(4, .c (.ptr 0 0 0)), (5, .c (cI n)), (6, .c (.ptr 1 0 0)), (22, .c (.row 1 false (ins.map encIn))), (23, .c (cI ins.length)), (24, .c (cI done.length))], sigN (done.foldl (addS n) (first0 n ins.length)), 8⟩) _ (Weak.refl _) ⟨[], ins, rfl, rfl, by simp⟩ ?_)
  rintro m s ⟨done, rest, rfl, hdr, rfl⟩
  have hlen : ins.length = done.length + rest.length := by rw [hdr, List.length_append]
  refine AW.st teOk [] (by simp [-Option.some.injEq] <;> rfl) trivial ?_
  refine AW.seq (AW.iff (decide (done.length < ins.length)) (by simp) (fun h => AW.skip ?_) (fun h => AW.exit (x_then (x_then (blockA_exit ?_)))))
  · rw [decide_eq_true_eq] at h
    cases rest with
    | nil => simp at hlen; omega
    | cons l rest =>
    have hx : ins[done.length]? = some l := by rw [hdr]; simp
    have hinc : IntKind.i64.wrap ((done.length : Int) + 1) = (done.length : Int) + 1 := wrap_s _ (by omega)
    obtain ⟨hll, hlv⟩ := hv l (List.mem_of_getElem? hx)
    have hI := new_go n ins.length done [] _ (new_I0 n ins.length)
    have happ := newG_app n (first0 n ins.length) done l
    rw [List.nil_append] at hI
    generalize done.foldl (addS n) (first0 n ins.length) = G at *
    have hGp : G.props.length = done.length := by rw [hI.props, List.length_map]
    have hGi : G.ins.length = done.length := by rw [hI.ins]
    have hGk : G.pks.length ≤ 12 * 4 := Nat.le_trans hI.pl (Nat.mul_le_mul hn.2 (by omega))
    obtain ⟨G', hG'⟩ : ∃ G', G' = addS n G l := ⟨_, rfl⟩
    rw [← hG'] at happ
    refine AW.mid (fun s => s = ⟨[(4, .c (.ptr 0 0 0)), (5, .c (cI n)), (6, .c (.ptr 1 0 0)), (22, .c (.row 1 false (ins.map encIn))), (23, .c (cI ins.length)), (24, .c (cI done.length))], sigN G', 8⟩) (AW.block ?_) ?_
    · refine AW.st teOk [] (by simp [hx, -Option.some.injEq] <;> rfl) ?_ ?_
      · exact h
      refine AW.st teOk [] (by simp [-Option.some.injEq] <;> rfl) trivial ?_
      refine AW.weak (Weak.nil 9 1 _ (by simp <;> rfl)) (AW.mid (fun s => s = ⟨[(4, .c (.ptr 0 0 0)), (5, .c (cI n)), (6, .c (.ptr 1 0 0)), (22, .c (.row 1 false (ins.map encIn))), (23, .c (cI ins.length)), (24, .c (cI done.length)), (7, .c (cI done.length)), (8, .c (encVs l)), (9, .c (encVs l))], sigN G, 8⟩) ?_ ?_)
      · refine AW.st teOk [] (by simp [-Option.some.injEq] <;> rfl) trivial ?_
        refine AW.block (AW.loop (fun m s => ∃ done2 rest2, m = rest2.length ∧ l = done2 ++ rest2 ∧ s = ⟨[(4, .c (.ptr 0 0 0)), (5, .c (cI n)), (6, .c (.ptr 1 0 0)), (22, .c (.row 1 false (ins.map encIn))), (23, .c (cI ins.length)), (24, .c (cI done.length)), (7, .c (cI done.length)), (8, .c (encVs l)), (9, .c (.ref 8 0 done2.length)), (29, .c (encVs l)), (30, .c (cI l.length)), (31, .c (cI done2.length))], sigN G ++ [(8, ⟨1, done2.map encC⟩)], 9⟩) _ (Weak.normS hA [4, 5, 6, 22, 23, 24, 7, 8, 9, 29, 30, 31] [(4, 0), (6, 1), (9, 8)] [(2, 2), (3, 3), (4, 4), (5, 5), (6, 6), (7, 7)] [1] 9 _ (by simp) (by simp) (by simp)) ⟨[], l, rfl, rfl, by simp⟩ ?_)
        rintro m s ⟨done2, rest2, rfl, hdr2, rfl⟩
        have hlen2 : l.length = done2.length + rest2.length := by rw [hdr2, List.length_append]
        refine AW.st teOk [] (by simp [-Option.some.injEq] <;> rfl) trivial ?_
        refine AW.seq (AW.iff (decide (done2.length < l.length)) (by simp) (fun h2 => AW.skip ?_) (fun h2 => AW.exit (x_then (x_then (blockA_exit ?_)))))
        · rw [decide_eq_true_eq] at h2
          cases rest2 with
          | nil => simp at hlen2; omega
          | cons y rest2 =>
          have hy : l[done2.length]? = some y := by rw [hdr2]; simp
          have hinc2 : IntKind.i64.wrap ((done2.length : Int) + 1) = (done2.length : Int) + 1 := wrap_s _ (by omega)
          refine AW.seq (AW.block ?_)
          refine AW.st teOk [] (by simp [hy, -Option.some.injEq] <;> rfl) ?_ ?_
          · exact h2
          refine AW.text teOk (ans := [.fz (.c (encV y))]) (by simp [-Option.some.injEq] <;> rfl) ?_ ?_
          · simp [growOk]
            exact ⟨copy_pure y (by have := (hlv y (List.mem_of_getElem? hy)).le; omega), by omega⟩
          refine AW.text teOk (ans := []) (by simp [-Option.some.injEq] <;> rfl) ?_ ?_
          · trivial
          refine ⟨_, _, Weak.normS hA [4, 5, 6, 22, 23, 24, 7, 8, 9, 29, 30, 31] [(4, 0), (6, 1), (9, 8)] [(2, 2), (3, 3), (4, 4), (5, 5), (6, 6), (7, 7)] [1] 9 _ (by simp) (by simp) (by simp), ?_, done2 ++ [y], rest2, rfl, by rw [hdr2, List.append_assoc]; rfl, ?_⟩
          · simp
          · simp [hinc2]
        have hend : done2 = l := by
          rw [decide_eq_false_iff_not] at h2
          have : rest2 = [] := List.eq_nil_of_length_eq_zero (by omega)
          rw [hdr2, this, List.append_nil]
        rw [hend]
        exact ⟨_, (Weak.frzT 9 [] _ (by simp <;> exact ⟨rfl, rfl, rfl⟩) (by simp <;> rfl) (by simp)).trans (Weak.normS hA [4, 5, 6, 22, 23, 24, 7, 8, 9] [(4, 0), (6, 1)] [(2, 2), (3, 3), (4, 4), (5, 5), (6, 6), (7, 7)] [1] 8 _ (by simp) (by simp) (by simp)), by simp⟩
      rintro s rfl
      refine AW.st teOk [] (by simp [-Option.some.injEq] <;> rfl) ?_ ?_
      · simp [growOk]
        omega
      refine AW.st teOk [] (by simp [-Option.some.injEq] <;> rfl) trivial ?_
      refine AW.mid (fun s => s = ⟨[(4, .c (.ptr 0 0 0)), (5, .c (cI n)), (6, .c (.ptr 1 0 0)), (22, .c (.row 1 false (ins.map encIn))), (23, .c (cI ins.length)), (24, .c (cI done.length)), (7, .c (cI done.length)), (8, .c (encVs l)), (12, .c (encV (headV l)))], sigN { G with ins := G.ins ++ [l] }, 8⟩) ?_ ?_
      · cases l with
        | nil =>
          refine AW.st teOk [] (by simp [-Option.some.injEq] <;> rfl) trivial ?_
          refine AW.iff false (by simp) (fun h => by cases h) (fun _ => AW.skip ?_)
          refine ⟨_, (Weak.le 12 _ (v' := .c (encV [])) (by simp <;> rfl) (.c (nil_cell 2))).trans (Weak.normS hA [4, 5, 6, 22, 23, 24, 7, 8, 12] [(4, 0), (6, 1)] [(2, 2), (3, 3), (12, 4), (5, 5), (6, 6), (7, 7)] [1] 8 _ (by simp) (by simp) (by simp)), by simp [headV]⟩
        | cons v l =>
          refine AW.st teOk [] (by simp [-Option.some.injEq] <;> rfl) trivial ?_
          refine AW.iff true (by simp) (fun _ => ?_) (fun h => by cases h)
          refine AW.text teOk (ans := []) (by simp [-Option.some.injEq] <;> rfl) ?_ ?_
          · simp
          refine ⟨_, Weak.normS hA [4, 5, 6, 22, 23, 24, 7, 8, 12] [(4, 0), (6, 1)] [(2, 2), (3, 3), (12, 4), (5, 5), (6, 6), (7, 7)] [1] 8 _ (by simp) (by simp) (by simp), by simp [headV]⟩
      rintro s rfl
      have hpn := pnew_pure n (headV_4 hlv).val (by have := (headV_4 hlv).le; omega)
      refine AW.dr mixed teOk [.agg (encPr (newS n (headV l)))] (by simp [-Option.some.injEq] <;> rfl) (by kernel_rfl) (by kernel_rfl) ?_ ?_
      · simp [allP, growOk]
        exact ⟨hpn, by omega⟩
      obtain ⟨g1, hg1⟩ : ∃ g1 : GrS, g1 = { G with ins := G.ins ++ [l], props := G.props ++ [newS n (headV l)] } := ⟨_, rfl⟩
      have hg1p : g1.props[done.length]? = some (newS n (headV l)) := by rw [hg1]; simp [← hGp]
      have hsc := send_con g1 done.length _ hg1p (by show 0 < (n : Int) ∧ (n : Int) ≤ 12; omega) (by show (headV l).length < _; have := (headV_4 hlv).le; omega) (by rw [hg1]; show G.pks.length < _; omega)
      refine AW.to (s2 := ⟨[(4, .c (.ptr 0 0 0)), (5, .c (cI n)), (6, .c (.ptr 1 0 0)), (22, .c (.row 1 false (ins.map encIn))), (23, .c (cI ins.length)), (24, .c (cI done.length)), (7, .c (cI done.length)), (8, .c (encVs l))], sigN g1, 8⟩) (Weak.normS hA [4, 5, 6, 22, 23, 24, 7, 8] [(4, 0), (6, 1)] [(2, 2), (13, 3), (4, 4), (5, 5), (6, 6), (7, 7)] [1] 8 _ (by simp) (by simp) (by simp)) (by simp [hg1]) ?_
      unfold addS at hG'
      rw [← hg1, hGp] at hG'
      clear hg1 hI happ
      by_cases hl0 : l = []
      · simp only [if_pos hl0] at hG'
        subst hG'
        refine AW.st teOk [] (by simp [-Option.some.injEq] <;> rfl) trivial ?_
        refine AW.iff false (by simp [hl0]) (fun h => by cases h) (fun _ => AW.skip ?_)
        exact ⟨_, Weak.normS hA [4, 5, 6, 22, 23, 24] [(4, 0), (6, 1)] [(2, 2), (3, 3), (4, 4), (5, 5), (6, 6), (7, 7)] [1] 8 _ (by simp) (by simp) (by simp), by simp⟩
      · simp only [if_neg hl0] at hG'
        rw [← hG'] at hsc
        have hlp : 0 < l.length := List.length_pos_iff.2 hl0
        refine AW.st teOk [] (by simp [-Option.some.injEq] <;> rfl) trivial ?_
        refine AW.iff true (by simp; omega) (fun _ => ?_) (fun h => by cases h)
        refine AW.to (s2 := ⟨[(4, .c (.ptr 0 0 0)), (5, .c (cI n)), (6, .c (.ptr 1000000 0 0)), (22, .c (.row 1 false (ins.map encIn))), (23, .c (cI ins.length)), (24, .c (cI done.length)), (7, .c (cI done.length))], (0, ⟨7, [nilG]⟩) :: conG g1, 1000019⟩) (Weak.normS hA [4, 5, 6, 22, 23, 24, 7] [(4, 0), (6, 1000000)] [(2, 1000002), (3, 1000003), (4, 1000004), (5, 1000005), (6, 1000001), (7, 1000006)] [1] 1000019 _ (by simp) (by simp) (by simp)) (by simp) ?_
        refine AW.text teOk (ans := [.own (.tup []) (conK G') 1000022]) (by simp [-Option.some.injEq] <;> rfl) ?_ ?_
        · exact hsc
        exact ⟨_, Weak.normS hA [4, 5, 6, 22, 23, 24] [(4, 0), (6, 1)] [(1000020, 6), (1000002, 2), (1000003, 3), (1000004, 4), (1000005, 5), (1000006, 7)] [1000000] 8 _ (by simp) (by simp) (by simp), by simp⟩
    rintro s rfl
    refine AW.text teOk (ans := []) (by simp [-Option.some.injEq] <;> rfl) ?_ ?_
    · trivial
    refine ⟨_, _, Weak.normS hA [4, 5, 6, 22, 23, 24] [(4, 0), (6, 1)] [(2, 2), (3, 3), (4, 4), (5, 5), (6, 6), (7, 7)] [1] 8 _ (by simp) (by simp) (by simp), ?_, done ++ [l], rest, rfl, by rw [hdr, List.append_assoc]; rfl, ?_⟩
    · simp
    · simp [hinc, happ]
  have hend : done = ins := by
    rw [decide_eq_false_iff_not] at h
    have : rest = [] := List.eq_nil_of_length_eq_zero (by omega)
    rw [hdr, this, List.append_nil]
  rw [hend]
  change AW _ _ _ _ _ _ ⟨_, sigN (newG n ins), _⟩ _
  generalize newG n ins = G
  refine AW.st teOk [] (by simp [-Option.some.injEq] <;> rfl) trivial ?_
  refine AW.ret ⟨.inr rfl, _, _, Weak.refl _, by simp <;> rfl, ?_⟩
  exact Weak.be (Weak.normS hA [0] [] [(2, 0), (3, 1), (4, 2), (5, 3), (6, 4), (7, 5)] [] 6 _ (by simp) (by simp) (by simp)) (by simp)
/-- The inputs of few proposers. -/
structure InsOk (ins : List (List V2)) : Prop where
  len : ins.length ≤ 4
  all : ∀ l ∈ ins, l.length ≤ 3 ∧ ∀ v ∈ l, V4 v
theorem new_W {n : Nat} (hn : 1 ≤ n ∧ n ≤ 12) {ins : List (List V2)} (hi : InsOk ins) : GrW (newG n ins) ins.length 100 := by
  have h := new_is n ins
  have hm : n * ins.length ≤ 12 * 4 := Nat.mul_le_mul hn.2 hi.len
  have hal : (newG n ins).accs.length = n := by rw [h.accs, List.length_replicate]
  refine ⟨⟨by rw [h.props, List.length_map], by rw [h.ins], by rw [h.nxt, List.length_replicate], by have := hi.len; omega⟩, hi.len, by rw [hal]; omega, fun v hv => ?_, fun p hp => ?_, fun l hl => ?_, fun i x hx => ?_, fun k hk => ?_, fun d hd => ?_, by have := h.pl; omega, by rw [h.decs]; simp, by rw [h.steps]; omega⟩
  · rw [h.accs] at hv
    rw [(List.mem_replicate.1 hv).2]
    exact V4.nil
  · rw [h.props] at hp
    obtain ⟨l, hl, rfl⟩ := List.mem_map.1 hp
    exact ⟨by rw [hal]; rfl, headV_4 (hi.all l hl).2, by show (0 : Int) ≤ 1; omega, by show (1 : Int) ≤ _; omega, List.Pairwise.nil, by show 0 ≤ _; omega⟩
  · rw [h.ins] at hl
    exact hi.all l hl
  · rw [h.nxt] at hx
    rw [(List.mem_replicate.1 (List.mem_of_getElem? hx)).2]
    omega
  · obtain ⟨i, l, h1, h2, h3⟩ := h.pk k hk
    obtain ⟨a, ha, rfl⟩ := mem_propsTo.1 h3
    rw [hal, h.ins]
    exact ⟨headV_4 (hi.all l (List.mem_of_getElem? h1)).2, ⟨by show (0 : Int) ≤ a; omega, by show (a : Int) < n; omega⟩, i, l, rfl, h1, List.length_pos_iff.2 h2⟩
  · rw [h.decs] at hd
    cases hd
theorem new_pr {n : Nat} {ins : List (List V2)} {i : Nat} {p : PrS} (hp : (newG n ins).props[i]? = some p) : ∃ l, ins[i]? = some l ∧ p = newS n (headV l) := by
  rw [(new_is n ins).props, List.getElem?_map] at hp
  cases hl : ins[i]? with
  | none => rw [hl] at hp; cases hp
  | some l => rw [hl] at hp; cases hp; exact ⟨l, rfl, rfl⟩
theorem new_C (n : Nat) (ins : List (List V2)) : InvC (fun _ _ => False) [] (newG n ins) := by
  have h := new_is n ins
  refine ⟨fun _ _ h => h.elim, fun _ _ _ h => h.elim, fun _ _ _ _ h => h.elim, fun a b hb => by simp at hb, fun k hk hr => ?_, fun k hk p hp => ?_, fun i p hp a ha => ?_, fun d hd => ?_⟩
  · obtain ⟨i, l, h1, h2, h3⟩ := h.pk k hk
    obtain ⟨a, ha, rfl⟩ := mem_propsTo.1 h3
    cases hr
  · obtain ⟨i, l, h1, h2, h3⟩ := h.pk k hk
    obtain ⟨a, ha, rfl⟩ := mem_propsTo.1 h3
    have hp : (newG n ins).props[((i : Nat) : Int).toNat]? = some p := hp
    rw [Int.toNat_natCast] at hp
    obtain ⟨l', h4, rfl⟩ := new_pr hp
    rw [h1] at h4
    cases h4
    exact ⟨Int.le_refl _, fun _ => ⟨(fun e => by cases e), fun _ => rfl⟩⟩
  · obtain ⟨l, _, rfl⟩ := new_pr hp
    cases ha
  · rw [h.decs] at hd
    cases hd
/-- The same with other acceptors to begin with. -/
theorem new_C2 (n : Nat) (ins : List (List V2)) (accs : List V2) : InvC (fun _ _ => False) accs { newG n ins with accs := accs } := by
  have h := new_C n ins
  refine ⟨h.val, h.ch, fun _ _ _ _ h => h.elim, fun a b hb => ⟨fun _ h => h.elim, fun c hc => ?_⟩, h.rp, h.pk, fun i p hp a ha => ?_, fun d hd => ?_⟩
  · have hc : accs[a]? = some c := hc
    rw [hb] at hc
    cases hc
    exact Sub.refl _
  · exact ((h.ak i p hp a ha).2).elim
  · have hd : d ∈ (newG n ins).decs := hd
    rw [(new_is n ins).decs] at hd
    cases hd
theorem new_V {n : Nat} {ins : List (List V2)} {all : V2} (ha : Val all) (h2 : ∀ l ∈ ins, ∀ v ∈ l, Sub v all) : InvV all (newG n ins) := by
  have h := new_is n ins
  have hh : ∀ (i : Nat) l, ins[i]? = some l → Sub (headV l) all := fun i l hl => by
    cases l with
    | nil => exact nil_sub ha
    | cons v l => exact h2 _ (List.mem_of_getElem? hl) v (by simp)
  refine ⟨fun v hv => ?_, fun p hp => ?_, fun k hk => ?_, fun l hl => ?_, fun i p l x hp hl hx hne => ?_, fun d hd => ?_, ?_⟩
  · rw [h.accs] at hv
    rw [(List.mem_replicate.1 hv).2]
    exact nil_sub ha
  · obtain ⟨i, hi⟩ := List.mem_iff_getElem?.1 hp
    obtain ⟨l, hl, rfl⟩ := new_pr hi
    exact hh i l hl
  · obtain ⟨i, l, h1, h2, h3⟩ := h.pk k hk
    obtain ⟨a, ha, rfl⟩ := mem_propsTo.1 h3
    exact hh i l h1
  · rw [h.ins] at hl
    exact h2 l hl
  · obtain ⟨l', h4, rfl⟩ := new_pr hp
    rw [h.ins, h4] at hl
    cases hl
    rw [h.nxt] at hx
    rw [(List.mem_replicate.1 (List.mem_of_getElem? hx)).2]
    cases l with
    | nil => exact absurd rfl hne
    | cons v l => exact ⟨v, rfl, Sub.refl _⟩
  · rw [h.decs] at hd
    cases hd
  · rw [h.decs]
    exact List.Pairwise.nil
theorem new_E (dead : Nat → Bool) {n : Nat} {ins : List (List V2)} : InvE dead (newG n ins) := by
  have h := new_is n ins
  refine ⟨fun i _ => by rw [h.decs]; rfl, fun i p l x hp hl hx hne => ?_, fun d hd => ?_⟩
  · obtain ⟨l', h4, rfl⟩ := new_pr hp
    rw [h.ins, h4] at hl
    cases hl
    rw [h.nxt] at hx
    rw [(List.mem_replicate.1 (List.mem_of_getElem? hx)).2]
    refine ⟨List.length_pos_iff.2 hne, (fun e => by cases e), by rw [h.decs]; rfl, fun _ => ⟨by show 2 * ((0 : Nat) : Int) ≤ (n : Int); omega, fun a ha _ => .inr ?_⟩⟩
    rw [h.accs, List.length_replicate] at ha
    exact ⟨_, h.kp i l h4 hne _ (mem_propsTo.2 ⟨a, ha, rfl⟩), rfl, rfl, rfl⟩
  · rw [h.decs] at hd
    cases hd
/-- Few steps. -/
theorem pot_le {g : GrS} {n N : Nat} (hw : GrW g n N) (hp : pkW g.pks ≤ 2 * (g.accs.length * n : Nat)) (h5 : g.accs.length ≤ 5) (hd : ∀ x ∈ g.nxt, x = 0) : pot g ≤ 700 := by
  have h1 : (g.props.map fun p => 12 - sizV p.v).sum ≤ 12 * (g.props.map fun p => 12 - sizV p.v).length := le_sum 12 _ fun x hx => by
    obtain ⟨p, hp, rfl⟩ := List.mem_map.1 hx
    have := (siz_le (hw.p p hp).v).1
    omega
  have h2 : 0 ≤ g.nxt.sum := nn_sum _ fun x hx => by rw [hd x hx]; omega
  have hn4 := hw.n4
  have hnp := hw.nn.p
  rw [List.length_map, hnp] at h1
  have hS : (g.props.map fun p => 12 - sizV p.v).sum + 12 - g.nxt.sum ≤ 60 := by omega
  have hm : g.accs.length * n ≤ 5 * 4 := Nat.mul_le_mul h5 hn4
  have hC : (2 * (g.accs.length : Int) + 1) * ((g.props.map fun p => 12 - sizV p.v).sum + 12 - g.nxt.sum) ≤ (2 * (g.accs.length : Int) + 1) * 60 := Int.mul_le_mul_of_nonneg_left hS (by omega)
  unfold pot
  omega
theorem new_pot {n : Nat} (hn : 1 ≤ n ∧ n ≤ 5) {ins : List (List V2)} (hi : InsOk ins) : pot (newG n ins) ≤ 700 := by
  have h := new_is n ins
  have hal : (newG n ins).accs.length = n := by rw [h.accs, List.length_replicate]
  refine pot_le (new_W ⟨hn.1, by omega⟩ hi) (by rw [hal]; exact h.pw) (by omega) fun x hx => ?_
  rw [h.nxt] at hx
  exact (List.mem_replicate.1 hx).2
/-! ### schedules and drains -/
theorem pick_get (g : GrS) (x : Int) (h0 : ¬ g.pks.length = 0) : g.pks[(pickI x g.pks.length).toNat]? = some (g.pks[(pickI x g.pks.length).toNat]'(by have := pick_lt x (k := g.pks.length) (by omega); omega)) := List.getElem?_eq_getElem _
/-- What every delivery keeps, a schedule keeps. -/
theorem run_keep {n : Nat} (J : GrS → Prop) (hJ : ∀ {g : GrS} {N i : Nat} {k : PkS}, GrW g n N → J g → g.pks[i]? = some k → J (delivS g i)) : ∀ (l : List Int) {g : GrS} {N : Nat}, GrW g n N → J g → J (runS g l)
  | [], g, N, _, h => h
  | x :: l, g, N, hw, h => by
    have hs : J (stepS g x) := by
      unfold stepS
      split
      · exact h
      · rename_i h0
        exact hJ hw h (pick_get g x h0)
    exact run_keep J hJ l (step_W hw x) hs
theorem drain_keep {n : Nat} (J : GrS → Prop) (hJ : ∀ {g : GrS} {N i : Nat} {k : PkS}, GrW g n N → J g → g.pks[i]? = some k → J (delivS g i)) : ∀ (m : Nat) {g : GrS} {N : Nat}, GrW g n N → J g → J (drainS m g)
  | 0, g, N, _, h => h
  | m + 1, g, N, hw, h => by
    rw [drain_succ]
    split
    · exact h
    · rename_i h0
      have hi : 0 < g.pks.length := by omega
      exact drain_keep J hJ m (deliv_W hw hi) (hJ hw h (List.getElem?_eq_getElem hi))
theorem keep_C {n : Nat} {base : List V2} : ∀ {g : GrS} {N i : Nat} {k : PkS}, GrW g n N → (∃ H, InvC H base g) → g.pks[i]? = some k → ∃ H, InvC H base (delivS g i) := fun hw ⟨H, h⟩ hk => case_C hw h hk (deliv_case hw hk)
theorem keep_V {n : Nat} {all : V2} : ∀ {g : GrS} {N i : Nat} {k : PkS}, GrW g n N → InvV all g → g.pks[i]? = some k → InvV all (delivS g i) := fun hw h hk => case_V hw h hk (deliv_case hw hk)
theorem keep_E {n : Nat} {dead : Nat → Bool} : ∀ {g : GrS} {N i : Nat} {k : PkS}, GrW g n N → InvE dead g → g.pks[i]? = some k → InvE dead (delivS g i) := fun hw h hk => case_E hw h hk (deliv_case hw hk)
theorem keep_pot {n : Nat} {b : Int} : ∀ {g : GrS} {N i : Nat} {k : PkS}, GrW g n N → pot g ≤ b → g.pks[i]? = some k → pot (delivS g i) ≤ b := fun hw h hk => by have := case_pot hw hk (deliv_case hw hk); omega
/-- What never changes. -/
theorem keep_fix {n : Nat} {m : Nat} {ins : List (List V2)} : ∀ {g : GrS} {N i : Nat} {k : PkS}, GrW g n N → (g.accs.length = m ∧ g.ins = ins) → g.pks[i]? = some k → (delivS g i).accs.length = m ∧ (delivS g i).ins = ins := fun {g N i k} hw h hk => by
  have := deliv_case hw hk
  revert this
  generalize delivS g i = g'
  intro c
  cases c <;> simpa using h
end Go.Proofs.YtphlhadgcfndhaaGreatDoor.Abs
end
