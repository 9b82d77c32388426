/- Joined for the claim: WXex WXgood WXaw -/
import Derived.Test.YtphlhadgcfndhaaGreatDoorJd9
import Derived.Test.YtphlhadgcfndhaaGreatDoorJd11
import Derived.Test.YtphlhadgcfndhaaGreatDoorJd13
import Derived.Test.YtphlhadgcfndhaaGreatDoorJd14
section
namespace Go.Proofs.YtphlhadgcfndhaaGreatDoor.Abs
open Go Go.RowKit
set_option linter.unusedVariables false
set_option linter.unusedSimpArgs false
set_option maxHeartbeats 4000000
/-- A state on which all operations of the search are told. -/
structure XOk (s : XpS) : Prop where
  w : ∃ n N, N < 1000000 ∧ GrW s.g n N
  k : s.g.pks.length < 20
  lo : s.lo < 1000000
  am : s.am < 1000000
  sm : XSm (canX s)
structure XGood (J : Nat → XpS → Prop) (s0 : XpS) : Prop where
  z : J 0 s0
  st : ∀ k s a, J k s → a ∈ actsX s → J (k + 1) (canX (perfX s a))
  ok : ∀ k s, k ≤ 4000 → J k s → XOk s ∧ canX s = s ∧ ∀ a ∈ actsX s, XOk (perfX s a)
theorem XOk.b {s : XpS} (h : XOk s) : GrB s.g := by
  obtain ⟨n, N, hN, hw⟩ := h.w
  exact hw.b (by omega)
theorem XOk.v {s : XpS} (h : XOk s) : ∀ k ∈ s.g.pks, k.v.length < 1000000 := fun k hk => by
  obtain ⟨n, N, hN, hw⟩ := h.w
  have := (hw.k k hk).1.le
  omega
theorem XOk.can {s : XpS} (h : XOk s) : Pure Tryz.prog 10 [.agg (encXp s)] (.agg (encXp (canX s))) := xcan_pure s h.b h.k h.v
theorem XGood.at {J : Nat → XpS → Prop} {s0 : XpS} (h : XGood J s0) {L : List Fd} (hF : InvF s0 L) (hl : L.length ≤ 4000) {j : Nat} {f : Fd} (hf : L[j]? = some f) : XOk f.s ∧ canX f.s = f.s ∧ ∀ a ∈ actsX f.s, XOk (perfX f.s a) := by
  have h1 := hF.dep_le j f hf
  have h2 := (List.getElem?_eq_some_iff.1 hf).1
  exact h.ok f.dep f.s (by omega) (hF.all (J := J) h.z h.st j f hf)
theorem canX_idem (s : XpS) : canX (canX s) = canX s := by
  unfold canX
  rw [canG_idem]
def keyB (s : XpS) : ByteArray := strB (strN (keyN s))
theorem keyB_inj {s t : XpS} (hs : XSm s) (ht : XSm t) (h : keyB s = keyB t) : s = t := by
  have h1 := strB_eq hs.sm ht.sm
  unfold keyB at h
  rw [h] at h1
  simp only [beq_self_eq_true] at h1
  exact keyN_inj (of_decide_eq_true h1.symm)
def ksOf (e : ExS) : List ByteArray := e.fds.map fun d => keyB d.s
theorem next_dep {lim : Nat} {s0 : XpS} {e : ExS} (h : InvX lim s0 e) {i : Nat} {f f2 : Fd} (hf : e.fds[i]? = some f) (hf2 : e.fds[i + 1]? = some f2) (hd : ∀ q ∈ e.fds, q.dep ≤ f.dep + 1) : ∀ q ∈ e.fds, q.dep ≤ f2.dep + 1 := fun q hq => by
  have hmono := List.pairwise_iff_getElem.1 h.f.mono i (i + 1) (List.getElem?_eq_some_iff.1 hf).1 (List.getElem?_eq_some_iff.1 hf2).1 (by omega)
  rw [(List.getElem?_eq_some_iff.1 hf).2, (List.getElem?_eq_some_iff.1 hf2).2] at hmono
  have := hd q hq
  omega
theorem fin_le : ∀ l : List Fd, (l.map fun f => finN f.s).sum ≤ l.length
  | [] => by simp
  | f :: l => by
    rw [List.map_cons, List.sum_cons, List.length_cons]
    have := fin_le l
    have : finN f.s ≤ 1 := by unfold finN; split <;> omega
    omega
theorem dep_bound {lim : Nat} {s0 : XpS} {e : ExS} (h : InvX lim s0 e) : e.dep < e.fds.length := by
  obtain ⟨f, hf, h1⟩ := h.n.dep.2
  obtain ⟨j, hj⟩ := List.mem_iff_getElem?.1 hf
  have := h.f.dep_le j f hj
  have := (List.getElem?_eq_some_iff.1 hj).1
  omega
def limOf (limit : Int) : Nat := if limit < 1 ∨ limit > 4000 then 4000 else limit.toNat
@[simp] def repA (a b c d : Nat) (sf : Bool) (v : Cell) : List Cell := [cI a, cI b, cI c, cI d, cB sf, v]
abbrev nilC : Cell := .sc (.slice none 0 0)
def repO : ExO → AVal
  | .go e => .tup [.agg (repA e.fds.length e.steps e.fin e.dep true nilC), .c (cI 0)]
  | .long => .tup [.agg (repA 0 0 0 0 false nilC), .c (cI 3)]
  | .bad e => .tup [.agg (repA e.fds.length e.steps e.fin e.dep false (.row 2 false ((schedX e.fds (e.fds.length - 1) (e.fds.length - 1)).map encA))), .c (cI 0)]
theorem AWK.mid {P : Program} {base : Nat} {A : Old} {w0 : World} {n : Nat} {κ : Kp} (J : St → Prop) {x y : Code} {s : St} {Q : Exit → St → Kp → Prop} (h1 : AWK P base A w0 n x s κ (thenK (fun s' κ' => κ' = κ ∧ ∃ s'', Weak (A.at κ) s' s'' ∧ J s'') Q)) (h2 : ∀ s', J s' → AWK P base A w0 n y s' κ Q) : AWK P base A w0 n (.seq x y) s κ Q :=
  AWK.seq fun β a w I => wp_mono (h1 β a w I) fun e a' w' ⟨s', κ', β', hq, I'⟩ => by
    cases e with
    | normal =>
      obtain ⟨rfl, s'', hw, hj⟩ := hq
      obtain ⟨β'', I''⟩ := hw base w0 n β' a' w' I'
      exact ⟨s'', κ', β'', AWK.weak (Weak.refl _) (h2 s'' hj), I''⟩
    | exit id => exact ⟨s', κ', β', hq, I'⟩
    | goto l => exact ⟨s', κ', β', hq, I'⟩
    | ret => exact ⟨s', κ', β', hq, I'⟩
    | panic ch => exact ⟨s', κ', β', hq, I'⟩
    | outgrown => exact ⟨s', κ', β', hq, I'⟩
@[simp] def zRep : List Cell := [cI 0, cI 0, cI 0, cI 0, cB false, nilC]
/-- The list of states: a literal, or an object. -/
@[simp] def slF (q : Bool) (L : List Fd) : AVal := if q = true then .c (.ref 2 0 L.length) else .c (.row 13 true (L.map encFd))
@[simp] def sgF (q : Bool) (L : List Fd) : Sig := if q = true then [(2, ⟨13, L.map encFd⟩)] else []
@[simp] def exT (lim M : Nat) (q : Bool) (L : List Fd) : Tau := [(1, .c (cI lim)), (4, .c (.ptr 0 0 0)), (8, slF q L), (9, .c (.sc (.map (some M)))), (10, .c (.ptr 1 0 0))]
@[simp] def exG (q : Bool) (L : List Fd) (sp fn dp : Nat) : Sig := [(0, ⟨6, [zRep]⟩), (1, ⟨6, [repA L.length sp fn dp true nilC]⟩)] ++ sgF q L
theorem keys_known {lim : Nat} {s0 : XpS} {e : ExS} {J : Nat → XpS → Prop} (hJ : XGood J s0) (h : InvX lim s0 e) (hl : e.fds.length ≤ 4000) {nx : XpS} (hn : XSm nx) : knownX e nx = true ↔ keyB nx ∈ ksOf e := by
  rw [known_iff]
  unfold ksOf
  rw [List.mem_map]
  constructor
  · rintro ⟨q, hq, rfl⟩
    exact ⟨q, hq, rfl⟩
  · rintro ⟨q, hq, h1⟩
    obtain ⟨j, hj⟩ := List.mem_iff_getElem?.1 hq
    obtain ⟨g1, g2, _⟩ := hJ.at h.f hl hj
    have := g1.sm
    rw [g2] at this
    exact ⟨q, hq, keyB_inj this hn h1⟩
theorem one_known {lim i : Nat} {f : Fd} {a : ActP} {e : ExS} (h : knownX e (canX (perfX f.s a)) = true) : oneX lim i f a e = .go { e with steps := e.steps + 1 } := by
  unfold oneX
  dsimp only
  rw [if_pos h]
theorem one_long {lim i : Nat} {f : Fd} {a : ActP} {e : ExS} (h : ¬ knownX e (canX (perfX f.s a)) = true) (hl : e.fds.length = lim) : oneX lim i f a e = .long := by
  unfold oneX
  dsimp only
  rw [if_neg h, if_pos hl]
theorem one_go {lim i : Nat} {f : Fd} {a : ActP} {e : ExS} (h : ¬ knownX e (canX (perfX f.s a)) = true) (hl : ¬ e.fds.length = lim) (hs : safeG (canX (perfX f.s a)).g = true) : oneX lim i f a e = .go (pushX e i f a (canX (perfX f.s a))) := by
  unfold oneX
  dsimp only
  rw [if_neg h, if_neg hl, if_pos hs]
theorem one_bad {lim i : Nat} {f : Fd} {a : ActP} {e : ExS} (h : ¬ knownX e (canX (perfX f.s a)) = true) (hl : ¬ e.fds.length = lim) (hs : ¬ safeG (canX (perfX f.s a)).g = true) : oneX lim i f a e = .bad (pushX e i f a (canX (perfX f.s a))) := by
  unfold oneX
  dsimp only
  rw [if_neg h, if_neg hl, if_neg hs]
theorem explore_pure {m : Nat} (hm : 1 ≤ m ∧ m ≤ 3) {ins : List (List V2)} (hi : InsOk ins) (lo am limit : Int) (hv : valP m lo am ins = 0) {J : Nat → XpS → Prop} (hJ : XGood J (canX ⟨newG m ins, lo, am⟩)) (hs : safeG (canX ⟨newG m ins, lo, am⟩).g = true) (hx : XOk ⟨newG m ins, lo, am⟩) :
    Pure Tryz.prog 19 [.agg (encPg m lo am ins), .c (cI limit)] (repO (exploreX (limOf limit) (canX ⟨newG m ins, lo, am⟩))) := by
  have c0 := xval_pure m lo am ins (by have := hi.len; omega) (fun l hl => ⟨by have := (hi.all l hl).1; omega, fun v hv => by have := ((hi.all l hl).2 v hv).le; omega⟩)
  rw [hv] at c0
  have c1 := initX_pure m (by omega) hi lo am
  have c2 := hx.can
  generalize (⟨newG m ins, lo, am⟩ : XpS) = x0 at *
  generalize hs0 : canX x0 = s0 at *
  have hlim : 1 ≤ limOf limit ∧ limOf limit ≤ 4000 := by unfold limOf; split <;> omega
  obtain ⟨ok0, hc0, hp0⟩ := hJ.ok 0 s0 (by omega) hJ.z
  have c3 : Pure Tryz.prog 42 [.agg (encXp s0)] (.c (.sc (.string (keyB s0)))) := xkey_pure s0 (by have := ok0.sm; rw [hc0] at this; exact this)
  obtain ⟨n0, N0, hN0, hw0⟩ := ok0.w
  have c4 := safe_pure s0 hw0 hN0
  rw [hs] at c4
  have cN : ∀ s : XpS, Pure Tryz.prog 43 [.c (cB ((s.g.pks.length : Int) == 0))] (.c (cI (finN s))) := fun s => by
    have h := xnumber_pure ((s.g.pks.length : Int) == 0)
    have e : numB ((s.g.pks.length : Int) == 0) = (finN s : Int) := by
      unfold numB finN
      by_cases h : s.g.pks.length = 0 <;> simp [h]
    rw [e] at h
    exact h
  refine pure_ofK teOk Tryz.func19 (by kernel_rfl) (c := _) rfl (N := 141) rfl (rs := [Go.ResultVar.cell 4 65, Go.ResultVar.tmp 5]) rfl (by simp) fun A w0 hA => ?_
  have hk : ∀ κ, (A.at κ).lim = 0 := fun _ => hA
  refine AWK.st teOk [] (by simp [-Option.some.injEq] <;> rfl) trivial ?_
  refine AWK.scope ?_
  refine AWK.to (s2 := ⟨[(1, .c (cI limit)), (2, .c (.fad (encPg m lo am ins))), (4, .c (.ptr 0 0 0))], [(0, ⟨6, [zRep]⟩)], 1⟩) ((Weak.freeze 0 ⟨4, [encPg m lo am ins]⟩ [] _ (by simp) (by simp)).trans (Weak.normS (hk _) [1, 2, 4] [(4, 0)] [] [] 1 _ (by simp [mapAt_nil']) (by simp [mapAt_nil']) (by simp [mapAt_nil']))) (by simp [mapAt_nil']) ?_
  refine AWK.seq ?_
  refine AWK.st teOk [.fz (.c (cI 0))] (by simp [-Option.some.injEq] <;> rfl) ?_ ?_
  · simpa using c0
  refine AWK.st teOk [] (by simp [-Option.some.injEq] <;> rfl) trivial ?_
  refine AWK.iff false (by simp) (fun h => by cases h) (fun _ => AWK.skip ?_)
  refine AWK.mid (fun s => s = ⟨[(1, .c (cI (limOf limit : Nat))), (2, .c (.fad (encPg m lo am ins))), (4, .c (.ptr 0 0 0))], [(0, ⟨6, [zRep]⟩)], 1⟩) ?_ ?_
  · by_cases h1 : limit < 1
    · have hl : limOf limit = 4000 := by unfold limOf; rw [if_pos (.inl h1)]
      refine AWK.st teOk [] (by simp [h1, -Option.some.injEq] <;> rfl) trivial ?_
      refine AWK.iff true (by simp) (fun _ => ?_) (fun h => by cases h)
      refine AWK.text teOk (ans := []) (by simp [-Option.some.injEq] <;> rfl) ?_ ?_
      · trivial
      exact ⟨rfl, _, Weak.normS (hk _) [1, 2, 4] [(4, 0)] [] [] 1 _ (by simp) (by simp) (by simp), by simp [hl]⟩
    · by_cases h2 : limit > 4000
      · have hl : limOf limit = 4000 := by unfold limOf; rw [if_pos (.inr h2)]
        refine AWK.st teOk [] (by simp [h1, h2, -Option.some.injEq] <;> rfl) trivial ?_
        refine AWK.iff true (by simp) (fun _ => ?_) (fun h => by cases h)
        refine AWK.text teOk (ans := []) (by simp [-Option.some.injEq] <;> rfl) ?_ ?_
        · trivial
        exact ⟨rfl, _, Weak.normS (hk _) [1, 2, 4] [(4, 0)] [] [] 1 _ (by simp) (by simp) (by simp), by simp [hl]⟩
      · have hl : limit = (limOf limit : Nat) := by unfold limOf; rw [if_neg (by omega)]; omega
        refine AWK.st teOk [] (by simp [h1, h2, -Option.some.injEq] <;> rfl) trivial ?_
        refine AWK.iff false (by simp) (fun h => by cases h) (fun _ => AWK.skip ?_)
        exact ⟨rfl, _, Weak.normS (hk _) [1, 2, 4] [(4, 0)] [] [] 1 _ (by simp) (by simp) (by simp), by simp [← hl]⟩
  rintro s rfl
  generalize limOf limit = lim at *
  refine AWK.st teOk [.fz (.agg (encXp x0)), .fz (.agg (encXp s0))] (by simp [-Option.some.injEq] <;> rfl) ?_ ?_
  · simpa using ⟨c1, c2⟩
  refine AWK.st teOk [] (by simp [-Option.some.injEq] <;> rfl) trivial ?_
  refine AWK.to (s2 := ⟨[(1, .c (cI lim)), (4, .c (.ptr 0 0 0)), (7, .c (.fad (encXp s0))), (8, .c (.row 13 true ([⟨s0, 0, (0, 0), 0⟩].map encFd)))], [(0, ⟨6, [zRep]⟩)], 1⟩) ((Weak.freeze 2 ⟨9, [encXp s0]⟩ [] _ (by simp) (by simp)).trans (Weak.normS (hk _) [1, 4, 7, 8] [(4, 0)] [] [] 1 _ (by simp [mapAt_nil']) (by simp [mapAt_nil']) (by simp [mapAt_nil']))) (by simp [mapAt_nil']) ?_
  refine AWK.seq (AWK.region (RK.make rfl rfl rfl rfl (by decide) fun M => ?_))
  refine RK.pre teOk 2 [.fz (.c (.sc (.string (keyB s0))))] (by decide) (by simp [-Option.some.injEq] <;> rfl) ?_ ?_
  · simpa using c3
  refine RK.add (key := keyB s0) (ks := []) (Nat.le_refl _) rfl (.inr rfl) rfl rfl Tryz.underlying104 Tryz.underlying9 (by simp) (by simp) (by simp) (by simp) ?_
  refine RK.pre teOk 2 [] (by decide) (by simp [-Option.some.injEq] <;> rfl) trivial (RK.done (by decide) ?_)
  show AWK _ _ _ _ _ _ _ [(M, mapOf [keyB s0])] _
  refine AWK.to (s2 := ⟨[(1, .c (cI lim)), (4, .c (.ptr 0 0 0)), (7, .c (.fad (encXp s0))), (8, .c (.row 13 true ([⟨s0, 0, (0, 0), 0⟩].map encFd))), (9, .c (.sc (.map (some M))))], [(0, ⟨6, [zRep]⟩)], 1⟩) (Weak.normS (hk _) [1, 4, 7, 8, 9] [(4, 0)] [] [] 1 _ (by simp) (by simp) (by simp)) (by simp) ?_
  refine AWK.dr mixed teOk [.c (cI (finN s0)), .c (cB true)] (by simp [-Option.some.injEq] <;> rfl) (by kernel_rfl) (by kernel_rfl) ?_ ?_
  · simp [allP]
    exact ⟨cN s0, c4⟩
  obtain ⟨e0, he0⟩ : ∃ e0, e0 = firstX s0 := ⟨_, rfl⟩
  refine AWK.to (s2 := ⟨exT lim M false e0.fds, exG false e0.fds e0.steps e0.fin e0.dep, 3⟩) (Weak.normS (hk _) [1, 4, 8, 9, 10] [(4, 0), (10, 1)] [] [] 3 _ (by simp) (by simp) (by simp)) (by rw [he0]; simp [firstX]) ?_
  have hX0 : InvX lim s0 e0 := by rw [he0]; exact first_X hlim.1 hs
  have hR0 : exploreX lim s0 = outerX lim (lim - 0) 0 e0 := by unfold exploreX; rw [if_pos hs, he0]; rfl
  have hκ0 : [(M, mapOf [keyB s0])] = [(M, mapOf (ksOf e0))] := by rw [he0]; rfl
  have hd0 : ∀ f, e0.fds[0]? = some f → ∀ p ∈ e0.fds, p.dep ≤ f.dep + 1 := fun f hf p hp => by
    rw [he0] at hp
    rw [List.mem_singleton.1 hp]
    exact Nat.zero_le _
  have hst0 : e0.steps ≤ 100 * 0 := by rw [he0]; exact Nat.le_refl _
  clear he0 c0 c1 c2 c3 c4 hw0 hN0
  rw [hκ0]
  clear hκ0
  refine AWK.seq (AWK.label ?_)
  refine AWK.seq ?_
  refine AWK.st teOk [] (by simp [-Option.some.injEq] <;> rfl) trivial ?_
  refine AWK.block (AWK.loop (fun m' s κ => ∃ (q : Bool) (e : ExS) (i : Nat), m' = lim - i ∧ InvX lim s0 e ∧ i ≤ e.fds.length ∧ (∀ f, e.fds[i]? = some f → ∀ p ∈ e.fds, p.dep ≤ f.dep + 1) ∧ exploreX lim s0 = outerX lim (lim - i) i e ∧ e.steps ≤ 100 * i ∧ s = ⟨exT lim M q e.fds ++ [(11, .c (cI i))], exG q e.fds e.steps e.fin e.dep, 3⟩ ∧ κ = [(M, mapOf (ksOf e))]) (lim - 0) (Weak.normS (hk _) [1, 4, 8, 9, 10, 11] [(4, 0), (10, 1)] [] [] 3 _ (by simp) (by simp) (by simp)) ⟨false, e0, 0, rfl, hX0, Nat.zero_le _, hd0, hR0, hst0, by simp, rfl⟩ ?_)
  clear hX0 hR0 hd0 hst0 e0
  rintro m' s κ ⟨q, e, i, rfl, hX, hil, hd, hR, hst, rfl, rfl⟩
  have hfl : e.fds.length ≤ lim := hX.n.len
  by_cases hlt : i < e.fds.length
  · obtain ⟨f, hf⟩ : ∃ f, e.fds[i]? = some f := ⟨_, List.getElem?_eq_getElem hlt⟩
    have hd1 := hd f hf
    obtain ⟨okf, hcf, hpf⟩ := hJ.at hX.f (by omega) hf
    obtain ⟨n1, N1, hN1, hw1⟩ := okf.w
    have c6 := acts_pure f.s (by have := okf.k; omega) (by have := hw1.al; omega)
    have hal : (actsX f.s).length ≤ 60 := by have := acts_len f.s; have := okf.k; have := hw1.al; omega
    have hR2 : exploreX lim s0 = match innerX lim i f (actsX f.s) e with
      | .go e' => outerX lim (lim - (i + 1)) (i + 1) e'
      | o => o := by
      rw [hR, show lim - i = (lim - (i + 1)) + 1 by omega, outerX, hf]
      rfl
    obtain ⟨L, hL⟩ : ∃ L, L = actsX f.s := ⟨_, rfl⟩
    rw [← hL] at c6 hal hR2
    refine AWK.mid (fun s => s = ⟨exT lim M q e.fds ++ [(11, .c (cI i))], exG q e.fds e.steps e.fin e.dep, 3⟩) ?_ ?_
    · cases q
      all_goals
        refine AWK.st teOk [] (by simp [hlt, -Option.some.injEq] <;> rfl) trivial ?_
        refine AWK.iff true (by simp) (fun _ => AWK.skip ⟨rfl, _, Weak.normS (hk _) [1, 4, 8, 9, 10, 11] [(4, 0), (10, 1)] [(2, 2)] [] 3 _ (by simp) (by simp) (by simp), by simp⟩) (fun h => by cases h)
    rintro s rfl
    refine AWK.seq (AWK.block ?_)
    refine AWK.mid (fun s => s = ⟨exT lim M q e.fds ++ [(11, .c (cI i)), (62, .c (.row 2 false (L.map encA))), (63, .c (cI L.length)), (64, .c (cI 0))], exG q e.fds e.steps e.fin e.dep, 3⟩) ?_ ?_
    · cases q
      all_goals
        refine AWK.text teOk (ans := [.fz (.c (.row 2 false (L.map encA)))]) (by simp [hf, -Option.some.injEq] <;> rfl) ?_ ?_
        · exact ⟨hlt, c6⟩
        exact ⟨rfl, _, Weak.normS (hk _) [1, 4, 8, 9, 10, 11, 62, 63, 64] [(4, 0), (10, 1)] [(2, 2)] [] 3 _ (by simp) (by simp) (by simp), by simp⟩
    rintro s rfl
    have hLs : ∀ a ∈ L, a ∈ actsX f.s := fun a ha => by rw [hL] at ha; exact ha
    clear hL hR
    refine AWK.block (AWK.loop (fun m' s κ => ∃ (q : Bool) (e : ExS) (j : Nat), m' = L.length - j ∧ j ≤ L.length ∧ InvX lim s0 e ∧ e.fds[i]? = some f ∧ (∀ p ∈ e.fds, p.dep ≤ f.dep + 1) ∧ (exploreX lim s0 = match innerX lim i f (L.drop j) e with
      | .go e' => outerX lim (lim - (i + 1)) (i + 1) e'
      | o => o) ∧ e.steps ≤ 100 * i + j ∧ s = ⟨exT lim M q e.fds ++ [(11, .c (cI i)), (62, .c (.row 2 false (L.map encA))), (63, .c (cI L.length)), (64, .c (cI j))], exG q e.fds e.steps e.fin e.dep, 3⟩ ∧ κ = [(M, mapOf (ksOf e))]) L.length (Weak.refl _) ⟨q, e, 0, rfl, Nat.zero_le _, hX, hf, hd1, hR2, by omega, by simp, rfl⟩ ?_)
    clear hR2 hd1 hd hf hX hfl hlt hil hst e q
    rintro m' s κ ⟨q, e, j, rfl, hj, hX, hf, hd, hR, hst, rfl, rfl⟩
    have hfl : e.fds.length ≤ lim := hX.n.len
    have hlt := (List.getElem?_eq_some_iff.1 hf).1
    refine AWK.mid (fun s => s = ⟨exT lim M q e.fds ++ [(11, .c (cI i)), (62, .c (.row 2 false (L.map encA))), (63, .c (cI L.length)), (64, .c (cI j)), (65, .c (cB (decide (j < L.length))))], exG q e.fds e.steps e.fin e.dep, 3⟩) ?_ ?_
    · cases q
      all_goals
        refine AWK.text teOk (ans := []) (by simp [-Option.some.injEq] <;> rfl) ?_ ?_
        · trivial
        exact ⟨rfl, _, Weak.normS (hk _) [1, 4, 8, 9, 10, 11, 62, 63, 64, 65] [(4, 0), (10, 1)] [(2, 2)] [] 3 _ (by simp) (by simp) (by simp), by simp⟩
    rintro s rfl
    refine AWK.seq (AWK.iff (decide (j < L.length)) (by simp) (fun h => AWK.skip ?_) (fun h => AWK.exit (k_then (k_then (blockK_exit ?_)))))
    · rw [decide_eq_true_eq] at h
      obtain ⟨a, ha⟩ : ∃ a, L[j]? = some a := ⟨_, List.getElem?_eq_getElem h⟩
      have hda : L.drop j = a :: L.drop (j + 1) := by rw [List.drop_eq_getElem_cons h, (List.getElem?_eq_some_iff.1 ha).2]
      have hma := hLs a (List.mem_of_getElem? ha)
      rw [hda, innerX] at hR
      have hinc : IntKind.i64.wrap ((j : Int) + 1) = (j : Int) + 1 := wrap_s _ (by omega)
      have hsw : IntKind.i64.wrap ((e.steps : Int) + 1) = ((e.steps + 1 : Nat) : Int) := by rw [wrap_s _ (by omega)]; omega
      obtain ⟨okf2, hcf2, hpf2⟩ := hJ.at hX.f (by omega) hf
      have okp := hpf2 a hma
      have hone := one_is hX hf hma hd
      have c7 := perf_pure f.s hw1 hN1 okf.lo okf.am a
      have c8 := okp.can
      have hsmn := okp.sm
      have hkn := keys_known hJ hX (by omega) hsmn
      obtain ⟨p1, hp1⟩ : ∃ p1, p1 = perfX f.s a := ⟨_, rfl⟩
      rw [← hp1] at c7 c8 hsmn hkn okp
      obtain ⟨nx, hnx⟩ : ∃ nx, nx = canX p1 := ⟨_, rfl⟩
      rw [← hnx] at c8 hsmn hkn
      have c9 : Pure Tryz.prog 42 [.agg (encXp nx)] (.c (.sc (.string (keyB nx)))) := xkey_pure nx hsmn
      refine AWK.seq (AWK.block ?_)
      refine AWK.mid (fun s => s = ⟨exT lim M q e.fds ++ [(11, .c (cI i)), (62, .c (.row 2 false (L.map encA))), (63, .c (cI L.length)), (64, .c (cI j)), (13, .c (.fad (encA a)))], exG q e.fds e.steps e.fin e.dep, 3⟩) ?_ ?_
      · cases q
        all_goals
          refine AWK.text teOk (ans := []) (by simp [ha, -Option.some.injEq] <;> rfl) ?_ ?_
          · simpa using h
          exact ⟨rfl, _, (Weak.freeze 5 ⟨2, [encA a]⟩ [] _ (by simp) (by simp)).trans (Weak.normS (hk _) [1, 4, 8, 9, 10, 11, 62, 63, 64, 13] [(4, 0), (10, 1)] [(2, 2)] [] 3 _ (by simp [mapAt_nil']) (by simp [mapAt_nil']) (by simp [mapAt_nil'])), by simp [mapAt_nil']⟩
      rintro s rfl
      refine AWK.mid (fun s => s = ⟨exT lim M q e.fds ++ [(11, .c (cI i)), (62, .c (.row 2 false (L.map encA))), (63, .c (cI L.length)), (64, .c (cI j)), (13, .c (.fad (encA a)))], exG q e.fds (e.steps + 1) e.fin e.dep, 3⟩) ?_ ?_
      · cases q
        all_goals
          refine AWK.text teOk (ans := []) (by simp [hsw, -Option.some.injEq] <;> rfl) ?_ ?_
          · trivial
          exact ⟨rfl, _, Weak.normS (hk _) [1, 4, 8, 9, 10, 11, 62, 63, 64, 13] [(4, 0), (10, 1)] [(2, 2)] [] 3 _ (by simp) (by simp) (by simp), by simp⟩
      rintro s rfl
      refine AWK.mid (fun s => s = ⟨exT lim M q e.fds ++ [(11, .c (cI i)), (62, .c (.row 2 false (L.map encA))), (63, .c (cI L.length)), (64, .c (cI j)), (13, .c (.fad (encA a))), (14, .c (.fad (encXp nx)))], exG q e.fds (e.steps + 1) e.fin e.dep, 3⟩) ?_ ?_
      · cases q
        all_goals
          refine AWK.draw mixed teOk (ans := [.agg (encXp p1), .agg (encXp nx)]) (by simp [hf, -Option.some.injEq] <;> rfl) (by kernel_rfl) (by kernel_rfl) ?_ ?_
          · simp [allP]
            exact ⟨hlt, c7, c8⟩
          exact ⟨rfl, _, (Weak.freeze 9 ⟨9, [encXp nx]⟩ [] _ (by simp) (by simp)).trans (Weak.normS (hk _) [1, 4, 8, 9, 10, 11, 62, 63, 64, 13, 14] [(4, 0), (10, 1)] [(2, 2)] [] 3 _ (by simp [mapAt_nil']) (by simp [mapAt_nil']) (by simp [mapAt_nil'])), by simp [mapAt_nil']⟩
      rintro s rfl
      refine AWK.seq ?_
      refine AWK.st teOk [.fz (.c (.sc (.string (keyB nx))))] (by simp [-Option.some.injEq] <;> rfl) ?_ ?_
      · simpa using c9
      refine AWK.seq (AWK.region ?_)
      refine RK.pre teOk 2 [] (by decide) (by simp [-Option.some.injEq] <;> rfl) trivial ?_
      refine RK.find (M := M) (key := keyB nx) (ks := ksOf e) rfl rfl rfl rfl (by decide) Tryz.underlying104 Tryz.underlying9 (fun w => run_zeroValue (teOk 4 ti4 rfl) w) (knownX e nx) hkn (by simp) (by simp) (List.mem_singleton.2 rfl) (RK.done (by decide) ?_)
      refine AWK.to (s2 := ⟨exT lim M q e.fds ++ [(11, .c (cI i)), (62, .c (.row 2 false (L.map encA))), (63, .c (cI L.length)), (64, .c (cI j)), (13, .c (.fad (encA a))), (14, .c (.fad (encXp nx))), (15, .c (.sc (.string (keyB nx)))), (84, .c (cB (knownX e nx)))], exG q e.fds (e.steps + 1) e.fin e.dep, 3⟩) (Weak.normS (hk _) [1, 4, 8, 9, 10, 11, 62, 63, 64, 13, 14, 15, 84] [(4, 0), (10, 1)] [(2, 2)] [] 3 _ (by cases q <;> simp) (by cases q <;> simp) (by cases q <;> simp)) (by cases q <;> simp) ?_
      refine AWK.iff (knownX e nx) (by simp) (fun hkw => AWK.exit (k_then (blockK_exit ?_))) (fun hkw => ?_)
      · rw [hnx, hp1] at hkw
        rw [one_known hkw] at hR hone
        refine AWK.text teOk (ans := []) (by simp [-Option.some.injEq] <;> rfl) ?_ ?_
        · trivial
        refine ⟨_, _, Weak.normS (hk _) [1, 4, 8, 9, 10, 11, 62, 63, 64] [(4, 0), (10, 1)] [(2, 2)] [] 3 _ (by cases q <;> simp) (by cases q <;> simp) (by cases q <;> simp), ?_, q, { e with steps := e.steps + 1 }, j + 1, rfl, h, hone.1, hf, hd, hR, by show e.steps + 1 ≤ _; omega, ?_, rfl⟩
        · omega
        · cases q <;> simp [hinc]
      have hkw' : ¬ knownX e (canX (perfX f.s a)) = true := by rw [← hp1, ← hnx, hkw]; simp
      refine AWK.mid (fun s => s = ⟨exT lim M q e.fds ++ [(11, .c (cI i)), (62, .c (.row 2 false (L.map encA))), (63, .c (cI L.length)), (64, .c (cI j)), (13, .c (.fad (encA a))), (14, .c (.fad (encXp nx))), (15, .c (.sc (.string (keyB nx)))), (88, .c (cB (decide (e.fds.length = lim))))], exG q e.fds (e.steps + 1) e.fin e.dep, 3⟩) ?_ ?_
      · cases q
        all_goals
          refine AWK.text teOk (ans := []) (by simp [-Option.some.injEq] <;> rfl) ?_ ?_
          · trivial
          refine ⟨rfl, _, Weak.normS (hk _) [1, 4, 8, 9, 10, 11, 62, 63, 64, 13, 14, 15, 88] [(4, 0), (10, 1)] [(2, 2)] [] 3 _ (by simp) (by simp) (by simp), ?_⟩
          simp
          first | rfl | (rw [Bool.eq_iff_iff]; simp; omega)
      rintro s rfl
      by_cases hll : e.fds.length = lim
      · rw [one_long hkw' hll] at hR
        rw [decide_eq_true hll]
        refine AWK.iff true (by simp) (fun _ => ?_) (fun h => by cases h)
        refine AWK.st teOk [] (by simp [-Option.some.injEq] <;> rfl) trivial ?_
        refine AWK.ret ⟨⟨.inr rfl, _, Weak.refl _, ?_⟩, fun l hl => by cases hl⟩
        rw [hR]
        cases q <;> simp [repO]
      rw [decide_eq_false hll]
      refine AWK.iff false (by simp) (fun h => by cases h) (fun _ => AWK.region ?_)
      refine RK.pre teOk 2 [] (by decide) (by simp [-Option.some.injEq] <;> rfl) trivial ?_
      refine RK.add (key := keyB nx) (ks := ksOf e) (Nat.le_refl _) rfl (.inl rfl) rfl rfl Tryz.underlying104 Tryz.underlying9 (by simp) (by simp) (by simp) (fun hc => by rw [hkn.2 hc] at hkw; cases hkw) (RK.done (by decide) ?_)
      have hks : ksOf e ++ [keyB nx] = ksOf (pushX e i f a nx) := by simp [ksOf, pushX]
      rw [hks]
      refine AWK.to (s2 := ⟨exT lim M q e.fds ++ [(11, .c (cI i)), (62, .c (.row 2 false (L.map encA))), (63, .c (cI L.length)), (64, .c (cI j)), (13, .c (.fad (encA a))), (14, .c (.fad (encXp nx)))], exG q e.fds (e.steps + 1) e.fin e.dep, 3⟩) (Weak.normS (hk _) [1, 4, 8, 9, 10, 11, 62, 63, 64, 13, 14] [(4, 0), (10, 1)] [(2, 2)] [] 3 _ (by cases q <;> simp) (by cases q <;> simp) (by cases q <;> simp)) (by cases q <;> simp) ?_
      have hdl := hX.f.dep_le i f hf
      have hdw : IntKind.i64.wrap ((f.dep : Int) + 1) = ((f.dep + 1 : Nat) : Int) := by rw [wrap_s _ (by omega)]; omega
      have hlw : IntKind.i64.wrap ((e.fds.length : Int) + 1) = ((e.fds.length + 1 : Nat) : Int) := by rw [wrap_s _ (by omega)]; omega
      have hfinl : e.fin ≤ e.fds.length := by rw [hX.n.fin]; exact fin_le e.fds
      have hfn1 : finN nx ≤ 1 := by unfold finN; split <;> omega
      have hfw : IntKind.i64.wrap ((e.fin : Int) + (finN nx : Int)) = ((e.fin + finN nx : Nat) : Int) := by rw [IntKind.wrap_i64]; omega
      have hdpl := dep_bound hX
      obtain ⟨L2, hL2⟩ : ∃ L2, L2 = e.fds ++ [(⟨nx, i, a, f.dep + 1⟩ : Fd)] := ⟨_, rfl⟩
      have hL2l : L2.length = e.fds.length + 1 := by rw [hL2]; simp
      have hf2 : L2[i]? = some f := by rw [hL2]; exact get_app_l hf
      refine AWK.mid (fun s => s = ⟨exT lim M true L2 ++ [(11, .c (cI i)), (62, .c (.row 2 false (L.map encA))), (63, .c (cI L.length)), (64, .c (cI j)), (13, .c (.fad (encA a))), (14, .c (.fad (encXp nx)))], [(0, ⟨6, [zRep]⟩), (1, ⟨6, [repA e.fds.length (e.steps + 1) e.fin e.dep true nilC]⟩), (2, ⟨13, L2.map encFd⟩)], 3⟩) ?_ ?_
      · cases q
        all_goals
          refine AWK.draw mixed teOk (ans := []) (by simp [hf, hdw, -Option.some.injEq] <;> rfl) (by kernel_rfl) (by kernel_rfl) ?_ ?_
          · simp [allP, growOk]
            omega
          refine ⟨rfl, _, Weak.normS (hk _) [1, 4, 8, 9, 10, 11, 62, 63, 64, 13, 14] [(4, 0), (10, 1)] [(15, 2)] [] 3 _ (by simp) (by simp) (by simp), ?_⟩
          simp [hL2]
      rintro s rfl
      refine AWK.st teOk [] (by simp [hlw, -Option.some.injEq] <;> rfl) trivial ?_
      refine AWK.to (s2 := ⟨exT lim M true L2 ++ [(11, .c (cI i)), (62, .c (.row 2 false (L.map encA))), (63, .c (cI L.length)), (64, .c (cI j)), (13, .c (.fad (encA a))), (14, .c (.fad (encXp nx)))], [(0, ⟨6, [zRep]⟩), (1, ⟨6, [repA (e.fds.length + 1) (e.steps + 1) e.fin e.dep true nilC]⟩), (2, ⟨13, L2.map encFd⟩)], 3⟩) (Weak.normS (hk _) [1, 4, 8, 9, 10, 11, 62, 63, 64, 13, 14] [(4, 0), (10, 1)] [(2, 2)] [] 3 _ (by simp) (by simp) (by simp)) (by simp) ?_
      refine AWK.dr mixed teOk [.c (cI (finN nx))] (by simp [hfw, -Option.some.injEq] <;> rfl) (by kernel_rfl) (by kernel_rfl) ?_ ?_
      · simp [allP]
        exact cN nx
      refine AWK.to (s2 := ⟨exT lim M true L2 ++ [(11, .c (cI i)), (62, .c (.row 2 false (L.map encA))), (63, .c (cI L.length)), (64, .c (cI j)), (13, .c (.fad (encA a))), (14, .c (.fad (encXp nx)))], [(0, ⟨6, [zRep]⟩), (1, ⟨6, [repA (e.fds.length + 1) (e.steps + 1) (e.fin + finN nx) e.dep true nilC]⟩), (2, ⟨13, L2.map encFd⟩)], 3⟩) (Weak.normS (hk _) [1, 4, 8, 9, 10, 11, 62, 63, 64, 13, 14] [(4, 0), (10, 1)] [(2, 2)] [] 3 _ (by simp) (by simp) (by simp)) (by simp) ?_
      have hmax : (if (e.dep : Int) < (f.dep : Int) + 1 then (f.dep : Int) + 1 else (e.dep : Int)) = ((max e.dep (f.dep + 1) : Nat) : Int) := by split <;> omega
      refine AWK.dr mixed teOk [] (by simp [hf2, hdw, hmax, -Option.some.injEq] <;> rfl) (by kernel_rfl) (by kernel_rfl) ?_ ?_
      · simp [allP]
        omega
      refine AWK.to (s2 := ⟨exT lim M true L2 ++ [(11, .c (cI i)), (62, .c (.row 2 false (L.map encA))), (63, .c (cI L.length)), (64, .c (cI j)), (13, .c (.fad (encA a))), (14, .c (.fad (encXp nx)))], [(0, ⟨6, [zRep]⟩), (1, ⟨6, [repA (e.fds.length + 1) (e.steps + 1) (e.fin + finN nx) (max e.dep (f.dep + 1)) true nilC]⟩), (2, ⟨13, L2.map encFd⟩)], 3⟩) (Weak.normS (hk _) [1, 4, 8, 9, 10, 11, 62, 63, 64, 13, 14] [(4, 0), (10, 1)] [(2, 2)] [] 3 _ (by simp) (by simp) (by simp)) (by simp) ?_
      have c10 : Pure Tryz.prog 14 [.agg (encXp nx)] (.c (cB (safeG nx.g))) := by
        obtain ⟨n2, N2, hN2, hw2⟩ := okp.w
        rw [hnx]
        exact safe_pure (canX p1) (can_W hw2) hN2
      have hnx' : canX (perfX f.s a) = nx := by rw [hnx, hp1]
      refine AWK.st teOk [.fz (.c (cB (safeG nx.g)))] (by simp [-Option.some.injEq] <;> rfl) ?_ ?_
      · simpa using c10
      cases hsf : safeG nx.g with
      | true =>
        have hg := one_go (i := i) hkw' hll (by rw [hnx']; exact hsf)
        rw [hg] at hR hone
        rw [hnx'] at hR hone
        obtain ⟨hX2, _, hd2, _⟩ := hone
        refine AWK.iff false (by simp) (fun h => by cases h) (fun _ => AWK.skip ?_)
        refine AWK.text teOk (ans := []) (by simp [-Option.some.injEq] <;> rfl) ?_ ?_
        · trivial
        refine ⟨_, _, Weak.normS (hk _) [1, 4, 8, 9, 10, 11, 62, 63, 64] [(4, 0), (10, 1)] [(2, 2)] [] 3 _ (by simp) (by simp) (by simp), ?_, true, pushX e i f a nx, j + 1, rfl, h, hX2, by show (e.fds ++ _)[i]? = some f; exact get_app_l hf, hd2, hR, by show e.steps + 1 ≤ _; omega, ?_, rfl⟩
        · omega
        · simp [hinc, pushX, hL2]
      | false =>
        have hg := one_bad (i := i) hkw' hll (by rw [hnx', hsf]; simp)
        rw [hg] at hR hone
        rw [hnx'] at hR hone
        have hLe : L2 = (pushX e i f a nx).fds := hL2
        have c11 := sched_pure false L2 e.fds.length (by omega) (by rw [hLe]; exact fun j f hj hf => (hone.f.st j f hj hf).1) (by omega)
        have hlw2 : IntKind.i64.wrap ((L2.length : Int) - 1) = (e.fds.length : Int) := by rw [IntKind.wrap_i64, hL2l]; omega
        refine AWK.iff true (by simp) (fun _ => ?_) (fun h => by cases h)
        refine AWK.to (s2 := ⟨[(4, .c (.ptr 0 0 0)), (8, .c (.row 13 false (L2.map encFd))), (10, .c (.ptr 1 0 0))], [(0, ⟨6, [zRep]⟩), (1, ⟨6, [repA (e.fds.length + 1) (e.steps + 1) (e.fin + finN nx) (max e.dep (f.dep + 1)) true nilC]⟩)], 2⟩) ((Weak.freeze 2 ⟨13, L2.map encFd⟩ [] _ (by simp) (by simp)).trans (Weak.normS (hk _) [4, 8, 10] [(4, 0), (10, 1)] [] [] 2 _ (by simp) (by simp) (by simp))) (by simp) ?_
        refine AWK.st teOk [.fz (.c (.row 2 false ((schedX L2 e.fds.length e.fds.length).map encA)))] (by simp [hlw2, -Option.some.injEq] <;> rfl) ?_ ?_
        · simpa using c11
        refine AWK.exit ?_
        repeat (first | refine k_then ?_ | refine blockK_ne (by decide) ?_)
        refine blockK_exit ?_
        refine AWK.st teOk [] (by simp [-Option.some.injEq] <;> rfl) trivial ?_
        refine AWK.ret ⟨⟨.inr rfl, _, Weak.refl _, ?_⟩, fun l hl => by cases hl⟩
        rw [hR]
        simp [repO, pushX, ← hL2, hL2l]
    · have hjl : L.length ≤ j := by
        rw [decide_eq_false_iff_not] at h
        omega
      rw [List.drop_eq_nil_of_le hjl, innerX] at hR
      have hinc : IntKind.i64.wrap ((i : Int) + 1) = ((i + 1 : Nat) : Int) := by rw [wrap_s _ (by omega)]; omega
      refine ?_
      refine AWK.text teOk (ans := []) (by simp [hinc, -Option.some.injEq] <;> rfl) ?_ ?_
      · trivial
      refine ⟨_, _, Weak.normS (hk _) [1, 4, 8, 9, 10, 11] [(4, 0), (10, 1)] [(2, 2)] [] 3 _ (by cases q <;> simp) (by cases q <;> simp) (by cases q <;> simp), ?_, q, e, i + 1, rfl, hX, hlt, fun f2 hf2 => next_dep hX hf hf2 hd, hR, by omega, ?_, rfl⟩
      · omega
      · cases q <;> simp
  · have hR2 : exploreX lim s0 = .go e := by
      rw [hR]
      have hn : e.fds[i]? = none := List.getElem?_eq_none (by omega)
      cases lim - i with
      | zero => rfl
      | succ n => rw [outerX, hn]
    refine AWK.seq ?_
    have hlt' : ¬ i < e.fds.length := hlt
    refine AWK.mid (fun s => s = ⟨[(4, .c (.ptr 0 0 0)), (10, .c (.ptr 1 0 0)), (54, .c (cB false))], [(0, ⟨6, [zRep]⟩), (1, ⟨6, [repA e.fds.length e.steps e.fin e.dep true nilC]⟩)], 2⟩) ?_ ?_
    · cases q
      all_goals
        refine AWK.text teOk (ans := []) (by simp [hlt', -Option.some.injEq] <;> rfl) ?_ ?_
        · trivial
        exact ⟨rfl, _, Weak.normS (hk _) [4, 10, 54] [(4, 0), (10, 1)] [] [] 2 _ (by simp) (by simp) (by simp), by simp⟩
    rintro s rfl
    refine AWK.iff false (by simp) (fun h => by cases h) (fun _ => AWK.exit (k_then (k_then (blockK_exit ?_))))
    refine AWK.st teOk [] (by simp [-Option.some.injEq] <;> rfl) trivial ?_
    refine AWK.ret ⟨⟨.inr rfl, _, Weak.refl _, ?_⟩, fun l hl => by cases hl⟩
    rw [hR2]
    simp [repO]
end Go.Proofs.YtphlhadgcfndhaaGreatDoor.Abs
end
section
namespace Go.Proofs.YtphlhadgcfndhaaGreatDoor.Abs
open Go Go.RowKit
set_option linter.unusedVariables false
set_option linter.unusedSimpArgs false
set_option maxHeartbeats 4000000
def topV : V2 := [(1, 2), (2, 2)]
/-- Inputs of small programs. -/
structure PIns (ins : List (List V2)) (m : Nat) : Prop where
  m : 1 ≤ m ∧ m ≤ 2
  len : ins.length ≤ 2
  two : ∀ l ∈ ins, l.length ≤ 2 ∧ ∀ v ∈ l, V4 v ∧ Sub v topV
theorem top_val : Val topV := by
  refine ⟨fun e he => ?_, ?_⟩
  · revert he e
    decide
  · unfold Srt topV
    simp
theorem fold1_sub {t : V2} (ht : Val t) : ∀ (l : List V2) (a : V2), V4 a → Sub a t → (∀ v ∈ l, V4 v ∧ Sub v t) → Sub (l.foldl (mergeI true) a) t
  | [], a, _, h, _ => h
  | x :: l, a, ha, h, hl => by
    have hx := hl x (by simp)
    exact fold1_sub ht l (mergeI true a x) (ha.merge hx.1) (sub_m ha.val hx.1.val h hx.2) fun v hv => hl v (by simp [hv])
theorem fold2_sub {t : V2} (ht : Val t) : ∀ (ls : List (List V2)) (a : V2), V4 a → Sub a t → (∀ l ∈ ls, ∀ v ∈ l, V4 v ∧ Sub v t) → Sub (ls.foldl (fun a l => l.foldl (mergeI true) a) a) t
  | [], a, _, h, _ => h
  | l :: ls, a, ha, h, hl => by
    have h1 := fold1_sub ht l a ha h (hl l (by simp))
    have h2 := (fold1 l a ha fun v hv => (hl l (by simp) v hv).1).1
    exact fold2_sub ht ls _ h2 h1 fun q hq => hl q (by simp [hq])
theorem PIns.x {ins : List (List V2)} {m : Nat} (h : PIns ins m) : XIns ins (allIns ins) m := by
  have h4 : ∀ l ∈ ins, ∀ v ∈ l, V4 v := fun l hl v hv => ((h.two l hl).2 v hv).1
  have ha := all_4 h4
  refine ⟨h.m, h.len, fun l hl => ⟨(h.two l hl).1, fun v hv => ⟨h4 l hl v hv, all_sub h4 l hl v hv⟩⟩, ha, ?_⟩
  have hs : Sub (allIns ins) topV := fold2_sub top_val ins [] V4.nil (nil_sub top_val) fun l hl v hv => (h.two l hl).2 v hv
  have := siz_mono hs
  have e : sizV topV = 4 := by decide
  omega
theorem PIns.ok {ins : List (List V2)} {m : Nat} (h : PIns ins m) : InsOk ins := h.x.ok
/-- Small numbers. -/
def N0 (x : Int) : Prop := 0 ≤ x ∧ x < 100
theorem vec_small {v : V2} (h : V4 v) : (∀ x ∈ vecN v, N0 x) ∧ (vecN v).length ≤ 9 := by
  have hl := h.le
  refine ⟨fun x hx => ?_, by rw [vecN_len]; omega⟩
  unfold vecN at hx
  rcases List.mem_cons.1 hx with rfl | hx
  · unfold N0; omega
  · obtain ⟨e, he, hx⟩ := List.mem_flatMap.1 hx
    have h1 := h.val.1 e he
    have h3 := cnt_mem h.val.2 he
    have h4 := h.c e.1
    have h2 : e.1 ≤ 4 := by
      by_cases h5 : 4 < e.1
      · have := h.a e.1 h5
        unfold Good at h1
        omega
      · omega
    unfold N0
    unfold Good at h1
    simp only [entN, List.mem_cons, List.not_mem_nil, or_false] at hx
    rcases hx with rfl | rfl
    · omega
    · omega
theorem flat_len {α : Type} (f : α → List Int) (b : Nat) : ∀ l : List α, (∀ x ∈ l, (f x).length ≤ b) → (l.flatMap f).length ≤ b * l.length
  | [], _ => by simp
  | x :: l, h => by
    rw [List.flatMap_cons, List.length_append, List.length_cons, Nat.mul_succ]
    have := flat_len f b l fun y hy => h y (by simp [hy])
    have := h x (by simp)
    omega
theorem numB_small (b : Bool) : N0 (numB b) := by cases b <;> simp [numB, N0]
theorem acks_len {l : List Int} (ha : AscN l) (hr : ∀ a ∈ l, 0 ≤ a ∧ a < 12) : l.length ≤ 12 := by
  have := nd_len l (upto 12) (asc_nd ha) fun x hx => by
    have := hr x hx
    unfold upto
    exact List.mem_map.2 ⟨x.toNat, List.mem_range.2 (by omega), by simp; omega⟩
  simpa [upto] using this
theorem nsum_le (b : Nat) : ∀ l : List Nat, (∀ x ∈ l, x ≤ b) → l.sum ≤ b * l.length
  | [], _ => by simp
  | x :: l, h => by
    rw [List.sum_cons, List.length_cons, Nat.mul_succ]
    have := nsum_le b l fun y hy => h y (by simp [hy])
    have := h x (by simp)
    omega
theorem XInv.decs {ins : List (List V2)} {all : V2} {m N : Nat} {g : GrS} (h0 : XIns ins all m) (h : XInv ins all m N g) : g.decs.length ≤ 8 := by
  have hs := decs_sum g.ins.length g.decs h.e.r
  rw [← hs]
  have := nsum_le 4 ((List.range g.ins.length).map fun i => (decsOf g.decs i).length) fun x hx => by
    obtain ⟨i, hi, rfl⟩ := List.mem_map.1 hx
    have hil := List.mem_range.1 hi
    have e1 := h.w.nn.x
    have e2 := h.w.nn.i
    have e3 := h.w.nn.p
    obtain ⟨p, hp⟩ : ∃ p, g.props[i]? = some p := ⟨_, List.getElem?_eq_getElem (by omega)⟩
    obtain ⟨l, hl⟩ : ∃ l, g.ins[i]? = some l := ⟨_, List.getElem?_eq_getElem (by omega)⟩
    obtain ⟨x, hx⟩ : ∃ x, g.nxt[i]? = some x := ⟨_, List.getElem?_eq_getElem (by omega)⟩
    by_cases hne : l = []
    · subst hne
      rw [h.e.e i hl]
      simp
    · have h3 := h.e.f i p l x hp hl hx hne
      rw [h3.2.2.1]
      have h4 := (h.w.i l (List.mem_of_getElem? hl)).1
      have h5 := h3.1
      unfold upto
      rw [List.length_map, List.length_range]
      split <;> omega
  rw [List.length_map, List.length_range] at this
  have := h0.len
  have h6 : g.ins.length ≤ 2 := by rw [h.i]; exact h0.len
  omega
theorem XInv.small {ins : List (List V2)} {all : V2} {m N : Nat} {s : XpS} (h0 : XIns ins all m) (h : XInv ins all m N s.g) (hb : XB s.g) (hlo : 0 ≤ s.lo ∧ s.lo ≤ 2) (ham : 0 ≤ s.am ∧ s.am ≤ 2) (hst : s.g.steps = 0) (hds : ∀ d ∈ s.g.decs, d.step = 0) : XSm s := by
  have hpk := h.pks h0
  have hde := h.decs h0
  have e1 := h.w.nn.x
  have e2 := h.w.nn.i
  have e3 := h.w.nn.p
  have hil : s.g.ins.length ≤ 2 := by rw [h.i]; exact h0.len
  have hal : s.g.accs.length ≤ 2 := by rw [h.al]; exact h0.m.2
  have hA : ∀ v ∈ s.g.accs, (∀ x ∈ vecN v, N0 x) ∧ (vecN v).length ≤ 9 := fun v hv => vec_small (h.w.a v hv)
  have hP : ∀ p ∈ s.g.props, (∀ x ∈ prN p, N0 x) ∧ (prN p).length ≤ 25 := fun p hp => by
    have hw := h.w.p p hp
    obtain ⟨g1, g2⟩ := vec_small hw.v
    have hr := hb.rle h.w hp
    have hac := hb.a p hp
    have hl := acks_len hw.asc hac
    have hn := hw.n
    refine ⟨fun x hx => ?_, ?_⟩
    · unfold prN at hx
      rcases List.mem_append.1 hx with hx | hx
      · exact g1 x hx
      · rcases List.mem_append.1 hx with hx | hx
        · simp only [List.mem_cons, List.not_mem_nil, or_false] at hx
          rcases hx with rfl | rfl | rfl | rfl
          · unfold N0; omega
          · unfold N0; omega
          · exact numB_small _
          · unfold N0; omega
        · have := hac x hx
          unfold N0; omega
    · unfold prN
      rw [List.length_append, List.length_append]
      simp only [List.length_cons, List.length_nil]
      omega
  have hI : ∀ l ∈ s.g.ins, (∀ x ∈ inN l, N0 x) ∧ (inN l).length ≤ 28 := fun l hl => by
    obtain ⟨k1, k2⟩ := h.w.i l hl
    refine ⟨fun x hx => ?_, ?_⟩
    · unfold inN at hx
      rcases List.mem_cons.1 hx with rfl | hx
      · unfold N0; omega
      · obtain ⟨v, hv, hx⟩ := List.mem_flatMap.1 hx
        exact (vec_small (k2 v hv)).1 x hx
    · unfold inN
      rw [List.length_cons]
      have := flat_len vecN 9 l fun v hv => (vec_small (k2 v hv)).2
      omega
  have hK : ∀ k ∈ s.g.pks, (∀ x ∈ pkN k, N0 x) ∧ (pkN k).length ≤ 13 := fun k hk => by
    obtain ⟨k1, k2, i, l, k3, k4, _⟩ := h.w.k k hk
    obtain ⟨g1, g2⟩ := vec_small k1
    have k5 := hb.k k hk
    have k6 := (List.getElem?_eq_some_iff.1 k4).1
    refine ⟨fun x hx => ?_, ?_⟩
    · unfold pkN at hx
      rcases List.mem_append.1 hx with hx | hx
      · simp only [List.mem_cons, List.not_mem_nil, or_false] at hx
        rcases hx with rfl | rfl | rfl | rfl
        · exact numB_small _
        · unfold N0; omega
        · unfold N0; omega
        · unfold N0; omega
      · exact g1 x hx
    · unfold pkN
      rw [List.length_append]
      simp only [List.length_cons, List.length_nil]
      omega
  have hD : ∀ d ∈ s.g.decs, (∀ x ∈ deN d, d.step = 0 → N0 x) ∧ (deN d).length ≤ 12 := fun d hd => by
    obtain ⟨g1, g2⟩ := vec_small (h.w.d d hd)
    obtain ⟨_, i, l, p, v, k1, k2, k3, k4, _⟩ := h.v.de d hd
    have k5 := (List.getElem?_eq_some_iff.1 k2).1
    have k6 := (List.getElem?_eq_some_iff.1 k4).1
    have k7 := (h.w.i l (List.mem_of_getElem? k2)).1
    refine ⟨fun x hx hs => ?_, ?_⟩
    · unfold deN at hx
      rcases List.mem_append.1 hx with hx | hx
      · simp only [List.mem_cons, List.not_mem_nil, or_false] at hx
        rcases hx with rfl | rfl | rfl
        · unfold N0; omega
        · unfold N0; omega
        · unfold N0; omega
      · exact g1 x hx
    · unfold deN
      rw [List.length_append]
      simp only [List.length_cons, List.length_nil]
      omega
  have hN : ∀ x ∈ s.g.nxt, N0 x := fun x hx => by
    obtain ⟨i, hi⟩ := List.mem_iff_getElem?.1 hx
    have := h.w.x i x hi
    unfold N0; omega
  refine ⟨fun x hx => ?_, ?_⟩
  · unfold keyN at hx
    rcases List.mem_append.1 hx with hx | hx
    · simp only [List.mem_cons, List.not_mem_nil, or_false] at hx
      rcases hx with rfl | rfl | rfl | rfl | rfl | rfl | rfl | rfl | rfl <;> omega
    rcases List.mem_append.1 hx with hx | hx
    · obtain ⟨v, hv, hx⟩ := List.mem_flatMap.1 hx
      exact (hA v hv).1 x hx
    rcases List.mem_append.1 hx with hx | hx
    · obtain ⟨v, hv, hx⟩ := List.mem_flatMap.1 hx
      exact (hP v hv).1 x hx
    rcases List.mem_append.1 hx with hx | hx
    · obtain ⟨v, hv, hx⟩ := List.mem_flatMap.1 hx
      exact (hI v hv).1 x hx
    rcases List.mem_append.1 hx with hx | hx
    · exact hN x hx
    rcases List.mem_append.1 hx with hx | hx
    · obtain ⟨v, hv, hx⟩ := List.mem_flatMap.1 hx
      exact (hK v hv).1 x hx
    · obtain ⟨v, hv, hx⟩ := List.mem_flatMap.1 hx
      exact (hD v hv).1 x hx (hds v hv)
  · have l1 := flat_len vecN 9 s.g.accs fun v hv => (hA v hv).2
    have l2 := flat_len prN 25 s.g.props fun v hv => (hP v hv).2
    have l3 := flat_len inN 28 s.g.ins fun v hv => (hI v hv).2
    have l4 := flat_len pkN 13 s.g.pks fun v hv => (hK v hv).2
    have l5 := flat_len deN 12 s.g.decs fun v hv => (hD v hv).2
    unfold keyN
    simp only [List.length_append, List.length_cons, List.length_nil]
    omega
/-- What holds of a state after k steps; am0: how often the program lets acceptors forget. -/
structure JX (ins : List (List V2)) (m : Nat) (am0 : Int) (k : Nat) (s : XpS) : Prop where
  x : XInv ins (allIns ins) m (100 + 14 * k) s.g
  b : XB s.g
  lo : 0 ≤ s.lo ∧ s.lo ≤ 2
  am : 0 ≤ s.am ∧ s.am ≤ 2
  c : am0 = 0 → s.am = 0 ∧ ∃ H, InvC H [] s.g
theorem JX.can {ins : List (List V2)} {m k : Nat} {am0 : Int} {s : XpS} (h : JX ins m am0 k s) : JX ins m am0 k (canX s) := ⟨can_X h.x, can_B h.b, h.lo, h.am, fun ha => by
  obtain ⟨h0, H, hH⟩ := h.c ha
  exact ⟨h0, H, can_C hH⟩⟩
theorem JX.init {ins : List (List V2)} {m : Nat} (h0 : PIns ins m) {lo am : Int} (hlo : 0 ≤ lo ∧ lo ≤ 2) (ham : 0 ≤ am ∧ am ≤ 2) : JX ins m am 0 ⟨newG m ins, lo, am⟩ :=
  ⟨new_X h0.x, new_B fun l hl v hv => ((h0.two l hl).2 v hv).1, hlo, ham, fun h => ⟨h, _, new_C m ins⟩⟩
theorem JX.perf {ins : List (List V2)} {m k : Nat} {am0 : Int} (h0 : PIns ins m) {s : XpS} (h : JX ins m am0 k s) {a : ActP} (ha : a ∈ actsX s) : JX ins m am0 (k + 1) (perfX s a) := by
  have hc := perf_case ha
  have hb : XB (perfX s a).g ∧ (0 ≤ (perfX s a).lo ∧ (perfX s a).lo ≤ 2) ∧ (0 ≤ (perfX s a).am ∧ (perfX s a).am ≤ 2) ∧ (am0 = 0 → (perfX s a).am = 0 ∧ ∃ H, InvC H [] (perfX s a).g) ∧ XInv ins (allIns ins) m (100 + 14 * k + 14) (perfX s a).g := by
    have hlo := h.lo
    have ham := h.am
    generalize perfX s a = t at hc
    cases hc with
    | del i hi ha2 =>
      have hk : s.g.pks[i]? = some s.g.pks[i] := List.getElem?_eq_getElem hi
      have c := deliv_case h.x.w hk
      refine ⟨case_B h.x.w h.b hk c, hlo, ham, fun ha0 => ?_, deliv_X h0.x h.x hi⟩
      obtain ⟨h1, H, hH⟩ := h.c ha0
      exact ⟨h1, case_C h.x.w hH hk c⟩
    | lose i hi hl ha2 =>
      refine ⟨lose_B h.b i, ⟨by show 0 ≤ s.lo - 1; omega, by show s.lo - 1 ≤ 2; omega⟩, ham, fun ha0 => ?_, (lose_X h.x hi).ow (by omega)⟩
      obtain ⟨h1, H, hH⟩ := h.c ha0
      exact ⟨h1, H, lose_C hH i⟩
    | forg i hi hl ha2 =>
      refine ⟨forg_B h.b i, hlo, ⟨by show 0 ≤ s.am - 1; omega, by show s.am - 1 ≤ 2; omega⟩, fun ha0 => ?_, (forg_X h0.x h.x i).ow (by omega)⟩
      obtain ⟨h1, H, hH⟩ := h.c ha0
      omega
  exact ⟨hb.2.2.2.2.ow (by omega), hb.1, hb.2.1, hb.2.2.1, hb.2.2.2.1⟩
theorem JX.ok {ins : List (List V2)} {m k : Nat} {am0 : Int} (h0 : PIns ins m) (hk : k ≤ 5000) {s : XpS} (h : JX ins m am0 k s) : XOk s := by
  have hp := h.x.pks h0.x
  refine ⟨⟨_, 100 + 14 * k, by omega, h.x.w⟩, by omega, by have := h.lo; omega, by have := h.am; omega, ?_⟩
  have hc := h.can
  exact hc.x.small h0.x hc.b hc.lo hc.am rfl fun d hd => by
    obtain ⟨e, he, rfl⟩ := List.mem_map.1 hd
    rfl
theorem JX.safe {ins : List (List V2)} {m k : Nat} {s : XpS} (h : JX ins m 0 k s) : safeG s.g = true := by
  obtain ⟨_, H, hH⟩ := h.c rfl
  refine safe_of h.x.w ?_ fun d hd e he => invC_chain hH hd he
  rw [h.x.i]
  exact h.x.v
theorem good_of {ins : List (List V2)} {m : Nat} (h0 : PIns ins m) {lo am : Int} (hlo : 0 ≤ lo ∧ lo ≤ 2) (ham : 0 ≤ am ∧ am ≤ 2) : XGood (fun k s => JX ins m am k s ∧ canX s = s) (canX ⟨newG m ins, lo, am⟩) :=
  ⟨⟨(JX.init h0 hlo ham).can, canX_idem _⟩, fun k s a h ha => ⟨(h.1.perf h0 ha).can, canX_idem _⟩, fun k s hk h => ⟨h.1.ok h0 (by omega), h.2, fun a ha => (h.1.perf h0 ha).ok h0 (by omega)⟩⟩
theorem valGo_good : ∀ (v : V2) (p : Option Int), (∀ e ∈ v, Good e) → Srt v → (∀ q, p = some q → ∀ e ∈ v, q < e.1) → valGo p v = 0
  | [], _, _, _, _ => rfl
  | e :: v, p, hg, hs, hp => by
    have h1 := hg e (by simp)
    unfold Good at h1
    unfold Srt at hs
    rw [List.pairwise_cons] at hs
    rw [valGo, if_neg (by omega), if_neg]
    · exact valGo_good v (some e.1) (fun x hx => hg x (by simp [hx])) hs.2 fun q hq x hx => by
        cases hq
        exact hs.1 x hx
    · cases p with
      | none => simp
      | some q =>
        have := hp q rfl e (by simp)
        simp
        omega
theorem valI_ok {v : V2} (h : Val v) : valI v = 0 := valGo_good v none h.1 h.2 fun q hq => by cases hq
theorem valIns_ok {ins : List (List V2)} (h : ∀ l ∈ ins, l.length ≤ 2 ∧ ∀ v ∈ l, V4 v) : valIns ins = 0 := by
  have h1 : ∀ (l : List V2), (∀ v ∈ l, V4 v) → valVs l = 0 := fun l => by
    induction l with
    | nil => intro _; rfl
    | cons v l ih =>
      intro hv
      have h2 : valI v = 0 := valI_ok (hv v (by simp)).val
      rw [valVs, if_neg (by simpa using h2)]
      exact ih fun w hw => hv w (by simp [hw])
  induction ins with
  | nil => rfl
  | cons l ins ih =>
    obtain ⟨k1, k2⟩ := h l (by simp)
    rw [valIns, if_neg (by omega), if_neg (by rw [h1 l k2]; simp)]
    exact ih fun q hq => h q (by simp [hq])
theorem valP_ok {ins : List (List V2)} {m : Nat} (h0 : PIns ins m) {lo am : Int} (hlo : 0 ≤ lo ∧ lo ≤ 2) (ham : 0 ≤ am ∧ am ≤ 2) : valP m lo am ins = 0 := by
  have := h0.m
  have := h0.len
  unfold valP
  rw [if_neg (by omega), if_neg (by omega)]
  exact valIns_ok fun l hl => ⟨(h0.two l hl).1, fun v hv => ((h0.two l hl).2 v hv).1⟩
theorem safe_init (m : Nat) (ins : List (List V2)) (lo am : Int) : safeG (canX ⟨newG m ins, lo, am⟩).g = true := safe_nil (by
  show ((newG m ins).decs.map _) = []
  rw [(new_is m ins).decs]
  rfl)
/-- The search, for a small program. -/
theorem explore_ok {ins : List (List V2)} {m : Nat} (h0 : PIns ins m) {lo am : Int} (hlo : 0 ≤ lo ∧ lo ≤ 2) (ham : 0 ≤ am ∧ am ≤ 2) (limit : Int) : Pure Tryz.prog 19 [.agg (encPg m lo am ins), .c (cI limit)] (repO (exploreX (limOf limit) (canX ⟨newG m ins, lo, am⟩))) := by
  have hm := h0.m
  exact explore_pure (by omega) h0.ok lo am limit (valP_ok h0 hlo ham) (good_of h0 hlo ham) (safe_init m ins lo am) ((JX.init h0 hlo ham).ok h0 (by omega))
end Go.Proofs.YtphlhadgcfndhaaGreatDoor.Abs
end
section
namespace Go.Proofs.YtphlhadgcfndhaaGreatDoor.Abs
open Go Go.RowKit
set_option linter.unusedVariables false
set_option linter.unusedSimpArgs false
set_option maxHeartbeats 4000000
def awE1 : ExO := exploreX 4000 (canX ⟨newG 1 awI1, 0, 0⟩)
def awE2 : ExO := exploreX 4000 (canX ⟨newG 1 awI, 0, 1⟩)
theorem awE1_is : ∃ e, awE1 = .go e ∧ e.fds.length = 3 ∧ e.fin = 1 ∧ e.steps = 2 ∧ e.dep = 2 := by
  have h : (match awE1 with
    | .go e => decide (e.fds.length = 3) && (decide (e.fin = 1) && (decide (e.steps = 2) && decide (e.dep = 2)))
    | _ => false) = true := by decide +kernel
  generalize awE1 = x at h
  cases x with
  | go e =>
    simp only [Bool.and_eq_true, decide_eq_true_eq] at h
    exact ⟨e, rfl, h⟩
  | long => cases h
  | bad e => cases h
theorem awE2_is : ∃ e, awE2 = .bad e ∧ 0 < (schedX e.fds (e.fds.length - 1) (e.fds.length - 1)).length := by
  have h : (match awE2 with
    | .bad e => decide (0 < (schedX e.fds (e.fds.length - 1) (e.fds.length - 1)).length)
    | _ => false) = true := by decide +kernel
  generalize awE2 = x at h
  cases x with
  | go e => cases h
  | long => cases h
  | bad e => exact ⟨e, rfl, of_decide_eq_true h⟩
theorem sub_one (a : Int) (h : a = 1 ∨ a = 2) : Sub [(a, 1)] topV := fun x => by
  unfold topV cnt cnt cnt
  rcases h with rfl | rfl
  · by_cases h1 : (1 : Int) = x
    · subst h1; decide
    · simp only [h1, if_false]
      split <;> omega
  · by_cases h1 : (2 : Int) = x
    · subst h1; decide
    · simp only [h1, if_false]
      split <;> omega
theorem aw_pins : PIns awI 1 := ⟨by omega, by decide, fun l hl => by
  have h4 := (aw_ok.all l hl).2
  unfold awI at hl
  rcases List.mem_cons.1 hl with rfl | hl
  · exact ⟨by decide, fun v hv => ⟨h4 v hv, by rw [List.mem_singleton.1 hv]; exact sub_one 1 (.inl rfl)⟩⟩
  · rw [List.mem_singleton.1 hl] at h4 ⊢
    exact ⟨by decide, fun v hv => ⟨h4 v hv, by rw [List.mem_singleton.1 hv]; exact sub_one 2 (.inr rfl)⟩⟩⟩
theorem aw_pins1 : PIns awI1 1 := ⟨by omega, by decide, fun l hl => aw_pins.two l (by
  unfold awI1 at hl
  rw [List.mem_singleton.1 hl]
  simp [awI])⟩
theorem xvec_pure (a : Int) : Pure Tryz.prog 20 [.c (cI a)] (.c (.row 2 true [[cI a, cI 1]])) := by
  refine pure_of teOk Tryz.func20 (by kernel_rfl) (c := _) rfl (N := 6) rfl (rs := [Go.ResultVar.tmp 2]) rfl (by simp) fun base A w0 hA => ?_
  refine AW.st teOk [] (by simp [-Option.some.injEq] <;> rfl) trivial ?_
  refine AW.st teOk [] (by simp [-Option.some.injEq] <;> rfl) trivial ?_
  refine AW.ret ⟨.inr rfl, _, Weak.refl _, ?_⟩
  simp
theorem aw_e1 : Pure Tryz.prog 19 [.agg [cI 1, .row 1 true [[.row 1 true [[.row 2 true [[cI 1, cI 1]]]]]], cI 0, cI 0], .c (cI 0)] (repO awE1) :=
  (explore_ok aw_pins1 (lo := 0) (am := 0) (by omega) (by omega) 0).le (.cons (.aggs (.cons (.refl _) (.cons lit_1 (.cons (.refl _) (.cons (.refl _) .nil))))) (.cons (.refl _) .nil)) (.refl _)
theorem aw_e2 : Pure Tryz.prog 19 [.agg [cI 1, .row 1 true [[.row 1 true [[.row 2 true [[cI 1, cI 1]]]]], [.row 1 true [[.row 2 true [[cI 2, cI 1]]]]]], cI 0, cI 1], .c (cI 0)] (repO awE2) :=
  (explore_ok aw_pins (lo := 0) (am := 1) (by omega) (by omega) 0).le (.cons (.aggs (.cons (.refl _) (.cons lit_2 (.cons (.refl _) (.cons (.refl _) .nil))))) (.cons (.refl _) .nil)) (.refl _)
theorem awake40_pure : Pure Tryz.prog 4 [] (.c (cB true)) := by
  obtain ⟨e1, h1, h2, h3, h4, h5⟩ := awE1_is
  obtain ⟨e2, g1, g2⟩ := awE2_is
  have q1 := aw_e1
  have q2 := aw_e2
  rw [h1] at q1
  rw [g1] at q2
  unfold repO at q1 q2
  dsimp only at q1 q2
  rw [h2, h3, h4, h5] at q1
  obtain ⟨L, hL⟩ : ∃ L, L = schedX e2.fds (e2.fds.length - 1) (e2.fds.length - 1) := ⟨_, rfl⟩
  rw [← hL] at g2 q2
  generalize e2.fds.length = n1 at *
  generalize e2.steps = n2 at *
  generalize e2.fin = n3 at *
  generalize e2.dep = n4 at *
  clear hL
  refine pure_of teOk Tryz.func4 (by kernel_rfl) (c := _) rfl (N := 70) rfl (rs := [Go.ResultVar.tmp 0]) rfl (by simp) fun base A w0 hA => ?_
  refine AW.st teOk [] (by simp [-Option.some.injEq] <;> rfl) trivial ?_
  refine AW.st teOk [.fz (.c (.row 2 true [[cI 1, cI 1]])), .fz (.tup [.agg (repA 3 2 1 2 true nilC), .c (cI 0)])] (by simp [-Option.some.injEq] <;> rfl) ?_ ?_
  · simpa using ⟨xvec_pure 1, q1⟩
  refine AW.st teOk [.fz (.c (.row 2 true [[cI 1, cI 1]])), .fz (.c (.row 2 true [[cI 2, cI 1]])), .fz (.tup [.agg (repA n1 n2 n3 n4 false (.row 2 false (L.map encA))), .c (cI 0)])] (by simp [-Option.some.injEq] <;> rfl) ?_ ?_
  · simpa using ⟨xvec_pure 1, xvec_pure 2, q2⟩
  refine AW.st teOk [] (by simp [g2, -Option.some.injEq] <;> rfl) trivial ?_
  refine AW.ret ⟨.inr rfl, _, Weak.refl _, ?_⟩
  simp
end Go.Proofs.YtphlhadgcfndhaaGreatDoor.Abs
end
