/- Explore: the search, walked. -/
import Derived.Test.YtphlhadgcfndhaaDoorJd11
import Derived.Test.YtphlhadgcfndhaaDoorWXsfJd
import Derived.Test.YtphlhadgcfndhaaDoorJd12
import Derived.Test.YtphlhadgcfndhaaDoorWMap
namespace Go.Proofs.YtphlhadgcfndhaaDoor.Abs
open Go Go.RowKit
set_option linter.unusedVariables false
set_option linter.unusedSimpArgs false
set_option maxHeartbeats 4000000
/-- A state on which all operations of the search are told. -/
structure XOk (s : XpS) : Prop where
  w : ∃ n N, N < 1000000 ∧ GrW s.g n N
  k : s.g.pks.length < 20
  lo : s.lo < 1000000
  am : s.am < 1000000
  sm : XSm (canX s)
structure XGood (J : Nat → XpS → Prop) (s0 : XpS) : Prop where
  z : J 0 s0
  st : ∀ k s a, J k s → a ∈ actsX s → J (k + 1) (canX (perfX s a))
  ok : ∀ k s, k ≤ 4000 → J k s → XOk s ∧ canX s = s ∧ ∀ a ∈ actsX s, XOk (perfX s a)
theorem XOk.b {s : XpS} (h : XOk s) : GrB s.g := by
  obtain ⟨n, N, hN, hw⟩ := h.w
  exact hw.b (by omega)
theorem XOk.v {s : XpS} (h : XOk s) : ∀ k ∈ s.g.pks, k.v.length < 1000000 := fun k hk => by
  obtain ⟨n, N, hN, hw⟩ := h.w
  have := (hw.k k hk).1.le
  omega
theorem XOk.can {s : XpS} (h : XOk s) : Pure Tryd.prog 16 [.agg (encXp s)] (.agg (encXp (canX s))) := xcan_pure s h.b h.k h.v
theorem XGood.at {J : Nat → XpS → Prop} {s0 : XpS} (h : XGood J s0) {L : List Fd} (hF : InvF s0 L) (hl : L.length ≤ 4000) {j : Nat} {f : Fd} (hf : L[j]? = some f) : XOk f.s ∧ canX f.s = f.s ∧ ∀ a ∈ actsX f.s, XOk (perfX f.s a) := by
  have h1 := hF.dep_le j f hf
  have h2 := (List.getElem?_eq_some_iff.1 hf).1
  exact h.ok f.dep f.s (by omega) (hF.all (J := J) h.z h.st j f hf)
theorem canX_idem (s : XpS) : canX (canX s) = canX s := by
  unfold canX
  rw [canG_idem]
def keyB (s : XpS) : ByteArray := strB (strN (keyN s))
theorem keyB_inj {s t : XpS} (hs : XSm s) (ht : XSm t) (h : keyB s = keyB t) : s = t := by
  have h1 := strB_eq hs.sm ht.sm
  unfold keyB at h
  rw [h] at h1
  simp only [beq_self_eq_true] at h1
  exact keyN_inj (of_decide_eq_true h1.symm)
def ksOf (e : ExS) : List ByteArray := e.fds.map fun d => keyB d.s
theorem next_dep {lim : Nat} {s0 : XpS} {e : ExS} (h : InvX lim s0 e) {i : Nat} {f f2 : Fd} (hf : e.fds[i]? = some f) (hf2 : e.fds[i + 1]? = some f2) (hd : ∀ q ∈ e.fds, q.dep ≤ f.dep + 1) : ∀ q ∈ e.fds, q.dep ≤ f2.dep + 1 := fun q hq => by
  have hmono := List.pairwise_iff_getElem.1 h.f.mono i (i + 1) (List.getElem?_eq_some_iff.1 hf).1 (List.getElem?_eq_some_iff.1 hf2).1 (by omega)
  rw [(List.getElem?_eq_some_iff.1 hf).2, (List.getElem?_eq_some_iff.1 hf2).2] at hmono
  have := hd q hq
  omega
theorem fin_le : ∀ l : List Fd, (l.map fun f => finN f.s).sum ≤ l.length
  | [] => by simp
  | f :: l => by
    rw [List.map_cons, List.sum_cons, List.length_cons]
    have := fin_le l
    have : finN f.s ≤ 1 := by unfold finN; split <;> omega
    omega
theorem dep_bound {lim : Nat} {s0 : XpS} {e : ExS} (h : InvX lim s0 e) : e.dep < e.fds.length := by
  obtain ⟨f, hf, h1⟩ := h.n.dep.2
  obtain ⟨j, hj⟩ := List.mem_iff_getElem?.1 hf
  have := h.f.dep_le j f hj
  have := (List.getElem?_eq_some_iff.1 hj).1
  omega
def limOf (limit : Int) : Nat := if limit < 1 ∨ limit > 4000 then 4000 else limit.toNat
@[simp] def repA (a b c d : Nat) (sf : Bool) (v : Cell) : List Cell := [cI a, cI b, cI c, cI d, cB sf, v]
abbrev nilC : Cell := .sc (.slice none 0 0)
def repO : ExO → AVal
  | .go e => .tup [.agg (repA e.fds.length e.steps e.fin e.dep true nilC), .c (cI 0)]
  | .long => .tup [.agg (repA 0 0 0 0 false nilC), .c (cI 3)]
  | .bad e => .tup [.agg (repA e.fds.length e.steps e.fin e.dep false (.row 2 false ((schedX e.fds (e.fds.length - 1) (e.fds.length - 1)).map encA))), .c (cI 0)]
theorem AWK.mid {P : Program} {base : Nat} {A : Old} {w0 : World} {n : Nat} {κ : Kp} (J : St → Prop) {x y : Code} {s : St} {Q : Exit → St → Kp → Prop} (h1 : AWK P base A w0 n x s κ (thenK (fun s' κ' => κ' = κ ∧ ∃ s'', Weak (A.at κ) s' s'' ∧ J s'') Q)) (h2 : ∀ s', J s' → AWK P base A w0 n y s' κ Q) : AWK P base A w0 n (.seq x y) s κ Q :=
  AWK.seq fun β a w I => wp_mono (h1 β a w I) fun e a' w' ⟨s', κ', β', hq, I'⟩ => by
    cases e with
    | normal =>
      obtain ⟨rfl, s'', hw, hj⟩ := hq
      obtain ⟨β'', I''⟩ := hw base w0 n β' a' w' I'
      exact ⟨s'', κ', β'', AWK.weak (Weak.refl _) (h2 s'' hj), I''⟩
    | exit id => exact ⟨s', κ', β', hq, I'⟩
    | goto l => exact ⟨s', κ', β', hq, I'⟩
    | ret => exact ⟨s', κ', β', hq, I'⟩
    | panic ch => exact ⟨s', κ', β', hq, I'⟩
    | outgrown => exact ⟨s', κ', β', hq, I'⟩
@[simp] def zRep : List Cell := [cI 0, cI 0, cI 0, cI 0, cB false, nilC]
/-- The list of states: a literal, or an object. -/
@[simp] def slF (q : Bool) (L : List Fd) : AVal := if q = true then .c (.ref 2 0 L.length) else .c (.row 13 true (L.map encFd))
@[simp] def sgF (q : Bool) (L : List Fd) : Sig := if q = true then [(2, ⟨13, L.map encFd⟩)] else []
@[simp] def exT (lim M : Nat) (q : Bool) (L : List Fd) : Tau := [(1, .c (cI lim)), (4, .c (.ptr 0 0 0)), (8, slF q L), (9, .c (.sc (.map (some M)))), (10, .c (.ptr 1 0 0))]
@[simp] def exG (q : Bool) (L : List Fd) (sp fn dp : Nat) : Sig := [(0, ⟨6, [zRep]⟩), (1, ⟨6, [repA L.length sp fn dp true nilC]⟩)] ++ sgF q L
theorem keys_known {lim : Nat} {s0 : XpS} {e : ExS} {J : Nat → XpS → Prop} (hJ : XGood J s0) (h : InvX lim s0 e) (hl : e.fds.length ≤ 4000) {nx : XpS} (hn : XSm nx) : knownX e nx = true ↔ keyB nx ∈ ksOf e := by
  rw [known_iff]
  unfold ksOf
  rw [List.mem_map]
  constructor
  · rintro ⟨q, hq, rfl⟩
    exact ⟨q, hq, rfl⟩
  · rintro ⟨q, hq, h1⟩
    obtain ⟨j, hj⟩ := List.mem_iff_getElem?.1 hq
    obtain ⟨g1, g2, _⟩ := hJ.at h.f hl hj
    have := g1.sm
    rw [g2] at this
    exact ⟨q, hq, keyB_inj this hn h1⟩
theorem one_known {lim i : Nat} {f : Fd} {a : ActP} {e : ExS} (h : knownX e (canX (perfX f.s a)) = true) : oneX lim i f a e = .go { e with steps := e.steps + 1 } := by
  unfold oneX
  dsimp only
  rw [if_pos h]
theorem one_long {lim i : Nat} {f : Fd} {a : ActP} {e : ExS} (h : ¬ knownX e (canX (perfX f.s a)) = true) (hl : e.fds.length = lim) : oneX lim i f a e = .long := by
  unfold oneX
  dsimp only
  rw [if_neg h, if_pos hl]
theorem one_go {lim i : Nat} {f : Fd} {a : ActP} {e : ExS} (h : ¬ knownX e (canX (perfX f.s a)) = true) (hl : ¬ e.fds.length = lim) (hs : safeG (canX (perfX f.s a)).g = true) : oneX lim i f a e = .go (pushX e i f a (canX (perfX f.s a))) := by
  unfold oneX
  dsimp only
  rw [if_neg h, if_neg hl, if_pos hs]
theorem one_bad {lim i : Nat} {f : Fd} {a : ActP} {e : ExS} (h : ¬ knownX e (canX (perfX f.s a)) = true) (hl : ¬ e.fds.length = lim) (hs : ¬ safeG (canX (perfX f.s a)).g = true) : oneX lim i f a e = .bad (pushX e i f a (canX (perfX f.s a))) := by
  unfold oneX
  dsimp only
  rw [if_neg h, if_neg hl, if_neg hs]
theorem explore_pure {m : Nat} (hm : 1 ≤ m ∧ m ≤ 3) {ins : List (List V2)} (hi : InsOk ins) (lo am limit : Int) (hv : valP m lo am ins = 0) {J : Nat → XpS → Prop} (hJ : XGood J (canX ⟨newG m ins, lo, am⟩)) (hs : safeG (canX ⟨newG m ins, lo, am⟩).g = true) (hx : XOk ⟨newG m ins, lo, am⟩) :
    Pure Tryd.prog 11 [.agg (encPg m lo am ins), .c (cI limit)] (repO (exploreX (limOf limit) (canX ⟨newG m ins, lo, am⟩))) := by
  have c0 := xval_pure m lo am ins (by have := hi.len; omega) (fun l hl => ⟨by have := (hi.all l hl).1; omega, fun v hv => by have := ((hi.all l hl).2 v hv).le; omega⟩)
  rw [hv] at c0
  have c1 := initX_pure m (by omega) hi lo am
  have c2 := hx.can
  generalize (⟨newG m ins, lo, am⟩ : XpS) = x0 at *
  generalize hs0 : canX x0 = s0 at *
  have hlim : 1 ≤ limOf limit ∧ limOf limit ≤ 4000 := by unfold limOf; split <;> omega
  obtain ⟨ok0, hc0, hp0⟩ := hJ.ok 0 s0 (by omega) hJ.z
  have c3 : Pure Tryd.prog 25 [.agg (encXp s0)] (.c (.sc (.string (keyB s0)))) := xkey_pure s0 (by have := ok0.sm; rw [hc0] at this; exact this)
  obtain ⟨n0, N0, hN0, hw0⟩ := ok0.w
  have c4 := safe_pure s0 hw0 hN0
  rw [hs] at c4
  have cN : ∀ s : XpS, Pure Tryd.prog 26 [.c (cB ((s.g.pks.length : Int) == 0))] (.c (cI (finN s))) := fun s => by
    have h := xnumber_pure ((s.g.pks.length : Int) == 0)
    have e : numB ((s.g.pks.length : Int) == 0) = (finN s : Int) := by
      unfold numB finN
      by_cases h : s.g.pks.length = 0 <;> simp [h]
    rw [e] at h
    exact h
  refine pure_ofK teOk Tryd.func11 (by kernel_rfl) (c := _) rfl (N := 141) rfl (rs := [Go.ResultVar.cell 4 34, Go.ResultVar.tmp 5]) rfl (by simp) fun A w0 hA => ?_
  have hk : ∀ κ, (A.at κ).lim = 0 := fun _ => hA
  refine AWK.st teOk [] (by simp [-Option.some.injEq] <;> rfl) trivial ?_
  refine AWK.scope ?_
  refine AWK.to (s2 := ⟨[(1, .c (cI limit)), (2, .c (.fad (encPg m lo am ins))), (4, .c (.ptr 0 0 0))], [(0, ⟨6, [zRep]⟩)], 1⟩) ((Weak.freeze 0 ⟨4, [encPg m lo am ins]⟩ [] _ (by simp) (by simp)).trans (Weak.normS (hk _) [1, 2, 4] [(4, 0)] [] [] 1 _ (by simp [mapAt_nil']) (by simp [mapAt_nil']) (by simp [mapAt_nil']))) (by simp [mapAt_nil']) ?_
  refine AWK.seq ?_
  refine AWK.st teOk [.fz (.c (cI 0))] (by simp [-Option.some.injEq] <;> rfl) ?_ ?_
  · simpa using c0
  refine AWK.st teOk [] (by simp [-Option.some.injEq] <;> rfl) trivial ?_
  refine AWK.iff false (by simp) (fun h => by cases h) (fun _ => AWK.skip ?_)
  refine AWK.mid (fun s => s = ⟨[(1, .c (cI (limOf limit : Nat))), (2, .c (.fad (encPg m lo am ins))), (4, .c (.ptr 0 0 0))], [(0, ⟨6, [zRep]⟩)], 1⟩) ?_ ?_
  · by_cases h1 : limit < 1
    · have hl : limOf limit = 4000 := by unfold limOf; rw [if_pos (.inl h1)]
      refine AWK.st teOk [] (by simp [h1, -Option.some.injEq] <;> rfl) trivial ?_
      refine AWK.iff true (by simp) (fun _ => ?_) (fun h => by cases h)
      refine AWK.text teOk (ans := []) (by simp [-Option.some.injEq] <;> rfl) ?_ ?_
      · trivial
      exact ⟨rfl, _, Weak.normS (hk _) [1, 2, 4] [(4, 0)] [] [] 1 _ (by simp) (by simp) (by simp), by simp [hl]⟩
    · by_cases h2 : limit > 4000
      · have hl : limOf limit = 4000 := by unfold limOf; rw [if_pos (.inr h2)]
        refine AWK.st teOk [] (by simp [h1, h2, -Option.some.injEq] <;> rfl) trivial ?_
        refine AWK.iff true (by simp) (fun _ => ?_) (fun h => by cases h)
        refine AWK.text teOk (ans := []) (by simp [-Option.some.injEq] <;> rfl) ?_ ?_
        · trivial
        exact ⟨rfl, _, Weak.normS (hk _) [1, 2, 4] [(4, 0)] [] [] 1 _ (by simp) (by simp) (by simp), by simp [hl]⟩
      · have hl : limit = (limOf limit : Nat) := by unfold limOf; rw [if_neg (by omega)]; omega
        refine AWK.st teOk [] (by simp [h1, h2, -Option.some.injEq] <;> rfl) trivial ?_
        refine AWK.iff false (by simp) (fun h => by cases h) (fun _ => AWK.skip ?_)
        exact ⟨rfl, _, Weak.normS (hk _) [1, 2, 4] [(4, 0)] [] [] 1 _ (by simp) (by simp) (by simp), by simp [← hl]⟩
  rintro s rfl
  generalize limOf limit = lim at *
  refine AWK.st teOk [.fz (.agg (encXp x0)), .fz (.agg (encXp s0))] (by simp [-Option.some.injEq] <;> rfl) ?_ ?_
  · simpa using ⟨c1, c2⟩
  refine AWK.st teOk [] (by simp [-Option.some.injEq] <;> rfl) trivial ?_
  refine AWK.to (s2 := ⟨[(1, .c (cI lim)), (4, .c (.ptr 0 0 0)), (7, .c (.fad (encXp s0))), (8, .c (.row 13 true ([⟨s0, 0, (0, 0), 0⟩].map encFd)))], [(0, ⟨6, [zRep]⟩)], 1⟩) ((Weak.freeze 2 ⟨9, [encXp s0]⟩ [] _ (by simp) (by simp)).trans (Weak.normS (hk _) [1, 4, 7, 8] [(4, 0)] [] [] 1 _ (by simp [mapAt_nil']) (by simp [mapAt_nil']) (by simp [mapAt_nil']))) (by simp [mapAt_nil']) ?_
  refine AWK.seq (AWK.region (RK.make rfl rfl rfl rfl (by decide) fun M => ?_))
  refine RK.pre teOk 2 [.fz (.c (.sc (.string (keyB s0))))] (by decide) (by simp [-Option.some.injEq] <;> rfl) ?_ ?_
  · simpa using c3
  refine RK.add (key := keyB s0) (ks := []) (Nat.le_refl _) rfl (.inr rfl) rfl rfl Tryd.underlying74 Tryd.underlying9 (by simp) (by simp) (by simp) (by simp) ?_
  refine RK.pre teOk 2 [] (by decide) (by simp [-Option.some.injEq] <;> rfl) trivial (RK.done (by decide) ?_)
  show AWK _ _ _ _ _ _ _ [(M, mapOf [keyB s0])] _
  refine AWK.to (s2 := ⟨[(1, .c (cI lim)), (4, .c (.ptr 0 0 0)), (7, .c (.fad (encXp s0))), (8, .c (.row 13 true ([⟨s0, 0, (0, 0), 0⟩].map encFd))), (9, .c (.sc (.map (some M))))], [(0, ⟨6, [zRep]⟩)], 1⟩) (Weak.normS (hk _) [1, 4, 7, 8, 9] [(4, 0)] [] [] 1 _ (by simp) (by simp) (by simp)) (by simp) ?_
  refine AWK.dr mixed teOk [.c (cI (finN s0)), .c (cB true)] (by simp [-Option.some.injEq] <;> rfl) (by kernel_rfl) (by kernel_rfl) ?_ ?_
  · simp [allP]
    exact ⟨cN s0, c4⟩
  obtain ⟨e0, he0⟩ : ∃ e0, e0 = firstX s0 := ⟨_, rfl⟩
  refine AWK.to (s2 := ⟨exT lim M false e0.fds, exG false e0.fds e0.steps e0.fin e0.dep, 3⟩) (Weak.normS (hk _) [1, 4, 8, 9, 10] [(4, 0), (10, 1)] [] [] 3 _ (by simp) (by simp) (by simp)) (by rw [he0]; simp [firstX]) ?_
  have hX0 : InvX lim s0 e0 := by rw [he0]; exact first_X hlim.1 hs
  have hR0 : exploreX lim s0 = outerX lim (lim - 0) 0 e0 := by unfold exploreX; rw [if_pos hs, he0]; rfl
  have hκ0 : [(M, mapOf [keyB s0])] = [(M, mapOf (ksOf e0))] := by rw [he0]; rfl
  have hd0 : ∀ f, e0.fds[0]? = some f → ∀ p ∈ e0.fds, p.dep ≤ f.dep + 1 := fun f hf p hp => by
    rw [he0] at hp
    rw [List.mem_singleton.1 hp]
    exact Nat.zero_le _
  have hst0 : e0.steps ≤ 100 * 0 := by rw [he0]; exact Nat.le_refl _
  clear he0 c0 c1 c2 c3 c4 hw0 hN0
  rw [hκ0]
  clear hκ0
  refine AWK.seq (AWK.label ?_)
  refine AWK.seq ?_
  refine AWK.st teOk [] (by simp [-Option.some.injEq] <;> rfl) trivial ?_
  refine AWK.block (AWK.loop (fun m' s κ => ∃ (q : Bool) (e : ExS) (i : Nat), m' = lim - i ∧ InvX lim s0 e ∧ i ≤ e.fds.length ∧ (∀ f, e.fds[i]? = some f → ∀ p ∈ e.fds, p.dep ≤ f.dep + 1) ∧ exploreX lim s0 = outerX lim (lim - i) i e ∧ e.steps ≤ 100 * i ∧ s = ⟨exT lim M q e.fds ++ [(11, .c (cI i))], exG q e.fds e.steps e.fin e.dep, 3⟩ ∧ κ = [(M, mapOf (ksOf e))]) (lim - 0) (Weak.normS (hk _) [1, 4, 8, 9, 10, 11] [(4, 0), (10, 1)] [] [] 3 _ (by simp) (by simp) (by simp)) ⟨false, e0, 0, rfl, hX0, Nat.zero_le _, hd0, hR0, hst0, by simp, rfl⟩ ?_)
  clear hX0 hR0 hd0 hst0 e0
  rintro m' s κ ⟨q, e, i, rfl, hX, hil, hd, hR, hst, rfl, rfl⟩
  have hfl : e.fds.length ≤ lim := hX.n.len
  by_cases hlt : i < e.fds.length
  · obtain ⟨f, hf⟩ : ∃ f, e.fds[i]? = some f := ⟨_, List.getElem?_eq_getElem hlt⟩
    have hd1 := hd f hf
    obtain ⟨okf, hcf, hpf⟩ := hJ.at hX.f (by omega) hf
    obtain ⟨n1, N1, hN1, hw1⟩ := okf.w
    have c6 := acts_pure f.s (by have := okf.k; omega) (by have := hw1.al; omega)
    have hal : (actsX f.s).length ≤ 60 := by have := acts_len f.s; have := okf.k; have := hw1.al; omega
    have hR2 : exploreX lim s0 = match innerX lim i f (actsX f.s) e with
      | .go e' => outerX lim (lim - (i + 1)) (i + 1) e'
      | o => o := by
      rw [hR, show lim - i = (lim - (i + 1)) + 1 by omega, outerX, hf]
      rfl
    obtain ⟨L, hL⟩ : ∃ L, L = actsX f.s := ⟨_, rfl⟩
    rw [← hL] at c6 hal hR2
    refine AWK.mid (fun s => s = ⟨exT lim M q e.fds ++ [(11, .c (cI i))], exG q e.fds e.steps e.fin e.dep, 3⟩) ?_ ?_
    · cases q
      all_goals
        refine AWK.st teOk [] (by simp [hlt, -Option.some.injEq] <;> rfl) trivial ?_
        refine AWK.iff true (by simp) (fun _ => AWK.skip ⟨rfl, _, Weak.normS (hk _) [1, 4, 8, 9, 10, 11] [(4, 0), (10, 1)] [(2, 2)] [] 3 _ (by simp) (by simp) (by simp), by simp⟩) (fun h => by cases h)
    rintro s rfl
    refine AWK.seq (AWK.block ?_)
    refine AWK.mid (fun s => s = ⟨exT lim M q e.fds ++ [(11, .c (cI i)), (62, .c (.row 2 false (L.map encA))), (63, .c (cI L.length)), (64, .c (cI 0))], exG q e.fds e.steps e.fin e.dep, 3⟩) ?_ ?_
    · cases q
      all_goals
        refine AWK.text teOk (ans := [.fz (.c (.row 2 false (L.map encA)))]) (by simp [hf, -Option.some.injEq] <;> rfl) ?_ ?_
        · exact ⟨hlt, c6⟩
        exact ⟨rfl, _, Weak.normS (hk _) [1, 4, 8, 9, 10, 11, 62, 63, 64] [(4, 0), (10, 1)] [(2, 2)] [] 3 _ (by simp) (by simp) (by simp), by simp⟩
    rintro s rfl
    have hLs : ∀ a ∈ L, a ∈ actsX f.s := fun a ha => by rw [hL] at ha; exact ha
    clear hL hR
    refine AWK.block (AWK.loop (fun m' s κ => ∃ (q : Bool) (e : ExS) (j : Nat), m' = L.length - j ∧ j ≤ L.length ∧ InvX lim s0 e ∧ e.fds[i]? = some f ∧ (∀ p ∈ e.fds, p.dep ≤ f.dep + 1) ∧ (exploreX lim s0 = match innerX lim i f (L.drop j) e with
      | .go e' => outerX lim (lim - (i + 1)) (i + 1) e'
      | o => o) ∧ e.steps ≤ 100 * i + j ∧ s = ⟨exT lim M q e.fds ++ [(11, .c (cI i)), (62, .c (.row 2 false (L.map encA))), (63, .c (cI L.length)), (64, .c (cI j))], exG q e.fds e.steps e.fin e.dep, 3⟩ ∧ κ = [(M, mapOf (ksOf e))]) L.length (Weak.refl _) ⟨q, e, 0, rfl, Nat.zero_le _, hX, hf, hd1, hR2, by omega, by simp, rfl⟩ ?_)
    clear hR2 hd1 hd hf hX hfl hlt hil hst e q
    rintro m' s κ ⟨q, e, j, rfl, hj, hX, hf, hd, hR, hst, rfl, rfl⟩
    have hfl : e.fds.length ≤ lim := hX.n.len
    have hlt := (List.getElem?_eq_some_iff.1 hf).1
    refine AWK.mid (fun s => s = ⟨exT lim M q e.fds ++ [(11, .c (cI i)), (62, .c (.row 2 false (L.map encA))), (63, .c (cI L.length)), (64, .c (cI j)), (65, .c (cB (decide (j < L.length))))], exG q e.fds e.steps e.fin e.dep, 3⟩) ?_ ?_
    · cases q
      all_goals
        refine AWK.text teOk (ans := []) (by simp [-Option.some.injEq] <;> rfl) ?_ ?_
        · trivial
        exact ⟨rfl, _, Weak.normS (hk _) [1, 4, 8, 9, 10, 11, 62, 63, 64, 65] [(4, 0), (10, 1)] [(2, 2)] [] 3 _ (by simp) (by simp) (by simp), by simp⟩
    rintro s rfl
    refine AWK.seq (AWK.iff (decide (j < L.length)) (by simp) (fun h => AWK.skip ?_) (fun h => AWK.exit (k_then (k_then (blockK_exit ?_)))))
    · rw [decide_eq_true_eq] at h
      obtain ⟨a, ha⟩ : ∃ a, L[j]? = some a := ⟨_, List.getElem?_eq_getElem h⟩
      have hda : L.drop j = a :: L.drop (j + 1) := by rw [List.drop_eq_getElem_cons h, (List.getElem?_eq_some_iff.1 ha).2]
      have hma := hLs a (List.mem_of_getElem? ha)
      rw [hda, innerX] at hR
      have hinc : IntKind.i64.wrap ((j : Int) + 1) = (j : Int) + 1 := wrap_s _ (by omega)
      have hsw : IntKind.i64.wrap ((e.steps : Int) + 1) = ((e.steps + 1 : Nat) : Int) := by rw [wrap_s _ (by omega)]; omega
      obtain ⟨okf2, hcf2, hpf2⟩ := hJ.at hX.f (by omega) hf
      have okp := hpf2 a hma
      have hone := one_is hX hf hma hd
      have c7 := perf_pure f.s hw1 hN1 okf.lo okf.am a
      have c8 := okp.can
      have hsmn := okp.sm
      have hkn := keys_known hJ hX (by omega) hsmn
      obtain ⟨p1, hp1⟩ : ∃ p1, p1 = perfX f.s a := ⟨_, rfl⟩
      rw [← hp1] at c7 c8 hsmn hkn okp
      obtain ⟨nx, hnx⟩ : ∃ nx, nx = canX p1 := ⟨_, rfl⟩
      rw [← hnx] at c8 hsmn hkn
      have c9 : Pure Tryd.prog 25 [.agg (encXp nx)] (.c (.sc (.string (keyB nx)))) := xkey_pure nx hsmn
      refine AWK.seq (AWK.block ?_)
      refine AWK.mid (fun s => s = ⟨exT lim M q e.fds ++ [(11, .c (cI i)), (62, .c (.row 2 false (L.map encA))), (63, .c (cI L.length)), (64, .c (cI j)), (13, .c (.fad (encA a)))], exG q e.fds e.steps e.fin e.dep, 3⟩) ?_ ?_
      · cases q
        all_goals
          refine AWK.text teOk (ans := []) (by simp [ha, -Option.some.injEq] <;> rfl) ?_ ?_
          · simpa using h
          exact ⟨rfl, _, (Weak.freeze 5 ⟨2, [encA a]⟩ [] _ (by simp) (by simp)).trans (Weak.normS (hk _) [1, 4, 8, 9, 10, 11, 62, 63, 64, 13] [(4, 0), (10, 1)] [(2, 2)] [] 3 _ (by simp [mapAt_nil']) (by simp [mapAt_nil']) (by simp [mapAt_nil'])), by simp [mapAt_nil']⟩
      rintro s rfl
      refine AWK.mid (fun s => s = ⟨exT lim M q e.fds ++ [(11, .c (cI i)), (62, .c (.row 2 false (L.map encA))), (63, .c (cI L.length)), (64, .c (cI j)), (13, .c (.fad (encA a)))], exG q e.fds (e.steps + 1) e.fin e.dep, 3⟩) ?_ ?_
      · cases q
        all_goals
          refine AWK.text teOk (ans := []) (by simp [hsw, -Option.some.injEq] <;> rfl) ?_ ?_
          · trivial
          exact ⟨rfl, _, Weak.normS (hk _) [1, 4, 8, 9, 10, 11, 62, 63, 64, 13] [(4, 0), (10, 1)] [(2, 2)] [] 3 _ (by simp) (by simp) (by simp), by simp⟩
      rintro s rfl
      refine AWK.mid (fun s => s = ⟨exT lim M q e.fds ++ [(11, .c (cI i)), (62, .c (.row 2 false (L.map encA))), (63, .c (cI L.length)), (64, .c (cI j)), (13, .c (.fad (encA a))), (14, .c (.fad (encXp nx)))], exG q e.fds (e.steps + 1) e.fin e.dep, 3⟩) ?_ ?_
      · cases q
        all_goals
          refine AWK.draw mixed teOk (ans := [.agg (encXp p1), .agg (encXp nx)]) (by simp [hf, -Option.some.injEq] <;> rfl) (by kernel_rfl) (by kernel_rfl) ?_ ?_
          · simp [allP]
            exact ⟨hlt, c7, c8⟩
          exact ⟨rfl, _, (Weak.freeze 9 ⟨9, [encXp nx]⟩ [] _ (by simp) (by simp)).trans (Weak.normS (hk _) [1, 4, 8, 9, 10, 11, 62, 63, 64, 13, 14] [(4, 0), (10, 1)] [(2, 2)] [] 3 _ (by simp [mapAt_nil']) (by simp [mapAt_nil']) (by simp [mapAt_nil'])), by simp [mapAt_nil']⟩
      rintro s rfl
      refine AWK.seq ?_
      refine AWK.st teOk [.fz (.c (.sc (.string (keyB nx))))] (by simp [-Option.some.injEq] <;> rfl) ?_ ?_
      · simpa using c9
      refine AWK.seq (AWK.region ?_)
      refine RK.pre teOk 2 [] (by decide) (by simp [-Option.some.injEq] <;> rfl) trivial ?_
      refine RK.find (M := M) (key := keyB nx) (ks := ksOf e) rfl rfl rfl rfl (by decide) Tryd.underlying74 Tryd.underlying9 (fun w => run_zeroValue (teOk 4 ti4 rfl) w) (knownX e nx) hkn (by simp) (by simp) (List.mem_singleton.2 rfl) (RK.done (by decide) ?_)
      refine AWK.to (s2 := ⟨exT lim M q e.fds ++ [(11, .c (cI i)), (62, .c (.row 2 false (L.map encA))), (63, .c (cI L.length)), (64, .c (cI j)), (13, .c (.fad (encA a))), (14, .c (.fad (encXp nx))), (15, .c (.sc (.string (keyB nx)))), (84, .c (cB (knownX e nx)))], exG q e.fds (e.steps + 1) e.fin e.dep, 3⟩) (Weak.normS (hk _) [1, 4, 8, 9, 10, 11, 62, 63, 64, 13, 14, 15, 84] [(4, 0), (10, 1)] [(2, 2)] [] 3 _ (by cases q <;> simp) (by cases q <;> simp) (by cases q <;> simp)) (by cases q <;> simp) ?_
      refine AWK.iff (knownX e nx) (by simp) (fun hkw => AWK.exit (k_then (blockK_exit ?_))) (fun hkw => ?_)
      · rw [hnx, hp1] at hkw
        rw [one_known hkw] at hR hone
        refine AWK.text teOk (ans := []) (by simp [-Option.some.injEq] <;> rfl) ?_ ?_
        · trivial
        refine ⟨_, _, Weak.normS (hk _) [1, 4, 8, 9, 10, 11, 62, 63, 64] [(4, 0), (10, 1)] [(2, 2)] [] 3 _ (by cases q <;> simp) (by cases q <;> simp) (by cases q <;> simp), ?_, q, { e with steps := e.steps + 1 }, j + 1, rfl, h, hone.1, hf, hd, hR, by show e.steps + 1 ≤ _; omega, ?_, rfl⟩
        · omega
        · cases q <;> simp [hinc]
      have hkw' : ¬ knownX e (canX (perfX f.s a)) = true := by rw [← hp1, ← hnx, hkw]; simp
      refine AWK.mid (fun s => s = ⟨exT lim M q e.fds ++ [(11, .c (cI i)), (62, .c (.row 2 false (L.map encA))), (63, .c (cI L.length)), (64, .c (cI j)), (13, .c (.fad (encA a))), (14, .c (.fad (encXp nx))), (15, .c (.sc (.string (keyB nx)))), (88, .c (cB (decide (e.fds.length = lim))))], exG q e.fds (e.steps + 1) e.fin e.dep, 3⟩) ?_ ?_
      · cases q
        all_goals
          refine AWK.text teOk (ans := []) (by simp [-Option.some.injEq] <;> rfl) ?_ ?_
          · trivial
          refine ⟨rfl, _, Weak.normS (hk _) [1, 4, 8, 9, 10, 11, 62, 63, 64, 13, 14, 15, 88] [(4, 0), (10, 1)] [(2, 2)] [] 3 _ (by simp) (by simp) (by simp), ?_⟩
          simp
          first | rfl | (rw [Bool.eq_iff_iff]; simp; omega)
      rintro s rfl
      by_cases hll : e.fds.length = lim
      · rw [one_long hkw' hll] at hR
        rw [decide_eq_true hll]
        refine AWK.iff true (by simp) (fun _ => ?_) (fun h => by cases h)
        refine AWK.st teOk [] (by simp [-Option.some.injEq] <;> rfl) trivial ?_
        refine AWK.ret ⟨⟨.inr rfl, _, Weak.refl _, ?_⟩, fun l hl => by cases hl⟩
        rw [hR]
        cases q <;> simp [repO]
      rw [decide_eq_false hll]
      refine AWK.iff false (by simp) (fun h => by cases h) (fun _ => AWK.region ?_)
      refine RK.pre teOk 2 [] (by decide) (by simp [-Option.some.injEq] <;> rfl) trivial ?_
      refine RK.add (key := keyB nx) (ks := ksOf e) (Nat.le_refl _) rfl (.inl rfl) rfl rfl Tryd.underlying74 Tryd.underlying9 (by simp) (by simp) (by simp) (fun hc => by rw [hkn.2 hc] at hkw; cases hkw) (RK.done (by decide) ?_)
      have hks : ksOf e ++ [keyB nx] = ksOf (pushX e i f a nx) := by simp [ksOf, pushX]
      rw [hks]
      refine AWK.to (s2 := ⟨exT lim M q e.fds ++ [(11, .c (cI i)), (62, .c (.row 2 false (L.map encA))), (63, .c (cI L.length)), (64, .c (cI j)), (13, .c (.fad (encA a))), (14, .c (.fad (encXp nx)))], exG q e.fds (e.steps + 1) e.fin e.dep, 3⟩) (Weak.normS (hk _) [1, 4, 8, 9, 10, 11, 62, 63, 64, 13, 14] [(4, 0), (10, 1)] [(2, 2)] [] 3 _ (by cases q <;> simp) (by cases q <;> simp) (by cases q <;> simp)) (by cases q <;> simp) ?_
      have hdl := hX.f.dep_le i f hf
      have hdw : IntKind.i64.wrap ((f.dep : Int) + 1) = ((f.dep + 1 : Nat) : Int) := by rw [wrap_s _ (by omega)]; omega
      have hlw : IntKind.i64.wrap ((e.fds.length : Int) + 1) = ((e.fds.length + 1 : Nat) : Int) := by rw [wrap_s _ (by omega)]; omega
      have hfinl : e.fin ≤ e.fds.length := by rw [hX.n.fin]; exact fin_le e.fds
      have hfn1 : finN nx ≤ 1 := by unfold finN; split <;> omega
      have hfw : IntKind.i64.wrap ((e.fin : Int) + (finN nx : Int)) = ((e.fin + finN nx : Nat) : Int) := by rw [IntKind.wrap_i64]; omega
      have hdpl := dep_bound hX
      obtain ⟨L2, hL2⟩ : ∃ L2, L2 = e.fds ++ [(⟨nx, i, a, f.dep + 1⟩ : Fd)] := ⟨_, rfl⟩
      have hL2l : L2.length = e.fds.length + 1 := by rw [hL2]; simp
      have hf2 : L2[i]? = some f := by rw [hL2]; exact get_app_l hf
      refine AWK.mid (fun s => s = ⟨exT lim M true L2 ++ [(11, .c (cI i)), (62, .c (.row 2 false (L.map encA))), (63, .c (cI L.length)), (64, .c (cI j)), (13, .c (.fad (encA a))), (14, .c (.fad (encXp nx)))], [(0, ⟨6, [zRep]⟩), (1, ⟨6, [repA e.fds.length (e.steps + 1) e.fin e.dep true nilC]⟩), (2, ⟨13, L2.map encFd⟩)], 3⟩) ?_ ?_
      · cases q
        all_goals
          refine AWK.draw mixed teOk (ans := []) (by simp [hf, hdw, -Option.some.injEq] <;> rfl) (by kernel_rfl) (by kernel_rfl) ?_ ?_
          · simp [allP, growOk]
            omega
          refine ⟨rfl, _, Weak.normS (hk _) [1, 4, 8, 9, 10, 11, 62, 63, 64, 13, 14] [(4, 0), (10, 1)] [(15, 2)] [] 3 _ (by simp) (by simp) (by simp), ?_⟩
          simp [hL2]
      rintro s rfl
      refine AWK.st teOk [] (by simp [hlw, -Option.some.injEq] <;> rfl) trivial ?_
      refine AWK.to (s2 := ⟨exT lim M true L2 ++ [(11, .c (cI i)), (62, .c (.row 2 false (L.map encA))), (63, .c (cI L.length)), (64, .c (cI j)), (13, .c (.fad (encA a))), (14, .c (.fad (encXp nx)))], [(0, ⟨6, [zRep]⟩), (1, ⟨6, [repA (e.fds.length + 1) (e.steps + 1) e.fin e.dep true nilC]⟩), (2, ⟨13, L2.map encFd⟩)], 3⟩) (Weak.normS (hk _) [1, 4, 8, 9, 10, 11, 62, 63, 64, 13, 14] [(4, 0), (10, 1)] [(2, 2)] [] 3 _ (by simp) (by simp) (by simp)) (by simp) ?_
      refine AWK.dr mixed teOk [.c (cI (finN nx))] (by simp [hfw, -Option.some.injEq] <;> rfl) (by kernel_rfl) (by kernel_rfl) ?_ ?_
      · simp [allP]
        exact cN nx
      refine AWK.to (s2 := ⟨exT lim M true L2 ++ [(11, .c (cI i)), (62, .c (.row 2 false (L.map encA))), (63, .c (cI L.length)), (64, .c (cI j)), (13, .c (.fad (encA a))), (14, .c (.fad (encXp nx)))], [(0, ⟨6, [zRep]⟩), (1, ⟨6, [repA (e.fds.length + 1) (e.steps + 1) (e.fin + finN nx) e.dep true nilC]⟩), (2, ⟨13, L2.map encFd⟩)], 3⟩) (Weak.normS (hk _) [1, 4, 8, 9, 10, 11, 62, 63, 64, 13, 14] [(4, 0), (10, 1)] [(2, 2)] [] 3 _ (by simp) (by simp) (by simp)) (by simp) ?_
      have hmax : (if (e.dep : Int) < (f.dep : Int) + 1 then (f.dep : Int) + 1 else (e.dep : Int)) = ((max e.dep (f.dep + 1) : Nat) : Int) := by split <;> omega
      refine AWK.dr mixed teOk [] (by simp [hf2, hdw, hmax, -Option.some.injEq] <;> rfl) (by kernel_rfl) (by kernel_rfl) ?_ ?_
      · simp [allP]
        omega
      refine AWK.to (s2 := ⟨exT lim M true L2 ++ [(11, .c (cI i)), (62, .c (.row 2 false (L.map encA))), (63, .c (cI L.length)), (64, .c (cI j)), (13, .c (.fad (encA a))), (14, .c (.fad (encXp nx)))], [(0, ⟨6, [zRep]⟩), (1, ⟨6, [repA (e.fds.length + 1) (e.steps + 1) (e.fin + finN nx) (max e.dep (f.dep + 1)) true nilC]⟩), (2, ⟨13, L2.map encFd⟩)], 3⟩) (Weak.normS (hk _) [1, 4, 8, 9, 10, 11, 62, 63, 64, 13, 14] [(4, 0), (10, 1)] [(2, 2)] [] 3 _ (by simp) (by simp) (by simp)) (by simp) ?_
      have c10 : Pure Tryd.prog 15 [.agg (encXp nx)] (.c (cB (safeG nx.g))) := by
        obtain ⟨n2, N2, hN2, hw2⟩ := okp.w
        rw [hnx]
        exact safe_pure (canX p1) (can_W hw2) hN2
      have hnx' : canX (perfX f.s a) = nx := by rw [hnx, hp1]
      refine AWK.st teOk [.fz (.c (cB (safeG nx.g)))] (by simp [-Option.some.injEq] <;> rfl) ?_ ?_
      · simpa using c10
      cases hsf : safeG nx.g with
      | true =>
        have hg := one_go (i := i) hkw' hll (by rw [hnx']; exact hsf)
        rw [hg] at hR hone
        rw [hnx'] at hR hone
        obtain ⟨hX2, _, hd2, _⟩ := hone
        refine AWK.iff false (by simp) (fun h => by cases h) (fun _ => AWK.skip ?_)
        refine AWK.text teOk (ans := []) (by simp [-Option.some.injEq] <;> rfl) ?_ ?_
        · trivial
        refine ⟨_, _, Weak.normS (hk _) [1, 4, 8, 9, 10, 11, 62, 63, 64] [(4, 0), (10, 1)] [(2, 2)] [] 3 _ (by simp) (by simp) (by simp), ?_, true, pushX e i f a nx, j + 1, rfl, h, hX2, by show (e.fds ++ _)[i]? = some f; exact get_app_l hf, hd2, hR, by show e.steps + 1 ≤ _; omega, ?_, rfl⟩
        · omega
        · simp [hinc, pushX, hL2]
      | false =>
        have hg := one_bad (i := i) hkw' hll (by rw [hnx', hsf]; simp)
        rw [hg] at hR hone
        rw [hnx'] at hR hone
        have hLe : L2 = (pushX e i f a nx).fds := hL2
        have c11 := sched_pure false L2 e.fds.length (by omega) (by rw [hLe]; exact fun j f hj hf => (hone.f.st j f hj hf).1) (by omega)
        have hlw2 : IntKind.i64.wrap ((L2.length : Int) - 1) = (e.fds.length : Int) := by rw [IntKind.wrap_i64, hL2l]; omega
        refine AWK.iff true (by simp) (fun _ => ?_) (fun h => by cases h)
        refine AWK.to (s2 := ⟨[(4, .c (.ptr 0 0 0)), (8, .c (.row 13 false (L2.map encFd))), (10, .c (.ptr 1 0 0))], [(0, ⟨6, [zRep]⟩), (1, ⟨6, [repA (e.fds.length + 1) (e.steps + 1) (e.fin + finN nx) (max e.dep (f.dep + 1)) true nilC]⟩)], 2⟩) ((Weak.freeze 2 ⟨13, L2.map encFd⟩ [] _ (by simp) (by simp)).trans (Weak.normS (hk _) [4, 8, 10] [(4, 0), (10, 1)] [] [] 2 _ (by simp) (by simp) (by simp))) (by simp) ?_
        refine AWK.st teOk [.fz (.c (.row 2 false ((schedX L2 e.fds.length e.fds.length).map encA)))] (by simp [hlw2, -Option.some.injEq] <;> rfl) ?_ ?_
        · simpa using c11
        refine AWK.exit ?_
        repeat (first | refine k_then ?_ | refine blockK_ne (by decide) ?_)
        refine blockK_exit ?_
        refine AWK.st teOk [] (by simp [-Option.some.injEq] <;> rfl) trivial ?_
        refine AWK.ret ⟨⟨.inr rfl, _, Weak.refl _, ?_⟩, fun l hl => by cases hl⟩
        rw [hR]
        simp [repO, pushX, ← hL2, hL2l]
    · have hjl : L.length ≤ j := by
        rw [decide_eq_false_iff_not] at h
        omega
      rw [List.drop_eq_nil_of_le hjl, innerX] at hR
      have hinc : IntKind.i64.wrap ((i : Int) + 1) = ((i + 1 : Nat) : Int) := by rw [wrap_s _ (by omega)]; omega
      refine ?_
      refine AWK.text teOk (ans := []) (by simp [hinc, -Option.some.injEq] <;> rfl) ?_ ?_
      · trivial
      refine ⟨_, _, Weak.normS (hk _) [1, 4, 8, 9, 10, 11] [(4, 0), (10, 1)] [(2, 2)] [] 3 _ (by cases q <;> simp) (by cases q <;> simp) (by cases q <;> simp), ?_, q, e, i + 1, rfl, hX, hlt, fun f2 hf2 => next_dep hX hf hf2 hd, hR, by omega, ?_, rfl⟩
      · omega
      · cases q <;> simp
  · have hR2 : exploreX lim s0 = .go e := by
      rw [hR]
      have hn : e.fds[i]? = none := List.getElem?_eq_none (by omega)
      cases lim - i with
      | zero => rfl
      | succ n => rw [outerX, hn]
    refine AWK.seq ?_
    have hlt' : ¬ i < e.fds.length := hlt
    refine AWK.mid (fun s => s = ⟨[(4, .c (.ptr 0 0 0)), (10, .c (.ptr 1 0 0)), (54, .c (cB false))], [(0, ⟨6, [zRep]⟩), (1, ⟨6, [repA e.fds.length e.steps e.fin e.dep true nilC]⟩)], 2⟩) ?_ ?_
    · cases q
      all_goals
        refine AWK.text teOk (ans := []) (by simp [hlt', -Option.some.injEq] <;> rfl) ?_ ?_
        · trivial
        exact ⟨rfl, _, Weak.normS (hk _) [4, 10, 54] [(4, 0), (10, 1)] [] [] 2 _ (by simp) (by simp) (by simp), by simp⟩
    rintro s rfl
    refine AWK.iff false (by simp) (fun h => by cases h) (fun _ => AWK.exit (k_then (k_then (blockK_exit ?_))))
    refine AWK.st teOk [] (by simp [-Option.some.injEq] <;> rfl) trivial ?_
    refine AWK.ret ⟨⟨.inr rfl, _, Weak.refl _, ?_⟩, fun l hl => by cases hl⟩
    rw [hR2]
    simp [repO]
end Go.Proofs.YtphlhadgcfndhaaDoor.Abs
