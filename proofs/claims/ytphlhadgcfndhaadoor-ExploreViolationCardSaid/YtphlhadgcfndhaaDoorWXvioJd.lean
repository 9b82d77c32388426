/- Explore: the law ExploreViolation. -/
import Derived.Test.YtphlhadgcfndhaaDoorJd14
namespace Go.Proofs.YtphlhadgcfndhaaDoor.Abs
open Go Go.RowKit
set_option linter.unusedVariables false
set_option linter.unusedSimpArgs false
set_option maxHeartbeats 4000000
/-- The places of the states on the way to place i. -/
def pathX (fds : List Fd) : Nat → Nat → List Nat
  | 0, _ => [0]
  | n + 1, i => if i = 0 then [0] else match fds[i]? with
    | none => [0]
    | some f => pathX fds n f.fr ++ [i]
theorem path_is {s0 : XpS} {L : List Fd} (h : InvF s0 L) : ∀ (n j : Nat) f, j ≤ n → L[j]? = some f →
    (pathX L n j).length = f.dep + 1 ∧ (pathX L n j)[0]? = some 0 ∧ (pathX L n j)[f.dep]? = some j ∧
    ∀ (k i i' : Nat), (pathX L n j)[k]? = some i → (pathX L n j)[k + 1]? = some i' → i < i' ∧ i' ≤ j ∧ ∃ g g' a, L[i]? = some g ∧ L[i']? = some g' ∧ (schedX L n j)[k]? = some a ∧ a ∈ actsX g.s ∧ g'.s = canX (perfX g.s a)
  | 0, j, f, hj, hf => by
    have : j = 0 := by omega
    subst this
    obtain ⟨g, hg, h1, h2⟩ := h.z
    rw [hf] at hg
    cases hg
    rw [pathX, h2]
    exact ⟨rfl, rfl, rfl, fun k i i' _ hk => by simp at hk⟩
  | n + 1, j, f, hj, hf => by
    rw [pathX, schedX]
    by_cases hz : j = 0
    · subst hz
      obtain ⟨g, hg, h1, h2⟩ := h.z
      rw [hf] at hg
      cases hg
      rw [if_pos rfl, h2]
      exact ⟨rfl, rfl, rfl, fun k i i' _ hk => by simp at hk⟩
    · rw [if_neg hz, if_neg hz, hf]
      obtain ⟨g1, q, g2, g3, g4, g5⟩ := h.st j f (by omega) hf
      obtain ⟨k1, k2, k3, k4⟩ := path_is h n f.fr q (by omega) g2
      have k5 := (sched_is h n f.fr q (by omega) g2).1
      dsimp only
      generalize pathX L n f.fr = P at *
      generalize schedX L n f.fr = S at *
      refine ⟨by rw [List.length_append, k1, g5]; rfl, ?_, ?_, fun k i i' hi hi' => ?_⟩
      · rw [List.getElem?_append_left (by omega)]
        exact k2
      · rw [List.getElem?_append_right (by omega), g5, k1]
        simp
      · by_cases hk : k + 1 < P.length
        · rw [List.getElem?_append_left (by omega)] at hi hi'
          obtain ⟨m1, m2, g, g', a, m3, m4, m5, m6, m7⟩ := k4 k i i' hi hi'
          exact ⟨m1, by omega, g, g', a, m3, m4, get_app_l m5, m6, m7⟩
        · have hl := (List.getElem?_eq_some_iff.1 hi').1
          rw [List.length_append, List.length_singleton] at hl
          have hkd : k = q.dep := by omega
          subst hkd
          rw [List.getElem?_append_left (by omega), k3] at hi
          cases hi
          rw [List.getElem?_append_right (by omega)] at hi'
          have : q.dep + 1 - P.length = 0 := by omega
          rw [this] at hi'
          simp at hi'
          subst hi'
          refine ⟨g1, Nat.le_refl _, q, f, f.act, g2, hf, ?_, g3, g4⟩
          rw [List.getElem?_append_right (by omega), k5]
          simp
/-- Where a state stands on the way to the violation. -/
def StX (e : ExS) (k : Nat) (s : XpS) : Prop := ∃ i g, (pathX e.fds (e.fds.length - 1) (e.fds.length - 1))[k]? = some i ∧ e.fds[i]? = some g ∧ g.s = s
theorem vio_law {lim : Nat} {s0 : XpS} {e : ExS} (hB : BadX lim s0 e) :
    ((schedX e.fds (e.fds.length - 1) (e.fds.length - 1)).length = e.dep ∧ e.dep ≤ e.fds.length) ∧ StX e 0 s0 ∧
    (∀ k s, StX e k s → k < e.dep → safeG s.g = true ∧ ∃ a, (schedX e.fds (e.fds.length - 1) (e.fds.length - 1))[k]? = some a ∧ a ∈ actsX s ∧ StX e (k + 1) (canX (perfX s a)) ∧ s ≠ canX (perfX s a)) ∧
    (∀ s, StX e e.dep s → safeG s.g = false) := by
  obtain ⟨hF, hN, L, x, hL, hs, hx, hd⟩ := hB
  have hlen : e.fds.length - 1 = L.length := by rw [hL]; simp
  have hxl : e.fds[e.fds.length - 1]? = some x := by rw [hlen, hL]; simp
  obtain ⟨h1, h2, h3, h4⟩ := path_is hF (e.fds.length - 1) (e.fds.length - 1) x (Nat.le_refl _) hxl
  obtain ⟨h5, _⟩ := sched_is hF (e.fds.length - 1) (e.fds.length - 1) x (Nat.le_refl _) hxl
  unfold StX
  refine ⟨⟨by rw [h5, hd], by have := hF.dep_le _ x hxl; omega⟩, ?_, ?_, ?_⟩
  · obtain ⟨f, hf, hf2, _⟩ := hF.z
    exact ⟨0, f, h2, hf, hf2⟩
  · rintro k s ⟨i, g, hi, hg, rfl⟩ hk
    obtain ⟨i', hi'⟩ : ∃ i', (pathX e.fds (e.fds.length - 1) (e.fds.length - 1))[k + 1]? = some i' := ⟨_, List.getElem?_eq_getElem (by omega)⟩
    obtain ⟨m1, m2, g1, g', a, m3, m4, m5, m6, m7⟩ := h4 k i i' hi hi'
    rw [hg] at m3
    cases m3
    refine ⟨?_, a, m5, m6, ⟨i', g', hi', m4, m7⟩, ?_⟩
    · have : L[i]? = some g := by
        rw [hL, List.getElem?_append_left (by omega)] at hg
        exact hg
      exact hs g (List.mem_of_getElem? this)
    · rw [← m7]
      have := List.pairwise_iff_getElem.1 hF.nd i i' (List.getElem?_eq_some_iff.1 hg).1 (List.getElem?_eq_some_iff.1 m4).1 m1
      rw [(List.getElem?_eq_some_iff.1 hg).2, (List.getElem?_eq_some_iff.1 m4).2] at this
      exact this
  · rintro s ⟨i, g, hi, hg, rfl⟩
    rw [← hd, h3] at hi
    cases hi
    rw [hxl] at hg
    cases hg
    exact hx
theorem StX.mem {e : ExS} {k : Nat} {s : XpS} (h : StX e k s) : ∃ f ∈ e.fds, f.s = s := by
  obtain ⟨i, g, _, hg, hs⟩ := h
  exact ⟨g, List.mem_of_getElem? hg, hs⟩
theorem good_can {ins : List (List V2)} {m : Nat} (h0 : PIns ins m) {lo am : Int} (hlo : 0 ≤ lo ∧ lo ≤ 2) (ham : 0 ≤ am ∧ am ≤ 2) {L : List Fd} (hF : InvF (canX ⟨newG m ins, lo, am⟩) L) : ∀ f ∈ L, canX f.s = f.s ∧ ∃ k, k ≤ L.length ∧ JX ins m am k f.s := fun f hf => by
  obtain ⟨j, hj⟩ := List.mem_iff_getElem?.1 hf
  have hg := good_of h0 hlo ham
  have h1 := hF.all (J := fun k s => JX ins m am k s ∧ canX s = s) hg.z hg.st j f hj
  have h2 := hF.dep_le j f hj
  have h3 := (List.getElem?_eq_some_iff.1 hj).1
  exact ⟨h1.2, f.dep, by omega, h1.1⟩
theorem xvio_pure (na : Int) (l : List Int) (nl : Int) : Pure Tryd.prog 5 [.c (cI na), .c (encIs l), .c (cI nl)] (.c (cB true)) := by
  have c0 := prog_pure na l nl 1
  have hp := prog_pins na l
  have hlo := idx2 nl
  rw [show indexI 1 2 = 1 by decide] at c0
  generalize accQ na = M at *
  generalize indexI nl 2 = lo at *
  generalize progI l = ins at *
  have c1 := explore_ok hp hlo (am := 1) (by omega) 300
  have hlaw := explore_is (lim := 300) (by omega) (safe_init M ins lo 1)
  rw [show limOf 300 = 300 by decide] at c1
  have hm := hp.m
  have hpl := hp.len
  have c2 := initX_pure M (by omega) hp.ok lo 1
  have hJ0 := JX.init hp hlo (am := 1) (by omega)
  have hgood : ∀ e, InvF (canX ⟨newG M ins, lo, 1⟩) e → ∀ f ∈ e, canX f.s = f.s ∧ ∃ k, k ≤ e.length ∧ JX ins M 1 k f.s := fun e he => good_can hp hlo (by omega) he
  have c3 := (hJ0.ok hp (by omega)).can
  generalize (⟨newG M ins, lo, 1⟩ : XpS) = x0 at *
  generalize exploreX 300 (canX x0) = o at *
  refine pure_of teOk Tryd.func5 (by kernel_rfl) (c := _) rfl (N := 76) rfl (rs := [Go.ResultVar.tmp 6]) rfl (by simp) fun base A w0 hA => ?_
  refine AW.st teOk [] (by simp [-Option.some.injEq] <;> rfl) trivial ?_
  refine AW.st teOk [.fz (.agg (encPg M lo 1 ins))] (by simp [-Option.some.injEq] <;> rfl) ?_ ?_
  · simpa using c0
  cases o with
  | go e =>
    refine AW.st teOk [.fz (.tup [.agg (repA e.fds.length e.steps e.fin e.dep true nilC), .c (cI 0)])] (by simp [-Option.some.injEq] <;> rfl) ?_ ?_
    · simpa [repO] using c1
    refine AW.seq ?_
    refine AW.st teOk [] (by simp [-Option.some.injEq] <;> rfl) trivial ?_
    refine AW.iff true (by simp) (fun _ => ?_) (fun h => by cases h)
    refine AW.st teOk [.fz (.c (cB true))] (by simp [-Option.some.injEq] <;> rfl) ?_ ?_
    · exact awake40_pure
    refine AW.ret ⟨.inr rfl, _, Weak.refl _, ?_⟩
    simp
  | long =>
    refine AW.st teOk [.fz (.tup [.agg (repA 0 0 0 0 false nilC), .c (cI 3)])] (by simp [-Option.some.injEq] <;> rfl) ?_ ?_
    · simpa [repO] using c1
    refine AW.seq ?_
    refine AW.st teOk [] (by simp [-Option.some.injEq] <;> rfl) trivial ?_
    refine AW.iff true (by simp) (fun _ => ?_) (fun h => by cases h)
    refine AW.st teOk [.fz (.c (cB true))] (by simp [-Option.some.injEq] <;> rfl) ?_ ?_
    · exact awake40_pure
    refine AW.ret ⟨.inr rfl, _, Weak.refl _, ?_⟩
    simp
  | bad e =>
    obtain ⟨⟨v1, v0⟩, v2, v3, v4⟩ := vio_law hlaw
    have hel := hlaw.n.len
    have hg := hgood _ hlaw.f
    simp only [repO] at c1
    generalize e.fds.length = n1 at *
    generalize e.steps = n2 at *
    generalize e.fin = n3 at *
    generalize schedX e.fds (n1 - 1) (n1 - 1) = S at *
    refine AW.st teOk [.fz (.tup [.agg (repA n1 n2 n3 e.dep false (.row 2 false (S.map encA))), .c (cI 0)])] (by simp [-Option.some.injEq] <;> rfl) ?_ ?_
    · simpa using c1
    refine AW.seq ?_
    refine AW.st teOk [] (by simp [-Option.some.injEq] <;> rfl) trivial ?_
    refine AW.iff false (by simp) (fun h => by cases h) (fun _ => AW.skip ?_)
    refine AW.st teOk [.fz (.agg (encXp x0)), .fz (.agg (encXp (canX x0)))] (by simp [-Option.some.injEq] <;> rfl) ?_ ?_
    · exact ⟨by simpa using c2, by simpa using c3⟩
    refine AW.seq ?_
    refine AW.st teOk [] (by simp [-Option.some.injEq] <;> rfl) trivial ?_
    refine AW.block (AW.loop (fun m' s => ∃ (i : Nat) (s1 : XpS), m' = e.dep - i ∧ i ≤ e.dep ∧ StX e i s1 ∧ s = ⟨[(8, .c (.ptr 0 0 0)), (10, .c (.ptr 1 0 0)), (11, .c (cI i))], [(0, ⟨6, [repA n1 n2 n3 e.dep false (.row 2 false (S.map encA))]⟩), (1, ⟨9, [encXp s1]⟩)], 2⟩) (e.dep - 0) (Weak.normS hA [8, 10, 11] [(8, 0), (10, 1)] [] [] 2 _ (by simp) (by simp) (by simp)) ⟨0, canX x0, rfl, Nat.zero_le _, v2, by simp⟩ ?_)
    rintro m' s ⟨i, s1, rfl, hi, hSt, rfl⟩
    obtain ⟨f, hf, hfs⟩ := hSt.mem
    obtain ⟨hcan, k, hk, hJ⟩ := hg f hf
    rw [hfs] at hcan hJ
    have hok := hJ.ok hp (by omega)
    obtain ⟨m1, N1, hN1, hw1⟩ := hok.w
    have c4 := safe_pure s1 hw1 hN1
    refine AW.seq ?_
    refine AW.st teOk [] (by simp [-Option.some.injEq] <;> rfl) trivial ?_
    refine AW.iff (decide (i < e.dep)) (by simp [v1]) (fun h => AW.skip ?_) (fun h => AW.exit (x_then (x_then (blockA_exit ?_))))
    · rw [decide_eq_true_eq] at h
      have hinc : IntKind.i64.wrap ((i : Int) + 1) = (i : Int) + 1 := wrap_s _ (by omega)
      obtain ⟨g1, a, g2, g3, g4, g5⟩ := v3 i s1 hSt h
      rw [g1] at c4
      have c5 := perf_pure s1 hw1 hN1 hok.lo hok.am a
      have hJ2 := hJ.perf hp g3
      have hok2 := hJ2.ok hp (by omega)
      have c6 := hok2.can
      have hok3 := hJ2.can.ok hp (by omega)
      have c7 := xsame_pure s1 (canX (perfX s1 a)) hok.b hok3.b ⟨hok.k, hok3.k⟩ ⟨hok.v, hok3.v⟩ hok.sm hok3.sm
      have hne : sameX (canX s1) (canX (canX (perfX s1 a))) = false := by
        rw [hcan, canX_idem]
        exact Bool.eq_false_iff.2 fun h => g5 (sameX_iff.1 h)
      rw [hne] at c7
      generalize perfX s1 a = s2 at *
      refine AW.seq (AW.block ?_)
      refine AW.seq ?_
      refine AW.st teOk [.fz (.c (cB true))] (by simp [-Option.some.injEq] <;> rfl) ?_ ?_
      · simpa using c4
      refine AW.iff false (by simp) (fun h => by cases h) (fun _ => AW.skip ?_)
      refine AW.seq ?_
      refine AW.draw mixed teOk (ans := [.agg (encXp s2), .agg (encXp (canX s2))]) (by simp [g2, -Option.some.injEq] <;> rfl) (by kernel_rfl) (by kernel_rfl) ?_ ?_
      · simp [allP]
        exact ⟨by omega, c5, c6⟩
      refine AW.seq ?_
      refine AW.st teOk [.fz (.c (cB false))] (by simp [-Option.some.injEq] <;> rfl) ?_ ?_
      · simpa using c7
      refine AW.iff false (by simp) (fun h => by cases h) (fun _ => AW.skip ?_)
      refine AW.text teOk (ans := []) (by simp [-Option.some.injEq] <;> rfl) ?_ ?_
      · trivial
      refine AW.text teOk (ans := []) (by simp [-Option.some.injEq] <;> rfl) ?_ ?_
      · trivial
      refine ⟨_, _, Weak.normS hA [8, 10, 11] [(8, 0), (10, 1)] [] [] 2 _ (by simp) (by simp) (by simp), ?_, i + 1, canX s2, rfl, h, g4, ?_⟩
      · omega
      · simp [hinc]
    have hil : i = e.dep := by
      rw [decide_eq_false_iff_not] at h
      omega
    subst hil
    rw [v4 _ hSt] at c4
    refine AW.st teOk [.fz (.c (cB false)), .fz (.c (cB true))] (by simp [v1, -Option.some.injEq] <;> rfl) ?_ ?_
    · exact ⟨by simpa using c4, awake40_pure⟩
    refine AW.ret ⟨.inr rfl, _, Weak.refl _, ?_⟩
    simp
theorem exploreViolation_row (na : Int) (l : List Int) (nl : Int) (_ : (Lit.int .i64 na).wf = true) (_ : l.length < 4000000000000000000) (_ : (Lit.int .i64 nl).wf = true) : Pure Tryd.prog 5 [.c (cI na), .c (encIs l), .c (cI nl)] (.c (cB true)) := xvio_pure na l nl
end Go.Proofs.YtphlhadgcfndhaaDoor.Abs
