/- Agreement: a group lost, resent, run, drained. -/
import Derived.Test.YtopcklnnkpjanaaWAgr7
namespace Go.Proofs.Ytopcklnnkpjanaa.Abs
open Go Go.RowKit
set_option linter.unusedVariables false
set_option linter.unusedSimpArgs false
set_option maxHeartbeats 4000000
/-- What a call's result names is only read from here on. -/
theorem New.pure {P : Program} {f : FuncId} {xs : List AVal} {r : AVal} {σ : Sig} {m : Nat} (h : New P f xs r σ m) (s' : St) {r' : AVal} (hw : ∀ A : Old, Weak A ⟨[(0, r)], σ, m⟩ s') (hs : look 0 s'.τ = some r') (hf : frozenV r' = true) : Pure P f xs r' := by
  refine ⟨h.1, fun w A vs hA hr => (h.2 w A vs hA hr).mono ?_⟩
  rintro e w' ⟨v, β', rfl, I, hm, hv⟩
  have hsz := I.below.size
  obtain ⟨β2, I2⟩ := hw (oldOf A) w.heap.size w 1 β' ⟨#[v], []⟩ w' ⟨I, rfl, rfl, (fun t x hx => by
    simp only [look] at hx
    split at hx
    · rename_i ht
      cases hx
      subst ht
      exact ⟨v, rfl, hv⟩
    · cases hx), hm, ⟨fun id => BLe.no _, fun x hx => ⟨⟨hx.1, by have := hx.2.1; omega, fun id b k cap hb e => by
      have := (I.lo id b k cap hb).1
      have := hx.2.1
      omega⟩, I.below.block x hx.2.1⟩⟩⟩
  obtain ⟨u, hu, hr3⟩ := I2.tmps 0 r' hs
  have hu' : v = u := by simpa using hu
  subst hu'
  exact ⟨v, rfl, (hr3.frozen hf).mono (fun x hx => ⟨⟨hx.1, hx.2.1⟩, rfl⟩) (BLe.refl' noB), I.below⟩
theorem group_frz (A : Old) (g : GrS) : Weak A ⟨[(0, .agg (refG 0 g))], sigG 0 g, 6⟩ ⟨[(0, .agg (encGr g))], [], 6⟩ := by
  refine (Weak.freeze 0 ⟨1, g.accs.map encC⟩ [] _ (by simp) (by simp)).trans ?_
  refine (Weak.freeze 1 ⟨5, g.props.map encPr'⟩ [] _ (by simp) (by simp)).trans ?_
  refine (Weak.freeze 2 ⟨1, g.ins.map encIn⟩ [] _ (by simp) (by simp)).trans ?_
  refine (Weak.freeze 3 ⟨1, g.nxt.map encn⟩ [] _ (by simp) (by simp)).trans ?_
  refine (Weak.freeze 4 ⟨5, g.pks.map encPk⟩ [] _ (by simp) (by simp)).trans ?_
  exact (Weak.freeze 5 ⟨4, g.decs.map encDe⟩ [] _ (by simp) (by simp)).be (by simp)
theorem New.group {P : Program} {f : FuncId} {xs : List AVal} {g : GrS} (h : New P f xs (.agg (refG 0 g)) (sigG 0 g) 6) : Pure P f xs (.agg (encGr g)) := h.pure _ (fun A => group_frz A g) rfl rfl
theorem gclone_pure (g : GrS) (hg : GrB g) : Pure Try.prog 89 [.agg (encGr g)] (.agg (encGr g)) := (gclone_new g hg).group
def delivZ (g : GrS) (i : Int) : GrS := if 0 ≤ i ∧ i < g.pks.length then delivS g i.toNat else g
theorem deliv_pure (g : GrS) {n N : Nat} (h : GrW g n N) (hN : N < 100000000) (i : Int) : Pure Try.prog 50 [.agg (encGr g), .c (cI i)] (.agg (encGr (delivZ g i))) := by
  unfold delivZ
  by_cases hi : 0 ≤ i ∧ i < g.pks.length
  · rw [if_pos hi]
    have := (deliv_new g h hN i.toNat (by omega)).group
    rwa [show ((i.toNat : Nat) : Int) = i by omega] at this
  · rw [if_neg hi]
    exact (deliv_no g h hN i (by omega)).group
def loseS (g : GrS) (i : Int) : GrS := if 0 ≤ i ∧ i < g.pks.length then { g with pks := delL g.pks i.toNat } else g
theorem lose_new (g : GrS) {n N : Nat} (h : GrW g n N) (hN : N < 100000000) (i : Int) : New Try.prog 49 [.agg (encGr g), .c (cI i)] (.agg (refG 0 (loseS g i))) (sigG 0 (loseS g i)) 6 := by
  have hc := gclone_new g (h.b hN)
  have hkl := h.kl
  by_cases hi : 0 ≤ i ∧ i < g.pks.length
  · obtain ⟨j, rfl⟩ : ∃ j : Nat, i = j := ⟨i.toNat, by omega⟩
    have hj : j < g.pks.length := by omega
    have hdl := delL_len g.pks j hj
    have hdc := del_con (g.pks.map encPk) (flat_encPk _) j (by simpa using hj) (by simp; omega)
    rw [delL_map, List.length_map, ← hdl] at hdc
    have hic : IntKind.i64.wrap ((j : Int) + 1) = (j : Int) + 1 := wrap_s _ (by omega)
    unfold loseS
    rw [if_pos hi, Int.toNat_natCast]
    obtain ⟨accs, props, ins, nxt, pks, decs, steps⟩ := g
    dsimp only at *
    obtain ⟨ks, hks⟩ : ∃ ks, ks = delL pks j := ⟨_, rfl⟩
    rw [← hks] at hdc hdl ⊢
    have htk : (ks.map encPk ++ [zeroK]).take ks.length = ks.map encPk := by
      rw [List.take_append_of_le_length (by simp), List.take_of_length_le (by simp)]
    refine new_drop teOk Try.func49 (by kernel_rfl) (c := _) rfl (N := 24) rfl (rs := [Go.ResultVar.cell 4 82]) rfl (by simp) fun base A w0 hA => ?_
    refine AW.st teOk [] (by simp [-Option.some.injEq] <;> rfl) trivial ?_
    refine AW.st teOk [.new (.agg (refG 0 ⟨accs, props, ins, nxt, pks, decs, steps⟩)) (sigG 0 ⟨accs, props, ins, nxt, pks, decs, steps⟩) 6] (by simp [-Option.some.injEq] <;> rfl) ?_ ?_
    · exact hc
    refine AW.seq ?_
    refine AW.st teOk [] (by simp [hj, -Option.some.injEq] <;> rfl) trivial ?_
    refine AW.iff true (by simp [hj]) (fun _ => ?_) (fun h => by cases h)
    refine AW.to (s2 := ⟨[(1, .c (cI j)), (2, .c (.ptr 0 0 0)), (4, .c (.ptr 1 0 0))], [(0, ⟨7, [[.ref 2 0 accs.length, .ref 3 0 props.length, .ref 4 0 ins.length, .ref 5 0 nxt.length, .ref 1000001 0 pks.length, .ref 6 0 decs.length, cI steps]]⟩), (1, ⟨7, [nilG]⟩), (2, ⟨1, accs.map encC⟩), (3, ⟨5, props.map encPr'⟩), (4, ⟨1, ins.map encIn⟩), (5, ⟨1, nxt.map encn⟩), (6, ⟨4, decs.map encDe⟩), (1000001, ⟨5, pks.map encPk⟩)], 1000015⟩) (Weak.normS hA [1, 2, 4] [(2, 0), (4, 1)] [(3, 2), (4, 3), (5, 4), (6, 5), (8, 6), (7, 1000001)] [0] 1000015 _ (by simp) (by simp) (by simp)) (by simp) ?_
    refine AW.text teOk (ans := [.own (.c (.ref 1000001 0 ks.length)) [(1000001, ⟨5, ks.map encPk ++ [zeroK]⟩)] 1000040]) (by simp [hic, -Option.some.injEq] <;> rfl) ?_ ?_
    · exact hdc
    refine AW.st teOk [] (by simp [-Option.some.injEq] <;> rfl) trivial ?_
    refine AW.ret ⟨.inr rfl, _, _, Weak.refl _, by simp <;> rfl, ?_⟩
    refine (Weak.shrink 1000001 ks.length _ (by simp <;> rfl)).trans ?_
    exact Weak.be (Weak.normS hA [0] [] [(2, 0), (3, 1), (4, 2), (5, 3), (1000001, 4), (6, 5)] [] 6 _ (by simp [putA]) (by simp [putA]) (by simp [putA, htk])) (by simp [putA, htk])
  · unfold loseS
    rw [if_neg hi]
    obtain ⟨accs, props, ins, nxt, pks, decs, steps⟩ := g
    try dsimp only at *
    refine new_drop teOk Try.func49 (by kernel_rfl) (c := _) rfl (N := 24) rfl (rs := [Go.ResultVar.cell 4 82]) rfl (by simp) fun base A w0 hA => ?_
    refine AW.st teOk [] (by simp [-Option.some.injEq] <;> rfl) trivial ?_
    refine AW.st teOk [.new (.agg (refG 0 ⟨accs, props, ins, nxt, pks, decs, steps⟩)) (sigG 0 ⟨accs, props, ins, nxt, pks, decs, steps⟩) 6] (by simp [-Option.some.injEq] <;> rfl) ?_ ?_
    · exact hc
    refine AW.mid (fun s => s = ⟨[(2, .c (.ptr 0 0 0)), (4, .c (.ptr 1 0 0))], (0, ⟨7, [refG 2 ⟨accs, props, ins, nxt, pks, decs, steps⟩]⟩) :: (1, ⟨7, [nilG]⟩) :: sigG 2 ⟨accs, props, ins, nxt, pks, decs, steps⟩, 8⟩) ?_ ?_
    · by_cases hi0 : i ≥ 0
      · have hi1 : ¬ i < pks.length := by omega
        refine AW.st teOk [] (by simp [hi0, hi1, -Option.some.injEq] <;> rfl) trivial ?_
        refine AW.iff false (by simp [hi0, hi1]) (fun h => by cases h) (fun _ => AW.skip ?_)
        exact ⟨_, Weak.normS hA [2, 4] [(2, 0), (4, 1)] [(3, 2), (4, 3), (5, 4), (6, 5), (7, 6), (8, 7)] [0] 8 _ (by simp) (by simp) (by simp), by simp⟩
      · refine AW.st teOk [] (by simp [hi0, -Option.some.injEq] <;> rfl) trivial ?_
        refine AW.iff false (by simp [hi0]) (fun h => by cases h) (fun _ => AW.skip ?_)
        exact ⟨_, Weak.normS hA [2, 4] [(2, 0), (4, 1)] [(3, 2), (4, 3), (5, 4), (6, 5), (7, 6), (8, 7)] [0] 8 _ (by simp) (by simp) (by simp), by simp⟩
    rintro s rfl
    refine AW.st teOk [] (by simp [-Option.some.injEq] <;> rfl) trivial ?_
    refine AW.ret ⟨.inr rfl, _, _, Weak.refl _, by simp <;> rfl, ?_⟩
    exact Weak.be (Weak.normS hA [0] [] [(2, 0), (3, 1), (4, 2), (5, 3), (6, 4), (7, 5)] [] 6 _ (by simp) (by simp) (by simp)) (by simp)
def resendS (g : GrS) (i : Int) : GrS := if validS g i = true then (match g.props[i.toNat]? with
  | some p => if p.dec = false then sendS g i.toNat p else g
  | none => g) else g
theorem resend_new (g : GrS) {n N : Nat} (h : GrW g n N) (hN : N < 100000000) (i : Int) : New Try.prog 61 [.agg (encGr g), .c (cI i)] (.agg (refG 0 (resendS g i))) (sigG 0 (resendS g i)) 6 := by
  have hc := gclone_new g (h.b hN)
  have hvp := gvalid_pure g h.nn i
  unfold resendS
  cases hv : validS g i with
  | false =>
    rw [if_neg (by simp)]
    rw [hv] at hvp
    obtain ⟨accs, props, ins, nxt, pks, decs, steps⟩ := g
    try dsimp only at *
    refine new_drop teOk Try.func61 (by kernel_rfl) (c := _) rfl (N := 22) rfl (rs := [Go.ResultVar.cell 4 82]) rfl (by simp) fun base A w0 hA => ?_
    refine AW.st teOk [] (by simp [-Option.some.injEq] <;> rfl) trivial ?_
    refine AW.st teOk [.new (.agg (refG 0 ⟨accs, props, ins, nxt, pks, decs, steps⟩)) (sigG 0 ⟨accs, props, ins, nxt, pks, decs, steps⟩) 6] (by simp [-Option.some.injEq] <;> rfl) ?_ ?_
    · exact hc
    refine AW.seq ?_
    refine AW.st teOk [.rd (.c (cB false))] (by simp [-Option.some.injEq] <;> rfl) ?_ ?_
    · simp [flatVs, flatV, flatCs, flatC, flatAt]
      exact hvp
    refine AW.iff false (by simp) (fun h => by cases h) (fun _ => AW.skip ?_)
    refine AW.st teOk [] (by simp [-Option.some.injEq] <;> rfl) trivial ?_
    refine AW.ret ⟨.inr rfl, _, _, Weak.refl _, by simp <;> rfl, ?_⟩
    exact Weak.be (Weak.normS hA [0] [] [(3, 0), (4, 1), (5, 2), (6, 3), (7, 4), (8, 5)] [] 6 _ (by simp) (by simp) (by simp)) (by simp)
  | true =>
    rw [if_pos rfl]
    rw [hv] at hvp
    unfold validS at hv
    rw [Bool.and_eq_true, decide_eq_true_eq] at hv
    obtain ⟨j, rfl⟩ : ∃ j : Nat, i = j := ⟨i.toNat, by omega⟩
    simp only [Int.toNat_natCast] at hv ⊢
    obtain ⟨l, hl⟩ : ∃ l, g.ins[j]? = some l := by
      cases hl : g.ins[j]? with
      | none => rw [hl] at hv; cases hv.2
      | some l => exact ⟨l, rfl⟩
    have hjl := (List.getElem?_eq_some_iff.1 hl).1
    have hjp : j < g.props.length := by have := h.nn.p; have := h.nn.i; omega
    obtain ⟨p, hp⟩ : ∃ p, g.props[j]? = some p := ⟨_, List.getElem?_eq_getElem hjp⟩
    have hpw := h.p p (List.mem_of_getElem? hp)
    have hpn := hpw.n
    have hvl := hpw.v.le
    have hal := h.al
    have hkl := h.kl
    rw [hp]
    simp only
    have hsc := send_con g j p hp (by omega) (by omega) (by omega)
    obtain ⟨G, hG⟩ : ∃ G, G = sendS g j p := ⟨_, rfl⟩
    rw [← hG] at hsc ⊢
    clear hG hv
    obtain ⟨accs, props, ins, nxt, pks, decs, steps⟩ := g
    try dsimp only at *
    refine new_drop teOk Try.func61 (by kernel_rfl) (c := _) rfl (N := 22) rfl (rs := [Go.ResultVar.cell 4 82]) rfl (by simp) fun base A w0 hA => ?_
    refine AW.st teOk [] (by simp [-Option.some.injEq] <;> rfl) trivial ?_
    refine AW.st teOk [.new (.agg (refG 0 ⟨accs, props, ins, nxt, pks, decs, steps⟩)) (sigG 0 ⟨accs, props, ins, nxt, pks, decs, steps⟩) 6] (by simp [-Option.some.injEq] <;> rfl) ?_ ?_
    · exact hc
    refine AW.seq ?_
    cases hdc : p.dec with
    | false =>
      rw [if_pos rfl]
      refine AW.st teOk [.rd (.c (cB true))] (by simp [hp, hdc, -Option.some.injEq] <;> rfl) ?_ ?_
      · simp [flatVs, flatV, flatCs, flatC, flatAt]
        exact ⟨hvp, hjp⟩
      refine AW.iff true (by simp) (fun _ => ?_) (fun h => by cases h)
      refine AW.to (s2 := ⟨[(1, .c (cI j)), (2, .c (.ptr 1000000 0 0)), (4, .c (.ptr 1 0 0))], [(1, ⟨7, [nilG]⟩)] ++ conG ⟨accs, props, ins, nxt, pks, decs, steps⟩, 1000019⟩) (Weak.normS hA [1, 2, 4] [(2, 1000000), (4, 1)] [(3, 1000002), (4, 1000003), (5, 1000004), (6, 1000005), (7, 1000001), (8, 1000006)] [0] 1000019 _ (by simp) (by simp) (by simp)) (by simp) ?_
      refine AW.text teOk (ans := [.own (.tup []) (conK G) 1000022]) (by simp [-Option.some.injEq] <;> rfl) ?_ ?_
      · exact hsc
      refine AW.st teOk [] (by simp [-Option.some.injEq] <;> rfl) trivial ?_
      refine AW.ret ⟨.inr rfl, _, _, Weak.refl _, by simp <;> rfl, ?_⟩
      exact Weak.be (Weak.normS hA [0] [] [(1000002, 0), (1000003, 1), (1000004, 2), (1000005, 3), (1000020, 4), (1000006, 5)] [] 6 _ (by simp) (by simp) (by simp)) (by simp)
    | true =>
      rw [if_neg (by simp)]
      refine AW.st teOk [.rd (.c (cB true))] (by simp [hp, hdc, -Option.some.injEq] <;> rfl) ?_ ?_
      · simp [flatVs, flatV, flatCs, flatC, flatAt]
        exact ⟨hvp, hjp⟩
      refine AW.iff false (by simp) (fun h => by cases h) (fun _ => AW.skip ?_)
      refine AW.st teOk [] (by simp [-Option.some.injEq] <;> rfl) trivial ?_
      refine AW.ret ⟨.inr rfl, _, _, Weak.refl _, by simp <;> rfl, ?_⟩
      exact Weak.be (Weak.normS hA [0] [] [(3, 0), (4, 1), (5, 2), (6, 3), (7, 4), (8, 5)] [] 6 _ (by simp) (by simp) (by simp)) (by simp)
theorem lose_pure (g : GrS) {n N : Nat} (h : GrW g n N) (hN : N < 100000000) (i : Int) : Pure Try.prog 49 [.agg (encGr g), .c (cI i)] (.agg (encGr (loseS g i))) := (lose_new g h hN i).group
theorem resend_pure (g : GrS) {n N : Nat} (h : GrW g n N) (hN : N < 100000000) (i : Int) : Pure Try.prog 61 [.agg (encGr g), .c (cI i)] (.agg (encGr (resendS g i))) := (resend_new g h hN i).group
/-- Which packet a number chooses. -/
def pickI (x : Int) (k : Nat) : Int := (x.tmod k + k).tmod k
theorem pick_lt (x : Int) {k : Nat} (hk : 0 < k) : 0 ≤ pickI x k ∧ pickI x k < k := by
  unfold pickI
  have h1 := Int.tmod_lt_of_pos x (show (0 : Int) < k by omega)
  have h2 : -(k : Int) < x.tmod k := by
    have := Int.lt_tmod_of_pos x (show (0 : Int) < k by omega)
    omega
  exact ⟨Int.tmod_nonneg _ (by omega), Int.tmod_lt_of_pos _ (by omega)⟩
def stepS (g : GrS) (x : Int) : GrS := if g.pks.length = 0 then g else delivS g (pickI x g.pks.length).toNat
def runS (g : GrS) (l : List Int) : GrS := l.foldl stepS g
theorem step_W {g : GrS} {n N : Nat} (h : GrW g n N) (x : Int) : GrW (stepS g x) n (N + 14) := by
  unfold stepS
  split
  · exact ⟨h.nn, h.n4, h.al, h.a, fun p hp => (h.p p hp).mono (by omega), h.i, h.x, h.k, h.d, by have := h.kl; omega, by have := h.dl; omega, by have := h.s; omega⟩
  · rename_i h0
    have := pick_lt x (k := g.pks.length) (by omega)
    exact deliv_W h (by omega)
theorem run_W {n : Nat} : ∀ (l : List Int) {g : GrS} {N : Nat}, GrW g n N → GrW (runS g l) n (N + 14 * l.length)
  | [], g, N, h => h
  | x :: l, g, N, h => by
    have := run_W l (step_W h x)
    rw [List.length_cons, show N + 14 * (l.length + 1) = N + 14 + 14 * l.length by omega]
    exact this
theorem runS_app (g : GrS) (l : List Int) (x : Int) : runS g (l ++ [x]) = stepS (runS g l) x := by
  unfold runS
  rw [List.foldl_append]
  rfl
theorem run_pure (g : GrS) {n N : Nat} (h : GrW g n N) (l : List Int) (hN : N + 14 * l.length < 100000000) : Pure Try.prog 53 [.agg (encGr g), .c (encIs l)] (.agg (encGr (runS g l))) := by
  have hc := gclone_pure g (h.b (by omega))
  refine pure_of teOk Try.func53 (by kernel_rfl) (c := _) rfl (N := 32) rfl (rs := [Go.ResultVar.cell 4 82]) rfl (by simp) fun base A w0 hA => ?_
  refine AW.st teOk [] (by simp [-Option.some.injEq] <;> rfl) trivial ?_
  refine AW.st teOk [.fz (.agg (encGr g))] (by simp [-Option.some.injEq] <;> rfl) ?_ ?_
  · exact hc
  refine AW.seq ?_
  refine AW.st teOk [] (by simp [-Option.some.injEq] <;> rfl) trivial ?_
  refine AW.block (AW.loop (fun m s => ∃ done rest, m = rest.length ∧ l = done ++ rest ∧ s = ⟨[(2, .c (.ptr 0 0 0)), (4, .c (.ptr 1 0 0)), (10, .c (encIs l)), (11, .c (cI l.length)), (12, .c (cI done.length))], [(0, ⟨7, [encGr (runS g done)]⟩), (1, ⟨7, [nilG]⟩)], 2⟩) _ (Weak.normS hA [2, 4, 10, 11, 12] [(2, 0), (4, 1)] [] [] 2 _ (by simp) (by simp) (by simp)) ⟨[], l, rfl, rfl, by simp [runS]⟩ ?_)
  rintro m s ⟨done, rest, rfl, hdr, rfl⟩
  have hlen : l.length = done.length + rest.length := by rw [hdr, List.length_append]
  refine AW.st teOk [] (by simp [-Option.some.injEq] <;> rfl) trivial ?_
  refine AW.seq (AW.iff (decide (done.length < l.length)) (by simp) (fun h => AW.skip ?_) (fun h => AW.exit (x_then (x_then (blockA_exit ?_)))))
  · rename_i hW
    rw [decide_eq_true_eq] at h
    cases rest with
    | nil => simp at hlen; omega
    | cons x rest =>
    have hx : l[done.length]? = some x := by rw [hdr]; simp
    have hinc : IntKind.i64.wrap ((done.length : Int) + 1) = (done.length : Int) + 1 := wrap_s _ (by omega)
    have hw := run_W done hW
    have happ := runS_app g done x
    generalize runS g done = G at *
    have hkl := hw.kl
    have hst : stepS G x = if G.pks.length = 0 then G else delivZ G (pickI x G.pks.length) := by
      unfold stepS delivZ
      split
      · rfl
      · have := pick_lt x (k := G.pks.length) (by omega)
        rw [if_pos this]
    have hdp := deliv_pure G hw (by rw [List.length_cons] at hlen; omega) (pickI x G.pks.length)
    refine AW.mid (fun s => s = ⟨[(2, .c (.ptr 0 0 0)), (4, .c (.ptr 1 0 0)), (10, .c (encIs l)), (11, .c (cI l.length)), (12, .c (cI done.length))], [(0, ⟨7, [encGr (stepS G x)]⟩), (1, ⟨7, [nilG]⟩)], 2⟩) (AW.block ?_) ?_
    · refine AW.st teOk [] (by simp [hx, -Option.some.injEq] <;> rfl) ?_ ?_
      · exact h
      refine AW.st teOk [] (by simp [-Option.some.injEq] <;> rfl) trivial ?_
      refine AW.st teOk [] (by simp [-Option.some.injEq] <;> rfl) trivial ?_
      by_cases h0 : G.pks.length = 0
      · refine AW.iff false (by simp [h0]) (fun h => by cases h) (fun _ => AW.skip ?_)
        rw [hst, if_pos h0]
        exact ⟨_, Weak.normS hA [2, 4, 10, 11, 12] [(2, 0), (4, 1)] [] [] 2 _ (by simp) (by simp) (by simp), by simp⟩
      · have hwr : IntKind.i64.wrap (x.tmod G.pks.length + G.pks.length) = x.tmod G.pks.length + G.pks.length := by
          have h1 := Int.tmod_lt_of_pos x (show (0 : Int) < G.pks.length by omega)
          have h2 := Int.lt_tmod_of_pos x (show (0 : Int) < G.pks.length by omega)
          rw [IntKind.wrap_i64]
          omega
        refine AW.iff true (by simp; omega) (fun _ => ?_) (fun h => by cases h)
        rw [hst, if_neg h0]
        generalize hG : delivZ G (pickI x G.pks.length) = G' at *
        unfold pickI at hdp
        refine AW.draw mixed teOk (ans := [.agg (encGr G')]) (by simp [hwr, -Option.some.injEq] <;> rfl) (by kernel_rfl) (by kernel_rfl) ?_ ?_
        · simp [allP, hwr]
          exact ⟨(fun e => h0 (by rw [e]; rfl)), hdp⟩
        exact ⟨_, Weak.normS hA [2, 4, 10, 11, 12] [(2, 0), (4, 1)] [] [] 2 _ (by simp) (by simp) (by simp), by simp⟩
    rintro s rfl
    refine AW.text teOk (ans := []) (by simp [-Option.some.injEq] <;> rfl) ?_ ?_
    · trivial
    refine ⟨_, _, Weak.normS hA [2, 4, 10, 11, 12] [(2, 0), (4, 1)] [] [] 2 _ (by simp) (by simp) (by simp), ?_, done ++ [x], rest, rfl, by rw [hdr, List.append_assoc]; rfl, ?_⟩
    · simp
    · simp [hinc, happ]
  have hend : done = l := by
    rw [decide_eq_false_iff_not] at h
    have : rest = [] := List.eq_nil_of_length_eq_zero (by omega)
    rw [hdr, this, List.append_nil]
  rw [hend]
  refine AW.st teOk [] (by simp [-Option.some.injEq] <;> rfl) trivial ?_
  refine AW.ret ⟨.inr rfl, _, Weak.refl _, ?_⟩
  simp
def drainS : Nat → GrS → GrS
  | 0, g => g
  | m + 1, g => if g.pks.length = 0 then g else drainS m (delivS g 0)
theorem drain_W {n : Nat} : ∀ (m : Nat) {g : GrS} {N : Nat}, GrW g n N → GrW (drainS m g) n (N + 14 * m)
  | 0, g, N, h => h
  | m + 1, g, N, h => by
    unfold drainS
    split
    · exact ⟨h.nn, h.n4, h.al, h.a, fun p hp => (h.p p hp).mono (by omega), h.i, h.x, h.k, h.d, by have := h.kl; omega, by have := h.dl; omega, by have := h.s; omega⟩
    · have := drain_W m (deliv_W h (i := 0) (by omega))
      rw [show N + 14 * (m + 1) = N + 14 + 14 * m by omega]
      exact this
theorem drain_stop {g : GrS} (h : g.pks.length = 0) : ∀ m : Nat, drainS m g = g
  | 0 => rfl
  | m + 1 => by unfold drainS; rw [if_pos h]
theorem drain_succ (m : Nat) (g : GrS) : drainS (m + 1) g = if g.pks.length = 0 then g else drainS m (delivS g 0) := rfl
theorem drain_add : ∀ (a b : Nat) (g : GrS), drainS (a + b) g = drainS b (drainS a g)
  | 0, b, g => by rw [Nat.zero_add]; rfl
  | a + 1, b, g => by
    rw [show a + 1 + b = (a + b) + 1 by omega, drain_succ, drain_succ]
    by_cases h : g.pks.length = 0
    · rw [if_pos h, if_pos h, drain_stop h b]
    · rw [if_neg h, if_neg h, drain_add a b]
/-- Enough steps. -/
theorem drain_end {n : Nat} : ∀ (m : Nat) {g : GrS} {N : Nat}, GrW g n N → pot g ≤ m → (drainS m g).pks.length = 0
  | 0, g, N, h, hp => by
    have := pot_nn h
    show g.pks.length = 0
    omega
  | m + 1, g, N, h, hp => by
    unfold drainS
    split
    · rename_i h0
      exact h0
    · rename_i h0
      have hi : 0 < g.pks.length := by omega
      have := case_pot h (List.getElem?_eq_getElem hi) (deliv_case h (List.getElem?_eq_getElem hi))
      exact drain_end m (deliv_W h hi) (by omega)
theorem drain_pure (g : GrS) {n N : Nat} (h : GrW g n N) (m : Nat) (hm : pot g ≤ m) (hN : N + 14 * m < 10000000) : Pure Try.prog 52 [.agg (encGr g)] (.agg (encGr (drainS m g))) := by
  have hc := gclone_pure g (h.b (by omega))
  refine pure_of teOk Try.func52 (by kernel_rfl) (c := _) rfl (N := 12) rfl (rs := [Go.ResultVar.cell 2 82]) rfl (by simp) fun base A w0 hA => ?_
  refine AW.st teOk [] (by simp [-Option.some.injEq] <;> rfl) trivial ?_
  refine AW.st teOk [.fz (.agg (encGr g))] (by simp [-Option.some.injEq] <;> rfl) ?_ ?_
  · exact hc
  refine AW.seq ?_
  refine AW.block (AW.loop (fun j s => ∃ i, j + i = m ∧ s = ⟨[(1, .c (.ptr 0 0 0)), (2, .c (.ptr 1 0 0))], [(0, ⟨7, [encGr (drainS i g)]⟩), (1, ⟨7, [nilG]⟩)], 2⟩) m (Weak.normS hA [1, 2] [(1, 0), (2, 1)] [] [] 2 _ (by simp) (by simp) (by simp)) ⟨0, rfl, by simp [drainS]⟩ ?_)
  rintro j s ⟨i, hi, rfl⟩
  have hw := drain_W i h
  have hadd := drain_add i 1 g
  have hstop := fun h => drain_stop (g := drainS i g) h (m - i)
  have hall := drain_add i (m - i) g
  have hend := drain_end m h hm
  rw [show i + (m - i) = m by omega] at hall
  generalize drainS i g = G at *
  have hkl := hw.kl
  have hdp := deliv_pure G hw (by omega) 0
  by_cases h0 : G.pks.length = 0
  · rw [hall, hstop h0] 
    refine AW.seq ?_
    refine AW.st teOk [] (by simp [-Option.some.injEq] <;> rfl) trivial ?_
    refine AW.iff false (by simp [h0]) (fun h => by cases h) (fun h => AW.exit (x_then (x_then (blockA_exit ?_))))
    refine AW.st teOk [] (by simp [-Option.some.injEq] <;> rfl) trivial ?_
    refine AW.ret ⟨.inr rfl, _, Weak.refl _, ?_⟩
    simp
  · have him : i < m := by
      refine Nat.lt_of_not_le fun hle => h0 ?_
      have : m - i = 0 := by omega
      rw [this] at hall
      rw [hall] at hend
      exact hend
    unfold delivZ at hdp
    rw [if_pos (by omega)] at hdp
    rw [drain_succ 0 G, if_neg h0] at hadd
    change drainS (i + 1) g = delivS G 0 at hadd
    simp only [Int.toNat_zero] at hdp
    rw [← hadd] at hdp
    refine AW.seq ?_
    refine AW.st teOk [] (by simp [-Option.some.injEq] <;> rfl) trivial ?_
    refine AW.iff true (by simp; omega) (fun _ => AW.skip ?_) (fun h => by cases h)
    refine AW.block ?_
    refine AW.text teOk (ans := [.fz (.agg (encGr (drainS (i + 1) g)))]) (by simp [-Option.some.injEq] <;> rfl) ?_ ?_
    · exact hdp
    refine ⟨_, j - 1, Weak.normS hA [1, 2] [(1, 0), (2, 1)] [] [] 2 _ (by simp) (by simp) (by simp), by omega, i + 1, by omega, ?_⟩
    simp
end Go.Proofs.Ytopcklnnkpjanaa.Abs
