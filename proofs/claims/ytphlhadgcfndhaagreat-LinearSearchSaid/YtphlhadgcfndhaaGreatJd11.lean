/- Joined for the claim: WNwc WPd -/
import Derived.Test.YtphlhadgcfndhaaGreatJd10
section
namespace Go.Proofs.YtphlhadgcfndhaaGreat.Abs
open Go Go.RowKit
set_option linter.unusedVariables false
set_option linter.unusedSimpArgs false
set_option maxHeartbeats 4000000
set_option maxRecDepth 4000
/-- A call, told with all objects that live. -/
def Con0 (P : Program) (f : FuncId) (xs : List AVal) (σ : Sig) (m : Nat) (r : AVal) (σ' : Sig) (m' : Nat) : Prop := FOk P f ∧
  ∀ (base : Nat) (A : Nat → Prop) (w : World) (β : Nat → Bnd) (vs : Array Value), Inv base A w β σ w → (∀ id, m ≤ id → β id = .no) → RepAs w (okOf base A w β) β xs vs →
    Calls P f vs w fun e w' => ∃ v β', e = .returned v ∧ Inv base A w β' σ' w' ∧ (∀ i, BLe (β i) (β' i)) ∧ (∀ x, okOf base A w β x → okOf base A w' β' x ∧ w'.heap[x]? = w.heap[x]?) ∧ (∀ id, m' ≤ id → β' id = .no) ∧ RepV w' (okOf base A w' β') β' r v
theorem SemC.of0 {P : Program} {f : FuncId} {xs : List AVal} {σ σ' : Sig} {m m' : Nat} {r : AVal} {s : St} (h : Con0 P f xs σ m r σ' m') (hσ : s.σ = σ) (hm : s.fr ≤ m) : SemC P f xs s r σ' m' := by
  refine ⟨h.1, fun A base w0 n β a w vs I hvs => ?_⟩
  have Iv := I.inv
  rw [hσ] at Iv
  refine (h.2 base A.own w β vs (Iv.from) (fun id hid => I.fresh id (by omega)) hvs).mono ?_
  rintro e w' ⟨v, β', he, I', hle, hok, hno, hv⟩
  exact ⟨v, β', he, Inv.since I.inv.below I', hle, hok, hno, hv⟩
theorem con0_of {P : Program} {T : TyEnv} (hT : TOk P T) {f : FuncId} {fn : Func} {c : Code} (hf : P.funcs[f]? = some fn) (hname : (fn.name == "runtime.NumGoroutine") = false) (hb : fn.body = some c) {N : Nat} (hN : fn.ntmps = N) {rs : List ResultVar} (hrs : fn.results.toList = rs) {xs : List AVal} {res : AVal} {σ σ' : Sig} {m m' : Nat} (hlen : xs.length ≤ N)
    (h : ∀ base (A : Old) w0, A.lim = m → AW P base A w0 N c ⟨entry 0 xs, σ, m⟩ fun e s => (e = .normal ∨ e = .ret) ∧ ∃ s', Weak A s s' ∧ resL T s' rs = some res ∧ s'.σ = σ' ∧ s'.fr = m') : Con0 P f xs σ m res σ' m' := by
  subst hN hrs
  refine ⟨⟨fn, hf, hname, by rw [hb]; rfl⟩, fun base A w β vs hI hfr hr => calls_of_wp hf hb ?_⟩
  have I0 : InvS base ⟨A, β, m, hfr, []⟩ w fn.ntmps β ⟨entry 0 xs, σ, m⟩ { tmps := vs ++ Array.replicate (fn.ntmps - vs.size) undef, defers := [] } w := by
    refine ⟨hI, rfl, ?_, fun t v h => ?_, hfr, Ext.refl (A := ⟨A, β, m, hfr, []⟩) rfl⟩
    · simp [← hr.1]
      omega
    · obtain ⟨_, h1⟩ := look_entry xs 0 t v h
      rw [Nat.sub_zero] at h1
      have hlt : t < vs.size := by rw [← hr.1]; exact (List.getElem?_eq_some_iff.1 h1).1
      refine ⟨vs[t], ?_, hr.2 t v _ h1 (Array.getElem?_eq_getElem hlt)⟩
      rw [Array.getElem?_append_left hlt, Array.getElem?_eq_getElem hlt]
  refine wp_mono (h base ⟨A, β, m, hfr, []⟩ w rfl β _ w I0) fun e a' w' ⟨s', β', ⟨he, s'', hw, hres, hσ, hm⟩, I'⟩ => ?_
  obtain ⟨β'', I''⟩ := hw _ _ _ _ _ _ I'
  obtain ⟨v, h1, h2⟩ := resultsL_sound hT I'' hres
  have fin : a'.defers = [] ∧ ∃ v, (results fn a'.tmps).run P w' = .ok v w' ∧ ∃ v' β', Ending.returned v = .returned v' ∧ Inv base A w β' σ' w' ∧ (∀ i, BLe (β i) (β' i)) ∧ (∀ x, okOf base A w β x → okOf base A w' β' x ∧ w'.heap[x]? = w.heap[x]?) ∧ (∀ id, m' ≤ id → β' id = .no) ∧ RepV w' (okOf base A w' β') β' res v' :=
    ⟨I''.defers, v, h1, v, β'', rfl, by rw [← hσ]; exact I''.inv, I''.ext.ble, I''.ext.ok, by rw [← hm]; exact I''.fresh, h2⟩
  rcases he with rfl | rfl
  · exact fin
  · exact fin
/-- Names from m on are given anew; those below stay. -/
theorem Weak.tidyM {A : Old} {m : Nat} (hA : A.lim = m) (ks : List Nat) (ρ : List (Nat × Nat)) (ids : List Nat) (K : Nat) (s : St)
    (h1 : (ρ.all fun p => decide (p.2 < K) && (decide (m ≤ p.1) && decide (m ≤ p.2) || p.1 == p.2)) = true) (hK : m ≤ K) (h2 : (ρ.map Prod.snd).Nodup) (h3 : ∀ j, j < m → (look j s.σ).isSome = true → look j ρ = some j) (h4 : ∀ i, (look i s.σ).isSome = true → ids.contains i = false → look i ρ = none) :
    Weak A s ⟨mapS (rnV 0 ρ) (keepT ks s.τ), sortS (rnS 0 ρ ids s.σ), K⟩ := by
  refine ((Weak.keep ks s).trans (Weak.tidy 0 ρ ids K ⟨keepT ks s.τ, s.σ, s.fr⟩ ?_)).trans (Weak.sort _)
  rw [hA]
  refine ⟨fun p hp => ?_, ⟨by omega, hK⟩, h2, fun q _ hq hs => h3 q hq hs, fun i o hl hi hne => ?_⟩
  · rw [List.all_eq_true] at h1
    have := h1 p hp
    simp only [Bool.and_eq_true, Bool.or_eq_true, decide_eq_true_eq, beq_iff_eq] at this
    refine ⟨by omega, by omega, this.1, fun h => ?_⟩
    rcases this.2 with h' | h' <;> omega
  · exfalso
    apply hne
    unfold rnI
    rw [if_neg (by omega)]
    exact h4 i (by rw [hl]; rfl) hi
theorem insNil_new : New Tryz.prog 108 [.c nilC, .c (cI 0), .c (.row 1 true [[cI 0]])] (.c (.ref 0 0 1)) [(0, ⟨1, [[cI 0]]⟩)] 1 := by
  refine new_of teOk Tryz.func108 (by kernel_rfl) (c := _) rfl (N := 95) rfl (rs := [Go.ResultVar.tmp 6]) rfl (by simp) fun base A w0 hA => ?_
  refine AW.st teOk [] (by simp [-Option.some.injEq] <;> rfl) trivial ?_
  refine AW.st teOk [] (by simp [-Option.some.injEq] <;> rfl) trivial ?_
  refine AW.st teOk [] (by simp [-Option.some.injEq] <;> rfl) trivial ?_
  refine AW.seq ?_
  refine AW.st teOk [] (by simp [-Option.some.injEq] <;> rfl) trivial ?_
  refine AW.iff false (by simp) (fun h => by cases h) (fun _ => AW.skip ?_)
  refine AW.st teOk [] (by simp [-Option.some.injEq] <;> rfl) trivial ?_
  refine AW.seq ?_
  refine AW.st teOk [] (by simp [-Option.some.injEq] <;> rfl) trivial ?_
  refine AW.iff true (by simp) (fun _ => ?_) (fun h => by cases h)
  refine AW.st teOk [] (by simp [-Option.some.injEq] <;> rfl) ?_ ?_
  · simp [growOk]
  refine AW.ret ⟨.inr rfl, _, Weak.normT hA [6] [(6, 0)] [] 1 _ (by simp) (by simp) (by simp), by simp, by simp, rfl⟩
theorem del1_con (c0 b2 b3 c4 : AObj) : Con0 Tryz.prog 75 [.c (.ref 1 0 1), .c (cI 0), .c (cI 1)] [(0, c0), (124, c4), (1, ⟨1, [[cI 0]]⟩), (2, b2), (3, b3)] 200 (.c (.ref 1 0 0)) [(0, c0), (124, c4), (1, ⟨1, [[cI 0]]⟩), (2, b2), (3, b3)] 229 := by
  refine con0_of teOk Tryz.func75 (by kernel_rfl) (c := _) rfl (N := 33) rfl (rs := [Go.ResultVar.tmp 6]) rfl (by simp) fun base A w0 hA => ?_
  refine AW.st teOk [] (by simp [-Option.some.injEq] <;> rfl) trivial ?_
  refine AW.st teOk [] (by simp [-Option.some.injEq] <;> rfl) ?_ ?_
  · trivial
  refine AW.seq ?_
  refine AW.st teOk [] (by simp [-Option.some.injEq] <;> rfl) trivial ?_
  refine AW.iff false (by simp) (fun h => by cases h) (fun _ => AW.skip ?_)
  refine AW.st teOk [] (by simp [-Option.some.injEq] <;> rfl) trivial ?_
  refine AW.dr mixed teOk [] (by simp [-Option.some.injEq] <;> rfl) (by kernel_rfl) (by kernel_rfl) ?_ ?_
  · simp [allP]
  refine AW.st teOk [] (by simp [-Option.some.injEq] <;> rfl) ?_ ?_
  · trivial
  refine AW.st teOk [] (by simp [-Option.some.injEq] <;> rfl) trivial ?_
  refine AW.ret ⟨.inr rfl, _, Weak.order [(0, c0), (124, c4), (1, ⟨1, [[cI 0]]⟩), (2, b2), (3, b3)] (fun id => ?_), by simp, rfl, rfl⟩
  by_cases h0 : id = 0 <;> by_cases h1 : id = 1 <;> by_cases h2 : id = 124 <;> simp [look, h0, h1, h2]
abbrev wO (E c : Cell) : AObj := ⟨2, [[E, c]]⟩
theorem place1_con (e : EfS) (l1 b2 b3 : AObj) : Con0 Tryz.prog 74 [.c (.ptr 0 0 0), .c (cI 0)] [(0, wO (.row 9 false [evC e]) nilC), (1, l1), (2, b2), (3, b3)] 100 (.tup []) [(0, wO (.row 9 false [evC e]) (.ref 124 0 1)), (124, ⟨1, [[cI 0]]⟩), (1, l1), (2, b2), (3, b3)] 128 := by
  refine con0_of teOk Tryz.func74 (by kernel_rfl) (c := _) rfl (N := 80) rfl (rs := []) rfl (by simp) fun base A w0 hA => ?_
  refine AW.st teOk [] (by simp [-Option.some.injEq] <;> rfl) trivial ?_
  refine AW.seq ?_
  refine AW.st teOk [] (by simp [-Option.some.injEq] <;> rfl) trivial ?_
  refine AW.block (AW.loop0 ?_)
  refine AW.st teOk [] (by simp [-Option.some.injEq] <;> rfl) trivial ?_
  refine AW.seq ?_
  refine AW.iff false (by simp) (fun h => by cases h) (fun _ => AW.exit (x_then (x_then (blockA_exit ?_))))
  refine AW.seq ?_
  refine AW.st teOk [] (by simp [-Option.some.injEq] <;> rfl) trivial ?_
  refine AW.iff true (by simp) (fun _ => ?_) (fun h => by cases h)
  refine AW.text teOk (ans := []) (by simp [-Option.some.injEq] <;> rfl) ?_ ?_
  · trivial
  refine AW.text teOk (ans := [.new (.c (.ref 0 0 1)) [(0, ⟨1, [[cI 0]]⟩)] 1]) (by simp [-Option.some.injEq] <;> rfl) ?_ ?_
  · exact insNil_new
  exact ⟨.inl rfl, _, Weak.refl _, rfl, rfl, rfl⟩
theorem upd1_con (e : EfS) : Con0 Tryz.prog 36 [.c (.ptr 0 0 0), .c (.ref 1 0 1)] [(0, wO (.row 9 false [evC e]) nilC), (1, ⟨1, [[cI 0]]⟩)] 2 (.c (cB true)) [(0, wO (.row 9 false [evC e]) (.ref 2 0 1)), (1, ⟨1, [[cI 0]]⟩), (2, ⟨1, [[cI 0]]⟩)] 3 := by
  refine con0_of teOk Tryz.func36 (by kernel_rfl) (c := _) rfl (N := 28) rfl (rs := [Go.ResultVar.tmp 4]) rfl (by simp) fun base A w0 hA => ?_
  refine AW.st teOk [] (by simp [-Option.some.injEq] <;> rfl) trivial ?_
  refine AW.st teOk [.sem (.tup []) [(3, ⟨1, [[.ref 1 0 1]]⟩), (2, ⟨1, [[.ptr 0 0 0]]⟩), (0, wO (.row 9 false [evC e]) nilC), (1, ⟨1, [[cI 0]]⟩)] 7] (by simp [-Option.some.injEq] <;> rfl) ?_ ?_
  · exact SemC.deep rfl (byCall1_pure [.row 9 false [evC e], nilC])
  refine AW.seq (AW.block (AW.loop1 (fun s => s = ⟨[(2, .c (.ptr 2 0 0)), (3, .c (.ptr 3 0 0)), (4, .c (cB false))], [(0, wO (.row 9 false [evC e]) (.ref 124 0 1)), (124, ⟨1, [[cI 0]]⟩), (1, ⟨1, [[cI 0]]⟩), (2, ⟨1, [[.ptr 0 0 0]]⟩), (3, ⟨1, [[.ref 1 0 0]]⟩)], 230⟩) ?_ ?_))
  · refine AW.seq ?_
    refine AW.st teOk [] (by simp [-Option.some.injEq] <;> rfl) trivial ?_
    refine AW.iff true (by simp) (fun _ => AW.skip ?_) (fun h => by cases h)
    refine AW.block ?_
    refine AW.seq (AW.regionA (RA.pre teOk 1 [] (by decide) (by simp [-Option.some.injEq] <;> rfl) trivial ?_))
    refine RA.lendF (r := .c (cI 0)) (cp := .ptr 3 0 0) (cq := .ptr 2 0 0) rfl rfl rfl rfl rfl rfl rfl rfl (by decide) (by decide) (fun t ht => by cases ht; decide) rfl (by simp) (by simp) (idx1_pure 70 [.fad [.row 1 false [[cI 0]]], .fad [.fad [.row 9 false [evC e], nilC]]] (by simp) true (w1_pure _ rfl)) ?_
    refine RA.pre teOk 1 [] (by decide) (by simp [-Option.some.injEq] <;> rfl) trivial (RA.done (by decide) ?_)
    refine AW.to (s2 := ⟨[(2, .c (.ptr 2 0 0)), (3, .c (.ptr 3 0 0)), (4, .c (cB false)), (5, .c (cI 0))], [(0, wO (.row 9 false [evC e]) nilC), (1, ⟨1, [[cI 0]]⟩), (2, ⟨1, [[.ptr 0 0 0]]⟩), (3, ⟨1, [[.ref 1 0 1]]⟩)], 12⟩) ((Weak.keep [2, 3, 4, 5] _).trans (Weak.order [(0, wO (.row 9 false [evC e]) nilC), (1, ⟨1, [[cI 0]]⟩), (2, ⟨1, [[.ptr 0 0 0]]⟩), (3, ⟨1, [[.ref 1 0 1]]⟩)] (fun id => by by_cases h0 : id = 0 <;> by_cases h1 : id = 1 <;> by_cases h2 : id = 2 <;> by_cases h3 : id = 3 <;> simp [look, h0, h1, h2, h3]))) (by simp) ?_
    refine AW.seq ?_
    refine AW.st teOk [] (by simp [-Option.some.injEq] <;> rfl) trivial ?_
    refine AW.iff false (by simp) (fun h => by cases h) (fun _ => AW.skip ?_)
    refine AW.drC mixed teOk [] [.sem (.tup []) [(0, wO (.row 9 false [evC e]) (.ref 124 0 1)), (124, ⟨1, [[cI 0]]⟩), (1, ⟨1, [[cI 0]]⟩), (2, ⟨1, [[.ptr 0 0 0]]⟩), (3, ⟨1, [[.ref 1 0 1]]⟩)] 128] 5 (by rfl) (by rfl) (by simp [-Option.some.injEq] <;> rfl) (by kernel_rfl) (by kernel_rfl) (by kernel_rfl) (by kernel_rfl) (by kernel_rfl) (by simp [-Option.some.injEq] <;> rfl) ?_ ?_ ?_
    · simp [allP]
    · exact SemC.of0 (place1_con e _ _ _) rfl (Nat.le_of_ble_eq_true rfl)
    refine AW.text teOk (ans := [.sem (.c (.ref 1 0 0)) [(0, wO (.row 9 false [evC e]) (.ref 124 0 1)), (124, ⟨1, [[cI 0]]⟩), (1, ⟨1, [[cI 0]]⟩), (2, ⟨1, [[.ptr 0 0 0]]⟩), (3, ⟨1, [[.ref 1 0 1]]⟩)] 229]) (by simp [-Option.some.injEq] <;> rfl) ?_ ?_
    · exact SemC.of0 (del1_con _ _ _ _) rfl (Nat.le_of_ble_eq_true rfl)
    refine ⟨_, (Weak.keep [2, 3, 4] _).trans (Weak.order [(0, wO (.row 9 false [evC e]) (.ref 124 0 1)), (124, ⟨1, [[cI 0]]⟩), (1, ⟨1, [[cI 0]]⟩), (2, ⟨1, [[.ptr 0 0 0]]⟩), (3, ⟨1, [[.ref 1 0 0]]⟩)] (fun id => ?_)), by simp⟩
    by_cases h0 : id = 0 <;> by_cases h1 : id = 1 <;> by_cases h2 : id = 2 <;> by_cases h3 : id = 3 <;> by_cases h4 : id = 124 <;> simp [look, h0, h1, h2, h3, h4]
  rintro s rfl
  refine AW.seq ?_
  refine AW.st teOk [] (by simp [-Option.some.injEq] <;> rfl) trivial ?_
  refine AW.iff false (by simp) (fun h => by cases h) (fun _ => AW.exit (x_then (x_then (blockA_exit ?_))))
  refine AW.st teOk [] (by simp [-Option.some.injEq] <;> rfl) trivial ?_
  refine AW.ret ⟨.inr rfl, _, Weak.tidyM hA [4] [(0, 0), (1, 1), (124, 2)] [0, 124, 1, 2, 3] 3 _ (by simp) (by simp) (by simp) (fun j hj _ => ?_) (fun i hi hn => ?_), by simp, by simp, rfl⟩
  · have : j = 0 ∨ j = 1 := by omega
    rcases this with rfl | rfl <;> simp [look]
  · simp only [List.contains_cons, List.contains_nil, Bool.or_false, Bool.or_eq_false_iff, beq_eq_false_iff_ne, ne_eq] at hn
    simp [look, hn.1, hn.2.1, hn.2.2.1]
end Go.Proofs.YtphlhadgcfndhaaGreat.Abs
end
section
namespace Go.Proofs.YtphlhadgcfndhaaGreat.Abs
open Go Go.RowKit
set_option linter.unusedVariables false
set_option linter.unusedSimpArgs false
set_option maxHeartbeats 4000000
set_option maxRecDepth 8000
section
variable {A : Old} {τ : Tau} {o : AObj} {fr : Nat}
theorem Weak.one0 (hA : A.lim = 100) (ks : List Nat) : Weak A ⟨τ, [(0, o)], fr⟩ ⟨mapS (rnV 0 [(0, 0)]) (keepT ks τ), sortS (rnS 0 [(0, 0)] [0] [(0, o)]), 100⟩ := Weak.tidyM hA ks [(0, 0)] [0] 100 ⟨τ, [(0, o)], fr⟩ (by simp) (Nat.le_refl _) (by simp) (fun j hj h => by
  by_cases h0 : j = 0
  · subst h0; simp [look]
  · simp [look, h0] at h) (fun i hi hn => by
  by_cases h0 : i = 0
  · subst h0; simp at hn
  · simp [look, h0] at hi)
end
theorem ten_encH {l : List HV} {e : List Cell} (h : e ∈ l.map encH) : e.length = 10 := by
  obtain ⟨x, _, rfl⟩ := List.mem_map.1 h
  rfl
section
variable {A : Old} {τ : Tau} {o p : AObj} {fr : Nat}
theorem Weak.two0 (hA : A.lim = 100) (ks : List Nat) : Weak A ⟨τ, [(104, p), (0, o)], fr⟩ ⟨mapS (rnV 0 [(0, 0), (104, 100)]) (keepT ks τ), sortS (rnS 0 [(0, 0), (104, 100)] [0, 104] [(104, p), (0, o)]), 101⟩ := Weak.tidyM hA ks [(0, 0), (104, 100)] [0, 104] 101 ⟨τ, [(104, p), (0, o)], fr⟩ (by simp) (by omega) (by simp) (fun j hj h => by
  by_cases h0 : j = 0
  · subst h0; simp [look]
  · have h1 : j ≠ 104 := by omega
    simp [look, h0, h1] at h) (fun i hi hn => by
  simp only [List.contains_cons, List.contains_nil, Bool.or_false, Bool.or_eq_false_iff, beq_eq_false_iff_ne, ne_eq] at hn
  simp [look, hn.1, hn.2])
theorem Weak.two1 (hA : A.lim = 100) (ks : List Nat) : Weak A ⟨τ, [(106, p), (0, o)], fr⟩ ⟨mapS (rnV 0 [(0, 0), (106, 100)]) (keepT ks τ), sortS (rnS 0 [(0, 0), (106, 100)] [0, 106] [(106, p), (0, o)]), 101⟩ := Weak.tidyM hA ks [(0, 0), (106, 100)] [0, 106] 101 ⟨τ, [(106, p), (0, o)], fr⟩ (by simp) (by omega) (by simp) (fun j hj h => by
  by_cases h0 : j = 0
  · subst h0; simp [look]
  · have h1 : j ≠ 106 := by omega
    simp [look, h0, h1] at h) (fun i hi hn => by
  simp only [List.contains_cons, List.contains_nil, Bool.or_false, Bool.or_eq_false_iff, beq_eq_false_iff_ne, ne_eq] at hn
  simp [look, hn.1, hn.2])
theorem Weak.oneA (hA : A.lim = 100) (ks : List Nat) : Weak A ⟨τ, [(100, o)], fr⟩ ⟨mapS (rnV 0 [(100, 100)]) (keepT ks τ), sortS (rnS 0 [(100, 100)] [100] [(100, o)]), 101⟩ := Weak.tidyM hA ks [(100, 100)] [100] 101 ⟨τ, [(100, o)], fr⟩ (by simp) (by omega) (by simp) (fun j hj h => by
  have h1 : j ≠ 100 := by omega
  simp [look, h1] at h) (fun i hi hn => by
  simp only [List.contains_cons, List.contains_nil, Bool.or_false, beq_eq_false_iff_ne, ne_eq] at hn
  simp [look, hn])
theorem Weak.oneB (hA : A.lim = 100) (ks : List Nat) : Weak A ⟨τ, [(105, o)], fr⟩ ⟨mapS (rnV 0 [(105, 100)]) (keepT ks τ), sortS (rnS 0 [(105, 100)] [105] [(105, o)]), 101⟩ := Weak.tidyM hA ks [(105, 100)] [105] 101 ⟨τ, [(105, o)], fr⟩ (by simp) (by omega) (by simp) (fun j hj h => by
  have h1 : j ≠ 105 := by omega
  simp [look, h1] at h) (fun i hi hn => by
  simp only [List.contains_cons, List.contains_nil, Bool.or_false, beq_eq_false_iff_ne, ne_eq] at hn
  simp [look, hn])
end
theorem at_look (l : List HV) (key : Ky) (hasc : AscH l) {k : Nat} {x : HV} (hx : l[k]? = some x) : (kLt x.k key = true → k + 1 ≤ posH l key) ∧ (kLt x.k key = false → posH l key ≤ k) := cnt_split (monoH hasc key) hx
abbrev atS (l : List HV) (o f : Str) (k : Nat) : St := ⟨[(0, .c (.ref 0 0 l.length)), (1, .c (cS o)), (2, .c (cS f)), (8, .c (cI k))], [(0, ⟨10, l.map encH⟩)], 100⟩
theorem at_con (l : List HV) (o f : Str) (hasc : AscH l) (hl : l.length < 900000000) (r : AVal) (σ' : Sig) (m' : Nat) (hres : (hasH l (o, f) = true ∧ r = .tup [.c (.ref 0 0 l.length), .c (cI (posH l (o, f)))] ∧ σ' = [(0, ⟨10, l.map encH⟩)] ∧ m' = 100) ∨ (hasH l (o, f) = false ∧ r = .tup [.c (.ref 100 0 (placeV l (o, f)).length), .c (cI (posH l (o, f)))] ∧ σ' = [(100, ⟨10, (placeV l (o, f)).map encH⟩)] ∧ m' = 101)) : Con0 Tryz.prog 43 [.c (.ref 0 0 l.length), .c (cS o), .c (cS f)] [(0, ⟨10, l.map encH⟩)] 100 r σ' m' := by
  refine con0_of teOk Tryz.func43 (by kernel_rfl) (c := _) rfl (N := 84) rfl (rs := [Go.ResultVar.tmp 6, Go.ResultVar.tmp 7]) rfl (by simp) fun base A w0 hA => ?_
  have hp := posH_le l (o, f)
  refine AW.st teOk [] (by simp [-Option.some.injEq] <;> rfl) trivial ?_
  refine AW.st teOk [] (by simp [-Option.some.injEq] <;> rfl) trivial ?_
  refine AW.mid (fun s' => s' = atS l o f (posH l (o, f))) ?_ ?_
  · refine AW.block (AW.loop (fun m s' => ∃ k : Nat, m = l.length - k ∧ k ≤ posH l (o, f) ∧ s' = atS l o f k) _ (Weak.one0 hA [0, 1, 2, 8]) ⟨0, rfl, Nat.zero_le _, by simp⟩ ?_)
    rintro m s' ⟨k, rfl, hk, rfl⟩
    refine AW.seq ?_
    by_cases hkl : k < l.length
    · obtain ⟨x, hx⟩ : ∃ e, l[k]? = some e := ⟨_, List.getElem?_eq_getElem hkl⟩
      have hc := at_look l (o, f) hasc hx
      obtain ⟨_, rfl⟩ := List.getElem?_eq_some_iff.1 hx
      clear hx
      have hstay : kLt l[k].k (o, f) = false → k = posH l (o, f) := fun h => by have := hc.2 h; omega
      cases h1 : sLt l[k].o o with
      | true =>
        have hk1 := hc.1 (by simp [kLt, h1])
        unfold sLt at h1
        refine AW.st teOk [] (by simp [hkl, h1, -Option.some.injEq] <;> rfl) ?_ ?_
        · first | trivial | omega | (simp; omega)
        refine AW.iff true (by simp) (fun _ => AW.skip ?_) (fun h => by cases h)
        refine AW.block ?_
        refine AW.text teOk (ans := []) (by simp [-Option.some.injEq] <;> rfl) ?_ ?_
        · trivial
        refine ⟨_, _, Weak.one0 hA [0, 1, 2, 8], ?_, k + 1, rfl, hk1, ?_⟩
        · omega
        · simp
          exact wrap_s k (by omega)
      | false =>
      cases h2 : (l[k].o.toList == o.toList) with
      | false =>
        have hne : ¬ l[k].o = o := fun e => by rw [e] at h2; simp at h2
        have hkp := hstay (by simp [kLt, h1, hne])
        unfold sLt at h1
        refine AW.st teOk [] (by simp [hkl, h1, h2, -Option.some.injEq] <;> rfl) ?_ ?_
        · first | trivial | omega | (simp; omega)
        refine AW.iff false (by simp) (fun h => by cases h) (fun _ => AW.exit (x_then (x_then (blockA_exit ?_))))
        rw [← hkp]
        exact ⟨_, Weak.one0 hA [0, 1, 2, 8], by simp⟩
      | true =>
      have heq : l[k].o = o := str_ext (by simpa using h2)
      cases h3 : sLt l[k].f f with
      | true =>
        have hk1 := hc.1 (by simp [kLt, heq, h3])
        unfold sLt at h1 h3
        refine AW.st teOk [] (by simp [hkl, h1, h2, h3, -Option.some.injEq] <;> rfl) ?_ ?_
        · first | trivial | omega | (simp; omega)
        refine AW.iff true (by simp) (fun _ => AW.skip ?_) (fun h => by cases h)
        refine AW.block ?_
        refine AW.text teOk (ans := []) (by simp [-Option.some.injEq] <;> rfl) ?_ ?_
        · trivial
        refine ⟨_, _, Weak.one0 hA [0, 1, 2, 8], ?_, k + 1, rfl, hk1, ?_⟩
        · omega
        · simp
          exact wrap_s k (by omega)
      | false =>
        have hkp := hstay (by simp [kLt, h1, h3])
        unfold sLt at h1 h3
        refine AW.st teOk [] (by simp [hkl, h1, h2, h3, -Option.some.injEq] <;> rfl) ?_ ?_
        · first | trivial | omega | (simp; omega)
        refine AW.iff false (by simp) (fun h => by cases h) (fun _ => AW.exit (x_then (x_then (blockA_exit ?_))))
        rw [← hkp]
        exact ⟨_, Weak.one0 hA [0, 1, 2, 8], by simp⟩
    · have hkp : k = posH l (o, f) := by omega
      refine AW.st teOk [] (by simp [hkl, -Option.some.injEq] <;> rfl) ?_ ?_
      · first | trivial | omega | (simp; omega)
      refine AW.iff false (by simp) (fun h => by cases h) (fun _ => AW.exit (x_then (x_then (blockA_exit ?_))))
      rw [← hkp]
      exact ⟨_, Weak.one0 hA [0, 1, 2, 8], by simp⟩
  rintro s' rfl
  obtain ⟨k, hk⟩ : ∃ k, k = posH l (o, f) := ⟨_, rfl⟩
  have hplace : placeV l (o, f) = if hasH l (o, f) = true then l else l.take k ++ zeroV (o, f) :: l.drop k := by rw [hk]; rfl
  have hhas : hasH l (o, f) = l[k]?.any fun x => decide (x.k = (o, f)) := by rw [hk]; rfl
  rw [← hk] at hp hres ⊢
  rcases hres with ⟨hh, rfl, rfl, rfl⟩ | ⟨hh, rfl, rfl, rfl⟩
  · rw [hhas] at hh
    cases hx : l[k]? with
    | none => rw [hx] at hh; simp at hh
    | some x =>
    rw [hx] at hh
    have hxk : x.o = o ∧ x.f = f := by simpa using hh
    obtain ⟨hkl, rfl⟩ := List.getElem?_eq_some_iff.1 hx
    clear hx hh
    obtain ⟨rfl, rfl⟩ := hxk
    refine AW.seq ?_
    refine AW.st teOk [] (by simp [hkl, -Option.some.injEq] <;> rfl) ?_ ?_
    · first | trivial | omega | (simp; omega)
    refine AW.iff true (by simp) (fun _ => ?_) (fun h => by cases h)
    refine AW.st teOk [] (by simp [-Option.some.injEq] <;> rfl) trivial ?_
    exact AW.ret ⟨.inr rfl, _, Weak.one0 hA [6, 7], by simp, by simp, rfl⟩
  · refine AW.mid (fun s' => s' = atS l o f k) ?_ ?_
    · by_cases hkl : k < l.length
      · cases h1 : (l[k].o.toList == o.toList) with
        | false =>
          refine AW.st teOk [] (by simp [hkl, h1, -Option.some.injEq] <;> rfl) ?_ ?_
          · first | trivial | omega | (simp; omega)
          refine AW.iff false (by simp) (fun h => by cases h) (fun _ => AW.skip ?_)
          exact ⟨_, Weak.one0 hA [0, 1, 2, 8], by simp⟩
        | true =>
          have h2 : (l[k].f.toList == f.toList) = false := by
            cases hq : (l[k].f.toList == f.toList) with
            | false => rfl
            | true =>
              have e1 : l[k].o = o := str_ext (by simpa using h1)
              have e2 : l[k].f = f := str_ext (by simpa using hq)
              rw [hhas, List.getElem?_eq_getElem hkl] at hh
              simp [e1, e2] at hh
          refine AW.st teOk [] (by simp [hkl, h1, h2, -Option.some.injEq] <;> rfl) ?_ ?_
          · first | trivial | omega | (simp; omega)
          refine AW.iff false (by simp) (fun h => by cases h) (fun _ => AW.skip ?_)
          exact ⟨_, Weak.one0 hA [0, 1, 2, 8], by simp⟩
      · refine AW.st teOk [] (by simp [hkl, -Option.some.injEq] <;> rfl) ?_ ?_
        · first | trivial | omega | (simp; omega)
        refine AW.iff false (by simp) (fun h => by cases h) (fun _ => AW.skip ?_)
        exact ⟨_, Weak.one0 hA [0, 1, 2, 8], by simp⟩
    rintro s' rfl
    have htl : (l.take k).length = k := by rw [List.length_take]; omega
    have hmin : min k l.length = k := by omega
    refine AW.st teOk [] (by simp [hp, -Option.some.injEq] <;> rfl) ?_ ?_
    · simp [growOk, hmin]
      exact ⟨by omega, fun e he => ten_encH (List.mem_of_mem_take he)⟩
    rw [← List.map_take]
    obtain ⟨T0, hT0⟩ : ∃ T0, T0 = l.take k := ⟨_, rfl⟩
    rw [← hT0] at htl hplace ⊢
    refine AW.to (s2 := ⟨[(0, .c (.ref 0 0 l.length)), (1, .c (cS o)), (2, .c (cS f)), (8, .c (cI k)), (9, .c (.ref 100 0 k))], [(0, ⟨10, l.map encH⟩), (100, ⟨10, T0.map encH⟩)], 101⟩) (Weak.two0 hA [0, 1, 2, 8, 9]) (by simp [hmin]) ?_
    have hdm : (l.map encH).drop k = (l.drop k).map encH := List.map_drop.symm
    obtain ⟨D, hD⟩ : ∃ D, D = l.drop k := ⟨_, rfl⟩
    have hDl : D.length = l.length - k := by rw [hD, List.length_drop]
    rw [← hD] at hdm hplace
    refine AW.st teOk [] (by simp [-Option.some.injEq] <;> rfl) ?_ ?_
    · simp [growOk, hmin]
      omega
    obtain ⟨T, hT⟩ : ∃ T, T = T0 ++ [zeroV (o, f)] := ⟨_, rfl⟩
    have hTl : T.length = k + 1 := by rw [hT, List.length_append, htl]; rfl
    obtain ⟨zc, hzc⟩ : ∃ zc : List Cell, zc = [cS o, cS f, cB false, cI 0, cS { data := #[] }, cB false, cI 0, cI 0, .sc (.slice none 0 0), cB false] := ⟨_, rfl⟩
    rw [hplace, if_neg (by rw [hh]; simp)]
    refine AW.to (s2 := ⟨[(0, .c (.ref 0 0 l.length)), (8, .c (cI k)), (9, .c (.ref 100 0 (k + 1)))], [(0, ⟨10, l.map encH⟩), (100, ⟨10, T.map encH⟩)], 101⟩) ((Weak.leO 106 _ (o := ⟨10, T0.map encH ++ zc :: []⟩) (o' := ⟨10, T.map encH⟩) (by simp [hzc]) rfl (by rw [hT]; simp) (by rw [hT, List.map_append]; exact leCs_mid (by rw [hzc]; exact .cons (.refl _) (.cons (.refl _) (.cons (.refl _) (.cons (.refl _) (.cons (.refl _) (.cons (.refl _) (.cons (.refl _) (.cons (.refl _) (.cons (.nil 1) (.cons (.refl _) .nil)))))))))))).trans (Weak.two1 hA [0, 8, 9])) (by simp) ?_
    have hlen : (T0 ++ zeroV (o, f) :: D).length = k + 1 + D.length := by rw [List.length_append, htl, List.length_cons]; omega
    have hTD : T0 ++ zeroV (o, f) :: D = T ++ D := by rw [hT, List.append_assoc]; rfl
    rw [hTD] at hlen ⊢
    by_cases hkl : k < l.length
    · have hsum : k + (l.length - k) ≤ l.length := by omega
      have htake : ((l.map encH).drop k).take (l.length - k) = D.map encH := by rw [hdm]; exact List.take_of_length_le (by rw [List.length_map, hDl]; exact Nat.le_refl _)
      have htw : ∀ e, e ∈ D.map encH → e.length = 10 := fun e he => ten_encH he
      refine AW.st teOk [] (by simp [hkl, hsum, htake, -Option.some.injEq] <;> rfl) ?_ ?_
      · simp [growOk, hmin, hTl]
        omega
      rw [← List.map_append]
      refine AW.to (s2 := ⟨[(6, .c (.ref 105 0 (k + 1 + D.length))), (7, .c (cI k))], [(105, ⟨10, (T ++ D).map encH⟩)], 109⟩) ((Weak.freeze 0 ⟨10, l.map encH⟩ [] _ (by simp) (flat_encH l)).trans (Weak.keep [6, 7] _)) (by simp) ?_
      rw [← hlen]
      generalize T ++ D = R at *
      exact AW.ret ⟨.inr rfl, _, Weak.oneB hA [6, 7], by simp, by simp, rfl⟩
    · have hD0 : D = [] := List.length_eq_zero_iff.1 (by omega)
      subst hD0
      rw [List.append_nil] at hlen ⊢
      refine AW.st teOk [] (by simp [hkl, -Option.some.injEq] <;> rfl) ?_ ?_
      · first | omega | (simp; omega)
      refine AW.to (s2 := ⟨[(6, .c (.ref 100 0 (k + 1))), (7, .c (cI k))], [(100, ⟨10, T.map encH⟩)], 109⟩) ((Weak.freeze 0 ⟨10, l.map encH⟩ [] _ (by simp) (flat_encH l)).trans (Weak.keep [6, 7] _)) (by simp) ?_
      exact AW.ret ⟨.inr rfl, _, Weak.oneA hA [6, 7], by simp [hTl], by simp, rfl⟩
end Go.Proofs.YtphlhadgcfndhaaGreat.Abs
end
