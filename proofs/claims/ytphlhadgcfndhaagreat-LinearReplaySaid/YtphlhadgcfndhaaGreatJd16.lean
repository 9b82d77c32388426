/- Joined for the claim: WNsn WNax WNay WPs WPt -/
import Derived.Test.YtphlhadgcfndhaaGreatJd10
import Derived.Test.YtphlhadgcfndhaaGreatJd15
section
namespace Go.Proofs.YtphlhadgcfndhaaGreat.Abs
open Go Go.RowKit
set_option linter.unusedVariables false
set_option linter.unusedSimpArgs false
set_option maxHeartbeats 4000000
set_option maxRecDepth 4000
theorem new_ofK {P : Program} {T : TyEnv} (hT : TOk P T) {f : FuncId} {fn : Func} {c : Code} (hf : P.funcs[f]? = some fn) (hname : (fn.name == "runtime.NumGoroutine") = false) (hb : fn.body = some c) {N : Nat} (hN : fn.ntmps = N) {rs : List ResultVar} (hrs : fn.results.toList = rs) {xs : List AVal} {res : AVal} {σ' : Sig} {m' : Nat} (hlen : xs.length ≤ N)
    (h : ∀ A w0, A.lim = 0 → AWK P w0.heap.size A w0 N c ⟨entry 0 xs, [], 0⟩ [] fun e s κ => (e = .normal ∨ e = .ret) ∧ ∃ s', Weak (A.at κ) s s' ∧ resL T s' rs = some res ∧ s'.σ = σ' ∧ s'.fr = m') : New P f xs res σ' m' := by
  subst hN hrs
  refine ⟨⟨fn, hf, hname, by rw [hb]; rfl⟩, fun w A vs hA hr => calls_of_wp hf hb ?_⟩
  refine wp_mono (h (oldOf A) w rfl noB _ w (init_inv hA hr hlen)) fun e a' w' ⟨s', κ', β', ⟨he, s'', hw, hres, hσ, hm⟩, I'⟩ => ?_
  obtain ⟨β'', I''⟩ := hw _ _ _ _ _ _ I'
  obtain ⟨v, h1, h2⟩ := resultsL_sound hT I'' hres
  have fin : a'.defers = [] ∧ ∃ v, (results fn a'.tmps).run P w' = .ok v w' ∧ ∃ v' β', Ending.returned v = .returned v' ∧ Inv w.heap.size A w β' σ' w' ∧ (∀ id, m' ≤ id → β' id = .no) ∧ RepV w' (okOf w.heap.size A w' β') β' res v' :=
    ⟨I''.defers, v, h1, v, β'', rfl, by rw [← hσ]; exact I''.inv, by rw [← hm]; exact I''.fresh, h2⟩
  rcases he with rfl | rfl
  · exact fin
  · exact fin
def searchA (R : List Int × Int) : AVal := if R.2 = 0 then .tup [.c (.ref 0 0 R.1.length), .c (cI 0)] else .tup [.c (.sc (.slice none 0 0)), .c (cI R.2)]
def searchG (R : List Int × Int) : Sig := if R.2 = 0 then [(0, ⟨1, R.1.map enci⟩)] else []
theorem search_new (ops : List OpS) (hE : EfOk ops) (hn : ops.length < 1000000) : New Tryz.prog 15 [.agg (encHi ops)] (searchA (searchS ops)) (searchG (searchS ops)) 1 := by
  refine new_ofK teOkM Tryz.func15 (by kernel_rfl) (c := _) rfl (N := 30) rfl (rs := [Go.ResultVar.tmp 2, Go.ResultVar.tmp 3]) rfl (by simp) fun A w0 hA => ?_
  have hk : ∀ κ, (A.at κ).lim = 0 := fun _ => hA
  have hwn := wrap_s ops.length (by omega)
  refine AWK.st teOkM [] (by simp [-Option.some.injEq] <;> rfl) trivial ?_
  refine AWK.to (s2 := ⟨[(1, .c (.fad (encHi ops))), (2, .c (.sc (.slice none 0 0))), (3, .c (cI 0))], [], 0⟩) ((Weak.freeze 0 ⟨1, [encHi ops]⟩ [] _ (by simp) rfl).trans (Weak.normT (hk _) [1, 2, 3] [] [] 0 _ (by simp) (by simp) (by simp [mapAt_nil]))) (by simp [mapAt_nil]) ?_
  refine AWK.seq ?_
  refine AWK.st teOkM [] (by simp [-Option.some.injEq] <;> rfl) trivial ?_
  refine AWK.iff (decide (10 < ops.length)) (by simp; omega) (fun hb => ?_) (fun hb => AWK.skip ?_)
  · rw [decide_eq_true_eq] at hb
    refine AWK.st teOkM [] (by simp [-Option.some.injEq] <;> rfl) trivial ?_
    have hR : searchS ops = ([], 3) := by unfold searchS; rw [if_pos hb]
    rw [hR]
    refine AWK.ret ⟨.inr rfl, _, Weak.normT (hk _) [2, 3] [] [] 1 _ (by simp) (by simp) (by simp), by simp [searchA], by simp [searchG], rfl⟩
  rw [decide_eq_false_iff_not] at hb
  have hn10 : ops.length ≤ 10 := by omega
  have hs : searchS ops = match searchL ops (List.range (ops.length + 1)) with
    | some l => (l, 0)
    | none => ([], 6) := by
    unfold searchS
    rw [if_neg hb]
    cases searchL ops (List.range (ops.length + 1)) <;> rfl
  generalize searchS ops = R at hs ⊢
  refine AWK.seq ?_
  refine AWK.st teOkM [] (by simp [hwn, -Option.some.injEq] <;> rfl) trivial ?_
  refine AWK.block (AWK.loop (fun m s κ => ∃ sp : Nat, m = ops.length + 1 - sp ∧ sp ≤ ops.length + 1 ∧ κ = [] ∧ searchL ops (List.range (ops.length + 1)) = searchL ops ((List.range (ops.length + 1)).drop sp) ∧ s = ⟨[(1, .c (.fad (encHi ops))), (2, .c (.sc (.slice none 0 0))), (3, .c (cI 0)), (13, .c (cI (ops.length + 1))), (14, .c (cI sp))], [], 0⟩) _ (Weak.normT (hk _) [1, 2, 3, 13, 14] [] [] 0 _ (by simp) (by simp) (by simp)) ⟨0, rfl, Nat.zero_le _, rfl, rfl, by simp⟩ ?_)
  rintro m s κ ⟨sp, rfl, hsp, rfl, hrun, rfl⟩
  refine AWK.st teOkM [] (by simp [-Option.some.injEq] <;> rfl) trivial ?_
  refine AWK.seq ?_
  refine AWK.iff (decide (sp < ops.length + 1)) (by simp; omega) (fun h => AWK.skip ?_) (fun h => AWK.exit (k_then (k_then (blockK_exit ?_))))
  · rw [decide_eq_true_eq] at h
    have hdr : (List.range (ops.length + 1)).drop sp = sp :: (List.range (ops.length + 1)).drop (sp + 1) := by
      rw [List.drop_eq_getElem_cons (by simpa using h), List.getElem_range]
    rw [hdr, searchL] at hrun
    refine AWK.seq (AWK.block ?_)
    refine AWK.st teOkM [] (by simp [-Option.some.injEq] <;> rfl) trivial ?_
    refine AWK.seq (AWK.region (RK.pre teOkM 2 [] (by decide) (by simp [-Option.some.injEq] <;> rfl) trivial ?_))
    refine RK.make rfl rfl rfl rfl (by decide) fun M => ?_
    refine RK.pre teOkM 3 [] (by decide) (by simp [-Option.some.injEq] <;> rfl) trivial (RK.done (by decide) ?_)
    show AWK _ _ _ _ _ _ _ [(M, mapA [])] _
    refine AWK.to (s2 := ⟨[(1, .c (.fad (encHi ops))), (2, .c (.sc (.slice none 0 0))), (3, .c (cI 0)), (5, .c (.ptr 0 0 0)), (13, .c (cI (ops.length + 1))), (14, .c (cI sp))], [(0, sS ops sp M 1 0), (1, ⟨1, []⟩)], 2⟩) ((Weak.nilO 6 2 1 (q := 4) (cs := [encOps ops, cI sp, .sc (.slice none 0 0), .sc (.map (some M))]) _ (by simp) rfl (by simp)).trans (Weak.normS (hk _) [1, 2, 3, 5, 13, 14] [(5, 0)] [(8, 1)] [6] 2 _ (by simp) (by simp) (by simp))) (by simp) ?_
    have hw0 := waitN_le ops x0
    obtain ⟨r, hr⟩ : ∃ r, r = runF ops 11 x0 [] sp [] [] := ⟨_, rfl⟩
    have hC := run_con ops hn10 hE M 11 x0 [] sp [] [] 0 (by omega) x0_key (fun y hy => by cases hy) VOk.nil (by omega) (by simp; omega) (by omega)
    rw [← hr] at hC hrun
    have hC := RunC.nil hC
    refine AWK.seq (AWK.region (RK.pre teOkM 1 [] (by decide) (by simp [-Option.some.injEq] <;> rfl) trivial ?_))
    refine RK.buildA rfl rfl rfl rfl (by decide) (teOk 75 ti75 rfl) Tryz.underlying75 (teOk 5 ti5 rfl) rfl ?_
    refine RK.run (T := TEm) (j := 1) (Nat.le_refl _) rfl rfl rfl (by decide) rfl (by simp [-Option.some.injEq] <;> rfl) rfl rfl (by decide) (by show 1 < 3; decide) rfl rfl rfl (flat_enci _) (flat_enci _) hC (RK.done (by decide) ?_)
    cases hrk : r.ok with
    | true =>
      rw [hrk, if_pos rfl] at hrun
      have hR : R = (r.l, 0) := by rw [hs, hrun]
      rw [hR]
      refine AWK.iff true (by simp [hrk]) (fun _ => ?_) (fun h => by cases h)
      refine AWK.st teOkM [] (by simp [-Option.some.injEq] <;> rfl) trivial ?_
      refine AWK.ret ⟨.inr rfl, _, Weak.normS (hk _) [2, 3] [(2, 0)] [] [] 1 _ (by simp) (by simp) (by simp), by simp [searchA], by simp [searchG], rfl⟩
    | false =>
      rw [hrk, if_neg (by simp)] at hrun
      refine AWK.iff false (by simp [hrk]) (fun h => by cases h) (fun _ => AWK.skip ?_)
      refine AWK.text teOkM (ans := []) (by simp [-Option.some.injEq] <;> rfl) ?_ ?_
      · trivial
      refine ⟨_, _, Weak.normT (hk _) [1, 2, 3, 13, 14] [] [] 0 _ (by simp) (by simp) (by simp), ?_, sp + 1, rfl, by omega, rfl, hrun, ?_⟩
      · omega
      · simp
        exact wrap_s sp (by omega)
  · rw [decide_eq_false_iff_not] at h
    have hR : R = ([], 6) := by
      rw [hs, hrun, List.drop_eq_nil_of_le (by simp; omega)]
      rfl
    rw [hR]
    refine AWK.st teOkM [] (by simp [-Option.some.injEq] <;> rfl) trivial ?_
    refine AWK.ret ⟨.inr rfl, _, Weak.normT (hk _) [2, 3] [] [] 1 _ (by simp) (by simp) (by simp), by simp [searchA], by simp [searchG], rfl⟩
end Go.Proofs.YtphlhadgcfndhaaGreat.Abs
end
section
namespace Go.Proofs.YtphlhadgcfndhaaGreat.Abs
open Go Go.RowKit
set_option linter.unusedVariables false
set_option linter.unusedSimpArgs false
set_option maxHeartbeats 4000000
set_option maxRecDepth 100000
theorem loopF_skip {f : List Int → List HV → Nat → List Int → List (List Int) → RS} {ops : List OpS} {x : List Int} {vs : List HV} {i : Nat} {is : List Nat} {sp : Nat} {l : List Int} {ks : List (List Int)} {o : OpS} (ho : ops[i]? = some o) (hm : (mayB ops x sp i && okV vs o) = false) : loopF f ops x vs (i :: is) sp l ks = loopF f ops x vs is sp l ks := by
  rw [loopF, ho]
  simp only
  rw [if_neg (by rw [hm]; simp)]
theorem loopF_hit {f : List Int → List HV → Nat → List Int → List (List Int) → RS} {ops : List OpS} {x : List Int} {vs : List HV} {i : Nat} {is : List Nat} {sp : Nat} {l : List Int} {ks : List (List Int)} {o : OpS} {r : RS} (ho : ops[i]? = some o) (hm : (mayB ops x sp i && okV vs o) = true) (hr : f (afterB ops x i) (stepV vs o) (sp - costB o) (l ++ [(i : Int)]) ks = r) (hok : r.ok = true) : loopF f ops x vs (i :: is) sp l ks = r := by
  rw [loopF, ho]
  simp only
  rw [if_pos hm, hr, if_pos hok]
theorem runF_go {ops : List OpS} {n : Nat} {x : List Int} {vs : List HV} {sp : Nat} {l : List Int} {ks : List (List Int)} (h1 : complB ops x = false) (h2 : x ∉ ks) : runF ops (n + 1) x vs sp l ks = loopF (runF ops n) ops x vs (List.range ops.length) sp l ks := by
  rw [runF, if_neg (by rw [h1]; simp), if_neg h2]
def strA : Str := ⟨#[97]⟩
def strC : Str := ⟨#[99]⟩
def eA (n : Int) : EfS := ⟨3, strA, strC, n, ⟨#[]⟩⟩
def vA : HV := { o := strA, f := strC, set := false, n := 0, s := ⟨#[]⟩, hm := false, mx := 0, sum := 2, el := [], fl := false }
def opsA (r : List HV) : List OpS := [⟨101, 1, [eA 2], [], 1, 2⟩, ⟨102, 2, [], r, 3, 4⟩]
theorem sameA : sameL [vA] [vA] = true := by simp [sameL, sameB]
theorem okA : okV [vA] ⟨102, 2, [], [vA], 3, 4⟩ = true := by simp [okV, sameA]
theorem runA3 : runF (opsA [vA]) 9 [1, 1, 0, 0, 0, 0, 0, 0, 0, 0] [vA] 0 [0, 1] [] = ⟨true, 0, [0, 1], []⟩ := by rfl
theorem runA2 : runF (opsA [vA]) 10 [1, 0, 0, 0, 0, 0, 0, 0, 0, 0] [vA] 0 [0] [] = ⟨true, 0, [0, 1], []⟩ := by
  rw [runF_go (by rfl) (by simp)]
  show loopF _ _ _ _ [0, 1] _ _ _ = _
  rw [loopF_skip (o := ⟨101, 1, [eA 2], [], 1, 2⟩) rfl (by rfl)]
  exact loopF_hit (o := ⟨102, 2, [], [vA], 3, 4⟩) rfl (by rw [okA]; rfl) runA3 rfl
theorem runA1 : runF (opsA [vA]) 11 x0 [] 0 [] [] = ⟨true, 0, [0, 1], []⟩ := by
  rw [runF_go (by rfl) (by simp)]
  show loopF _ _ _ _ [0, 1] _ _ _ = _
  exact loopF_hit (o := ⟨101, 1, [eA 2], [], 1, 2⟩) rfl (by rfl) runA2 rfl
theorem searchA1 : searchS (opsA [vA]) = ([0, 1], 0) := by
  have h : searchL (opsA [vA]) (List.range 3) = some [0, 1] := by
    show searchL (opsA [vA]) [0, 1, 2] = _
    rw [searchL, runA1]
    rfl
  unfold searchS
  rw [if_neg (by decide)]
  have h' : searchL (opsA [vA]) (List.range ((opsA [vA]).length + 1)) = some [0, 1] := h
  rw [h']
theorem searchA2 : searchS (opsA []) = ([], 6) := by decide
theorem chkA01 : replayS (opsA []) [0, 1] = 17 := by decide
theorem chkA10 : replayS (opsA []) [1, 0] = 7 := by decide
theorem chkA1 : replayS (opsA []) [1] = 6 := by decide
end Go.Proofs.YtphlhadgcfndhaaGreat.Abs
end
section
namespace Go.Proofs.YtphlhadgcfndhaaGreat.Abs
open Go Go.RowKit
set_option linter.unusedVariables false
set_option linter.unusedSimpArgs false
set_option maxHeartbeats 4000000
set_option maxRecDepth 8000
theorem add_pure (p n c r : Int) : Pure Tryz.prog 20 [.c (cI p), .c (cI n), .c (cI c), .c (cI r)] (.agg [cI p, cI 1, .row 5 true [encE' ⟨3, strA, strC, n, ⟨#[]⟩⟩], .sc (.slice none 0 0), cI c, cI r]) := by
  refine pure_of teOk Tryz.func20 (by kernel_rfl) (c := _) rfl (N := 16) rfl (rs := [Go.ResultVar.cell 8 39]) rfl (by simp) fun base A w0 hA => ?_
  refine AW.st teOk [] (by simp [-Option.some.injEq] <;> rfl) trivial ?_
  refine AW.st teOk [] (by simp [-Option.some.injEq] <;> rfl) trivial ?_
  refine AW.ret ⟨.inr rfl, _, Weak.refl _, rfl⟩
theorem LeC.row1 {k : Nat} {t : Bool} {e e' : List Cell} (h : LeCs e e') : LeC (.row k t [e]) (.row k false [e']) := .row rfl (fun i a a' ha ha' => by
    match i, ha, ha' with
    | 0, ha, ha' => cases ha; cases ha'; exact h.get.1
    | i + 1, ha, _ => simp at ha) (fun i a a' ha ha' j c c' hc hc' => by
    match i, ha, ha' with
    | 0, ha, ha' => cases ha; cases ha'; exact h.get.2 j c c' hc hc'
    | i + 1, ha, _ => simp at ha)
theorem efA (r : List HV) : EfOk (opsA r) := fun o ho => by
  simp only [opsA, List.mem_cons, List.not_mem_nil, or_false] at ho
  rcases ho with rfl | rfl <;> simp
theorem newA : New Tryz.prog 15 [.agg (encHi (opsA [vA]))] (.tup [.c (.ref 0 0 2), .c (cI 0)]) [(0, ⟨1, [[cI 0], [cI 1]]⟩)] 1 := by
  have h := search_new (opsA [vA]) (efA _) (by simp [opsA])
  rw [searchA1] at h
  exact h
theorem newA2 : New Tryz.prog 15 [.agg (encHi (opsA []))] (.tup [.c (.sc (.slice none 0 0)), .c (cI 6)]) [] 1 := by
  have h := search_new (opsA []) (efA _) (by simp [opsA])
  rw [searchA2] at h
  exact h
theorem awake39_pure : Pure Tryz.prog 8 [] (.c (cB true)) := by
  refine pure_of teOk Tryz.func8 (by kernel_rfl) (c := _) rfl (N := 86) rfl (rs := [Go.ResultVar.tmp 0]) rfl (by simp) fun base A w0 hA => ?_
  refine AW.st teOk [] (by simp [-Option.some.injEq] <;> rfl) trivial ?_
  refine AW.st teOk [] (by simp [-Option.some.injEq] <;> rfl) trivial ?_
  refine AW.seq (AW.regionA (RA.pre teOk 3 [.fz (.agg [cI 101, cI 1, .row 5 true [encE' (eA 2)], .sc (.slice none 0 0), cI 1, cI 2])] (by decide) (by simp [-Option.some.injEq] <;> rfl) ?_ ?_))
  · exact add_pure 101 2 1 2
  refine RA.lit (tie := ti39) rfl rfl rfl rfl (by decide) Tryz.underlying24 (teOk 39 ti39 rfl) (by simp [-Option.some.injEq] <;> rfl) (by simp) (by simp) ?_
  refine RA.weak (s' := ⟨[(14, .c (.ref 0 0 2))], [(0, ⟨6, (opsA [vA]).map encOp⟩)], 1⟩) ((Weak.normS hA [14] [(14, 0)] [] [] 1 _ (by simp) (by simp) (by simp; rfl)).trans (Weak.leO 0 _ (o := ⟨6, [[cI 101, cI 1, .row 5 true [encE' (eA 2)], .sc (.slice none 0 0), cI 1, cI 2], [cI 102, cI 2, .sc (.slice none 0 0), .row 10 true [[cS strA, cS strC, cB false, cI 0, cS ⟨#[]⟩, cB false, cI 0, cI 2, .sc (.slice none 0 0), cB false]], cI 3, cI 4]]⟩) (o' := ⟨6, (opsA [vA]).map encOp⟩) (by simp; exact ⟨rfl, rfl⟩) rfl rfl (fun i e e' he he' => by
    match i, he, he' with
    | 0, he, he' =>
      cases he
      cases he'
      exact .cons (.refl _) (.cons (.refl _) (.cons (LeC.loose 5 true _) (.cons (.nil 10) (.cons (.refl _) (.cons (.refl _) .nil)))))
    | 1, he, he' =>
      cases he
      cases he'
      exact .cons (.refl _) (.cons (.refl _) (.cons (.nil 5) (.cons (LeC.row1 (.cons (.refl _) (.cons (.refl _) (.cons (.refl _) (.cons (.refl _) (.cons (.refl _) (.cons (.refl _) (.cons (.refl _) (.cons (.refl _) (.cons (.nil 1) (.cons (.refl _) .nil))))))))))) (.cons (.refl _) (.cons (.refl _) .nil)))))
    | i + 2, he, _ => simp at he))) (by simp) ?_
  refine RA.pre teOk 3 [] (by decide) (by simp [-Option.some.injEq] <;> rfl) trivial (RA.done (by decide) ?_)
  refine AW.st teOk [.sem (.tup [.c (.ref 5 0 2), .c (cI 0)]) [(5, ⟨1, [[cI 0], [cI 1]]⟩), (2, ⟨1, [[.ref 0 0 2]]⟩), (0, ⟨6, (opsA [vA]).map encOp⟩)] 6] (by simp [-Option.some.injEq] <;> rfl) ?_ ?_
  · exact SemC.newD (r := .tup [.c (.ref 0 0 2), .c (cI 0)]) (σ' := [(0, ⟨1, [[cI 0], [cI 1]]⟩)]) (m' := 1) newA rfl rfl
  refine AW.st teOk [] (by simp [opsA, -Option.some.injEq] <;> rfl) ?_ ?_
  · simp
  refine AW.to (s2 := ⟨[(2, .c (.ptr 1 0 0)), (3, .c (.ref 2 0 2)), (4, .c (cI 0))], [(0, ⟨6, (opsA []).map encOp⟩), (1, ⟨1, [[.ref 0 0 2]]⟩), (2, ⟨1, [[cI 0], [cI 1]]⟩)], 3⟩) ((Weak.normS hA [2, 3, 4] [(2, 1), (3, 2)] [(0, 0)] [2] 3 _ (by simp) (by simp) (by simp; exact ⟨rfl, rfl⟩)).trans (Weak.leO 0 _ (o := ⟨6, [encOp ⟨101, 1, [eA 2], [], 1, 2⟩, [cI 102, cI 2, .row 5 false [], .sc (.slice none 0 0), cI 3, cI 4]]⟩) (o' := ⟨6, (opsA []).map encOp⟩) (by simp) rfl rfl (fun i e e' he he' => by
    match i, he, he' with
    | 0, he, he' =>
      cases he
      cases he'
      exact LeCs.refl _
    | 1, he, he' =>
      cases he
      cases he'
      exact .cons (.refl _) (.cons (.refl _) (.cons (.refl _) (.cons (.nil 10) (.cons (.refl _) (.cons (.refl _) .nil)))))
    | i + 2, he, _ => simp at he))) (by simp) ?_
  refine AW.st teOk [.sem (.tup [.c (.sc (.slice none 0 0)), .c (cI 6)]) [(0, ⟨6, (opsA []).map encOp⟩), (1, ⟨1, [[.ref 0 0 2]]⟩), (2, ⟨1, [[cI 0], [cI 1]]⟩)] 5] (by simp [-Option.some.injEq] <;> rfl) ?_ ?_
  · exact SemC.newD (r := .tup [.c (.sc (.slice none 0 0)), .c (cI 6)]) (σ' := []) (m' := 1) newA2 rfl rfl
  refine AW.st teOk [.fz (.tup [.c (.row 1 false [[cI 0]]), .c (cI 0)])] (by simp [opsA, -Option.some.injEq] <;> rfl) ?_ ?_
  · exact Pure.le (wit1_pure (eA 2)) (.cons (.c (LeC.loose 9 true _)) .nil) (.refl _)
  have rp : ∀ l : List Int, l.length < 3 → Pure Tryz.prog 11 [.agg (encHi (opsA [])), .c (.row 1 true (l.map enci))] (.c (cI (replayS (opsA []) l))) := fun l hl => Pure.le (replay_pure (opsA []) l (by simp [opsA]) (by omega) (efA _)) (.cons (.refl _) (.cons (.c (LeC.loose 1 true _)) .nil)) (.refl _)
  have r1 := rp [0, 1] (by simp)
  have r2 := rp [1, 0] (by simp)
  have r3 := rp [1] (by simp)
  rw [chkA01] at r1
  rw [chkA10] at r2
  rw [chkA1] at r3
  refine AW.st teOk [.rd (.c (cI 17)), .rd (.c (cI 7)), .rd (.c (cI 6))] (by simp [-Option.some.injEq] <;> rfl) ?_ ?_
  · exact ⟨⟨⟨⟨rfl, trivial⟩, trivial, trivial⟩, r1⟩, ⟨⟨⟨rfl, trivial⟩, trivial, trivial⟩, r2⟩, ⟨⟨rfl, trivial⟩, trivial, trivial⟩, r3⟩
  refine AW.ret ⟨.inr rfl, _, Weak.refl _, rfl⟩
end Go.Proofs.YtphlhadgcfndhaaGreat.Abs
end
section
namespace Go.Proofs.YtphlhadgcfndhaaGreat.Abs
open Go Go.RowKit
set_option linter.unusedVariables false
set_option linter.unusedSimpArgs false
set_option maxHeartbeats 8000000
set_option maxRecDepth 8000
theorem fill_ki (ops : List OpS) (l : List Int) (h : KiOk ops) : KiOk (fillS ops [] l) := fun o ho => by
  have hm : fld o ∈ (fillS ops [] l).map fld := List.mem_map.2 ⟨o, ho, rfl⟩
  rw [fill_fld] at hm
  obtain ⟨q, hq, e⟩ := List.mem_map.1 hm
  have := h q hq
  have e1 : q.kind = o.kind := show (fld q).kind = (fld o).kind from by rw [e]
  rw [← e1]; exact this
theorem fill_ef (ops : List OpS) (l : List Int) (h : EfOk ops) : EfOk (fillS ops [] l) := fun o ho => by
  have hm : fld o ∈ (fillS ops [] l).map fld := List.mem_map.2 ⟨o, ho, rfl⟩
  rw [fill_fld] at hm
  obtain ⟨q, hq, e⟩ := List.mem_map.1 hm
  have := h q hq
  have e1 : q.ef = o.ef := show (fld q).ef = (fld o).ef from by rw [e]
  rw [← e1]; exact this
theorem fill_len (ops : List OpS) (l : List Int) : (fillS ops [] l).length = ops.length := by
  have := congrArg List.length (fill_fld l ops [])
  simpa using this
theorem fill_vt {N : Int} (ops : List OpS) (l : List Int) (h : VT N ops) : VT N (fillS ops [] l) := by
  have hf := fill_fld l ops []
  refine ⟨?_, fun o ho => ?_⟩
  · have := congrArg (List.map fun o : OpS => o.call) hf
    rw [List.map_map, List.map_map] at this
    have e : ((fun o : OpS => o.call) ∘ fld) = fun o : OpS => o.call := rfl
    rw [e] at this
    rw [this]
    exact h.asc
  · have hm : fld o ∈ (fillS ops [] l).map fld := List.mem_map.2 ⟨o, ho, rfl⟩
    rw [hf] at hm
    obtain ⟨q, hq, e⟩ := List.mem_map.1 hm
    have := h.el q hq
    have e1 : q.call = o.call := show (fld q).call = (fld o).call from by rw [e]
    have e2 : q.ret = o.ret := show (fld q).ret = (fld o).ret from by rw [e]
    rw [← e1, ← e2]; exact this
theorem replayL_pure (l ch order : List Int) (way at' : Int) (raw : List Int) (hl : l.length < 4000000000000000000) (hc : ch.length < 4000000000000000000) (ho : order.length < 4000000000000000000) : Pure Tryz.prog 3 [.c (encis l), .c (encis ch), .c (encis order), .c (cI way), .c (cI at'), .c (encis raw)] (.c (cB true)) := by
  refine pure_of teOk Tryz.func3 (by kernel_rfl) (c := _) rfl (N := 124) rfl (rs := [Go.ResultVar.tmp 12]) rfl (by simp) fun base A w0 hA => ?_
  refine AW.st teOk [] (by simp [-Option.some.injEq] <;> rfl) trivial ?_
  by_cases h30 : order.length ≤ 30
  case neg =>
    have h6 : (30 : Int) < order.length := by omega
    refine AW.seq ?_
    refine AW.st teOk [] (by simp [h6, -Option.some.injEq] <;> rfl) ?_ ?_
    · trivial
    refine AW.iff true (by simp) (fun _ => ?_) (fun h => by cases h)
    refine AW.st teOk [.fz (.c (cB true))] (by simp [-Option.some.injEq] <;> rfl) ?_ ?_
    · exact awake39_pure
    exact AW.ret ⟨.inr rfl, _, Weak.refl _, by simp⟩
  have h6 : ¬ (30 : Int) < order.length := by omega
  by_cases hr30 : raw.length ≤ 30
  case neg =>
    have h10 : (30 : Int) < raw.length := by omega
    refine AW.seq ?_
    refine AW.st teOk [] (by simp [h6, h10, -Option.some.injEq] <;> rfl) ?_ ?_
    · trivial
    refine AW.iff true (by simp) (fun _ => ?_) (fun h => by cases h)
    refine AW.st teOk [.fz (.c (cB true))] (by simp [-Option.some.injEq] <;> rfl) ?_ ?_
    · exact awake39_pure
    exact AW.ret ⟨.inr rfl, _, Weak.refl _, by simp⟩
  have h10 : ¬ (30 : Int) < raw.length := by omega
  refine AW.mid (fun s => s = ⟨[(0, .c (encis l)), (1, .c (encis ch)), (2, .c (encis order)), (3, .c (cI way)), (4, .c (cI at')), (5, .c (encis raw))], [], 0⟩) ?_ ?_
  · refine AW.st teOk [] (by simp [h6, h10, -Option.some.injEq] <;> rfl) ?_ ?_
    · trivial
    refine AW.iff false (by simp) (fun h => by cases h) (fun _ => AW.skip ?_)
    exact ⟨_, Weak.normT hA [0, 1, 2, 3, 4, 5] [] [] 0 _ (by simp) (by simp) (by simp), by simp⟩
  rintro s rfl
  obtain ⟨hK, hE, hS1, hS2, hV⟩ := shortS_ok l 14
  have hsh := short_pure l ch 14 hl hc (by omega)
  have hO := orderS_ok hV (by omega) ch
  have hOl := orderS_len (shortS l 14) ch
  have hfp := fill_pure (shortS l 14) (orderS (shortS l 14) ch) (by omega) (by omega) hE hO.rng
  have hFE := fill_ef _ (orderS (shortS l 14) ch) hE
  have hFK := fill_ki _ (orderS (shortS l 14) ch) hK
  have hFl := fill_len (shortS l 14) (orderS (shortS l 14) ch)
  have hok := fill_ok _ _ hO.chk
  generalize orderS (shortS l 14) ch = O at *
  generalize fillS (shortS l 14) [] O = F at *
  generalize shortS l 14 = S at *
  have hrp := replay_pure F O (by omega) (by omega) hFE
  rw [hok] at hrp
  refine AW.st teOk [.fz (.tup [.agg (encHi S), .c (encis O)])] (by simp [-Option.some.injEq] <;> rfl) ?_ ?_
  · exact hsh
  refine AW.st teOk [.fz (.agg (encHi F))] (by simp [-Option.some.injEq] <;> rfl) ?_ ?_
  · exact hfp
  refine AW.mid (fun s => s = ⟨[(2, .c (encis order)), (3, .c (cI way)), (4, .c (cI at')), (5, .c (encis raw)), (13, .c (.fad (encHi F))), (14, .c (encis O))], [], 0⟩) ?_ ?_
  · refine AW.st teOk [.fz (.c (cI 0))] (by simp [-Option.some.injEq] <;> rfl) ?_ ?_
    · exact hrp
    refine AW.iff false (by simp) (fun h => by cases h) (fun _ => AW.skip ?_)
    exact ⟨_, (Weak.freeze 5 ⟨1, [encHi F]⟩ [] _ (by simp) (flatOpsR F)).trans (Weak.normT hA [2, 3, 4, 5, 13, 14] [] [] 0 _ (by simp) (by simp) (by simp [mapAt_nil])), by simp [mapAt_nil]⟩
  rintro s rfl
  refine AW.st teOk [] (by simp [-Option.some.injEq] <;> rfl) ?_ ?_
  · simp [growOk]
    omega
  refine AW.mid (fun s => ∃ L : List Int, L.length < 100 ∧ s = ⟨[(13, .c (.fad (encHi F))), (15, .c (encis L))], [], 0⟩) ?_ ?_
  · refine AW.st teOk [] (by simp [-Option.some.injEq] <;> rfl) trivial ?_
    by_cases hO0 : O = []
    · refine AW.iff false (by simp [hO0]) (fun h => by cases h) (fun _ => AW.skip ?_)
      exact ⟨_, (Weak.freeze 2 ⟨1, O.map enci⟩ [] _ (by simp) (flat_enci _)).trans (Weak.normT hA [13, 15] [] [] 0 _ (by simp) (by simp) (by simp)), O, by omega, by simp⟩
    have hO1 : 0 < O.length := List.length_pos_iff.2 hO0
    refine AW.iff true (by simp; omega) (fun _ => ?_) (fun h => by cases h)
    obtain ⟨w8, hw8⟩ : ∃ w8, w8 = IntKind.i64.wrap (way.tdiv 8) := ⟨_, rfl⟩
    have a1 := indexP_lt at' (k := O.length) (by omega) (by omega)
    have b1 := indexP_lt w8 (k := O.length) (by omega) (by omega)
    have c1 := indexP_lt way (k := 8) (by omega) (by omega)
    have a2 := index_pure at' O.length
    have b2 := index_pure w8 O.length
    have c2 := index_pure way 8
    obtain ⟨a, ha⟩ : ∃ j : Nat, indexI at' O.length = j := ⟨(indexI at' O.length).toNat, by omega⟩
    obtain ⟨b, hb⟩ : ∃ j : Nat, indexI w8 O.length = j := ⟨(indexI w8 O.length).toNat, by omega⟩
    obtain ⟨c, hcc⟩ : ∃ j : Nat, indexI way 8 = j := ⟨(indexI way 8).toNat, by omega⟩
    rw [ha] at a1 a2
    rw [hb] at b1 b2
    rw [hcc] at c1 c2
    obtain ⟨x, hx⟩ : ∃ x, O[a]? = some x := ⟨_, List.getElem?_eq_getElem (by omega)⟩
    obtain ⟨y, hy⟩ : ∃ x, O[b]? = some x := ⟨_, List.getElem?_eq_getElem (by omega)⟩
    refine AW.st teOk [.fz (.c (cI a)), .fz (.c (cI b))] (by simp [← hw8, -Option.some.injEq] <;> rfl) ?_ ?_
    · exact ⟨a2, b2⟩
    refine AW.to (s2 := ⟨[(2, .c (encis order)), (3, .c (cI way)), (4, .c (cI at')), (5, .c (encis raw)), (13, .c (.fad (encHi F))), (15, .c (.ref 0 0 O.length)), (16, .c (cI a)), (17, .c (cI b))], [(0, ⟨1, O.map enci⟩)], 1⟩) (Weak.normT hA [2, 3, 4, 5, 13, 15, 16, 17] [(15, 0)] [] 1 _ (by simp) (by simp) (by simp)) (by simp) ?_
    have hc8 : c = 0 ∨ c = 1 ∨ c = 2 ∨ c = 3 ∨ c = 4 ∨ c = 5 ∨ c = 6 ∨ c = 7 := by omega
    rcases hc8 with rfl | rfl | rfl | rfl | rfl | rfl | rfl | rfl
    · refine AW.st teOk [.fz (.c (cI 0))] (by simp [-Option.some.injEq] <;> rfl) ?_ ?_
      · exact c2
      refine AW.block ?_
      refine AW.st teOk [] (by simp [-Option.some.injEq] <;> rfl) trivial ?_
      refine AW.iff true (by simp) (fun _ => ?_) (fun h => by cases h)
      have hz : ((O.map enci).set a [cI y])[b]? = some [cI y] := by
        rw [List.getElem?_set]
        split
        · rw [if_pos (by simp; omega)]
        · rw [List.getElem?_map, hy]; rfl
      have hm : ((O.map enci).set a [cI y]).set b [cI x] = ((O.set a y).set b x).map enci := by rw [List.map_set, List.map_set]; rfl
      refine AW.draw mixed teOk (ans := []) (by simp [hx, hy, hz, -Option.some.injEq] <;> rfl) (by kernel_rfl) (by kernel_rfl) ?_ ?_
      · simp [allP]
        omega
      exact ⟨_, (Weak.freeze 0 ⟨1, ((O.map enci).set a [cI y]).set b [cI x]⟩ [] _ (by simp) (by rw [hm]; exact flat_enci _)).trans (Weak.normT hA [13, 15] [] [] 0 _ (by simp) (by simp) (by simp)), (O.set a y).set b x, by simp; omega, by simp [-List.map_set]; rw [hm]; exact List.take_of_length_le (by simp)⟩
    · refine AW.st teOk [.fz (.c (cI 1))] (by simp [-Option.some.injEq] <;> rfl) ?_ ?_
      · exact c2
      refine AW.block ?_
      refine AW.st teOk [] (by simp [-Option.some.injEq] <;> rfl) trivial ?_
      refine AW.iff false (by simp) (fun h => by cases h) (fun _ => ?_)
      refine AW.st teOk [] (by simp [-Option.some.injEq] <;> rfl) trivial ?_
      refine AW.iff true (by simp) (fun _ => ?_) (fun h => by cases h)
      have hwa : IntKind.i64.wrap ((a : Int) + 1) = (a : Int) + 1 := wrap_s a (by omega)
      by_cases hlast : (a : Int) + 1 < O.length
      · refine AW.draw mixed teOk (ans := []) (by simp [hwa, hlast, -Option.some.injEq] <;> rfl) (by kernel_rfl) (by kernel_rfl) ?_ ?_
        · simp [allP]
          omega
        have e1 : (O.map enci).take a ++ ((O.map enci).drop (a + 1)).take (O.length - (a + 1)) ++ (O.map enci).drop (a + (O.length - (a + 1))) = (O.take a ++ (O.drop (a + 1)).take (O.length - (a + 1)) ++ O.drop (a + (O.length - (a + 1)))).map enci := by simp
        exact ⟨_, (Weak.freeze 0 ⟨1, (O.map enci).take a ++ ((O.map enci).drop (a + 1)).take (O.length - (a + 1)) ++ (O.map enci).drop (a + (O.length - (a + 1)))⟩ [] _ (by simp) (by rw [e1]; exact flat_enci _)).trans (Weak.normT hA [13, 15] [] [] 0 _ (by simp) (by simp) (by simp)), (O.take a ++ (O.drop (a + 1)).take (O.length - (a + 1)) ++ O.drop (a + (O.length - (a + 1)))).take (a + (O.length - (a + 1))), by simp; omega, by simp [-List.append_assoc]; rw [if_pos (by omega)]; simp⟩
      · refine AW.draw mixed teOk (ans := []) (by simp [hwa, hlast, -Option.some.injEq] <;> rfl) (by kernel_rfl) (by kernel_rfl) ?_ ?_
        · simp [allP]
          omega
        exact ⟨_, (Weak.freeze 0 ⟨1, O.map enci⟩ [] _ (by simp) (flat_enci _)).trans (Weak.normT hA [13, 15] [] [] 0 _ (by simp) (by simp) (by simp)), O.take a, by simp; omega, by simp; rw [if_pos (by omega)]; simp⟩
    · refine AW.st teOk [.fz (.c (cI 2))] (by simp [-Option.some.injEq] <;> rfl) ?_ ?_
      · exact c2
      refine AW.block ?_
      refine AW.st teOk [] (by simp [-Option.some.injEq] <;> rfl) trivial ?_
      refine AW.iff false (by simp) (fun h => by cases h) (fun _ => ?_)
      refine AW.st teOk [] (by simp [-Option.some.injEq] <;> rfl) trivial ?_
      refine AW.iff false (by simp) (fun h => by cases h) (fun _ => ?_)
      refine AW.st teOk [] (by simp [-Option.some.injEq] <;> rfl) trivial ?_
      refine AW.iff true (by simp) (fun _ => ?_) (fun h => by cases h)
      have hwf : IntKind.i64.wrap ((F.length : Int) + 2) = F.length + 2 := by rw [IntKind.wrap_i64]; omega
      have hi2 := index_pure w8 (F.length + 2)
      obtain ⟨z, hz⟩ : ∃ z, z = indexI w8 (F.length + 2) := ⟨_, rfl⟩
      rw [← hz] at hi2
      have hm : ∀ u : Int, (O.map enci).set a [cI u] = (O.set a u).map enci := fun u => by rw [List.map_set]; rfl
      refine AW.text teOk (ans := [.fz (.c (cI z))]) (by simp [← hw8, hwf, hx, -Option.some.injEq] <;> rfl) ?_ ?_
      · exact ⟨hi2, by omega⟩
      exact ⟨_, (Weak.freeze 0 ⟨1, (O.map enci).set a [cI (IntKind.i64.wrap (z - 1))]⟩ [] _ (by simp) (by rw [hm]; exact flat_enci _)).trans (Weak.normT hA [13, 15] [] [] 0 _ (by simp) (by simp) (by simp)), O.set a (IntKind.i64.wrap (z - 1)), by simp; omega, by simp; rw [hm]; exact List.take_of_length_le (by simp)⟩
    · refine AW.st teOk [.fz (.c (cI 3))] (by simp [-Option.some.injEq] <;> rfl) ?_ ?_
      · exact c2
      refine AW.block ?_
      refine AW.st teOk [] (by simp [-Option.some.injEq] <;> rfl) trivial ?_
      refine AW.iff false (by simp) (fun h => by cases h) (fun _ => ?_)
      refine AW.st teOk [] (by simp [-Option.some.injEq] <;> rfl) trivial ?_
      refine AW.iff false (by simp) (fun h => by cases h) (fun _ => ?_)
      refine AW.st teOk [] (by simp [-Option.some.injEq] <;> rfl) trivial ?_
      refine AW.iff false (by simp) (fun h => by cases h) (fun _ => ?_)
      refine AW.st teOk [] (by simp [-Option.some.injEq] <;> rfl) trivial ?_
      refine AW.iff true (by simp) (fun _ => ?_) (fun h => by cases h)
      have hi2 := index_pure at' F.length
      obtain ⟨z, hz⟩ : ∃ z, z = indexI at' F.length := ⟨_, rfl⟩
      rw [← hz] at hi2
      refine AW.text teOk (ans := [.fz (.c (cI z))]) (by simp [-Option.some.injEq] <;> rfl) ?_ ?_
      · exact ⟨hi2, by simp [growOk]; omega⟩
      have hm : O.map enci ++ [[cI z]] = (O ++ [z]).map enci := by simp
      exact ⟨_, (Weak.freeze 16 ⟨1, O.map enci ++ [[cI z]]⟩ [] _ (by simp) (by rw [hm]; exact flat_enci _)).trans (Weak.normT hA [13, 15] [] [] 0 _ (by simp) (by simp) (by simp)), O ++ [z], by simp; omega, by simp; exact List.take_of_length_le (by simp)⟩
    · refine AW.st teOk [.fz (.c (cI 4))] (by simp [-Option.some.injEq] <;> rfl) ?_ ?_
      · exact c2
      refine AW.block ?_
      refine AW.st teOk [] (by simp [-Option.some.injEq] <;> rfl) trivial ?_
      refine AW.iff false (by simp) (fun h => by cases h) (fun _ => ?_)
      refine AW.st teOk [] (by simp [-Option.some.injEq] <;> rfl) trivial ?_
      refine AW.iff false (by simp) (fun h => by cases h) (fun _ => ?_)
      refine AW.st teOk [] (by simp [-Option.some.injEq] <;> rfl) trivial ?_
      refine AW.iff false (by simp) (fun h => by cases h) (fun _ => ?_)
      refine AW.st teOk [] (by simp [-Option.some.injEq] <;> rfl) trivial ?_
      refine AW.iff false (by simp) (fun h => by cases h) (fun _ => ?_)
      refine AW.st teOk [] (by simp [-Option.some.injEq] <;> rfl) trivial ?_
      refine AW.iff true (by simp) (fun _ => ?_) (fun h => by cases h)
      refine AW.text teOk (ans := []) (by simp [-Option.some.injEq] <;> rfl) ?_ ?_
      · trivial
      exact ⟨_, Weak.normT hA [13, 15] [] [] 0 _ (by simp) (by simp) (by simp), raw, by omega, by simp⟩
    · refine AW.st teOk [.fz (.c (cI 5))] (by simp [-Option.some.injEq] <;> rfl) ?_ ?_
      · exact c2
      refine AW.block ?_
      refine AW.st teOk [] (by simp [-Option.some.injEq] <;> rfl) trivial ?_
      refine AW.iff false (by simp) (fun h => by cases h) (fun _ => ?_)
      refine AW.st teOk [] (by simp [-Option.some.injEq] <;> rfl) trivial ?_
      refine AW.iff false (by simp) (fun h => by cases h) (fun _ => ?_)
      refine AW.st teOk [] (by simp [-Option.some.injEq] <;> rfl) trivial ?_
      refine AW.iff false (by simp) (fun h => by cases h) (fun _ => ?_)
      refine AW.st teOk [] (by simp [-Option.some.injEq] <;> rfl) trivial ?_
      refine AW.iff false (by simp) (fun h => by cases h) (fun _ => ?_)
      refine AW.st teOk [] (by simp [-Option.some.injEq] <;> rfl) trivial ?_
      refine AW.iff false (by simp) (fun h => by cases h) (fun _ => ?_)
      refine AW.st teOk [] (by simp [-Option.some.injEq] <;> rfl) trivial ?_
      refine AW.iff true (by simp) (fun _ => ?_) (fun h => by cases h)
      refine AW.text teOk (ans := [.fz (.c (encis (orderS F order)))]) (by simp [-Option.some.injEq] <;> rfl) ?_ ?_
      · exact order_pure F order (by omega) ho
      exact ⟨_, Weak.normT hA [13, 15] [] [] 0 _ (by simp) (by simp) (by simp), orderS F order, by have := orderS_len F order; omega, by simp⟩
    · refine AW.st teOk [.fz (.c (cI 6))] (by simp [-Option.some.injEq] <;> rfl) ?_ ?_
      · exact c2
      refine AW.block ?_
      refine AW.st teOk [] (by simp [-Option.some.injEq] <;> rfl) trivial ?_
      refine AW.iff false (by simp) (fun h => by cases h) (fun _ => ?_)
      refine AW.st teOk [] (by simp [-Option.some.injEq] <;> rfl) trivial ?_
      refine AW.iff false (by simp) (fun h => by cases h) (fun _ => ?_)
      refine AW.st teOk [] (by simp [-Option.some.injEq] <;> rfl) trivial ?_
      refine AW.iff false (by simp) (fun h => by cases h) (fun _ => ?_)
      refine AW.st teOk [] (by simp [-Option.some.injEq] <;> rfl) trivial ?_
      refine AW.iff false (by simp) (fun h => by cases h) (fun _ => ?_)
      refine AW.st teOk [] (by simp [-Option.some.injEq] <;> rfl) trivial ?_
      refine AW.iff false (by simp) (fun h => by cases h) (fun _ => ?_)
      refine AW.st teOk [] (by simp [-Option.some.injEq] <;> rfl) trivial ?_
      refine AW.iff false (by simp) (fun h => by cases h) (fun _ => AW.skip ?_)
      exact ⟨_, (Weak.freeze 0 ⟨1, O.map enci⟩ [] _ (by simp) (flat_enci _)).trans (Weak.normT hA [13, 15] [] [] 0 _ (by simp) (by simp) (by simp)), O, by omega, by simp⟩
    · refine AW.st teOk [.fz (.c (cI 7))] (by simp [-Option.some.injEq] <;> rfl) ?_ ?_
      · exact c2
      refine AW.block ?_
      refine AW.st teOk [] (by simp [-Option.some.injEq] <;> rfl) trivial ?_
      refine AW.iff false (by simp) (fun h => by cases h) (fun _ => ?_)
      refine AW.st teOk [] (by simp [-Option.some.injEq] <;> rfl) trivial ?_
      refine AW.iff false (by simp) (fun h => by cases h) (fun _ => ?_)
      refine AW.st teOk [] (by simp [-Option.some.injEq] <;> rfl) trivial ?_
      refine AW.iff false (by simp) (fun h => by cases h) (fun _ => ?_)
      refine AW.st teOk [] (by simp [-Option.some.injEq] <;> rfl) trivial ?_
      refine AW.iff false (by simp) (fun h => by cases h) (fun _ => ?_)
      refine AW.st teOk [] (by simp [-Option.some.injEq] <;> rfl) trivial ?_
      refine AW.iff false (by simp) (fun h => by cases h) (fun _ => ?_)
      refine AW.st teOk [] (by simp [-Option.some.injEq] <;> rfl) trivial ?_
      refine AW.iff false (by simp) (fun h => by cases h) (fun _ => AW.skip ?_)
      exact ⟨_, (Weak.freeze 0 ⟨1, O.map enci⟩ [] _ (by simp) (flat_enci _)).trans (Weak.normT hA [13, 15] [] [] 0 _ (by simp) (by simp) (by simp)), O, by omega, by simp⟩
  rintro s ⟨L, hL, rfl⟩
  have h1 := replay_pure F L (by omega) (by omega) hFE
  have h2 := rreplay_pure F L (by omega) (by omega) hFE hFK
  generalize replayS F L = r at *
  have hrr : (r == r) = true := by simp
  refine AW.dr mixed teOk [.c (cI r), .c (cI r), .c (cB true)] (by simp [hrr, -Option.some.injEq] <;> rfl) (by kernel_rfl) (by kernel_rfl) ?_ ?_
  · simp [allP]
    exact ⟨h1, h2, awake39_pure⟩
  exact AW.ret ⟨.inr rfl, _, Weak.refl _, by simp⟩
end Go.Proofs.YtphlhadgcfndhaaGreat.Abs
end
section
namespace Go.Proofs.YtphlhadgcfndhaaGreat.Abs
open Go Go.RowKit
theorem replayL_row (l ch order : List Int) (way at' : Int) (raw : List Int) (hl : l.length < 4000000000000000000) (hc : ch.length < 4000000000000000000) (ho : order.length < 4000000000000000000) {p1 p2 p3 : Prop} (_ : p1) (_ : p2) (_ : p3) : Pure Tryz.prog 3 [.c (.row 1 false (l.map fun n : Int => [.sc (.int .i64 n)])), .c (.row 1 false (ch.map fun n : Int => [.sc (.int .i64 n)])), .c (.row 1 false (order.map fun n : Int => [.sc (.int .i64 n)])), .c (.sc (.int .i64 way)), .c (.sc (.int .i64 at')), .c (.row 1 false (raw.map fun n : Int => [.sc (.int .i64 n)]))] (.c (.sc (.bool true))) :=
  replayL_pure l ch order way at' raw hl hc ho
end Go.Proofs.YtphlhadgcfndhaaGreat.Abs
end
