/- Joined for the claim: WNsn WNax WNlg WNay WBase WNll -/
import Derived.Test.YtphlhadgcfndhaaJd10
import Derived.Test.YtphlhadgcfndhaaJd12
import Derived.Test.YtphlhadgcfndhaaAbsS
section
namespace Go.Proofs.Ytphlhadgcfndhaa.Abs
open Go Go.RowKit
set_option linter.unusedVariables false
set_option linter.unusedSimpArgs false
set_option maxHeartbeats 4000000
set_option maxRecDepth 4000
theorem new_ofK {P : Program} {T : TyEnv} (hT : TOk P T) {f : FuncId} {fn : Func} {c : Code} (hf : P.funcs[f]? = some fn) (hname : (fn.name == "runtime.NumGoroutine") = false) (hb : fn.body = some c) {N : Nat} (hN : fn.ntmps = N) {rs : List ResultVar} (hrs : fn.results.toList = rs) {xs : List AVal} {res : AVal} {σ' : Sig} {m' : Nat} (hlen : xs.length ≤ N)
    (h : ∀ A w0, A.lim = 0 → AWK P w0.heap.size A w0 N c ⟨entry 0 xs, [], 0⟩ [] fun e s κ => (e = .normal ∨ e = .ret) ∧ ∃ s', Weak (A.at κ) s s' ∧ resL T s' rs = some res ∧ s'.σ = σ' ∧ s'.fr = m') : New P f xs res σ' m' := by
  subst hN hrs
  refine ⟨⟨fn, hf, hname, by rw [hb]; rfl⟩, fun w A vs hA hr => calls_of_wp hf hb ?_⟩
  refine wp_mono (h (oldOf A) w rfl noB _ w (init_inv hA hr hlen)) fun e a' w' ⟨s', κ', β', ⟨he, s'', hw, hres, hσ, hm⟩, I'⟩ => ?_
  obtain ⟨β'', I''⟩ := hw _ _ _ _ _ _ I'
  obtain ⟨v, h1, h2⟩ := resultsL_sound hT I'' hres
  have fin : a'.defers = [] ∧ ∃ v, (results fn a'.tmps).run P w' = .ok v w' ∧ ∃ v' β', Ending.returned v = .returned v' ∧ Inv w.heap.size A w β' σ' w' ∧ (∀ id, m' ≤ id → β' id = .no) ∧ RepV w' (okOf w.heap.size A w' β') β' res v' :=
    ⟨I''.defers, v, h1, v, β'', rfl, by rw [← hσ]; exact I''.inv, by rw [← hm]; exact I''.fresh, h2⟩
  rcases he with rfl | rfl
  · exact fin
  · exact fin
def searchA (R : List Int × Int) : AVal := if R.2 = 0 then .tup [.c (.ref 0 0 R.1.length), .c (cI 0)] else .tup [.c (.sc (.slice none 0 0)), .c (cI R.2)]
def searchG (R : List Int × Int) : Sig := if R.2 = 0 then [(0, ⟨1, R.1.map enci⟩)] else []
theorem search_new (ops : List OpS) (hE : EfOk ops) (hn : ops.length < 1000000) : New Try.prog 12 [.agg (encHi ops)] (searchA (searchS ops)) (searchG (searchS ops)) 1 := by
  refine new_ofK teOkM Try.func12 (by kernel_rfl) (c := _) rfl (N := 30) rfl (rs := [Go.ResultVar.tmp 2, Go.ResultVar.tmp 3]) rfl (by simp) fun A w0 hA => ?_
  have hk : ∀ κ, (A.at κ).lim = 0 := fun _ => hA
  have hwn := wrap_s ops.length (by omega)
  refine AWK.st teOkM [] (by simp [-Option.some.injEq] <;> rfl) trivial ?_
  refine AWK.to (s2 := ⟨[(1, .c (.fad (encHi ops))), (2, .c (.sc (.slice none 0 0))), (3, .c (cI 0))], [], 0⟩) ((Weak.freeze 0 ⟨1, [encHi ops]⟩ [] _ (by simp) rfl).trans (Weak.normT (hk _) [1, 2, 3] [] [] 0 _ (by simp) (by simp) (by simp [mapAt_nil]))) (by simp [mapAt_nil]) ?_
  refine AWK.seq ?_
  refine AWK.st teOkM [] (by simp [-Option.some.injEq] <;> rfl) trivial ?_
  refine AWK.iff (decide (10 < ops.length)) (by simp; omega) (fun hb => ?_) (fun hb => AWK.skip ?_)
  · rw [decide_eq_true_eq] at hb
    refine AWK.st teOkM [] (by simp [-Option.some.injEq] <;> rfl) trivial ?_
    have hR : searchS ops = ([], 3) := by unfold searchS; rw [if_pos hb]
    rw [hR]
    refine AWK.ret ⟨.inr rfl, _, Weak.normT (hk _) [2, 3] [] [] 1 _ (by simp) (by simp) (by simp), by simp [searchA], by simp [searchG], rfl⟩
  rw [decide_eq_false_iff_not] at hb
  have hn10 : ops.length ≤ 10 := by omega
  have hs : searchS ops = match searchL ops (List.range (ops.length + 1)) with
    | some l => (l, 0)
    | none => ([], 6) := by
    unfold searchS
    rw [if_neg hb]
    cases searchL ops (List.range (ops.length + 1)) <;> rfl
  generalize searchS ops = R at hs ⊢
  refine AWK.seq ?_
  refine AWK.st teOkM [] (by simp [hwn, -Option.some.injEq] <;> rfl) trivial ?_
  refine AWK.block (AWK.loop (fun m s κ => ∃ sp : Nat, m = ops.length + 1 - sp ∧ sp ≤ ops.length + 1 ∧ κ = [] ∧ searchL ops (List.range (ops.length + 1)) = searchL ops ((List.range (ops.length + 1)).drop sp) ∧ s = ⟨[(1, .c (.fad (encHi ops))), (2, .c (.sc (.slice none 0 0))), (3, .c (cI 0)), (13, .c (cI (ops.length + 1))), (14, .c (cI sp))], [], 0⟩) _ (Weak.normT (hk _) [1, 2, 3, 13, 14] [] [] 0 _ (by simp) (by simp) (by simp)) ⟨0, rfl, Nat.zero_le _, rfl, rfl, by simp⟩ ?_)
  rintro m s κ ⟨sp, rfl, hsp, rfl, hrun, rfl⟩
  refine AWK.st teOkM [] (by simp [-Option.some.injEq] <;> rfl) trivial ?_
  refine AWK.seq ?_
  refine AWK.iff (decide (sp < ops.length + 1)) (by simp; omega) (fun h => AWK.skip ?_) (fun h => AWK.exit (k_then (k_then (blockK_exit ?_))))
  · rw [decide_eq_true_eq] at h
    have hdr : (List.range (ops.length + 1)).drop sp = sp :: (List.range (ops.length + 1)).drop (sp + 1) := by
      rw [List.drop_eq_getElem_cons (by simpa using h), List.getElem_range]
    rw [hdr, searchL] at hrun
    refine AWK.seq (AWK.block ?_)
    refine AWK.st teOkM [] (by simp [-Option.some.injEq] <;> rfl) trivial ?_
    refine AWK.seq (AWK.region (RK.pre teOkM 2 [] (by decide) (by simp [-Option.some.injEq] <;> rfl) trivial ?_))
    refine RK.make rfl rfl rfl rfl (by decide) fun M => ?_
    refine RK.pre teOkM 3 [] (by decide) (by simp [-Option.some.injEq] <;> rfl) trivial (RK.done (by decide) ?_)
    show AWK _ _ _ _ _ _ _ [(M, mapA [])] _
    refine AWK.to (s2 := ⟨[(1, .c (.fad (encHi ops))), (2, .c (.sc (.slice none 0 0))), (3, .c (cI 0)), (5, .c (.ptr 0 0 0)), (13, .c (cI (ops.length + 1))), (14, .c (cI sp))], [(0, sS ops sp M 1 0), (1, ⟨1, []⟩)], 2⟩) ((Weak.nilO 6 2 1 (q := 4) (cs := [encOps ops, cI sp, .sc (.slice none 0 0), .sc (.map (some M))]) _ (by simp) rfl (by simp)).trans (Weak.normS (hk _) [1, 2, 3, 5, 13, 14] [(5, 0)] [(8, 1)] [6] 2 _ (by simp) (by simp) (by simp))) (by simp) ?_
    have hw0 := waitN_le ops x0
    obtain ⟨r, hr⟩ : ∃ r, r = runF ops 11 x0 [] sp [] [] := ⟨_, rfl⟩
    have hC := run_con ops hn10 hE M 11 x0 [] sp [] [] 0 (by omega) x0_key (fun y hy => by cases hy) VOk.nil (by omega) (by simp; omega) (by omega)
    rw [← hr] at hC hrun
    have hC := RunC.nil hC
    refine AWK.seq (AWK.region (RK.pre teOkM 1 [] (by decide) (by simp [-Option.some.injEq] <;> rfl) trivial ?_))
    refine RK.buildA rfl rfl rfl rfl (by decide) (teOk 70 ti70 rfl) Try.underlying70 (teOk 5 ti5 rfl) rfl ?_
    refine RK.run (T := TEm) (j := 1) (Nat.le_refl _) rfl rfl rfl (by decide) rfl (by simp [-Option.some.injEq] <;> rfl) rfl rfl (by decide) (by show 1 < 3; decide) rfl rfl rfl (flat_enci _) (flat_enci _) hC (RK.done (by decide) ?_)
    cases hrk : r.ok with
    | true =>
      rw [hrk, if_pos rfl] at hrun
      have hR : R = (r.l, 0) := by rw [hs, hrun]
      rw [hR]
      refine AWK.iff true (by simp [hrk]) (fun _ => ?_) (fun h => by cases h)
      refine AWK.st teOkM [] (by simp [-Option.some.injEq] <;> rfl) trivial ?_
      refine AWK.ret ⟨.inr rfl, _, Weak.normS (hk _) [2, 3] [(2, 0)] [] [] 1 _ (by simp) (by simp) (by simp), by simp [searchA], by simp [searchG], rfl⟩
    | false =>
      rw [hrk, if_neg (by simp)] at hrun
      refine AWK.iff false (by simp [hrk]) (fun h => by cases h) (fun _ => AWK.skip ?_)
      refine AWK.text teOkM (ans := []) (by simp [-Option.some.injEq] <;> rfl) ?_ ?_
      · trivial
      refine ⟨_, _, Weak.normT (hk _) [1, 2, 3, 13, 14] [] [] 0 _ (by simp) (by simp) (by simp), ?_, sp + 1, rfl, by omega, rfl, hrun, ?_⟩
      · omega
      · simp
        exact wrap_s sp (by omega)
  · rw [decide_eq_false_iff_not] at h
    have hR : R = ([], 6) := by
      rw [hs, hrun, List.drop_eq_nil_of_le (by simp; omega)]
      rfl
    rw [hR]
    refine AWK.st teOkM [] (by simp [-Option.some.injEq] <;> rfl) trivial ?_
    refine AWK.ret ⟨.inr rfl, _, Weak.normT (hk _) [2, 3] [] [] 1 _ (by simp) (by simp) (by simp), by simp [searchA], by simp [searchG], rfl⟩
end Go.Proofs.Ytphlhadgcfndhaa.Abs
end
section
namespace Go.Proofs.Ytphlhadgcfndhaa.Abs
open Go Go.RowKit
set_option linter.unusedVariables false
set_option linter.unusedSimpArgs false
set_option maxHeartbeats 4000000
set_option maxRecDepth 100000
theorem loopF_skip {f : List Int → List HV → Nat → List Int → List (List Int) → RS} {ops : List OpS} {x : List Int} {vs : List HV} {i : Nat} {is : List Nat} {sp : Nat} {l : List Int} {ks : List (List Int)} {o : OpS} (ho : ops[i]? = some o) (hm : (mayB ops x sp i && okV vs o) = false) : loopF f ops x vs (i :: is) sp l ks = loopF f ops x vs is sp l ks := by
  rw [loopF, ho]
  simp only
  rw [if_neg (by rw [hm]; simp)]
theorem loopF_hit {f : List Int → List HV → Nat → List Int → List (List Int) → RS} {ops : List OpS} {x : List Int} {vs : List HV} {i : Nat} {is : List Nat} {sp : Nat} {l : List Int} {ks : List (List Int)} {o : OpS} {r : RS} (ho : ops[i]? = some o) (hm : (mayB ops x sp i && okV vs o) = true) (hr : f (afterB ops x i) (stepV vs o) (sp - costB o) (l ++ [(i : Int)]) ks = r) (hok : r.ok = true) : loopF f ops x vs (i :: is) sp l ks = r := by
  rw [loopF, ho]
  simp only
  rw [if_pos hm, hr, if_pos hok]
theorem runF_go {ops : List OpS} {n : Nat} {x : List Int} {vs : List HV} {sp : Nat} {l : List Int} {ks : List (List Int)} (h1 : complB ops x = false) (h2 : x ∉ ks) : runF ops (n + 1) x vs sp l ks = loopF (runF ops n) ops x vs (List.range ops.length) sp l ks := by
  rw [runF, if_neg (by rw [h1]; simp), if_neg h2]
def strA : Str := ⟨#[97]⟩
def strC : Str := ⟨#[99]⟩
def eA (n : Int) : EfS := ⟨3, strA, strC, n, ⟨#[]⟩⟩
def vA : HV := { o := strA, f := strC, set := false, n := 0, s := ⟨#[]⟩, hm := false, mx := 0, sum := 2, el := [], fl := false }
def opsA (r : List HV) : List OpS := [⟨101, 1, [eA 2], [], 1, 2⟩, ⟨102, 2, [], r, 3, 4⟩]
theorem sameA : sameL [vA] [vA] = true := by simp [sameL, sameB]
theorem okA : okV [vA] ⟨102, 2, [], [vA], 3, 4⟩ = true := by simp [okV, sameA]
theorem runA3 : runF (opsA [vA]) 9 [1, 1, 0, 0, 0, 0, 0, 0, 0, 0] [vA] 0 [0, 1] [] = ⟨true, 0, [0, 1], []⟩ := by rfl
theorem runA2 : runF (opsA [vA]) 10 [1, 0, 0, 0, 0, 0, 0, 0, 0, 0] [vA] 0 [0] [] = ⟨true, 0, [0, 1], []⟩ := by
  rw [runF_go (by rfl) (by simp)]
  show loopF _ _ _ _ [0, 1] _ _ _ = _
  rw [loopF_skip (o := ⟨101, 1, [eA 2], [], 1, 2⟩) rfl (by rfl)]
  exact loopF_hit (o := ⟨102, 2, [], [vA], 3, 4⟩) rfl (by rw [okA]; rfl) runA3 rfl
theorem runA1 : runF (opsA [vA]) 11 x0 [] 0 [] [] = ⟨true, 0, [0, 1], []⟩ := by
  rw [runF_go (by rfl) (by simp)]
  show loopF _ _ _ _ [0, 1] _ _ _ = _
  exact loopF_hit (o := ⟨101, 1, [eA 2], [], 1, 2⟩) rfl (by rfl) runA2 rfl
theorem searchA1 : searchS (opsA [vA]) = ([0, 1], 0) := by
  have h : searchL (opsA [vA]) (List.range 3) = some [0, 1] := by
    show searchL (opsA [vA]) [0, 1, 2] = _
    rw [searchL, runA1]
    rfl
  unfold searchS
  rw [if_neg (by decide)]
  have h' : searchL (opsA [vA]) (List.range ((opsA [vA]).length + 1)) = some [0, 1] := h
  rw [h']
theorem searchA2 : searchS (opsA []) = ([], 6) := by decide
theorem chkA01 : replayS (opsA []) [0, 1] = 17 := by decide
theorem chkA10 : replayS (opsA []) [1, 0] = 7 := by decide
theorem chkA1 : replayS (opsA []) [1] = 6 := by decide
end Go.Proofs.Ytphlhadgcfndhaa.Abs
end
section
namespace Go.Proofs.Ytphlhadgcfndhaa.Abs
open Go Go.RowKit
set_option linter.unusedVariables false
set_option linter.unusedSimpArgs false
set_option maxHeartbeats 4000000
set_option maxRecDepth 100000
def opL (i : Nat) : OpS := ⟨101 + (i : Int) % 6, 1, [eA (i + 1)], [], 2 * i + 1, 2 * i + 2⟩
def histL (n : Nat) : List OpS := (List.range n).map opL
def xk (k : Nat) : List Int := List.replicate k 1 ++ List.replicate (10 - k) 0
theorem histL_at {n i : Nat} (h : i < n) : (histL n)[i]? = some (opL i) := by simp [histL, h]
theorem loopF_skips {f : List Int → List HV → Nat → List Int → List (List Int) → RS} {ops : List OpS} {x : List Int} {vs : List HV} {sp : Nat} {l : List Int} {ks : List (List Int)} {rest : List Nat} : ∀ (pre : List Nat), (∀ i ∈ pre, ∃ o, ops[i]? = some o ∧ mayB ops x sp i = false) → loopF f ops x vs (pre ++ rest) sp l ks = loopF f ops x vs rest sp l ks
  | [], _ => rfl
  | i :: pre, h => by
    obtain ⟨o, ho, hm⟩ := h i (by simp)
    rw [List.cons_append, loopF_skip ho (by rw [hm]; rfl)]
    exact loopF_skips pre fun j hj => h j (by simp [hj])
def factL (n : Nat) : Bool := (List.range (n + 1)).all fun k => complB (histL n) (xk k) == decide (k = n) && ((List.range k).all fun i => !mayB (histL n) (xk k) 0 i) && (decide (k = n) || (mayB (histL n) (xk k) 0 k && afterB (histL n) (xk k) k == xk (k + 1)))
theorem factL_8 : factL 8 = true := by decide +kernel
theorem factL_9 : factL 9 = true := by decide +kernel
theorem factL_10 : factL 10 = true := by decide +kernel
theorem factL_at {n : Nat} (h : factL n = true) {k : Nat} (hk : k ≤ n) : complB (histL n) (xk k) = decide (k = n) ∧ (∀ i, i < k → mayB (histL n) (xk k) 0 i = false) ∧ (k < n → mayB (histL n) (xk k) 0 k = true ∧ afterB (histL n) (xk k) k = xk (k + 1)) := by
  unfold factL at h
  rw [List.all_eq_true] at h
  have := h k (List.mem_range.2 (by omega))
  simp only [Bool.and_eq_true, beq_iff_eq, List.all_eq_true, Bool.not_eq_true', Bool.or_eq_true, decide_eq_true_eq] at this
  refine ⟨this.1.1, fun i hi => this.1.2 i (List.mem_range.2 hi), fun hlt => ?_⟩
  rcases this.2 with h | h
  · omega
  · exact h
abbrev rngI (n : Nat) : List Int := (List.range n).map fun i : Nat => (i : Int)
theorem runL {n : Nat} (h : factL n = true) : ∀ (m t k : Nat) (vs : List HV), k + m = n → runF (histL n) (m + 1 + t) (xk k) vs 0 (rngI k) [] = ⟨true, 0, rngI n, []⟩
  | 0, t, k, vs, hk => by
    have hkn : k = n := by omega
    subst hkn
    rw [show 0 + 1 + t = t + 1 by omega, runF, if_pos (by rw [(factL_at h (Nat.le_refl _)).1]; simp)]
  | m + 1, t, k, vs, hk => by
    obtain ⟨h1, h2, h3⟩ := factL_at h (k := k) (by omega)
    obtain ⟨h3, h4⟩ := h3 (by omega)
    have hlen : (histL n).length = n := by simp [histL]
    rw [show m + 1 + 1 + t = (m + 1 + t) + 1 by omega, runF_go (by rw [h1]; simp; omega) (by simp), hlen]
    have hsp : List.range n = (List.range n).take k ++ (k :: (List.range n).drop (k + 1)) := by
      have := List.take_append_drop k (List.range n)
      rw [List.drop_eq_getElem_cons (by simp; omega), List.getElem_range] at this
      exact this.symm
    rw [hsp, loopF_skips _ (fun i hi => by
      rw [List.take_range] at hi
      have := List.mem_range.1 hi
      exact ⟨_, histL_at (by omega), h2 i (by omega)⟩)]
    have hok : okV vs (opL k) = true := by simp [okV, opL]
    refine loopF_hit (histL_at (by omega)) (by rw [h3, hok]; rfl) ?_ rfl
    rw [h4, show (0 : Nat) - costB (opL k) = 0 by simp, show rngI k ++ [(k : Int)] = rngI (k + 1) by simp [rngI, List.range_succ]]
    exact runL h m t (k + 1) _ (by omega)
theorem searchLong {n : Nat} (h8 : 8 ≤ n) (h13 : n ≤ 13) : searchS (histL n) = if 10 < n then ([], 3) else (rngI n, 0) := by
  have hlen : (histL n).length = n := by simp [histL]
  unfold searchS
  rw [hlen]
  by_cases hn : 10 < n
  · rw [if_pos hn, if_pos hn]
  · rw [if_neg hn, if_neg hn]
    have hf : factL n = true := by
      have : n = 8 ∨ n = 9 ∨ n = 10 := by omega
      rcases this with rfl | rfl | rfl
      · exact factL_8
      · exact factL_9
      · exact factL_10
    have hr := runL hf n (10 - n) 0 [] (by omega)
    rw [show n + 1 + (10 - n) = 11 by omega] at hr
    have hx : xk 0 = x0 := rfl
    rw [hx] at hr
    have hS : searchL (histL n) (List.range (n + 1)) = some (rngI n) := by
      rw [List.range_succ_eq_map, searchL]
      have hr : runF (histL n) 11 x0 [] 0 [] [] = ⟨true, 0, rngI n, []⟩ := hr
      rw [hr]
      rfl
    rw [hS]
end Go.Proofs.Ytphlhadgcfndhaa.Abs
end
section
namespace Go.Proofs.Ytphlhadgcfndhaa.Abs
open Go Go.RowKit
set_option linter.unusedVariables false
set_option linter.unusedSimpArgs false
set_option maxHeartbeats 4000000
set_option maxRecDepth 8000
theorem add_pure (p n c r : Int) : Pure Try.prog 11 [.c (cI p), .c (cI n), .c (cI c), .c (cI r)] (.agg [cI p, cI 1, .row 5 true [encE' ⟨3, strA, strC, n, ⟨#[]⟩⟩], .sc (.slice none 0 0), cI c, cI r]) := by
  refine pure_of teOk Try.func11 (by kernel_rfl) (c := _) rfl (N := 16) rfl (rs := [Go.ResultVar.cell 8 32]) rfl (by simp) fun base A w0 hA => ?_
  refine AW.st teOk [] (by simp [-Option.some.injEq] <;> rfl) trivial ?_
  refine AW.st teOk [] (by simp [-Option.some.injEq] <;> rfl) trivial ?_
  refine AW.ret ⟨.inr rfl, _, Weak.refl _, rfl⟩
theorem LeC.row1 {k : Nat} {t : Bool} {e e' : List Cell} (h : LeCs e e') : LeC (.row k t [e]) (.row k false [e']) := .row rfl (fun i a a' ha ha' => by
    match i, ha, ha' with
    | 0, ha, ha' => cases ha; cases ha'; exact h.get.1
    | i + 1, ha, _ => simp at ha) (fun i a a' ha ha' j c c' hc hc' => by
    match i, ha, ha' with
    | 0, ha, ha' => cases ha; cases ha'; exact h.get.2 j c c' hc hc'
    | i + 1, ha, _ => simp at ha)
theorem efA (r : List HV) : EfOk (opsA r) := fun o ho => by
  simp only [opsA, List.mem_cons, List.not_mem_nil, or_false] at ho
  rcases ho with rfl | rfl <;> simp
theorem newA : New Try.prog 12 [.agg (encHi (opsA [vA]))] (.tup [.c (.ref 0 0 2), .c (cI 0)]) [(0, ⟨1, [[cI 0], [cI 1]]⟩)] 1 := by
  have h := search_new (opsA [vA]) (efA _) (by simp [opsA])
  rw [searchA1] at h
  exact h
theorem newA2 : New Try.prog 12 [.agg (encHi (opsA []))] (.tup [.c (.sc (.slice none 0 0)), .c (cI 6)]) [] 1 := by
  have h := search_new (opsA []) (efA _) (by simp [opsA])
  rw [searchA2] at h
  exact h
theorem awake39_pure : Pure Try.prog 5 [] (.c (cB true)) := by
  refine pure_of teOk Try.func5 (by kernel_rfl) (c := _) rfl (N := 86) rfl (rs := [Go.ResultVar.tmp 0]) rfl (by simp) fun base A w0 hA => ?_
  refine AW.st teOk [] (by simp [-Option.some.injEq] <;> rfl) trivial ?_
  refine AW.st teOk [] (by simp [-Option.some.injEq] <;> rfl) trivial ?_
  refine AW.seq (AW.regionA (RA.pre teOk 3 [.fz (.agg [cI 101, cI 1, .row 5 true [encE' (eA 2)], .sc (.slice none 0 0), cI 1, cI 2])] (by decide) (by simp [-Option.some.injEq] <;> rfl) ?_ ?_))
  · exact add_pure 101 2 1 2
  refine RA.lit (tie := ti32) rfl rfl rfl rfl (by decide) Try.underlying36 (teOk 32 ti32 rfl) (by simp [-Option.some.injEq] <;> rfl) (by simp) (by simp) ?_
  refine RA.weak (s' := ⟨[(14, .c (.ref 0 0 2))], [(0, ⟨6, (opsA [vA]).map encOp⟩)], 1⟩) ((Weak.normS hA [14] [(14, 0)] [] [] 1 _ (by simp) (by simp) (by simp; rfl)).trans (Weak.leO 0 _ (o := ⟨6, [[cI 101, cI 1, .row 5 true [encE' (eA 2)], .sc (.slice none 0 0), cI 1, cI 2], [cI 102, cI 2, .sc (.slice none 0 0), .row 10 true [[cS strA, cS strC, cB false, cI 0, cS ⟨#[]⟩, cB false, cI 0, cI 2, .sc (.slice none 0 0), cB false]], cI 3, cI 4]]⟩) (o' := ⟨6, (opsA [vA]).map encOp⟩) (by simp; exact ⟨rfl, rfl⟩) rfl rfl (fun i e e' he he' => by
    match i, he, he' with
    | 0, he, he' =>
      cases he
      cases he'
      exact .cons (.refl _) (.cons (.refl _) (.cons (LeC.loose 5 true _) (.cons (.nil 10) (.cons (.refl _) (.cons (.refl _) .nil)))))
    | 1, he, he' =>
      cases he
      cases he'
      exact .cons (.refl _) (.cons (.refl _) (.cons (.nil 5) (.cons (LeC.row1 (.cons (.refl _) (.cons (.refl _) (.cons (.refl _) (.cons (.refl _) (.cons (.refl _) (.cons (.refl _) (.cons (.refl _) (.cons (.refl _) (.cons (.nil 1) (.cons (.refl _) .nil))))))))))) (.cons (.refl _) (.cons (.refl _) .nil)))))
    | i + 2, he, _ => simp at he))) (by simp) ?_
  refine RA.pre teOk 3 [] (by decide) (by simp [-Option.some.injEq] <;> rfl) trivial (RA.done (by decide) ?_)
  refine AW.st teOk [.sem (.tup [.c (.ref 5 0 2), .c (cI 0)]) [(5, ⟨1, [[cI 0], [cI 1]]⟩), (2, ⟨1, [[.ref 0 0 2]]⟩), (0, ⟨6, (opsA [vA]).map encOp⟩)] 6] (by simp [-Option.some.injEq] <;> rfl) ?_ ?_
  · exact SemC.newD (r := .tup [.c (.ref 0 0 2), .c (cI 0)]) (σ' := [(0, ⟨1, [[cI 0], [cI 1]]⟩)]) (m' := 1) newA rfl rfl
  refine AW.st teOk [] (by simp [opsA, -Option.some.injEq] <;> rfl) ?_ ?_
  · simp
  refine AW.to (s2 := ⟨[(2, .c (.ptr 1 0 0)), (3, .c (.ref 2 0 2)), (4, .c (cI 0))], [(0, ⟨6, (opsA []).map encOp⟩), (1, ⟨1, [[.ref 0 0 2]]⟩), (2, ⟨1, [[cI 0], [cI 1]]⟩)], 3⟩) ((Weak.normS hA [2, 3, 4] [(2, 1), (3, 2)] [(0, 0)] [2] 3 _ (by simp) (by simp) (by simp; exact ⟨rfl, rfl⟩)).trans (Weak.leO 0 _ (o := ⟨6, [encOp ⟨101, 1, [eA 2], [], 1, 2⟩, [cI 102, cI 2, .row 5 false [], .sc (.slice none 0 0), cI 3, cI 4]]⟩) (o' := ⟨6, (opsA []).map encOp⟩) (by simp) rfl rfl (fun i e e' he he' => by
    match i, he, he' with
    | 0, he, he' =>
      cases he
      cases he'
      exact LeCs.refl _
    | 1, he, he' =>
      cases he
      cases he'
      exact .cons (.refl _) (.cons (.refl _) (.cons (.refl _) (.cons (.nil 10) (.cons (.refl _) (.cons (.refl _) .nil)))))
    | i + 2, he, _ => simp at he))) (by simp) ?_
  refine AW.st teOk [.sem (.tup [.c (.sc (.slice none 0 0)), .c (cI 6)]) [(0, ⟨6, (opsA []).map encOp⟩), (1, ⟨1, [[.ref 0 0 2]]⟩), (2, ⟨1, [[cI 0], [cI 1]]⟩)] 5] (by simp [-Option.some.injEq] <;> rfl) ?_ ?_
  · exact SemC.newD (r := .tup [.c (.sc (.slice none 0 0)), .c (cI 6)]) (σ' := []) (m' := 1) newA2 rfl rfl
  refine AW.st teOk [.fz (.tup [.c (.row 1 false [[cI 0]]), .c (cI 0)])] (by simp [opsA, -Option.some.injEq] <;> rfl) ?_ ?_
  · exact Pure.le (wit1_pure (eA 2)) (.cons (.c (LeC.loose 9 true _)) .nil) (.refl _)
  have rp : ∀ l : List Int, l.length < 3 → Pure Try.prog 14 [.agg (encHi (opsA [])), .c (.row 1 true (l.map enci))] (.c (cI (replayS (opsA []) l))) := fun l hl => Pure.le (replay_pure (opsA []) l (by simp [opsA]) (by omega) (efA _)) (.cons (.refl _) (.cons (.c (LeC.loose 1 true _)) .nil)) (.refl _)
  have r1 := rp [0, 1] (by simp)
  have r2 := rp [1, 0] (by simp)
  have r3 := rp [1] (by simp)
  rw [chkA01] at r1
  rw [chkA10] at r2
  rw [chkA1] at r3
  refine AW.st teOk [.rd (.c (cI 17)), .rd (.c (cI 7)), .rd (.c (cI 6))] (by simp [-Option.some.injEq] <;> rfl) ?_ ?_
  · exact ⟨⟨⟨⟨rfl, trivial⟩, trivial, trivial⟩, r1⟩, ⟨⟨⟨rfl, trivial⟩, trivial, trivial⟩, r2⟩, ⟨⟨rfl, trivial⟩, trivial, trivial⟩, r3⟩
  refine AW.ret ⟨.inr rfl, _, Weak.refl _, rfl⟩
end Go.Proofs.Ytphlhadgcfndhaa.Abs
end
section
namespace Go.Proofs.Ytphlhadgcfndhaa.Abs
open Go Go.RowKit
set_option linter.unusedVariables false
set_option linter.unusedSimpArgs false

def indexI (x k : Int) : Int := if k < 1 then 0 else (IntKind.i64.wrap (x.tmod k + k)).tmod k
theorem index_pure (x k : Int) : Pure Try.prog 8 [.c (.sc (.int .i64 x)), .c (.sc (.int .i64 k))] (.c (.sc (.int .i64 (indexI x k)))) := by
  refine pure_of teOk Try.func8 (by kernel_rfl) (c := _) rfl (N := 14) rfl (rs := [Go.ResultVar.tmp 4]) rfl (by simp) fun base A w0 hA => ?_
  refine AW.st teOk [] (by simp [-Option.some.injEq] <;> rfl) trivial ?_
  refine AW.seq ?_
  refine AW.st teOk [] (by simp [-Option.some.injEq] <;> rfl) trivial ?_
  refine AW.iff (decide (k < 1)) (by simp) (fun h => ?_) (fun h => ?_)
  · refine AW.st teOk [] (by simp [-Option.some.injEq] <;> rfl) trivial ?_
    refine AW.ret ⟨.inr rfl, _, Weak.refl _, ?_⟩
    simp
    simp only [decide_eq_true_eq] at h
    rw [indexI, if_pos h]
  · simp only [decide_eq_false_iff_not] at h
    refine AW.skip ?_
    refine AW.st teOk [] (by simp [-Option.some.injEq] <;> rfl) ?_ ?_
    · have : k ≠ 0 := by omega
      simp [this]
    refine AW.ret ⟨.inr rfl, _, Weak.refl _, ?_⟩
    simp
    rw [indexI, if_neg h]
def digX (b x : Int) : Nat → Int
  | 0 => x
  | j + 1 => IntKind.i64.wrap ((digX b x j).tdiv b)
def digitI (x b : Int) (i : Nat) : Int := (digX b (indexI x 1099511627776) i).tmod b
theorem digit_pure (x b : Int) (i : Nat) (hb : b ≠ 0) (hi : i < 1000) : Pure Try.prog 18 [.c (.sc (.int .i64 x)), .c (.sc (.int .i64 b)), .c (.sc (.int .i64 i))] (.c (.sc (.int .i64 (digitI x b i)))) := by
  refine pure_of teOk Try.func18 (by kernel_rfl) (c := _) rfl (N := 22) rfl (rs := [Go.ResultVar.tmp 6]) rfl (by simp) fun base A w0 hA => ?_
  refine AW.st teOk [] (by simp [-Option.some.injEq] <;> rfl) trivial ?_
  refine AW.st teOk [.fz (.c (.sc (.int .i64 (indexI x 1099511627776))))] (by simp [-Option.some.injEq] <;> rfl) ?_ ?_
  · exact index_pure _ _
  refine AW.seq ?_
  refine AW.st teOk [] (by simp [-Option.some.injEq] <;> rfl) trivial ?_
  refine AW.block ?_
  refine AW.loop (fun m s => ∃ j : Nat, j ≤ i ∧ m = i - j ∧ s = ⟨[(0, .c (.sc (.int .i64 x))), (1, .c (.sc (.int .i64 b))), (2, .c (.sc (.int .i64 i))), (7, .c (.sc (.int .i64 (digX b (indexI x 1099511627776) j)))), (8, .c (.sc (.int .i64 j)))], [], 0⟩) i (Weak.norm hA [0, 1, 2, 7, 8] [] [] 0 _ rfl (by simp) (by simp)) ⟨0, Nat.zero_le _, rfl, ?_⟩ ?_
  · simp [digX]
  rintro m s ⟨j, hj, rfl, rfl⟩
  refine AW.seq ?_
  refine AW.st teOk [] (by simp [-Option.some.injEq] <;> rfl) trivial ?_
  refine AW.iff (decide (j < i)) (by simp) (fun h => ?_) (fun h => ?_)
  · simp only [decide_eq_true_eq] at h
    refine AW.skip ?_
    refine AW.seq (AW.block ?_)
    refine AW.text teOk (ans := []) (by simp [-Option.some.injEq]; rfl) (by simp [hb]) ?_
    refine AW.text teOk (ans := []) (by simp [-Option.some.injEq]; rfl) (by simp) ?_
    refine ⟨_, _, Weak.norm hA [0, 1, 2, 7, 8] [] [] 0 _ rfl (by simp) (by simp), ?_, j + 1, h, rfl, ?_⟩
    · omega
    · simp [digX]
      exact wrap_s j (by omega)
  · simp only [decide_eq_false_iff_not] at h
    have hji : j = i := by omega
    subst hji
    refine AW.exit (x_then (x_then (blockA_exit ?_)))
    refine AW.st teOk [] (by simp [-Option.some.injEq] <;> rfl) ?_ ?_
    · simp [hb]
    refine AW.ret ⟨.inr rfl, _, Weak.refl _, ?_⟩
    simp
    rw [digitI]
end Go.Proofs.Ytphlhadgcfndhaa.Abs
end
section
namespace Go.Proofs.Ytphlhadgcfndhaa.Abs
open Go Go.RowKit
set_option linter.unusedVariables false
set_option linter.unusedSimpArgs false
set_option maxHeartbeats 4000000
set_option maxRecDepth 8000
theorem wrap_small {x : Int} (h0 : 0 ≤ x) (h1 : x < 1000000) : IntKind.i64.wrap x = x := by
  rw [IntKind.wrap_i64]; omega
theorem index_lt (x : Int) {k : Int} (hk : 0 < k) (hk2 : k < 4000000000000000000) : 0 ≤ indexI x k ∧ indexI x k < k := by
  unfold indexI
  rw [if_neg (by omega)]
  have h1 := Int.tmod_lt_of_pos x hk
  have h2 := Int.lt_tmod_of_pos x hk
  have hw : IntKind.i64.wrap (x.tmod k + k) = x.tmod k + k := by rw [IntKind.wrap_i64]; omega
  rw [hw]
  exact ⟨Int.tmod_nonneg _ (by omega), Int.tmod_lt_of_pos _ (by omega)⟩
theorem efL (n : Nat) : EfOk (histL n) := fun o ho => by
  obtain ⟨i, _, rfl⟩ := List.mem_map.1 ho
  simp [opL]
abbrev elL (i : Nat) : List Cell := [cI (101 + (i : Int) % 6), cI 1, .row 5 true [encE' (eA (i + 1))], .sc (.slice none 0 0), cI (2 * i + 1), cI (2 * i + 2)]
theorem flatOps (l : List OpS) : flatO ⟨6, l.map encOp⟩ = true := flatO_of fun e he => by
  obtain ⟨o, _, rfl⟩ := List.mem_map.1 he
  rfl
theorem histL_s (i : Nat) : (histL (i + 1)).map encOp = (histL i).map encOp ++ [encOp (opL i)] := by simp [histL, List.range_succ]
theorem leL (i j : Nat) (e e' : List Cell) (he : ((histL i).map encOp ++ [elL i])[j]? = some e) (he' : ((histL (i + 1)).map encOp)[j]? = some e') : LeCs e e' := by
  rw [histL_s] at he'
  by_cases hj : j < ((histL i).map encOp).length
  · rw [List.getElem?_append_left hj] at he he'
    rw [he] at he'
    cases he'
    exact LeCs.refl _
  · rw [List.getElem?_append_right (by omega)] at he he'
    cases hq : j - ((histL i).map encOp).length with
    | zero =>
      rw [hq] at he he'
      cases he
      cases he'
      exact .cons (.refl _) (.cons (.refl _) (.cons (LeC.loose 5 true _) (.cons (.nil 10) (.cons (.refl _) (.cons (.refl _) .nil)))))
    | succ q => rw [hq] at he; simp at he
theorem long_pure (x : Int) (hx : (Lit.int .i64 x).wf = true) : Pure Try.prog 4 [.c (.sc (.int .i64 x))] (.c (cB true)) := by
  refine pure_of teOk Try.func4 (by kernel_rfl) (c := _) rfl (N := 74) rfl (rs := [Go.ResultVar.tmp 2]) rfl (by simp) fun base A w0 hA => ?_
  obtain ⟨k, hk, hk6⟩ : ∃ k : Nat, indexI x 6 = k ∧ k < 6 := by
    obtain ⟨h1, h2⟩ := index_lt x (k := 6) (by omega) (by omega)
    exact ⟨(indexI x 6).toNat, by omega, by omega⟩
  have hix := index_pure x 6
  rw [hk] at hix
  obtain ⟨n, hn⟩ : ∃ n, n = 8 + k := ⟨_, rfl⟩
  have hwn : IntKind.i64.wrap (8 + (k : Int)) = (n : Int) := by rw [wrap_small (by omega) (by omega)]; omega
  refine AW.st teOk [] (by simp [-Option.some.injEq] <;> rfl) trivial ?_
  refine AW.st teOk [.fz (.c (cI k))] (by simp [hwn, -Option.some.injEq] <;> rfl) ?_ ?_
  · exact hix
  refine AW.st teOk [] (by simp [-Option.some.injEq] <;> rfl) trivial ?_
  refine AW.seq ?_
  refine AW.st teOk [] (by simp [-Option.some.injEq] <;> rfl) trivial ?_
  refine AW.to (s2 := ⟨[(0, .c (cI n)), (2, .c (cB false)), (3, .c (.ptr 0 0 0)), (4, .c (cI 0))], [(0, ⟨1, [[.ref 1 0 0]]⟩), (1, ⟨6, []⟩)], 2⟩) ((Weak.nilO 5 0 6 (q := 1) (cs := [.sc (.slice none 0 0)]) _ (by simp) rfl (by simp)).trans (Weak.normS hA [0, 2, 3, 4] [(3, 0)] [(8, 1)] [5] 2 _ (by simp) (by simp) (by simp))) (by simp) ?_
  refine AW.block (AW.loop (fun m s => ∃ i : Nat, m = n - i ∧ i ≤ n ∧ s = ⟨[(0, .c (cI n)), (2, .c (cB false)), (3, .c (.ptr 0 0 0)), (4, .c (cI i))], [(0, ⟨1, [[.ref 1 0 i]]⟩), (1, ⟨6, (histL i).map encOp⟩)], 2⟩) _ (Weak.refl _) ⟨0, rfl, Nat.zero_le _, by simp [histL]⟩ ?_)
  rintro m s ⟨i, rfl, hi, rfl⟩
  refine AW.seq ?_
  refine AW.st teOk [] (by simp [-Option.some.injEq] <;> rfl) trivial ?_
  refine AW.iff (decide (i < n)) (by simp) (fun h => AW.skip ?_) (fun h => AW.exit (x_then (x_then (blockA_exit ?_))))
  · rw [decide_eq_true_eq] at h
    have w1 : IntKind.i64.wrap (2 * (i : Int)) = 2 * i := wrap_small (by omega) (by omega)
    have w2 : IntKind.i64.wrap (2 * (i : Int) + 1) = 2 * i + 1 := wrap_small (by omega) (by omega)
    have w3 : IntKind.i64.wrap (2 * (i : Int) + 2) = 2 * i + 2 := wrap_small (by omega) (by omega)
    have w4 : IntKind.i64.wrap ((i : Int) + 1) = i + 1 := wrap_small (by omega) (by omega)
    have w5 : (i : Int).tmod 6 = i % 6 := Int.tmod_eq_emod_of_nonneg (by omega)
    have w6 : IntKind.i64.wrap (101 + (i : Int) % 6) = 101 + i % 6 := wrap_small (by omega) (by omega)
    have hlen : (histL i).length = i := by simp [histL]
    refine AW.seq (AW.block ?_)
    refine AW.draw mixed teOk (ans := [.agg (elL i)]) (by simp [w1, w2, w3, w4, w5, w6, hlen, -Option.some.injEq] <;> rfl) (by kernel_rfl) (by kernel_rfl) ?_ ?_
    · simp [allP, growOk]
      exact ⟨add_pure _ _ _ _, by omega, by omega⟩
    refine AW.text teOk (ans := []) (by simp [w4, -Option.some.injEq] <;> rfl) ?_ ?_
    · trivial
    refine ⟨_, _, ((Weak.normS hA [0, 2, 3, 4] [(3, 0)] [(19, 1)] [0] 2 _ (by simp) (by simp) (by simp [flatOps])).trans (Weak.leO 1 _ (o := ⟨6, (histL i).map encOp ++ [elL i]⟩) (o' := ⟨6, (histL (i + 1)).map encOp⟩) (by simp) rfl (by simp [histL]) (leL i))).trans (Weak.sort _), ?_, i + 1, rfl, h, ?_⟩
    · omega
    · simp [hlen]
  rw [decide_eq_false_iff_not] at h
  have hin : i = n := by omega
  subst hin
  have hsr := search_pure (histL i) (efL i) (by simp [histL]; omega)
  rw [searchLong (by omega) (by omega)] at hsr
  have hl2 : (histL i).length = i := by simp [histL]
  have ht2 : ((histL i).map encOp).take i = (histL i).map encOp := List.take_of_length_le (by simp [hl2])
  refine AW.to (s2 := ⟨[(0, .c (cI i)), (2, .c (cB false)), (3, .c (.fad (encHi (histL i))))], [], 0⟩) ((Weak.freeze 1 ⟨6, (histL i).map encOp⟩ [0] _ (by simp) (flatOps _)).trans ((Weak.freeze 0 ⟨1, [[encOps (histL i)]]⟩ [] _ (by simp [mapAt, hl2, ht2]) rfl).trans (Weak.normT hA [0, 2, 3] [] [] 0 _ (by simp [mapAt_nil]) (by simp [mapAt_nil]) (by simp [mapAt, mapAt_nil, hl2, ht2])))) (by simp [mapAt, mapAt_nil, hl2, ht2]) ?_
  by_cases h10 : 10 < i
  · rw [if_pos h10] at hsr
    refine AW.st teOk [.fz (.tup [.c (encis []), .c (cI 3)])] (by simp [-Option.some.injEq] <;> rfl) ?_ ?_
    · exact hsr
    refine AW.seq ?_
    refine AW.st teOk [] (by simp [-Option.some.injEq] <;> rfl) trivial ?_
    refine AW.iff true (by simp; omega) (fun _ => ?_) (fun h => by cases h)
    refine AW.st teOk [.fz (.c (cB true))] (by simp [-Option.some.injEq] <;> rfl) ?_ ?_
    · exact awake39_pure
    refine AW.ret ⟨.inr rfl, _, Weak.refl _, rfl⟩
  · rw [if_neg h10] at hsr
    obtain ⟨L, hL⟩ : ∃ L, L = rngI i := ⟨_, rfl⟩
    have hLl : L.length = i := by simp [hL]
    rw [← hL] at hsr
    refine AW.st teOk [.fz (.tup [.c (encis L), .c (cI 0)])] (by simp [-Option.some.injEq] <;> rfl) ?_ ?_
    · exact hsr
    refine AW.seq ?_
    refine AW.st teOk [] (by simp [-Option.some.injEq] <;> rfl) trivial ?_
    refine AW.iff false (by simp; omega) (fun h => by cases h) (fun _ => AW.skip ?_)
    refine AW.seq ?_
    refine AW.st teOk [] (by simp [-Option.some.injEq] <;> rfl) trivial ?_
    refine AW.block (AW.loop (fun m s => ∃ q : Nat, m = i - q ∧ q ≤ i ∧ s = ⟨[(0, .c (cI i)), (2, .c (cB false)), (5, .c (encis L)), (6, .c (cI 0)), (7, .c (cI q))], [], 0⟩) _ (Weak.normT hA [0, 2, 5, 6, 7] [] [] 0 _ (by simp) (by simp) (by simp)) ⟨0, rfl, Nat.zero_le _, by simp⟩ ?_)
    rintro m s ⟨q, rfl, hq, rfl⟩
    refine AW.seq ?_
    refine AW.st teOk [] (by simp [hLl, -Option.some.injEq] <;> rfl) trivial ?_
    refine AW.iff (decide (q < i)) (by simp) (fun h => AW.skip ?_) (fun h => AW.exit (x_then (x_then (blockA_exit ?_))))
    · rw [decide_eq_true_eq] at h
      have he : L[q]? = some (q : Int) := by simp [hL, rngI, h]
      refine AW.seq (AW.block ?_)
      refine AW.st teOk [] (by simp [he, hLl, -Option.some.injEq] <;> rfl) ?_ ?_
      · omega
      refine AW.iff false (by simp) (fun h => by cases h) (fun _ => AW.skip ?_)
      refine AW.text teOk (ans := []) (by simp [-Option.some.injEq] <;> rfl) ?_ ?_
      · trivial
      refine ⟨_, _, Weak.normT hA [0, 2, 5, 6, 7] [] [] 0 _ (by simp) (by simp) (by simp), ?_, q + 1, rfl, h, ?_⟩
      · omega
      · simp
        exact wrap_s q (by omega)
    · refine AW.st teOk [.fz (.c (cB true))] (by simp [hLl, -Option.some.injEq] <;> rfl) ?_ ?_
      · exact awake39_pure
      refine AW.ret ⟨.inr rfl, _, Weak.refl _, ?_⟩
      simp
end Go.Proofs.Ytphlhadgcfndhaa.Abs
end
