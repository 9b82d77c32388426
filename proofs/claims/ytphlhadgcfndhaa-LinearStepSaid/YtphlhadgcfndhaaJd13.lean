/- Joined for the claim: WNax WNay WPf WPg -/
import Derived.Test.YtphlhadgcfndhaaJd12
import Derived.Test.YtphlhadgcfndhaaWPeJd
import Derived.Test.YtphlhadgcfndhaaJd5
section
namespace Go.Proofs.Ytphlhadgcfndhaa.Abs
open Go Go.RowKit
set_option linter.unusedVariables false
set_option linter.unusedSimpArgs false
set_option maxHeartbeats 4000000
set_option maxRecDepth 100000
theorem loopF_skip {f : List Int → List HV → Nat → List Int → List (List Int) → RS} {ops : List OpS} {x : List Int} {vs : List HV} {i : Nat} {is : List Nat} {sp : Nat} {l : List Int} {ks : List (List Int)} {o : OpS} (ho : ops[i]? = some o) (hm : (mayB ops x sp i && okV vs o) = false) : loopF f ops x vs (i :: is) sp l ks = loopF f ops x vs is sp l ks := by
  rw [loopF, ho]
  simp only
  rw [if_neg (by rw [hm]; simp)]
theorem loopF_hit {f : List Int → List HV → Nat → List Int → List (List Int) → RS} {ops : List OpS} {x : List Int} {vs : List HV} {i : Nat} {is : List Nat} {sp : Nat} {l : List Int} {ks : List (List Int)} {o : OpS} {r : RS} (ho : ops[i]? = some o) (hm : (mayB ops x sp i && okV vs o) = true) (hr : f (afterB ops x i) (stepV vs o) (sp - costB o) (l ++ [(i : Int)]) ks = r) (hok : r.ok = true) : loopF f ops x vs (i :: is) sp l ks = r := by
  rw [loopF, ho]
  simp only
  rw [if_pos hm, hr, if_pos hok]
theorem runF_go {ops : List OpS} {n : Nat} {x : List Int} {vs : List HV} {sp : Nat} {l : List Int} {ks : List (List Int)} (h1 : complB ops x = false) (h2 : x ∉ ks) : runF ops (n + 1) x vs sp l ks = loopF (runF ops n) ops x vs (List.range ops.length) sp l ks := by
  rw [runF, if_neg (by rw [h1]; simp), if_neg h2]
def strA : Str := ⟨#[97]⟩
def strC : Str := ⟨#[99]⟩
def eA (n : Int) : EfS := ⟨3, strA, strC, n, ⟨#[]⟩⟩
def vA : HV := { o := strA, f := strC, set := false, n := 0, s := ⟨#[]⟩, hm := false, mx := 0, sum := 2, el := [], fl := false }
def opsA (r : List HV) : List OpS := [⟨101, 1, [eA 2], [], 1, 2⟩, ⟨102, 2, [], r, 3, 4⟩]
theorem sameA : sameL [vA] [vA] = true := by simp [sameL, sameB]
theorem okA : okV [vA] ⟨102, 2, [], [vA], 3, 4⟩ = true := by simp [okV, sameA]
theorem runA3 : runF (opsA [vA]) 9 [1, 1, 0, 0, 0, 0, 0, 0, 0, 0] [vA] 0 [0, 1] [] = ⟨true, 0, [0, 1], []⟩ := by rfl
theorem runA2 : runF (opsA [vA]) 10 [1, 0, 0, 0, 0, 0, 0, 0, 0, 0] [vA] 0 [0] [] = ⟨true, 0, [0, 1], []⟩ := by
  rw [runF_go (by rfl) (by simp)]
  show loopF _ _ _ _ [0, 1] _ _ _ = _
  rw [loopF_skip (o := ⟨101, 1, [eA 2], [], 1, 2⟩) rfl (by rfl)]
  exact loopF_hit (o := ⟨102, 2, [], [vA], 3, 4⟩) rfl (by rw [okA]; rfl) runA3 rfl
theorem runA1 : runF (opsA [vA]) 11 x0 [] 0 [] [] = ⟨true, 0, [0, 1], []⟩ := by
  rw [runF_go (by rfl) (by simp)]
  show loopF _ _ _ _ [0, 1] _ _ _ = _
  exact loopF_hit (o := ⟨101, 1, [eA 2], [], 1, 2⟩) rfl (by rfl) runA2 rfl
theorem searchA1 : searchS (opsA [vA]) = ([0, 1], 0) := by
  have h : searchL (opsA [vA]) (List.range 3) = some [0, 1] := by
    show searchL (opsA [vA]) [0, 1, 2] = _
    rw [searchL, runA1]
    rfl
  unfold searchS
  rw [if_neg (by decide)]
  have h' : searchL (opsA [vA]) (List.range ((opsA [vA]).length + 1)) = some [0, 1] := h
  rw [h']
theorem searchA2 : searchS (opsA []) = ([], 6) := by decide
theorem chkA01 : replayS (opsA []) [0, 1] = 17 := by decide
theorem chkA10 : replayS (opsA []) [1, 0] = 7 := by decide
theorem chkA1 : replayS (opsA []) [1] = 6 := by decide
end Go.Proofs.Ytphlhadgcfndhaa.Abs
end
section
namespace Go.Proofs.Ytphlhadgcfndhaa.Abs
open Go Go.RowKit
set_option linter.unusedVariables false
set_option linter.unusedSimpArgs false
set_option maxHeartbeats 4000000
set_option maxRecDepth 8000
theorem add_pure (p n c r : Int) : Pure Try.prog 11 [.c (cI p), .c (cI n), .c (cI c), .c (cI r)] (.agg [cI p, cI 1, .row 5 true [encE' ⟨3, strA, strC, n, ⟨#[]⟩⟩], .sc (.slice none 0 0), cI c, cI r]) := by
  refine pure_of teOk Try.func11 (by kernel_rfl) (c := _) rfl (N := 16) rfl (rs := [Go.ResultVar.cell 8 32]) rfl (by simp) fun base A w0 hA => ?_
  refine AW.st teOk [] (by simp [-Option.some.injEq] <;> rfl) trivial ?_
  refine AW.st teOk [] (by simp [-Option.some.injEq] <;> rfl) trivial ?_
  refine AW.ret ⟨.inr rfl, _, Weak.refl _, rfl⟩
theorem LeC.row1 {k : Nat} {t : Bool} {e e' : List Cell} (h : LeCs e e') : LeC (.row k t [e]) (.row k false [e']) := .row rfl (fun i a a' ha ha' => by
    match i, ha, ha' with
    | 0, ha, ha' => cases ha; cases ha'; exact h.get.1
    | i + 1, ha, _ => simp at ha) (fun i a a' ha ha' j c c' hc hc' => by
    match i, ha, ha' with
    | 0, ha, ha' => cases ha; cases ha'; exact h.get.2 j c c' hc hc'
    | i + 1, ha, _ => simp at ha)
theorem efA (r : List HV) : EfOk (opsA r) := fun o ho => by
  simp only [opsA, List.mem_cons, List.not_mem_nil, or_false] at ho
  rcases ho with rfl | rfl <;> simp
theorem newA : New Try.prog 12 [.agg (encHi (opsA [vA]))] (.tup [.c (.ref 0 0 2), .c (cI 0)]) [(0, ⟨1, [[cI 0], [cI 1]]⟩)] 1 := by
  have h := search_new (opsA [vA]) (efA _) (by simp [opsA])
  rw [searchA1] at h
  exact h
theorem newA2 : New Try.prog 12 [.agg (encHi (opsA []))] (.tup [.c (.sc (.slice none 0 0)), .c (cI 6)]) [] 1 := by
  have h := search_new (opsA []) (efA _) (by simp [opsA])
  rw [searchA2] at h
  exact h
theorem awake39_pure : Pure Try.prog 5 [] (.c (cB true)) := by
  refine pure_of teOk Try.func5 (by kernel_rfl) (c := _) rfl (N := 86) rfl (rs := [Go.ResultVar.tmp 0]) rfl (by simp) fun base A w0 hA => ?_
  refine AW.st teOk [] (by simp [-Option.some.injEq] <;> rfl) trivial ?_
  refine AW.st teOk [] (by simp [-Option.some.injEq] <;> rfl) trivial ?_
  refine AW.seq (AW.regionA (RA.pre teOk 3 [.fz (.agg [cI 101, cI 1, .row 5 true [encE' (eA 2)], .sc (.slice none 0 0), cI 1, cI 2])] (by decide) (by simp [-Option.some.injEq] <;> rfl) ?_ ?_))
  · exact add_pure 101 2 1 2
  refine RA.lit (tie := ti32) rfl rfl rfl rfl (by decide) Try.underlying36 (teOk 32 ti32 rfl) (by simp [-Option.some.injEq] <;> rfl) (by simp) (by simp) ?_
  refine RA.weak (s' := ⟨[(14, .c (.ref 0 0 2))], [(0, ⟨6, (opsA [vA]).map encOp⟩)], 1⟩) ((Weak.normS hA [14] [(14, 0)] [] [] 1 _ (by simp) (by simp) (by simp; rfl)).trans (Weak.leO 0 _ (o := ⟨6, [[cI 101, cI 1, .row 5 true [encE' (eA 2)], .sc (.slice none 0 0), cI 1, cI 2], [cI 102, cI 2, .sc (.slice none 0 0), .row 10 true [[cS strA, cS strC, cB false, cI 0, cS ⟨#[]⟩, cB false, cI 0, cI 2, .sc (.slice none 0 0), cB false]], cI 3, cI 4]]⟩) (o' := ⟨6, (opsA [vA]).map encOp⟩) (by simp; exact ⟨rfl, rfl⟩) rfl rfl (fun i e e' he he' => by
    match i, he, he' with
    | 0, he, he' =>
      cases he
      cases he'
      exact .cons (.refl _) (.cons (.refl _) (.cons (LeC.loose 5 true _) (.cons (.nil 10) (.cons (.refl _) (.cons (.refl _) .nil)))))
    | 1, he, he' =>
      cases he
      cases he'
      exact .cons (.refl _) (.cons (.refl _) (.cons (.nil 5) (.cons (LeC.row1 (.cons (.refl _) (.cons (.refl _) (.cons (.refl _) (.cons (.refl _) (.cons (.refl _) (.cons (.refl _) (.cons (.refl _) (.cons (.refl _) (.cons (.nil 1) (.cons (.refl _) .nil))))))))))) (.cons (.refl _) (.cons (.refl _) .nil)))))
    | i + 2, he, _ => simp at he))) (by simp) ?_
  refine RA.pre teOk 3 [] (by decide) (by simp [-Option.some.injEq] <;> rfl) trivial (RA.done (by decide) ?_)
  refine AW.st teOk [.sem (.tup [.c (.ref 5 0 2), .c (cI 0)]) [(5, ⟨1, [[cI 0], [cI 1]]⟩), (2, ⟨1, [[.ref 0 0 2]]⟩), (0, ⟨6, (opsA [vA]).map encOp⟩)] 6] (by simp [-Option.some.injEq] <;> rfl) ?_ ?_
  · exact SemC.newD (r := .tup [.c (.ref 0 0 2), .c (cI 0)]) (σ' := [(0, ⟨1, [[cI 0], [cI 1]]⟩)]) (m' := 1) newA rfl rfl
  refine AW.st teOk [] (by simp [opsA, -Option.some.injEq] <;> rfl) ?_ ?_
  · simp
  refine AW.to (s2 := ⟨[(2, .c (.ptr 1 0 0)), (3, .c (.ref 2 0 2)), (4, .c (cI 0))], [(0, ⟨6, (opsA []).map encOp⟩), (1, ⟨1, [[.ref 0 0 2]]⟩), (2, ⟨1, [[cI 0], [cI 1]]⟩)], 3⟩) ((Weak.normS hA [2, 3, 4] [(2, 1), (3, 2)] [(0, 0)] [2] 3 _ (by simp) (by simp) (by simp; exact ⟨rfl, rfl⟩)).trans (Weak.leO 0 _ (o := ⟨6, [encOp ⟨101, 1, [eA 2], [], 1, 2⟩, [cI 102, cI 2, .row 5 false [], .sc (.slice none 0 0), cI 3, cI 4]]⟩) (o' := ⟨6, (opsA []).map encOp⟩) (by simp) rfl rfl (fun i e e' he he' => by
    match i, he, he' with
    | 0, he, he' =>
      cases he
      cases he'
      exact LeCs.refl _
    | 1, he, he' =>
      cases he
      cases he'
      exact .cons (.refl _) (.cons (.refl _) (.cons (.refl _) (.cons (.nil 10) (.cons (.refl _) (.cons (.refl _) .nil)))))
    | i + 2, he, _ => simp at he))) (by simp) ?_
  refine AW.st teOk [.sem (.tup [.c (.sc (.slice none 0 0)), .c (cI 6)]) [(0, ⟨6, (opsA []).map encOp⟩), (1, ⟨1, [[.ref 0 0 2]]⟩), (2, ⟨1, [[cI 0], [cI 1]]⟩)] 5] (by simp [-Option.some.injEq] <;> rfl) ?_ ?_
  · exact SemC.newD (r := .tup [.c (.sc (.slice none 0 0)), .c (cI 6)]) (σ' := []) (m' := 1) newA2 rfl rfl
  refine AW.st teOk [.fz (.tup [.c (.row 1 false [[cI 0]]), .c (cI 0)])] (by simp [opsA, -Option.some.injEq] <;> rfl) ?_ ?_
  · exact Pure.le (wit1_pure (eA 2)) (.cons (.c (LeC.loose 9 true _)) .nil) (.refl _)
  have rp : ∀ l : List Int, l.length < 3 → Pure Try.prog 14 [.agg (encHi (opsA [])), .c (.row 1 true (l.map enci))] (.c (cI (replayS (opsA []) l))) := fun l hl => Pure.le (replay_pure (opsA []) l (by simp [opsA]) (by omega) (efA _)) (.cons (.refl _) (.cons (.c (LeC.loose 1 true _)) .nil)) (.refl _)
  have r1 := rp [0, 1] (by simp)
  have r2 := rp [1, 0] (by simp)
  have r3 := rp [1] (by simp)
  rw [chkA01] at r1
  rw [chkA10] at r2
  rw [chkA1] at r3
  refine AW.st teOk [.rd (.c (cI 17)), .rd (.c (cI 7)), .rd (.c (cI 6))] (by simp [-Option.some.injEq] <;> rfl) ?_ ?_
  · exact ⟨⟨⟨⟨rfl, trivial⟩, trivial, trivial⟩, r1⟩, ⟨⟨⟨rfl, trivial⟩, trivial, trivial⟩, r2⟩, ⟨⟨rfl, trivial⟩, trivial, trivial⟩, r3⟩
  refine AW.ret ⟨.inr rfl, _, Weak.refl _, rfl⟩
end Go.Proofs.Ytphlhadgcfndhaa.Abs
end
section
namespace Go.Proofs.Ytphlhadgcfndhaa.Abs
open Go Go.RowKit
set_option linter.unusedVariables false
set_option linter.unusedSimpArgs false
set_option maxHeartbeats 4000000
set_option maxRecDepth 8000
def vS (l : List Int) : Nat → List HV
  | 0 => []
  | i + 1 => applyV (vS l i) (effS (l[i]?.getD 0) ((i : Int) % 2 == 0))
theorem vS_ok (l : List Int) : ∀ i, AscH (vS l i) ∧ ElOk i (vS l i) ∧ (vS l i).length ≤ i
  | 0 => ⟨.nil, fun _ h => (by cases h), Nat.le_refl _⟩
  | i + 1 => by
    obtain ⟨h1, h2, h3⟩ := vS_ok l i
    refine ⟨applyV_asc h1 _, applyV_el h2 _, ?_⟩
    have := applyV_len (vS l i) (effS (l[i]?.getD 0) ((i : Int) % 2 == 0))
    show (applyV _ _).length ≤ _
    omega
theorem elok_mono {a b : Nat} (h : a ≤ b) {l : List HV} (hl : ElOk a l) : ElOk b l := fun v hv => ⟨(hl v hv).1, Nat.le_trans (hl v hv).2 h⟩
theorem elok_b {a : Nat} (h : a < 1000000000) {l : List HV} (hl : ElOk a l) : ElB l := fun v hv => Nat.lt_of_le_of_lt (hl v hv).2 h
theorem rstepU (vs : List HV) (e : EfS) (hv : AscH vs) (hel : ElOk 100000 vs) (hl : vs.length < 100000) : Pure Try.prog 6 [.c (encHs vs), .agg [cI 0, cI 1, .row 5 true [encE' e], .sc (.slice none 0 0), cI 0, cI 0]] (.tup [.c (encHs (applyV vs e)), .c (cB true)]) := by
  have h := rstep_pure vs ⟨0, 1, [e], [], 0, 0⟩ hv hel hl (by show 1 < 100000; omega) (.inl rfl) (elok_b (by omega) hel)
  exact Pure.le h (.cons (.refl _) (.cons (.aggs (.cons (.refl _) (.cons (.refl _) (.cons (.loose _ _ _) (.cons (.nil 10) (.cons (.refl _) (.cons (.refl _) .nil))))))) .nil)) (.refl _)
abbrev opK (K : Int) (e : List EfS) (r : List HV) : OpS := ⟨0, K, e, r, 0, 0⟩
theorem stepV_ok {v : List HV} {e : List EfS} (hv : AscH v) (hel : ElOk 100000 v) (hl : v.length < 100000) (he : e.length ≤ 6) (K : Int) (r : List HV) : ElB (stepV v (opK K e r)) ∧ (stepV v (opK K e r)).length < 1000000 := by
  unfold stepV
  split
  · obtain ⟨h1, h2, h3⟩ := toV_ok v e hv hel hl e.length (Nat.le_refl _)
    have ht : toV v e e.length = e.foldl applyV v := by unfold toV; rw [List.take_length]
    rw [ht] at h2 h3
    exact ⟨elok_b (by omega) h2, by show (e.foldl applyV v).length < _; omega⟩
  · exact ⟨elok_b (by omega) hel, by omega⟩
theorem stepH_pure (l : List Int) (e : List EfS) (r : List HV) (kind : Int) (hl : l.length < 4000000000000000000) : Pure Try.prog 3 [.c (.row 1 false (l.map fun n => [cI n])), .c (.row 5 false (e.map encE')), .c (encHs r), .c (cI kind)] (.c (cB true)) := by
  refine pure_of teOk Try.func3 (by kernel_rfl) (c := _) rfl (N := 97) rfl (rs := [Go.ResultVar.tmp 8]) rfl (by simp) fun base A w0 hA => ?_
  refine AW.st teOk [] (by simp [-Option.some.injEq] <;> rfl) trivial ?_
  by_cases he : e.length ≤ 6
  case neg =>
    have h6 : (6 : Int) < e.length := by omega
    refine AW.seq ?_
    refine AW.st teOk [] (by simp [h6, -Option.some.injEq] <;> rfl) ?_ ?_
    · trivial
    refine AW.iff true (by simp) (fun _ => ?_) (fun h => by cases h)
    refine AW.st teOk [.fz (.c (cB true))] (by simp [-Option.some.injEq] <;> rfl) ?_ ?_
    · exact awake39_pure
    exact AW.ret ⟨.inr rfl, _, Weak.refl _, by simp⟩
  have h6 : ¬ (6 : Int) < e.length := by omega
  by_cases hr : r.length ≤ 10
  case neg =>
    have h10 : (10 : Int) < r.length := by omega
    refine AW.seq ?_
    refine AW.st teOk [] (by simp [h6, h10, -Option.some.injEq] <;> rfl) ?_ ?_
    · trivial
    refine AW.iff true (by simp) (fun _ => ?_) (fun h => by cases h)
    refine AW.st teOk [.fz (.c (cB true))] (by simp [-Option.some.injEq] <;> rfl) ?_ ?_
    · exact awake39_pure
    exact AW.ret ⟨.inr rfl, _, Weak.refl _, by simp⟩
  have h10 : ¬ (10 : Int) < r.length := by omega
  refine AW.mid (fun s => s = ⟨[(0, .c (.row 1 false (l.map fun n => [cI n]))), (1, .c (.row 5 false (e.map encE'))), (2, .c (encHs r)), (3, .c (cI kind))], [], 0⟩) ?_ ?_
  · refine AW.st teOk [] (by simp [h6, h10, -Option.some.injEq] <;> rfl) ?_ ?_
    · trivial
    refine AW.iff false (by simp) (fun h => by cases h) (fun _ => AW.skip ?_)
    exact ⟨_, Weak.normT hA [0, 1, 2, 3] [] [] 0 _ (by simp) (by simp) (by simp), by simp⟩
  rintro s rfl
  refine AW.st teOk [] (by simp [-Option.some.injEq] <;> rfl) trivial ?_
  refine AW.weak (Weak.le 9 _ (v' := .c (encHs [])) (by simp <;> rfl) (.c (.nil 10))) ?_
  refine AW.mid (fun s => ∃ n, n ≤ 12 ∧ s = ⟨[(1, .c (.row 5 false (e.map encE'))), (2, .c (encHs r)), (3, .c (cI kind)), (9, .c (encHs (vS l n)))], [], 0⟩) ?_ ?_
  · refine AW.st teOk [] (by simp [-Option.some.injEq] <;> rfl) trivial ?_
    refine AW.block (AW.loop (fun m s => ∃ i : Nat, m = 12 - i ∧ i ≤ 12 ∧ i ≤ l.length ∧ s = ⟨[(0, .c (.row 1 false (l.map fun n => [cI n]))), (1, .c (.row 5 false (e.map encE'))), (2, .c (encHs r)), (3, .c (cI kind)), (9, .c (encHs (vS l i))), (10, .c (cI i))], [], 0⟩) _ (Weak.normT hA [0, 1, 2, 3, 9, 10] [] [] 0 _ (by simp [putT]) (by simp [putT]) (by simp [putT])) ⟨0, rfl, Nat.zero_le _, Nat.zero_le _, by simp [putT]; rfl⟩ ?_)
    rintro m s ⟨i, rfl, hi, hil, rfl⟩
    refine AW.seq ?_
    by_cases h1 : i < l.length
    · by_cases h2 : (i : Int) < 12
      · refine AW.st teOk [] (by simp [h1, h2, -Option.some.injEq] <;> rfl) ?_ ?_
        · trivial
        refine AW.iff true (by simp) (fun _ => AW.skip ?_) (fun h => by cases h)
        obtain ⟨x, hx⟩ : ∃ e, l[i]? = some e := ⟨_, List.getElem?_eq_getElem h1⟩
        obtain ⟨v1, v2, v3⟩ := vS_ok l i
        have hnx : vS l (i + 1) = applyV (vS l i) (effS x ((i : Int) % 2 == 0)) := by show applyV _ (effS (l[i]?.getD 0) _) = _; rw [hx]; rfl
        have hr := rstepU (vS l i) (effS x ((i : Int) % 2 == 0)) v1 (elok_mono (by omega) v2) (by omega)
        have hef := eff_pure x ((i : Int) % 2 == 0)
        obtain ⟨V1, hV1⟩ : ∃ V1, V1 = vS l (i + 1) := ⟨_, rfl⟩
        rw [← hnx, ← hV1] at hr
        generalize vS l i = V at *
        generalize effS x ((i : Int) % 2 == 0) = E at *
        refine AW.seq (AW.block ?_)
        refine AW.text teOk (ans := [.fz (.agg (encE' E)), .fz (.tup [.c (encHs V1), .c (cB true)])]) (by simp [hx, -Option.some.injEq] <;> rfl) ?_ ?_
        · exact ⟨h1, hef, hr⟩
        refine AW.text teOk (ans := []) (by simp [-Option.some.injEq] <;> rfl) ?_ ?_
        · trivial
        refine ⟨_, _, Weak.normT hA [0, 1, 2, 3, 9, 10] [] [] 0 _ (by simp) (by simp) (by simp), ?_, i + 1, rfl, by omega, by omega, ?_⟩
        · omega
        · simp
          exact ⟨by rw [hV1], wrap_s i (by omega)⟩
      · refine AW.st teOk [] (by simp [h1, h2, -Option.some.injEq] <;> rfl) ?_ ?_
        · trivial
        refine AW.iff false (by simp) (fun h => by cases h) (fun _ => AW.exit (x_then (x_then (blockA_exit ?_))))
        exact ⟨_, Weak.normT hA [1, 2, 3, 9] [] [] 0 _ (by simp) (by simp) (by simp), i, hi, by simp⟩
    · refine AW.st teOk [] (by simp [h1, -Option.some.injEq] <;> rfl) ?_ ?_
      · trivial
      refine AW.iff false (by simp) (fun h => by cases h) (fun _ => AW.exit (x_then (x_then (blockA_exit ?_))))
      exact ⟨_, Weak.normT hA [1, 2, 3, 9] [] [] 0 _ (by simp) (by simp) (by simp), i, hi, by simp⟩
  rintro s ⟨n, hn, rfl⟩
  obtain ⟨v1, v2, v3⟩ := vS_ok l n
  generalize vS l n = V at *
  obtain ⟨j1, j2⟩ := indexP_lt kind (k := 3) (by omega) (by omega)
  have hi3 : Pure Try.prog 8 [.c (cI kind), .c (cI 3)] (.c (cI (indexI kind 3))) := index_pure kind 3
  have hi2 : Pure Try.prog 8 [.c (cI kind), .c (cI 2)] (.c (cI (indexI kind 2))) := index_pure kind 2
  have hw : IntKind.i64.wrap (1 + indexI kind 3) = 1 + indexI kind 3 := by rw [IntKind.wrap_i64]; omega
  obtain ⟨K, hK⟩ : ∃ K, K = 1 + indexI kind 3 := ⟨_, rfl⟩
  refine AW.st teOk [.fz (.c (cI (indexI kind 3)))] (by simp [hw, -Option.some.injEq] <;> rfl) ?_ ?_
  · exact hi3
  refine AW.to (s2 := ⟨[(3, .c (cI kind)), (9, .c (encHs V)), (11, .c (.ptr 0 0 0))], [(0, ⟨6, [encOp (opK K e r)]⟩)], 1⟩) (Weak.normT hA [3, 9, 11] [(11, 0)] [] 1 _ (by simp) (by simp) (by simp)) (by simp [hK]) ?_
  have hK3 : K = 1 ∨ K = 2 ∨ K = 3 := by omega
  clear hK
  refine AW.mid (fun s => ∃ R, s = ⟨[(3, .c (cI kind)), (9, .c (encHs V)), (11, .c (.fad (encOp (opK K e R))))], [], 0⟩) ?_ ?_
  · by_cases hk1 : K = 1
    · subst hk1
      refine AW.st teOk [] (by simp [-Option.some.injEq] <;> rfl) trivial ?_
      refine AW.iff true (by simp) (fun _ => ?_) (fun h => by cases h)
      refine AW.text teOk (ans := []) (by simp [-Option.some.injEq] <;> rfl) ?_ ?_
      · trivial
      exact ⟨_, (Weak.leO 0 _ (o := ⟨6, [[cI 0, cI 1, .row 5 false (e.map encE'), .sc (.slice none 0 0), cI 0, cI 0]]⟩) (o' := ⟨6, [encOp (opK 1 e [])]⟩) (by simp) rfl rfl (leCs_mid (a := []) (b := []) (.cons (.refl _) (.cons (.refl _) (.cons (.refl _) (.cons (.nil 10) (.cons (.refl _) (.cons (.refl _) .nil)))))))).trans ((Weak.freeze 0 ⟨6, [encOp (opK 1 e [])]⟩ [] _ (by simp) rfl).trans (Weak.normT hA [3, 9, 11] [] [] 0 _ (by simp) (by simp) (by simp))), [], by simp⟩
    · refine AW.st teOk [] (by simp [hk1, -Option.some.injEq] <;> rfl) trivial ?_
      refine AW.iff false (by simp [hk1]) (fun h => by cases h) (fun _ => ?_)
      refine AW.st teOk [.fz (.c (cI (indexI kind 2)))] (by simp [-Option.some.injEq] <;> rfl) ?_ ?_
      · exact hi2
      by_cases h0 : indexI kind 2 = 0
      · refine AW.iff true (by simp [h0]) (fun _ => ?_) (fun h => by cases h)
        refine AW.text teOk (ans := []) (by simp [-Option.some.injEq] <;> rfl) ?_ ?_
        · trivial
        exact ⟨_, (Weak.freeze 0 ⟨6, [encOp (opK K e V)]⟩ [] _ (by simp) rfl).trans (Weak.normT hA [3, 9, 11] [] [] 0 _ (by simp) (by simp) (by simp)), V, by simp⟩
      · refine AW.iff false (by simp [h0]) (fun h => by cases h) (fun _ => AW.skip ?_)
        exact ⟨_, (Weak.freeze 0 ⟨6, [encOp (opK K e r)]⟩ [] _ (by simp) rfl).trans (Weak.normT hA [3, 9, 11] [] [] 0 _ (by simp) (by simp) (by simp)), r, by simp⟩
  rintro s ⟨R, rfl⟩
  have hel : ElOk 100000 V := elok_mono (by omega) v2
  have hVb : ElB V := elok_b (by omega) hel
  have hs1 := step_pure V (opK K e R) v1 hel (by omega) (by show e.length < _; omega)
  have hs2 := rstep_pure V (opK K e R) v1 hel (by omega) (by show e.length < _; omega) hK3 hVb
  obtain ⟨hSb, hSl⟩ := stepV_ok v1 hel (by omega) he K R
  have hm1 := sameVr_pure (stepV V (opK K e R)) (stepV V (opK K e R)) (by omega) hSb
  have hm2 := sameVr_pure V V (by omega) hVb
  rw [sameL_iff.2 rfl] at hm1 hm2
  generalize stepV V (opK K e R) = S at *
  generalize okV V (opK K e R) = k at *
  refine AW.st teOk [] (by simp [-Option.some.injEq] <;> rfl) ?_ ?_
  · simp [growOk]
    omega
  refine AW.to (s2 := ⟨[(9, .c (encHs V)), (11, .c (.fad (encOp (opK K e R)))), (12, .c (encHs V))], [], 0⟩) ((Weak.freeze 2 ⟨10, V.map encH⟩ [] _ (by simp) (flat_encH V)).trans (Weak.normT hA [9, 11, 12] [] [] 0 _ (by simp) (by simp) (by simp))) (by simp) ?_
  refine AW.st teOk [.fz (.tup [.c (encHs S), .c (cB k)])] (by simp [-Option.some.injEq] <;> rfl) ?_ ?_
  · exact hs1
  refine AW.st teOk [.fz (.tup [.c (encHs S), .c (cB k)])] (by simp [-Option.some.injEq] <;> rfl) ?_ ?_
  · exact hs2
  have hkk : (k == k) = true := by cases k <;> rfl
  refine AW.st teOk [.fz (.c (cB true)), .fz (.c (cB true)), .fz (.c (cB true))] (by simp [hkk, -Option.some.injEq] <;> rfl) ?_ ?_
  · exact ⟨hm1, hm2, awake39_pure⟩
  exact AW.ret ⟨.inr rfl, _, Weak.refl _, by simp⟩
end Go.Proofs.Ytphlhadgcfndhaa.Abs
end
section
namespace Go.Proofs.Ytphlhadgcfndhaa.Abs
open Go Go.RowKit
abbrev toEf (x : Int × ByteArray × ByteArray × Int × ByteArray) : EfS := ⟨x.1, x.2.1, x.2.2.1, x.2.2.2.1, x.2.2.2.2⟩
abbrev toHv (x : ByteArray × ByteArray × Bool × Int × ByteArray × Bool × Int × Int × List ByteArray × Bool) : HV := ⟨x.1, x.2.1, x.2.2.1, x.2.2.2.1, x.2.2.2.2.1, x.2.2.2.2.2.1, x.2.2.2.2.2.2.1, x.2.2.2.2.2.2.2.1, x.2.2.2.2.2.2.2.2.1, x.2.2.2.2.2.2.2.2.2⟩
abbrev encE5 (x : Int × ByteArray × ByteArray × Int × ByteArray) : List Cell := [.sc (.int .i64 x.1), .sc (.string x.2.1), .sc (.string x.2.2.1), .sc (.int .i64 x.2.2.2.1), .sc (.string x.2.2.2.2)]
abbrev encH10 (x : ByteArray × ByteArray × Bool × Int × ByteArray × Bool × Int × Int × List ByteArray × Bool) : List Cell := [.sc (.string x.1), .sc (.string x.2.1), .sc (.bool x.2.2.1), .sc (.int .i64 x.2.2.2.1), .sc (.string x.2.2.2.2.1), .sc (.bool x.2.2.2.2.2.1), .sc (.int .i64 x.2.2.2.2.2.2.1), .sc (.int .i64 x.2.2.2.2.2.2.2.1), .row 1 false (x.2.2.2.2.2.2.2.2.1.map fun s : ByteArray => [.sc (.string s)]), .sc (.bool x.2.2.2.2.2.2.2.2.2)]
theorem step39_pure (l : List Int) (e : List (Int × ByteArray × ByteArray × Int × ByteArray)) (r : List (ByteArray × ByteArray × Bool × Int × ByteArray × Bool × Int × Int × List ByteArray × Bool)) (kind : Int) (hl : l.length < 4000000000000000000) {p1 p2 p3 : Prop} (_ : p1) (_ : p2) (_ : p3) : Pure Try.prog 3 [.c (.row 1 false (l.map fun n => [.sc (.int .i64 n)])), .c (.row 5 false (e.map encE5)), .c (.row 10 false (r.map encH10)), .c (.sc (.int .i64 kind))] (.c (.sc (.bool true))) := by
  have h := stepH_pure l (e.map toEf) (r.map toHv) kind hl
  rw [List.map_map, encHs, List.map_map] at h
  exact h
end Go.Proofs.Ytphlhadgcfndhaa.Abs
end
