/- Joined for the claim: WNax WNay WQe WQf WQg WQh -/
import Derived.Test.YtphlhadgcfndhaaGreatJd14
import Derived.Test.YtphlhadgcfndhaaGreatJd13
section
namespace Go.Proofs.YtphlhadgcfndhaaGreat.Abs
open Go Go.RowKit
set_option linter.unusedVariables false
set_option linter.unusedSimpArgs false
set_option maxHeartbeats 4000000
set_option maxRecDepth 100000
theorem loopF_skip {f : List Int → List HV → Nat → List Int → List (List Int) → RS} {ops : List OpS} {x : List Int} {vs : List HV} {i : Nat} {is : List Nat} {sp : Nat} {l : List Int} {ks : List (List Int)} {o : OpS} (ho : ops[i]? = some o) (hm : (mayB ops x sp i && okV vs o) = false) : loopF f ops x vs (i :: is) sp l ks = loopF f ops x vs is sp l ks := by
  rw [loopF, ho]
  simp only
  rw [if_neg (by rw [hm]; simp)]
theorem loopF_hit {f : List Int → List HV → Nat → List Int → List (List Int) → RS} {ops : List OpS} {x : List Int} {vs : List HV} {i : Nat} {is : List Nat} {sp : Nat} {l : List Int} {ks : List (List Int)} {o : OpS} {r : RS} (ho : ops[i]? = some o) (hm : (mayB ops x sp i && okV vs o) = true) (hr : f (afterB ops x i) (stepV vs o) (sp - costB o) (l ++ [(i : Int)]) ks = r) (hok : r.ok = true) : loopF f ops x vs (i :: is) sp l ks = r := by
  rw [loopF, ho]
  simp only
  rw [if_pos hm, hr, if_pos hok]
theorem runF_go {ops : List OpS} {n : Nat} {x : List Int} {vs : List HV} {sp : Nat} {l : List Int} {ks : List (List Int)} (h1 : complB ops x = false) (h2 : x ∉ ks) : runF ops (n + 1) x vs sp l ks = loopF (runF ops n) ops x vs (List.range ops.length) sp l ks := by
  rw [runF, if_neg (by rw [h1]; simp), if_neg h2]
def strA : Str := ⟨#[97]⟩
def strC : Str := ⟨#[99]⟩
def eA (n : Int) : EfS := ⟨3, strA, strC, n, ⟨#[]⟩⟩
def vA : HV := { o := strA, f := strC, set := false, n := 0, s := ⟨#[]⟩, hm := false, mx := 0, sum := 2, el := [], fl := false }
def opsA (r : List HV) : List OpS := [⟨101, 1, [eA 2], [], 1, 2⟩, ⟨102, 2, [], r, 3, 4⟩]
theorem sameA : sameL [vA] [vA] = true := by simp [sameL, sameB]
theorem okA : okV [vA] ⟨102, 2, [], [vA], 3, 4⟩ = true := by simp [okV, sameA]
theorem runA3 : runF (opsA [vA]) 9 [1, 1, 0, 0, 0, 0, 0, 0, 0, 0] [vA] 0 [0, 1] [] = ⟨true, 0, [0, 1], []⟩ := by rfl
theorem runA2 : runF (opsA [vA]) 10 [1, 0, 0, 0, 0, 0, 0, 0, 0, 0] [vA] 0 [0] [] = ⟨true, 0, [0, 1], []⟩ := by
  rw [runF_go (by rfl) (by simp)]
  show loopF _ _ _ _ [0, 1] _ _ _ = _
  rw [loopF_skip (o := ⟨101, 1, [eA 2], [], 1, 2⟩) rfl (by rfl)]
  exact loopF_hit (o := ⟨102, 2, [], [vA], 3, 4⟩) rfl (by rw [okA]; rfl) runA3 rfl
theorem runA1 : runF (opsA [vA]) 11 x0 [] 0 [] [] = ⟨true, 0, [0, 1], []⟩ := by
  rw [runF_go (by rfl) (by simp)]
  show loopF _ _ _ _ [0, 1] _ _ _ = _
  exact loopF_hit (o := ⟨101, 1, [eA 2], [], 1, 2⟩) rfl (by rfl) runA2 rfl
theorem searchA1 : searchS (opsA [vA]) = ([0, 1], 0) := by
  have h : searchL (opsA [vA]) (List.range 3) = some [0, 1] := by
    show searchL (opsA [vA]) [0, 1, 2] = _
    rw [searchL, runA1]
    rfl
  unfold searchS
  rw [if_neg (by decide)]
  have h' : searchL (opsA [vA]) (List.range ((opsA [vA]).length + 1)) = some [0, 1] := h
  rw [h']
theorem searchA2 : searchS (opsA []) = ([], 6) := by decide
theorem chkA01 : replayS (opsA []) [0, 1] = 17 := by decide
theorem chkA10 : replayS (opsA []) [1, 0] = 7 := by decide
theorem chkA1 : replayS (opsA []) [1] = 6 := by decide
end Go.Proofs.YtphlhadgcfndhaaGreat.Abs
end
section
namespace Go.Proofs.YtphlhadgcfndhaaGreat.Abs
open Go Go.RowKit
set_option linter.unusedVariables false
set_option linter.unusedSimpArgs false
set_option maxHeartbeats 4000000
set_option maxRecDepth 8000
theorem add_pure (p n c r : Int) : Pure Tryz.prog 20 [.c (cI p), .c (cI n), .c (cI c), .c (cI r)] (.agg [cI p, cI 1, .row 5 true [encE' ⟨3, strA, strC, n, ⟨#[]⟩⟩], .sc (.slice none 0 0), cI c, cI r]) := by
  refine pure_of teOk Tryz.func20 (by kernel_rfl) (c := _) rfl (N := 16) rfl (rs := [Go.ResultVar.cell 8 39]) rfl (by simp) fun base A w0 hA => ?_
  refine AW.st teOk [] (by simp [-Option.some.injEq] <;> rfl) trivial ?_
  refine AW.st teOk [] (by simp [-Option.some.injEq] <;> rfl) trivial ?_
  refine AW.ret ⟨.inr rfl, _, Weak.refl _, rfl⟩
theorem LeC.row1 {k : Nat} {t : Bool} {e e' : List Cell} (h : LeCs e e') : LeC (.row k t [e]) (.row k false [e']) := .row rfl (fun i a a' ha ha' => by
    match i, ha, ha' with
    | 0, ha, ha' => cases ha; cases ha'; exact h.get.1
    | i + 1, ha, _ => simp at ha) (fun i a a' ha ha' j c c' hc hc' => by
    match i, ha, ha' with
    | 0, ha, ha' => cases ha; cases ha'; exact h.get.2 j c c' hc hc'
    | i + 1, ha, _ => simp at ha)
theorem efA (r : List HV) : EfOk (opsA r) := fun o ho => by
  simp only [opsA, List.mem_cons, List.not_mem_nil, or_false] at ho
  rcases ho with rfl | rfl <;> simp
theorem newA : New Tryz.prog 15 [.agg (encHi (opsA [vA]))] (.tup [.c (.ref 0 0 2), .c (cI 0)]) [(0, ⟨1, [[cI 0], [cI 1]]⟩)] 1 := by
  have h := search_new (opsA [vA]) (efA _) (by simp [opsA])
  rw [searchA1] at h
  exact h
theorem newA2 : New Tryz.prog 15 [.agg (encHi (opsA []))] (.tup [.c (.sc (.slice none 0 0)), .c (cI 6)]) [] 1 := by
  have h := search_new (opsA []) (efA _) (by simp [opsA])
  rw [searchA2] at h
  exact h
theorem awake39_pure : Pure Tryz.prog 8 [] (.c (cB true)) := by
  refine pure_of teOk Tryz.func8 (by kernel_rfl) (c := _) rfl (N := 86) rfl (rs := [Go.ResultVar.tmp 0]) rfl (by simp) fun base A w0 hA => ?_
  refine AW.st teOk [] (by simp [-Option.some.injEq] <;> rfl) trivial ?_
  refine AW.st teOk [] (by simp [-Option.some.injEq] <;> rfl) trivial ?_
  refine AW.seq (AW.regionA (RA.pre teOk 3 [.fz (.agg [cI 101, cI 1, .row 5 true [encE' (eA 2)], .sc (.slice none 0 0), cI 1, cI 2])] (by decide) (by simp [-Option.some.injEq] <;> rfl) ?_ ?_))
  · exact add_pure 101 2 1 2
  refine RA.lit (tie := ti39) rfl rfl rfl rfl (by decide) Tryz.underlying24 (teOk 39 ti39 rfl) (by simp [-Option.some.injEq] <;> rfl) (by simp) (by simp) ?_
  refine RA.weak (s' := ⟨[(14, .c (.ref 0 0 2))], [(0, ⟨6, (opsA [vA]).map encOp⟩)], 1⟩) ((Weak.normS hA [14] [(14, 0)] [] [] 1 _ (by simp) (by simp) (by simp; rfl)).trans (Weak.leO 0 _ (o := ⟨6, [[cI 101, cI 1, .row 5 true [encE' (eA 2)], .sc (.slice none 0 0), cI 1, cI 2], [cI 102, cI 2, .sc (.slice none 0 0), .row 10 true [[cS strA, cS strC, cB false, cI 0, cS ⟨#[]⟩, cB false, cI 0, cI 2, .sc (.slice none 0 0), cB false]], cI 3, cI 4]]⟩) (o' := ⟨6, (opsA [vA]).map encOp⟩) (by simp; exact ⟨rfl, rfl⟩) rfl rfl (fun i e e' he he' => by
    match i, he, he' with
    | 0, he, he' =>
      cases he
      cases he'
      exact .cons (.refl _) (.cons (.refl _) (.cons (LeC.loose 5 true _) (.cons (.nil 10) (.cons (.refl _) (.cons (.refl _) .nil)))))
    | 1, he, he' =>
      cases he
      cases he'
      exact .cons (.refl _) (.cons (.refl _) (.cons (.nil 5) (.cons (LeC.row1 (.cons (.refl _) (.cons (.refl _) (.cons (.refl _) (.cons (.refl _) (.cons (.refl _) (.cons (.refl _) (.cons (.refl _) (.cons (.refl _) (.cons (.nil 1) (.cons (.refl _) .nil))))))))))) (.cons (.refl _) (.cons (.refl _) .nil)))))
    | i + 2, he, _ => simp at he))) (by simp) ?_
  refine RA.pre teOk 3 [] (by decide) (by simp [-Option.some.injEq] <;> rfl) trivial (RA.done (by decide) ?_)
  refine AW.st teOk [.sem (.tup [.c (.ref 5 0 2), .c (cI 0)]) [(5, ⟨1, [[cI 0], [cI 1]]⟩), (2, ⟨1, [[.ref 0 0 2]]⟩), (0, ⟨6, (opsA [vA]).map encOp⟩)] 6] (by simp [-Option.some.injEq] <;> rfl) ?_ ?_
  · exact SemC.newD (r := .tup [.c (.ref 0 0 2), .c (cI 0)]) (σ' := [(0, ⟨1, [[cI 0], [cI 1]]⟩)]) (m' := 1) newA rfl rfl
  refine AW.st teOk [] (by simp [opsA, -Option.some.injEq] <;> rfl) ?_ ?_
  · simp
  refine AW.to (s2 := ⟨[(2, .c (.ptr 1 0 0)), (3, .c (.ref 2 0 2)), (4, .c (cI 0))], [(0, ⟨6, (opsA []).map encOp⟩), (1, ⟨1, [[.ref 0 0 2]]⟩), (2, ⟨1, [[cI 0], [cI 1]]⟩)], 3⟩) ((Weak.normS hA [2, 3, 4] [(2, 1), (3, 2)] [(0, 0)] [2] 3 _ (by simp) (by simp) (by simp; exact ⟨rfl, rfl⟩)).trans (Weak.leO 0 _ (o := ⟨6, [encOp ⟨101, 1, [eA 2], [], 1, 2⟩, [cI 102, cI 2, .row 5 false [], .sc (.slice none 0 0), cI 3, cI 4]]⟩) (o' := ⟨6, (opsA []).map encOp⟩) (by simp) rfl rfl (fun i e e' he he' => by
    match i, he, he' with
    | 0, he, he' =>
      cases he
      cases he'
      exact LeCs.refl _
    | 1, he, he' =>
      cases he
      cases he'
      exact .cons (.refl _) (.cons (.refl _) (.cons (.refl _) (.cons (.nil 10) (.cons (.refl _) (.cons (.refl _) .nil)))))
    | i + 2, he, _ => simp at he))) (by simp) ?_
  refine AW.st teOk [.sem (.tup [.c (.sc (.slice none 0 0)), .c (cI 6)]) [(0, ⟨6, (opsA []).map encOp⟩), (1, ⟨1, [[.ref 0 0 2]]⟩), (2, ⟨1, [[cI 0], [cI 1]]⟩)] 5] (by simp [-Option.some.injEq] <;> rfl) ?_ ?_
  · exact SemC.newD (r := .tup [.c (.sc (.slice none 0 0)), .c (cI 6)]) (σ' := []) (m' := 1) newA2 rfl rfl
  refine AW.st teOk [.fz (.tup [.c (.row 1 false [[cI 0]]), .c (cI 0)])] (by simp [opsA, -Option.some.injEq] <;> rfl) ?_ ?_
  · exact Pure.le (wit1_pure (eA 2)) (.cons (.c (LeC.loose 9 true _)) .nil) (.refl _)
  have rp : ∀ l : List Int, l.length < 3 → Pure Tryz.prog 11 [.agg (encHi (opsA [])), .c (.row 1 true (l.map enci))] (.c (cI (replayS (opsA []) l))) := fun l hl => Pure.le (replay_pure (opsA []) l (by simp [opsA]) (by omega) (efA _)) (.cons (.refl _) (.cons (.c (LeC.loose 1 true _)) .nil)) (.refl _)
  have r1 := rp [0, 1] (by simp)
  have r2 := rp [1, 0] (by simp)
  have r3 := rp [1] (by simp)
  rw [chkA01] at r1
  rw [chkA10] at r2
  rw [chkA1] at r3
  refine AW.st teOk [.rd (.c (cI 17)), .rd (.c (cI 7)), .rd (.c (cI 6))] (by simp [-Option.some.injEq] <;> rfl) ?_ ?_
  · exact ⟨⟨⟨⟨rfl, trivial⟩, trivial, trivial⟩, r1⟩, ⟨⟨⟨rfl, trivial⟩, trivial, trivial⟩, r2⟩, ⟨⟨rfl, trivial⟩, trivial, trivial⟩, r3⟩
  refine AW.ret ⟨.inr rfl, _, Weak.refl _, rfl⟩
end Go.Proofs.YtphlhadgcfndhaaGreat.Abs
end
section
namespace Go.Proofs.YtphlhadgcfndhaaGreat.Abs
open Go Go.RowKit
set_option linter.unusedVariables false
set_option linter.unusedSimpArgs false
set_option maxHeartbeats 4000000
set_option maxRecDepth 8000
def nwB (ops : List OpS) (x : Int) : Bool := match opAt ops x with
  | some o => o.kind != 3
  | none => false
theorem runS_nw {ops : List OpS} : ∀ (l : List Int) (vs : List HV), (∀ x ∈ l, inR ops.length x = true) → runS ops vs (l.filter (nwB ops)) = runS ops vs l
  | [], _, _ => rfl
  | x :: l, vs, h => by
    obtain ⟨o, ho, _⟩ := opAt_some (h x (by simp))
    have ih := fun vs => runS_nw l vs fun y hy => h y (by simp [hy])
    have hb : nwB ops x = (o.kind != 3) := by unfold nwB; rw [ho]
    rw [List.filter_cons, hb]
    by_cases hk : o.kind = 3
    · rw [if_neg (by simp [hk]), ih, runS, ho]
      have h1 : okV vs o = true := by unfold okV; rw [if_neg (by omega)]
      have h2 : stepV vs o = vs := by unfold stepV; rw [if_neg (by omega)]
      simp only
      rw [if_pos h1, h2]
    · rw [if_pos (by simpa using hk), runS, runS, ho]
      simp only
      rw [ih]
theorem finds_order {N : Int} {ops : List OpS} {o : List Int} (hn : ops.length ≤ 10) (hE : OneEf ops) (hv : VT N ops) (hc : ChkOk ops o) (hr : (runS ops [] o).isSome = true) : ∃ s, searchS ops = (coeL s, 0) ∧ replayS ops (coeL s) = 0 ∧ s.length ≤ o.length := by
  obtain ⟨t, ht⟩ : ∃ t, t = (o.filter (nwB ops)).map Int.toNat := ⟨_, rfl⟩
  have hco : coeL t = o.filter (nwB ops) := by
    rw [ht]
    unfold coeL
    rw [List.map_map]
    refine (List.map_congr_left (g := id) fun x hx => ?_).trans (List.map_id _)
    have := hc.rng x (List.mem_filter.1 hx).1
    simp only [inR, Bool.and_eq_true, decide_eq_true_eq] at this
    show ((x.toNat : Nat) : Int) = x
    omega
  have hmem : ∀ i : Nat, i ∈ t ↔ (i : Int) ∈ o ∧ nwB ops i = true := fun i => by
    rw [← List.mem_filter, ← hco, coe_mem]
    exact ⟨fun h => ⟨i, h, rfl⟩, fun ⟨n, hn, e⟩ => by
      have : n = i := by omega
      exact this ▸ hn⟩
  have hat : ∀ (i : Nat), opAt ops i = ops[i]? := fun i => by
    unfold opAt
    rw [if_pos (by omega), Int.toNat_natCast]
  have hnd : t.Nodup := by
    have h1 : (coeL t).Nodup := by rw [hco]; exact hc.nd.sublist List.filter_sublist
    exact List.Pairwise.of_map (fun n : Nat => (n : Int)) (fun a b hab e => hab (by rw [e])) h1
  have hord : t.Pairwise fun (y x : Nat) => preS ops x y = false := by
    have h1 : (coeL t).Pairwise fun y x => preS ops x y = false := by rw [hco]; exact hc.ord.sublist List.filter_sublist
    exact List.Pairwise.of_map (fun n : Nat => (n : Int)) (fun a b hab => hab) h1
  have hk : ∀ i ∈ t, ∃ o, ops[i]? = some o ∧ (reqB o = true ∨ o.kind = 1) := fun i hi => by
    obtain ⟨h1, h2⟩ := (hmem i).1 hi
    unfold nwB at h2
    cases hq : opAt ops i with
    | none => rw [hq] at h2; cases h2
    | some q =>
      rw [hq] at h2
      have hp := hc.pen i h1 q hq
      rw [hat] at hq
      refine ⟨q, hq, ?_⟩
      have h3 : q.kind ≠ 3 := by simpa using h2
      by_cases hk1 : q.kind = 1
      · exact .inr hk1
      · left
        have : q.ret ≠ 0 := by simpa [penB, hk1] using hp
        simp [reqB, h3, this]
  have hm : ∀ (i : Nat) (q : OpS), ops[i]? = some q → reqB q = true → i ∈ t := fun i q hq hr => by
    refine (hmem i).2 ⟨hc.mis i q hq hr, ?_⟩
    unfold nwB
    rw [hat, hq]
    simp only [reqB, Bool.and_eq_true] at hr
    exact hr.1
  have hrun : (runS ops [] (coeL t)).isSome = true := by
    rw [hco, runS_nw o [] hc.rng]
    exact hr
  obtain ⟨s, h1, h2, h3⟩ := finds hn hE hv hnd hk hm hord hrun
  refine ⟨s, h1, h2, Nat.le_trans h3 ?_⟩
  rw [ht, List.length_map]
  exact List.length_filter_le _ _
theorem timesE_one {ops : List OpS} (h : OneEf ops) (n ev : Int) : OneEf (timesE ops n ev) := by
  have hnew : OneEf (ops ++ [newO n ev]) := fun o ho => by
    rcases List.mem_append.1 ho with ho | ho
    · exact h o ho
    · rw [List.mem_singleton.1 ho]
      by_cases hd : digitI n 3 2 = 0
      · exact .inl ⟨by show 1 + digitI n 3 2 = 1; omega, _, by show (if digitI n 3 2 = 0 then _ else _) = _; rw [if_pos hd]⟩
      · exact .inr ⟨by show 1 + digitI n 3 2 ≠ 1; omega, by show (if digitI n 3 2 = 0 then _ else _) = _; rw [if_neg hd]⟩
  unfold timesE
  split
  · rename_i o ho
    split
    · intro q hq
      rcases List.mem_or_eq_of_mem_set hq with hq | rfl
      · exact h q hq
      · exact h o (opAt_mem ho)
    · exact hnew
  · exact hnew
theorem timesS_one (l : List Int) : ∀ i, OneEf (timesS l i)
  | 0 => fun o h => by cases h
  | i + 1 => timesE_one (timesS_one l i) _ _
theorem shortS_one (l : List Int) (n : Nat) : OneEf (shortS l n) := fun o ho => timesS_one l _ o (List.mem_of_mem_take ho)
theorem fill_one (ops : List OpS) (l : List Int) (h : OneEf ops) : OneEf (fillS ops [] l) := fun o ho => by
  have hm : fld o ∈ (fillS ops [] l).map fld := List.mem_map.2 ⟨o, ho, rfl⟩
  rw [fill_fld] at hm
  obtain ⟨q, hq, e⟩ := List.mem_map.1 hm
  have := h q hq
  have e1 : q.ef = o.ef := show (fld q).ef = (fld o).ef from by rw [e]
  have e2 : q.kind = o.kind := show (fld q).kind = (fld o).kind from by rw [e]
  rw [← e1, ← e2]; exact this
theorem replay_run {ops : List OpS} {l : List Int} (h : replayS ops l = 0) : chkS ops l = 0 ∧ (runS ops [] l).isSome = true := by
  unfold replayS at h
  split at h
  · rename_i h1; exact absurd h h1
  · rename_i h1
    split at h
    · rename_i h2; exact ⟨by simpa using h1, h2⟩
    · cases h
/-- What the law's functions make of its numbers. -/
theorem short_facts (l ch : List Int) (n : Nat) (hn : n ≤ 10) : ∃ O F, O = orderS (shortS l n) ch ∧ F = fillS (shortS l n) [] O ∧ O.length ≤ n ∧ F.length ≤ n ∧ EfOk (shortS l n) ∧ (∀ x ∈ O, inR (shortS l n).length x = true) ∧ EfOk F ∧ KiOk F ∧ OneEf F ∧ VT 40 F ∧ ChkOk F O ∧ (runS F [] O).isSome = true ∧ replayS F O = 0 := by
  obtain ⟨hK, hE, hS1, hS2, hV⟩ := shortS_ok l n
  have hO := orderS_ok hV (by omega) ch
  have hOl := orderS_len (shortS l n) ch
  have hok := fill_ok _ _ hO.chk
  obtain ⟨h1, h2⟩ := replay_run hok
  refine ⟨_, _, rfl, rfl, by omega, by rw [fill_len]; exact hS1, hE, hO.rng, fill_ef _ _ hE, fill_ki _ _ hK, fill_one _ _ (shortS_one l n), fill_vt _ _ hV, chk_ok h1, h2, hok⟩
theorem findsL_pure (l ch : List Int) (hl : l.length < 4000000000000000000) (hc : ch.length < 4000000000000000000) : Pure Tryz.prog 5 [.c (encis l), .c (encis ch)] (.c (cB true)) := by
  refine pure_of teOk Tryz.func5 (by kernel_rfl) (c := _) rfl (N := 41) rfl (rs := [Go.ResultVar.tmp 4]) rfl (by simp) fun base A w0 hA => ?_
  obtain ⟨O, F, hO, hF, hOl, hFl, hE, hin, hFE, hFK, hF1, hFV, hC, hR, hrp⟩ := short_facts l ch 8 (by omega)
  obtain ⟨s, hs1, hs2, hs3⟩ := finds_order (by omega) hF1 hFV hC hR
  have hS8 := (shortS_ok l 8).2.2.1
  have hsh := short_pure l ch 8 hl hc (by omega)
  have hfp := fill_pure (shortS l 8) O (by omega) (by omega) hE hin
  rw [← hO] at hsh
  rw [← hF] at hfp
  have hsp := search_pure F hFE (by omega)
  rw [hs1] at hsp
  have hcl : (coeL s).length = s.length := List.length_map _
  have hrp2 := replay_pure F (coeL s) (by omega) (by omega) hFE
  rw [hs2] at hrp2
  have hle : (s.length : Int) ≤ O.length := by omega
  generalize shortS l 8 = S at *
  generalize coeL s = A at *
  refine AW.st teOk [] (by simp [-Option.some.injEq] <;> rfl) trivial ?_
  refine AW.st teOk [.fz (.tup [.agg (encHi S), .c (encis O)])] (by simp [-Option.some.injEq] <;> rfl) ?_ ?_
  · exact hsh
  refine AW.st teOk [.fz (.agg (encHi F))] (by simp [-Option.some.injEq] <;> rfl) ?_ ?_
  · exact hfp
  refine AW.st teOk [.fz (.tup [.c (encis A), .c (cI 0)])] (by simp [-Option.some.injEq] <;> rfl) ?_ ?_
  · exact hsp
  refine AW.st teOk [.fz (.c (cI 0)), .fz (.c (cB true))] (by simp [hcl, hle, -Option.some.injEq] <;> rfl) ?_ ?_
  · exact ⟨hrp2, awake39_pure⟩
  exact AW.ret ⟨.inr rfl, _, Weak.refl _, by simp⟩
theorem findsL_row (l ch : List Int) (hl : l.length < 4000000000000000000) (hc : ch.length < 4000000000000000000) : Pure Tryz.prog 5 [.c (.row 1 false (l.map fun n : Int => [.sc (.int .i64 n)])), .c (.row 1 false (ch.map fun n : Int => [.sc (.int .i64 n)]))] (.c (.sc (.bool true))) := findsL_pure l ch hl hc
end Go.Proofs.YtphlhadgcfndhaaGreat.Abs
end
section
namespace Go.Proofs.YtphlhadgcfndhaaGreat.Abs
open Go Go.RowKit
set_option linter.unusedVariables false
set_option linter.unusedSimpArgs false
set_option maxHeartbeats 4000000
set_option maxRecDepth 8000
theorem cloneEf_pure (es : List (List Cell)) (hk : ∀ e ∈ es, e.length = 5) (hf : ∀ e ∈ es, e.all frozenC = true) (hb : es.length < 1000000000) : Pure Tryz.prog 39 [.c (.row 5 false es)] (.c (.row 5 false es)) := by
  refine pure_of teOk Tryz.func39 (by kernel_rfl) (c := _) rfl (N := 8) rfl (rs := [Go.ResultVar.tmp 2]) rfl (by simp) fun base A w0 hA => ?_
  refine AW.st teOk [] (by simp [-Option.some.injEq] <;> rfl) trivial ?_
  refine AW.mid (fun s => s = ⟨[(0, .c (.row 5 false es))], [], 0⟩) ?_ ?_
  · by_cases he : es = []
    · subst he
      refine AW.st teOk [] (by simp [-Option.some.injEq] <;> rfl) trivial ?_
      refine AW.either (by simp) ?_ (AW.skip ⟨_, Weak.normT hA [0] [] [] 0 _ (by simp) (by simp) (by simp), by simp⟩)
      refine AW.st teOk [] (by simp [-Option.some.injEq] <;> rfl) trivial ?_
      refine AW.ret ⟨.inr rfl, _, Weak.le 2 _ (by simp <;> rfl) (.c (LeC.nil 5)), ?_⟩
      simp
    · refine AW.st teOk [] (by simp [he, -Option.some.injEq] <;> rfl) trivial ?_
      refine AW.iff false (by simp) (fun h => by cases h) fun _ => AW.skip ⟨_, Weak.normT hA [0] [] [] 0 _ (by simp) (by simp) (by simp), by simp⟩
  · rintro s rfl
    refine AW.st teOk [] (by simp [-Option.some.injEq] <;> rfl) ?_ ?_
    · simp [growOk]
      exact ⟨by omega, hk⟩
    refine AW.ret ⟨.inr rfl, _, Weak.frzT 2 [] _ (by simp; exact ⟨rfl, rfl, rfl⟩) (by simp <;> rfl) (flatO_of hf), ?_⟩
    simp
theorem cloneSt_pure (es : List (List Cell)) (hk : ∀ e ∈ es, e.length = 1) (hf : ∀ e ∈ es, e.all frozenC = true) (hb : es.length < 1000000000) : Pure Tryz.prog 78 [.c (.row 1 false es)] (.c (.row 1 false es)) := by
  refine pure_of teOk Tryz.func78 (by kernel_rfl) (c := _) rfl (N := 8) rfl (rs := [Go.ResultVar.tmp 2]) rfl (by simp) fun base A w0 hA => ?_
  refine AW.st teOk [] (by simp [-Option.some.injEq] <;> rfl) trivial ?_
  refine AW.mid (fun s => s = ⟨[(0, .c (.row 1 false es))], [], 0⟩) ?_ ?_
  · by_cases he : es = []
    · subst he
      refine AW.st teOk [] (by simp [-Option.some.injEq] <;> rfl) trivial ?_
      refine AW.either (by simp) ?_ (AW.skip ⟨_, Weak.normT hA [0] [] [] 0 _ (by simp) (by simp) (by simp), by simp⟩)
      refine AW.st teOk [] (by simp [-Option.some.injEq] <;> rfl) trivial ?_
      refine AW.ret ⟨.inr rfl, _, Weak.le 2 _ (by simp <;> rfl) (.c (LeC.nil 1)), ?_⟩
      simp
    · refine AW.st teOk [] (by simp [he, -Option.some.injEq] <;> rfl) trivial ?_
      refine AW.iff false (by simp) (fun h => by cases h) fun _ => AW.skip ⟨_, Weak.normT hA [0] [] [] 0 _ (by simp) (by simp) (by simp), by simp⟩
  · rintro s rfl
    refine AW.st teOk [] (by simp [-Option.some.injEq] <;> rfl) ?_ ?_
    · simp [growOk]
      exact ⟨by omega, hk⟩
    refine AW.ret ⟨.inr rfl, _, Weak.frzT 2 [] _ (by simp; exact ⟨rfl, rfl, rfl⟩) (by simp <;> rfl) (flatO_of hf), ?_⟩
    simp
theorem cloneEf (l : List EfS) (h : l.length < 1000000000) : Pure Tryz.prog 39 [.c (.row 5 false (l.map encE'))] (.c (.row 5 false (l.map encE'))) :=
  cloneEf_pure _ (fun e he => by obtain ⟨x, _, rfl⟩ := List.mem_map.1 he; rfl) (fun e he => by obtain ⟨x, _, rfl⟩ := List.mem_map.1 he; rfl) (by simpa using h)
theorem cloneSt (l : List Str) (h : l.length < 1000000000) : Pure Tryz.prog 78 [.c (encSs l)] (.c (encSs l)) :=
  cloneSt_pure _ (fun e he => by obtain ⟨x, _, rfl⟩ := List.mem_map.1 he; rfl) (fun e he => by obtain ⟨x, _, rfl⟩ := List.mem_map.1 he; rfl) (by simpa using h)
theorem cloneVals_pure (vs : List HV) (hl : vs.length < 1000000) (hb : ∀ v ∈ vs, v.el.length < 1000000000) : Pure Tryz.prog 40 [.c (encHs vs)] (.c (encHs vs)) := by
  refine pure_of teOk Tryz.func40 (by kernel_rfl) (c := _) rfl (N := 22) rfl (rs := [Go.ResultVar.tmp 2]) rfl (by simp) fun base A w0 hA => ?_
  refine AW.st teOk [] (by simp [-Option.some.injEq] <;> rfl) trivial ?_
  refine AW.st teOk [] (by simp [-Option.some.injEq] <;> rfl) trivial ?_
  refine AW.weak (Weak.nil 3 10 _ (by simp <;> rfl)) ?_
  refine AW.mid (fun s => s = ⟨[(3, .c (.ref 0 0 vs.length))], [(0, ⟨10, vs.map encH⟩)], 1⟩) ?_ ?_
  · refine AW.st teOk [] (by simp [-Option.some.injEq] <;> rfl) trivial ?_
    refine AW.block (AW.loop (fun m s => ∃ i : Nat, m = vs.length - i ∧ i ≤ vs.length ∧ s = ⟨[(3, .c (.ref 0 0 i)), (6, .c (encHs vs)), (7, .c (cI vs.length)), (8, .c (cI i))], [(0, ⟨10, (vs.take i).map encH⟩)], 1⟩) _ (Weak.normT hA [3, 6, 7, 8] [(3, 0)] [] 1 _ (by simp [putT]) (by simp [putT]) (by simp [putT])) ⟨0, rfl, Nat.zero_le _, by simp [putT]⟩ ?_)
    rintro m s ⟨i, rfl, hi, rfl⟩
    refine AW.st teOk [] (by simp [-Option.some.injEq] <;> rfl) trivial ?_
    refine AW.seq ?_
    refine AW.iff (decide (i < vs.length)) (by simp) (fun h => AW.skip ?_) (fun h => AW.exit (x_then (x_then (blockA_exit ?_))))
    · rw [decide_eq_true_eq] at h
      obtain ⟨v, he⟩ : ∃ e, vs[i]? = some e := ⟨_, List.getElem?_eq_getElem h⟩
      have hcl := cloneSt v.el (hb v (List.mem_of_getElem? he))
      have hlt : (vs.take i).length = i := by rw [List.length_take]; omega
      have htk : (vs.take (i + 1)).map encH = (vs.take i).map encH ++ [encH v] := by rw [List.take_add_one, he]; simp
      refine AW.seq (AW.block ?_)
      refine AW.st teOk [] (by simp [he, -Option.some.injEq] <;> rfl) ?_ ?_
      · first | trivial | omega | (simp; omega)
      refine AW.st teOk [.fz (.c (encSs v.el))] (by simp [-Option.some.injEq] <;> rfl) ?_ ?_
      · exact hcl
      refine AW.text teOk (ans := []) (by simp [-Option.some.injEq] <;> rfl) ?_ ?_
      · simp [growOk]
        omega
      refine AW.text teOk (ans := []) (by simp [-Option.some.injEq] <;> rfl) ?_ ?_
      · trivial
      refine ⟨_, _, Weak.normT hA [3, 6, 7, 8] [(3, 0)] [] 1 _ (by simp) (by simp) (by simp; rw [← List.map_take]; exact flat_encH _), ?_, i + 1, rfl, h, ?_⟩
      · omega
      · rw [htk]
        simp
        exact wrap_s i (by omega)
    · rw [decide_eq_false_iff_not] at h
      have : i = vs.length := by omega
      subst this
      exact ⟨_, Weak.normT hA [3] [(3, 0)] [] 1 _ (by simp) (by simp) (by simp), by simp⟩
  rintro s rfl
  refine AW.st teOk [] (by simp [-Option.some.injEq] <;> rfl) trivial ?_
  refine AW.ret ⟨.inr rfl, _, Weak.freeze 0 ⟨10, vs.map encH⟩ [] _ (by simp) (flat_encH _), ?_⟩
  simp
/-! ### Before -/
def cutR (ev r : Int) : Int := if ev ≤ r then 0 else r
def befO (ev : Int) (o : OpS) : OpS := { o with ret := cutR ev o.ret, res := if cutR ev o.ret = 0 then [] else o.res }
def befS (ops : List OpS) (ev : Int) : List OpS := (ops.filter fun o => decide (o.call < ev)).map (befO ev)
theorem befS_s {ops : List OpS} {i : Nat} {o : OpS} (ho : ops[i]? = some o) (ev : Int) : befS (ops.take (i + 1)) ev = if o.call < ev then befS (ops.take i) ev ++ [befO ev o] else befS (ops.take i) ev := by
  unfold befS
  rw [List.take_add_one, ho, Option.toList_some, List.filter_append]
  split
  · rename_i h; simp [h]
  · rename_i h; simp [h]
abbrev befSt (ops : List OpS) (ev : Int) (i : Nat) (W : List OpS) : St := ⟨[(1, .c (cI ev)), (4, .c (.ptr 0 0 0)), (5, .c (.ptr 1 0 0)), (9, .c (encOps ops)), (10, .c (cI ops.length)), (11, .c (cI i))], [(0, ⟨1, [[.sc (.slice none 0 0)]]⟩), (1, ⟨1, [[.ref 2 0 W.length]]⟩), (2, ⟨6, W.map encOp⟩)], 3⟩
theorem before_pure (ops : List OpS) (ev : Int) (hn : ops.length < 1000000) (hE : EfOk ops) (hR : ∀ o ∈ ops, o.res.length < 1000000 ∧ ∀ v ∈ o.res, v.el.length < 1000000000) : Pure Tryz.prog 19 [.agg (encHi ops), .c (cI ev)] (.agg (encHi (befS ops ev))) := by
  refine pure_of teOk Tryz.func19 (by kernel_rfl) (c := _) rfl (N := 44) rfl (rs := [Go.ResultVar.cell 4 26]) rfl (by simp) fun base A w0 hA => ?_
  refine AW.st teOk [] (by simp [-Option.some.injEq] <;> rfl) trivial ?_
  refine AW.st teOk [] (by simp [-Option.some.injEq] <;> rfl) trivial ?_
  refine AW.to (s2 := ⟨[(1, .c (cI ev)), (2, .c (.fad (encHi ops))), (4, .c (.ptr 0 0 0)), (5, .c (.ptr 1 0 0))], [(0, ⟨1, [[.sc (.slice none 0 0)]]⟩), (1, ⟨1, [[.sc (.slice none 0 0)]]⟩)], 2⟩) ((Weak.freeze 0 ⟨1, [encHi ops]⟩ [] _ (by simp) (flatOpsR ops)).trans (Weak.normS hA [1, 2, 4, 5] [(4, 0), (5, 1)] [] [] 2 _ (by simp) (by simp) (by simp [mapAt_nil]))) (by simp [mapAt_nil]) ?_
  refine AW.weak (Weak.nilO 1 0 6 (q := 1) (cs := [.sc (.slice none 0 0)]) _ (by simp) rfl (by simp)) ?_
  have hfin : befS (ops.take ops.length) ev = befS ops ev := by rw [List.take_length]
  refine AW.mid (fun s => s = ⟨[(4, .c (.ptr 0 0 0)), (5, .c (.ptr 1 0 0))], [(0, ⟨1, [[.sc (.slice none 0 0)]]⟩), (1, ⟨1, [[.ref 2 0 (befS ops ev).length]]⟩), (2, ⟨6, (befS ops ev).map encOp⟩)], 3⟩) ?_ ?_
  · refine AW.st teOk [] (by simp [-Option.some.injEq] <;> rfl) trivial ?_
    refine AW.block (AW.loop (fun m s => ∃ i : Nat, m = ops.length - i ∧ i ≤ ops.length ∧ s = befSt ops ev i (befS (ops.take i) ev)) _ (Weak.normS hA [1, 4, 5, 9, 10, 11] [(4, 0), (5, 1)] [(2, 2)] [1] 3 _ (by simp) (by simp) (by simp)) ⟨0, rfl, Nat.zero_le _, by simp [befS]⟩ ?_)
    rintro m s ⟨i, rfl, hi, rfl⟩
    have hWl : (befS (ops.take i) ev).length ≤ i := by
      unfold befS
      rw [List.length_map]
      exact Nat.le_trans (List.length_filter_le _ _) (by rw [List.length_take]; omega)
    refine AW.st teOk [] (by simp [-Option.some.injEq] <;> rfl) trivial ?_
    refine AW.seq ?_
    refine AW.iff (decide (i < ops.length)) (by simp) (fun h => AW.skip ?_) (fun h => AW.exit (x_then (x_then (blockA_exit ?_))))
    · rw [decide_eq_true_eq] at h
      obtain ⟨o, he⟩ : ∃ e, ops[i]? = some e := ⟨_, List.getElem?_eq_getElem h⟩
      have hm := List.mem_of_getElem? he
      have hef := hE o hm
      have hre := hR o hm
      have hs := befS_s he ev
      refine AW.mid (fun s => s = befSt ops ev i (befS (ops.take (i + 1)) ev)) (AW.block ?_) ?_
      · generalize befS (ops.take (i + 1)) ev = W' at *
        generalize befS (ops.take i) ev = W at *
        refine AW.st teOk [] (by simp [he, -Option.some.injEq] <;> rfl) ?_ ?_
        · first | trivial | omega | (simp; omega)
        refine AW.to (s2 := ⟨[(1, .c (cI ev)), (4, .c (.ptr 0 0 0)), (5, .c (.ptr 1 0 0)), (7, .c (.ptr 3 0 0)), (9, .c (encOps ops)), (10, .c (cI ops.length)), (11, .c (cI i))], [(0, ⟨1, [[.sc (.slice none 0 0)]]⟩), (1, ⟨1, [[.ref 2 0 W.length]]⟩), (2, ⟨6, W.map encOp⟩), (3, ⟨6, [encOp o]⟩)], 4⟩) (Weak.normS hA [1, 4, 5, 7, 9, 10, 11] [(4, 0), (5, 1), (7, 3)] [(2, 2)] [1] 4 _ (by simp) (by simp) (by simp; exact flatOpsM _)) (by simp) ?_
        refine AW.seq ?_
        refine AW.st teOk [] (by simp [-Option.some.injEq] <;> rfl) trivial ?_
        by_cases hce : o.call ≥ ev
        · refine AW.iff true (by simp [hce]) (fun _ => ?_) (fun h => by cases h)
          rw [if_neg (by omega)] at hs
          rw [hs]
          refine AW.exit (x_then (blockA_exit ?_))
          exact ⟨_, Weak.normS hA [1, 4, 5, 9, 10, 11] [(4, 0), (5, 1)] [(2, 2)] [1] 3 _ (by simp) (by simp) (by simp; exact flatOpsM _), by simp⟩
        refine AW.iff false (by simp [hce]) (fun h => by cases h) (fun _ => AW.skip ?_)
        rw [if_pos (by omega)] at hs
        have hcl := cloneEf o.ef (by omega)
        refine AW.st teOk [.fz (.c (.row 5 false (o.ef.map encE')))] (by simp [-Option.some.injEq] <;> rfl) ?_ ?_
        · exact hcl
        refine AW.mid (fun s => s = ⟨[(1, .c (cI ev)), (4, .c (.ptr 0 0 0)), (5, .c (.ptr 1 0 0)), (7, .c (.ptr 3 0 0)), (9, .c (encOps ops)), (10, .c (cI ops.length)), (11, .c (cI i))], [(0, ⟨1, [[.sc (.slice none 0 0)]]⟩), (1, ⟨1, [[.ref 2 0 W.length]]⟩), (2, ⟨6, W.map encOp⟩), (3, ⟨6, [encOp { o with ret := cutR ev o.ret }]⟩)], 4⟩) ?_ ?_
        · refine AW.st teOk [] (by simp [-Option.some.injEq] <;> rfl) trivial ?_
          by_cases hrr : o.ret ≥ ev
          · have hcr : cutR ev o.ret = 0 := if_pos hrr
            refine AW.iff true (by simp [hrr]) (fun _ => ?_) (fun h => by cases h)
            refine AW.text teOk (ans := []) (by simp [-Option.some.injEq] <;> rfl) ?_ ?_
            · trivial
            rw [hcr]
            exact ⟨_, Weak.normS hA [1, 4, 5, 7, 9, 10, 11] [(4, 0), (5, 1), (7, 3)] [(2, 2)] [1] 4 _ (by simp) (by simp) (by simp; exact flatOpsM _), by simp⟩
          · have hcr : cutR ev o.ret = o.ret := if_neg hrr
            refine AW.iff false (by simp [hrr]) (fun h => by cases h) (fun _ => AW.skip ?_)
            rw [hcr]
            exact ⟨_, Weak.normS hA [1, 4, 5, 7, 9, 10, 11] [(4, 0), (5, 1), (7, 3)] [(2, 2)] [1] 4 _ (by simp) (by simp) (by simp; exact flatOpsM _), by simp⟩
        rintro s rfl
        obtain ⟨r, hr⟩ : ∃ r, r = cutR ev o.ret := ⟨_, rfl⟩
        have hbo : befO ev o = { o with ret := r, res := if r = 0 then [] else o.res } := by rw [hr]; rfl
        rw [← hr]
        refine AW.mid (fun s => s = ⟨[(1, .c (cI ev)), (4, .c (.ptr 0 0 0)), (5, .c (.ptr 1 0 0)), (7, .c (.ptr 3 0 0)), (9, .c (encOps ops)), (10, .c (cI ops.length)), (11, .c (cI i))], [(0, ⟨1, [[.sc (.slice none 0 0)]]⟩), (1, ⟨1, [[.ref 2 0 W.length]]⟩), (2, ⟨6, W.map encOp⟩), (3, ⟨6, [encOp (befO ev o)]⟩)], 4⟩) ?_ ?_
        · refine AW.st teOk [] (by simp [-Option.some.injEq] <;> rfl) trivial ?_
          by_cases hr0 : r = 0
          · refine AW.iff true (by simp [hr0]) (fun _ => ?_) (fun h => by cases h)
            rw [hbo, if_pos hr0]
            refine AW.text teOk (ans := []) (by simp [-Option.some.injEq] <;> rfl) ?_ ?_
            · trivial
            exact ⟨_, (Weak.leO 3 _ (o := ⟨6, [[cI o.p, cI o.kind, .row 5 false (o.ef.map encE'), .sc (.slice none 0 0), cI o.call, cI r]]⟩) (o' := ⟨6, [encOp { o with ret := r, res := [] }]⟩) (by simp) rfl rfl (leCs_mid (a := []) (b := []) (.cons (.refl _) (.cons (.refl _) (.cons (.refl _) (.cons (.nil 10) (.cons (.refl _) (.cons (.refl _) .nil)))))))).trans (Weak.normS hA [1, 4, 5, 7, 9, 10, 11] [(4, 0), (5, 1), (7, 3)] [(2, 2)] [1] 4 _ (by simp) (by simp) (by simp; exact flatOpsM _)), by simp⟩
          · refine AW.iff false (by simp [hr0]) (fun h => by cases h) (fun _ => AW.skip ?_)
            rw [hbo, if_neg hr0]
            exact ⟨_, Weak.normS hA [1, 4, 5, 7, 9, 10, 11] [(4, 0), (5, 1), (7, 3)] [(2, 2)] [1] 4 _ (by simp) (by simp) (by simp; exact flatOpsM _), by simp⟩
        rintro s rfl
        have hrl : (befO ev o).res.length < 1000000 ∧ ∀ v ∈ (befO ev o).res, v.el.length < 1000000000 := by
          rw [hbo]
          show (if r = 0 then [] else o.res).length < 1000000 ∧ ∀ v ∈ (if r = 0 then [] else o.res), v.el.length < 1000000000
          split
          · exact ⟨by simp, fun v hv => by cases hv⟩
          · exact hre
        have hcv := cloneVals_pure (befO ev o).res hrl.1 hrl.2
        rw [hs]
        obtain ⟨b, hb⟩ : ∃ b, b = befO ev o := ⟨_, rfl⟩
        rw [← hb] at hcv ⊢
        refine AW.st teOk [.fz (.c (encHs b.res))] (by simp [-Option.some.injEq] <;> rfl) ?_ ?_
        · exact hcv
        refine AW.text teOk (ans := []) (by simp [-Option.some.injEq] <;> rfl) ?_ ?_
        · simp [growOk]
          omega
        exact ⟨_, Weak.normS hA [1, 4, 5, 9, 10, 11] [(4, 0), (5, 1)] [(12, 2)] [1] 3 _ (by simp) (by simp) (by simp; exact flatOpsM _), by simp⟩
      rintro s rfl
      refine AW.text teOk (ans := []) (by simp [-Option.some.injEq] <;> rfl) ?_ ?_
      · trivial
      refine ⟨_, _, Weak.normS hA [1, 4, 5, 9, 10, 11] [(4, 0), (5, 1)] [(2, 2)] [1] 3 _ (by simp) (by simp) (by simp; exact flatOpsM _), ?_, i + 1, rfl, h, ?_⟩
      · omega
      · simp
        exact wrap_s i (by omega)
    · rw [decide_eq_false_iff_not] at h
      have : i = ops.length := by omega
      rw [this, hfin]
      exact ⟨_, Weak.normS hA [4, 5] [(4, 0), (5, 1)] [(2, 2)] [1] 3 _ (by simp) (by simp) (by simp; exact flatOpsM _), by simp⟩
  rintro s rfl
  refine AW.st teOk [] (by simp [-Option.some.injEq] <;> rfl) ?_ ?_
  · trivial
  refine AW.ret ⟨.inr rfl, _, Weak.freeze 2 ⟨6, (befS ops ev).map encOp⟩ [0, 1] _ (by simp) (flatOpsM _), ?_⟩
  simp
end Go.Proofs.YtphlhadgcfndhaaGreat.Abs
end
section
namespace Go.Proofs.YtphlhadgcfndhaaGreat.Abs
open Go Go.RowKit
set_option linter.unusedVariables false
set_option linter.unusedSimpArgs false
set_option maxHeartbeats 4000000
set_option maxRecDepth 8000
theorem opAt_nat (ops : List OpS) (i : Nat) : opAt ops i = ops[i]? := by
  unfold opAt
  rw [if_pos (by omega), Int.toNat_natCast]
theorem finds_ints {N : Int} {ops : List OpS} {o : List Int} (hn : ops.length ≤ 10) (hE : OneEf ops) (hv : VT N ops) (hnd : o.Nodup) (hk : ∀ x ∈ o, ∃ b, opAt ops x = some b ∧ (reqB b = true ∨ b.kind = 1)) (hm : ∀ (i : Nat) (b : OpS), ops[i]? = some b → reqB b = true → (i : Int) ∈ o) (hord : o.Pairwise fun y x => preS ops x y = false) (hr : (runS ops [] o).isSome = true) : ∃ s, searchS ops = (coeL s, 0) := by
  obtain ⟨t, ht⟩ : ∃ t, t = o.map Int.toNat := ⟨_, rfl⟩
  have hco : coeL t = o := by
    rw [ht]
    unfold coeL
    rw [List.map_map]
    refine (List.map_congr_left (g := id) fun x hx => ?_).trans (List.map_id _)
    obtain ⟨b, hb, _⟩ := hk x hx
    have : 0 ≤ x := by
      unfold opAt at hb
      split at hb
      · assumption
      · cases hb
    show ((x.toNat : Nat) : Int) = x
    omega
  have hmem : ∀ i : Nat, i ∈ t ↔ (i : Int) ∈ o := fun i => by
    rw [← hco, coe_mem]
    exact ⟨fun h => ⟨i, h, rfl⟩, fun ⟨n, hn, e⟩ => by
      have : n = i := by omega
      exact this ▸ hn⟩
  rw [← hco] at hnd hord hr
  obtain ⟨s, h1, _, _⟩ := finds hn hE hv (t := t) (List.Pairwise.of_map (fun n : Nat => (n : Int)) (fun a b hab e => hab (by rw [e])) hnd) (fun i hi => by
    obtain ⟨b, hb, h⟩ := hk i ((hmem i).1 hi)
    rw [opAt_nat] at hb
    exact ⟨b, hb, h⟩) (fun i b hb h => (hmem i).2 (hm i b hb h)) (List.Pairwise.of_map (fun n : Nat => (n : Int)) (fun a b hab => hab) hord) hr
  exact ⟨s, h1⟩
theorem filter_take : ∀ {l : List OpS} (ev : Int), (l.map fun o => o.call).Pairwise (· < ·) → ∃ m, l.filter (fun o => decide (o.call < ev)) = l.take m ∧ ∀ (i : Nat) (o : OpS), l[i]? = some o → (o.call < ev ↔ i < m)
  | [], ev, _ => ⟨0, rfl, fun i o h => by simp at h⟩
  | a :: l, ev, h => by
    rw [List.map_cons, List.pairwise_cons] at h
    obtain ⟨m, h1, h2⟩ := filter_take (l := l) ev h.2
    by_cases ha : a.call < ev
    · refine ⟨m + 1, by rw [List.filter_cons, if_pos (by simpa using ha), h1]; rfl, fun i o ho => ?_⟩
      cases i with
      | zero =>
        cases ho
        exact ⟨fun _ => by omega, fun _ => ha⟩
      | succ i =>
        have := h2 i o (by simpa using ho)
        omega
    · have hall : ∀ o ∈ l, ¬ o.call < ev := fun o ho => by
        have := h.1 o.call (List.mem_map.2 ⟨o, ho, rfl⟩)
        omega
      refine ⟨0, ?_, fun i o ho => ?_⟩
      · rw [List.take_zero, List.filter_eq_nil_iff]
        intro o ho
        rcases List.mem_cons.1 ho with rfl | ho
        · simpa using ha
        · simpa using hall o ho
      · cases i with
        | zero =>
          cases ho
          exact ⟨fun h => absurd h ha, fun h => by omega⟩
        | succ i => exact ⟨fun h' => absurd h' (hall o (List.mem_of_getElem? (by simpa using ho))), fun h => by omega⟩
theorem bef_get {N : Int} {ops : List OpS} (hv : VT N ops) (ev : Int) : ∃ m, ∀ i : Nat, (befS ops ev)[i]? = (if i < m then (ops[i]?).map (befO ev) else none) ∧ ∀ o, ops[i]? = some o → (o.call < ev ↔ i < m) := by
  obtain ⟨m, h1, h2⟩ := filter_take ev hv.asc
  refine ⟨m, fun i => ⟨?_, fun o ho => h2 i o ho⟩⟩
  unfold befS
  rw [h1, List.getElem?_map, List.getElem?_take]
  split <;> rfl
def keepB (B : List OpS) (x : Int) : Bool := match opAt B x with
  | some b => b.kind == 1 || (b.kind == 2 && b.ret != 0)
  | none => false
theorem run_ups {B : List OpS} : ∀ (l : List Int) (vs : List HV), (∀ x ∈ l, ∃ b, opAt B x = some b ∧ b.kind = 1) → (runS B vs l).isSome = true
  | [], _, _ => rfl
  | x :: l, vs, h => by
    obtain ⟨b, hb, hk⟩ := h x (by simp)
    rw [runS, hb]
    simp only
    rw [if_pos (by unfold okV; rw [if_neg (by omega)])]
    exact run_ups l _ fun y hy => h y (by simp [hy])
theorem bef_prefix {N : Int} {F : List OpS} {O : List Int} (hn : F.length ≤ 10) (hE : OneEf F) (hK : KiOk F) (hv : VT N F) (hc : ChkOk F O) (hr : (runS F [] O).isSome = true) (ev : Int) : ∃ s, searchS (befS F ev) = (coeL s, 0) := by
  obtain ⟨m, hB⟩ := bef_get hv ev
  have hBl : (befS F ev).length ≤ F.length := by
    unfold befS
    rw [List.length_map]
    exact List.length_filter_le _ _
  have hmemB : ∀ b ∈ befS F ev, ∃ o ∈ F, b = befO ev o := fun b hb => by
    obtain ⟨o, ho, rfl⟩ := List.mem_map.1 hb
    exact ⟨o, (List.mem_filter.1 ho).1, rfl⟩
  have hBE : OneEf (befS F ev) := fun b hb => by
    obtain ⟨o, ho, rfl⟩ := hmemB b hb
    exact hE o ho
  have hBV : VT N (befS F ev) := by
    refine ⟨?_, fun b hb => ?_⟩
    · unfold befS
      rw [List.map_map]
      have e : ((fun o : OpS => o.call) ∘ befO ev) = fun o : OpS => o.call := rfl
      rw [e]
      exact hv.asc.sublist (List.Sublist.map _ List.filter_sublist)
    · obtain ⟨o, ho, rfl⟩ := hmemB b hb
      have := hv.el o ho
      refine ⟨this.1, this.2.1, ?_⟩
      show cutR ev o.ret = 0 ∨ o.call < cutR ev o.ret ∧ cutR ev o.ret ≤ N
      unfold cutR
      split
      · exact .inl rfl
      · exact this.2.2
  have hat : ∀ (x : Int) (o : OpS), opAt F x = some o → opAt (befS F ev) x = (if x.toNat < m then some (befO ev o) else none) ∧ (o.call < ev ↔ x.toNat < m) := fun x o ho => by
    have h0 : 0 ≤ x := by
      unfold opAt at ho
      split at ho
      · assumption
      · cases ho
    unfold opAt at ho ⊢
    rw [if_pos h0] at ho ⊢
    obtain ⟨h1, h2⟩ := hB x.toNat
    rw [h1, ho]
    exact ⟨rfl, h2 o ho⟩
  have hpre : ∀ x y : Int, preS F x y = false → preS (befS F ev) x y = false := fun x y h => by
    cases hb : preS (befS F ev) x y with
    | false => rfl
    | true =>
      exfalso
      unfold preS at hb
      have hsome : ∀ z b, opAt (befS F ev) z = some b → ∃ o, opAt F z = some o ∧ b = befO ev o := fun z b hz => by
        unfold opAt at hz ⊢
        split at hz
        · rename_i h0
          obtain ⟨h1, _⟩ := hB z.toNat
          rw [h1] at hz
          split at hz
          · cases hF : F[z.toNat]? with
            | none => rw [hF] at hz; cases hz
            | some o =>
              rw [hF] at hz
              cases hz
              exact ⟨o, by rw [if_pos h0], rfl⟩
          · cases hz
        · cases hz
      cases hx : opAt (befS F ev) x with
      | none => rw [hx] at hb; cases hb
      | some a =>
        cases hy : opAt (befS F ev) y with
        | none => rw [hx, hy] at hb; cases hb
        | some b =>
          rw [hx, hy] at hb
          obtain ⟨o, ho, rfl⟩ := hsome x a hx
          obtain ⟨p, hp, rfl⟩ := hsome y b hy
          unfold preS at h
          rw [ho, hp] at h
          simp only [preB, Bool.and_eq_true, bne_iff_ne, ne_eq, decide_eq_true_eq] at hb
          have hb1 : cutR ev o.ret ≠ 0 ∧ cutR ev o.ret < p.call := hb
          unfold cutR at hb1
          split at hb1
          · exact absurd rfl hb1.1
          · simp [preB, hb1] at h
  have run : ∀ (l : List Int) (vs : List HV), (∀ x ∈ l, inR F.length x = true) → (l.Pairwise fun y x => preS F x y = false) → (runS F vs l).isSome = true → (runS (befS F ev) vs (l.filter (keepB (befS F ev)))).isSome = true := by
    intro l
    induction l with
    | nil => intro vs _ _ _; rfl
    | cons x l ih =>
      intro vs hin hp hrn
      rw [List.pairwise_cons] at hp
      obtain ⟨o, ho, _⟩ := opAt_some (hin x (by simp))
      obtain ⟨h1, h2⟩ := hat x o ho
      have hinl : ∀ y ∈ l, inR F.length y = true := fun y hy => hin y (by simp [hy])
      rw [runS, ho] at hrn
      simp only at hrn
      have hok : okV vs o = true := by
        by_cases h : okV vs o = true
        · exact h
        · rw [if_neg h] at hrn; cases hrn
      rw [if_pos hok] at hrn
      rw [List.filter_cons]
      by_cases hxm : x.toNat < m
      · rw [if_pos hxm] at h1
        have hkb : keepB (befS F ev) x = (o.kind == 1 || (o.kind == 2 && cutR ev o.ret != 0)) := by unfold keepB; rw [h1]; rfl
        have hst : stepV vs (befO ev o) = stepV vs o := rfl
        rcases hK o (by unfold opAt at ho; split at ho; exact List.mem_of_getElem? ho; cases ho) with hk | hk | hk
        · rw [hkb, if_pos (by simp [hk]), runS, h1]
          simp only
          rw [if_pos (by unfold okV; rw [if_neg (by show ¬ o.kind = 2; omega)]), hst]
          exact ih _ hinl hp.2 hrn
        · have hs0 : stepV vs o = vs := by unfold stepV; rw [if_neg (by omega)]
          rw [hs0] at hrn
          by_cases hc0 : cutR ev o.ret = 0
          · rw [hkb, if_neg (by simp [hk, hc0])]
            exact ih _ hinl hp.2 hrn
          · rw [hkb, if_pos (by simp [hk, hc0]), runS, h1]
            simp only
            have hres : (befO ev o).res = o.res := by show (if cutR ev o.ret = 0 then [] else o.res) = _; rw [if_neg hc0]
            have hok' : okV vs (befO ev o) = true := by
              unfold okV at hok ⊢
              rw [if_pos hk] at hok
              rw [if_pos (show (befO ev o).kind = 2 from hk), hres]
              exact hok
            rw [if_pos hok', hst, hs0]
            exact ih _ hinl hp.2 hrn
        · have hs0 : stepV vs o = vs := by unfold stepV; rw [if_neg (by omega)]
          rw [hs0] at hrn
          rw [hkb, if_neg (by simp [hk])]
          exact ih _ hinl hp.2 hrn
      · rw [if_neg hxm] at h1
        have hkb : keepB (befS F ev) x = false := by unfold keepB; rw [h1]
        rw [hkb, if_neg (by simp)]
        refine run_ups _ _ fun y hy => ?_
        obtain ⟨hyl, hyk⟩ := List.mem_filter.1 hy
        obtain ⟨p, hpo, _⟩ := opAt_some (hinl y hyl)
        obtain ⟨g1, g2⟩ := hat y p hpo
        unfold keepB at hyk
        rw [g1] at hyk ⊢
        split at hyk
        · rename_i b hb
          split at hb
          · rename_i hym
            cases hb
            refine ⟨befO ev p, by rw [if_pos hym], ?_⟩
            have hyx := hp.1 y hyl
            unfold preS at hyx
            rw [hpo, ho] at hyx
            simp only [Bool.or_eq_true, Bool.and_eq_true, beq_iff_eq, bne_iff_ne, ne_eq] at hyk
            rcases hyk with h | ⟨_, h⟩
            · exact h
            · exfalso
              have hcr : cutR ev p.ret ≠ 0 := h
              unfold cutR at hcr
              split at hcr
              · exact hcr rfl
              · have : ¬ o.call < ev := fun h => hxm (h2.1 h)
                simp [preB, hcr] at hyx
                omega
          · cases hb
        · cases hyk
  refine finds_ints (by omega) hBE hBV (hc.nd.sublist List.filter_sublist) (fun x hx => ?_) (fun i b hb hrb => ?_) ?_ (run O [] hc.rng hc.ord hr)
  · obtain ⟨hxo, hxk⟩ := List.mem_filter.1 hx
    unfold keepB at hxk
    cases hb : opAt (befS F ev) x with
    | none => rw [hb] at hxk; cases hxk
    | some b =>
      rw [hb] at hxk
      refine ⟨b, rfl, ?_⟩
      simp only [Bool.or_eq_true, Bool.and_eq_true, beq_iff_eq, bne_iff_ne, ne_eq] at hxk
      rcases hxk with h | ⟨h, h'⟩
      · exact .inr h
      · exact .inl (by simp [reqB, h, h'])
  · have hb' : opAt (befS F ev) i = some b := by rw [opAt_nat]; exact hb
    obtain ⟨h1, h2⟩ := hB i
    rw [hb] at h1
    split at h1
    · cases hF : F[i]? with
      | none => rw [hF] at h1; cases h1
      | some o =>
        rw [hF] at h1
        have hbo : b = befO ev o := Option.some.inj h1
        have hbk : b.kind = o.kind := by rw [hbo]; rfl
        have hbr : b.ret = cutR ev o.ret := by rw [hbo]; rfl
        simp only [reqB, Bool.and_eq_true, bne_iff_ne, ne_eq] at hrb
        refine List.mem_filter.2 ⟨hc.mis i o hF ?_, ?_⟩
        · have : o.ret ≠ 0 := fun e => hrb.2 (by rw [hbr, e]; unfold cutR; split <;> rfl)
          have : o.kind ≠ 3 := by rw [← hbk]; exact hrb.1
          simp [reqB, *]
        · unfold keepB
          rw [hb']
          simp only [Bool.or_eq_true, Bool.and_eq_true, beq_iff_eq, bne_iff_ne, ne_eq]
          have hk := hK o (List.mem_of_getElem? hF)
          rw [← hbk] at hk
          rcases hk with hk | hk | hk
          · exact .inl hk
          · exact .inr ⟨hk, hrb.2⟩
          · exact absurd hk hrb.1
    · cases h1
  · exact (hc.ord.sublist List.filter_sublist).imp fun {a b} h => hpre b a h
theorem fill_res : ∀ (l : List Int) (ops : List OpS) (vs : List HV) (N : Nat), ElOk N vs → vs.length ≤ N → EfOk ops → (∀ o ∈ ops, ElOk (N + 10 * l.length) o.res ∧ o.res.length ≤ N + 10 * l.length) → ∀ o ∈ fillS ops vs l, ElOk (N + 10 * l.length) o.res ∧ o.res.length ≤ N + 10 * l.length
  | [], ops, vs, N, _, _, _, h => h
  | x :: l, ops, vs, N, hv, hl, hE, h => by
    rw [fillS]
    cases ho : opAt ops x with
    | none => exact h
    | some o =>
      have hm : o ∈ ops := opAt_mem ho
      have hN : N + 10 * (x :: l).length = (N + 10) + 10 * l.length := by simp; omega
      rw [hN] at h ⊢
      have mono : ∀ {a b : Nat}, a ≤ b → ∀ {q : List HV}, ElOk a q → ElOk b q := fun hab q hq v hv => ⟨(hq v hv).1, Nat.le_trans (hq v hv).2 hab⟩
      simp only
      split
      · rename_i hk1
        have hst : ElOk (N + 10) (stepV vs o) ∧ (stepV vs o).length ≤ N + 10 := by
          have he := hE o hm
          unfold stepV
          rw [if_pos hk1]
          · have key : ∀ (es : List EfS) (v : List HV) (M : Nat), ElOk M v → v.length ≤ M → ElOk (M + es.length) (es.foldl applyV v) ∧ (es.foldl applyV v).length ≤ M + es.length := by
              intro es
              induction es with
              | nil => intro v M h1 h2; exact ⟨h1, h2⟩
              | cons e es ih =>
                intro v M h1 h2
                have := applyV_len v e
                have := ih (applyV v e) (M + 1) (applyV_el h1 e) (by omega)
                simp only [List.foldl_cons, List.length_cons]
                rw [show M + (es.length + 1) = M + 1 + es.length by omega]
                exact this
            obtain ⟨k1, k2⟩ := key o.ef vs N hv hl
            exact ⟨mono (by omega) k1, by omega⟩
        exact fill_res l ops _ (N + 10) hst.1 hst.2 hE h
      · refine fill_res l _ vs (N + 10) (mono (by omega) hv) (by omega) (fun q hq => ?_) fun q hq => ?_
        · rcases List.mem_or_eq_of_mem_set hq with hq | rfl
          · exact hE q hq
          · exact hE o hm
        · rcases List.mem_or_eq_of_mem_set hq with hq | rfl
          · exact h q hq
          · exact ⟨mono (by omega) hv, by show vs.length ≤ _; omega⟩
theorem timesE_res {ops : List OpS} (h : ∀ o ∈ ops, o.res = []) (n ev : Int) : ∀ o ∈ timesE ops n ev, o.res = [] := by
  have hnew : ∀ o ∈ ops ++ [newO n ev], o.res = [] := fun o ho => by
    rcases List.mem_append.1 ho with ho | ho
    · exact h o ho
    · rw [List.mem_singleton.1 ho]; rfl
  unfold timesE
  split
  · rename_i o ho
    split
    · intro q hq
      rcases List.mem_or_eq_of_mem_set hq with hq | rfl
      · exact h q hq
      · exact h o (opAt_mem ho)
    · exact hnew
  · exact hnew
theorem timesS_res (l : List Int) : ∀ i, ∀ o ∈ timesS l i, o.res = []
  | 0 => fun o h => by cases h
  | i + 1 => timesE_res (timesS_res l i) _ _
theorem short_res (l ch : List Int) (n : Nat) (hn : n ≤ 10) : ∀ o ∈ fillS (shortS l n) [] (orderS (shortS l n) ch), o.res.length < 1000000 ∧ ∀ v ∈ o.res, v.el.length < 1000000000 := fun o ho => by
  have hOl := orderS_len (shortS l n) ch
  obtain ⟨_, hE, hS1, _⟩ := shortS_ok l n
  obtain ⟨h1, h2⟩ := fill_res (orderS (shortS l n) ch) (shortS l n) [] 0 (fun v h => by cases h) (Nat.le_refl _) hE (fun q hq => by
    rw [timesS_res l _ q (List.mem_of_mem_take hq)]
    exact ⟨fun v h => (by cases h), by simp⟩) o ho
  exact ⟨by omega, fun v hv => by have := (h1 v hv).2; omega⟩
theorem prefL_pure (l ch : List Int) (event : Int) (hl : l.length < 4000000000000000000) (hc : ch.length < 4000000000000000000) : Pure Tryz.prog 7 [.c (encis l), .c (encis ch), .c (cI event)] (.c (cB true)) := by
  refine pure_of teOk Tryz.func7 (by kernel_rfl) (c := _) rfl (N := 35) rfl (rs := [Go.ResultVar.tmp 6]) rfl (by simp) fun base A w0 hA => ?_
  have hres := short_res l ch 7 (by omega)
  obtain ⟨O, F, hO, hF, hOl, hFl, hE, hin, hFE, hFK, hF1, hFV, hC, hR, hrp⟩ := short_facts l ch 7 (by omega)
  obtain ⟨ev, hev⟩ : ∃ ev, ev = indexI event 40 := ⟨_, rfl⟩
  obtain ⟨s, hs1⟩ := bef_prefix (by omega) hF1 hFK hFV hC hR ev
  have hS8 := (shortS_ok l 7).2.2.1
  have hsh := short_pure l ch 7 hl hc (by omega)
  have hfp := fill_pure (shortS l 7) O (by omega) (by omega) hE hin
  rw [← hO] at hsh hres
  rw [← hF] at hfp hres
  have hBE : EfOk (befS F ev) := fun b hb => by
    obtain ⟨o, ho, rfl⟩ := List.mem_map.1 hb
    exact hFE o (List.mem_filter.1 ho).1
  have hBl : (befS F ev).length ≤ F.length := by
    unfold befS
    rw [List.length_map]
    exact List.length_filter_le _ _
  have hbp := before_pure F ev (by omega) hFE hres
  have hsp := search_pure (befS F ev) hBE (by omega)
  rw [hs1] at hsp
  have hip := index_pure event 40
  rw [← hev] at hip
  generalize shortS l 7 = S at *
  generalize coeL s = X at *
  generalize befS F ev = B at *
  refine AW.st teOk [] (by simp [-Option.some.injEq] <;> rfl) trivial ?_
  refine AW.st teOk [.fz (.tup [.agg (encHi S), .c (encis O)])] (by simp [-Option.some.injEq] <;> rfl) ?_ ?_
  · exact hsh
  refine AW.st teOk [.fz (.agg (encHi F))] (by simp [-Option.some.injEq] <;> rfl) ?_ ?_
  · exact hfp
  refine AW.dr mixed teOk [.c (cI ev), .agg (encHi B)] (by simp [-Option.some.injEq] <;> rfl) (by kernel_rfl) (by kernel_rfl) ?_ ?_
  · simp [allP]
    exact ⟨hip, hbp⟩
  refine AW.st teOk [.fz (.tup [.c (encis X), .c (cI 0)])] (by simp [-Option.some.injEq] <;> rfl) ?_ ?_
  · exact hsp
  refine AW.st teOk [.fz (.c (cB true))] (by simp [-Option.some.injEq] <;> rfl) ?_ ?_
  · exact awake39_pure
  exact AW.ret ⟨.inr rfl, _, Weak.refl _, by simp⟩
theorem prefL_row (l ch : List Int) (event : Int) (hl : l.length < 4000000000000000000) (hc : ch.length < 4000000000000000000) {p : Prop} (_ : p) : Pure Tryz.prog 7 [.c (.row 1 false (l.map fun n : Int => [.sc (.int .i64 n)])), .c (.row 1 false (ch.map fun n : Int => [.sc (.int .i64 n)])), .c (.sc (.int .i64 event))] (.c (.sc (.bool true))) := prefL_pure l ch event hl hc
end Go.Proofs.YtphlhadgcfndhaaGreat.Abs
end
section
namespace Go.Proofs.YtphlhadgcfndhaaGreat.Abs
open Go Go.RowKit
set_option linter.unusedVariables false
set_option linter.unusedSimpArgs false
def missN (ops : List OpS) (order : List Int) (k : Nat) : Nat := (List.range k).countP fun i : Nat => match ops[i]? with
  | some o => reqB o && !order.contains (i : Int)
  | none => false
def canB (ops : List OpS) (order : List Int) (sp i : Nat) (o : OpS) : Bool := !(o.kind == 3) && !order.contains (i : Int) && (reqB o || (sp != 0 && o.kind == 1)) && freeF ops order o
def extL (f : List Int → List HV → Nat → Option (List Int)) (ops : List OpS) (order : List Int) (vs : List HV) (sp : Nat) : List Nat → Option (List Int)
  | [] => none
  | i :: is => match ops[i]? with
    | none => extL f ops order vs sp is
    | some o => if (canB ops order sp i o && okV vs o) = true then
        (match f (order ++ [(i : Int)]) (stepV vs o) (if reqB o = true then sp else sp - 1) with
        | some s => some s
        | none => extL f ops order vs sp is)
      else extL f ops order vs sp is
def extS (ops : List OpS) : Nat → List Int → List HV → Nat → Option (List Int)
  | 0, _, _, _ => none
  | n + 1, order, vs, sp => if sp + missN ops order ops.length = 0 then some order else extL (extS ops n) ops order vs sp (List.range ops.length)
theorem coe_contains (l : List Nat) (i : Nat) : (coeL l).contains (i : Int) = decide (i ∈ l) := by
  rw [Bool.eq_iff_iff, List.contains_iff_mem, coe_mem, decide_eq_true_eq]
  exact ⟨fun ⟨n, hn, e⟩ => by
    have : n = i := by omega
    exact this ▸ hn, fun h => ⟨i, h, rfl⟩⟩
theorem miss_compl {ops : List OpS} (hn : ops.length ≤ 10) {l : List Nat} {x : List Int} {vs : List HV} (hp : Path ops l x vs) : missN ops (coeL l) ops.length = 0 ↔ complB ops x = true := by
  rw [compl_of hn hp]
  unfold missN
  rw [List.countP_eq_zero]
  refine ⟨fun h i o ho hr => ?_, fun h i hi => ?_⟩
  · have := h i (List.mem_range.2 (List.getElem?_eq_some_iff.1 ho).1)
    rw [ho] at this
    simp only [hr, coe_contains] at this
    simpa using this
  · have hi := List.mem_range.1 hi
    rw [List.getElem?_eq_getElem hi]
    simp only [coe_contains]
    cases hr : reqB ops[i] with
    | false => simp
    | true =>
      have := h i ops[i] (List.getElem?_eq_getElem hi) hr
      simp [this]
theorem may_can {ops : List OpS} (hn : ops.length ≤ 10) {l : List Nat} {x : List Int} {vs : List HV} (hp : Path ops l x vs) {sp i : Nat} {o : OpS} (ho : ops[i]? = some o) : canB ops (coeL l) sp i o = mayB ops x sp i := by
  have hi := (List.getElem?_eq_some_iff.1 ho).1
  have hblk : freeF ops (coeL l) o = !blkB ops x i := by
    rw [Bool.eq_iff_iff]
    unfold freeF
    rw [List.all_eq_true, Bool.not_eq_true']
    have hl : ∀ (q : Nat) (p : OpS), ops[q]? = some p → (ops.take q).length = q := fun q p hq => by
      rw [List.length_take]
      have := (List.getElem?_eq_some_iff.1 hq).1
      omega
    have hpre : ∀ (q : Nat) (p : OpS), ops[q]? = some p → preS ops q i = preB p o := fun q p hq => preS_nat hq ho
    refine ⟨fun h => anyAt_no fun q p hq => ?_, fun h q hq => ?_⟩
    · have := h q (List.mem_range.2 (List.getElem?_eq_some_iff.1 hq).1)
      unfold badF at this
      rw [hq] at this
      simp only [coe_contains] at this
      rw [hl q p hq, hp.wt hn, hpre q p hq]
      cases hr : reqB p <;> cases hb : preB p o <;> simp [hr, hb] at this ⊢
      exact this
    · have hq := List.mem_range.1 hq
      have hqs := List.getElem?_eq_getElem hq
      have := anyAt_not h hqs
      rw [hl q _ hqs, hp.wt hn, hpre q _ hqs] at this
      unfold badF
      rw [hqs]
      simp only [coe_contains]
      cases hr : reqB ops[q] <;> cases hb : preB ops[q] o <;> simp [hr, hb] at this ⊢
      exact this
  unfold canB mayB
  rw [ho]
  simp only
  rw [hblk, coe_contains, hp.wt hn]
  cases hr : reqB o with
  | true =>
    have : (o.kind == 3) = false := by
      simp only [reqB, Bool.and_eq_true, bne_iff_ne, ne_eq] at hr
      simpa using hr.1
    simp [this]
  | false =>
    by_cases hk : o.kind = 1
    · simp [hk]
    · have : (o.kind == 1) = false := by simpa using hk
      simp [this]
/-- Where no fewer pending operations do, the reference's search is this one. -/
theorem ext_dfs {ops : List OpS} (hn : ops.length ≤ 10) (sp0 : Nat) (hmin : ∀ p, p < sp0 → dfs ops 11 x0 [] p = none) : ∀ (n : Nat) (l : List Nat) (x : List Int) (vs : List HV) (sp : Nat), Path ops l x vs → sp + costL ops l = sp0 → n + l.length = 11 → (∀ t sp', Can ops x vs sp' t → Can ops x0 [] (sp' + costL ops l) (l ++ t)) → extS ops n (coeL l) vs sp = (dfs ops n x vs sp).map fun s => coeL (l ++ s)
  | 0, l, x, vs, sp, _, _, _, _ => rfl
  | n + 1, l, x, vs, sp, hp, hs, hl, hC => by
    unfold extS dfs
    have hmc := miss_compl hn hp
    by_cases hc : complB ops x = true
    · have hm := hmc.2 hc
      have hsp : sp = 0 := by
        have hcan := hC [] 0 hc
        rw [List.append_nil, Nat.zero_add] at hcan
        have hd := dfs_complete 11 _ _ _ l hcan (by omega)
        by_cases h : costL ops l < sp0
        · rw [hmin _ h] at hd; cases hd
        · omega
      rw [if_pos (by omega), if_pos hc]
      simp
    · have hm : missN ops (coeL l) ops.length ≠ 0 := fun h => hc (hmc.1 h)
      rw [if_neg (by omega), if_neg hc]
      have key : ∀ is : List Nat, extL (extS ops n) ops (coeL l) vs sp is = (dfsL (dfs ops n) ops x vs sp is).map fun s => coeL (l ++ s) := by
        intro is
        induction is with
        | nil => rfl
        | cons i is ih =>
          unfold extL dfsL
          cases ho : ops[i]? with
          | none => exact ih
          | some o =>
            simp only
            rw [may_can hn hp ho]
            by_cases hm : (mayB ops x sp i && okV vs o) = true
            · rw [if_pos hm, if_pos hm]
              rw [Bool.and_eq_true] at hm
              have hni := wait_not hn hp hm.1
              have hcs := mayB_sp hm.1 ho
              have hco : coeL l ++ [(i : Int)] = coeL (l ++ [i]) := (coeL_app l [i]).symm
              have hcost : (if reqB o = true then sp else sp - 1) = sp - costB o := by
                obtain ⟨hk, _⟩ := may_split hm.1 ho
                cases hr : reqB o with
                | true =>
                  have : o.ret ≠ 0 := by
                    simp only [reqB, Bool.and_eq_true, bne_iff_ne, ne_eq] at hr
                    exact hr.2
                  simp [costB, this]
                | false =>
                  have hk1 : o.kind = 1 := hk.resolve_left (by simp [hr])
                  have hret : o.ret = 0 := by simpa [reqB, hk1] using hr
                  simp [costB, hret]
              have hrec := ext_dfs hn sp0 hmin n (l ++ [i]) (afterB ops x i) (stepV vs o) (sp - costB o) (hp.snoc hni ho) (by rw [costL_snoc ho]; omega) (by rw [List.length_append, List.length_singleton]; omega) (fun t sp' ht => by
                have hcan : Can ops x vs (sp' + costB o) (i :: t) := by
                  refine ⟨o, ho, ?_, hm.2, by rw [Nat.add_sub_cancel]; exact ht⟩
                  have h1 := hm.1
                  unfold mayB at h1 ⊢
                  rw [ho] at h1 ⊢
                  simp only [Bool.and_eq_true, Bool.or_eq_true] at h1 ⊢
                  refine ⟨⟨h1.1.1, ?_⟩, h1.2⟩
                  rcases h1.1.2 with h | h
                  · exact .inl h
                  · cases hr : reqB o with
                    | true => exact .inl rfl
                    | false =>
                      have hk1 : o.kind = 1 := by simpa using h.1
                      have hret : o.ret = 0 := by simpa [reqB, hk1] using hr
                      refine .inr ⟨h.1, ?_⟩
                      simp [costB, hret]
                have := hC _ _ hcan
                rw [costL_snoc ho, List.append_assoc]
                rw [show sp' + (costL ops l + costB o) = sp' + costB o + costL ops l by omega]
                exact this)
              rw [hco, hcost, hrec]
              cases hd : dfs ops n (afterB ops x i) (stepV vs o) (sp - costB o) with
              | none => exact ih
              | some s => simp
            · rw [if_neg hm, if_neg hm]
              exact ih
      exact key _
/-- The reference's search. -/
def pendN (ops : List OpS) : Nat := ops.countP fun o => o.kind == 1 && o.ret == 0
def rsearchL (ops : List OpS) : List Nat → Option (List Int)
  | [] => none
  | sp :: r => match extS ops 11 [] [] sp with
    | some s => some s
    | none => rsearchL ops r
def rsearchS (ops : List OpS) : List Int × Int := if 10 < ops.length then ([], 3) else match rsearchL ops (List.range (pendN ops + 1)) with
  | some l => (l, 0)
  | none => ([], 6)
theorem ext_level {ops : List OpS} (hn : ops.length ≤ 10) (sp : Nat) (hmin : ∀ p, p < sp → dfs ops 11 x0 [] p = none) : extS ops 11 [] [] sp = (dfs ops 11 x0 [] sp).map coeL := by
  have := ext_dfs hn sp hmin 11 [] x0 [] sp .nil (by simp [costL]) rfl fun t sp' h => by
    have : costL ops [] = 0 := rfl
    rw [this]
    exact h
  exact this
theorem rsearchL_dfs {ops : List OpS} (hn : ops.length ≤ 10) (N : Nat) : ∀ (k m : Nat), m + k = N → (∀ p, p < m → dfs ops 11 x0 [] p = none) → rsearchL ops ((List.range N).drop m) = (dfsS ops ((List.range N).drop m)).map coeL
  | 0, m, hm, _ => by
    rw [List.drop_eq_nil_of_le (by simp; omega)]
    rfl
  | k + 1, m, hm, hp => by
    have hdr : (List.range N).drop m = m :: (List.range N).drop (m + 1) := by rw [List.drop_eq_getElem_cons (by simp; omega), List.getElem_range]
    rw [hdr, rsearchL, dfsS, ext_level hn m hp]
    cases hd : dfs ops 11 x0 [] m with
    | some s => rfl
    | none =>
      simp only [Option.map_none]
      refine rsearchL_dfs hn N k (m + 1) (by omega) fun p hp' => ?_
      by_cases e : p = m
      · rw [e]; exact hd
      · exact hp p (by omega)
theorem dfsS_app {ops : List OpS} : ∀ (a b : List Nat), dfsS ops (a ++ b) = match dfsS ops a with
    | some s => some s
    | none => dfsS ops b
  | [], b => rfl
  | sp :: a, b => by
    simp only [List.cons_append, dfsS]
    cases dfs ops 11 x0 [] sp with
    | some s => rfl
    | none => exact dfsS_app a b
theorem nodup_le {l m : List Nat} (h : l.Nodup) (hm : m.Nodup) (hs : ∀ x ∈ l, x ∈ m) : l.length ≤ m.length := by
  have hp : l.Perm (m.filter fun i => decide (i ∈ l)) := (List.perm_ext_iff_of_nodup h (hm.sublist List.filter_sublist)).2 fun i => by
    rw [List.mem_filter, decide_eq_true_eq]
    exact ⟨fun h => ⟨hs i h, h⟩, fun h => h.2⟩
  rw [hp.length_eq]
  exact List.length_filter_le _ _
theorem countP_idx {α : Type} (p : α → Bool) : ∀ (l : List α), l.countP p = (List.range l.length).countP fun i => match l[i]? with
    | some o => p o
    | none => false
  | [] => rfl
  | a :: l => by
    rw [List.countP_cons, List.length_cons, List.range_succ_eq_map, List.countP_cons, List.countP_map, countP_idx p l]
    congr 1
theorem search_eq {N : Int} {ops : List OpS} (hn : ops.length ≤ 10) (hE : OneEf ops) (hv : VT N ops) : rsearchS ops = searchS ops := by
  rw [searchS_dfs hn hE]
  unfold rsearchS
  rw [if_neg (by omega)]
  have h0 := rsearchL_dfs hn (pendN ops + 1) (pendN ops + 1) 0 (by omega) fun p hp => by omega
  rw [List.drop_zero] at h0
  rw [h0]
  have hpn : pendN ops ≤ ops.length := List.countP_le_length
  have hsp : List.range (ops.length + 1) = List.range (pendN ops + 1) ++ (List.range (ops.length + 1)).drop (pendN ops + 1) := by
    have h1 := List.take_append_drop (pendN ops + 1) (List.range (ops.length + 1))
    rw [List.take_range, show min (pendN ops + 1) (ops.length + 1) = pendN ops + 1 by omega] at h1
    exact h1.symm
  rw [hsp, dfsS_app]
  cases hd : dfsS ops (List.range (pendN ops + 1)) with
  | some s => rfl
  | none =>
    simp only [Option.map_none]
    have hall : ∀ p, p < pendN ops + 1 → dfs ops 11 x0 [] p = none := by
      intro p hp
      cases hq : dfs ops 11 x0 [] p with
      | none => rfl
      | some s =>
        obtain ⟨q, s', _, _, h, _⟩ := dfsS_first (N := pendN ops + 1) hp (by rw [hq]; rfl)
        rw [hd] at h
        cases h
    have hno : dfsS ops ((List.range (ops.length + 1)).drop (pendN ops + 1)) = none := by
      cases hq : dfsS ops ((List.range (ops.length + 1)).drop (pendN ops + 1)) with
      | none => rfl
      | some s =>
        exfalso
        obtain ⟨p, _, hds⟩ := dfsS_some hq
        obtain ⟨x', vs', h1, h2, h3, h4, h5⟩ := dfs_sound hn 11 [] _ _ _ s .nil (LInv.nil ops) hds
        rw [List.nil_append] at h1 h2 h4
        have hks : ∀ i ∈ s, ∃ o, ops[i]? = some o ∧ (reqB o = true ∨ o.kind = 1) := fun i hi => by
          have ho := List.getElem?_eq_getElem (h1.rng i hi)
          exact ⟨_, ho, h2.kinds i hi _ ho⟩
        have hcost : costL ops s ≤ pendN ops := by
          unfold costL pendN
          have e := countP_idx (fun o : OpS => o.kind == 1 && o.ret == 0) ops
          rw [e, List.countP_eq_length_filter, List.countP_eq_length_filter]
          refine nodup_le (h1.nd.sublist List.filter_sublist) (List.nodup_range.sublist List.filter_sublist) fun i hi => ?_
          obtain ⟨his, hic⟩ := List.mem_filter.1 hi
          refine List.mem_filter.2 ⟨List.mem_range.2 (h1.rng i his), ?_⟩
          obtain ⟨o, ho, hk⟩ := hks i his
          unfold costAt at hic
          rw [ho] at hic ⊢
          have hret : o.ret = 0 := by simpa using hic
          rcases hk with h | h
          · simp [reqB, hret] at h
          · simp [h, hret]
        have hcan := can_of hn hv s [] x0 [] (costL ops s) .nil h1.nd hks (fun i o ho hr => (compl_of hn h1).1 h3 i o ho hr) h2.ord (by rw [h5]; rfl) (Nat.le_refl _)
        have hl : s.length ≤ ops.length := by
          have := nodup_le h1.nd (List.nodup_range (n := ops.length)) fun i hi => List.mem_range.2 (h1.rng i hi)
          simpa using this
        have := dfs_complete 11 _ _ _ s hcan (by omega)
        rw [hall _ (by omega)] at this
        cases this
    rw [hno]
/-- What the search finds is accepted. -/
theorem search_ok {ops : List OpS} (hn : ops.length ≤ 10) (hE : OneEf ops) {l : List Int} (h : searchS ops = (l, 0)) : replayS ops l = 0 := by
  rw [searchS_dfs hn hE] at h
  cases hd : dfsS ops (List.range (ops.length + 1)) with
  | none => rw [hd] at h; cases h
  | some s =>
    rw [hd] at h
    cases h
    obtain ⟨p, _, hds⟩ := dfsS_some hd
    obtain ⟨x', vs', h1, h2, h3, h4, h5⟩ := dfs_sound hn 11 [] _ _ _ s .nil (LInv.nil ops) hds
    rw [List.nil_append] at h1 h2 h4
    have hms := (compl_of hn h1).1 h3
    have hchk : ChkOk ops (coeL s) := by
      refine ⟨fun x hx => ?_, coe_nd h1.nd, fun i o ho hr => coe_mem.2 ⟨i, hms i o ho hr, rfl⟩, fun x hx o ho => ?_, ?_⟩
      · obtain ⟨i, hi, rfl⟩ := coe_mem.1 hx
        have := h1.rng i hi
        simp [inR]
        omega
      · obtain ⟨i, hi, rfl⟩ := coe_mem.1 hx
        rw [opAt_nat] at ho
        have := h2.kinds i hi o ho
        unfold penB
        rcases this with h | h
        · simp only [reqB, Bool.and_eq_true, bne_iff_ne, ne_eq] at h
          simp [h.2]
        · simp [h]
      · unfold coeL
        exact List.Pairwise.map _ (fun a b hab => hab) h2.ord
    unfold replayS
    rw [hchk.chk, h5]
    rfl
theorem search_len {ops : List OpS} (hn : ops.length ≤ 10) (hE : OneEf ops) : (searchS ops).1.length ≤ 10 := by
  rw [searchS_dfs hn hE]
  cases hd : dfsS ops (List.range (ops.length + 1)) with
  | none => simp
  | some s =>
    obtain ⟨p, _, hds⟩ := dfsS_some hd
    obtain ⟨x', vs', h1, h2, h3, h4, h5⟩ := dfs_sound hn 11 [] _ _ _ s .nil (LInv.nil ops) hds
    rw [List.nil_append] at h1
    have := nodup_le h1.nd (List.nodup_range (n := ops.length)) fun i hi => List.mem_range.2 (h1.rng i hi)
    simp [coeL] at this ⊢
    omega
theorem search_two {ops : List OpS} (hn : ops.length ≤ 10) (hE : OneEf ops) : (searchS ops).2 = 0 ∨ (searchS ops).2 = 6 := by
  rw [searchS_dfs hn hE]
  cases dfsS ops (List.range (ops.length + 1)) with
  | none => exact .inr rfl
  | some s => exact .inl rfl
end Go.Proofs.YtphlhadgcfndhaaGreat.Abs
end
