/- AcceptorChain. -/
import Derived.Test.YtopcklnnkpjanaaWLaw15
import Derived.Test.YtopcklnnkpjanaaWLat
namespace Go.Proofs.Ytopcklnnkpjanaa.Abs
open Go Go.RowKit
set_option linter.unusedVariables false
set_option linter.unusedSimpArgs false
set_option maxHeartbeats 4000000
theorem asc1 (e : E2) : Asc [e] := by simp [Asc]
theorem awake15_pure : Pure Try.prog 19 [] (.c (cB true)) := by
  refine pure_of teOk Try.func19 (by kernel_rfl) (c := _) rfl (N := 64) rfl (rs := [Go.ResultVar.tmp 0]) rfl (by simp) fun base A w0 hA => ?_
  refine AW.st teOk [] (by simp [-Option.some.injEq] <;> rfl) trivial ?_
  have n0 : LeV (.agg [.sc (.slice none 0 0)]) (.agg [encV []]) := .agg rfl fun i c c' h h' => by
    cases i with
    | zero => cases h; cases h'; exact .nil 2
    | succ i => simp at h
  refine AW.st teOk [.fz (.tup [.agg [encV [(1, 1)]], .c (cB true)])] (by simp [-Option.some.injEq] <;> rfl) ?_ ?_
  · have := (accept1_pure [] [(1, 1)] (asc1 _) (by simp)).le (.cons n0 (.cons (.c (.loose 2 true [encE (1, 1)])) .nil)) (.refl _)
    simpa [mergeI, consP, boundI, leI, countI] using this
  refine AW.st teOk [.fz (.tup [.agg [encV [(1, 1), (2, 1)]], .c (cB false)])] (by simp [-Option.some.injEq] <;> rfl) ?_ ?_
  · have := (accept1_pure [(1, 1)] [(2, 1)] (asc1 _) (by simp)).le (.cons (.refl _) (.cons (.c (.loose 2 true [encE (2, 1)])) .nil)) (.refl _)
    simpa [mergeI, consP, boundI, leI, countI] using this
  refine AW.st teOk [.fz (.tup [.agg [encV [(1, 2)]], .c (encBs [true])])] (by simp [-Option.some.injEq] <;> rfl) ?_ ?_
  · have := (acceptAll_pure [(1, 1)] [[(1, 2)]] (by simpa using asc1 (1, 2)) (by simp [totI]) (by simp)).le (.cons (.refl _) (.cons (.c (.row (t := true) (es := [[.row 2 true [encE (1, 2)]]]) rfl (fun i e e' h h' => by
      cases i with
      | zero => cases h; cases h'; rfl
      | succ i => simp at h) fun i e e' h h' j c c' hc hc' => by
      cases i with
      | zero =>
        cases h; cases h'
        cases j with
        | zero => cases hc; cases hc'; exact .loose 2 true _
        | succ j => simp at hc
      | succ i => simp at h)) .nil)) (.refl _)
    simpa [accI, mergeI, consP, boundI, leI, countI] using this
  refine AW.st teOk [] (by simp [-Option.some.injEq] <;> rfl) trivial ?_
  refine AW.ret ⟨.inr rfl, _, Weak.refl _, ?_⟩
  simp
def chainGo (v : V2) : List V2 → List V2
  | [] => []
  | x :: l => rjoinI v x :: chainGo (rjoinI v x) l
theorem rjoinI_length (b : V2) : ∀ a : V2, (rjoinI a b).length ≤ a.length + b.length := by
  induction b with
  | nil => intro a; exact Nat.le_refl _
  | cons e b ih =>
    intro a
    have h1 := ih (stepI a e)
    have h2 := stepI_length a e
    show (rjoinI (stepI a e) b).length ≤ _
    rw [List.length_cons]
    omega
theorem valGo_ok : ∀ (v : V2) (p : Option Int), valGo p v = 0 → Okv v ∧ Asc v ∧ ∀ q, p = some q → ∀ e ∈ v, q < e.1
  | [], p, _ => ⟨fun e he => (by cases he), List.Pairwise.nil, fun q _ e he => (by cases he)⟩
  | e :: l, p, h => by
    rw [valGo] at h
    split at h
    · cases h
    · rename_i hb
      split at h
      · cases h
      · rename_i hp
        obtain ⟨h1, h2, h3⟩ := valGo_ok l (some e.1) h
        have h4 := h3 e.1 rfl
        refine ⟨fun x hx => ?_, List.Pairwise.cons h4 h2, fun q hq x hx => ?_⟩
        · rcases List.mem_cons.1 hx with rfl | hx
          · omega
          · exact h1 x hx
        · subst hq
          simp at hp
          rcases List.mem_cons.1 hx with rfl | hx
          · exact hp
          · have := h4 x hx
            omega
theorem okI_ok {v : V2} (h : okI v = true) : v.length ≤ 30 ∧ Okv v ∧ Asc v := by
  unfold okI at h
  rw [Bool.and_eq_true, decide_eq_true_eq, beq_iff_eq] at h
  obtain ⟨h1, h2, _⟩ := valGo_ok v none h.2
  exact ⟨h.1, h1, h2⟩
theorem count_cnt : ∀ (v : V2) (a : Int), countI v a = cnt v a
  | [], a => rfl
  | e :: l, a => by
    have ih := count_cnt l a
    unfold countI at ih ⊢
    rw [List.find?_cons, cnt]
    by_cases h : e.1 = a
    · simp [h]
    · simp only [decide_eq_false h, if_neg h]
      exact ih
theorem leI_iff (u v : V2) : leI u v = true ↔ ∀ e ∈ u, e.2 ≤ cnt v e.1 := by
  unfold leI
  rw [List.all_eq_true]
  simp only [decide_eq_true_eq, count_cnt]
theorem withI_wth (a c : Int) : ∀ (l : V2) (d : Bool), withI a c d l = wth a c d l
  | [], d => by cases d <;> simp [withI, wth]
  | e :: l, d => by
    rw [withI, wth, withI_wth]
    cases d with
    | true => simp; split <;> simp_all
    | false =>
      by_cases h : a ≤ e.1
      · simp [h]
        split <;> simp
      · have hne : ¬ e.1 = a := by omega
        simp [h, hne]
theorem val_of {v : V2} (h1 : Okv v) (h2 : Asc v) : Val v := ⟨h1, h2⟩
theorem step_law {a : V2} (ha : Val a) {e : E2} (he : Good e) : Val (stepI a e) ∧ ∀ x, cnt (stepI a e) x = if x = e.1 then (if cnt a x ≤ e.2 then e.2 else cnt a x) else cnt a x := by
  unfold Good at he
  unfold stepI
  rw [count_cnt]
  split
  · rename_i h
    have h0 : (e.2 == 0) = false := by simp; omega
    rw [h0, withI_wth]
    obtain ⟨i1, _, i3, _⟩ := wth_false he.1 ⟨he.2.1, he.2.2⟩ ha
    refine ⟨i1, fun x => ?_⟩
    rw [i3]
    split
    · rename_i hx
      subst hx
      rw [if_pos (by omega)]
    · rfl
  · rename_i h
    refine ⟨ha, fun x => ?_⟩
    split
    · rename_i hx
      subst hx
      split <;> omega
    · rfl
theorem rjoin_law : ∀ (b a : V2), Val a → Val b → Val (rjoinI a b) ∧ ∀ x, cnt (rjoinI a b) x = boundI true (cnt a x) (cnt b x)
  | [], a, ha, _ => ⟨ha, fun x => by
    have := (cnt_range (a := x) ha.1).1
    rw [bndT]
    show cnt a x = if cnt a x ≤ 0 then 0 else cnt a x
    split <;> omega⟩
  | e :: b, a, ha, hb => by
    obtain ⟨g, hx, hb'⟩ := val_cons.1 hb
    obtain ⟨s1, s2⟩ := step_law ha g
    obtain ⟨r1, r2⟩ := rjoin_law b (stepI a e) s1 hb'
    refine ⟨r1, fun x => ?_⟩
    show cnt (rjoinI (stepI a e) b) x = _
    rw [r2, s2, bndT, bndT, cnt_cons]
    have g' := g
    unfold Good at g'
    by_cases h : x = e.1
    · subst h
      have h0 : cnt b e.1 = 0 := cnt_zero fun q hq => by have := hx q hq; omega
      rw [if_pos rfl, if_pos rfl, h0]
      have := (cnt_range (a := e.1) ha.1).1
      split <;> split <;> omega
    · rw [if_neg h, if_neg (Ne.symm h)]
theorem merge_up {v w : V2} (hv : Val v) (hw : Val w) (h : ∀ x, cnt v x ≤ cnt w x) : mergeI true v w = w := by
  have m := mrg_is true hv hw
  refine ext_cnt m.val hw fun a => ?_
  rw [m.cnt, bndT]
  have := h a
  split <;> omega
theorem chain_all : ∀ (l : List V2) (v : V2), Val v → (∀ x ∈ l, Val x) → (∀ x ∈ chainGo v l, Asc x) ∧ (chainGo v l).length = l.length ∧ (accI v (chainGo v l)).2 = List.replicate l.length true
  | [], v, _, _ => ⟨fun x hx => (by cases hx), rfl, rfl⟩
  | x :: l, v, hv, hl => by
    obtain ⟨r1, r2⟩ := rjoin_law x v hv (hl x (by simp))
    obtain ⟨i1, i2, i3⟩ := chain_all l (rjoinI v x) r1 fun y hy => hl y (by simp [hy])
    have hle : ∀ q, cnt v q ≤ cnt (rjoinI v x) q := fun q => by
      rw [r2, bndT]
      split <;> omega
    refine ⟨fun y hy => ?_, by simp [chainGo, i2], ?_⟩
    · rcases List.mem_cons.1 hy with rfl | hy
      · exact r1.2
      · exact i1 y hy
    · have h1 : leI v (rjoinI v x) = true := (leI_iff _ _).2 fun e he => by
        have := hle e.1
        rwa [cnt_mem hv.2 he] at this
      rw [chainGo, accI, h1, merge_up hv r1 hle, i3]
      rfl
theorem chain_tot : ∀ (l : List V2) (v : V2) (M : Nat), (∀ x ∈ l, x.length ≤ 30) → v.length + 30 * l.length ≤ M → totI (chainGo v l) ≤ l.length * M
  | [], v, M, _, _ => by simp [chainGo, totI]
  | x :: l, v, M, hx, hM => by
    have h1 := rjoinI_length x v
    have h2 := hx x (by simp)
    rw [List.length_cons] at hM
    have ih := chain_tot l (rjoinI v x) M (fun y hy => hx y (by simp [hy])) (by omega)
    simp only [chainGo, totI, List.map_cons, List.sum_cons, List.length_cons] at ih ⊢
    rw [Nat.succ_mul]
    omega
theorem chain_facts (l : List V2) (h : ∀ x ∈ l, okI x = true) (hl : l.length ≤ 40) : (∀ x ∈ chainGo [] l, Asc x) ∧ (chainGo [] l).length = l.length ∧ totI (chainGo [] l) < 10000000000 ∧ (accI (self []) (chainGo [] l)).2 = List.replicate l.length true := by
  obtain ⟨i1, i2, i3⟩ := chain_all l [] val_nil fun x hx => by
    obtain ⟨_, h2, h3⟩ := okI_ok (h x hx)
    exact val_of h2 h3
  have ht := chain_tot l [] 1200 (fun x hx => (okI_ok (h x hx)).1) (by simp; omega)
  have hs : self [] = [] := by simp [self, mergeI]
  rw [hs]
  exact ⟨i1, i2, by omega, i3⟩
theorem chain_pure (l : List V2) (hl : l.length ≤ 9223372036854775807) : Pure Try.prog 3 [.c (encVs l)] (.c (cB true)) := by
  refine pure_of teOk Try.func3 (by kernel_rfl) (c := _) rfl (N := 52) rfl (rs := [Go.ResultVar.tmp 2]) rfl (by simp) fun base A w0 hA => ?_
  refine AW.st teOk [] (by simp [-Option.some.injEq] <;> rfl) trivial ?_
  refine AW.seq ?_
  obtain ⟨g, hok⟩ : ∃ g, (l.all okI && decide (l.length ≤ 40)) = g := ⟨_, rfl⟩
  refine AW.st teOk [.fz (.c (cB g))] (by simp [-Option.some.injEq] <;> rfl) ?_ ?_
  · exact hok ▸ valid_pure l hl
  cases g with
  | false =>
    refine AW.iff true (by simp) (fun _ => ?_) (fun h => by cases h)
    refine AW.st teOk [.fz (.c (cB true))] (by simp [-Option.some.injEq] <;> rfl) ?_ ?_
    · exact awake15_pure
    refine AW.ret ⟨.inr rfl, _, Weak.refl _, ?_⟩
    simp
  | true =>
    rw [Bool.and_eq_true, decide_eq_true_eq] at hok
    obtain ⟨hall, h40⟩ := hok
    have hall' := List.all_eq_true.1 hall
    obtain ⟨f1, f2, f3, f4⟩ := chain_facts l hall' h40
    refine AW.iff false (by simp) (fun h => by cases h) (fun _ => AW.skip ?_)
    refine AW.st teOk [] (by simp [-Option.some.injEq] <;> rfl) trivial ?_
    refine AW.st teOk [] (by simp [-Option.some.injEq] <;> rfl) trivial ?_
    refine AW.weak ((Weak.nil 3 1 _ (by simp <;> rfl)).trans (Weak.le 4 _ (by simp <;> rfl) (.c (LeC.nil 2)))) (AW.seq ?_)
    refine AW.st teOk [] (by simp [-Option.some.injEq] <;> rfl) trivial ?_
    refine AW.block (AW.loop (fun m s => ∃ j cur c, m = l.length - j ∧ j ≤ l.length ∧ cur.length ≤ 30 * j ∧ c.length = j ∧ chainGo [] l = c ++ chainGo cur (l.drop j) ∧ s = ⟨[(0, .c (encVs l)), (3, .c (.ref 0 0 j)), (4, .c (encV cur)), (5, .c (cI j))], [(0, ⟨1, c.map encC⟩)], 1⟩) _ (Weak.normT hA [0, 3, 4, 5] [(3, 0)] [] 1 _ (by simp) (by simp) (by simp)) ⟨0, [], [], rfl, Nat.zero_le _, Nat.le_refl _, rfl, rfl, by simp⟩ ?_)
    rintro m s ⟨j, cur, c, rfl, hj, hcur, hc, hch, rfl⟩
    refine AW.seq ?_
    refine AW.st teOk [] (by simp [-Option.some.injEq] <;> rfl) trivial ?_
    refine AW.iff (decide (j < l.length)) (by simp) (fun h => AW.skip ?_) (fun h => AW.exit (x_then (x_then (blockA_exit ?_))))
    · rw [decide_eq_true_eq] at h
      obtain ⟨x, hx⟩ : ∃ x, l[j]? = some x := ⟨_, List.getElem?_eq_getElem h⟩
      have hd : l.drop j = x :: l.drop (j + 1) := by
        rw [List.drop_eq_getElem_cons h, (List.getElem?_eq_some_iff.1 hx).2]
      rw [hd, chainGo] at hch
      obtain ⟨x1, x2, x3⟩ := okI_ok (hall' x (List.mem_of_getElem? hx))
      have hlen := rjoinI_length x cur
      refine AW.seq (AW.block ?_)
      refine AW.st teOk [.fz (.c (encV (rjoinI cur x)))] (by simp [hx, -Option.some.injEq] <;> rfl) ?_ ?_
      · exact ⟨by simpa using h, rjoin_pure cur x x2 (by omega)⟩
      refine AW.text teOk (ans := []) (by simp [-Option.some.injEq] <;> rfl) ?_ ?_
      · simp [growOk]
        omega
      refine AW.text teOk (ans := []) (by simp [-Option.some.injEq] <;> rfl) ?_ ?_
      · trivial
      refine ⟨_, _, Weak.normT hA [0, 3, 4, 5] [(3, 0)] [] 1 _ (by simp) (by simp) (by simp), ?_, j + 1, rjoinI cur x, c ++ [rjoinI cur x], rfl, h, ?_, ?_, ?_, ?_⟩
      · omega
      · omega
      · simp [hc]
      · rw [hch, List.append_assoc]; rfl
      · simp
        exact wrap_s j (by omega)
    · rw [decide_eq_false_iff_not] at h
      have hjl : j = l.length := by omega
      rw [hjl, List.drop_length, chainGo, List.append_nil] at hch
      refine AW.to (s2 := ⟨[(3, .c (encVs (chainGo [] l)))], [], 0⟩) ((Weak.frzT 3 [] _ (by simp <;> exact ⟨rfl, rfl, rfl⟩) (by simp <;> rfl) (by simp)).trans (Weak.normT hA [3] [] [] 0 _ (by simp) (by simp) (by simp))) (by simp [← hc, hch]) ?_
      rw [← hch] at hc
      have n0 : LeV (.agg [.sc (.slice none 0 0)]) (.agg [encV []]) := .agg rfl fun i c c' h h' => by
        cases i with
        | zero => cases h; cases h'; exact .nil 2
        | succ i => simp at h
      obtain ⟨fin, hfin⟩ : ∃ f, (accI (self []) (chainGo [] l)).1 = f := ⟨_, rfl⟩
      obtain ⟨ch, hche⟩ : ∃ f, chainGo [] l = f := ⟨_, rfl⟩
      rw [hche] at f1 f2 f3 f4 hfin hc ⊢
      refine AW.st teOk [.fz (.tup [.agg [encV fin], .c (encBs (List.replicate l.length true))])] (by simp [-Option.some.injEq] <;> rfl) ?_ ?_
      · have := (acceptAll_pure [] ch f1 (by simp; omega) (by omega)).le (.cons n0 (.cons (.refl _) .nil)) (.refl _)
        rw [f4, hfin] at this
        simpa [← hc] using this
      refine AW.seq ?_
      refine AW.st teOk [] (by simp [-Option.some.injEq] <;> rfl) trivial ?_
      refine AW.iff false (by simp [f2]) (fun h => by cases h) (fun _ => AW.skip ?_)
      refine AW.seq ?_
      refine AW.st teOk [] (by simp [-Option.some.injEq] <;> rfl) trivial ?_
      refine AW.block (AW.loop (fun m s => ∃ i : Nat, m = l.length - i ∧ i ≤ l.length ∧ s = ⟨[(7, .c (encBs (List.replicate l.length true))), (8, .c (cI i))], [], 0⟩) _ (Weak.normT hA [7, 8] [] [] 0 _ (by simp) (by simp) (by simp)) ⟨0, rfl, Nat.zero_le _, by simp⟩ ?_)
      rintro m s ⟨i, rfl, hi, rfl⟩
      refine AW.seq ?_
      refine AW.st teOk [] (by simp [-Option.some.injEq] <;> rfl) trivial ?_
      refine AW.iff (decide (i < l.length)) (by simp) (fun h => AW.skip ?_) (fun h => AW.exit (x_then (x_then (blockA_exit ?_))))
      · rw [decide_eq_true_eq] at h
        have hr : (List.replicate l.length [cB true])[i]? = some [cB true] := by simp [h]
        refine AW.seq (AW.block ?_)
        refine AW.st teOk [] (by simp [h, -Option.some.injEq] <;> rfl) ?_ ?_
        · first | trivial | omega | (simp [allP, growOk] <;> omega)
        refine AW.iff false (by simp) (fun h => by cases h) (fun _ => AW.skip ?_)
        refine AW.text teOk (ans := []) (by simp [-Option.some.injEq] <;> rfl) ?_ ?_
        · trivial
        refine ⟨_, _, Weak.normT hA [7, 8] [] [] 0 _ (by simp) (by simp) (by simp), ?_, i + 1, rfl, h, ?_⟩
        · omega
        · simp
          exact wrap_s i (by omega)
      · refine AW.st teOk [.fz (.c (cB true))] (by simp [-Option.some.injEq] <;> rfl) ?_ ?_
        · exact awake15_pure
        refine AW.ret ⟨.inr rfl, _, Weak.refl _, ?_⟩
        simp
theorem chain_law (l : List V2) (hw : l.length ≤ 9223372036854775807 ∧ ∀ x ∈ l, x.length ≤ 9223372036854775807 ∧ ∀ y ∈ x, (Lit.int .i64 y.1).wf = true ∧ (Lit.int .i64 y.2).wf = true) : Pure Try.prog 3 [.c (encVs l)] (.c (cB true)) := chain_pure l hw.1
end Go.Proofs.Ytopcklnnkpjanaa.Abs
