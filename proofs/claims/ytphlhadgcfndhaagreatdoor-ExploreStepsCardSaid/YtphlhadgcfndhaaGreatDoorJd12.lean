/- Joined for the claim: WRs WRk -/
import Derived.Test.YtphlhadgcfndhaaGreatDoorJd11
import Derived.Test.YtphlhadgcfndhaaGreatDoorJd8
section
namespace Go.Proofs.YtphlhadgcfndhaaGreatDoor.Abs
open Go Go.RowKit
set_option linter.unusedVariables false
set_option linter.unusedSimpArgs false
set_option maxHeartbeats 4000000
theorem leI_self {v : V2} (h : V4 v) : leI v v = true := (leI_sub h.val h.val).2 fun x => Int.le_refl _
theorem comp_or {a b : V2} (ha : V4 a) (hb : V4 b) : decide (compI a b ≠ 3) = (leI a b || leI b a) := by
  unfold compI
  by_cases he : a = b
  · subst he
    rw [leI_self ha]
    simp
  · rw [if_neg he]
    cases h1 : leI a b <;> cases h2 : leI b a <;> simp
theorem rj4 {u v : V2} (hu : V4 u) (hv : V4 v) : Pure Tryz.prog 34 [.c (encV u), .c (encV v)] (.c (encV (mergeI true u v))) := rj4_pure hu hv
theorem rsafe_pure (s : XpS) {n N : Nat} (hw : GrW s.g n N) (hN : N < 1000000) (hde : ∀ d ∈ s.g.decs, ∃ (p q : Nat) (l : List V2) (own : V2), d.prop = p ∧ d.input = q ∧ s.g.ins[p]? = some l ∧ l[q]? = some own) : Pure Tryz.prog 15 [.agg (encXp s)] (.c (cB (safeG s.g))) := by
  have hins : ∀ l ∈ s.g.ins, l.length ≤ 3 ∧ ∀ v ∈ l, V4 v := hw.i
  have hil : s.g.ins.length < 1000000 := by have := hw.nn.i; have := hw.n4; omega
  have hdl : s.g.decs.length < 1000000 := by have := hw.dl; omega
  have hd4 := hw.d
  have sF : ∀ {j : Nat} {d : DeS}, s.g.decs[j]? = some d → safeAt s.g (allIns s.g.ins) j d = false → safeG s.g = false := fun hd h => safeG_false hd h
  have sT : (∀ (i : Nat) d, s.g.decs[i]? = some d → safeAt s.g (allIns s.g.ins) i d = true) → safeG s.g = true := safeG_true
  have hall4 : V4 (allIns s.g.ins) := all_4 fun l hl => (hins l hl).2
  have hst : ∀ j d, safeAt s.g (allIns s.g.ins) j d = (match inpX s.g d with
    | none => false
    | some own => leI own d.v && (leI d.v (allIns s.g.ins) && (s.g.decs.take j).all fun o => decide (compI d.v o.v ≠ 3))) := fun j d => rfl
  clear hw
  generalize hR : safeG s.g = R at *
  obtain ⟨⟨accs, props, ins, nxt, pks, decs, steps⟩, lo, am⟩ := s
  dsimp only at *
  refine pure_of teOk Tryz.func15 (by kernel_rfl) (c := _) rfl (N := 104) rfl (rs := [Go.ResultVar.tmp 2]) rfl (by simp) fun base A w0 hA => ?_
  refine AW.st teOk [] (by simp [-Option.some.injEq] <;> rfl) trivial ?_
  refine AW.st teOk [] (by simp [-Option.some.injEq] <;> rfl) trivial ?_
  refine AW.to (s2 := ⟨[(1, .c (.ptr 0 0 0)), (3, .c (encV []))], [(0, ⟨9, [encXp ⟨⟨accs, props, ins, nxt, pks, decs, steps⟩, lo, am⟩]⟩)], 1⟩) ((Weak.le 3 _ (by simp <;> rfl) (.c (LeC.nil 2))).trans (Weak.normS hA [1, 3] [(1, 0)] [] [] 1 _ (by simp [putT]) (by simp [putT]) (by simp [putT]))) (by simp [putT]) ?_
  refine AW.mid (fun s' => ∃ a : V2, a = allIns ins ∧ s' = ⟨[(1, .c (.ptr 0 0 0)), (3, .c (encV a))], [(0, ⟨9, [encXp ⟨⟨accs, props, ins, nxt, pks, decs, steps⟩, lo, am⟩]⟩)], 1⟩) ?_ ?_
  · refine AW.st teOk [] (by simp [-Option.some.injEq] <;> rfl) trivial ?_
    refine AW.block (AW.loop (fun m s' => ∃ (j : Nat) (a : V2), m = ins.length - j ∧ j ≤ ins.length ∧ a = allIns (ins.take j) ∧ s' = ⟨[(1, .c (.ptr 0 0 0)), (3, .c (encV a)), (4, .c (cI j))], [(0, ⟨9, [encXp ⟨⟨accs, props, ins, nxt, pks, decs, steps⟩, lo, am⟩]⟩)], 1⟩) (ins.length - 0) (Weak.normS hA [1, 3, 4] [(1, 0)] [] [] 1 _ (by simp) (by simp) (by simp)) ⟨0, [], rfl, Nat.zero_le _, rfl, by simp⟩ ?_)
    rintro m s' ⟨j, a, rfl, hj, ha, rfl⟩
    have ha4 : V4 a := by rw [ha]; exact all_4 fun l hl => (hins l (List.mem_of_mem_take hl)).2
    refine AW.seq ?_
    refine AW.st teOk [] (by simp [-Option.some.injEq] <;> rfl) trivial ?_
    refine AW.iff (decide (j < ins.length)) (by simp) (fun h => AW.skip ?_) (fun h => AW.exit (x_then (x_then (blockA_exit ?_))))
    · rw [decide_eq_true_eq] at h
      obtain ⟨l, hl⟩ : ∃ l, ins[j]? = some l := ⟨_, List.getElem?_eq_getElem h⟩
      obtain ⟨hll, hl4⟩ := hins l (List.mem_of_getElem? hl)
      have hinc : IntKind.i64.wrap ((j : Int) + 1) = (j : Int) + 1 := wrap_s _ (by omega)
      have hnx : allIns (ins.take (j + 1)) = l.foldl (mergeI true) a := by
        rw [List.take_add_one, hl, ha]
        unfold allIns
        rw [List.foldl_append]
        rfl
      refine AW.seq (AW.block ?_)
      refine AW.st teOk [] (by simp [-Option.some.injEq] <;> rfl) trivial ?_
      refine AW.block (AW.loop (fun m s' => ∃ (q : Nat) (b : V2), m = l.length - q ∧ q ≤ l.length ∧ b = (l.take q).foldl (mergeI true) a ∧ s' = ⟨[(1, .c (.ptr 0 0 0)), (3, .c (encV b)), (4, .c (cI j)), (5, .c (cI q))], [(0, ⟨9, [encXp ⟨⟨accs, props, ins, nxt, pks, decs, steps⟩, lo, am⟩]⟩)], 1⟩) (l.length - 0) (Weak.normS hA [1, 3, 4, 5] [(1, 0)] [] [] 1 _ (by simp) (by simp) (by simp)) ⟨0, a, rfl, Nat.zero_le _, rfl, by simp⟩ ?_)
      rintro m s' ⟨q, b, rfl, hq, hb, rfl⟩
      have hb4 : V4 b := by rw [hb]; exact (fold1 _ a ha4 fun v hv => hl4 v (List.mem_of_mem_take hv)).1
      refine AW.seq ?_
      refine AW.st teOk [] (by simp [hl, -Option.some.injEq] <;> rfl) ?_ ?_
      · simpa using h
      refine AW.iff (decide (q < l.length)) (by simp) (fun h2 => AW.skip ?_) (fun h2 => AW.exit (x_then (x_then (blockA_exit ?_))))
      · rw [decide_eq_true_eq] at h2
        obtain ⟨v, hv⟩ : ∃ v, l[q]? = some v := ⟨_, List.getElem?_eq_getElem h2⟩
        have hv4 := hl4 v (List.mem_of_getElem? hv)
        have hincq : IntKind.i64.wrap ((q : Int) + 1) = (q : Int) + 1 := wrap_s _ (by omega)
        refine AW.seq (AW.block ?_)
        refine AW.text teOk (ans := [.fz (.c (encV (mergeI true b v)))]) (by simp [hl, hv, -Option.some.injEq] <;> rfl) ?_ ?_
        · exact ⟨h, h2, rj4 hb4 hv4⟩
        refine AW.text teOk (ans := []) (by simp [-Option.some.injEq] <;> rfl) ?_ ?_
        · trivial
        refine ⟨_, _, Weak.normS hA [1, 3, 4, 5] [(1, 0)] [] [] 1 _ (by simp) (by simp) (by simp), ?_, q + 1, mergeI true b v, rfl, h2, ?_, ?_⟩
        · omega
        · rw [List.take_add_one, hv, List.foldl_append, ← hb]
          rfl
        · simp [hincq]
      have hql : q = l.length := by
        rw [decide_eq_false_iff_not] at h2
        omega
      rw [hql, List.take_length, ← hnx] at hb
      refine AW.text teOk (ans := []) (by simp [-Option.some.injEq] <;> rfl) ?_ ?_
      · trivial
      refine ⟨_, _, Weak.normS hA [1, 3, 4] [(1, 0)] [] [] 1 _ (by simp) (by simp) (by simp), ?_, j + 1, b, rfl, h, hb, ?_⟩
      · omega
      · simp [hinc]
    have hjl : j = ins.length := by
      rw [decide_eq_false_iff_not] at h
      omega
    rw [hjl, List.take_length] at ha
    exact ⟨_, Weak.normS hA [1, 3] [(1, 0)] [] [] 1 _ (by simp) (by simp) (by simp), a, ha, by simp⟩
  rintro s' ⟨a, ha, rfl⟩
  rw [← ha] at sF sT hst hall4
  refine AW.seq ?_
  refine AW.st teOk [] (by simp [-Option.some.injEq] <;> rfl) trivial ?_
  refine AW.block (AW.loop (fun m s' => ∃ (j : Nat), m = decs.length - j ∧ j ≤ decs.length ∧ (∀ i d, i < j → decs[i]? = some d → safeAt ⟨accs, props, ins, nxt, pks, decs, steps⟩ a i d = true) ∧ s' = ⟨[(1, .c (.ptr 0 0 0)), (3, .c (encV a)), (6, .c (cI j))], [(0, ⟨9, [encXp ⟨⟨accs, props, ins, nxt, pks, decs, steps⟩, lo, am⟩]⟩)], 1⟩) (decs.length - 0) (Weak.normS hA [1, 3, 6] [(1, 0)] [] [] 1 _ (by simp) (by simp) (by simp)) ⟨0, rfl, Nat.zero_le _, fun i d hi => by omega, by simp⟩ ?_)
  rintro m s' ⟨j, rfl, hj, hb, rfl⟩
  refine AW.seq ?_
  refine AW.st teOk [] (by simp [-Option.some.injEq] <;> rfl) trivial ?_
  refine AW.iff (decide (j < decs.length)) (by simp) (fun h => AW.skip ?_) (fun h => AW.exit (x_then (x_then (blockA_exit ?_))))
  · rw [decide_eq_true_eq] at h
    obtain ⟨d, hd⟩ : ∃ d, decs[j]? = some d := ⟨_, List.getElem?_eq_getElem h⟩
    have hdm := List.mem_of_getElem? hd
    have hd4' := hd4 d hdm
    obtain ⟨p, q, l, own, k1, k2, k3, k4⟩ := hde d hdm
    have ho4 := (hins l (List.mem_of_getElem? k3)).2 own (List.mem_of_getElem? k4)
    have hpl := (List.getElem?_eq_some_iff.1 k3).1
    have hql := (List.getElem?_eq_some_iff.1 k4).1
    have hinc : IntKind.i64.wrap ((j : Int) + 1) = (j : Int) + 1 := wrap_s _ (by omega)
    have hinp : inpX ⟨accs, props, ins, nxt, pks, decs, steps⟩ d = some own := by
      unfold inpX
      rw [k1, k2, if_pos ⟨by omega, by omega⟩]
      show (ins[p]?).bind (fun l => l[q]?) = _
      rw [k3]
      exact k4
    have hst' := hst j d
    rw [hinp] at hst'
    dsimp only at hst'
    have e1 := rle_pure own d.v (by have := ho4.le; omega) (by have := hd4'.le; omega)
    have e2 := rle_pure d.v a (by have := hd4'.le; omega) (by have := hall4.le; omega)
    obtain ⟨dp, di, dv, ds⟩ := d
    dsimp only at *
    subst k1 k2
    refine AW.seq (AW.block ?_)
    refine AW.st teOk [] (by simp [hd, -Option.some.injEq] <;> rfl) ?_ ?_
    · exact h
    refine AW.to (s2 := ⟨[(1, .c (.ptr 0 0 0)), (3, .c (encV a)), (6, .c (cI j)), (7, .c (.ptr 1 0 0))], [(0, ⟨9, [encXp ⟨⟨accs, props, ins, nxt, pks, decs, steps⟩, lo, am⟩]⟩), (1, ⟨4, [[cI p, cI q, encV dv, cI ds]]⟩)], 2⟩) (Weak.normS hA [1, 3, 6, 7] [(1, 0), (7, 1)] [] [] 2 _ (by simp) (by simp) (by simp)) (by simp) ?_
    refine AW.seq ?_
    cases h2 : leI dv a with
    | false =>
      rw [h2] at e2 hst'
      have hR0 := sF hd (by rw [hst']; simp)
      refine AW.dr mixed teOk [.c (cB false)] (by simp [-Option.some.injEq] <;> rfl) (by kernel_rfl) (by kernel_rfl) ?_ ?_
      · simp [allP]
        exact e2
      refine AW.iff true (by simp) (fun _ => ?_) (fun h => by cases h)
      refine AW.st teOk [] (by simp [-Option.some.injEq] <;> rfl) trivial ?_
      refine AW.ret ⟨.inr rfl, _, Weak.refl _, ?_⟩
      simp [hR0]
    | true =>
    rw [h2] at e2 hst'
    cases h1 : leI own dv with
    | false =>
      rw [h1] at e1 hst'
      have hR0 := sF hd (by rw [hst']; simp)
      refine AW.dr mixed teOk [.c (cB true), .c (cB false)] (by simp [k3, k4, -Option.some.injEq] <;> rfl) (by kernel_rfl) (by kernel_rfl) ?_ ?_
      · simp [allP]
        exact ⟨e2, hpl, hql, e1⟩
      refine AW.iff true (by simp) (fun _ => ?_) (fun h => by cases h)
      refine AW.st teOk [] (by simp [-Option.some.injEq] <;> rfl) trivial ?_
      refine AW.ret ⟨.inr rfl, _, Weak.refl _, ?_⟩
      simp [hR0]
    | true =>
    rw [h1] at e1 hst'
    refine AW.dr mixed teOk [.c (cB true), .c (cB true)] (by simp [k3, k4, -Option.some.injEq] <;> rfl) (by kernel_rfl) (by kernel_rfl) ?_ ?_
    · simp [allP]
      exact ⟨e2, hpl, hql, e1⟩
    refine AW.iff false (by simp) (fun h => by cases h) (fun _ => AW.skip ?_)
    refine AW.st teOk [] (by simp [-Option.some.injEq] <;> rfl) trivial ?_
    refine AW.block (AW.loop (fun m s' => ∃ (k : Nat), m = j - k ∧ k ≤ j ∧ (∀ o ∈ decs.take k, decide (compI dv o.v ≠ 3) = true) ∧ s' = ⟨[(1, .c (.ptr 0 0 0)), (3, .c (encV a)), (6, .c (cI j)), (7, .c (.ptr 1 0 0)), (8, .c (cI k))], [(0, ⟨9, [encXp ⟨⟨accs, props, ins, nxt, pks, decs, steps⟩, lo, am⟩]⟩), (1, ⟨4, [[cI p, cI q, encV dv, cI ds]]⟩)], 2⟩) (j - 0) (Weak.normS hA [1, 3, 6, 7, 8] [(1, 0), (7, 1)] [] [] 2 _ (by simp) (by simp) (by simp)) ⟨0, rfl, Nat.zero_le _, (fun o ho => by simp at ho), by simp⟩ ?_)
    rintro m s' ⟨k, rfl, hk, hc, rfl⟩
    refine AW.seq ?_
    refine AW.st teOk [] (by simp [-Option.some.injEq] <;> rfl) trivial ?_
    refine AW.iff (decide (k < j)) (by simp) (fun h3 => AW.skip ?_) (fun h3 => AW.exit (x_then (x_then (blockA_exit ?_))))
    · rw [decide_eq_true_eq] at h3
      have hkd : k < decs.length := by omega
      obtain ⟨o, ho⟩ : ∃ o, decs[k]? = some o := ⟨_, List.getElem?_eq_getElem hkd⟩
      have ho4' := hd4 o (List.mem_of_getElem? ho)
      have hcmp := comp_or hd4' ho4'
      have hinck : IntKind.i64.wrap ((k : Int) + 1) = (k : Int) + 1 := wrap_s _ (by omega)
      have e3 := rle_pure dv o.v (by have := ho4'.le; have := hd4'.le; omega) (by have := ho4'.le; have := hd4'.le; omega)
      have e4 := rle_pure o.v dv (by have := ho4'.le; have := hd4'.le; omega) (by have := ho4'.le; have := hd4'.le; omega)
      have hnext : decide (compI dv o.v ≠ 3) = true → ∀ o' ∈ decs.take (k + 1), decide (compI dv o'.v ≠ 3) = true := fun hh o' ho' => by
        rw [List.take_add_one, ho] at ho'
        rcases List.mem_append.1 ho' with ho' | ho'
        · exact hc o' ho'
        · simp at ho'
          rw [ho']
          exact hh
      refine AW.seq (AW.block ?_)
      cases h4 : leI dv o.v with
      | true =>
        rw [h4] at e3 hcmp
        refine AW.dr mixed teOk [.c (cB true)] (by simp [ho, -Option.some.injEq] <;> rfl) (by kernel_rfl) (by kernel_rfl) ?_ ?_
        · simp [allP]
          exact ⟨hkd, e3⟩
        refine AW.iff false (by simp) (fun h => by cases h) (fun _ => AW.skip ?_)
        refine AW.text teOk (ans := []) (by simp [-Option.some.injEq] <;> rfl) ?_ ?_
        · trivial
        refine ⟨_, _, Weak.normS hA [1, 3, 6, 7, 8] [(1, 0), (7, 1)] [] [] 2 _ (by simp) (by simp) (by simp), ?_, k + 1, rfl, h3, hnext (by rw [hcmp]; rfl), ?_⟩
        · omega
        · simp [hinck]
      | false =>
      rw [h4] at e3 hcmp
      cases h5 : leI o.v dv with
      | true =>
        rw [h5] at e4 hcmp
        refine AW.dr mixed teOk [.c (cB false), .c (cB true)] (by simp [ho, -Option.some.injEq] <;> rfl) (by kernel_rfl) (by kernel_rfl) ?_ ?_
        · simp [allP]
          exact ⟨hkd, e3, hkd, e4⟩
        refine AW.iff false (by simp) (fun h => by cases h) (fun _ => AW.skip ?_)
        refine AW.text teOk (ans := []) (by simp [-Option.some.injEq] <;> rfl) ?_ ?_
        · trivial
        refine ⟨_, _, Weak.normS hA [1, 3, 6, 7, 8] [(1, 0), (7, 1)] [] [] 2 _ (by simp) (by simp) (by simp), ?_, k + 1, rfl, h3, hnext (by rw [hcmp]; rfl), ?_⟩
        · omega
        · simp [hinck]
      | false =>
        rw [h5] at e4 hcmp
        have hR0 := sF hd (by
          rw [hst']
          have : ((decs.take j).all fun o => decide (compI dv o.v ≠ 3)) = false := by
            rw [List.all_eq_false]
            exact ⟨o, List.mem_iff_getElem?.2 ⟨k, by rw [List.getElem?_take_of_lt h3]; exact ho⟩, by rw [hcmp]; simp⟩
          rw [this]
          rfl)
        refine AW.dr mixed teOk [.c (cB false), .c (cB false)] (by simp [ho, -Option.some.injEq] <;> rfl) (by kernel_rfl) (by kernel_rfl) ?_ ?_
        · simp [allP]
          exact ⟨hkd, e3, hkd, e4⟩
        refine AW.iff true (by simp) (fun _ => ?_) (fun h => by cases h)
        refine AW.st teOk [] (by simp [-Option.some.injEq] <;> rfl) trivial ?_
        refine AW.ret ⟨.inr rfl, _, Weak.refl _, ?_⟩
        simp [hR0]
    have hkj : k = j := by
      rw [decide_eq_false_iff_not] at h3
      omega
    rw [hkj] at hc
    refine AW.text teOk (ans := []) (by simp [-Option.some.injEq] <;> rfl) ?_ ?_
    · trivial
    refine ⟨_, _, Weak.normS hA [1, 3, 6] [(1, 0)] [] [] 1 _ (by simp) (by simp) (by simp), ?_, j + 1, rfl, h, fun i d' hi hd' => ?_, ?_⟩
    · omega
    · by_cases hij : i = j
      · subst hij
        rw [hd] at hd'
        cases hd'
        rw [hst', List.all_eq_true.2 hc]
        rfl
      · exact hb i d' (by omega) hd'
    · simp [hinc]
  have hjl : j = decs.length := by
    rw [decide_eq_false_iff_not] at h
    omega
  have hR1 := sT fun i d hd => hb i d (by have := (List.getElem?_eq_some_iff.1 hd).1; omega) hd
  refine AW.st teOk [] (by simp [-Option.some.injEq] <;> rfl) trivial ?_
  refine AW.ret ⟨.inr rfl, _, Weak.refl _, ?_⟩
  simp [hR1]
end Go.Proofs.YtphlhadgcfndhaaGreatDoor.Abs
end
section
namespace Go.Proofs.YtphlhadgcfndhaaGreatDoor.Abs
open Go Go.RowKit
set_option linter.unusedVariables false
set_option linter.unusedSimpArgs false
set_option maxHeartbeats 4000000
abbrev encB (l : List Int) : Cell := .row 1 false (l.map encb)
theorem ruint_pure (b : List Int) (n : Int) (h : 0 ≤ n ∧ n < 128) (hl : b.length < 1000000000) : Pure Tryz.prog 85 [.c (encB b), .c (.sc (.int .u64 n))] (.c (encB (b ++ [n]))) := by
  have hw : IntKind.u8.wrap n = n := by rw [IntKind.wrap_u8]; omega
  have hlt : ¬ n ≥ 128 := by omega
  refine pure_of teOk Tryz.func85 (by kernel_rfl) (c := _) rfl (N := 25) rfl (rs := [Go.ResultVar.tmp 4]) rfl (by simp) fun base A w0 hA => ?_
  refine AW.st teOk [] (by simp [-Option.some.injEq] <;> rfl) trivial ?_
  refine AW.st teOk [] (by simp [-Option.some.injEq] <;> rfl) ?_ ?_
  · simp [growOk]
    omega
  refine AW.seq (AW.block (AW.loop (fun m s => m = 0 ∧ s = ⟨[(1, .c (.sc (.int .u64 n))), (5, .c (.ref 0 0 b.length))], [(0, ⟨1, b.map encb⟩)], 1⟩) 0 (Weak.normS hA [1, 5] [(5, 0)] [] [] 1 _ (by simp) (by simp) (by simp)) ⟨rfl, by simp⟩ ?_))
  rintro m s ⟨rfl, rfl⟩
  refine AW.seq ?_
  refine AW.st teOk [] (by simp [hlt, -Option.some.injEq] <;> rfl) trivial ?_
  refine AW.iff false (by simp [hlt]) (fun h => by cases h) (fun _ => AW.exit (x_then (x_then (blockA_exit ?_))))
  refine AW.st teOk [] (by simp [hw, -Option.some.injEq] <;> rfl) ?_ ?_
  · simp [growOk]
    omega
  refine AW.ret ⟨.inr rfl, _, Weak.frzT 4 [] _ (by simp <;> exact ⟨rfl, rfl, rfl⟩) (by simp <;> rfl) (by simp), ?_⟩
  simp
  exact List.take_of_length_le (by simp)
theorem rnums_pure (b l : List Int) (h : ∀ x ∈ l, 0 ≤ x ∧ x < 128) (hl : b.length + l.length < 1000000000) : Pure Tryz.prog 49 [.c (encB b), .c (encIs l)] (.c (encB (b ++ l))) := by
  refine pure_of teOk Tryz.func49 (by kernel_rfl) (c := _) rfl (N := 20) rfl (rs := [Go.ResultVar.tmp 4]) rfl (by simp) fun base A w0 hA => ?_
  refine AW.st teOk [] (by simp [-Option.some.injEq] <;> rfl) trivial ?_
  refine AW.seq ?_
  refine AW.st teOk [] (by simp [-Option.some.injEq] <;> rfl) trivial ?_
  refine AW.block (AW.loop (fun m s => ∃ (i : Nat) (c : List Int), m = l.length - i ∧ i ≤ l.length ∧ c = b ++ l.take i ∧ s = ⟨[(0, .c (encB c)), (1, .c (encIs l)), (5, .c (cI i))], [], 0⟩) (l.length - 0) (Weak.normS hA [0, 1, 5] [] [] [] 0 _ (by simp) (by simp) (by simp)) ⟨0, b, rfl, Nat.zero_le _, by simp, by simp⟩ ?_)
  rintro m s ⟨i, c, rfl, hi, hc, rfl⟩
  refine AW.seq ?_
  refine AW.st teOk [] (by simp [-Option.some.injEq] <;> rfl) trivial ?_
  refine AW.iff (decide (i < l.length)) (by simp) (fun h => AW.skip ?_) (fun h => AW.exit (x_then (x_then (blockA_exit ?_))))
  · rename_i h0
    rw [decide_eq_true_eq] at h
    obtain ⟨x, hx⟩ : ∃ x, l[i]? = some x := ⟨_, List.getElem?_eq_getElem h⟩
    have hs := h0 x (List.mem_of_getElem? hx)
    have hinc : IntKind.i64.wrap ((i : Int) + 1) = (i : Int) + 1 := wrap_s _ (by omega)
    have hu : IntKind.u64.wrap x = x := by rw [IntKind.wrap_u64]; omega
    have hcl : c.length = b.length + i := by rw [hc, List.length_append, List.length_take]; omega
    have c0 := ruint_pure c x hs (by omega)
    have hn : c ++ [x] = b ++ l.take (i + 1) := by rw [hc, List.take_add_one, hx, List.append_assoc]; rfl
    rw [hn] at c0
    refine AW.seq (AW.block ?_)
    refine AW.text teOk (ans := [.fz (.c (encB (b ++ l.take (i + 1))))]) (by simp [hx, hu, -Option.some.injEq] <;> rfl) ?_ ?_
    · exact ⟨h, c0⟩
    refine AW.text teOk (ans := []) (by simp [-Option.some.injEq] <;> rfl) ?_ ?_
    · trivial
    refine ⟨_, _, Weak.normS hA [0, 1, 5] [] [] [] 0 _ (by simp) (by simp) (by simp), ?_, i + 1, _, rfl, h, rfl, ?_⟩
    · omega
    · simp [hinc]
  have hil : i = l.length := by
    rw [decide_eq_false_iff_not] at h
    omega
  have hcb : c = b ++ l := by rw [hc, hil, List.take_length]
  rw [← hcb]
  refine AW.st teOk [] (by simp [-Option.some.injEq] <;> rfl) trivial ?_
  refine AW.ret ⟨.inr rfl, _, Weak.refl _, ?_⟩
  simp
theorem rnums_lit (b l : List Int) (h : ∀ x ∈ l, 0 ≤ x ∧ x < 128) (hl : b.length + l.length < 1000000000) : Pure Tryz.prog 49 [.c (encB b), .c (.row 1 true (l.map encn))] (.c (encB (b ++ l))) :=
  (rnums_pure b l h hl).le (.cons (.refl _) (.cons (.c (LeC.loose 1 true _)) .nil)) (.refl _)
theorem rvec_pure (b : List Int) (v : V2) (h : ∀ x ∈ vecN v, 0 ≤ x ∧ x < 100) (hl : b.length < 100000000) : Pure Tryz.prog 50 [.c (encB b), .c (encV v)] (.c (encB (b ++ vecN v))) := by
  have hvl : v.length < 100 := by
    have := (h (v.length : Int) (by simp [vecN])).2
    omega
  have he : ∀ e ∈ v, (0 ≤ e.1 ∧ e.1 < 100) ∧ (0 ≤ e.2 ∧ e.2 < 100) := fun e hm => ⟨h _ (by unfold vecN; exact List.mem_cons_of_mem _ (List.mem_flatMap.2 ⟨e, hm, by simp [entN]⟩)), h _ (by unfold vecN; exact List.mem_cons_of_mem _ (List.mem_flatMap.2 ⟨e, hm, by simp [entN]⟩))⟩
  have c0 := rnums_lit b [(v.length : Int)] (fun x hx => by simp at hx; omega) (by simp; omega)
  refine pure_of teOk Tryz.func50 (by kernel_rfl) (c := _) rfl (N := 31) rfl (rs := [Go.ResultVar.tmp 4]) rfl (by simp) fun base A w0 hA => ?_
  refine AW.st teOk [] (by simp [-Option.some.injEq] <;> rfl) trivial ?_
  refine AW.st teOk [.fz (.c (encB (b ++ [(v.length : Int)])))] (by simp [-Option.some.injEq] <;> rfl) ?_ ?_
  · simpa using c0
  refine AW.seq ?_
  refine AW.st teOk [] (by simp [-Option.some.injEq] <;> rfl) trivial ?_
  refine AW.block (AW.loop (fun m s => ∃ (i : Nat) (c : List Int), m = v.length - i ∧ i ≤ v.length ∧ c = (b ++ [(v.length : Int)]) ++ (v.take i).flatMap entN ∧ c.length = b.length + 1 + 2 * i ∧ s = ⟨[(0, .c (encB c)), (1, .c (encV v)), (5, .c (cI i))], [], 0⟩) (v.length - 0) (Weak.normS hA [0, 1, 5] [] [] [] 0 _ (by simp) (by simp) (by simp)) ⟨0, _, rfl, Nat.zero_le _, rfl, by simp, by simp⟩ ?_)
  rintro m s ⟨i, c, rfl, hi, hc, hcl, rfl⟩
  refine AW.seq ?_
  refine AW.st teOk [] (by simp [-Option.some.injEq] <;> rfl) trivial ?_
  refine AW.iff (decide (i < v.length)) (by simp) (fun h => AW.skip ?_) (fun h => AW.exit (x_then (x_then (blockA_exit ?_))))
  · rw [decide_eq_true_eq] at h
    obtain ⟨e, hx⟩ : ∃ e, v[i]? = some e := ⟨_, List.getElem?_eq_getElem h⟩
    have hs := he e (List.mem_of_getElem? hx)
    have hinc : IntKind.i64.wrap ((i : Int) + 1) = (i : Int) + 1 := wrap_s _ (by omega)
    have c1 := rnums_lit c [e.1, e.2] (fun x hx => by simp at hx; omega) (by simp; omega)
    obtain ⟨C, hC⟩ : ∃ C, C = c ++ [e.1, e.2] := ⟨_, rfl⟩
    have hn : C = (b ++ [(v.length : Int)]) ++ (v.take (i + 1)).flatMap entN := by rw [hC, hc, List.take_add_one, hx, List.flatMap_append, ← List.append_assoc]; simp [entN]
    have hCl : C.length = b.length + 1 + 2 * (i + 1) := by rw [hC, List.length_append, hcl]; simp; omega
    rw [← hC] at c1
    refine AW.seq (AW.block ?_)
    refine AW.draw mixed teOk (ans := [.c (encB C)]) (by simp [hx, -Option.some.injEq] <;> rfl) (by kernel_rfl) (by kernel_rfl) ?_ ?_
    · simp [allP]
      exact ⟨h, c1⟩
    refine AW.text teOk (ans := []) (by simp [-Option.some.injEq] <;> rfl) ?_ ?_
    · trivial
    refine ⟨_, _, Weak.normS hA [0, 1, 5] [] [] [] 0 _ (by simp) (by simp) (by simp), ?_, i + 1, C, rfl, h, hn, hCl, ?_⟩
    · omega
    · simp [hinc]
  have hil : i = v.length := by
    rw [decide_eq_false_iff_not] at h
    omega
  have hcb : c = b ++ vecN v := by rw [hc, hil, List.take_length, List.append_assoc]; rfl
  rw [← hcb]
  refine AW.st teOk [] (by simp [-Option.some.injEq] <;> rfl) trivial ?_
  refine AW.ret ⟨.inr rfl, _, Weak.refl _, ?_⟩
  simp
theorem rflag_pure (b : Bool) : Pure Tryz.prog 51 [.c (cB b)] (.c (cI (numB b))) := by
  cases b
  · refine pure_of teOk Tryz.func51 (by kernel_rfl) (c := _) rfl (N := 4) rfl (rs := [Go.ResultVar.tmp 2]) rfl (by simp) fun base A w0 hA => ?_
    refine AW.st teOk [] (by simp [-Option.some.injEq] <;> rfl) trivial ?_
    refine AW.seq ?_
    refine AW.st teOk [] (by simp [-Option.some.injEq] <;> rfl) trivial ?_
    refine AW.iff false (by simp) (fun h => by cases h) (fun _ => AW.skip ?_)
    refine AW.st teOk [] (by simp [-Option.some.injEq] <;> rfl) trivial ?_
    refine AW.ret ⟨.inr rfl, _, Weak.refl _, ?_⟩
    simp [numB]
  · refine pure_of teOk Tryz.func51 (by kernel_rfl) (c := _) rfl (N := 4) rfl (rs := [Go.ResultVar.tmp 2]) rfl (by simp) fun base A w0 hA => ?_
    refine AW.st teOk [] (by simp [-Option.some.injEq] <;> rfl) trivial ?_
    refine AW.seq ?_
    refine AW.st teOk [] (by simp [-Option.some.injEq] <;> rfl) trivial ?_
    refine AW.iff true (by simp) (fun _ => ?_) (fun h => by cases h)
    refine AW.st teOk [] (by simp [-Option.some.injEq] <;> rfl) trivial ?_
    refine AW.ret ⟨.inr rfl, _, Weak.refl _, ?_⟩
    simp [numB]
/-- What the reference's key writes. -/
def rpF (q : PrS × Int) : List Int := vecN q.1.v ++ ([q.1.r, (q.1.acks.length : Int), numB q.1.dec, q.2] ++ q.1.acks)
def rdN (d : DeS) : List Int := [d.prop, d.input] ++ vecN d.v
def rkH (s : XpS) : List Int := [s.lo, s.am, (s.g.pks.length : Int), (s.g.decs.length : Int)]
def rkN (s : XpS) : List Int := rkH s ++ (s.g.accs.flatMap vecN ++ ((s.g.props.zip s.g.nxt).flatMap rpF ++ (s.g.pks.flatMap pkN ++ s.g.decs.flatMap rdN)))
structure RSm (s : XpS) : Prop where
  sm : ∀ x ∈ rkN s, 0 ≤ x ∧ x < 100
  len : (rkN s).length < 1000000
  nl : s.g.nxt.length = s.g.props.length
  al : s.g.accs.length < 100
  pl : s.g.props.length < 100
theorem step_app {α : Type} {f : α → List Int} {l : List α} {j : Nat} {x : α} (hx : l[j]? = some x) (H : List Int) : H ++ (l.take (j + 1)).flatMap f = (H ++ (l.take j).flatMap f) ++ f x := by
  rw [List.take_add_one, hx, List.flatMap_append, ← List.append_assoc]
  simp
theorem rkey_pure (s : XpS) (hs : RSm s) : Pure Tryz.prog 25 [.agg (encXp s)] (.c (.sc (.string (strB (rkN s))))) := by
  obtain ⟨hsm, hlen, hnl, hal, hpl⟩ := hs
  generalize hK : rkN s = K at *
  obtain ⟨⟨accs, props, ins, nxt, pks, decs, steps⟩, lo, am⟩ := s
  dsimp only at *
  obtain ⟨H, hH⟩ : ∃ H, H = [lo, am, (pks.length : Int), (decs.length : Int)] := ⟨_, rfl⟩
  have hK1 : K = H ++ (accs.flatMap vecN ++ ((props.zip nxt).flatMap rpF ++ (pks.flatMap pkN ++ decs.flatMap rdN))) := by rw [← hK, hH]; rfl
  have hkl : pks.length < 100 := by have := hsm pks.length (by rw [hK1, hH]; simp); omega
  have hdl : decs.length < 100 := by have := hsm decs.length (by rw [hK1, hH]; simp); omega
  have hHs : ∀ x ∈ H, 0 ≤ x ∧ x < 128 := fun x hx => by
    have := hsm x (by rw [hK1]; exact List.mem_append_left _ hx)
    omega
  have n0 := (rnums_lit [] H hHs (by rw [hH]; simp)).le (.cons (.c (.nil 1)) (.cons (.refl _) .nil)) (.refl _)
  rw [List.nil_append] at n0
  rw [hH] at n0
  refine pure_of teOk Tryz.func25 (by kernel_rfl) (c := _) rfl (N := 134) rfl (rs := [Go.ResultVar.tmp 2]) rfl (by simp) fun base A w0 hA => ?_
  refine AW.st teOk [] (by simp [-Option.some.injEq] <;> rfl) trivial ?_
  refine AW.st teOk [.fz (.c (encB H))] (by simp [-Option.some.injEq] <;> rfl) ?_ ?_
  · rw [hH]
    simpa using n0
  have hA1 : H ++ accs.flatMap vecN <+: K := by
    have := take_pre (f := vecN) accs accs.length hK1
    rwa [List.take_length] at this
  have pl : ∀ {P : List Int}, P <+: K → P.length < 1000000 := fun h => by have := h.length_le; omega
  refine AW.seq ?_
  refine AW.st teOk [] (by simp [-Option.some.injEq] <;> rfl) trivial ?_
  refine AW.block (AW.loop (fun m s => ∃ (j : Nat) (b : List Int), m = accs.length - j ∧ j ≤ accs.length ∧ b = H ++ (accs.take j).flatMap vecN ∧ s = ⟨[(1, .c (.ptr 0 0 0)), (3, .c (encB b)), (4, .c (cI j))], [(0, ⟨9, [encXp ⟨⟨accs, props, ins, nxt, pks, decs, steps⟩, lo, am⟩]⟩)], 1⟩) (accs.length - 0) (Weak.normS hA [1, 3, 4] [(1, 0)] [] [] 1 _ (by simp) (by simp) (by simp)) ⟨0, _, rfl, Nat.zero_le _, rfl, by simp⟩ ?_)
  rintro m s ⟨j, b, rfl, hj, hb, rfl⟩
  have hpre := take_pre (f := vecN) accs j hK1
  rw [← hb] at hpre
  have hbl := pl hpre
  refine AW.seq ?_
  refine AW.st teOk [] (by simp [-Option.some.injEq] <;> rfl) trivial ?_
  refine AW.iff (decide (j < accs.length)) (by simp) (fun h => AW.skip ?_) (fun h => AW.exit (x_then (x_then (blockA_exit ?_))))
  · rw [decide_eq_true_eq] at h
    obtain ⟨x, hx⟩ : ∃ x, accs[j]? = some x := ⟨_, List.getElem?_eq_getElem h⟩
    have hm : x ∈ accs := List.mem_of_getElem? hx
    have hinc : IntKind.i64.wrap ((j : Int) + 1) = (j : Int) + 1 := wrap_s _ (by omega)
    have hst := step_app (f := vecN) hx H
    rw [← hb] at hst
    have c0 := rvec_pure b x (fun y hy => hsm y (by
      rw [hK1]
      exact List.mem_append_right _ (List.mem_append_left _ (List.mem_flatMap.2 ⟨x, hm, hy⟩)))) (by omega)
    obtain ⟨bn, hbn⟩ : ∃ bn, bn = b ++ vecN x := ⟨_, rfl⟩
    rw [← hbn] at hst c0
    refine AW.seq (AW.block ?_)
    refine AW.text teOk (ans := [.fz (.c (encB bn))]) (by simp [hx, -Option.some.injEq] <;> rfl) ?_ ?_
    · exact ⟨h, c0⟩
    refine AW.text teOk (ans := []) (by simp [-Option.some.injEq] <;> rfl) ?_ ?_
    · trivial
    refine ⟨_, _, Weak.normS hA [1, 3, 4] [(1, 0)] [] [] 1 _ (by simp) (by simp) (by simp), ?_, j + 1, bn, rfl, h, hst.symm, ?_⟩
    · omega
    · simp [hinc]
  have hjl : j = accs.length := by
    rw [decide_eq_false_iff_not] at h
    omega
  rw [hjl, List.take_length] at hb
  clear h hj hpre hbl hjl
  have hK2 : K = (H ++ accs.flatMap vecN) ++ ((props.zip nxt).flatMap rpF ++ (pks.flatMap pkN ++ decs.flatMap rdN)) := by rw [hK1, List.append_assoc]
  obtain ⟨H2, hH2⟩ : ∃ H2, H2 = H ++ accs.flatMap vecN := ⟨_, rfl⟩
  rw [← hH2] at hK2 hb
  refine AW.seq ?_
  refine AW.st teOk [] (by simp [-Option.some.injEq] <;> rfl) trivial ?_
  refine AW.block (AW.loop (fun m s => ∃ (j : Nat) (b : List Int), m = props.length - j ∧ j ≤ props.length ∧ b = H2 ++ ((props.zip nxt).take j).flatMap rpF ∧ s = ⟨[(1, .c (.ptr 0 0 0)), (3, .c (encB b)), (5, .c (cI j))], [(0, ⟨9, [encXp ⟨⟨accs, props, ins, nxt, pks, decs, steps⟩, lo, am⟩]⟩)], 1⟩) (props.length - 0) (Weak.normS hA [1, 3, 5] [(1, 0)] [] [] 1 _ (by simp) (by simp) (by simp)) ⟨0, _, rfl, Nat.zero_le _, rfl, by simp [hb]⟩ ?_)
  clear hb
  clear b
  rintro m s ⟨j, b, rfl, hj, hb, rfl⟩
  have hpre := take_pre (f := rpF) (props.zip nxt) j hK2
  rw [← hb] at hpre
  have hbl := pl hpre
  refine AW.seq ?_
  refine AW.st teOk [] (by simp [-Option.some.injEq] <;> rfl) trivial ?_
  refine AW.iff (decide (j < props.length)) (by simp) (fun h => AW.skip ?_) (fun h => AW.exit (x_then (x_then (blockA_exit ?_))))
  · rw [decide_eq_true_eq] at h
    have hinc : IntKind.i64.wrap ((j : Int) + 1) = (j : Int) + 1 := wrap_s _ (by omega)
    obtain ⟨p, hx⟩ : ∃ p, props[j]? = some p := ⟨_, List.getElem?_eq_getElem h⟩
    obtain ⟨x, hx2⟩ : ∃ x, nxt[j]? = some x := ⟨_, List.getElem?_eq_getElem (by omega)⟩
    have hz : (props.zip nxt)[j]? = some (p, x) := by rw [List.getElem?_zip_eq_some]; exact ⟨hx, hx2⟩
    have hjn : j < nxt.length := by omega
    have hst := step_app (f := rpF) hz H2
    rw [← hb] at hst
    have hsy : ∀ y ∈ rpF (p, x), 0 ≤ y ∧ y < 100 := fun y hy => hsm y (by
      rw [hK2]
      exact List.mem_append_right _ (List.mem_append_left _ (List.mem_flatMap.2 ⟨_, List.mem_of_getElem? hz, hy⟩)))
    have hpre2 := take_pre (f := rpF) (props.zip nxt) (j + 1) hK2
    rw [hst] at hpre2
    have hl2 := pl hpre2
    have hrp : rpF (p, x) = vecN p.v ++ ([p.r, (p.acks.length : Int), numB p.dec, x] ++ p.acks) := rfl
    rw [hrp] at hsy hl2 hst
    simp only [List.length_append] at hl2
    have d0 := rvec_pure b p.v (fun y hy => hsy y (List.mem_append_left _ hy)) (by omega)
    have d1 := rflag_pure p.dec
    have d2 := rnums_lit (b ++ vecN p.v) [p.r, (p.acks.length : Int), numB p.dec, x] (fun y hy => by
      have := hsy y (List.mem_append_right _ (List.mem_append_left _ hy))
      omega) (by simp only [List.length_append]; omega)
    have d3 := rnums_pure (b ++ vecN p.v ++ [p.r, (p.acks.length : Int), numB p.dec, x]) p.acks (fun y hy => by
      have := hsy y (List.mem_append_right _ (List.mem_append_right _ hy))
      omega) (by simp only [List.length_append]; omega)
    obtain ⟨bn, hbn⟩ : ∃ bn, bn = b ++ vecN p.v ++ [p.r, (p.acks.length : Int), numB p.dec, x] ++ p.acks := ⟨_, rfl⟩
    rw [← hbn] at d3
    rw [← List.append_assoc, ← List.append_assoc, ← hbn] at hst
    generalize b ++ vecN p.v ++ [p.r, (p.acks.length : Int), numB p.dec, x] = b2 at *
    generalize b ++ vecN p.v = b1 at *
    refine AW.seq (AW.block ?_)
    refine AW.st teOk [] (by simp [hx, -Option.some.injEq] <;> rfl) ?_ ?_
    · exact h
    refine AW.dr mixed teOk [.c (encB b1), .c (cI (numB p.dec)), .c (encB b2)] (by simp [hx2, -Option.some.injEq] <;> rfl) (by kernel_rfl) (by kernel_rfl) ?_ ?_
    · simp [allP]
      exact ⟨d0, d1, hjn, by simpa using d2⟩
    refine AW.text teOk (ans := [.fz (.c (encB bn))]) (by simp [-Option.some.injEq] <;> rfl) ?_ ?_
    · simpa using d3
    refine AW.text teOk (ans := []) (by simp [-Option.some.injEq] <;> rfl) ?_ ?_
    · trivial
    refine ⟨_, _, Weak.normS hA [1, 3, 5] [(1, 0)] [] [] 1 _ (by simp) (by simp) (by simp), ?_, j + 1, bn, rfl, h, hst.symm, ?_⟩
    · omega
    · simp [hinc]
  have hjl : j = props.length := by
    rw [decide_eq_false_iff_not] at h
    omega
  rw [hjl, List.take_of_length_le (by rw [List.length_zip]; omega)] at hb
  clear h hj hpre hbl hjl
  have hK3 : K = (H2 ++ (props.zip nxt).flatMap rpF) ++ (pks.flatMap pkN ++ decs.flatMap rdN) := by rw [hK2, List.append_assoc]
  obtain ⟨H3, hH3⟩ : ∃ H3, H3 = H2 ++ (props.zip nxt).flatMap rpF := ⟨_, rfl⟩
  rw [← hH3] at hK3 hb
  refine AW.seq ?_
  refine AW.st teOk [] (by simp [-Option.some.injEq] <;> rfl) trivial ?_
  refine AW.block (AW.loop (fun m s => ∃ (j : Nat) (b : List Int), m = pks.length - j ∧ j ≤ pks.length ∧ b = H3 ++ (pks.take j).flatMap pkN ∧ s = ⟨[(1, .c (.ptr 0 0 0)), (3, .c (encB b)), (7, .c (cI j))], [(0, ⟨9, [encXp ⟨⟨accs, props, ins, nxt, pks, decs, steps⟩, lo, am⟩]⟩)], 1⟩) (pks.length - 0) (Weak.normS hA [1, 3, 7] [(1, 0)] [] [] 1 _ (by simp) (by simp) (by simp)) ⟨0, _, rfl, Nat.zero_le _, rfl, by simp [hb]⟩ ?_)
  clear hb
  clear b
  rintro m s ⟨j, b, rfl, hj, hb, rfl⟩
  have hpre := take_pre (f := pkN) pks j hK3
  rw [← hb] at hpre
  have hbl := pl hpre
  refine AW.seq ?_
  refine AW.st teOk [] (by simp [-Option.some.injEq] <;> rfl) trivial ?_
  refine AW.iff (decide (j < pks.length)) (by simp) (fun h => AW.skip ?_) (fun h => AW.exit (x_then (x_then (blockA_exit ?_))))
  · rw [decide_eq_true_eq] at h
    have hinc : IntKind.i64.wrap ((j : Int) + 1) = (j : Int) + 1 := wrap_s _ (by omega)
    obtain ⟨q, hx⟩ : ∃ q, pks[j]? = some q := ⟨_, List.getElem?_eq_getElem h⟩
    have hst := step_app (f := pkN) hx H3
    rw [← hb] at hst
    have hsy : ∀ y ∈ pkN q, 0 ≤ y ∧ y < 100 := fun y hy => hsm y (by
      rw [hK3]
      exact List.mem_append_right _ (List.mem_append_left _ (List.mem_flatMap.2 ⟨_, List.mem_of_getElem? hx, hy⟩)))
    have hpre2 := take_pre (f := pkN) pks (j + 1) hK3
    rw [hst] at hpre2
    have hl2 := pl hpre2
    have hrp : pkN q = [numB q.reply, q.prop, q.acc, q.round] ++ vecN q.v := rfl
    rw [hrp] at hsy hl2 hst
    simp only [List.length_append] at hl2
    have d1 := rflag_pure q.reply
    have d2 := rnums_lit b [numB q.reply, q.prop, q.acc, q.round] (fun y hy => by
      have := hsy y (List.mem_append_left _ hy)
      omega) (by omega)
    have d3 := rvec_pure (b ++ [numB q.reply, q.prop, q.acc, q.round]) q.v (fun y hy => hsy y (List.mem_append_right _ hy)) (by simp only [List.length_append]; omega)
    obtain ⟨bn, hbn⟩ : ∃ bn, bn = b ++ [numB q.reply, q.prop, q.acc, q.round] ++ vecN q.v := ⟨_, rfl⟩
    rw [← hbn] at d3
    rw [← List.append_assoc, ← hbn] at hst
    generalize b ++ [numB q.reply, q.prop, q.acc, q.round] = b1 at *
    refine AW.seq (AW.block ?_)
    refine AW.st teOk [] (by simp [hx, -Option.some.injEq] <;> rfl) ?_ ?_
    · exact h
    refine AW.draw mixed teOk (ans := [.c (cI (numB q.reply)), .c (encB b1), .c (encB bn)]) (by simp [-Option.some.injEq] <;> rfl) (by kernel_rfl) (by kernel_rfl) ?_ ?_
    · simp [allP]
      exact ⟨d1, by simpa using d2, d3⟩
    refine AW.text teOk (ans := []) (by simp [-Option.some.injEq] <;> rfl) ?_ ?_
    · trivial
    refine ⟨_, _, Weak.normS hA [1, 3, 7] [(1, 0)] [] [] 1 _ (by simp) (by simp) (by simp), ?_, j + 1, bn, rfl, h, hst.symm, ?_⟩
    · omega
    · simp [hinc]
  have hjl : j = pks.length := by
    rw [decide_eq_false_iff_not] at h
    omega
  rw [hjl, List.take_of_length_le (by omega)] at hb
  clear h hj hpre hbl hjl
  have hK4 : K = (H3 ++ pks.flatMap pkN) ++ (decs.flatMap rdN ++ []) := by rw [hK3, List.append_assoc, List.append_nil]
  obtain ⟨H4, hH4⟩ : ∃ H4, H4 = H3 ++ pks.flatMap pkN := ⟨_, rfl⟩
  rw [← hH4] at hK4 hb
  refine AW.seq ?_
  refine AW.st teOk [] (by simp [-Option.some.injEq] <;> rfl) trivial ?_
  refine AW.block (AW.loop (fun m s => ∃ (j : Nat) (b : List Int), m = decs.length - j ∧ j ≤ decs.length ∧ b = H4 ++ (decs.take j).flatMap rdN ∧ s = ⟨[(1, .c (.ptr 0 0 0)), (3, .c (encB b)), (9, .c (cI j))], [(0, ⟨9, [encXp ⟨⟨accs, props, ins, nxt, pks, decs, steps⟩, lo, am⟩]⟩)], 1⟩) (decs.length - 0) (Weak.normS hA [1, 3, 9] [(1, 0)] [] [] 1 _ (by simp) (by simp) (by simp)) ⟨0, _, rfl, Nat.zero_le _, rfl, by simp [hb]⟩ ?_)
  clear hb
  clear b
  rintro m s ⟨j, b, rfl, hj, hb, rfl⟩
  have hpre := take_pre (f := rdN) decs j hK4
  rw [← hb] at hpre
  have hbl := pl hpre
  refine AW.seq ?_
  refine AW.st teOk [] (by simp [-Option.some.injEq] <;> rfl) trivial ?_
  refine AW.iff (decide (j < decs.length)) (by simp) (fun h => AW.skip ?_) (fun h => AW.exit (x_then (x_then (blockA_exit ?_))))
  · rw [decide_eq_true_eq] at h
    have hinc : IntKind.i64.wrap ((j : Int) + 1) = (j : Int) + 1 := wrap_s _ (by omega)
    obtain ⟨q, hx⟩ : ∃ q, decs[j]? = some q := ⟨_, List.getElem?_eq_getElem h⟩
    have hst := step_app (f := rdN) hx H4
    rw [← hb] at hst
    have hsy : ∀ y ∈ rdN q, 0 ≤ y ∧ y < 100 := fun y hy => hsm y (by
      rw [hK4]
      exact List.mem_append_right _ (List.mem_append_left _ (List.mem_flatMap.2 ⟨_, List.mem_of_getElem? hx, hy⟩)))
    have hpre2 := take_pre (f := rdN) decs (j + 1) hK4
    rw [hst] at hpre2
    have hl2 := pl hpre2
    have hrp : rdN q = [q.prop, q.input] ++ vecN q.v := rfl
    rw [hrp] at hsy hl2 hst
    simp only [List.length_append] at hl2
    have d2 := rnums_lit b [q.prop, q.input] (fun y hy => by
      have := hsy y (List.mem_append_left _ hy)
      omega) (by omega)
    have d3 := rvec_pure (b ++ [q.prop, q.input]) q.v (fun y hy => hsy y (List.mem_append_right _ hy)) (by simp only [List.length_append]; omega)
    obtain ⟨bn, hbn⟩ : ∃ bn, bn = b ++ [q.prop, q.input] ++ vecN q.v := ⟨_, rfl⟩
    rw [← hbn] at d3
    rw [← List.append_assoc, ← hbn] at hst
    generalize b ++ [q.prop, q.input] = b1 at *
    refine AW.seq (AW.block ?_)
    refine AW.st teOk [] (by simp [hx, -Option.some.injEq] <;> rfl) ?_ ?_
    · exact h
    refine AW.draw mixed teOk (ans := [.c (encB b1), .c (encB bn)]) (by simp [-Option.some.injEq] <;> rfl) (by kernel_rfl) (by kernel_rfl) ?_ ?_
    · simp [allP]
      exact ⟨by simpa using d2, d3⟩
    refine AW.text teOk (ans := []) (by simp [-Option.some.injEq] <;> rfl) ?_ ?_
    · trivial
    refine ⟨_, _, Weak.normS hA [1, 3, 9] [(1, 0)] [] [] 1 _ (by simp) (by simp) (by simp), ?_, j + 1, bn, rfl, h, hst.symm, ?_⟩
    · omega
    · simp [hinc]
  have hjl : j = decs.length := by
    rw [decide_eq_false_iff_not] at h
    omega
  rw [hjl, List.take_of_length_le (by omega)] at hb
  clear h hj hpre hbl hjl
  rw [List.append_nil] at hK4
  rw [← hK4] at hb
  subst hb
  have hbe := bytes_enc b
  refine AW.st teOk [] (by simp [hbe, -Option.some.injEq] <;> rfl) trivial ?_
  refine AW.ret ⟨.inr rfl, _, Weak.refl _, ?_⟩
  simp [strB]
end Go.Proofs.YtphlhadgcfndhaaGreatDoor.Abs
end
