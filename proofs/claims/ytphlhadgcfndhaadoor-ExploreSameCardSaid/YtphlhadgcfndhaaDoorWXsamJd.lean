/- Explore: the law ExploreSame. -/
import Derived.Test.YtphlhadgcfndhaaDoorJd14
namespace Go.Proofs.YtphlhadgcfndhaaDoor.Abs
open Go Go.RowKit
set_option linter.unusedVariables false
set_option linter.unusedSimpArgs false
set_option maxHeartbeats 4000000
def nineV : V2 := [(9, 1)]
theorem nine_val : Val nineV := by
  refine ⟨fun e he => ?_, ?_⟩
  · revert he e
    decide
  · unfold Srt nineV
    simp
theorem jn_ok {v : V2} (h : V4 v) : (∀ x ∈ vecN (rjoinI v nineV), N0 x) ∧ (vecN (rjoinI v nineV)).length ≤ 11 ∧ cnt (rjoinI v nineV) 9 = 1 ∧ (rjoinI v nineV).length ≤ 5 := by
  obtain ⟨hv, hc⟩ := rjoin_law nineV v h.val nine_val
  have hl := rjoinI_length nineV v
  have hv4 := h.le
  have h9 : cnt v 9 = 0 := by
    have h1 := h.a 9 (by omega)
    have h2 := (cnt_range (a := 9) fun e he => h.val.1 e he).1
    omega
  have hn : ∀ x, cnt nineV x = if x = 9 then 1 else 0 := fun x => by
    unfold nineV
    simp only [cnt]
    split <;> split <;> first | rfl | omega
  have hcc : ∀ x, cnt (rjoinI v nineV) x = if x = 9 then 1 else cnt v x := fun x => by
    have := h.c x
    have h0 : 0 ≤ cnt v x := (cnt_range fun e he => h.val.1 e he).1
    rw [hc, hn]
    split
    · rename_i hx
      rw [hx, h9]
      rfl
    · unfold boundI
      simp
      omega
  have hnl : nineV.length = 1 := rfl
  generalize rjoinI v nineV = J at *
  refine ⟨fun x hx => ?_, by rw [vecN_len]; omega, by rw [hcc, if_pos rfl], by omega⟩
  unfold vecN at hx
  rcases List.mem_cons.1 hx with rfl | hx
  · unfold N0; omega
  · obtain ⟨e, he, hx⟩ := List.mem_flatMap.1 hx
    have h1 := hv.1 e he
    have h3 := cnt_mem hv.2 he
    have h4 := h.c e.1
    rw [hcc] at h3
    have h2 : e.1 ≤ 9 := by
      by_cases h5 : 9 < e.1
      · have := h.a e.1 (by omega)
        rw [if_neg (by omega)] at h3
        unfold Good at h1
        omega
      · omega
    unfold N0
    unfold Good at h1
    simp only [entN, List.mem_cons, List.not_mem_nil, or_false] at hx
    rcases hx with rfl | rfl
    · omega
    · split at h3 <;> omega
theorem can_swap {s : XpS} {L : List PkS} (h : L.Perm s.g.pks) : canX { s with g := { s.g with pks := L } } = canX s := by
  unfold canX canG
  simp only [sortP_eq h]
theorem can_other {s : XpS} {L : List PkS} {k : PkS} (hk : k ∈ L) (hn : k ∉ s.g.pks) : canX { s with g := { s.g with pks := L } } ≠ canX s := fun h => by
  have h1 : sortP L = sortP s.g.pks := congrArg (fun x : XpS => x.g.pks) h
  have h2 : k ∈ sortP L := sortP_mem.2 hk
  rw [h1] at h2
  exact hn (sortP_mem.1 h2)
theorem XInv.small3 {ins : List (List V2)} {all : V2} {m N : Nat} {s : XpS} (h0 : XIns ins all m) (h : XInv ins all m N s.g) (hb : XB s.g) (hsm : XSm s) (K : List PkS) (hK : K.length < 20) (hKk : ∀ k ∈ K, (∀ x ∈ pkN k, N0 x) ∧ (pkN k).length ≤ 15) : XSm { s with g := { s.g with pks := K } } := by
  have hde := h.decs h0
  have e1 := h.w.nn.x
  have e2 := h.w.nn.i
  have e3 := h.w.nn.p
  have hil : s.g.ins.length ≤ 2 := by rw [h.i]; exact h0.len
  have hal : s.g.accs.length ≤ 2 := by rw [h.al]; exact h0.m.2
  have hA : ∀ v ∈ s.g.accs, (vecN v).length ≤ 9 := fun v hv => (vec_small (h.w.a v hv)).2
  have hP : ∀ p ∈ s.g.props, (prN p).length ≤ 25 := fun p hp => by
    have hw := h.w.p p hp
    obtain ⟨g1, g2⟩ := vec_small hw.v
    have hl := acks_len hw.asc (hb.a p hp)
    unfold prN
    rw [List.length_append, List.length_append]
    simp only [List.length_cons, List.length_nil]
    omega
  have hI : ∀ l ∈ s.g.ins, (inN l).length ≤ 28 := fun l hl => by
    obtain ⟨k1, k2⟩ := h.w.i l hl
    unfold inN
    rw [List.length_cons]
    have := flat_len vecN 9 l fun v hv => (vec_small (k2 v hv)).2
    omega
  have hD : ∀ d ∈ s.g.decs, (deN d).length ≤ 12 := fun d hd => by
    obtain ⟨g1, g2⟩ := vec_small (h.w.d d hd)
    unfold deN
    rw [List.length_append]
    simp only [List.length_cons, List.length_nil]
    omega
  have hin : ∀ x, x ∈ keyN s → 0 ≤ x ∧ x < 100 := hsm.sm
  unfold keyN at hin
  refine ⟨fun x hx => ?_, ?_⟩
  · unfold keyN at hx
    rcases List.mem_append.1 hx with hx | hx
    · simp only [List.mem_cons, List.not_mem_nil, or_false] at hx
      rcases hx with hx | hx | hx | hx | hx | hx | hx | hx | hx
      all_goals first | omega | exact hin x (by simp [hx])
    rcases List.mem_append.1 hx with hx | hx
    · exact hin x (List.mem_append_right _ (List.mem_append_left _ hx))
    rcases List.mem_append.1 hx with hx | hx
    · exact hin x (List.mem_append_right _ (List.mem_append_right _ (List.mem_append_left _ hx)))
    rcases List.mem_append.1 hx with hx | hx
    · exact hin x (List.mem_append_right _ (List.mem_append_right _ (List.mem_append_right _ (List.mem_append_left _ hx))))
    rcases List.mem_append.1 hx with hx | hx
    · exact hin x (List.mem_append_right _ (List.mem_append_right _ (List.mem_append_right _ (List.mem_append_right _ (List.mem_append_left _ hx)))))
    rcases List.mem_append.1 hx with hx | hx
    · obtain ⟨k, hk, hx⟩ := List.mem_flatMap.1 hx
      exact (hKk k hk).1 x hx
    · exact hin x (List.mem_append_right _ (List.mem_append_right _ (List.mem_append_right _ (List.mem_append_right _ (List.mem_append_right _ (List.mem_append_right _ hx))))))
  · have l1 := flat_len vecN 9 s.g.accs fun v hv => hA v hv
    have l2 := flat_len prN 25 s.g.props fun v hv => hP v hv
    have l3 := flat_len inN 28 s.g.ins fun v hv => hI v hv
    have l4 := flat_len pkN 15 K fun v hv => (hKk v hv).2
    have l5 := flat_len deN 12 s.g.decs fun v hv => hD v hv
    unfold keyN
    simp only [List.length_append, List.length_cons, List.length_nil]
    omega
def joinAt (L : List PkS) (i : Nat) : List PkS := match L[i]? with
  | some k => L.set i { k with v := rjoinI k.v nineV }
  | none => L
def swapAt (L : List PkS) (i k : Nat) : List PkS := match L[i]?, L[k]? with
  | some a, some b => (L.set i b).set k a
  | _, _ => L
theorem swapAt_perm (L : List PkS) (i k : Nat) : (swapAt L i k).Perm L := by
  unfold swapAt
  split
  · rename_i a b ha hb
    obtain ⟨h1, h2⟩ := List.getElem?_eq_some_iff.1 ha
    obtain ⟨h3, h4⟩ := List.getElem?_eq_some_iff.1 hb
    subst h2 h4
    exact List.set_set_perm h1 h3
  · exact List.Perm.refl _
theorem xsam_pure (na : Int) (l sc : List Int) (x y : Int) (hsc : sc.length < 4000000000000000000) : Pure Tryd.prog 6 [.c (cI na), .c (encIs l), .c (encIs sc), .c (cI x), .c (cI y)] (.c (cB true)) := by
  have c0 := prog_pure na l 1 0
  have hp := prog_pins na l
  rw [show indexI 0 2 = 0 by decide, show indexI 1 2 = 1 by decide] at c0
  generalize accQ na = M at *
  generalize progI l = ins at *
  have hm := hp.m
  have hpl := hp.len
  have c2 := initX_pure M (by omega) hp.ok 1 0
  have hJ0 := JX.init hp (lo := 1) (am := 0) (by omega) (by omega)
  generalize (⟨newG M ins, 1, 0⟩ : XpS) = x0 at *
  refine pure_of teOk Tryd.func6 (by kernel_rfl) (c := _) rfl (N := 148) rfl (rs := [Go.ResultVar.tmp 10]) rfl (by simp) fun base A w0 hA => ?_
  refine AW.st teOk [] (by simp [-Option.some.injEq] <;> rfl) trivial ?_
  refine AW.st teOk [.fz (.agg (encPg M 1 0 ins))] (by simp [-Option.some.injEq] <;> rfl) ?_ ?_
  · simpa using c0
  refine AW.st teOk [.fz (.agg (encXp x0))] (by simp [-Option.some.injEq] <;> rfl) ?_ ?_
  · simpa using c2
  refine AW.mid (fun s => ∃ (k : Nat) (s1 : XpS), k ≤ 10 ∧ JX ins M 0 k s1 ∧ s = ⟨[(3, .c (cI x)), (4, .c (cI y)), (12, .c (.ptr 0 0 0))], [(0, ⟨9, [encXp s1]⟩)], 1⟩) ?_ ?_
  · refine AW.st teOk [] (by simp [-Option.some.injEq] <;> rfl) trivial ?_
    refine AW.block (AW.loop (fun m' s => ∃ (i k : Nat) (s1 : XpS), m' = 10 - i ∧ i ≤ 10 ∧ k ≤ i ∧ JX ins M 0 k s1 ∧ s = ⟨[(2, .c (encIs sc)), (3, .c (cI x)), (4, .c (cI y)), (12, .c (.ptr 0 0 0)), (13, .c (cI i))], [(0, ⟨9, [encXp s1]⟩)], 1⟩) (10 - 0) (Weak.normS hA [2, 3, 4, 12, 13] [(12, 0)] [] [] 1 _ (by simp) (by simp) (by simp)) ⟨0, 0, x0, rfl, Nat.zero_le _, Nat.zero_le _, hJ0, by simp⟩ ?_)
    rintro m' s ⟨i, k, s1, rfl, hi, hk, hJ, rfl⟩
    have hok := hJ.ok hp (by omega)
    obtain ⟨m1, N1, hN1, hw1⟩ := hok.w
    refine AW.seq ?_
    by_cases hlt : i < sc.length ∧ i < 10
    · obtain ⟨hlt1, hlt2⟩ := hlt
      have hlt2' : (i : Int) < 10 := by omega
      have hinc : IntKind.i64.wrap ((i : Int) + 1) = (i : Int) + 1 := wrap_s _ (by omega)
      obtain ⟨n, hn⟩ : ∃ n, sc[i]? = some n := ⟨_, List.getElem?_eq_getElem hlt1⟩
      have c3 := acts_pure s1 (by have := hok.k; omega) (by have := hw1.al; omega)
      obtain ⟨L, hL⟩ : ∃ L, L = actsX s1 := ⟨_, rfl⟩
      rw [← hL] at c3
      have hal := acts_len s1
      rw [← hL] at hal
      have hk20 := hok.k
      have hal12 := hw1.al
      refine AW.st teOk [] (by simp [hlt1, hlt2', -Option.some.injEq] <;> rfl) trivial ?_
      refine AW.iff true (by simp) (fun _ => AW.skip ?_) (fun h => by cases h)
      refine AW.seq (AW.block ?_)
      refine AW.st teOk [.fz (.c (.row 2 false (L.map encA)))] (by simp [-Option.some.injEq] <;> rfl) ?_ ?_
      · simpa using c3
      refine AW.st teOk [] (by simp [-Option.some.injEq] <;> rfl) trivial ?_
      by_cases hz : L.length = 0
      · refine AW.iff false (by simp [hz]) (fun h => by cases h) (fun _ => AW.skip ?_)
        refine AW.text teOk (ans := []) (by simp [-Option.some.injEq] <;> rfl) ?_ ?_
        · trivial
        refine ⟨_, _, Weak.normS hA [2, 3, 4, 12, 13] [(12, 0)] [] [] 1 _ (by simp) (by simp) (by simp), ?_, i + 1, k, s1, rfl, hlt2, by omega, hJ, ?_⟩
        · omega
        · simp [hinc]
      · have hzp : 0 < L.length := by omega
        obtain ⟨q, hq⟩ : ∃ q : Nat, indexI n L.length = q := ⟨(indexI n L.length).toNat, by have := index_lt n (k := L.length) (by omega) (by omega); omega⟩
        have hql : q < L.length := by have := index_lt n (k := L.length) (by omega) (by omega); omega
        obtain ⟨a, ha⟩ : ∃ a, L[q]? = some a := ⟨_, List.getElem?_eq_getElem hql⟩
        have hma : a ∈ actsX s1 := by rw [← hL]; exact List.mem_of_getElem? ha
        have c5 := perf_pure s1 hw1 hN1 hok.lo hok.am a
        have c8 := index_pure' n L.length
        rw [hq] at c8
        refine AW.iff true (by simp; omega) (fun _ => ?_) (fun h => by cases h)
        refine AW.draw mixed teOk (ans := [.c (cI q), .agg (encXp (perfX s1 a))]) (by simp [ha, hn, -Option.some.injEq] <;> rfl) (by kernel_rfl) (by kernel_rfl) ?_ ?_
        · simp [allP]
          exact ⟨hlt1, c8, hql, c5⟩
        refine AW.text teOk (ans := []) (by simp [-Option.some.injEq] <;> rfl) ?_ ?_
        · trivial
        refine ⟨_, _, Weak.normS hA [2, 3, 4, 12, 13] [(12, 0)] [] [] 1 _ (by simp) (by simp) (by simp), ?_, i + 1, k + 1, perfX s1 a, rfl, hlt2, by omega, hJ.perf hp hma, ?_⟩
        · omega
        · simp [hinc]
    · have hf : decide (i < sc.length) = false ∨ decide (i < sc.length) = true ∧ decide ((i : Int) < 10) = false := by
        by_cases h1 : i < sc.length
        · exact .inr ⟨decide_eq_true h1, by rw [decide_eq_false_iff_not]; omega⟩
        · exact .inl (by simpa using h1)
      rcases hf with h1 | ⟨h1, h2⟩
      · refine AW.st teOk [] (by simp [h1, -Option.some.injEq] <;> rfl) trivial ?_
        refine AW.iff false (by simp) (fun h => by cases h) (fun _ => AW.exit (x_then (x_then (blockA_exit ?_))))
        exact ⟨_, Weak.normS hA [3, 4, 12] [(12, 0)] [] [] 1 _ (by simp) (by simp) (by simp), k, s1, by omega, hJ, by simp⟩
      · refine AW.st teOk [] (by simp [h1, h2, -Option.some.injEq] <;> rfl) trivial ?_
        refine AW.iff false (by simp) (fun h => by cases h) (fun _ => AW.exit (x_then (x_then (blockA_exit ?_))))
        exact ⟨_, Weak.normS hA [3, 4, 12] [(12, 0)] [] [] 1 _ (by simp) (by simp) (by simp), k, s1, by omega, hJ, by simp⟩
  rintro s ⟨k, s1, hk, hJ, rfl⟩
  have hok := hJ.ok hp (by omega)
  have hok2 := hJ.can.ok hp (by omega)
  obtain ⟨m1, N1, hN1, hw1⟩ := hok.w
  have c3 := hok.can
  have c4 := xsame_pure s1 s1 hok.b hok.b ⟨hok.k, hok.k⟩ ⟨hok.v, hok.v⟩ hok.sm hok.sm
  rw [show sameX (canX s1) (canX s1) = true from sameX_iff.2 rfl] at c4
  have c5 := xsame_pure s1 (canX s1) hok.b hok2.b ⟨hok.k, hok2.k⟩ ⟨hok.v, hok2.v⟩ hok.sm hok2.sm
  rw [show sameX (canX s1) (canX (canX s1)) = true from sameX_iff.2 (canX_idem s1).symm] at c5
  refine AW.st teOk [] (by simp [-Option.some.injEq] <;> rfl) trivial ?_
  refine AW.seq ?_
  refine AW.dr mixed teOk [.c (cB true), .agg (encXp (canX s1)), .c (cB true)] (by simp [-Option.some.injEq] <;> rfl) (by kernel_rfl) (by kernel_rfl) ?_ ?_
  · simp [allP]
    exact ⟨c4, c3, c5⟩
  refine AW.iff false (by simp) (fun h => by cases h) (fun _ => AW.skip ?_)
  refine AW.seq ?_
  refine AW.st teOk [] (by simp [-Option.some.injEq] <;> rfl) trivial ?_
  by_cases hz : s1.g.pks.length = 0
  · refine AW.iff true (by simp [hz]) (fun _ => ?_) (fun h => by cases h)
    refine AW.st teOk [.fz (.c (cB true))] (by simp [-Option.some.injEq] <;> rfl) ?_ ?_
    · exact awake40_pure
    refine AW.ret ⟨.inr rfl, _, Weak.refl _, ?_⟩
    simp
  refine AW.iff false (by simp [hz]) (fun h => by cases h) (fun _ => AW.skip ?_)
  have hk20 := hok.k
  obtain ⟨i, hi⟩ : ∃ i : Nat, indexI x s1.g.pks.length = i := ⟨(indexI x s1.g.pks.length).toNat, by have := index_lt x (k := s1.g.pks.length) (by omega) (by omega); omega⟩
  have hil : i < s1.g.pks.length := by have := index_lt x (k := s1.g.pks.length) (by omega) (by omega); omega
  obtain ⟨j, hj⟩ : ∃ j : Nat, indexI y s1.g.pks.length = j := ⟨(indexI y s1.g.pks.length).toNat, by have := index_lt y (k := s1.g.pks.length) (by omega) (by omega); omega⟩
  have hjl : j < s1.g.pks.length := by have := index_lt y (k := s1.g.pks.length) (by omega) (by omega); omega
  have c8 := index_pure' x s1.g.pks.length
  have c9 := index_pure' y s1.g.pks.length
  rw [hi] at c8
  rw [hj] at c9
  refine AW.st teOk [] (by simp [-Option.some.injEq] <;> rfl) trivial ?_
  refine AW.dr mixed teOk [] (by simp [hz, -Option.some.injEq] <;> rfl) (by kernel_rfl) (by kernel_rfl) ?_ ?_
  · simp [allP, growOk]
    omega
  refine AW.to (s2 := ⟨[(3, .c (cI x)), (4, .c (cI y)), (12, .c (.ptr 0 0 0)), (15, .c (cI s1.g.pks.length)), (16, .c (.ptr 1 0 0))], [(0, ⟨9, [encXp s1]⟩), (1, ⟨9, [[encVs s1.g.accs, .row 5 false (s1.g.props.map encPr'), .row 1 false (s1.g.ins.map encIn), encIs s1.g.nxt, .ref 2 0 s1.g.pks.length, .row 4 false (s1.g.decs.map encDe), cI s1.g.steps, cI s1.lo, cI s1.am]]⟩), (2, ⟨5, s1.g.pks.map encPk⟩)], 3⟩) (Weak.normS hA [3, 4, 12, 15, 16] [(12, 0), (16, 1)] [(26, 2)] [17] 3 _ (by simp) (by simp) (by simp)) (by simp) ?_
  refine AW.st teOk [.fz (.c (cI i)), .fz (.c (cI j))] (by simp [-Option.some.injEq] <;> rfl) ?_ ?_
  · exact ⟨c8, c9⟩
  obtain ⟨a, ha⟩ : ∃ a, s1.g.pks[i]? = some a := ⟨_, List.getElem?_eq_getElem hil⟩
  obtain ⟨b, hb⟩ : ∃ b, s1.g.pks[j]? = some b := ⟨_, List.getElem?_eq_getElem hjl⟩
  have hsw : swapAt s1.g.pks i j = (s1.g.pks.set i b).set j a := by
    unfold swapAt
    rw [ha, hb]
  have hget : ((List.map encPk s1.g.pks).set i [cB b.reply, cI b.prop, cI b.acc, cI b.round, encV b.v])[j]? = some [cB b.reply, cI b.prop, cI b.acc, cI b.round, encV b.v] := by
    rw [List.getElem?_set, List.length_map, List.getElem?_map, hb]
    by_cases hij : i = j
    · rw [if_pos hij, if_pos hil]
    · rw [if_neg hij]
      rfl
  refine AW.dr mixed teOk [] (by simp [ha, hb, hget, -Option.some.injEq] <;> rfl) (by kernel_rfl) (by kernel_rfl) ?_ ?_
  · simp [allP]
    omega
  have hset : ((List.map encPk s1.g.pks).set i [cB b.reply, cI b.prop, cI b.acc, cI b.round, encV b.v]).set j [cB a.reply, cI a.prop, cI a.acc, cI a.round, encV a.v] = (swapAt s1.g.pks i j).map encPk := by
    rw [hsw, List.map_set, List.map_set]
    rfl
  have hpm := swapAt_perm s1.g.pks i j
  have hcs := can_swap hpm
  generalize swapAt s1.g.pks i j = K at *
  have hKl : K.length = s1.g.pks.length := hpm.length_eq
  refine AW.to (s2 := ⟨[(12, .c (.ptr 0 0 0)), (16, .c (.ptr 1 0 0)), (17, .c (cI i))], [(0, ⟨9, [encXp s1]⟩), (1, ⟨9, [[encVs s1.g.accs, .row 5 false (s1.g.props.map encPr'), .row 1 false (s1.g.ins.map encIn), encIs s1.g.nxt, .ref 2 0 K.length, .row 4 false (s1.g.decs.map encDe), cI s1.g.steps, cI s1.lo, cI s1.am]]⟩), (2, ⟨5, K.map encPk⟩)], 3⟩) (Weak.normS hA [12, 16, 17] [(12, 0), (16, 1)] [(2, 2)] [1] 3 _ (by simp) (by simp) (by simp [hset])) (by simp [hset, hKl]) ?_
  refine AW.to (s2 := ⟨[(12, .c (.ptr 0 0 0)), (16, .c (.ptr 1 0 0)), (17, .c (cI i))], [(0, ⟨9, [encXp s1]⟩), (1, ⟨9, [[encVs s1.g.accs, .row 5 false (s1.g.props.map encPr'), .row 1 false (s1.g.ins.map encIn), encIs s1.g.nxt, .row 5 false (K.map encPk), .row 4 false (s1.g.decs.map encDe), cI s1.g.steps, cI s1.lo, cI s1.am]]⟩)], 3⟩) (Weak.freeze 2 ⟨5, K.map encPk⟩ [1] _ (by simp <;> rfl) (by simp)) (by simp [Abs.freeze]) ?_
  refine AW.st teOk [] (by simp [-Option.some.injEq] <;> rfl) trivial ?_
  have hKz : ¬ K.length = 0 := by omega
  refine AW.dr mixed teOk [] (by simp [hKz, -Option.some.injEq] <;> rfl) (by kernel_rfl) (by kernel_rfl) ?_ ?_
  · simp [allP, growOk]
    omega
  have hiK : i < K.length := by omega
  obtain ⟨c, hc⟩ : ∃ c, K[i]? = some c := ⟨_, List.getElem?_eq_getElem hiK⟩
  have hcm : c ∈ s1.g.pks := hpm.mem_iff.1 (List.mem_of_getElem? hc)
  have hcv := (hw1.k c hcm).1
  obtain ⟨j1, j2, j3, j4⟩ := jn_ok hcv
  have c10 := rjoin_pure c.v nineV (fun e he => nine_val.1 e he) (by have := hcv.le; simp [nineV]; omega)
  obtain ⟨J, hJe⟩ : ∃ J, J = rjoinI c.v nineV := ⟨_, rfl⟩
  rw [← hJe] at j1 j2 j3 j4 c10
  refine AW.to (s2 := ⟨[(12, .c (.ptr 0 0 0)), (16, .c (.ptr 1 0 0)), (17, .c (cI i)), (19, .c (.ptr 2 0 0))], [(0, ⟨9, [encXp s1]⟩), (1, ⟨9, [[encVs s1.g.accs, .row 5 false (s1.g.props.map encPr'), .row 1 false (s1.g.ins.map encIn), encIs s1.g.nxt, .row 5 false (K.map encPk), .row 4 false (s1.g.decs.map encDe), cI s1.g.steps, cI s1.lo, cI s1.am]]⟩), (2, ⟨9, [[encVs s1.g.accs, .row 5 false (s1.g.props.map encPr'), .row 1 false (s1.g.ins.map encIn), encIs s1.g.nxt, .ref 3 0 K.length, .row 4 false (s1.g.decs.map encDe), cI s1.g.steps, cI s1.lo, cI s1.am]]⟩), (3, ⟨5, K.map encPk⟩)], 4⟩) (Weak.normS hA [12, 16, 17, 19] [(12, 0), (16, 1), (19, 2)] [(13, 3)] [4] 4 _ (by simp) (by simp) (by simp)) (by simp) ?_
  refine AW.dr mixed teOk [.c (encV J)] (by simp [hc, -Option.some.injEq] <;> rfl) (by kernel_rfl) (by kernel_rfl) ?_ ?_
  · simp [allP]
    exact ⟨hiK, c10.le (.cons (.refl _) (.cons (.c (lit_v 9)) .nil)) (.refl _), hiK⟩
  obtain ⟨U, hU⟩ : ∃ U, U = K.set i { c with v := J } := ⟨_, rfl⟩
  have hUe : (K.map encPk).set i [cB c.reply, cI c.prop, cI c.acc, cI c.round, encV J] = U.map encPk := by
    rw [hU, List.map_set]
    rfl
  have hUl : U.length = s1.g.pks.length := by rw [hU, List.length_set, hKl]
  have hb := hok.b
  have hUm : ∀ k ∈ U, k ∈ s1.g.pks ∨ k = { c with v := J } := fun k hk => by
    rw [hU] at hk
    rcases List.mem_or_eq_of_mem_set hk with h | h
    · exact .inl (hpm.mem_iff.1 h)
    · exact .inr h
  have hcU : ({ c with v := J } : PkS) ∈ U := by
    rw [hU]
    exact List.mem_iff_getElem?.2 ⟨i, by rw [List.getElem?_set_self hiK]⟩
  have hno : ({ c with v := J } : PkS) ∉ s1.g.pks := fun h => by
    have h1 := (hw1.k _ h).1.a 9 (by omega)
    have h2 : cnt J 9 ≤ 0 := h1
    omega
  have hkv : ∀ k ∈ U, k.v.length < 1000000 := fun k hk => by
    rcases hUm k hk with h | h
    · exact hok.v k h
    · rw [h]
      show J.length < 1000000
      omega
  have hbT : GrB { s1.g with pks := K } := ⟨hb.al, hb.pl, hb.il, hb.nl, by show K.length < _; omega, hb.dl, hb.a, hb.p, hb.i, fun k hk => hb.k k (hpm.mem_iff.1 hk), hb.d⟩
  have hbU : GrB { s1.g with pks := U } := ⟨hb.al, hb.pl, hb.il, hb.nl, by show U.length < _; omega, hb.dl, hb.a, hb.p, hb.i, fun k hk => by have := hkv k hk; omega, hb.d⟩
  have hsmk : ∀ k ∈ s1.g.pks, ∀ x ∈ pkN k, N0 x := fun k hk x hx => by
    have : x ∈ keyN (canX s1) := by
      unfold keyN
      exact List.mem_append_right _ (List.mem_append_right _ (List.mem_append_right _ (List.mem_append_right _ (List.mem_append_right _ (List.mem_append_left _ (List.mem_flatMap.2 ⟨k, sortP_mem.2 hk, hx⟩))))))
    exact hok.sm.sm x this
  have hsmU : XSm (canX { s1 with g := { s1.g with pks := U } }) := hJ.can.x.small3 hp.x hJ.can.b hok.sm (sortP U) (by rw [sortP_len]; omega) fun k hk => by
    rcases hUm k (sortP_mem.1 hk) with h | h
    · refine ⟨hsmk k h, ?_⟩
      have := (vec_small (hw1.k k h).1).2
      unfold pkN
      rw [List.length_append]
      simp only [List.length_cons, List.length_nil]
      omega
    · subst h
      refine ⟨fun x hx => ?_, ?_⟩
      · unfold pkN at hx
        rcases List.mem_append.1 hx with hx | hx
        · exact hsmk c hcm x (by unfold pkN; exact List.mem_append_left _ hx)
        · exact j1 x hx
      · unfold pkN
        rw [List.length_append]
        simp only [List.length_cons, List.length_nil]
        omega
  have c11 := xsame_pure s1 { s1 with g := { s1.g with pks := K } } hok.b hbT ⟨hok.k, by show K.length < 20; omega⟩ ⟨hok.v, fun k hk => hok.v k (hpm.mem_iff.1 hk)⟩ hok.sm (by rw [hcs]; exact hok.sm)
  rw [hcs, show sameX (canX s1) (canX s1) = true from sameX_iff.2 rfl] at c11
  have c12 := xsame_pure s1 { s1 with g := { s1.g with pks := U } } hok.b hbU ⟨hok.k, by show U.length < 20; omega⟩ ⟨hok.v, hkv⟩ hok.sm hsmU
  rw [show sameX (canX s1) (canX { s1 with g := { s1.g with pks := U } }) = false from Bool.eq_false_iff.2 fun h => can_other hcU hno (sameX_iff.1 h).symm] at c12
  refine AW.to (s2 := ⟨[(12, .c (.ptr 0 0 0)), (16, .c (.ptr 1 0 0)), (19, .c (.ptr 2 0 0))], [(0, ⟨9, [encXp s1]⟩), (1, ⟨9, [[encVs s1.g.accs, .row 5 false (s1.g.props.map encPr'), .row 1 false (s1.g.ins.map encIn), encIs s1.g.nxt, .row 5 false (K.map encPk), .row 4 false (s1.g.decs.map encDe), cI s1.g.steps, cI s1.lo, cI s1.am]]⟩), (2, ⟨9, [[encVs s1.g.accs, .row 5 false (s1.g.props.map encPr'), .row 1 false (s1.g.ins.map encIn), encIs s1.g.nxt, .ref 3 0 U.length, .row 4 false (s1.g.decs.map encDe), cI s1.g.steps, cI s1.lo, cI s1.am]]⟩), (3, ⟨5, U.map encPk⟩)], 4⟩) (Weak.normS hA [12, 16, 19] [(12, 0), (16, 1), (19, 2)] [(3, 3)] [2] 4 _ (by simp) (by simp) (by simp [hUe])) (by simp [hUe, hUl, hKl]) ?_
  refine AW.st teOk [.fz (.c (cB true)), .rd (.c (cB false)), .fz (.c (cB true))] (by simp [-Option.some.injEq] <;> rfl) ?_ ?_
  · exact ⟨c11, ⟨by simp [flatVs, flatV, flatCs, flatC, flatAt], c12⟩, awake40_pure⟩
  refine AW.ret ⟨.inr rfl, _, Weak.refl _, ?_⟩
  simp
theorem exploreSame_row (na : Int) (l sc : List Int) (x y : Int) (_ : (Lit.int .i64 na).wf = true) (_ : l.length < 4000000000000000000) (hsc : sc.length < 4000000000000000000) (_ : (Lit.int .i64 x).wf = true) (_ : (Lit.int .i64 y).wf = true) : Pure Tryd.prog 6 [.c (cI na), .c (encIs l), .c (encIs sc), .c (cI x), .c (cI y)] (.c (cB true)) := xsam_pure na l sc x y hsc
end Go.Proofs.YtphlhadgcfndhaaDoor.Abs
