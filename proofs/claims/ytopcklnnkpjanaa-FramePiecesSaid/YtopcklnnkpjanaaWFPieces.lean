/- FramePieces. -/
import Derived.Test.YtopcklnnkpjanaaWFSplit
namespace Go.Proofs.Ytopcklnnkpjanaa.Abs
open Go Go.RowKit Fr
set_option linter.unusedVariables false
set_option linter.unusedSimpArgs false
set_option maxHeartbeats 4000000
theorem piece_err {r e : List Int} {x : Int} {ps : List (List Int)} {got : List (List Int)} (h : ((feedF r x e).1, got ++ (feedF r x e).2) = ((([] : List Int), (0 : Int)), ps)) : x = 0 := by
  by_cases hx : x = 0
  · exact hx
  · unfold feedF at h
    rw [if_neg hx] at h
    injection h with h1 h2
    injection h1 with h3 h4
theorem pieces_len : ∀ (ps : List (List Int)), (∀ p ∈ ps, p.length ≤ 200) → (ps.map frm).flatten.length ≤ 208 * ps.length
  | [], _ => by simp
  | p :: ps, h => by
    have := pieces_len ps fun q hq => h q (by simp [hq])
    have hp := h p (by simp)
    rw [List.map_cons, List.flatten_cons, List.length_append, frm_length, List.length_cons]
    omega
theorem frms_bytes {ps : List (List Int)} (h : BytesL ps) : Bytes (ps.map frm).flatten := fun x hx => by
  obtain ⟨f, hf, hx⟩ := List.mem_flatten.1 hx
  obtain ⟨q, hq', rfl⟩ := List.mem_map.1 hf
  exact frm_bytes (h q hq') x hx
theorem pre_len208 (ps : List (List Int)) (j : Nat) (h : ∀ i, i < j → ∀ p, ps[i]? = some p → p.length ≤ 200) : (preF (ps.map frm) j).length ≤ 208 * j := by
  have h1 := pieces_len (ps.take j) fun p hp => by
    obtain ⟨i, hi, rfl⟩ := List.getElem_of_mem hp
    rw [List.length_take] at hi
    rw [List.getElem_take]
    exact h i (by omega) _ (List.getElem?_eq_getElem _)
  rw [List.map_take] at h1
  have h2 : (ps.take j).length ≤ j := by rw [List.length_take]; omega
  have := Nat.mul_le_mul_left 208 h2
  unfold preF
  omega
theorem fpieces_law (ps : List (List Int)) (cuts : List Int) (hw0 : ps.length ≤ 9223372036854775807 ∧ ∀ p ∈ ps, p.length ≤ 9223372036854775807 ∧ ∀ x ∈ p, (Lit.int .u8 x).wf = true) (hw1 : cuts.length ≤ 9223372036854775807 ∧ ∀ x ∈ cuts, (Lit.int .u8 x).wf = true) : Pure Try.prog 5 [.c (encPs ps), .c (encB cuts)] (.c (cB true)) := by
  have hps : BytesL ps := fun p hp => Bytes.of (hw0.2 p hp).2
  have hcu : Bytes cuts := Bytes.of hw1.2
  refine pure_of teOk Try.func5 (by kernel_rfl) (c := _) rfl (N := 106) rfl (rs := [Go.ResultVar.tmp 4]) rfl (by simp) fun base A w0 hA => ?_
  refine AW.st teOk [] (by simp [-Option.some.injEq] <;> rfl) trivial ?_
  refine AW.seq ?_
  refine AW.st teOk [] (by simp [-Option.some.injEq] <;> rfl) trivial ?_
  by_cases h1 : ps.length > 20
  · refine AW.iff true (by simp; omega) (fun _ => ?_) (fun h => by cases h)
    refine AW.st teOk [.fz (.c (cB true))] (by simp [-Option.some.injEq] <;> rfl) ?_ ?_
    · exact awake02_pure
    refine AW.ret ⟨.inr rfl, _, Weak.refl _, ?_⟩
    simp
  refine AW.iff false (by simp; omega) (fun h => by cases h) (fun _ => AW.skip ?_)
  refine AW.st teOk [] (by simp [-Option.some.injEq] <;> rfl) trivial ?_
  refine AW.weak (Weak.le 5 _ (by simp <;> rfl) (.c nil_row)) ?_
  refine AW.seq ?_
  refine AW.st teOk [] (by simp [-Option.some.injEq] <;> rfl) trivial ?_
  refine AW.block (AW.loop (fun m s => ∃ j : Nat, m = ps.length - j ∧ j ≤ ps.length ∧ (∀ i, i < j → ∀ p, ps[i]? = some p → p.length ≤ 200) ∧ s = ⟨[(0, .c (encPs ps)), (1, .c (encB cuts)), (5, .c (encB (preF (ps.map frm) j))), (6, .c (cI j))], [], 0⟩) _ (Weak.normT hA [0, 1, 5, 6] [] [] 0 _ (by simp) (by simp) (by simp)) ⟨0, rfl, Nat.zero_le _, fun i hi => by omega, by simp [pre_zero]⟩ ?_)
  rintro m s ⟨j, rfl, hj, hsm, rfl⟩
  refine AW.seq ?_
  refine AW.st teOk [] (by simp [-Option.some.injEq] <;> rfl) trivial ?_
  refine AW.iff (decide (j < ps.length)) (by simp) (fun h => AW.skip ?_) (fun h => AW.exit (x_then (x_then (blockA_exit ?_))))
  · rw [decide_eq_true_eq] at h
    obtain ⟨x, hx⟩ : ∃ x, ps[j]? = some x := ⟨_, List.getElem?_eq_getElem h⟩
    have hxb := hps x (List.mem_of_getElem? hx)
    have ht := take_flat (ps.map frm) (j := j) (x := frm x) (by rw [List.getElem?_map, hx]; rfl)
    have hl := pre_len208 ps j hsm
    refine AW.seq (AW.block ?_)
    refine AW.seq ?_
    refine AW.st teOk [] (by simp [hx, -Option.some.injEq] <;> rfl) ?_ ?_
    · first | trivial | omega | (simp [allP, growOk] <;> omega)
    by_cases h200 : x.length > 200
    · refine AW.iff true (by simp; omega) (fun _ => ?_) (fun h => by cases h)
      refine AW.st teOk [.fz (.c (cB true))] (by simp [-Option.some.injEq] <;> rfl) ?_ ?_
      · exact awake02_pure
      refine AW.ret ⟨.inr rfl, _, Weak.refl _, ?_⟩
      simp
    refine AW.iff false (by simp; omega) (fun h => by cases h) (fun _ => AW.skip ?_)
    have pa := append_pure (preF (ps.map frm) j) x hxb (by omega)
    rw [appV, if_neg (by omega), ← ht] at pa
    have hsm' : ∀ i, i < j + 1 → ∀ p, ps[i]? = some p → p.length ≤ 200 := fun i hi p hp => by
      by_cases hij : i = j
      · subst hij
        rw [hx] at hp
        cases hp
        omega
      · exact hsm i (by omega) p hp
    obtain ⟨nx, hnx⟩ : ∃ n, n = preF (ps.map frm) (j + 1) := ⟨_, rfl⟩
    rw [← hnx] at pa
    refine AW.st teOk [.fz (.tup [.c (encB nx), .c (cI 0)])] (by simp [hx, -Option.some.injEq] <;> rfl) ?_ ?_
    · exact ⟨by simpa using h, pa⟩
    refine AW.seq ?_
    refine AW.st teOk [] (by simp [-Option.some.injEq] <;> rfl) trivial ?_
    refine AW.iff false (by simp) (fun h => by cases h) (fun _ => AW.skip ?_)
    refine AW.text teOk (ans := []) (by simp [-Option.some.injEq] <;> rfl) ?_ ?_
    · trivial
    refine AW.text teOk (ans := []) (by simp [-Option.some.injEq] <;> rfl) ?_ ?_
    · trivial
    refine ⟨_, _, Weak.normT hA [0, 1, 5, 6] [] [] 0 _ (by simp) (by simp) (by simp), ?_, j + 1, rfl, h, hsm', ?_⟩
    · omega
    · rw [← hnx]
      simp
      exact wrap_s j (by omega)
  · rw [decide_eq_false_iff_not] at h
    obtain rfl : j = ps.length := by omega
    have hpa : preF (ps.map frm) ps.length = (ps.map frm).flatten := by
      have := pre_all (ps.map frm)
      rwa [List.length_map] at this
    rw [hpa]
    have hall : ∀ p ∈ ps, p.length ≤ 200 := fun p hp => by
      obtain ⟨i, hi, rfl⟩ := List.getElem_of_mem hp
      exact hsm i hi _ (List.getElem?_eq_getElem hi)
    have hfin := feed_frms ps fun p hp => ⟨hps p hp, by have := hall p hp; omega⟩
    have hlen := pieces_len ps hall
    have hsb := frms_bytes hps
    generalize (ps.map frm).flatten = st at *
    have hsl : st.length ≤ 4160 := by omega
    refine AW.st teOk [] (by simp [-Option.some.injEq] <;> rfl) trivial ?_
    refine AW.st teOk [] (by simp [-Option.some.injEq] <;> rfl) trivial ?_
    refine AW.st teOk [] (by simp [-Option.some.injEq] <;> rfl) trivial ?_
    refine AW.seq ?_
    refine AW.st teOk [] (by simp [-Option.some.injEq] <;> rfl) trivial ?_
    refine AW.weak ((Weak.nil 9 1 _ (by simp <;> rfl)).trans (Weak.leP 10 _ ⟨2, [[encB [], cI 0]]⟩ (by simp <;> exact ⟨rfl, rfl, rfl⟩) (by simp <;> rfl) (by rfl) (by rfl) (by exact one_le (.cons nil_row (.cons (.refl _) .nil))))) ?_
    refine AW.block (AW.loop (fun m s => ∃ (q i : Nat) (z : Int) (buf : List Int) (got : List (List Int)), (q < st.length → z = i) ∧ m = cuts.length + 1 - i ∧ q ≤ st.length ∧ i ≤ cuts.length + 1 ∧ (cuts.length < i → q = st.length) ∧ feedI (st.take q) = ((buf, 0), got) ∧ s = ⟨[(0, .c (encPs ps)), (1, .c (encB cuts)), (5, .c (encB st)), (9, .c (.ref 1 0 got.length)), (10, .c (.ptr 0 0 0)), (11, .c (cI q)), (12, .c (cI z))], [(0, ⟨2, [[encB buf, cI 0]]⟩), (1, ⟨1, got.map encP⟩)], 2⟩) _ (Weak.normT hA [0, 1, 5, 9, 10, 11, 12] [(10, 0), (9, 1)] [] 2 _ (by simp) (by simp) (by simp)) ⟨0, 0, 0, [], [], fun _ => rfl, rfl, Nat.zero_le _, Nat.zero_le _, fun h => by omega, rfl, by simp⟩ ?_)
    rintro m s ⟨q, i, z, buf, got, hz, rfl, hq, hi, hend, hfd, rfl⟩
    refine AW.seq ?_
    refine AW.st teOk [] (by simp [-Option.some.injEq] <;> rfl) trivial ?_
    refine AW.iff (decide (q < st.length)) (by simp) (fun h => AW.skip ?_) (fun h => AW.exit (x_then (x_then (blockA_exit ?_))))
    · rw [decide_eq_true_eq] at h
      obtain rfl := hz h
      have hic : i ≤ cuts.length := by
        by_cases hc : cuts.length < i
        · have := hend hc
          omega
        · omega
      refine AW.seq (AW.block ?_)
      obtain ⟨d, hd⟩ : ∃ d, d = st.length - q := ⟨_, rfl⟩
      have hdw : IntKind.i64.wrap ((st.length : Int) - (q : Int)) = (d : Int) := by rw [IntKind.wrap_i64]; omega
      refine AW.st teOk [] (by simp [hdw, -Option.some.injEq] <;> rfl) trivial ?_
      refine AW.mid (fun s => ∃ n : Nat, n ≤ d ∧ (i = cuts.length → n = d) ∧ s = ⟨[(0, .c (encPs ps)), (1, .c (encB cuts)), (5, .c (encB st)), (9, .c (.ref 1 0 got.length)), (10, .c (.ptr 0 0 0)), (11, .c (cI q)), (12, .c (cI i)), (13, .c (cI n))], [(0, ⟨2, [[encB buf, cI 0]]⟩), (1, ⟨1, got.map encP⟩)], 2⟩) ?_ ?_
      · refine AW.st teOk [] (by simp [-Option.some.injEq] <;> rfl) trivial ?_
        by_cases hlt : i < cuts.length
        · refine AW.iff true (by simp [hlt]) (fun _ => ?_) (fun h => by cases h)
          obtain ⟨c, hc⟩ : ∃ c, cuts[i]? = some c := ⟨_, List.getElem?_eq_getElem hlt⟩
          have hcb := hcu c (List.mem_of_getElem? hc)
          have hcw : IntKind.i64.wrap c = c := by rw [IntKind.wrap_i64]; omega
          obtain ⟨c, rfl⟩ : ∃ q : Nat, c = q := ⟨c.toNat, by omega⟩
          obtain ⟨mn, hmn⟩ : ∃ x, x = min d c := ⟨_, rfl⟩
          have hmin : (if (c : Int) < (d : Int) then (c : Int) else (d : Int)) = (mn : Int) := by
            split <;> omega
          refine AW.text teOk (ans := []) (by simp [hc, hcw, hmin, -Option.some.injEq] <;> rfl) ?_ ?_
          · omega
          exact ⟨_, Weak.normT hA [0, 1, 5, 9, 10, 11, 12, 13] [(10, 0), (9, 1)] [] 2 _ (by simp) (by simp) (by simp), mn, by omega, by omega, by simp; split <;> omega⟩
        · refine AW.iff false (by simp; omega) (fun h => by cases h) (fun _ => AW.skip ?_)
          exact ⟨_, Weak.normT hA [0, 1, 5, 9, 10, 11, 12, 13] [(10, 0), (9, 1)] [] 2 _ (by simp) (by simp) (by simp), d, Nat.le_refl _, fun _ => rfl, by simp⟩
      rintro s ⟨n, hn, hnd, rfl⟩
      have hadd := add_s q n 5000 (by omega) (by omega)
      obtain ⟨r, hr⟩ : ∃ r, r = q + n := ⟨_, rfl⟩
      rw [← hr] at hadd
      have htk : st.take r = st.take q ++ (st.take r).drop q := by
        have h1 : (st.take r).take q = st.take q := by rw [List.take_take, Nat.min_eq_left (by omega)]
        rw [← h1, List.take_append_drop]
      have hpb : Bytes ((st.take r).drop q) := (hsb.take r).drop q
      have hpl : ((st.take r).drop q).length ≤ 5000 := by rw [List.length_drop, List.length_take]; omega
      have hpe : ((st.map encb).take r).drop q = ((st.take r).drop q).map encb := by rw [enc_take, enc_drop]
      obtain ⟨piece, hpc⟩ : ∃ p, p = (st.take r).drop q := ⟨_, rfl⟩
      rw [← hpc] at htk hpb hpl hpe
      have htq := hsb.take q
      have f1 := feed_bytes _ (st.take q) (Nat.le_refl _) htq
      rw [hfd] at f1
      have hql : (st.take q).length ≤ 4160 := by rw [List.length_take]; omega
      have hs1 := feed_split piece hpb _ (st.take q) (Nat.le_refl _) htq
      rw [← htk, hfd] at hs1
      dsimp only at hs1 f1
      have f2 := feedF_bytes (buf := buf) (b := piece) 0 f1.1 hpb
      have pf := feed_pure buf piece 0 f1.1 hpb (by omega) (by omega)
      obtain ⟨⟨⟨rb, re⟩, rl⟩, hre⟩ : ∃ x, x = feedF buf 0 piece := ⟨_, rfl⟩
      rw [← hre] at pf hs1 f2
      dsimp only [encSp] at pf hs1 f2
      have hre0 : re = 0 := by
        have hs2 := feed_split (st.drop r) (hsb.drop r) _ (st.take r) (Nat.le_refl _) (hsb.take r)
        rw [List.take_append_drop, hs1, hfin] at hs2
        exact piece_err hs2.symm
      subst hre0
      refine AW.dr mixed teOk [.tup [.agg [encB rb, cI 0], .c (encPs rl)]] (by simp [hadd, hpe, -Option.some.injEq] <;> rfl) (by kernel_rfl) (by kernel_rfl) ?_ ?_
      · simp [allP]
        exact ⟨by omega, pf⟩
      refine AW.st teOk [] (by simp [-Option.some.injEq] <;> rfl) trivial ?_
      have hgl : (got ++ rl).length ≤ (st.take r).length := by
        have := (feed_bytes _ (st.take r) (Nat.le_refl _) (hsb.take r)).2.2.2
        rw [hs1] at this
        exact this
      have hrl : (st.take r).length ≤ 4160 := by rw [List.length_take]; omega
      rw [List.length_append] at hgl
      refine AW.mid (fun s => s = ⟨[(0, .c (encPs ps)), (1, .c (encB cuts)), (5, .c (encB st)), (9, .c (.ref 1 0 (got ++ rl).length)), (10, .c (.ptr 0 0 0)), (11, .c (cI q)), (12, .c (cI i)), (13, .c (cI n))], [(0, ⟨2, [[encB rb, cI 0]]⟩), (1, ⟨1, (got ++ rl).map encP⟩)], 2⟩) ?_ ?_
      · by_cases hr0 : rl = []
        · subst hr0
          refine AW.text teOk (ans := []) (by simp [-Option.some.injEq] <;> rfl) ?_ ?_
          · trivial
          exact ⟨_, Weak.normT hA [0, 1, 5, 9, 10, 11, 12, 13] [(10, 0), (9, 1)] [] 2 _ (by simp) (by simp) (by simp), by simp⟩
        · refine AW.text teOk (ans := []) (by simp [hr0, -Option.some.injEq] <;> rfl) ?_ ?_
          · simp [growOk]; omega
          exact ⟨_, (Weak.normT hA [0, 1, 5, 9, 10, 11, 12, 13] [(10, 0), (9, 1)] [] 2 _ (by simp) (by simp) (by simp)).trans (Weak.to (s1 := ⟨_, [(1, _), (0, _)], _⟩) (by simp <;> exact ⟨rfl, ⟨rfl, rfl⟩, rfl⟩) (Weak.swap [] (by decide))), by simp⟩
      rintro s rfl
      refine AW.st teOk [] (by simp [hadd, -Option.some.injEq] <;> rfl) trivial ?_
      refine AW.st teOk [] (by simp [-Option.some.injEq] <;> rfl) trivial ?_
      refine AW.iff false (by simp; omega) (fun h => by cases h) (fun _ => AW.skip ?_)
      refine AW.text teOk (ans := []) (by simp [-Option.some.injEq] <;> rfl) ?_ ?_
      · trivial
      refine ⟨_, _, Weak.normT hA [0, 1, 5, 9, 10, 11, 12] [(10, 0), (9, 1)] [] 2 _ (by simp) (by simp) (by simp), ?_, r, i + 1, IntKind.i64.wrap ((i : Int) + 1), rb, got ++ rl, fun hrs => ?_, rfl, by omega, by omega, fun hc => by have := hnd (by omega); omega, hs1, by simp⟩
      · omega
      · have hlt : i < cuts.length := by
          by_cases hil : i = cuts.length
          · have := hnd hil
            omega
          · omega
        exact wrap_s i (by omega)
    · rw [decide_eq_false_iff_not] at h
      obtain rfl : q = st.length := by omega
      rw [List.take_length, hfin] at hfd
      injection hfd with e1 e2
      injection e1 with e3 e4
      subst e2 e3
      have hsame := same_pure ps ps hps hps (by omega)
      simp at hsame
      refine AW.st teOk [.rd (.c (cB true)), .fz (.c (cB true))] (by simp [-Option.some.injEq] <;> rfl) ?_ ?_
      · exact ⟨⟨⟨flat_encP ps, trivial, trivial⟩, hsame⟩, awake02_pure⟩
      refine AW.ret ⟨.inr rfl, _, Weak.refl _, ?_⟩
      simp
end Go.Proofs.Ytopcklnnkpjanaa.Abs
