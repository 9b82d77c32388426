/- Joined for the claim: WQi WQj WQk -/
import Derived.Test.YtphlhadgcfndhaaGreatJd15
import Derived.Test.YtphlhadgcfndhaaGreatAbs25
import Derived.Test.YtphlhadgcfndhaaGreatJd1
section
namespace Go.Proofs.YtphlhadgcfndhaaGreat.Abs
open Go Go.RowKit
set_option linter.unusedVariables false
set_option linter.unusedSimpArgs false
set_option maxHeartbeats 8000000
set_option maxRecDepth 8000
theorem missN_s {ops : List OpS} {order : List Int} {i : Nat} {o : OpS} (ho : ops[i]? = some o) : missN ops order (i + 1) = missN ops order i + if (reqB o && !order.contains (i : Int)) = true then 1 else 0 := by
  unfold missN
  rw [List.range_succ, List.countP_append, List.countP_singleton]
  simp only [ho]
theorem missN_le (ops : List OpS) (order : List Int) (k : Nat) : missN ops order k ≤ k := by
  unfold missN
  exact Nat.le_trans List.countP_le_length (by simp)
abbrev extR (r : Option (List Int)) : AVal := .tup [.c (encis (r.getD [])), .c (cB r.isSome)]
theorem ext_pure (ops : List OpS) (hn : ops.length ≤ 10) (hE : EfOk ops) (hK : KiOk ops) : ∀ (n : Nat) (l : List Nat) (vs : List HV) (sp : Nat), l.Nodup → (∀ i ∈ l, i < ops.length) → n + l.length = 11 → VOk (10 * l.length) vs → sp ≤ 100 → Pure Tryz.prog 30 [.agg (encHi ops), .c (encis (coeL l)), .c (encHs vs), .c (cI sp)] (extR (extS ops n (coeL l) vs sp)) := by
  intro n
  induction n with
  | zero =>
    intro l vs sp hnd hrg hl
    have := nodup_le hnd (List.nodup_range (n := ops.length)) fun i hi => List.mem_range.2 (hrg i hi)
    simp at this
    omega
  | succ n ih =>
  intro l vs sp hnd hrg hl hv hsp
  obtain ⟨order, hord⟩ : ∃ o, o = coeL l := ⟨_, rfl⟩
  have holen : order.length = l.length := by rw [hord]; exact List.length_map _
  rw [← hord]
  have hml := missN_le ops order ops.length
  have hR : extS ops (n + 1) order vs sp = if sp + missN ops order ops.length = 0 then some order else extL (extS ops n) ops order vs sp (List.range ops.length) := rfl
  generalize extS ops (n + 1) order vs sp = R at hR ⊢
  refine pure_of teOk Tryz.func30 (by kernel_rfl) (c := _) rfl (N := 123) rfl (rs := [Go.ResultVar.tmp 8, Go.ResultVar.tmp 9]) rfl (by simp) fun base A w0 hA => ?_
  refine AW.st teOk [] (by simp [-Option.some.injEq] <;> rfl) trivial ?_
  refine AW.to (s2 := ⟨[(1, .c (encis order)), (2, .c (encHs vs)), (3, .c (cI sp)), (4, .c (.fad (encHi ops)))], [], 0⟩) ((Weak.freeze 0 ⟨1, [encHi ops]⟩ [] _ (by simp) (flatOpsR ops)).trans (Weak.normT hA [1, 2, 3, 4] [] [] 0 _ (by simp) (by simp) (by simp [mapAt_nil]))) (by simp [mapAt_nil]) ?_
  refine AW.st teOk [] (by simp [-Option.some.injEq] <;> rfl) trivial ?_
  refine AW.st teOk [] (by simp [-Option.some.injEq] <;> rfl) trivial ?_
  refine AW.mid (fun s => s = ⟨[(1, .c (encis order)), (2, .c (encHs vs)), (3, .c (cI sp)), (4, .c (.fad (encHi ops))), (10, .c (encOps ops)), (11, .c (cI (sp + missN ops order ops.length : Nat)))], [], 0⟩) ?_ ?_
  · refine AW.st teOk [] (by simp [-Option.some.injEq] <;> rfl) trivial ?_
    refine AW.block (AW.loop (fun m s => ∃ i : Nat, m = ops.length - i ∧ i ≤ ops.length ∧ s = ⟨[(1, .c (encis order)), (2, .c (encHs vs)), (3, .c (cI sp)), (4, .c (.fad (encHi ops))), (10, .c (encOps ops)), (11, .c (cI (sp + missN ops order i : Nat))), (12, .c (cI i))], [], 0⟩) _ (Weak.normT hA [1, 2, 3, 4, 10, 11, 12] [] [] 0 _ (by simp) (by simp) (by simp)) ⟨0, rfl, Nat.zero_le _, by simp [missN]⟩ ?_)
    rintro m s ⟨i, rfl, hi, rfl⟩
    refine AW.seq ?_
    refine AW.st teOk [] (by simp [-Option.some.injEq] <;> rfl) trivial ?_
    refine AW.iff (decide (i < ops.length)) (by simp) (fun h => AW.skip ?_) (fun h => AW.exit (x_then (x_then (blockA_exit ?_))))
    · rw [decide_eq_true_eq] at h
      obtain ⟨o, ho⟩ : ∃ e, ops[i]? = some e := ⟨_, List.getElem?_eq_getElem h⟩
      have hq := rneed_pure o
      have hc := oin_pure order i (by omega)
      have hms := missN_s (order := order) ho
      have hml2 := missN_le ops order i
      refine AW.mid (fun s => s = ⟨[(1, .c (encis order)), (2, .c (encHs vs)), (3, .c (cI sp)), (4, .c (.fad (encHi ops))), (10, .c (encOps ops)), (11, .c (cI (sp + missN ops order (i + 1) : Nat))), (12, .c (cI i))], [], 0⟩) (AW.block ?_) ?_
      · rw [hms]
        generalize reqB o = b1 at *
        generalize order.contains (i : Int) = b2 at *
        cases b1 with
        | false =>
          refine AW.st teOk [.fz (.c (cB false))] (by simp [ho, -Option.some.injEq] <;> rfl) ?_ ?_
          · exact ⟨h, hq⟩
          refine AW.iff false (by simp) (fun h => by cases h) (fun _ => AW.skip ?_)
          exact ⟨_, Weak.normT hA [1, 2, 3, 4, 10, 11, 12] [] [] 0 _ (by simp) (by simp) (by simp), by simp⟩
        | true =>
        cases b2 with
        | true =>
          refine AW.st teOk [.fz (.c (cB true)), .fz (.c (cB true))] (by simp [ho, -Option.some.injEq] <;> rfl) ?_ ?_
          · exact ⟨h, hq, hc⟩
          refine AW.iff false (by simp) (fun h => by cases h) (fun _ => AW.skip ?_)
          exact ⟨_, Weak.normT hA [1, 2, 3, 4, 10, 11, 12] [] [] 0 _ (by simp) (by simp) (by simp), by simp⟩
        | false =>
          refine AW.st teOk [.fz (.c (cB true)), .fz (.c (cB false))] (by simp [ho, -Option.some.injEq] <;> rfl) ?_ ?_
          · exact ⟨h, hq, hc⟩
          refine AW.iff true (by simp) (fun _ => ?_) (fun h => by cases h)
          refine AW.text teOk (ans := []) (by simp [-Option.some.injEq] <;> rfl) ?_ ?_
          · trivial
          have hw : IntKind.i64.wrap ((sp : Int) + missN ops order i + 1) = (sp : Int) + missN ops order i + 1 := by rw [IntKind.wrap_i64]; omega
          exact ⟨_, Weak.normT hA [1, 2, 3, 4, 10, 11, 12] [] [] 0 _ (by simp) (by simp) (by simp), by simp [hw]; omega⟩
      rintro s rfl
      refine AW.text teOk (ans := []) (by simp [-Option.some.injEq] <;> rfl) ?_ ?_
      · trivial
      refine ⟨_, _, Weak.normT hA [1, 2, 3, 4, 10, 11, 12] [] [] 0 _ (by simp) (by simp) (by simp), ?_, i + 1, rfl, h, ?_⟩
      · omega
      · simp
        exact wrap_s i (by omega)
    · rw [decide_eq_false_iff_not] at h
      have : i = ops.length := by omega
      rw [this]
      exact ⟨_, Weak.normT hA [1, 2, 3, 4, 10, 11] [] [] 0 _ (by simp) (by simp) (by simp), by simp⟩
  rintro s rfl
  by_cases h0 : sp + missN ops order ops.length = 0
  · rw [if_pos h0] at hR
    rw [hR, h0]
    refine AW.seq ?_
    refine AW.st teOk [] (by simp [-Option.some.injEq] <;> rfl) trivial ?_
    refine AW.iff true (by simp) (fun _ => ?_) (fun h => by cases h)
    refine AW.st teOk [] (by simp [-Option.some.injEq] <;> rfl) trivial ?_
    exact AW.ret ⟨.inr rfl, _, Weak.refl _, by simp⟩
  rw [if_neg h0] at hR
  refine AW.mid (fun s => s = ⟨[(1, .c (encis order)), (2, .c (encHs vs)), (3, .c (cI sp)), (4, .c (.fad (encHi ops))), (10, .c (encOps ops))], [], 0⟩) ?_ ?_
  · obtain ⟨z, hz⟩ : ∃ z, z = sp + missN ops order ops.length := ⟨_, rfl⟩
    rw [← hz] at h0 ⊢
    have hz0 : ((z : Int) == 0) = false := by simpa using h0
    refine AW.st teOk [] (by simp [hz0, -Option.some.injEq] <;> rfl) trivial ?_
    refine AW.iff false (by simp [hz0]) (fun h => by cases h) (fun _ => AW.skip ?_)
    exact ⟨_, Weak.normT hA [1, 2, 3, 4, 10] [] [] 0 _ (by simp) (by simp) (by simp), by simp⟩
  rintro s rfl
  refine AW.mid (fun s => R = none) ?_ ?_
  · refine AW.st teOk [] (by simp [-Option.some.injEq] <;> rfl) trivial ?_
    refine AW.block (AW.loop (fun m s => ∃ i : Nat, m = ops.length - i ∧ i ≤ ops.length ∧ R = extL (extS ops n) ops order vs sp ((List.range ops.length).drop i) ∧ s = ⟨[(1, .c (encis order)), (2, .c (encHs vs)), (3, .c (cI sp)), (4, .c (.fad (encHi ops))), (10, .c (encOps ops)), (13, .c (cI i))], [], 0⟩) _ (Weak.normT hA [1, 2, 3, 4, 10, 13] [] [] 0 _ (by simp) (by simp) (by simp)) ⟨0, rfl, Nat.zero_le _, hR, by simp⟩ ?_)
    clear hR
    rintro m s ⟨i, rfl, hi, hR, rfl⟩
    refine AW.seq ?_
    refine AW.st teOk [] (by simp [-Option.some.injEq] <;> rfl) trivial ?_
    refine AW.iff (decide (i < ops.length)) (by simp) (fun h => AW.skip ?_) (fun h => AW.exit (x_then (x_then (blockA_exit ?_))))
    · rw [decide_eq_true_eq] at h
      obtain ⟨o, ho⟩ : ∃ e, ops[i]? = some e := ⟨_, List.getElem?_eq_getElem h⟩
      have hdr : (List.range ops.length).drop i = i :: (List.range ops.length).drop (i + 1) := by
        rw [List.drop_eq_getElem_cons (by simpa using h), List.getElem_range]
      rw [hdr, extL, ho] at hR
      simp only at hR
      have hq := rneed_pure o
      have hc := oin_pure order i (by omega)
      have hf := rfree_pure ops order i o ho (by omega) (by omega)
      refine AW.mid (fun s => R = extL (extS ops n) ops order vs sp ((List.range ops.length).drop (i + 1)) ∧ s = ⟨[(1, .c (encis order)), (2, .c (encHs vs)), (3, .c (cI sp)), (4, .c (.fad (encHi ops))), (10, .c (encOps ops)), (13, .c (cI i))], [], 0⟩) (AW.block ?_) ?_
      · have hskip : canB ops order sp i o = false → R = extL (extS ops n) ops order vs sp ((List.range ops.length).drop (i + 1)) := fun hb => by
          rw [hR, if_neg (by rw [hb]; simp)]
        refine AW.mid (fun s => (canB ops order sp i o = true ∧ (i : Int) ∉ order ∧ (reqB o = false → sp ≠ 0)) ∧ s = ⟨[(1, .c (encis order)), (2, .c (encHs vs)), (3, .c (cI sp)), (4, .c (.fad (encHi ops))), (10, .c (encOps ops)), (13, .c (cI i))], [], 0⟩) ?_ ?_
        · have fin : canB ops order sp i o = false → ∀ {s' : St}, Weak A s' ⟨[(1, .c (encis order)), (2, .c (encHs vs)), (3, .c (cI sp)), (4, .c (.fad (encHi ops))), (10, .c (encOps ops)), (13, .c (cI i))], [], 0⟩ → True := fun _ _ _ => trivial
          cases k3 : o.kind == 3 with
          | true =>
            have hcb : canB ops order sp i o = false := by simp [canB, k3]
            refine AW.st teOk [] (by simp [ho, k3, -Option.some.injEq] <;> rfl) ?_ ?_
            · first | trivial | omega | (simp [allP, growOk] <;> omega)
            refine AW.iff true (by simp) (fun _ => ?_) (fun h => by cases h)
            refine AW.exit (x_then (blockA_exit ?_))
            exact ⟨_, Weak.normT hA [1, 2, 3, 4, 10, 13] [] [] 0 _ (by simp) (by simp) (by simp), hskip hcb, by simp⟩
          | false =>
          have hcan : canB ops order sp i o = (!order.contains (i : Int) && (reqB o || (sp != 0 && o.kind == 1)) && freeF ops order o) := by simp [canB, k3]
          cases hb1 : order.contains (i : Int) with
          | true =>
            rw [hb1] at hcan hc
            refine AW.st teOk [.fz (.c (cB true))] (by simp [ho, k3, -Option.some.injEq] <;> rfl) ?_ ?_
            · first | exact ⟨h, hc⟩ | (refine ⟨?_, hc⟩; omega)
            refine AW.iff true (by simp) (fun _ => ?_) (fun h => by cases h)
            refine AW.exit (x_then (blockA_exit ?_))
            exact ⟨_, Weak.normT hA [1, 2, 3, 4, 10, 13] [] [] 0 _ (by simp) (by simp) (by simp), hskip (by rw [hcan]; simp), by simp⟩
          | false =>
          rw [hb1] at hcan hc
          have hni : (i : Int) ∉ order := fun hh => by
            have := List.contains_iff_mem.2 hh
            rw [hb1] at this
            cases this
          cases hb2 : reqB o with
          | true =>
            rw [hb2] at hcan hq
            cases hb3 : freeF ops order o with
            | true =>
              rw [hb3] at hcan hf
              refine AW.st teOk [.fz (.c (cB false)), .fz (.c (cB true)), .fz (.c (cB true))] (by simp [ho, k3, -Option.some.injEq] <;> rfl) ?_ ?_
              · first | exact ⟨h, hc, h, hq, hf⟩ | (refine ⟨?_, hc, ?_, hq, hf⟩ <;> omega)
              refine AW.iff false (by simp) (fun h => by cases h) (fun _ => AW.skip ?_)
              exact ⟨_, Weak.normT hA [1, 2, 3, 4, 10, 13] [] [] 0 _ (by simp) (by simp) (by simp), ⟨by rw [hcan]; rfl, hni, fun h => by cases h⟩, by simp⟩
            | false =>
              rw [hb3] at hcan hf
              refine AW.st teOk [.fz (.c (cB false)), .fz (.c (cB true)), .fz (.c (cB false))] (by simp [ho, k3, -Option.some.injEq] <;> rfl) ?_ ?_
              · first | exact ⟨h, hc, h, hq, hf⟩ | (refine ⟨?_, hc, ?_, hq, hf⟩ <;> omega)
              refine AW.iff true (by simp) (fun _ => ?_) (fun h => by cases h)
              refine AW.exit (x_then (blockA_exit ?_))
              exact ⟨_, Weak.normT hA [1, 2, 3, 4, 10, 13] [] [] 0 _ (by simp) (by simp) (by simp), hskip (by rw [hcan]; rfl), by simp⟩
          | false =>
          rw [hb2] at hcan hq
          by_cases hs0 : sp = 0
          · have hs : ((sp : Int) == 0) = true := by simp [hs0]
            refine AW.st teOk [.fz (.c (cB false)), .fz (.c (cB false))] (by simp [ho, k3, hs, -Option.some.injEq] <;> rfl) ?_ ?_
            · first | exact ⟨h, hc, h, hq⟩ | (refine ⟨?_, hc, ?_, hq⟩ <;> omega)
            refine AW.iff true (by simp) (fun _ => ?_) (fun h => by cases h)
            refine AW.exit (x_then (blockA_exit ?_))
            exact ⟨_, Weak.normT hA [1, 2, 3, 4, 10, 13] [] [] 0 _ (by simp) (by simp) (by simp), hskip (by rw [hcan]; simp [hs0]), by simp⟩
          have hs : ((sp : Int) == 0) = false := by simpa using hs0
          have hsn : (sp != 0) = true := by simpa using hs0
          cases k1 : o.kind != 1 with
          | true =>
            have k1' : (o.kind == 1) = false := by simpa using k1
            refine AW.st teOk [.fz (.c (cB false)), .fz (.c (cB false))] (by simp [ho, k3, hs, k1, -Option.some.injEq] <;> rfl) ?_ ?_
            · first | exact ⟨h, hc, h, hq, h⟩ | (refine ⟨?_, hc, ?_, hq, ?_⟩ <;> omega)
            refine AW.iff true (by simp) (fun _ => ?_) (fun h => by cases h)
            refine AW.exit (x_then (blockA_exit ?_))
            exact ⟨_, Weak.normT hA [1, 2, 3, 4, 10, 13] [] [] 0 _ (by simp) (by simp) (by simp), hskip (by rw [hcan, k1']; simp), by simp⟩
          | false =>
          have k1' : (o.kind == 1) = true := by simpa using k1
          rw [k1', hsn] at hcan
          cases hb3 : freeF ops order o with
          | true =>
            rw [hb3] at hcan hf
            refine AW.st teOk [.fz (.c (cB false)), .fz (.c (cB false)), .fz (.c (cB true))] (by simp [ho, k3, hs, k1, -Option.some.injEq] <;> rfl) ?_ ?_
            · first | exact ⟨h, hc, h, hq, h, hf⟩ | (refine ⟨?_, hc, ?_, hq, ?_, hf⟩ <;> omega)
            refine AW.iff false (by simp) (fun h => by cases h) (fun _ => AW.skip ?_)
            exact ⟨_, Weak.normT hA [1, 2, 3, 4, 10, 13] [] [] 0 _ (by simp) (by simp) (by simp), ⟨by rw [hcan]; rfl, hni, fun _ => hs0⟩, by simp⟩
          | false =>
            rw [hb3] at hcan hf
            refine AW.st teOk [.fz (.c (cB false)), .fz (.c (cB false)), .fz (.c (cB false))] (by simp [ho, k3, hs, k1, -Option.some.injEq] <;> rfl) ?_ ?_
            · first | exact ⟨h, hc, h, hq, h, hf⟩ | (refine ⟨?_, hc, ?_, hq, ?_, hf⟩ <;> omega)
            refine AW.iff true (by simp) (fun _ => ?_) (fun h => by cases h)
            refine AW.exit (x_then (blockA_exit ?_))
            exact ⟨_, Weak.normT hA [1, 2, 3, 4, 10, 13] [] [] 0 _ (by simp) (by simp) (by simp), hskip (by rw [hcan]; rfl), by simp⟩
        rintro s ⟨⟨hcb, hni, hsn⟩, rfl⟩
        rw [hcb, Bool.true_and] at hR
        have hst := rstepK_pure hv (by omega) (hE o (List.mem_of_getElem? ho)) (hK o (List.mem_of_getElem? ho))
        refine AW.st teOk [.fz (.tup [.c (encHs (stepV vs o)), .c (cB (okV vs o))])] (by simp [ho, -Option.some.injEq] <;> rfl) ?_ ?_
        · first | exact ⟨h, hst⟩ | (refine ⟨?_, hst⟩; omega)
        refine AW.seq ?_
        refine AW.st teOk [] (by simp [-Option.some.injEq] <;> rfl) trivial ?_
        cases hok : okV vs o with
        | false =>
          rw [hok, if_neg (by simp)] at hR
          refine AW.iff true (by simp [hok]) (fun _ => ?_) (fun h => by cases h)
          refine AW.exit (x_then (blockA_exit ?_))
          exact ⟨_, Weak.normT hA [1, 2, 3, 4, 10, 13] [] [] 0 _ (by simp) (by simp) (by simp), hR, by simp⟩
        | true =>
        rw [hok, if_pos rfl] at hR
        refine AW.iff false (by simp [hok]) (fun h => by cases h) (fun _ => AW.skip ?_)
        refine AW.st teOk [] (by simp [-Option.some.injEq] <;> rfl) trivial ?_
        obtain ⟨sp', hsp'⟩ : ∃ sp', sp' = if reqB o = true then sp else sp - 1 := ⟨_, rfl⟩
        refine AW.mid (fun s => s = ⟨[(1, .c (encis order)), (2, .c (encHs vs)), (3, .c (cI sp)), (4, .c (.fad (encHi ops))), (10, .c (encOps ops)), (13, .c (cI i)), (14, .c (encHs (stepV vs o))), (16, .c (cI sp'))], [], 0⟩) ?_ ?_
        · cases hb2 : reqB o with
          | true =>
            rw [hb2] at hq hsp'
            refine AW.st teOk [.fz (.c (cB true))] (by simp [ho, -Option.some.injEq] <;> rfl) ?_ ?_
            · first | exact ⟨h, hq⟩ | (refine ⟨?_, hq⟩; omega)
            refine AW.iff false (by simp) (fun h => by cases h) (fun _ => AW.skip ?_)
            exact ⟨_, Weak.normT hA [1, 2, 3, 4, 10, 13, 14, 16] [] [] 0 _ (by simp) (by simp) (by simp), by simp [hsp']⟩
          | false =>
            rw [hb2] at hq hsp' hsn
            have hs1 := hsn rfl
            have hw : IntKind.i64.wrap ((sp : Int) - 1) = ((sp - 1 : Nat) : Int) := by rw [IntKind.wrap_i64]; omega
            refine AW.st teOk [.fz (.c (cB false))] (by simp [ho, -Option.some.injEq] <;> rfl) ?_ ?_
            · first | exact ⟨h, hq⟩ | (refine ⟨?_, hq⟩; omega)
            refine AW.iff true (by simp) (fun _ => ?_) (fun h => by cases h)
            refine AW.text teOk (ans := []) (by simp [-Option.some.injEq] <;> rfl) ?_ ?_
            · trivial
            exact ⟨_, Weak.normT hA [1, 2, 3, 4, 10, 13, 14, 16] [] [] 0 _ (by simp) (by simp) (by simp), by simp [hsp', hw]⟩
        rintro s rfl
        rw [← hsp'] at hR
        have hil : i ∉ l := fun hh => hni (by rw [hord]; exact coe_mem.2 ⟨i, hh, rfl⟩)
        have hco : coeL (l ++ [i]) = order ++ [(i : Int)] := by rw [hord]; exact coeL_app l [i]
        have hspl : sp' ≤ 100 := by rw [hsp']; split <;> omega
        have hrec := ih (l ++ [i]) (stepV vs o) sp' (by
          rw [List.nodup_append]
          exact ⟨hnd, by simp, fun a ha b hb e => hil (by rw [List.mem_singleton.1 hb] at e; exact e ▸ ha)⟩) (fun j hj => by
          rcases List.mem_append.1 hj with hj | hj
          · exact hrg j hj
          · rw [List.mem_singleton.1 hj]; exact h) (by rw [List.length_append, List.length_singleton]; omega) ((hv.step o).le (by
            have := hE o (List.mem_of_getElem? ho)
            rw [List.length_append, List.length_singleton]; omega)) hspl
        rw [hco] at hrec
        obtain ⟨q, hq2⟩ : ∃ q, q = extS ops n (order ++ [(i : Int)]) (stepV vs o) sp' := ⟨_, rfl⟩
        rw [← hq2] at hR hrec
        have hfl : flatO ⟨1, order.map enci ++ [[cI (i : Int)]]⟩ = true := by
          have : order.map enci ++ [[cI (i : Int)]] = (order ++ [(i : Int)]).map enci := by simp
          rw [this]; exact flat_enci _
        refine AW.dr mixed teOk [.tup [.any, extR q, .c (.row 1 true []), .c (.ptr 6 0 0), .tup [.tup [.c (.ptr 6 0 0), .c (.row 1 true (order.map enci ++ [[cI (i : Int)]]))]]]] (by simp [-Option.some.injEq] <;> rfl) (by kernel_rfl) (by kernel_rfl) ?_ ?_
        · simp [allP, growOk]
          refine ⟨by omega, by omega, ?_⟩
          refine GenC.fz hfl (by simp) ?_ (fun d => by simp)
          have e1 : [AVal.agg [encOps ops], .c (.ref 6 0 (order.length + 1)), .c (encHs (stepV vs o)), .c (cI sp')].map (frzV 6 ⟨1, order.map enci ++ [[cI (i : Int)]]⟩) = [.agg (encHi ops), .c (encis (order ++ [(i : Int)])), .c (encHs (stepV vs o)), .c (cI sp')] := by
            simp
            exact List.take_of_length_le (by simp)
          rw [e1]
          exact hrec
        cases hq3 : q with
        | some r =>
          rw [hq3] at hR
          rw [hR]
          refine AW.st teOk [] (by simp [-Option.some.injEq] <;> rfl) trivial ?_
          refine AW.iff true (by simp) (fun _ => ?_) (fun h => by cases h)
          refine AW.st teOk [] (by simp [-Option.some.injEq] <;> rfl) trivial ?_
          exact AW.ret ⟨.inr rfl, _, Weak.refl _, by simp⟩
        | none =>
          rw [hq3] at hR
          refine AW.st teOk [] (by simp [-Option.some.injEq] <;> rfl) trivial ?_
          refine AW.iff false (by simp) (fun h => by cases h) (fun _ => AW.skip ?_)
          exact ⟨_, Weak.normT hA [1, 2, 3, 4, 10, 13] [] [] 0 _ (by simp) (by simp) (by simp), hR, by simp⟩
      rintro s ⟨hR2, rfl⟩
      refine AW.text teOk (ans := []) (by simp [-Option.some.injEq] <;> rfl) ?_ ?_
      · trivial
      refine ⟨_, _, Weak.normT hA [1, 2, 3, 4, 10, 13] [] [] 0 _ (by simp) (by simp) (by simp), ?_, i + 1, rfl, h, hR2, ?_⟩
      · omega
      · simp
        exact wrap_s i (by omega)
    · rw [decide_eq_false_iff_not] at h
      refine ⟨_, Weak.refl _, ?_⟩
      rw [hR, List.drop_eq_nil_of_le (by simp; omega)]
      rfl
  rintro s hRn
  rw [hRn]
  refine AW.st teOk [] (by simp [-Option.some.injEq] <;> rfl) trivial ?_
  refine AW.ret ⟨.inr rfl, _, Weak.le 8 _ (by simp <;> rfl) (.c (LeC.nil 1)), ?_⟩
  simp
theorem pend_s {ops : List OpS} {i : Nat} {o : OpS} (ho : ops[i]? = some o) : pendN (ops.take (i + 1)) = pendN (ops.take i) + if (o.kind == 1 && o.ret == 0) = true then 1 else 0 := by
  unfold pendN
  rw [List.take_add_one, ho, Option.toList_some, List.countP_append, List.countP_singleton]
theorem rsearch_pure (ops : List OpS) (hn : ops.length < 1000000) (hE : EfOk ops) (hK : KiOk ops) : Pure Tryz.prog 16 [.agg (encHi ops)] (.tup [.c (encis (rsearchS ops).1), .c (cI (rsearchS ops).2)]) := by
  refine pure_of teOk Tryz.func16 (by kernel_rfl) (c := _) rfl (N := 51) rfl (rs := [Go.ResultVar.tmp 2, Go.ResultVar.tmp 3]) rfl (by simp) fun base A w0 hA => ?_
  refine AW.st teOk [] (by simp [-Option.some.injEq] <;> rfl) trivial ?_
  refine AW.to (s2 := ⟨[(1, .c (.fad (encHi ops)))], [], 0⟩) ((Weak.freeze 0 ⟨1, [encHi ops]⟩ [] _ (by simp) (flatOpsR ops)).trans (Weak.normT hA [1] [] [] 0 _ (by simp) (by simp) (by simp [mapAt_nil]))) (by simp [mapAt_nil]) ?_
  by_cases h10 : 10 < ops.length
  · have hR : rsearchS ops = ([], 3) := by unfold rsearchS; rw [if_pos h10]
    rw [hR]
    refine AW.seq ?_
    refine AW.st teOk [] (by simp [-Option.some.injEq] <;> rfl) trivial ?_
    refine AW.iff true (by simp; omega) (fun _ => ?_) (fun h => by cases h)
    refine AW.st teOk [] (by simp [-Option.some.injEq] <;> rfl) trivial ?_
    refine AW.ret ⟨.inr rfl, _, Weak.le 2 _ (by simp <;> rfl) (.c (LeC.nil 1)), ?_⟩
    simp
  have hR : rsearchS ops = match rsearchL ops (List.range (pendN ops + 1)) with
    | some l => (l, 0)
    | none => ([], 6) := by
    unfold rsearchS
    rw [if_neg h10]
    cases rsearchL ops (List.range (pendN ops + 1)) <;> rfl
  generalize rsearchS ops = R at hR ⊢
  have hpl : ∀ k, pendN (ops.take k) ≤ k := fun k => Nat.le_trans List.countP_le_length (by rw [List.length_take]; omega)
  refine AW.mid (fun s => s = ⟨[(1, .c (.fad (encHi ops)))], [], 0⟩) ?_ ?_
  · refine AW.st teOk [] (by simp [-Option.some.injEq] <;> rfl) trivial ?_
    refine AW.iff false (by simp; omega) (fun h => by cases h) (fun _ => AW.skip ?_)
    exact ⟨_, Weak.normT hA [1] [] [] 0 _ (by simp) (by simp) (by simp), by simp⟩
  rintro s rfl
  refine AW.st teOk [] (by simp [-Option.some.injEq] <;> rfl) trivial ?_
  refine AW.mid (fun s => s = ⟨[(1, .c (.fad (encHi ops))), (4, .c (cI (pendN ops)))], [], 0⟩) ?_ ?_
  · refine AW.st teOk [] (by simp [-Option.some.injEq] <;> rfl) trivial ?_
    refine AW.block (AW.loop (fun m s => ∃ i : Nat, m = ops.length - i ∧ i ≤ ops.length ∧ s = ⟨[(1, .c (.fad (encHi ops))), (4, .c (cI (pendN (ops.take i)))), (5, .c (cI i))], [], 0⟩) _ (Weak.normT hA [1, 4, 5] [] [] 0 _ (by simp) (by simp) (by simp)) ⟨0, rfl, Nat.zero_le _, by simp [pendN]⟩ ?_)
    rintro m s ⟨i, rfl, hi, rfl⟩
    refine AW.seq ?_
    refine AW.st teOk [] (by simp [-Option.some.injEq] <;> rfl) trivial ?_
    refine AW.iff (decide (i < ops.length)) (by simp) (fun h => AW.skip ?_) (fun h => AW.exit (x_then (x_then (blockA_exit ?_))))
    · rw [decide_eq_true_eq] at h
      obtain ⟨o, ho⟩ : ∃ e, ops[i]? = some e := ⟨_, List.getElem?_eq_getElem h⟩
      have hps := pend_s ho
      have hpi := hpl i
      have hw : IntKind.i64.wrap ((pendN (ops.take i) : Int) + 1) = (pendN (ops.take i) : Int) + 1 := by rw [IntKind.wrap_i64]; omega
      refine AW.mid (fun s => s = ⟨[(1, .c (.fad (encHi ops))), (4, .c (cI (pendN (ops.take (i + 1))))), (5, .c (cI i))], [], 0⟩) (AW.block ?_) ?_
      · rw [hps]
        cases hk : o.kind == 1 with
        | false =>
          refine AW.st teOk [] (by simp [ho, hk, -Option.some.injEq] <;> rfl) ?_ ?_
          · first | trivial | omega | (simp [allP, growOk] <;> omega)
          refine AW.iff false (by simp) (fun h => by cases h) (fun _ => AW.skip ?_)
          exact ⟨_, Weak.normT hA [1, 4, 5] [] [] 0 _ (by simp) (by simp) (by simp), by simp⟩
        | true =>
        cases hr : o.ret == 0 with
        | false =>
          refine AW.st teOk [] (by simp [ho, hk, hr, -Option.some.injEq] <;> rfl) ?_ ?_
          · first | trivial | omega | (simp [allP, growOk] <;> omega)
          refine AW.iff false (by simp) (fun h => by cases h) (fun _ => AW.skip ?_)
          exact ⟨_, Weak.normT hA [1, 4, 5] [] [] 0 _ (by simp) (by simp) (by simp), by simp⟩
        | true =>
          refine AW.st teOk [] (by simp [ho, hk, hr, -Option.some.injEq] <;> rfl) ?_ ?_
          · first | trivial | omega | (simp [allP, growOk] <;> omega)
          refine AW.iff true (by simp) (fun _ => ?_) (fun h => by cases h)
          refine AW.text teOk (ans := []) (by simp [-Option.some.injEq] <;> rfl) ?_ ?_
          · trivial
          exact ⟨_, Weak.normT hA [1, 4, 5] [] [] 0 _ (by simp) (by simp) (by simp), by simp [hw]⟩
      rintro s rfl
      refine AW.text teOk (ans := []) (by simp [-Option.some.injEq] <;> rfl) ?_ ?_
      · trivial
      refine ⟨_, _, Weak.normT hA [1, 4, 5] [] [] 0 _ (by simp) (by simp) (by simp), ?_, i + 1, rfl, h, ?_⟩
      · omega
      · simp
        exact wrap_s i (by omega)
    · rw [decide_eq_false_iff_not] at h
      have : i = ops.length := by omega
      rw [this, List.take_length]
      exact ⟨_, Weak.normT hA [1, 4] [] [] 0 _ (by simp) (by simp) (by simp), by simp⟩
  rintro s rfl
  have hP : pendN ops ≤ ops.length := List.countP_le_length
  refine AW.mid (fun s => R = ([], 6)) ?_ ?_
  · refine AW.st teOk [] (by simp [-Option.some.injEq] <;> rfl) trivial ?_
    refine AW.block (AW.loop (fun m s => ∃ sp : Nat, m = pendN ops + 1 - sp ∧ sp ≤ pendN ops + 1 ∧ rsearchL ops (List.range (pendN ops + 1)) = rsearchL ops ((List.range (pendN ops + 1)).drop sp) ∧ s = ⟨[(1, .c (.fad (encHi ops))), (4, .c (cI (pendN ops))), (6, .c (cI sp))], [], 0⟩) _ (Weak.normT hA [1, 4, 6] [] [] 0 _ (by simp) (by simp) (by simp)) ⟨0, rfl, Nat.zero_le _, rfl, by simp⟩ ?_)
    rintro m s ⟨sp, rfl, hsp, hrun, rfl⟩
    refine AW.seq ?_
    refine AW.st teOk [] (by simp [-Option.some.injEq] <;> rfl) trivial ?_
    refine AW.iff (decide (sp ≤ pendN ops)) (by simp) (fun h => AW.skip ?_) (fun h => AW.exit (x_then (x_then (blockA_exit ?_))))
    · rw [decide_eq_true_eq] at h
      have hdr : (List.range (pendN ops + 1)).drop sp = sp :: (List.range (pendN ops + 1)).drop (sp + 1) := by
        rw [List.drop_eq_getElem_cons (by simp; omega), List.getElem_range]
      rw [hdr, rsearchL] at hrun
      have hext := ext_pure ops (by omega) hE hK 11 [] [] sp .nil (fun i h => by cases h) rfl VOk.nil (by omega)
      have hext2 : Pure Tryz.prog 30 [.agg (encHi ops), .c (.sc (.slice none 0 0)), .c (.sc (.slice none 0 0)), .c (cI sp)] (extR (extS ops 11 [] [] sp)) := Pure.le hext (.cons (.refl _) (.cons (.c (LeC.nil 1)) (.cons (.c (LeC.nil 10)) (.cons (.refl _) .nil)))) (.refl _)
      generalize extS ops 11 [] [] sp = q at *
      refine AW.seq (AW.block ?_)
      refine AW.st teOk [.fz (extR q)] (by simp [-Option.some.injEq] <;> rfl) ?_ ?_
      · exact hext2
      cases q with
      | some r =>
        have hR2 : R = (r, 0) := by rw [hR, hrun]
        rw [hR2]
        refine AW.st teOk [] (by simp [-Option.some.injEq] <;> rfl) trivial ?_
        refine AW.iff true (by simp) (fun _ => ?_) (fun h => by cases h)
        refine AW.st teOk [] (by simp [-Option.some.injEq] <;> rfl) trivial ?_
        exact AW.ret ⟨.inr rfl, _, Weak.refl _, by simp⟩
      | none =>
        refine AW.st teOk [] (by simp [-Option.some.injEq] <;> rfl) trivial ?_
        refine AW.iff false (by simp) (fun h => by cases h) (fun _ => AW.skip ?_)
        refine AW.text teOk (ans := []) (by simp [-Option.some.injEq] <;> rfl) ?_ ?_
        · trivial
        refine ⟨_, _, Weak.normT hA [1, 4, 6] [] [] 0 _ (by simp) (by simp) (by simp), ?_, sp + 1, rfl, by omega, hrun, ?_⟩
        · omega
        · simp
          exact wrap_s sp (by omega)
    · rw [decide_eq_false_iff_not] at h
      refine ⟨_, Weak.refl _, ?_⟩
      rw [hR, hrun, List.drop_eq_nil_of_le (by simp; omega)]
      rfl
  rintro s hRn
  rw [hRn]
  refine AW.st teOk [] (by simp [-Option.some.injEq] <;> rfl) trivial ?_
  refine AW.ret ⟨.inr rfl, _, Weak.le 2 _ (by simp <;> rfl) (.c (LeC.nil 1)), ?_⟩
  simp
end Go.Proofs.YtphlhadgcfndhaaGreat.Abs
end
section
namespace Go.Proofs.YtphlhadgcfndhaaGreat.Abs
open Go Go.RowKit
set_option linter.unusedVariables false
set_option linter.unusedSimpArgs false
set_option maxHeartbeats 4000000
set_option maxRecDepth 8000
theorem fill_new (ops : List OpS) (l : List Int) (hn : ops.length < 1000000) (hl : l.length < 1000) (hE : EfOk ops) (hin : ∀ x ∈ l, inR ops.length x = true) : New Tryz.prog 10 [.agg (encHi ops), .c (encis l)] (.agg [.ref 0 0 (fillS ops [] l).length]) [(0, ⟨6, (fillS ops [] l).map encOp⟩)] 1 := by
  refine new_drop teOk Tryz.func10 (by kernel_rfl) (c := _) rfl (N := 45) rfl (rs := [Go.ResultVar.cell 4 26]) rfl (by simp) fun base A w0 hA => ?_
  refine AW.st teOk [] (by simp [-Option.some.injEq] <;> rfl) trivial ?_
  refine AW.st teOk [] (by simp [-Option.some.injEq] <;> rfl) ?_ ?_
  · simp [growOk]
    omega
  refine AW.st teOk [] (by simp [-Option.some.injEq] <;> rfl) trivial ?_
  refine AW.weak (Weak.le 6 _ (v' := .c (encHs [])) (by simp <;> rfl) (.c (.nil 10))) ?_
  refine AW.seq ?_
  refine AW.st teOk [] (by simp [-Option.some.injEq] <;> rfl) trivial ?_
  refine AW.block (AW.loop (fun m s => ∃ (i : Nat) (W : List OpS) (vs : List HV), m = l.length - i ∧ i ≤ l.length ∧ VOk (10 * i) vs ∧ EfOk W ∧ W.length = ops.length ∧ fillS ops [] l = fillS W vs (l.drop i) ∧ s = filSt l W vs i) _ (Weak.normS hA [1, 4, 5, 6, 7] [(4, 0), (5, 1)] [(5, 2)] [7] 3 _ (by simp [putT]) (by simp [putT]) (by simp [putT]; exact flatOpsM _)) ⟨0, ops, [], rfl, Nat.zero_le _, VOk.nil, hE, rfl, rfl, by simp [putT]⟩ ?_)
  rintro m s ⟨i, W, vs, rfl, hi, hv, hW, hWl, hr, rfl⟩
  refine AW.seq ?_
  refine AW.st teOk [] (by simp [-Option.some.injEq] <;> rfl) trivial ?_
  refine AW.iff (decide (i < l.length)) (by simp) (fun h => AW.skip ?_) (fun h => AW.exit (x_then (x_then (blockA_exit ?_))))
  · rw [decide_eq_true_eq] at h
    obtain ⟨x, he⟩ : ∃ e, l[i]? = some e := ⟨_, List.getElem?_eq_getElem h⟩
    obtain ⟨o, ho, hx2, hx3, hx4⟩ := opAt_some (hWl ▸ hin x (List.mem_of_getElem? he))
    have hef := hW o (List.mem_of_getElem? hx2)
    have hd : l.drop i = x :: l.drop (i + 1) := by
      rw [List.drop_eq_getElem_cons h]
      congr 1
      rw [List.getElem?_eq_getElem h] at he
      exact Option.some.inj he
    refine AW.seq (AW.block ?_)
    refine AW.dr mixed teOk [] (by simp [he, hx2, -Option.some.injEq] <;> rfl) (by kernel_rfl) (by kernel_rfl) ?_ ?_
    · simp [allP]
      omega
    refine AW.st teOk [] (by simp [hx2, -Option.some.injEq] <;> rfl) trivial ?_
    by_cases hk : o.kind = 1
    · have hst := rstepK_pure hv (by omega) hef (.inl hk)
      refine AW.iff true (by simp [hk]) (fun _ => ?_) (fun h => by cases h)
      refine AW.text teOk (ans := [.fz (.tup [.c (encHs (stepV vs o)), .c (cB (okV vs o))])]) (by simp [hx2, -Option.some.injEq] <;> rfl) ?_ ?_
      · exact hst
      refine AW.text teOk (ans := []) (by simp [-Option.some.injEq] <;> rfl) ?_ ?_
      · trivial
      refine ⟨_, _, Weak.normS hA [1, 4, 5, 6, 7] [(4, 0), (5, 1)] [(2, 2)] [1] 3 _ (by simp) (by simp) (by simp; exact flatOpsM _), ?_, i + 1, W, stepV vs o, rfl, h, (hv.step o).le (by omega), hW, hWl, ?_, ?_⟩
      · omega
      · rw [hr, hd, fillS, ho]
        simp [hk]
      · simp
        exact wrap_s i (by omega)
    · refine AW.iff false (by simp [hk]) (fun h => by cases h) (fun _ => ?_)
      have hfl : flatO ⟨6, (W.map encOp).set x.toNat (encOp { o with res := vs })⟩ = true := by rw [← List.map_set]; exact flatOpsM _
      refine AW.text teOk (ans := []) (by simp [hx2, -Option.some.injEq] <;> rfl) ?_ ?_
      · trivial
      refine AW.text teOk (ans := []) (by simp [-Option.some.injEq] <;> rfl) ?_ ?_
      · trivial
      refine ⟨_, _, Weak.normS hA [1, 4, 5, 6, 7] [(4, 0), (5, 1)] [(2, 2)] [1] 3 _ (by simp) (by simp) (by simp; exact hfl), ?_, i + 1, W.set x.toNat { o with res := vs }, vs, rfl, h, hv.le (by omega), ?_, by rw [List.length_set]; exact hWl, ?_, ?_⟩
      · omega
      · intro q hq
        rcases List.mem_or_eq_of_mem_set hq with hq | rfl
        · exact hW q hq
        · exact hef
      · rw [hr, hd, fillS, ho]
        simp [hk]
      · simp
        exact wrap_s i (by omega)
  · rw [decide_eq_false_iff_not] at h
    have hend : fillS ops [] l = W := by rw [hr, List.drop_eq_nil_of_le (by omega), fillS]
    rw [hend]
    refine AW.st teOk [] (by simp [-Option.some.injEq] <;> rfl) ?_ ?_
    · trivial
    refine AW.ret ⟨.inr rfl, _, .agg [.ref 2 0 W.length], Weak.refl _, ?_, ?_⟩
    · simp
    · have h := Weak.normS hA [0] [] [(2, 0)] [] 1 ⟨[(0, .agg [.ref 2 0 W.length])], [(0, ⟨1, [[.ref 2 0 W.length]]⟩), (1, ⟨1, [[.ref 2 0 W.length]]⟩), (2, ⟨6, W.map encOp⟩)], 9⟩ (by simp) (by simp) (by simp; exact flatOpsM W)
      simpa using h
abbrev filCt (R : Sig) (l : List Int) (W : List OpS) (vs : List HV) (i : Nat) : St := ⟨[(1, .c (.ref 10 0 l.length)), (4, .c (.ptr 1000000 0 0)), (5, .c (.ptr 1000001 0 0)), (6, .c (encHs vs)), (7, .c (cI i))], [(1000000, ⟨1, [[.sc (.slice none 0 0)]]⟩), (1000001, ⟨1, [[.ref 1000002 0 W.length]]⟩), (1000002, ⟨6, W.map encOp⟩)] ++ R, 1000003⟩
theorem fill_con (ops : List OpS) (l : List Int) (hn : ops.length < 1000000) (hl : l.length < 1000) (hE : EfOk ops) (hin : ∀ x ∈ l, inR ops.length x = true) : Con Tryz.prog 10 [.agg [.ref 1 0 ops.length], .c (.ref 10 0 l.length)] [(1, ⟨6, ops.map encOp⟩), (10, ⟨1, l.map enci⟩)] LIM (.agg [.ref 1000002 0 ops.length]) [(1000002, ⟨6, (fillS ops [] l).map encOp⟩), (1, ⟨6, ops.map encOp⟩), (10, ⟨1, l.map enci⟩)] 1000003 := by
  refine con_drop teOk Tryz.func10 (by kernel_rfl) (c := _) rfl (N := 45) rfl (rs := [Go.ResultVar.cell 4 26]) rfl (by simp) fun base A w0 rest hrest hrefs hA => ?_
  obtain ⟨R, hRd⟩ : ∃ R : Sig, R = [(1, ⟨6, ops.map encOp⟩), (10, ⟨1, l.map enci⟩)] ++ rest := ⟨_, rfl⟩
  have hrestR : ∀ i, (look i R).isSome = true → i < LIM := fun i hi => by
    rw [hRd] at hi
    by_cases h1 : i = 1
    · rw [h1]; decide
    · by_cases h2 : i = 10
      · rw [h2]; decide
      · refine hrest i ?_
        simpa [look, h1, h2] using hi
  have hrefsR : ∀ i o, look i R = some o → refsLt LIM o := fun i o ho => by
    rw [hRd] at ho
    by_cases h1 : i = 1
    · subst h1
      cases ho
      intro e he c hc
      obtain ⟨q, _, rfl⟩ := List.mem_map.1 he
      simp at hc
      rcases hc with rfl | rfl | rfl | rfl | rfl | rfl <;> trivial
    · by_cases h2 : i = 10
      · subst h2
        cases ho
        intro e he c hc
        obtain ⟨q, _, rfl⟩ := List.mem_map.1 he
        simp at hc
        rw [hc]
        trivial
      · refine hrefs i o ?_
        simpa [look, h1, h2] using ho
  have hl1 : look 1 R = some ⟨6, ops.map encOp⟩ := by rw [hRd]; rfl
  have hl10 : look 10 R = some ⟨1, l.map enci⟩ := by rw [hRd]; rfl
  have hh := hiS_low hrestR
  have hlo := loS_low hrestR
  have hdr := fun k hk => drop_rest hrestR k hk
  have hrn : ∀ (ρ : List (Nat × Nat)) (ids : List Nat), (ids.all fun i => decide (1000000 ≤ i)) = true → rnS 1000000 ρ ids R = R := fun ρ ids h => rnS_low h hrestR
  have hrn0 : ∀ (ρ : List (Nat × Nat)), rnS 1000000 ρ [] R = R := fun ρ => hrn ρ [] rfl
  have hrn1 : ∀ (ρ : List (Nat × Nat)), rnS 1000000 ρ [1000001] R = R := fun ρ => hrn ρ [1000001] rfl
  rw [← hRd]
  refine AW.st teOk [] (by simp [hl1, hl10, hdr, -Option.some.injEq] <;> rfl) trivial ?_
  refine AW.st teOk [] (by simp [hl1, hl10, hdr, -Option.some.injEq] <;> rfl) ?_ ?_
  · simp [growOk]
    omega
  have hrn7 : ∀ (ρ : List (Nat × Nat)), rnS 1000000 ρ [1000007] R = R := fun ρ => hrn ρ [1000007] rfl
  refine AW.st teOk [] (by simp [-Option.some.injEq] <;> rfl) trivial ?_
  refine AW.weak (Weak.le 6 _ (v' := .c (encHs [])) (by simp <;> rfl) (.c (.nil 10))) ?_
  refine AW.seq ?_
  refine AW.st teOk [] (by simp [-Option.some.injEq] <;> rfl) trivial ?_
  refine AW.block (AW.loop (fun m s => ∃ (i : Nat) (W : List OpS) (vs : List HV), m = l.length - i ∧ i ≤ l.length ∧ VOk (10 * i) vs ∧ EfOk W ∧ W.length = ops.length ∧ fillS ops [] l = fillS W vs (l.drop i) ∧ s = filCt R l W vs i) _ (Weak.normCS hA hrefsR [1, 4, 5, 6, 7] [(4, 1000000), (5, 1000001)] [(1000005, 1000002)] [1000007] 1000003 _ (by simp [hlo, hdr, putT]) (by simp [putT]) (by simp) (by simp [putT]) (by simp [hh, hdr, putT]) (by simp [hh, hdr, putT]; exact flatOpsM _)) ⟨0, ops, [], rfl, Nat.zero_le _, VOk.nil, hE, rfl, rfl, by simp [putT, normL, hh, hlo, hrn7, hdr]⟩ ?_)
  rintro m s ⟨i, W, vs, rfl, hi, hv, hW, hWl, hr, rfl⟩
  refine AW.seq ?_
  refine AW.st teOk [] (by simp [hl1, hl10, hdr, -Option.some.injEq] <;> rfl) trivial ?_
  refine AW.iff (decide (i < l.length)) (by simp) (fun h => AW.skip ?_) (fun h => AW.exit (x_then (x_then (blockA_exit ?_))))
  · rw [decide_eq_true_eq] at h
    obtain ⟨x, he⟩ : ∃ e, l[i]? = some e := ⟨_, List.getElem?_eq_getElem h⟩
    obtain ⟨o, ho, hx2, hx3, hx4⟩ := opAt_some (hWl ▸ hin x (List.mem_of_getElem? he))
    have hef := hW o (List.mem_of_getElem? hx2)
    have hd : l.drop i = x :: l.drop (i + 1) := by
      rw [List.drop_eq_getElem_cons h]
      congr 1
      rw [List.getElem?_eq_getElem h] at he
      exact Option.some.inj he
    refine AW.seq (AW.block ?_)
    refine AW.dr mixed teOk [] (by simp [he, hx2, hl1, hl10, hdr, -Option.some.injEq] <;> rfl) (by kernel_rfl) (by kernel_rfl) ?_ ?_
    · simp [allP]
      omega
    refine AW.st teOk [] (by simp [hx2, hl1, hl10, hdr, -Option.some.injEq] <;> rfl) trivial ?_
    by_cases hk : o.kind = 1
    · have hst := rstepK_pure hv (by omega) hef (.inl hk)
      refine AW.iff true (by simp [hk]) (fun _ => ?_) (fun h => by cases h)
      refine AW.text teOk (ans := [.fz (.tup [.c (encHs (stepV vs o)), .c (cB (okV vs o))])]) (by simp [hx2, hl1, hl10, hdr, -Option.some.injEq] <;> rfl) ?_ ?_
      · exact hst
      refine AW.text teOk (ans := []) (by simp [-Option.some.injEq] <;> rfl) ?_ ?_
      · trivial
      refine ⟨_, _, Weak.normCS hA hrefsR [1, 4, 5, 6, 7] [(4, 1000000), (5, 1000001)] [(1000002, 1000002)] [1000001] 1000003 _ (by simp [hlo, hdr]) (by simp) (by simp) (by simp) (by simp [hh, hdr]) (by simp [hh, hdr]; exact flatOpsM _), ?_, i + 1, W, stepV vs o, rfl, h, (hv.step o).le (by omega), hW, hWl, ?_, ?_⟩
      · omega
      · rw [hr, hd, fillS, ho]
        simp [hk]
      · simp [normL, hh, hlo, hrn1, hdr]
        exact wrap_s i (by omega)
    · refine AW.iff false (by simp [hk]) (fun h => by cases h) (fun _ => ?_)
      have hfl : flatO ⟨6, (W.map encOp).set x.toNat (encOp { o with res := vs })⟩ = true := by rw [← List.map_set]; exact flatOpsM _
      refine AW.text teOk (ans := []) (by simp [hx2, hl1, hl10, hdr, -Option.some.injEq] <;> rfl) ?_ ?_
      · trivial
      refine AW.text teOk (ans := []) (by simp [-Option.some.injEq] <;> rfl) ?_ ?_
      · trivial
      refine ⟨_, _, Weak.normCS hA hrefsR [1, 4, 5, 6, 7] [(4, 1000000), (5, 1000001)] [(1000002, 1000002)] [1000001] 1000003 _ (by simp [hlo, hdr]) (by simp) (by simp) (by simp) (by simp [hh, hdr]) (by simp [hh, hdr]; exact hfl), ?_, i + 1, W.set x.toNat { o with res := vs }, vs, rfl, h, hv.le (by omega), ?_, by rw [List.length_set]; exact hWl, ?_, ?_⟩
      · omega
      · intro q hq
        rcases List.mem_or_eq_of_mem_set hq with hq | rfl
        · exact hW q hq
        · exact hef
      · rw [hr, hd, fillS, ho]
        simp [hk]
      · simp [normL, hh, hlo, hrn1, hdr]
        exact wrap_s i (by omega)
  · rw [decide_eq_false_iff_not] at h
    have hend : fillS ops [] l = W := by rw [hr, List.drop_eq_nil_of_le (by omega), fillS]
    rw [hend]
    refine AW.st teOk [] (by simp [hdr, -Option.some.injEq] <;> rfl) ?_ ?_
    · trivial
    refine AW.ret ⟨.inr rfl, _, .agg [.ref 1000002 0 W.length], Weak.refl _, ?_, ?_⟩
    · simp
    · have hRe : ∀ X : AObj, [(1000002, X), (1, ⟨6, ops.map encOp⟩), (10, ⟨1, l.map enci⟩)] ++ rest = (1000002, X) :: R := fun X => by rw [hRd]; rfl
      rw [hRe, ← hWl]
      have h := Weak.normCS hA hrefsR [0] [] [(1000002, 1000002)] [] 1000003 ⟨[(0, .agg [.ref 1000002 0 W.length])], (1000000, ⟨1, [[.ref 1000002 0 W.length]]⟩) :: (1000001, ⟨1, [[.ref 1000002 0 W.length]]⟩) :: (1000002, ⟨6, W.map encOp⟩) :: R, 1000009⟩ (by simp [hlo, hdr]) (by simp) (by simp) (by simp) (by simp [hh, hdr]) (by simp [hh, hdr]; exact flatOpsM _)
      simp [normL, hh, hlo, hrn0, hdr] at h
      exact h
theorem fill_gen (ops : List OpS) (l : List Int) (hn : ops.length < 1000000) (hl : l.length < 1000) (hE : EfOk ops) (hin : ∀ x ∈ l, inR ops.length x = true) : GenC Tryz.prog 10 [.agg [.ref 1 0 ops.length], .c (.ref 10 0 l.length)] (.agg [.ref 0 0 ops.length]) ⟨6, (fillS ops [] l).map encOp⟩ none [(1, ⟨6, ops.map encOp⟩), (10, ⟨1, l.map enci⟩)] :=
  GenC.of_con (by decide) (flatOpsM _) (fill_con ops l hn hl hE hin)
end Go.Proofs.YtphlhadgcfndhaaGreat.Abs
end
section
namespace Go.Proofs.YtphlhadgcfndhaaGreat.Abs
open Go Go.RowKit
set_option linter.unusedVariables false
set_option linter.unusedSimpArgs false
set_option maxHeartbeats 8000000
set_option maxRecDepth 8000
structure HOk (G : List OpS) : Prop where
  len : G.length ≤ 6
  ef : EfOk G
  ki : KiOk G
  one : OneEf G
  vt : VT 40 G
theorem HOk.of_fld {F G : List OpS} (h : HOk F) (e : G.map fld = F.map fld) : HOk G := by
  have hm : ∀ o ∈ G, ∃ q ∈ F, fld q = fld o := fun o ho => by
    have : fld o ∈ G.map fld := List.mem_map.2 ⟨o, ho, rfl⟩
    rw [e] at this
    exact List.mem_map.1 this
  refine ⟨?_, fun o ho => ?_, fun o ho => ?_, fun o ho => ?_, ?_, fun o ho => ?_⟩
  · have := congrArg List.length e
    simp at this
    have := h.len
    omega
  · obtain ⟨q, hq, e⟩ := hm o ho
    have e1 : q.ef = o.ef := show (fld q).ef = (fld o).ef from by rw [e]
    rw [← e1]; exact h.ef q hq
  · obtain ⟨q, hq, e⟩ := hm o ho
    have e1 : q.kind = o.kind := show (fld q).kind = (fld o).kind from by rw [e]
    rw [← e1]; exact h.ki q hq
  · obtain ⟨q, hq, e⟩ := hm o ho
    have e1 : q.kind = o.kind := show (fld q).kind = (fld o).kind from by rw [e]
    have e2 : q.ef = o.ef := show (fld q).ef = (fld o).ef from by rw [e]
    rw [← e1, ← e2]; exact h.one q hq
  · have := congrArg (List.map fun o : OpS => o.call) e
    rw [List.map_map, List.map_map] at this
    have e' : ((fun o : OpS => o.call) ∘ fld) = fun o : OpS => o.call := rfl
    rw [e'] at this
    rw [this]
    exact h.vt.asc
  · obtain ⟨q, hq, e⟩ := hm o ho
    have e1 : q.call = o.call := show (fld q).call = (fld o).call from by rw [e]
    have e2 : q.ret = o.ret := show (fld q).ret = (fld o).ret from by rw [e]
    rw [← e1, ← e2]; exact h.vt.el q hq
theorem set_fld {F : List OpS} {k : Nat} {o : OpS} (ho : F[k]? = some o) (r : List HV) : (F.set k { o with res := r }).map fld = F.map fld := by
  refine List.ext_getElem? fun i => ?_
  rw [List.getElem?_map, List.getElem?_map, List.getElem?_set]
  by_cases e : k = i
  · subst e
    rw [if_pos rfl, if_pos (List.getElem?_eq_some_iff.1 ho).1, ho]
    rfl
  · rw [if_neg e]
theorem le_set {F : List OpS} {k : Nat} {x : List Cell} {o' : OpS} (h : LeCs x (encOp o')) (i : Nat) (e e' : List Cell) (he : ((F.map encOp).set k x)[i]? = some e) (he' : ((F.set k o').map encOp)[i]? = some e') : LeCs e e' := by
  rw [List.map_set] at he'
  rw [List.getElem?_set] at he he'
  by_cases hk : k = i
  · rw [if_pos hk] at he he'
    split at he
    · rename_i hl
      rw [if_pos hl] at he'
      cases he
      cases he'
      exact h
    · cases he
  · rw [if_neg hk] at he he'
    rw [he] at he'
    cases he'
    exact LeCs.refl _
theorem searchL_pure (l ch : List Int) (which way : Int) (hl : l.length < 4000000000000000000) (hc : ch.length < 4000000000000000000) : Pure Tryz.prog 4 [.c (encis l), .c (encis ch), .c (cI which), .c (cI way)] (.c (cB true)) := by
  refine pure_of teOk Tryz.func4 (by kernel_rfl) (c := _) rfl (N := 126) rfl (rs := [Go.ResultVar.tmp 8]) rfl (by simp) fun base A w0 hA => ?_
  obtain ⟨O, F, hO, hF, hOl, hFl, hE, hin, hFE, hFK, hF1, hFV, hC, hR, hrp⟩ := short_facts l ch 6 (by omega)
  have hH : HOk F := ⟨hFl, hFE, hFK, hF1, hFV⟩
  have hS8 := (shortS_ok l 6).2.2.1
  have hsh := short_pure l ch 6 hl hc (by omega)
  have hfn := fill_new (shortS l 6) O (by omega) (by omega) hE hin
  rw [← hO] at hsh
  rw [← hF] at hfn
  generalize shortS l 6 = S at *
  clear hO hF hin hC hR hrp hFE hFK hF1 hFV hE
  refine AW.st teOk [] (by simp [-Option.some.injEq] <;> rfl) trivial ?_
  refine AW.st teOk [.fz (.tup [.agg (encHi S), .c (encis O)])] (by simp [-Option.some.injEq] <;> rfl) ?_ ?_
  · exact hsh
  refine AW.st teOk [.new (.agg [.ref 0 0 F.length]) [(0, ⟨6, F.map encOp⟩)] 1] (by simp [flatOpsM, -Option.some.injEq] <;> rfl) ?_ ?_
  · exact hfn
  refine AW.to (s2 := ⟨[(1, .c (encis ch)), (2, .c (cI which)), (3, .c (cI way)), (9, .c (.ptr 0 0 0))], [(0, ⟨1, [[.ref 1 0 F.length]]⟩), (1, ⟨6, F.map encOp⟩)], 2⟩) (Weak.normS hA [1, 2, 3, 9] [(9, 0)] [(11, 1)] [6] 2 _ (by simp) (by simp) (by simp; exact flatOpsM _)) (by simp) ?_
  refine AW.mid (fun s => ∃ G : List OpS, HOk G ∧ s = ⟨[(9, .c (.fad (encHi G)))], [], 0⟩) ?_ ?_
  · have hiw := index_pure way 3
    obtain ⟨c1, c2⟩ := indexP_lt way (k := 3) (by omega) (by omega)
    obtain ⟨d, hd⟩ : ∃ j : Nat, indexI way 3 = j := ⟨(indexI way 3).toNat, by omega⟩
    rw [hd] at hiw c1 c2
    have hF0 : F.length < 7 := by omega
    by_cases hd0 : 0 < d
    case neg =>
      refine AW.st teOk [.fz (.c (cI d))] (by simp [hd0, -Option.some.injEq] <;> rfl) ?_ ?_
      · exact hiw
      refine AW.iff false (by simp) (fun h => by cases h) (fun _ => AW.skip ?_)
      refine ⟨_, (Weak.freeze 1 ⟨6, (F).map encOp⟩ [0] _ (by simp) (flatOpsM _)).trans ((Weak.freeze 0 ⟨1, [encHi (F)]⟩ [] _ (by simp [mapAt]) (flatOpsR _)).trans (Weak.normT hA [9] [] [] 0 _ (by simp [mapAt_nil]) (by simp [mapAt_nil]) (by simp [mapAt, mapAt_nil]))), F, ?_, by simp [mapAt, mapAt_nil]⟩
      exact hH
    by_cases hn0 : 0 < F.length
    case neg =>
      refine AW.st teOk [.fz (.c (cI d))] (by simp [hd0, hn0, -Option.some.injEq] <;> rfl) ?_ ?_
      · exact hiw
      refine AW.iff false (by simp) (fun h => by cases h) (fun _ => AW.skip ?_)
      refine ⟨_, (Weak.freeze 1 ⟨6, (F).map encOp⟩ [0] _ (by simp) (flatOpsM _)).trans ((Weak.freeze 0 ⟨1, [encHi (F)]⟩ [] _ (by simp [mapAt]) (flatOpsR _)).trans (Weak.normT hA [9] [] [] 0 _ (by simp [mapAt_nil]) (by simp [mapAt_nil]) (by simp [mapAt, mapAt_nil]))), F, ?_, by simp [mapAt, mapAt_nil]⟩
      exact hH
    refine AW.st teOk [.fz (.c (cI d))] (by simp [hd0, hn0, -Option.some.injEq] <;> rfl) ?_ ?_
    · exact hiw
    refine AW.iff true (by simp) (fun _ => ?_) (fun h => by cases h)
    have hik := index_pure which F.length
    obtain ⟨k1, k2⟩ := indexP_lt which (k := F.length) (by omega) (by omega)
    obtain ⟨k, hk⟩ : ∃ j : Nat, indexI which F.length = j := ⟨(indexI which F.length).toNat, by omega⟩
    rw [hk] at hik k1 k2
    obtain ⟨o, ho⟩ : ∃ o, F[k]? = some o := ⟨_, List.getElem?_eq_getElem (by omega)⟩
    refine AW.st teOk [.fz (.c (cI k))] (by simp [-Option.some.injEq] <;> rfl) ?_ ?_
    · exact hik
    refine AW.st teOk [] (by simp [ho, -Option.some.injEq] <;> rfl) ?_ ?_
    · first | trivial | omega | (simp [allP, growOk] <;> omega)
    cases hk1 : o.kind != 1 with
    | false =>
      refine AW.st teOk [] (by simp [ho, hk1, -Option.some.injEq] <;> rfl) ?_ ?_
      · first | trivial | omega | (simp [allP, growOk] <;> omega)
      refine AW.iff false (by simp) (fun h => by cases h) (fun _ => AW.skip ?_)
      refine ⟨_, (Weak.freeze 1 ⟨6, (F).map encOp⟩ [0] _ (by simp) (flatOpsM _)).trans ((Weak.freeze 0 ⟨1, [encHi (F)]⟩ [] _ (by simp [mapAt]) (flatOpsR _)).trans (Weak.normT hA [9] [] [] 0 _ (by simp [mapAt_nil]) (by simp [mapAt_nil]) (by simp [mapAt, mapAt_nil]))), F, ?_, by simp [mapAt, mapAt_nil]⟩
      exact hH
    | true =>
    cases hr0 : o.ret != 0 with
    | false =>
      refine AW.st teOk [] (by simp [ho, hk1, hr0, -Option.some.injEq] <;> rfl) ?_ ?_
      · first | trivial | omega | (simp [allP, growOk] <;> omega)
      refine AW.iff false (by simp) (fun h => by cases h) (fun _ => AW.skip ?_)
      refine ⟨_, (Weak.freeze 1 ⟨6, (F).map encOp⟩ [0] _ (by simp) (flatOpsM _)).trans ((Weak.freeze 0 ⟨1, [encHi (F)]⟩ [] _ (by simp [mapAt]) (flatOpsR _)).trans (Weak.normT hA [9] [] [] 0 _ (by simp [mapAt_nil]) (by simp [mapAt_nil]) (by simp [mapAt, mapAt_nil]))), F, ?_, by simp [mapAt, mapAt_nil]⟩
      exact hH
    | true =>
    refine AW.st teOk [] (by simp [ho, hk1, hr0, -Option.some.injEq] <;> rfl) ?_ ?_
    · first | trivial | omega | (simp [allP, growOk] <;> omega)
    refine AW.iff true (by simp) (fun _ => ?_) (fun h => by cases h)
    refine AW.st teOk [.fz (.c (cI d))] (by simp [-Option.some.injEq] <;> rfl) ?_ ?_
    · exact hiw
    refine AW.to (s2 := ⟨[(1, .c (encis ch)), (9, .c (.ptr 0 0 0)), (11, .c (cI k)), (12, .c (.ptr 1 k 0)), (59, .c (cB ((d : Int) == 1)))], [(0, ⟨1, [[.ref 1 0 F.length]]⟩), (1, ⟨6, F.map encOp⟩)], 2⟩) (Weak.normS hA [1, 9, 11, 12, 59] [(9, 0), (12, 1)] [] [0] 2 _ (by simp) (by simp) (by simp; exact flatOpsM _)) (by simp) ?_
    by_cases hd1 : d = 1
    · refine AW.iff true (by simp [hd1]) (fun _ => ?_) (fun h => by cases h)
      refine AW.text teOk (ans := []) (by simp [ho, -Option.some.injEq] <;> rfl) ?_ ?_
      · first | trivial | omega | (simp [allP, growOk] <;> omega)
      obtain ⟨G, hGd⟩ : ∃ G, G = F.set k { o with res := [] } := ⟨_, rfl⟩
      have hGH : HOk G := hH.of_fld (by rw [hGd]; exact set_fld ho [])
      have hGl : F.length = G.length := by rw [hGd, List.length_set]
      rw [hGl]
      refine ⟨_, (Weak.leO 1 _ (o := ⟨6, (F.map encOp).set k [cI o.p, cI o.kind, .row 5 false (o.ef.map encE'), .sc (.slice none 0 0), cI o.call, cI o.ret]⟩) (o' := ⟨6, G.map encOp⟩) (by simp) rfl (by simp [hGl]) (by rw [hGd]; exact le_set (.cons (.refl _) (.cons (.refl _) (.cons (.refl _) (.cons (.nil 10) (.cons (.refl _) (.cons (.refl _) .nil)))))))).trans <| (Weak.freeze 1 ⟨6, (G).map encOp⟩ [0] _ (by simp) (flatOpsM _)).trans ((Weak.freeze 0 ⟨1, [encHi (G)]⟩ [] _ (by simp [mapAt]) (flatOpsR _)).trans (Weak.normT hA [9] [] [] 0 _ (by simp [mapAt_nil]) (by simp [mapAt_nil]) (by simp [mapAt, mapAt_nil]))), G, ?_, by simp [mapAt, mapAt_nil]⟩
      exact hGH
    · refine AW.iff false (by simp; omega) (fun h => by cases h) (fun _ => ?_)
      obtain ⟨C, hCd⟩ : ∃ C, C = ch.take (min 1 ch.length) := ⟨_, rfl⟩
      have hCl : C.length < 4000000000000000000 := by rw [hCd, List.length_take]; omega
      have hon := order_new F C (by omega) hCl
      have hO2 := orderS_ok hH.vt (by omega) C
      have hOl2 := orderS_len F C
      have hgen := fill_gen F (orderS F C) (by omega) (by omega) hH.ef hO2.rng
      have hF2l := fill_len F (orderS F C)
      obtain ⟨o2, ho2⟩ : ∃ o2, (fillS F [] (orderS F C))[k]? = some o2 := ⟨_, List.getElem?_eq_getElem (by omega)⟩
      generalize fillS F [] (orderS F C) = F2 at *
      generalize orderS F C = O2 at *
      refine AW.draw mixed teOk (ans := [.tup [.c (.ref 0 0 O2.length), .c (.row 1 true (O2.map enci))], .tup [.any, .agg [.ref 0 0 F.length], .c (.row 6 true (F2.map encOp)), .any, .tup [.tup [.c (.ptr 1 0 0), .c (.row 6 true (F.map encOp))], .tup [.c (.ptr 10 0 0), .c (.row 1 true (O2.map enci))]]]]) (by simp [ho, ho2, flatOpsM, hF2l, -Option.some.injEq] <;> rfl) (by kernel_rfl) (by kernel_rfl) ?_ ?_
      · have hce : List.take (if (ch.length : Int) < 1 then (ch.length : Int) else 1).toNat (ch.map enci) = C.map enci := by
          rw [hCd, List.map_take]
          congr 1
          split <;> omega
        simp [allP]
        rw [hce]
        exact ⟨⟨by split <;> omega, by split <;> omega⟩, ⟨⟨⟨flatOpsM F, trivial⟩, trivial, trivial⟩, hon⟩, hgen, by omega⟩
      obtain ⟨G, hGd⟩ : ∃ G, G = F.set k { o with res := o2.res } := ⟨_, rfl⟩
      have hGH : HOk G := hH.of_fld (by rw [hGd]; exact set_fld ho _)
      have hGl : F.length = G.length := by rw [hGd, List.length_set]
      have hGm : (F.map encOp).set k [cI o.p, cI o.kind, .row 5 false (o.ef.map encE'), .row 10 false (o2.res.map encH), cI o.call, cI o.ret] = G.map encOp := by rw [hGd, List.map_set]; rfl
      refine ⟨_, (Weak.normS hA [9] [(9, 0)] [(1, 1)] [0] 2 _ (by simp) (by simp) (by simp [hGm]; exact flatOpsM _)).trans ((Weak.freeze 1 ⟨6, G.map encOp⟩ [0] _ (by simp [hGm]) (flatOpsM _)).trans ((Weak.freeze 0 ⟨1, [encHi G]⟩ [] _ (by simp [mapAt, hGm, hGl]) (flatOpsR _)).trans (Weak.normT hA [9] [] [] 0 _ (by simp [mapAt_nil]) (by simp [mapAt_nil]) (by simp [mapAt, mapAt_nil, hGm, hGl])))), G, hGH, by simp [mapAt, mapAt_nil, hGm, hGl]⟩
  rintro s ⟨G, hG, rfl⟩
  have hG6 := hG.len
  have hse := search_eq (by omega) hG.one hG.vt
  have hsl := search_len (by omega) hG.one
  have htw := search_two (by omega) hG.one
  have h1 := search_pure G hG.ef (by omega)
  have h2 := rsearch_pure G (by omega) hG.ef hG.ki
  have h3 : ∀ A, searchS G = (A, 0) → replayS G A = 0 := fun A h => search_ok (by omega) hG.one h
  rw [hse] at h2
  obtain ⟨⟨A0, e⟩, hR⟩ : ∃ R, searchS G = R := ⟨_, rfl⟩
  rw [hR] at h1 h2 hsl htw
  simp only at h1 h2 hsl htw
  have hrp := replay_pure G A0 (by omega) (by omega) hG.ef
  refine AW.st teOk [.fz (.tup [.c (encis A0), .c (cI e)])] (by simp [-Option.some.injEq] <;> rfl) ?_ ?_
  · exact h1
  refine AW.st teOk [.fz (.tup [.c (encis A0), .c (cI e)])] (by simp [-Option.some.injEq] <;> rfl) ?_ ?_
  · exact h2
  refine AW.mid (fun s => s = ⟨[(9, .c (.fad (encHi G))), (13, .c (encis A0)), (14, .c (cI e)), (15, .c (encis A0))], [], 0⟩) ?_ ?_
  · refine AW.st teOk [] (by simp [-Option.some.injEq] <;> rfl) trivial ?_
    refine AW.iff false (by simp) (fun h => by cases h) (fun _ => AW.skip ?_)
    exact ⟨_, Weak.normT hA [9, 13, 14, 15] [] [] 0 _ (by simp) (by simp) (by simp), by simp⟩
  rintro s rfl
  refine AW.mid (fun s => s = ⟨[(9, .c (.fad (encHi G))), (13, .c (encis A0)), (14, .c (cI e))], [], 0⟩) ?_ ?_
  · refine AW.st teOk [] (by simp [-Option.some.injEq] <;> rfl) trivial ?_
    refine AW.block (AW.loop (fun m s => ∃ i : Nat, m = A0.length - i ∧ i ≤ A0.length ∧ s = ⟨[(9, .c (.fad (encHi G))), (13, .c (encis A0)), (14, .c (cI e)), (15, .c (encis A0)), (17, .c (cI i))], [], 0⟩) _ (Weak.normT hA [9, 13, 14, 15, 17] [] [] 0 _ (by simp) (by simp) (by simp)) ⟨0, rfl, Nat.zero_le _, by simp⟩ ?_)
    rintro m s ⟨i, rfl, hi, rfl⟩
    refine AW.seq ?_
    refine AW.st teOk [] (by simp [-Option.some.injEq] <;> rfl) trivial ?_
    refine AW.iff (decide (i < A0.length)) (by simp) (fun h => AW.skip ?_) (fun h => AW.exit (x_then (x_then (blockA_exit ?_))))
    · rw [decide_eq_true_eq] at h
      obtain ⟨x, hx⟩ : ∃ x, A0[i]? = some x := ⟨_, List.getElem?_eq_getElem h⟩
      refine AW.seq (AW.block ?_)
      refine AW.seq ?_
      refine AW.draw mixed teOk (ans := []) (by simp [hx, -Option.some.injEq] <;> rfl) (by kernel_rfl) (by kernel_rfl) ?_ ?_
      · simp [allP]
        omega
      refine AW.iff false (by simp) (fun h => by cases h) (fun _ => AW.skip ?_)
      refine AW.text teOk (ans := []) (by simp [-Option.some.injEq] <;> rfl) ?_ ?_
      · trivial
      refine ⟨_, _, Weak.normT hA [9, 13, 14, 15, 17] [] [] 0 _ (by simp) (by simp) (by simp), ?_, i + 1, rfl, h, ?_⟩
      · omega
      · simp
        exact wrap_s i (by omega)
    · exact ⟨_, Weak.normT hA [9, 13, 14] [] [] 0 _ (by simp) (by simp) (by simp), by simp⟩
  rintro s rfl
  rcases htw with rfl | rfl
  · rw [h3 A0 hR] at hrp
    refine AW.st teOk [.fz (.c (cI 0)), .fz (.c (cB true))] (by simp [-Option.some.injEq] <;> rfl) ?_ ?_
    · exact ⟨hrp, awake39_pure⟩
    exact AW.ret ⟨.inr rfl, _, Weak.refl _, by simp⟩
  · refine AW.st teOk [.fz (.c (cB true))] (by simp [-Option.some.injEq] <;> rfl) ?_ ?_
    · exact awake39_pure
    exact AW.ret ⟨.inr rfl, _, Weak.refl _, by simp⟩
theorem searchL_row (l ch : List Int) (which way : Int) (hl : l.length < 4000000000000000000) (hc : ch.length < 4000000000000000000) {p1 p2 : Prop} (_ : p1) (_ : p2) : Pure Tryz.prog 4 [.c (.row 1 false (l.map fun n : Int => [.sc (.int .i64 n)])), .c (.row 1 false (ch.map fun n : Int => [.sc (.int .i64 n)])), .c (.sc (.int .i64 which)), .c (.sc (.int .i64 way))] (.c (.sc (.bool true))) := searchL_pure l ch which way hl hc
end Go.Proofs.YtphlhadgcfndhaaGreat.Abs
end
