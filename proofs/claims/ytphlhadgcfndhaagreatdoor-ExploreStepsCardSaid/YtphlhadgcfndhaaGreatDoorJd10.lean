/- Joined for the claim: WRgr2 WRgx3 WRgx4 -/
import Derived.Test.YtphlhadgcfndhaaGreatDoorJd9
section
namespace Go.Proofs.YtphlhadgcfndhaaGreatDoor.Abs
open Go Go.RowKit
set_option linter.unusedVariables false
set_option linter.unusedSimpArgs false
set_option maxHeartbeats 4000000
theorem rj4_pure {u v : V2} (hu : V4 u) (hv : V4 v) : Pure Tryz.prog 34 [.c (encV u), .c (encV v)] (.c (encV (mergeI true u v))) := by
  have := rjoin_pure u v (fun e he => hv.val.1 e he) (by have := hu.le; have := hv.le; omega)
  rwa [rjoin_merge hu.val hv.val] at this
theorem take_all {l : List (List Cell)} {n : Nat} (h : l.length = n) : l.take n = l := List.take_of_length_le (by rw [h]; exact Nat.le_refl _)
theorem rdeliv_in (g : GrS) {n N : Nat} (h : GrW g n N) (hN : N < 100000000) (i : Nat) (hi : i < g.pks.length) : Pure Tryz.prog 39 [.agg (encGr g), .c (cI i)] (.agg (encGr (delivS g i))) := by
  obtain ⟨k, hk⟩ : ∃ k, g.pks[i]? = some k := ⟨_, List.getElem?_eq_getElem hi⟩
  obtain ⟨hkv, hka, q, l, hkp, hl, hl0⟩ := h.k k (List.mem_of_getElem? hk)
  have hq : q < n := by have := (List.getElem?_eq_some_iff.1 hl).1; have := h.nn.i; omega
  obtain ⟨p, hp⟩ : ∃ p, g.props[q]? = some p := ⟨_, List.getElem?_eq_getElem (by have := h.nn.p; omega)⟩
  obtain ⟨x, hx⟩ : ∃ x, g.nxt[q]? = some x := ⟨_, List.getElem?_eq_getElem (by have := h.nn.x; omega)⟩
  have hx0 := h.x q x hx
  obtain ⟨a, ha⟩ : ∃ a, g.accs[k.acc.toNat]? = some a := ⟨_, List.getElem?_eq_getElem (by omega)⟩
  have hG : delivS g i = if k.reply = false then askS (takeS g i) k a else repS (takeS g i) k p l x := by
    unfold delivS
    rw [hk]
    simp only
    have e1 : (takeS g i).accs[k.acc.toNat]? = some a := ha
    have e2 : k.prop.toNat = q := by omega
    rw [e1, e2, hp, hl, hx]
  have hdl := delL_len g.pks i hi
  have hlo := rlose_pure g i (by have := h.kl; omega)
  unfold loseS at hlo
  rw [if_pos (by omega), Int.toNat_natCast] at hlo
  have hst := h.s
  have hkl := h.kl
  rw [hG]
  clear hG
  have hdl2 := h.dl
  have hal := h.al
  have hpl := h.nn.p
  have hxl := h.nn.x
  have hn4 := h.n4
  have hpn := fun p hp => (h.p p hp).n
  obtain ⟨accs, props, ins, nxt, pks, decs, steps⟩ := g
  dsimp only at *
  have hinc : IntKind.i64.wrap (steps + 1) = steps + 1 := by rw [IntKind.wrap_i64]; omega
  have hi0 : ¬ ((i : Int) < 0) := by omega
  have hi1 : ¬ ((i : Int) ≥ pks.length) := by omega
  obtain ⟨ks, hks⟩ : ∃ ks, ks = delL pks i := ⟨_, rfl⟩
  rw [← hks] at hlo hdl
  have hT : takeS ⟨accs, props, ins, nxt, pks, decs, steps⟩ i = ⟨accs, props, ins, nxt, ks, decs, steps + 1⟩ := by unfold takeS; rw [hks]
  rw [hT]
  refine pure_of teOk Tryz.func39 (by kernel_rfl) (c := _) rfl (N := 173) rfl (rs := [Go.ResultVar.cell 4 43]) rfl (by simp) fun base A w0 hA => ?_
  refine AW.st teOk [] (by simp [-Option.some.injEq] <;> rfl) trivial ?_
  refine AW.seq ?_
  refine AW.st teOk [] (by simp [hi0, hi1, -Option.some.injEq] <;> rfl) trivial ?_
  refine AW.iff false (by simp) (fun h => by cases h) (fun _ => AW.skip ?_)
  refine AW.st teOk [] (by simp [hk, -Option.some.injEq] <;> rfl) ?_ ?_
  · exact hi
  refine AW.st teOk [.fz (.agg (encGr ⟨accs, props, ins, nxt, ks, decs, steps⟩))] (by simp [-Option.some.injEq] <;> rfl) ?_ ?_
  · exact hlo
  refine AW.st teOk [] (by simp [hinc, -Option.some.injEq] <;> rfl) trivial ?_
  refine AW.to (s2 := ⟨[(1, .c (cI i)), (2, .c (.ptr 0 0 0)), (4, .c (.ptr 1 0 0)), (5, .c (.ptr 2 0 0))], [(0, ⟨7, [encGr ⟨accs, props, ins, nxt, ks, decs, steps + 1⟩]⟩), (1, ⟨7, [nilG]⟩), (2, ⟨5, [encPk k]⟩)], 3⟩) (Weak.normS hA [1, 2, 4, 5] [(2, 0), (4, 1), (5, 2)] [] [] 3 _ (by simp) (by simp) (by simp)) (by simp) ?_
  have hksl : ks.length < 100000000 := by omega
  clear hT hlo hks hi hi0 hi1 hinc hdl
  refine AW.seq ?_
  obtain ⟨kb, kp, ka, kr, kv⟩ := k
  dsimp only at *
  subst hkp
  have hav := (h.a a (List.mem_of_getElem? ha))
  cases kb with
  | false =>
    obtain ⟨j, rfl⟩ : ∃ j : Nat, ka = j := ⟨ka.toNat, by omega⟩
    simp only [Int.toNat_natCast] at ha
    have hjl := (List.getElem?_eq_some_iff.1 ha).1
    have hj := rj4_pure hav hkv
    rw [if_pos rfl, askS]
    simp only [Int.toNat_natCast]
    generalize mergeI true a kv = m at *
    have hset : (accs.map encC).set j [encV m] = (accs.set j m).map encC := set_enc encC accs j m
    have hfl : flatO ⟨1, (accs.map encC).set j [encV m]⟩ = true := by rw [hset]; exact flat_encC _
    have htk := take_all (l := (accs.map encC).set j [encV m]) (n := accs.length) (by simp)
    refine AW.st teOk [] (by simp [-Option.some.injEq] <;> rfl) trivial ?_
    refine AW.iff true (by simp) (fun _ => ?_) (fun h => by cases h)
    refine AW.dr mixed teOk [.c (encV m)] (by simp [ha, -Option.some.injEq] <;> rfl) (by kernel_rfl) (by kernel_rfl) ?_ ?_
    · simp [allP]
      exact ⟨hjl, hj⟩
    refine AW.st teOk [] (by simp [-Option.some.injEq] <;> rfl) ?_ ?_
    · simp [growOk]
      omega
    refine AW.st teOk [] (by simp [ha, -Option.some.injEq] <;> rfl) ?_ ?_
    · exact hjl
    refine AW.st teOk [] (by simp [-Option.some.injEq] <;> rfl) trivial ?_
    refine AW.st teOk [] (by simp [-Option.some.injEq] <;> rfl) trivial ?_
    refine AW.st teOk [] (by simp [-Option.some.injEq] <;> rfl) trivial ?_
    refine AW.to (s2 := ⟨[(2, .c (.ptr 0 0 0)), (4, .c (.ptr 1 0 0)), (5, .c (.ptr 2 0 0))], [(0, ⟨7, [encGr ⟨accs.set j m, props, ins, nxt, ks, decs, steps + 1⟩]⟩), (1, ⟨7, [nilG]⟩), (2, ⟨5, [encPk ⟨true, q, j, kr, m⟩]⟩)], 3⟩) ((Weak.freeze 18 ⟨1, (accs.map encC).set j [encV m]⟩ [0] _ (by simp) hfl).trans (Weak.normS hA [2, 4, 5] [(2, 0), (4, 1), (5, 2)] [] [] 3 _ (by simp) (by simp) (by simp))) (by simp [htk]) ?_
    refine AW.dr mixed teOk [] (by simp [-Option.some.injEq] <;> rfl) (by kernel_rfl) (by kernel_rfl) ?_ ?_
    · simp [allP, growOk]
      omega
    refine AW.st teOk [] (by simp [-Option.some.injEq] <;> rfl) trivial ?_
    refine AW.ret ⟨.inr rfl, _, Weak.freeze 9 ⟨5, (ks ++ [(⟨true, q, j, kr, m⟩ : PkS)]).map encPk⟩ [0, 1] _ (by simp) (flat_encPk _), ?_⟩
    have htk2 := take_all (l := ks.map encPk ++ [[cB true, cI q, cI j, cI kr, encV m]]) (n := ks.length + 1) (by simp)
    simp [htk2]
  | true =>
    rw [if_neg (by simp)]
    have okp := h.ok hN (List.mem_of_getElem? hp)
    have hpw := recvS_W (h.p p (List.mem_of_getElem? hp)) ka kr hkv
    obtain ⟨hll, hlv⟩ := h.i l (List.mem_of_getElem? hl)
    have hrr := rrecv_pure okp ka kr hkv.val (by have := hkv.le; omega)
    have hil := (List.getElem?_eq_some_iff.1 hp).1
    unfold repS
    simp only [Int.toNat_natCast] at *
    obtain ⟨⟨p', again⟩, hr⟩ : ∃ r, r = recvS p ka kr kv := ⟨_, rfl⟩
    rw [← hr] at hrr hpw ⊢
    dsimp only at hrr hpw ⊢
    clear hr
    have hwp := rwithp_pure props q hil (by omega) p'
    have hlp1 : (props.set q p').length ≤ 4 := by rw [List.length_set]; omega
    have hgp0 : (props.set q p')[q]? = some p' := List.getElem?_set_self hil
    obtain ⟨props1, hprops1⟩ : ∃ l, l = props.set q p' := ⟨_, rfl⟩
    rw [← hprops1] at hwp hlp1 hgp0 ⊢
    refine AW.st teOk [] (by simp [-Option.some.injEq] <;> rfl) trivial ?_
    refine AW.iff false (by simp) (fun h => by cases h) (fun _ => AW.skip ?_)
    obtain ⟨g1, hg1⟩ : ∃ g1 : GrS, g1 = ⟨accs, props1, ins, nxt, ks, decs, steps + 1⟩ := ⟨_, rfl⟩
    rw [← hg1]
    refine AW.st teOk [] (by simp [hp, -Option.some.injEq] <;> rfl) ?_ ?_
    · exact hil
    refine AW.st teOk [.fz (.tup [.agg (encPr p'), .c (cB again)])] (by simp [-Option.some.injEq] <;> rfl) ?_ ?_
    · exact hrr
    refine AW.st teOk [.fz (.c (.row 5 false (props1.map encPr')))] (by simp [-Option.some.injEq] <;> rfl) ?_ ?_
    · exact hwp
    refine AW.to (s2 := ⟨[(2, .c (.ptr 0 0 0)), (4, .c (.ptr 1 0 0)), (5, .c (.ptr 2 0 0)), (8, .c (.ptr 3 0 0)), (9, .c (.ptr 4 0 0)), (10, .c (cB again))], [(0, ⟨7, [encGr g1]⟩), (1, ⟨7, [nilG]⟩), (2, ⟨5, [encPk ⟨true, q, ka, kr, kv⟩]⟩), (3, ⟨5, [encPr p]⟩), (4, ⟨5, [encPr p']⟩)], 5⟩) (Weak.normS hA [2, 4, 5, 8, 9, 10] [(2, 0), (4, 1), (5, 2), (8, 3), (9, 4)] [] [] 5 _ (by simp) (by simp) (by simp)) (by simp [hg1]) ?_
    have hpg1 : g1.props[q]? = some p' := by rw [hg1]; exact hgp0
    have hga : g1.accs.length = accs.length := by rw [hg1]
    have hgk : g1.pks.length < 100000000 := by rw [hg1]; exact hksl
    have hgi : g1.ins[q]? = some l := by rw [hg1]; exact hl
    have hgx : g1.nxt[q]? = some x := by rw [hg1]; exact hx
    have hgd : g1.decs.length < 100000000 := by rw [hg1]; show decs.length < _; omega
    have hgp : g1.props.length ≤ 4 := by rw [hg1]; exact hlp1
    have hgn : g1.nxt.length ≤ 4 := by rw [hg1]; show nxt.length ≤ 4; omega
    have hgl : g1.ins.length ≤ 4 := by rw [hg1]; show ins.length ≤ 4; have := h.nn.i; dsimp only at this; omega
    have hp'n := hpw.n
    clear hg1 hwp hrr okp h
    refine AW.seq ?_
    refine AW.st teOk [] (by simp [-Option.some.injEq] <;> rfl) trivial ?_
    cases again with
    | true =>
      refine AW.iff true (by simp) (fun _ => ?_) (fun h => by cases h)
      have hsc := rsend_pure g1 q p' hpg1 (by rw [hga]; exact hp'n) (by omega) (by omega)
      refine AW.st teOk [.fz (.agg (encGr (sendS g1 q p')))] (by simp [-Option.some.injEq] <;> rfl) ?_ ?_
      · exact hsc
      refine AW.ret ⟨.inr rfl, _, Weak.refl _, ?_⟩
      simp
    | false =>
      refine AW.iff false (by simp) (fun h => by cases h) (fun _ => AW.skip ?_)
      refine AW.seq ?_
      rw [if_neg (by simp)]
      by_cases hdc : p'.dec = true ∧ p.dec = false
      · rw [if_pos hdc]
        refine AW.st teOk [] (by simp [hdc.1, hdc.2, -Option.some.injEq] <;> rfl) trivial ?_
        refine AW.iff false (by simp) (fun h => by cases h) (fun _ => AW.skip ?_)
        obtain ⟨y, rfl⟩ : ∃ y : Nat, x = y := ⟨x.toNat, by omega⟩
        simp only [Int.toNat_natCast] at *
        have hiy : IntKind.i64.wrap ((y : Int) + 1) = (y : Int) + 1 := wrap_s _ (by omega)
        have hqn := (List.getElem?_eq_some_iff.1 hgx).1
        have hqi := (List.getElem?_eq_some_iff.1 hgi).1
        obtain ⟨g2, hg2⟩ : ∃ g2, g2 = decS g1 q y p' := ⟨_, rfl⟩
        rw [← hg2]
        refine AW.st teOk [] (by simp [hgx, -Option.some.injEq] <;> rfl) ?_ ?_
        · exact hqn
        refine AW.dr mixed teOk [] (by simp [-Option.some.injEq] <;> rfl) (by kernel_rfl) (by kernel_rfl) ?_ ?_
        · simp [allP, growOk]
          omega
        have htkd := take_all (l := g1.decs.map encDe ++ [[cI q, cI y, encV p'.v, cI g1.steps]]) (n := g1.decs.length + 1) (by simp)
        refine AW.to (s2 := ⟨[(2, .c (.ptr 0 0 0)), (4, .c (.ptr 1 0 0)), (5, .c (.ptr 2 0 0)), (9, .c (.ptr 3 0 0)), (11, .c (cI y))], [(0, ⟨7, [encGr g2]⟩), (1, ⟨7, [nilG]⟩), (2, ⟨5, [encPk ⟨true, q, ka, kr, kv⟩]⟩), (3, ⟨5, [encPr p']⟩)], 4⟩) ((Weak.freeze 33 ⟨4, (g1.decs ++ [(⟨q, y, p'.v, g1.steps⟩ : DeS)]).map encDe⟩ [0] _ (by simp) (flat_encDe _)).trans (Weak.normS hA [2, 4, 5, 9, 11] [(2, 0), (4, 1), (5, 2), (9, 3)] [] [] 4 _ (by simp) (by simp) (by simp))) (by simp [hg2, decS, htkd]) ?_
        have hpg2 : g2.props[q]? = some p' := by rw [hg2]; exact hpg1
        have hgx2 : g2.nxt[q]? = some (y : Int) := by rw [hg2]; exact hgx
        have hgi2 : g2.ins[q]? = some l := by rw [hg2]; exact hgi
        have hga2 : g2.accs.length = accs.length := by rw [hg2]; exact hga
        have hgk2 : g2.pks.length < 100000000 := by rw [hg2]; exact hgk
        have hgp2 : g2.props.length ≤ 4 := by rw [hg2]; exact hgp
        have hgn2 : g2.nxt.length ≤ 4 := by rw [hg2]; exact hgn
        have hqn2 := (List.getElem?_eq_some_iff.1 hgx2).1
        have hqi2 := (List.getElem?_eq_some_iff.1 hgi2).1
        have hqp2 := (List.getElem?_eq_some_iff.1 hpg2).1
        clear hg2 htkd hgd
        obtain ⟨accs2, props2, ins2, nxt2, pks2, decs2, steps2⟩ := g2
        dsimp only at hpg2 hgx2 hgi2 hga2 hgk2 hgp2 hgn2 hqn2 hqi2 hqp2
        refine AW.seq ?_
        by_cases hlast : (y : Int) + 1 ≥ l.length
        · have hv : l[y + 1]? = none := List.getElem?_eq_none (by omega)
          rw [hv]
          refine AW.st teOk [] (by simp [hgi2, hiy, hlast, -Option.some.injEq] <;> rfl) ?_ ?_
          · exact hqi2
          refine AW.iff true (by simp) (fun _ => ?_) (fun h => by cases h)
          refine AW.st teOk [] (by simp [-Option.some.injEq] <;> rfl) trivial ?_
          refine AW.ret ⟨.inr rfl, _, Weak.refl _, ?_⟩
          simp
        · obtain ⟨v, hv⟩ : ∃ v, l[y + 1]? = some v := ⟨_, List.getElem?_eq_getElem (by omega)⟩
          rw [hv]
          dsimp only
          have hyl : y + 1 < l.length := by omega
          have hv4 := hlv v (List.mem_of_getElem? hv)
          have hpw2 := propS_W hpw hv4
          have hpr := rprop_pure (hpw.ok (by omega)) hv4.val (by have := hv4.le; omega)
          have hwp := rwithp_pure props2 q hqp2 (by omega) (propS p' v)
          have hp3 : (props2.set q (propS p' v))[q]? = some (propS p' v) := List.getElem?_set_self hqp2
          have hnx : (nxt2.map encn).set q [cI ((y : Int) + 1)] = (nxt2.set q ((y : Int) + 1)).map encn := set_enc encn nxt2 q ((y : Int) + 1)
          have hnf : flatO ⟨1, (nxt2.map encn).set q [cI ((y : Int) + 1)]⟩ = true := by rw [hnx]; exact flat_encn _
          have htkn := take_all (l := (nxt2.map encn).set q [cI ((y : Int) + 1)]) (n := nxt2.length) (by simp)
          have hsn : nextG ⟨accs2, props2, ins2, nxt2, pks2, decs2, steps2⟩ q y p' v = ⟨accs2, props2.set q (propS p' v), ins2, nxt2.set q ((y : Int) + 1), pks2, decs2, steps2⟩ := rfl
          rw [hsn]
          clear hsn
          obtain ⟨props3, hprops3⟩ : ∃ l, l = props2.set q (propS p' v) := ⟨_, rfl⟩
          obtain ⟨nxt3, hnxt3⟩ : ∃ l, l = nxt2.set q ((y : Int) + 1) := ⟨_, rfl⟩
          rw [← hprops3] at hwp hp3 ⊢
          rw [← hnxt3] at hnx ⊢
          have hsc := rsend_pure ⟨accs2, props3, ins2, nxt3, pks2, decs2, steps2⟩ q (propS p' v) hp3 (by show _ = (accs2.length : Int); rw [hga2]; exact hpw2.n) (by show accs2.length ≤ 12; omega) (by show pks2.length < _; omega)
          obtain ⟨G, hG⟩ : ∃ G, G = sendS ⟨accs2, props3, ins2, nxt3, pks2, decs2, steps2⟩ q (propS p' v) := ⟨_, rfl⟩
          rw [← hG] at hsc ⊢
          clear hprops3 hnxt3 hG
          refine AW.st teOk [] (by simp [hgi2, hiy, hlast, -Option.some.injEq] <;> rfl) ?_ ?_
          · exact hqi2
          refine AW.iff false (by simp) (fun h => by cases h) (fun _ => AW.skip ?_)
          refine AW.to (s2 := ⟨[(2, .c (.ptr 0 0 0)), (4, .c (.ptr 1 0 0)), (5, .c (.ptr 2 0 0)), (9, .c (.ptr 3 0 0)), (11, .c (cI y))], [(0, ⟨7, [encGr ⟨accs2, props2, ins2, nxt2, pks2, decs2, steps2⟩]⟩), (1, ⟨7, [nilG]⟩), (2, ⟨5, [encPk ⟨true, q, ka, kr, kv⟩]⟩), (3, ⟨5, [encPr p']⟩)], 4⟩) (Weak.normS hA [2, 4, 5, 9, 11] [(2, 0), (4, 1), (5, 2), (9, 3)] [] [] 4 _ (by simp) (by simp) (by simp)) (by simp) ?_
          refine AW.st teOk [] (by simp [-Option.some.injEq] <;> rfl) ?_ ?_
          · simp [growOk]
            omega
          refine AW.st teOk [] (by simp [hgx2, hiy, -Option.some.injEq] <;> rfl) ?_ ?_
          · exact hqn2
          refine AW.st teOk [] (by simp [-Option.some.injEq] <;> rfl) trivial ?_
          refine AW.to (s2 := ⟨[(2, .c (.ptr 0 0 0)), (4, .c (.ptr 1 0 0)), (5, .c (.ptr 2 0 0)), (9, .c (.ptr 3 0 0)), (11, .c (cI y))], [(0, ⟨7, [encGr ⟨accs2, props2, ins2, nxt3, pks2, decs2, steps2⟩]⟩), (1, ⟨7, [nilG]⟩), (2, ⟨5, [encPk ⟨true, q, ka, kr, kv⟩]⟩), (3, ⟨5, [encPr p']⟩)], 4⟩) ((Weak.freeze 7 ⟨1, (nxt2.map encn).set q [cI ((y : Int) + 1)]⟩ [0] _ (by simp) hnf).trans (Weak.normS hA [2, 4, 5, 9, 11] [(2, 0), (4, 1), (5, 2), (9, 3)] [] [] 4 _ (by simp) (by simp) (by simp))) (by simp [htkn, ← hnx]) ?_
          refine AW.dr mixed teOk [.agg (encPr (propS p' v)), .c (.row 5 false (props3.map encPr'))] (by simp [hgi2, hv, hiy, -Option.some.injEq] <;> rfl) (by kernel_rfl) (by kernel_rfl) ?_ ?_
          · simp [allP]
            exact ⟨hqi2, by omega, hpr, hwp⟩
          refine AW.st teOk [.fz (.agg (encGr G))] (by simp [-Option.some.injEq] <;> rfl) ?_ ?_
          · exact hsc
          refine AW.ret ⟨.inr rfl, _, Weak.refl _, ?_⟩
          simp
      · rw [if_neg hdc]
        have hor : p'.dec = false ∨ p.dec = true := by
          cases h1 : p'.dec <;> cases h2 : p.dec <;> simp_all
        cases h1 : p'.dec with
        | false =>
          refine AW.st teOk [] (by simp [h1, -Option.some.injEq] <;> rfl) trivial ?_
          refine AW.iff true (by simp) (fun _ => ?_) (fun h => by cases h)
          refine AW.st teOk [] (by simp [-Option.some.injEq] <;> rfl) trivial ?_
          refine AW.ret ⟨.inr rfl, _, Weak.refl _, ?_⟩
          simp
        | true =>
          have h2 : p.dec = true := by rcases hor with h | h; (rw [h1] at h; cases h); exact h
          refine AW.st teOk [] (by simp [h1, h2, -Option.some.injEq] <;> rfl) trivial ?_
          refine AW.iff true (by simp) (fun _ => ?_) (fun h => by cases h)
          refine AW.st teOk [] (by simp [-Option.some.injEq] <;> rfl) trivial ?_
          refine AW.ret ⟨.inr rfl, _, Weak.refl _, ?_⟩
          simp
end Go.Proofs.YtphlhadgcfndhaaGreatDoor.Abs
end
section
namespace Go.Proofs.YtphlhadgcfndhaaGreatDoor.Abs
open Go Go.RowKit
set_option linter.unusedVariables false
set_option linter.unusedSimpArgs false
set_option maxHeartbeats 4000000
theorem rdeliv_pure (g : GrS) {n N : Nat} (h : GrW g n N) (hN : N < 100000000) (i : Int) : Pure Tryz.prog 39 [.agg (encGr g), .c (cI i)] (.agg (encGr (delivZ g i))) := by
  unfold delivZ
  by_cases hi : 0 ≤ i ∧ i < g.pks.length
  · rw [if_pos hi]
    have := rdeliv_in g h hN i.toNat (by omega)
    rwa [show ((i.toNat : Nat) : Int) = i by omega] at this
  · rw [if_neg hi]
    clear h
    obtain ⟨accs, props, ins, nxt, pks, decs, steps⟩ := g
    dsimp only at *
    refine pure_of teOk Tryz.func39 (by kernel_rfl) (c := _) rfl (N := 173) rfl (rs := [Go.ResultVar.cell 4 43]) rfl (by simp) fun base A w0 hA => ?_
    refine AW.st teOk [] (by simp [-Option.some.injEq] <;> rfl) trivial ?_
    refine AW.seq ?_
    by_cases hi0 : i < 0
    · refine AW.st teOk [] (by simp [hi0, -Option.some.injEq] <;> rfl) trivial ?_
      refine AW.iff true (by simp) (fun _ => ?_) (fun h => by cases h)
      refine AW.st teOk [] (by simp [-Option.some.injEq] <;> rfl) trivial ?_
      refine AW.ret ⟨.inr rfl, _, Weak.refl _, ?_⟩
      simp
    · have hi1 : i ≥ pks.length := by omega
      refine AW.st teOk [] (by simp [hi0, hi1, -Option.some.injEq] <;> rfl) trivial ?_
      refine AW.iff true (by simp) (fun _ => ?_) (fun h => by cases h)
      refine AW.st teOk [] (by simp [-Option.some.injEq] <;> rfl) trivial ?_
      refine AW.ret ⟨.inr rfl, _, Weak.refl _, ?_⟩
      simp
end Go.Proofs.YtphlhadgcfndhaaGreatDoor.Abs
end
section
namespace Go.Proofs.YtphlhadgcfndhaaGreatDoor.Abs
open Go Go.RowKit
set_option linter.unusedVariables false
set_option linter.unusedSimpArgs false
set_option maxHeartbeats 4000000
/-- The first proposals of some proposers, from place i on. -/
def pksTo (n : Nat) : Nat → List (List V2) → List PkS
  | _, [] => []
  | i, l :: ls => (if l = [] then [] else propsTo i (newS n (headV l)) n) ++ pksTo n (i + 1) ls
theorem pksTo_app (n : Nat) (l : List V2) : ∀ (i : Nat) (ls : List (List V2)), pksTo n i (ls ++ [l]) = pksTo n i ls ++ (if l = [] then [] else propsTo (i + ls.length) (newS n (headV l)) n)
  | i, [] => by simp [pksTo]
  | i, x :: ls => by
    rw [List.cons_append, pksTo, pksTo, pksTo_app n l (i + 1) ls, List.append_assoc, List.length_cons, show i + 1 + ls.length = i + (ls.length + 1) by omega]
theorem newG_pks (n : Nat) : ∀ (ls : List (List V2)) (g : GrS), (ls.foldl (addS n) g).pks = g.pks ++ pksTo n g.props.length ls
  | [], g => by simp [pksTo]
  | l :: ls, g => by
    rw [List.foldl_cons, newG_pks n ls, pksTo]
    by_cases hl : l = []
    · simp [addS, hl]
    · have hn : (newS n (headV l)).n.toNat = n := by show ((n : Int)).toNat = n; omega
      simp [addS, hl, sendS, hn, List.append_assoc]
def base0 (n : Nat) (ins : List (List V2)) : GrS := ⟨List.replicate n [], ins.map fun l => newS n (headV l), ins, List.replicate ins.length 0, [], [], 0⟩
theorem newG_is (n : Nat) (ins : List (List V2)) : newG n ins = { base0 n ins with pks := pksTo n 0 ins } := by
  have h := new_is n ins
  have hp : (newG n ins).pks = pksTo n 0 ins := by
    unfold newG
    rw [newG_pks]
    rfl
  obtain ⟨h1, h2, h3, h4, h5, h6, _, _, _, _⟩ := h
  generalize newG n ins = G at *
  obtain ⟨accs, props, ins', nxt, pks, decs, steps⟩ := G
  dsimp only at h1 h2 h3 h4 h5 h6 hp
  subst h1 h2 h3 h4 h5 h6 hp
  rfl
theorem pksTo_len (n : Nat) : ∀ (i : Nat) (ls : List (List V2)), (pksTo n i ls).length ≤ n * ls.length
  | _, [] => by simp [pksTo]
  | i, l :: ls => by
    have := pksTo_len n (i + 1) ls
    rw [pksTo, List.length_append, List.length_cons, Nat.mul_succ]
    split
    · simp; omega
    · rw [propsTo_len]; omega
abbrev nilCg : List Cell := [.sc (.slice none 0 0)]
theorem flat_nil (n : Nat) : flatO ⟨1, List.replicate n nilCg⟩ = true := flatO_of fun e he => by rw [(List.mem_replicate.1 he).2]; rfl
theorem nil_le (n : Nat) : ∀ (i : Nat) (e e' : List Cell), (List.replicate n nilCg)[i]? = some e → ((List.replicate n ([] : V2)).map encC)[i]? = some e' → LeCs e e' := fun i e e' he he' => by
  rw [(List.mem_replicate.1 (List.mem_of_getElem? he)).2]
  rw [List.map_replicate] at he'
  rw [(List.mem_replicate.1 (List.mem_of_getElem? he')).2]
  exact .cons (nil_cell 2) .nil
theorem rnew_pure (n : Nat) (hn : 1 ≤ n ∧ n ≤ 12) (ins : List (List V2)) (hi : InsOk ins) : Pure Tryz.prog 23 [.c (cI n), .c (.row 1 false (ins.map encIn))] (.agg (encGr (newG n ins))) := by
  have hil := hi.len
  refine pure_of teOk Tryz.func23 (by kernel_rfl) (c := _) rfl (N := 70) rfl (rs := [Go.ResultVar.cell 4 43]) rfl (by simp) fun base A w0 hA => ?_
  refine AW.st teOk [] (by simp [-Option.some.injEq] <;> rfl) trivial ?_
  refine AW.st teOk [] (by simp [-Option.some.injEq] <;> rfl) trivial ?_
  refine AW.to (s2 := ⟨[(0, .c (cI n)), (1, .c (.row 1 false (ins.map encIn))), (4, .c (.ptr 0 0 0)), (5, .c (.ptr 1 0 0))], [(0, ⟨7, [nilG]⟩), (1, ⟨7, [[.ref 2 0 0, .ref 3 0 0, .row 1 false (ins.map encIn), .ref 4 0 0, .ref 5 0 0, .ref 6 0 0, cI 0]]⟩), (2, ⟨1, []⟩), (3, ⟨5, []⟩), (4, ⟨1, []⟩), (5, ⟨5, []⟩), (6, ⟨4, []⟩)], 7⟩) (((Weak.nilP 5 0 1 _ (by simp [putA] <;> rfl) (by simp [putA] <;> exact ⟨rfl, rfl⟩) rfl (by simp)).trans ((Weak.nilP 5 1 5 _ (by simp [putA] <;> rfl) (by simp [putA] <;> exact ⟨rfl, rfl⟩) rfl (by simp)).trans ((Weak.nilP 5 3 1 _ (by simp [putA] <;> rfl) (by simp [putA] <;> exact ⟨rfl, rfl⟩) rfl (by simp)).trans ((Weak.nilP 5 4 5 _ (by simp [putA] <;> rfl) (by simp [putA] <;> exact ⟨rfl, rfl⟩) rfl (by simp)).trans (Weak.nilP 5 5 4 _ (by simp [putA] <;> rfl) (by simp [putA] <;> exact ⟨rfl, rfl⟩) rfl (by simp)))))).trans (Weak.normS hA [0, 1, 4, 5] [(4, 0), (5, 1)] [(5, 2), (6, 3), (7, 4), (8, 5), (9, 6)] [3] 7 _ (by simp [putA]) (by simp [putA]) (by simp [putA]))) (by simp [putA]) ?_
  refine AW.mid (fun s => s = ⟨[(0, .c (cI n)), (1, .c (.row 1 false (ins.map encIn))), (4, .c (.ptr 0 0 0)), (5, .c (.ptr 1 0 0))], [(0, ⟨7, [nilG]⟩), (1, ⟨7, [[.ref 2 0 n, .ref 3 0 0, .row 1 false (ins.map encIn), .ref 4 0 0, .ref 5 0 0, .ref 6 0 0, cI 0]]⟩), (2, ⟨1, List.replicate n [encV []]⟩), (3, ⟨5, []⟩), (4, ⟨1, []⟩), (5, ⟨5, []⟩), (6, ⟨4, []⟩)], 7⟩) ?_ ?_
  · refine AW.st teOk [] (by simp [-Option.some.injEq] <;> rfl) trivial ?_
    refine AW.block (AW.loop (fun m s => ∃ j : Nat, j ≤ n ∧ m = n - j ∧ s = ⟨[(0, .c (cI n)), (1, .c (.row 1 false (ins.map encIn))), (4, .c (.ptr 0 0 0)), (5, .c (.ptr 1 0 0)), (6, .c (cI j))], [(0, ⟨7, [nilG]⟩), (1, ⟨7, [[.ref 2 0 j, .ref 3 0 0, .row 1 false (ins.map encIn), .ref 4 0 0, .ref 5 0 0, .ref 6 0 0, cI 0]]⟩), (2, ⟨1, List.replicate j nilCg⟩), (3, ⟨5, []⟩), (4, ⟨1, []⟩), (5, ⟨5, []⟩), (6, ⟨4, []⟩)], 7⟩) _ (Weak.normS hA [0, 1, 4, 5, 6] [(4, 0), (5, 1)] [(2, 2), (3, 3), (4, 4), (5, 5), (6, 6)] [1] 7 _ (by simp) (by simp) (by simp)) ⟨0, Nat.zero_le _, rfl, by simp⟩ ?_)
    rintro m s ⟨j, hj, rfl, rfl⟩
    have hrs : List.replicate (j + 1) nilCg = List.replicate j nilCg ++ [nilCg] := List.replicate_succ'
    have hinc : IntKind.i64.wrap ((j : Int) + 1) = (j : Int) + 1 := wrap_s _ (by omega)
    have hfl := flat_nil (j + 1)
    rw [hrs] at hfl
    refine AW.seq ?_
    refine AW.st teOk [] (by simp [-Option.some.injEq] <;> rfl) trivial ?_
    refine AW.iff (decide (j < n)) (by simp) (fun h => AW.skip ?_) (fun h => AW.exit (x_then (x_then (blockA_exit ?_))))
    · rw [decide_eq_true_eq] at h
      refine AW.seq (AW.block ?_)
      refine AW.text teOk (ans := []) (by simp [-Option.some.injEq] <;> rfl) ?_ ?_
      · simp [growOk]
        omega
      refine AW.text teOk (ans := []) (by simp [-Option.some.injEq] <;> rfl) ?_ ?_
      · trivial
      refine ⟨_, _, Weak.normS hA [0, 1, 4, 5, 6] [(4, 0), (5, 1)] [(13, 2), (3, 3), (4, 4), (5, 5), (6, 6)] [1] 7 _ (by simp) (by simp) (by simp [hfl]), ?_, j + 1, h, rfl, ?_⟩
      · omega
      · rw [hrs]
        simp [hinc]
    have hje : j = n := by
      rw [decide_eq_false_iff_not] at h
      omega
    subst hje
    have hf1 : flatO ⟨1, List.replicate j [encV []]⟩ = true := flatO_of fun e he => by rw [(List.mem_replicate.1 he).2]; rfl
    refine ⟨_, (Weak.leO 2 _ (o := ⟨1, List.replicate j nilCg⟩) (o' := ⟨1, List.replicate j [encV []]⟩) (by simp) rfl (by simp) (fun i e e' he he' => ?_)).trans (Weak.normS hA [0, 1, 4, 5] [(4, 0), (5, 1)] [(2, 2), (3, 3), (4, 4), (5, 5), (6, 6)] [1] 7 _ (by simp [putA]) (by simp [putA]) (by simp [putA]; exact hf1)), by simp [putA]⟩
    rw [(List.mem_replicate.1 (List.mem_of_getElem? he)).2, (List.mem_replicate.1 (List.mem_of_getElem? he')).2]
    exact .cons (nil_cell 2) .nil
  rintro s rfl
  have hf1 : flatO ⟨1, List.replicate n [encV []]⟩ = true := flatO_of fun e he => by rw [(List.mem_replicate.1 he).2]; rfl
  refine AW.mid (fun s => s = ⟨[(1, .c (.row 1 false (ins.map encIn))), (4, .c (.ptr 0 0 0)), (5, .c (.ptr 1 0 0))], [(0, ⟨7, [nilG]⟩), (1, ⟨7, [encGr (base0 n ins)]⟩)], 2⟩) ?_ ?_
  · refine AW.st teOk [] (by simp [-Option.some.injEq] <;> rfl) trivial ?_
    refine AW.block (AW.loop (fun m s => ∃ done rest, m = rest.length ∧ ins = done ++ rest ∧ s = ⟨[(0, .c (cI n)), (1, .c (.row 1 false (ins.map encIn))), (4, .c (.ptr 0 0 0)), (5, .c (.ptr 1 0 0)), (7, .c (cI done.length))], [(0, ⟨7, [nilG]⟩), (1, ⟨7, [[.ref 2 0 n, .ref 3 0 done.length, .row 1 false (ins.map encIn), .ref 4 0 done.length, .ref 5 0 0, .ref 6 0 0, cI 0]]⟩), (2, ⟨1, List.replicate n [encV []]⟩), (3, ⟨5, (done.map fun l => newS n (headV l)).map encPr'⟩), (4, ⟨1, (List.replicate done.length 0).map encn⟩), (5, ⟨5, []⟩), (6, ⟨4, []⟩)], 7⟩) _ (Weak.normS hA [0, 1, 4, 5, 7] [(4, 0), (5, 1)] [(2, 2), (3, 3), (4, 4), (5, 5), (6, 6)] [1] 7 _ (by simp) (by simp) (by simp [hf1])) ⟨[], ins, rfl, rfl, by simp⟩ ?_)
    rintro m s ⟨done, rest, rfl, hdr, rfl⟩
    have hlen : ins.length = done.length + rest.length := by rw [hdr, List.length_append]
    obtain ⟨P, hP⟩ : ∃ P, P = done.map fun l => newS n (headV l) := ⟨_, rfl⟩
    obtain ⟨Z, hZ⟩ : ∃ Z, Z = List.replicate done.length (0 : Int) := ⟨_, rfl⟩
    rw [← hP, ← hZ]
    have hPl : P.length = done.length := by rw [hP, List.length_map]
    have hZl : Z.length = done.length := by rw [hZ, List.length_replicate]
    refine AW.seq ?_
    refine AW.st teOk [] (by simp [-Option.some.injEq] <;> rfl) trivial ?_
    refine AW.iff (decide (done.length < ins.length)) (by simp) (fun h => AW.skip ?_) (fun h => AW.exit (x_then (x_then (blockA_exit ?_))))
    · rw [decide_eq_true_eq] at h
      cases rest with
      | nil => simp at hlen; omega
      | cons l rest =>
      have hx : ins[done.length]? = some l := by rw [hdr]; simp
      have hinc : IntKind.i64.wrap ((done.length : Int) + 1) = (done.length : Int) + 1 := wrap_s _ (by omega)
      have hP2 : (done ++ [l]).map (fun l => newS n (headV l)) = P ++ [newS n (headV l)] := by rw [hP, List.map_append]; rfl
      have hZ2 : List.replicate (done ++ [l]).length (0 : Int) = Z ++ [0] := by rw [List.length_append, List.length_singleton, hZ]; exact List.replicate_succ'
      refine AW.mid (fun s => s = ⟨[(0, .c (cI n)), (1, .c (.row 1 false (ins.map encIn))), (4, .c (.ptr 0 0 0)), (5, .c (.ptr 1 0 0)), (7, .c (cI done.length))], [(0, ⟨7, [nilG]⟩), (1, ⟨7, [[.ref 2 0 n, .ref 3 0 (done.length + 1), .row 1 false (ins.map encIn), .ref 4 0 (done.length + 1), .ref 5 0 0, .ref 6 0 0, cI 0]]⟩), (2, ⟨1, List.replicate n [encV []]⟩), (3, ⟨5, (P ++ [newS n (headV l)]).map encPr'⟩), (4, ⟨1, (Z ++ [0]).map encn⟩), (5, ⟨5, []⟩), (6, ⟨4, []⟩)], 7⟩) (AW.block ?_) ?_
      · refine AW.st teOk [] (by simp [-Option.some.injEq] <;> rfl) trivial ?_
        refine AW.mid (fun s => s = ⟨[(0, .c (cI n)), (1, .c (.row 1 false (ins.map encIn))), (4, .c (.ptr 0 0 0)), (5, .c (.ptr 1 0 0)), (7, .c (cI done.length)), (8, .c (.ptr 7 0 0))], [(0, ⟨7, [nilG]⟩), (1, ⟨7, [[.ref 2 0 n, .ref 3 0 done.length, .row 1 false (ins.map encIn), .ref 4 0 done.length, .ref 5 0 0, .ref 6 0 0, cI 0]]⟩), (2, ⟨1, List.replicate n [encV []]⟩), (3, ⟨5, P.map encPr'⟩), (4, ⟨1, Z.map encn⟩), (5, ⟨5, []⟩), (6, ⟨4, []⟩), (7, ⟨5, [encPr (newS n (headV l))]⟩)], 8⟩) ?_ ?_
        · cases l with
          | nil =>
            refine AW.st teOk [] (by simp [hx, -Option.some.injEq] <;> rfl) ?_ ?_
            · exact h
            refine AW.iff false (by simp) (fun h => by cases h) (fun _ => AW.skip ?_)
            refine ⟨_, (Weak.leP 8 _ (o := ⟨5, [[cI n, .sc (.slice none 0 0), cI 1, .sc (.slice none 0 0), cB false]]⟩) ⟨5, [encPr (newS n (headV []))]⟩ (by simp <;> exact ⟨rfl, rfl, rfl⟩) (by simp) rfl rfl (one_le (.cons (.refl _) (.cons (nil_cell 2) (.cons (.refl _) (.cons (nil_cell 1) (.cons (.refl _) .nil))))))).trans (Weak.normS hA [0, 1, 4, 5, 7, 8] [(4, 0), (5, 1), (8, 7)] [(2, 2), (3, 3), (4, 4), (5, 5), (6, 6)] [1] 8 _ (by simp [putA]) (by simp [putA]) (by simp [putA, hf1])), by simp [putA]⟩
          | cons v l =>
            refine AW.st teOk [] (by simp [hx, -Option.some.injEq] <;> rfl) ?_ ?_
            · exact h
            refine AW.iff true (by simp) (fun _ => ?_) (fun h => by cases h)
            refine AW.text teOk (ans := []) (by simp [hx, -Option.some.injEq] <;> rfl) ?_ ?_
            · exact h
            refine ⟨_, (Weak.leP 8 _ (o := ⟨5, [[cI n, encV v, cI 1, .sc (.slice none 0 0), cB false]]⟩) ⟨5, [encPr (newS n (headV (v :: l)))]⟩ (by simp <;> exact ⟨rfl, rfl, rfl⟩) (by simp) rfl rfl (one_le (.cons (.refl _) (.cons (.refl _) (.cons (.refl _) (.cons (nil_cell 1) (.cons (.refl _) .nil))))))).trans (Weak.normS hA [0, 1, 4, 5, 7, 8] [(4, 0), (5, 1), (8, 7)] [(2, 2), (3, 3), (4, 4), (5, 5), (6, 6)] [1] 8 _ (by simp [putA]) (by simp [putA]) (by simp [putA, hf1])), by simp [putA]⟩
        rintro s rfl
        refine AW.st teOk [] (by simp [-Option.some.injEq] <;> rfl) ?_ ?_
        · simp [growOk]
          omega
        refine AW.text teOk (ans := []) (by simp [-Option.some.injEq] <;> rfl) ?_ ?_
        · simp [growOk]
          omega
        exact ⟨_, Weak.normS hA [0, 1, 4, 5, 7] [(4, 0), (5, 1)] [(2, 2), (12, 3), (18, 4), (5, 5), (6, 6)] [1] 7 _ (by simp) (by simp) (by simp [hf1]), by simp⟩
      rintro s rfl
      refine AW.text teOk (ans := []) (by simp [-Option.some.injEq] <;> rfl) ?_ ?_
      · trivial
      refine ⟨_, _, Weak.normS hA [0, 1, 4, 5, 7] [(4, 0), (5, 1)] [(2, 2), (3, 3), (4, 4), (5, 5), (6, 6)] [1] 7 _ (by simp) (by simp) (by simp [hf1]), ?_, done ++ [l], rest, rfl, by rw [hdr, List.append_assoc]; rfl, ?_⟩
      · simp
      · rw [hP2, hZ2]
        simp [hinc]
    have hend : done = ins := by
      rw [decide_eq_false_iff_not] at h
      have : rest = [] := List.eq_nil_of_length_eq_zero (by omega)
      rw [hdr, this, List.append_nil]
    have hb : base0 n ins = ⟨List.replicate n [], P, ins, Z, [], [], 0⟩ := by rw [hP, hZ, hend]; rfl
    rw [hb]
    have hPl2 : P.length = ins.length := by rw [hPl, hend]
    have hZl2 : Z.length = ins.length := by rw [hZl, hend]
    rw [hend]
    have htP := take_all (l := P.map encPr') (n := ins.length) (by simp [hPl2])
    have htZ := take_all (l := Z.map encn) (n := ins.length) (by simp [hZl2])
    refine ⟨_, (Weak.freeze 2 ⟨1, List.replicate n [encV []]⟩ [1] _ (by simp) hf1).trans ((Weak.freeze 3 ⟨5, P.map encPr'⟩ [1] _ (by simp) (by simp)).trans ((Weak.freeze 4 ⟨1, Z.map encn⟩ [1] _ (by simp) (by simp)).trans ((Weak.freeze 5 ⟨5, []⟩ [1] _ (by simp) (by simp)).trans ((Weak.freeze 6 ⟨4, []⟩ [1] _ (by simp) (by simp)).trans (Weak.normS hA [1, 4, 5] [(4, 0), (5, 1)] [] [] 2 _ (by simp) (by simp) (by simp [hPl2, hZl2])))))), by simp [hPl2, hZl2, htP, htZ]⟩
  rintro s rfl
  have hba : (base0 n ins).accs.length = n := List.length_replicate
  have hbp : ∀ (i : Nat) (l : List V2), ins[i]? = some l → (base0 n ins).props[i]? = some (newS n (headV l)) := fun i l hl => by
    show (ins.map fun l => newS n (headV l))[i]? = _
    rw [List.getElem?_map, hl]
    rfl
  have hnew := newG_is n ins
  have hb0 : base0 n ins = { base0 n ins with pks := pksTo n 0 [] } := rfl
  rw [hnew]
  generalize base0 n ins = B at *
  refine AW.seq ?_
  refine AW.st teOk [] (by simp [-Option.some.injEq] <;> rfl) trivial ?_
  refine AW.block (AW.loop (fun m s => ∃ done rest, m = rest.length ∧ ins = done ++ rest ∧ s = ⟨[(1, .c (.row 1 false (ins.map encIn))), (4, .c (.ptr 0 0 0)), (5, .c (.ptr 1 0 0)), (9, .c (cI done.length))], [(0, ⟨7, [nilG]⟩), (1, ⟨7, [encGr { B with pks := pksTo n 0 done }]⟩)], 2⟩) _ (Weak.normS hA [1, 4, 5, 9] [(4, 0), (5, 1)] [] [] 2 _ (by simp) (by simp) (by simp)) ⟨[], ins, rfl, rfl, by rw [← hb0]; simp⟩ ?_)
  rintro m s ⟨done, rest, rfl, hdr, rfl⟩
  have hlen : ins.length = done.length + rest.length := by rw [hdr, List.length_append]
  have hpl := pksTo_len n 0 done
  have hpm : n * done.length ≤ 12 * 4 := Nat.mul_le_mul hn.2 (by omega)
  have happ := fun l => pksTo_app n l 0 done
  obtain ⟨K, hK⟩ : ∃ K, K = pksTo n 0 done := ⟨_, rfl⟩
  rw [← hK] at hpl happ ⊢
  refine AW.seq ?_
  refine AW.st teOk [] (by simp [-Option.some.injEq] <;> rfl) trivial ?_
  refine AW.iff (decide (done.length < ins.length)) (by simp) (fun h => AW.skip ?_) (fun h => AW.exit (x_then (x_then (blockA_exit ?_))))
  · rw [decide_eq_true_eq] at h
    cases rest with
    | nil => simp at hlen; omega
    | cons l rest =>
    have hx : ins[done.length]? = some l := by rw [hdr]; simp
    have hinc : IntKind.i64.wrap ((done.length : Int) + 1) = (done.length : Int) + 1 := wrap_s _ (by omega)
    have happ := happ l
    refine AW.mid (fun s => s = ⟨[(1, .c (.row 1 false (ins.map encIn))), (4, .c (.ptr 0 0 0)), (5, .c (.ptr 1 0 0)), (9, .c (cI done.length))], [(0, ⟨7, [nilG]⟩), (1, ⟨7, [encGr { B with pks := pksTo n 0 (done ++ [l]) }]⟩)], 2⟩) (AW.block ?_) ?_
    · by_cases hl : l = []
      · rw [happ, if_pos hl, List.append_nil]
        subst hl
        refine AW.st teOk [] (by simp [hx, -Option.some.injEq] <;> rfl) ?_ ?_
        · exact h
        refine AW.iff false (by simp) (fun h => by cases h) (fun _ => AW.skip ?_)
        exact ⟨_, Weak.normS hA [1, 4, 5, 9] [(4, 0), (5, 1)] [] [] 2 _ (by simp) (by simp) (by simp), by simp⟩
      · have hsc := rsend_pure { B with pks := K } done.length (newS n (headV l)) (hbp _ l hx) (by show (n : Int) = (B.accs.length : Int); rw [hba]) (by show B.accs.length ≤ 12; omega) (by show K.length < _; omega)
        have hG : sendS { B with pks := K } done.length (newS n (headV l)) = { B with pks := pksTo n 0 (done ++ [l]) } := by
          rw [happ, if_neg hl, Nat.zero_add]
          unfold sendS
          rw [show (newS n (headV l)).n.toNat = n by show ((n : Int)).toNat = n; omega]
        rw [hG] at hsc
        generalize pksTo n 0 (done ++ [l]) = K2 at *
        have hl1 : ¬ ((l.length : Int) = 0) := by have := List.length_pos_iff.2 hl; omega
        have hl2 : 0 < l.length := List.length_pos_iff.2 hl
        refine AW.st teOk [] (by simp [hx, -Option.some.injEq] <;> rfl) ?_ ?_
        · exact h
        refine AW.iff true (by simp [hl2]) (fun _ => ?_) (fun h => by cases h)
        refine AW.text teOk (ans := [.fz (.agg (encGr { B with pks := K2 }))]) (by simp [-Option.some.injEq] <;> rfl) ?_ ?_
        · exact hsc
        exact ⟨_, Weak.normS hA [1, 4, 5, 9] [(4, 0), (5, 1)] [] [] 2 _ (by simp) (by simp) (by simp), by simp⟩
    rintro s rfl
    refine AW.text teOk (ans := []) (by simp [-Option.some.injEq] <;> rfl) ?_ ?_
    · trivial
    refine ⟨_, _, Weak.normS hA [1, 4, 5, 9] [(4, 0), (5, 1)] [] [] 2 _ (by simp) (by simp) (by simp), ?_, done ++ [l], rest, rfl, by rw [hdr, List.append_assoc]; rfl, ?_⟩
    · simp
    · simp [hinc]
  have hend : done = ins := by
    rw [decide_eq_false_iff_not] at h
    have : rest = [] := List.eq_nil_of_length_eq_zero (by omega)
    rw [hdr, this, List.append_nil]
  rw [hend] at hK
  rw [← hK]
  refine AW.st teOk [] (by simp [-Option.some.injEq] <;> rfl) trivial ?_
  refine AW.ret ⟨.inr rfl, _, Weak.refl _, ?_⟩
  simp
end Go.Proofs.YtphlhadgcfndhaaGreatDoor.Abs
end
