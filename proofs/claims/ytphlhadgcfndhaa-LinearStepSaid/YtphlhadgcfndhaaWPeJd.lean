/- The reference's Step. -/
import Derived.Test.YtphlhadgcfndhaaJd11
import Derived.Test.YtphlhadgcfndhaaJd5
namespace Go.Proofs.Ytphlhadgcfndhaa.Abs
open Go Go.RowKit
set_option linter.unusedVariables false
set_option linter.unusedSimpArgs false
set_option maxHeartbeats 4000000
set_option maxRecDepth 8000
abbrev toV (vs : List HV) (l : List EfS) (i : Nat) : List HV := (l.take i).foldl applyV vs
theorem toV_succ (vs : List HV) (l : List EfS) {i : Nat} {e : EfS} (h : l[i]? = some e) : toV vs l (i + 1) = applyV (toV vs l i) e := by
  unfold toV
  rw [List.take_add_one, h, List.foldl_append]
  rfl
theorem toV_ok (vs : List HV) (l : List EfS) (hv : AscH vs) (hel : ElOk 100000 vs) (hl : vs.length < 100000) : ∀ i, i ≤ l.length → AscH (toV vs l i) ∧ ElOk (100000 + i) (toV vs l i) ∧ (toV vs l i).length ≤ vs.length + i
  | 0, _ => ⟨hv, hel, Nat.le_refl _⟩
  | i + 1, hi => by
    obtain ⟨h1, h2, h3⟩ := toV_ok vs l hv hel hl i (by omega)
    rw [toV_succ vs l (List.getElem?_eq_getElem (by omega))]
    refine ⟨applyV_asc h1 _, applyV_el h2 _, ?_⟩
    have := applyV_len (toV vs l i) l[i]
    omega
theorem place_get' (l : List HV) (k : Ky) : ∃ x, (placeV l k)[posH l k]? = some x := by
  obtain ⟨x, hx, _⟩ := place_get (l.map fun v => (v, none)) k
  have e : (l.map fun v : HV => ((v, none) : OV)).map Prod.fst = l := by rw [List.map_map]; exact List.map_id _
  rw [e] at hx
  refine ⟨x.1, ?_⟩
  have := congrArg (fun q => q[posH l k]?) (placeO_fst (l.map fun v => (v, none)) k)
  simp only [e, List.getElem?_map, hx] at this
  exact this.symm
theorem rstep_pure (vs : List HV) (o : OpS) (hv : AscH vs) (hel : ElOk 100000 vs) (hl : vs.length < 100000) (hef : o.ef.length < 100000) (hk : o.kind = 1 ∨ o.kind = 2 ∨ o.kind = 3) (hb : ElB vs) : Pure Try.prog 6 [.c (encHs vs), .agg (encOp o)] (.tup [.c (encHs (stepV vs o)), .c (cB (okV vs o))]) := by
  refine pure_of teOk Try.func6 (by kernel_rfl) (c := _) rfl (N := 102) rfl (rs := [Go.ResultVar.tmp 4, Go.ResultVar.tmp 5]) rfl (by simp) fun base A w0 hA => ?_
  refine AW.st teOk [] (by simp [-Option.some.injEq] <;> rfl) trivial ?_
  refine AW.to (s2 := ⟨[(0, .c (encHs vs)), (3, .c (.fad (encOp o)))], [], 0⟩) ((Weak.freeze 0 ⟨6, [encOp o]⟩ [] _ (by simp) rfl).trans (Weak.normT hA [0, 3] [] [] 0 _ (by simp) (by simp) (by simp [mapAt_nil]))) (by simp [mapAt_nil]) ?_
  refine AW.mid (fun s => s = ⟨[(0, .c (encHs vs)), (3, .c (.fad (encOp o))), (6, .c (.ref 0 0 vs.length))], [(0, ⟨10, vs.map encH⟩)], 1⟩) ?_ ?_
  · refine AW.text teOk (ans := []) (by simp [-Option.some.injEq] <;> rfl) ?_ ?_
    · simp [growOk]
      omega
    exact ⟨_, Weak.normT hA [0, 3, 6] [(6, 0)] [] 1 _ (by simp) (by simp) (by simp), by simp⟩
  rintro s rfl
  have hsame := sameVr_pure vs o.res (by omega) hb
  have hid : (vs.map encH).take vs.length = vs.map encH := List.take_of_length_le (by rw [List.length_map]; exact Nat.le_refl _)
  rcases hk with hk | hk | hk
  · refine AW.mid (fun s => s = ⟨[(3, .c (.fad (encOp o))), (6, .c (.ref 0 0 vs.length))], [(0, ⟨10, vs.map encH⟩)], 1⟩) ?_ ?_
    · refine AW.st teOk [] (by simp [-Option.some.injEq] <;> rfl) trivial ?_
      refine AW.block ?_
      refine AW.st teOk [] (by simp [hk, -Option.some.injEq] <;> rfl) trivial ?_
      refine AW.iff false (by simp) (fun h => by cases h) (fun _ => ?_)
      refine AW.st teOk [] (by simp [hk, -Option.some.injEq] <;> rfl) trivial ?_
      refine AW.iff false (by simp) (fun h => by cases h) (fun _ => AW.skip ?_)
      exact ⟨_, Weak.normT hA [3, 6] [(6, 0)] [] 1 _ (by simp) (by simp) (by simp), by simp [hk]⟩
    rintro s rfl
    have hst : stepV vs o = toV vs o.ef o.ef.length := by unfold stepV toV; rw [if_pos hk, List.take_length]
    have hok : okV vs o = true := by unfold okV; rw [if_neg (by omega)]
    rw [hst, hok]
    refine AW.seq ?_
    refine AW.st teOk [] (by simp [-Option.some.injEq] <;> rfl) trivial ?_
    refine AW.block (AW.loop (fun m s => ∃ i : Nat, m = o.ef.length - i ∧ i ≤ o.ef.length ∧ s = ⟨[(3, .c (.fad (encOp o))), (6, .c (.ref 0 0 (toV vs o.ef i).length)), (7, .c (cI i))], [(0, ⟨10, (toV vs o.ef i).map encH⟩)], 1⟩) _ (Weak.normT hA [3, 6, 7] [(6, 0)] [] 1 _ (by simp) (by simp) (by simp)) ⟨0, rfl, Nat.zero_le _, by simp; exact ⟨rfl, rfl⟩⟩ ?_)
    rintro m s ⟨i, rfl, hi, rfl⟩
    obtain ⟨ha1, ha2, ha3⟩ := toV_ok vs o.ef hv hel hl i hi
    refine AW.seq ?_
    refine AW.st teOk [] (by simp [-Option.some.injEq] <;> rfl) trivial ?_
    refine AW.iff (decide (i < o.ef.length)) (by simp) (fun h => AW.skip ?_) (fun h => AW.exit (x_then (x_then (blockA_exit ?_))))
    · rw [decide_eq_true_eq] at h
      obtain ⟨e, he⟩ : ∃ e, o.ef[i]? = some e := ⟨_, List.getElem?_eq_getElem h⟩
      have hnx := toV_succ vs o.ef he
      obtain ⟨W, hW⟩ : ∃ W, W = toV vs o.ef i := ⟨_, rfl⟩
      rw [← hW] at ha1 ha2 ha3 hnx ⊢
      refine AW.mid (fun s => s = ⟨[(3, .c (.fad (encOp o))), (6, .c (.ref 0 0 (applyV W e).length)), (7, .c (cI i))], [(0, ⟨10, (applyV W e).map encH⟩)], 1⟩) (AW.block ?_) ?_
      · refine AW.st teOk [] (by simp [he, -Option.some.injEq] <;> rfl) ?_ ?_
        · first | trivial | omega | (simp; omega)
        refine AW.to (s2 := ⟨[(3, .c (.fad (encOp o))), (6, .c (.ref 0 0 W.length)), (7, .c (cI i)), (8, .c (.fad (encE' e)))], [(0, ⟨10, W.map encH⟩)], 1⟩) ((Weak.freeze 11 ⟨5, [encE' e]⟩ [] _ (by simp) rfl).trans (Weak.normT hA [3, 6, 7, 8] [(6, 0)] [] 1 _ (by simp) (by simp) (by simp))) (by simp) ?_
        refine AW.st teOk [] (by simp [-Option.some.injEq] <;> rfl) trivial ?_
        obtain ⟨p, hp⟩ : ∃ p, p = posH W e.k := ⟨_, rfl⟩
        obtain ⟨x, hx⟩ := place_get' W e.k
        rw [← hp] at hx
        obtain ⟨P, hP⟩ : ∃ P, P = placeV W e.k := ⟨_, rfl⟩
        rw [← hP] at hx
        have hap : applyV W e = P.set p (updV x e) := by unfold applyV setAt; rw [← hP, ← hp, hx]
        rw [hap]
        refine AW.mid (fun s => s = ⟨[(3, .c (.fad (encOp o))), (6, .c (.ref 0 0 P.length)), (7, .c (cI i)), (8, .c (.fad (encE' e))), (9, .c (cI p))], [(0, ⟨10, P.map encH⟩)], 1⟩) ?_ ?_
        · cases hh : hasH W e.k with
          | true =>
            have hPW : P = W := by rw [hP]; unfold placeV; rw [if_pos hh]
            subst hPW
            refine AW.text teOk (ans := [.sem (.tup [.c (.ref 0 0 P.length), .c (cI p)]) [(0, ⟨10, P.map encH⟩)] 100]) (by simp [-Option.some.injEq] <;> rfl) ?_ ?_
            · exact SemC.of0 (at_con P e.o e.f ha1 (by omega) _ _ _ (.inl ⟨hh, by rw [hp], rfl, rfl⟩)) rfl (Nat.le_of_ble_eq_true rfl)
            exact ⟨_, Weak.normT hA [3, 6, 7, 8, 9] [(6, 0)] [] 1 _ (by simp) (by simp) (by simp), by simp⟩
          | false =>
            refine AW.text teOk (ans := [.sem (.tup [.c (.ref 100 0 P.length), .c (cI p)]) [(100, ⟨10, P.map encH⟩)] 101]) (by simp [-Option.some.injEq] <;> rfl) ?_ ?_
            · exact SemC.of0 (at_con W e.o e.f ha1 (by omega) _ _ _ (.inr ⟨hh, by rw [hP, hp], by rw [hP], rfl⟩)) rfl (Nat.le_of_ble_eq_true rfl)
            exact ⟨_, Weak.normT hA [3, 6, 7, 8, 9] [(6, 0)] [] 1 _ (by simp) (by simp) (by simp), by simp⟩
        rintro s rfl
        have hpl : p < P.length := (List.getElem?_eq_some_iff.1 hx).1
        have hPl := placeV_len W e.k
        rw [← hP] at hPl
        have hxe : AscS x.el ∧ x.el.length < 1000000000 := by
          rcases placeV_mem (hP ▸ List.mem_of_getElem? hx) with hm | rfl
          · have := ha2 x hm
            exact ⟨this.1, by omega⟩
          · exact ⟨.nil, by show (0 : Nat) < _; omega⟩
        refine AW.st teOk [] (by simp [hx, -Option.some.injEq] <;> rfl) ?_ ?_
        · first | trivial | omega | (simp; omega)
        refine AW.to (s2 := ⟨[(3, .c (.fad (encOp o))), (6, .c (.ref 0 0 P.length)), (7, .c (cI i)), (8, .c (.fad (encE' e))), (9, .c (cI p)), (10, .c (.ptr 1 0 0))], [(0, ⟨10, P.map encH⟩), (1, ⟨10, [encH x]⟩)], 2⟩) (Weak.normS hA [3, 6, 7, 8, 9, 10] [(6, 0), (10, 1)] [] [] 2 _ (by simp) (by simp) (by simp)) (by simp) ?_
        refine AW.mid (fun s => s = ⟨[(3, .c (.fad (encOp o))), (6, .c (.ref 0 0 P.length)), (7, .c (cI i)), (9, .c (cI p)), (10, .c (.ptr 1 0 0))], [(0, ⟨10, P.map encH⟩), (1, ⟨10, [encH (updV x e)]⟩)], 2⟩) ?_ ?_
        · refine AW.st teOk [] (by simp [-Option.some.injEq] <;> rfl) trivial ?_
          refine AW.block ?_
          by_cases k1 : e.kind = 1
          · have hu : updV x e = { x with set := true, n := e.n, s := e.s } := by unfold updV; rw [if_pos k1]
            rw [hu]
            refine AW.st teOk [] (by simp [k1, -Option.some.injEq] <;> rfl) trivial ?_
            refine AW.iff true (by simp) (fun _ => ?_) (fun h => by cases h)
            refine AW.draw mixed teOk (ans := []) (by simp [-Option.some.injEq] <;> rfl) (by kernel_rfl) (by kernel_rfl) ?_ ?_
            · simp [allP]
            exact ⟨_, Weak.normS hA [3, 6, 7, 9, 10] [(6, 0), (10, 1)] [] [] 2 _ (by simp) (by simp) (by simp), by simp⟩
          refine AW.st teOk [] (by simp [k1, -Option.some.injEq] <;> rfl) trivial ?_
          refine AW.iff false (by simp [k1]) (fun h => by cases h) (fun _ => ?_)
          by_cases k2 : e.kind = 2
          · have hu : updV x e = if x.hm = false ∨ x.mx < e.n then { x with hm := true, mx := e.n } else x := by unfold updV; rw [if_neg k1, if_pos k2]
            rw [hu]
            refine AW.st teOk [] (by simp [k2, -Option.some.injEq] <;> rfl) trivial ?_
            refine AW.iff true (by simp) (fun _ => ?_) (fun h => by cases h)
            refine AW.seq ?_
            cases hm : x.hm with
            | false =>
              rw [if_pos (.inl rfl)]
              refine AW.st teOk [] (by simp [hm, -Option.some.injEq] <;> rfl) ?_ ?_
              · first | trivial | omega | (simp; omega)
              refine AW.iff true (by simp) (fun _ => ?_) (fun h => by cases h)
              refine AW.text teOk (ans := []) (by simp [-Option.some.injEq] <;> rfl) ?_ ?_
              · trivial
              refine AW.text teOk (ans := []) (by simp [-Option.some.injEq] <;> rfl) ?_ ?_
              · trivial
              exact ⟨_, Weak.normS hA [3, 6, 7, 9, 10] [(6, 0), (10, 1)] [] [] 2 _ (by simp) (by simp) (by simp), by simp⟩
            | true =>
            by_cases hlt : x.mx < e.n
            · rw [if_pos (.inr hlt)]
              refine AW.st teOk [] (by simp [hm, hlt, -Option.some.injEq] <;> rfl) ?_ ?_
              · first | trivial | omega | (simp; omega)
              refine AW.iff true (by simp) (fun _ => ?_) (fun h => by cases h)
              refine AW.text teOk (ans := []) (by simp [-Option.some.injEq] <;> rfl) ?_ ?_
              · trivial
              refine AW.text teOk (ans := []) (by simp [-Option.some.injEq] <;> rfl) ?_ ?_
              · trivial
              exact ⟨_, Weak.normS hA [3, 6, 7, 9, 10] [(6, 0), (10, 1)] [] [] 2 _ (by simp) (by simp) (by simp), by simp⟩
            · rw [if_neg (by simp [hlt])]
              refine AW.st teOk [] (by simp [hm, hlt, -Option.some.injEq] <;> rfl) ?_ ?_
              · first | trivial | omega | (simp; omega)
              refine AW.iff false (by simp) (fun h => by cases h) (fun _ => AW.skip ?_)
              refine AW.text teOk (ans := []) (by simp [-Option.some.injEq] <;> rfl) ?_ ?_
              · trivial
              exact ⟨_, Weak.normS hA [3, 6, 7, 9, 10] [(6, 0), (10, 1)] [] [] 2 _ (by simp) (by simp) (by simp), by simp [hm]⟩
          refine AW.st teOk [] (by simp [k2, -Option.some.injEq] <;> rfl) trivial ?_
          refine AW.iff false (by simp [k2]) (fun h => by cases h) (fun _ => ?_)
          by_cases k3 : e.kind = 3
          · have hu : updV x e = { x with sum := IntKind.i64.wrap (x.sum + e.n) } := by unfold updV; rw [if_neg k1, if_neg k2, if_pos k3]
            rw [hu]
            refine AW.st teOk [] (by simp [k3, -Option.some.injEq] <;> rfl) trivial ?_
            refine AW.iff true (by simp) (fun _ => ?_) (fun h => by cases h)
            refine AW.text teOk (ans := []) (by simp [-Option.some.injEq] <;> rfl) ?_ ?_
            · trivial
            exact ⟨_, Weak.normS hA [3, 6, 7, 9, 10] [(6, 0), (10, 1)] [] [] 2 _ (by simp) (by simp) (by simp), by simp⟩
          refine AW.st teOk [] (by simp [k3, -Option.some.injEq] <;> rfl) trivial ?_
          refine AW.iff false (by simp [k3]) (fun h => by cases h) (fun _ => ?_)
          by_cases k4 : e.kind = 4
          · have hu : updV x e = { x with el := insL x.el e.s } := by unfold updV; rw [if_neg k1, if_neg k2, if_neg k3, if_pos k4]
            rw [hu]
            refine AW.st teOk [] (by simp [k4, -Option.some.injEq] <;> rfl) trivial ?_
            refine AW.iff true (by simp) (fun _ => ?_) (fun h => by cases h)
            refine AW.text teOk (ans := [.fz (.c (encSs (insL x.el e.s)))]) (by simp [-Option.some.injEq] <;> rfl) ?_ ?_
            · exact rins_pure x.el e.s hxe.1 hxe.2
            exact ⟨_, Weak.normS hA [3, 6, 7, 9, 10] [(6, 0), (10, 1)] [] [] 2 _ (by simp) (by simp) (by simp), by simp⟩
          refine AW.st teOk [] (by simp [k4, -Option.some.injEq] <;> rfl) trivial ?_
          refine AW.iff false (by simp [k4]) (fun h => by cases h) (fun _ => ?_)
          by_cases k5 : e.kind = 5
          · have hu : updV x e = { x with fl := true } := by unfold updV; rw [if_neg k1, if_neg k2, if_neg k3, if_neg k4, if_pos k5]
            rw [hu]
            refine AW.st teOk [] (by simp [k5, -Option.some.injEq] <;> rfl) trivial ?_
            refine AW.iff true (by simp) (fun _ => ?_) (fun h => by cases h)
            refine AW.text teOk (ans := []) (by simp [-Option.some.injEq] <;> rfl) ?_ ?_
            · trivial
            exact ⟨_, Weak.normS hA [3, 6, 7, 9, 10] [(6, 0), (10, 1)] [] [] 2 _ (by simp) (by simp) (by simp), by simp⟩
          refine AW.st teOk [] (by simp [k5, -Option.some.injEq] <;> rfl) trivial ?_
          refine AW.iff false (by simp [k5]) (fun h => by cases h) (fun _ => AW.skip ?_)
          have hu : updV x e = x := by unfold updV; rw [if_neg k1, if_neg k2, if_neg k3, if_neg k4, if_neg k5]
          rw [hu]
          exact ⟨_, Weak.normS hA [3, 6, 7, 9, 10] [(6, 0), (10, 1)] [] [] 2 _ (by simp) (by simp) (by simp), by simp⟩
        rintro s rfl
        generalize updV x e = y at *
        have hfl : flatO ⟨10, (P.map encH).set p (encH y)⟩ = true := by rw [← List.map_set]; exact flat_encH _
        refine AW.text teOk (ans := []) (by simp [hx, -Option.some.injEq] <;> rfl) ?_ ?_
        · first | trivial | omega | (simp; omega)
        exact ⟨_, (Weak.freeze 1 ⟨10, [encH y]⟩ [] _ (by simp) (flat_encH [y])).trans (Weak.normT hA [3, 6, 7] [(6, 0)] [] 1 _ (by simp) (by simp) (by simp; exact hfl)), by simp⟩
      rintro s rfl
      refine AW.text teOk (ans := []) (by simp [-Option.some.injEq] <;> rfl) ?_ ?_
      · trivial
      refine ⟨_, _, Weak.normT hA [3, 6, 7] [(6, 0)] [] 1 _ (by simp) (by simp) (by simp), ?_, i + 1, rfl, h, ?_⟩
      · omega
      · rw [hnx]
        simp
        exact wrap_s i (by omega)
    · have hend : i = o.ef.length := by
        rw [decide_eq_false_iff_not] at h
        omega
      subst hend
      generalize toV vs o.ef o.ef.length = W at *
      refine AW.st teOk [] (by simp [-Option.some.injEq] <;> rfl) trivial ?_
      refine AW.ret ⟨.inr rfl, _, Weak.freeze 0 ⟨10, W.map encH⟩ [] _ (by simp) (flat_encH W), ?_⟩
      simp
  · have hst : stepV vs o = vs := by unfold stepV; rw [if_neg (by omega)]
    have hok : okV vs o = sameL vs o.res := by unfold okV; rw [if_pos hk]
    rw [hst, hok]
    refine AW.seq ?_
    refine AW.st teOk [] (by simp [-Option.some.injEq] <;> rfl) trivial ?_
    refine AW.block ?_
    refine AW.st teOk [] (by simp [hk, -Option.some.injEq] <;> rfl) trivial ?_
    refine AW.iff true (by simp) (fun _ => ?_) (fun h => by cases h)
    refine AW.st teOk [.fz (.c (cB (sameL vs o.res)))] (by simp [-Option.some.injEq] <;> rfl) ?_ ?_
    · exact hsame
    refine AW.ret ⟨.inr rfl, _, Weak.freeze 0 ⟨10, vs.map encH⟩ [] _ (by simp) (flat_encH vs), ?_⟩
    simp
  · have hst : stepV vs o = vs := by unfold stepV; rw [if_neg (by omega)]
    have hok : okV vs o = true := by unfold okV; rw [if_neg (by omega)]
    rw [hst, hok]
    refine AW.seq ?_
    refine AW.st teOk [] (by simp [-Option.some.injEq] <;> rfl) trivial ?_
    refine AW.block ?_
    refine AW.st teOk [] (by simp [hk, -Option.some.injEq] <;> rfl) trivial ?_
    refine AW.iff false (by simp) (fun h => by cases h) (fun _ => ?_)
    refine AW.st teOk [] (by simp [hk, -Option.some.injEq] <;> rfl) trivial ?_
    refine AW.iff true (by simp) (fun _ => ?_) (fun h => by cases h)
    refine AW.st teOk [] (by simp [-Option.some.injEq] <;> rfl) trivial ?_
    refine AW.ret ⟨.inr rfl, _, Weak.freeze 0 ⟨10, vs.map encH⟩ [] _ (by simp) (flat_encH vs), ?_⟩
    simp
end Go.Proofs.Ytphlhadgcfndhaa.Abs
