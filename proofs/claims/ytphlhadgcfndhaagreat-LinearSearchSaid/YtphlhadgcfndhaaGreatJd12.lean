/- Joined for the claim: WPe WPh WPi WPj -/
import Derived.Test.YtphlhadgcfndhaaGreatJd11
import Derived.Test.YtphlhadgcfndhaaGreatJd9
import Derived.Test.YtphlhadgcfndhaaGreatJd5
import Derived.Test.YtphlhadgcfndhaaGreatJd10
section
namespace Go.Proofs.YtphlhadgcfndhaaGreat.Abs
open Go Go.RowKit
set_option linter.unusedVariables false
set_option linter.unusedSimpArgs false
set_option maxHeartbeats 4000000
set_option maxRecDepth 8000
abbrev toV (vs : List HV) (l : List EfS) (i : Nat) : List HV := (l.take i).foldl applyV vs
theorem toV_succ (vs : List HV) (l : List EfS) {i : Nat} {e : EfS} (h : l[i]? = some e) : toV vs l (i + 1) = applyV (toV vs l i) e := by
  unfold toV
  rw [List.take_add_one, h, List.foldl_append]
  rfl
theorem toV_ok (vs : List HV) (l : List EfS) (hv : AscH vs) (hel : ElOk 100000 vs) (hl : vs.length < 100000) : ∀ i, i ≤ l.length → AscH (toV vs l i) ∧ ElOk (100000 + i) (toV vs l i) ∧ (toV vs l i).length ≤ vs.length + i
  | 0, _ => ⟨hv, hel, Nat.le_refl _⟩
  | i + 1, hi => by
    obtain ⟨h1, h2, h3⟩ := toV_ok vs l hv hel hl i (by omega)
    rw [toV_succ vs l (List.getElem?_eq_getElem (by omega))]
    refine ⟨applyV_asc h1 _, applyV_el h2 _, ?_⟩
    have := applyV_len (toV vs l i) l[i]
    omega
theorem place_get' (l : List HV) (k : Ky) : ∃ x, (placeV l k)[posH l k]? = some x := by
  obtain ⟨x, hx, _⟩ := place_get (l.map fun v => (v, none)) k
  have e : (l.map fun v : HV => ((v, none) : OV)).map Prod.fst = l := by rw [List.map_map]; exact List.map_id _
  rw [e] at hx
  refine ⟨x.1, ?_⟩
  have := congrArg (fun q => q[posH l k]?) (placeO_fst (l.map fun v => (v, none)) k)
  simp only [e, List.getElem?_map, hx] at this
  exact this.symm
theorem rstep_pure (vs : List HV) (o : OpS) (hv : AscH vs) (hel : ElOk 100000 vs) (hl : vs.length < 100000) (hef : o.ef.length < 100000) (hk : o.kind = 1 ∨ o.kind = 2 ∨ o.kind = 3) (hb : ElB vs) : Pure Tryz.prog 22 [.c (encHs vs), .agg (encOp o)] (.tup [.c (encHs (stepV vs o)), .c (cB (okV vs o))]) := by
  refine pure_of teOk Tryz.func22 (by kernel_rfl) (c := _) rfl (N := 102) rfl (rs := [Go.ResultVar.tmp 4, Go.ResultVar.tmp 5]) rfl (by simp) fun base A w0 hA => ?_
  refine AW.st teOk [] (by simp [-Option.some.injEq] <;> rfl) trivial ?_
  refine AW.to (s2 := ⟨[(0, .c (encHs vs)), (3, .c (.fad (encOp o)))], [], 0⟩) ((Weak.freeze 0 ⟨6, [encOp o]⟩ [] _ (by simp) rfl).trans (Weak.normT hA [0, 3] [] [] 0 _ (by simp) (by simp) (by simp [mapAt_nil]))) (by simp [mapAt_nil]) ?_
  refine AW.mid (fun s => s = ⟨[(0, .c (encHs vs)), (3, .c (.fad (encOp o))), (6, .c (.ref 0 0 vs.length))], [(0, ⟨10, vs.map encH⟩)], 1⟩) ?_ ?_
  · refine AW.text teOk (ans := []) (by simp [-Option.some.injEq] <;> rfl) ?_ ?_
    · simp [growOk]
      omega
    exact ⟨_, Weak.normT hA [0, 3, 6] [(6, 0)] [] 1 _ (by simp) (by simp) (by simp), by simp⟩
  rintro s rfl
  have hsame := sameVr_pure vs o.res (by omega) hb
  have hid : (vs.map encH).take vs.length = vs.map encH := List.take_of_length_le (by rw [List.length_map]; exact Nat.le_refl _)
  rcases hk with hk | hk | hk
  · refine AW.mid (fun s => s = ⟨[(3, .c (.fad (encOp o))), (6, .c (.ref 0 0 vs.length))], [(0, ⟨10, vs.map encH⟩)], 1⟩) ?_ ?_
    · refine AW.st teOk [] (by simp [-Option.some.injEq] <;> rfl) trivial ?_
      refine AW.block ?_
      refine AW.st teOk [] (by simp [hk, -Option.some.injEq] <;> rfl) trivial ?_
      refine AW.iff false (by simp) (fun h => by cases h) (fun _ => ?_)
      refine AW.st teOk [] (by simp [hk, -Option.some.injEq] <;> rfl) trivial ?_
      refine AW.iff false (by simp) (fun h => by cases h) (fun _ => AW.skip ?_)
      exact ⟨_, Weak.normT hA [3, 6] [(6, 0)] [] 1 _ (by simp) (by simp) (by simp), by simp [hk]⟩
    rintro s rfl
    have hst : stepV vs o = toV vs o.ef o.ef.length := by unfold stepV toV; rw [if_pos hk, List.take_length]
    have hok : okV vs o = true := by unfold okV; rw [if_neg (by omega)]
    rw [hst, hok]
    refine AW.seq ?_
    refine AW.st teOk [] (by simp [-Option.some.injEq] <;> rfl) trivial ?_
    refine AW.block (AW.loop (fun m s => ∃ i : Nat, m = o.ef.length - i ∧ i ≤ o.ef.length ∧ s = ⟨[(3, .c (.fad (encOp o))), (6, .c (.ref 0 0 (toV vs o.ef i).length)), (7, .c (cI i))], [(0, ⟨10, (toV vs o.ef i).map encH⟩)], 1⟩) _ (Weak.normT hA [3, 6, 7] [(6, 0)] [] 1 _ (by simp) (by simp) (by simp)) ⟨0, rfl, Nat.zero_le _, by simp; exact ⟨rfl, rfl⟩⟩ ?_)
    rintro m s ⟨i, rfl, hi, rfl⟩
    obtain ⟨ha1, ha2, ha3⟩ := toV_ok vs o.ef hv hel hl i hi
    refine AW.seq ?_
    refine AW.st teOk [] (by simp [-Option.some.injEq] <;> rfl) trivial ?_
    refine AW.iff (decide (i < o.ef.length)) (by simp) (fun h => AW.skip ?_) (fun h => AW.exit (x_then (x_then (blockA_exit ?_))))
    · rw [decide_eq_true_eq] at h
      obtain ⟨e, he⟩ : ∃ e, o.ef[i]? = some e := ⟨_, List.getElem?_eq_getElem h⟩
      have hnx := toV_succ vs o.ef he
      obtain ⟨W, hW⟩ : ∃ W, W = toV vs o.ef i := ⟨_, rfl⟩
      rw [← hW] at ha1 ha2 ha3 hnx ⊢
      refine AW.mid (fun s => s = ⟨[(3, .c (.fad (encOp o))), (6, .c (.ref 0 0 (applyV W e).length)), (7, .c (cI i))], [(0, ⟨10, (applyV W e).map encH⟩)], 1⟩) (AW.block ?_) ?_
      · refine AW.st teOk [] (by simp [he, -Option.some.injEq] <;> rfl) ?_ ?_
        · first | trivial | omega | (simp; omega)
        refine AW.to (s2 := ⟨[(3, .c (.fad (encOp o))), (6, .c (.ref 0 0 W.length)), (7, .c (cI i)), (8, .c (.fad (encE' e)))], [(0, ⟨10, W.map encH⟩)], 1⟩) ((Weak.freeze 11 ⟨5, [encE' e]⟩ [] _ (by simp) rfl).trans (Weak.normT hA [3, 6, 7, 8] [(6, 0)] [] 1 _ (by simp) (by simp) (by simp))) (by simp) ?_
        refine AW.st teOk [] (by simp [-Option.some.injEq] <;> rfl) trivial ?_
        obtain ⟨p, hp⟩ : ∃ p, p = posH W e.k := ⟨_, rfl⟩
        obtain ⟨x, hx⟩ := place_get' W e.k
        rw [← hp] at hx
        obtain ⟨P, hP⟩ : ∃ P, P = placeV W e.k := ⟨_, rfl⟩
        rw [← hP] at hx
        have hap : applyV W e = P.set p (updV x e) := by unfold applyV setAt; rw [← hP, ← hp, hx]
        rw [hap]
        refine AW.mid (fun s => s = ⟨[(3, .c (.fad (encOp o))), (6, .c (.ref 0 0 P.length)), (7, .c (cI i)), (8, .c (.fad (encE' e))), (9, .c (cI p))], [(0, ⟨10, P.map encH⟩)], 1⟩) ?_ ?_
        · cases hh : hasH W e.k with
          | true =>
            have hPW : P = W := by rw [hP]; unfold placeV; rw [if_pos hh]
            subst hPW
            refine AW.text teOk (ans := [.sem (.tup [.c (.ref 0 0 P.length), .c (cI p)]) [(0, ⟨10, P.map encH⟩)] 100]) (by simp [-Option.some.injEq] <;> rfl) ?_ ?_
            · exact SemC.of0 (at_con P e.o e.f ha1 (by omega) _ _ _ (.inl ⟨hh, by rw [hp], rfl, rfl⟩)) rfl (Nat.le_of_ble_eq_true rfl)
            exact ⟨_, Weak.normT hA [3, 6, 7, 8, 9] [(6, 0)] [] 1 _ (by simp) (by simp) (by simp), by simp⟩
          | false =>
            refine AW.text teOk (ans := [.sem (.tup [.c (.ref 100 0 P.length), .c (cI p)]) [(100, ⟨10, P.map encH⟩)] 101]) (by simp [-Option.some.injEq] <;> rfl) ?_ ?_
            · exact SemC.of0 (at_con W e.o e.f ha1 (by omega) _ _ _ (.inr ⟨hh, by rw [hP, hp], by rw [hP], rfl⟩)) rfl (Nat.le_of_ble_eq_true rfl)
            exact ⟨_, Weak.normT hA [3, 6, 7, 8, 9] [(6, 0)] [] 1 _ (by simp) (by simp) (by simp), by simp⟩
        rintro s rfl
        have hpl : p < P.length := (List.getElem?_eq_some_iff.1 hx).1
        have hPl := placeV_len W e.k
        rw [← hP] at hPl
        have hxe : AscS x.el ∧ x.el.length < 1000000000 := by
          rcases placeV_mem (hP ▸ List.mem_of_getElem? hx) with hm | rfl
          · have := ha2 x hm
            exact ⟨this.1, by omega⟩
          · exact ⟨.nil, by show (0 : Nat) < _; omega⟩
        refine AW.st teOk [] (by simp [hx, -Option.some.injEq] <;> rfl) ?_ ?_
        · first | trivial | omega | (simp; omega)
        refine AW.to (s2 := ⟨[(3, .c (.fad (encOp o))), (6, .c (.ref 0 0 P.length)), (7, .c (cI i)), (8, .c (.fad (encE' e))), (9, .c (cI p)), (10, .c (.ptr 1 0 0))], [(0, ⟨10, P.map encH⟩), (1, ⟨10, [encH x]⟩)], 2⟩) (Weak.normS hA [3, 6, 7, 8, 9, 10] [(6, 0), (10, 1)] [] [] 2 _ (by simp) (by simp) (by simp)) (by simp) ?_
        refine AW.mid (fun s => s = ⟨[(3, .c (.fad (encOp o))), (6, .c (.ref 0 0 P.length)), (7, .c (cI i)), (9, .c (cI p)), (10, .c (.ptr 1 0 0))], [(0, ⟨10, P.map encH⟩), (1, ⟨10, [encH (updV x e)]⟩)], 2⟩) ?_ ?_
        · refine AW.st teOk [] (by simp [-Option.some.injEq] <;> rfl) trivial ?_
          refine AW.block ?_
          by_cases k1 : e.kind = 1
          · have hu : updV x e = { x with set := true, n := e.n, s := e.s } := by unfold updV; rw [if_pos k1]
            rw [hu]
            refine AW.st teOk [] (by simp [k1, -Option.some.injEq] <;> rfl) trivial ?_
            refine AW.iff true (by simp) (fun _ => ?_) (fun h => by cases h)
            refine AW.draw mixed teOk (ans := []) (by simp [-Option.some.injEq] <;> rfl) (by kernel_rfl) (by kernel_rfl) ?_ ?_
            · simp [allP]
            exact ⟨_, Weak.normS hA [3, 6, 7, 9, 10] [(6, 0), (10, 1)] [] [] 2 _ (by simp) (by simp) (by simp), by simp⟩
          refine AW.st teOk [] (by simp [k1, -Option.some.injEq] <;> rfl) trivial ?_
          refine AW.iff false (by simp [k1]) (fun h => by cases h) (fun _ => ?_)
          by_cases k2 : e.kind = 2
          · have hu : updV x e = if x.hm = false ∨ x.mx < e.n then { x with hm := true, mx := e.n } else x := by unfold updV; rw [if_neg k1, if_pos k2]
            rw [hu]
            refine AW.st teOk [] (by simp [k2, -Option.some.injEq] <;> rfl) trivial ?_
            refine AW.iff true (by simp) (fun _ => ?_) (fun h => by cases h)
            refine AW.seq ?_
            cases hm : x.hm with
            | false =>
              rw [if_pos (.inl rfl)]
              refine AW.st teOk [] (by simp [hm, -Option.some.injEq] <;> rfl) ?_ ?_
              · first | trivial | omega | (simp; omega)
              refine AW.iff true (by simp) (fun _ => ?_) (fun h => by cases h)
              refine AW.text teOk (ans := []) (by simp [-Option.some.injEq] <;> rfl) ?_ ?_
              · trivial
              refine AW.text teOk (ans := []) (by simp [-Option.some.injEq] <;> rfl) ?_ ?_
              · trivial
              exact ⟨_, Weak.normS hA [3, 6, 7, 9, 10] [(6, 0), (10, 1)] [] [] 2 _ (by simp) (by simp) (by simp), by simp⟩
            | true =>
            by_cases hlt : x.mx < e.n
            · rw [if_pos (.inr hlt)]
              refine AW.st teOk [] (by simp [hm, hlt, -Option.some.injEq] <;> rfl) ?_ ?_
              · first | trivial | omega | (simp; omega)
              refine AW.iff true (by simp) (fun _ => ?_) (fun h => by cases h)
              refine AW.text teOk (ans := []) (by simp [-Option.some.injEq] <;> rfl) ?_ ?_
              · trivial
              refine AW.text teOk (ans := []) (by simp [-Option.some.injEq] <;> rfl) ?_ ?_
              · trivial
              exact ⟨_, Weak.normS hA [3, 6, 7, 9, 10] [(6, 0), (10, 1)] [] [] 2 _ (by simp) (by simp) (by simp), by simp⟩
            · rw [if_neg (by simp [hlt])]
              refine AW.st teOk [] (by simp [hm, hlt, -Option.some.injEq] <;> rfl) ?_ ?_
              · first | trivial | omega | (simp; omega)
              refine AW.iff false (by simp) (fun h => by cases h) (fun _ => AW.skip ?_)
              refine AW.text teOk (ans := []) (by simp [-Option.some.injEq] <;> rfl) ?_ ?_
              · trivial
              exact ⟨_, Weak.normS hA [3, 6, 7, 9, 10] [(6, 0), (10, 1)] [] [] 2 _ (by simp) (by simp) (by simp), by simp [hm]⟩
          refine AW.st teOk [] (by simp [k2, -Option.some.injEq] <;> rfl) trivial ?_
          refine AW.iff false (by simp [k2]) (fun h => by cases h) (fun _ => ?_)
          by_cases k3 : e.kind = 3
          · have hu : updV x e = { x with sum := IntKind.i64.wrap (x.sum + e.n) } := by unfold updV; rw [if_neg k1, if_neg k2, if_pos k3]
            rw [hu]
            refine AW.st teOk [] (by simp [k3, -Option.some.injEq] <;> rfl) trivial ?_
            refine AW.iff true (by simp) (fun _ => ?_) (fun h => by cases h)
            refine AW.text teOk (ans := []) (by simp [-Option.some.injEq] <;> rfl) ?_ ?_
            · trivial
            exact ⟨_, Weak.normS hA [3, 6, 7, 9, 10] [(6, 0), (10, 1)] [] [] 2 _ (by simp) (by simp) (by simp), by simp⟩
          refine AW.st teOk [] (by simp [k3, -Option.some.injEq] <;> rfl) trivial ?_
          refine AW.iff false (by simp [k3]) (fun h => by cases h) (fun _ => ?_)
          by_cases k4 : e.kind = 4
          · have hu : updV x e = { x with el := insL x.el e.s } := by unfold updV; rw [if_neg k1, if_neg k2, if_neg k3, if_pos k4]
            rw [hu]
            refine AW.st teOk [] (by simp [k4, -Option.some.injEq] <;> rfl) trivial ?_
            refine AW.iff true (by simp) (fun _ => ?_) (fun h => by cases h)
            refine AW.text teOk (ans := [.fz (.c (encSs (insL x.el e.s)))]) (by simp [-Option.some.injEq] <;> rfl) ?_ ?_
            · exact rins_pure x.el e.s hxe.1 hxe.2
            exact ⟨_, Weak.normS hA [3, 6, 7, 9, 10] [(6, 0), (10, 1)] [] [] 2 _ (by simp) (by simp) (by simp), by simp⟩
          refine AW.st teOk [] (by simp [k4, -Option.some.injEq] <;> rfl) trivial ?_
          refine AW.iff false (by simp [k4]) (fun h => by cases h) (fun _ => ?_)
          by_cases k5 : e.kind = 5
          · have hu : updV x e = { x with fl := true } := by unfold updV; rw [if_neg k1, if_neg k2, if_neg k3, if_neg k4, if_pos k5]
            rw [hu]
            refine AW.st teOk [] (by simp [k5, -Option.some.injEq] <;> rfl) trivial ?_
            refine AW.iff true (by simp) (fun _ => ?_) (fun h => by cases h)
            refine AW.text teOk (ans := []) (by simp [-Option.some.injEq] <;> rfl) ?_ ?_
            · trivial
            exact ⟨_, Weak.normS hA [3, 6, 7, 9, 10] [(6, 0), (10, 1)] [] [] 2 _ (by simp) (by simp) (by simp), by simp⟩
          refine AW.st teOk [] (by simp [k5, -Option.some.injEq] <;> rfl) trivial ?_
          refine AW.iff false (by simp [k5]) (fun h => by cases h) (fun _ => AW.skip ?_)
          have hu : updV x e = x := by unfold updV; rw [if_neg k1, if_neg k2, if_neg k3, if_neg k4, if_neg k5]
          rw [hu]
          exact ⟨_, Weak.normS hA [3, 6, 7, 9, 10] [(6, 0), (10, 1)] [] [] 2 _ (by simp) (by simp) (by simp), by simp⟩
        rintro s rfl
        generalize updV x e = y at *
        have hfl : flatO ⟨10, (P.map encH).set p (encH y)⟩ = true := by rw [← List.map_set]; exact flat_encH _
        refine AW.text teOk (ans := []) (by simp [hx, -Option.some.injEq] <;> rfl) ?_ ?_
        · first | trivial | omega | (simp; omega)
        exact ⟨_, (Weak.freeze 1 ⟨10, [encH y]⟩ [] _ (by simp) (flat_encH [y])).trans (Weak.normT hA [3, 6, 7] [(6, 0)] [] 1 _ (by simp) (by simp) (by simp; exact hfl)), by simp⟩
      rintro s rfl
      refine AW.text teOk (ans := []) (by simp [-Option.some.injEq] <;> rfl) ?_ ?_
      · trivial
      refine ⟨_, _, Weak.normT hA [3, 6, 7] [(6, 0)] [] 1 _ (by simp) (by simp) (by simp), ?_, i + 1, rfl, h, ?_⟩
      · omega
      · rw [hnx]
        simp
        exact wrap_s i (by omega)
    · have hend : i = o.ef.length := by
        rw [decide_eq_false_iff_not] at h
        omega
      subst hend
      generalize toV vs o.ef o.ef.length = W at *
      refine AW.st teOk [] (by simp [-Option.some.injEq] <;> rfl) trivial ?_
      refine AW.ret ⟨.inr rfl, _, Weak.freeze 0 ⟨10, W.map encH⟩ [] _ (by simp) (flat_encH W), ?_⟩
      simp
  · have hst : stepV vs o = vs := by unfold stepV; rw [if_neg (by omega)]
    have hok : okV vs o = sameL vs o.res := by unfold okV; rw [if_pos hk]
    rw [hst, hok]
    refine AW.seq ?_
    refine AW.st teOk [] (by simp [-Option.some.injEq] <;> rfl) trivial ?_
    refine AW.block ?_
    refine AW.st teOk [] (by simp [hk, -Option.some.injEq] <;> rfl) trivial ?_
    refine AW.iff true (by simp) (fun _ => ?_) (fun h => by cases h)
    refine AW.st teOk [.fz (.c (cB (sameL vs o.res)))] (by simp [-Option.some.injEq] <;> rfl) ?_ ?_
    · exact hsame
    refine AW.ret ⟨.inr rfl, _, Weak.freeze 0 ⟨10, vs.map encH⟩ [] _ (by simp) (flat_encH vs), ?_⟩
    simp
  · have hst : stepV vs o = vs := by unfold stepV; rw [if_neg (by omega)]
    have hok : okV vs o = true := by unfold okV; rw [if_neg (by omega)]
    rw [hst, hok]
    refine AW.seq ?_
    refine AW.st teOk [] (by simp [-Option.some.injEq] <;> rfl) trivial ?_
    refine AW.block ?_
    refine AW.st teOk [] (by simp [hk, -Option.some.injEq] <;> rfl) trivial ?_
    refine AW.iff false (by simp) (fun h => by cases h) (fun _ => ?_)
    refine AW.st teOk [] (by simp [hk, -Option.some.injEq] <;> rfl) trivial ?_
    refine AW.iff true (by simp) (fun _ => ?_) (fun h => by cases h)
    refine AW.st teOk [] (by simp [-Option.some.injEq] <;> rfl) trivial ?_
    refine AW.ret ⟨.inr rfl, _, Weak.freeze 0 ⟨10, vs.map encH⟩ [] _ (by simp) (flat_encH vs), ?_⟩
    simp
end Go.Proofs.YtphlhadgcfndhaaGreat.Abs
end
section
namespace Go.Proofs.YtphlhadgcfndhaaGreat.Abs
open Go Go.RowKit
set_option linter.unusedVariables false
set_option linter.unusedSimpArgs false
set_option maxHeartbeats 4000000
set_option maxRecDepth 8000
theorem rneed_pure (o : OpS) : Pure Tryz.prog 28 [.agg (encOp o)] (.c (cB (reqB o))) := by
  refine pure_of teOk Tryz.func28 (by kernel_rfl) (c := _) rfl (N := 11) rfl (rs := [Go.ResultVar.tmp 2]) rfl (by simp) fun base A w0 hA => ?_
  refine AW.st teOk [] (by simp [-Option.some.injEq] <;> rfl) trivial ?_
  refine AW.to (s2 := ⟨[(1, .c (.fad (encOp o)))], [], 0⟩) ((Weak.freeze 0 ⟨6, [encOp o]⟩ [] _ (by simp) rfl).trans (Weak.normT hA [1] [] [] 0 _ (by simp) (by simp) (by simp [mapAt_nil]))) (by simp [mapAt_nil]) ?_
  cases h : o.kind != 3 with
  | true =>
    refine AW.st teOk [] (by simp [h, -Option.some.injEq] <;> rfl) trivial ?_
    refine AW.ret ⟨.inr rfl, _, Weak.refl _, ?_⟩
    simp [reqB, h]
  | false =>
    refine AW.st teOk [] (by simp [h, -Option.some.injEq] <;> rfl) trivial ?_
    refine AW.ret ⟨.inr rfl, _, Weak.refl _, ?_⟩
    simp [reqB, h]
theorem flatOpsR (ops : List OpS) : flatO ⟨1, [encHi ops]⟩ = true := flatO_of fun e he => by
  rw [List.mem_singleton.1 he]
  have h : flatO ⟨6, ops.map encOp⟩ = true := flatO_of fun e he => by
    obtain ⟨o, _, rfl⟩ := List.mem_map.1 he
    rfl
  simp [encHi, frozenC]
theorem preS_nat {ops : List OpS} {a b : Nat} {x y : OpS} (hx : ops[a]? = some x) (hy : ops[b]? = some y) : preS ops a b = preB x y := by
  unfold preS opAt
  rw [if_pos (by omega), if_pos (by omega)]
  simp [hx, hy]
theorem rprec_pure (ops : List OpS) (a b : Nat) (x y : OpS) (hx : ops[a]? = some x) (hy : ops[b]? = some y) : Pure Tryz.prog 27 [.agg (encHi ops), .c (cI a), .c (cI b)] (.c (cB (preB x y))) := by
  refine pure_of teOk Tryz.func27 (by kernel_rfl) (c := _) rfl (N := 51) rfl (rs := [Go.ResultVar.tmp 6]) rfl (by simp) fun base A w0 hA => ?_
  refine AW.st teOk [] (by simp [-Option.some.injEq] <;> rfl) trivial ?_
  refine AW.to (s2 := ⟨[(1, .c (cI a)), (2, .c (cI b)), (3, .c (.fad (encHi ops)))], [], 0⟩) ((Weak.freeze 0 ⟨1, [encHi ops]⟩ [] _ (by simp) (flatOpsR ops)).trans (Weak.normT hA [1, 2, 3] [] [] 0 _ (by simp) (by simp) (by simp [mapAt_nil]))) (by simp [mapAt_nil]) ?_
  refine AW.st teOk [] (by simp [-Option.some.injEq] <;> rfl) trivial ?_
  obtain ⟨ha, rfl⟩ := List.getElem?_eq_some_iff.1 hx
  obtain ⟨hb, rfl⟩ := List.getElem?_eq_some_iff.1 hy
  clear hx hy
  have ha0 : ((a : Int) ≥ 0) := by omega
  have hb0 : ((b : Int) ≥ 0) := by omega
  cases h : ops[a].ret != 0 with
  | true =>
    refine AW.dr mixed teOk [] (by simp [ha, hb, ha0, hb0, h, -Option.some.injEq] <;> rfl) (by kernel_rfl) (by kernel_rfl) ?_ ?_
    · simp [allP]
    refine AW.ret ⟨.inr rfl, _, Weak.refl _, ?_⟩
    simp [preB, h]
  | false =>
    refine AW.dr mixed teOk [] (by simp [ha, hb, ha0, hb0, h, -Option.some.injEq] <;> rfl) (by kernel_rfl) (by kernel_rfl) ?_ ?_
    · simp [allP]
    refine AW.ret ⟨.inr rfl, _, Weak.refl _, ?_⟩
    simp [preB, h]
theorem oin_pure (l : List Int) (n : Int) (hl : l.length < 1000000000) : Pure Tryz.prog 53 [.c (.row 1 false (l.map fun n => [cI n])), .c (cI n)] (.c (cB (l.contains n))) := by
  refine pure_of teOk Tryz.func53 (by kernel_rfl) (c := _) rfl (N := 18) rfl (rs := [Go.ResultVar.tmp 4]) rfl (by simp) fun base A w0 hA => ?_
  refine AW.st teOk [] (by simp [-Option.some.injEq] <;> rfl) trivial ?_
  refine AW.seq ?_
  refine AW.st teOk [] (by simp [-Option.some.injEq] <;> rfl) trivial ?_
  refine AW.block (AW.loop (fun m s => ∃ i : Nat, m = l.length - i ∧ i ≤ l.length ∧ (l.take i).contains n = false ∧ s = ⟨[(0, .c (.row 1 false (l.map fun n => [cI n]))), (1, .c (cI n)), (5, .c (cI i))], [], 0⟩) _ (Weak.normT hA [0, 1, 5] [] [] 0 _ (by simp) (by simp) (by simp)) ⟨0, rfl, Nat.zero_le _, by simp, by simp⟩ ?_)
  rintro m s ⟨i, rfl, hi, ht, rfl⟩
  refine AW.seq ?_
  refine AW.st teOk [] (by simp [-Option.some.injEq] <;> rfl) trivial ?_
  refine AW.iff (decide (i < l.length)) (by simp) (fun h => AW.skip ?_) (fun h => AW.exit (x_then (x_then (blockA_exit ?_))))
  · rw [decide_eq_true_eq] at h
    obtain ⟨x, hx⟩ : ∃ e, l[i]? = some e := ⟨_, List.getElem?_eq_getElem h⟩
    refine AW.seq (AW.block ?_)
    refine AW.st teOk [] (by simp [hx, -Option.some.injEq] <;> rfl) ?_ ?_
    · first | trivial | omega | (simp; omega)
    refine AW.iff (x == n) (by simp) (fun hc => ?_) (fun hc => AW.skip ?_)
    · refine AW.st teOk [] (by simp [-Option.some.injEq] <;> rfl) trivial ?_
      refine AW.ret ⟨.inr rfl, _, Weak.refl _, ?_⟩
      have e : x = n := by simpa using hc
      have : n ∈ l := e ▸ List.mem_of_getElem? hx
      simp [this]
    · refine AW.text teOk (ans := []) (by simp [-Option.some.injEq] <;> rfl) ?_ ?_
      · trivial
      refine ⟨_, _, Weak.normT hA [0, 1, 5] [] [] 0 _ (by simp) (by simp) (by simp), ?_, i + 1, rfl, h, ?_, ?_⟩
      · omega
      · rw [List.take_add_one, hx]
        simp at ht hc ⊢
        exact ⟨ht, fun e => hc e.symm⟩
      · simp
        exact wrap_s i (by omega)
  · rw [decide_eq_false_iff_not] at h
    have e1 : l.take i = l := List.take_of_length_le (by omega)
    rw [e1] at ht
    refine AW.st teOk [] (by simp [-Option.some.injEq] <;> rfl) trivial ?_
    refine AW.ret ⟨.inr rfl, _, Weak.refl _, ?_⟩
    simp at ht
    simp [ht]
end Go.Proofs.YtphlhadgcfndhaaGreat.Abs
end
section
namespace Go.Proofs.YtphlhadgcfndhaaGreat.Abs
open Go Go.RowKit
set_option linter.unusedVariables false
set_option linter.unusedSimpArgs false
set_option maxHeartbeats 4000000
set_option maxRecDepth 8000
def badF (ops : List OpS) (order : List Int) (y : OpS) (i : Nat) : Bool := match ops[i]? with
  | some o => reqB o && preB o y && !order.contains (i : Int)
  | none => false
def freeF (ops : List OpS) (order : List Int) (y : OpS) : Bool := (List.range ops.length).all fun i => !badF ops order y i
theorem rfree_pure (ops : List OpS) (order : List Int) (n : Nat) (y : OpS) (hy : ops[n]? = some y) (hl : ops.length < 1000000000) (ho : order.length < 1000000000) : Pure Tryz.prog 54 [.agg (encHi ops), .c (.row 1 false (order.map fun n => [cI n])), .c (cI n)] (.c (cB (freeF ops order y))) := by
  refine pure_of teOk Tryz.func54 (by kernel_rfl) (c := _) rfl (N := 33) rfl (rs := [Go.ResultVar.tmp 6]) rfl (by simp) fun base A w0 hA => ?_
  refine AW.st teOk [] (by simp [-Option.some.injEq] <;> rfl) trivial ?_
  refine AW.to (s2 := ⟨[(1, .c (.row 1 false (order.map fun n => [cI n]))), (2, .c (cI n)), (3, .c (.fad (encHi ops)))], [], 0⟩) ((Weak.freeze 0 ⟨1, [encHi ops]⟩ [] _ (by simp) (flatOpsR ops)).trans (Weak.normT hA [1, 2, 3] [] [] 0 _ (by simp) (by simp) (by simp [mapAt_nil]))) (by simp [mapAt_nil]) ?_
  refine AW.seq ?_
  refine AW.st teOk [] (by simp [-Option.some.injEq] <;> rfl) trivial ?_
  refine AW.block (AW.loop (fun m s => ∃ i : Nat, m = ops.length - i ∧ i ≤ ops.length ∧ (∀ j, j < i → badF ops order y j = false) ∧ s = ⟨[(1, .c (.row 1 false (order.map fun n => [cI n]))), (2, .c (cI n)), (3, .c (.fad (encHi ops))), (7, .c (cI i))], [], 0⟩) _ (Weak.normT hA [1, 2, 3, 7] [] [] 0 _ (by simp) (by simp) (by simp)) ⟨0, rfl, Nat.zero_le _, fun j h => by omega, by simp⟩ ?_)
  rintro m s ⟨i, rfl, hi, ht, rfl⟩
  refine AW.seq ?_
  refine AW.st teOk [] (by simp [-Option.some.injEq] <;> rfl) trivial ?_
  refine AW.iff (decide (i < ops.length)) (by simp) (fun h => AW.skip ?_) (fun h => AW.exit (x_then (x_then (blockA_exit ?_))))
  · rw [decide_eq_true_eq] at h
    obtain ⟨o, hx⟩ : ∃ e, ops[i]? = some e := ⟨_, List.getElem?_eq_getElem h⟩
    have hb : badF ops order y i = (reqB o && preB o y && !order.contains (i : Int)) := by unfold badF; rw [hx]
    have hq := rneed_pure o
    have hp := rprec_pure ops i n o y hx hy
    have hc := oin_pure order i ho
    refine AW.mid (fun s => badF ops order y i = false ∧ s = ⟨[(1, .c (.row 1 false (order.map fun n => [cI n]))), (2, .c (cI n)), (3, .c (.fad (encHi ops))), (7, .c (cI i))], [], 0⟩) (AW.block ?_) ?_
    · have fin : badF ops order y i = true → freeF ops order y = false := fun hbad => by
        unfold freeF
        rw [List.all_eq_false]
        exact ⟨i, List.mem_range.2 h, by simp [hbad]⟩
      generalize reqB o = b1 at *
      generalize preB o y = b2 at *
      generalize order.contains (i : Int) = b3 at *
      cases b1 with
      | false =>
        refine AW.st teOk [.fz (.c (cB false))] (by simp [hx, -Option.some.injEq] <;> rfl) ?_ ?_
        · refine ⟨?_, hq⟩
          omega
        refine AW.iff false (by simp) (fun h => by cases h) (fun _ => AW.skip ?_)
        exact ⟨_, Weak.normT hA [1, 2, 3, 7] [] [] 0 _ (by simp) (by simp) (by simp), by simpa using hb, by simp⟩
      | true =>
      cases b2 with
      | false =>
        refine AW.st teOk [.fz (.c (cB true)), .fz (.c (cB false))] (by simp [hx, -Option.some.injEq] <;> rfl) ?_ ?_
        · refine ⟨?_, hq, hp⟩
          omega
        refine AW.iff false (by simp) (fun h => by cases h) (fun _ => AW.skip ?_)
        exact ⟨_, Weak.normT hA [1, 2, 3, 7] [] [] 0 _ (by simp) (by simp) (by simp), by simpa using hb, by simp⟩
      | true =>
      cases b3 with
      | true =>
        refine AW.st teOk [.fz (.c (cB true)), .fz (.c (cB true)), .fz (.c (cB true))] (by simp [hx, -Option.some.injEq] <;> rfl) ?_ ?_
        · refine ⟨?_, hq, hp, hc⟩
          omega
        refine AW.iff false (by simp) (fun h => by cases h) (fun _ => AW.skip ?_)
        exact ⟨_, Weak.normT hA [1, 2, 3, 7] [] [] 0 _ (by simp) (by simp) (by simp), by simpa using hb, by simp⟩
      | false =>
        refine AW.st teOk [.fz (.c (cB true)), .fz (.c (cB true)), .fz (.c (cB false))] (by simp [hx, -Option.some.injEq] <;> rfl) ?_ ?_
        · refine ⟨?_, hq, hp, hc⟩
          omega
        refine AW.iff true (by simp) (fun _ => ?_) (fun h => by cases h)
        refine AW.st teOk [] (by simp [-Option.some.injEq] <;> rfl) trivial ?_
        refine AW.ret ⟨.inr rfl, _, Weak.refl _, ?_⟩
        rw [fin (by simpa using hb)]
        simp
    rintro s ⟨hbi, rfl⟩
    refine AW.text teOk (ans := []) (by simp [-Option.some.injEq] <;> rfl) ?_ ?_
    · trivial
    refine ⟨_, _, Weak.normT hA [1, 2, 3, 7] [] [] 0 _ (by simp) (by simp) (by simp), ?_, i + 1, rfl, h, ?_, ?_⟩
    · omega
    · intro j hj
      rcases Nat.lt_succ_iff_lt_or_eq.1 hj with hj | rfl
      · exact ht j hj
      · exact hbi
    · simp
      exact wrap_s i (by omega)
  · rw [decide_eq_false_iff_not] at h
    have hf : freeF ops order y = true := by
      unfold freeF
      rw [List.all_eq_true]
      intro j hj
      rw [ht j (by have := List.mem_range.1 hj; omega)]
      rfl
    refine AW.st teOk [] (by simp [-Option.some.injEq] <;> rfl) trivial ?_
    refine AW.ret ⟨.inr rfl, _, Weak.refl _, ?_⟩
    simp [hf]
end Go.Proofs.YtphlhadgcfndhaaGreat.Abs
end
section
namespace Go.Proofs.YtphlhadgcfndhaaGreat.Abs
open Go Go.RowKit
set_option linter.unusedVariables false
set_option linter.unusedSimpArgs false
set_option maxHeartbeats 4000000
set_option maxRecDepth 8000
def KiOk (ops : List OpS) : Prop := ∀ o ∈ ops, o.kind = 1 ∨ o.kind = 2 ∨ o.kind = 3
theorem rstepK_pure {N : Nat} {vs : List HV} (h : VOk N vs) (hN : N < 90000) {o : OpS} (ho : o.ef.length ≤ 10) (hk : o.kind = 1 ∨ o.kind = 2 ∨ o.kind = 3) : Pure Tryz.prog 22 [.c (encHs vs), .agg (encOp o)] (.tup [.c (encHs (stepV vs o)), .c (cB (okV vs o))]) :=
  rstep_pure vs o h.asc (fun v hv => ⟨(h.el v hv).1, by have := (h.el v hv).2; omega⟩) (by have := h.len; omega) (by omega) hk (fun v hv => by have := (h.el v hv).2; omega)
theorem rreplay_pure (ops : List OpS) (l : List Int) (hn : ops.length < 1000000) (hl : l.length < 1000) (hE : EfOk ops) (hK : KiOk ops) : Pure Tryz.prog 14 [.agg (encHi ops), .c (encis l)] (.c (cI (replayS ops l))) := by
  have hin : rngS ops.length l = false → ∀ (i : Nat) (x : Int), l[i]? = some x → inR ops.length x = true := fun h i x hx => by
    cases hq : inR ops.length x with
    | true => rfl
    | false =>
      have := upTo_hit (f := fun _ x => !inR ops.length x) hx (by simp [hq])
      rw [show anyAt (fun _ x => !inR ops.length x) l = rngS ops.length l from rfl, h] at this
      cases this
  refine pure_of teOk Tryz.func14 (by kernel_rfl) (c := _) rfl (N := 143) rfl (rs := [Go.ResultVar.tmp 4]) rfl (by simp) fun base A w0 hA => ?_
  refine AW.st teOk [] (by simp [-Option.some.injEq] <;> rfl) trivial ?_
  refine AW.to (s2 := ⟨[(1, .c (encis l)), (2, .c (.fad (encHi ops)))], [], 0⟩) ((Weak.freeze 0 ⟨1, [encHi ops]⟩ [] _ (by simp) (flatOpsR ops)).trans (Weak.normT hA [1, 2] [] [] 0 _ (by simp) (by simp) (by simp [mapAt_nil]))) (by simp [mapAt_nil]) ?_
  refine AW.st teOk [] (by simp [-Option.some.injEq] <;> rfl) trivial ?_
  refine AW.st teOk [] (by simp [-Option.some.injEq] <;> rfl) ?_ ?_
  · first | trivial | omega
  refine AW.to (s2 := ⟨[(1, .c (encis l)), (2, .c (.fad (encHi ops))), (5, .c (encOps ops)), (6, .c (.ref 0 0 ops.length))], [(0, ⟨1, hadL ops.length []⟩)], 1⟩) (Weak.normT hA [1, 2, 5, 6] [(6, 0)] [] 1 _ (by simp) (by simp) (by simp; have := flat_hadL ops.length []; rw [hadL_0] at this; exact this)) (by simp [hadL_0]) ?_
  refine AW.mid (fun s => rngS ops.length l = false ∧ s = ⟨[(1, .c (encis l)), (2, .c (.fad (encHi ops))), (5, .c (encOps ops)), (6, .c (.ref 0 0 ops.length))], [(0, ⟨1, hadL ops.length []⟩)], 1⟩) ?_ ?_
  · refine AW.st teOk [] (by simp [-Option.some.injEq] <;> rfl) trivial ?_
    refine AW.block (AW.loop (fun m s => ∃ i : Nat, m = l.length - i ∧ i ≤ l.length ∧ upTo (fun _ x => !inR ops.length x) l i = false ∧ s = ⟨[(1, .c (encis l)), (2, .c (.fad (encHi ops))), (5, .c (encOps ops)), (6, .c (.ref 0 0 ops.length)), (7, .c (cI i))], [(0, ⟨1, hadL ops.length []⟩)], 1⟩) _ (Weak.normT hA [1, 2, 5, 6, 7] [(6, 0)] [] 1 _ (by simp) (by simp) (by simp)) ⟨0, rfl, Nat.zero_le _, rfl, by simp⟩ ?_)
    rintro m s ⟨i, rfl, hi, hno, rfl⟩
    refine AW.seq ?_
    refine AW.st teOk [] (by simp [-Option.some.injEq] <;> rfl) trivial ?_
    refine AW.iff (decide (i < l.length)) (by simp) (fun h => AW.skip ?_) (fun h => AW.exit (x_then (x_then (blockA_exit ?_))))
    · rw [decide_eq_true_eq] at h
      obtain ⟨x, he⟩ : ∃ e, l[i]? = some e := ⟨_, List.getElem?_eq_getElem h⟩
      refine AW.seq (AW.block ?_)
      cases hx0 : decide (x < 0) with
      | true =>
        refine AW.st teOk [] (by simp [he, hx0, -Option.some.injEq] <;> rfl) ?_ ?_
        · first | trivial | omega | (simp; omega)
        refine AW.iff true (by simp) (fun _ => ?_) (fun h => by cases h)
        refine AW.st teOk [] (by simp [-Option.some.injEq] <;> rfl) trivial ?_
        refine AW.ret ⟨.inr rfl, _, Weak.refl _, ?_⟩
        have hb : rngS ops.length l = true := upTo_hit he (by simp [inR]; simp at hx0; omega)
        simp [replayS, chkS, hb]
      | false =>
        refine AW.st teOk [] (by simp [he, hx0, -Option.some.injEq] <;> rfl) ?_ ?_
        · first | trivial | omega | (simp; omega)
        refine AW.iff (decide (x ≥ ops.length)) (by simp) (fun g => ?_) (fun g => AW.skip ?_)
        · refine AW.st teOk [] (by simp [-Option.some.injEq] <;> rfl) trivial ?_
          refine AW.ret ⟨.inr rfl, _, Weak.refl _, ?_⟩
          have hb : rngS ops.length l = true := upTo_hit he (by simp [inR]; simp at g; omega)
          simp [replayS, chkS, hb]
        · refine AW.text teOk (ans := []) (by simp [-Option.some.injEq] <;> rfl) ?_ ?_
          · trivial
          refine ⟨_, _, Weak.normT hA [1, 2, 5, 6, 7] [(6, 0)] [] 1 _ (by simp) (by simp) (by simp), ?_, i + 1, rfl, h, ?_, ?_⟩
          · omega
          · rw [upTo_s he, hno]
            simp [inR]
            simp at hx0 g
            omega
          · simp
            exact wrap_s i (by omega)
    · rw [decide_eq_false_iff_not] at h
      have : i = l.length := by omega
      subst this
      exact ⟨_, Weak.normT hA [1, 2, 5, 6] [(6, 0)] [] 1 _ (by simp) (by simp) (by simp), hno, by simp⟩
  rintro s ⟨h1, rfl⟩
  refine AW.mid (fun s => dupS l = false ∧ s = ⟨[(1, .c (encis l)), (2, .c (.fad (encHi ops))), (5, .c (encOps ops)), (6, .c (.ref 0 0 ops.length))], [(0, ⟨1, hadL ops.length l⟩)], 1⟩) ?_ ?_
  · refine AW.st teOk [] (by simp [-Option.some.injEq] <;> rfl) trivial ?_
    refine AW.block (AW.loop (fun m s => ∃ i : Nat, m = l.length - i ∧ i ≤ l.length ∧ upTo (fun b x => b.contains x) l i = false ∧ s = ⟨[(1, .c (encis l)), (2, .c (.fad (encHi ops))), (5, .c (encOps ops)), (6, .c (.ref 0 0 ops.length)), (8, .c (cI i))], [(0, ⟨1, hadL ops.length (l.take i)⟩)], 1⟩) _ (Weak.normT hA [1, 2, 5, 6, 8] [(6, 0)] [] 1 _ (by simp) (by simp) (by simp)) ⟨0, rfl, Nat.zero_le _, rfl, by simp⟩ ?_)
    rintro m s ⟨i, rfl, hi, hno, rfl⟩
    refine AW.seq ?_
    refine AW.st teOk [] (by simp [-Option.some.injEq] <;> rfl) trivial ?_
    refine AW.iff (decide (i < l.length)) (by simp) (fun h => AW.skip ?_) (fun h => AW.exit (x_then (x_then (blockA_exit ?_))))
    · rw [decide_eq_true_eq] at h
      obtain ⟨x, he⟩ : ∃ e, l[i]? = some e := ⟨_, List.getElem?_eq_getElem h⟩
      have hix := hin h1 i x he
      have hget := hadL_get (l := l.take i) hix
      obtain ⟨_, _, _, hx3, hx4⟩ := opAt_some hix
      refine AW.seq (AW.block ?_)
      refine AW.seq ?_
      refine AW.st teOk [] (by simp [he, hget, -Option.some.injEq] <;> rfl) ?_ ?_
      · first | omega | (simp; omega)
      refine AW.iff ((l.take i).contains x) (by simp) (fun g => ?_) (fun g => AW.skip ?_)
      · refine AW.st teOk [] (by simp [-Option.some.injEq] <;> rfl) trivial ?_
        refine AW.ret ⟨.inr rfl, _, Weak.refl _, ?_⟩
        have hb : dupS l = true := upTo_hit (f := fun b x => b.contains x) he g
        simp [replayS, chkS, h1, hb]
      · refine AW.text teOk (ans := []) (by simp [he, hget, -Option.some.injEq] <;> rfl) ?_ ?_
        · first | omega | (simp; omega)
        refine AW.text teOk (ans := []) (by simp [-Option.some.injEq] <;> rfl) ?_ ?_
        · trivial
        refine ⟨_, _, Weak.normT hA [1, 2, 5, 6, 8] [(6, 0)] [] 1 _ (by simp) (by simp) (by simp; exact hadL_set hix ▸ flat_hadL _ _), ?_, i + 1, rfl, h, ?_, ?_⟩
        · omega
        · rw [upTo_s he, hno, g]; rfl
        · have ht : l.take (i + 1) = l.take i ++ [x] := by rw [List.take_add_one, he]; rfl
          rw [ht, ← hadL_set hix]
          simp
          exact wrap_s i (by omega)
    · rw [decide_eq_false_iff_not] at h
      have : i = l.length := by omega
      subst this
      rw [List.take_length]
      exact ⟨_, Weak.normT hA [1, 2, 5, 6] [(6, 0)] [] 1 _ (by simp) (by simp) (by simp), hno, by simp⟩
  rintro s ⟨h2, rfl⟩
  refine AW.mid (fun s => misS ops l = false ∧ s = ⟨[(1, .c (encis l)), (2, .c (.fad (encHi ops))), (5, .c (encOps ops))], [], 0⟩) ?_ ?_
  · refine AW.st teOk [] (by simp [-Option.some.injEq] <;> rfl) trivial ?_
    refine AW.block (AW.loop (fun m s => ∃ i : Nat, m = ops.length - i ∧ i ≤ ops.length ∧ upTo (fun b o => reqB o && !l.contains (b.length : Int)) ops i = false ∧ s = ⟨[(1, .c (encis l)), (2, .c (.fad (encHi ops))), (5, .c (encOps ops)), (6, .c (.ref 0 0 ops.length)), (9, .c (cI i))], [(0, ⟨1, hadL ops.length l⟩)], 1⟩) _ (Weak.normT hA [1, 2, 5, 6, 9] [(6, 0)] [] 1 _ (by simp) (by simp) (by simp)) ⟨0, rfl, Nat.zero_le _, rfl, by simp⟩ ?_)
    rintro m s ⟨i, rfl, hi, hno, rfl⟩
    refine AW.seq ?_
    refine AW.st teOk [] (by simp [-Option.some.injEq] <;> rfl) trivial ?_
    refine AW.iff (decide (i < ops.length)) (by simp) (fun h => AW.skip ?_) (fun h => AW.exit (x_then (x_then (blockA_exit ?_))))
    · rw [decide_eq_true_eq] at h
      obtain ⟨o, he⟩ : ∃ e, ops[i]? = some e := ⟨_, List.getElem?_eq_getElem h⟩
      have hix : inR ops.length (i : Int) = true := by simp [inR]; omega
      have hget := hadL_get (l := l) hix
      rw [Int.toNat_natCast] at hget
      have hbl : (ops.take i).length = i := by rw [List.length_take]; omega
      have hrq := rneed_pure o
      refine AW.seq (AW.block ?_)
      cases hr : reqB o with
      | false =>
        rw [hr] at hrq
        refine AW.st teOk [.fz (.c (cB false))] (by simp [he, -Option.some.injEq] <;> rfl) ?_ ?_
        · first | exact hrq | exact ⟨by omega, hrq⟩
        refine AW.iff false (by simp) (fun h => by cases h) (fun _ => AW.skip ?_)
        refine AW.text teOk (ans := []) (by simp [-Option.some.injEq] <;> rfl) ?_ ?_
        · trivial
        refine ⟨_, _, Weak.normT hA [1, 2, 5, 6, 9] [(6, 0)] [] 1 _ (by simp) (by simp) (by simp), ?_, i + 1, rfl, h, ?_, ?_⟩
        · omega
        · rw [upTo_s he, hno, hr]; rfl
        · simp
          exact wrap_s i (by omega)
      | true =>
        rw [hr] at hrq
        refine AW.st teOk [.fz (.c (cB true))] (by simp [he, hget, -Option.some.injEq] <;> rfl) ?_ ?_
        · first | exact hrq | exact ⟨by omega, hrq⟩ | exact ⟨by omega, hrq, by omega⟩
        refine AW.iff (!l.contains (i : Int)) (by simp) (fun g => ?_) (fun g => AW.skip ?_)
        · refine AW.st teOk [] (by simp [-Option.some.injEq] <;> rfl) trivial ?_
          refine AW.ret ⟨.inr rfl, _, Weak.refl _, ?_⟩
          have hb : misS ops l = true := upTo_hit (f := fun b o => reqB o && !l.contains (b.length : Int)) he (by rw [hr, hbl, g]; rfl)
          simp [replayS, chkS, h1, h2, hb]
        · refine AW.text teOk (ans := []) (by simp [-Option.some.injEq] <;> rfl) ?_ ?_
          · trivial
          refine ⟨_, _, Weak.normT hA [1, 2, 5, 6, 9] [(6, 0)] [] 1 _ (by simp) (by simp) (by simp), ?_, i + 1, rfl, h, ?_, ?_⟩
          · omega
          · rw [upTo_s he, hno, hbl, g]; simp
          · simp
            exact wrap_s i (by omega)
    · rw [decide_eq_false_iff_not] at h
      have : i = ops.length := by omega
      subst this
      exact ⟨_, Weak.normT hA [1, 2, 5] [] [] 0 _ (by simp) (by simp) (by simp), hno, by simp⟩
  rintro s ⟨h3, rfl⟩
  refine AW.mid (fun s => penS ops l = false ∧ s = ⟨[(1, .c (encis l)), (2, .c (.fad (encHi ops))), (5, .c (encOps ops))], [], 0⟩) ?_ ?_
  · refine AW.st teOk [] (by simp [-Option.some.injEq] <;> rfl) trivial ?_
    refine AW.block (AW.loop (fun m s => ∃ i : Nat, m = l.length - i ∧ i ≤ l.length ∧ upTo (fun _ x => match opAt ops x with
      | some o => penB o
      | none => false) l i = false ∧ s = ⟨[(1, .c (encis l)), (2, .c (.fad (encHi ops))), (5, .c (encOps ops)), (10, .c (cI i))], [], 0⟩) _ (Weak.normT hA [1, 2, 5, 10] [] [] 0 _ (by simp) (by simp) (by simp)) ⟨0, rfl, Nat.zero_le _, rfl, by simp⟩ ?_)
    rintro m s ⟨i, rfl, hi, hno, rfl⟩
    refine AW.seq ?_
    refine AW.st teOk [] (by simp [-Option.some.injEq] <;> rfl) trivial ?_
    refine AW.iff (decide (i < l.length)) (by simp) (fun h => AW.skip ?_) (fun h => AW.exit (x_then (x_then (blockA_exit ?_))))
    · rw [decide_eq_true_eq] at h
      obtain ⟨x, he⟩ : ∃ e, l[i]? = some e := ⟨_, List.getElem?_eq_getElem h⟩
      obtain ⟨o, ho, hx2, hx3, hx4⟩ := opAt_some (hin h1 i x he)
      refine AW.mid (fun s => penB o = false ∧ s = ⟨[(1, .c (encis l)), (2, .c (.fad (encHi ops))), (5, .c (encOps ops)), (10, .c (cI i))], [], 0⟩) (AW.block ?_) ?_
      · refine AW.st teOk [] (by simp [he, hx2, -Option.some.injEq] <;> rfl) ?_ ?_
        · first | trivial | omega | (simp; omega)
        cases hk : o.kind != 1 with
        | false =>
          refine AW.st teOk [] (by simp [hk, -Option.some.injEq] <;> rfl) trivial ?_
          refine AW.iff false (by simp) (fun h => by cases h) (fun _ => AW.skip ?_)
          exact ⟨_, Weak.normT hA [1, 2, 5, 10] [] [] 0 _ (by simp) (by simp) (by simp), by simp [penB, hk], by simp⟩
        | true =>
          refine AW.st teOk [] (by simp [hk, -Option.some.injEq] <;> rfl) trivial ?_
          refine AW.iff (o.ret == 0) (by simp) (fun g => ?_) (fun g => AW.skip ?_)
          · refine AW.st teOk [] (by simp [-Option.some.injEq] <;> rfl) trivial ?_
            refine AW.ret ⟨.inr rfl, _, Weak.refl _, ?_⟩
            have hb : penS ops l = true := upTo_hit he (by simp [ho, penB, hk]; simpa using g)
            simp [replayS, chkS, h1, h2, h3, hb]
          · exact ⟨_, Weak.normT hA [1, 2, 5, 10] [] [] 0 _ (by simp) (by simp) (by simp), by simp [penB, g], by simp⟩
      rintro s ⟨hpb, rfl⟩
      refine AW.text teOk (ans := []) (by simp [-Option.some.injEq] <;> rfl) ?_ ?_
      · trivial
      refine ⟨_, _, Weak.normT hA [1, 2, 5, 10] [] [] 0 _ (by simp) (by simp) (by simp), ?_, i + 1, rfl, h, ?_, ?_⟩
      · omega
      · rw [upTo_s he, hno]
        simp [ho, hpb]
      · simp
        exact wrap_s i (by omega)
    · rw [decide_eq_false_iff_not] at h
      have : i = l.length := by omega
      subst this
      exact ⟨_, Weak.normT hA [1, 2, 5] [] [] 0 _ (by simp) (by simp) (by simp), hno, by simp⟩
  rintro s ⟨h4, rfl⟩
  refine AW.mid (fun s => ordS ops l = false ∧ s = ⟨[(1, .c (encis l)), (2, .c (.fad (encHi ops))), (5, .c (encOps ops))], [], 0⟩) ?_ ?_
  · refine AW.st teOk [] (by simp [-Option.some.injEq] <;> rfl) trivial ?_
    refine AW.block (AW.loop (fun m s => ∃ i : Nat, m = l.length - i ∧ i ≤ l.length ∧ upTo (fun b x => anyAt (fun _ y => preS ops x y) b) l i = false ∧ s = ⟨[(1, .c (encis l)), (2, .c (.fad (encHi ops))), (5, .c (encOps ops)), (12, .c (cI i))], [], 0⟩) _ (Weak.normT hA [1, 2, 5, 12] [] [] 0 _ (by simp) (by simp) (by simp)) ⟨0, rfl, Nat.zero_le _, rfl, by simp⟩ ?_)
    rintro m s ⟨i, rfl, hi, hno, rfl⟩
    refine AW.seq ?_
    refine AW.st teOk [] (by simp [-Option.some.injEq] <;> rfl) trivial ?_
    refine AW.iff (decide (i < l.length)) (by simp) (fun h => AW.skip ?_) (fun h => AW.exit (x_then (x_then (blockA_exit ?_))))
    · rw [decide_eq_true_eq] at h
      obtain ⟨x, he⟩ : ∃ e, l[i]? = some e := ⟨_, List.getElem?_eq_getElem h⟩
      obtain ⟨o1, ho1, hx2, hx3, hx4⟩ := opAt_some (hin h1 i x he)
      refine AW.mid (fun s => anyAt (fun _ y => preS ops x y) (l.take i) = false ∧ s = ⟨[(1, .c (encis l)), (2, .c (.fad (encHi ops))), (5, .c (encOps ops)), (12, .c (cI i))], [], 0⟩) (AW.block ?_) ?_
      · refine AW.st teOk [] (by simp [-Option.some.injEq] <;> rfl) trivial ?_
        refine AW.block (AW.loop (fun m s => ∃ k : Nat, m = i - k ∧ k ≤ i ∧ upTo (fun _ y => preS ops x y) (l.take i) k = false ∧ s = ⟨[(1, .c (encis l)), (2, .c (.fad (encHi ops))), (5, .c (encOps ops)), (12, .c (cI i)), (13, .c (cI k))], [], 0⟩) _ (Weak.normT hA [1, 2, 5, 12, 13] [] [] 0 _ (by simp) (by simp) (by simp)) ⟨0, rfl, Nat.zero_le _, rfl, by simp⟩ ?_)
        rintro m s ⟨k, rfl, hk, hno2, rfl⟩
        refine AW.seq ?_
        refine AW.st teOk [] (by simp [-Option.some.injEq] <;> rfl) trivial ?_
        refine AW.iff (decide (k < i)) (by simp) (fun h' => AW.skip ?_) (fun h' => AW.exit (x_then (x_then (blockA_exit ?_))))
        · rw [decide_eq_true_eq] at h'
          obtain ⟨y, hy⟩ : ∃ e, l[k]? = some e := ⟨_, List.getElem?_eq_getElem (by omega)⟩
          have hyt : (l.take i)[k]? = some y := by rw [List.getElem?_take_of_lt h']; exact hy
          obtain ⟨o2, ho2, hy2, hy3, hy4⟩ := opAt_some (hin h1 k y hy)
          have hpr := rprec_pure ops x.toNat y.toNat o1 o2 hx2 hy2
          rw [show ((x.toNat : Nat) : Int) = x by omega, show ((y.toNat : Nat) : Int) = y by omega] at hpr
          have hps : preS ops x y = preB o1 o2 := by unfold preS; rw [ho1, ho2]
          refine AW.seq (AW.block ?_)
          refine AW.dr mixed teOk [.c (cB (preB o1 o2))] (by simp [he, hy, -Option.some.injEq] <;> rfl) (by kernel_rfl) (by kernel_rfl) ?_ ?_
          · simp [allP]
            first | exact hpr | exact ⟨by omega, by omega, hpr⟩ | exact ⟨⟨by omega, by omega⟩, hpr⟩ | skip
          refine AW.iff (preB o1 o2) (by simp) (fun g => ?_) (fun g => AW.skip ?_)
          · refine AW.st teOk [] (by simp [-Option.some.injEq] <;> rfl) trivial ?_
            refine AW.ret ⟨.inr rfl, _, Weak.refl _, ?_⟩
            have hb : ordS ops l = true := upTo_hit (f := fun b x => anyAt (fun _ y => preS ops x y) b) he (upTo_hit (f := fun _ y => preS ops x y) hyt (by rw [hps, g]))
            simp [replayS, chkS, h1, h2, h3, h4, hb]
          · refine AW.text teOk (ans := []) (by simp [-Option.some.injEq] <;> rfl) ?_ ?_
            · trivial
            refine ⟨_, _, Weak.normT hA [1, 2, 5, 12, 13] [] [] 0 _ (by simp) (by simp) (by simp), ?_, k + 1, rfl, h', ?_, ?_⟩
            · omega
            · rw [upTo_s hyt, hno2, hps, g]; rfl
            · simp
              exact wrap_s k (by omega)
        · rw [decide_eq_false_iff_not] at h'
          have hki : k = i := by omega
          subst hki
          have hlk : (l.take k).length = k := by rw [List.length_take]; omega
          have hall := upTo_all (fun _ y => preS ops x y) (l.take k)
          rw [hlk, hno2] at hall
          exact ⟨_, Weak.normT hA [1, 2, 5, 12] [] [] 0 _ (by simp) (by simp) (by simp), hall.symm, by simp⟩
      rintro s ⟨hanb, rfl⟩
      refine AW.text teOk (ans := []) (by simp [-Option.some.injEq] <;> rfl) ?_ ?_
      · trivial
      refine ⟨_, _, Weak.normT hA [1, 2, 5, 12] [] [] 0 _ (by simp) (by simp) (by simp), ?_, i + 1, rfl, h, ?_, ?_⟩
      · omega
      · rw [upTo_s he, hno, hanb]; rfl
      · simp
        exact wrap_s i (by omega)
    · rw [decide_eq_false_iff_not] at h
      have : i = l.length := by omega
      subst this
      exact ⟨_, Weak.normT hA [1, 2, 5] [] [] 0 _ (by simp) (by simp) (by simp), hno, by simp⟩
  rintro s ⟨h5, rfl⟩
  have hin := hin h1
  have hrs : replayS ops l = if (runS ops [] l).isSome = true then 0 else 17 := by simp [replayS, chkS, h1, h2, h3, h4, h5]
  rw [hrs]
  refine AW.st teOk [] (by simp [-Option.some.injEq] <;> rfl) trivial ?_
  refine AW.weak (Weak.le 14 _ (v' := .c (encHs [])) (by simp <;> rfl) (.c (.nil 10))) ?_
  refine AW.seq ?_
  refine AW.st teOk [] (by simp [-Option.some.injEq] <;> rfl) trivial ?_
  refine AW.block (AW.loop (fun m s => ∃ (i : Nat) (vs : List HV), m = l.length - i ∧ i ≤ l.length ∧ VOk (10 * i) vs ∧ runS ops [] l = runS ops vs (l.drop i) ∧ s = ⟨[(1, .c (encis l)), (2, .c (.fad (encHi ops))), (5, .c (encOps ops)), (14, .c (encHs vs)), (15, .c (cI i))], [], 0⟩) _ (Weak.normT hA [1, 2, 5, 14, 15] [] [] 0 _ (by simp [putT]) (by simp [putT]) (by simp [putT])) ⟨0, [], rfl, Nat.zero_le _, VOk.nil, rfl, by simp [putT]⟩ ?_)
  rintro m s ⟨i, vs, rfl, hi, hv, hr, rfl⟩
  refine AW.seq ?_
  refine AW.st teOk [] (by simp [-Option.some.injEq] <;> rfl) trivial ?_
  refine AW.iff (decide (i < l.length)) (by simp) (fun h => AW.skip ?_) (fun h => AW.exit (x_then (x_then (blockA_exit ?_))))
  · rw [decide_eq_true_eq] at h
    obtain ⟨x, he⟩ : ∃ e, l[i]? = some e := ⟨_, List.getElem?_eq_getElem h⟩
    obtain ⟨o, ho, hx2, hx3, hx4⟩ := opAt_some (hin i x he)
    have hef := hE o (List.mem_of_getElem? hx2)
    have hki := hK o (List.mem_of_getElem? hx2)
    have hd : l.drop i = x :: l.drop (i + 1) := by
      rw [List.drop_eq_getElem_cons h]
      congr 1
      rw [List.getElem?_eq_getElem h] at he
      exact Option.some.inj he
    have hst := rstepK_pure hv (by omega) hef hki
    refine AW.seq (AW.block ?_)
    refine AW.st teOk [.fz (.tup [.c (encHs (stepV vs o)), .c (cB (okV vs o))])] (by simp [he, hx2, -Option.some.injEq] <;> rfl) ?_ ?_
    · refine ⟨?_, ?_, hst⟩ <;> omega
    refine AW.seq ?_
    refine AW.st teOk [] (by simp [-Option.some.injEq] <;> rfl) trivial ?_
    cases hok : okV vs o with
    | false =>
      refine AW.iff true (by simp [hok]) (fun _ => ?_) (fun h => by cases h)
      refine AW.st teOk [] (by simp [-Option.some.injEq] <;> rfl) trivial ?_
      refine AW.ret ⟨.inr rfl, _, Weak.refl _, ?_⟩
      rw [hr, hd, runS, ho]
      simp [hok]
    | true =>
      refine AW.iff false (by simp [hok]) (fun h => by cases h) (fun _ => AW.skip ?_)
      refine AW.text teOk (ans := []) (by simp [-Option.some.injEq] <;> rfl) ?_ ?_
      · trivial
      refine AW.text teOk (ans := []) (by simp [-Option.some.injEq] <;> rfl) ?_ ?_
      · trivial
      refine ⟨_, _, Weak.normT hA [1, 2, 5, 14, 15] [] [] 0 _ (by simp) (by simp) (by simp), ?_, i + 1, stepV vs o, rfl, h, (hv.step o).le (by omega), ?_, ?_⟩
      · omega
      · rw [hr, hd, runS, ho]
        simp [hok]
      · simp
        exact wrap_s i (by omega)
  · rw [decide_eq_false_iff_not] at h
    refine AW.st teOk [] (by simp [-Option.some.injEq] <;> rfl) trivial ?_
    refine AW.ret ⟨.inr rfl, _, Weak.refl _, ?_⟩
    rw [hr, List.drop_eq_nil_of_le (by omega), runS]
    simp
end Go.Proofs.YtphlhadgcfndhaaGreat.Abs
end
