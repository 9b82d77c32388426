/- AgreementValid. -/
import Derived.Test.YtopcklnnkpjanaaWAEnds
namespace Go.Proofs.Ytopcklnnkpjanaa.Abs
open Go Go.RowKit
set_option linter.unusedVariables false
set_option linter.unusedSimpArgs false
set_option maxHeartbeats 4000000
/-- The join of some inputs. -/
def joinL (a : V2) (l : List V2) : V2 := l.foldl (fun a v => mergeI true a v) a
def joinLs (a : V2) (L : List (List V2)) : V2 := L.foldl joinL a
theorem joinL_ok : ∀ (l : List V2) {a : V2}, V4 a → (∀ v ∈ l, V4 v) → V4 (joinL a l) ∧ Sub a (joinL a l) ∧ ∀ v ∈ l, Sub v (joinL a l)
  | [], a, ha, _ => ⟨ha, Sub.refl a, (fun v hv => by cases hv)⟩
  | x :: l, a, ha, h => by
    have hx := h x (by simp)
    obtain ⟨h1, h2, h3⟩ := joinL_ok l (ha.merge hx) fun v hv => h v (by simp [hv])
    refine ⟨h1, (sub_l ha.val hx.val).trans h2, fun v hv => ?_⟩
    rcases List.mem_cons.1 hv with rfl | hv
    · exact (sub_r ha.val hx.val).trans h2
    · exact h3 v hv
theorem joinLs_ok : ∀ (L : List (List V2)) {a : V2}, V4 a → (∀ l ∈ L, ∀ v ∈ l, V4 v) → V4 (joinLs a L) ∧ Sub a (joinLs a L) ∧ ∀ l ∈ L, ∀ v ∈ l, Sub v (joinLs a L)
  | [], a, ha, _ => ⟨ha, Sub.refl a, (fun v hv => by cases hv)⟩
  | l :: L, a, ha, h => by
    obtain ⟨g1, g2, g3⟩ := joinL_ok l ha (h l (by simp))
    obtain ⟨h1, h2, h3⟩ := joinLs_ok L g1 fun v hv => h v (by simp [hv])
    refine ⟨h1, g2.trans h2, fun x hx v hv => ?_⟩
    rcases List.mem_cons.1 hx with rfl | hx
    · exact (g3 v hv).trans h2
    · exact h3 x hx v hv
theorem joinL_app (a : V2) (l : List V2) (x : V2) : joinL a (l ++ [x]) = mergeI true (joinL a l) x := by
  unfold joinL
  rw [List.foldl_append]
  rfl
theorem joinLs_app (a : V2) (L : List (List V2)) (x : List V2) : joinLs a (L ++ [x]) = joinL (joinLs a L) x := by
  unfold joinLs
  rw [List.foldl_append]
  rfl
def allV (l : List Int) : V2 := joinLs [] (inputsI l)
theorem endG_V (l s : List Int) : InvV (allV l) (endG l s) := by
  obtain ⟨h1, _, h3⟩ := joinLs_ok (inputsI l) V4.nil fun x hx => ((inputs_ok l).all x hx).2
  exact endG_keep l s (InvV (allV l)) keep_V (new_V h1.val h3)
structure DecOk (I : List (List V2)) (all : V2) (d : DeS) : Prop where
  ex : ∃ (i j : Nat) (x : List V2) (v : V2), d.prop = i ∧ d.input = j ∧ I[i]? = some x ∧ x[j]? = some v ∧ leI v d.v = true ∧ v.length ≤ 4
  all : leI d.v all = true
theorem endG_ok (l s : List Int) {d : DeS} (hd : d ∈ (endG l s).decs) : DecOk (inputsI l) (allV l) d := by
  have h := endG_V l s
  have hw := endG_W l s
  have hall := (joinLs_ok (inputsI l) V4.nil fun x hx => ((inputs_ok l).all x hx).2).1
  obtain ⟨h1, i, x, p, v, e1, e2, e3, e4, e5, _, _⟩ := h.de d hd
  rw [(endG_fix l s).2] at e2
  have hv := ((inputs_ok l).all x (List.mem_of_getElem? e2)).2 v (List.mem_of_getElem? e4)
  have hdv := (hw.d d hd).val
  exact ⟨⟨i, d.input.toNat, x, v, e1, by omega, e2, e4, (leI_sub hv.val hdv).2 e5, hv.le⟩, (leI_sub hdv hall.val).2 h1⟩
theorem endG_or (l s : List Int) {i k : Nat} {d e : DeS} (hik : k < i) (hd : (endG l s).decs[i]? = some d) (he : (endG l s).decs[k]? = some e) (hp : e.prop = d.prop) : leI e.v d.v = true := by
  have h := endG_V l s
  have hw := endG_W l s
  obtain ⟨hi1, hi2⟩ := List.getElem?_eq_some_iff.1 hd
  obtain ⟨hk1, hk2⟩ := List.getElem?_eq_some_iff.1 he
  have := (List.pairwise_iff_getElem.1 h.or) k i hk1 hi1 hik
  rw [hi2, hk2] at this
  rw [leI_sub (hw.d e (List.mem_of_getElem? he)).val (hw.d d (List.mem_of_getElem? hd)).val]
  exact this hp
theorem mjoin_pure {u v : V2} (hu : V4 u) (hv : V4 v) : Pure Try.prog 20 [.c (encV u), .c (encV v)] (.c (encV (mergeI true u v))) := by
  have := rjoin_pure u v (fun e he => hv.val.1 e he) (by have := hu.le; have := hv.le; omega)
  rwa [rjoin_merge hu.val hv.val] at this
theorem avalid_pure (l s : List Int) (hl : l.length < 4000000000000000000) (hs : s.length < 4000000000000000000) : Pure Try.prog 14 [.c (encIs l), .c (encIs s)] (.c (cB true)) := by
  have haw := awake17_pure
  refine pure_of teOk Try.func14 (by kernel_rfl) (c := _) rfl (N := 137) rfl (rs := [Go.ResultVar.tmp 4]) rfl (by simp) fun base A w0 hA => ?_
  refine AW.st teOk [] (by simp [-Option.some.injEq] <;> rfl) trivial ?_
  refine AW.seq ?_
  by_cases h150 : (s.length : Int) > 150
  · refine AW.st teOk [] (by simp [h150, -Option.some.injEq] <;> rfl) trivial ?_
    refine AW.iff true (by simp) (fun _ => ?_) (fun h => by cases h)
    refine AW.st teOk [.fz (.c (cB true))] (by simp [-Option.some.injEq] <;> rfl) ?_ ?_
    · exact haw
    refine AW.ret ⟨.inr rfl, _, Weak.refl _, ?_⟩
    simp
  refine AW.st teOk [] (by simp [h150, -Option.some.injEq] <;> rfl) trivial ?_
  refine AW.iff false (by simp) (fun h => by cases h) (fun _ => AW.skip ?_)
  have p1 := size_pure l hl
  have p2 := inputs_pure l hl
  have p3 := newl_pure' l
  have p4 := runl_pure' l s (by omega)
  have p5 := endl_pure l s (by omega)
  have hok := fun {d : DeS} => endG_ok l s (d := d)
  have hor := fun {i k : Nat} {d e : DeS} => endG_or l s (i := i) (k := k) (d := d) (e := e)
  have hw := endG_W l s
  have hdl := hw.dl
  have hdv := fun d hd => (hw.d d hd).le
  have hin := inputs_ok l
  have hal := (joinLs_ok (inputsI l) V4.nil fun x hx => ((inputs_ok l).all x hx).2).1
  change V4 (allV l) at hal
  have hall : allV l = joinLs [] (inputsI l) := rfl
  generalize allV l = all at *
  generalize endG l s = G at *
  generalize runS (newG (sizeN l) (inputsI l)) s = G1 at *
  generalize newG (sizeN l) (inputsI l) = G0 at *
  generalize inputsI l = I at *
  have hil := hin.len
  refine AW.st teOk [.fz (.c (.row 1 false (I.map encIn)))] (by simp [-Option.some.injEq] <;> rfl) ?_ ?_
  · exact p2
  refine AW.st teOk [] (by simp [-Option.some.injEq] <;> rfl) trivial ?_
  refine AW.mid (fun s' => s' = ⟨[(0, .c (encIs l)), (1, .c (encIs s)), (5, .c (.row 1 false (I.map encIn))), (6, .c (encV all))], [], 0⟩) ?_ ?_
  · refine AW.weak (Weak.le 6 _ (v' := .c (encV [])) (by simp <;> rfl) (.c (nil_cell 2))) ?_
    refine AW.st teOk [] (by simp [-Option.some.injEq] <;> rfl) trivial ?_
    refine AW.block (AW.loop (fun m s' => ∃ done rest, m = rest.length ∧ I = done ++ rest ∧ s' = ⟨[(0, .c (encIs l)), (1, .c (encIs s)), (5, .c (.row 1 false (I.map encIn))), (6, .c (encV (joinLs [] done))), (7, .c (cI done.length))], [], 0⟩) _ (Weak.normS hA [0, 1, 5, 6, 7] [] [] [] 0 _ (by simp) (by simp) (by simp)) ⟨[], I, rfl, rfl, by simp [joinLs]⟩ ?_)
    rintro m s' ⟨done, rest, rfl, hdr, rfl⟩
    have hlen : I.length = done.length + rest.length := by rw [hdr, List.length_append]
    refine AW.seq ?_
    refine AW.st teOk [] (by simp [-Option.some.injEq] <;> rfl) trivial ?_
    refine AW.iff (decide (done.length < I.length)) (by simp) (fun h => AW.skip ?_) (fun h => AW.exit (x_then (x_then (blockA_exit ?_))))
    · rw [decide_eq_true_eq] at h
      cases rest with
      | nil => simp at hlen; omega
      | cons x rest =>
      have hx : I[done.length]? = some x := by rw [hdr]; simp
      have hinc : IntKind.i64.wrap ((done.length : Int) + 1) = (done.length : Int) + 1 := wrap_s _ (by omega)
      obtain ⟨hxl, hxv⟩ := hin.all x (List.mem_of_getElem? hx)
      have hja := (joinLs_ok done V4.nil fun y hy => (hin.all y (by rw [hdr]; simp [hy])).2).1
      have happ := joinLs_app [] done x
      generalize joinLs [] done = a at *
      refine AW.mid (fun s' => s' = ⟨[(0, .c (encIs l)), (1, .c (encIs s)), (5, .c (.row 1 false (I.map encIn))), (6, .c (encV (joinL a x))), (7, .c (cI done.length))], [], 0⟩) (AW.block ?_) ?_
      · refine AW.st teOk [] (by simp [-Option.some.injEq] <;> rfl) trivial ?_
        refine AW.block (AW.loop (fun m s' => ∃ done2 rest2, m = rest2.length ∧ x = done2 ++ rest2 ∧ s' = ⟨[(0, .c (encIs l)), (1, .c (encIs s)), (5, .c (.row 1 false (I.map encIn))), (6, .c (encV (joinL a done2))), (7, .c (cI done.length)), (8, .c (cI done2.length))], [], 0⟩) _ (Weak.normS hA [0, 1, 5, 6, 7, 8] [] [] [] 0 _ (by simp) (by simp) (by simp)) ⟨[], x, rfl, rfl, by simp [joinL]⟩ ?_)
        rintro m s' ⟨done2, rest2, rfl, hdr2, rfl⟩
        have hlen2 : x.length = done2.length + rest2.length := by rw [hdr2, List.length_append]
        refine AW.seq ?_
        refine AW.st teOk [] (by simp [hx, -Option.some.injEq] <;> rfl) ?_ ?_
        · exact h
        refine AW.iff (decide (done2.length < x.length)) (by simp) (fun h2 => AW.skip ?_) (fun h2 => AW.exit (x_then (x_then (blockA_exit ?_))))
        · rw [decide_eq_true_eq] at h2
          cases rest2 with
          | nil => simp at hlen2; omega
          | cons y rest2 =>
          have hy : x[done2.length]? = some y := by rw [hdr2]; simp
          have hinc2 : IntKind.i64.wrap ((done2.length : Int) + 1) = (done2.length : Int) + 1 := wrap_s _ (by omega)
          have hj2 := (joinL_ok done2 hja fun v hv => hxv v (by rw [hdr2]; simp [hv])).1
          have happ2 := joinL_app a done2 y
          have hj := mjoin_pure hj2 (hxv y (List.mem_of_getElem? hy))
          rw [← happ2] at hj
          refine AW.seq (AW.block ?_)
          refine AW.text teOk (ans := [.fz (.c (encV (joinL a (done2 ++ [y]))))]) (by simp [hx, hy, -Option.some.injEq] <;> rfl) ?_ ?_
          · exact ⟨h, h2, hj⟩
          refine AW.text teOk (ans := []) (by simp [-Option.some.injEq] <;> rfl) ?_ ?_
          · trivial
          refine ⟨_, _, Weak.normS hA [0, 1, 5, 6, 7, 8] [] [] [] 0 _ (by simp) (by simp) (by simp), ?_, done2 ++ [y], rest2, rfl, by rw [hdr2, List.append_assoc]; rfl, ?_⟩
          · simp
          · simp [hinc2]
        have hend : done2 = x := by
          rw [decide_eq_false_iff_not] at h2
          have : rest2 = [] := List.eq_nil_of_length_eq_zero (by omega)
          rw [hdr2, this, List.append_nil]
        rw [hend]
        exact ⟨_, Weak.normS hA [0, 1, 5, 6, 7] [] [] [] 0 _ (by simp) (by simp) (by simp), by simp⟩
      rintro s' rfl
      refine AW.text teOk (ans := []) (by simp [-Option.some.injEq] <;> rfl) ?_ ?_
      · trivial
      refine ⟨_, _, Weak.normS hA [0, 1, 5, 6, 7] [] [] [] 0 _ (by simp) (by simp) (by simp), ?_, done ++ [x], rest, rfl, by rw [hdr, List.append_assoc]; rfl, ?_⟩
      · simp
      · simp [hinc, happ]
    have hend : done = I := by
      rw [decide_eq_false_iff_not] at h
      have : rest = [] := List.eq_nil_of_length_eq_zero (by omega)
      rw [hdr, this, List.append_nil]
    rw [hend, ← hall]
    exact ⟨_, Weak.normS hA [0, 1, 5, 6] [] [] [] 0 _ (by simp) (by simp) (by simp), by simp⟩
  rintro s' rfl
  refine AW.st teOk [.fz (.c (cI (sizeN l))), .fz (.agg (encGr G0)), .fz (.agg (encGr G1)), .fz (.agg (encGr G))] (by simp [-Option.some.injEq] <;> rfl) ?_ ?_
  · exact ⟨p1, p3, p4, p5⟩
  refine AW.seq ?_
  refine AW.st teOk [] (by simp [-Option.some.injEq] <;> rfl) trivial ?_
  refine AW.block (AW.loop (fun m s' => ∃ i : Nat, i ≤ G.decs.length ∧ m = G.decs.length - i ∧ s' = ⟨[(5, .c (.row 1 false (I.map encIn))), (6, .c (encV all)), (9, .c (.ptr 0 0 0)), (10, .c (cI i))], [(0, ⟨7, [encGr G]⟩)], 1⟩) _ (Weak.normS hA [5, 6, 9, 10] [(9, 0)] [] [] 1 _ (by simp) (by simp) (by simp)) ⟨0, Nat.zero_le _, rfl, by simp⟩ ?_)
  rintro m s' ⟨i, hi, rfl, rfl⟩
  refine AW.seq ?_
  refine AW.st teOk [] (by simp [-Option.some.injEq] <;> rfl) trivial ?_
  refine AW.iff (decide (i < G.decs.length)) (by simp) (fun h => AW.skip ?_) (fun h => AW.exit (x_then (x_then (blockA_exit ?_))))
  · rw [decide_eq_true_eq] at h
    have hinc : IntKind.i64.wrap ((i : Int) + 1) = (i : Int) + 1 := wrap_s _ (by omega)
    obtain ⟨d, hd⟩ : ∃ d, G.decs[i]? = some d := ⟨_, List.getElem?_eq_getElem h⟩
    have hdm := List.mem_of_getElem? hd
    refine AW.mid (fun s' => s' = ⟨[(5, .c (.row 1 false (I.map encIn))), (6, .c (encV all)), (9, .c (.ptr 0 0 0)), (10, .c (cI i))], [(0, ⟨7, [encGr G]⟩)], 1⟩) (AW.block ?_) ?_
    · obtain ⟨⟨pi, pj, x, v, e1, e2, hx, hv, hle, hvl⟩, hda⟩ := hok hdm
      have hdvl := hdv d hdm
      have q1 := rle_pure v d.v (by omega) (by omega)
      have q2 := rle_pure d.v all (by omega) (by have := hal.le; omega)
      rw [hle] at q1
      rw [hda] at q2
      have hpl : pi < I.length := (List.getElem?_eq_some_iff.1 hx).1
      have hjl : pj < x.length := (List.getElem?_eq_some_iff.1 hv).1
      have hpl' : ¬ ((pi : Int) ≥ I.length) := by omega
      have hjl' : ¬ ((pj : Int) ≥ x.length) := by omega
      have hp0 : ¬ ((pi : Int) < 0) := by omega
      have hj0 : ¬ ((pj : Int) < 0) := by omega
      refine AW.st teOk [] (by simp [hd, -Option.some.injEq] <;> rfl) ?_ ?_
      · exact h
      refine AW.seq ?_
      refine AW.dr mixed teOk [.c (cB true), .c (cB true)] (by simp [e1, e2, hx, hv, hpl', hjl', hp0, hj0, -Option.some.injEq] <;> rfl) (by kernel_rfl) (by kernel_rfl) ?_ ?_
      · simp [allP]
        exact ⟨hpl, hjl, q1, q2⟩
      refine AW.iff false (by simp) (fun h => by cases h) (fun _ => AW.skip ?_)
      refine AW.st teOk [] (by simp [-Option.some.injEq] <;> rfl) trivial ?_
      refine AW.block (AW.loop (fun m s' => ∃ k : Nat, k ≤ i ∧ m = i - k ∧ s' = ⟨[(5, .c (.row 1 false (I.map encIn))), (6, .c (encV all)), (9, .c (.ptr 0 0 0)), (10, .c (cI i)), (11, .c (.ptr 1 0 0)), (12, .c (cI k))], [(0, ⟨7, [encGr G]⟩), (1, ⟨4, [encDe d]⟩)], 2⟩) _ (Weak.normS hA [5, 6, 9, 10, 11, 12] [(9, 0), (11, 1)] [] [] 2 _ (by simp) (by simp) (by simp)) ⟨0, Nat.zero_le _, rfl, by simp [e1, e2]⟩ ?_)
      rintro m s' ⟨k, hk, rfl, rfl⟩
      refine AW.seq ?_
      refine AW.st teOk [] (by simp [-Option.some.injEq] <;> rfl) trivial ?_
      refine AW.iff (decide (k < i)) (by simp) (fun h => AW.skip ?_) (fun h => AW.exit (x_then (x_then (blockA_exit ?_))))
      · rename_i hi2
        rw [decide_eq_true_eq] at h
        have hinck : IntKind.i64.wrap ((k : Int) + 1) = (k : Int) + 1 := wrap_s _ (by omega)
        obtain ⟨e, he⟩ : ∃ e, G.decs[k]? = some e := ⟨_, List.getElem?_eq_getElem (by omega)⟩
        have hem := List.mem_of_getElem? he
        have q3 := rle_pure e.v d.v (by have := hdv e hem; omega) (by omega)
        refine AW.mid (fun s' => s' = ⟨[(5, .c (.row 1 false (I.map encIn))), (6, .c (encV all)), (9, .c (.ptr 0 0 0)), (10, .c (cI i)), (11, .c (.ptr 1 0 0)), (12, .c (cI k))], [(0, ⟨7, [encGr G]⟩), (1, ⟨4, [encDe d]⟩)], 2⟩) (AW.block ?_) ?_
        · by_cases hp : e.prop = d.prop
          · rw [hor h hd he hp] at q3
            refine AW.dr mixed teOk [.c (cB true)] (by simp [he, hp, -Option.some.injEq] <;> rfl) (by kernel_rfl) (by kernel_rfl) ?_ ?_
            · simp [allP]
              exact ⟨by omega, q3⟩
            refine AW.iff false (by simp) (fun h => by cases h) (fun _ => AW.skip ?_)
            exact ⟨_, Weak.normS hA [5, 6, 9, 10, 11, 12] [(9, 0), (11, 1)] [] [] 2 _ (by simp) (by simp) (by simp), by simp⟩
          · have hpb : (e.prop == d.prop) = false := by simpa using hp
            refine AW.dr mixed teOk [] (by simp [he, hpb, -Option.some.injEq] <;> rfl) (by kernel_rfl) (by kernel_rfl) ?_ ?_
            · simp [allP]
              omega
            refine AW.iff false (by simp) (fun h => by cases h) (fun _ => AW.skip ?_)
            exact ⟨_, Weak.normS hA [5, 6, 9, 10, 11, 12] [(9, 0), (11, 1)] [] [] 2 _ (by simp) (by simp) (by simp), by simp⟩
        rintro s' rfl
        refine AW.text teOk (ans := []) (by simp [-Option.some.injEq] <;> rfl) ?_ ?_
        · trivial
        refine ⟨_, _, Weak.normS hA [5, 6, 9, 10, 11, 12] [(9, 0), (11, 1)] [] [] 2 _ (by simp) (by simp) (by simp), ?_, k + 1, h, rfl, ?_⟩
        · omega
        · simp [hinck]
      exact ⟨_, Weak.normS hA [5, 6, 9, 10] [(9, 0)] [] [] 1 _ (by simp) (by simp) (by simp), by simp⟩
    rintro s' rfl
    refine AW.text teOk (ans := []) (by simp [-Option.some.injEq] <;> rfl) ?_ ?_
    · trivial
    refine ⟨_, _, Weak.normS hA [5, 6, 9, 10] [(9, 0)] [] [] 1 _ (by simp) (by simp) (by simp), ?_, i + 1, h, rfl, ?_⟩
    · omega
    · simp [hinc]
  refine AW.st teOk [.fz (.c (cB true))] (by simp [-Option.some.injEq] <;> rfl) ?_ ?_
  · exact haw
  refine AW.ret ⟨.inr rfl, _, Weak.refl _, ?_⟩
  simp
end Go.Proofs.Ytopcklnnkpjanaa.Abs
