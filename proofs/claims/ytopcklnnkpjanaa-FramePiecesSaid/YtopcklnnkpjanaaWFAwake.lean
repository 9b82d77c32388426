/- The frames' fixed example answers true: walked by hand over the contracts of the functions that it calls. -/
import Derived.Test.YtopcklnnkpjanaaWApp
import Derived.Lib.SlBytesConst
import Derived.WalkKit
namespace Go.Proofs.Ytopcklnnkpjanaa.Abs
open Go Go.RowKit Fr
set_option linter.unusedVariables false
set_option linter.unusedSimpArgs false
structure Aside0 (p : Prop) : Prop where
  out : p
theorem awake_frm : frm [97, 98] = [0, 0, 0, 2, 97, 98, 11, 134, 112, 99] := by decide +kernel
theorem awake_dec : Dec [0, 0, 0, 2, 97, 98, 11, 134, 112, 99] = ([97, 98], 10, 0) := by decide +kernel
theorem awake_sum : sumN [49, 50, 51, 52, 53, 54, 55, 56, 57] = 3808858755 := by decide +kernel
/-- A literal of bytes that bears the run-time's mark reads as its numbers. -/
theorem lit_rep (W : World) (xs : List Int) (t : Nat) (fr : Nat × Nat) (hx : xs ≠ []) : RepF (W.alloc (.cells (xs.map (Value.int .u8)).toArray t fr)) (fun b => b < (W.alloc (.cells (xs.map (Value.int .u8)).toArray t fr)).heap.size) (encB xs) (.slice (some ⟨W.heap.size, 0, none⟩) xs.length xs.length) := by
  have hh : (W.alloc (.cells (xs.map (Value.int .u8)).toArray t fr)).heap[W.heap.size]? = some (.cells (xs.map (Value.int .u8)).toArray t fr) := by
    show (W.heap.push _)[W.heap.size]? = _
    rw [Array.getElem?_push_size]
  have := RepF.row (w := W.alloc (.cells (xs.map (Value.int .u8)).toArray t fr)) (ok := fun b => b < (W.alloc (.cells (xs.map (Value.int .u8)).toArray t fr)).heap.size) (k := 1) (t := false) (es := xs.map encb) (A := some ⟨W.heap.size, 0, none⟩) (cap := xs.length) (fun i j => .int .u8 (xs.getD i 0)) (by simp) (fun h => by cases h) (fun e he => by
      obtain ⟨x, _, rfl⟩ := List.mem_map.1 he
      rfl) (fun _ => ⟨_, rfl, by simp⟩) (fun ad had i e he j hj => by
      cases had
      obtain rfl : j = 0 := by omega
      have hi : i < xs.length := by simpa using (List.getElem?_eq_some_iff.1 he).1
      rw [Addr.add_lit, Nat.zero_add, Nat.mul_one, Nat.add_zero]
      unfold World.cell?
      simp only [hh]
      simp [List.getD_eq_getElem?_getD, List.getElem?_eq_getElem hi]) (fun i e he j c hc => by
      have hi : i < xs.length := by simpa using (List.getElem?_eq_some_iff.1 he).1
      rw [List.getElem?_map, List.getElem?_eq_getElem hi] at he
      cases he
      cases j with
      | succ j => simp at hc
      | zero =>
        cases hc
        rw [List.getD_eq_getElem?_getD, List.getElem?_eq_getElem hi]
        exact .sc _ rfl)
  simpa using this
theorem repAs_nil' {w : World} {ok : Nat → Prop} {β : Nat → Bnd} : RepAs w ok β [] #[] := ⟨rfl, fun i a v h => by simp at h⟩
theorem repAs_cons' {w : World} {ok : Nat → Prop} {β : Nat → Bnd} {a : AVal} {v : Value} {bs : List AVal} {vs : List Value} (h : RepV w ok β a v) (hs : RepAs w ok β bs vs.toArray) : RepAs w ok β (a :: bs) (v :: vs).toArray :=
  ⟨by simpa using hs.1, fun i b u hb hu => by
    cases i with
    | zero =>
      simp at hb hu
      subst hb hu
      exact h
    | succ i => exact hs.2 i b u (by simpa using hb) (by simpa using hu)⟩
theorem tup2 {w : World} {ok : Nat → Prop} {β : Nat → Bnd} {a b : AVal} {v : Value} (h : RepV w ok β (.tup [a, b]) v) : ∃ x y, v = .tuple #[x, y] ∧ RepV w ok β a x ∧ RepV w ok β b y := by
  cases h with
  | @tup _ us hl hi =>
    match us, hl with
    | ⟨[x, y]⟩, _ => exact ⟨x, y, rfl, hi 0 a x rfl rfl, hi 1 b y rfl rfl⟩
theorem tup3 {w : World} {ok : Nat → Prop} {β : Nat → Bnd} {a b c : AVal} {v : Value} (h : RepV w ok β (.tup [a, b, c]) v) : ∃ x y z, v = .tuple #[x, y, z] ∧ RepV w ok β a x ∧ RepV w ok β b y ∧ RepV w ok β c z := by
  cases h with
  | @tup _ us hl hi =>
    match us, hl with
    | ⟨[x, y, z]⟩, _ => exact ⟨x, y, z, rfl, hi 0 a x rfl rfl, hi 1 b y rfl rfl, hi 2 c z rfl rfl⟩
theorem row_slice {w : World} {ok : Nat → Prop} {k : Nat} {t : Bool} {es : List (List Cell)} {v : Value} (h : RepV w ok noB (.c (.row k t es)) v) : ∃ A c, v = .slice A es.length c ∧ RepF w ok (.row k t es) (.slice A es.length c) := by
  cases h with
  | c h => cases h with
    | fz h =>
      have h' := h
      cases h with
      | row => exact ⟨_, _, rfl, h'⟩
/-- A row of bytes, as a string. -/
theorem conv_row {P : Program} {W : World} {ok : Nat → Prop} {k : Nat} {t : Bool} {es : List (List Cell)} {xs : List Int} {A : Option Addr} {c s d el : Nat} (h : RepF W ok (.row k t es) (.slice A es.length c)) (hxs : bytesOf es = some xs) (h0 : P.underlying s = some (.slice el)) (hu : P.underlying el = some (.int .u8)) (h1 : P.underlying d = some .string) :
    (convert s d (.slice A es.length c)).run P W = .ok (.string (strOfNums xs)) W := by
  obtain ⟨b1, b2⟩ := bytesOf_sound es xs hxs
  generalize hv : Value.slice A es.length c = v at h
  cases h with
  | @row _ _ _ Ad cap vs g1 g2 g3 g4 g5 g6 =>
  cases hv
  cases A with
  | none =>
    have h00 : es = [] := by
      cases es with
      | nil => rfl
      | cons q r => obtain ⟨_, hh, _⟩ := g4 (by simp); cases hh
    subst h00
    cases hxs
    exact run_convert_bytes_nil W s el h0 hu _ c d h1
  | some ad =>
    have hload : (loadCells ad es.length).run P W = .ok (xs.map (Value.int .u8)).toArray W := by
      have := run_loadCells_list (P := P) W ad (xs.map (Value.int .u8)) (fun j v hj => by
        rw [List.getElem?_map] at hj
        cases hq : xs[j]? with
        | none => rw [hq] at hj; cases hj
        | some m =>
          rw [hq] at hj
          cases hj
          have hjl : j < es.length := by rw [b1]; exact (List.getElem?_eq_some_iff.1 hq).1
          obtain ⟨m', e1, e2⟩ := b2 j _ (List.getElem?_eq_getElem hjl)
          rw [hq] at e2
          cases e2
          have hk : k = 1 := by
            have := g3 _ (List.getElem_mem hjl)
            rw [e1] at this
            exact this.symm
          subst hk
          have := g5 ad rfl j _ (List.getElem?_eq_getElem hjl) 0 (by omega)
          rw [Nat.mul_one, Nat.add_zero] at this
          rw [this]
          have g := g6 j _ (List.getElem?_eq_getElem hjl) 0 (.sc (.int .u8 m)) (by rw [e1]; rfl)
          generalize vs j 0 = q at g
          cases g
          rfl)
      rwa [List.length_map, ← b1] at this
    rw [run_convert_bytes_string W s d el _ _ c h0 hu h1, run_bytesToString W ad _ c xs hload, foldl_push_bytes]
    simp [strOfNums, ByteArray.empty, ByteArray.emptyWithCapacity]
    rfl
set_option maxHeartbeats 4000000 in
set_option maxRecDepth 100000 in
theorem awake02_calls (w : World) : Calls Try.prog 22 #[] w fun e w' => e = .returned (.bool true) ∧ Below w.heap.size w w' := by
  have hc1 := Lib.run_convert_bytes_const w 33 5 #[.int .u8 97, .int .u8 98] 2 2 Try.underlying33 Try.underlying5
  have p1 := append_pure [] [97, 98] (fun x hx => by simp at hx; omega) (by decide)
  have p2 := dec_pure [0, 0, 0, 2, 97, 98, 11, 134, 112, 99] (fun x hx => by simp at hx; omega) (by decide)
  have p3 := sum_pure [49, 50, 51, 52, 53, 54, 55, 56, 57] (fun x hx => by simp at hx; omega) (by decide)
  rw [appV, if_neg (by decide), List.nil_append, awake_frm] at p1
  rw [decV, awake_dec] at p2
  rw [awake_sum] at p3
  have L1 := Aside0.mk (lit_rep w [97, 98] 5 (2, 3) (by decide))
  have S1 := Aside0.mk p1
  have S2 := Aside0.mk p2
  have S3 := Aside0.mk p3
  clear p1 p2 p3
  go_enter Try.func22, Try.ntmps22
  go_wp2_with (fail)
  refine (S1.out.2 _ (fun b => b < (w.alloc (.cells #[.int .u8 97, .int .u8 98] 5 (2, 3))).heap.size) #[.slice none 0 0, .slice (some ⟨w.heap.size, 0, none⟩) 2 2] (fun b h => h) (repAs_cons' (.c (.fz (nil_row.repF (.sc _ rfl)))) (repAs_cons' (.c (.fz L1.out)) repAs_nil'))).mono ?_
  rintro e w1 ⟨v1, rfl, ho1, hb1⟩
  have HB1 := Aside0.mk ((Below.alloc (Below.refl w.heap.size w) (Nat.le_refl _) (.cells #[.int .u8 97, .int .u8 98] 5 (2, 3))).trans (hb1.mono (by simp)))
  clear hb1 hc1
  obtain ⟨x1, y1, rfl, hx1, hy1⟩ := tup2 ho1
  obtain ⟨rfl, _⟩ := sc_of hy1
  obtain ⟨A1, c1, rfl, hF1⟩ := row_slice hx1
  have HO1 := Aside0.mk (hF1.mono (ok' := fun b => b < w1.heap.size) (fun b h => ⟨h.2, rfl⟩))
  clear ho1 hx1 hy1 hF1
  go_wp2_with (fail)
  refine (S2.out.2 w1 (fun b => b < w1.heap.size) #[.slice A1 10 c1] (fun b h => h) (repAs_cons' (.c (.fz HO1.out)) repAs_nil')).mono ?_
  rintro e w2 ⟨v2, rfl, ho2, hb2⟩
  have HB2 := Aside0.mk (HB1.out.trans (hb2.mono HB1.out.size))
  clear hb2
  obtain ⟨x2, y2, z2, rfl, hx2, hy2, hz2⟩ := tup3 ho2
  obtain ⟨rfl, _⟩ := sc_of hy2
  obtain ⟨rfl, _⟩ := sc_of hz2
  obtain ⟨A2, c2, rfl, hF2⟩ := row_slice hx2
  have HO2 := Aside0.mk (hF2.mono (ok' := fun b => b < w2.heap.size) (fun b h => ⟨h.2, rfl⟩))
  clear ho2 hx2 hy2 hz2 hF2
  have hc2 := Lib.run_convert_bytes_const w2 33 5 #[.int .u8 49, .int .u8 50, .int .u8 51, .int .u8 52, .int .u8 53, .int .u8 54, .int .u8 55, .int .u8 56, .int .u8 57] 9 9 Try.underlying33 Try.underlying5
  have L2 := Aside0.mk (lit_rep w2 [49, 50, 51, 52, 53, 54, 55, 56, 57] 5 (9, 10) (by decide))
  go_wp2_with (fail)
  refine (S3.out.2 _ (fun b => b < (w2.alloc (.cells #[.int .u8 49, .int .u8 50, .int .u8 51, .int .u8 52, .int .u8 53, .int .u8 54, .int .u8 55, .int .u8 56, .int .u8 57] 5 (9, 10))).heap.size) #[.slice (some ⟨w2.heap.size, 0, none⟩) 9 9] (fun b h => h) (repAs_cons' (.c (.fz L2.out)) repAs_nil')).mono ?_
  rintro e w3 ⟨v3, rfl, ho3, hb3⟩
  obtain ⟨rfl, _⟩ := sc_of ho3
  clear ho3 hc2
  have hbb : Below w2.heap.size w2 w3 := (Below.alloc (Below.refl w2.heap.size w2) (Nat.le_refl _) _).trans (hb3.mono (by simp))
  have hF3 := HO2.out.mono (w' := w3) (ok' := fun b => b < w3.heap.size) (fun b h => ⟨by have := hbb.size; omega, hbb.block b h⟩)
  have hcv : (convert 33 9 (.slice A2 2 c2)).run Try.prog w3 = .ok (.string (strOfNums [97, 98])) w3 := conv_row (P := Try.prog) (es := ([97, 98] : List Int).map encb) hF3 rfl Try.underlying33 Try.underlying5 Try.underlying9
  have HB3 := Aside0.mk (HB2.out.trans (hbb.mono HB2.out.size))
  clear hb3 hbb hF3
  have e10 : (([0, 0, 0, 2, 97, 98, 11, 134, 112, 99] : List Int).length == 10) = true := rfl
  have hs : (strOfNums [97, 98]).toList = [97, 98] := by decide +kernel
  go_wp2
  go_ret
  exact ⟨rfl, HB3.out⟩
theorem awake02_pure : Pure Try.prog 22 [] (.c (cB true)) := ⟨⟨_, Try.func22, by kernel_rfl, rfl⟩, fun w A vs hA hr => by
  have : vs = #[] := Array.eq_empty_of_size_eq_zero hr.1.symm
  subst this
  refine (awake02_calls w).mono ?_
  rintro e w' ⟨rfl, hb⟩
  exact ⟨_, rfl, .c (.fz (.sc _ rfl)), hb⟩⟩
end Go.Proofs.Ytopcklnnkpjanaa.Abs
