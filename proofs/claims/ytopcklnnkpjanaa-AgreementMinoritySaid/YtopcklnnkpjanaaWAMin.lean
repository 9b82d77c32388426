/- AgreementMinority. -/
import Derived.Test.YtopcklnnkpjanaaWAEnds
namespace Go.Proofs.Ytopcklnnkpjanaa.Abs
open Go Go.RowKit
set_option linter.unusedVariables false
set_option linter.unusedSimpArgs false
set_option maxHeartbeats 4000000
theorem lose_W {g : GrS} {n N : Nat} (h : GrW g n N) {i : Nat} (hi : i < g.pks.length) : GrW { g with pks := delL g.pks i } n (N + 14) := by
  have hdl := delL_len g.pks i hi
  exact ⟨⟨h.nn.p, h.nn.i, h.nn.x, h.nn.b⟩, h.n4, h.al, h.a, fun p hp => (h.p p hp).mono (by omega), h.i, h.x, fun k hk => h.k k (mem_delL hk), h.d, by have := h.kl; show (delL g.pks i).length ≤ _; omega, by have := h.dl; show g.decs.length ≤ _; omega, by have := h.s; show 0 ≤ g.steps ∧ g.steps ≤ _; omega⟩
def goneB (a dd : Int) (n : Nat) : Bool := decide ((a + dd) % n < ((n : Int) - 1) / 2)
theorem index_mod {x : Int} {k : Nat} (hx : 0 ≤ x) (hk : 1 ≤ k) (hk2 : k < 100) : indexI x k = x % k := by
  unfold indexI
  rw [if_neg (by omega), Int.tmod_eq_emod_of_nonneg hx]
  have h1 := Int.emod_nonneg x (show (k : Int) ≠ 0 by omega)
  have h2 := Int.emod_lt_of_pos x (show (0 : Int) < k by omega)
  have hw : IntKind.i64.wrap (x % k + k) = x % k + k := by rw [IntKind.wrap_i64]; omega
  rw [hw, Int.tmod_eq_emod_of_nonneg (by omega), Int.add_emod_right, Int.emod_emod_of_dvd _ (Int.dvd_refl _)]
theorem gone_pure (a dd : Int) (n : Nat) (ha : 0 ≤ a ∧ a < 100) (hd : 0 ≤ dd ∧ dd < 256) (hn : 1 ≤ n ∧ n < 100) : Pure Try.prog 48 [.c (cI a), .c (cI dd), .c (cI n)] (.c (cB (goneB a dd n))) := by
  have h1 : IntKind.i64.wrap (a + dd) = a + dd := by rw [IntKind.wrap_i64]; omega
  have h2 : IntKind.i64.wrap ((n : Int) - 1) = (n : Int) - 1 := by rw [IntKind.wrap_i64]; omega
  have h3 : ((n : Int) - 1).tdiv 2 = ((n : Int) - 1) / 2 := Int.tdiv_eq_ediv_of_nonneg (by omega)
  have h4 : IntKind.i64.wrap (((n : Int) - 1) / 2) = ((n : Int) - 1) / 2 := by rw [IntKind.wrap_i64]; omega
  have hi := index_pure' (a + dd) n
  rw [index_mod (by omega) hn.1 hn.2] at hi
  refine pure_of teOk Try.func48 (by kernel_rfl) (c := _) rfl (N := 16) rfl (rs := [Go.ResultVar.tmp 6]) rfl (by simp) fun base A w0 hA => ?_
  refine AW.st teOk [] (by simp [-Option.some.injEq] <;> rfl) trivial ?_
  refine AW.st teOk [.fz (.c (cI ((a + dd) % n)))] (by simp [h1, h2, h3, h4, -Option.some.injEq] <;> rfl) ?_ ?_
  · exact hi
  refine AW.ret ⟨.inr rfl, _, Weak.refl _, ?_⟩
  simp [goneB]
theorem gone_many {n : Nat} (hn : n = 3 ∨ n = 5) {dd : Int} (hd : 0 ≤ dd) : 2 * ((List.range n).filter fun a : Nat => !goneB a dd n).length > n := by
  obtain ⟨r, hr⟩ : ∃ r : Nat, dd % n = r := ⟨(dd % n).toNat, by have := Int.emod_nonneg dd (show (n : Int) ≠ 0 by omega); omega⟩
  have hrn : r < n := by have := Int.emod_lt_of_pos dd (show (0 : Int) < n by omega); omega
  have e : ∀ a : Nat, goneB a dd n = decide ((a + r) % n < (n - 1) / 2) := fun a => by
    unfold goneB
    rcases hn with rfl | rfl <;> exact decide_eq_decide.2 (by omega)
  simp only [e]
  rcases hn with rfl | rfl
  · have : ∀ r : Fin 3, 2 * ((List.range 3).filter fun a : Nat => !decide ((a + r.val) % 3 < (3 - 1) / 2)).length > 3 := by decide
    exact this ⟨r, hrn⟩
  · have : ∀ r : Fin 5, 2 * ((List.range 5).filter fun a : Nat => !decide ((a + r.val) % 5 < (5 - 1) / 2)).length > 5 := by decide
    exact this ⟨r, hrn⟩
/-- What holds along the way. -/
structure MinI (n : Nat) (dd : Int) (I : List (List V2)) (j : Nat) (g : GrS) : Prop where
  w : GrW g I.length (100 + 14 * j)
  e : InvE (fun a => goneB a dd n) g
  f : g.accs.length = n ∧ g.ins = I
  p : pot g + j ≤ 700
theorem min_0 {n : Nat} (hn : n = 3 ∨ n = 5) (dd : Int) {I : List (List V2)} (hI : InsOk I) : MinI n dd I 0 (newG n I) := by
  have h := new_is n I
  exact ⟨new_W (by omega) hI, new_E _, ⟨by rw [h.accs, List.length_replicate], h.ins⟩, by have := new_pot (n := n) (by omega) hI; omega⟩
theorem min_d {n : Nat} {dd : Int} {I : List (List V2)} {j : Nat} {g : GrS} (h : MinI n dd I j g) (hi : 0 < g.pks.length) : MinI n dd I (j + 1) (delivS g 0) := by
  have hk := List.getElem?_eq_getElem hi
  exact ⟨deliv_W h.w hi, keep_E h.w h.e hk, keep_fix h.w h.f hk, by have := case_pot h.w hk (deliv_case h.w hk); have := h.p; omega⟩
theorem min_l {n : Nat} {dd : Int} {I : List (List V2)} {j : Nat} {g : GrS} (h : MinI n dd I j g) (hi : 0 < g.pks.length) {k : PkS} (hk : g.pks[0]? = some k) (hg : goneB k.acc dd n = true) : MinI n dd I (j + 1) { g with pks := delL g.pks 0 } := by
  have ha := (h.w.k k (List.mem_of_getElem? hk)).2.1
  exact ⟨lose_W h.w hi, lose_E h.e hk (by show goneB (k.acc.toNat : Int) dd n = true; rw [show (k.acc.toNat : Int) = k.acc by omega]; exact hg), h.f, by have := lose_pot hk; have := h.p; omega⟩
theorem min_end {n : Nat} (hn : n = 3 ∨ n = 5) {dd : Int} (hd : 0 ≤ dd) {I : List (List V2)} {j : Nat} {g : GrS} (h : MinI n dd I j g) (hk : g.pks = []) : (∀ (i : Nat) (x : List V2), I[i]? = some x → (decsOf g.decs i).length = x.length) ∧ g.decs.length = totD g.decs I.length := by
  refine ⟨fun i x hx => ?_, (decs_sum _ _ fun d hd => by have := h.e.r d hd; rw [h.f.2] at this; exact this).symm⟩
  rw [ends_E h.w h.e hk (by rw [h.f.1]; exact gone_many hn hd) (by rw [h.f.2]; exact hx)]
  simp [upto]
def threeN (l : List Int) : Nat := (3 + 2 * digitI (atI l 0) 2 4).toNat
theorem three_is (l : List Int) : (threeN l : Int) = 3 + 2 * digitI (atI l 0) 2 4 ∧ (threeN l = 3 ∨ threeN l = 5) := by
  have := digit_lt (atI l 0) (b := 2) (by omega) 4
  unfold threeN
  omega
theorem amin_pure (l : List Int) (dd : Int) (hl : l.length < 4000000000000000000) (hdw : (Lit.int .u8 dd).wf = true) : Pure Try.prog 11 [.c (encIs l), .c (.sc (.int .u8 dd))] (.c (cB true)) := by
  have hd : 0 ≤ dd ∧ dd < 256 := by
    simp [Lit.wf, IntKind.min, IntKind.max, IntKind.signed, IntKind.bits] at hdw
    omega
  have haw := awake17_pure
  have p2 := inputs_pure l hl
  obtain ⟨hn1, hn2⟩ := three_is l
  have hdl := digit_lt (atI l 0) (b := 2) (by omega) 4
  have p6 := digit_pure' (atI l 0) 2 4 (by omega) (by omega)
  have p7 := at_pure l 0 hl
  have hw1 : IntKind.i64.wrap (2 * digitI (atI l 0) 2 4) = 2 * digitI (atI l 0) 2 4 := by rw [IntKind.wrap_i64]; omega
  have hw2 : IntKind.i64.wrap (3 + 2 * digitI (atI l 0) 2 4) = threeN l := by rw [← hn1, IntKind.wrap_i64]; omega
  have hwd : IntKind.i64.wrap dd = dd := by rw [IntKind.wrap_i64]; omega
  have hin := inputs_ok l
  generalize threeN l = n at *
  generalize inputsI l = I at *
  have p3 := gnew_pure n (by omega) hin
  have h0 := min_0 hn2 dd hin
  have hil := hin.len
  generalize newG n I = G0 at *
  refine pure_of teOk Try.func11 (by kernel_rfl) (c := _) rfl (N := 71) rfl (rs := [Go.ResultVar.tmp 4]) rfl (by simp) fun base A w0 hA => ?_
  refine AW.st teOk [] (by simp [-Option.some.injEq] <;> rfl) trivial ?_
  refine AW.st teOk [.fz (.c (.row 1 false (I.map encIn)))] (by simp [-Option.some.injEq] <;> rfl) ?_ ?_
  · exact p2
  refine AW.st teOk [.fz (.c (cI (atI l 0))), .fz (.c (cI (digitI (atI l 0) 2 4)))] (by simp [hw1, hw2, -Option.some.injEq] <;> rfl) ?_ ?_
  · exact ⟨p7, p6⟩
  refine AW.st teOk [.fz (.agg (encGr G0))] (by simp [-Option.some.injEq] <;> rfl) ?_ ?_
  · exact p3
  refine AW.mid (fun s => ∃ (g : GrS) (j : Nat), MinI n dd I j g ∧ g.pks = [] ∧ s = ⟨[(0, .c (encIs l)), (1, .c (.sc (.int .u8 dd))), (5, .c (.row 1 false (I.map encIn))), (7, .c (.ptr 0 0 0))], [(0, ⟨7, [encGr g]⟩)], 1⟩) ?_ ?_
  · refine AW.st teOk [] (by simp [-Option.some.injEq] <;> rfl) trivial ?_
    refine AW.block (AW.loop (fun m s => ∃ (g : GrS) (j : Nat), MinI n dd I j g ∧ m = 700 - j ∧ s = ⟨[(0, .c (encIs l)), (1, .c (.sc (.int .u8 dd))), (5, .c (.row 1 false (I.map encIn))), (6, .c (cI n)), (7, .c (.ptr 0 0 0)), (8, .c (cI j))], [(0, ⟨7, [encGr g]⟩)], 1⟩) 700 (Weak.normS hA [0, 1, 5, 6, 7, 8] [(7, 0)] [] [] 1 _ (by simp) (by simp) (by simp)) ⟨G0, 0, h0, rfl, by simp⟩ ?_)
    rintro m s ⟨g, j, hM, rfl, rfl⟩
    have hpn := pot_nn hM.w
    have hpj := hM.p
    refine AW.seq ?_
    have hj3 : (j : Int) < 3000 := by omega
    by_cases h0 : g.pks.length = 0
    · refine AW.st teOk [] (by simp [hj3, h0, -Option.some.injEq] <;> rfl) trivial ?_
      refine AW.iff false (by simp [h0]) (fun h => by cases h) (fun h => AW.exit (x_then (x_then (blockA_exit ?_))))
      exact ⟨_, Weak.normS hA [0, 1, 5, 7] [(7, 0)] [] [] 1 _ (by simp) (by simp) (by simp), g, j, hM, List.eq_nil_of_length_eq_zero h0, by simp⟩
    · have hpos : (g.pks.length : Int) > 0 := by omega
      have hlt : 0 < g.pks.length := by omega
      refine AW.st teOk [] (by simp [hj3, hpos, -Option.some.injEq] <;> rfl) trivial ?_
      refine AW.iff true (by simp [hlt]) (fun _ => AW.skip ?_) (fun h => by cases h)
      obtain ⟨k, hk⟩ : ∃ k, g.pks[0]? = some k := ⟨_, List.getElem?_eq_getElem hlt⟩
      have hka := (hM.w.k k (List.mem_of_getElem? hk)).2.1
      have hacc := hM.f.1
      have hgp := gone_pure k.acc dd n (by omega) hd (by omega)
      have hlp := lose_pure g hM.w (by omega) 0
      have hdp := deliv_pure g hM.w (by omega) 0
      unfold loseS at hlp
      unfold delivZ at hdp
      rw [if_pos (by omega)] at hlp hdp
      simp only [Int.toNat_zero] at hlp hdp
      have hMd := min_d hM hlt
      have hMl := fun hg => min_l hM hlt hk hg
      have hinc : IntKind.i64.wrap ((j : Int) + 1) = (j : Int) + 1 := wrap_s _ (by omega)
      generalize delivS g 0 = gd at *
      generalize hgl : ({ g with pks := delL g.pks 0 } : GrS) = gl at *
      refine AW.mid (fun s => ∃ g : GrS, MinI n dd I (j + 1) g ∧ s = ⟨[(0, .c (encIs l)), (1, .c (.sc (.int .u8 dd))), (5, .c (.row 1 false (I.map encIn))), (6, .c (cI n)), (7, .c (.ptr 0 0 0)), (8, .c (cI j))], [(0, ⟨7, [encGr g]⟩)], 1⟩) (AW.block ?_) ?_
      · refine AW.st teOk [.fz (.c (cB (goneB k.acc dd n)))] (by simp [hk, hwd, -Option.some.injEq] <;> rfl) ?_ ?_
        · exact ⟨hlt, hgp⟩
        cases hg : goneB k.acc dd n with
        | true =>
          refine AW.iff true (by simp) (fun _ => ?_) (fun h => by cases h)
          refine AW.text teOk (ans := [.fz (.agg (encGr gl))]) (by simp [-Option.some.injEq] <;> rfl) ?_ ?_
          · exact hlp
          exact ⟨_, Weak.normS hA [0, 1, 5, 6, 7, 8] [(7, 0)] [] [] 1 _ (by simp) (by simp) (by simp), gl, hMl hg, by simp⟩
        | false =>
          refine AW.iff false (by simp) (fun h => by cases h) (fun _ => ?_)
          refine AW.text teOk (ans := [.fz (.agg (encGr gd))]) (by simp [-Option.some.injEq] <;> rfl) ?_ ?_
          · exact hdp
          exact ⟨_, Weak.normS hA [0, 1, 5, 6, 7, 8] [(7, 0)] [] [] 1 _ (by simp) (by simp) (by simp), gd, hMd, by simp⟩
      rintro s ⟨g2, hM2, rfl⟩
      refine AW.text teOk (ans := []) (by simp [-Option.some.injEq] <;> rfl) ?_ ?_
      · trivial
      refine ⟨_, _, Weak.normS hA [0, 1, 5, 6, 7, 8] [(7, 0)] [] [] 1 _ (by simp) (by simp) (by simp), ?_, g2, j + 1, hM2, rfl, ?_⟩
      · omega
      · simp [hinc]
  rintro s ⟨g, j, hM, hpk, rfl⟩
  obtain ⟨e1, e2⟩ := min_end hn2 hd.1 hM hpk
  have hdl2 := hM.w.dl
  have hpj := hM.p
  have hpn := pot_nn hM.w
  have htl := totD_le g.decs (by omega)
  clear hM
  refine AW.st teOk [] (by simp [-Option.some.injEq] <;> rfl) trivial ?_
  refine AW.seq ?_
  refine AW.st teOk [] (by simp [-Option.some.injEq] <;> rfl) trivial ?_
  refine AW.block (AW.loop (fun m s => ∃ i : Nat, i ≤ I.length ∧ m = I.length - i ∧ s = ⟨[(5, .c (.row 1 false (I.map encIn))), (7, .c (.ptr 0 0 0)), (9, .c (cI (totD g.decs i))), (10, .c (cI i))], [(0, ⟨7, [encGr g]⟩)], 1⟩) _ (Weak.normS hA [5, 7, 9, 10] [(7, 0)] [] [] 1 _ (by simp) (by simp) (by simp)) ⟨0, Nat.zero_le _, rfl, by simp [totD]⟩ ?_)
  rintro m s ⟨i, hi, rfl, rfl⟩
  refine AW.seq ?_
  refine AW.st teOk [] (by simp [-Option.some.injEq] <;> rfl) trivial ?_
  refine AW.iff (decide (i < I.length)) (by simp) (fun h => AW.skip ?_) (fun h => AW.exit (x_then (x_then (blockA_exit ?_))))
  · rw [decide_eq_true_eq] at h
    have hinc : IntKind.i64.wrap ((i : Int) + 1) = (i : Int) + 1 := wrap_s _ (by omega)
    obtain ⟨x, hx⟩ : ∃ x, I[i]? = some x := ⟨_, List.getElem?_eq_getElem h⟩
    have hts := totD_succ g.decs i
    rw [e1 i x hx] at hts
    have hxl := (hin.all x (List.mem_of_getElem? hx)).1
    have hti := htl i
    generalize totD g.decs i = T at *
    have hadd : IntKind.i64.wrap ((T : Int) + (x.length : Int)) = (T : Int) + (x.length : Int) := by rw [IntKind.wrap_i64]; omega
    refine AW.seq (AW.block ?_)
    refine AW.text teOk (ans := []) (by simp [hx, hadd, -Option.some.injEq] <;> rfl) ?_ ?_
    · exact h
    refine AW.text teOk (ans := []) (by simp [-Option.some.injEq] <;> rfl) ?_ ?_
    · trivial
    refine ⟨_, _, Weak.normS hA [5, 7, 9, 10] [(7, 0)] [] [] 1 _ (by simp) (by simp) (by simp), ?_, i + 1, h, rfl, ?_⟩
    · omega
    · simp [hinc, hts]
  have hie : i = I.length := by
    rw [decide_eq_false_iff_not] at h
    omega
  subst hie
  rw [← e2]
  refine AW.st teOk [.fz (.c (cB true))] (by simp [hpk, -Option.some.injEq] <;> rfl) ?_ ?_
  · exact haw
  refine AW.ret ⟨.inr rfl, _, Weak.refl _, ?_⟩
  simp
end Go.Proofs.Ytopcklnnkpjanaa.Abs
