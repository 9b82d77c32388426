/- AgreementEnds. -/
import Derived.Test.YtopcklnnkpjanaaWAgr14
namespace Go.Proofs.Ytopcklnnkpjanaa.Abs
open Go Go.RowKit
set_option linter.unusedVariables false
set_option linter.unusedSimpArgs false
set_option maxHeartbeats 4000000
theorem newl_W (l : List Int) : GrW (newG (sizeN l) (inputsI l)) (inputsI l).length 100 := new_W (by have := (size_is l).2; omega) (inputs_ok l)
theorem newl_pot (l : List Int) : pot (newG (sizeN l) (inputsI l)) ≤ 700 := new_pot (size_is l).2 (inputs_ok l)
/-- A schedule run, the rest drained. -/
def endG (l s : List Int) : GrS := drainS 700 (runS (newG (sizeN l) (inputsI l)) s)
theorem newl_pure' (l : List Int) : Pure Try.prog 47 [.c (cI (sizeN l)), .c (.row 1 false ((inputsI l).map encIn))] (.agg (encGr (newG (sizeN l) (inputsI l)))) := gnew_pure _ (by have := (size_is l).2; omega) (inputs_ok l)
theorem runl_pure' (l s : List Int) (hs : s.length ≤ 1000) : Pure Try.prog 53 [.agg (encGr (newG (sizeN l) (inputsI l))), .c (encIs s)] (.agg (encGr (runS (newG (sizeN l) (inputsI l)) s))) := run_pure _ (newl_W l) s (by omega)
theorem runl_pot (l s : List Int) : pot (runS (newG (sizeN l) (inputsI l)) s) ≤ 700 := run_keep (fun g => pot g ≤ 700) keep_pot s (newl_W l) (newl_pot l)
theorem endl_pure (l s : List Int) (hs : s.length ≤ 1000) : Pure Try.prog 52 [.agg (encGr (runS (newG (sizeN l) (inputsI l)) s))] (.agg (encGr (endG l s))) := drain_pure _ (run_W s (newl_W l)) 700 (runl_pot l s) (by omega)
theorem endG_W (l s : List Int) : GrW (endG l s) (inputsI l).length (100 + 14 * s.length + 14 * 700) := drain_W 700 (run_W s (newl_W l))
theorem endG_keep (l s : List Int) (J : GrS → Prop) (hJ : ∀ {g : GrS} {N i : Nat} {k : PkS}, GrW g (inputsI l).length N → J g → g.pks[i]? = some k → J (delivS g i)) (h0 : J (newG (sizeN l) (inputsI l))) : J (endG l s) :=
  drain_keep J hJ 700 (run_W s (newl_W l)) (run_keep J hJ s (newl_W l) h0)
theorem endG_pks (l s : List Int) : (endG l s).pks = [] := List.eq_nil_of_length_eq_zero (drain_end 700 (run_W s (newl_W l)) (runl_pot l s))
theorem endG_fix (l s : List Int) : (endG l s).accs.length = sizeN l ∧ (endG l s).ins = inputsI l := endG_keep l s (fun g => g.accs.length = sizeN l ∧ g.ins = inputsI l) keep_fix (by
  have h := new_is (sizeN l) (inputsI l)
  exact ⟨by rw [h.accs, List.length_replicate], h.ins⟩)
theorem filter_all (n : Nat) : ((List.range n).filter fun a => !(fun _ : Nat => false) a).length = n := by
  have : (List.range n).filter (fun a => !(fun _ : Nat => false) a) = List.range n := List.filter_eq_self.2 (fun _ _ => rfl)
  rw [this, List.length_range]
theorem endG_decs (l s : List Int) {i : Nat} {x : List V2} (hx : (inputsI l)[i]? = some x) : decsOf (endG l s).decs i = upto x.length := by
  have he := endG_keep l s (InvE fun _ => false) keep_E (new_E _)
  refine ends_E (endG_W l s) he (endG_pks l s) (by rw [filter_all, (endG_fix l s).1]; have := (size_is l).2; omega) (by rw [(endG_fix l s).2]; exact hx)
theorem endG_total (l s : List Int) : (endG l s).decs.length = ((List.range (inputsI l).length).map fun i => (decsOf (endG l s).decs i).length).sum := by
  have he := endG_keep l s (InvE fun _ => false) keep_E (new_E _)
  exact (decs_sum _ _ fun d hd => by have := he.r d hd; rw [(endG_fix l s).2] at this; exact this).symm
/-- How many decisions of the first k are proposer i's. -/
def cntD (ds : List DeS) (i k : Nat) : Nat := (decsOf (ds.take k) i).length
theorem cntD_succ (ds : List DeS) (i k : Nat) {d : DeS} (hd : ds[k]? = some d) : cntD ds i (k + 1) = cntD ds i k + if d.prop = i then 1 else 0 := by
  unfold cntD
  rw [List.take_add_one, hd]
  simp only [Option.toList]
  rw [decsOf_app]
  split <;> simp
theorem decsOf_take {ds : List DeS} {i m : Nat} (h : decsOf ds i = upto m) {k : Nat} {d : DeS} (hd : ds[k]? = some d) (hp : d.prop = i) : d.input = cntD ds i k := by
  have hk := (List.getElem?_eq_some_iff.1 hd).1
  have e : ds = ds.take k ++ d :: ds.drop (k + 1) := by
    conv => lhs; rw [← List.take_append_drop k ds]
    congr 1
    rw [List.drop_eq_getElem_cons hk, (List.getElem?_eq_some_iff.1 hd).2]
  have h1 : (decsOf ds i)[cntD ds i k]? = some d.input := by
    have e2 : decsOf ds i = decsOf (ds.take k) i ++ d.input :: decsOf (ds.drop (k + 1)) i := by
      conv => lhs; rw [e]
      unfold decsOf
      rw [List.filter_append, List.map_append, List.filter_cons, if_pos (by simpa using hp), List.map_cons]
    rw [e2]
    unfold cntD
    rw [List.getElem?_append_right (Nat.le_refl _), Nat.sub_self]
    rfl
  rw [h] at h1
  unfold upto at h1
  rw [List.getElem?_map] at h1
  cases hr : (List.range m)[cntD ds i k]? with
  | none => rw [hr] at h1; cases h1
  | some y =>
    rw [hr] at h1
    have hy := List.getElem?_eq_some_iff.1 hr
    obtain ⟨h3, h4⟩ := hy
    rw [List.getElem_range] at h4
    rw [← h4] at h1
    exact (Option.some.inj h1).symm
def totD (ds : List DeS) (i : Nat) : Nat := ((List.range i).map fun j => (decsOf ds j).length).sum
theorem totD_succ (ds : List DeS) (i : Nat) : totD ds (i + 1) = totD ds i + (decsOf ds i).length := by
  unfold totD
  rw [List.range_succ, List.map_append, List.sum_append]
  simp
theorem cntD_le (ds : List DeS) (i k : Nat) : cntD ds i k ≤ k := by
  unfold cntD decsOf
  rw [List.length_map]
  exact Nat.le_trans (List.length_filter_le _ _) (List.length_take_le _ _)
theorem totD_le (ds : List DeS) (h : ds.length ≤ 20000) : ∀ i, totD ds i ≤ 20000 * i
  | 0 => Nat.le_refl _
  | i + 1 => by
    have h1 := totD_le ds h i
    have h2 := cntD_le ds i ds.length
    unfold cntD at h2
    rw [List.take_of_length_le (Nat.le_refl _)] at h2
    rw [totD_succ]
    omega
theorem aends_pure (l s : List Int) (hl : l.length < 4000000000000000000) (hs : s.length < 4000000000000000000) : Pure Try.prog 15 [.c (encIs l), .c (encIs s)] (.c (cB true)) := by
  have haw := awake17_pure
  refine pure_of teOk Try.func15 (by kernel_rfl) (c := _) rfl (N := 79) rfl (rs := [Go.ResultVar.tmp 4]) rfl (by simp) fun base A w0 hA => ?_
  refine AW.st teOk [] (by simp [-Option.some.injEq] <;> rfl) trivial ?_
  refine AW.seq ?_
  by_cases h100 : (s.length : Int) > 100
  · refine AW.st teOk [] (by simp [h100, -Option.some.injEq] <;> rfl) trivial ?_
    refine AW.iff true (by simp) (fun _ => ?_) (fun h => by cases h)
    refine AW.st teOk [.fz (.c (cB true))] (by simp [-Option.some.injEq] <;> rfl) ?_ ?_
    · exact haw
    refine AW.ret ⟨.inr rfl, _, Weak.refl _, ?_⟩
    simp
  refine AW.st teOk [] (by simp [h100, -Option.some.injEq] <;> rfl) trivial ?_
  refine AW.iff false (by simp) (fun h => by cases h) (fun _ => AW.skip ?_)
  have p1 := size_pure l hl
  have p2 := inputs_pure l hl
  have p3 := newl_pure' l
  have p4 := runl_pure' l s (by omega)
  have p5 := endl_pure l s (by omega)
  have hw := endG_W l s
  have hdl := hw.dl
  have hpk := endG_pks l s
  have hdec := fun (i : Nat) (x : List V2) (hx : (inputsI l)[i]? = some x) => endG_decs l s hx
  have htot := endG_total l s
  change _ = totD _ _ at htot
  have hin := inputs_ok l
  have hil := hin.len
  have hix := fun (i : Nat) (x : List V2) (hx : (inputsI l)[i]? = some x) => (hin.all x (List.mem_of_getElem? hx)).1
  generalize endG l s = G at *
  generalize runS (newG (sizeN l) (inputsI l)) s = G1 at *
  generalize newG (sizeN l) (inputsI l) = G0 at *
  generalize inputsI l = I at *
  refine AW.st teOk [.fz (.c (.row 1 false (I.map encIn)))] (by simp [-Option.some.injEq] <;> rfl) ?_ ?_
  · exact p2
  refine AW.st teOk [.fz (.c (cI (sizeN l))), .fz (.agg (encGr G0)), .fz (.agg (encGr G1)), .fz (.agg (encGr G))] (by simp [-Option.some.injEq] <;> rfl) ?_ ?_
  · exact ⟨p1, p3, p4, p5⟩
  refine AW.st teOk [] (by simp [-Option.some.injEq] <;> rfl) trivial ?_
  have htl := totD_le G.decs (by omega)
  refine AW.seq ?_
  refine AW.st teOk [] (by simp [-Option.some.injEq] <;> rfl) trivial ?_
  refine AW.block (AW.loop (fun m s => ∃ i : Nat, i ≤ I.length ∧ m = I.length - i ∧ s = ⟨[(5, .c (.row 1 false (I.map encIn))), (6, .c (.ptr 0 0 0)), (7, .c (cI (totD G.decs i))), (8, .c (cI i))], [(0, ⟨7, [encGr G]⟩)], 1⟩) _ (Weak.normS hA [5, 6, 7, 8] [(6, 0)] [] [] 1 _ (by simp) (by simp) (by simp)) ⟨0, Nat.zero_le _, rfl, by simp [totD]⟩ ?_)
  rintro m s ⟨i, hi, rfl, rfl⟩
  refine AW.seq ?_
  refine AW.st teOk [] (by simp [-Option.some.injEq] <;> rfl) trivial ?_
  refine AW.iff (decide (i < I.length)) (by simp) (fun h => AW.skip ?_) (fun h => AW.exit (x_then (x_then (blockA_exit ?_))))
  · rw [decide_eq_true_eq] at h
    have hinc : IntKind.i64.wrap ((i : Int) + 1) = (i : Int) + 1 := wrap_s _ (by omega)
    obtain ⟨x, hx⟩ : ∃ x, I[i]? = some x := ⟨_, List.getElem?_eq_getElem h⟩
    have hdx := hdec i x hx
    have hts := totD_succ G.decs i
    have hlx : (decsOf G.decs i).length = x.length := by rw [hdx]; simp [upto]
    rw [hlx] at hts
    have hxl := hix i x hx
    have hti := htl i
    have hcl := cntD_le G.decs i
    generalize totD G.decs i = T at *
    refine AW.mid (fun s => s = ⟨[(5, .c (.row 1 false (I.map encIn))), (6, .c (.ptr 0 0 0)), (7, .c (cI (totD G.decs (i + 1)))), (8, .c (cI i))], [(0, ⟨7, [encGr G]⟩)], 1⟩) (AW.block ?_) ?_
    · refine AW.st teOk [] (by simp [-Option.some.injEq] <;> rfl) trivial ?_
      refine AW.mid (fun s => s = ⟨[(5, .c (.row 1 false (I.map encIn))), (6, .c (.ptr 0 0 0)), (7, .c (cI T)), (8, .c (cI i)), (9, .c (cI x.length))], [(0, ⟨7, [encGr G]⟩)], 1⟩) ?_ ?_
      · refine AW.st teOk [] (by simp [-Option.some.injEq] <;> rfl) trivial ?_
        refine AW.block (AW.loop (fun m s => ∃ k : Nat, k ≤ G.decs.length ∧ m = G.decs.length - k ∧ s = ⟨[(5, .c (.row 1 false (I.map encIn))), (6, .c (.ptr 0 0 0)), (7, .c (cI T)), (8, .c (cI i)), (9, .c (cI (cntD G.decs i k))), (10, .c (cI k))], [(0, ⟨7, [encGr G]⟩)], 1⟩) _ (Weak.normS hA [5, 6, 7, 8, 9, 10] [(6, 0)] [] [] 1 _ (by simp) (by simp) (by simp)) ⟨0, Nat.zero_le _, rfl, by simp [cntD, decsOf]⟩ ?_)
        rintro m s ⟨k, hk, rfl, rfl⟩
        refine AW.seq ?_
        refine AW.st teOk [] (by simp [-Option.some.injEq] <;> rfl) trivial ?_
        refine AW.iff (decide (k < G.decs.length)) (by simp) (fun h => AW.skip ?_) (fun h => AW.exit (x_then (x_then (blockA_exit ?_))))
        · rename_i hi2
          rw [decide_eq_true_eq] at h
          have hinck : IntKind.i64.wrap ((k : Int) + 1) = (k : Int) + 1 := wrap_s _ (by omega)
          obtain ⟨d, hd⟩ : ∃ d, G.decs[k]? = some d := ⟨_, List.getElem?_eq_getElem h⟩
          have hcs := cntD_succ G.decs i k hd
          have hck := hcl k
          have htk := fun hp => decsOf_take hdx hd hp
          generalize cntD G.decs i k = C at *
          have hincc : IntKind.i64.wrap ((C : Int) + 1) = (C : Int) + 1 := wrap_s _ (by omega)
          refine AW.mid (fun s => s = ⟨[(5, .c (.row 1 false (I.map encIn))), (6, .c (.ptr 0 0 0)), (7, .c (cI T)), (8, .c (cI i)), (9, .c (cI (cntD G.decs i (k + 1)))), (10, .c (cI k))], [(0, ⟨7, [encGr G]⟩)], 1⟩) (AW.block ?_) ?_
          · refine AW.st teOk [] (by simp [hd, -Option.some.injEq] <;> rfl) ?_ ?_
            · exact h
            by_cases hp : d.prop = i
            · have hdi := htk hp
              rw [hcs, if_pos hp]
              refine AW.iff true (by simp [hp]) (fun _ => ?_) (fun h => by cases h)
              refine AW.seq ?_
              refine AW.st teOk [] (by simp [hd, hdi, -Option.some.injEq] <;> rfl) ?_ ?_
              · exact h
              refine AW.iff false (by simp [hdi]) (fun h => by cases h) (fun _ => AW.skip ?_)
              refine AW.text teOk (ans := []) (by simp [hincc, -Option.some.injEq] <;> rfl) ?_ ?_
              · trivial
              exact ⟨_, Weak.normS hA [5, 6, 7, 8, 9, 10] [(6, 0)] [] [] 1 _ (by simp) (by simp) (by simp), by simp⟩
            · rw [hcs, if_neg hp]
              refine AW.iff false (by simp [hp]) (fun h => by cases h) (fun _ => AW.skip ?_)
              exact ⟨_, Weak.normS hA [5, 6, 7, 8, 9, 10] [(6, 0)] [] [] 1 _ (by simp) (by simp) (by simp), by simp⟩
          rintro s rfl
          refine AW.text teOk (ans := []) (by simp [-Option.some.injEq] <;> rfl) ?_ ?_
          · trivial
          refine ⟨_, _, Weak.normS hA [5, 6, 7, 8, 9, 10] [(6, 0)] [] [] 1 _ (by simp) (by simp) (by simp), ?_, k + 1, h, rfl, ?_⟩
          · omega
          · simp [hinck]
        have hke : k = G.decs.length := by
          rw [decide_eq_false_iff_not] at h
          omega
        have hcx : cntD G.decs i k = x.length := by
          rw [hke]
          unfold cntD
          rw [List.take_of_length_le (Nat.le_refl _)]
          exact hlx
        rw [hcx]
        exact ⟨_, Weak.normS hA [5, 6, 7, 8, 9] [(6, 0)] [] [] 1 _ (by simp) (by simp) (by simp), by simp⟩
      rintro s rfl
      have hadd : IntKind.i64.wrap ((T : Int) + (x.length : Int)) = (T : Int) + (x.length : Int) := by rw [IntKind.wrap_i64]; omega
      refine AW.seq ?_
      refine AW.st teOk [] (by simp [hx, -Option.some.injEq] <;> rfl) ?_ ?_
      · exact h
      refine AW.iff false (by simp) (fun h => by cases h) (fun _ => AW.skip ?_)
      refine AW.text teOk (ans := []) (by simp [hadd, -Option.some.injEq] <;> rfl) ?_ ?_
      · trivial
      exact ⟨_, Weak.normS hA [5, 6, 7, 8] [(6, 0)] [] [] 1 _ (by simp) (by simp) (by simp), by simp [hts]⟩
    rintro s rfl
    refine AW.text teOk (ans := []) (by simp [-Option.some.injEq] <;> rfl) ?_ ?_
    · trivial
    refine ⟨_, _, Weak.normS hA [5, 6, 7, 8] [(6, 0)] [] [] 1 _ (by simp) (by simp) (by simp), ?_, i + 1, h, rfl, ?_⟩
    · omega
    · simp [hinc]
  have hie : i = I.length := by
    rw [decide_eq_false_iff_not] at h
    omega
  subst hie
  rw [← htot]
  refine AW.st teOk [.fz (.c (cB true))] (by simp [hpk, -Option.some.injEq] <;> rfl) ?_ ?_
  · exact haw
  refine AW.ret ⟨.inr rfl, _, Weak.refl _, ?_⟩
  simp
end Go.Proofs.Ytopcklnnkpjanaa.Abs
