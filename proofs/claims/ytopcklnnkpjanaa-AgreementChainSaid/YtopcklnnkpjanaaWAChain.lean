/- AgreementChain. -/
import Derived.Test.YtopcklnnkpjanaaWAgr14
namespace Go.Proofs.Ytopcklnnkpjanaa.Abs
open Go Go.RowKit
set_option linter.unusedVariables false
set_option linter.unusedSimpArgs false
set_option maxHeartbeats 4000000
def runG (l s : List Int) : GrS := runS (newG (sizeN l) (inputsI l)) s
theorem runG_W (l s : List Int) : GrW (runG l s) (inputsI l).length (100 + 14 * s.length) := run_W s (new_W (by have := (size_is l).2; omega) (inputs_ok l))
theorem runG_C (l s : List Int) : ∃ H, InvC H [] (runG l s) := run_keep (fun g => ∃ H, InvC H [] g) keep_C s (new_W (by have := (size_is l).2; omega) (inputs_ok l)) ⟨_, new_C _ _⟩
theorem newl_pure (l : List Int) : Pure Try.prog 47 [.c (cI (sizeN l)), .c (.row 1 false ((inputsI l).map encIn))] (.agg (encGr (newG (sizeN l) (inputsI l)))) := gnew_pure _ (by have := (size_is l).2; omega) (inputs_ok l)
theorem runl_pure (l s : List Int) (hs : s.length ≤ 1000) : Pure Try.prog 53 [.agg (encGr (newG (sizeN l) (inputsI l))), .c (encIs s)] (.agg (encGr (runG l s))) := run_pure _ (new_W (by have := (size_is l).2; omega) (inputs_ok l)) s (by omega)
theorem chain_leI (l s : List Int) {d e : DeS} (hd : d ∈ (runG l s).decs) (he : e ∈ (runG l s).decs) : leI d.v e.v = true ∨ leI e.v d.v = true := by
  obtain ⟨H, h⟩ := runG_C l s
  have hw := runG_W l s
  rw [leI_sub (hw.d d hd).val (hw.d e he).val, leI_sub (hw.d e he).val (hw.d d hd).val]
  exact invC_chain h hd he
theorem achain_pure (l s : List Int) (hl : l.length < 4000000000000000000) (hs : s.length < 4000000000000000000) : Pure Try.prog 13 [.c (encIs l), .c (encIs s)] (.c (cB true)) := by
  have haw := awake17_pure
  refine pure_of teOk Try.func13 (by kernel_rfl) (c := _) rfl (N := 56) rfl (rs := [Go.ResultVar.tmp 4]) rfl (by simp) fun base A w0 hA => ?_
  refine AW.st teOk [] (by simp [-Option.some.injEq] <;> rfl) trivial ?_
  refine AW.seq ?_
  by_cases h150 : (s.length : Int) > 150
  · refine AW.st teOk [] (by simp [h150, -Option.some.injEq] <;> rfl) trivial ?_
    refine AW.iff true (by simp) (fun _ => ?_) (fun h => by cases h)
    refine AW.st teOk [.fz (.c (cB true))] (by simp [-Option.some.injEq] <;> rfl) ?_ ?_
    · exact haw
    refine AW.ret ⟨.inr rfl, _, Weak.refl _, ?_⟩
    simp
  refine AW.st teOk [] (by simp [h150, -Option.some.injEq] <;> rfl) trivial ?_
  refine AW.iff false (by simp) (fun h => by cases h) (fun _ => AW.skip ?_)
  have p1 := size_pure l hl
  have p2 := inputs_pure l hl
  have p3 := newl_pure l
  have p4 := runl_pure l s (by omega)
  have hch := fun {d e : DeS} => chain_leI l s (d := d) (e := e)
  have hw := runG_W l s
  have hdl := hw.dl
  have hdv := fun d hd => (hw.d d hd).le
  generalize runG l s = G at *
  generalize newG (sizeN l) (inputsI l) = G0 at *
  refine AW.st teOk [.fz (.c (cI (sizeN l))), .fz (.c (.row 1 false ((inputsI l).map encIn))), .fz (.agg (encGr G0)), .fz (.agg (encGr G))] (by simp [-Option.some.injEq] <;> rfl) ?_ ?_
  · exact ⟨p1, p2, p3, p4⟩
  refine AW.seq ?_
  refine AW.st teOk [] (by simp [-Option.some.injEq] <;> rfl) trivial ?_
  refine AW.block (AW.loop (fun m s => ∃ i : Nat, i ≤ G.decs.length ∧ m = G.decs.length - i ∧ s = ⟨[(5, .c (.ptr 0 0 0)), (6, .c (cI i))], [(0, ⟨7, [encGr G]⟩)], 1⟩) _ (Weak.normS hA [5, 6] [(5, 0)] [] [] 1 _ (by simp) (by simp) (by simp)) ⟨0, Nat.zero_le _, rfl, by simp⟩ ?_)
  rintro m s ⟨i, hi, rfl, rfl⟩
  refine AW.seq ?_
  refine AW.st teOk [] (by simp [-Option.some.injEq] <;> rfl) trivial ?_
  refine AW.iff (decide (i < G.decs.length)) (by simp) (fun h => AW.skip ?_) (fun h => AW.exit (x_then (x_then (blockA_exit ?_))))
  · rw [decide_eq_true_eq] at h
    have hinc : IntKind.i64.wrap ((i : Int) + 1) = (i : Int) + 1 := wrap_s _ (by omega)
    obtain ⟨d, hd⟩ : ∃ d, G.decs[i]? = some d := ⟨_, List.getElem?_eq_getElem h⟩
    refine AW.mid (fun s => s = ⟨[(5, .c (.ptr 0 0 0)), (6, .c (cI i))], [(0, ⟨7, [encGr G]⟩)], 1⟩) (AW.block ?_) ?_
    · refine AW.st teOk [] (by simp [-Option.some.injEq] <;> rfl) trivial ?_
      refine AW.block (AW.loop (fun m s => ∃ k : Nat, k ≤ i ∧ m = i - k ∧ s = ⟨[(5, .c (.ptr 0 0 0)), (6, .c (cI i)), (7, .c (cI k))], [(0, ⟨7, [encGr G]⟩)], 1⟩) _ (Weak.normS hA [5, 6, 7] [(5, 0)] [] [] 1 _ (by simp) (by simp) (by simp)) ⟨0, Nat.zero_le _, rfl, by simp⟩ ?_)
      rintro m s ⟨k, hk, rfl, rfl⟩
      refine AW.seq ?_
      refine AW.st teOk [] (by simp [-Option.some.injEq] <;> rfl) trivial ?_
      refine AW.iff (decide (k < i)) (by simp) (fun h => AW.skip ?_) (fun h => AW.exit (x_then (x_then (blockA_exit ?_))))
      · rename_i hi2
        rw [decide_eq_true_eq] at h
        have hinck : IntKind.i64.wrap ((k : Int) + 1) = (k : Int) + 1 := wrap_s _ (by omega)
        obtain ⟨e, he⟩ : ∃ e, G.decs[k]? = some e := ⟨_, List.getElem?_eq_getElem (by omega)⟩
        have hdm := List.mem_of_getElem? hd
        have hem := List.mem_of_getElem? he
        have q1 := rle_pure d.v e.v (by have := hdv d hdm; omega) (by have := hdv e hem; omega)
        have q2 := rle_pure e.v d.v (by have := hdv e hem; omega) (by have := hdv d hdm; omega)
        have hor := hch hdm hem
        refine AW.mid (fun s => s = ⟨[(5, .c (.ptr 0 0 0)), (6, .c (cI i)), (7, .c (cI k))], [(0, ⟨7, [encGr G]⟩)], 1⟩) (AW.block ?_) ?_
        · refine AW.dr mixed teOk [] (by simp [hd, he, -Option.some.injEq] <;> rfl) (by kernel_rfl) (by kernel_rfl) ?_ ?_
          · simp [allP]
            omega
          cases hle : leI d.v e.v with
          | true =>
            rw [hle] at q1
            refine AW.st teOk [.fz (.c (cB true))] (by simp [-Option.some.injEq] <;> rfl) ?_ ?_
            · exact q1
            refine AW.iff false (by simp) (fun h => by cases h) (fun _ => AW.skip ?_)
            exact ⟨_, Weak.normS hA [5, 6, 7] [(5, 0)] [] [] 1 _ (by simp) (by simp) (by simp), by simp⟩
          | false =>
            have hle2 : leI e.v d.v = true := by
              rcases hor with h | h
              · rw [h] at hle; cases hle
              · exact h
            rw [hle] at q1
            rw [hle2] at q2
            refine AW.st teOk [.fz (.c (cB false)), .fz (.c (cB true))] (by simp [-Option.some.injEq] <;> rfl) ?_ ?_
            · exact ⟨q1, q2⟩
            refine AW.iff false (by simp) (fun h => by cases h) (fun _ => AW.skip ?_)
            exact ⟨_, Weak.normS hA [5, 6, 7] [(5, 0)] [] [] 1 _ (by simp) (by simp) (by simp), by simp⟩
        rintro s rfl
        refine AW.text teOk (ans := []) (by simp [-Option.some.injEq] <;> rfl) ?_ ?_
        · trivial
        refine ⟨_, _, Weak.normS hA [5, 6, 7] [(5, 0)] [] [] 1 _ (by simp) (by simp) (by simp), ?_, k + 1, h, rfl, ?_⟩
        · omega
        · simp [hinck]
      exact ⟨_, Weak.normS hA [5, 6] [(5, 0)] [] [] 1 _ (by simp) (by simp) (by simp), by simp⟩
    rintro s rfl
    refine AW.text teOk (ans := []) (by simp [-Option.some.injEq] <;> rfl) ?_ ?_
    · trivial
    refine ⟨_, _, Weak.normS hA [5, 6] [(5, 0)] [] [] 1 _ (by simp) (by simp) (by simp), ?_, i + 1, h, rfl, ?_⟩
    · omega
    · simp [hinc]
  refine AW.st teOk [.fz (.c (cB true))] (by simp [-Option.some.injEq] <;> rfl) ?_ ?_
  · exact haw
  refine AW.ret ⟨.inr rfl, _, Weak.refl _, ?_⟩
  simp
end Go.Proofs.Ytopcklnnkpjanaa.Abs
