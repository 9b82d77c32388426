/- The law's fixed example (awake) answers true: walked by hand over the contracts of the functions that it calls. -/
import Derived.Test.YtbcllonopnmmeaaPrint4
import Derived.Test.YtbcllonopnmmeaaPrint6
import Derived.Lib.SlBytesConst
namespace Go.Proofs.Ytbcllonopnmmeaa.Print
open Go.RowKit Go.Proofs.YtbcllonopnmmeaaW.PrintWords Go.Proofs.YtbcllonopnmmeaaW.PrintLast Go.Proofs.YtbcllonopnmmeaaW.PrintMore
set_option linter.unusedVariables false
set_option linter.unusedSimpArgs false

def awakeF : List Int := [0, 0, 0, 2, 97, 98, 11, 134, 112, 99]
theorem awake_append : frame_Append.f 200 [] [97, 98] = some ([0, 0, 0, 2, 97, 98, 11, 134, 112, 99], 0) := by decide +kernel
theorem awake_decode : frame_Decode.f 200 [0, 0, 0, 2, 97, 98, 11, 134, 112, 99] = some ([97, 98], 10, 0) := by decide +kernel
theorem awake_sum : frame_Checksum.f 200 [49, 50, 51, 52, 53, 54, 55, 56, 57] = some 3808858755 := by decide +kernel
/-- A literal of bytes that bears the run-time's mark reads as its numbers. -/
theorem lit_reads (W : World) (xs : List Int) (fr : Nat × Nat) (hm : xs.length ≤ 9223372036854775807) : Kd.C (Kd.int .u8) (W.alloc (.cells (xs.map (Value.int .u8)).toArray 5 fr)) (some ⟨W.heap.size, 0, none⟩) xs.length xs := by
  refine Kd.C_of_reads (enc := Value.int .u8) (d := (0 : Int)) (h1 := fun _ => rfl) ⟨rfl, hm, fun _ => ⟨_, rfl, fun j hj => ?_⟩⟩
  rw [add_plain, World.cell?_alloc_mark]
  simp [List.getD_eq_getElem?_getD, List.getElem?_eq_getElem hj]
def elasticstorelaw02_awake.f : Option Bool := some true
set_option maxHeartbeats 4000000 in
set_option maxRecDepth 100000 in
theorem elasticstorelaw02_awake.calls (r : Bool) (w : World) (h : elasticstorelaw02_awake.f = some r) :
    Calls Try.prog 13 #[] w fun e w' => e = .returned (.bool r) ∧ Below w.heap.size w w' := by
  obtain rfl := Option.some.inj h
  clear h
  have hc1 := Lib.run_convert_bytes_const w 22 5 #[.int .u8 97, .int .u8 98] 2 2 Try.underlying22 Try.underlying5
  have L1 := Aside0.mk (lit_reads w [97, 98] (2, 3) (by decide))
  have S1 := Aside0.mk awake_append
  have S2 := Aside0.mk awake_decode
  have S3 := Aside0.mk awake_sum
  go_enter Try.func13, Try.ntmps13
  go_wp2_with (fail)
  refine (frame_Append.calls 200 (fun _ => False) none 0 [] _ _ [97, 98] _ _ _ (Kd.V_nil _ _ _ _ _) L1.out (Nat.le_refl _) S1.out).mono ?_
  rintro e w1 ⟨v1, rfl, ho1, hb1⟩
  have HB1 := Aside0.mk ((below_alloc (Below.refl w.heap.size w) (.cells #[.int .u8 97, .int .u8 98] 5 (2, 3))).trans (hb1.mono (by simp)))
  clear hb1 hc1
  obtain ⟨A1, c1, rfl⟩ := Kd.R_slice ho1
  have HO1 := Aside0.mk (Kd.R_reads' ho1)
  clear ho1
  go_wp2_with (fail)
  refine (frame_Decode.calls 200 _ _ [0, 0, 0, 2, 97, 98, 11, 134, 112, 99] _ _ _ _ HO1.out.2.2 HO1.out.2.1 S2.out).mono ?_
  rintro e w2 ⟨v2, rfl, ho2, hb2⟩
  have HB2 := Aside0.mk (HB1.out.trans (hb2.mono HB1.out.size))
  clear hb2
  obtain ⟨A2, c2, rfl⟩ := Kd.R_slice ho2
  have HO2 := Aside0.mk (Kd.R_reads' ho2)
  clear ho2
  have hc2 := Lib.run_convert_bytes_const w2 22 5 #[.int .u8 49, .int .u8 50, .int .u8 51, .int .u8 52, .int .u8 53, .int .u8 54, .int .u8 55, .int .u8 56, .int .u8 57] 9 9 Try.underlying22 Try.underlying5
  have L2 := Aside0.mk (lit_reads w2 [49, 50, 51, 52, 53, 54, 55, 56, 57] (9, 10) (by decide))
  go_wp2_with (fail)
  refine (frame_Checksum.calls 200 _ _ [49, 50, 51, 52, 53, 54, 55, 56, 57] _ _ L2.out (Nat.le_refl _) S3.out).mono ?_
  rintro e w3 ⟨rfl, ⟨nd, rfl⟩⟩
  clear hc2
  have hcv : ∀ W, (Kd.int .u8).C W A2 2 [97, 98] → (convert 22 9 (.slice A2 2 c2)).run Try.prog W = .ok (.string (strOfNums [97, 98])) W := fun W hW => Kd.C_string (P := Try.prog) Try.underlying22 Try.underlying5 Try.underlying9 hW
  replace hcv := hcv _ (Kd.C_drewN (Kd.C_below HO2.out.2.2 (below_alloc (Below.refl w2.heap.size w2) (.cells #[.int .u8 49, .int .u8 50, .int .u8 51, .int .u8 52, .int .u8 53, .int .u8 54, .int .u8 55, .int .u8 56, .int .u8 57] 5 (9, 10)))) nd)
  -- (P := Try.prog) (A := A2) (c := c2) Try.underlying22 Try.underlying5 Try.underlying9 (Kd.C_drewN (Kd.C_below HO2.out.2.2 (below_alloc (Below.refl w2.heap.size w2) (.cells #[.int .u8 49, .int .u8 50, .int .u8 51, .int .u8 52, .int .u8 53, .int .u8 54, .int .u8 55, .int .u8 56, .int .u8 57] 5 (9, 10)))) nd)
  have e10 : (([0, 0, 0, 2, 97, 98, 11, 134, 112, 99] : List Int).length == 10) = true := rfl
  have hs : (strOfNums [97, 98]).toList = [97, 98] := by decide +kernel
  go_wp2
  go_ret
  exact ⟨rfl, pw_below_drewN (below_alloc HB2.out _) _⟩
end Go.Proofs.Ytbcllonopnmmeaa.Print
