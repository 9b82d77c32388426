/- What every row of the seat needs of the program. -/
import Derived.Test.YtphlhadgcfndhaaRows
import Derived.JoinedOf
import Derived.WalkKit
namespace Go.Proofs.Ytphlhadgcfndhaa
open Go Go.RowKit
def headSigns : List Char := [Char.ofNat 104, Char.ofNat 97, Char.ofNat 114, Char.ofNat 110, Char.ofNat 101, Char.ofNat 115, Char.ofNat 115, Char.ofNat 32, Char.ofNat 49, Char.ofNat 52, Char.ofNat 57, Char.ofNat 53, Char.ofNat 100, Char.ofNat 50, Char.ofNat 55, Char.ofNat 48, Char.ofNat 48, Char.ofNat 52, Char.ofNat 54, Char.ofNat 49, Char.ofNat 102, Char.ofNat 102, Char.ofNat 57, Char.ofNat 99, Char.ofNat 100, Char.ofNat 56, Char.ofNat 102, Char.ofNat 52, Char.ofNat 55, Char.ofNat 55, Char.ofNat 55, Char.ofNat 99, Char.ofNat 99, Char.ofNat 98, Char.ofNat 100, Char.ofNat 97, Char.ofNat 49, Char.ofNat 99, Char.ofNat 49, Char.ofNat 101, Char.ofNat 98, Char.ofNat 52, Char.ofNat 52, Char.ofNat 50, Char.ofNat 99, Char.ofNat 57, Char.ofNat 50, Char.ofNat 55, Char.ofNat 48, Char.ofNat 100, Char.ofNat 48, Char.ofNat 102, Char.ofNat 102, Char.ofNat 98, Char.ofNat 52, Char.ofNat 54, Char.ofNat 51, Char.ofNat 51, Char.ofNat 101, Char.ofNat 50, Char.ofNat 98, Char.ofNat 52, Char.ofNat 97, Char.ofNat 57, Char.ofNat 54, Char.ofNat 49, Char.ofNat 99, Char.ofNat 51, Char.ofNat 101, Char.ofNat 98, Char.ofNat 55, Char.ofNat 97, Char.ofNat 32, Char.ofNat 99, Char.ofNat 117, Char.ofNat 116, Char.ofNat 32, Char.ofNat 97, Char.ofNat 116, Char.ofNat 32, Char.ofNat 101, Char.ofNat 108, Char.ofNat 97, Char.ofNat 115, Char.ofNat 116, Char.ofNat 105, Char.ofNat 99, Char.ofNat 115, Char.ofNat 116, Char.ofNat 111, Char.ofNat 114, Char.ofNat 101, Char.ofNat 47, Char.ofNat 101, Char.ofNat 108, Char.ofNat 97, Char.ofNat 115, Char.ofNat 116, Char.ofNat 105, Char.ofNat 99, Char.ofNat 115, Char.ofNat 116, Char.ofNat 111, Char.ofNat 114, Char.ofNat 101, Char.ofNat 108, Char.ofNat 97, Char.ofNat 119, Char.ofNat 51, Char.ofNat 57, Char.ofNat 46, Char.ofNat 76, Char.ofNat 105, Char.ofNat 110, Char.ofNat 101, Char.ofNat 97, Char.ofNat 114, Char.ofNat 83, Char.ofNat 116, Char.ofNat 101, Char.ofNat 112, Char.ofNat 32, Char.ofNat 101, Char.ofNat 108, Char.ofNat 97, Char.ofNat 115, Char.ofNat 116, Char.ofNat 105, Char.ofNat 99, Char.ofNat 115, Char.ofNat 116, Char.ofNat 111, Char.ofNat 114, Char.ofNat 101, Char.ofNat 47, Char.ofNat 101, Char.ofNat 108, Char.ofNat 97, Char.ofNat 115, Char.ofNat 116, Char.ofNat 105, Char.ofNat 99, Char.ofNat 115, Char.ofNat 116, Char.ofNat 111, Char.ofNat 114, Char.ofNat 101, Char.ofNat 108, Char.ofNat 97, Char.ofNat 119, Char.ofNat 51, Char.ofNat 57, Char.ofNat 46, Char.ofNat 76, Char.ofNat 105, Char.ofNat 110, Char.ofNat 101, Char.ofNat 97, Char.ofNat 114, Char.ofNat 76, Char.ofNat 111, Char.ofNat 110, Char.ofNat 103]
theorem headTab : Try.prog.initOrder = Try.progTables.initOrder := by kernel_rfl
theorem headLit : Try.prog.initOrder = "harness 1495d2700461ff9cd8f4777ccbda1c1eb442c9270d0ffb4633e2b4a961c3eb7a cut at elasticstore/elasticstorelaw39.LinearStep elasticstore/elasticstorelaw39.LinearLong" := headTab.trans (by kernel_rfl)
theorem headOf : "harness 1495d2700461ff9cd8f4777ccbda1c1eb442c9270d0ffb4633e2b4a961c3eb7a cut at elasticstore/elasticstorelaw39.LinearStep elasticstore/elasticstorelaw39.LinearLong" = String.ofList headSigns := by kernel_rfl
theorem head_ : Try.prog.initOrder = String.ofList headSigns := headLit.trans headOf
theorem headL : Try.prog.initOrder.toList = headSigns := by rw [head_, String.toList_ofList]
def cutSigns : List Char := [Char.ofNat 99, Char.ofNat 117, Char.ofNat 116]
theorem cutL : "cut".toList = cutSigns := by rw [show "cut" = String.ofList cutSigns by kernel_rfl, String.toList_ofList]
def restSigns : List (List Char) := (behindMainWord (wordsSigns headSigns)).tail
theorem behind_ : behindMainWord (wordsSigns headSigns) = cutSigns :: restSigns := by kernel_rfl
theorem strip_ : stripLifts liftWords (cutSigns :: restSigns) = ([], cutSigns :: restSigns) := by kernel_rfl
theorem later_ : Try.prog.laysLater = false := by kernel_rfl
theorem bears_ : Try.prog.bearsReflect = false := by kernel_rfl
theorem door_ : Try.prog.doorFits [] = true := by kernel_rfl
theorem mayEnter_of {P : Program} {c : List Char} {rest : List (List Char)} (hb : behindMainWord (wordsSigns P.initOrder.toList) = c :: rest) (hs : stripLifts liftWords (c :: rest) = ([], c :: rest)) (hc : "cut".toList = c) (h1 : P.laysLater = false) (h2 : P.bearsReflect = false) (h3 : P.doorFits [] = true) : P.mayEnter = true := by
  unfold Program.mayEnter
  rw [hb]
  simp only [hs, hc, h1, h2, h3, List.head?_cons, beq_self_eq_true, Bool.not_false, Bool.or_true, Bool.and_true, List.contains_nil]
theorem lifts_of {P : Program} {c : List Char} {rest : List (List Char)} (hb : behindMainWord (wordsSigns P.initOrder.toList) = c :: rest) (hs : stripLifts liftWords (c :: rest) = ([], c :: rest)) (hc : "cut".toList = c) (hne : (some c == some "carried".toList) = false) : P.liftsFinal = false := by
  unfold Program.liftsFinal Program.headLifts
  rw [hb]
  simp only [hs, hc, hne, List.head?_cons, beq_self_eq_true, List.contains_nil, if_true, Bool.false_and, Bool.or_self]
theorem behind2 : behindMainWord (wordsSigns Try.prog.initOrder.toList) = cutSigns :: restSigns := by rw [headL]; exact behind_
theorem mayEnter_ : Try.prog.mayEnter = true := mayEnter_of behind2 strip_ cutL later_ bears_ door_
theorem carriedNe : (some cutSigns == some "carried".toList) = false := by kernel_rfl
theorem make_of {P : Program} {c : List Char} {rest : List (List Char)} (hb : behindMainWord (wordsSigns P.initOrder.toList) = c :: rest) (hc : "cut".toList = c) (hne : (c == "gc".toList || c == "spec".toList) = false) : P.make = some .cut := by
  unfold Program.make
  rw [hb]
  simp only [hc, hne, beq_self_eq_true, Bool.true_or, if_true, Bool.false_eq_true, if_false]
theorem gcNe : (cutSigns == "gc".toList || cutSigns == "spec".toList) = false := by kernel_rfl
theorem make_ : Try.prog.make = some .cut := make_of behind2 cutL gcNe
theorem liftsFinal_ : Try.prog.liftsFinal = false := lifts_of behind2 strip_ cutL carriedNe
end Go.Proofs.Ytphlhadgcfndhaa
