/-
  No cell of these rows narrows 'for every input' (looked for: loops, veiled, ifaces, maps, wideKeys, modest, calm, conditions, laid).
  DERIVED. THE GIVEN ROWS OF THIS SEAT. 5 by the template 'for every input the law returns true; each argument reads behind the call as it read before'; 0 by the template 'total and deterministic' (their statements: YtphlhadgcfndhaaGreatTotals.lean).
  GIVEN WITH THE SEED: the statements are not yours to turn. If you find one false, say at which input.
  Laid BY PROGRAM, IN A SANDBOX (cutbox-rows.mjs): the forced cells as the released guide's own fill.sh prints them over the translation 5c0e4a285579e691… (all of the seat's roots in one cut). By AI agents, Wed Nov 11 2026. No macro, syntax, notation, axiom, sorry.
-/
import Derived.Test.YtphlhadgcfndhaaGreatChecked
import GoSem.Claim
import GoSem.ClaimJoined
import GoSem.ClaimMapViews
import Derived.JoinedTies
import Derived.KernelRfl
namespace Go.Proofs.YtphlhadgcfndhaaGreat
/- THE CELL 'sum', in the pinned program and in every row, IS THE sha256 OF THE DUMP (.gsa) THAT YtphlhadgcfndhaaGreatProg.lean LOADS. Nothing in Lean hashes anything: it is a label: what it is worth is what the hold of that sum in a sandbox is worth. -/
noncomputable def Tryz.pinned : Pinned := { name := "ytphlhadgcfndhaagreat", sum := "5c0e4a285579e691de6249893e53df795e7971afe5236835f7320a9caad84010", checked := Tryz.checked }
namespace Rows
def none {H : Type} : Left H := { results := [], args := [] }

/-- 'elasticstorelaw39.LinearReplay': WHATEVER THE INPUT: true; the input reads as it did. -/
def linearReplaySpec : ChangeSpec := { name := "linearReplay", fn := fun _ => fun
  | [d1, d2, d3, d4, d5, d6] => { results := [.lit (.bool true)], args := [d1, d2, d3, d4, d5, d6] }
  | _ => none }
def linearReplayRow : OpenClaim := { program := "ytphlhadgcfndhaagreat", sum := "5c0e4a285579e691de6249893e53df795e7971afe5236835f7320a9caad84010", func := "elasticstore/elasticstorelaw39.LinearReplay", spec := "linearReplay", inPlace := ["slices.overlaps[elasticstore/history.Value]", "slices.overlaps[string]", "slices.overlaps[int]"], unfollowed := true, recurses := true, plainKeys := false, apart := false }
def LinearReplaySaid : Prop := linearReplayRow.holds Tryz.pinned (OpenSpec.ofChange linearReplaySpec)

/-- ITS FALSE NEIGHBOUR: 'it returns false'. Refute it at one input. -/
def linearReplayWrong : ChangeSpec := { name := "linearReplay", fn := fun _ => fun
  | [d1, d2, d3, d4, d5, d6] => { results := [.lit (.bool false)], args := [d1, d2, d3, d4, d5, d6] }
  | _ => none }
def LinearReplayWrongFalsely : Prop := linearReplayRow.holds Tryz.pinned (OpenSpec.ofChange linearReplayWrong)

/-- 'elasticstorelaw39.LinearSearch': WHATEVER THE INPUT: true; the input reads as it did. -/
def linearSearchSpec : ChangeSpec := { name := "linearSearch", fn := fun _ => fun
  | [d1, d2, d3, d4] => { results := [.lit (.bool true)], args := [d1, d2, d3, d4] }
  | _ => none }
def linearSearchRow : OpenClaim := { program := "ytphlhadgcfndhaagreat", sum := "5c0e4a285579e691de6249893e53df795e7971afe5236835f7320a9caad84010", func := "elasticstore/elasticstorelaw39.LinearSearch", spec := "linearSearch", inPlace := ["slices.overlaps[elasticstore/history.Value]", "slices.overlaps[string]", "slices.overlaps[int]"], unfollowed := true, recurses := true, plainKeys := false, apart := false }
def LinearSearchSaid : Prop := linearSearchRow.holds Tryz.pinned (OpenSpec.ofChange linearSearchSpec)

/-- ITS FALSE NEIGHBOUR: 'it returns false'. Refute it at one input. -/
def linearSearchWrong : ChangeSpec := { name := "linearSearch", fn := fun _ => fun
  | [d1, d2, d3, d4] => { results := [.lit (.bool false)], args := [d1, d2, d3, d4] }
  | _ => none }
def LinearSearchWrongFalsely : Prop := linearSearchRow.holds Tryz.pinned (OpenSpec.ofChange linearSearchWrong)

/-- 'elasticstorelaw39.LinearFinds': WHATEVER THE INPUT: true; the input reads as it did. -/
def linearFindsSpec : ChangeSpec := { name := "linearFinds", fn := fun _ => fun
  | [d1, d2] => { results := [.lit (.bool true)], args := [d1, d2] }
  | _ => none }
def linearFindsRow : OpenClaim := { program := "ytphlhadgcfndhaagreat", sum := "5c0e4a285579e691de6249893e53df795e7971afe5236835f7320a9caad84010", func := "elasticstore/elasticstorelaw39.LinearFinds", spec := "linearFinds", inPlace := ["slices.overlaps[elasticstore/history.Value]", "slices.overlaps[string]", "slices.overlaps[int]"], unfollowed := true, recurses := true, plainKeys := false, apart := false }
def LinearFindsSaid : Prop := linearFindsRow.holds Tryz.pinned (OpenSpec.ofChange linearFindsSpec)

/-- ITS FALSE NEIGHBOUR: 'it returns false'. Refute it at one input. -/
def linearFindsWrong : ChangeSpec := { name := "linearFinds", fn := fun _ => fun
  | [d1, d2] => { results := [.lit (.bool false)], args := [d1, d2] }
  | _ => none }
def LinearFindsWrongFalsely : Prop := linearFindsRow.holds Tryz.pinned (OpenSpec.ofChange linearFindsWrong)

/-- 'elasticstorelaw39.LinearProof': WHATEVER THE INPUT: true; the input reads as it did. -/
def linearProofSpec : ChangeSpec := { name := "linearProof", fn := fun _ => fun
  | [d] => { results := [.lit (.bool true)], args := [d] }
  | _ => none }
def linearProofRow : OpenClaim := { program := "ytphlhadgcfndhaagreat", sum := "5c0e4a285579e691de6249893e53df795e7971afe5236835f7320a9caad84010", func := "elasticstore/elasticstorelaw39.LinearProof", spec := "linearProof", inPlace := ["slices.overlaps[int]", "slices.overlaps[elasticstore/history.Value]", "slices.overlaps[string]"], unfollowed := true, recurses := true, plainKeys := false, apart := false }
def LinearProofSaid : Prop := linearProofRow.holds Tryz.pinned (OpenSpec.ofChange linearProofSpec)

/-- ITS FALSE NEIGHBOUR: 'it returns false'. Refute it at one input. -/
def linearProofWrong : ChangeSpec := { name := "linearProof", fn := fun _ => fun
  | [d] => { results := [.lit (.bool false)], args := [d] }
  | _ => none }
def LinearProofWrongFalsely : Prop := linearProofRow.holds Tryz.pinned (OpenSpec.ofChange linearProofWrong)

/-- 'elasticstorelaw39.LinearPrefix': WHATEVER THE INPUT: true; the input reads as it did. -/
def linearPrefixSpec : ChangeSpec := { name := "linearPrefix", fn := fun _ => fun
  | [d1, d2, d3] => { results := [.lit (.bool true)], args := [d1, d2, d3] }
  | _ => none }
def linearPrefixRow : OpenClaim := { program := "ytphlhadgcfndhaagreat", sum := "5c0e4a285579e691de6249893e53df795e7971afe5236835f7320a9caad84010", func := "elasticstore/elasticstorelaw39.LinearPrefix", spec := "linearPrefix", inPlace := ["slices.overlaps[elasticstore/history.Value]", "slices.overlaps[string]", "slices.overlaps[int]"], unfollowed := true, recurses := true, plainKeys := false, apart := false }
def LinearPrefixSaid : Prop := linearPrefixRow.holds Tryz.pinned (OpenSpec.ofChange linearPrefixSpec)

/-- ITS FALSE NEIGHBOUR: 'it returns false'. Refute it at one input. -/
def linearPrefixWrong : ChangeSpec := { name := "linearPrefix", fn := fun _ => fun
  | [d1, d2, d3] => { results := [.lit (.bool false)], args := [d1, d2, d3] }
  | _ => none }
def LinearPrefixWrongFalsely : Prop := linearPrefixRow.holds Tryz.pinned (OpenSpec.ofChange linearPrefixWrong)

/- THE SECOND FORM. 'bulk': how many values and letters a reading holds, each counted each time it is reached (what is shared counts as often as it is met; a slice's spare places count too). A statement '..UptoSaid' is the law's where the arguments, and the package variables that the reading takes, are together of bulk at most 1048576: NARROWER than '..Said'. Prove '..Said' where nothing that the law and all that it calls make is longer than what came in: it says more and counts as full. Else prove '..UptoSaid'. A law counts once. -/
mutual
def uptoBulk {H : Type} : DataW H → Nat
  | .lit (.string bytes) => bytes.length + 1
  | .lit _ => 1
  | .nil => 1
  | .ptr d => uptoBulk d + 1
  | .slice elems spare => uptoBulkAll elems + uptoBulkAll spare + 1
  | .agg parts => uptoBulkAll parts + 1
  | .iface _ d => uptoBulk d + 1
  | .map entries => uptoBulkEntries entries + 1
  | .held _ => 1
def uptoBulkAll {H : Type} : List (DataW H) → Nat
  | [] => 0
  | d :: r => uptoBulk d + uptoBulkAll r
def uptoBulkEntries {H : Type} : List (Lit × DataW H) → Nat
  | [] => 0
  | x :: r => uptoBulkEntry x + uptoBulkEntries r
def uptoBulkEntry {H : Type} : Lit × DataW H → Nat
  | (.string bytes, d) => bytes.length + uptoBulk d + 1
  | (_, d) => uptoBulk d + 1
 end
def uptoSmall : (H : Type) → List (DataW H) → Bool := fun _ ds => decide (uptoBulkAll ds ≤ 1048576)
def OpenSpec.upto (s : _root_.Go.ChangeSpec) : _root_.Go.OpenSpec := { _root_.Go.OpenSpec.ofChange s with cond := some uptoSmall }

/-- 'elasticstorelaw39.LinearReplay', WHERE WHAT IT READS IS OF BULK AT MOST 1048576: true; the input reads as it did. -/
def linearReplayUptoRow : OpenClaim := { program := "ytphlhadgcfndhaagreat", sum := "5c0e4a285579e691de6249893e53df795e7971afe5236835f7320a9caad84010", func := "elasticstore/elasticstorelaw39.LinearReplay", spec := "linearReplay", inPlace := ["slices.overlaps[elasticstore/history.Value]", "slices.overlaps[string]", "slices.overlaps[int]"], unfollowed := true, recurses := true, plainKeys := false, apart := false, narrowed := true }
def LinearReplayUptoSaid : Prop := linearReplayUptoRow.holds Tryz.pinned (OpenSpec.upto linearReplaySpec)

/-- 'elasticstorelaw39.LinearSearch', WHERE WHAT IT READS IS OF BULK AT MOST 1048576: true; the input reads as it did. -/
def linearSearchUptoRow : OpenClaim := { program := "ytphlhadgcfndhaagreat", sum := "5c0e4a285579e691de6249893e53df795e7971afe5236835f7320a9caad84010", func := "elasticstore/elasticstorelaw39.LinearSearch", spec := "linearSearch", inPlace := ["slices.overlaps[elasticstore/history.Value]", "slices.overlaps[string]", "slices.overlaps[int]"], unfollowed := true, recurses := true, plainKeys := false, apart := false, narrowed := true }
def LinearSearchUptoSaid : Prop := linearSearchUptoRow.holds Tryz.pinned (OpenSpec.upto linearSearchSpec)

/-- 'elasticstorelaw39.LinearFinds', WHERE WHAT IT READS IS OF BULK AT MOST 1048576: true; the input reads as it did. -/
def linearFindsUptoRow : OpenClaim := { program := "ytphlhadgcfndhaagreat", sum := "5c0e4a285579e691de6249893e53df795e7971afe5236835f7320a9caad84010", func := "elasticstore/elasticstorelaw39.LinearFinds", spec := "linearFinds", inPlace := ["slices.overlaps[elasticstore/history.Value]", "slices.overlaps[string]", "slices.overlaps[int]"], unfollowed := true, recurses := true, plainKeys := false, apart := false, narrowed := true }
def LinearFindsUptoSaid : Prop := linearFindsUptoRow.holds Tryz.pinned (OpenSpec.upto linearFindsSpec)

/-- 'elasticstorelaw39.LinearProof', WHERE WHAT IT READS IS OF BULK AT MOST 1048576: true; the input reads as it did. -/
def linearProofUptoRow : OpenClaim := { program := "ytphlhadgcfndhaagreat", sum := "5c0e4a285579e691de6249893e53df795e7971afe5236835f7320a9caad84010", func := "elasticstore/elasticstorelaw39.LinearProof", spec := "linearProof", inPlace := ["slices.overlaps[int]", "slices.overlaps[elasticstore/history.Value]", "slices.overlaps[string]"], unfollowed := true, recurses := true, plainKeys := false, apart := false, narrowed := true }
def LinearProofUptoSaid : Prop := linearProofUptoRow.holds Tryz.pinned (OpenSpec.upto linearProofSpec)

/-- 'elasticstorelaw39.LinearPrefix', WHERE WHAT IT READS IS OF BULK AT MOST 1048576: true; the input reads as it did. -/
def linearPrefixUptoRow : OpenClaim := { program := "ytphlhadgcfndhaagreat", sum := "5c0e4a285579e691de6249893e53df795e7971afe5236835f7320a9caad84010", func := "elasticstore/elasticstorelaw39.LinearPrefix", spec := "linearPrefix", inPlace := ["slices.overlaps[elasticstore/history.Value]", "slices.overlaps[string]", "slices.overlaps[int]"], unfollowed := true, recurses := true, plainKeys := false, apart := false, narrowed := true }
def LinearPrefixUptoSaid : Prop := linearPrefixUptoRow.holds Tryz.pinned (OpenSpec.upto linearPrefixSpec)

end Rows
end Go.Proofs.YtphlhadgcfndhaaGreat
