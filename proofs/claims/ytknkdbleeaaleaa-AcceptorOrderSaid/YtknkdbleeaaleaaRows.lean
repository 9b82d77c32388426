/-
  No cell of these rows narrows 'for every input' (looked for: loops, veiled, ifaces, maps, wideKeys, modest, calm, conditions, laid).
  DERIVED. THE GIVEN ROWS OF THIS SEAT. 14 by the template 'for every input the law returns true; each argument reads behind the call as it read before'; 0 by the template 'total and deterministic' (their statements: YtknkdbleeaaleaaTotals.lean).
  GIVEN WITH THE SEED: the statements are not yours to turn. If you find one false, say at which input.
  Laid BY PROGRAM, IN A SANDBOX (cutbox-rows.mjs): the forced cells as the released guide's own fill.sh prints them over the translation c3a9a86f1644f6d9… (all of the seat's roots in one cut). By AI agents, Wed Nov 11 2026. No macro, syntax, notation, axiom, sorry.
-/
import Derived.Test.YtknkdbleeaaleaaChecked
import GoSem.Claim
import GoSem.ClaimJoined
import GoSem.ClaimMapViews
import Derived.JoinedTies
import Derived.KernelRfl
namespace Go.Proofs.Ytknkdbleeaaleaa
/- THE CELL 'sum', in the pinned program and in every row, IS THE sha256 OF THE DUMP (.gsa) THAT YtknkdbleeaaleaaProg.lean LOADS. Nothing in Lean hashes anything: it is a label: what it is worth is what the hold of that sum in a sandbox is worth. -/
noncomputable def Try.pinned : Pinned := { name := "ytknkdbleeaaleaa", sum := "c3a9a86f1644f6d98a20ed53325f6a51293c0fdaf9ab61c201a80d1ac4997002", checked := Try.checked }
namespace Rows
def none {H : Type} : Left H := { results := [], args := [] }

/-- 'elasticstorelaw15.AcceptorAccept': WHATEVER THE INPUT: true; the input reads as it did. -/
def acceptorAcceptSpec : ChangeSpec := { name := "acceptorAccept", fn := fun _ => fun
  | [d1, d2] => { results := [.lit (.bool true)], args := [d1, d2] }
  | _ => none }
def acceptorAcceptRow : OpenClaim := { program := "ytknkdbleeaaleaa", sum := "c3a9a86f1644f6d98a20ed53325f6a51293c0fdaf9ab61c201a80d1ac4997002", func := "elasticstore/elasticstorelaw15.AcceptorAccept", spec := "acceptorAccept", unfollowed := true, recurses := true, apart := false }
def AcceptorAcceptSaid : Prop := acceptorAcceptRow.holds Try.pinned (OpenSpec.ofChange acceptorAcceptSpec)

/-- ITS FALSE NEIGHBOUR: 'it returns false'. Refute it at one input. -/
def acceptorAcceptWrong : ChangeSpec := { name := "acceptorAccept", fn := fun _ => fun
  | [d1, d2] => { results := [.lit (.bool false)], args := [d1, d2] }
  | _ => none }
def AcceptorAcceptWrongFalsely : Prop := acceptorAcceptRow.holds Try.pinned (OpenSpec.ofChange acceptorAcceptWrong)

/-- 'elasticstorelaw15.AcceptorAll': WHATEVER THE INPUT: true; the input reads as it did. -/
def acceptorAllSpec : ChangeSpec := { name := "acceptorAll", fn := fun _ => fun
  | [d1, d2] => { results := [.lit (.bool true)], args := [d1, d2] }
  | _ => none }
def acceptorAllRow : OpenClaim := { program := "ytknkdbleeaaleaa", sum := "c3a9a86f1644f6d98a20ed53325f6a51293c0fdaf9ab61c201a80d1ac4997002", func := "elasticstore/elasticstorelaw15.AcceptorAll", spec := "acceptorAll", unfollowed := true, recurses := true, apart := false }
def AcceptorAllSaid : Prop := acceptorAllRow.holds Try.pinned (OpenSpec.ofChange acceptorAllSpec)

/-- ITS FALSE NEIGHBOUR: 'it returns false'. Refute it at one input. -/
def acceptorAllWrong : ChangeSpec := { name := "acceptorAll", fn := fun _ => fun
  | [d1, d2] => { results := [.lit (.bool false)], args := [d1, d2] }
  | _ => none }
def AcceptorAllWrongFalsely : Prop := acceptorAllRow.holds Try.pinned (OpenSpec.ofChange acceptorAllWrong)

/-- 'elasticstorelaw15.AcceptorOrder': WHATEVER THE INPUT: true; the input reads as it did. -/
def acceptorOrderSpec : ChangeSpec := { name := "acceptorOrder", fn := fun _ => fun
  | [d1, d2] => { results := [.lit (.bool true)], args := [d1, d2] }
  | _ => none }
def acceptorOrderRow : OpenClaim := { program := "ytknkdbleeaaleaa", sum := "c3a9a86f1644f6d98a20ed53325f6a51293c0fdaf9ab61c201a80d1ac4997002", func := "elasticstore/elasticstorelaw15.AcceptorOrder", spec := "acceptorOrder", unfollowed := true, recurses := true, apart := false }
def AcceptorOrderSaid : Prop := acceptorOrderRow.holds Try.pinned (OpenSpec.ofChange acceptorOrderSpec)

/-- ITS FALSE NEIGHBOUR: 'it returns false'. Refute it at one input. -/
def acceptorOrderWrong : ChangeSpec := { name := "acceptorOrder", fn := fun _ => fun
  | [d1, d2] => { results := [.lit (.bool false)], args := [d1, d2] }
  | _ => none }
def AcceptorOrderWrongFalsely : Prop := acceptorOrderRow.holds Try.pinned (OpenSpec.ofChange acceptorOrderWrong)

/-- 'elasticstorelaw15.AcceptorChain': WHATEVER THE INPUT: true; the input reads as it did. -/
def acceptorChainSpec : ChangeSpec := { name := "acceptorChain", fn := fun _ => fun
  | [d] => { results := [.lit (.bool true)], args := [d] }
  | _ => none }
def acceptorChainRow : OpenClaim := { program := "ytknkdbleeaaleaa", sum := "c3a9a86f1644f6d98a20ed53325f6a51293c0fdaf9ab61c201a80d1ac4997002", func := "elasticstore/elasticstorelaw15.AcceptorChain", spec := "acceptorChain", unfollowed := true, recurses := true, apart := false }
def AcceptorChainSaid : Prop := acceptorChainRow.holds Try.pinned (OpenSpec.ofChange acceptorChainSpec)

/-- ITS FALSE NEIGHBOUR: 'it returns false'. Refute it at one input. -/
def acceptorChainWrong : ChangeSpec := { name := "acceptorChain", fn := fun _ => fun
  | [d] => { results := [.lit (.bool false)], args := [d] }
  | _ => none }
def AcceptorChainWrongFalsely : Prop := acceptorChainRow.holds Try.pinned (OpenSpec.ofChange acceptorChainWrong)

/-- 'elasticstorelaw03.VectorValidate': WHATEVER THE INPUT: true; the input reads as it did. -/
def vectorValidateSpec : ChangeSpec := { name := "vectorValidate", fn := fun _ => fun
  | [d] => { results := [.lit (.bool true)], args := [d] }
  | _ => none }
def vectorValidateRow : OpenClaim := { program := "ytknkdbleeaaleaa", sum := "c3a9a86f1644f6d98a20ed53325f6a51293c0fdaf9ab61c201a80d1ac4997002", func := "elasticstore/elasticstorelaw03.VectorValidate", spec := "vectorValidate", unfollowed := true, recurses := true, apart := false }
def VectorValidateSaid : Prop := vectorValidateRow.holds Try.pinned (OpenSpec.ofChange vectorValidateSpec)

/-- ITS FALSE NEIGHBOUR: 'it returns false'. Refute it at one input. -/
def vectorValidateWrong : ChangeSpec := { name := "vectorValidate", fn := fun _ => fun
  | [d] => { results := [.lit (.bool false)], args := [d] }
  | _ => none }
def VectorValidateWrongFalsely : Prop := vectorValidateRow.holds Try.pinned (OpenSpec.ofChange vectorValidateWrong)

/-- 'elasticstorelaw03.VectorJoin': WHATEVER THE INPUT: true; the input reads as it did. -/
def vectorJoinSpec : ChangeSpec := { name := "vectorJoin", fn := fun _ => fun
  | [d1, d2, d3] => { results := [.lit (.bool true)], args := [d1, d2, d3] }
  | _ => none }
def vectorJoinRow : OpenClaim := { program := "ytknkdbleeaaleaa", sum := "c3a9a86f1644f6d98a20ed53325f6a51293c0fdaf9ab61c201a80d1ac4997002", func := "elasticstore/elasticstorelaw03.VectorJoin", spec := "vectorJoin", unfollowed := true, recurses := true, apart := false }
def VectorJoinSaid : Prop := vectorJoinRow.holds Try.pinned (OpenSpec.ofChange vectorJoinSpec)

/-- ITS FALSE NEIGHBOUR: 'it returns false'. Refute it at one input. -/
def vectorJoinWrong : ChangeSpec := { name := "vectorJoin", fn := fun _ => fun
  | [d1, d2, d3] => { results := [.lit (.bool false)], args := [d1, d2, d3] }
  | _ => none }
def VectorJoinWrongFalsely : Prop := vectorJoinRow.holds Try.pinned (OpenSpec.ofChange vectorJoinWrong)

/-- 'elasticstorelaw03.VectorMeet': WHATEVER THE INPUT: true; the input reads as it did. -/
def vectorMeetSpec : ChangeSpec := { name := "vectorMeet", fn := fun _ => fun
  | [d1, d2, d3] => { results := [.lit (.bool true)], args := [d1, d2, d3] }
  | _ => none }
def vectorMeetRow : OpenClaim := { program := "ytknkdbleeaaleaa", sum := "c3a9a86f1644f6d98a20ed53325f6a51293c0fdaf9ab61c201a80d1ac4997002", func := "elasticstore/elasticstorelaw03.VectorMeet", spec := "vectorMeet", unfollowed := true, recurses := true, apart := false }
def VectorMeetSaid : Prop := vectorMeetRow.holds Try.pinned (OpenSpec.ofChange vectorMeetSpec)

/-- ITS FALSE NEIGHBOUR: 'it returns false'. Refute it at one input. -/
def vectorMeetWrong : ChangeSpec := { name := "vectorMeet", fn := fun _ => fun
  | [d1, d2, d3] => { results := [.lit (.bool false)], args := [d1, d2, d3] }
  | _ => none }
def VectorMeetWrongFalsely : Prop := vectorMeetRow.holds Try.pinned (OpenSpec.ofChange vectorMeetWrong)

/-- 'elasticstorelaw03.VectorLattice': WHATEVER THE INPUT: true; the input reads as it did. -/
def vectorLatticeSpec : ChangeSpec := { name := "vectorLattice", fn := fun _ => fun
  | [d1, d2, d3] => { results := [.lit (.bool true)], args := [d1, d2, d3] }
  | _ => none }
def vectorLatticeRow : OpenClaim := { program := "ytknkdbleeaaleaa", sum := "c3a9a86f1644f6d98a20ed53325f6a51293c0fdaf9ab61c201a80d1ac4997002", func := "elasticstore/elasticstorelaw03.VectorLattice", spec := "vectorLattice", unfollowed := true, recurses := true, apart := false }
def VectorLatticeSaid : Prop := vectorLatticeRow.holds Try.pinned (OpenSpec.ofChange vectorLatticeSpec)

/-- ITS FALSE NEIGHBOUR: 'it returns false'. Refute it at one input. -/
def vectorLatticeWrong : ChangeSpec := { name := "vectorLattice", fn := fun _ => fun
  | [d1, d2, d3] => { results := [.lit (.bool false)], args := [d1, d2, d3] }
  | _ => none }
def VectorLatticeWrongFalsely : Prop := vectorLatticeRow.holds Try.pinned (OpenSpec.ofChange vectorLatticeWrong)

/-- 'elasticstorelaw03.VectorCompare': WHATEVER THE INPUT: true; the input reads as it did. -/
def vectorCompareSpec : ChangeSpec := { name := "vectorCompare", fn := fun _ => fun
  | [d1, d2] => { results := [.lit (.bool true)], args := [d1, d2] }
  | _ => none }
def vectorCompareRow : OpenClaim := { program := "ytknkdbleeaaleaa", sum := "c3a9a86f1644f6d98a20ed53325f6a51293c0fdaf9ab61c201a80d1ac4997002", func := "elasticstore/elasticstorelaw03.VectorCompare", spec := "vectorCompare", unfollowed := true, recurses := true, apart := false }
def VectorCompareSaid : Prop := vectorCompareRow.holds Try.pinned (OpenSpec.ofChange vectorCompareSpec)

/-- ITS FALSE NEIGHBOUR: 'it returns false'. Refute it at one input. -/
def vectorCompareWrong : ChangeSpec := { name := "vectorCompare", fn := fun _ => fun
  | [d1, d2] => { results := [.lit (.bool false)], args := [d1, d2] }
  | _ => none }
def VectorCompareWrongFalsely : Prop := vectorCompareRow.holds Try.pinned (OpenSpec.ofChange vectorCompareWrong)

/-- 'elasticstorelaw03.VectorSize': WHATEVER THE INPUT: true; the input reads as it did. -/
def vectorSizeSpec : ChangeSpec := { name := "vectorSize", fn := fun _ => fun
  | [d1, d2] => { results := [.lit (.bool true)], args := [d1, d2] }
  | _ => none }
def vectorSizeRow : OpenClaim := { program := "ytknkdbleeaaleaa", sum := "c3a9a86f1644f6d98a20ed53325f6a51293c0fdaf9ab61c201a80d1ac4997002", func := "elasticstore/elasticstorelaw03.VectorSize", spec := "vectorSize", unfollowed := true, recurses := true, apart := false }
def VectorSizeSaid : Prop := vectorSizeRow.holds Try.pinned (OpenSpec.ofChange vectorSizeSpec)

/-- ITS FALSE NEIGHBOUR: 'it returns false'. Refute it at one input. -/
def vectorSizeWrong : ChangeSpec := { name := "vectorSize", fn := fun _ => fun
  | [d1, d2] => { results := [.lit (.bool false)], args := [d1, d2] }
  | _ => none }
def VectorSizeWrongFalsely : Prop := vectorSizeRow.holds Try.pinned (OpenSpec.ofChange vectorSizeWrong)

/-- 'elasticstorelaw16.ProposerPlays': WHATEVER THE INPUT: true; the input reads as it did. -/
def proposerPlaysSpec : ChangeSpec := { name := "proposerPlays", fn := fun _ => fun
  | [d1, d2, d3] => { results := [.lit (.bool true)], args := [d1, d2, d3] }
  | _ => none }
def proposerPlaysRow : OpenClaim := { program := "ytknkdbleeaaleaa", sum := "c3a9a86f1644f6d98a20ed53325f6a51293c0fdaf9ab61c201a80d1ac4997002", func := "elasticstore/elasticstorelaw16.ProposerPlays", spec := "proposerPlays", unfollowed := true, recurses := true, apart := false }
def ProposerPlaysSaid : Prop := proposerPlaysRow.holds Try.pinned (OpenSpec.ofChange proposerPlaysSpec)

/-- ITS FALSE NEIGHBOUR: 'it returns false'. Refute it at one input. -/
def proposerPlaysWrong : ChangeSpec := { name := "proposerPlays", fn := fun _ => fun
  | [d1, d2, d3] => { results := [.lit (.bool false)], args := [d1, d2, d3] }
  | _ => none }
def ProposerPlaysWrongFalsely : Prop := proposerPlaysRow.holds Try.pinned (OpenSpec.ofChange proposerPlaysWrong)

/-- 'elasticstorelaw16.ProposerDecides': WHATEVER THE INPUT: true; the input reads as it did. -/
def proposerDecidesSpec : ChangeSpec := { name := "proposerDecides", fn := fun _ => fun
  | [d1, d2, d3] => { results := [.lit (.bool true)], args := [d1, d2, d3] }
  | _ => none }
def proposerDecidesRow : OpenClaim := { program := "ytknkdbleeaaleaa", sum := "c3a9a86f1644f6d98a20ed53325f6a51293c0fdaf9ab61c201a80d1ac4997002", func := "elasticstore/elasticstorelaw16.ProposerDecides", spec := "proposerDecides", unfollowed := true, recurses := true, apart := false }
def ProposerDecidesSaid : Prop := proposerDecidesRow.holds Try.pinned (OpenSpec.ofChange proposerDecidesSpec)

/-- ITS FALSE NEIGHBOUR: 'it returns false'. Refute it at one input. -/
def proposerDecidesWrong : ChangeSpec := { name := "proposerDecides", fn := fun _ => fun
  | [d1, d2, d3] => { results := [.lit (.bool false)], args := [d1, d2, d3] }
  | _ => none }
def ProposerDecidesWrongFalsely : Prop := proposerDecidesRow.holds Try.pinned (OpenSpec.ofChange proposerDecidesWrong)

/-- 'elasticstorelaw16.ProposerRounds': WHATEVER THE INPUT: true; the input reads as it did. -/
def proposerRoundsSpec : ChangeSpec := { name := "proposerRounds", fn := fun _ => fun
  | [d1, d2, d3] => { results := [.lit (.bool true)], args := [d1, d2, d3] }
  | _ => none }
def proposerRoundsRow : OpenClaim := { program := "ytknkdbleeaaleaa", sum := "c3a9a86f1644f6d98a20ed53325f6a51293c0fdaf9ab61c201a80d1ac4997002", func := "elasticstore/elasticstorelaw16.ProposerRounds", spec := "proposerRounds", unfollowed := true, recurses := true, apart := false }
def ProposerRoundsSaid : Prop := proposerRoundsRow.holds Try.pinned (OpenSpec.ofChange proposerRoundsSpec)

/-- ITS FALSE NEIGHBOUR: 'it returns false'. Refute it at one input. -/
def proposerRoundsWrong : ChangeSpec := { name := "proposerRounds", fn := fun _ => fun
  | [d1, d2, d3] => { results := [.lit (.bool false)], args := [d1, d2, d3] }
  | _ => none }
def ProposerRoundsWrongFalsely : Prop := proposerRoundsRow.holds Try.pinned (OpenSpec.ofChange proposerRoundsWrong)

/-- 'elasticstorelaw03.VectorWith': WHATEVER THE INPUT: true; the input reads as it did. -/
def vectorWithSpec : ChangeSpec := { name := "vectorWith", fn := fun _ => fun
  | [d1, d2, d3, d4] => { results := [.lit (.bool true)], args := [d1, d2, d3, d4] }
  | _ => none }
def vectorWithRow : OpenClaim := { program := "ytknkdbleeaaleaa", sum := "c3a9a86f1644f6d98a20ed53325f6a51293c0fdaf9ab61c201a80d1ac4997002", func := "elasticstore/elasticstorelaw03.VectorWith", spec := "vectorWith", inPlace := ["slices.overlaps[elasticstore/api.Entry]"], unfollowed := true, recurses := true, apart := false }
def VectorWithSaid : Prop := vectorWithRow.holds Try.pinned (OpenSpec.ofChange vectorWithSpec)

/-- ITS FALSE NEIGHBOUR: 'it returns false'. Refute it at one input. -/
def vectorWithWrong : ChangeSpec := { name := "vectorWith", fn := fun _ => fun
  | [d1, d2, d3, d4] => { results := [.lit (.bool false)], args := [d1, d2, d3, d4] }
  | _ => none }
def VectorWithWrongFalsely : Prop := vectorWithRow.holds Try.pinned (OpenSpec.ofChange vectorWithWrong)

/- THE SECOND FORM. 'bulk': how many values and letters a reading holds, each counted each time it is reached (what is shared counts as often as it is met; a slice's spare places count too). A statement '..UptoSaid' is the law's where the arguments, and the package variables that the reading takes, are together of bulk at most 1048576: NARROWER than '..Said'. Prove '..Said' where nothing that the law and all that it calls make is longer than what came in: it says more and counts as full. Else prove '..UptoSaid'. A law counts once. -/
mutual
def uptoBulk {H : Type} : DataW H → Nat
  | .lit (.string bytes) => bytes.length + 1
  | .lit _ => 1
  | .nil => 1
  | .ptr d => uptoBulk d + 1
  | .slice elems spare => uptoBulkAll elems + uptoBulkAll spare + 1
  | .agg parts => uptoBulkAll parts + 1
  | .iface _ d => uptoBulk d + 1
  | .map entries => uptoBulkEntries entries + 1
  | .held _ => 1
def uptoBulkAll {H : Type} : List (DataW H) → Nat
  | [] => 0
  | d :: r => uptoBulk d + uptoBulkAll r
def uptoBulkEntries {H : Type} : List (Lit × DataW H) → Nat
  | [] => 0
  | x :: r => uptoBulkEntry x + uptoBulkEntries r
def uptoBulkEntry {H : Type} : Lit × DataW H → Nat
  | (.string bytes, d) => bytes.length + uptoBulk d + 1
  | (_, d) => uptoBulk d + 1
 end
def uptoSmall : (H : Type) → List (DataW H) → Bool := fun _ ds => decide (uptoBulkAll ds ≤ 1048576)
def OpenSpec.upto (s : _root_.Go.ChangeSpec) : _root_.Go.OpenSpec := { _root_.Go.OpenSpec.ofChange s with cond := some uptoSmall }

/-- 'elasticstorelaw15.AcceptorAccept', WHERE WHAT IT READS IS OF BULK AT MOST 1048576: true; the input reads as it did. -/
def acceptorAcceptUptoRow : OpenClaim := { program := "ytknkdbleeaaleaa", sum := "c3a9a86f1644f6d98a20ed53325f6a51293c0fdaf9ab61c201a80d1ac4997002", func := "elasticstore/elasticstorelaw15.AcceptorAccept", spec := "acceptorAccept", unfollowed := true, recurses := true, apart := false, narrowed := true }
def AcceptorAcceptUptoSaid : Prop := acceptorAcceptUptoRow.holds Try.pinned (OpenSpec.upto acceptorAcceptSpec)

/-- 'elasticstorelaw15.AcceptorAll', WHERE WHAT IT READS IS OF BULK AT MOST 1048576: true; the input reads as it did. -/
def acceptorAllUptoRow : OpenClaim := { program := "ytknkdbleeaaleaa", sum := "c3a9a86f1644f6d98a20ed53325f6a51293c0fdaf9ab61c201a80d1ac4997002", func := "elasticstore/elasticstorelaw15.AcceptorAll", spec := "acceptorAll", unfollowed := true, recurses := true, apart := false, narrowed := true }
def AcceptorAllUptoSaid : Prop := acceptorAllUptoRow.holds Try.pinned (OpenSpec.upto acceptorAllSpec)

/-- 'elasticstorelaw15.AcceptorOrder', WHERE WHAT IT READS IS OF BULK AT MOST 1048576: true; the input reads as it did. -/
def acceptorOrderUptoRow : OpenClaim := { program := "ytknkdbleeaaleaa", sum := "c3a9a86f1644f6d98a20ed53325f6a51293c0fdaf9ab61c201a80d1ac4997002", func := "elasticstore/elasticstorelaw15.AcceptorOrder", spec := "acceptorOrder", unfollowed := true, recurses := true, apart := false, narrowed := true }
def AcceptorOrderUptoSaid : Prop := acceptorOrderUptoRow.holds Try.pinned (OpenSpec.upto acceptorOrderSpec)

/-- 'elasticstorelaw15.AcceptorChain', WHERE WHAT IT READS IS OF BULK AT MOST 1048576: true; the input reads as it did. -/
def acceptorChainUptoRow : OpenClaim := { program := "ytknkdbleeaaleaa", sum := "c3a9a86f1644f6d98a20ed53325f6a51293c0fdaf9ab61c201a80d1ac4997002", func := "elasticstore/elasticstorelaw15.AcceptorChain", spec := "acceptorChain", unfollowed := true, recurses := true, apart := false, narrowed := true }
def AcceptorChainUptoSaid : Prop := acceptorChainUptoRow.holds Try.pinned (OpenSpec.upto acceptorChainSpec)

/-- 'elasticstorelaw03.VectorValidate', WHERE WHAT IT READS IS OF BULK AT MOST 1048576: true; the input reads as it did. -/
def vectorValidateUptoRow : OpenClaim := { program := "ytknkdbleeaaleaa", sum := "c3a9a86f1644f6d98a20ed53325f6a51293c0fdaf9ab61c201a80d1ac4997002", func := "elasticstore/elasticstorelaw03.VectorValidate", spec := "vectorValidate", unfollowed := true, recurses := true, apart := false, narrowed := true }
def VectorValidateUptoSaid : Prop := vectorValidateUptoRow.holds Try.pinned (OpenSpec.upto vectorValidateSpec)

/-- 'elasticstorelaw03.VectorJoin', WHERE WHAT IT READS IS OF BULK AT MOST 1048576: true; the input reads as it did. -/
def vectorJoinUptoRow : OpenClaim := { program := "ytknkdbleeaaleaa", sum := "c3a9a86f1644f6d98a20ed53325f6a51293c0fdaf9ab61c201a80d1ac4997002", func := "elasticstore/elasticstorelaw03.VectorJoin", spec := "vectorJoin", unfollowed := true, recurses := true, apart := false, narrowed := true }
def VectorJoinUptoSaid : Prop := vectorJoinUptoRow.holds Try.pinned (OpenSpec.upto vectorJoinSpec)

/-- 'elasticstorelaw03.VectorMeet', WHERE WHAT IT READS IS OF BULK AT MOST 1048576: true; the input reads as it did. -/
def vectorMeetUptoRow : OpenClaim := { program := "ytknkdbleeaaleaa", sum := "c3a9a86f1644f6d98a20ed53325f6a51293c0fdaf9ab61c201a80d1ac4997002", func := "elasticstore/elasticstorelaw03.VectorMeet", spec := "vectorMeet", unfollowed := true, recurses := true, apart := false, narrowed := true }
def VectorMeetUptoSaid : Prop := vectorMeetUptoRow.holds Try.pinned (OpenSpec.upto vectorMeetSpec)

/-- 'elasticstorelaw03.VectorLattice', WHERE WHAT IT READS IS OF BULK AT MOST 1048576: true; the input reads as it did. -/
def vectorLatticeUptoRow : OpenClaim := { program := "ytknkdbleeaaleaa", sum := "c3a9a86f1644f6d98a20ed53325f6a51293c0fdaf9ab61c201a80d1ac4997002", func := "elasticstore/elasticstorelaw03.VectorLattice", spec := "vectorLattice", unfollowed := true, recurses := true, apart := false, narrowed := true }
def VectorLatticeUptoSaid : Prop := vectorLatticeUptoRow.holds Try.pinned (OpenSpec.upto vectorLatticeSpec)

/-- 'elasticstorelaw03.VectorCompare', WHERE WHAT IT READS IS OF BULK AT MOST 1048576: true; the input reads as it did. -/
def vectorCompareUptoRow : OpenClaim := { program := "ytknkdbleeaaleaa", sum := "c3a9a86f1644f6d98a20ed53325f6a51293c0fdaf9ab61c201a80d1ac4997002", func := "elasticstore/elasticstorelaw03.VectorCompare", spec := "vectorCompare", unfollowed := true, recurses := true, apart := false, narrowed := true }
def VectorCompareUptoSaid : Prop := vectorCompareUptoRow.holds Try.pinned (OpenSpec.upto vectorCompareSpec)

/-- 'elasticstorelaw03.VectorSize', WHERE WHAT IT READS IS OF BULK AT MOST 1048576: true; the input reads as it did. -/
def vectorSizeUptoRow : OpenClaim := { program := "ytknkdbleeaaleaa", sum := "c3a9a86f1644f6d98a20ed53325f6a51293c0fdaf9ab61c201a80d1ac4997002", func := "elasticstore/elasticstorelaw03.VectorSize", spec := "vectorSize", unfollowed := true, recurses := true, apart := false, narrowed := true }
def VectorSizeUptoSaid : Prop := vectorSizeUptoRow.holds Try.pinned (OpenSpec.upto vectorSizeSpec)

/-- 'elasticstorelaw16.ProposerPlays', WHERE WHAT IT READS IS OF BULK AT MOST 1048576: true; the input reads as it did. -/
def proposerPlaysUptoRow : OpenClaim := { program := "ytknkdbleeaaleaa", sum := "c3a9a86f1644f6d98a20ed53325f6a51293c0fdaf9ab61c201a80d1ac4997002", func := "elasticstore/elasticstorelaw16.ProposerPlays", spec := "proposerPlays", unfollowed := true, recurses := true, apart := false, narrowed := true }
def ProposerPlaysUptoSaid : Prop := proposerPlaysUptoRow.holds Try.pinned (OpenSpec.upto proposerPlaysSpec)

/-- 'elasticstorelaw16.ProposerDecides', WHERE WHAT IT READS IS OF BULK AT MOST 1048576: true; the input reads as it did. -/
def proposerDecidesUptoRow : OpenClaim := { program := "ytknkdbleeaaleaa", sum := "c3a9a86f1644f6d98a20ed53325f6a51293c0fdaf9ab61c201a80d1ac4997002", func := "elasticstore/elasticstorelaw16.ProposerDecides", spec := "proposerDecides", unfollowed := true, recurses := true, apart := false, narrowed := true }
def ProposerDecidesUptoSaid : Prop := proposerDecidesUptoRow.holds Try.pinned (OpenSpec.upto proposerDecidesSpec)

/-- 'elasticstorelaw16.ProposerRounds', WHERE WHAT IT READS IS OF BULK AT MOST 1048576: true; the input reads as it did. -/
def proposerRoundsUptoRow : OpenClaim := { program := "ytknkdbleeaaleaa", sum := "c3a9a86f1644f6d98a20ed53325f6a51293c0fdaf9ab61c201a80d1ac4997002", func := "elasticstore/elasticstorelaw16.ProposerRounds", spec := "proposerRounds", unfollowed := true, recurses := true, apart := false, narrowed := true }
def ProposerRoundsUptoSaid : Prop := proposerRoundsUptoRow.holds Try.pinned (OpenSpec.upto proposerRoundsSpec)

/-- 'elasticstorelaw03.VectorWith', WHERE WHAT IT READS IS OF BULK AT MOST 1048576: true; the input reads as it did. -/
def vectorWithUptoRow : OpenClaim := { program := "ytknkdbleeaaleaa", sum := "c3a9a86f1644f6d98a20ed53325f6a51293c0fdaf9ab61c201a80d1ac4997002", func := "elasticstore/elasticstorelaw03.VectorWith", spec := "vectorWith", inPlace := ["slices.overlaps[elasticstore/api.Entry]"], unfollowed := true, recurses := true, apart := false, narrowed := true }
def VectorWithUptoSaid : Prop := vectorWithUptoRow.holds Try.pinned (OpenSpec.upto vectorWithSpec)

end Rows
end Go.Proofs.Ytknkdbleeaaleaa
