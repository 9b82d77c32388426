/-
  No cell of these rows narrows 'for every input' (looked for: loops, veiled, ifaces, maps, wideKeys, modest, calm, conditions, laid).
  DERIVED. THE GIVEN ROWS OF THIS SEAT. 15 by the template 'for every input the law returns true; each argument reads behind the call as it read before'; 0 by the template 'total and deterministic' (their statements: YtopcklnnkpjanaaTotals.lean).
  GIVEN WITH THE SEED: the statements are not yours to turn. If you find one false, say at which input.
  Laid BY PROGRAM, IN A SANDBOX (cutbox-rows.mjs): the forced cells as the released guide's own fill.sh prints them over the translation 9dfc85a11e9b1b34… (all of the seat's roots in one cut). By AI agents, Wed Nov 11 2026. No macro, syntax, notation, axiom, sorry.
-/
import Derived.Test.YtopcklnnkpjanaaChecked
import GoSem.Claim
import GoSem.ClaimJoined
import GoSem.ClaimMapViews
import Derived.JoinedTies
import Derived.KernelRfl
namespace Go.Proofs.Ytopcklnnkpjanaa
/- THE CELL 'sum', in the pinned program and in every row, IS THE sha256 OF THE DUMP (.gsa) THAT YtopcklnnkpjanaaProg.lean LOADS. Nothing in Lean hashes anything: it is a label: what it is worth is what the hold of that sum in a sandbox is worth. -/
noncomputable def Try.pinned : Pinned := { name := "ytopcklnnkpjanaa", sum := "9dfc85a11e9b1b346f53a1806489e41738121a671a41e6330c3f92a557a49137", checked := Try.checked }
namespace Rows
def none {H : Type} : Left H := { results := [], args := [] }

/-- 'elasticstorelaw15.AcceptorChain': WHATEVER THE INPUT: true; the input reads as it did. -/
def acceptorChainSpec : ChangeSpec := { name := "acceptorChain", fn := fun _ => fun
  | [d] => { results := [.lit (.bool true)], args := [d] }
  | _ => none }
def acceptorChainRow : OpenClaim := { program := "ytopcklnnkpjanaa", sum := "9dfc85a11e9b1b346f53a1806489e41738121a671a41e6330c3f92a557a49137", func := "elasticstore/elasticstorelaw15.AcceptorChain", spec := "acceptorChain", unfollowed := true, recurses := true, apart := false }
def AcceptorChainSaid : Prop := acceptorChainRow.holds Try.pinned (OpenSpec.ofChange acceptorChainSpec)

/-- ITS FALSE NEIGHBOUR: 'it returns false'. Refute it at one input. -/
def acceptorChainWrong : ChangeSpec := { name := "acceptorChain", fn := fun _ => fun
  | [d] => { results := [.lit (.bool false)], args := [d] }
  | _ => none }
def AcceptorChainWrongFalsely : Prop := acceptorChainRow.holds Try.pinned (OpenSpec.ofChange acceptorChainWrong)

/-- 'elasticstorelaw02.FrameFeed': WHATEVER THE INPUT: true; the input reads as it did. -/
def frameFeedSpec : ChangeSpec := { name := "frameFeed", fn := fun _ => fun
  | [d1, d2] => { results := [.lit (.bool true)], args := [d1, d2] }
  | _ => none }
def frameFeedRow : OpenClaim := { program := "ytopcklnnkpjanaa", sum := "9dfc85a11e9b1b346f53a1806489e41738121a671a41e6330c3f92a557a49137", func := "elasticstore/elasticstorelaw02.FrameFeed", spec := "frameFeed", apart := false }
def FrameFeedSaid : Prop := frameFeedRow.holds Try.pinned (OpenSpec.ofChange frameFeedSpec)

/-- ITS FALSE NEIGHBOUR: 'it returns false'. Refute it at one input. -/
def frameFeedWrong : ChangeSpec := { name := "frameFeed", fn := fun _ => fun
  | [d1, d2] => { results := [.lit (.bool false)], args := [d1, d2] }
  | _ => none }
def FrameFeedWrongFalsely : Prop := frameFeedRow.holds Try.pinned (OpenSpec.ofChange frameFeedWrong)

/-- 'elasticstorelaw02.FramePieces': WHATEVER THE INPUT: true; the input reads as it did. -/
def framePiecesSpec : ChangeSpec := { name := "framePieces", fn := fun _ => fun
  | [d1, d2] => { results := [.lit (.bool true)], args := [d1, d2] }
  | _ => none }
def framePiecesRow : OpenClaim := { program := "ytopcklnnkpjanaa", sum := "9dfc85a11e9b1b346f53a1806489e41738121a671a41e6330c3f92a557a49137", func := "elasticstore/elasticstorelaw02.FramePieces", spec := "framePieces", apart := false }
def FramePiecesSaid : Prop := framePiecesRow.holds Try.pinned (OpenSpec.ofChange framePiecesSpec)

/-- ITS FALSE NEIGHBOUR: 'it returns false'. Refute it at one input. -/
def framePiecesWrong : ChangeSpec := { name := "framePieces", fn := fun _ => fun
  | [d1, d2] => { results := [.lit (.bool false)], args := [d1, d2] }
  | _ => none }
def FramePiecesWrongFalsely : Prop := framePiecesRow.holds Try.pinned (OpenSpec.ofChange framePiecesWrong)

/-- 'elasticstorelaw02.FrameSplit': WHATEVER THE INPUT: true; the input reads as it did. -/
def frameSplitSpec : ChangeSpec := { name := "frameSplit", fn := fun _ => fun
  | [d1, d2] => { results := [.lit (.bool true)], args := [d1, d2] }
  | _ => none }
def frameSplitRow : OpenClaim := { program := "ytopcklnnkpjanaa", sum := "9dfc85a11e9b1b346f53a1806489e41738121a671a41e6330c3f92a557a49137", func := "elasticstore/elasticstorelaw02.FrameSplit", spec := "frameSplit", apart := false }
def FrameSplitSaid : Prop := frameSplitRow.holds Try.pinned (OpenSpec.ofChange frameSplitSpec)

/-- ITS FALSE NEIGHBOUR: 'it returns false'. Refute it at one input. -/
def frameSplitWrong : ChangeSpec := { name := "frameSplit", fn := fun _ => fun
  | [d1, d2] => { results := [.lit (.bool false)], args := [d1, d2] }
  | _ => none }
def FrameSplitWrongFalsely : Prop := frameSplitRow.holds Try.pinned (OpenSpec.ofChange frameSplitWrong)

/-- 'elasticstorelaw16.ProposerPlays': WHATEVER THE INPUT: true; the input reads as it did. -/
def proposerPlaysSpec : ChangeSpec := { name := "proposerPlays", fn := fun _ => fun
  | [d1, d2, d3] => { results := [.lit (.bool true)], args := [d1, d2, d3] }
  | _ => none }
def proposerPlaysRow : OpenClaim := { program := "ytopcklnnkpjanaa", sum := "9dfc85a11e9b1b346f53a1806489e41738121a671a41e6330c3f92a557a49137", func := "elasticstore/elasticstorelaw16.ProposerPlays", spec := "proposerPlays", unfollowed := true, recurses := true, apart := false }
def ProposerPlaysSaid : Prop := proposerPlaysRow.holds Try.pinned (OpenSpec.ofChange proposerPlaysSpec)

/-- ITS FALSE NEIGHBOUR: 'it returns false'. Refute it at one input. -/
def proposerPlaysWrong : ChangeSpec := { name := "proposerPlays", fn := fun _ => fun
  | [d1, d2, d3] => { results := [.lit (.bool false)], args := [d1, d2, d3] }
  | _ => none }
def ProposerPlaysWrongFalsely : Prop := proposerPlaysRow.holds Try.pinned (OpenSpec.ofChange proposerPlaysWrong)

/-- 'elasticstorelaw16.ProposerDecides': WHATEVER THE INPUT: true; the input reads as it did. -/
def proposerDecidesSpec : ChangeSpec := { name := "proposerDecides", fn := fun _ => fun
  | [d1, d2, d3] => { results := [.lit (.bool true)], args := [d1, d2, d3] }
  | _ => none }
def proposerDecidesRow : OpenClaim := { program := "ytopcklnnkpjanaa", sum := "9dfc85a11e9b1b346f53a1806489e41738121a671a41e6330c3f92a557a49137", func := "elasticstore/elasticstorelaw16.ProposerDecides", spec := "proposerDecides", unfollowed := true, recurses := true, apart := false }
def ProposerDecidesSaid : Prop := proposerDecidesRow.holds Try.pinned (OpenSpec.ofChange proposerDecidesSpec)

/-- ITS FALSE NEIGHBOUR: 'it returns false'. Refute it at one input. -/
def proposerDecidesWrong : ChangeSpec := { name := "proposerDecides", fn := fun _ => fun
  | [d1, d2, d3] => { results := [.lit (.bool false)], args := [d1, d2, d3] }
  | _ => none }
def ProposerDecidesWrongFalsely : Prop := proposerDecidesRow.holds Try.pinned (OpenSpec.ofChange proposerDecidesWrong)

/-- 'elasticstorelaw16.ProposerRounds': WHATEVER THE INPUT: true; the input reads as it did. -/
def proposerRoundsSpec : ChangeSpec := { name := "proposerRounds", fn := fun _ => fun
  | [d1, d2, d3] => { results := [.lit (.bool true)], args := [d1, d2, d3] }
  | _ => none }
def proposerRoundsRow : OpenClaim := { program := "ytopcklnnkpjanaa", sum := "9dfc85a11e9b1b346f53a1806489e41738121a671a41e6330c3f92a557a49137", func := "elasticstore/elasticstorelaw16.ProposerRounds", spec := "proposerRounds", unfollowed := true, recurses := true, apart := false }
def ProposerRoundsSaid : Prop := proposerRoundsRow.holds Try.pinned (OpenSpec.ofChange proposerRoundsSpec)

/-- ITS FALSE NEIGHBOUR: 'it returns false'. Refute it at one input. -/
def proposerRoundsWrong : ChangeSpec := { name := "proposerRounds", fn := fun _ => fun
  | [d1, d2, d3] => { results := [.lit (.bool false)], args := [d1, d2, d3] }
  | _ => none }
def ProposerRoundsWrongFalsely : Prop := proposerRoundsRow.holds Try.pinned (OpenSpec.ofChange proposerRoundsWrong)

/-- 'elasticstorelaw03.VectorWith': WHATEVER THE INPUT: true; the input reads as it did. -/
def vectorWithSpec : ChangeSpec := { name := "vectorWith", fn := fun _ => fun
  | [d1, d2, d3, d4] => { results := [.lit (.bool true)], args := [d1, d2, d3, d4] }
  | _ => none }
def vectorWithRow : OpenClaim := { program := "ytopcklnnkpjanaa", sum := "9dfc85a11e9b1b346f53a1806489e41738121a671a41e6330c3f92a557a49137", func := "elasticstore/elasticstorelaw03.VectorWith", spec := "vectorWith", inPlace := ["slices.overlaps[elasticstore/api.Entry]"], unfollowed := true, recurses := true, apart := false }
def VectorWithSaid : Prop := vectorWithRow.holds Try.pinned (OpenSpec.ofChange vectorWithSpec)

/-- ITS FALSE NEIGHBOUR: 'it returns false'. Refute it at one input. -/
def vectorWithWrong : ChangeSpec := { name := "vectorWith", fn := fun _ => fun
  | [d1, d2, d3, d4] => { results := [.lit (.bool false)], args := [d1, d2, d3, d4] }
  | _ => none }
def VectorWithWrongFalsely : Prop := vectorWithRow.holds Try.pinned (OpenSpec.ofChange vectorWithWrong)

/-- 'elasticstorelaw17.AgreementMinority': WHATEVER THE INPUT: true; the input reads as it did. -/
def agreementMinoritySpec : ChangeSpec := { name := "agreementMinority", fn := fun _ => fun
  | [d1, d2] => { results := [.lit (.bool true)], args := [d1, d2] }
  | _ => none }
def agreementMinorityRow : OpenClaim := { program := "ytopcklnnkpjanaa", sum := "9dfc85a11e9b1b346f53a1806489e41738121a671a41e6330c3f92a557a49137", func := "elasticstore/elasticstorelaw17.AgreementMinority", spec := "agreementMinority", unfollowed := true, recurses := true, apart := false }
def AgreementMinoritySaid : Prop := agreementMinorityRow.holds Try.pinned (OpenSpec.ofChange agreementMinoritySpec)

/-- ITS FALSE NEIGHBOUR: 'it returns false'. Refute it at one input. -/
def agreementMinorityWrong : ChangeSpec := { name := "agreementMinority", fn := fun _ => fun
  | [d1, d2] => { results := [.lit (.bool false)], args := [d1, d2] }
  | _ => none }
def AgreementMinorityWrongFalsely : Prop := agreementMinorityRow.holds Try.pinned (OpenSpec.ofChange agreementMinorityWrong)

/-- 'elasticstorelaw17.AgreementDrain': WHATEVER THE INPUT: true; the input reads as it did. -/
def agreementDrainSpec : ChangeSpec := { name := "agreementDrain", fn := fun _ => fun
  | [d1, d2] => { results := [.lit (.bool true)], args := [d1, d2] }
  | _ => none }
def agreementDrainRow : OpenClaim := { program := "ytopcklnnkpjanaa", sum := "9dfc85a11e9b1b346f53a1806489e41738121a671a41e6330c3f92a557a49137", func := "elasticstore/elasticstorelaw17.AgreementDrain", spec := "agreementDrain", unfollowed := true, recurses := true, apart := false }
def AgreementDrainSaid : Prop := agreementDrainRow.holds Try.pinned (OpenSpec.ofChange agreementDrainSpec)

/-- ITS FALSE NEIGHBOUR: 'it returns false'. Refute it at one input. -/
def agreementDrainWrong : ChangeSpec := { name := "agreementDrain", fn := fun _ => fun
  | [d1, d2] => { results := [.lit (.bool false)], args := [d1, d2] }
  | _ => none }
def AgreementDrainWrongFalsely : Prop := agreementDrainRow.holds Try.pinned (OpenSpec.ofChange agreementDrainWrong)

/-- 'elasticstorelaw17.AgreementChain': WHATEVER THE INPUT: true; the input reads as it did. -/
def agreementChainSpec : ChangeSpec := { name := "agreementChain", fn := fun _ => fun
  | [d1, d2] => { results := [.lit (.bool true)], args := [d1, d2] }
  | _ => none }
def agreementChainRow : OpenClaim := { program := "ytopcklnnkpjanaa", sum := "9dfc85a11e9b1b346f53a1806489e41738121a671a41e6330c3f92a557a49137", func := "elasticstore/elasticstorelaw17.AgreementChain", spec := "agreementChain", unfollowed := true, recurses := true, apart := false }
def AgreementChainSaid : Prop := agreementChainRow.holds Try.pinned (OpenSpec.ofChange agreementChainSpec)

/-- ITS FALSE NEIGHBOUR: 'it returns false'. Refute it at one input. -/
def agreementChainWrong : ChangeSpec := { name := "agreementChain", fn := fun _ => fun
  | [d1, d2] => { results := [.lit (.bool false)], args := [d1, d2] }
  | _ => none }
def AgreementChainWrongFalsely : Prop := agreementChainRow.holds Try.pinned (OpenSpec.ofChange agreementChainWrong)

/-- 'elasticstorelaw17.AgreementValid': WHATEVER THE INPUT: true; the input reads as it did. -/
def agreementValidSpec : ChangeSpec := { name := "agreementValid", fn := fun _ => fun
  | [d1, d2] => { results := [.lit (.bool true)], args := [d1, d2] }
  | _ => none }
def agreementValidRow : OpenClaim := { program := "ytopcklnnkpjanaa", sum := "9dfc85a11e9b1b346f53a1806489e41738121a671a41e6330c3f92a557a49137", func := "elasticstore/elasticstorelaw17.AgreementValid", spec := "agreementValid", unfollowed := true, recurses := true, apart := false }
def AgreementValidSaid : Prop := agreementValidRow.holds Try.pinned (OpenSpec.ofChange agreementValidSpec)

/-- ITS FALSE NEIGHBOUR: 'it returns false'. Refute it at one input. -/
def agreementValidWrong : ChangeSpec := { name := "agreementValid", fn := fun _ => fun
  | [d1, d2] => { results := [.lit (.bool false)], args := [d1, d2] }
  | _ => none }
def AgreementValidWrongFalsely : Prop := agreementValidRow.holds Try.pinned (OpenSpec.ofChange agreementValidWrong)

/-- 'elasticstorelaw17.AgreementEnds': WHATEVER THE INPUT: true; the input reads as it did. -/
def agreementEndsSpec : ChangeSpec := { name := "agreementEnds", fn := fun _ => fun
  | [d1, d2] => { results := [.lit (.bool true)], args := [d1, d2] }
  | _ => none }
def agreementEndsRow : OpenClaim := { program := "ytopcklnnkpjanaa", sum := "9dfc85a11e9b1b346f53a1806489e41738121a671a41e6330c3f92a557a49137", func := "elasticstore/elasticstorelaw17.AgreementEnds", spec := "agreementEnds", unfollowed := true, recurses := true, apart := false }
def AgreementEndsSaid : Prop := agreementEndsRow.holds Try.pinned (OpenSpec.ofChange agreementEndsSpec)

/-- ITS FALSE NEIGHBOUR: 'it returns false'. Refute it at one input. -/
def agreementEndsWrong : ChangeSpec := { name := "agreementEnds", fn := fun _ => fun
  | [d1, d2] => { results := [.lit (.bool false)], args := [d1, d2] }
  | _ => none }
def AgreementEndsWrongFalsely : Prop := agreementEndsRow.holds Try.pinned (OpenSpec.ofChange agreementEndsWrong)

/-- 'elasticstorelaw17.AgreementSequence': WHATEVER THE INPUT: true; the input reads as it did. -/
def agreementSequenceSpec : ChangeSpec := { name := "agreementSequence", fn := fun _ => fun
  | [d1, d2, d3] => { results := [.lit (.bool true)], args := [d1, d2, d3] }
  | _ => none }
def agreementSequenceRow : OpenClaim := { program := "ytopcklnnkpjanaa", sum := "9dfc85a11e9b1b346f53a1806489e41738121a671a41e6330c3f92a557a49137", func := "elasticstore/elasticstorelaw17.AgreementSequence", spec := "agreementSequence", unfollowed := true, recurses := true, apart := false }
def AgreementSequenceSaid : Prop := agreementSequenceRow.holds Try.pinned (OpenSpec.ofChange agreementSequenceSpec)

/-- ITS FALSE NEIGHBOUR: 'it returns false'. Refute it at one input. -/
def agreementSequenceWrong : ChangeSpec := { name := "agreementSequence", fn := fun _ => fun
  | [d1, d2, d3] => { results := [.lit (.bool false)], args := [d1, d2, d3] }
  | _ => none }
def AgreementSequenceWrongFalsely : Prop := agreementSequenceRow.holds Try.pinned (OpenSpec.ofChange agreementSequenceWrong)

/-- 'elasticstorelaw17.AgreementPlays': WHATEVER THE INPUT: true; the input reads as it did. -/
def agreementPlaysSpec : ChangeSpec := { name := "agreementPlays", fn := fun _ => fun
  | [d1, d2] => { results := [.lit (.bool true)], args := [d1, d2] }
  | _ => none }
def agreementPlaysRow : OpenClaim := { program := "ytopcklnnkpjanaa", sum := "9dfc85a11e9b1b346f53a1806489e41738121a671a41e6330c3f92a557a49137", func := "elasticstore/elasticstorelaw17.AgreementPlays", spec := "agreementPlays", unfollowed := true, recurses := true, apart := false }
def AgreementPlaysSaid : Prop := agreementPlaysRow.holds Try.pinned (OpenSpec.ofChange agreementPlaysSpec)

/-- ITS FALSE NEIGHBOUR: 'it returns false'. Refute it at one input. -/
def agreementPlaysWrong : ChangeSpec := { name := "agreementPlays", fn := fun _ => fun
  | [d1, d2] => { results := [.lit (.bool false)], args := [d1, d2] }
  | _ => none }
def AgreementPlaysWrongFalsely : Prop := agreementPlaysRow.holds Try.pinned (OpenSpec.ofChange agreementPlaysWrong)

/- THE SECOND FORM. 'bulk': how many values and letters a reading holds, each counted each time it is reached (what is shared counts as often as it is met; a slice's spare places count too). A statement '..UptoSaid' is the law's where the arguments, and the package variables that the reading takes, are together of bulk at most 1048576: NARROWER than '..Said'. Prove '..Said' where nothing that the law and all that it calls make is longer than what came in: it says more and counts as full. Else prove '..UptoSaid'. A law counts once. -/
mutual
def uptoBulk {H : Type} : DataW H → Nat
  | .lit (.string bytes) => bytes.length + 1
  | .lit _ => 1
  | .nil => 1
  | .ptr d => uptoBulk d + 1
  | .slice elems spare => uptoBulkAll elems + uptoBulkAll spare + 1
  | .agg parts => uptoBulkAll parts + 1
  | .iface _ d => uptoBulk d + 1
  | .map entries => uptoBulkEntries entries + 1
  | .held _ => 1
def uptoBulkAll {H : Type} : List (DataW H) → Nat
  | [] => 0
  | d :: r => uptoBulk d + uptoBulkAll r
def uptoBulkEntries {H : Type} : List (Lit × DataW H) → Nat
  | [] => 0
  | x :: r => uptoBulkEntry x + uptoBulkEntries r
def uptoBulkEntry {H : Type} : Lit × DataW H → Nat
  | (.string bytes, d) => bytes.length + uptoBulk d + 1
  | (_, d) => uptoBulk d + 1
 end
def uptoSmall : (H : Type) → List (DataW H) → Bool := fun _ ds => decide (uptoBulkAll ds ≤ 1048576)
def OpenSpec.upto (s : _root_.Go.ChangeSpec) : _root_.Go.OpenSpec := { _root_.Go.OpenSpec.ofChange s with cond := some uptoSmall }

/-- 'elasticstorelaw15.AcceptorChain', WHERE WHAT IT READS IS OF BULK AT MOST 1048576: true; the input reads as it did. -/
def acceptorChainUptoRow : OpenClaim := { program := "ytopcklnnkpjanaa", sum := "9dfc85a11e9b1b346f53a1806489e41738121a671a41e6330c3f92a557a49137", func := "elasticstore/elasticstorelaw15.AcceptorChain", spec := "acceptorChain", unfollowed := true, recurses := true, apart := false, narrowed := true }
def AcceptorChainUptoSaid : Prop := acceptorChainUptoRow.holds Try.pinned (OpenSpec.upto acceptorChainSpec)

/-- 'elasticstorelaw02.FrameFeed', WHERE WHAT IT READS IS OF BULK AT MOST 1048576: true; the input reads as it did. -/
def frameFeedUptoRow : OpenClaim := { program := "ytopcklnnkpjanaa", sum := "9dfc85a11e9b1b346f53a1806489e41738121a671a41e6330c3f92a557a49137", func := "elasticstore/elasticstorelaw02.FrameFeed", spec := "frameFeed", apart := false, narrowed := true }
def FrameFeedUptoSaid : Prop := frameFeedUptoRow.holds Try.pinned (OpenSpec.upto frameFeedSpec)

/-- 'elasticstorelaw02.FramePieces', WHERE WHAT IT READS IS OF BULK AT MOST 1048576: true; the input reads as it did. -/
def framePiecesUptoRow : OpenClaim := { program := "ytopcklnnkpjanaa", sum := "9dfc85a11e9b1b346f53a1806489e41738121a671a41e6330c3f92a557a49137", func := "elasticstore/elasticstorelaw02.FramePieces", spec := "framePieces", apart := false, narrowed := true }
def FramePiecesUptoSaid : Prop := framePiecesUptoRow.holds Try.pinned (OpenSpec.upto framePiecesSpec)

/-- 'elasticstorelaw02.FrameSplit', WHERE WHAT IT READS IS OF BULK AT MOST 1048576: true; the input reads as it did. -/
def frameSplitUptoRow : OpenClaim := { program := "ytopcklnnkpjanaa", sum := "9dfc85a11e9b1b346f53a1806489e41738121a671a41e6330c3f92a557a49137", func := "elasticstore/elasticstorelaw02.FrameSplit", spec := "frameSplit", apart := false, narrowed := true }
def FrameSplitUptoSaid : Prop := frameSplitUptoRow.holds Try.pinned (OpenSpec.upto frameSplitSpec)

/-- 'elasticstorelaw16.ProposerPlays', WHERE WHAT IT READS IS OF BULK AT MOST 1048576: true; the input reads as it did. -/
def proposerPlaysUptoRow : OpenClaim := { program := "ytopcklnnkpjanaa", sum := "9dfc85a11e9b1b346f53a1806489e41738121a671a41e6330c3f92a557a49137", func := "elasticstore/elasticstorelaw16.ProposerPlays", spec := "proposerPlays", unfollowed := true, recurses := true, apart := false, narrowed := true }
def ProposerPlaysUptoSaid : Prop := proposerPlaysUptoRow.holds Try.pinned (OpenSpec.upto proposerPlaysSpec)

/-- 'elasticstorelaw16.ProposerDecides', WHERE WHAT IT READS IS OF BULK AT MOST 1048576: true; the input reads as it did. -/
def proposerDecidesUptoRow : OpenClaim := { program := "ytopcklnnkpjanaa", sum := "9dfc85a11e9b1b346f53a1806489e41738121a671a41e6330c3f92a557a49137", func := "elasticstore/elasticstorelaw16.ProposerDecides", spec := "proposerDecides", unfollowed := true, recurses := true, apart := false, narrowed := true }
def ProposerDecidesUptoSaid : Prop := proposerDecidesUptoRow.holds Try.pinned (OpenSpec.upto proposerDecidesSpec)

/-- 'elasticstorelaw16.ProposerRounds', WHERE WHAT IT READS IS OF BULK AT MOST 1048576: true; the input reads as it did. -/
def proposerRoundsUptoRow : OpenClaim := { program := "ytopcklnnkpjanaa", sum := "9dfc85a11e9b1b346f53a1806489e41738121a671a41e6330c3f92a557a49137", func := "elasticstore/elasticstorelaw16.ProposerRounds", spec := "proposerRounds", unfollowed := true, recurses := true, apart := false, narrowed := true }
def ProposerRoundsUptoSaid : Prop := proposerRoundsUptoRow.holds Try.pinned (OpenSpec.upto proposerRoundsSpec)

/-- 'elasticstorelaw03.VectorWith', WHERE WHAT IT READS IS OF BULK AT MOST 1048576: true; the input reads as it did. -/
def vectorWithUptoRow : OpenClaim := { program := "ytopcklnnkpjanaa", sum := "9dfc85a11e9b1b346f53a1806489e41738121a671a41e6330c3f92a557a49137", func := "elasticstore/elasticstorelaw03.VectorWith", spec := "vectorWith", inPlace := ["slices.overlaps[elasticstore/api.Entry]"], unfollowed := true, recurses := true, apart := false, narrowed := true }
def VectorWithUptoSaid : Prop := vectorWithUptoRow.holds Try.pinned (OpenSpec.upto vectorWithSpec)

/-- 'elasticstorelaw17.AgreementMinority', WHERE WHAT IT READS IS OF BULK AT MOST 1048576: true; the input reads as it did. -/
def agreementMinorityUptoRow : OpenClaim := { program := "ytopcklnnkpjanaa", sum := "9dfc85a11e9b1b346f53a1806489e41738121a671a41e6330c3f92a557a49137", func := "elasticstore/elasticstorelaw17.AgreementMinority", spec := "agreementMinority", unfollowed := true, recurses := true, apart := false, narrowed := true }
def AgreementMinorityUptoSaid : Prop := agreementMinorityUptoRow.holds Try.pinned (OpenSpec.upto agreementMinoritySpec)

/-- 'elasticstorelaw17.AgreementDrain', WHERE WHAT IT READS IS OF BULK AT MOST 1048576: true; the input reads as it did. -/
def agreementDrainUptoRow : OpenClaim := { program := "ytopcklnnkpjanaa", sum := "9dfc85a11e9b1b346f53a1806489e41738121a671a41e6330c3f92a557a49137", func := "elasticstore/elasticstorelaw17.AgreementDrain", spec := "agreementDrain", unfollowed := true, recurses := true, apart := false, narrowed := true }
def AgreementDrainUptoSaid : Prop := agreementDrainUptoRow.holds Try.pinned (OpenSpec.upto agreementDrainSpec)

/-- 'elasticstorelaw17.AgreementChain', WHERE WHAT IT READS IS OF BULK AT MOST 1048576: true; the input reads as it did. -/
def agreementChainUptoRow : OpenClaim := { program := "ytopcklnnkpjanaa", sum := "9dfc85a11e9b1b346f53a1806489e41738121a671a41e6330c3f92a557a49137", func := "elasticstore/elasticstorelaw17.AgreementChain", spec := "agreementChain", unfollowed := true, recurses := true, apart := false, narrowed := true }
def AgreementChainUptoSaid : Prop := agreementChainUptoRow.holds Try.pinned (OpenSpec.upto agreementChainSpec)

/-- 'elasticstorelaw17.AgreementValid', WHERE WHAT IT READS IS OF BULK AT MOST 1048576: true; the input reads as it did. -/
def agreementValidUptoRow : OpenClaim := { program := "ytopcklnnkpjanaa", sum := "9dfc85a11e9b1b346f53a1806489e41738121a671a41e6330c3f92a557a49137", func := "elasticstore/elasticstorelaw17.AgreementValid", spec := "agreementValid", unfollowed := true, recurses := true, apart := false, narrowed := true }
def AgreementValidUptoSaid : Prop := agreementValidUptoRow.holds Try.pinned (OpenSpec.upto agreementValidSpec)

/-- 'elasticstorelaw17.AgreementEnds', WHERE WHAT IT READS IS OF BULK AT MOST 1048576: true; the input reads as it did. -/
def agreementEndsUptoRow : OpenClaim := { program := "ytopcklnnkpjanaa", sum := "9dfc85a11e9b1b346f53a1806489e41738121a671a41e6330c3f92a557a49137", func := "elasticstore/elasticstorelaw17.AgreementEnds", spec := "agreementEnds", unfollowed := true, recurses := true, apart := false, narrowed := true }
def AgreementEndsUptoSaid : Prop := agreementEndsUptoRow.holds Try.pinned (OpenSpec.upto agreementEndsSpec)

/-- 'elasticstorelaw17.AgreementSequence', WHERE WHAT IT READS IS OF BULK AT MOST 1048576: true; the input reads as it did. -/
def agreementSequenceUptoRow : OpenClaim := { program := "ytopcklnnkpjanaa", sum := "9dfc85a11e9b1b346f53a1806489e41738121a671a41e6330c3f92a557a49137", func := "elasticstore/elasticstorelaw17.AgreementSequence", spec := "agreementSequence", unfollowed := true, recurses := true, apart := false, narrowed := true }
def AgreementSequenceUptoSaid : Prop := agreementSequenceUptoRow.holds Try.pinned (OpenSpec.upto agreementSequenceSpec)

/-- 'elasticstorelaw17.AgreementPlays', WHERE WHAT IT READS IS OF BULK AT MOST 1048576: true; the input reads as it did. -/
def agreementPlaysUptoRow : OpenClaim := { program := "ytopcklnnkpjanaa", sum := "9dfc85a11e9b1b346f53a1806489e41738121a671a41e6330c3f92a557a49137", func := "elasticstore/elasticstorelaw17.AgreementPlays", spec := "agreementPlays", unfollowed := true, recurses := true, apart := false, narrowed := true }
def AgreementPlaysUptoSaid : Prop := agreementPlaysUptoRow.holds Try.pinned (OpenSpec.upto agreementPlaysSpec)

end Rows
end Go.Proofs.Ytopcklnnkpjanaa
