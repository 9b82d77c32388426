/-
  No cell of these rows narrows 'for every input' (looked for: loops, veiled, ifaces, maps, wideKeys, modest, calm, conditions, laid).
  DERIVED. THE GIVEN ROWS OF THIS SEAT. 10 by the template 'for every input the law returns true; each argument reads behind the call as it read before'; 0 by the template 'total and deterministic' (their statements: YtbcllonopnmmeaaTotals.lean).
  GIVEN WITH THE SEED: the statements are not yours to turn. If you find one false, say at which input.
  Laid BY PROGRAM, IN A SANDBOX (cutbox-rows.mjs): the forced cells as the released guide's own fill.sh prints them over the translation 9fd83a8092c20fee… (all of the seat's roots in one cut). By AI agents, Wed Nov 11 2026. No macro, syntax, notation, axiom, sorry.
-/
import Derived.Test.YtbcllonopnmmeaaChecked
import GoSem.Claim
import GoSem.ClaimJoined
import GoSem.ClaimMapViews
import Derived.JoinedTies
import Derived.KernelRfl
namespace Go.Proofs.Ytbcllonopnmmeaa
/- THE CELL 'sum', in the pinned program and in every row, IS THE sha256 OF THE DUMP (.gsa) THAT YtbcllonopnmmeaaProg.lean LOADS. Nothing in Lean hashes anything: it is a label: what it is worth is what the hold of that sum in a sandbox is worth. -/
noncomputable def Try.pinned : Pinned := { name := "ytbcllonopnmmeaa", sum := "9fd83a8092c20feefe7d98250a4315c6beb94571c3f19d33a0959284288c7f1f", checked := Try.checked }
namespace Rows
def none {H : Type} : Left H := { results := [], args := [] }

/-- 'elasticstorelaw02.FrameChecksum': WHATEVER THE INPUT: true; the input reads as it did. -/
def frameChecksumSpec : ChangeSpec := { name := "frameChecksum", fn := fun _ => fun
  | [d] => { results := [.lit (.bool true)], args := [d] }
  | _ => none }
def frameChecksumRow : OpenClaim := { program := "ytbcllonopnmmeaa", sum := "9fd83a8092c20feefe7d98250a4315c6beb94571c3f19d33a0959284288c7f1f", func := "elasticstore/elasticstorelaw02.FrameChecksum", spec := "frameChecksum", apart := false }
def FrameChecksumSaid : Prop := frameChecksumRow.holds Try.pinned (OpenSpec.ofChange frameChecksumSpec)

/-- ITS FALSE NEIGHBOUR: 'it returns false'. Refute it at one input. -/
def frameChecksumWrong : ChangeSpec := { name := "frameChecksum", fn := fun _ => fun
  | [d] => { results := [.lit (.bool false)], args := [d] }
  | _ => none }
def FrameChecksumWrongFalsely : Prop := frameChecksumRow.holds Try.pinned (OpenSpec.ofChange frameChecksumWrong)

/-- 'elasticstorelaw02.FrameChecksumBit': WHATEVER THE INPUT: true; the input reads as it did. -/
def frameChecksumBitSpec : ChangeSpec := { name := "frameChecksumBit", fn := fun _ => fun
  | [d1, d2, d3] => { results := [.lit (.bool true)], args := [d1, d2, d3] }
  | _ => none }
def frameChecksumBitRow : OpenClaim := { program := "ytbcllonopnmmeaa", sum := "9fd83a8092c20feefe7d98250a4315c6beb94571c3f19d33a0959284288c7f1f", func := "elasticstore/elasticstorelaw02.FrameChecksumBit", spec := "frameChecksumBit", apart := false }
def FrameChecksumBitSaid : Prop := frameChecksumBitRow.holds Try.pinned (OpenSpec.ofChange frameChecksumBitSpec)

/-- ITS FALSE NEIGHBOUR: 'it returns false'. Refute it at one input. -/
def frameChecksumBitWrong : ChangeSpec := { name := "frameChecksumBit", fn := fun _ => fun
  | [d1, d2, d3] => { results := [.lit (.bool false)], args := [d1, d2, d3] }
  | _ => none }
def FrameChecksumBitWrongFalsely : Prop := frameChecksumBitRow.holds Try.pinned (OpenSpec.ofChange frameChecksumBitWrong)

/-- 'elasticstorelaw02.FrameAppend': WHATEVER THE INPUT: true; the input reads as it did. -/
def frameAppendSpec : ChangeSpec := { name := "frameAppend", fn := fun _ => fun
  | [d1, d2, d3] => { results := [.lit (.bool true)], args := [d1, d2, d3] }
  | _ => none }
def frameAppendRow : OpenClaim := { program := "ytbcllonopnmmeaa", sum := "9fd83a8092c20feefe7d98250a4315c6beb94571c3f19d33a0959284288c7f1f", func := "elasticstore/elasticstorelaw02.FrameAppend", spec := "frameAppend", apart := false }
def FrameAppendSaid : Prop := frameAppendRow.holds Try.pinned (OpenSpec.ofChange frameAppendSpec)

/-- ITS FALSE NEIGHBOUR: 'it returns false'. Refute it at one input. -/
def frameAppendWrong : ChangeSpec := { name := "frameAppend", fn := fun _ => fun
  | [d1, d2, d3] => { results := [.lit (.bool false)], args := [d1, d2, d3] }
  | _ => none }
def FrameAppendWrongFalsely : Prop := frameAppendRow.holds Try.pinned (OpenSpec.ofChange frameAppendWrong)

/-- 'elasticstorelaw02.FrameLimit': WHATEVER THE INPUT: true; the input reads as it did. -/
def frameLimitSpec : ChangeSpec := { name := "frameLimit", fn := fun _ => fun
  | [d1, d2] => { results := [.lit (.bool true)], args := [d1, d2] }
  | _ => none }
def frameLimitRow : OpenClaim := { program := "ytbcllonopnmmeaa", sum := "9fd83a8092c20feefe7d98250a4315c6beb94571c3f19d33a0959284288c7f1f", func := "elasticstore/elasticstorelaw02.FrameLimit", spec := "frameLimit", apart := false }
def FrameLimitSaid : Prop := frameLimitRow.holds Try.pinned (OpenSpec.ofChange frameLimitSpec)

/-- ITS FALSE NEIGHBOUR: 'it returns false'. Refute it at one input. -/
def frameLimitWrong : ChangeSpec := { name := "frameLimit", fn := fun _ => fun
  | [d1, d2] => { results := [.lit (.bool false)], args := [d1, d2] }
  | _ => none }
def FrameLimitWrongFalsely : Prop := frameLimitRow.holds Try.pinned (OpenSpec.ofChange frameLimitWrong)

/-- 'elasticstorelaw02.FrameDecode': WHATEVER THE INPUT: true; the input reads as it did. -/
def frameDecodeSpec : ChangeSpec := { name := "frameDecode", fn := fun _ => fun
  | [d] => { results := [.lit (.bool true)], args := [d] }
  | _ => none }
def frameDecodeRow : OpenClaim := { program := "ytbcllonopnmmeaa", sum := "9fd83a8092c20feefe7d98250a4315c6beb94571c3f19d33a0959284288c7f1f", func := "elasticstore/elasticstorelaw02.FrameDecode", spec := "frameDecode", apart := false }
def FrameDecodeSaid : Prop := frameDecodeRow.holds Try.pinned (OpenSpec.ofChange frameDecodeSpec)

/-- ITS FALSE NEIGHBOUR: 'it returns false'. Refute it at one input. -/
def frameDecodeWrong : ChangeSpec := { name := "frameDecode", fn := fun _ => fun
  | [d] => { results := [.lit (.bool false)], args := [d] }
  | _ => none }
def FrameDecodeWrongFalsely : Prop := frameDecodeRow.holds Try.pinned (OpenSpec.ofChange frameDecodeWrong)

/-- 'elasticstorelaw02.FrameDamage': WHATEVER THE INPUT: true; the input reads as it did. -/
def frameDamageSpec : ChangeSpec := { name := "frameDamage", fn := fun _ => fun
  | [d1, d2, d3] => { results := [.lit (.bool true)], args := [d1, d2, d3] }
  | _ => none }
def frameDamageRow : OpenClaim := { program := "ytbcllonopnmmeaa", sum := "9fd83a8092c20feefe7d98250a4315c6beb94571c3f19d33a0959284288c7f1f", func := "elasticstore/elasticstorelaw02.FrameDamage", spec := "frameDamage", apart := false }
def FrameDamageSaid : Prop := frameDamageRow.holds Try.pinned (OpenSpec.ofChange frameDamageSpec)

/-- ITS FALSE NEIGHBOUR: 'it returns false'. Refute it at one input. -/
def frameDamageWrong : ChangeSpec := { name := "frameDamage", fn := fun _ => fun
  | [d1, d2, d3] => { results := [.lit (.bool false)], args := [d1, d2, d3] }
  | _ => none }
def FrameDamageWrongFalsely : Prop := frameDamageRow.holds Try.pinned (OpenSpec.ofChange frameDamageWrong)

/-- 'elasticstorelaw02.FrameTruncated': WHATEVER THE INPUT: true; the input reads as it did. -/
def frameTruncatedSpec : ChangeSpec := { name := "frameTruncated", fn := fun _ => fun
  | [d1, d2] => { results := [.lit (.bool true)], args := [d1, d2] }
  | _ => none }
def frameTruncatedRow : OpenClaim := { program := "ytbcllonopnmmeaa", sum := "9fd83a8092c20feefe7d98250a4315c6beb94571c3f19d33a0959284288c7f1f", func := "elasticstore/elasticstorelaw02.FrameTruncated", spec := "frameTruncated", apart := false }
def FrameTruncatedSaid : Prop := frameTruncatedRow.holds Try.pinned (OpenSpec.ofChange frameTruncatedSpec)

/-- ITS FALSE NEIGHBOUR: 'it returns false'. Refute it at one input. -/
def frameTruncatedWrong : ChangeSpec := { name := "frameTruncated", fn := fun _ => fun
  | [d1, d2] => { results := [.lit (.bool false)], args := [d1, d2] }
  | _ => none }
def FrameTruncatedWrongFalsely : Prop := frameTruncatedRow.holds Try.pinned (OpenSpec.ofChange frameTruncatedWrong)

/-- 'elasticstorelaw02.FrameFeed': WHATEVER THE INPUT: true; the input reads as it did. -/
def frameFeedSpec : ChangeSpec := { name := "frameFeed", fn := fun _ => fun
  | [d1, d2] => { results := [.lit (.bool true)], args := [d1, d2] }
  | _ => none }
def frameFeedRow : OpenClaim := { program := "ytbcllonopnmmeaa", sum := "9fd83a8092c20feefe7d98250a4315c6beb94571c3f19d33a0959284288c7f1f", func := "elasticstore/elasticstorelaw02.FrameFeed", spec := "frameFeed", apart := false }
def FrameFeedSaid : Prop := frameFeedRow.holds Try.pinned (OpenSpec.ofChange frameFeedSpec)

/-- ITS FALSE NEIGHBOUR: 'it returns false'. Refute it at one input. -/
def frameFeedWrong : ChangeSpec := { name := "frameFeed", fn := fun _ => fun
  | [d1, d2] => { results := [.lit (.bool false)], args := [d1, d2] }
  | _ => none }
def FrameFeedWrongFalsely : Prop := frameFeedRow.holds Try.pinned (OpenSpec.ofChange frameFeedWrong)

/-- 'elasticstorelaw02.FramePieces': WHATEVER THE INPUT: true; the input reads as it did. -/
def framePiecesSpec : ChangeSpec := { name := "framePieces", fn := fun _ => fun
  | [d1, d2] => { results := [.lit (.bool true)], args := [d1, d2] }
  | _ => none }
def framePiecesRow : OpenClaim := { program := "ytbcllonopnmmeaa", sum := "9fd83a8092c20feefe7d98250a4315c6beb94571c3f19d33a0959284288c7f1f", func := "elasticstore/elasticstorelaw02.FramePieces", spec := "framePieces", apart := false }
def FramePiecesSaid : Prop := framePiecesRow.holds Try.pinned (OpenSpec.ofChange framePiecesSpec)

/-- ITS FALSE NEIGHBOUR: 'it returns false'. Refute it at one input. -/
def framePiecesWrong : ChangeSpec := { name := "framePieces", fn := fun _ => fun
  | [d1, d2] => { results := [.lit (.bool false)], args := [d1, d2] }
  | _ => none }
def FramePiecesWrongFalsely : Prop := framePiecesRow.holds Try.pinned (OpenSpec.ofChange framePiecesWrong)

/-- 'elasticstorelaw02.FrameSplit': WHATEVER THE INPUT: true; the input reads as it did. -/
def frameSplitSpec : ChangeSpec := { name := "frameSplit", fn := fun _ => fun
  | [d1, d2] => { results := [.lit (.bool true)], args := [d1, d2] }
  | _ => none }
def frameSplitRow : OpenClaim := { program := "ytbcllonopnmmeaa", sum := "9fd83a8092c20feefe7d98250a4315c6beb94571c3f19d33a0959284288c7f1f", func := "elasticstore/elasticstorelaw02.FrameSplit", spec := "frameSplit", apart := false }
def FrameSplitSaid : Prop := frameSplitRow.holds Try.pinned (OpenSpec.ofChange frameSplitSpec)

/-- ITS FALSE NEIGHBOUR: 'it returns false'. Refute it at one input. -/
def frameSplitWrong : ChangeSpec := { name := "frameSplit", fn := fun _ => fun
  | [d1, d2] => { results := [.lit (.bool false)], args := [d1, d2] }
  | _ => none }
def FrameSplitWrongFalsely : Prop := frameSplitRow.holds Try.pinned (OpenSpec.ofChange frameSplitWrong)

/- THE SECOND FORM. 'bulk': how many values and letters a reading holds, each counted each time it is reached (what is shared counts as often as it is met; a slice's spare places count too). A statement '..UptoSaid' is the law's where the arguments, and the package variables that the reading takes, are together of bulk at most 1048576: NARROWER than '..Said'. Prove '..Said' where nothing that the law and all that it calls make is longer than what came in: it says more and counts as full. Else prove '..UptoSaid'. A law counts once. -/
mutual
def uptoBulk {H : Type} : DataW H → Nat
  | .lit (.string bytes) => bytes.length + 1
  | .lit _ => 1
  | .nil => 1
  | .ptr d => uptoBulk d + 1
  | .slice elems spare => uptoBulkAll elems + uptoBulkAll spare + 1
  | .agg parts => uptoBulkAll parts + 1
  | .iface _ d => uptoBulk d + 1
  | .map entries => uptoBulkEntries entries + 1
  | .held _ => 1
def uptoBulkAll {H : Type} : List (DataW H) → Nat
  | [] => 0
  | d :: r => uptoBulk d + uptoBulkAll r
def uptoBulkEntries {H : Type} : List (Lit × DataW H) → Nat
  | [] => 0
  | x :: r => uptoBulkEntry x + uptoBulkEntries r
def uptoBulkEntry {H : Type} : Lit × DataW H → Nat
  | (.string bytes, d) => bytes.length + uptoBulk d + 1
  | (_, d) => uptoBulk d + 1
 end
def uptoSmall : (H : Type) → List (DataW H) → Bool := fun _ ds => decide (uptoBulkAll ds ≤ 1048576)
def OpenSpec.upto (s : _root_.Go.ChangeSpec) : _root_.Go.OpenSpec := { _root_.Go.OpenSpec.ofChange s with cond := some uptoSmall }

/-- 'elasticstorelaw02.FrameChecksum', WHERE WHAT IT READS IS OF BULK AT MOST 1048576: true; the input reads as it did. -/
def frameChecksumUptoRow : OpenClaim := { program := "ytbcllonopnmmeaa", sum := "9fd83a8092c20feefe7d98250a4315c6beb94571c3f19d33a0959284288c7f1f", func := "elasticstore/elasticstorelaw02.FrameChecksum", spec := "frameChecksum", apart := false, narrowed := true }
def FrameChecksumUptoSaid : Prop := frameChecksumUptoRow.holds Try.pinned (OpenSpec.upto frameChecksumSpec)

/-- 'elasticstorelaw02.FrameChecksumBit', WHERE WHAT IT READS IS OF BULK AT MOST 1048576: true; the input reads as it did. -/
def frameChecksumBitUptoRow : OpenClaim := { program := "ytbcllonopnmmeaa", sum := "9fd83a8092c20feefe7d98250a4315c6beb94571c3f19d33a0959284288c7f1f", func := "elasticstore/elasticstorelaw02.FrameChecksumBit", spec := "frameChecksumBit", apart := false, narrowed := true }
def FrameChecksumBitUptoSaid : Prop := frameChecksumBitUptoRow.holds Try.pinned (OpenSpec.upto frameChecksumBitSpec)

/-- 'elasticstorelaw02.FrameAppend', WHERE WHAT IT READS IS OF BULK AT MOST 1048576: true; the input reads as it did. -/
def frameAppendUptoRow : OpenClaim := { program := "ytbcllonopnmmeaa", sum := "9fd83a8092c20feefe7d98250a4315c6beb94571c3f19d33a0959284288c7f1f", func := "elasticstore/elasticstorelaw02.FrameAppend", spec := "frameAppend", apart := false, narrowed := true }
def FrameAppendUptoSaid : Prop := frameAppendUptoRow.holds Try.pinned (OpenSpec.upto frameAppendSpec)

/-- 'elasticstorelaw02.FrameLimit', WHERE WHAT IT READS IS OF BULK AT MOST 1048576: true; the input reads as it did. -/
def frameLimitUptoRow : OpenClaim := { program := "ytbcllonopnmmeaa", sum := "9fd83a8092c20feefe7d98250a4315c6beb94571c3f19d33a0959284288c7f1f", func := "elasticstore/elasticstorelaw02.FrameLimit", spec := "frameLimit", apart := false, narrowed := true }
def FrameLimitUptoSaid : Prop := frameLimitUptoRow.holds Try.pinned (OpenSpec.upto frameLimitSpec)

/-- 'elasticstorelaw02.FrameDecode', WHERE WHAT IT READS IS OF BULK AT MOST 1048576: true; the input reads as it did. -/
def frameDecodeUptoRow : OpenClaim := { program := "ytbcllonopnmmeaa", sum := "9fd83a8092c20feefe7d98250a4315c6beb94571c3f19d33a0959284288c7f1f", func := "elasticstore/elasticstorelaw02.FrameDecode", spec := "frameDecode", apart := false, narrowed := true }
def FrameDecodeUptoSaid : Prop := frameDecodeUptoRow.holds Try.pinned (OpenSpec.upto frameDecodeSpec)

/-- 'elasticstorelaw02.FrameDamage', WHERE WHAT IT READS IS OF BULK AT MOST 1048576: true; the input reads as it did. -/
def frameDamageUptoRow : OpenClaim := { program := "ytbcllonopnmmeaa", sum := "9fd83a8092c20feefe7d98250a4315c6beb94571c3f19d33a0959284288c7f1f", func := "elasticstore/elasticstorelaw02.FrameDamage", spec := "frameDamage", apart := false, narrowed := true }
def FrameDamageUptoSaid : Prop := frameDamageUptoRow.holds Try.pinned (OpenSpec.upto frameDamageSpec)

/-- 'elasticstorelaw02.FrameTruncated', WHERE WHAT IT READS IS OF BULK AT MOST 1048576: true; the input reads as it did. -/
def frameTruncatedUptoRow : OpenClaim := { program := "ytbcllonopnmmeaa", sum := "9fd83a8092c20feefe7d98250a4315c6beb94571c3f19d33a0959284288c7f1f", func := "elasticstore/elasticstorelaw02.FrameTruncated", spec := "frameTruncated", apart := false, narrowed := true }
def FrameTruncatedUptoSaid : Prop := frameTruncatedUptoRow.holds Try.pinned (OpenSpec.upto frameTruncatedSpec)

/-- 'elasticstorelaw02.FrameFeed', WHERE WHAT IT READS IS OF BULK AT MOST 1048576: true; the input reads as it did. -/
def frameFeedUptoRow : OpenClaim := { program := "ytbcllonopnmmeaa", sum := "9fd83a8092c20feefe7d98250a4315c6beb94571c3f19d33a0959284288c7f1f", func := "elasticstore/elasticstorelaw02.FrameFeed", spec := "frameFeed", apart := false, narrowed := true }
def FrameFeedUptoSaid : Prop := frameFeedUptoRow.holds Try.pinned (OpenSpec.upto frameFeedSpec)

/-- 'elasticstorelaw02.FramePieces', WHERE WHAT IT READS IS OF BULK AT MOST 1048576: true; the input reads as it did. -/
def framePiecesUptoRow : OpenClaim := { program := "ytbcllonopnmmeaa", sum := "9fd83a8092c20feefe7d98250a4315c6beb94571c3f19d33a0959284288c7f1f", func := "elasticstore/elasticstorelaw02.FramePieces", spec := "framePieces", apart := false, narrowed := true }
def FramePiecesUptoSaid : Prop := framePiecesUptoRow.holds Try.pinned (OpenSpec.upto framePiecesSpec)

/-- 'elasticstorelaw02.FrameSplit', WHERE WHAT IT READS IS OF BULK AT MOST 1048576: true; the input reads as it did. -/
def frameSplitUptoRow : OpenClaim := { program := "ytbcllonopnmmeaa", sum := "9fd83a8092c20feefe7d98250a4315c6beb94571c3f19d33a0959284288c7f1f", func := "elasticstore/elasticstorelaw02.FrameSplit", spec := "frameSplit", apart := false, narrowed := true }
def FrameSplitUptoSaid : Prop := frameSplitUptoRow.holds Try.pinned (OpenSpec.upto frameSplitSpec)

end Rows
end Go.Proofs.Ytbcllonopnmmeaa
