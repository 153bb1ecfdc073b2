/-
  NARROWER THAN 'FOR EVERY INPUT', by the rows' own cells (each row's printed sentence says how): IndexAll: laid · IndexBoth: laid · IndexMoves: laid.
  DERIVED. THE GIVEN ROWS OF THIS SEAT. 3 by the template 'for every input the law returns true; each argument reads behind the call as it read before'; 0 by the template 'total and deterministic' (their statements: YtedfijmaeoednaaGreatDoorTotals.lean).
  GIVEN WITH THE SEED: the statements are not yours to turn. If you find one false, say at which input.
  Laid BY PROGRAM, IN A SANDBOX (cutbox-rows.mjs): the forced cells as the released guide's own fill.sh prints them over the translation dc4fc145256da0e7… (all of the seat's roots in one cut). By AI agents, Wed Nov 11 2026. No macro, syntax, notation, axiom, sorry.
-/
import Derived.Test.YtedfijmaeoednaaGreatDoorChecked
import GoSem.PinnedTables
import GoSem.Claim
import GoSem.ClaimJoined
import GoSem.ClaimMapViews
import Derived.JoinedTies
import Derived.KernelRfl
namespace Go.Proofs.YtedfijmaeoednaaGreatDoor
/- THE CELL 'sum', in the pinned program and in every row, IS THE sha256 OF THE DUMP (.gsa) THAT YtedfijmaeoednaaGreatDoorProg.lean LOADS. Nothing in Lean hashes anything: it is a label: what it is worth is what the hold of that sum in a sandbox is worth. -/
noncomputable def Tryz.pinned : Pinned := { name := "ytedfijmaeoednaagreatdoor", sum := "dc4fc145256da0e70da0164989df5f39e8efb6a65192f6c42d871edec5d4d009", checked := Tryz.checked }
namespace Rows
def none {H : Type} : Left H := { results := [], args := [] }

/- WHAT THE LISTED PACKAGE-LEVEL VARIABLES READ AS WHEN THE CALL BEGINS. Each datum BY PROGRAM (the guide's laid-datum.mjs) off the statement by which the dump's own 'gosem.cut.vars' lays the variable. In a bare row this is a premise. The card (YtedfijmaeoednaaGreatDoorCards.lean) ties it to the program's text. -/
def laid_unicode_utf8_acceptRanges {H : Type} : DataW H := .agg [.agg [.lit (.int .u8 128), .lit (.int .u8 191)], .agg [.lit (.int .u8 160), .lit (.int .u8 191)], .agg [.lit (.int .u8 128), .lit (.int .u8 159)], .agg [.lit (.int .u8 144), .lit (.int .u8 191)], .agg [.lit (.int .u8 128), .lit (.int .u8 143)], .agg [.lit (.int .u8 0), .lit (.int .u8 0)], .agg [.lit (.int .u8 0), .lit (.int .u8 0)], .agg [.lit (.int .u8 0), .lit (.int .u8 0)], .agg [.lit (.int .u8 0), .lit (.int .u8 0)], .agg [.lit (.int .u8 0), .lit (.int .u8 0)], .agg [.lit (.int .u8 0), .lit (.int .u8 0)], .agg [.lit (.int .u8 0), .lit (.int .u8 0)], .agg [.lit (.int .u8 0), .lit (.int .u8 0)], .agg [.lit (.int .u8 0), .lit (.int .u8 0)], .agg [.lit (.int .u8 0), .lit (.int .u8 0)], .agg [.lit (.int .u8 0), .lit (.int .u8 0)]]
/-- One of Go's own tables, pinned by name: the form's constant. -/
def laid_unicode_utf8_first : DataW Unit := Go.Pinned.utf8First

/-- 'whimlaw25.IndexAll': WHATEVER THE INPUT: true; the input reads as it did. -/
def indexAllSpec : ChangeSpec := { name := "indexAll", fn := fun _ => fun
  | [d1, d2, d3] => { results := [.lit (.bool true)], args := [d1, d2, d3] }
  | _ => none }
def indexAllRow : OpenClaim := { program := "ytedfijmaeoednaagreatdoor", sum := "dc4fc145256da0e70da0164989df5f39e8efb6a65192f6c42d871edec5d4d009", func := "whim/whimlaw25.IndexAll", spec := "indexAll", inPlace := ["slices.overlaps[string]", "slices.overlaps[whim/index.kept]", "slices.overlaps[*whim/tree.node[string, whim/index.kept]]", "internal/bytealg.CountString", "internal/bytealg.IndexByteString", "internal/bytealg.IndexString", "internal/abi.NoEscape", "internal/bytealg.MakeNoZero", "slices.overlaps[whim/api.RID]", "slices.overlaps[*whim/tree.node[string, whim/api.RID]]"], unfollowed := true, recurses := true, named := ["internal/bytealg.MaxLen", "unicode/utf8.first", "unicode/utf8.acceptRanges"], apart := false, laid := [("unicode/utf8.acceptRanges", laid_unicode_utf8_acceptRanges), ("unicode/utf8.first", laid_unicode_utf8_first)] }
def IndexAllSaid : Prop := indexAllRow.holds Tryz.pinned (OpenSpec.ofChange indexAllSpec)

/-- ITS FALSE NEIGHBOUR: 'it returns false'. Refute it at one input. -/
def indexAllWrong : ChangeSpec := { name := "indexAll", fn := fun _ => fun
  | [d1, d2, d3] => { results := [.lit (.bool false)], args := [d1, d2, d3] }
  | _ => none }
def IndexAllWrongFalsely : Prop := indexAllRow.holds Tryz.pinned (OpenSpec.ofChange indexAllWrong)

/-- 'whimlaw25.IndexBoth': WHATEVER THE INPUT: true; the input reads as it did. -/
def indexBothSpec : ChangeSpec := { name := "indexBoth", fn := fun _ => fun
  | [d] => { results := [.lit (.bool true)], args := [d] }
  | _ => none }
def indexBothRow : OpenClaim := { program := "ytedfijmaeoednaagreatdoor", sum := "dc4fc145256da0e70da0164989df5f39e8efb6a65192f6c42d871edec5d4d009", func := "whim/whimlaw25.IndexBoth", spec := "indexBoth", inPlace := ["slices.overlaps[string]", "slices.overlaps[whim/index.kept]", "slices.overlaps[*whim/tree.node[string, whim/index.kept]]", "internal/bytealg.CountString", "internal/bytealg.IndexByteString", "internal/bytealg.IndexString", "internal/abi.NoEscape", "internal/bytealg.MakeNoZero", "slices.overlaps[whim/api.RID]", "slices.overlaps[*whim/tree.node[string, whim/api.RID]]"], unfollowed := true, recurses := true, named := ["internal/bytealg.MaxLen", "unicode/utf8.first", "unicode/utf8.acceptRanges"], apart := false, laid := [("unicode/utf8.acceptRanges", laid_unicode_utf8_acceptRanges), ("unicode/utf8.first", laid_unicode_utf8_first)] }
def IndexBothSaid : Prop := indexBothRow.holds Tryz.pinned (OpenSpec.ofChange indexBothSpec)

/-- ITS FALSE NEIGHBOUR: 'it returns false'. Refute it at one input. -/
def indexBothWrong : ChangeSpec := { name := "indexBoth", fn := fun _ => fun
  | [d] => { results := [.lit (.bool false)], args := [d] }
  | _ => none }
def IndexBothWrongFalsely : Prop := indexBothRow.holds Tryz.pinned (OpenSpec.ofChange indexBothWrong)

/-- 'whimlaw25.IndexMoves': WHATEVER THE INPUT: true; the input reads as it did. -/
def indexMovesSpec : ChangeSpec := { name := "indexMoves", fn := fun _ => fun
  | [d1, d2, d3] => { results := [.lit (.bool true)], args := [d1, d2, d3] }
  | _ => none }
def indexMovesRow : OpenClaim := { program := "ytedfijmaeoednaagreatdoor", sum := "dc4fc145256da0e70da0164989df5f39e8efb6a65192f6c42d871edec5d4d009", func := "whim/whimlaw25.IndexMoves", spec := "indexMoves", inPlace := ["slices.overlaps[string]", "slices.overlaps[whim/index.kept]", "slices.overlaps[*whim/tree.node[string, whim/index.kept]]", "internal/bytealg.CountString", "internal/bytealg.IndexByteString", "internal/bytealg.IndexString", "internal/abi.NoEscape", "internal/bytealg.MakeNoZero", "slices.overlaps[whim/api.RID]", "slices.overlaps[*whim/tree.node[string, whim/api.RID]]"], unfollowed := true, recurses := true, named := ["internal/bytealg.MaxLen", "unicode/utf8.first", "unicode/utf8.acceptRanges"], apart := false, laid := [("unicode/utf8.acceptRanges", laid_unicode_utf8_acceptRanges), ("unicode/utf8.first", laid_unicode_utf8_first)] }
def IndexMovesSaid : Prop := indexMovesRow.holds Tryz.pinned (OpenSpec.ofChange indexMovesSpec)

/-- ITS FALSE NEIGHBOUR: 'it returns false'. Refute it at one input. -/
def indexMovesWrong : ChangeSpec := { name := "indexMoves", fn := fun _ => fun
  | [d1, d2, d3] => { results := [.lit (.bool false)], args := [d1, d2, d3] }
  | _ => none }
def IndexMovesWrongFalsely : Prop := indexMovesRow.holds Tryz.pinned (OpenSpec.ofChange indexMovesWrong)

/- THE SECOND FORM. 'bulk': how many values and letters a reading holds, each counted each time it is reached (what is shared counts as often as it is met; a slice's spare places count too). A statement '..UptoSaid' is the law's where the arguments, and the package variables that the reading takes, are together of bulk at most 1048576: NARROWER than '..Said'. Prove '..Said' where nothing that the law and all that it calls make is longer than what came in: it says more and counts as full. Else prove '..UptoSaid'. A law counts once. -/
mutual
def uptoBulk {H : Type} : DataW H → Nat
  | .lit (.string bytes) => bytes.length + 1
  | .lit _ => 1
  | .nil => 1
  | .ptr d => uptoBulk d + 1
  | .slice elems spare => uptoBulkAll elems + uptoBulkAll spare + 1
  | .agg parts => uptoBulkAll parts + 1
  | .iface _ d => uptoBulk d + 1
  | .map entries => uptoBulkEntries entries + 1
  | .held _ => 1
def uptoBulkAll {H : Type} : List (DataW H) → Nat
  | [] => 0
  | d :: r => uptoBulk d + uptoBulkAll r
def uptoBulkEntries {H : Type} : List (Lit × DataW H) → Nat
  | [] => 0
  | x :: r => uptoBulkEntry x + uptoBulkEntries r
def uptoBulkEntry {H : Type} : Lit × DataW H → Nat
  | (.string bytes, d) => bytes.length + uptoBulk d + 1
  | (_, d) => uptoBulk d + 1
 end
def uptoSmall : (H : Type) → List (DataW H) → Bool := fun _ ds => decide (uptoBulkAll ds ≤ 1048576)
def OpenSpec.upto (s : _root_.Go.ChangeSpec) : _root_.Go.OpenSpec := { _root_.Go.OpenSpec.ofChange s with cond := some uptoSmall }

/-- 'whimlaw25.IndexAll', WHERE WHAT IT READS IS OF BULK AT MOST 1048576: true; the input reads as it did. -/
def indexAllUptoRow : OpenClaim := { program := "ytedfijmaeoednaagreatdoor", sum := "dc4fc145256da0e70da0164989df5f39e8efb6a65192f6c42d871edec5d4d009", func := "whim/whimlaw25.IndexAll", spec := "indexAll", inPlace := ["slices.overlaps[string]", "slices.overlaps[whim/index.kept]", "slices.overlaps[*whim/tree.node[string, whim/index.kept]]", "internal/bytealg.CountString", "internal/bytealg.IndexByteString", "internal/bytealg.IndexString", "internal/abi.NoEscape", "internal/bytealg.MakeNoZero", "slices.overlaps[whim/api.RID]", "slices.overlaps[*whim/tree.node[string, whim/api.RID]]"], unfollowed := true, recurses := true, named := ["internal/bytealg.MaxLen", "unicode/utf8.first", "unicode/utf8.acceptRanges"], apart := false, laid := [("unicode/utf8.acceptRanges", laid_unicode_utf8_acceptRanges), ("unicode/utf8.first", laid_unicode_utf8_first)], narrowed := true }
def IndexAllUptoSaid : Prop := indexAllUptoRow.holds Tryz.pinned (OpenSpec.upto indexAllSpec)

/-- 'whimlaw25.IndexBoth', WHERE WHAT IT READS IS OF BULK AT MOST 1048576: true; the input reads as it did. -/
def indexBothUptoRow : OpenClaim := { program := "ytedfijmaeoednaagreatdoor", sum := "dc4fc145256da0e70da0164989df5f39e8efb6a65192f6c42d871edec5d4d009", func := "whim/whimlaw25.IndexBoth", spec := "indexBoth", inPlace := ["slices.overlaps[string]", "slices.overlaps[whim/index.kept]", "slices.overlaps[*whim/tree.node[string, whim/index.kept]]", "internal/bytealg.CountString", "internal/bytealg.IndexByteString", "internal/bytealg.IndexString", "internal/abi.NoEscape", "internal/bytealg.MakeNoZero", "slices.overlaps[whim/api.RID]", "slices.overlaps[*whim/tree.node[string, whim/api.RID]]"], unfollowed := true, recurses := true, named := ["internal/bytealg.MaxLen", "unicode/utf8.first", "unicode/utf8.acceptRanges"], apart := false, laid := [("unicode/utf8.acceptRanges", laid_unicode_utf8_acceptRanges), ("unicode/utf8.first", laid_unicode_utf8_first)], narrowed := true }
def IndexBothUptoSaid : Prop := indexBothUptoRow.holds Tryz.pinned (OpenSpec.upto indexBothSpec)

/-- 'whimlaw25.IndexMoves', WHERE WHAT IT READS IS OF BULK AT MOST 1048576: true; the input reads as it did. -/
def indexMovesUptoRow : OpenClaim := { program := "ytedfijmaeoednaagreatdoor", sum := "dc4fc145256da0e70da0164989df5f39e8efb6a65192f6c42d871edec5d4d009", func := "whim/whimlaw25.IndexMoves", spec := "indexMoves", inPlace := ["slices.overlaps[string]", "slices.overlaps[whim/index.kept]", "slices.overlaps[*whim/tree.node[string, whim/index.kept]]", "internal/bytealg.CountString", "internal/bytealg.IndexByteString", "internal/bytealg.IndexString", "internal/abi.NoEscape", "internal/bytealg.MakeNoZero", "slices.overlaps[whim/api.RID]", "slices.overlaps[*whim/tree.node[string, whim/api.RID]]"], unfollowed := true, recurses := true, named := ["internal/bytealg.MaxLen", "unicode/utf8.first", "unicode/utf8.acceptRanges"], apart := false, laid := [("unicode/utf8.acceptRanges", laid_unicode_utf8_acceptRanges), ("unicode/utf8.first", laid_unicode_utf8_first)], narrowed := true }
def IndexMovesUptoSaid : Prop := indexMovesUptoRow.holds Tryz.pinned (OpenSpec.upto indexMovesSpec)

end Rows
end Go.Proofs.YtedfijmaeoednaaGreatDoor
