/-
  No cell of these rows narrows 'for every input' (looked for: loops, veiled, ifaces, maps, wideKeys, modest, calm, conditions, laid).
  DERIVED. THE GIVEN ROWS OF THIS SEAT. 6 by the template 'for every input the law returns true; each argument reads behind the call as it read before'; 0 by the template 'total and deterministic' (their statements: YtjmkfppnimengaaTotals.lean).
  GIVEN WITH THE SEED: the statements are not yours to turn. If you find one false, say at which input.
  Laid BY PROGRAM, IN A SANDBOX (cutbox-rows.mjs): the forced cells as the released guide's own fill.sh prints them over the translation 24adca6f002a81e1… (all of the seat's roots in one cut). By AI agents, Wed Nov 11 2026. No macro, syntax, notation, axiom, sorry.
-/
import Derived.Test.YtjmkfppnimengaaChecked
import GoSem.Claim
import GoSem.ClaimJoined
import GoSem.ClaimMapViews
import Derived.JoinedTies
import Derived.KernelRfl
namespace Go.Proofs.Ytjmkfppnimengaa
/- THE CELL 'sum', in the pinned program and in every row, IS THE sha256 OF THE DUMP (.gsa) THAT YtjmkfppnimengaaProg.lean LOADS. Nothing in Lean hashes anything: it is a label: what it is worth is what the hold of that sum in a sandbox is worth. -/
noncomputable def Try.pinned : Pinned := { name := "ytjmkfppnimengaa", sum := "24adca6f002a81e1cb8bcba6f58c6baef2ad868a4cc292e590d9d6ccfbaf21c1", checked := Try.checked }
namespace Rows
def none {H : Type} : Left H := { results := [], args := [] }

/-- 'whimlaw9.TreeAll': WHATEVER THE INPUT: true; the input reads as it did. -/
def treeAllSpec : ChangeSpec := { name := "treeAll", fn := fun _ => fun
  | [d] => { results := [.lit (.bool true)], args := [d] }
  | _ => none }
def treeAllRow : OpenClaim := { program := "ytjmkfppnimengaa", sum := "24adca6f002a81e1cb8bcba6f58c6baef2ad868a4cc292e590d9d6ccfbaf21c1", func := "whim/whimlaw9.TreeAll", spec := "treeAll", inPlace := ["slices.overlaps[string]", "slices.overlaps[whim/api.RID]", "slices.overlaps[*whim/tree.node[string, whim/api.RID]]"], unfollowed := true, recurses := true, apart := false }
def TreeAllSaid : Prop := treeAllRow.holds Try.pinned (OpenSpec.ofChange treeAllSpec)

/-- ITS FALSE NEIGHBOUR: 'it returns false'. Refute it at one input. -/
def treeAllWrong : ChangeSpec := { name := "treeAll", fn := fun _ => fun
  | [d] => { results := [.lit (.bool false)], args := [d] }
  | _ => none }
def TreeAllWrongFalsely : Prop := treeAllRow.holds Try.pinned (OpenSpec.ofChange treeAllWrong)

/-- 'whimlaw9.TreeFrom': WHATEVER THE INPUT: true; the input reads as it did. -/
def treeFromSpec : ChangeSpec := { name := "treeFrom", fn := fun _ => fun
  | [d1, d2, d3] => { results := [.lit (.bool true)], args := [d1, d2, d3] }
  | _ => none }
def treeFromRow : OpenClaim := { program := "ytjmkfppnimengaa", sum := "24adca6f002a81e1cb8bcba6f58c6baef2ad868a4cc292e590d9d6ccfbaf21c1", func := "whim/whimlaw9.TreeFrom", spec := "treeFrom", inPlace := ["slices.overlaps[string]", "slices.overlaps[whim/api.RID]", "slices.overlaps[*whim/tree.node[string, whim/api.RID]]"], unfollowed := true, recurses := true, apart := false }
def TreeFromSaid : Prop := treeFromRow.holds Try.pinned (OpenSpec.ofChange treeFromSpec)

/-- ITS FALSE NEIGHBOUR: 'it returns false'. Refute it at one input. -/
def treeFromWrong : ChangeSpec := { name := "treeFrom", fn := fun _ => fun
  | [d1, d2, d3] => { results := [.lit (.bool false)], args := [d1, d2, d3] }
  | _ => none }
def TreeFromWrongFalsely : Prop := treeFromRow.holds Try.pinned (OpenSpec.ofChange treeFromWrong)

/-- 'whimlaw9.TreeRows': WHATEVER THE INPUT: true; the input reads as it did. -/
def treeRowsSpec : ChangeSpec := { name := "treeRows", fn := fun _ => fun
  | [d1, d2, d3] => { results := [.lit (.bool true)], args := [d1, d2, d3] }
  | _ => none }
def treeRowsRow : OpenClaim := { program := "ytjmkfppnimengaa", sum := "24adca6f002a81e1cb8bcba6f58c6baef2ad868a4cc292e590d9d6ccfbaf21c1", func := "whim/whimlaw9.TreeRows", spec := "treeRows", inPlace := ["slices.overlaps[string]", "slices.overlaps[whim/api.RID]", "slices.overlaps[*whim/tree.node[string, whim/api.RID]]"], unfollowed := true, recurses := true, apart := false }
def TreeRowsSaid : Prop := treeRowsRow.holds Try.pinned (OpenSpec.ofChange treeRowsSpec)

/-- ITS FALSE NEIGHBOUR: 'it returns false'. Refute it at one input. -/
def treeRowsWrong : ChangeSpec := { name := "treeRows", fn := fun _ => fun
  | [d1, d2, d3] => { results := [.lit (.bool false)], args := [d1, d2, d3] }
  | _ => none }
def TreeRowsWrongFalsely : Prop := treeRowsRow.holds Try.pinned (OpenSpec.ofChange treeRowsWrong)

/-- 'whimlaw9.TreeOnce': WHATEVER THE INPUT: true; the input reads as it did. -/
def treeOnceSpec : ChangeSpec := { name := "treeOnce", fn := fun _ => fun
  | [d] => { results := [.lit (.bool true)], args := [d] }
  | _ => none }
def treeOnceRow : OpenClaim := { program := "ytjmkfppnimengaa", sum := "24adca6f002a81e1cb8bcba6f58c6baef2ad868a4cc292e590d9d6ccfbaf21c1", func := "whim/whimlaw9.TreeOnce", spec := "treeOnce", inPlace := ["slices.overlaps[string]", "slices.overlaps[whim/api.RID]", "slices.overlaps[*whim/tree.node[string, whim/api.RID]]"], unfollowed := true, recurses := true, apart := false }
def TreeOnceSaid : Prop := treeOnceRow.holds Try.pinned (OpenSpec.ofChange treeOnceSpec)

/-- ITS FALSE NEIGHBOUR: 'it returns false'. Refute it at one input. -/
def treeOnceWrong : ChangeSpec := { name := "treeOnce", fn := fun _ => fun
  | [d] => { results := [.lit (.bool false)], args := [d] }
  | _ => none }
def TreeOnceWrongFalsely : Prop := treeOnceRow.holds Try.pinned (OpenSpec.ofChange treeOnceWrong)

/-- 'whimlaw9.TreeHeight': WHATEVER THE INPUT: true; the input reads as it did. -/
def treeHeightSpec : ChangeSpec := { name := "treeHeight", fn := fun _ => fun
  | [d1, d2] => { results := [.lit (.bool true)], args := [d1, d2] }
  | _ => none }
def treeHeightRow : OpenClaim := { program := "ytjmkfppnimengaa", sum := "24adca6f002a81e1cb8bcba6f58c6baef2ad868a4cc292e590d9d6ccfbaf21c1", func := "whim/whimlaw9.TreeHeight", spec := "treeHeight", inPlace := ["slices.overlaps[string]", "slices.overlaps[whim/api.RID]", "slices.overlaps[*whim/tree.node[string, whim/api.RID]]"], unfollowed := true, recurses := true, apart := false }
def TreeHeightSaid : Prop := treeHeightRow.holds Try.pinned (OpenSpec.ofChange treeHeightSpec)

/-- ITS FALSE NEIGHBOUR: 'it returns false'. Refute it at one input. -/
def treeHeightWrong : ChangeSpec := { name := "treeHeight", fn := fun _ => fun
  | [d1, d2] => { results := [.lit (.bool false)], args := [d1, d2] }
  | _ => none }
def TreeHeightWrongFalsely : Prop := treeHeightRow.holds Try.pinned (OpenSpec.ofChange treeHeightWrong)

/-- 'whimlaw9.TreeLent': WHATEVER THE INPUT: true; the input reads as it did. -/
def treeLentSpec : ChangeSpec := { name := "treeLent", fn := fun _ => fun
  | [d] => { results := [.lit (.bool true)], args := [d] }
  | _ => none }
def treeLentRow : OpenClaim := { program := "ytjmkfppnimengaa", sum := "24adca6f002a81e1cb8bcba6f58c6baef2ad868a4cc292e590d9d6ccfbaf21c1", func := "whim/whimlaw9.TreeLent", spec := "treeLent", inPlace := ["slices.overlaps[string]", "slices.overlaps[whim/api.RID]", "slices.overlaps[*whim/tree.node[string, whim/api.RID]]"], unfollowed := true, recurses := true, apart := false }
def TreeLentSaid : Prop := treeLentRow.holds Try.pinned (OpenSpec.ofChange treeLentSpec)

/-- ITS FALSE NEIGHBOUR: 'it returns false'. Refute it at one input. -/
def treeLentWrong : ChangeSpec := { name := "treeLent", fn := fun _ => fun
  | [d] => { results := [.lit (.bool false)], args := [d] }
  | _ => none }
def TreeLentWrongFalsely : Prop := treeLentRow.holds Try.pinned (OpenSpec.ofChange treeLentWrong)

/- THE SECOND FORM. 'bulk': how many values and letters a reading holds, each counted each time it is reached (what is shared counts as often as it is met; a slice's spare places count too). A statement '..UptoSaid' is the law's where the arguments, and the package variables that the reading takes, are together of bulk at most 1048576: NARROWER than '..Said'. Prove '..Said' where nothing that the law and all that it calls make is longer than what came in: it says more and counts as full. Else prove '..UptoSaid'. A law counts once. -/
mutual
def uptoBulk {H : Type} : DataW H → Nat
  | .lit (.string bytes) => bytes.length + 1
  | .lit _ => 1
  | .nil => 1
  | .ptr d => uptoBulk d + 1
  | .slice elems spare => uptoBulkAll elems + uptoBulkAll spare + 1
  | .agg parts => uptoBulkAll parts + 1
  | .iface _ d => uptoBulk d + 1
  | .map entries => uptoBulkEntries entries + 1
  | .held _ => 1
def uptoBulkAll {H : Type} : List (DataW H) → Nat
  | [] => 0
  | d :: r => uptoBulk d + uptoBulkAll r
def uptoBulkEntries {H : Type} : List (Lit × DataW H) → Nat
  | [] => 0
  | x :: r => uptoBulkEntry x + uptoBulkEntries r
def uptoBulkEntry {H : Type} : Lit × DataW H → Nat
  | (.string bytes, d) => bytes.length + uptoBulk d + 1
  | (_, d) => uptoBulk d + 1
 end
def uptoSmall : (H : Type) → List (DataW H) → Bool := fun _ ds => decide (uptoBulkAll ds ≤ 1048576)
def OpenSpec.upto (s : _root_.Go.ChangeSpec) : _root_.Go.OpenSpec := { _root_.Go.OpenSpec.ofChange s with cond := some uptoSmall }

/-- 'whimlaw9.TreeAll', WHERE WHAT IT READS IS OF BULK AT MOST 1048576: true; the input reads as it did. -/
def treeAllUptoRow : OpenClaim := { program := "ytjmkfppnimengaa", sum := "24adca6f002a81e1cb8bcba6f58c6baef2ad868a4cc292e590d9d6ccfbaf21c1", func := "whim/whimlaw9.TreeAll", spec := "treeAll", inPlace := ["slices.overlaps[string]", "slices.overlaps[whim/api.RID]", "slices.overlaps[*whim/tree.node[string, whim/api.RID]]"], unfollowed := true, recurses := true, apart := false, narrowed := true }
def TreeAllUptoSaid : Prop := treeAllUptoRow.holds Try.pinned (OpenSpec.upto treeAllSpec)

/-- 'whimlaw9.TreeFrom', WHERE WHAT IT READS IS OF BULK AT MOST 1048576: true; the input reads as it did. -/
def treeFromUptoRow : OpenClaim := { program := "ytjmkfppnimengaa", sum := "24adca6f002a81e1cb8bcba6f58c6baef2ad868a4cc292e590d9d6ccfbaf21c1", func := "whim/whimlaw9.TreeFrom", spec := "treeFrom", inPlace := ["slices.overlaps[string]", "slices.overlaps[whim/api.RID]", "slices.overlaps[*whim/tree.node[string, whim/api.RID]]"], unfollowed := true, recurses := true, apart := false, narrowed := true }
def TreeFromUptoSaid : Prop := treeFromUptoRow.holds Try.pinned (OpenSpec.upto treeFromSpec)

/-- 'whimlaw9.TreeRows', WHERE WHAT IT READS IS OF BULK AT MOST 1048576: true; the input reads as it did. -/
def treeRowsUptoRow : OpenClaim := { program := "ytjmkfppnimengaa", sum := "24adca6f002a81e1cb8bcba6f58c6baef2ad868a4cc292e590d9d6ccfbaf21c1", func := "whim/whimlaw9.TreeRows", spec := "treeRows", inPlace := ["slices.overlaps[string]", "slices.overlaps[whim/api.RID]", "slices.overlaps[*whim/tree.node[string, whim/api.RID]]"], unfollowed := true, recurses := true, apart := false, narrowed := true }
def TreeRowsUptoSaid : Prop := treeRowsUptoRow.holds Try.pinned (OpenSpec.upto treeRowsSpec)

/-- 'whimlaw9.TreeOnce', WHERE WHAT IT READS IS OF BULK AT MOST 1048576: true; the input reads as it did. -/
def treeOnceUptoRow : OpenClaim := { program := "ytjmkfppnimengaa", sum := "24adca6f002a81e1cb8bcba6f58c6baef2ad868a4cc292e590d9d6ccfbaf21c1", func := "whim/whimlaw9.TreeOnce", spec := "treeOnce", inPlace := ["slices.overlaps[string]", "slices.overlaps[whim/api.RID]", "slices.overlaps[*whim/tree.node[string, whim/api.RID]]"], unfollowed := true, recurses := true, apart := false, narrowed := true }
def TreeOnceUptoSaid : Prop := treeOnceUptoRow.holds Try.pinned (OpenSpec.upto treeOnceSpec)

/-- 'whimlaw9.TreeHeight', WHERE WHAT IT READS IS OF BULK AT MOST 1048576: true; the input reads as it did. -/
def treeHeightUptoRow : OpenClaim := { program := "ytjmkfppnimengaa", sum := "24adca6f002a81e1cb8bcba6f58c6baef2ad868a4cc292e590d9d6ccfbaf21c1", func := "whim/whimlaw9.TreeHeight", spec := "treeHeight", inPlace := ["slices.overlaps[string]", "slices.overlaps[whim/api.RID]", "slices.overlaps[*whim/tree.node[string, whim/api.RID]]"], unfollowed := true, recurses := true, apart := false, narrowed := true }
def TreeHeightUptoSaid : Prop := treeHeightUptoRow.holds Try.pinned (OpenSpec.upto treeHeightSpec)

/-- 'whimlaw9.TreeLent', WHERE WHAT IT READS IS OF BULK AT MOST 1048576: true; the input reads as it did. -/
def treeLentUptoRow : OpenClaim := { program := "ytjmkfppnimengaa", sum := "24adca6f002a81e1cb8bcba6f58c6baef2ad868a4cc292e590d9d6ccfbaf21c1", func := "whim/whimlaw9.TreeLent", spec := "treeLent", inPlace := ["slices.overlaps[string]", "slices.overlaps[whim/api.RID]", "slices.overlaps[*whim/tree.node[string, whim/api.RID]]"], unfollowed := true, recurses := true, apart := false, narrowed := true }
def TreeLentUptoSaid : Prop := treeLentUptoRow.holds Try.pinned (OpenSpec.upto treeLentSpec)

end Rows
end Go.Proofs.Ytjmkfppnimengaa
