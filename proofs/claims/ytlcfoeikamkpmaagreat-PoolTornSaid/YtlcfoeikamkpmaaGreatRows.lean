/-
  No cell of these rows narrows 'for every input' (looked for: loops, veiled, ifaces, maps, wideKeys, modest, calm, conditions, laid).
  DERIVED. THE GIVEN ROWS OF THIS SEAT. 6 by the template 'for every input the law returns true; each argument reads behind the call as it read before'; 0 by the template 'total and deterministic' (their statements: YtlcfoeikamkpmaaGreatTotals.lean).
  GIVEN WITH THE SEED: the statements are not yours to turn. If you find one false, say at which input.
  Laid BY PROGRAM, IN A SANDBOX (cutbox-rows.mjs): the forced cells as the released guide's own fill.sh prints them over the translation 527dc1b11b4d8141… (all of the seat's roots in one cut). By AI agents, Wed Nov 11 2026. No macro, syntax, notation, axiom, sorry.
-/
import Derived.Test.YtlcfoeikamkpmaaGreatChecked
import GoSem.Claim
import GoSem.ClaimJoined
import GoSem.ClaimMapViews
import Derived.JoinedTies
import Derived.KernelRfl
namespace Go.Proofs.YtlcfoeikamkpmaaGreat
/- THE CELL 'sum', in the pinned program and in every row, IS THE sha256 OF THE DUMP (.gsa) THAT YtlcfoeikamkpmaaGreatProg.lean LOADS. Nothing in Lean hashes anything: it is a label: what it is worth is what the hold of that sum in a sandbox is worth. -/
noncomputable def Tryz.pinned : Pinned := { name := "ytlcfoeikamkpmaagreat", sum := "527dc1b11b4d81413823d7767f290f359b286be7291fbed6709f2e14b707992b", checked := Tryz.checked }
namespace Rows
def none {H : Type} : Left H := { results := [], args := [] }

/-- 'whimlaw8.PoolTorn': WHATEVER THE INPUT: true; the input reads as it did. -/
def poolTornSpec : ChangeSpec := { name := "poolTorn", fn := fun _ => fun
  | [d1, d2, d3, d4] => { results := [.lit (.bool true)], args := [d1, d2, d3, d4] }
  | _ => none }
def poolTornRow : OpenClaim := { program := "ytlcfoeikamkpmaagreat", sum := "527dc1b11b4d81413823d7767f290f359b286be7291fbed6709f2e14b707992b", func := "whim/whimlaw8.PoolTorn", spec := "poolTorn", inPlace := ["internal/bytealg.Count", "internal/bytealg.IndexByte", "internal/bytealg.Index"], unfollowed := true, recurses := true, named := ["internal/bytealg.MaxLen"], apart := false }
def PoolTornSaid : Prop := poolTornRow.holds Tryz.pinned (OpenSpec.ofChange poolTornSpec)

/-- ITS FALSE NEIGHBOUR: 'it returns false'. Refute it at one input. -/
def poolTornWrong : ChangeSpec := { name := "poolTorn", fn := fun _ => fun
  | [d1, d2, d3, d4] => { results := [.lit (.bool false)], args := [d1, d2, d3, d4] }
  | _ => none }
def PoolTornWrongFalsely : Prop := poolTornRow.holds Tryz.pinned (OpenSpec.ofChange poolTornWrong)

/-- 'whimlaw8.PoolNone': WHATEVER THE INPUT: true; the input reads as it did. -/
def poolNoneSpec : ChangeSpec := { name := "poolNone", fn := fun _ => fun
  | [d] => { results := [.lit (.bool true)], args := [d] }
  | _ => none }
def poolNoneRow : OpenClaim := { program := "ytlcfoeikamkpmaagreat", sum := "527dc1b11b4d81413823d7767f290f359b286be7291fbed6709f2e14b707992b", func := "whim/whimlaw8.PoolNone", spec := "poolNone", inPlace := ["internal/bytealg.Count", "internal/bytealg.IndexByte", "internal/bytealg.Index"], unfollowed := true, recurses := true, named := ["internal/bytealg.MaxLen"], apart := false }
def PoolNoneSaid : Prop := poolNoneRow.holds Tryz.pinned (OpenSpec.ofChange poolNoneSpec)

/-- ITS FALSE NEIGHBOUR: 'it returns false'. Refute it at one input. -/
def poolNoneWrong : ChangeSpec := { name := "poolNone", fn := fun _ => fun
  | [d] => { results := [.lit (.bool false)], args := [d] }
  | _ => none }
def PoolNoneWrongFalsely : Prop := poolNoneRow.holds Tryz.pinned (OpenSpec.ofChange poolNoneWrong)

/-- 'whimlaw8.PoolSame': WHATEVER THE INPUT: true; the input reads as it did. -/
def poolSameSpec : ChangeSpec := { name := "poolSame", fn := fun _ => fun
  | [d1, d2] => { results := [.lit (.bool true)], args := [d1, d2] }
  | _ => none }
def poolSameRow : OpenClaim := { program := "ytlcfoeikamkpmaagreat", sum := "527dc1b11b4d81413823d7767f290f359b286be7291fbed6709f2e14b707992b", func := "whim/whimlaw8.PoolSame", spec := "poolSame", inPlace := ["internal/bytealg.Count", "internal/bytealg.IndexByte", "internal/bytealg.Index"], unfollowed := true, recurses := true, named := ["internal/bytealg.MaxLen"], apart := false }
def PoolSameSaid : Prop := poolSameRow.holds Tryz.pinned (OpenSpec.ofChange poolSameSpec)

/-- ITS FALSE NEIGHBOUR: 'it returns false'. Refute it at one input. -/
def poolSameWrong : ChangeSpec := { name := "poolSame", fn := fun _ => fun
  | [d1, d2] => { results := [.lit (.bool false)], args := [d1, d2] }
  | _ => none }
def PoolSameWrongFalsely : Prop := poolSameRow.holds Tryz.pinned (OpenSpec.ofChange poolSameWrong)

/-- 'whimlaw8.PoolRec': WHATEVER THE INPUT: true; the input reads as it did. -/
def poolRecSpec : ChangeSpec := { name := "poolRec", fn := fun _ => fun
  | [d1, d2] => { results := [.lit (.bool true)], args := [d1, d2] }
  | _ => none }
def poolRecRow : OpenClaim := { program := "ytlcfoeikamkpmaagreat", sum := "527dc1b11b4d81413823d7767f290f359b286be7291fbed6709f2e14b707992b", func := "whim/whimlaw8.PoolRec", spec := "poolRec", inPlace := ["internal/bytealg.Count", "internal/bytealg.IndexByte", "internal/bytealg.Index"], unfollowed := true, recurses := true, named := ["internal/bytealg.MaxLen"], apart := false }
def PoolRecSaid : Prop := poolRecRow.holds Tryz.pinned (OpenSpec.ofChange poolRecSpec)

/-- ITS FALSE NEIGHBOUR: 'it returns false'. Refute it at one input. -/
def poolRecWrong : ChangeSpec := { name := "poolRec", fn := fun _ => fun
  | [d1, d2] => { results := [.lit (.bool false)], args := [d1, d2] }
  | _ => none }
def PoolRecWrongFalsely : Prop := poolRecRow.holds Tryz.pinned (OpenSpec.ofChange poolRecWrong)

/-- 'whimlaw8.PoolReads': WHATEVER THE INPUT: true; the input reads as it did. -/
def poolReadsSpec : ChangeSpec := { name := "poolReads", fn := fun _ => fun
  | [d1, d2] => { results := [.lit (.bool true)], args := [d1, d2] }
  | _ => none }
def poolReadsRow : OpenClaim := { program := "ytlcfoeikamkpmaagreat", sum := "527dc1b11b4d81413823d7767f290f359b286be7291fbed6709f2e14b707992b", func := "whim/whimlaw8.PoolReads", spec := "poolReads", inPlace := ["internal/bytealg.Count", "internal/bytealg.IndexByte", "internal/bytealg.Index"], unfollowed := true, recurses := true, named := ["internal/bytealg.MaxLen"], apart := false }
def PoolReadsSaid : Prop := poolReadsRow.holds Tryz.pinned (OpenSpec.ofChange poolReadsSpec)

/-- ITS FALSE NEIGHBOUR: 'it returns false'. Refute it at one input. -/
def poolReadsWrong : ChangeSpec := { name := "poolReads", fn := fun _ => fun
  | [d1, d2] => { results := [.lit (.bool false)], args := [d1, d2] }
  | _ => none }
def PoolReadsWrongFalsely : Prop := poolReadsRow.holds Tryz.pinned (OpenSpec.ofChange poolReadsWrong)

/-- 'whimlaw8.PoolAhead': WHATEVER THE INPUT: true; the input reads as it did. -/
def poolAheadSpec : ChangeSpec := { name := "poolAhead", fn := fun _ => fun
  | [d1, d2, d3] => { results := [.lit (.bool true)], args := [d1, d2, d3] }
  | _ => none }
def poolAheadRow : OpenClaim := { program := "ytlcfoeikamkpmaagreat", sum := "527dc1b11b4d81413823d7767f290f359b286be7291fbed6709f2e14b707992b", func := "whim/whimlaw8.PoolAhead", spec := "poolAhead", inPlace := ["internal/bytealg.Count", "internal/bytealg.IndexByte", "internal/bytealg.Index"], unfollowed := true, recurses := true, named := ["internal/bytealg.MaxLen"], apart := false }
def PoolAheadSaid : Prop := poolAheadRow.holds Tryz.pinned (OpenSpec.ofChange poolAheadSpec)

/-- ITS FALSE NEIGHBOUR: 'it returns false'. Refute it at one input. -/
def poolAheadWrong : ChangeSpec := { name := "poolAhead", fn := fun _ => fun
  | [d1, d2, d3] => { results := [.lit (.bool false)], args := [d1, d2, d3] }
  | _ => none }
def PoolAheadWrongFalsely : Prop := poolAheadRow.holds Tryz.pinned (OpenSpec.ofChange poolAheadWrong)

/- THE SECOND FORM. 'bulk': how many values and letters a reading holds, each counted each time it is reached (what is shared counts as often as it is met; a slice's spare places count too). A statement '..UptoSaid' is the law's where the arguments, and the package variables that the reading takes, are together of bulk at most 1048576: NARROWER than '..Said'. Prove '..Said' where nothing that the law and all that it calls make is longer than what came in: it says more and counts as full. Else prove '..UptoSaid'. A law counts once. -/
mutual
def uptoBulk {H : Type} : DataW H → Nat
  | .lit (.string bytes) => bytes.length + 1
  | .lit _ => 1
  | .nil => 1
  | .ptr d => uptoBulk d + 1
  | .slice elems spare => uptoBulkAll elems + uptoBulkAll spare + 1
  | .agg parts => uptoBulkAll parts + 1
  | .iface _ d => uptoBulk d + 1
  | .map entries => uptoBulkEntries entries + 1
  | .held _ => 1
def uptoBulkAll {H : Type} : List (DataW H) → Nat
  | [] => 0
  | d :: r => uptoBulk d + uptoBulkAll r
def uptoBulkEntries {H : Type} : List (Lit × DataW H) → Nat
  | [] => 0
  | x :: r => uptoBulkEntry x + uptoBulkEntries r
def uptoBulkEntry {H : Type} : Lit × DataW H → Nat
  | (.string bytes, d) => bytes.length + uptoBulk d + 1
  | (_, d) => uptoBulk d + 1
 end
def uptoSmall : (H : Type) → List (DataW H) → Bool := fun _ ds => decide (uptoBulkAll ds ≤ 1048576)
def OpenSpec.upto (s : _root_.Go.ChangeSpec) : _root_.Go.OpenSpec := { _root_.Go.OpenSpec.ofChange s with cond := some uptoSmall }

/-- 'whimlaw8.PoolTorn', WHERE WHAT IT READS IS OF BULK AT MOST 1048576: true; the input reads as it did. -/
def poolTornUptoRow : OpenClaim := { program := "ytlcfoeikamkpmaagreat", sum := "527dc1b11b4d81413823d7767f290f359b286be7291fbed6709f2e14b707992b", func := "whim/whimlaw8.PoolTorn", spec := "poolTorn", inPlace := ["internal/bytealg.Count", "internal/bytealg.IndexByte", "internal/bytealg.Index"], unfollowed := true, recurses := true, named := ["internal/bytealg.MaxLen"], apart := false, narrowed := true }
def PoolTornUptoSaid : Prop := poolTornUptoRow.holds Tryz.pinned (OpenSpec.upto poolTornSpec)

/-- 'whimlaw8.PoolNone', WHERE WHAT IT READS IS OF BULK AT MOST 1048576: true; the input reads as it did. -/
def poolNoneUptoRow : OpenClaim := { program := "ytlcfoeikamkpmaagreat", sum := "527dc1b11b4d81413823d7767f290f359b286be7291fbed6709f2e14b707992b", func := "whim/whimlaw8.PoolNone", spec := "poolNone", inPlace := ["internal/bytealg.Count", "internal/bytealg.IndexByte", "internal/bytealg.Index"], unfollowed := true, recurses := true, named := ["internal/bytealg.MaxLen"], apart := false, narrowed := true }
def PoolNoneUptoSaid : Prop := poolNoneUptoRow.holds Tryz.pinned (OpenSpec.upto poolNoneSpec)

/-- 'whimlaw8.PoolSame', WHERE WHAT IT READS IS OF BULK AT MOST 1048576: true; the input reads as it did. -/
def poolSameUptoRow : OpenClaim := { program := "ytlcfoeikamkpmaagreat", sum := "527dc1b11b4d81413823d7767f290f359b286be7291fbed6709f2e14b707992b", func := "whim/whimlaw8.PoolSame", spec := "poolSame", inPlace := ["internal/bytealg.Count", "internal/bytealg.IndexByte", "internal/bytealg.Index"], unfollowed := true, recurses := true, named := ["internal/bytealg.MaxLen"], apart := false, narrowed := true }
def PoolSameUptoSaid : Prop := poolSameUptoRow.holds Tryz.pinned (OpenSpec.upto poolSameSpec)

/-- 'whimlaw8.PoolRec', WHERE WHAT IT READS IS OF BULK AT MOST 1048576: true; the input reads as it did. -/
def poolRecUptoRow : OpenClaim := { program := "ytlcfoeikamkpmaagreat", sum := "527dc1b11b4d81413823d7767f290f359b286be7291fbed6709f2e14b707992b", func := "whim/whimlaw8.PoolRec", spec := "poolRec", inPlace := ["internal/bytealg.Count", "internal/bytealg.IndexByte", "internal/bytealg.Index"], unfollowed := true, recurses := true, named := ["internal/bytealg.MaxLen"], apart := false, narrowed := true }
def PoolRecUptoSaid : Prop := poolRecUptoRow.holds Tryz.pinned (OpenSpec.upto poolRecSpec)

/-- 'whimlaw8.PoolReads', WHERE WHAT IT READS IS OF BULK AT MOST 1048576: true; the input reads as it did. -/
def poolReadsUptoRow : OpenClaim := { program := "ytlcfoeikamkpmaagreat", sum := "527dc1b11b4d81413823d7767f290f359b286be7291fbed6709f2e14b707992b", func := "whim/whimlaw8.PoolReads", spec := "poolReads", inPlace := ["internal/bytealg.Count", "internal/bytealg.IndexByte", "internal/bytealg.Index"], unfollowed := true, recurses := true, named := ["internal/bytealg.MaxLen"], apart := false, narrowed := true }
def PoolReadsUptoSaid : Prop := poolReadsUptoRow.holds Tryz.pinned (OpenSpec.upto poolReadsSpec)

/-- 'whimlaw8.PoolAhead', WHERE WHAT IT READS IS OF BULK AT MOST 1048576: true; the input reads as it did. -/
def poolAheadUptoRow : OpenClaim := { program := "ytlcfoeikamkpmaagreat", sum := "527dc1b11b4d81413823d7767f290f359b286be7291fbed6709f2e14b707992b", func := "whim/whimlaw8.PoolAhead", spec := "poolAhead", inPlace := ["internal/bytealg.Count", "internal/bytealg.IndexByte", "internal/bytealg.Index"], unfollowed := true, recurses := true, named := ["internal/bytealg.MaxLen"], apart := false, narrowed := true }
def PoolAheadUptoSaid : Prop := poolAheadUptoRow.holds Tryz.pinned (OpenSpec.upto poolAheadSpec)

end Rows
end Go.Proofs.YtlcfoeikamkpmaaGreat
