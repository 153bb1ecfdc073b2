/-
  No cell of these rows narrows 'for every input' (looked for: loops, veiled, ifaces, maps, wideKeys, modest, calm, conditions, laid).
  DERIVED. THE GIVEN ROWS OF THIS SEAT. 3 by the template 'for every input the law returns true; each argument reads behind the call as it read before'; 0 by the template 'total and deterministic' (their statements: YtojkggppcmdepaaGreatTotals.lean).
  GIVEN WITH THE SEED: the statements are not yours to turn. If you find one false, say at which input.
  Laid BY PROGRAM, IN A SANDBOX (cutbox-rows.mjs): the forced cells as the released guide's own fill.sh prints them over the translation 325ee5e7555195a4… (all of the seat's roots in one cut). By AI agents, Wed Nov 11 2026. No macro, syntax, notation, axiom, sorry.
-/
import Derived.Test.YtojkggppcmdepaaGreatChecked
import GoSem.Claim
import GoSem.ClaimJoined
import GoSem.ClaimMapViews
import Derived.JoinedTies
import Derived.KernelRfl
namespace Go.Proofs.YtojkggppcmdepaaGreat
/- THE CELL 'sum', in the pinned program and in every row, IS THE sha256 OF THE DUMP (.gsa) THAT YtojkggppcmdepaaGreatProg.lean LOADS. Nothing in Lean hashes anything: it is a label: what it is worth is what the hold of that sum in a sandbox is worth. -/
noncomputable def Tryz.pinned : Pinned := { name := "ytojkggppcmdepaagreat", sum := "325ee5e7555195a4efa89f5ba5821175d36388f4ee7e117281092cb2e9f9caa1", checked := Tryz.checked }
namespace Rows
def none {H : Type} : Left H := { results := [], args := [] }

/-- 'whimlaw6.TrailScans': WHATEVER THE INPUT: true; the input reads as it did. -/
def trailScansSpec : ChangeSpec := { name := "trailScans", fn := fun _ => fun
  | [d1, d2, d3, d4] => { results := [.lit (.bool true)], args := [d1, d2, d3, d4] }
  | _ => none }
def trailScansRow : OpenClaim := { program := "ytojkggppcmdepaagreat", sum := "325ee5e7555195a4efa89f5ba5821175d36388f4ee7e117281092cb2e9f9caa1", func := "whim/whimlaw6.TrailScans", spec := "trailScans", unfollowed := true, recurses := true, apart := false }
def TrailScansSaid : Prop := trailScansRow.holds Tryz.pinned (OpenSpec.ofChange trailScansSpec)

/-- ITS FALSE NEIGHBOUR: 'it returns false'. Refute it at one input. -/
def trailScansWrong : ChangeSpec := { name := "trailScans", fn := fun _ => fun
  | [d1, d2, d3, d4] => { results := [.lit (.bool false)], args := [d1, d2, d3, d4] }
  | _ => none }
def TrailScansWrongFalsely : Prop := trailScansRow.holds Tryz.pinned (OpenSpec.ofChange trailScansWrong)

/-- 'whimlaw6.TrailAll': WHATEVER THE INPUT: true; the input reads as it did. -/
def trailAllSpec : ChangeSpec := { name := "trailAll", fn := fun _ => fun
  | [d1, d2] => { results := [.lit (.bool true)], args := [d1, d2] }
  | _ => none }
def trailAllRow : OpenClaim := { program := "ytojkggppcmdepaagreat", sum := "325ee5e7555195a4efa89f5ba5821175d36388f4ee7e117281092cb2e9f9caa1", func := "whim/whimlaw6.TrailAll", spec := "trailAll", unfollowed := true, recurses := true, apart := false }
def TrailAllSaid : Prop := trailAllRow.holds Tryz.pinned (OpenSpec.ofChange trailAllSpec)

/-- ITS FALSE NEIGHBOUR: 'it returns false'. Refute it at one input. -/
def trailAllWrong : ChangeSpec := { name := "trailAll", fn := fun _ => fun
  | [d1, d2] => { results := [.lit (.bool false)], args := [d1, d2] }
  | _ => none }
def TrailAllWrongFalsely : Prop := trailAllRow.holds Tryz.pinned (OpenSpec.ofChange trailAllWrong)

/-- 'whimlaw6.TrailKeeps': WHATEVER THE INPUT: true; the input reads as it did. -/
def trailKeepsSpec : ChangeSpec := { name := "trailKeeps", fn := fun _ => fun
  | [d1, d2, d3, d4, d5] => { results := [.lit (.bool true)], args := [d1, d2, d3, d4, d5] }
  | _ => none }
def trailKeepsRow : OpenClaim := { program := "ytojkggppcmdepaagreat", sum := "325ee5e7555195a4efa89f5ba5821175d36388f4ee7e117281092cb2e9f9caa1", func := "whim/whimlaw6.TrailKeeps", spec := "trailKeeps", unfollowed := true, recurses := true, apart := false }
def TrailKeepsSaid : Prop := trailKeepsRow.holds Tryz.pinned (OpenSpec.ofChange trailKeepsSpec)

/-- ITS FALSE NEIGHBOUR: 'it returns false'. Refute it at one input. -/
def trailKeepsWrong : ChangeSpec := { name := "trailKeeps", fn := fun _ => fun
  | [d1, d2, d3, d4, d5] => { results := [.lit (.bool false)], args := [d1, d2, d3, d4, d5] }
  | _ => none }
def TrailKeepsWrongFalsely : Prop := trailKeepsRow.holds Tryz.pinned (OpenSpec.ofChange trailKeepsWrong)

/- THE SECOND FORM. 'bulk': how many values and letters a reading holds, each counted each time it is reached (what is shared counts as often as it is met; a slice's spare places count too). A statement '..UptoSaid' is the law's where the arguments, and the package variables that the reading takes, are together of bulk at most 1048576: NARROWER than '..Said'. Prove '..Said' where nothing that the law and all that it calls make is longer than what came in: it says more and counts as full. Else prove '..UptoSaid'. A law counts once. -/
mutual
def uptoBulk {H : Type} : DataW H → Nat
  | .lit (.string bytes) => bytes.length + 1
  | .lit _ => 1
  | .nil => 1
  | .ptr d => uptoBulk d + 1
  | .slice elems spare => uptoBulkAll elems + uptoBulkAll spare + 1
  | .agg parts => uptoBulkAll parts + 1
  | .iface _ d => uptoBulk d + 1
  | .map entries => uptoBulkEntries entries + 1
  | .held _ => 1
def uptoBulkAll {H : Type} : List (DataW H) → Nat
  | [] => 0
  | d :: r => uptoBulk d + uptoBulkAll r
def uptoBulkEntries {H : Type} : List (Lit × DataW H) → Nat
  | [] => 0
  | x :: r => uptoBulkEntry x + uptoBulkEntries r
def uptoBulkEntry {H : Type} : Lit × DataW H → Nat
  | (.string bytes, d) => bytes.length + uptoBulk d + 1
  | (_, d) => uptoBulk d + 1
 end
def uptoSmall : (H : Type) → List (DataW H) → Bool := fun _ ds => decide (uptoBulkAll ds ≤ 1048576)
def OpenSpec.upto (s : _root_.Go.ChangeSpec) : _root_.Go.OpenSpec := { _root_.Go.OpenSpec.ofChange s with cond := some uptoSmall }

/-- 'whimlaw6.TrailScans', WHERE WHAT IT READS IS OF BULK AT MOST 1048576: true; the input reads as it did. -/
def trailScansUptoRow : OpenClaim := { program := "ytojkggppcmdepaagreat", sum := "325ee5e7555195a4efa89f5ba5821175d36388f4ee7e117281092cb2e9f9caa1", func := "whim/whimlaw6.TrailScans", spec := "trailScans", unfollowed := true, recurses := true, apart := false, narrowed := true }
def TrailScansUptoSaid : Prop := trailScansUptoRow.holds Tryz.pinned (OpenSpec.upto trailScansSpec)

/-- 'whimlaw6.TrailAll', WHERE WHAT IT READS IS OF BULK AT MOST 1048576: true; the input reads as it did. -/
def trailAllUptoRow : OpenClaim := { program := "ytojkggppcmdepaagreat", sum := "325ee5e7555195a4efa89f5ba5821175d36388f4ee7e117281092cb2e9f9caa1", func := "whim/whimlaw6.TrailAll", spec := "trailAll", unfollowed := true, recurses := true, apart := false, narrowed := true }
def TrailAllUptoSaid : Prop := trailAllUptoRow.holds Tryz.pinned (OpenSpec.upto trailAllSpec)

/-- 'whimlaw6.TrailKeeps', WHERE WHAT IT READS IS OF BULK AT MOST 1048576: true; the input reads as it did. -/
def trailKeepsUptoRow : OpenClaim := { program := "ytojkggppcmdepaagreat", sum := "325ee5e7555195a4efa89f5ba5821175d36388f4ee7e117281092cb2e9f9caa1", func := "whim/whimlaw6.TrailKeeps", spec := "trailKeeps", unfollowed := true, recurses := true, apart := false, narrowed := true }
def TrailKeepsUptoSaid : Prop := trailKeepsUptoRow.holds Tryz.pinned (OpenSpec.upto trailKeepsSpec)

end Rows
end Go.Proofs.YtojkggppcmdepaaGreat
