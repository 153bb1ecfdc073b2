/-
  No cell of these rows narrows 'for every input' (looked for: loops, veiled, ifaces, maps, wideKeys, modest, calm, conditions, laid).
  DERIVED. THE GIVEN ROWS OF THIS SEAT. 4 by the template 'for every input the law returns true; each argument reads behind the call as it read before'; 0 by the template 'total and deterministic' (their statements: YtpppphalacojjaaTotals.lean).
  GIVEN WITH THE SEED: the statements are not yours to turn. If you find one false, say at which input.
  Laid BY PROGRAM, IN A SANDBOX (cutbox-rows.mjs): the forced cells as the released guide's own fill.sh prints them over the translation b941f52f9abef1be… (all of the seat's roots in one cut). By AI agents, Wed Nov 11 2026. No macro, syntax, notation, axiom, sorry.
-/
import Derived.Test.YtpppphalacojjaaChecked
import GoSem.Claim
import GoSem.ClaimJoined
import GoSem.ClaimMapViews
import Derived.JoinedTies
import Derived.KernelRfl
namespace Go.Proofs.Ytpppphalacojjaa
/- THE CELL 'sum', in the pinned program and in every row, IS THE sha256 OF THE DUMP (.gsa) THAT YtpppphalacojjaaProg.lean LOADS. Nothing in Lean hashes anything: it is a label: what it is worth is what the hold of that sum in a sandbox is worth. -/
noncomputable def Try.pinned : Pinned := { name := "ytpppphalacojjaa", sum := "b941f52f9abef1be7d7a2155cc34ea88ebd34f604a53d79fa8433a9728a9e9ff", checked := Try.checked }
namespace Rows
def none {H : Type} : Left H := { results := [], args := [] }

/-- 'whimlaw22.PlanRight': WHATEVER THE INPUT: true; the input reads as it did. -/
def planRightSpec : ChangeSpec := { name := "planRight", fn := fun _ => fun
  | [d1, d2, d3, d4] => { results := [.lit (.bool true)], args := [d1, d2, d3, d4] }
  | _ => none }
def planRightRow : OpenClaim := { program := "ytpppphalacojjaa", sum := "b941f52f9abef1be7d7a2155cc34ea88ebd34f604a53d79fa8433a9728a9e9ff", func := "whim/whimlaw22.PlanRight", spec := "planRight", unfollowed := true, recurses := true, apart := false }
def PlanRightSaid : Prop := planRightRow.holds Try.pinned (OpenSpec.ofChange planRightSpec)

/-- ITS FALSE NEIGHBOUR: 'it returns false'. Refute it at one input. -/
def planRightWrong : ChangeSpec := { name := "planRight", fn := fun _ => fun
  | [d1, d2, d3, d4] => { results := [.lit (.bool false)], args := [d1, d2, d3, d4] }
  | _ => none }
def PlanRightWrongFalsely : Prop := planRightRow.holds Try.pinned (OpenSpec.ofChange planRightWrong)

/-- 'whimlaw22.PlanMoves': WHATEVER THE INPUT: true; the input reads as it did. -/
def planMovesSpec : ChangeSpec := { name := "planMoves", fn := fun _ => fun
  | [d] => { results := [.lit (.bool true)], args := [d] }
  | _ => none }
def planMovesRow : OpenClaim := { program := "ytpppphalacojjaa", sum := "b941f52f9abef1be7d7a2155cc34ea88ebd34f604a53d79fa8433a9728a9e9ff", func := "whim/whimlaw22.PlanMoves", spec := "planMoves", unfollowed := true, recurses := true, apart := false }
def PlanMovesSaid : Prop := planMovesRow.holds Try.pinned (OpenSpec.ofChange planMovesSpec)

/-- ITS FALSE NEIGHBOUR: 'it returns false'. Refute it at one input. -/
def planMovesWrong : ChangeSpec := { name := "planMoves", fn := fun _ => fun
  | [d] => { results := [.lit (.bool false)], args := [d] }
  | _ => none }
def PlanMovesWrongFalsely : Prop := planMovesRow.holds Try.pinned (OpenSpec.ofChange planMovesWrong)

/-- 'whimlaw22.PlanPlaces': WHATEVER THE INPUT: true; the input reads as it did. -/
def planPlacesSpec : ChangeSpec := { name := "planPlaces", fn := fun _ => fun
  | [] => { results := [.lit (.bool true)], args := [] }
  | _ => none }
def planPlacesRow : OpenClaim := { program := "ytpppphalacojjaa", sum := "b941f52f9abef1be7d7a2155cc34ea88ebd34f604a53d79fa8433a9728a9e9ff", func := "whim/whimlaw22.PlanPlaces", spec := "planPlaces", unfollowed := true, recurses := true, apart := false }
def PlanPlacesSaid : Prop := planPlacesRow.holds Try.pinned (OpenSpec.ofChange planPlacesSpec)

/-- ITS FALSE NEIGHBOUR: 'it returns false'. Refute it at one input. -/
def planPlacesWrong : ChangeSpec := { name := "planPlaces", fn := fun _ => fun
  | [] => { results := [.lit (.bool false)], args := [] }
  | _ => none }
def PlanPlacesWrongFalsely : Prop := planPlacesRow.holds Try.pinned (OpenSpec.ofChange planPlacesWrong)

/-- 'whimlaw22.PlanLeast': WHATEVER THE INPUT: true; the input reads as it did. -/
def planLeastSpec : ChangeSpec := { name := "planLeast", fn := fun _ => fun
  | [d1, d2, d3] => { results := [.lit (.bool true)], args := [d1, d2, d3] }
  | _ => none }
def planLeastRow : OpenClaim := { program := "ytpppphalacojjaa", sum := "b941f52f9abef1be7d7a2155cc34ea88ebd34f604a53d79fa8433a9728a9e9ff", func := "whim/whimlaw22.PlanLeast", spec := "planLeast", unfollowed := true, recurses := true, apart := false }
def PlanLeastSaid : Prop := planLeastRow.holds Try.pinned (OpenSpec.ofChange planLeastSpec)

/-- ITS FALSE NEIGHBOUR: 'it returns false'. Refute it at one input. -/
def planLeastWrong : ChangeSpec := { name := "planLeast", fn := fun _ => fun
  | [d1, d2, d3] => { results := [.lit (.bool false)], args := [d1, d2, d3] }
  | _ => none }
def PlanLeastWrongFalsely : Prop := planLeastRow.holds Try.pinned (OpenSpec.ofChange planLeastWrong)

/- THE SECOND FORM. 'bulk': how many values and letters a reading holds, each counted each time it is reached (what is shared counts as often as it is met; a slice's spare places count too). A statement '..UptoSaid' is the law's where the arguments, and the package variables that the reading takes, are together of bulk at most 1048576: NARROWER than '..Said'. Prove '..Said' where nothing that the law and all that it calls make is longer than what came in: it says more and counts as full. Else prove '..UptoSaid'. A law counts once. -/
mutual
def uptoBulk {H : Type} : DataW H → Nat
  | .lit (.string bytes) => bytes.length + 1
  | .lit _ => 1
  | .nil => 1
  | .ptr d => uptoBulk d + 1
  | .slice elems spare => uptoBulkAll elems + uptoBulkAll spare + 1
  | .agg parts => uptoBulkAll parts + 1
  | .iface _ d => uptoBulk d + 1
  | .map entries => uptoBulkEntries entries + 1
  | .held _ => 1
def uptoBulkAll {H : Type} : List (DataW H) → Nat
  | [] => 0
  | d :: r => uptoBulk d + uptoBulkAll r
def uptoBulkEntries {H : Type} : List (Lit × DataW H) → Nat
  | [] => 0
  | x :: r => uptoBulkEntry x + uptoBulkEntries r
def uptoBulkEntry {H : Type} : Lit × DataW H → Nat
  | (.string bytes, d) => bytes.length + uptoBulk d + 1
  | (_, d) => uptoBulk d + 1
 end
def uptoSmall : (H : Type) → List (DataW H) → Bool := fun _ ds => decide (uptoBulkAll ds ≤ 1048576)
def OpenSpec.upto (s : _root_.Go.ChangeSpec) : _root_.Go.OpenSpec := { _root_.Go.OpenSpec.ofChange s with cond := some uptoSmall }

/-- 'whimlaw22.PlanRight', WHERE WHAT IT READS IS OF BULK AT MOST 1048576: true; the input reads as it did. -/
def planRightUptoRow : OpenClaim := { program := "ytpppphalacojjaa", sum := "b941f52f9abef1be7d7a2155cc34ea88ebd34f604a53d79fa8433a9728a9e9ff", func := "whim/whimlaw22.PlanRight", spec := "planRight", unfollowed := true, recurses := true, apart := false, narrowed := true }
def PlanRightUptoSaid : Prop := planRightUptoRow.holds Try.pinned (OpenSpec.upto planRightSpec)

/-- 'whimlaw22.PlanMoves', WHERE WHAT IT READS IS OF BULK AT MOST 1048576: true; the input reads as it did. -/
def planMovesUptoRow : OpenClaim := { program := "ytpppphalacojjaa", sum := "b941f52f9abef1be7d7a2155cc34ea88ebd34f604a53d79fa8433a9728a9e9ff", func := "whim/whimlaw22.PlanMoves", spec := "planMoves", unfollowed := true, recurses := true, apart := false, narrowed := true }
def PlanMovesUptoSaid : Prop := planMovesUptoRow.holds Try.pinned (OpenSpec.upto planMovesSpec)

/-- 'whimlaw22.PlanPlaces', WHERE WHAT IT READS IS OF BULK AT MOST 1048576: true; the input reads as it did. -/
def planPlacesUptoRow : OpenClaim := { program := "ytpppphalacojjaa", sum := "b941f52f9abef1be7d7a2155cc34ea88ebd34f604a53d79fa8433a9728a9e9ff", func := "whim/whimlaw22.PlanPlaces", spec := "planPlaces", unfollowed := true, recurses := true, apart := false, narrowed := true }
def PlanPlacesUptoSaid : Prop := planPlacesUptoRow.holds Try.pinned (OpenSpec.upto planPlacesSpec)

/-- 'whimlaw22.PlanLeast', WHERE WHAT IT READS IS OF BULK AT MOST 1048576: true; the input reads as it did. -/
def planLeastUptoRow : OpenClaim := { program := "ytpppphalacojjaa", sum := "b941f52f9abef1be7d7a2155cc34ea88ebd34f604a53d79fa8433a9728a9e9ff", func := "whim/whimlaw22.PlanLeast", spec := "planLeast", unfollowed := true, recurses := true, apart := false, narrowed := true }
def PlanLeastUptoSaid : Prop := planLeastUptoRow.holds Try.pinned (OpenSpec.upto planLeastSpec)

end Rows
end Go.Proofs.Ytpppphalacojjaa
