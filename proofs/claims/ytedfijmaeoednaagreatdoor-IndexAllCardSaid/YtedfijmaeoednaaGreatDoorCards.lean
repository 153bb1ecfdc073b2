/-
  DERIVED. GIVEN WITH THE SEED: THE CARDS: each row of YtedfijmaeoednaaGreatDoorRows.lean that lists a variable, with what it lists TIED to the program's text (the seventh form; the later family's looks); each row that meets fmt, with fmt's text TOLD by the authors' own Lean function (tested against real Go, not proved from fmt's source: count such statements apart). THE CARD IS WHAT COUNTS. Prove the row's statement (the work); the ties are given (YtedfijmaeoednaaGreatDoorTie.lean); close each card by the builder's one call (the guide's Derived/Test/ToyasCard.lean, 'card_holds'). Laid BY PROGRAM, IN A SANDBOX (cutbox-door.mjs). By AI agents, Wed Nov 11 2026. No macro, syntax, notation, axiom, sorry.
-/
import Derived.Test.YtedfijmaeoednaaGreatDoorRows
import GoSem.ClaimSeven
namespace Go.Proofs.YtedfijmaeoednaaGreatDoor
namespace Rows

/-- THE TIED CARD OF 'whimlaw25.IndexAll'. -/
def indexAllCard : Claim7 := { stood := { row := indexAllRow, standIns := [], harness := (true, "9b9d3b08995f7c2dbcf74342176a7f37ff497f98a7df4448a1aa10088659cec0"), looks := false }, kinds := [], alts := [], laidByText := true, laidKinds := [.data, .pinned], laidTests := true, laidLooks := .later }
def IndexAllCardSaid : Prop := Claim7.holds Tryz.pinned (.plain (OpenSpec.ofChange indexAllSpec)) indexAllCard

/-- THE TIED CARD OF 'whimlaw25.IndexBoth'. -/
def indexBothCard : Claim7 := { stood := { row := indexBothRow, standIns := [], harness := (true, "9b9d3b08995f7c2dbcf74342176a7f37ff497f98a7df4448a1aa10088659cec0"), looks := false }, kinds := [], alts := [], laidByText := true, laidKinds := [.data, .pinned], laidTests := true, laidLooks := .later }
def IndexBothCardSaid : Prop := Claim7.holds Tryz.pinned (.plain (OpenSpec.ofChange indexBothSpec)) indexBothCard

/-- THE TIED CARD OF 'whimlaw25.IndexMoves'. -/
def indexMovesCard : Claim7 := { stood := { row := indexMovesRow, standIns := [], harness := (true, "9b9d3b08995f7c2dbcf74342176a7f37ff497f98a7df4448a1aa10088659cec0"), looks := false }, kinds := [], alts := [], laidByText := true, laidKinds := [.data, .pinned], laidTests := true, laidLooks := .later }
def IndexMovesCardSaid : Prop := Claim7.holds Tryz.pinned (.plain (OpenSpec.ofChange indexMovesSpec)) indexMovesCard

/-- THE SECOND FORM's CARD OF 'whimlaw25.IndexAll'. -/
def indexAllUptoCard : Claim7 := { stood := { row := indexAllUptoRow, standIns := [], harness := (true, "9b9d3b08995f7c2dbcf74342176a7f37ff497f98a7df4448a1aa10088659cec0"), looks := false }, kinds := [], alts := [], laidByText := true, laidKinds := [.data, .pinned], laidTests := true, laidLooks := .later }
def IndexAllUptoCardSaid : Prop := Claim7.holds Tryz.pinned (.plain (OpenSpec.upto indexAllSpec)) indexAllUptoCard

/-- THE SECOND FORM's CARD OF 'whimlaw25.IndexBoth'. -/
def indexBothUptoCard : Claim7 := { stood := { row := indexBothUptoRow, standIns := [], harness := (true, "9b9d3b08995f7c2dbcf74342176a7f37ff497f98a7df4448a1aa10088659cec0"), looks := false }, kinds := [], alts := [], laidByText := true, laidKinds := [.data, .pinned], laidTests := true, laidLooks := .later }
def IndexBothUptoCardSaid : Prop := Claim7.holds Tryz.pinned (.plain (OpenSpec.upto indexBothSpec)) indexBothUptoCard

/-- THE SECOND FORM's CARD OF 'whimlaw25.IndexMoves'. -/
def indexMovesUptoCard : Claim7 := { stood := { row := indexMovesUptoRow, standIns := [], harness := (true, "9b9d3b08995f7c2dbcf74342176a7f37ff497f98a7df4448a1aa10088659cec0"), looks := false }, kinds := [], alts := [], laidByText := true, laidKinds := [.data, .pinned], laidTests := true, laidLooks := .later }
def IndexMovesUptoCardSaid : Prop := Claim7.holds Tryz.pinned (.plain (OpenSpec.upto indexMovesSpec)) indexMovesUptoCard
end Rows
end Go.Proofs.YtedfijmaeoednaaGreatDoor
