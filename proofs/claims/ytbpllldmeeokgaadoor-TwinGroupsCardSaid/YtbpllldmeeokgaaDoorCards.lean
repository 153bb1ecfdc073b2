/-
  DERIVED. GIVEN WITH THE SEED: THE CARDS: each row of YtbpllldmeeokgaaDoorRows.lean that lists a variable, with what it lists TIED to the program's text (the seventh form; the later family's looks); each row that meets fmt, with fmt's text TOLD by the authors' own Lean function (tested against real Go, not proved from fmt's source: count such statements apart). THE CARD IS WHAT COUNTS. Prove the row's statement (the work); the ties are given (YtbpllldmeeokgaaDoorTie.lean); close each card by the builder's one call (the guide's Derived/Test/ToyasCard.lean, 'card_holds'). Laid BY PROGRAM, IN A SANDBOX (cutbox-door.mjs). By AI agents, Wed Nov 11 2026. No macro, syntax, notation, axiom, sorry.
-/
import Derived.Test.YtbpllldmeeokgaaDoorRows
import GoSem.ClaimSeven
namespace Go.Proofs.YtbpllldmeeokgaaDoor
namespace Rows

/-- THE TIED CARD OF 'whimlaw10.TwinAll'. -/
def twinAllCard : Claim7 := { stood := { row := twinAllRow, standIns := [], harness := (true, "2d4b60ca996e143f93c3bde69d3f5ef83572d14ca625c676a45f64cd5bacf64c"), looks := false }, kinds := [], alts := [], laidByText := true, laidKinds := [.data, .pinned], laidTests := true, laidLooks := .later }
def TwinAllCardSaid : Prop := Claim7.holds Tryd.pinned (.plain (OpenSpec.ofChange twinAllSpec)) twinAllCard

/-- THE TIED CARD OF 'whimlaw10.TwinOrder'. -/
def twinOrderCard : Claim7 := { stood := { row := twinOrderRow, standIns := [], harness := (true, "2d4b60ca996e143f93c3bde69d3f5ef83572d14ca625c676a45f64cd5bacf64c"), looks := false }, kinds := [], alts := [], laidByText := true, laidKinds := [.data, .pinned], laidTests := true, laidLooks := .later }
def TwinOrderCardSaid : Prop := Claim7.holds Tryd.pinned (.plain (OpenSpec.ofChange twinOrderSpec)) twinOrderCard

/-- THE TIED CARD OF 'whimlaw10.TwinForms'. -/
def twinFormsCard : Claim7 := { stood := { row := twinFormsRow, standIns := [], harness := (true, "2d4b60ca996e143f93c3bde69d3f5ef83572d14ca625c676a45f64cd5bacf64c"), looks := false }, kinds := [], alts := [], laidByText := true, laidKinds := [.data, .pinned], laidTests := true, laidLooks := .later }
def TwinFormsCardSaid : Prop := Claim7.holds Tryd.pinned (.plain (OpenSpec.ofChange twinFormsSpec)) twinFormsCard

/-- THE TIED CARD OF 'whimlaw10.TwinGroups'. -/
def twinGroupsCard : Claim7 := { stood := { row := twinGroupsRow, standIns := [], harness := (true, "2d4b60ca996e143f93c3bde69d3f5ef83572d14ca625c676a45f64cd5bacf64c"), looks := false }, kinds := [], alts := [], laidByText := true, laidKinds := [.data, .pinned], laidTests := true, laidLooks := .later }
def TwinGroupsCardSaid : Prop := Claim7.holds Tryd.pinned (.plain (OpenSpec.ofChange twinGroupsSpec)) twinGroupsCard

/-- THE SECOND FORM's CARD OF 'whimlaw10.TwinAll'. -/
def twinAllUptoCard : Claim7 := { stood := { row := twinAllUptoRow, standIns := [], harness := (true, "2d4b60ca996e143f93c3bde69d3f5ef83572d14ca625c676a45f64cd5bacf64c"), looks := false }, kinds := [], alts := [], laidByText := true, laidKinds := [.data, .pinned], laidTests := true, laidLooks := .later }
def TwinAllUptoCardSaid : Prop := Claim7.holds Tryd.pinned (.plain (OpenSpec.upto twinAllSpec)) twinAllUptoCard

/-- THE SECOND FORM's CARD OF 'whimlaw10.TwinOrder'. -/
def twinOrderUptoCard : Claim7 := { stood := { row := twinOrderUptoRow, standIns := [], harness := (true, "2d4b60ca996e143f93c3bde69d3f5ef83572d14ca625c676a45f64cd5bacf64c"), looks := false }, kinds := [], alts := [], laidByText := true, laidKinds := [.data, .pinned], laidTests := true, laidLooks := .later }
def TwinOrderUptoCardSaid : Prop := Claim7.holds Tryd.pinned (.plain (OpenSpec.upto twinOrderSpec)) twinOrderUptoCard

/-- THE SECOND FORM's CARD OF 'whimlaw10.TwinForms'. -/
def twinFormsUptoCard : Claim7 := { stood := { row := twinFormsUptoRow, standIns := [], harness := (true, "2d4b60ca996e143f93c3bde69d3f5ef83572d14ca625c676a45f64cd5bacf64c"), looks := false }, kinds := [], alts := [], laidByText := true, laidKinds := [.data, .pinned], laidTests := true, laidLooks := .later }
def TwinFormsUptoCardSaid : Prop := Claim7.holds Tryd.pinned (.plain (OpenSpec.upto twinFormsSpec)) twinFormsUptoCard

/-- THE SECOND FORM's CARD OF 'whimlaw10.TwinGroups'. -/
def twinGroupsUptoCard : Claim7 := { stood := { row := twinGroupsUptoRow, standIns := [], harness := (true, "2d4b60ca996e143f93c3bde69d3f5ef83572d14ca625c676a45f64cd5bacf64c"), looks := false }, kinds := [], alts := [], laidByText := true, laidKinds := [.data, .pinned], laidTests := true, laidLooks := .later }
def TwinGroupsUptoCardSaid : Prop := Claim7.holds Tryd.pinned (.plain (OpenSpec.upto twinGroupsSpec)) twinGroupsUptoCard
end Rows
end Go.Proofs.YtbpllldmeeokgaaDoor
