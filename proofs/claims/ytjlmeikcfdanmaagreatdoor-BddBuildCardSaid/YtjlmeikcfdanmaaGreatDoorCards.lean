/-
  DERIVED. GIVEN WITH THE SEED: THE CARDS: each row of YtjlmeikcfdanmaaGreatDoorRows.lean that lists a variable, with what it lists TIED to the program's text (the seventh form; the later family's looks); each row that meets fmt, with fmt's text TOLD by the authors' own Lean function (tested against real Go, not proved from fmt's source: count such statements apart). THE CARD IS WHAT COUNTS. Prove the row's statement (the work); the ties are given (YtjlmeikcfdanmaaGreatDoorTie.lean); close each card by the builder's one call (the guide's Derived/Test/ToyasCard.lean, 'card_holds'). Laid BY PROGRAM, IN A SANDBOX (cutbox-door.mjs). By AI agents, Wed Nov 11 2026. No macro, syntax, notation, axiom, sorry.
-/
import Derived.Test.YtjlmeikcfdanmaaGreatDoorRows
import GoSem.ClaimSeven
namespace Go.Proofs.YtjlmeikcfdanmaaGreatDoor
namespace Rows

/-- THE TIED CARD OF 'lineagelaw11.BddOperations'. -/
def bddOperationsCard : Claim7 := { stood := { row := bddOperationsRow, standIns := [], harness := (true, "9991faf1e46fd328a4b66f75ff9b3b8a0c34187670280177c121cf7b963e3a03"), looks := false }, kinds := [], alts := [], laidByText := true, laidKinds := [.data, .data, .data], laidTests := true, laidLooks := .later }
def BddOperationsCardSaid : Prop := Claim7.holds Tryz.pinned (.plain (OpenSpec.ofChange bddOperationsSpec)) bddOperationsCard

/-- THE TIED CARD OF 'lineagelaw11.BddBuild'. -/
def bddBuildCard : Claim7 := { stood := { row := bddBuildRow, standIns := [], harness := (true, "9991faf1e46fd328a4b66f75ff9b3b8a0c34187670280177c121cf7b963e3a03"), looks := false }, kinds := [], alts := [], laidByText := true, laidKinds := [.data, .data, .data], laidTests := true, laidLooks := .later }
def BddBuildCardSaid : Prop := Claim7.holds Tryz.pinned (.plain (OpenSpec.ofChange bddBuildSpec)) bddBuildCard

/-- THE TIED CARD OF 'lineagelaw11.BddValid'. -/
def bddValidCard : Claim7 := { stood := { row := bddValidRow, standIns := [], harness := (true, "9991faf1e46fd328a4b66f75ff9b3b8a0c34187670280177c121cf7b963e3a03"), looks := false }, kinds := [], alts := [], laidByText := true, laidKinds := [.data, .data, .data], laidTests := true, laidLooks := .later }
def BddValidCardSaid : Prop := Claim7.holds Tryz.pinned (.plain (OpenSpec.ofChange bddValidSpec)) bddValidCard

/-- THE TIED CARD OF 'lineagelaw11.BddModels'. -/
def bddModelsCard : Claim7 := { stood := { row := bddModelsRow, standIns := [], harness := (true, "9991faf1e46fd328a4b66f75ff9b3b8a0c34187670280177c121cf7b963e3a03"), looks := false }, kinds := [], alts := [], laidByText := true, laidKinds := [.data, .data, .data], laidTests := true, laidLooks := .later }
def BddModelsCardSaid : Prop := Claim7.holds Tryz.pinned (.plain (OpenSpec.ofChange bddModelsSpec)) bddModelsCard

/-- THE TIED CARD OF 'lineagelaw11.BddCanonical'. -/
def bddCanonicalCard : Claim7 := { stood := { row := bddCanonicalRow, standIns := [], harness := (true, "9991faf1e46fd328a4b66f75ff9b3b8a0c34187670280177c121cf7b963e3a03"), looks := false }, kinds := [], alts := [], laidByText := true, laidKinds := [.data, .data, .data], laidTests := true, laidLooks := .later }
def BddCanonicalCardSaid : Prop := Claim7.holds Tryz.pinned (.plain (OpenSpec.ofChange bddCanonicalSpec)) bddCanonicalCard

/-- THE TIED CARD OF 'lineagelaw11.BddBoolean'. -/
def bddBooleanCard : Claim7 := { stood := { row := bddBooleanRow, standIns := [], harness := (true, "9991faf1e46fd328a4b66f75ff9b3b8a0c34187670280177c121cf7b963e3a03"), looks := false }, kinds := [], alts := [], laidByText := true, laidKinds := [.data, .data, .data], laidTests := true, laidLooks := .later }
def BddBooleanCardSaid : Prop := Claim7.holds Tryz.pinned (.plain (OpenSpec.ofChange bddBooleanSpec)) bddBooleanCard

/-- THE TIED CARD OF 'lineagelaw11.BddRestrict'. -/
def bddRestrictCard : Claim7 := { stood := { row := bddRestrictRow, standIns := [], harness := (true, "9991faf1e46fd328a4b66f75ff9b3b8a0c34187670280177c121cf7b963e3a03"), looks := false }, kinds := [], alts := [], laidByText := true, laidKinds := [.data, .data, .data], laidTests := true, laidLooks := .later }
def BddRestrictCardSaid : Prop := Claim7.holds Tryz.pinned (.plain (OpenSpec.ofChange bddRestrictSpec)) bddRestrictCard

/-- THE SECOND FORM's CARD OF 'lineagelaw11.BddOperations'. -/
def bddOperationsUptoCard : Claim7 := { stood := { row := bddOperationsUptoRow, standIns := [], harness := (true, "9991faf1e46fd328a4b66f75ff9b3b8a0c34187670280177c121cf7b963e3a03"), looks := false }, kinds := [], alts := [], laidByText := true, laidKinds := [.data, .data, .data], laidTests := true, laidLooks := .later }
def BddOperationsUptoCardSaid : Prop := Claim7.holds Tryz.pinned (.plain (OpenSpec.upto bddOperationsSpec)) bddOperationsUptoCard

/-- THE SECOND FORM's CARD OF 'lineagelaw11.BddBuild'. -/
def bddBuildUptoCard : Claim7 := { stood := { row := bddBuildUptoRow, standIns := [], harness := (true, "9991faf1e46fd328a4b66f75ff9b3b8a0c34187670280177c121cf7b963e3a03"), looks := false }, kinds := [], alts := [], laidByText := true, laidKinds := [.data, .data, .data], laidTests := true, laidLooks := .later }
def BddBuildUptoCardSaid : Prop := Claim7.holds Tryz.pinned (.plain (OpenSpec.upto bddBuildSpec)) bddBuildUptoCard

/-- THE SECOND FORM's CARD OF 'lineagelaw11.BddValid'. -/
def bddValidUptoCard : Claim7 := { stood := { row := bddValidUptoRow, standIns := [], harness := (true, "9991faf1e46fd328a4b66f75ff9b3b8a0c34187670280177c121cf7b963e3a03"), looks := false }, kinds := [], alts := [], laidByText := true, laidKinds := [.data, .data, .data], laidTests := true, laidLooks := .later }
def BddValidUptoCardSaid : Prop := Claim7.holds Tryz.pinned (.plain (OpenSpec.upto bddValidSpec)) bddValidUptoCard

/-- THE SECOND FORM's CARD OF 'lineagelaw11.BddModels'. -/
def bddModelsUptoCard : Claim7 := { stood := { row := bddModelsUptoRow, standIns := [], harness := (true, "9991faf1e46fd328a4b66f75ff9b3b8a0c34187670280177c121cf7b963e3a03"), looks := false }, kinds := [], alts := [], laidByText := true, laidKinds := [.data, .data, .data], laidTests := true, laidLooks := .later }
def BddModelsUptoCardSaid : Prop := Claim7.holds Tryz.pinned (.plain (OpenSpec.upto bddModelsSpec)) bddModelsUptoCard

/-- THE SECOND FORM's CARD OF 'lineagelaw11.BddCanonical'. -/
def bddCanonicalUptoCard : Claim7 := { stood := { row := bddCanonicalUptoRow, standIns := [], harness := (true, "9991faf1e46fd328a4b66f75ff9b3b8a0c34187670280177c121cf7b963e3a03"), looks := false }, kinds := [], alts := [], laidByText := true, laidKinds := [.data, .data, .data], laidTests := true, laidLooks := .later }
def BddCanonicalUptoCardSaid : Prop := Claim7.holds Tryz.pinned (.plain (OpenSpec.upto bddCanonicalSpec)) bddCanonicalUptoCard

/-- THE SECOND FORM's CARD OF 'lineagelaw11.BddBoolean'. -/
def bddBooleanUptoCard : Claim7 := { stood := { row := bddBooleanUptoRow, standIns := [], harness := (true, "9991faf1e46fd328a4b66f75ff9b3b8a0c34187670280177c121cf7b963e3a03"), looks := false }, kinds := [], alts := [], laidByText := true, laidKinds := [.data, .data, .data], laidTests := true, laidLooks := .later }
def BddBooleanUptoCardSaid : Prop := Claim7.holds Tryz.pinned (.plain (OpenSpec.upto bddBooleanSpec)) bddBooleanUptoCard

/-- THE SECOND FORM's CARD OF 'lineagelaw11.BddRestrict'. -/
def bddRestrictUptoCard : Claim7 := { stood := { row := bddRestrictUptoRow, standIns := [], harness := (true, "9991faf1e46fd328a4b66f75ff9b3b8a0c34187670280177c121cf7b963e3a03"), looks := false }, kinds := [], alts := [], laidByText := true, laidKinds := [.data, .data, .data], laidTests := true, laidLooks := .later }
def BddRestrictUptoCardSaid : Prop := Claim7.holds Tryz.pinned (.plain (OpenSpec.upto bddRestrictSpec)) bddRestrictUptoCard
end Rows
end Go.Proofs.YtjlmeikcfdanmaaGreatDoor
