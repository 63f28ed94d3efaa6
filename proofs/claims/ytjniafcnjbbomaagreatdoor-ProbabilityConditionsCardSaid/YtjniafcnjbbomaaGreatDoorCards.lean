/-
  DERIVED. GIVEN WITH THE SEED: THE CARDS: each row of YtjniafcnjbbomaaGreatDoorRows.lean that lists a variable, with what it lists TIED to the program's text (the seventh form; the later family's looks); each row that meets fmt, with fmt's text TOLD by the authors' own Lean function (tested against real Go, not proved from fmt's source: count such statements apart). THE CARD IS WHAT COUNTS. Prove the row's statement (the work); the ties are given (YtjniafcnjbbomaaGreatDoorTie.lean); close each card by the builder's one call (the guide's Derived/Test/ToyasCard.lean, 'card_holds'). Laid BY PROGRAM, IN A SANDBOX (cutbox-door.mjs). By AI agents, Wed Nov 11 2026. No macro, syntax, notation, axiom, sorry.
-/
import Derived.Test.YtjniafcnjbbomaaGreatDoorRows
import GoSem.ClaimSeven
namespace Go.Proofs.YtjniafcnjbbomaaGreatDoor
namespace Rows

/-- THE TIED CARD OF 'lineagelaw12.ProbabilityDiagrams'. -/
def probabilityDiagramsCard : Claim7 := { stood := { row := probabilityDiagramsRow, standIns := [], harness := (true, "a631782b6f89cca244af43153f42396199b3078d69217965cd228c28327e4a79"), looks := false }, kinds := [], alts := [], laidByText := true, laidKinds := [.data, .data, .data, .data, .pinned], laidTests := true, laidLooks := .later }
def ProbabilityDiagramsCardSaid : Prop := Claim7.holds Tryz.pinned (.plain (OpenSpec.ofChange probabilityDiagramsSpec)) probabilityDiagramsCard

/-- THE TIED CARD OF 'lineagelaw12.ProbabilityWorlds'. -/
def probabilityWorldsCard : Claim7 := { stood := { row := probabilityWorldsRow, standIns := [], harness := (true, "a631782b6f89cca244af43153f42396199b3078d69217965cd228c28327e4a79"), looks := false }, kinds := [], alts := [], laidByText := true, laidKinds := [.data, .data, .data, .data, .pinned], laidTests := true, laidLooks := .later }
def ProbabilityWorldsCardSaid : Prop := Claim7.holds Tryz.pinned (.plain (OpenSpec.ofChange probabilityWorldsSpec)) probabilityWorldsCard

/-- THE TIED CARD OF 'lineagelaw12.ProbabilityExacts'. -/
def probabilityExactsCard : Claim7 := { stood := { row := probabilityExactsRow, standIns := [], harness := (true, "a631782b6f89cca244af43153f42396199b3078d69217965cd228c28327e4a79"), looks := false }, kinds := [], alts := [], laidByText := true, laidKinds := [.data, .data, .data, .data, .pinned], laidTests := true, laidLooks := .later }
def ProbabilityExactsCardSaid : Prop := Claim7.holds Tryz.pinned (.plain (OpenSpec.ofChange probabilityExactsSpec)) probabilityExactsCard

/-- THE TIED CARD OF 'lineagelaw12.ProbabilityConditions'. -/
def probabilityConditionsCard : Claim7 := { stood := { row := probabilityConditionsRow, standIns := [], harness := (true, "a631782b6f89cca244af43153f42396199b3078d69217965cd228c28327e4a79"), looks := false }, kinds := [], alts := [], laidByText := true, laidKinds := [.data, .data, .data, .data, .pinned], laidTests := true, laidLooks := .later }
def ProbabilityConditionsCardSaid : Prop := Claim7.holds Tryz.pinned (.plain (OpenSpec.ofChange probabilityConditionsSpec)) probabilityConditionsCard

/-- THE SECOND FORM's CARD OF 'lineagelaw12.ProbabilityWorlds'. -/
def probabilityWorldsUptoCard : Claim7 := { stood := { row := probabilityWorldsUptoRow, standIns := [], harness := (true, "a631782b6f89cca244af43153f42396199b3078d69217965cd228c28327e4a79"), looks := false }, kinds := [], alts := [], laidByText := true, laidKinds := [.data, .data, .data, .data, .pinned], laidTests := true, laidLooks := .later }
def ProbabilityWorldsUptoCardSaid : Prop := Claim7.holds Tryz.pinned (.plain (OpenSpec.upto probabilityWorldsSpec)) probabilityWorldsUptoCard
end Rows
end Go.Proofs.YtjniafcnjbbomaaGreatDoor
