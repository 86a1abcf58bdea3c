/-
  DERIVED. GIVEN WITH THE SEED: THE CARDS: each row of YtigfcchblfnnbaaGreatDoorRows.lean that lists a variable, with what it lists TIED to the program's text (the seventh form; the later family's looks); each row that meets fmt, with fmt's text TOLD by the authors' own Lean function (tested against real Go, not proved from fmt's source: count such statements apart). THE CARD IS WHAT COUNTS. Prove the row's statement (the work); the ties are given (YtigfcchblfnnbaaGreatDoorTie.lean); close each card by the builder's one call (the guide's Derived/Test/ToyasCard.lean, 'card_holds'). Laid BY PROGRAM, IN A SANDBOX (cutbox-door.mjs). By AI agents, Wed Nov 11 2026. No macro, syntax, notation, axiom, sorry.
-/
import Derived.Test.YtigfcchblfnnbaaGreatDoorRows
import GoSem.ClaimSeven
namespace Go.Proofs.YtigfcchblfnnbaaGreatDoor
namespace Rows

/-- THE TIED CARD OF 'pennantlaw03.TreePrefixes'. -/
def treePrefixesCard : Claim7 := { stood := { row := treePrefixesRow, standIns := [], harness := (true, "336e5c3fed052ae6816823d4c2c27d9d1590be91e6cfb5f9bcf0185b63da85dd"), looks := true }, kinds := [], alts := [], laidByText := true, laidKinds := [.data, .data, .data, .data, .handle, .data, .data, .widerDeep, .widerDeep, .pinned, .pinned], laidTests := true, laidLooks := .later }
def TreePrefixesCardSaid : Prop := Claim7.holds Tryz.pinned (.plain (OpenSpec.ofChange treePrefixesSpec)) treePrefixesCard

/-- THE TIED CARD OF 'pennantlaw03.TreeNests'. -/
def treeNestsCard : Claim7 := { stood := { row := treeNestsRow, standIns := [], harness := (true, "336e5c3fed052ae6816823d4c2c27d9d1590be91e6cfb5f9bcf0185b63da85dd"), looks := true }, kinds := [], alts := [], laidByText := true, laidKinds := [.data, .data, .data, .data, .handle, .data, .data, .widerDeep, .widerDeep, .pinned, .pinned], laidTests := true, laidLooks := .later }
def TreeNestsCardSaid : Prop := Claim7.holds Tryz.pinned (.plain (OpenSpec.ofChange treeNestsSpec)) treeNestsCard

/-- THE SECOND FORM's CARD OF 'pennantlaw03.TreePrefixes'. -/
def treePrefixesUptoCard : Claim7 := { stood := { row := treePrefixesUptoRow, standIns := [], harness := (true, "336e5c3fed052ae6816823d4c2c27d9d1590be91e6cfb5f9bcf0185b63da85dd"), looks := true }, kinds := [], alts := [], laidByText := true, laidKinds := [.data, .data, .data, .data, .handle, .data, .data, .widerDeep, .widerDeep, .pinned, .pinned], laidTests := true, laidLooks := .later }
def TreePrefixesUptoCardSaid : Prop := Claim7.holds Tryz.pinned (.plain (OpenSpec.upto treePrefixesSpec)) treePrefixesUptoCard

/-- THE SECOND FORM's CARD OF 'pennantlaw03.TreeNests'. -/
def treeNestsUptoCard : Claim7 := { stood := { row := treeNestsUptoRow, standIns := [], harness := (true, "336e5c3fed052ae6816823d4c2c27d9d1590be91e6cfb5f9bcf0185b63da85dd"), looks := true }, kinds := [], alts := [], laidByText := true, laidKinds := [.data, .data, .data, .data, .handle, .data, .data, .widerDeep, .widerDeep, .pinned, .pinned], laidTests := true, laidLooks := .later }
def TreeNestsUptoCardSaid : Prop := Claim7.holds Tryz.pinned (.plain (OpenSpec.upto treeNestsSpec)) treeNestsUptoCard
end Rows
end Go.Proofs.YtigfcchblfnnbaaGreatDoor
