/-
  DERIVED. GIVEN WITH THE SEED: THE CARDS: each row of YtepmneongpbglaaGreatDoorRows.lean that lists a variable, with what it lists TIED to the program's text (the seventh form; the later family's looks); each row that meets fmt, with fmt's text TOLD by the authors' own Lean function (tested against real Go, not proved from fmt's source: count such statements apart). THE CARD IS WHAT COUNTS. Prove the row's statement (the work); the ties are given (YtepmneongpbglaaGreatDoorTie.lean); close each card by the builder's one call (the guide's Derived/Test/ToyasCard.lean, 'card_holds'). Laid BY PROGRAM, IN A SANDBOX (cutbox-door.mjs). By AI agents, Wed Nov 11 2026. No macro, syntax, notation, axiom, sorry.
-/
import Derived.Test.YtepmneongpbglaaGreatDoorRows
import GoSem.ClaimSeven
namespace Go.Proofs.YtepmneongpbglaaGreatDoor
namespace Rows

/-- THE TIED CARD OF 'pennantlaw05.LexNames'. -/
def lexNamesCard : Claim7 := { stood := { row := lexNamesRow, standIns := [], harness := (true, "cb792055182bbae931f1f8304f5983d96de126f5743eb94580fa58734174f979"), looks := true }, kinds := [], alts := [], laidByText := true, laidKinds := [.data, .data, .widerDeep, .widerDeep, .data, .data, .data, .data, .data, .data, .sentinel, .sentinel, .widerDeep, .pinned, .pinned, .pinned], laidTests := true, laidLooks := .later }
def LexNamesCardSaid : Prop := Claim7.holds Tryz.pinned (.plain (OpenSpec.ofChange lexNamesSpec)) lexNamesCard

/-- THE TIED CARD OF 'pennantlaw05.LexTexts'. -/
def lexTextsCard : Claim7 := { stood := { row := lexTextsRow, standIns := [], harness := (true, "cb792055182bbae931f1f8304f5983d96de126f5743eb94580fa58734174f979"), looks := true }, kinds := [], alts := [], laidByText := true, laidKinds := [.data, .data, .widerDeep, .widerDeep, .data, .data, .data, .data, .data, .data, .sentinel, .sentinel, .widerDeep, .pinned, .pinned, .pinned], laidTests := true, laidLooks := .later }
def LexTextsCardSaid : Prop := Claim7.holds Tryz.pinned (.plain (OpenSpec.ofChange lexTextsSpec)) lexTextsCard

/-- THE TIED CARD OF 'pennantlaw05.LexCovers'. -/
def lexCoversCard : Claim7 := { stood := { row := lexCoversRow, standIns := [], harness := (true, "cb792055182bbae931f1f8304f5983d96de126f5743eb94580fa58734174f979"), looks := true }, kinds := [], alts := [], laidByText := true, laidKinds := [.data, .data, .widerDeep, .widerDeep, .data, .data, .data, .data, .data, .data, .sentinel, .sentinel, .widerDeep, .pinned, .pinned, .pinned], laidTests := true, laidLooks := .later }
def LexCoversCardSaid : Prop := Claim7.holds Tryz.pinned (.plain (OpenSpec.ofChange lexCoversSpec)) lexCoversCard

/-- THE TIED CARD OF 'pennantlaw05.LexMoves'. -/
def lexMovesCard : Claim7 := { stood := { row := lexMovesRow, standIns := [], harness := (true, "cb792055182bbae931f1f8304f5983d96de126f5743eb94580fa58734174f979"), looks := true }, kinds := [], alts := [], laidByText := true, laidKinds := [.data, .data, .widerDeep, .widerDeep, .data, .data, .data, .data, .data, .data, .sentinel, .sentinel, .widerDeep, .pinned, .pinned, .pinned], laidTests := true, laidLooks := .later }
def LexMovesCardSaid : Prop := Claim7.holds Tryz.pinned (.plain (OpenSpec.ofChange lexMovesSpec)) lexMovesCard

/-- THE TIED CARD OF 'pennantlaw05.LexSpread'. -/
def lexSpreadCard : Claim7 := { stood := { row := lexSpreadRow, standIns := [], harness := (true, "cb792055182bbae931f1f8304f5983d96de126f5743eb94580fa58734174f979"), looks := true }, kinds := [], alts := [], laidByText := true, laidKinds := [.data, .data, .widerDeep, .widerDeep, .data, .data, .data, .data, .data, .data, .sentinel, .sentinel, .widerDeep, .pinned, .pinned, .pinned], laidTests := true, laidLooks := .later }
def LexSpreadCardSaid : Prop := Claim7.holds Tryz.pinned (.plain (OpenSpec.ofChange lexSpreadSpec)) lexSpreadCard

/-- THE SECOND FORM's CARD OF 'pennantlaw05.LexNames'. -/
def lexNamesUptoCard : Claim7 := { stood := { row := lexNamesUptoRow, standIns := [], harness := (true, "cb792055182bbae931f1f8304f5983d96de126f5743eb94580fa58734174f979"), looks := true }, kinds := [], alts := [], laidByText := true, laidKinds := [.data, .data, .widerDeep, .widerDeep, .data, .data, .data, .data, .data, .data, .sentinel, .sentinel, .widerDeep, .pinned, .pinned, .pinned], laidTests := true, laidLooks := .later }
def LexNamesUptoCardSaid : Prop := Claim7.holds Tryz.pinned (.plain (OpenSpec.upto lexNamesSpec)) lexNamesUptoCard

/-- THE SECOND FORM's CARD OF 'pennantlaw05.LexTexts'. -/
def lexTextsUptoCard : Claim7 := { stood := { row := lexTextsUptoRow, standIns := [], harness := (true, "cb792055182bbae931f1f8304f5983d96de126f5743eb94580fa58734174f979"), looks := true }, kinds := [], alts := [], laidByText := true, laidKinds := [.data, .data, .widerDeep, .widerDeep, .data, .data, .data, .data, .data, .data, .sentinel, .sentinel, .widerDeep, .pinned, .pinned, .pinned], laidTests := true, laidLooks := .later }
def LexTextsUptoCardSaid : Prop := Claim7.holds Tryz.pinned (.plain (OpenSpec.upto lexTextsSpec)) lexTextsUptoCard

/-- THE SECOND FORM's CARD OF 'pennantlaw05.LexCovers'. -/
def lexCoversUptoCard : Claim7 := { stood := { row := lexCoversUptoRow, standIns := [], harness := (true, "cb792055182bbae931f1f8304f5983d96de126f5743eb94580fa58734174f979"), looks := true }, kinds := [], alts := [], laidByText := true, laidKinds := [.data, .data, .widerDeep, .widerDeep, .data, .data, .data, .data, .data, .data, .sentinel, .sentinel, .widerDeep, .pinned, .pinned, .pinned], laidTests := true, laidLooks := .later }
def LexCoversUptoCardSaid : Prop := Claim7.holds Tryz.pinned (.plain (OpenSpec.upto lexCoversSpec)) lexCoversUptoCard

/-- THE SECOND FORM's CARD OF 'pennantlaw05.LexMoves'. -/
def lexMovesUptoCard : Claim7 := { stood := { row := lexMovesUptoRow, standIns := [], harness := (true, "cb792055182bbae931f1f8304f5983d96de126f5743eb94580fa58734174f979"), looks := true }, kinds := [], alts := [], laidByText := true, laidKinds := [.data, .data, .widerDeep, .widerDeep, .data, .data, .data, .data, .data, .data, .sentinel, .sentinel, .widerDeep, .pinned, .pinned, .pinned], laidTests := true, laidLooks := .later }
def LexMovesUptoCardSaid : Prop := Claim7.holds Tryz.pinned (.plain (OpenSpec.upto lexMovesSpec)) lexMovesUptoCard

/-- THE SECOND FORM's CARD OF 'pennantlaw05.LexSpread'. -/
def lexSpreadUptoCard : Claim7 := { stood := { row := lexSpreadUptoRow, standIns := [], harness := (true, "cb792055182bbae931f1f8304f5983d96de126f5743eb94580fa58734174f979"), looks := true }, kinds := [], alts := [], laidByText := true, laidKinds := [.data, .data, .widerDeep, .widerDeep, .data, .data, .data, .data, .data, .data, .sentinel, .sentinel, .widerDeep, .pinned, .pinned, .pinned], laidTests := true, laidLooks := .later }
def LexSpreadUptoCardSaid : Prop := Claim7.holds Tryz.pinned (.plain (OpenSpec.upto lexSpreadSpec)) lexSpreadUptoCard
end Rows
end Go.Proofs.YtepmneongpbglaaGreatDoor
