/-
  DERIVED. GIVEN WITH THE SEED: THE CARDS: each row of YtipnlgcicdnhdaaDoorRows.lean that lists a variable, with what it lists TIED to the program's text (the seventh form; the later family's looks); each row that meets fmt, with fmt's text TOLD by the authors' own Lean function (tested against real Go, not proved from fmt's source: count such statements apart). THE CARD IS WHAT COUNTS. Prove the row's statement (the work); the ties are given (YtipnlgcicdnhdaaDoorTie.lean); close each card by the builder's one call (the guide's Derived/Test/ToyasCard.lean, 'card_holds'). Laid BY PROGRAM, IN A SANDBOX (cutbox-door.mjs). By AI agents, Wed Nov 11 2026. No macro, syntax, notation, axiom, sorry.
-/
import Derived.Test.YtipnlgcicdnhdaaDoorRows
import GoSem.ClaimSeven
namespace Go.Proofs.YtipnlgcicdnhdaaDoor
namespace Rows

/-- THE TIED CARD OF 'pennantlaw01.UtfTurns'. -/
def utfTurnsCard : Claim7 := { stood := { row := utfTurnsRow, standIns := [], harness := (true, "1632693ba19a7db2ab10ac37459eb1c57a15cbac675561208e19ad20fd203f55"), looks := false }, kinds := [], alts := [], laidByText := true, laidKinds := [.data, .pinned], laidTests := true, laidLooks := .later }
def UtfTurnsCardSaid : Prop := Claim7.holds Tryd.pinned (.plain (OpenSpec.ofChange utfTurnsSpec)) utfTurnsCard

/-- THE TIED CARD OF 'pennantlaw01.UtfNext'. -/
def utfNextCard : Claim7 := { stood := { row := utfNextRow, standIns := [], harness := (true, "1632693ba19a7db2ab10ac37459eb1c57a15cbac675561208e19ad20fd203f55"), looks := false }, kinds := [], alts := [], laidByText := true, laidKinds := [.data, .pinned], laidTests := true, laidLooks := .later }
def UtfNextCardSaid : Prop := Claim7.holds Tryd.pinned (.plain (OpenSpec.ofChange utfNextSpec)) utfNextCard

/-- THE TIED CARD OF 'pennantlaw01.UtfBack'. -/
def utfBackCard : Claim7 := { stood := { row := utfBackRow, standIns := [], harness := (true, "1632693ba19a7db2ab10ac37459eb1c57a15cbac675561208e19ad20fd203f55"), looks := false }, kinds := [], alts := [], laidByText := true, laidKinds := [.data, .pinned], laidTests := true, laidLooks := .later }
def UtfBackCardSaid : Prop := Claim7.holds Tryd.pinned (.plain (OpenSpec.ofChange utfBackSpec)) utfBackCard

/-- THE TIED CARD OF 'pennantlaw01.UtfJoins'. -/
def utfJoinsCard : Claim7 := { stood := { row := utfJoinsRow, standIns := [], harness := (true, "1632693ba19a7db2ab10ac37459eb1c57a15cbac675561208e19ad20fd203f55"), looks := false }, kinds := [], alts := [], laidByText := true, laidKinds := [.data, .pinned], laidTests := true, laidLooks := .later }
def UtfJoinsCardSaid : Prop := Claim7.holds Tryd.pinned (.plain (OpenSpec.ofChange utfJoinsSpec)) utfJoinsCard

/-- THE TIED CARD OF 'pennantlaw01.UtfCuts'. -/
def utfCutsCard : Claim7 := { stood := { row := utfCutsRow, standIns := [], harness := (true, "1632693ba19a7db2ab10ac37459eb1c57a15cbac675561208e19ad20fd203f55"), looks := false }, kinds := [], alts := [], laidByText := true, laidKinds := [.data, .pinned], laidTests := true, laidLooks := .later }
def UtfCutsCardSaid : Prop := Claim7.holds Tryd.pinned (.plain (OpenSpec.ofChange utfCutsSpec)) utfCutsCard

/-- THE TIED CARD OF 'pennantlaw01.UtfCases'. -/
def utfCasesCard : Claim7 := { stood := { row := utfCasesRow, standIns := [], harness := (true, "1632693ba19a7db2ab10ac37459eb1c57a15cbac675561208e19ad20fd203f55"), looks := false }, kinds := [], alts := [], laidByText := true, laidKinds := [.data, .pinned], laidTests := true, laidLooks := .later }
def UtfCasesCardSaid : Prop := Claim7.holds Tryd.pinned (.plain (OpenSpec.ofChange utfCasesSpec)) utfCasesCard

/-- THE TIED CARD OF 'pennantlaw01.UtfFinds'. -/
def utfFindsCard : Claim7 := { stood := { row := utfFindsRow, standIns := [], harness := (true, "1632693ba19a7db2ab10ac37459eb1c57a15cbac675561208e19ad20fd203f55"), looks := false }, kinds := [], alts := [], laidByText := true, laidKinds := [.data, .pinned], laidTests := true, laidLooks := .later }
def UtfFindsCardSaid : Prop := Claim7.holds Tryd.pinned (.plain (OpenSpec.ofChange utfFindsSpec)) utfFindsCard

/-- THE TIED CARD OF 'pennantlaw01.UtfParts'. -/
def utfPartsCard : Claim7 := { stood := { row := utfPartsRow, standIns := [], harness := (true, "1632693ba19a7db2ab10ac37459eb1c57a15cbac675561208e19ad20fd203f55"), looks := false }, kinds := [], alts := [], laidByText := true, laidKinds := [.data, .pinned], laidTests := true, laidLooks := .later }
def UtfPartsCardSaid : Prop := Claim7.holds Tryd.pinned (.plain (OpenSpec.ofChange utfPartsSpec)) utfPartsCard

/-- THE SECOND FORM's CARD OF 'pennantlaw01.UtfTurns'. -/
def utfTurnsUptoCard : Claim7 := { stood := { row := utfTurnsUptoRow, standIns := [], harness := (true, "1632693ba19a7db2ab10ac37459eb1c57a15cbac675561208e19ad20fd203f55"), looks := false }, kinds := [], alts := [], laidByText := true, laidKinds := [.data, .pinned], laidTests := true, laidLooks := .later }
def UtfTurnsUptoCardSaid : Prop := Claim7.holds Tryd.pinned (.plain (OpenSpec.upto utfTurnsSpec)) utfTurnsUptoCard

/-- THE SECOND FORM's CARD OF 'pennantlaw01.UtfNext'. -/
def utfNextUptoCard : Claim7 := { stood := { row := utfNextUptoRow, standIns := [], harness := (true, "1632693ba19a7db2ab10ac37459eb1c57a15cbac675561208e19ad20fd203f55"), looks := false }, kinds := [], alts := [], laidByText := true, laidKinds := [.data, .pinned], laidTests := true, laidLooks := .later }
def UtfNextUptoCardSaid : Prop := Claim7.holds Tryd.pinned (.plain (OpenSpec.upto utfNextSpec)) utfNextUptoCard

/-- THE SECOND FORM's CARD OF 'pennantlaw01.UtfBack'. -/
def utfBackUptoCard : Claim7 := { stood := { row := utfBackUptoRow, standIns := [], harness := (true, "1632693ba19a7db2ab10ac37459eb1c57a15cbac675561208e19ad20fd203f55"), looks := false }, kinds := [], alts := [], laidByText := true, laidKinds := [.data, .pinned], laidTests := true, laidLooks := .later }
def UtfBackUptoCardSaid : Prop := Claim7.holds Tryd.pinned (.plain (OpenSpec.upto utfBackSpec)) utfBackUptoCard

/-- THE SECOND FORM's CARD OF 'pennantlaw01.UtfJoins'. -/
def utfJoinsUptoCard : Claim7 := { stood := { row := utfJoinsUptoRow, standIns := [], harness := (true, "1632693ba19a7db2ab10ac37459eb1c57a15cbac675561208e19ad20fd203f55"), looks := false }, kinds := [], alts := [], laidByText := true, laidKinds := [.data, .pinned], laidTests := true, laidLooks := .later }
def UtfJoinsUptoCardSaid : Prop := Claim7.holds Tryd.pinned (.plain (OpenSpec.upto utfJoinsSpec)) utfJoinsUptoCard

/-- THE SECOND FORM's CARD OF 'pennantlaw01.UtfCuts'. -/
def utfCutsUptoCard : Claim7 := { stood := { row := utfCutsUptoRow, standIns := [], harness := (true, "1632693ba19a7db2ab10ac37459eb1c57a15cbac675561208e19ad20fd203f55"), looks := false }, kinds := [], alts := [], laidByText := true, laidKinds := [.data, .pinned], laidTests := true, laidLooks := .later }
def UtfCutsUptoCardSaid : Prop := Claim7.holds Tryd.pinned (.plain (OpenSpec.upto utfCutsSpec)) utfCutsUptoCard

/-- THE SECOND FORM's CARD OF 'pennantlaw01.UtfCases'. -/
def utfCasesUptoCard : Claim7 := { stood := { row := utfCasesUptoRow, standIns := [], harness := (true, "1632693ba19a7db2ab10ac37459eb1c57a15cbac675561208e19ad20fd203f55"), looks := false }, kinds := [], alts := [], laidByText := true, laidKinds := [.data, .pinned], laidTests := true, laidLooks := .later }
def UtfCasesUptoCardSaid : Prop := Claim7.holds Tryd.pinned (.plain (OpenSpec.upto utfCasesSpec)) utfCasesUptoCard

/-- THE SECOND FORM's CARD OF 'pennantlaw01.UtfFinds'. -/
def utfFindsUptoCard : Claim7 := { stood := { row := utfFindsUptoRow, standIns := [], harness := (true, "1632693ba19a7db2ab10ac37459eb1c57a15cbac675561208e19ad20fd203f55"), looks := false }, kinds := [], alts := [], laidByText := true, laidKinds := [.data, .pinned], laidTests := true, laidLooks := .later }
def UtfFindsUptoCardSaid : Prop := Claim7.holds Tryd.pinned (.plain (OpenSpec.upto utfFindsSpec)) utfFindsUptoCard

/-- THE SECOND FORM's CARD OF 'pennantlaw01.UtfParts'. -/
def utfPartsUptoCard : Claim7 := { stood := { row := utfPartsUptoRow, standIns := [], harness := (true, "1632693ba19a7db2ab10ac37459eb1c57a15cbac675561208e19ad20fd203f55"), looks := false }, kinds := [], alts := [], laidByText := true, laidKinds := [.data, .pinned], laidTests := true, laidLooks := .later }
def UtfPartsUptoCardSaid : Prop := Claim7.holds Tryd.pinned (.plain (OpenSpec.upto utfPartsSpec)) utfPartsUptoCard
end Rows
end Go.Proofs.YtipnlgcicdnhdaaDoor
