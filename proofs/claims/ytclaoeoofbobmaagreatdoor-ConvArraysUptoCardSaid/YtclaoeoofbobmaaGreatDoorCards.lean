/-
  DERIVED. GIVEN WITH THE SEED: THE CARDS: each row of YtclaoeoofbobmaaGreatDoorRows.lean that lists a variable, with what it lists TIED to the program's text (the seventh form; the later family's looks); each row that meets fmt, with fmt's text TOLD by the authors' own Lean function (tested against real Go, not proved from fmt's source: count such statements apart). THE CARD IS WHAT COUNTS. Prove the row's statement (the work); the ties are given (YtclaoeoofbobmaaGreatDoorTie.lean); close each card by the builder's one call (the guide's Derived/Test/ToyasCard.lean, 'card_holds'). Laid BY PROGRAM, IN A SANDBOX (cutbox-door.mjs). By AI agents, Wed Nov 11 2026. No macro, syntax, notation, axiom, sorry.
-/
import Derived.Test.YtclaoeoofbobmaaGreatDoorRows
import GoSem.ClaimSeven
namespace Go.Proofs.YtclaoeoofbobmaaGreatDoor
namespace Rows

/-- THE TIED CARD OF 'pennantlaw09.ConvEnds'. -/
def convEndsCard : Claim7 := { stood := { row := convEndsRow, standIns := [], harness := (true, "ba3c9a3e1c49aa9a6b1f752a9657be8260aec8e3eba27e64c314f6c7ba5520fa"), looks := true }, kinds := [], alts := [], laidByText := true, laidKinds := [.data, .data, .widerDeep, .widerDeep, .data, .data, .data, .data, .data, .data, .sentinel, .sentinel, .pinned, .pinned, .pinned], laidTests := true, laidLooks := .later }
def ConvEndsCardSaid : Prop := Claim7.holds Tryz.pinned (.plain (OpenSpec.ofChange convEndsSpec)) convEndsCard

/-- THE TIED CARD OF 'pennantlaw09.ConvNumbers'. -/
def convNumbersCard : Claim7 := { stood := { row := convNumbersRow, standIns := [], harness := (true, "ba3c9a3e1c49aa9a6b1f752a9657be8260aec8e3eba27e64c314f6c7ba5520fa"), looks := true }, kinds := [], alts := [], laidByText := true, laidKinds := [.data, .data, .widerDeep, .widerDeep, .data, .data, .data, .data, .data, .data, .sentinel, .sentinel, .pinned, .pinned, .pinned], laidTests := true, laidLooks := .later }
def ConvNumbersCardSaid : Prop := Claim7.holds Tryz.pinned (.plain (OpenSpec.ofChange convNumbersSpec)) convNumbersCard

/-- THE TIED CARD OF 'pennantlaw09.ConvArrays'. -/
def convArraysCard : Claim7 := { stood := { row := convArraysRow, standIns := [], harness := (true, "ba3c9a3e1c49aa9a6b1f752a9657be8260aec8e3eba27e64c314f6c7ba5520fa"), looks := true }, kinds := [], alts := [], laidByText := true, laidKinds := [.data, .data, .widerDeep, .widerDeep, .data, .data, .data, .data, .data, .data, .sentinel, .sentinel, .pinned, .pinned, .pinned], laidTests := true, laidLooks := .later }
def ConvArraysCardSaid : Prop := Claim7.holds Tryz.pinned (.plain (OpenSpec.ofChange convArraysSpec)) convArraysCard

/-- THE TIED CARD OF 'pennantlaw09.ConvAgrees'. -/
def convAgreesCard : Claim7 := { stood := { row := convAgreesRow, standIns := [], harness := (true, "ba3c9a3e1c49aa9a6b1f752a9657be8260aec8e3eba27e64c314f6c7ba5520fa"), looks := true }, kinds := [], alts := [], laidByText := true, laidKinds := [.data, .data, .widerDeep, .widerDeep, .data, .data, .data, .data, .data, .data, .sentinel, .sentinel, .pinned, .pinned, .pinned], laidTests := true, laidLooks := .later }
def ConvAgreesCardSaid : Prop := Claim7.holds Tryz.pinned (.plain (OpenSpec.ofChange convAgreesSpec)) convAgreesCard

/-- THE SECOND FORM's CARD OF 'pennantlaw09.ConvEnds'. -/
def convEndsUptoCard : Claim7 := { stood := { row := convEndsUptoRow, standIns := [], harness := (true, "ba3c9a3e1c49aa9a6b1f752a9657be8260aec8e3eba27e64c314f6c7ba5520fa"), looks := true }, kinds := [], alts := [], laidByText := true, laidKinds := [.data, .data, .widerDeep, .widerDeep, .data, .data, .data, .data, .data, .data, .sentinel, .sentinel, .pinned, .pinned, .pinned], laidTests := true, laidLooks := .later }
def ConvEndsUptoCardSaid : Prop := Claim7.holds Tryz.pinned (.plain (OpenSpec.upto convEndsSpec)) convEndsUptoCard

/-- THE SECOND FORM's CARD OF 'pennantlaw09.ConvNumbers'. -/
def convNumbersUptoCard : Claim7 := { stood := { row := convNumbersUptoRow, standIns := [], harness := (true, "ba3c9a3e1c49aa9a6b1f752a9657be8260aec8e3eba27e64c314f6c7ba5520fa"), looks := true }, kinds := [], alts := [], laidByText := true, laidKinds := [.data, .data, .widerDeep, .widerDeep, .data, .data, .data, .data, .data, .data, .sentinel, .sentinel, .pinned, .pinned, .pinned], laidTests := true, laidLooks := .later }
def ConvNumbersUptoCardSaid : Prop := Claim7.holds Tryz.pinned (.plain (OpenSpec.upto convNumbersSpec)) convNumbersUptoCard

/-- THE SECOND FORM's CARD OF 'pennantlaw09.ConvArrays'. -/
def convArraysUptoCard : Claim7 := { stood := { row := convArraysUptoRow, standIns := [], harness := (true, "ba3c9a3e1c49aa9a6b1f752a9657be8260aec8e3eba27e64c314f6c7ba5520fa"), looks := true }, kinds := [], alts := [], laidByText := true, laidKinds := [.data, .data, .widerDeep, .widerDeep, .data, .data, .data, .data, .data, .data, .sentinel, .sentinel, .pinned, .pinned, .pinned], laidTests := true, laidLooks := .later }
def ConvArraysUptoCardSaid : Prop := Claim7.holds Tryz.pinned (.plain (OpenSpec.upto convArraysSpec)) convArraysUptoCard

/-- THE SECOND FORM's CARD OF 'pennantlaw09.ConvAgrees'. -/
def convAgreesUptoCard : Claim7 := { stood := { row := convAgreesUptoRow, standIns := [], harness := (true, "ba3c9a3e1c49aa9a6b1f752a9657be8260aec8e3eba27e64c314f6c7ba5520fa"), looks := true }, kinds := [], alts := [], laidByText := true, laidKinds := [.data, .data, .widerDeep, .widerDeep, .data, .data, .data, .data, .data, .data, .sentinel, .sentinel, .pinned, .pinned, .pinned], laidTests := true, laidLooks := .later }
def ConvAgreesUptoCardSaid : Prop := Claim7.holds Tryz.pinned (.plain (OpenSpec.upto convAgreesSpec)) convAgreesUptoCard
end Rows
end Go.Proofs.YtclaoeoofbobmaaGreatDoor
