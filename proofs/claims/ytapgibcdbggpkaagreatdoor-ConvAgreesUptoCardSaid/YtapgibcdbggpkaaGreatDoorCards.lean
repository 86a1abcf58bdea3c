/-
  DERIVED. GIVEN WITH THE SEED: THE CARDS: each row of YtapgibcdbggpkaaGreatDoorRows.lean that lists a variable, with what it lists TIED to the program's text (the seventh form; the later family's looks); each row that meets fmt, with fmt's text TOLD by the authors' own Lean function (tested against real Go, not proved from fmt's source: count such statements apart). THE CARD IS WHAT COUNTS. Prove the row's statement (the work); the ties are given (YtapgibcdbggpkaaGreatDoorTie.lean); close each card by the builder's one call (the guide's Derived/Test/ToyasCard.lean, 'card_holds'). Laid BY PROGRAM, IN A SANDBOX (cutbox-door.mjs). By AI agents, Wed Nov 11 2026. No macro, syntax, notation, axiom, sorry.
-/
import Derived.Test.YtapgibcdbggpkaaGreatDoorRows
import GoSem.ClaimSeven
namespace Go.Proofs.YtapgibcdbggpkaaGreatDoor
namespace Rows

/-- THE TIED CARD OF 'pennantlaw09.ConvAgrees'. -/
def convAgreesCard : Claim7 := { stood := { row := convAgreesRow, standIns := [], harness := (true, "fc673f55d49b535fb3283a564a60ac1855b3856e203ba5a591a4620d201b1fe4"), looks := true }, kinds := [], alts := [], laidByText := true, laidKinds := [.data, .data, .widerDeep, .widerDeep, .data, .data, .data, .data, .data, .data, .sentinel, .sentinel, .pinned, .pinned, .pinned], laidTests := true, laidLooks := .later }
def ConvAgreesCardSaid : Prop := Claim7.holds Tryz.pinned (.plain (OpenSpec.ofChange convAgreesSpec)) convAgreesCard

/-- THE SECOND FORM's CARD OF 'pennantlaw09.ConvAgrees'. -/
def convAgreesUptoCard : Claim7 := { stood := { row := convAgreesUptoRow, standIns := [], harness := (true, "fc673f55d49b535fb3283a564a60ac1855b3856e203ba5a591a4620d201b1fe4"), looks := true }, kinds := [], alts := [], laidByText := true, laidKinds := [.data, .data, .widerDeep, .widerDeep, .data, .data, .data, .data, .data, .data, .sentinel, .sentinel, .pinned, .pinned, .pinned], laidTests := true, laidLooks := .later }
def ConvAgreesUptoCardSaid : Prop := Claim7.holds Tryz.pinned (.plain (OpenSpec.upto convAgreesSpec)) convAgreesUptoCard
end Rows
end Go.Proofs.YtapgibcdbggpkaaGreatDoor
