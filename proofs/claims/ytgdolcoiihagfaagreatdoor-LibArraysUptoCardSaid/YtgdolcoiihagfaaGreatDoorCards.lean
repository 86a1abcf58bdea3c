/-
  DERIVED. GIVEN WITH THE SEED: THE CARDS: each row of YtgdolcoiihagfaaGreatDoorRows.lean that lists a variable, with what it lists TIED to the program's text (the seventh form; the later family's looks); each row that meets fmt, with fmt's text TOLD by the authors' own Lean function (tested against real Go, not proved from fmt's source: count such statements apart). THE CARD IS WHAT COUNTS. Prove the row's statement (the work); the ties are given (YtgdolcoiihagfaaGreatDoorTie.lean); close each card by the builder's one call (the guide's Derived/Test/ToyasCard.lean, 'card_holds'). Laid BY PROGRAM, IN A SANDBOX (cutbox-door.mjs). By AI agents, Wed Nov 11 2026. No macro, syntax, notation, axiom, sorry.
-/
import Derived.Test.YtgdolcoiihagfaaGreatDoorRows
import GoSem.ClaimSeven
namespace Go.Proofs.YtgdolcoiihagfaaGreatDoor
namespace Rows

/-- THE TIED CARD OF 'pennantlaw10.LibArrays'. -/
def libArraysCard : Claim7 := { stood := { row := libArraysRow, standIns := [], harness := (true, "66258357730f4750c164d2304a96276ef5615b0ac3f179a367a7911a5bbdcf2b"), looks := true }, kinds := [], alts := [], laidByText := true, laidKinds := [.data, .data, .widerDeep, .widerDeep, .data, .data, .data, .data, .data, .data, .sentinel, .sentinel, .data, .widerDeep, .widerDeep, .widerDeep, .pinned, .pinned, .pinned], laidTests := true, laidLooks := .later }
def LibArraysCardSaid : Prop := Claim7.holds Tryz.pinned (.plain (OpenSpec.ofChange libArraysSpec)) libArraysCard

/-- THE TIED CARD OF 'pennantlaw10.LibSplit'. -/
def libSplitCard : Claim7 := { stood := { row := libSplitRow, standIns := [], harness := (true, "66258357730f4750c164d2304a96276ef5615b0ac3f179a367a7911a5bbdcf2b"), looks := true }, kinds := [], alts := [], laidByText := true, laidKinds := [.data, .data, .widerDeep, .widerDeep, .data, .data, .data, .data, .data, .data, .sentinel, .sentinel, .data, .widerDeep, .widerDeep, .widerDeep, .pinned, .pinned, .pinned], laidTests := true, laidLooks := .later }
def LibSplitCardSaid : Prop := Claim7.holds Tryz.pinned (.plain (OpenSpec.ofChange libSplitSpec)) libSplitCard

/-- THE TIED CARD OF 'pennantlaw10.LibInts'. -/
def libIntsCard : Claim7 := { stood := { row := libIntsRow, standIns := [], harness := (true, "66258357730f4750c164d2304a96276ef5615b0ac3f179a367a7911a5bbdcf2b"), looks := true }, kinds := [], alts := [], laidByText := true, laidKinds := [.data, .data, .widerDeep, .widerDeep, .data, .data, .data, .data, .data, .data, .sentinel, .sentinel, .data, .widerDeep, .widerDeep, .widerDeep, .pinned, .pinned, .pinned], laidTests := true, laidLooks := .later }
def LibIntsCardSaid : Prop := Claim7.holds Tryz.pinned (.plain (OpenSpec.ofChange libIntsSpec)) libIntsCard

/-- THE TIED CARD OF 'pennantlaw10.LibBack'. -/
def libBackCard : Claim7 := { stood := { row := libBackRow, standIns := [], harness := (true, "66258357730f4750c164d2304a96276ef5615b0ac3f179a367a7911a5bbdcf2b"), looks := true }, kinds := [], alts := [], laidByText := true, laidKinds := [.data, .data, .widerDeep, .widerDeep, .data, .data, .data, .data, .data, .data, .sentinel, .sentinel, .data, .widerDeep, .widerDeep, .widerDeep, .pinned, .pinned, .pinned], laidTests := true, laidLooks := .later }
def LibBackCardSaid : Prop := Claim7.holds Tryz.pinned (.plain (OpenSpec.ofChange libBackSpec)) libBackCard

/-- THE SECOND FORM's CARD OF 'pennantlaw10.LibArrays'. -/
def libArraysUptoCard : Claim7 := { stood := { row := libArraysUptoRow, standIns := [], harness := (true, "66258357730f4750c164d2304a96276ef5615b0ac3f179a367a7911a5bbdcf2b"), looks := true }, kinds := [], alts := [], laidByText := true, laidKinds := [.data, .data, .widerDeep, .widerDeep, .data, .data, .data, .data, .data, .data, .sentinel, .sentinel, .data, .widerDeep, .widerDeep, .widerDeep, .pinned, .pinned, .pinned], laidTests := true, laidLooks := .later }
def LibArraysUptoCardSaid : Prop := Claim7.holds Tryz.pinned (.plain (OpenSpec.upto libArraysSpec)) libArraysUptoCard

/-- THE SECOND FORM's CARD OF 'pennantlaw10.LibSplit'. -/
def libSplitUptoCard : Claim7 := { stood := { row := libSplitUptoRow, standIns := [], harness := (true, "66258357730f4750c164d2304a96276ef5615b0ac3f179a367a7911a5bbdcf2b"), looks := true }, kinds := [], alts := [], laidByText := true, laidKinds := [.data, .data, .widerDeep, .widerDeep, .data, .data, .data, .data, .data, .data, .sentinel, .sentinel, .data, .widerDeep, .widerDeep, .widerDeep, .pinned, .pinned, .pinned], laidTests := true, laidLooks := .later }
def LibSplitUptoCardSaid : Prop := Claim7.holds Tryz.pinned (.plain (OpenSpec.upto libSplitSpec)) libSplitUptoCard

/-- THE SECOND FORM's CARD OF 'pennantlaw10.LibInts'. -/
def libIntsUptoCard : Claim7 := { stood := { row := libIntsUptoRow, standIns := [], harness := (true, "66258357730f4750c164d2304a96276ef5615b0ac3f179a367a7911a5bbdcf2b"), looks := true }, kinds := [], alts := [], laidByText := true, laidKinds := [.data, .data, .widerDeep, .widerDeep, .data, .data, .data, .data, .data, .data, .sentinel, .sentinel, .data, .widerDeep, .widerDeep, .widerDeep, .pinned, .pinned, .pinned], laidTests := true, laidLooks := .later }
def LibIntsUptoCardSaid : Prop := Claim7.holds Tryz.pinned (.plain (OpenSpec.upto libIntsSpec)) libIntsUptoCard

/-- THE SECOND FORM's CARD OF 'pennantlaw10.LibBack'. -/
def libBackUptoCard : Claim7 := { stood := { row := libBackUptoRow, standIns := [], harness := (true, "66258357730f4750c164d2304a96276ef5615b0ac3f179a367a7911a5bbdcf2b"), looks := true }, kinds := [], alts := [], laidByText := true, laidKinds := [.data, .data, .widerDeep, .widerDeep, .data, .data, .data, .data, .data, .data, .sentinel, .sentinel, .data, .widerDeep, .widerDeep, .widerDeep, .pinned, .pinned, .pinned], laidTests := true, laidLooks := .later }
def LibBackUptoCardSaid : Prop := Claim7.holds Tryz.pinned (.plain (OpenSpec.upto libBackSpec)) libBackUptoCard
end Rows
end Go.Proofs.YtgdolcoiihagfaaGreatDoor
