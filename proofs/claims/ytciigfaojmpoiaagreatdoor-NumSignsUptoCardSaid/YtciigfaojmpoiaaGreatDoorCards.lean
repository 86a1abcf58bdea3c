/-
  DERIVED. GIVEN WITH THE SEED: THE CARDS: each row of YtciigfaojmpoiaaGreatDoorRows.lean that lists a variable, with what it lists TIED to the program's text (the seventh form; the later family's looks); each row that meets fmt, with fmt's text TOLD by the authors' own Lean function (tested against real Go, not proved from fmt's source: count such statements apart). THE CARD IS WHAT COUNTS. Prove the row's statement (the work); the ties are given (YtciigfaojmpoiaaGreatDoorTie.lean); close each card by the builder's one call (the guide's Derived/Test/ToyasCard.lean, 'card_holds'). Laid BY PROGRAM, IN A SANDBOX (cutbox-door.mjs). By AI agents, Wed Nov 11 2026. No macro, syntax, notation, axiom, sorry.
-/
import Derived.Test.YtciigfaojmpoiaaGreatDoorRows
import GoSem.ClaimSeven
namespace Go.Proofs.YtciigfaojmpoiaaGreatDoor
namespace Rows

/-- THE TIED CARD OF 'pennantlaw04.NumCuts'. -/
def numCutsCard : Claim7 := { stood := { row := numCutsRow, standIns := [], harness := (true, "45f1198c928c34082b7a04105c068dc2f69c5d0c24cd333fa9f5fb1a2576fc0b"), looks := true }, kinds := [], alts := [], laidByText := true, laidKinds := [.data, .data, .widerDeep, .widerDeep, .data, .data, .data, .data, .data, .data, .sentinel, .sentinel, .pinned, .pinned, .pinned], laidTests := true, laidLooks := .later }
def NumCutsCardSaid : Prop := Claim7.holds Tryz.pinned (.plain (OpenSpec.ofChange numCutsSpec)) numCutsCard

/-- THE TIED CARD OF 'pennantlaw04.NumWholes'. -/
def numWholesCard : Claim7 := { stood := { row := numWholesRow, standIns := [], harness := (true, "45f1198c928c34082b7a04105c068dc2f69c5d0c24cd333fa9f5fb1a2576fc0b"), looks := true }, kinds := [], alts := [], laidByText := true, laidKinds := [.data, .data, .widerDeep, .widerDeep, .data, .data, .data, .data, .data, .data, .sentinel, .sentinel, .pinned, .pinned, .pinned], laidTests := true, laidLooks := .later }
def NumWholesCardSaid : Prop := Claim7.holds Tryz.pinned (.plain (OpenSpec.ofChange numWholesSpec)) numWholesCard

/-- THE TIED CARD OF 'pennantlaw04.NumBits'. -/
def numBitsCard : Claim7 := { stood := { row := numBitsRow, standIns := [], harness := (true, "45f1198c928c34082b7a04105c068dc2f69c5d0c24cd333fa9f5fb1a2576fc0b"), looks := true }, kinds := [], alts := [], laidByText := true, laidKinds := [.data, .data, .widerDeep, .widerDeep, .data, .data, .data, .data, .data, .data, .sentinel, .sentinel, .pinned, .pinned, .pinned], laidTests := true, laidLooks := .later }
def NumBitsCardSaid : Prop := Claim7.holds Tryz.pinned (.plain (OpenSpec.ofChange numBitsSpec)) numBitsCard

/-- THE TIED CARD OF 'pennantlaw04.NumInts'. -/
def numIntsCard : Claim7 := { stood := { row := numIntsRow, standIns := [], harness := (true, "45f1198c928c34082b7a04105c068dc2f69c5d0c24cd333fa9f5fb1a2576fc0b"), looks := true }, kinds := [], alts := [], laidByText := true, laidKinds := [.data, .data, .widerDeep, .widerDeep, .data, .data, .data, .data, .data, .data, .sentinel, .sentinel, .pinned, .pinned, .pinned], laidTests := true, laidLooks := .later }
def NumIntsCardSaid : Prop := Claim7.holds Tryz.pinned (.plain (OpenSpec.ofChange numIntsSpec)) numIntsCard

/-- THE TIED CARD OF 'pennantlaw04.NumSigns'. -/
def numSignsCard : Claim7 := { stood := { row := numSignsRow, standIns := [], harness := (true, "45f1198c928c34082b7a04105c068dc2f69c5d0c24cd333fa9f5fb1a2576fc0b"), looks := true }, kinds := [], alts := [], laidByText := true, laidKinds := [.data, .data, .widerDeep, .widerDeep, .data, .data, .data, .data, .data, .data, .sentinel, .sentinel, .pinned, .pinned, .pinned], laidTests := true, laidLooks := .later }
def NumSignsCardSaid : Prop := Claim7.holds Tryz.pinned (.plain (OpenSpec.ofChange numSignsSpec)) numSignsCard

/-- THE TIED CARD OF 'pennantlaw04.NumBack'. -/
def numBackCard : Claim7 := { stood := { row := numBackRow, standIns := [], harness := (true, "45f1198c928c34082b7a04105c068dc2f69c5d0c24cd333fa9f5fb1a2576fc0b"), looks := true }, kinds := [], alts := [], laidByText := true, laidKinds := [.data, .data, .widerDeep, .widerDeep, .data, .data, .data, .data, .data, .data, .sentinel, .sentinel, .pinned, .pinned, .pinned], laidTests := true, laidLooks := .later }
def NumBackCardSaid : Prop := Claim7.holds Tryz.pinned (.plain (OpenSpec.ofChange numBackSpec)) numBackCard

/-- THE SECOND FORM's CARD OF 'pennantlaw04.NumCuts'. -/
def numCutsUptoCard : Claim7 := { stood := { row := numCutsUptoRow, standIns := [], harness := (true, "45f1198c928c34082b7a04105c068dc2f69c5d0c24cd333fa9f5fb1a2576fc0b"), looks := true }, kinds := [], alts := [], laidByText := true, laidKinds := [.data, .data, .widerDeep, .widerDeep, .data, .data, .data, .data, .data, .data, .sentinel, .sentinel, .pinned, .pinned, .pinned], laidTests := true, laidLooks := .later }
def NumCutsUptoCardSaid : Prop := Claim7.holds Tryz.pinned (.plain (OpenSpec.upto numCutsSpec)) numCutsUptoCard

/-- THE SECOND FORM's CARD OF 'pennantlaw04.NumWholes'. -/
def numWholesUptoCard : Claim7 := { stood := { row := numWholesUptoRow, standIns := [], harness := (true, "45f1198c928c34082b7a04105c068dc2f69c5d0c24cd333fa9f5fb1a2576fc0b"), looks := true }, kinds := [], alts := [], laidByText := true, laidKinds := [.data, .data, .widerDeep, .widerDeep, .data, .data, .data, .data, .data, .data, .sentinel, .sentinel, .pinned, .pinned, .pinned], laidTests := true, laidLooks := .later }
def NumWholesUptoCardSaid : Prop := Claim7.holds Tryz.pinned (.plain (OpenSpec.upto numWholesSpec)) numWholesUptoCard

/-- THE SECOND FORM's CARD OF 'pennantlaw04.NumBits'. -/
def numBitsUptoCard : Claim7 := { stood := { row := numBitsUptoRow, standIns := [], harness := (true, "45f1198c928c34082b7a04105c068dc2f69c5d0c24cd333fa9f5fb1a2576fc0b"), looks := true }, kinds := [], alts := [], laidByText := true, laidKinds := [.data, .data, .widerDeep, .widerDeep, .data, .data, .data, .data, .data, .data, .sentinel, .sentinel, .pinned, .pinned, .pinned], laidTests := true, laidLooks := .later }
def NumBitsUptoCardSaid : Prop := Claim7.holds Tryz.pinned (.plain (OpenSpec.upto numBitsSpec)) numBitsUptoCard

/-- THE SECOND FORM's CARD OF 'pennantlaw04.NumInts'. -/
def numIntsUptoCard : Claim7 := { stood := { row := numIntsUptoRow, standIns := [], harness := (true, "45f1198c928c34082b7a04105c068dc2f69c5d0c24cd333fa9f5fb1a2576fc0b"), looks := true }, kinds := [], alts := [], laidByText := true, laidKinds := [.data, .data, .widerDeep, .widerDeep, .data, .data, .data, .data, .data, .data, .sentinel, .sentinel, .pinned, .pinned, .pinned], laidTests := true, laidLooks := .later }
def NumIntsUptoCardSaid : Prop := Claim7.holds Tryz.pinned (.plain (OpenSpec.upto numIntsSpec)) numIntsUptoCard

/-- THE SECOND FORM's CARD OF 'pennantlaw04.NumSigns'. -/
def numSignsUptoCard : Claim7 := { stood := { row := numSignsUptoRow, standIns := [], harness := (true, "45f1198c928c34082b7a04105c068dc2f69c5d0c24cd333fa9f5fb1a2576fc0b"), looks := true }, kinds := [], alts := [], laidByText := true, laidKinds := [.data, .data, .widerDeep, .widerDeep, .data, .data, .data, .data, .data, .data, .sentinel, .sentinel, .pinned, .pinned, .pinned], laidTests := true, laidLooks := .later }
def NumSignsUptoCardSaid : Prop := Claim7.holds Tryz.pinned (.plain (OpenSpec.upto numSignsSpec)) numSignsUptoCard

/-- THE SECOND FORM's CARD OF 'pennantlaw04.NumBack'. -/
def numBackUptoCard : Claim7 := { stood := { row := numBackUptoRow, standIns := [], harness := (true, "45f1198c928c34082b7a04105c068dc2f69c5d0c24cd333fa9f5fb1a2576fc0b"), looks := true }, kinds := [], alts := [], laidByText := true, laidKinds := [.data, .data, .widerDeep, .widerDeep, .data, .data, .data, .data, .data, .data, .sentinel, .sentinel, .pinned, .pinned, .pinned], laidTests := true, laidLooks := .later }
def NumBackUptoCardSaid : Prop := Claim7.holds Tryz.pinned (.plain (OpenSpec.upto numBackSpec)) numBackUptoCard
end Rows
end Go.Proofs.YtciigfaojmpoiaaGreatDoor
