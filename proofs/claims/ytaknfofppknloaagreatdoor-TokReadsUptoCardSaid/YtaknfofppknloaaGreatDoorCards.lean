/-
  DERIVED. GIVEN WITH THE SEED: THE CARDS: each row of YtaknfofppknloaaGreatDoorRows.lean that lists a variable, with what it lists TIED to the program's text (the seventh form; the later family's looks); each row that meets fmt, with fmt's text TOLD by the authors' own Lean function (tested against real Go, not proved from fmt's source: count such statements apart). THE CARD IS WHAT COUNTS. Prove the row's statement (the work); the ties are given (YtaknfofppknloaaGreatDoorTie.lean); close each card by the builder's one call (the guide's Derived/Test/ToyasCard.lean, 'card_holds'). Laid BY PROGRAM, IN A SANDBOX (cutbox-door.mjs). By AI agents, Wed Nov 11 2026. No macro, syntax, notation, axiom, sorry.
-/
import Derived.Test.YtaknfofppknloaaGreatDoorRows
import GoSem.ClaimSeven
namespace Go.Proofs.YtaknfofppknloaaGreatDoor
namespace Rows

/-- THE TIED CARD OF 'pennantlaw02.TokReads'. -/
def tokReadsCard : Claim7 := { stood := { row := tokReadsRow, standIns := [], harness := (true, "796d5128449d369ac1592d940f901dc309c15081a2873126cd5ee109b4a6d29f"), looks := true }, kinds := [], alts := [], laidByText := true, laidKinds := [.data, .handle, .data, .data, .pinned, .pinned], laidTests := true, laidLooks := .later }
def TokReadsCardSaid : Prop := Claim7.holds Tryz.pinned (.plain (OpenSpec.ofChange tokReadsSpec)) tokReadsCard

/-- THE SECOND FORM's CARD OF 'pennantlaw02.TokReads'. -/
def tokReadsUptoCard : Claim7 := { stood := { row := tokReadsUptoRow, standIns := [], harness := (true, "796d5128449d369ac1592d940f901dc309c15081a2873126cd5ee109b4a6d29f"), looks := true }, kinds := [], alts := [], laidByText := true, laidKinds := [.data, .handle, .data, .data, .pinned, .pinned], laidTests := true, laidLooks := .later }
def TokReadsUptoCardSaid : Prop := Claim7.holds Tryz.pinned (.plain (OpenSpec.upto tokReadsSpec)) tokReadsUptoCard
end Rows
end Go.Proofs.YtaknfofppknloaaGreatDoor
