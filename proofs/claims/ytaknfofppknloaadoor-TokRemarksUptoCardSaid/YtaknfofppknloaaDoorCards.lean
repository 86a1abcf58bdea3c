/-
  DERIVED. GIVEN WITH THE SEED: THE CARDS: each row of YtaknfofppknloaaDoorRows.lean that lists a variable, with what it lists TIED to the program's text (the seventh form; the later family's looks); each row that meets fmt, with fmt's text TOLD by the authors' own Lean function (tested against real Go, not proved from fmt's source: count such statements apart). THE CARD IS WHAT COUNTS. Prove the row's statement (the work); the ties are given (YtaknfofppknloaaDoorTie.lean); close each card by the builder's one call (the guide's Derived/Test/ToyasCard.lean, 'card_holds'). Laid BY PROGRAM, IN A SANDBOX (cutbox-door.mjs). By AI agents, Wed Nov 11 2026. No macro, syntax, notation, axiom, sorry.
-/
import Derived.Test.YtaknfofppknloaaDoorRows
import GoSem.ClaimSeven
namespace Go.Proofs.YtaknfofppknloaaDoor
namespace Rows

/-- THE TIED CARD OF 'pennantlaw02.TokRises'. -/
def tokRisesCard : Claim7 := { stood := { row := tokRisesRow, standIns := [], harness := (true, "58173f8344dad0c61718c38b16f4e3f1cc741d1f1a28481f1e978cf0cb001176"), looks := true }, kinds := [], alts := [], laidByText := true, laidKinds := [.data, .handle, .data, .data, .pinned, .pinned], laidTests := true, laidLooks := .later }
def TokRisesCardSaid : Prop := Claim7.holds Tryd.pinned (.plain (OpenSpec.ofChange tokRisesSpec)) tokRisesCard

/-- THE TIED CARD OF 'pennantlaw02.TokRemarks'. -/
def tokRemarksCard : Claim7 := { stood := { row := tokRemarksRow, standIns := [], harness := (true, "58173f8344dad0c61718c38b16f4e3f1cc741d1f1a28481f1e978cf0cb001176"), looks := true }, kinds := [], alts := [], laidByText := true, laidKinds := [.data, .handle, .data, .data, .pinned, .pinned], laidTests := true, laidLooks := .later }
def TokRemarksCardSaid : Prop := Claim7.holds Tryd.pinned (.plain (OpenSpec.ofChange tokRemarksSpec)) tokRemarksCard

/-- THE TIED CARD OF 'pennantlaw02.TokTexts'. -/
def tokTextsCard : Claim7 := { stood := { row := tokTextsRow, standIns := [], harness := (true, "58173f8344dad0c61718c38b16f4e3f1cc741d1f1a28481f1e978cf0cb001176"), looks := true }, kinds := [], alts := [], laidByText := true, laidKinds := [.data, .handle, .data, .data, .pinned, .pinned], laidTests := true, laidLooks := .later }
def TokTextsCardSaid : Prop := Claim7.holds Tryd.pinned (.plain (OpenSpec.ofChange tokTextsSpec)) tokTextsCard

/-- THE TIED CARD OF 'pennantlaw02.TokLines'. -/
def tokLinesCard : Claim7 := { stood := { row := tokLinesRow, standIns := [], harness := (true, "58173f8344dad0c61718c38b16f4e3f1cc741d1f1a28481f1e978cf0cb001176"), looks := true }, kinds := [], alts := [], laidByText := true, laidKinds := [.data, .handle, .data, .data, .pinned, .pinned], laidTests := true, laidLooks := .later }
def TokLinesCardSaid : Prop := Claim7.holds Tryd.pinned (.plain (OpenSpec.ofChange tokLinesSpec)) tokLinesCard

/-- THE SECOND FORM's CARD OF 'pennantlaw02.TokRises'. -/
def tokRisesUptoCard : Claim7 := { stood := { row := tokRisesUptoRow, standIns := [], harness := (true, "58173f8344dad0c61718c38b16f4e3f1cc741d1f1a28481f1e978cf0cb001176"), looks := true }, kinds := [], alts := [], laidByText := true, laidKinds := [.data, .handle, .data, .data, .pinned, .pinned], laidTests := true, laidLooks := .later }
def TokRisesUptoCardSaid : Prop := Claim7.holds Tryd.pinned (.plain (OpenSpec.upto tokRisesSpec)) tokRisesUptoCard

/-- THE SECOND FORM's CARD OF 'pennantlaw02.TokRemarks'. -/
def tokRemarksUptoCard : Claim7 := { stood := { row := tokRemarksUptoRow, standIns := [], harness := (true, "58173f8344dad0c61718c38b16f4e3f1cc741d1f1a28481f1e978cf0cb001176"), looks := true }, kinds := [], alts := [], laidByText := true, laidKinds := [.data, .handle, .data, .data, .pinned, .pinned], laidTests := true, laidLooks := .later }
def TokRemarksUptoCardSaid : Prop := Claim7.holds Tryd.pinned (.plain (OpenSpec.upto tokRemarksSpec)) tokRemarksUptoCard

/-- THE SECOND FORM's CARD OF 'pennantlaw02.TokTexts'. -/
def tokTextsUptoCard : Claim7 := { stood := { row := tokTextsUptoRow, standIns := [], harness := (true, "58173f8344dad0c61718c38b16f4e3f1cc741d1f1a28481f1e978cf0cb001176"), looks := true }, kinds := [], alts := [], laidByText := true, laidKinds := [.data, .handle, .data, .data, .pinned, .pinned], laidTests := true, laidLooks := .later }
def TokTextsUptoCardSaid : Prop := Claim7.holds Tryd.pinned (.plain (OpenSpec.upto tokTextsSpec)) tokTextsUptoCard

/-- THE SECOND FORM's CARD OF 'pennantlaw02.TokLines'. -/
def tokLinesUptoCard : Claim7 := { stood := { row := tokLinesUptoRow, standIns := [], harness := (true, "58173f8344dad0c61718c38b16f4e3f1cc741d1f1a28481f1e978cf0cb001176"), looks := true }, kinds := [], alts := [], laidByText := true, laidKinds := [.data, .handle, .data, .data, .pinned, .pinned], laidTests := true, laidLooks := .later }
def TokLinesUptoCardSaid : Prop := Claim7.holds Tryd.pinned (.plain (OpenSpec.upto tokLinesSpec)) tokLinesUptoCard
end Rows
end Go.Proofs.YtaknfofppknloaaDoor
