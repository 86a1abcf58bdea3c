/-
  DERIVED. GIVEN WITH THE SEED: THE CARDS: each row of YtlgdkaeiadhiaaaGreatDoorRows.lean that lists a variable, with what it lists TIED to the program's text (the seventh form; the later family's looks); each row that meets fmt, with fmt's text TOLD by the authors' own Lean function (tested against real Go, not proved from fmt's source: count such statements apart). THE CARD IS WHAT COUNTS. Prove the row's statement (the work); the ties are given (YtlgdkaeiadhiaaaGreatDoorTie.lean); close each card by the builder's one call (the guide's Derived/Test/ToyasCard.lean, 'card_holds'). Laid BY PROGRAM, IN A SANDBOX (cutbox-door.mjs). By AI agents, Wed Nov 11 2026. No macro, syntax, notation, axiom, sorry.
-/
import Derived.Test.YtlgdkaeiadhiaaaGreatDoorRows
import GoSem.ClaimSeven
namespace Go.Proofs.YtlgdkaeiadhiaaaGreatDoor
namespace Rows

/-- THE TIED CARD OF 'pennantlaw22.HttpReads'. -/
def httpReadsCard : Claim7 := { stood := { row := httpReadsRow, standIns := [], harness := (true, "53eba04d3808cfe98afcebd2d723564201f400ca7c8868d0fc94789435079ba5"), looks := true }, kinds := [], alts := [], laidByText := true, laidKinds := [.data, .data, .data, .data, .handle, .sentinel, .sentinel, .pinned], laidTests := true, laidLooks := .later }
def HttpReadsCardSaid : Prop := Claim7.holds Tryz.pinned (.plain (OpenSpec.ofChange httpReadsSpec)) httpReadsCard

/-- THE TIED CARD OF 'pennantlaw22.HttpBegins'. -/
def httpBeginsCard : Claim7 := { stood := { row := httpBeginsRow, standIns := [], harness := (true, "53eba04d3808cfe98afcebd2d723564201f400ca7c8868d0fc94789435079ba5"), looks := true }, kinds := [], alts := [], laidByText := true, laidKinds := [.data, .data, .data, .data, .handle, .sentinel, .sentinel, .pinned], laidTests := true, laidLooks := .later }
def HttpBeginsCardSaid : Prop := Claim7.holds Tryz.pinned (.plain (OpenSpec.ofChange httpBeginsSpec)) httpBeginsCard

/-- THE TIED CARD OF 'pennantlaw22.HttpWrites'. -/
def httpWritesCard : Claim7 := { stood := { row := httpWritesRow, standIns := [], harness := (true, "53eba04d3808cfe98afcebd2d723564201f400ca7c8868d0fc94789435079ba5"), looks := true }, kinds := [], alts := [], laidByText := true, laidKinds := [.data, .data, .data, .data, .handle, .sentinel, .sentinel, .pinned], laidTests := true, laidLooks := .later }
def HttpWritesCardSaid : Prop := Claim7.holds Tryz.pinned (.plain (OpenSpec.ofChange httpWritesSpec)) httpWritesCard

/-- THE TIED CARD OF 'pennantlaw22.HttpBack'. -/
def httpBackCard : Claim7 := { stood := { row := httpBackRow, standIns := [], harness := (true, "53eba04d3808cfe98afcebd2d723564201f400ca7c8868d0fc94789435079ba5"), looks := true }, kinds := [], alts := [], laidByText := true, laidKinds := [.data, .data, .data, .data, .handle, .sentinel, .sentinel, .pinned], laidTests := true, laidLooks := .later }
def HttpBackCardSaid : Prop := Claim7.holds Tryz.pinned (.plain (OpenSpec.ofChange httpBackSpec)) httpBackCard

/-- THE TIED CARD OF 'pennantlaw22.HttpMany'. -/
def httpManyCard : Claim7 := { stood := { row := httpManyRow, standIns := [], harness := (true, "53eba04d3808cfe98afcebd2d723564201f400ca7c8868d0fc94789435079ba5"), looks := true }, kinds := [], alts := [], laidByText := true, laidKinds := [.data, .data, .data, .data, .handle, .sentinel, .sentinel, .pinned], laidTests := true, laidLooks := .later }
def HttpManyCardSaid : Prop := Claim7.holds Tryz.pinned (.plain (OpenSpec.ofChange httpManySpec)) httpManyCard

/-- THE TIED CARD OF 'pennantlaw22.HttpBodies'. -/
def httpBodiesCard : Claim7 := { stood := { row := httpBodiesRow, standIns := [], harness := (true, "53eba04d3808cfe98afcebd2d723564201f400ca7c8868d0fc94789435079ba5"), looks := true }, kinds := [], alts := [], laidByText := true, laidKinds := [.data, .data, .data, .data, .handle, .sentinel, .sentinel, .pinned], laidTests := true, laidLooks := .later }
def HttpBodiesCardSaid : Prop := Claim7.holds Tryz.pinned (.plain (OpenSpec.ofChange httpBodiesSpec)) httpBodiesCard

/-- THE SECOND FORM's CARD OF 'pennantlaw22.HttpReads'. -/
def httpReadsUptoCard : Claim7 := { stood := { row := httpReadsUptoRow, standIns := [], harness := (true, "53eba04d3808cfe98afcebd2d723564201f400ca7c8868d0fc94789435079ba5"), looks := true }, kinds := [], alts := [], laidByText := true, laidKinds := [.data, .data, .data, .data, .handle, .sentinel, .sentinel, .pinned], laidTests := true, laidLooks := .later }
def HttpReadsUptoCardSaid : Prop := Claim7.holds Tryz.pinned (.plain (OpenSpec.upto httpReadsSpec)) httpReadsUptoCard

/-- THE SECOND FORM's CARD OF 'pennantlaw22.HttpBegins'. -/
def httpBeginsUptoCard : Claim7 := { stood := { row := httpBeginsUptoRow, standIns := [], harness := (true, "53eba04d3808cfe98afcebd2d723564201f400ca7c8868d0fc94789435079ba5"), looks := true }, kinds := [], alts := [], laidByText := true, laidKinds := [.data, .data, .data, .data, .handle, .sentinel, .sentinel, .pinned], laidTests := true, laidLooks := .later }
def HttpBeginsUptoCardSaid : Prop := Claim7.holds Tryz.pinned (.plain (OpenSpec.upto httpBeginsSpec)) httpBeginsUptoCard

/-- THE SECOND FORM's CARD OF 'pennantlaw22.HttpWrites'. -/
def httpWritesUptoCard : Claim7 := { stood := { row := httpWritesUptoRow, standIns := [], harness := (true, "53eba04d3808cfe98afcebd2d723564201f400ca7c8868d0fc94789435079ba5"), looks := true }, kinds := [], alts := [], laidByText := true, laidKinds := [.data, .data, .data, .data, .handle, .sentinel, .sentinel, .pinned], laidTests := true, laidLooks := .later }
def HttpWritesUptoCardSaid : Prop := Claim7.holds Tryz.pinned (.plain (OpenSpec.upto httpWritesSpec)) httpWritesUptoCard

/-- THE SECOND FORM's CARD OF 'pennantlaw22.HttpBack'. -/
def httpBackUptoCard : Claim7 := { stood := { row := httpBackUptoRow, standIns := [], harness := (true, "53eba04d3808cfe98afcebd2d723564201f400ca7c8868d0fc94789435079ba5"), looks := true }, kinds := [], alts := [], laidByText := true, laidKinds := [.data, .data, .data, .data, .handle, .sentinel, .sentinel, .pinned], laidTests := true, laidLooks := .later }
def HttpBackUptoCardSaid : Prop := Claim7.holds Tryz.pinned (.plain (OpenSpec.upto httpBackSpec)) httpBackUptoCard

/-- THE SECOND FORM's CARD OF 'pennantlaw22.HttpMany'. -/
def httpManyUptoCard : Claim7 := { stood := { row := httpManyUptoRow, standIns := [], harness := (true, "53eba04d3808cfe98afcebd2d723564201f400ca7c8868d0fc94789435079ba5"), looks := true }, kinds := [], alts := [], laidByText := true, laidKinds := [.data, .data, .data, .data, .handle, .sentinel, .sentinel, .pinned], laidTests := true, laidLooks := .later }
def HttpManyUptoCardSaid : Prop := Claim7.holds Tryz.pinned (.plain (OpenSpec.upto httpManySpec)) httpManyUptoCard

/-- THE SECOND FORM's CARD OF 'pennantlaw22.HttpBodies'. -/
def httpBodiesUptoCard : Claim7 := { stood := { row := httpBodiesUptoRow, standIns := [], harness := (true, "53eba04d3808cfe98afcebd2d723564201f400ca7c8868d0fc94789435079ba5"), looks := true }, kinds := [], alts := [], laidByText := true, laidKinds := [.data, .data, .data, .data, .handle, .sentinel, .sentinel, .pinned], laidTests := true, laidLooks := .later }
def HttpBodiesUptoCardSaid : Prop := Claim7.holds Tryz.pinned (.plain (OpenSpec.upto httpBodiesSpec)) httpBodiesUptoCard
end Rows
end Go.Proofs.YtlgdkaeiadhiaaaGreatDoor
