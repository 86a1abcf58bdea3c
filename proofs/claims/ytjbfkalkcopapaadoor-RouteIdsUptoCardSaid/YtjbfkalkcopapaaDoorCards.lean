/-
  DERIVED. GIVEN WITH THE SEED: THE CARDS: each row of YtjbfkalkcopapaaDoorRows.lean that lists a variable, with what it lists TIED to the program's text (the seventh form; the later family's looks); each row that meets fmt, with fmt's text TOLD by the authors' own Lean function (tested against real Go, not proved from fmt's source: count such statements apart). THE CARD IS WHAT COUNTS. Prove the row's statement (the work); the ties are given (YtjbfkalkcopapaaDoorTie.lean); close each card by the builder's one call (the guide's Derived/Test/ToyasCard.lean, 'card_holds'). Laid BY PROGRAM, IN A SANDBOX (cutbox-door.mjs). By AI agents, Wed Nov 11 2026. No macro, syntax, notation, axiom, sorry.
-/
import Derived.Test.YtjbfkalkcopapaaDoorRows
import GoSem.ClaimSeven
namespace Go.Proofs.YtjbfkalkcopapaaDoor
namespace Rows

/-- THE TIED CARD OF 'pennantlaw16.RouteFinds'. -/
def routeFindsCard : Claim7 := { stood := { row := routeFindsRow, standIns := [], harness := (true, "a0243acfa7f9d4d81393683cff6cca79c6f7e279d0503a80e46ab1fcda65936b"), looks := true }, kinds := [], alts := [], laidByText := true, laidKinds := [.data, .data, .data, .data, .sentinel, .sentinel, .pinned], laidTests := true, laidLooks := .later }
def RouteFindsCardSaid : Prop := Claim7.holds Tryd.pinned (.plain (OpenSpec.ofChange routeFindsSpec)) routeFindsCard

/-- THE TIED CARD OF 'pennantlaw16.RouteWrites'. -/
def routeWritesCard : Claim7 := { stood := { row := routeWritesRow, standIns := [], harness := (true, "a0243acfa7f9d4d81393683cff6cca79c6f7e279d0503a80e46ab1fcda65936b"), looks := true }, kinds := [], alts := [], laidByText := true, laidKinds := [.data, .data, .data, .data, .sentinel, .sentinel, .pinned], laidTests := true, laidLooks := .later }
def RouteWritesCardSaid : Prop := Claim7.holds Tryd.pinned (.plain (OpenSpec.ofChange routeWritesSpec)) routeWritesCard

/-- THE TIED CARD OF 'pennantlaw16.RouteBack'. -/
def routeBackCard : Claim7 := { stood := { row := routeBackRow, standIns := [], harness := (true, "a0243acfa7f9d4d81393683cff6cca79c6f7e279d0503a80e46ab1fcda65936b"), looks := true }, kinds := [], alts := [], laidByText := true, laidKinds := [.data, .data, .data, .data, .sentinel, .sentinel, .pinned], laidTests := true, laidLooks := .later }
def RouteBackCardSaid : Prop := Claim7.holds Tryd.pinned (.plain (OpenSpec.ofChange routeBackSpec)) routeBackCard

/-- THE TIED CARD OF 'pennantlaw16.RouteApart'. -/
def routeApartCard : Claim7 := { stood := { row := routeApartRow, standIns := [], harness := (true, "a0243acfa7f9d4d81393683cff6cca79c6f7e279d0503a80e46ab1fcda65936b"), looks := true }, kinds := [], alts := [], laidByText := true, laidKinds := [.data, .data, .data, .data, .sentinel, .sentinel, .pinned], laidTests := true, laidLooks := .later }
def RouteApartCardSaid : Prop := Claim7.holds Tryd.pinned (.plain (OpenSpec.ofChange routeApartSpec)) routeApartCard

/-- THE TIED CARD OF 'pennantlaw16.RouteIds'. -/
def routeIdsCard : Claim7 := { stood := { row := routeIdsRow, standIns := [], harness := (true, "a0243acfa7f9d4d81393683cff6cca79c6f7e279d0503a80e46ab1fcda65936b"), looks := true }, kinds := [], alts := [], laidByText := true, laidKinds := [.data, .data, .data, .data, .sentinel, .sentinel, .pinned], laidTests := true, laidLooks := .later }
def RouteIdsCardSaid : Prop := Claim7.holds Tryd.pinned (.plain (OpenSpec.ofChange routeIdsSpec)) routeIdsCard

/-- THE SECOND FORM's CARD OF 'pennantlaw16.RouteFinds'. -/
def routeFindsUptoCard : Claim7 := { stood := { row := routeFindsUptoRow, standIns := [], harness := (true, "a0243acfa7f9d4d81393683cff6cca79c6f7e279d0503a80e46ab1fcda65936b"), looks := true }, kinds := [], alts := [], laidByText := true, laidKinds := [.data, .data, .data, .data, .sentinel, .sentinel, .pinned], laidTests := true, laidLooks := .later }
def RouteFindsUptoCardSaid : Prop := Claim7.holds Tryd.pinned (.plain (OpenSpec.upto routeFindsSpec)) routeFindsUptoCard

/-- THE SECOND FORM's CARD OF 'pennantlaw16.RouteWrites'. -/
def routeWritesUptoCard : Claim7 := { stood := { row := routeWritesUptoRow, standIns := [], harness := (true, "a0243acfa7f9d4d81393683cff6cca79c6f7e279d0503a80e46ab1fcda65936b"), looks := true }, kinds := [], alts := [], laidByText := true, laidKinds := [.data, .data, .data, .data, .sentinel, .sentinel, .pinned], laidTests := true, laidLooks := .later }
def RouteWritesUptoCardSaid : Prop := Claim7.holds Tryd.pinned (.plain (OpenSpec.upto routeWritesSpec)) routeWritesUptoCard

/-- THE SECOND FORM's CARD OF 'pennantlaw16.RouteBack'. -/
def routeBackUptoCard : Claim7 := { stood := { row := routeBackUptoRow, standIns := [], harness := (true, "a0243acfa7f9d4d81393683cff6cca79c6f7e279d0503a80e46ab1fcda65936b"), looks := true }, kinds := [], alts := [], laidByText := true, laidKinds := [.data, .data, .data, .data, .sentinel, .sentinel, .pinned], laidTests := true, laidLooks := .later }
def RouteBackUptoCardSaid : Prop := Claim7.holds Tryd.pinned (.plain (OpenSpec.upto routeBackSpec)) routeBackUptoCard

/-- THE SECOND FORM's CARD OF 'pennantlaw16.RouteApart'. -/
def routeApartUptoCard : Claim7 := { stood := { row := routeApartUptoRow, standIns := [], harness := (true, "a0243acfa7f9d4d81393683cff6cca79c6f7e279d0503a80e46ab1fcda65936b"), looks := true }, kinds := [], alts := [], laidByText := true, laidKinds := [.data, .data, .data, .data, .sentinel, .sentinel, .pinned], laidTests := true, laidLooks := .later }
def RouteApartUptoCardSaid : Prop := Claim7.holds Tryd.pinned (.plain (OpenSpec.upto routeApartSpec)) routeApartUptoCard

/-- THE SECOND FORM's CARD OF 'pennantlaw16.RouteIds'. -/
def routeIdsUptoCard : Claim7 := { stood := { row := routeIdsUptoRow, standIns := [], harness := (true, "a0243acfa7f9d4d81393683cff6cca79c6f7e279d0503a80e46ab1fcda65936b"), looks := true }, kinds := [], alts := [], laidByText := true, laidKinds := [.data, .data, .data, .data, .sentinel, .sentinel, .pinned], laidTests := true, laidLooks := .later }
def RouteIdsUptoCardSaid : Prop := Claim7.holds Tryd.pinned (.plain (OpenSpec.upto routeIdsSpec)) routeIdsUptoCard
end Rows
end Go.Proofs.YtjbfkalkcopapaaDoor
