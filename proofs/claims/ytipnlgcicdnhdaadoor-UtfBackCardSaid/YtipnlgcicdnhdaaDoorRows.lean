/-
  NARROWER THAN 'FOR EVERY INPUT', by the rows' own cells (each row's printed sentence says how): UtfTurns: laid · UtfNext: laid · UtfBack: laid · UtfJoins: laid · UtfCuts: laid · UtfCases: laid · UtfFinds: laid · UtfParts: laid.
  DERIVED. THE GIVEN ROWS OF THIS SEAT. 8 by the template 'for every input the law returns true; each argument reads behind the call as it read before'; 0 by the template 'total and deterministic' (their statements: YtipnlgcicdnhdaaDoorTotals.lean).
  GIVEN WITH THE SEED: the statements are not yours to turn. If you find one false, say at which input.
  Laid BY PROGRAM, IN A SANDBOX (cutbox-rows.mjs): the forced cells as the released guide's own fill.sh prints them over the translation 8aa109520c519082… (all of the seat's roots in one cut). By AI agents, Wed Nov 11 2026. No macro, syntax, notation, axiom, sorry.
-/
import Derived.Test.YtipnlgcicdnhdaaDoorChecked
import GoSem.PinnedTables
import GoSem.Claim
import GoSem.ClaimJoined
import GoSem.ClaimMapViews
import Derived.JoinedTies
import Derived.KernelRfl
namespace Go.Proofs.YtipnlgcicdnhdaaDoor
/- THE CELL 'sum', in the pinned program and in every row, IS THE sha256 OF THE DUMP (.gsa) THAT YtipnlgcicdnhdaaDoorProg.lean LOADS. Nothing in Lean hashes anything: it is a label: what it is worth is what the hold of that sum in a sandbox is worth. -/
noncomputable def Tryd.pinned : Pinned := { name := "ytipnlgcicdnhdaadoor", sum := "8aa109520c5190827e3a4a1bc68fa4a5a5d388821de8271289756fc9ceeab17f", checked := Tryd.checked }
namespace Rows
def none {H : Type} : Left H := { results := [], args := [] }

/- WHAT THE LISTED PACKAGE-LEVEL VARIABLES READ AS WHEN THE CALL BEGINS. Each datum BY PROGRAM (the guide's laid-datum.mjs) off the statement by which the dump's own 'gosem.cut.vars' lays the variable. In a bare row this is a premise. The card (YtipnlgcicdnhdaaDoorCards.lean) ties it to the program's text. -/
def laid_unicode_utf8_acceptRanges {H : Type} : DataW H := .agg [.agg [.lit (.int .u8 128), .lit (.int .u8 191)], .agg [.lit (.int .u8 160), .lit (.int .u8 191)], .agg [.lit (.int .u8 128), .lit (.int .u8 159)], .agg [.lit (.int .u8 144), .lit (.int .u8 191)], .agg [.lit (.int .u8 128), .lit (.int .u8 143)], .agg [.lit (.int .u8 0), .lit (.int .u8 0)], .agg [.lit (.int .u8 0), .lit (.int .u8 0)], .agg [.lit (.int .u8 0), .lit (.int .u8 0)], .agg [.lit (.int .u8 0), .lit (.int .u8 0)], .agg [.lit (.int .u8 0), .lit (.int .u8 0)], .agg [.lit (.int .u8 0), .lit (.int .u8 0)], .agg [.lit (.int .u8 0), .lit (.int .u8 0)], .agg [.lit (.int .u8 0), .lit (.int .u8 0)], .agg [.lit (.int .u8 0), .lit (.int .u8 0)], .agg [.lit (.int .u8 0), .lit (.int .u8 0)], .agg [.lit (.int .u8 0), .lit (.int .u8 0)]]
/-- One of Go's own tables, pinned by name: the form's constant. -/
def laid_unicode_utf8_first : DataW Unit := Go.Pinned.utf8First

/-- 'pennantlaw01.UtfTurns': WHATEVER THE INPUT: true; the input reads as it did. -/
def utfTurnsSpec : ChangeSpec := { name := "utfTurns", fn := fun _ => fun
  | [d1, d2] => { results := [.lit (.bool true)], args := [d1, d2] }
  | _ => none }
def utfTurnsRow : OpenClaim := { program := "ytipnlgcicdnhdaadoor", sum := "8aa109520c5190827e3a4a1bc68fa4a5a5d388821de8271289756fc9ceeab17f", func := "pennant/pennantlaw01.UtfTurns", spec := "utfTurns", named := ["unicode/utf8.first", "unicode/utf8.acceptRanges"], apart := false, laid := [("unicode/utf8.acceptRanges", laid_unicode_utf8_acceptRanges), ("unicode/utf8.first", laid_unicode_utf8_first)] }
def UtfTurnsSaid : Prop := utfTurnsRow.holds Tryd.pinned (OpenSpec.ofChange utfTurnsSpec)

/-- ITS FALSE NEIGHBOUR: 'it returns false'. Refute it at one input. -/
def utfTurnsWrong : ChangeSpec := { name := "utfTurns", fn := fun _ => fun
  | [d1, d2] => { results := [.lit (.bool false)], args := [d1, d2] }
  | _ => none }
def UtfTurnsWrongFalsely : Prop := utfTurnsRow.holds Tryd.pinned (OpenSpec.ofChange utfTurnsWrong)

/-- 'pennantlaw01.UtfNext': WHATEVER THE INPUT: true; the input reads as it did. -/
def utfNextSpec : ChangeSpec := { name := "utfNext", fn := fun _ => fun
  | [d1, d2] => { results := [.lit (.bool true)], args := [d1, d2] }
  | _ => none }
def utfNextRow : OpenClaim := { program := "ytipnlgcicdnhdaadoor", sum := "8aa109520c5190827e3a4a1bc68fa4a5a5d388821de8271289756fc9ceeab17f", func := "pennant/pennantlaw01.UtfNext", spec := "utfNext", named := ["unicode/utf8.first", "unicode/utf8.acceptRanges"], apart := false, laid := [("unicode/utf8.acceptRanges", laid_unicode_utf8_acceptRanges), ("unicode/utf8.first", laid_unicode_utf8_first)] }
def UtfNextSaid : Prop := utfNextRow.holds Tryd.pinned (OpenSpec.ofChange utfNextSpec)

/-- ITS FALSE NEIGHBOUR: 'it returns false'. Refute it at one input. -/
def utfNextWrong : ChangeSpec := { name := "utfNext", fn := fun _ => fun
  | [d1, d2] => { results := [.lit (.bool false)], args := [d1, d2] }
  | _ => none }
def UtfNextWrongFalsely : Prop := utfNextRow.holds Tryd.pinned (OpenSpec.ofChange utfNextWrong)

/-- 'pennantlaw01.UtfBack': WHATEVER THE INPUT: true; the input reads as it did. -/
def utfBackSpec : ChangeSpec := { name := "utfBack", fn := fun _ => fun
  | [d1, d2] => { results := [.lit (.bool true)], args := [d1, d2] }
  | _ => none }
def utfBackRow : OpenClaim := { program := "ytipnlgcicdnhdaadoor", sum := "8aa109520c5190827e3a4a1bc68fa4a5a5d388821de8271289756fc9ceeab17f", func := "pennant/pennantlaw01.UtfBack", spec := "utfBack", named := ["unicode/utf8.first", "unicode/utf8.acceptRanges"], apart := false, laid := [("unicode/utf8.acceptRanges", laid_unicode_utf8_acceptRanges), ("unicode/utf8.first", laid_unicode_utf8_first)] }
def UtfBackSaid : Prop := utfBackRow.holds Tryd.pinned (OpenSpec.ofChange utfBackSpec)

/-- ITS FALSE NEIGHBOUR: 'it returns false'. Refute it at one input. -/
def utfBackWrong : ChangeSpec := { name := "utfBack", fn := fun _ => fun
  | [d1, d2] => { results := [.lit (.bool false)], args := [d1, d2] }
  | _ => none }
def UtfBackWrongFalsely : Prop := utfBackRow.holds Tryd.pinned (OpenSpec.ofChange utfBackWrong)

/-- 'pennantlaw01.UtfJoins': WHATEVER THE INPUT: true; the input reads as it did. -/
def utfJoinsSpec : ChangeSpec := { name := "utfJoins", fn := fun _ => fun
  | [d1, d2] => { results := [.lit (.bool true)], args := [d1, d2] }
  | _ => none }
def utfJoinsRow : OpenClaim := { program := "ytipnlgcicdnhdaadoor", sum := "8aa109520c5190827e3a4a1bc68fa4a5a5d388821de8271289756fc9ceeab17f", func := "pennant/pennantlaw01.UtfJoins", spec := "utfJoins", named := ["unicode/utf8.first", "unicode/utf8.acceptRanges"], apart := false, laid := [("unicode/utf8.acceptRanges", laid_unicode_utf8_acceptRanges), ("unicode/utf8.first", laid_unicode_utf8_first)] }
def UtfJoinsSaid : Prop := utfJoinsRow.holds Tryd.pinned (OpenSpec.ofChange utfJoinsSpec)

/-- ITS FALSE NEIGHBOUR: 'it returns false'. Refute it at one input. -/
def utfJoinsWrong : ChangeSpec := { name := "utfJoins", fn := fun _ => fun
  | [d1, d2] => { results := [.lit (.bool false)], args := [d1, d2] }
  | _ => none }
def UtfJoinsWrongFalsely : Prop := utfJoinsRow.holds Tryd.pinned (OpenSpec.ofChange utfJoinsWrong)

/-- 'pennantlaw01.UtfCuts': WHATEVER THE INPUT: true; the input reads as it did. -/
def utfCutsSpec : ChangeSpec := { name := "utfCuts", fn := fun _ => fun
  | [d1, d2] => { results := [.lit (.bool true)], args := [d1, d2] }
  | _ => none }
def utfCutsRow : OpenClaim := { program := "ytipnlgcicdnhdaadoor", sum := "8aa109520c5190827e3a4a1bc68fa4a5a5d388821de8271289756fc9ceeab17f", func := "pennant/pennantlaw01.UtfCuts", spec := "utfCuts", named := ["unicode/utf8.first", "unicode/utf8.acceptRanges"], apart := false, laid := [("unicode/utf8.acceptRanges", laid_unicode_utf8_acceptRanges), ("unicode/utf8.first", laid_unicode_utf8_first)] }
def UtfCutsSaid : Prop := utfCutsRow.holds Tryd.pinned (OpenSpec.ofChange utfCutsSpec)

/-- ITS FALSE NEIGHBOUR: 'it returns false'. Refute it at one input. -/
def utfCutsWrong : ChangeSpec := { name := "utfCuts", fn := fun _ => fun
  | [d1, d2] => { results := [.lit (.bool false)], args := [d1, d2] }
  | _ => none }
def UtfCutsWrongFalsely : Prop := utfCutsRow.holds Tryd.pinned (OpenSpec.ofChange utfCutsWrong)

/-- 'pennantlaw01.UtfCases': WHATEVER THE INPUT: true; the input reads as it did. -/
def utfCasesSpec : ChangeSpec := { name := "utfCases", fn := fun _ => fun
  | [d] => { results := [.lit (.bool true)], args := [d] }
  | _ => none }
def utfCasesRow : OpenClaim := { program := "ytipnlgcicdnhdaadoor", sum := "8aa109520c5190827e3a4a1bc68fa4a5a5d388821de8271289756fc9ceeab17f", func := "pennant/pennantlaw01.UtfCases", spec := "utfCases", named := ["unicode/utf8.first", "unicode/utf8.acceptRanges"], apart := false, laid := [("unicode/utf8.acceptRanges", laid_unicode_utf8_acceptRanges), ("unicode/utf8.first", laid_unicode_utf8_first)] }
def UtfCasesSaid : Prop := utfCasesRow.holds Tryd.pinned (OpenSpec.ofChange utfCasesSpec)

/-- ITS FALSE NEIGHBOUR: 'it returns false'. Refute it at one input. -/
def utfCasesWrong : ChangeSpec := { name := "utfCases", fn := fun _ => fun
  | [d] => { results := [.lit (.bool false)], args := [d] }
  | _ => none }
def UtfCasesWrongFalsely : Prop := utfCasesRow.holds Tryd.pinned (OpenSpec.ofChange utfCasesWrong)

/-- 'pennantlaw01.UtfFinds': WHATEVER THE INPUT: true; the input reads as it did. -/
def utfFindsSpec : ChangeSpec := { name := "utfFinds", fn := fun _ => fun
  | [d1, d2, d3] => { results := [.lit (.bool true)], args := [d1, d2, d3] }
  | _ => none }
def utfFindsRow : OpenClaim := { program := "ytipnlgcicdnhdaadoor", sum := "8aa109520c5190827e3a4a1bc68fa4a5a5d388821de8271289756fc9ceeab17f", func := "pennant/pennantlaw01.UtfFinds", spec := "utfFinds", named := ["unicode/utf8.first", "unicode/utf8.acceptRanges"], apart := false, laid := [("unicode/utf8.acceptRanges", laid_unicode_utf8_acceptRanges), ("unicode/utf8.first", laid_unicode_utf8_first)] }
def UtfFindsSaid : Prop := utfFindsRow.holds Tryd.pinned (OpenSpec.ofChange utfFindsSpec)

/-- ITS FALSE NEIGHBOUR: 'it returns false'. Refute it at one input. -/
def utfFindsWrong : ChangeSpec := { name := "utfFinds", fn := fun _ => fun
  | [d1, d2, d3] => { results := [.lit (.bool false)], args := [d1, d2, d3] }
  | _ => none }
def UtfFindsWrongFalsely : Prop := utfFindsRow.holds Tryd.pinned (OpenSpec.ofChange utfFindsWrong)

/-- 'pennantlaw01.UtfParts': WHATEVER THE INPUT: true; the input reads as it did. -/
def utfPartsSpec : ChangeSpec := { name := "utfParts", fn := fun _ => fun
  | [d1, d2, d3] => { results := [.lit (.bool true)], args := [d1, d2, d3] }
  | _ => none }
def utfPartsRow : OpenClaim := { program := "ytipnlgcicdnhdaadoor", sum := "8aa109520c5190827e3a4a1bc68fa4a5a5d388821de8271289756fc9ceeab17f", func := "pennant/pennantlaw01.UtfParts", spec := "utfParts", named := ["unicode/utf8.first", "unicode/utf8.acceptRanges"], apart := false, laid := [("unicode/utf8.acceptRanges", laid_unicode_utf8_acceptRanges), ("unicode/utf8.first", laid_unicode_utf8_first)] }
def UtfPartsSaid : Prop := utfPartsRow.holds Tryd.pinned (OpenSpec.ofChange utfPartsSpec)

/-- ITS FALSE NEIGHBOUR: 'it returns false'. Refute it at one input. -/
def utfPartsWrong : ChangeSpec := { name := "utfParts", fn := fun _ => fun
  | [d1, d2, d3] => { results := [.lit (.bool false)], args := [d1, d2, d3] }
  | _ => none }
def UtfPartsWrongFalsely : Prop := utfPartsRow.holds Tryd.pinned (OpenSpec.ofChange utfPartsWrong)

/- THE SECOND FORM. 'bulk': how many values and letters a reading holds, each counted each time it is reached (what is shared counts as often as it is met; a slice's spare places count too). A statement '..UptoSaid' is the law's where the arguments, and the package variables that the reading takes, are together of bulk at most 1048576: NARROWER than '..Said'. Prove '..Said' where nothing that the law and all that it calls make is longer than what came in: it says more and counts as full. Else prove '..UptoSaid'. A law counts once. -/
mutual
def uptoBulk {H : Type} : DataW H → Nat
  | .lit (.string bytes) => bytes.length + 1
  | .lit _ => 1
  | .nil => 1
  | .ptr d => uptoBulk d + 1
  | .slice elems spare => uptoBulkAll elems + uptoBulkAll spare + 1
  | .agg parts => uptoBulkAll parts + 1
  | .iface _ d => uptoBulk d + 1
  | .map entries => uptoBulkEntries entries + 1
  | .held _ => 1
def uptoBulkAll {H : Type} : List (DataW H) → Nat
  | [] => 0
  | d :: r => uptoBulk d + uptoBulkAll r
def uptoBulkEntries {H : Type} : List (Lit × DataW H) → Nat
  | [] => 0
  | x :: r => uptoBulkEntry x + uptoBulkEntries r
def uptoBulkEntry {H : Type} : Lit × DataW H → Nat
  | (.string bytes, d) => bytes.length + uptoBulk d + 1
  | (_, d) => uptoBulk d + 1
 end
def uptoSmall : (H : Type) → List (DataW H) → Bool := fun _ ds => decide (uptoBulkAll ds ≤ 1048576)
def OpenSpec.upto (s : _root_.Go.ChangeSpec) : _root_.Go.OpenSpec := { _root_.Go.OpenSpec.ofChange s with cond := some uptoSmall }

/-- 'pennantlaw01.UtfTurns', WHERE WHAT IT READS IS OF BULK AT MOST 1048576: true; the input reads as it did. -/
def utfTurnsUptoRow : OpenClaim := { program := "ytipnlgcicdnhdaadoor", sum := "8aa109520c5190827e3a4a1bc68fa4a5a5d388821de8271289756fc9ceeab17f", func := "pennant/pennantlaw01.UtfTurns", spec := "utfTurns", named := ["unicode/utf8.first", "unicode/utf8.acceptRanges"], apart := false, laid := [("unicode/utf8.acceptRanges", laid_unicode_utf8_acceptRanges), ("unicode/utf8.first", laid_unicode_utf8_first)], narrowed := true }
def UtfTurnsUptoSaid : Prop := utfTurnsUptoRow.holds Tryd.pinned (OpenSpec.upto utfTurnsSpec)

/-- 'pennantlaw01.UtfNext', WHERE WHAT IT READS IS OF BULK AT MOST 1048576: true; the input reads as it did. -/
def utfNextUptoRow : OpenClaim := { program := "ytipnlgcicdnhdaadoor", sum := "8aa109520c5190827e3a4a1bc68fa4a5a5d388821de8271289756fc9ceeab17f", func := "pennant/pennantlaw01.UtfNext", spec := "utfNext", named := ["unicode/utf8.first", "unicode/utf8.acceptRanges"], apart := false, laid := [("unicode/utf8.acceptRanges", laid_unicode_utf8_acceptRanges), ("unicode/utf8.first", laid_unicode_utf8_first)], narrowed := true }
def UtfNextUptoSaid : Prop := utfNextUptoRow.holds Tryd.pinned (OpenSpec.upto utfNextSpec)

/-- 'pennantlaw01.UtfBack', WHERE WHAT IT READS IS OF BULK AT MOST 1048576: true; the input reads as it did. -/
def utfBackUptoRow : OpenClaim := { program := "ytipnlgcicdnhdaadoor", sum := "8aa109520c5190827e3a4a1bc68fa4a5a5d388821de8271289756fc9ceeab17f", func := "pennant/pennantlaw01.UtfBack", spec := "utfBack", named := ["unicode/utf8.first", "unicode/utf8.acceptRanges"], apart := false, laid := [("unicode/utf8.acceptRanges", laid_unicode_utf8_acceptRanges), ("unicode/utf8.first", laid_unicode_utf8_first)], narrowed := true }
def UtfBackUptoSaid : Prop := utfBackUptoRow.holds Tryd.pinned (OpenSpec.upto utfBackSpec)

/-- 'pennantlaw01.UtfJoins', WHERE WHAT IT READS IS OF BULK AT MOST 1048576: true; the input reads as it did. -/
def utfJoinsUptoRow : OpenClaim := { program := "ytipnlgcicdnhdaadoor", sum := "8aa109520c5190827e3a4a1bc68fa4a5a5d388821de8271289756fc9ceeab17f", func := "pennant/pennantlaw01.UtfJoins", spec := "utfJoins", named := ["unicode/utf8.first", "unicode/utf8.acceptRanges"], apart := false, laid := [("unicode/utf8.acceptRanges", laid_unicode_utf8_acceptRanges), ("unicode/utf8.first", laid_unicode_utf8_first)], narrowed := true }
def UtfJoinsUptoSaid : Prop := utfJoinsUptoRow.holds Tryd.pinned (OpenSpec.upto utfJoinsSpec)

/-- 'pennantlaw01.UtfCuts', WHERE WHAT IT READS IS OF BULK AT MOST 1048576: true; the input reads as it did. -/
def utfCutsUptoRow : OpenClaim := { program := "ytipnlgcicdnhdaadoor", sum := "8aa109520c5190827e3a4a1bc68fa4a5a5d388821de8271289756fc9ceeab17f", func := "pennant/pennantlaw01.UtfCuts", spec := "utfCuts", named := ["unicode/utf8.first", "unicode/utf8.acceptRanges"], apart := false, laid := [("unicode/utf8.acceptRanges", laid_unicode_utf8_acceptRanges), ("unicode/utf8.first", laid_unicode_utf8_first)], narrowed := true }
def UtfCutsUptoSaid : Prop := utfCutsUptoRow.holds Tryd.pinned (OpenSpec.upto utfCutsSpec)

/-- 'pennantlaw01.UtfCases', WHERE WHAT IT READS IS OF BULK AT MOST 1048576: true; the input reads as it did. -/
def utfCasesUptoRow : OpenClaim := { program := "ytipnlgcicdnhdaadoor", sum := "8aa109520c5190827e3a4a1bc68fa4a5a5d388821de8271289756fc9ceeab17f", func := "pennant/pennantlaw01.UtfCases", spec := "utfCases", named := ["unicode/utf8.first", "unicode/utf8.acceptRanges"], apart := false, laid := [("unicode/utf8.acceptRanges", laid_unicode_utf8_acceptRanges), ("unicode/utf8.first", laid_unicode_utf8_first)], narrowed := true }
def UtfCasesUptoSaid : Prop := utfCasesUptoRow.holds Tryd.pinned (OpenSpec.upto utfCasesSpec)

/-- 'pennantlaw01.UtfFinds', WHERE WHAT IT READS IS OF BULK AT MOST 1048576: true; the input reads as it did. -/
def utfFindsUptoRow : OpenClaim := { program := "ytipnlgcicdnhdaadoor", sum := "8aa109520c5190827e3a4a1bc68fa4a5a5d388821de8271289756fc9ceeab17f", func := "pennant/pennantlaw01.UtfFinds", spec := "utfFinds", named := ["unicode/utf8.first", "unicode/utf8.acceptRanges"], apart := false, laid := [("unicode/utf8.acceptRanges", laid_unicode_utf8_acceptRanges), ("unicode/utf8.first", laid_unicode_utf8_first)], narrowed := true }
def UtfFindsUptoSaid : Prop := utfFindsUptoRow.holds Tryd.pinned (OpenSpec.upto utfFindsSpec)

/-- 'pennantlaw01.UtfParts', WHERE WHAT IT READS IS OF BULK AT MOST 1048576: true; the input reads as it did. -/
def utfPartsUptoRow : OpenClaim := { program := "ytipnlgcicdnhdaadoor", sum := "8aa109520c5190827e3a4a1bc68fa4a5a5d388821de8271289756fc9ceeab17f", func := "pennant/pennantlaw01.UtfParts", spec := "utfParts", named := ["unicode/utf8.first", "unicode/utf8.acceptRanges"], apart := false, laid := [("unicode/utf8.acceptRanges", laid_unicode_utf8_acceptRanges), ("unicode/utf8.first", laid_unicode_utf8_first)], narrowed := true }
def UtfPartsUptoSaid : Prop := utfPartsUptoRow.holds Tryd.pinned (OpenSpec.upto utfPartsSpec)

end Rows
end Go.Proofs.YtipnlgcicdnhdaaDoor
