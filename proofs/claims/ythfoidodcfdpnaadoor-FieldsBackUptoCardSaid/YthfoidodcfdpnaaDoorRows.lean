/-
  NARROWER THAN 'FOR EVERY INPUT', by the rows' own cells (each row's printed sentence says how): FieldsReads: laid · FieldsWrites: laid · FieldsBack: laid · FieldsJoins: laid · FieldsAgain: laid · FieldsMany: laid.
  DERIVED. THE GIVEN ROWS OF THIS SEAT. 6 by the template 'for every input the law returns true; each argument reads behind the call as it read before'; 0 by the template 'total and deterministic' (their statements: YthfoidodcfdpnaaDoorTotals.lean).
  GIVEN WITH THE SEED: the statements are not yours to turn. If you find one false, say at which input.
  Laid BY PROGRAM, IN A SANDBOX (cutbox-rows.mjs): the forced cells as the released guide's own fill.sh prints them over the translation d4168e2aad4b08a3… (all of the seat's roots in one cut). By AI agents, Wed Nov 11 2026. No macro, syntax, notation, axiom, sorry.
-/
import Derived.Test.YthfoidodcfdpnaaDoorChecked
import GoSem.PinnedTables
import GoSem.Claim
import GoSem.ClaimJoined
import GoSem.ClaimMapViews
import Derived.JoinedTies
import Derived.KernelRfl
namespace Go.Proofs.YthfoidodcfdpnaaDoor
/- THE CELL 'sum', in the pinned program and in every row, IS THE sha256 OF THE DUMP (.gsa) THAT YthfoidodcfdpnaaDoorProg.lean LOADS. Nothing in Lean hashes anything: it is a label: what it is worth is what the hold of that sum in a sandbox is worth. -/
noncomputable def Tryd.pinned : Pinned := { name := "ythfoidodcfdpnaadoor", sum := "d4168e2aad4b08a39dd0d9530ec45af3fc356f0ed42fda921830591030d174ad", checked := Tryd.checked }
namespace Rows
def none {H : Type} : Left H := { results := [], args := [] }

/- WHAT THE LISTED PACKAGE-LEVEL VARIABLES READ AS WHEN THE CALL BEGINS. Each datum BY PROGRAM (the guide's laid-datum.mjs) off the statement by which the dump's own 'gosem.cut.vars' lays the variable. In a bare row this is a premise. The card (YthfoidodcfdpnaaDoorCards.lean) ties it to the program's text. -/
def laid_unicode_utf8_acceptRanges {H : Type} : DataW H := .agg [.agg [.lit (.int .u8 128), .lit (.int .u8 191)], .agg [.lit (.int .u8 160), .lit (.int .u8 191)], .agg [.lit (.int .u8 128), .lit (.int .u8 159)], .agg [.lit (.int .u8 144), .lit (.int .u8 191)], .agg [.lit (.int .u8 128), .lit (.int .u8 143)], .agg [.lit (.int .u8 0), .lit (.int .u8 0)], .agg [.lit (.int .u8 0), .lit (.int .u8 0)], .agg [.lit (.int .u8 0), .lit (.int .u8 0)], .agg [.lit (.int .u8 0), .lit (.int .u8 0)], .agg [.lit (.int .u8 0), .lit (.int .u8 0)], .agg [.lit (.int .u8 0), .lit (.int .u8 0)], .agg [.lit (.int .u8 0), .lit (.int .u8 0)], .agg [.lit (.int .u8 0), .lit (.int .u8 0)], .agg [.lit (.int .u8 0), .lit (.int .u8 0)], .agg [.lit (.int .u8 0), .lit (.int .u8 0)], .agg [.lit (.int .u8 0), .lit (.int .u8 0)]]
/-- One of Go's own tables, pinned by name: the form's constant. -/
def laid_unicode_utf8_first : DataW Unit := Go.Pinned.utf8First

/-- 'pennantlaw21.FieldsReads': WHATEVER THE INPUT: true; the input reads as it did. -/
def fieldsReadsSpec : ChangeSpec := { name := "fieldsReads", fn := fun _ => fun
  | [d1, d2] => { results := [.lit (.bool true)], args := [d1, d2] }
  | _ => none }
def fieldsReadsRow : OpenClaim := { program := "ythfoidodcfdpnaadoor", sum := "d4168e2aad4b08a39dd0d9530ec45af3fc356f0ed42fda921830591030d174ad", func := "pennant/pennantlaw21.FieldsReads", spec := "fieldsReads", inPlace := ["internal/bytealg.CountString", "internal/bytealg.IndexByteString", "internal/bytealg.IndexString", "internal/abi.NoEscape", "internal/bytealg.MakeNoZero"], named := ["unicode/utf8.first", "unicode/utf8.acceptRanges", "internal/bytealg.MaxLen"], apart := false, laid := [("unicode/utf8.acceptRanges", laid_unicode_utf8_acceptRanges), ("unicode/utf8.first", laid_unicode_utf8_first)] }
def FieldsReadsSaid : Prop := fieldsReadsRow.holds Tryd.pinned (OpenSpec.ofChange fieldsReadsSpec)

/-- ITS FALSE NEIGHBOUR: 'it returns false'. Refute it at one input. -/
def fieldsReadsWrong : ChangeSpec := { name := "fieldsReads", fn := fun _ => fun
  | [d1, d2] => { results := [.lit (.bool false)], args := [d1, d2] }
  | _ => none }
def FieldsReadsWrongFalsely : Prop := fieldsReadsRow.holds Tryd.pinned (OpenSpec.ofChange fieldsReadsWrong)

/-- 'pennantlaw21.FieldsWrites': WHATEVER THE INPUT: true; the input reads as it did. -/
def fieldsWritesSpec : ChangeSpec := { name := "fieldsWrites", fn := fun _ => fun
  | [d] => { results := [.lit (.bool true)], args := [d] }
  | _ => none }
def fieldsWritesRow : OpenClaim := { program := "ythfoidodcfdpnaadoor", sum := "d4168e2aad4b08a39dd0d9530ec45af3fc356f0ed42fda921830591030d174ad", func := "pennant/pennantlaw21.FieldsWrites", spec := "fieldsWrites", inPlace := ["internal/bytealg.CountString", "internal/bytealg.IndexByteString", "internal/bytealg.IndexString", "internal/abi.NoEscape", "internal/bytealg.MakeNoZero"], named := ["unicode/utf8.first", "unicode/utf8.acceptRanges", "internal/bytealg.MaxLen"], apart := false, laid := [("unicode/utf8.acceptRanges", laid_unicode_utf8_acceptRanges), ("unicode/utf8.first", laid_unicode_utf8_first)] }
def FieldsWritesSaid : Prop := fieldsWritesRow.holds Tryd.pinned (OpenSpec.ofChange fieldsWritesSpec)

/-- ITS FALSE NEIGHBOUR: 'it returns false'. Refute it at one input. -/
def fieldsWritesWrong : ChangeSpec := { name := "fieldsWrites", fn := fun _ => fun
  | [d] => { results := [.lit (.bool false)], args := [d] }
  | _ => none }
def FieldsWritesWrongFalsely : Prop := fieldsWritesRow.holds Tryd.pinned (OpenSpec.ofChange fieldsWritesWrong)

/-- 'pennantlaw21.FieldsBack': WHATEVER THE INPUT: true; the input reads as it did. -/
def fieldsBackSpec : ChangeSpec := { name := "fieldsBack", fn := fun _ => fun
  | [d] => { results := [.lit (.bool true)], args := [d] }
  | _ => none }
def fieldsBackRow : OpenClaim := { program := "ythfoidodcfdpnaadoor", sum := "d4168e2aad4b08a39dd0d9530ec45af3fc356f0ed42fda921830591030d174ad", func := "pennant/pennantlaw21.FieldsBack", spec := "fieldsBack", inPlace := ["internal/bytealg.CountString", "internal/bytealg.IndexByteString", "internal/bytealg.IndexString", "internal/abi.NoEscape", "internal/bytealg.MakeNoZero"], named := ["unicode/utf8.first", "unicode/utf8.acceptRanges", "internal/bytealg.MaxLen"], apart := false, laid := [("unicode/utf8.acceptRanges", laid_unicode_utf8_acceptRanges), ("unicode/utf8.first", laid_unicode_utf8_first)] }
def FieldsBackSaid : Prop := fieldsBackRow.holds Tryd.pinned (OpenSpec.ofChange fieldsBackSpec)

/-- ITS FALSE NEIGHBOUR: 'it returns false'. Refute it at one input. -/
def fieldsBackWrong : ChangeSpec := { name := "fieldsBack", fn := fun _ => fun
  | [d] => { results := [.lit (.bool false)], args := [d] }
  | _ => none }
def FieldsBackWrongFalsely : Prop := fieldsBackRow.holds Tryd.pinned (OpenSpec.ofChange fieldsBackWrong)

/-- 'pennantlaw21.FieldsJoins': WHATEVER THE INPUT: true; the input reads as it did. -/
def fieldsJoinsSpec : ChangeSpec := { name := "fieldsJoins", fn := fun _ => fun
  | [d1, d2] => { results := [.lit (.bool true)], args := [d1, d2] }
  | _ => none }
def fieldsJoinsRow : OpenClaim := { program := "ythfoidodcfdpnaadoor", sum := "d4168e2aad4b08a39dd0d9530ec45af3fc356f0ed42fda921830591030d174ad", func := "pennant/pennantlaw21.FieldsJoins", spec := "fieldsJoins", inPlace := ["internal/bytealg.CountString", "internal/bytealg.IndexByteString", "internal/bytealg.IndexString", "internal/abi.NoEscape", "internal/bytealg.MakeNoZero"], named := ["unicode/utf8.first", "unicode/utf8.acceptRanges", "internal/bytealg.MaxLen"], apart := false, laid := [("unicode/utf8.acceptRanges", laid_unicode_utf8_acceptRanges), ("unicode/utf8.first", laid_unicode_utf8_first)] }
def FieldsJoinsSaid : Prop := fieldsJoinsRow.holds Tryd.pinned (OpenSpec.ofChange fieldsJoinsSpec)

/-- ITS FALSE NEIGHBOUR: 'it returns false'. Refute it at one input. -/
def fieldsJoinsWrong : ChangeSpec := { name := "fieldsJoins", fn := fun _ => fun
  | [d1, d2] => { results := [.lit (.bool false)], args := [d1, d2] }
  | _ => none }
def FieldsJoinsWrongFalsely : Prop := fieldsJoinsRow.holds Tryd.pinned (OpenSpec.ofChange fieldsJoinsWrong)

/-- 'pennantlaw21.FieldsAgain': WHATEVER THE INPUT: true; the input reads as it did. -/
def fieldsAgainSpec : ChangeSpec := { name := "fieldsAgain", fn := fun _ => fun
  | [d] => { results := [.lit (.bool true)], args := [d] }
  | _ => none }
def fieldsAgainRow : OpenClaim := { program := "ythfoidodcfdpnaadoor", sum := "d4168e2aad4b08a39dd0d9530ec45af3fc356f0ed42fda921830591030d174ad", func := "pennant/pennantlaw21.FieldsAgain", spec := "fieldsAgain", inPlace := ["internal/bytealg.CountString", "internal/bytealg.IndexByteString", "internal/bytealg.IndexString", "internal/abi.NoEscape", "internal/bytealg.MakeNoZero"], named := ["unicode/utf8.first", "unicode/utf8.acceptRanges", "internal/bytealg.MaxLen"], apart := false, laid := [("unicode/utf8.acceptRanges", laid_unicode_utf8_acceptRanges), ("unicode/utf8.first", laid_unicode_utf8_first)] }
def FieldsAgainSaid : Prop := fieldsAgainRow.holds Tryd.pinned (OpenSpec.ofChange fieldsAgainSpec)

/-- ITS FALSE NEIGHBOUR: 'it returns false'. Refute it at one input. -/
def fieldsAgainWrong : ChangeSpec := { name := "fieldsAgain", fn := fun _ => fun
  | [d] => { results := [.lit (.bool false)], args := [d] }
  | _ => none }
def FieldsAgainWrongFalsely : Prop := fieldsAgainRow.holds Tryd.pinned (OpenSpec.ofChange fieldsAgainWrong)

/-- 'pennantlaw21.FieldsMany': WHATEVER THE INPUT: true; the input reads as it did. -/
def fieldsManySpec : ChangeSpec := { name := "fieldsMany", fn := fun _ => fun
  | [d1, d2] => { results := [.lit (.bool true)], args := [d1, d2] }
  | _ => none }
def fieldsManyRow : OpenClaim := { program := "ythfoidodcfdpnaadoor", sum := "d4168e2aad4b08a39dd0d9530ec45af3fc356f0ed42fda921830591030d174ad", func := "pennant/pennantlaw21.FieldsMany", spec := "fieldsMany", inPlace := ["internal/bytealg.CountString", "internal/bytealg.IndexByteString", "internal/bytealg.IndexString", "internal/abi.NoEscape", "internal/bytealg.MakeNoZero"], named := ["unicode/utf8.first", "unicode/utf8.acceptRanges", "internal/bytealg.MaxLen"], apart := false, laid := [("unicode/utf8.acceptRanges", laid_unicode_utf8_acceptRanges), ("unicode/utf8.first", laid_unicode_utf8_first)] }
def FieldsManySaid : Prop := fieldsManyRow.holds Tryd.pinned (OpenSpec.ofChange fieldsManySpec)

/-- ITS FALSE NEIGHBOUR: 'it returns false'. Refute it at one input. -/
def fieldsManyWrong : ChangeSpec := { name := "fieldsMany", fn := fun _ => fun
  | [d1, d2] => { results := [.lit (.bool false)], args := [d1, d2] }
  | _ => none }
def FieldsManyWrongFalsely : Prop := fieldsManyRow.holds Tryd.pinned (OpenSpec.ofChange fieldsManyWrong)

/- THE SECOND FORM. 'bulk': how many values and letters a reading holds, each counted each time it is reached (what is shared counts as often as it is met; a slice's spare places count too). A statement '..UptoSaid' is the law's where the arguments, and the package variables that the reading takes, are together of bulk at most 1048576: NARROWER than '..Said'. Prove '..Said' where nothing that the law and all that it calls make is longer than what came in: it says more and counts as full. Else prove '..UptoSaid'. A law counts once. -/
mutual
def uptoBulk {H : Type} : DataW H → Nat
  | .lit (.string bytes) => bytes.length + 1
  | .lit _ => 1
  | .nil => 1
  | .ptr d => uptoBulk d + 1
  | .slice elems spare => uptoBulkAll elems + uptoBulkAll spare + 1
  | .agg parts => uptoBulkAll parts + 1
  | .iface _ d => uptoBulk d + 1
  | .map entries => uptoBulkEntries entries + 1
  | .held _ => 1
def uptoBulkAll {H : Type} : List (DataW H) → Nat
  | [] => 0
  | d :: r => uptoBulk d + uptoBulkAll r
def uptoBulkEntries {H : Type} : List (Lit × DataW H) → Nat
  | [] => 0
  | x :: r => uptoBulkEntry x + uptoBulkEntries r
def uptoBulkEntry {H : Type} : Lit × DataW H → Nat
  | (.string bytes, d) => bytes.length + uptoBulk d + 1
  | (_, d) => uptoBulk d + 1
 end
def uptoSmall : (H : Type) → List (DataW H) → Bool := fun _ ds => decide (uptoBulkAll ds ≤ 1048576)
def OpenSpec.upto (s : _root_.Go.ChangeSpec) : _root_.Go.OpenSpec := { _root_.Go.OpenSpec.ofChange s with cond := some uptoSmall }

/-- 'pennantlaw21.FieldsReads', WHERE WHAT IT READS IS OF BULK AT MOST 1048576: true; the input reads as it did. -/
def fieldsReadsUptoRow : OpenClaim := { program := "ythfoidodcfdpnaadoor", sum := "d4168e2aad4b08a39dd0d9530ec45af3fc356f0ed42fda921830591030d174ad", func := "pennant/pennantlaw21.FieldsReads", spec := "fieldsReads", inPlace := ["internal/bytealg.CountString", "internal/bytealg.IndexByteString", "internal/bytealg.IndexString", "internal/abi.NoEscape", "internal/bytealg.MakeNoZero"], named := ["unicode/utf8.first", "unicode/utf8.acceptRanges", "internal/bytealg.MaxLen"], apart := false, laid := [("unicode/utf8.acceptRanges", laid_unicode_utf8_acceptRanges), ("unicode/utf8.first", laid_unicode_utf8_first)], narrowed := true }
def FieldsReadsUptoSaid : Prop := fieldsReadsUptoRow.holds Tryd.pinned (OpenSpec.upto fieldsReadsSpec)

/-- 'pennantlaw21.FieldsWrites', WHERE WHAT IT READS IS OF BULK AT MOST 1048576: true; the input reads as it did. -/
def fieldsWritesUptoRow : OpenClaim := { program := "ythfoidodcfdpnaadoor", sum := "d4168e2aad4b08a39dd0d9530ec45af3fc356f0ed42fda921830591030d174ad", func := "pennant/pennantlaw21.FieldsWrites", spec := "fieldsWrites", inPlace := ["internal/bytealg.CountString", "internal/bytealg.IndexByteString", "internal/bytealg.IndexString", "internal/abi.NoEscape", "internal/bytealg.MakeNoZero"], named := ["unicode/utf8.first", "unicode/utf8.acceptRanges", "internal/bytealg.MaxLen"], apart := false, laid := [("unicode/utf8.acceptRanges", laid_unicode_utf8_acceptRanges), ("unicode/utf8.first", laid_unicode_utf8_first)], narrowed := true }
def FieldsWritesUptoSaid : Prop := fieldsWritesUptoRow.holds Tryd.pinned (OpenSpec.upto fieldsWritesSpec)

/-- 'pennantlaw21.FieldsBack', WHERE WHAT IT READS IS OF BULK AT MOST 1048576: true; the input reads as it did. -/
def fieldsBackUptoRow : OpenClaim := { program := "ythfoidodcfdpnaadoor", sum := "d4168e2aad4b08a39dd0d9530ec45af3fc356f0ed42fda921830591030d174ad", func := "pennant/pennantlaw21.FieldsBack", spec := "fieldsBack", inPlace := ["internal/bytealg.CountString", "internal/bytealg.IndexByteString", "internal/bytealg.IndexString", "internal/abi.NoEscape", "internal/bytealg.MakeNoZero"], named := ["unicode/utf8.first", "unicode/utf8.acceptRanges", "internal/bytealg.MaxLen"], apart := false, laid := [("unicode/utf8.acceptRanges", laid_unicode_utf8_acceptRanges), ("unicode/utf8.first", laid_unicode_utf8_first)], narrowed := true }
def FieldsBackUptoSaid : Prop := fieldsBackUptoRow.holds Tryd.pinned (OpenSpec.upto fieldsBackSpec)

/-- 'pennantlaw21.FieldsJoins', WHERE WHAT IT READS IS OF BULK AT MOST 1048576: true; the input reads as it did. -/
def fieldsJoinsUptoRow : OpenClaim := { program := "ythfoidodcfdpnaadoor", sum := "d4168e2aad4b08a39dd0d9530ec45af3fc356f0ed42fda921830591030d174ad", func := "pennant/pennantlaw21.FieldsJoins", spec := "fieldsJoins", inPlace := ["internal/bytealg.CountString", "internal/bytealg.IndexByteString", "internal/bytealg.IndexString", "internal/abi.NoEscape", "internal/bytealg.MakeNoZero"], named := ["unicode/utf8.first", "unicode/utf8.acceptRanges", "internal/bytealg.MaxLen"], apart := false, laid := [("unicode/utf8.acceptRanges", laid_unicode_utf8_acceptRanges), ("unicode/utf8.first", laid_unicode_utf8_first)], narrowed := true }
def FieldsJoinsUptoSaid : Prop := fieldsJoinsUptoRow.holds Tryd.pinned (OpenSpec.upto fieldsJoinsSpec)

/-- 'pennantlaw21.FieldsAgain', WHERE WHAT IT READS IS OF BULK AT MOST 1048576: true; the input reads as it did. -/
def fieldsAgainUptoRow : OpenClaim := { program := "ythfoidodcfdpnaadoor", sum := "d4168e2aad4b08a39dd0d9530ec45af3fc356f0ed42fda921830591030d174ad", func := "pennant/pennantlaw21.FieldsAgain", spec := "fieldsAgain", inPlace := ["internal/bytealg.CountString", "internal/bytealg.IndexByteString", "internal/bytealg.IndexString", "internal/abi.NoEscape", "internal/bytealg.MakeNoZero"], named := ["unicode/utf8.first", "unicode/utf8.acceptRanges", "internal/bytealg.MaxLen"], apart := false, laid := [("unicode/utf8.acceptRanges", laid_unicode_utf8_acceptRanges), ("unicode/utf8.first", laid_unicode_utf8_first)], narrowed := true }
def FieldsAgainUptoSaid : Prop := fieldsAgainUptoRow.holds Tryd.pinned (OpenSpec.upto fieldsAgainSpec)

/-- 'pennantlaw21.FieldsMany', WHERE WHAT IT READS IS OF BULK AT MOST 1048576: true; the input reads as it did. -/
def fieldsManyUptoRow : OpenClaim := { program := "ythfoidodcfdpnaadoor", sum := "d4168e2aad4b08a39dd0d9530ec45af3fc356f0ed42fda921830591030d174ad", func := "pennant/pennantlaw21.FieldsMany", spec := "fieldsMany", inPlace := ["internal/bytealg.CountString", "internal/bytealg.IndexByteString", "internal/bytealg.IndexString", "internal/abi.NoEscape", "internal/bytealg.MakeNoZero"], named := ["unicode/utf8.first", "unicode/utf8.acceptRanges", "internal/bytealg.MaxLen"], apart := false, laid := [("unicode/utf8.acceptRanges", laid_unicode_utf8_acceptRanges), ("unicode/utf8.first", laid_unicode_utf8_first)], narrowed := true }
def FieldsManyUptoSaid : Prop := fieldsManyUptoRow.holds Tryd.pinned (OpenSpec.upto fieldsManySpec)

end Rows
end Go.Proofs.YthfoidodcfdpnaaDoor
