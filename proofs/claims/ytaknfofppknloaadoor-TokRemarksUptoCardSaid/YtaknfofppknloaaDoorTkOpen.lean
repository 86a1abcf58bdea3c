/- What the cards of this package take: the world's facts out of the row's list, the handle among them; the witness's world. -/
import Derived.Test.YtaknfofppknloaaDoorTk23
import Derived.Test.YtaknfofppknloaaDoorLift2
import Derived.Test.YtaknfofppknloaaDoorBulk
import Derived.Clock
import Derived.Lib.LaidU8
import Derived.LaidHandle
import Derived.Stop.LaidErr
import Derived.Deep.DeepWitnessRowRef
namespace Go.Proofs.YtaknfofppknloaaDoor
open Go Go.RowKit Go.ChangeShapes Go.WideShapes Go.ChangeAt
set_option linter.all false
theorem firstEq : (Rows.laid_unicode_utf8_first : DataW Unit) = Lib.firstData := by kernel_rfl
theorem acceptEq : (Rows.laid_unicode_utf8_acceptRanges : DataW Unit) = Lib.acceptData := by kernel_rfl
theorem foldEq : (Rows.laid_unicode_asciiFold : DataW Unit) = Lib.tabData .u16 Tk.foldTab := by kernel_rfl
def plainList : List (String × DataW Unit) := [("unicode/utf8.acceptRanges", Rows.laid_unicode_utf8_acceptRanges), ("unicode.asciiFold", Rows.laid_unicode_asciiFold), ("unicode.caseOrbit", Rows.laid_unicode_caseOrbit), ("unicode.CaseRanges", Rows.laid_unicode_CaseRanges), ("unicode/utf8.first", Rows.laid_unicode_utf8_first)]
def handList : List (String × DataW Unit) := [("errors.errorType", Rows.laid_errors_errorType)]
theorem rt_row : (Tryd.prog.cutTypes.find? (·.1 == "internal/reflectlite.rtype")).map (·.2) = some 82 := by kernel_rfl
theorem err_rows : ((List.range 156).filter fun t => Tryd.prog.rowNamed t [101, 114, 114, 111, 114]) = [25] := by kernel_rfl
theorem types_size : Tryd.prog.types.size = 156 := by kernel_rfl
theorem et_name : Tryd.prog.globalNamed "errors.errorType" = some 0 := by kernel_rfl
theorem handle_et {W : World} (h : handlesMet Tryd.prog handList W) : W.cell? ⟨0, 0, none⟩ = some (.iface 82 (.agg #[.pointer (some ⟨Tryd.prog.globals.size, 25, none⟩)])) := by
  obtain ⟨name, u, ty, e1, e2, e3, e4, e5⟩ := h _ (List.mem_singleton.2 rfl)
  have en : name = [101, 114, 114, 111, 114] := (Option.some.inj e1).symm
  subst en
  obtain rfl := Option.some.inj (rt_row.symm.trans e2)
  have hm : ty ∈ (List.range 156).filter fun t => Tryd.prog.rowNamed t [101, 114, 114, 111, 114] := List.mem_filter.2 ⟨List.mem_range.2 (by rw [← types_size]; exact e3), e4⟩
  rw [err_rows] at hm
  obtain rfl := List.mem_singleton.1 hm
  have hh : typeHandle Tryd.prog 25 = .pointer (some ⟨Tryd.prog.globals.size, 25, none⟩) := by rw [globs_size]; kernel_rfl
  rw [hh] at e5
  simpa using World.var?_cell et_name e5 0
theorem tw_of {W : World} (h : laidMetH Tryd.prog Rows.tokLinesUptoRow.laid W) : Tk.TW W := by
  have h' : laidMet Tryd.prog plainList W ∧ handlesMet Tryd.prog handList W := h
  obtain ⟨h1, h2⟩ := h'
  unfold plainList at h1
  rw [firstEq, acceptEq, foldEq] at h1
  refine ⟨?_, ?_, ?_⟩
  · exact utf8Tabs_of_reads Tryd.lays260 ⟨by kernel_rfl, by kernel_rfl, by kernel_rfl, by kernel_rfl, by kernel_rfl, by kernel_rfl, by kernel_rfl⟩ (Lib.laidMet.reads h1.tail.tail.tail.tail (.head _)) (Lib.laidMet.reads h1 (.head _))
  · exact Lib.tabIs_of_head (g := 1) (t := 105) (e := 104) (n := 128) (by kernel_rfl) (by kernel_rfl) (by kernel_rfl) (by kernel_rfl) (by kernel_rfl) (by kernel_rfl) h1.tail
  · have := handle_et h2
    rw [globs_size] at this
    exact this
/-! ### the witness's world -/
noncomputable def handWorld (os : Os) : World :=
  let w0 := World.holding Tryd.prog os ⟨#[], #[], []⟩
  { w0 with heap := w0.heap.modify 0 fun
      | .cells _ t frozen => .cells #[.iface 82 (.agg #[.pointer (some ⟨7, 25, none⟩)])] t frozen
      | o => o }
noncomputable def layWorld (os : Os) : World := (handWorld os).layVars Tryd.prog plainList
theorem layWorld_os (os : Os) : (layWorld os).os = os := by
  unfold layWorld
  rw [World.layVars_os]
  rfl
theorem laidMet_from {P : Program} {w0 : World} {laid : List (String × DataW Unit)} (args : Array Value) (hf : w0.layFits P laid [] = true) (hi : w0.layIfaces P laid (w0.layVars P laid) = true) :
    laidMet P laid ((w0.layVars P laid).forCall (fun _ _ => 0) ⟨#[], args, []⟩).memory := by
  have e1 : (laid.filter fun x => (laid.map (·.1)).contains x.1) = laid := List.filter_eq_self.2 fun x hx => List.contains_iff_mem.2 (List.mem_map.2 ⟨x, hx, rfl⟩)
  have e2 : (laid.filter fun x => !(laid.map (·.1)).contains x.1) = [] := List.filter_eq_nil_iff.2 fun x hx => by rw [List.contains_iff_mem.2 (List.mem_map.2 ⟨x, hx, rfl⟩)]; simp
  have h : laidMet P laid (w0.layVars P laid) := laidMet_layVars (w0 := w0) (laid.map (·.1)) [] (by rw [e1]) (by rw [e1]; exact hf) (by rw [e1]; exact hi) (by rw [e2]; exact LaidIn.none)
  exact h.of_heap (by simp [World.memory, World.forCall, Input.heap])
theorem layWorld_met (os : Os) (args : Array Value) : laidMetH Tryd.prog Rows.tokLinesUptoRow.laid ((layWorld os).forCall (fun _ _ => 0) ⟨#[], args, []⟩).memory :=
  laidMetH_of_parts (show laidMet Tryd.prog plainList _ from laidMet_from args (by kernel_rfl) (by kernel_rfl)) (by kernel_rfl)
end Go.Proofs.YtaknfofppknloaaDoor
