/- What the cards of layer 8 take: the world's facts out of the row's list. -/
import Derived.Test.YtfophnmnehpenaaDoorHp2
import Derived.Test.YtfophnmnehpenaaDoorLift2
import Derived.Test.YtfophnmnehpenaaDoorBulk
import Derived.Clock
import Derived.Lib.LaidU8
import Derived.Stop.LaidErr
import Derived.Deep.DeepWitnessRowRef
namespace Go.Proofs.YtfophnmnehpenaaDoor
open Go Go.RowKit Go.ChangeShapes Go.WideShapes Go.ChangeAt
set_option linter.all false
theorem firstEq : (Rows.laid_unicode_utf8_first : DataW Unit) = Lib.firstData := by kernel_rfl
theorem acceptEq : (Rows.laid_unicode_utf8_acceptRanges : DataW Unit) = Lib.acceptData := by kernel_rfl
theorem powEq : (Rows.laid_internal_strconv_uint64pow10 : DataW Unit) = Lib.tabData .u64 Lib.pow10Tab := by kernel_rfl
theorem hp_of {W : World} (h : laidMetH Tryd.prog Rows.heapIndexesUptoRow.laid W) : HpW W := by
  rw [MakeChecks.laidMetH_plain _ _ _ (by kernel_rfl)] at h
  unfold Rows.heapIndexesUptoRow at h
  rw [firstEq, acceptEq, powEq] at h
  have h1 := h.tail.tail
  have h2 := h1.tail
  refine ⟨?_, ?_⟩
  · exact utf8Tabs_of_reads Tryd.lays260 ⟨by kernel_rfl, by kernel_rfl, by kernel_rfl, by kernel_rfl, by kernel_rfl, by kernel_rfl, by kernel_rfl⟩ (Lib.laidMet.reads h2.tail (.head _)) (Lib.laidMet.reads h2 (.head _))
  · exact Lib.tabIs_of_head (g := 3) (t := 120) (e := 101) (n := 20) (by kernel_rfl) (by kernel_rfl) (by kernel_rfl) (by kernel_rfl) (by kernel_rfl) (by kernel_rfl) h1
end Go.Proofs.YtfophnmnehpenaaDoor
