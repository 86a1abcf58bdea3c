/- The wide text of plain bytes is those bytes. -/
import Derived.Test.YtclaoeoofbobmaaGreatDoorNmP
import Derived.Test.YtclaoeoofbobmaaGreatDoorLxP
namespace Go.Proofs.YtclaoeoofbobmaaGreatDoor
open Go Go.RowKit
set_option linter.all false
namespace Nm
open Lx (w16)
theorem w16_len : ∀ t : List UInt8, (w16 t).length = 2 * t.length
  | [] => rfl
  | b :: r => by
    have h := w16_len r
    unfold w16 at h ⊢
    rw [List.flatMap_cons, List.length_append, h]; simp; omega
/-- what stands in numbers: below 128, no blank -/
def Pl (t : List UInt8) : Prop := ∀ k, k < t.length → by8 t k < 128 ∧ blank (by8 t k) = false
end Nm
end Go.Proofs.YtclaoeoofbobmaaGreatDoor
