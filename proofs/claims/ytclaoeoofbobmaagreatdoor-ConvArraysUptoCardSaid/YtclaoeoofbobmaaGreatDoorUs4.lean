/- The library's exact way of reading a number: it ends, and says one and the same. -/
import Derived.Test.YtclaoeoofbobmaaGreatDoorUsA
import Derived.Test.YtclaoeoofbobmaaGreatDoorRfX
import Derived.Test.YtclaoeoofbobmaaGreatDoorFl
namespace Go.Proofs.YtclaoeoofbobmaaGreatDoor
open Go Go.RowKit
set_option linter.all false
namespace Us
/-- the exact powers of ten, as the library lays them -/
structure FT (T : Nat → Nat) (w : World) : Prop where
  sl : ∃ g o c, w.cell? ⟨12, 0, none⟩ = some (.slice (some ⟨g, o, none⟩) 23 c) ∧ ∀ k, k < 23 → w.cell? ⟨g, o + k, none⟩ = some (.float .f64 (T k))
def Exact (T : Nat → Nat) (m : Nat) (e : Int) (x : Nat) (ok : Bool) : Prop :=
  ∀ w, FT T w → Rf.F64 w → Calls Tryz.prog 173 #[.int .u64 (m : Int), .int .i64 e, .bool false] w fun e' w' => e' = .returned (.tuple #[.float .f64 x, .bool ok]) ∧ w = w'
end Us
end Go.Proofs.YtclaoeoofbobmaaGreatDoor
