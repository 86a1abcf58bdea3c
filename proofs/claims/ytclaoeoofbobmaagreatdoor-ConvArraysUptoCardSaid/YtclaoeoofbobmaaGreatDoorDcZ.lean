/- The library's decimal, shifted by any number of places; rounding. The library's decimal, rounded to a whole number. A scope with two labels ahead: what stands behind each is walked from each jump. -/
import Derived.Test.YtclaoeoofbobmaaGreatDoorDcY
import Derived.Scope
namespace Go.Proofs.YtclaoeoofbobmaaGreatDoor
open Go Go.RowKit
set_option linter.all false
namespace Dc
end Dc
end Go.Proofs.YtclaoeoofbobmaaGreatDoor
namespace Go.Proofs.YtclaoeoofbobmaaGreatDoor
open Go Go.RowKit
set_option linter.all false
namespace Dc
end Dc
end Go.Proofs.YtclaoeoofbobmaaGreatDoor
namespace Go.Proofs.YtclaoeoofbobmaaGreatDoor
open Go
set_option linter.all false
/-- as Q; by a goto to label 0: G0; to label 1: G1; by any other: no way out -/
def Exit.two (G0 G1 : Act → World → Prop) (Q : Exit → Act → World → Prop) : Exit → Act → World → Prop
  | .goto l, a, w => (l = 0 ∧ G0 a w) ∨ (l = 1 ∧ G1 a w)
  | e, a, w => Q e a w
section
variable {P : Program} {a : Act} {w : World} {Q : Exit → Act → World → Prop}
end
end Go.Proofs.YtclaoeoofbobmaaGreatDoor
