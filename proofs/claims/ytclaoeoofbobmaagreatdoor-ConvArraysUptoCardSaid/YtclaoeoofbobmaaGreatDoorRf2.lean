/- The library's reading of a number's text by sixteens. -/
import Derived.Test.YtclaoeoofbobmaaGreatDoorRf1
namespace Go.Proofs.YtclaoeoofbobmaaGreatDoor
open Go Go.RowKit
set_option linter.all false
namespace Rf
end Rf
end Go.Proofs.YtclaoeoofbobmaaGreatDoor
