/- What readFloat, special and the exact way say, a sign ahead or not. The library's reading by scaling, a sign ahead. The library's reading of a decimal number, a sign ahead or not: it ends, and says one and the same. The library's reading of a decimal number whose digits do not all fit, a sign ahead or not. A number's text behind one byte more (a sign): what is read of it is the same. The library's reading of every decimal number of layer 4, a sign ahead or not: it ends, and says one and the same. -/
import Derived.Test.YtgdolcoiihagfaaGreatDoorUsY
import Derived.Test.YtgdolcoiihagfaaGreatDoorIeX
import Derived.Test.YtgdolcoiihagfaaGreatDoorUsA
import Derived.Test.YtgdolcoiihagfaaGreatDoorNmP
import Derived.Test.YtgdolcoiihagfaaGreatDoorRf2
namespace Go.Proofs.YtgdolcoiihagfaaGreatDoor
open Go Go.RowKit
set_option linter.all false
set_option maxRecDepth 100000
namespace Us
end Us
namespace Us
end Us
namespace Us
end Us
namespace Us
end Us
namespace Rf
end Rf
namespace Us
end Us
end Go.Proofs.YtgdolcoiihagfaaGreatDoor
