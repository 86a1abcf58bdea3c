/- Nothing of its own: the Shelf lays slices.DeleteFunc too. -/
import Derived.Test.YtfophnmnehpenaaDoorShelf
namespace Go.Proofs.YtfophnmnehpenaaDoor
end Go.Proofs.YtfophnmnehpenaaDoor
