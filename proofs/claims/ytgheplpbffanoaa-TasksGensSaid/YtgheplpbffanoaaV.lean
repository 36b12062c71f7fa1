import Derived.Test.YtgheplpbffanoaaHl13
import Derived.Test.YtgheplpbffanoaaChecked
namespace Go.Proofs.Ytgheplpbffanoaa
open Go.Hl
theorem Try.mixed : Try.prog.follows .mixedOrders = true := Try.checked.mixed
end Go.Proofs.Ytgheplpbffanoaa
