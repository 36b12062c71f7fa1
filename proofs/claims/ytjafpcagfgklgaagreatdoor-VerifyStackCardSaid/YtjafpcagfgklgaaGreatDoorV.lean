/- Texts of this proof, part V: parts of it in the order in which they build. -/
import Derived.Test.YtjafpcagfgklgaaGreatDoorH2
import Derived.Test.YtjafpcagfgklgaaGreatDoorChecked
namespace Go.Proofs.YtjafpcagfgklgaaGreatDoor
open Go.Hl
theorem Tryz.mixed : Tryz.prog.follows .mixedOrders = true := Tryz.checked.mixed
end Go.Proofs.YtjafpcagfgklgaaGreatDoor
