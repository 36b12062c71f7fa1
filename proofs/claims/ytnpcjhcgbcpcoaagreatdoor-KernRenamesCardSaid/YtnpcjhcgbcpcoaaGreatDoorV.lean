/- Texts of this proof, part V: parts of it in the order in which they build. -/
import Derived.Test.YtnpcjhcgbcpcoaaGreatDoorH2
import Derived.Test.YtnpcjhcgbcpcoaaGreatDoorChecked
namespace Go.Proofs.YtnpcjhcgbcpcoaaGreatDoor
open Go.Hl
theorem Tryz.mixed : Tryz.prog.follows .mixedOrders = true := Tryz.checked.mixed
end Go.Proofs.YtnpcjhcgbcpcoaaGreatDoor
