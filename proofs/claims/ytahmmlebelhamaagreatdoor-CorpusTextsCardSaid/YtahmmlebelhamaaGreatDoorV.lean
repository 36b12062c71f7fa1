/- Texts of this proof, part V: parts of it in the order in which they build. -/
import Derived.Test.YtahmmlebelhamaaGreatDoorH2
import Derived.Test.YtahmmlebelhamaaGreatDoorChecked
namespace Go.Proofs.YtahmmlebelhamaaGreatDoor
open Go.Hl
theorem Tryz.mixed : Tryz.prog.follows .mixedOrders = true := Tryz.checked.mixed
end Go.Proofs.YtahmmlebelhamaaGreatDoor
