/- Texts of this proof, part V: parts of it in the order in which they build. -/
import Derived.Test.YtpbhanglcophbaaGreatH2
import Derived.Test.YtpbhanglcophbaaGreatChecked
namespace Go.Proofs.YtpbhanglcophbaaGreat
open Go.Hl
theorem Tryz.mixed : Tryz.prog.follows .mixedOrders = true := Tryz.checked.mixed
end Go.Proofs.YtpbhanglcophbaaGreat
