/- Texts of this proof, part L1r2: parts of it in the order in which they build. -/
import Derived.Test.YtnpcjhcgbcpcoaaGreatDoorSA
import Derived.Test.YtnpcjhcgbcpcoaaGreatDoorX3
set_option maxRecDepth 1000000
namespace Go.Proofs.YtnpcjhcgbcpcoaaGreatDoor
open Go.Hl
/-- The run of the law on symbols. -/
theorem links_2 : sFun tre extX 1000 50 4 [.sint .u8 1 0, .ostr 0] isTrue (((⟨.e, 0⟩ : CH).push (.num 0 9223372036854775807 1 0 (.tx none []))).push (.num 0 255 10 2 .no)) = true := by kernel_rfl
end Go.Proofs.YtnpcjhcgbcpcoaaGreatDoor
