/- Texts of this proof, part S1r2: parts of it in the order in which they build. -/
import Derived.Test.YtnpcjhcgbcpcoaaGreatDoorSA
import Derived.Test.YtnpcjhcgbcpcoaaGreatDoorX2
set_option maxRecDepth 1000000
namespace Go.Proofs.YtnpcjhcgbcpcoaaGreatDoor
open Go.Hl
/-- The run of the law on symbols. -/
theorem signals_2 : sFun tre extX 1000 50 5 [.sint .i64 0 0, .sint .u8 1 0] isTrue (((⟨.e, 0⟩ : CH).push (.num (-9223372036854775808) 9223372036854775807 1 0 .no)).push (.num 0 255 3 2 .no)) = true := by kernel_rfl
end Go.Proofs.YtnpcjhcgbcpcoaaGreatDoor
