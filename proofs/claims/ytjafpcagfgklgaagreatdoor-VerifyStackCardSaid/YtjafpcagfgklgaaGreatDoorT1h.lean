/- VerifyStack: runs. -/
import Derived.Test.YtjafpcagfgklgaaGreatDoorSA
import Derived.Test.YtjafpcagfgklgaaGreatDoorX5
set_option maxRecDepth 100000
namespace Go.Proofs.YtjafpcagfgklgaaGreatDoor
open Go.Hl
theorem stack_1h : sFun tre extZ 1000 50 4 [.sint .i16 2 0, .sint .u8 3 0] isTrue (((((⟨.e, 0⟩ : CH).push (.pow10 powG)).push (.pow10 (1000 + maxG))).push (.num (-32) 32767 1 0 .no)).push (.num 0 255 4 1 .no)) = true := by kernel_rfl
end Go.Proofs.YtjafpcagfgklgaaGreatDoor
