/- VerifyRegs: runs. -/
import Derived.Test.YtjafpcagfgklgaaGreatDoorSA
import Derived.Test.YtjafpcagfgklgaaGreatDoorX5
set_option maxRecDepth 100000
namespace Go.Proofs.YtjafpcagfgklgaaGreatDoor
open Go.Hl
theorem regs_6 : sFun tre extZ 1000 50 6 [.sint .u8 2 0, .sint .i64 3 0] isTrue (((((⟨.e, 0⟩ : CH).push (.pow10 powG)).push (.pow10 (1000 + maxG))).push (.num 0 255 11 6 .no)).push (.num (-9223372036854775808) 9223372036854775807 1 0 .no)) = true := by kernel_rfl
theorem regs_7 : sFun tre extZ 1000 50 6 [.sint .u8 2 0, .sint .i64 3 0] isTrue (((((⟨.e, 0⟩ : CH).push (.pow10 powG)).push (.pow10 (1000 + maxG))).push (.num 0 255 11 7 .no)).push (.num (-9223372036854775808) 9223372036854775807 1 0 .no)) = true := by kernel_rfl
theorem regs_8 : sFun tre extZ 1000 50 6 [.sint .u8 2 0, .sint .i64 3 0] isTrue (((((⟨.e, 0⟩ : CH).push (.pow10 powG)).push (.pow10 (1000 + maxG))).push (.num 0 255 11 8 .no)).push (.num (-9223372036854775808) 9223372036854775807 1 0 .no)) = true := by kernel_rfl
theorem regs_9 : sFun tre extZ 1000 50 6 [.sint .u8 2 0, .sint .i64 3 0] isTrue (((((⟨.e, 0⟩ : CH).push (.pow10 powG)).push (.pow10 (1000 + maxG))).push (.num 0 255 11 9 .no)).push (.num (-9223372036854775808) 9223372036854775807 1 0 .no)) = true := by kernel_rfl
theorem regs_10 : sFun tre extZ 1000 50 6 [.sint .u8 2 0, .sint .i64 3 0] isTrue (((((⟨.e, 0⟩ : CH).push (.pow10 powG)).push (.pow10 (1000 + maxG))).push (.num 0 255 11 10 .no)).push (.num (-9223372036854775808) 9223372036854775807 1 0 .no)) = true := by kernel_rfl
end Go.Proofs.YtjafpcagfgklgaaGreatDoor
