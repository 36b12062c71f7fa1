/- VerifyRegs: runs. -/
import Derived.Test.YtjafpcagfgklgaaGreatDoorSA
import Derived.Test.YtjafpcagfgklgaaGreatDoorX5
set_option maxRecDepth 100000
namespace Go.Proofs.YtjafpcagfgklgaaGreatDoor
open Go.Hl
theorem regs_0 : sFun tre extZ 1000 50 6 [.sint .u8 2 0, .sint .i64 3 0] isTrue (((((⟨.e, 0⟩ : CH).push (.pow10 powG)).push (.pow10 (1000 + maxG))).push (.num 0 255 11 0 .no)).push (.num (-9223372036854775808) 9223372036854775807 1 0 .no)) = true := by kernel_rfl
theorem regs_1 : sFun tre extZ 1000 50 6 [.sint .u8 2 0, .sint .i64 3 0] isTrue (((((⟨.e, 0⟩ : CH).push (.pow10 powG)).push (.pow10 (1000 + maxG))).push (.num 0 255 11 1 .no)).push (.num (-9223372036854775808) 9223372036854775807 1 0 .no)) = true := by kernel_rfl
theorem regs_2 : sFun tre extZ 1000 50 6 [.sint .u8 2 0, .sint .i64 3 0] isTrue (((((⟨.e, 0⟩ : CH).push (.pow10 powG)).push (.pow10 (1000 + maxG))).push (.num 0 255 11 2 .no)).push (.num (-9223372036854775808) 9223372036854775807 1 0 .no)) = true := by kernel_rfl
theorem regs_3 : sFun tre extZ 1000 50 6 [.sint .u8 2 0, .sint .i64 3 0] isTrue (((((⟨.e, 0⟩ : CH).push (.pow10 powG)).push (.pow10 (1000 + maxG))).push (.num 0 255 11 3 .no)).push (.num (-9223372036854775808) 9223372036854775807 1 0 .no)) = true := by kernel_rfl
theorem regs_4 : sFun tre extZ 1000 50 6 [.sint .u8 2 0, .sint .i64 3 0] isTrue (((((⟨.e, 0⟩ : CH).push (.pow10 powG)).push (.pow10 (1000 + maxG))).push (.num 0 255 11 4 .no)).push (.num (-9223372036854775808) 9223372036854775807 1 0 .no)) = true := by kernel_rfl
theorem regs_5 : sFun tre extZ 1000 50 6 [.sint .u8 2 0, .sint .i64 3 0] isTrue (((((⟨.e, 0⟩ : CH).push (.pow10 powG)).push (.pow10 (1000 + maxG))).push (.num 0 255 11 5 .no)).push (.num (-9223372036854775808) 9223372036854775807 1 0 .no)) = true := by kernel_rfl
end Go.Proofs.YtjafpcagfgklgaaGreatDoor
