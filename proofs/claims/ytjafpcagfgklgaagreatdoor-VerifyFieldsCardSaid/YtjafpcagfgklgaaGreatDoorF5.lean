/- VerifyFields: runs. -/
import Derived.Test.YtjafpcagfgklgaaGreatDoorSA
import Derived.Test.YtjafpcagfgklgaaGreatDoorX5
set_option maxRecDepth 100000
namespace Go.Proofs.YtjafpcagfgklgaaGreatDoor
open Go.Hl
theorem fields_5_0 : sFun tre extZ 1000 50 5 [.sint .i64 2 0, .sint .u8 3 0, .sint .i16 4 0, .sint .u8 5 0] isTrue (((((((⟨.e, 0⟩ : CH).push (.pow10 powG)).push (.pow10 (1000 + maxG))).push (.num (-9223372036854775808) 9223372036854775807 1 0 .no)).push (.num 0 255 9 5 .no)).push (.num (-32768) 32767 1 0 .no)).push (.num 0 255 4 0 .no)) = true := by kernel_rfl
theorem fields_5_1 : sFun tre extZ 1000 50 5 [.sint .i64 2 0, .sint .u8 3 0, .sint .i16 4 0, .sint .u8 5 0] isTrue (((((((⟨.e, 0⟩ : CH).push (.pow10 powG)).push (.pow10 (1000 + maxG))).push (.num (-9223372036854775808) 9223372036854775807 1 0 .no)).push (.num 0 255 9 5 .no)).push (.num (-32768) 32767 1 0 .no)).push (.num 0 255 4 1 .no)) = true := by kernel_rfl
theorem fields_5_2 : sFun tre extZ 1000 50 5 [.sint .i64 2 0, .sint .u8 3 0, .sint .i16 4 0, .sint .u8 5 0] isTrue (((((((⟨.e, 0⟩ : CH).push (.pow10 powG)).push (.pow10 (1000 + maxG))).push (.num (-9223372036854775808) 9223372036854775807 1 0 .no)).push (.num 0 255 9 5 .no)).push (.num (-32768) 32767 1 0 .no)).push (.num 0 255 4 2 .no)) = true := by kernel_rfl
theorem fields_5_3 : sFun tre extZ 1000 50 5 [.sint .i64 2 0, .sint .u8 3 0, .sint .i16 4 0, .sint .u8 5 0] isTrue (((((((⟨.e, 0⟩ : CH).push (.pow10 powG)).push (.pow10 (1000 + maxG))).push (.num (-9223372036854775808) 9223372036854775807 1 0 .no)).push (.num 0 255 9 5 .no)).push (.num (-32768) 32767 1 0 .no)).push (.num 0 255 4 3 .no)) = true := by kernel_rfl
end Go.Proofs.YtjafpcagfgklgaaGreatDoor
