/- Texts of this proof, part N1r1true: parts of it in the order in which they build. -/
import Derived.Test.YtnpcjhcgbcpcoaaGreatDoorSA
import Derived.Test.YtnpcjhcgbcpcoaaGreatDoorX4
set_option maxRecDepth 1000000
namespace Go.Proofs.YtnpcjhcgbcpcoaaGreatDoor
open Go.Hl
/-! The runs of the law on symbols. -/
theorem renames_1_0_true : sFun tre extY 1000 50 3 [.sint .u8 1 0, .sint .u8 2 0, .bool true] isTrue ((((⟨.e, 0⟩ : CH).push (.pow10 1)).push (.num 0 255 6 1 .no)).push (.num 0 255 6 0 .no)) = true := by kernel_rfl
theorem renames_1_1_true : sFun tre extY 1000 50 3 [.sint .u8 1 0, .sint .u8 2 0, .bool true] isTrue ((((⟨.e, 0⟩ : CH).push (.pow10 1)).push (.num 0 255 6 1 .no)).push (.num 0 255 6 1 .no)) = true := by kernel_rfl
theorem renames_1_2_true : sFun tre extY 1000 50 3 [.sint .u8 1 0, .sint .u8 2 0, .bool true] isTrue ((((⟨.e, 0⟩ : CH).push (.pow10 1)).push (.num 0 255 6 1 .no)).push (.num 0 255 6 2 .no)) = true := by kernel_rfl
theorem renames_1_3_true : sFun tre extY 1000 50 3 [.sint .u8 1 0, .sint .u8 2 0, .bool true] isTrue ((((⟨.e, 0⟩ : CH).push (.pow10 1)).push (.num 0 255 6 1 .no)).push (.num 0 255 6 3 .no)) = true := by kernel_rfl
theorem renames_1_4_true : sFun tre extY 1000 50 3 [.sint .u8 1 0, .sint .u8 2 0, .bool true] isTrue ((((⟨.e, 0⟩ : CH).push (.pow10 1)).push (.num 0 255 6 1 .no)).push (.num 0 255 6 4 .no)) = true := by kernel_rfl
theorem renames_1_5_true : sFun tre extY 1000 50 3 [.sint .u8 1 0, .sint .u8 2 0, .bool true] isTrue ((((⟨.e, 0⟩ : CH).push (.pow10 1)).push (.num 0 255 6 1 .no)).push (.num 0 255 6 5 .no)) = true := by kernel_rfl
end Go.Proofs.YtnpcjhcgbcpcoaaGreatDoor
