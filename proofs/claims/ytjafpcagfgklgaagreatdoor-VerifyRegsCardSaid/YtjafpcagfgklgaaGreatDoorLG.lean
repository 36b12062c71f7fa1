/- VerifyRegs: the law from its runs. -/
import Derived.Test.YtjafpcagfgklgaaGreatDoorB
import Derived.Test.YtjafpcagfgklgaaGreatDoorG1
import Derived.Test.YtjafpcagfgklgaaGreatDoorG2
import Derived.Test.YtjafpcagfgklgaaGreatDoorSA
set_option linter.unusedVariables false
namespace Go.Proofs.YtjafpcagfgklgaaGreatDoor
open Go.Hl
theorem regs_law {h : Heap} (a n : Int) (ha : 0 ≤ a ∧ a ≤ 255) (hn : -9223372036854775808 ≤ n ∧ n ≤ 9223372036854775807) (hp : Pow10At h powG) (hm : Pow10At h (1000 + maxG)) {KP K : Value → Pr} (k : ∀ h', K (.bool true) h') : WpCall Tryz.prog 6 #[.int .u8 a, .int .i64 n] KP K h := by
  have go : ∀ q : Nat, a % 11 = q → sFun tre extZ 1000 50 6 [.sint .u8 2 0, .sint .i64 3 0] isTrue ((H2.push (.num 0 255 11 q .no)).push (.num (-9223372036854775808) 9223372036854775807 1 0 .no)) = true → WpCall Tryz.prog 6 #[.int .u8 a, .int .i64 n] KP K h := fun q hq e => by
    have S1 := (sat_two hp hm).name (B := .num 0 255 11 q .no) (p := ⟨0, 0, 0, a, []⟩) (by show (2 : Nat) < 1000000; decide) (fun h => h.elim) ⟨⟨ha.1, ha.2, hq⟩, trivial⟩
    have S2 := sat_num S1 (by show (3 : Nat) < 1000000; decide) hn
    exact sym_trueS (L := []) Tryz.mixed tre_ok extZ_ok S2 (args := [.sint .u8 2 0, .sint .i64 3 0]) (vs := [.int .u8 a, .int .i64 n])
      (SDl.cons ⟨_, rfl, by simp only [Int.add_zero]⟩ (SDl.cons ⟨_, rfl, by simp only [Int.add_zero]⟩ rfl)) e (seps_nil (L := [])) (fun h' _ => k h')
  rcases (by omega : a % 11 = 0 ∨ a % 11 = 1 ∨ a % 11 = 2 ∨ a % 11 = 3 ∨ a % 11 = 4 ∨ a % 11 = 5 ∨ a % 11 = 6 ∨ a % 11 = 7 ∨ a % 11 = 8 ∨ a % 11 = 9 ∨ a % 11 = 10) with h | h | h | h | h | h | h | h | h | h | h
  · exact go 0 h regs_0
  · exact go 1 h regs_1
  · exact go 2 h regs_2
  · exact go 3 h regs_3
  · exact go 4 h regs_4
  · exact go 5 h regs_5
  · exact go 6 h regs_6
  · exact go 7 h regs_7
  · exact go 8 h regs_8
  · exact go 9 h regs_9
  · exact go 10 h regs_10
end Go.Proofs.YtjafpcagfgklgaaGreatDoor
