/- Texts of this proof, part S1: parts of it in the order in which they build. -/
import Derived.Test.YtnpcjhcgbcpcoaaGreatDoorS1r0
import Derived.Test.YtnpcjhcgbcpcoaaGreatDoorS1r1
import Derived.Test.YtnpcjhcgbcpcoaaGreatDoorS1r2
set_option linter.unusedVariables false
namespace Go.Proofs.YtnpcjhcgbcpcoaaGreatDoor
open Go.Hl
theorem signals_law {h : Heap} (sig u : Int) (hs : -9223372036854775808 ≤ sig ∧ sig ≤ 9223372036854775807) (hu : 0 ≤ u ∧ u ≤ 255) {KP K : Value → Pr} (k : ∀ h', K (.bool true) h') : WpCall Tryz.prog 5 #[.int .i64 sig, .int .u8 u] KP K h := by
  have S1 := sat_num (Sat.nil h) (by decide) hs
  have go : ∀ q : Nat, u % 3 = q → sFun tre extX 1000 50 5 [.sint .i64 0 0, .sint .u8 1 0] isTrue (((⟨.e, 0⟩ : CH).push (.num (-9223372036854775808) 9223372036854775807 1 0 .no)).push (.num 0 255 3 q .no)) = true → WpCall Tryz.prog 5 #[.int .i64 sig, .int .u8 u] KP K h := fun q hq e => by
    have S2 := S1.name (B := .num 0 255 3 q .no) (p := ⟨0, 0, 0, u, []⟩) (by decide) (fun h => h.elim) ⟨⟨hu.1, hu.2, hq⟩, trivial⟩
    exact sym_trueS (L := []) Tryz.mixed tre_ok extX_ok S2 (args := [.sint .i64 0 0, .sint .u8 1 0]) (vs := [.int .i64 sig, .int .u8 u])
      (SDl.cons ⟨_, rfl, by simp only [Int.add_zero]⟩ (SDl.cons ⟨_, rfl, by simp only [Int.add_zero]⟩ rfl)) e (seps_nil (L := [])) (fun h' _ => k h')
  rcases (by omega : u % 3 = 0 ∨ u % 3 = 1 ∨ u % 3 = 2) with h3 | h3 | h3
  · exact go 0 h3 signals_0
  · exact go 1 h3 signals_1
  · exact go 2 h3 signals_2
end Go.Proofs.YtnpcjhcgbcpcoaaGreatDoor
