/- Texts of this proof, part L1: parts of it in the order in which they build. -/
import Derived.Test.YtnpcjhcgbcpcoaaGreatDoorL1r0
import Derived.Test.YtnpcjhcgbcpcoaaGreatDoorL1r1
import Derived.Test.YtnpcjhcgbcpcoaaGreatDoorL1r2
import Derived.Test.YtnpcjhcgbcpcoaaGreatDoorL1r3
import Derived.Test.YtnpcjhcgbcpcoaaGreatDoorL1r4
import Derived.Test.YtnpcjhcgbcpcoaaGreatDoorL1r5
import Derived.Test.YtnpcjhcgbcpcoaaGreatDoorL1r6
import Derived.Test.YtnpcjhcgbcpcoaaGreatDoorL1r7
import Derived.Test.YtnpcjhcgbcpcoaaGreatDoorL1r8
import Derived.Test.YtnpcjhcgbcpcoaaGreatDoorL1r9
set_option linter.unusedVariables false
namespace Go.Proofs.YtnpcjhcgbcpcoaaGreatDoor
open Go.Hl
theorem links_law25 {h : Heap} (n : Int) (s : ByteArray) (hn : 0 ≤ n ∧ n ≤ 255) (hs : s.size ≤ 9223372036854775807) {KP K : Value → Pr} (k : ∀ h', K (.bool true) h') : WpCall Tryz.prog 4 #[.int .u8 n, .string s] KP K h := by
  have S1 := sat_text (s := s.data.toList) (hi := 9223372036854775807) (Sat.nil h) (by decide) (by have : s.data.toList.length = s.size := rfl; omega)
  have go : ∀ q : Nat, n % 10 = q → sFun tre extX 1000 50 4 [.sint .u8 1 0, .ostr 0] isTrue (((⟨.e, 0⟩ : CH).push (.num 0 9223372036854775807 1 0 (.tx none []))).push (.num 0 255 10 q .no)) = true → WpCall Tryz.prog 4 #[.int .u8 n, .string s] KP K h := fun q hq e => by
    have S2 := S1.name (B := .num 0 255 10 q .no) (p := ⟨0, 0, 0, n, []⟩) (by decide) (fun h => h.elim) ⟨⟨hn.1, hn.2, hq⟩, trivial⟩
    exact sym_trueS (L := []) Tryz.mixed tre_ok extX_ok S2 (args := [.sint .u8 1 0, .ostr 0]) (vs := [.int .u8 n, .string s])
      (SDl.cons ⟨_, rfl, by simp only [Int.add_zero]⟩ (SDl.cons ⟨_, rfl, rfl⟩ rfl)) e (seps_nil (L := [])) (fun h' _ => k h')
  rcases (by omega : n % 10 = 0 ∨ n % 10 = 1 ∨ n % 10 = 2 ∨ n % 10 = 3 ∨ n % 10 = 4 ∨ n % 10 = 5 ∨ n % 10 = 6 ∨ n % 10 = 7 ∨ n % 10 = 8 ∨ n % 10 = 9) with h3 | h3 | h3 | h3 | h3 | h3 | h3 | h3 | h3 | h3
  · exact go 0 h3 links_0
  · exact go 1 h3 links_1
  · exact go 2 h3 links_2
  · exact go 3 h3 links_3
  · exact go 4 h3 links_4
  · exact go 5 h3 links_5
  · exact go 6 h3 links_6
  · exact go 7 h3 links_7
  · exact go 8 h3 links_8
  · exact go 9 h3 links_9
end Go.Proofs.YtnpcjhcgbcpcoaaGreatDoor
