/- VerifyStack: the law from its runs. -/
import Derived.Test.YtjafpcagfgklgaaGreatDoorB
import Derived.Test.YtjafpcagfgklgaaGreatDoorT0l
import Derived.Test.YtjafpcagfgklgaaGreatDoorT0h
import Derived.Test.YtjafpcagfgklgaaGreatDoorT1l
import Derived.Test.YtjafpcagfgklgaaGreatDoorT1h
import Derived.Test.YtjafpcagfgklgaaGreatDoorT2a
import Derived.Test.YtjafpcagfgklgaaGreatDoorT2b
import Derived.Test.YtjafpcagfgklgaaGreatDoorT2c
import Derived.Test.YtjafpcagfgklgaaGreatDoorT2d
import Derived.Test.YtjafpcagfgklgaaGreatDoorT3l
import Derived.Test.YtjafpcagfgklgaaGreatDoorT3h
import Derived.Test.YtjafpcagfgklgaaGreatDoorSA
set_option linter.unusedVariables false
namespace Go.Proofs.YtjafpcagfgklgaaGreatDoor
open Go.Hl
theorem stack_law {h : Heap} (o z : Int) (ho : -32768 ≤ o ∧ o ≤ 32767) (hz : 0 ≤ z ∧ z ≤ 255) (hp : Pow10At h powG) (hm : Pow10At h (1000 + maxG)) {KP K : Value → Pr} (k : ∀ h', K (.bool true) h') : WpCall Tryz.prog 4 #[.int .i16 o, .int .u8 z] KP K h := by
  have go : ∀ (q : Nat) (lo hi : Int), z % 4 = q → (lo ≤ o ∧ o ≤ hi) → sFun tre extZ 1000 50 4 [.sint .i16 2 0, .sint .u8 3 0] isTrue ((H2.push (.num lo hi 1 0 .no)).push (.num 0 255 4 q .no)) = true → WpCall Tryz.prog 4 #[.int .i16 o, .int .u8 z] KP K h := fun q lo hi hq hb e => by
    have S1 := sat_num (sat_two hp hm) (by show (2 : Nat) < 1000000; decide) hb
    have S2 := S1.name (B := .num 0 255 4 q .no) (p := ⟨0, 0, 0, z, []⟩) (by show (3 : Nat) < 1000000; decide) (fun h => h.elim) ⟨⟨hz.1, hz.2, hq⟩, trivial⟩
    exact sym_trueS (L := []) Tryz.mixed tre_ok extZ_ok S2 (args := [.sint .i16 2 0, .sint .u8 3 0]) (vs := [.int .i16 o, .int .u8 z])
      (SDl.cons ⟨_, rfl, by simp only [Int.add_zero]⟩ (SDl.cons ⟨_, rfl, by simp only [Int.add_zero]⟩ rfl)) e (seps_nil (L := [])) (fun h' _ => k h')
  rcases (by omega : o ≤ -33 ∨ -32 ≤ o) with hl | hl
  · rcases (by omega : z % 4 = 0 ∨ z % 4 = 1 ∨ z % 4 = 2 ∨ z % 4 = 3) with h | h | h | h
    · exact go 0 _ _ h ⟨ho.1, hl⟩ stack_0l
    · exact go 1 _ _ h ⟨ho.1, hl⟩ stack_1l
    · rcases (by omega : o ≤ -49 ∨ -48 ≤ o) with h' | h'
      · exact go 2 _ _ h ⟨ho.1, h'⟩ stack_2a
      · exact go 2 _ _ h ⟨h', hl⟩ stack_2b
    · exact go 3 _ _ h ⟨ho.1, hl⟩ stack_3l
  · rcases (by omega : z % 4 = 0 ∨ z % 4 = 1 ∨ z % 4 = 2 ∨ z % 4 = 3) with h | h | h | h
    · exact go 0 _ _ h ⟨hl, ho.2⟩ stack_0h
    · exact go 1 _ _ h ⟨hl, ho.2⟩ stack_1h
    · rcases (by omega : o ≤ -17 ∨ -16 ≤ o) with h' | h'
      · exact go 2 _ _ h ⟨hl, h'⟩ stack_2c
      · exact go 2 _ _ h ⟨h', ho.2⟩ stack_2d
    · exact go 3 _ _ h ⟨hl, ho.2⟩ stack_3h
end Go.Proofs.YtjafpcagfgklgaaGreatDoor
