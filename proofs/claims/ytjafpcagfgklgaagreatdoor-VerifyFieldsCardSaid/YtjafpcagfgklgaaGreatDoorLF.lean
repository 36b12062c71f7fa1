/- VerifyFields: the law from its runs. -/
import Derived.Test.YtjafpcagfgklgaaGreatDoorB
import Derived.Test.YtjafpcagfgklgaaGreatDoorF0a
import Derived.Test.YtjafpcagfgklgaaGreatDoorF0b
import Derived.Test.YtjafpcagfgklgaaGreatDoorF0c
import Derived.Test.YtjafpcagfgklgaaGreatDoorF0d
import Derived.Test.YtjafpcagfgklgaaGreatDoorF1a
import Derived.Test.YtjafpcagfgklgaaGreatDoorF1b
import Derived.Test.YtjafpcagfgklgaaGreatDoorF1c
import Derived.Test.YtjafpcagfgklgaaGreatDoorF1d
import Derived.Test.YtjafpcagfgklgaaGreatDoorF2
import Derived.Test.YtjafpcagfgklgaaGreatDoorF3
import Derived.Test.YtjafpcagfgklgaaGreatDoorF4
import Derived.Test.YtjafpcagfgklgaaGreatDoorF5
import Derived.Test.YtjafpcagfgklgaaGreatDoorF6
import Derived.Test.YtjafpcagfgklgaaGreatDoorF7
import Derived.Test.YtjafpcagfgklgaaGreatDoorF8
import Derived.Test.YtjafpcagfgklgaaGreatDoorSA
set_option linter.unusedVariables false
namespace Go.Proofs.YtjafpcagfgklgaaGreatDoor
open Go.Hl
theorem fields_law {h : Heap} (n a o z : Int) (hn : -9223372036854775808 ≤ n ∧ n ≤ 9223372036854775807) (ha : 0 ≤ a ∧ a ≤ 255) (ho : -32768 ≤ o ∧ o ≤ 32767) (hz : 0 ≤ z ∧ z ≤ 255) (hp : Pow10At h powG) (hm : Pow10At h (1000 + maxG)) {KP K : Value → Pr} (k : ∀ h', K (.bool true) h') : WpCall Tryz.prog 5 #[.int .i64 n, .int .u8 a, .int .i16 o, .int .u8 z] KP K h := by
  have go : ∀ (q : Nat) (lo hi : Int), a % 9 = q → (lo ≤ n ∧ n ≤ hi) → (∀ p : Nat, p < 4 → sFun tre extZ 1000 50 5 [.sint .i64 2 0, .sint .u8 3 0, .sint .i16 4 0, .sint .u8 5 0] isTrue ((((H2.push (.num lo hi 1 0 .no)).push (.num 0 255 9 q .no)).push (.num (-32768) 32767 1 0 .no)).push (.num 0 255 4 p .no)) = true) → WpCall Tryz.prog 5 #[.int .i64 n, .int .u8 a, .int .i16 o, .int .u8 z] KP K h := fun q lo hi hq hb all => by
    have S1 := sat_num (sat_two hp hm) (by show (2 : Nat) < 1000000; decide) hb
    have S2 := S1.name (B := .num 0 255 9 q .no) (p := ⟨0, 0, 0, a, []⟩) (by show (3 : Nat) < 1000000; decide) (fun h => h.elim) ⟨⟨ha.1, ha.2, hq⟩, trivial⟩
    have S3 := sat_num S2 (by show (4 : Nat) < 1000000; decide) ho
    have S4 := S3.name (B := .num 0 255 4 (z % 4).toNat .no) (p := ⟨0, 0, 0, z, []⟩) (by show (5 : Nat) < 1000000; decide) (fun h => h.elim) ⟨⟨hz.1, hz.2, by simp only; omega⟩, trivial⟩
    exact sym_trueS (L := []) Tryz.mixed tre_ok extZ_ok S4 (args := [.sint .i64 2 0, .sint .u8 3 0, .sint .i16 4 0, .sint .u8 5 0]) (vs := [.int .i64 n, .int .u8 a, .int .i16 o, .int .u8 z])
      (SDl.cons ⟨_, rfl, by simp only [Int.add_zero]⟩ (SDl.cons ⟨_, rfl, by simp only [Int.add_zero]⟩ (SDl.cons ⟨_, rfl, by simp only [Int.add_zero]⟩ (SDl.cons ⟨_, rfl, by simp only [Int.add_zero]⟩ rfl)))) (all _ (by omega)) (seps_nil (L := [])) (fun h' _ => k h')
  have four : ∀ {φ : Nat → Prop}, φ 0 → φ 1 → φ 2 → φ 3 → ∀ p, p < 4 → φ p := fun h0 h1 h2 h3 p hp => by
    rcases (by omega : p = 0 ∨ p = 1 ∨ p = 2 ∨ p = 3) with h | h | h | h <;> subst h <;> assumption
  rcases (by omega : a % 9 = 0 ∨ a % 9 = 1 ∨ a % 9 = 2 ∨ a % 9 = 3 ∨ a % 9 = 4 ∨ a % 9 = 5 ∨ a % 9 = 6 ∨ a % 9 = 7 ∨ a % 9 = 8) with h | h | h | h | h | h | h | h | h
  · rcases (by omega : n ≤ 4 ∨ (5 ≤ n ∧ n ≤ 8) ∨ (9 ≤ n ∧ n ≤ 12) ∨ 13 ≤ n) with hb | hb | hb | hb
    · exact go 0 _ _ h ⟨hn.1, hb⟩ (four fields_0_0a fields_0_1a fields_0_2a fields_0_3a)
    · exact go 0 _ _ h hb (four fields_0_0b fields_0_1b fields_0_2b fields_0_3b)
    · exact go 0 _ _ h hb (four fields_0_0c fields_0_1c fields_0_2c fields_0_3c)
    · exact go 0 _ _ h ⟨hb, hn.2⟩ (four fields_0_0d fields_0_1d fields_0_2d fields_0_3d)
  · rcases (by omega : n ≤ 8 ∨ 9 ≤ n) with hb | hb
    · exact go 1 _ _ h ⟨hn.1, hb⟩ (four fields_1_0a fields_1_1a fields_1_2a fields_1_3a)
    · exact go 1 _ _ h ⟨hb, hn.2⟩ (four fields_1_0b fields_1_1b fields_1_2b fields_1_3b)
  · exact go 2 _ _ h hn (four fields_2_0 fields_2_1 fields_2_2 fields_2_3)
  · exact go 3 _ _ h hn (four fields_3_0 fields_3_1 fields_3_2 fields_3_3)
  · exact go 4 _ _ h hn (four fields_4_0 fields_4_1 fields_4_2 fields_4_3)
  · exact go 5 _ _ h hn (four fields_5_0 fields_5_1 fields_5_2 fields_5_3)
  · exact go 6 _ _ h hn (four fields_6_0 fields_6_1 fields_6_2 fields_6_3)
  · exact go 7 _ _ h hn (four fields_7_0 fields_7_1 fields_7_2 fields_7_3)
  · exact go 8 _ _ h hn (four fields_8_0 fields_8_1 fields_8_2 fields_8_3)
end Go.Proofs.YtjafpcagfgklgaaGreatDoor
