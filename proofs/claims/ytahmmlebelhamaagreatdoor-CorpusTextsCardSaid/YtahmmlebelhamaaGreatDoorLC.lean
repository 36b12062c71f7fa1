/- CorpusTexts: the law from its runs: each name by itself, and every other text. -/
import Derived.Test.YtahmmlebelhamaaGreatDoorB
import Derived.Test.YtahmmlebelhamaaGreatDoorC0
import Derived.Test.YtahmmlebelhamaaGreatDoorC1
import Derived.Test.YtahmmlebelhamaaGreatDoorC2
import Derived.Test.YtahmmlebelhamaaGreatDoorC3
import Derived.Test.YtahmmlebelhamaaGreatDoorC4
import Derived.Test.YtahmmlebelhamaaGreatDoorC5
import Derived.Test.YtahmmlebelhamaaGreatDoorC6
import Derived.Test.YtahmmlebelhamaaGreatDoorC7
import Derived.Test.YtahmmlebelhamaaGreatDoorC8
import Derived.Test.YtahmmlebelhamaaGreatDoorC9
import Derived.Test.YtahmmlebelhamaaGreatDoorC10
import Derived.Test.YtahmmlebelhamaaGreatDoorC11
import Derived.Test.YtahmmlebelhamaaGreatDoorC12
import Derived.Test.YtahmmlebelhamaaGreatDoorSA
set_option linter.unusedVariables false
namespace Go.Proofs.YtahmmlebelhamaaGreatDoor
open Go.Hl
theorem texts_law {h : Heap} (s : ByteArray) (hs : s.size ≤ 9223372036854775807) (hp : Pow10At h powG) (hm : Pow10At h (1000 + maxG)) {KP K : Value → Pr} (k : ∀ h', K (.bool true) h') : WpCall Tryz.prog 3 #[.string s] KP K h := by
  have one : ∀ l : List UInt8, s = ⟨⟨l⟩⟩ → sFun tre extW 1000 50 3 [.str l] isTrue H2 = true → WpCall Tryz.prog 3 #[.string s] KP K h := fun l hl e => by
    subst hl
    exact sym_trueS (L := []) Tryz.mixed tre_ok extW_ok (sat_two hp hm) (args := [.str l]) (vs := [.string ⟨⟨l⟩⟩]) (SDl.cons rfl rfl) e (seps_nil (L := [])) (fun h' _ => k h')
  by_cases h0 : s.data.toList = [101, 120, 101, 99, 45, 119, 114, 105, 116, 97, 98, 108, 101]
  · exact one _ (by rw [← h0]) texts_0
  by_cases h1 : s.data.toList = [119, 120, 45, 109, 97, 112]
  · exact one _ (by rw [← h1]) texts_1
  by_cases h2 : s.data.toList = [119, 120, 45, 112, 114, 111, 116, 101, 99, 116]
  · exact one _ (by rw [← h2]) texts_2
  by_cases h3 : s.data.toList = [116, 114, 97, 99, 101, 45, 98, 101, 108, 111, 119]
  · exact one _ (by rw [← h3]) texts_3
  by_cases h4 : s.data.toList = [108, 97, 98, 101, 108, 45, 107, 105, 108, 108]
  · exact one _ (by rw [← h4]) texts_4
  by_cases h5 : s.data.toList = [101, 116, 99, 45, 111, 112, 101, 110]
  · exact one _ (by rw [← h5]) texts_5
  by_cases h6 : s.data.toList = [101, 120, 101, 99, 45, 97, 117, 100, 105, 116]
  · exact one _ (by rw [← h6]) texts_6
  by_cases h7 : s.data.toList = [110, 111, 45, 114, 111, 111, 116]
  · exact one _ (by rw [← h7]) texts_7
  by_cases h8 : s.data.toList = [99, 114, 101, 97, 116, 101, 45, 113, 117, 111, 116, 97]
  · exact one _ (by rw [← h8]) texts_8
  by_cases h9 : s.data.toList = [102, 111, 114, 107, 45, 108, 105, 109, 105, 116]
  · exact one _ (by rw [← h9]) texts_9
  by_cases h10 : s.data.toList = [111, 119, 110, 45, 108, 105, 110, 107, 115]
  · exact one _ (by rw [← h10]) texts_10
  by_cases h11 : s.data.toList = [107, 101, 101, 112, 45, 114, 111, 111, 116]
  · exact one _ (by rw [← h11]) texts_11
  have S := (sat_two hp hm).name (B := .num 0 9223372036854775807 1 0 (.tx none [[101, 120, 101, 99, 45, 119, 114, 105, 116, 97, 98, 108, 101], [119, 120, 45, 109, 97, 112], [119, 120, 45, 112, 114, 111, 116, 101, 99, 116], [116, 114, 97, 99, 101, 45, 98, 101, 108, 111, 119], [108, 97, 98, 101, 108, 45, 107, 105, 108, 108], [101, 116, 99, 45, 111, 112, 101, 110], [101, 120, 101, 99, 45, 97, 117, 100, 105, 116], [110, 111, 45, 114, 111, 111, 116], [99, 114, 101, 97, 116, 101, 45, 113, 117, 111, 116, 97], [102, 111, 114, 107, 45, 108, 105, 109, 105, 116], [111, 119, 110, 45, 108, 105, 110, 107, 115], [107, 101, 101, 112, 45, 114, 111, 111, 116]])) (p := ⟨0, 0, 0, s.data.toList.length, s.data.toList⟩) (by show (2 : Nat) < 1000000; decide) (fun h => h.elim) ⟨⟨by simp only []; omega, by have : s.data.toList.length = s.size := rfl; simp only []; omega, by simp only []; omega⟩, rfl, fun l h => (by cases h), fun l hl => by
    simp only [List.mem_cons, List.mem_nil_iff, or_false] at hl
    rcases hl with rfl | rfl | rfl | rfl | rfl | rfl | rfl | rfl | rfl | rfl | rfl | rfl <;> assumption⟩
  exact sym_trueS (L := []) Tryz.mixed tre_ok extW_ok S (args := [.ostr 2]) (vs := [.string s]) (SDl.cons ⟨_, rfl, rfl⟩ rfl) texts_12 (seps_nil (L := [])) (fun h' _ => k h')
end Go.Proofs.YtahmmlebelhamaaGreatDoor
