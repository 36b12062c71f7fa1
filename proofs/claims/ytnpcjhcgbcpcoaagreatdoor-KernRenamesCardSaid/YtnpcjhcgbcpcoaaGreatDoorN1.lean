/- KernRenames: the law from its 72 runs. -/
import Derived.Test.YtnpcjhcgbcpcoaaGreatDoorN1r0true
import Derived.Test.YtnpcjhcgbcpcoaaGreatDoorN1r0false
import Derived.Test.YtnpcjhcgbcpcoaaGreatDoorN1r1true
import Derived.Test.YtnpcjhcgbcpcoaaGreatDoorN1r1false
import Derived.Test.YtnpcjhcgbcpcoaaGreatDoorN1r2true
import Derived.Test.YtnpcjhcgbcpcoaaGreatDoorN1r2false
import Derived.Test.YtnpcjhcgbcpcoaaGreatDoorN1r3true
import Derived.Test.YtnpcjhcgbcpcoaaGreatDoorN1r3false
import Derived.Test.YtnpcjhcgbcpcoaaGreatDoorN1r4true
import Derived.Test.YtnpcjhcgbcpcoaaGreatDoorN1r4false
import Derived.Test.YtnpcjhcgbcpcoaaGreatDoorN1r5true
import Derived.Test.YtnpcjhcgbcpcoaaGreatDoorN1r5false
import Derived.Test.YtnpcjhcgbcpcoaaGreatDoorH2
import Derived.Lib.LaidTab
set_option linter.unusedVariables false
namespace Go.Proofs.YtnpcjhcgbcpcoaaGreatDoor
open Go.Hl Go.Lib
/-- What is laid of a variable that is a table of numbers: it is there. -/
theorem tabIs_laid {P : Program} {W : World} {name : String} {k : IntKind} {zs : List Int} {g : Nat} {t e : TypeId} {n : Nat}
    (hg : P.globalNamed name = some g) (hty : (P.globals[g]?).map (·.type) = some t) (ht : P.underlying t = some (.array n e)) (he : P.underlying e = some (.int k)) (hce : P.cellsOf e = 1) (hct : P.cellsOf t = n) :
    ∀ (l : List (String × DataW Unit)) (ps : List MemPlace), DataW.LaidVars P W l ps → (name, tabData k zs) ∈ l → TabIs P W name k zs
  | [], _, _, hm => by cases hm
  | (nm, d) :: l, ps, h, hm => by
    obtain ⟨g', t', cs, fuel, p, q, hg', ht', hvar, hd, hr, _⟩ := h
    rcases List.mem_cons.1 hm with hm | hm
    · obtain ⟨rfl, rfl⟩ := Prod.mk.inj hm
      obtain rfl := Option.some.inj (hg.symm.trans hg')
      obtain rfl := Option.some.inj (hty.symm.trans ht')
      unfold TabIs
      rw [hvar, ← cells_of_tab ht he hce hct hd]
    · exact tabIs_laid hg hty ht he hce hct l q hr hm
theorem pow_at {W : World} (h : TabIs Tryz.prog W "internal/strconv.uint64pow10" .u64 Lib.pow10Tab) : Pow10At (fixW W) 1 := by
  unfold TabIs World.var? at h
  rw [pow_named] at h
  simp only [Option.bind_some] at h
  unfold Pow10At fixW
  cases hW : W.heap[1]? with
  | none => rw [hW] at h; cases h
  | some o =>
    rw [hW] at h
    cases o <;> simp only at h <;> first | (cases h; done) | skip
    rename_i cs ty fr
    cases h
    exact ⟨ty, fr, rfl⟩
theorem renames_law25 {h : Heap} (a b : Int) (kd : Bool) (ha : 0 ≤ a ∧ a ≤ 255) (hb : 0 ≤ b ∧ b ≤ 255) (hp : Pow10At h 1) {KP K : Value → Pr} (k : ∀ h', K (.bool true) h') : WpCall Tryz.prog 3 #[.int .u8 a, .int .u8 b, .bool kd] KP K h := by
  have S0 := sat_pow (Sat.nil h) (by decide) hp
  have go : ∀ q z : Nat, a % 6 = q → b % 6 = z → sFun tre extY 1000 50 3 [.sint .u8 1 0, .sint .u8 2 0, .bool kd] isTrue ((((⟨.e, 0⟩ : CH).push (.pow10 1)).push (.num 0 255 6 q .no)).push (.num 0 255 6 z .no)) = true → WpCall Tryz.prog 3 #[.int .u8 a, .int .u8 b, .bool kd] KP K h := fun q z hq hz e => by
    have S1 := S0.name (B := .num 0 255 6 q .no) (p := ⟨0, 0, 0, a, []⟩) (by decide) (fun h => h.elim) ⟨⟨ha.1, ha.2, hq⟩, trivial⟩
    have S2 := S1.name (B := .num 0 255 6 z .no) (p := ⟨0, 0, 0, b, []⟩) (by show (2 : Nat) < 1000000; decide) (fun h => h.elim) ⟨⟨hb.1, hb.2, hz⟩, trivial⟩
    exact sym_trueS (L := []) Tryz.mixed tre_ok extY_ok S2 (args := [.sint .u8 1 0, .sint .u8 2 0, .bool kd]) (vs := [.int .u8 a, .int .u8 b, .bool kd])
      (SDl.cons ⟨_, rfl, by simp only [Int.add_zero]⟩ (SDl.cons ⟨_, rfl, by simp only [Int.add_zero]⟩ (SDl.cons rfl rfl))) e (seps_nil (L := [])) (fun h' _ => k h')
  cases kd with
  | true =>
    rcases (by omega : a % 6 = 0 ∨ a % 6 = 1 ∨ a % 6 = 2 ∨ a % 6 = 3 ∨ a % 6 = 4 ∨ a % 6 = 5) with h1 | h1 | h1 | h1 | h1 | h1
    · rcases (by omega : b % 6 = 0 ∨ b % 6 = 1 ∨ b % 6 = 2 ∨ b % 6 = 3 ∨ b % 6 = 4 ∨ b % 6 = 5) with h2 | h2 | h2 | h2 | h2 | h2
      · exact go 0 0 h1 h2 renames_0_0_true
      · exact go 0 1 h1 h2 renames_0_1_true
      · exact go 0 2 h1 h2 renames_0_2_true
      · exact go 0 3 h1 h2 renames_0_3_true
      · exact go 0 4 h1 h2 renames_0_4_true
      · exact go 0 5 h1 h2 renames_0_5_true
    · rcases (by omega : b % 6 = 0 ∨ b % 6 = 1 ∨ b % 6 = 2 ∨ b % 6 = 3 ∨ b % 6 = 4 ∨ b % 6 = 5) with h2 | h2 | h2 | h2 | h2 | h2
      · exact go 1 0 h1 h2 renames_1_0_true
      · exact go 1 1 h1 h2 renames_1_1_true
      · exact go 1 2 h1 h2 renames_1_2_true
      · exact go 1 3 h1 h2 renames_1_3_true
      · exact go 1 4 h1 h2 renames_1_4_true
      · exact go 1 5 h1 h2 renames_1_5_true
    · rcases (by omega : b % 6 = 0 ∨ b % 6 = 1 ∨ b % 6 = 2 ∨ b % 6 = 3 ∨ b % 6 = 4 ∨ b % 6 = 5) with h2 | h2 | h2 | h2 | h2 | h2
      · exact go 2 0 h1 h2 renames_2_0_true
      · exact go 2 1 h1 h2 renames_2_1_true
      · exact go 2 2 h1 h2 renames_2_2_true
      · exact go 2 3 h1 h2 renames_2_3_true
      · exact go 2 4 h1 h2 renames_2_4_true
      · exact go 2 5 h1 h2 renames_2_5_true
    · rcases (by omega : b % 6 = 0 ∨ b % 6 = 1 ∨ b % 6 = 2 ∨ b % 6 = 3 ∨ b % 6 = 4 ∨ b % 6 = 5) with h2 | h2 | h2 | h2 | h2 | h2
      · exact go 3 0 h1 h2 renames_3_0_true
      · exact go 3 1 h1 h2 renames_3_1_true
      · exact go 3 2 h1 h2 renames_3_2_true
      · exact go 3 3 h1 h2 renames_3_3_true
      · exact go 3 4 h1 h2 renames_3_4_true
      · exact go 3 5 h1 h2 renames_3_5_true
    · rcases (by omega : b % 6 = 0 ∨ b % 6 = 1 ∨ b % 6 = 2 ∨ b % 6 = 3 ∨ b % 6 = 4 ∨ b % 6 = 5) with h2 | h2 | h2 | h2 | h2 | h2
      · exact go 4 0 h1 h2 renames_4_0_true
      · exact go 4 1 h1 h2 renames_4_1_true
      · exact go 4 2 h1 h2 renames_4_2_true
      · exact go 4 3 h1 h2 renames_4_3_true
      · exact go 4 4 h1 h2 renames_4_4_true
      · exact go 4 5 h1 h2 renames_4_5_true
    · rcases (by omega : b % 6 = 0 ∨ b % 6 = 1 ∨ b % 6 = 2 ∨ b % 6 = 3 ∨ b % 6 = 4 ∨ b % 6 = 5) with h2 | h2 | h2 | h2 | h2 | h2
      · exact go 5 0 h1 h2 renames_5_0_true
      · exact go 5 1 h1 h2 renames_5_1_true
      · exact go 5 2 h1 h2 renames_5_2_true
      · exact go 5 3 h1 h2 renames_5_3_true
      · exact go 5 4 h1 h2 renames_5_4_true
      · exact go 5 5 h1 h2 renames_5_5_true
  | false =>
    rcases (by omega : a % 6 = 0 ∨ a % 6 = 1 ∨ a % 6 = 2 ∨ a % 6 = 3 ∨ a % 6 = 4 ∨ a % 6 = 5) with h1 | h1 | h1 | h1 | h1 | h1
    · rcases (by omega : b % 6 = 0 ∨ b % 6 = 1 ∨ b % 6 = 2 ∨ b % 6 = 3 ∨ b % 6 = 4 ∨ b % 6 = 5) with h2 | h2 | h2 | h2 | h2 | h2
      · exact go 0 0 h1 h2 renames_0_0_false
      · exact go 0 1 h1 h2 renames_0_1_false
      · exact go 0 2 h1 h2 renames_0_2_false
      · exact go 0 3 h1 h2 renames_0_3_false
      · exact go 0 4 h1 h2 renames_0_4_false
      · exact go 0 5 h1 h2 renames_0_5_false
    · rcases (by omega : b % 6 = 0 ∨ b % 6 = 1 ∨ b % 6 = 2 ∨ b % 6 = 3 ∨ b % 6 = 4 ∨ b % 6 = 5) with h2 | h2 | h2 | h2 | h2 | h2
      · exact go 1 0 h1 h2 renames_1_0_false
      · exact go 1 1 h1 h2 renames_1_1_false
      · exact go 1 2 h1 h2 renames_1_2_false
      · exact go 1 3 h1 h2 renames_1_3_false
      · exact go 1 4 h1 h2 renames_1_4_false
      · exact go 1 5 h1 h2 renames_1_5_false
    · rcases (by omega : b % 6 = 0 ∨ b % 6 = 1 ∨ b % 6 = 2 ∨ b % 6 = 3 ∨ b % 6 = 4 ∨ b % 6 = 5) with h2 | h2 | h2 | h2 | h2 | h2
      · exact go 2 0 h1 h2 renames_2_0_false
      · exact go 2 1 h1 h2 renames_2_1_false
      · exact go 2 2 h1 h2 renames_2_2_false
      · exact go 2 3 h1 h2 renames_2_3_false
      · exact go 2 4 h1 h2 renames_2_4_false
      · exact go 2 5 h1 h2 renames_2_5_false
    · rcases (by omega : b % 6 = 0 ∨ b % 6 = 1 ∨ b % 6 = 2 ∨ b % 6 = 3 ∨ b % 6 = 4 ∨ b % 6 = 5) with h2 | h2 | h2 | h2 | h2 | h2
      · exact go 3 0 h1 h2 renames_3_0_false
      · exact go 3 1 h1 h2 renames_3_1_false
      · exact go 3 2 h1 h2 renames_3_2_false
      · exact go 3 3 h1 h2 renames_3_3_false
      · exact go 3 4 h1 h2 renames_3_4_false
      · exact go 3 5 h1 h2 renames_3_5_false
    · rcases (by omega : b % 6 = 0 ∨ b % 6 = 1 ∨ b % 6 = 2 ∨ b % 6 = 3 ∨ b % 6 = 4 ∨ b % 6 = 5) with h2 | h2 | h2 | h2 | h2 | h2
      · exact go 4 0 h1 h2 renames_4_0_false
      · exact go 4 1 h1 h2 renames_4_1_false
      · exact go 4 2 h1 h2 renames_4_2_false
      · exact go 4 3 h1 h2 renames_4_3_false
      · exact go 4 4 h1 h2 renames_4_4_false
      · exact go 4 5 h1 h2 renames_4_5_false
    · rcases (by omega : b % 6 = 0 ∨ b % 6 = 1 ∨ b % 6 = 2 ∨ b % 6 = 3 ∨ b % 6 = 4 ∨ b % 6 = 5) with h2 | h2 | h2 | h2 | h2 | h2
      · exact go 5 0 h1 h2 renames_5_0_false
      · exact go 5 1 h1 h2 renames_5_1_false
      · exact go 5 2 h1 h2 renames_5_2_false
      · exact go 5 3 h1 h2 renames_5_3_false
      · exact go 5 4 h1 h2 renames_5_4_false
      · exact go 5 5 h1 h2 renames_5_5_false
end Go.Proofs.YtnpcjhcgbcpcoaaGreatDoor
