/- What a row gives of two variables of the library's: the table of tens' powers, some int. -/
import Derived.Test.YtahmmlebelhamaaGreatDoorX5
import Derived.Test.YtahmmlebelhamaaGreatDoorH2
import Derived.Lib.LaidTab
set_option linter.unusedVariables false
namespace Go.Proofs.YtahmmlebelhamaaGreatDoor
open Go.Hl Go.Lib
/-- What is laid of a variable that is a table of numbers: it is there. -/
theorem tabIs_laid {P : Program} {W : World} {name : String} {k : IntKind} {zs : List Int} {g : Nat} {t e : TypeId} {n : Nat}
    (hg : P.globalNamed name = some g) (hty : (P.globals[g]?).map (·.type) = some t) (ht : P.underlying t = some (.array n e)) (he : P.underlying e = some (.int k)) (hce : P.cellsOf e = 1) (hct : P.cellsOf t = n) :
    ∀ (l : List (String × DataW Unit)) (ps : List MemPlace), DataW.LaidVars P W l ps → (name, tabData k zs) ∈ l → TabIs P W name k zs
  | [], _, _, hm => by cases hm
  | (nm, d) :: l, ps, h, hm => by
    obtain ⟨g', t', cs, fuel, p, q, hg', ht', hvar, hd, hr, _⟩ := h
    rcases List.mem_cons.1 hm with hm | hm
    · obtain ⟨rfl, rfl⟩ := Prod.mk.inj hm
      obtain rfl := Option.some.inj (hg.symm.trans hg')
      obtain rfl := Option.some.inj (hty.symm.trans ht')
      unfold TabIs
      rw [hvar, ← cells_of_tab ht he hce hct hd]
    · exact tabIs_laid hg hty ht he hce hct l q hr hm
theorem pow_at {W : World} (h : TabIs Tryz.prog W "internal/strconv.uint64pow10" .u64 Lib.pow10Tab) : Pow10At (fixW W) powG := by
  unfold TabIs World.var? at h
  rw [pow_named] at h
  simp only [Option.bind_some] at h
  refine ⟨fun _ => ?_, fun h => absurd h (by decide)⟩
  unfold fixW
  cases hW : W.heap[powG]? with
  | none => rw [hW] at h; cases h
  | some o =>
    rw [hW] at h
    cases o <;> simp only at h <;> first | (cases h; done) | skip
    rename_i cs ty fr
    cases h
    exact ⟨ty, fr, rfl⟩
theorem max_at {W : World} (hsh : W.ShapedOpen Tryz.prog) : Pow10At (fixW W) (1000 + maxG) := by
  obtain ⟨m, hm⟩ := cell_of_shapedOpen_int (P := Tryz.prog) (w := W) (g := maxG) (t := 3) (zero := #[.int .i64 0]) (k := .i64) hsh (by decide +kernel) (by kernel_rfl) rfl (by kernel_rfl) (by kernel_rfl) Tryz.underlying3
  refine ⟨fun h => absurd h (by decide), fun _ => ?_⟩
  rw [show 1000 + maxG - 1000 = maxG from Nat.add_sub_cancel_left _ _]
  unfold World.cell? at hm
  simp only at hm
  unfold fixW
  cases hW : W.heap[maxG]? with
  | none => rw [hW] at hm; cases hm
  | some o =>
    rw [hW] at hm
    cases o <;> simp only at hm <;> first | (cases hm; done) | skip
    rename_i cs ty fr
    exact ⟨m, cs, ty, fr, rfl, by simpa using hm⟩
/-- The heap of the two variables. -/
noncomputable abbrev H2 : CH := ((⟨.e, 0⟩ : CH).push (.pow10 powG)).push (.pow10 (1000 + maxG))
theorem sat_two {h : Heap} (hp : Pow10At h powG) (hm : Pow10At h (1000 + maxG)) : Sat [⟨0, 0, 0, 0, []⟩, ⟨0, 0, 0, 0, []⟩] h H2 h :=
  sat_pow (sat_pow (Sat.nil h) (by decide) hp) (by show (1 : Nat) < 1000000; decide) hm
end Go.Proofs.YtahmmlebelhamaaGreatDoor
