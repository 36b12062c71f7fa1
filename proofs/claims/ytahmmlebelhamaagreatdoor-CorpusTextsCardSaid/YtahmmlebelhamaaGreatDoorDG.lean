/- halberdref05.Digits: the decimal numeral. -/
import Derived.Test.YtahmmlebelhamaaGreatDoorV
import Derived.Test.YtahmmlebelhamaaGreatDoorE2
import Derived.Tactics
import Derived.Tactics2
import Derived.StillTactics
import Derived.Scope
import Derived.WalkKit
import Derived.Deep.RegionWith
import Derived.Lib.ItoaNum
import Derived.Lib.ItoaMem
import Derived.Lib.ItoaLen
import Derived.Laws.Concat
import Derived.Laws.BytesString
set_option linter.unusedVariables false
set_option linter.unusedSimpArgs false
namespace Go.Proofs.YtahmmlebelhamaaGreatDoor
open Go.Hl Go.RowKit
theorem conv_one (w : World) (m : Int) (g : Nat) (hg : g = w.heap.size) : (convert 30 9 (.slice (some ⟨g, 0, none⟩) 1 1)).run Tryz.prog (w.alloc (.cells #[.int .u8 m] 5)) = .ok (.string ⟨#[UInt8.ofNat m.toNat]⟩) (w.alloc (.cells #[.int .u8 m] 5)) := by
  subst hg
  rw [run_convert_bytes_string _ _ _ _ _ _ _ Tryz.underlying30 Tryz.underlying5 Tryz.underlying9]
  have hl : (loadCells ⟨w.heap.size, 0, none⟩ 1).run Tryz.prog (w.alloc (.cells #[.int .u8 m] 5)) = .ok (([m] : List Int).map (Value.int .u8)).toArray (w.alloc (.cells #[.int .u8 m] 5)) :=
    run_loadCells_list (a := ⟨w.heap.size, 0, none⟩) (cs := [.int .u8 m]) (h := fun j v hj => by
      cases j with
      | zero =>
        cases hj
        show (match (w.heap.push _)[w.heap.size]? with | some (.cells c _ _) => _ | _ => _) = _
        rw [Array.getElem?_push_size]
        rfl
      | succ j => cases hj)
  rw [run_bytesToString _ _ _ _ [m] hl]
  rfl
theorem conv_at (w : World) (m : Int) (g : Nat) (ty : TypeId) (fr : Nat × Nat) (hg : w.heap[g]? = some (.cells #[.int .u8 m] ty fr)) : (convert 30 9 (.slice (some ⟨g, 0, none⟩) 1 1)).run Tryz.prog w = .ok (.string ⟨#[UInt8.ofNat m.toNat]⟩) w := by
  rw [run_convert_bytes_string _ _ _ _ _ _ _ Tryz.underlying30 Tryz.underlying5 Tryz.underlying9]
  have hl : (loadCells ⟨g, 0, none⟩ 1).run Tryz.prog w = .ok (([m] : List Int).map (Value.int .u8)).toArray w :=
    run_loadCells_list (a := ⟨g, 0, none⟩) (cs := [.int .u8 m]) (h := fun j v hj => by
      cases j with
      | zero =>
        cases hj
        show (match w.heap[g]? with | some (.cells c _ _) => _ | _ => _) = _
        rw [hg]
        rfl
      | succ j => cases hj)
  rw [run_bytesToString _ _ _ _ [m] hl]
  rfl
theorem conv_below {w w' : World} {m : Int} {B : Nat} (hb : Below B (w.alloc (.cells #[.int .u8 m] 5)) w') (hB : B = (w.alloc (.cells #[.int .u8 m] 5)).heap.size) : (convert 30 9 (.slice (some ⟨w.heap.size, 0, none⟩) 1 1)).run Tryz.prog w' = .ok (.string ⟨#[UInt8.ofNat m.toNat]⟩) w' := by
  refine conv_at w' m w.heap.size 5 (0, 0) ?_
  rw [hb.block w.heap.size (by rw [hB]; show _ < (w.heap.push _).size; simp)]
  show (w.heap.push _)[w.heap.size]? = _
  rw [Array.getElem?_push_size]
set_option maxRecDepth 1000000 in
theorem digits_step (n : Nat) (s : ByteArray) (h10 : 10 ≤ n) (h1 : n ≤ 9223372036854775807) (hss : s.size ≤ 21)
    (ih : ∀ (m : Int) (w : World), m = (n : Int) / 10 → Calls Tryz.prog 38 #[.int .i64 m] w fun e w' => e = .returned (.string s) ∧ Below w.heap.size w w') (w : World) :
    Calls Tryz.prog 38 #[.int .i64 n] w fun e w' => e = .returned (.string (s ++ ⟨#[UInt8.ofNat (48 + (n : Int) % 10).toNat]⟩)) ∧ Below w.heap.size w w' := by
  have hc := fun (w : World) m => conv_one w m _ rfl
  have hc2 : ∀ (w : World) (m : Int), (convert 30 9 (.slice (some ⟨w.heap.size, 0, none⟩) 1 1)).run Tryz.prog ((w.alloc (.cells #[.int .u8 m] 5)).drew) = .ok (.string ⟨#[UInt8.ofNat m.toNat]⟩) ((w.alloc (.cells #[.int .u8 m] 5)).drew) := fun w m => conv_at _ m _ 5 (0, 0) (by show (w.heap.push _)[w.heap.size]? = _; rw [Array.getElem?_push_size])
  have hh : ¬ ((n : Int) < 10) := by omega
  have h0 : 0 ≤ (n : Int) := by omega
  have hw1 : IntKind.i64.wrap ((n : Int) / 10) = (n : Int) / 10 := wrap_in .i64 (by simp [IntKind.min, IntKind.bits, IntKind.signed]; omega) (by simp [IntKind.max, IntKind.bits, IntKind.signed]; omega)
  have ht : (n : Int).tmod 10 = (n : Int) % 10 := Int.tmod_eq_emod_of_nonneg h0
  have hw2 : IntKind.i64.wrap (48 + (n : Int) % 10) = 48 + (n : Int) % 10 := wrap_in .i64 (by simp [IntKind.min, IntKind.bits, IntKind.signed]; omega) (by simp [IntKind.max, IntKind.bits, IntKind.signed]; omega)
  have hw3 : IntKind.u8.wrap (48 + (n : Int) % 10) = 48 + (n : Int) % 10 := wrap_in .u8 (by simp [IntKind.min, IntKind.bits, IntKind.signed]; omega) (by simp [IntKind.max, IntKind.bits, IntKind.signed]; omega)
  have hadd : ∀ (b : UInt8) (w : World), (Op.stringOp .add s ⟨#[b]⟩).run Tryz.prog w = .ok (.string (s ++ ⟨#[b]⟩)) w := fun b w => run_string_add_sum (P := Tryz.prog) (w := w) s ⟨#[b]⟩ (by show s.size + 1 ≤ 9223372036854775807; omega)
  go_enter Tryz.func38, Tryz.ntmps38
  go_wp2
  go_region_with (go_at_call 38; refine (ih _ _ (by first | rfl | exact hw1 | omega | (simp; omega))).mono ?_; rintro e w' ⟨rfl, hb⟩; try have hcv : (convert 30 9 (.slice (some ⟨w.heap.size, 0, none⟩) 1 1)).run Tryz.prog w' = .ok (.string ⟨#[UInt8.ofNat (48 + (n : Int) % 10).toNat]⟩) w' := conv_below (w := w.drew) hb rfl)
  · go_wp2
    go_ret
    exact ⟨rfl, (show Below w.heap.size w w' from ⟨hb.os, hb.tape, hb.output, hb.size, hb.block⟩).alloc hb.size _⟩
  all_goals
    go_wp2
    go_ret
    refine ⟨rfl, hb.os, hb.tape, hb.output, Nat.le_trans (by show _ ≤ (w.heap.push _).size; simp) hb.size, fun i hi => (hb.block i (by show _ < (w.heap.push _).size; simp; omega)).trans ?_⟩
    show (w.heap.push _)[i]? = _
    rw [Array.getElem?_push_lt hi, Array.getElem?_eq_getElem hi]
theorem itoa_negs (n : Nat) (h : 1 ≤ n) : Lib.itoa (-(n : Int)) = 45 :: Lib.itoa (n : Int) := by rw [Lib.itoa_neg n h, Lib.itoa_nonneg]
set_option maxRecDepth 1000000 in
theorem digits_pos : ∀ (k n : Nat) (w : World), n ≤ k → n ≤ 9223372036854775807 → Calls Tryz.prog 38 #[.int .i64 n] w fun e w' => e = .returned (.string ⟨(Lib.itoa n).toArray⟩) ∧ Below w.heap.size w w' := by
  intro k
  induction k with
  | zero =>
    intro n w hk h1
    have hn : n = 0 := by omega
    subst hn
    have hc := fun m => conv_one w m _ rfl
    go_enter Tryz.func38, Tryz.ntmps38
    go_wp2
    go_ret
    exact ⟨by rw [show Lib.itoa ((0 : Nat) : Int) = [48] by rw [Lib.itoa_nonneg, Lib.decDigits]; rfl]; rfl, (Below.refl _ _).alloc (Nat.le_refl _) _⟩
  | succ k ih =>
    intro n w hk h1
    have hc := fun (w : World) m => conv_one w m _ rfl
    by_cases h : n < 10
    · have hh : ((n : Int) < 10) := by omega
      have h0 : 0 ≤ (n : Int) := by omega
      go_enter Tryz.func38, Tryz.ntmps38
      go_wp2
      go_ret
      exact ⟨by rw [show Lib.itoa (n : Int) = [UInt8.ofNat (48 + n)] by rw [Lib.itoa_nonneg, Lib.decDigits, dif_pos h]]; rfl, (Below.refl _ _).alloc (Nat.le_refl _) _⟩
    · refine (digits_step n ⟨(Lib.itoa ((n / 10 : Nat) : Int)).toArray⟩ (by omega) h1 (Lib.itoa_length_le ((n / 10 : Nat) : Int) (by omega) (by omega)) (fun m w hm => ?_) w).mono fun e w' ⟨he, hb⟩ => ⟨?_, hb⟩
      · rw [show m = ((n / 10 : Nat) : Int) by omega]
        exact ih (n / 10) w (by omega) (by omega)
      · rw [he]
        congr 2
        apply ByteArray.ext
        rw [ByteArray.data_append, Lib.itoa_nonneg, Lib.itoa_nonneg n, Lib.decDigits.eq_1 n, dif_neg h]
        simp
        rw [show (48 + (n : Int) % 10).toNat = 48 + n % 10 by omega]
        apply UInt8.toNat_inj.1
        simp
set_option maxRecDepth 1000000 in
theorem digits_neg (n : Nat) (s : ByteArray) (h0 : 1 ≤ n) (h1 : n ≤ 9223372036854775807) (hss : s.size ≤ 21)
    (ih : ∀ (m : Int) (w : World), m = (n : Int) → Calls Tryz.prog 38 #[.int .i64 m] w fun e w' => e = .returned (.string s) ∧ Below w.heap.size w w') (w : World) (z : Int) (hz : z = -(n : Int)) :
    Calls Tryz.prog 38 #[.int .i64 z] w fun e w' => e = .returned (.string (⟨#[45]⟩ ++ s)) ∧ Below w.heap.size w w' := by
  have hzn : z < 0 := by omega
  have hz1 : ¬ z = -9223372036854775808 := by omega
  have hw1 : IntKind.i64.wrap (-z) = -z := wrap_in .i64 (by simp [IntKind.min, IntKind.bits, IntKind.signed]; omega) (by simp [IntKind.max, IntKind.bits, IntKind.signed]; omega)
  have hadd : ∀ (b : UInt8) (w : World), (Op.stringOp .add ⟨#[b]⟩ s).run Tryz.prog w = .ok (.string (⟨#[b]⟩ ++ s)) w := fun b w => run_string_add_sum (P := Tryz.prog) (w := w) ⟨#[b]⟩ s (by show 1 + s.size ≤ 9223372036854775807; omega)
  go_enter Tryz.func38, Tryz.ntmps38
  go_wp2_with (go_at_call 38; refine (ih _ _ (by first | omega | (rw [hw1]; omega))).mono ?_; rintro e w' ⟨rfl, hb⟩)
  go_ret
  exact ⟨rfl, hb⟩
set_option maxRecDepth 1000000 in
theorem digits_min (w : World) : Calls Tryz.prog 38 #[.int .i64 (-9223372036854775808)] w fun e w' => e = .returned (.string ⟨(Lib.itoa (-9223372036854775808)).toArray⟩) ∧ Below w.heap.size w w' := by
  go_enter Tryz.func38, Tryz.ntmps38
  go_wp2
  go_ret
  exact ⟨by rw [show Lib.itoa (-9223372036854775808) = 45 :: Lib.decDigits 9223372036854775808 from Lib.itoa_neg 9223372036854775808 (by omega), show Lib.decDigits 9223372036854775808 = [57, 50, 50, 51, 51, 55, 50, 48, 51, 54, 56, 53, 52, 55, 55, 53, 56, 48, 56] by simp [Lib.decDigits]]; rfl, Below.refl _ _⟩
theorem digits_calls (n : Int) (w : World) (h0 : -9223372036854775808 ≤ n) (h1 : n ≤ 9223372036854775807) : Calls Tryz.prog 38 #[.int .i64 n] w fun e w' => e = .returned (.string ⟨(Lib.itoa n).toArray⟩) ∧ Below w.heap.size w w' := by
  rcases Int.lt_or_le n 0 with hn | hn
  · by_cases hm : n = -9223372036854775808
    · subst hm; exact digits_min w
    · obtain ⟨u, hu⟩ : ∃ u : Nat, n = -(u : Int) := ⟨n.natAbs, by omega⟩
      refine (digits_neg u ⟨(Lib.itoa (u : Int)).toArray⟩ (by omega) (by omega) (Lib.itoa_length_le (u : Int) (by omega) (by omega)) (fun m w hm => ?_) w n hu).mono fun e w' ⟨he, hb⟩ => ⟨?_, hb⟩
      · subst hm; exact digits_pos u u w (Nat.le_refl _) (by omega)
      · rw [he, hu, itoa_negs u (by omega)]
        congr 2
  · obtain ⟨u, rfl⟩ := Int.eq_ofNat_of_zero_le hn
    exact digits_pos u u w (Nat.le_refl _) (by omega)
end Go.Proofs.YtahmmlebelhamaaGreatDoor
