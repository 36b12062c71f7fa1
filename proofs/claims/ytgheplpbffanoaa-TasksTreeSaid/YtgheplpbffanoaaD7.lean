import Derived.Test.YtgheplpbffanoaaD6
set_option linter.unusedVariables false
set_option linter.unusedSimpArgs false
namespace Go.Proofs.Ytgheplpbffanoaa
open Go.Hl
attribute [local irreducible] loadF zc sizeP bytesP vcBody

/- Uses, by places. -/
theorem refUsesL_files {x : Task} {ino : Int} : True := trivial
def usesFrom (T : List Task) (ino : Int) : Nat → Int → Bool
  | 0, _ => false
  | n + 1, p => (hasB T p && usesT ino (tk T p)) || usesFrom T ino n (p + 1)
theorem usesFrom_all (T : List Task) (ino : Int) : ∀ n p, usesFrom T ino n p = (allFrom T n p).any (usesT ino)
  | 0, _ => rfl
  | n + 1, p => by
    rw [usesFrom, allFrom, usesFrom_all T ino n (p + 1), List.any_append]
    cases hasB T p <;> simp

theorem anyFile (x : Task) (ino : Int) {i : Int} (h0 : 0 ≤ i) (h1 : i < 6) : ((files x).drop i.toNat).any (fun f => !decide (f = File.z) && (f.ino == ino)) = ((!decide (fileAt x i = File.z) && ((fileAt x i).ino == ino)) || ((files x).drop (i + 1).toNat).any (fun f => !decide (f = File.z) && (f.ino == ino))) := by
  have hli : i.toNat < (files x).length := by simp [files]; omega
  have hfa : (files x)[i.toNat] = fileAt x i := by simp [fileAt, hli]
  rw [List.drop_eq_getElem_cons hli, hfa, List.any_cons, show (i + 1).toNat = i.toNat + 1 by omega]
theorem anyArea (x : Task) (ino : Int) {i : Int} (h0 : 0 ≤ i) (h1 : i < 4) : ((areas x).drop i.toNat).any (fun a => a.used && ((a.ino == ino) && (ino != 0))) = (((areaAt x i).used && (((areaAt x i).ino == ino) && (ino != 0))) || ((areas x).drop (i + 1).toNat).any (fun a => a.used && ((a.ino == ino) && (ino != 0)))) := by
  have hli : i.toNat < (areas x).length := by simp [areas]; omega
  have hfa : (areas x)[i.toNat] = areaAt x i := by simp [areaAt, hli]
  rw [List.drop_eq_getElem_cons hli, hfa, List.any_cons, show (i + 1).toNat = i.toNat + 1 by omega]

set_option maxHeartbeats 2000000 in
theorem refUses_ok {h : Heap} {b : Nat} {T : List Task} (t : Tab h b T) (w : TW T) (ino : Int) {KP K : Value → Pr} (k : K (.bool (usesB T ino)) h) : WpCall Try.prog 55 #[.pointer (some ⟨b, 0, none⟩), .int .i64 ino] KP K h := by
  refine ref24_Table_Uses_call _ _ ?_
  unfold ref24_Table_Uses
  have hu : usesFrom T ino 8 1 = usesB T ino := usesFrom_all T ino 8 1
  refine pLoop_rule (fun (s : Int × Unit) h' => Heap.le h h' ∧ 1 ≤ s.1 ∧ s.1 ≤ 9 ∧ usesFrom T ino (9 - s.1).toNat s.1 = usesB T ino) (fun s => (9 - s.1).toNat) ?_ ?_
  rotate_left
  · exact ⟨Heap.le_refl _, by show (1 : Int) ≤ 1; omega, by show (1 : Int) ≤ 9; omega, hu⟩
  rintro ⟨p, ⟨⟩⟩ h' kk ⟨hle, h0, h1, h2⟩ hk
  simp only at h0 h1 h2 hk ⊢
  unfold ref24_Table_Uses_l7 ref24_Table_Uses_j6 pJoin
  simp only [add_mk, Nat.zero_add, Nat.add_zero, pSome_some]
  have t' := t.le hle
  by_cases hp : p < 9
  · have e : (9 - p).toNat = (8 - p).toNat + 1 := by omega
    rw [e, usesFrom] at h2
    refine pIf_t (by simpa using hp) ?_
    refine pIdx_i (by omega) (by omega) ?_
    refine pLdA_i (tab_vals t' (by omega) hp) ?_
    refine new_st zc_tlen (Task.len _) (task_one _) ?_
    intro b6 hb6
    have hle6 : Heap.le h (h'.set b6 (.row (tk T p).enc 49)) := Heap.le_set_new hle hb6 _
    have t6 := t.le hle6
    have hb : (h'.set b6 (.row (tk T p).enc 49)) b6 = some (.row (tk T p).enc 49) := Heap.set_same _ _ _
    generalize h'.set b6 (.row (tk T p).enc 49) = H at *
    have hyes : hasB T p = true → usesT ino (tk T p) = true → fgt K (.bool true) H := fun hh hu => by
      rw [hh, hu] at h2
      have : usesB T ino = true := h2.symm
      rw [this] at k; exact fgt_here hle6 k
    have hno : (hasB T p && usesT ino (tk T p)) = false → kk (IntKind.i64.wrap (p + 1), ()) H := fun hh => by
      rw [hh, Bool.false_or] at h2
      rw [wrap_small (by omega) (by omega)]
      refine hk _ _ ⟨hle6, by simp only; omega, by simp only; omega, ?_⟩ (by simp only; omega)
      simp only
      rw [show (9 - (p + 1)).toNat = (8 - p).toNat by omega]; exact h2
    refine refHas_ok t6 w p ⟨hasB T p, rfl, ?_⟩
    refine pIf_i (fun hz => ?_) (fun hz => ?_)
    · exact hno (by have : hasB T p = false := by simpa using hz
                    simp [this])
    have hh : hasB T p = true := by simpa using hz
    generalize tk T p = x at *
    -- the files and areas
    have rest : (!x.dead && ((x.cwd == ino) || ((x.exe == ino) && (ino != 0)))) = false → ref24_Table_Uses_j5 ino (fgt K) (fun s => kk (IntKind.i64.wrap (p + 1), ())) b6 false H := fun hq => by
      unfold ref24_Table_Uses_j5
      refine pIf_f rfl ?_
      have hU : usesT ino x = ((files x).any (fun f => !decide (f = File.z) && (f.ino == ino)) || (areas x).any (fun a => a.used && ((a.ino == ino) && (ino != 0)))) := by unfold usesT; rw [hq]; rfl
      refine pLoop_rule (fun (s : Int × Unit) G => G = H ∧ 0 ≤ s.1 ∧ s.1 ≤ 6 ∧ (files x).any (fun f => !decide (f = File.z) && (f.ino == ino)) = ((files x).drop s.1.toNat).any (fun f => !decide (f = File.z) && (f.ino == ino))) (fun s => (6 - s.1).toNat) ?_ ?_
      rotate_left
      · exact ⟨rfl, by show (0 : Int) ≤ 0; omega, by show (0 : Int) ≤ 6; omega, rfl⟩
      rintro ⟨i, ⟨⟩⟩ G kk2 ⟨rfl, i0, i1, i2⟩ hk2
      simp only at i0 i1 i2 hk2 ⊢
      unfold ref24_Table_Uses_l4 ref24_Table_Uses_j1 pJoin
      simp only [add_mk, Nat.zero_add, Nat.add_zero, pSome_some]
      by_cases hi : i < 6
      · rw [anyFile x ino i0 hi] at i2
        have c0 : x.enc[11 + i.toNat * 3]? = some (.int .i64 (fileAt x i).ino) := by rcases six i0 hi with rfl | rfl | rfl | rfl | rfl | rfl <;> rfl
        have c1 : x.enc[11 + i.toNat * 3 + 1]? = some (.int .i64 (fileAt x i).flags) := by rcases six i0 hi with rfl | rfl | rfl | rfl | rfl | rfl <;> rfl
        have c2 : x.enc[11 + i.toNat * 3 + 2]? = some (.int .i64 (fileAt x i).off) := by rcases six i0 hi with rfl | rfl | rfl | rfl | rfl | rfl <;> rfl
        generalize fileAt x i = f at *
        have yes : f ≠ File.z → f.ino = ino → fgt K (.bool true) G := fun hf hfi => by
          refine hyes hh ?_
          have hdf : decide (f = File.z) = false := by simpa using hf
          rw [hU, i2, hdf, hfi]; simp
        have no : (!decide (f = File.z) && (f.ino == ino)) = false → kk2 (IntKind.i64.wrap (i + 1), ()) G := fun hf => by
          rw [hf, Bool.false_or] at i2
          rw [wrap_small (by omega) (by omega)]
          exact hk2 _ _ ⟨rfl, by simp only; omega, by simp only; omega, i2⟩ (by simp only; omega)
        refine pIf_t (by simpa using hi) (pIdx_i i0 (by omega) (ld_b hb c0 (pIf_i (fun hz => ?_) (fun hz => ?_))))
        · have hfi : f.ino = ino := by simpa using hz
          refine pIf_i (fun hn => ?_) (fun hn => ?_)
          · have hn' : ino ≠ 0 := by simpa using hn
            exact pIf_t rfl (yes (fun e => hn' (by rw [← hfi, e]; rfl)) hfi)
          · have hi0 : ino = 0 := by simpa using hn
            refine pIdx_i i0 (by omega) (ld_b hb c1 (pIf_i (fun hy => ?_) (fun hy => ?_)))
            · exact pIf_t rfl (yes (by rintro rfl; simp [File.z] at hy) hfi)
            · refine pIdx_i i0 (by omega) (ld_b hb c2 (pIf_i (fun hx => ?_) (fun hx => ?_)))
              · exact yes (by rintro rfl; simp [File.z] at hx) hfi
              · refine no ?_
                have : f = File.z := by
                  cases f
                  simp at hfi hy hx
                  simp [File.z, hfi, hi0, hy, hx]
                simp [this]
        · have hfi : ¬ f.ino = ino := by simpa using hz
          exact pIf_f rfl (no (by simp [hfi]))
      · refine pIf_f (by simpa using hi) ?_
        have : i = 6 := by omega
        subst this
        have i3 : (files x).any (fun f => !decide (f = File.z) && (f.ino == ino)) = false := by rw [i2]; rfl
        rw [i3, Bool.false_or] at hU
        refine pLoop_rule (fun (s : Int × Unit) G' => G' = G ∧ 0 ≤ s.1 ∧ s.1 ≤ 4 ∧ (areas x).any (fun a => a.used && ((a.ino == ino) && (ino != 0))) = ((areas x).drop s.1.toNat).any (fun a => a.used && ((a.ino == ino) && (ino != 0)))) (fun s => (4 - s.1).toNat) ?_ ?_
        rotate_left
        · exact ⟨rfl, by show (0 : Int) ≤ 0; omega, by show (0 : Int) ≤ 4; omega, rfl⟩
        rintro ⟨j, ⟨⟩⟩ G' kk3 ⟨rfl, j0, j1, j2⟩ hk3
        simp only at j0 j1 j2 hk3 ⊢
        unfold ref24_Table_Uses_l3 ref24_Table_Uses_j2 pJoin
        simp only [add_mk, Nat.zero_add, Nat.add_zero, pSome_some]
        by_cases hj : j < 4
        · rw [anyArea x ino j0 hj] at j2
          have c0 : x.enc[29 + j.toNat * 5]? = some (.bool (areaAt x j).used) := by rcases four j0 hj with rfl | rfl | rfl | rfl <;> rfl
          have c1 : x.enc[29 + j.toNat * 5 + 1]? = some (.int .i64 (areaAt x j).ino) := by rcases four j0 hj with rfl | rfl | rfl | rfl <;> rfl
          generalize areaAt x j = a at *
          have no : (a.used && ((a.ino == ino) && (ino != 0))) = false → kk3 (IntKind.i64.wrap (j + 1), ()) G' := fun hf => by
            rw [hf, Bool.false_or] at j2
            rw [wrap_small (by omega) (by omega)]
            exact hk3 _ _ ⟨rfl, by simp only; omega, by simp only; omega, j2⟩ (by simp only; omega)
          refine pIf_t (by simpa using hj) (pIdx_i j0 (by omega) (ld_b hb c0 (pIf_i (fun hz => ?_) (fun hz => ?_))))
          · have hau : a.used = true := hz
            refine pIf_i (fun hz => ?_) (fun hz => ?_)
            · have hn0 : (ino != 0) = true := hz
              refine pIdx_i j0 (by omega) (ld_b hb c1 (pIf_i (fun hy => ?_) (fun hy => ?_)))
              · refine hyes hh ?_
                have hy' : (a.ino == ino) = true := hy
                rw [hU, j2, hau, hn0, hy']; rfl
              · have hy' : (a.ino == ino) = false := hy
                exact no (by rw [hy']; simp)
            · have hn0 : (ino != 0) = false := hz
              exact pIf_f rfl (no (by rw [hn0]; simp))
          · have hau : a.used = false := hz
            exact pIf_f rfl (no (by rw [hau]; rfl))
        · refine pIf_f (by simpa using hj) ?_
          have : j = 4 := by omega
          subst this
          have j3 : (areas x).any (fun a => a.used && ((a.ino == ino) && (ino != 0))) = false := by rw [j2]; rfl
          exact hno (by rw [hU, j3]; simp)
    have yes5 : (!x.dead && ((x.cwd == ino) || ((x.exe == ino) && (ino != 0)))) = true → ref24_Table_Uses_j5 ino (fgt K) (fun s => kk (IntKind.i64.wrap (p + 1), ())) b6 true H := fun hq => by
      unfold ref24_Table_Uses_j5
      exact pIf_t rfl (hyes hh (by unfold usesT; rw [hq]; rfl))
    refine ld_b hb (show x.enc[8]? = _ from rfl) ?_
    refine pIf_i (fun hz => ?_) (fun hz => ?_)
    · have hd : x.dead = false := by simpa using hz
      refine ld_b hb (show x.enc[5]? = _ from rfl) ?_
      refine pIf_i (fun hz => ?_) (fun hz => ?_)
      · have hz2 : (x.cwd == ino) = true := hz
        exact yes5 (by rw [hd, hz2]; rfl)
      · have hz2 : (x.cwd == ino) = false := hz
        refine pIf_i (fun hz => ?_) (fun hz => ?_)
        · have hn0 : (ino != 0) = true := hz
          refine ld_b hb (show x.enc[6]? = _ from rfl) ?_
          show ref24_Table_Uses_j5 _ _ _ _ (x.exe == ino) _
          cases hx : (x.exe == ino) with
          | true => exact yes5 (by rw [hd, hz2, hx, hn0]; rfl)
          | false => exact rest (by rw [hd, hz2, hx]; rfl)
        · have hn0 : (ino != 0) = false := hz
          exact rest (by rw [hd, hz2, hn0]; simp)
    · have hd : x.dead = true := by simpa using hz
      exact rest (by rw [hd]; rfl)
  · refine pIf_f (by simpa using hp) (fgt_here hle ?_)
    have : p = 9 := by omega
    subst this
    have : usesB T ino = false := by rw [← h2]; rfl
    rw [this] at k; exact k
end Go.Proofs.Ytgheplpbffanoaa
