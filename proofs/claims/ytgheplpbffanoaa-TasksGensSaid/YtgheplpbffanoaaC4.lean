import Derived.Test.YtgheplpbffanoaaC3
set_option linter.unusedVariables false
namespace Go.Proofs.Ytgheplpbffanoaa
open Go.Hl
attribute [local irreducible] loadF zc sizeP bytesP vcBody

theorem Tab.set' {h : Heap} {b : Nat} {T T' : List Task} (t : Tab h b T) (hl : T'.length = 9) : Tab (h.set b (.row (encT T') 441)) b T' := ⟨Heap.set_same _ _ _, hl⟩
theorem tk_eq {T : List Task} {pid : Int} (hl : T.length = 9) (h1 : pid < 9) (h0 : 0 ≤ pid) : tk T pid = T[pid.toNat]'(by omega) := by
  have hlt : pid.toNat < T.length := by omega
  simp [tk, List.getD_eq_getElem?_getD, hlt]

theorem tab_st {h : Heap} {b : Nat} {T : List Task} (t : Tab h b T) {pid : Int} (h0 : 0 ≤ pid) (h1 : pid < 9) (k : Nat) (v : Value) (x : Task) (hk : k < 49) (hx : x.enc = (tk T pid).enc.set k v) (h1' : v.oneCell' = true) {p : Pr}
    (hp : p (h.set b (.row (encT (T.set pid.toNat x)) 441))) : pSt ⟨b, pid.toNat * 49 + k, none⟩ v p h := by
  have hlt : pid.toNat < T.length := by rw [t.len]; omega
  refine pSt_i t.blk (by rw [encT_len, t.len]; omega) h1' ?_
  rw [tk_eq t.len h1 h0] at hx
  rw [flat_set Task.enc 49 Task.len T pid.toNat k v x hlt hk hx]
  exact hp

def fixT (pid : Int) (t : Task) : Task := { t with ppid := if t.ppid = pid then 1 else t.ppid, tracer := if t.tracer = pid then 0 else t.tracer }
def gone (t : Task) (code : Int) : Task := { t with dead := true, code := bitsV .and .i64 code 255, sigs := 0, tracer := 0, f0 := .z, f1 := .z, f2 := .z, f3 := .z, f4 := .z, f5 := .z, a0 := .z, a1 := .z, a2 := .z, a3 := .z }
def exitF (T : List Task) (pid code : Int) : List Task × Int :=
  if aliveB T pid = false then (T, 3) else if pid = 1 then (T, 1) else ((T.set pid.toNat (gone (tk T pid) code)).map (fixT pid), 0)
def mid (pid : Int) (T : List Task) (k : Nat) : List Task := (T.take k).map (fixT pid) ++ T.drop k
theorem mid_len (pid : Int) (T : List Task) (k : Nat) : (mid pid T k).length = T.length := by simp [mid]; omega
theorem mid_get (pid : Int) (T : List Task) (k : Nat) (hk : k < T.length) : (mid pid T k)[k]'(by rw [mid_len]; exact hk) = T[k] := by
  simp [mid, Nat.min_eq_left (Nat.le_of_lt hk)]
theorem mid_step (pid : Int) (T : List Task) (k : Nat) (hk : k < T.length) : (mid pid T k).set k (fixT pid T[k]) = mid pid T (k + 1) := by
  unfold mid
  have hl : ((T.take k).map (fixT pid)).length = k := by simp; omega
  rw [List.set_append_right _ _ (by omega), hl, Nat.sub_self, List.drop_eq_getElem_cons hk, List.set_cons_zero, List.take_add_one, List.getElem?_eq_getElem hk, List.map_append, List.append_assoc]
  rfl
theorem set_set_same (T : List Task) (k : Nat) (x y : Task) : (T.set k x).set k y = T.set k y := by simp

theorem zc_files : lay (zc Try.prog 34) [] = (List.replicate 6 File.z).flatMap File.enc := by rw [lay_nil]; kernel_rfl
theorem zc_areas : lay (zc Try.prog 37) [] = (List.replicate 4 Area.z).flatMap Area.enc := by rw [lay_nil]; kernel_rfl
theorem files_one (l : List File) : oneCells (l.flatMap File.enc) := by intro v hv; obtain ⟨t, _, hv⟩ := List.mem_flatMap.1 hv; exact file_one t v hv
theorem areas_one (l : List Area) : oneCells (l.flatMap Area.enc) := by intro v hv; obtain ⟨t, _, hv⟩ := List.mem_flatMap.1 hv; exact area_one t v hv

theorem tk_set {T : List Task} {pid : Int} (hl : T.length = 9) (h1 : pid < 9) (h0 : 0 ≤ pid) (x : Task) : tk (T.set pid.toNat x) pid = x := by
  have hlt : pid.toNat < T.length := by omega
  simp [tk, List.getD_eq_getElem?_getD, hlt]

set_option maxHeartbeats 1000000 in
theorem exit_ok {h : Heap} {b : Nat} {T : List Task} (t : Tab h b T) (pid code : Int) {KP K : Value → Pr}
    (k : K (.int .i64 (exitF T pid code).2) (h.set b (.row (encT (exitF T pid code).1) 441))) : WpCall Try.prog 10 #[.pointer (some ⟨b, 0, none⟩), .int .i64 pid, .int .i64 code] KP K h := by
  refine tasks_Table_Exit_call _ _ _ ?_
  unfold tasks_Table_Exit
  refine alive_ok t pid ⟨_, rfl, ?_⟩
  have same : h.set b (.row (encT T) 441) = h := Heap.set_self _ t.blk
  by_cases ha : aliveB T pid = true
  · have hr1 : 1 ≤ pid ∧ pid < 9 := by simp [aliveB, hasB] at ha; omega
    rw [if_pos ha]
    refine pIf_f rfl ?_
    by_cases hp1 : pid = 1
    · refine pIf_t (by simp [hp1]) (fgt_here (Heap.le_refl _) ?_)
      have e : exitF T pid code = (T, 1) := by simp [exitF, hp1]; rw [← hp1]; exact ha
      rw [e, same] at k; exact k
    · have e : exitF T pid code = ((T.set pid.toNat (gone (tk T pid) code)).map (fixT pid), 0) := by simp [exitF, ha, hp1]
      rw [e] at k
      have h0 : 0 ≤ pid := by omega
      have h9 := hr1.2
      have hlen := t.len
      refine pIf_f (by simp [hp1]) ?_
      -- the six stores
      have step : ∀ (T' : List Task), T'.length = 9 → Tab (h.set b (.row (encT T') 441)) b T' := fun T' hl => t.set' hl
      refine pSome_i rfl ?_
      simp only [add_mk]
      refine tab_st t h0 h9 8 (.bool true) { tk T pid with dead := true } (by omega) rfl rfl (pSome_i rfl ?_)
      have l1 : (T.set pid.toNat { tk T pid with dead := true }).length = 9 := by rw [List.length_set]; exact hlen
      refine tab_st (step _ l1) h0 h9 9 (.int .i64 (bitsV .and .i64 code 255)) { tk T pid with dead := true, code := bitsV .and .i64 code 255 } (by omega) (by rw [tk_set hlen h9 h0]; rfl) rfl (pSome_i rfl ?_)
      rw [Heap.set_set, set_set_same]
      have l2 : (T.set pid.toNat { tk T pid with dead := true, code := bitsV .and .i64 code 255 }).length = 9 := by rw [List.length_set]; exact hlen
      refine tab_st (step _ l2) h0 h9 10 (.int .u64 0) { tk T pid with dead := true, code := bitsV .and .i64 code 255, sigs := 0 } (by omega) (by rw [tk_set hlen h9 h0]; rfl) rfl (pSome_i rfl ?_)
      rw [Heap.set_set, set_set_same]
      have l3 : (T.set pid.toNat { tk T pid with dead := true, code := bitsV .and .i64 code 255, sigs := 0 }).length = 9 := by rw [List.length_set]; exact hlen
      refine tab_st (step _ l3) h0 h9 7 (.int .i64 0) { tk T pid with dead := true, code := bitsV .and .i64 code 255, sigs := 0, tracer := 0 } (by omega) (by rw [tk_set hlen h9 h0]; rfl) rfl (pSome_i rfl ?_)
      rw [Heap.set_set, set_set_same]
      have l4 : (T.set pid.toNat { tk T pid with dead := true, code := bitsV .and .i64 code 255, sigs := 0, tracer := 0 }).length = 9 := by rw [List.length_set]; exact hlen
      rw [zc_files]
      refine tab_set (step _ l4) h0 h9 11 _ { tk T pid with dead := true, code := bitsV .and .i64 code 255, sigs := 0, tracer := 0, f0 := .z, f1 := .z, f2 := .z, f3 := .z, f4 := .z, f5 := .z } (by decide) (by rw [tk_set hlen h9 h0]; rfl) (files_one _) (by decide) (pSome_i rfl ?_)
      rw [Heap.set_set, set_set_same]
      have l5 : (T.set pid.toNat { tk T pid with dead := true, code := bitsV .and .i64 code 255, sigs := 0, tracer := 0, f0 := .z, f1 := .z, f2 := .z, f3 := .z, f4 := .z, f5 := .z }).length = 9 := by rw [List.length_set]; exact hlen
      rw [zc_areas]
      refine tab_set (step _ l5) h0 h9 29 _ (gone (tk T pid) code) (by decide) (by rw [tk_set hlen h9 h0]; rfl) (areas_one _) (by decide) ?_
      rw [Heap.set_set, set_set_same]
      generalize hT1 : T.set pid.toNat (gone (tk T pid) code) = T1 at k
      have hl1 : T1.length = 9 := by rw [← hT1, List.length_set]; exact hlen
      refine pLoop_rule (fun (s : Int × Unit) h' => 0 ≤ s.1 ∧ s.1 ≤ 9 ∧ h' = h.set b (.row (encT (mid pid T1 s.1.toNat)) 441)) (fun s => (9 - s.1).toNat) ?_ ?_
      rotate_left
      · refine ⟨?_, ?_, ?_⟩
        · show (0 : Int) ≤ 0; omega
        · show (0 : Int) ≤ 9; omega
        · show _ = h.set b (.row (encT (mid pid T1 0)) 441); simp [mid]
      rintro ⟨i, ⟨⟩⟩ h' kk ⟨hi0, hi9, rfl⟩ hk
      simp only at hi0 hi9 hk ⊢
      unfold tasks_Table_Exit_l3 tasks_Table_Exit_j2 tasks_Table_Exit_j1 pJoin
      by_cases hi : i < 9
      · have hlt : i.toNat < T1.length := by omega
        have hml : (mid pid T1 i.toNat).length = 9 := by rw [mid_len]; exact hl1
        have tm := step _ hml
        have hget : tk (mid pid T1 i.toNat) i = T1[i.toNat] := by rw [tk_eq hml hi hi0, mid_get pid T1 i.toNat hlt]
        have hms := mid_step pid T1 i.toNat hlt
        have hnext : ∀ X, X = mid pid T1 (i.toNat + 1) → kk (IntKind.i64.wrap (i + 1), ()) (h.set b (.row (encT X) 441)) := fun X hX => by
          rw [wrap_small (by omega) (by omega)]
          refine hk _ _ ⟨by simp only; omega, by simp only; omega, ?_⟩ (by simp only; omega)
          simp only
          rw [hX, show (i + 1).toNat = i.toNat + 1 by omega]
        generalize hu : T1[i.toNat] = u at *
        refine pIf_t (by simpa using hi) (pSome_i rfl (pIdx_i hi0 (by omega) (pSome_i rfl ?_)))
        simp only [add_mk, Nat.zero_add, Nat.add_zero]
        have c2 := tab_cell tm hi0 hi (k := 2) (by omega)
        rw [hget] at c2
        refine pLd_i u.ppid c2 (pIf_i (fun hz => ?_) (fun hz => ?_))
        · have hz' : u.ppid = pid := by simpa using hz
          refine pSome_i rfl ?_
          simp only [add_mk]
          refine tab_st tm hi0 hi 2 (.int .i64 1) { u with ppid := 1 } (by omega) (by rw [hget]; rfl) rfl (pSome_i rfl ?_)
          rw [Heap.set_set]
          have l6 : ((mid pid T1 i.toNat).set i.toNat { u with ppid := 1 }).length = 9 := by rw [List.length_set]; exact hml
          have hget2 := tk_set hml hi hi0 { u with ppid := 1 }
          have c7 := tab_cell (step _ l6) hi0 hi (k := 7) (by omega)
          rw [hget2] at c7
          simp only [add_mk]
          refine pLd_i u.tracer c7 (pIf_i (fun hy => ?_) (fun hy => ?_))
          · have hy' : u.tracer = pid := by simpa using hy
            refine pSome_i rfl ?_
            simp only [add_mk]
            refine tab_st (step _ l6) hi0 hi 7 (.int .i64 0) { u with ppid := 1, tracer := 0 } (by omega) (by rw [hget2]; rfl) rfl ?_
            rw [Heap.set_set, set_set_same]
            exact hnext _ (by rw [← hms]; simp [fixT, hz', hy'])
          · have hy' : ¬ u.tracer = pid := by simpa using hy
            exact hnext _ (by rw [← hms]; simp [fixT, hz', hy'])
        · have hz' : ¬ u.ppid = pid := by simpa using hz
          refine pSome_i rfl ?_
          have c7 := tab_cell tm hi0 hi (k := 7) (by omega)
          rw [hget] at c7
          simp only [add_mk]
          refine pLd_i u.tracer c7 (pIf_i (fun hy => ?_) (fun hy => ?_))
          · have hy' : u.tracer = pid := by simpa using hy
            refine pSome_i rfl ?_
            simp only [add_mk]
            refine tab_st tm hi0 hi 7 (.int .i64 0) { u with tracer := 0 } (by omega) (by rw [hget]; rfl) rfl ?_
            rw [Heap.set_set]
            exact hnext _ (by rw [← hms]; simp [fixT, hz', hy'])
          · have hy' : ¬ u.tracer = pid := by simpa using hy
            refine hnext _ ?_
            rw [← hms]
            have : fixT pid u = u := by simp [fixT, hz', hy']
            rw [this, ← hget, tk_eq hml hi hi0]
            exact (List.set_getElem_self _).symm
      · refine pIf_f (by simpa using hi) (fgt_here (Heap.le_refl _) ?_)
        have : i = 9 := by omega
        subst this
        have e : mid pid T1 (9 : Int).toNat = T1.map (fixT pid) := by
          unfold mid
          rw [List.take_of_length_le (by rw [hl1]; decide), List.drop_eq_nil_of_le (by rw [hl1]; decide), List.append_nil]
        rw [e]; exact k
  · have ha' : aliveB T pid = false := by simpa using ha
    rw [ha']
    refine pIf_t rfl (fgt_here (Heap.le_refl _) ?_)
    have e : exitF T pid code = (T, 3) := by simp [exitF, ha']
    rw [e, same] at k; exact k

end Go.Proofs.Ytgheplpbffanoaa
