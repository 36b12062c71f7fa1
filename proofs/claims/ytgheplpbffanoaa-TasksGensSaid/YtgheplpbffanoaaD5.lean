import Derived.Test.YtgheplpbffanoaaD4
set_option linter.unusedVariables false
set_option linter.unusedSimpArgs false
namespace Go.Proofs.Ytgheplpbffanoaa
open Go.Hl
attribute [local irreducible] loadF zc sizeP bytesP vcBody

theorem refFd_ok {h : Heap} {b : Nat} {T : List Task} (t : Tab h b T) (w : TW T) (pid fd : Int) {KP K : Value → Pr} (k : K (.int .i64 (fdE T pid fd)) h) : WpCall Try.prog 64 #[.pointer (some ⟨b, 0, none⟩), .int .i64 pid, .int .i64 fd] KP K h := by
  refine ref24_Table_fd_call _ _ _ ?_
  unfold ref24_Table_fd ref24_Table_fd_j1 pJoin
  refine refAlive_ok t w pid ⟨_, rfl, ?_⟩
  simp only [add_mk, Nat.zero_add, Nat.add_zero, pSome_some]
  refine pIf_i (fun hz => ?_) (fun hz => ?_)
  · have ha : aliveB T pid = false := by simpa using hz
    exact fgt_mk (by simpa [fdE, ha] using k)
  · have ha : aliveB T pid = true := by simpa using hz
    have hr := alive_range ha
    have bad : (fd < 0 ∨ fd ≥ 6 ∨ fileAt (tk T pid) fd = .z) → fgt K (.int .i64 9) h := fun hu => fgt_mk (by simpa [fdE, ha, hu] using k)
    refine pIf_i (fun hz => ?_) (fun hz => ?_)
    · exact pIf_t rfl (bad (.inl (by simpa using hz)))
    · have hz1 : ¬ fd < 0 := by simpa using hz
      refine pIf_i (fun hz => ?_) (fun hz => ?_)
      · exact pIf_t rfl (bad (.inr (.inl (by simp at hz; omega))))
      · have hz2 : ¬ fd > 5 := by simpa using hz
        refine pIdx_i (by omega) (by omega) ?_
        refine pIdx_i (by omega) (by omega) ?_
        rw [Nat.add_assoc]
        refine tab_ldA t (by omega) hr.2 (file_cut (tk T pid) (by omega) (by omega)) ?_
        rw [zc_file0]
        refine pAssert_i ⟨rfl, rfl⟩ ?_
        rw [file_eq]
        refine pIf_i (fun hz => ?_) (fun hz => ?_)
        · exact bad (.inr (.inr (by simpa using hz)))
        · have hz3 : ¬ fileAt (tk T pid) fd = .z := by simpa using hz
          have e0 : fdE T pid fd = 0 := by simp [fdE, ha]; exact ⟨by omega, by omega, hz3⟩
          rw [e0] at k; exact fgt_mk k
theorem refFile_ok {h : Heap} {b : Nat} {T : List Task} (t : Tab h b T) (w : TW T) (pid fd : Int) {KP K : Value → Pr}
    (k : K (.tuple #[.agg (fileF T pid fd).1.enc.toArray, .int .i64 (fileF T pid fd).2]) h) : WpCall Try.prog 57 #[.pointer (some ⟨b, 0, none⟩), .int .i64 pid, .int .i64 fd] KP K h := by
  refine ref24_Table_File_call _ _ _ ?_
  unfold ref24_Table_File
  have hB := t.blk
  simp only [add_mk, Nat.zero_add, Nat.add_zero, pSome_some]
  (intro b1 hb1; try simp only [Heap.set_none] at hb1)
  simp only [zc_file, lay_nil]
  have t' : Tab (h.set b1 (.row File.z.enc File.z.enc.length)) b T := ⟨by (repeat (first | exact Heap.set_same _ _ _ | assumption | refine Heap.look_ne (by (first | assumption | exact Ne.symm (by assumption) | grind)) ?_)), t.len⟩
  refine refFd_ok t' w pid fd ⟨_, rfl, ?_⟩
  refine pIf_i (fun hz => ?_) (fun hz => ?_)
  · have e : fdE T pid fd ≠ 0 := by simpa using hz
    have : fileF T pid fd = (.z, fdE T pid fd) := by simp [fileF, e]
    rw [this] at k
    refine stA_all (by (repeat (first | exact Heap.set_same _ _ _ | assumption | refine Heap.look_ne (by (first | assumption | exact Ne.symm (by assumption) | grind)) ?_))) rfl rfl (file_one _) ?_
    refine ldA_all (Heap.set_same _ _ _) rfl ?_
    refine fgt_here ?_ k
    (intro i x hx; grind (splits := 30) [Heap.set])
  · have e : fdE T pid fd = 0 := by simpa using hz
    obtain ⟨ha, f0, f6, _⟩ := fdE_ok e
    have hr := alive_range ha
    have : fileF T pid fd = (fileAt (tk T pid) fd, 0) := by simp [fileF, e]
    rw [this] at k
    have hlt := hr.2
    refine pIdx_i (by omega) (by omega) ?_
    refine pIdx_i (by omega) (by omega) ?_
    rw [Nat.add_assoc]
    refine tab_ldA t' (by omega) hr.2 (file_cut (tk T pid) f0 f6) ?_
    refine stA_all (by (repeat (first | exact Heap.set_same _ _ _ | assumption | refine Heap.look_ne (by (first | assumption | exact Ne.symm (by assumption) | grind)) ?_))) rfl rfl (file_one _) ?_
    refine ldA_all (Heap.set_same _ _ _) rfl ?_
    refine fgt_here ?_ k
    (intro i x hx; grind (splits := 30) [Heap.set])
theorem refClose_ok {h : Heap} {b : Nat} {T : List Task} (t : Tab h b T) (w : TW T) (pid fd : Int) {KP K : Value → Pr}
    (k : K (.int .i64 (closeF T pid fd).2) (TabTo h b (closeF T pid fd).1)) : WpCall Try.prog 32 #[.pointer (some ⟨b, 0, none⟩), .int .i64 pid, .int .i64 fd] KP K h := by
  refine ref24_Table_Close_call _ _ _ ?_
  unfold ref24_Table_Close ref24_Table_Close_j1 pJoin
  simp only [add_mk, Nat.zero_add, Nat.add_zero, pSome_some]
  refine refFd_ok t w pid fd ⟨_, rfl, ?_⟩
  refine pIf_i (fun hz => ?_) (fun hz => ?_)
  · have e : fdE T pid fd = 0 := by simpa using hz
    obtain ⟨ha, f0, f6, _⟩ := fdE_ok e
    have hr := alive_range ha
    have hlt := hr.2
    refine pIdx_i (by omega) (by omega) ?_
    refine pIdx_i (by omega) (by omega) ?_
    rw [zc_file0, Nat.add_assoc]
    refine tab_set t (by omega) hr.2 _ _ (setFile (tk T pid) fd .z) (by rw [File.len]; omega) (file_put _ f0 f6 _) (file_one _) (File.len _) ?_
    exact fgt_mk (by simpa [closeF, e] using k)
  · have e : fdE T pid fd ≠ 0 := by simpa using hz
    have : closeF T pid fd = (T, fdE T pid fd) := by simp [closeF, e]
    rw [this, show TabTo h b T = h from t.same] at k
    exact fgt_mk k
theorem refSeek_ok {h : Heap} {b : Nat} {T : List Task} (t : Tab h b T) (w : TW T) (pid fd off : Int) {KP K : Value → Pr}
    (k : K (.int .i64 (seekF T pid fd off).2) (TabTo h b (seekF T pid fd off).1)) : WpCall Try.prog 34 #[.pointer (some ⟨b, 0, none⟩), .int .i64 pid, .int .i64 fd, .int .i64 off] KP K h := by
  refine ref24_Table_Seek_call _ _ _ _ ?_
  unfold ref24_Table_Seek ref24_Table_Seek_j1 pJoin
  simp only [add_mk, Nat.zero_add, Nat.add_zero, pSome_some]
  refine refFd_ok t w pid fd ⟨_, rfl, ?_⟩
  refine pIf_i (fun hz => ?_) (fun hz => ?_)
  · have e : fdE T pid fd = 0 := by simpa using hz
    obtain ⟨ha, f0, f6, _⟩ := fdE_ok e
    have hr := alive_range ha
    have hlt := hr.2
    refine pIdx_i (by omega) (by omega) ?_
    refine pIdx_i (by omega) (by omega) ?_
    rw [show pid.toNat * 49 + 11 + fd.toNat * 3 + 2 = pid.toNat * 49 + (11 + fd.toNat * 3 + 2) by omega]
    refine tab_st t (by omega) hr.2 _ _ (setFile (tk T pid) fd { fileAt (tk T pid) fd with off := off }) (by omega) (by rcases six f0 f6 with rfl | rfl | rfl | rfl | rfl | rfl <;> rfl) rfl ?_
    have e2 : seekF T pid fd off = (T.set pid.toNat (setFile (tk T pid) fd { fileAt (tk T pid) fd with off := off }), 0) := by simp [seekF, e]
    rw [e2] at k
    rw [e]
    exact fgt_mk k
  · have e : fdE T pid fd ≠ 0 := by simpa using hz
    have : seekF T pid fd off = (T, fdE T pid fd) := by simp [seekF, e]
    rw [this, show TabTo h b T = h from t.same] at k
    exact fgt_mk k
set_option maxHeartbeats 1000000 in
theorem refPut_ok {h : Heap} {b : Nat} {T : List Task} (t : Tab h b T) (w : TW T) (pid : Int) (f : File) {KP K : Value → Pr}
    (k : K (.tuple #[.int .i64 (putF T pid f).2.1, .int .i64 (putF T pid f).2.2]) (TabTo h b (putF T pid f).1)) : WpCall Try.prog 30 #[.pointer (some ⟨b, 0, none⟩), .int .i64 pid, .agg f.enc.toArray] KP K h := by
  refine ref24_Table_Put_call _ _ _ ?_
  unfold ref24_Table_Put
  have hB := t.blk
  (intro b1 hb1; try simp only [Heap.set_none] at hb1)
  have t' : Tab (h.set b1 (.row f.enc f.enc.length)) b T := ⟨by (repeat (first | exact Heap.set_same _ _ _ | assumption | refine Heap.look_ne (by (first | assumption | exact Ne.symm (by assumption) | grind)) ?_)), t.len⟩
  refine refAlive_ok t' w pid ⟨_, rfl, ?_⟩
  refine pIf_i (fun hz => ?_) (fun hz => ?_)
  · have ha : aliveB T pid = false := by simpa using hz
    have e : putF T pid f = (T, 0, 3) := by simp [putF, ha]
    rw [e, show TabTo h b T = h from t.same] at k
    exact fgt_here (by (intro i x hx; grind (splits := 30) [Heap.set])) k
  · have ha : aliveB T pid = true := by simpa using hz
    have hr := alive_range ha
    have hlt := hr.2
    have hfd : idxFrom (fun f => decide (File.z = f)) (files (tk T pid)) 0 = freeFd (tk T pid) := rfl
    refine pLoop_rule (fun (s1 : Int × Unit) H => H = h.set b1 (.row f.enc f.enc.length) ∧ 0 ≤ s1.1 ∧ s1.1 ≤ 6 ∧ idxFrom (fun f => decide (File.z = f)) ((files (tk T pid)).drop s1.1.toNat) s1.1 = freeFd (tk T pid)) (fun s1 => (6 - s1.1).toNat) ?_ ?_
    rotate_left
    · exact ⟨rfl, by show (0 : Int) ≤ 0; omega, by show (0 : Int) ≤ 6; omega, rfl⟩
    rintro ⟨i, ⟨⟩⟩ H kk ⟨rfl, h0, h1, h2⟩ hk
    simp only at h0 h1 h2 hk ⊢
    unfold ref24_Table_Put_l1
    simp only [add_mk, Nat.zero_add, Nat.add_zero, pSome_some]
    by_cases hi : i < 6
    · have hli : i.toNat < (files (tk T pid)).length := by simp [files]; omega
      have hfa : (files (tk T pid))[i.toNat] = fileAt (tk T pid) i := by simp [fileAt, hli]
      rw [List.drop_eq_getElem_cons hli, idxFrom, hfa] at h2
      refine pIf_t (by simpa using hi) ?_
      refine pIdx_i (by omega) (by omega) ?_
      refine pIdx_i (by omega) (by omega) ?_
      rw [Nat.add_assoc]
      refine tab_ldA t' (by omega) hlt (file_cut (tk T pid) h0 hi) ?_
      rw [zc_file0]
      refine pAssert_i ⟨rfl, rfl⟩ ?_
      rw [file_eq]
      refine pIf_i (fun hz => ?_) (fun hz => ?_)
      · have hz' : fileAt (tk T pid) i = File.z := by simpa using hz
        rw [if_pos (by simp [hz'])] at h2
        refine refOpen_ok t' w ⟨openAll T, rfl, ?_⟩
        refine pIf_i (fun hz => ?_) (fun hz => ?_)
        · have hy' : openAll T ≥ 16 := by simpa using hz
          have e : putF T pid f = (T, 0, 23) := by simp [putF, ha, hy']; omega
          rw [e, show TabTo h b T = h from t.same] at k
          exact fgt_here (by (intro i x hx; grind (splits := 30) [Heap.set])) k
        · have hy' : ¬ openAll T ≥ 16 := by simpa using hz
          have hn : ¬ freeFd (tk T pid) < 0 := by omega
          have e : putF T pid f = (T.set pid.toNat (setFile (tk T pid) i f), i, 0) := by simp [putF, ha, hy', hn, ← h2]; omega
          rw [e] at k
          refine pIdx_i (by omega) (by omega) ?_
          refine ldA_all (by (repeat (first | exact Heap.set_same _ _ _ | assumption | refine Heap.look_ne (by (first | assumption | exact Ne.symm (by assumption) | grind)) ?_))) rfl ?_
          refine pIdx_i (by omega) (by omega) ?_
          refine tab_set t' (by omega) hlt _ _ (setFile (tk T pid) i f) (by rw [File.len]; omega) (file_put _ h0 hi _) (file_one _) (File.len _) ?_
          refine fgt_here ?_ k
          unfold TabTo; (intro i x hx; grind (splits := 30) [Heap.set])
      · have hz' : ¬ fileAt (tk T pid) i = File.z := by simpa using hz
        have hz2 : ¬ File.z = fileAt (tk T pid) i := fun e => hz' e.symm
        rw [if_neg (by simpa using hz2)] at h2
        rw [wrap_small (by omega) (by omega)]
        refine hk _ _ ⟨rfl, by simp only; omega, by simp only; omega, ?_⟩ (by simp only; omega)
        simp only
        rw [show (i + 1).toNat = i.toNat + 1 by omega]; exact h2
    · refine pIf_f (by simpa using hi) ?_
      have : i = 6 := by omega
      subst this
      have e2 : freeFd (tk T pid) = -1 := by rw [← h2]; rfl
      have e : putF T pid f = (T, 0, 24) := by simp [putF, ha, e2]
      rw [e, show TabTo h b T = h from t.same] at k
      exact fgt_here (by (intro i x hx; grind (splits := 30) [Heap.set])) k
theorem refDup_ok {h : Heap} {b : Nat} {T : List Task} (t : Tab h b T) (w : TW T) (pid fd : Int) {KP K : Value → Pr}
    (k : K (.tuple #[.int .i64 (dupF T pid fd).2.1, .int .i64 (dupF T pid fd).2.2]) (TabTo h b (dupF T pid fd).1)) : WpCall Try.prog 36 #[.pointer (some ⟨b, 0, none⟩), .int .i64 pid, .int .i64 fd] KP K h := by
  refine ref24_Table_Dup_call _ _ _ ?_
  unfold ref24_Table_Dup
  refine refFile_ok t w pid fd ⟨((fileF T pid fd).1.enc, (fileF T pid fd).2, ()), rfl, ?_⟩
  refine new_st zc_flen (File.len _) (file_one _) ?_
  have hB := t.blk
  (intro b1 hb1; try simp only [Heap.set_none] at hb1)
  have t' : Tab (h.set b1 (.row (fileF T pid fd).1.enc 3)) b T := ⟨by (repeat (first | exact Heap.set_same _ _ _ | assumption | refine Heap.look_ne (by (first | assumption | exact Ne.symm (by assumption) | grind)) ?_)), t.len⟩
  refine pIf_i (fun hz => ?_) (fun hz => ?_)
  · have hz' : (fileF T pid fd).2 ≠ 0 := by simpa using hz
    have e : dupF T pid fd = (T, 0, (fileF T pid fd).2) := by simp [dupF, hz']
    rw [e, show TabTo h b T = h from t.same] at k
    exact fgt_here (by (intro i x hx; grind (splits := 30) [Heap.set])) k
  · have hz' : (fileF T pid fd).2 = 0 := by simpa using hz
    have e : dupF T pid fd = putF T pid (fileF T pid fd).1 := by simp [dupF, hz']
    rw [e] at k
    (apply ldA_all; (· (repeat (first | exact Heap.set_same _ _ _ | assumption | refine Heap.look_ne (by (first | assumption | exact Ne.symm (by assumption) | grind)) ?_))); (· first | rfl | simp))
    refine refPut_ok t' w pid _ ⟨((putF T pid (fileF T pid fd).1).2.1, (putF T pid (fileF T pid fd).1).2.2, ()), rfl, fgt_here ?_ k⟩
    unfold TabTo; (intro i x hx; grind (splits := 30) [Heap.set])

set_option maxHeartbeats 1000000 in
theorem refMap_ok {h : Heap} {b : Nat} {T : List Task} (t : Tab h b T) (w : TW T) (pid : Int) (a : Area) {KP K : Value → Pr}
    (k : K (.tuple #[.int .i64 (mapF T pid a).2.1, .int .i64 (mapF T pid a).2.2]) (TabTo h b (mapF T pid a).1)) : WpCall Try.prog 38 #[.pointer (some ⟨b, 0, none⟩), .int .i64 pid, .agg a.enc.toArray] KP K h := by
  refine ref24_Table_Map_call _ _ _ ?_
  unfold ref24_Table_Map
  have hB := t.blk
  (intro b1 hb1; try simp only [Heap.set_none] at hb1)
  have t' : Tab (h.set b1 (.row a.enc a.enc.length)) b T := ⟨by (repeat (first | exact Heap.set_same _ _ _ | assumption | refine Heap.look_ne (by (first | assumption | exact Ne.symm (by assumption) | grind)) ?_)), t.len⟩
  refine refAlive_ok t' w pid ⟨_, rfl, ?_⟩
  refine pIf_i (fun hz => ?_) (fun hz => ?_)
  · have ha : aliveB T pid = false := by simpa using hz
    have e : mapF T pid a = (T, 0, 3) := by simp [mapF, ha]
    rw [e, show TabTo h b T = h from t.same] at k
    exact fgt_here (by (intro i x hx; grind (splits := 30) [Heap.set])) k
  · have ha : aliveB T pid = true := by simpa using hz
    have hr := alive_range ha
    have hlt := hr.2
    refine pLoop_rule (fun (s1 : Int × Unit) H => H = h.set b1 (.row a.enc a.enc.length) ∧ 0 ≤ s1.1 ∧ s1.1 ≤ 4 ∧ idxFrom (fun a => !a.used) ((areas (tk T pid)).drop s1.1.toNat) s1.1 = freeA (tk T pid)) (fun s1 => (4 - s1.1).toNat) ?_ ?_
    rotate_left
    · exact ⟨rfl, by show (0 : Int) ≤ 0; omega, by show (0 : Int) ≤ 4; omega, rfl⟩
    rintro ⟨i, ⟨⟩⟩ H kk ⟨rfl, h0, h1, h2⟩ hk
    simp only at h0 h1 h2 hk ⊢
    unfold ref24_Table_Map_l1
    simp only [add_mk, Nat.zero_add, Nat.add_zero, pSome_some]
    by_cases hi : i < 4
    · have hli : i.toNat < (areas (tk T pid)).length := by simp [areas]; omega
      have hfa : (areas (tk T pid))[i.toNat] = areaAt (tk T pid) i := by simp [areaAt, hli]
      rw [List.drop_eq_getElem_cons hli, idxFrom, hfa] at h2
      refine pIf_t (by simpa using hi) ?_
      refine pIdx_i (by omega) (by omega) ?_
      refine pIdx_i (by omega) (by omega) ?_
      have hu0 : (tk T pid).enc[29 + i.toNat * 5]? = some (.bool (areaAt (tk T pid) i).used) := by rcases four h0 hi with rfl | rfl | rfl | rfl <;> rfl
      rw [Nat.add_assoc]
      refine tab_ld t' (by omega) hlt hu0 ?_
      refine pIf_i (fun hz => ?_) (fun hz => ?_)
      · have hz' : (areaAt (tk T pid) i).used = false := by simpa using hz
        rw [if_pos (by simp [hz'])] at h2
        have hn : ¬ freeA (tk T pid) < 0 := by omega
        have e : mapF T pid a = (T.set pid.toNat (setArea (tk T pid) i { a with used := true }), i, 0) := by simp [mapF, ha, hn, ← h2]; omega
        rw [e] at k
        apply st_b; (· (repeat (first | exact Heap.set_same _ _ _ | assumption | refine Heap.look_ne (by (first | assumption | exact Ne.symm (by assumption) | grind)) ?_))); (· show 0 < 5; decide); (· rfl)
        have ha1 : a.enc.set 0 (.bool true) = ({ a with used := true } : Area).enc := rfl
        rw [ha1, Heap.set_set]
        have t2 : Tab (h.set b1 (.row ({ a with used := true } : Area).enc a.enc.length)) b T := ⟨by (repeat (first | exact Heap.set_same _ _ _ | assumption | refine Heap.look_ne (by (first | assumption | exact Ne.symm (by assumption) | grind)) ?_)), t.len⟩
        refine pIdx_i (by omega) (by omega) ?_
        refine ldA_all (Heap.set_same _ _ _) rfl ?_
        refine pIdx_i (by omega) (by omega) ?_
        refine tab_set t2 (by omega) hlt _ _ (setArea (tk T pid) i { a with used := true }) (by rw [Area.len]; omega) (area_put _ h0 hi _) (area_one _) (Area.len _) ?_
        refine fgt_here ?_ k
        unfold TabTo; (intro i x hx; grind (splits := 30) [Heap.set])
      · have hz' : (areaAt (tk T pid) i).used = true := by simpa using hz
        rw [if_neg (by simp [hz'])] at h2
        rw [wrap_small (by omega) (by omega)]
        refine hk _ _ ⟨rfl, by simp only; omega, by simp only; omega, ?_⟩ (by simp only; omega)
        simp only
        rw [show (i + 1).toNat = i.toNat + 1 by omega]; exact h2
    · refine pIf_f (by simpa using hi) ?_
      have : i = 4 := by omega
      subst this
      have e2 : freeA (tk T pid) = -1 := by rw [← h2]; rfl
      have e : mapF T pid a = (T, 0, 12) := by simp [mapF, ha, e2]
      rw [e, show TabTo h b T = h from t.same] at k
      exact fgt_here (by (intro i x hx; grind (splits := 30) [Heap.set])) k
theorem refArea_ok {h : Heap} {b : Nat} {T : List Task} (t : Tab h b T) (w : TW T) (pid fd : Int) {KP K : Value → Pr}
    (k : K (.tuple #[.agg (areaF T pid fd).1.enc.toArray, .int .i64 (areaF T pid fd).2]) h) : WpCall Try.prog 39 #[.pointer (some ⟨b, 0, none⟩), .int .i64 pid, .int .i64 fd] KP K h := by
  refine ref24_Table_Area_call _ _ _ ?_
  unfold ref24_Table_Area ref24_Table_Area_j1 pJoin
  have hB := t.blk
  simp only [add_mk, Nat.zero_add, Nat.add_zero, pSome_some]
  (intro b1 hb1; try simp only [Heap.set_none] at hb1)
  simp only [zc_area, lay_nil]
  have t' : Tab (h.set b1 (.row Area.z.enc Area.z.enc.length)) b T := ⟨by (repeat (first | exact Heap.set_same _ _ _ | assumption | refine Heap.look_ne (by (first | assumption | exact Ne.symm (by assumption) | grind)) ?_)), t.len⟩
  have bad : ∀ c, areaF T pid fd = (.z, c) → pStA 5 ⟨b1, 0, none⟩ Area.z.enc (pLdA 5 ⟨b1, 0, none⟩ fun x3 => fgt K (.tuple [.agg x3.toArray, .int .i64 c].toArray)) (h.set b1 (.row Area.z.enc Area.z.enc.length)) := fun c e => by
    rw [e] at k
    refine stA_all (Heap.set_same _ _ _) rfl rfl (area_one _) ?_
    refine ldA_all (Heap.set_same _ _ _) rfl ?_
    refine fgt_here ?_ k
    (intro i x hx; grind (splits := 30) [Heap.set])
  refine refAlive_ok t' w pid ⟨_, rfl, ?_⟩
  refine pIf_i (fun hz => ?_) (fun hz => ?_)
  · have ha : aliveB T pid = false := by simpa using hz
    exact bad 3 (by simp [areaF, areaE, ha])
  · have ha : aliveB T pid = true := by simpa using hz
    have hr := alive_range ha
    have hlt := hr.2
    have bad2 : (fd < 0 ∨ fd ≥ 4 ∨ (areaAt (tk T pid) fd).used = false) → areaF T pid fd = (.z, 22) := fun hu => by simp [areaF, areaE, ha, hu]
    refine pIf_i (fun hz => ?_) (fun hz => ?_)
    · exact pIf_t rfl (bad _ (bad2 (.inl (by simpa using hz))))
    · have hz1 : ¬ fd < 0 := by simpa using hz
      refine pIf_i (fun hz => ?_) (fun hz => ?_)
      · exact pIf_t rfl (bad _ (bad2 (.inr (.inl (by simp at hz; omega)))))
      · have hz2 : ¬ fd > 3 := by simpa using hz
        have hu0 : (tk T pid).enc[29 + fd.toNat * 5]? = some (.bool (areaAt (tk T pid) fd).used) := by rcases four (k := fd) (by omega) (by omega) with rfl | rfl | rfl | rfl <;> rfl
        refine pIdx_i (by omega) (by omega) ?_
        refine pIdx_i (by omega) (by omega) ?_
        rw [Nat.add_assoc]
        refine tab_ld t' (by omega) hlt hu0 ?_
        refine pIf_i (fun hz => ?_) (fun hz => ?_)
        · exact bad _ (bad2 (.inr (.inr (by simpa using hz))))
        · have hz3 : (areaAt (tk T pid) fd).used = true := by simpa using hz
          have e0 : areaE T pid fd = 0 := by simp [areaE, ha]; exact ⟨by omega, by omega, hz3⟩
          have e : areaF T pid fd = (areaAt (tk T pid) fd, 0) := by simp [areaF, e0]
          rw [e] at k
          refine pIdx_i (by omega) (by omega) ?_
          refine pIdx_i (by omega) (by omega) ?_
          refine tab_ldA t' (by omega) hlt (area_cut (tk T pid) (by omega) (by omega)) ?_
          refine stA_all (Heap.set_same _ _ _) rfl rfl (area_one _) ?_
          refine ldA_all (Heap.set_same _ _ _) rfl ?_
          refine fgt_here ?_ k
          (intro i x hx; grind (splits := 30) [Heap.set])
def setAreaF (T : List Task) (pid fd : Int) (a : Area) : List Task × Int := if areaE T pid fd = 0 then (T.set pid.toNat (setArea (tk T pid) fd a), 0) else (T, areaE T pid fd)
theorem areaF_2 (T : List Task) (pid fd : Int) : (areaF T pid fd).2 = areaE T pid fd := by
  unfold areaF; split
  · rename_i h; simp [h]
  · rfl
theorem refSetArea_ok {h : Heap} {b : Nat} {T : List Task} (t : Tab h b T) (w : TW T) (pid fd : Int) (a : Area) {KP K : Value → Pr}
    (k : K (.int .i64 (setAreaF T pid fd a).2) (TabTo h b (setAreaF T pid fd a).1)) : WpCall Try.prog 41 #[.pointer (some ⟨b, 0, none⟩), .int .i64 pid, .int .i64 fd, .agg a.enc.toArray] KP K h := by
  refine ref24_Table_SetArea_call _ _ _ _ ?_
  unfold ref24_Table_SetArea ref24_Table_SetArea_j1 pJoin
  have hB := t.blk
  simp only [add_mk, Nat.zero_add, Nat.add_zero, pSome_some]
  (intro b1 hb1; try simp only [Heap.set_none] at hb1)
  have t' : Tab (h.set b1 (.row a.enc a.enc.length)) b T := ⟨by (repeat (first | exact Heap.set_same _ _ _ | assumption | refine Heap.look_ne (by (first | assumption | exact Ne.symm (by assumption) | grind)) ?_)), t.len⟩
  refine refArea_ok t' w pid fd ⟨((areaF T pid fd).1.enc, (areaF T pid fd).2, ()), rfl, ?_⟩
  refine new_st zc_alen (Area.len _) (area_one _) ?_
  (intro b3 hb3; try simp only [Heap.set_none] at hb3)
  simp only [areaF_2]
  have t2 : Tab ((h.set b1 (.row a.enc a.enc.length)).set b3 (.row (areaF T pid fd).1.enc 5)) b T := ⟨by (repeat (first | exact Heap.set_same _ _ _ | assumption | refine Heap.look_ne (by (first | assumption | exact Ne.symm (by assumption) | grind)) ?_)), t.len⟩
  refine pIf_i (fun hz => ?_) (fun hz => ?_)
  · have e : areaE T pid fd = 0 := by simpa using hz
    obtain ⟨ha, f0, f6, _⟩ := areaE_ok e
    have hr := alive_range ha
    have hlt := hr.2
    have e2 : setAreaF T pid fd a = (T.set pid.toNat (setArea (tk T pid) fd a), 0) := by simp [setAreaF, e]
    rw [e2] at k
    refine pIdx_i (by omega) (by omega) ?_
    refine ldA_all (by (repeat (first | exact Heap.set_same _ _ _ | assumption | refine Heap.look_ne (by (first | assumption | exact Ne.symm (by assumption) | grind)) ?_))) rfl ?_
    refine pIdx_i (by omega) (by omega) ?_
    rw [Nat.add_assoc]
    refine tab_set t2 (by omega) hlt _ _ (setArea (tk T pid) fd a) (by rw [Area.len]; omega) (area_put _ f0 f6 _) (area_one _) (Area.len _) ?_
    rw [e]
    refine fgt_here ?_ k
    unfold TabTo; (intro i x hx; grind (splits := 30) [Heap.set])
  · have e : areaE T pid fd ≠ 0 := by simpa using hz
    have e2 : setAreaF T pid fd a = (T, areaE T pid fd) := by simp [setAreaF, e]
    rw [e2, show TabTo h b T = h from t.same] at k
    refine fgt_here ?_ k
    (intro i x hx; grind (splits := 30) [Heap.set])
end Go.Proofs.Ytgheplpbffanoaa
