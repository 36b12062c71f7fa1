import Derived.Test.YtgheplpbffanoaaD1
set_option linter.unusedVariables false
set_option linter.unusedSimpArgs false
namespace Go.Proofs.Ytgheplpbffanoaa
open Go.Hl
attribute [local irreducible] loadF zc sizeP bytesP vcBody

theorem file_ct (f : File) : okCells [.int .i64, .int .i64, .int .i64] f.enc = true := rfl
theorem files_cut (t : Task) : cut t.enc 11 18 = some ((files t).flatMap File.enc) := rfl
theorem areas_cut (t : Task) : cut t.enc 29 20 = some ((areas t).flatMap Area.enc) := rfl
def freeFd (t : Task) : Int := idxOf (fun f => decide (File.z = f)) (files t)
theorem tab_vals' {h : Heap} {b : Nat} {T : List Task} (t : Tab h b T) {pid : Int} (h0 : 0 ≤ pid) (h1 : pid < 9) {k n : Nat} {xs : List Value} (hx : cut (tk T pid).enc k n = some xs) : h.vals ⟨b, pid.toNat * 49 + k, none⟩ n = some xs := by
  have hv := tab_vals t h0 h1
  have := vals_sub hv (k := k) (m := n) (by have := (cut_some hx).2.1; rw [Task.len] at this; exact this)
  rw [add_mk] at this
  exact this.trans hx

theorem indexFile_ok {h : Heap} {s : Sl} {l : List File} (hv : s.vals 3 h (l.flatMap File.enc)) (hl : s.len = l.length) (hb : l.length < 9223372036854775807) (f : File) {KP K : Value → Pr}
    (k : K (.int .i64 (idxOf (fun g => decide (f = g)) l)) h) : WpCall Try.prog 88 #[.slice s.base s.len s.cap, .agg f.enc.toArray] KP K h := by
  refine slices_Index_api_File_api_File_call _ _ ?_
  unfold slices_Index_api_File_api_File slices_Index_api_File_api_File_l1
  intro b1 hb1
  have hle : Heap.le h (h.set b1 (.row f.enc f.enc.length)) := Heap.le_set_new (Heap.le_refl _) hb1 _
  exact loop_indexAgg File.len (Sl.vals_le hle hv) hl hb (v := f) file_ct (p := fun g => decide (f = g)) (fun x => file_eq _ _) (Heap.set_same _ _ _) (K := fgt K) (fgt_here hle k)

theorem tk_setp {T : List Task} {p : Int} (hl : T.length = 9) (h0 : 0 ≤ p) (h1 : p < 9) (x : Task) : tk (T.set p.toNat x) p = x := tk_set hl h1 h0 x

/-- A descriptor is put into the least free place. -/
def putF (T : List Task) (pid : Int) (f : File) : List Task × Int × Int :=
  if aliveB T pid = true then if freeFd (tk T pid) < 0 then (T, 0, 24) else if openAll T ≥ 16 then (T, 0, 23) else (T.set pid.toNat (setFile (tk T pid) (freeFd (tk T pid)) f), freeFd (tk T pid), 0) else (T, 0, 3)
theorem freeFd_range (t : Task) : freeFd t = -1 ∨ (0 ≤ freeFd t ∧ freeFd t < 6) := by
  have := idxOf_range (fun f => decide (File.z = f)) (files t); simp [files] at this; unfold freeFd; simpa [files] using this

set_option maxHeartbeats 1000000 in
theorem put_ok {h : Heap} {b : Nat} {T : List Task} (t : Tab h b T) (pid : Int) (f : File) {KP K : Value → Pr}
    (k : K (.tuple #[.int .i64 (putF T pid f).2.1, .int .i64 (putF T pid f).2.2]) (TabTo h b (putF T pid f).1)) : WpCall Try.prog 61 #[.pointer (some ⟨b, 0, none⟩), .int .i64 pid, .agg f.enc.toArray] KP K h := by
  refine tasks_Table_put_call _ _ _ ?_
  unfold tasks_Table_put
  have hB := t.blk
  (intro b1 hb1; try simp only [Heap.set_none] at hb1)
  (intro b2 hb2; try simp only [Heap.set_none] at hb2)
  rw [zc_int]
  (intro b3 hb3; try simp only [Heap.set_none] at hb3)
  refine st_b (Heap.set_same _ _ _) (by decide) rfl ?_
  rw [Heap.set_set]
  (apply ld_b; (· (repeat (first | exact Heap.set_same _ _ _ | assumption | refine Heap.look_ne (by (first | assumption | exact Ne.symm (by assumption) | grind)) ?_))); (· rfl))
  have t' : Tab (((h.set b1 (.row [.pointer (some ⟨b, 0, none⟩)] 1)).set b2 (.row f.enc 3)).set b3 (.row [.int .i64 (-1)] 1)) b T := ⟨by (repeat (first | exact Heap.set_same _ _ _ | assumption | refine Heap.look_ne (by (first | assumption | exact Ne.symm (by assumption) | grind)) ?_)), t.len⟩
  have hset : [Value.int .i64 0].set 0 (.int .i64 (-1)) = [.int .i64 (-1)] := rfl
  simp only [hset]
  refine on_ok t' pid ?_ ?_
  · intro ha
    have e : putF T pid f = (T, 0, 3) := by simp [putF, ha]
    rw [e] at k
    refine ⟨(3 : Int), rfl, pIf_t rfl (fgt_here ?_ k)⟩
    rw [show TabTo h b T = h from t.same]; (intro i x hx; grind (splits := 30) [Heap.set])
  · intro ha h1 h9
    refine WpVal.of_func (tasks_Table_put_1_call _ _ _ _ ?_)
    unfold tasks_Table_put_1
    rw [zc_file0]
    simp only [add_mk, Nat.zero_add, Nat.add_zero, pSome_some]
    refine pAssert_i (by decide) ?_
    have hv : (Sl.mk (some ⟨b, pid.toNat * 49 + 11, none⟩) 6 6).vals 3 (((h.set b1 (.row [.pointer (some ⟨b, 0, none⟩)] 1)).set b2 (.row f.enc 3)).set b3 (.row [.int .i64 (-1)] 1)) ((files (tk T pid)).flatMap File.enc) :=
      sl_of_vals (tab_vals' t' (by omega) h9 (files_cut _))
    refine indexFile_ok (s := ⟨some ⟨b, pid.toNat * 49 + 11, none⟩, 6, 6⟩) hv rfl (by show (6 : Nat) < _; decide) .z ⟨freeFd (tk T pid), rfl, ?_⟩
    refine st_b (Heap.set_same _ _ _) (by decide) rfl ?_
    rw [Heap.set_set]
    have hset2 : [Value.int .i64 (-1)].set 0 (.int .i64 (freeFd (tk T pid))) = [.int .i64 (freeFd (tk T pid))] := rfl
    simp only [hset2]
    have t2 : Tab (((h.set b1 (.row [.pointer (some ⟨b, 0, none⟩)] 1)).set b2 (.row f.enc 3)).set b3 (.row [.int .i64 (freeFd (tk T pid))] 1)) b T := ⟨by (repeat (first | exact Heap.set_same _ _ _ | assumption | refine Heap.look_ne (by (first | assumption | exact Ne.symm (by assumption) | grind)) ?_)), t.len⟩
    (apply ld_b; (· (repeat (first | exact Heap.set_same _ _ _ | assumption | refine Heap.look_ne (by (first | assumption | exact Ne.symm (by assumption) | grind)) ?_))); (· rfl))
    have hfr := freeFd_range (tk T pid)
    refine pIf_i (fun hz => ?_) (fun hz => ?_)
    · have hz' : freeFd (tk T pid) < 0 := by simpa using hz
      have e : putF T pid f = (T, 0, 24) := by simp [putF, ha, hz']
      rw [e] at k
      refine fgt_mk ⟨24, rfl, (24 : Int), rfl, pIf_t rfl (fgt_here ?_ k)⟩
      rw [show TabTo h b T = h from t.same]; (intro i x hx; grind (splits := 30) [Heap.set])
    · have hz' : ¬ freeFd (tk T pid) < 0 := by simpa using hz
      (apply ld_b; (· (repeat (first | exact Heap.set_same _ _ _ | assumption | refine Heap.look_ne (by (first | assumption | exact Ne.symm (by assumption) | grind)) ?_))); (· rfl))
      refine openAll_ok t2 ⟨openAll T, rfl, ?_⟩
      refine pIf_i (fun hz => ?_) (fun hz => ?_)
      · have hy' : openAll T ≥ 16 := by simpa using hz
        have e : putF T pid f = (T, 0, 23) := by simp [putF, ha, hz', hy']
        rw [e] at k
        refine fgt_mk ⟨23, rfl, (23 : Int), rfl, pIf_t rfl (fgt_here ?_ k)⟩
        rw [show TabTo h b T = h from t.same]; (intro i x hx; grind (splits := 30) [Heap.set])
      · have hy' : ¬ openAll T ≥ 16 := by simpa using hz
        have e : putF T pid f = (T.set pid.toNat (setFile (tk T pid) (freeFd (tk T pid)) f), freeFd (tk T pid), 0) := by simp [putF, ha, hz', hy']
        rw [e] at k
        (apply ld_b; (· (repeat (first | exact Heap.set_same _ _ _ | assumption | refine Heap.look_ne (by (first | assumption | exact Ne.symm (by assumption) | grind)) ?_))); (· rfl))
        (apply ldA_all; (· (repeat (first | exact Heap.set_same _ _ _ | assumption | refine Heap.look_ne (by (first | assumption | exact Ne.symm (by assumption) | grind)) ?_))); (· first | rfl | simp))
        refine pIdx_i (by omega) (by omega) ?_
        rw [Nat.add_assoc]
        refine tab_set t2 (by omega) h9 _ _ (setFile (tk T pid) (freeFd (tk T pid)) f) (by rw [File.len]; omega) (file_put _ (by omega) (by omega) _) (file_one _) (File.len _) ?_
        refine fgt_mk ⟨0, rfl, (0 : Int), rfl, pIf_f rfl ?_⟩
        (apply ld_b; (· (repeat (first | exact Heap.set_same _ _ _ | assumption | refine Heap.look_ne (by (first | assumption | exact Ne.symm (by assumption) | grind)) ?_))); (· rfl))
        refine fgt_here ?_ k
        unfold TabTo; (intro i x hx; grind (splits := 30) [Heap.set])

theorem add_ok {h : Heap} {b : Nat} {T : List Task} (t : Tab h b T) (pid ino flags : Int) {KP K : Value → Pr}
    (k : K (.tuple #[.int .i64 (putF T pid ⟨ino, flags, 0⟩).2.1, .int .i64 (putF T pid ⟨ino, flags, 0⟩).2.2]) (TabTo h b (putF T pid ⟨ino, flags, 0⟩).1)) : WpCall Try.prog 29 #[.pointer (some ⟨b, 0, none⟩), .int .i64 pid, .int .i64 ino, .int .i64 flags] KP K h := by
  refine tasks_Table_Add_call _ _ _ _ ?_
  unfold tasks_Table_Add
  have e : lay (zc Try.prog 33) [(0, .int .i64 ino), (1, .int .i64 flags)] = (File.mk ino flags 0).enc := by rw [zc_file]; rfl
  rw [e]
  exact put_ok t pid ⟨ino, flags, 0⟩ ⟨((putF T pid ⟨ino, flags, 0⟩).2.1, (putF T pid ⟨ino, flags, 0⟩).2.2, ()), rfl, fgt_mk k⟩
def dupF (T : List Task) (pid fd : Int) : List Task × Int × Int := if (fileF T pid fd).2 = 0 then putF T pid (fileF T pid fd).1 else (T, 0, (fileF T pid fd).2)
theorem dup_ok {h : Heap} {b : Nat} {T : List Task} (t : Tab h b T) (pid fd : Int) {KP K : Value → Pr}
    (k : K (.tuple #[.int .i64 (dupF T pid fd).2.1, .int .i64 (dupF T pid fd).2.2]) (TabTo h b (dupF T pid fd).1)) : WpCall Try.prog 35 #[.pointer (some ⟨b, 0, none⟩), .int .i64 pid, .int .i64 fd] KP K h := by
  refine tasks_Table_Dup_call _ _ _ ?_
  unfold tasks_Table_Dup
  refine fileGet_ok t pid fd ⟨((fileF T pid fd).1.enc, (fileF T pid fd).2, ()), rfl, ?_⟩
  refine new_st zc_flen (File.len _) (file_one _) ?_
  have hB := t.blk
  (intro b1 hb1; try simp only [Heap.set_none] at hb1)
  have t' : Tab (h.set b1 (.row (fileF T pid fd).1.enc 3)) b T := ⟨by (repeat (first | exact Heap.set_same _ _ _ | assumption | refine Heap.look_ne (by (first | assumption | exact Ne.symm (by assumption) | grind)) ?_)), t.len⟩
  refine pIf_i (fun hz => ?_) (fun hz => ?_)
  · have hz' : (fileF T pid fd).2 ≠ 0 := by simpa using hz
    have e : dupF T pid fd = (T, 0, (fileF T pid fd).2) := by simp [dupF, hz']
    rw [e, show TabTo h b T = h from t.same] at k
    exact fgt_here (by (intro i x hx; grind (splits := 30) [Heap.set])) k
  · have hz' : (fileF T pid fd).2 = 0 := by simpa using hz
    have e : dupF T pid fd = putF T pid (fileF T pid fd).1 := by simp [dupF, hz']
    rw [e] at k
    (apply ldA_all; (· (repeat (first | exact Heap.set_same _ _ _ | assumption | refine Heap.look_ne (by (first | assumption | exact Ne.symm (by assumption) | grind)) ?_))); (· first | rfl | simp))
    refine put_ok t' pid _ ⟨((putF T pid (fileF T pid fd).1).2.1, (putF T pid (fileF T pid fd).1).2.2, ()), rfl, fgt_here ?_ k⟩
    unfold TabTo; (intro i x hx; grind (splits := 30) [Heap.set])

/- Mappings. -/
def areaE (T : List Task) (pid k : Int) : Int := if aliveB T pid = true then if k < 0 ∨ k ≥ 4 ∨ (areaAt (tk T pid) k).used = false then 22 else 0 else 3
theorem areaE_ok {T : List Task} {pid fd : Int} (h : areaE T pid fd = 0) : aliveB T pid = true ∧ 0 ≤ fd ∧ fd < 4 ∧ (areaAt (tk T pid) fd).used = true := by
  unfold areaE at h
  split at h
  · rename_i ha
    split at h
    · omega
    · rename_i hn
      simp only [not_or] at hn
      exact ⟨ha, by omega, by omega, by simpa using hn.2.2⟩
  · omega
theorem area_ok' {h : Heap} {b : Nat} {T : List Task} (t : Tab h b T) (pid fd : Int) {f : Value} (hf : f.oneCell' = true) {KP K : Value → Pr}
    (k0 : areaE T pid fd ≠ 0 → K (.int .i64 (areaE T pid fd)) h)
    (k1 : areaE T pid fd = 0 → ∀ H, Heap.le h H → WpVal Try.prog f [.pointer (some ⟨b, pid.toNat * 49 + 29 + fd.toNat * 5, none⟩)] KP (fun v h' => v = .tuple #[] ∧ ∃ g, Heap.le g h' ∧ K (.int .i64 0) g) H) :
    WpCall Try.prog 70 #[.pointer (some ⟨b, 0, none⟩), .int .i64 pid, .int .i64 fd, f] KP K h := by
  refine tasks_Table_area_call _ _ _ _ ?_
  unfold tasks_Table_area
  have hB := t.blk
  (intro b1 hb1; try simp only [Heap.set_none] at hb1)
  refine pAssert_i hf ?_
  (intro b2 hb2; try simp only [Heap.set_none] at hb2)
  have t' : Tab ((h.set b1 (.row [.int .i64 fd] 1)).set b2 (.row [f] 1)) b T := ⟨by (repeat (first | exact Heap.set_same _ _ _ | assumption | refine Heap.look_ne (by (first | assumption | exact Ne.symm (by assumption) | grind)) ?_)), t.len⟩
  have hle : Heap.le h ((h.set b1 (.row [.int .i64 fd] 1)).set b2 (.row [f] 1)) := by (intro i x hx; grind (splits := 30) [Heap.set])
  refine on_ok t' pid ?_ ?_
  · intro ha
    exact ⟨(3 : Int), rfl, fgt_here hle (by simpa [areaE, ha] using k0)⟩
  · intro ha h1 h9
    refine WpVal.of_func (tasks_Table_area_1_call _ _ _ ?_)
    unfold tasks_Table_area_1 tasks_Table_area_1_j1 pJoin
    simp only [add_mk, Nat.zero_add, Nat.add_zero, pSome_some]
    have bad : (fd < 0 ∨ fd ≥ 4 ∨ (areaAt (tk T pid) fd).used = false) → fgt (fun v h' => ∃ x : Int, v = .int .i64 x ∧ ∃ y : Int, (Value.int .i64 x) = (RShape.one (.int .i64)).inj y ∧ fgt K (.int .i64 y) h') (.int .i64 22) ((h.set b1 (.row [.int .i64 fd] 1)).set b2 (.row [f] 1)) := fun hu =>
      fgt_mk ⟨22, rfl, (22 : Int), rfl, fgt_here hle (by simpa [areaE, ha, hu] using k0)⟩
    (apply ld_b; (· (repeat (first | exact Heap.set_same _ _ _ | assumption | refine Heap.look_ne (by (first | assumption | exact Ne.symm (by assumption) | grind)) ?_))); (· rfl))
    refine pIf_i (fun hz => ?_) (fun hz => ?_)
    · exact pIf_t rfl (bad (.inl (by simpa using hz)))
    · have hz1 : ¬ fd < 0 := by simpa using hz
      (apply ld_b; (· (repeat (first | exact Heap.set_same _ _ _ | assumption | refine Heap.look_ne (by (first | assumption | exact Ne.symm (by assumption) | grind)) ?_))); (· rfl))
      refine pIf_i (fun hz => ?_) (fun hz => ?_)
      · exact pIf_t rfl (bad (.inr (.inl (by simpa using hz))))
      · have hz2 : ¬ fd ≥ 4 := by simpa using hz
        (apply ld_b; (· (repeat (first | exact Heap.set_same _ _ _ | assumption | refine Heap.look_ne (by (first | assumption | exact Ne.symm (by assumption) | grind)) ?_))); (· rfl))
        refine pIdx_i (by omega) (by omega) ?_
        have hu0 : (tk T pid).enc[29 + fd.toNat * 5]? = some (.bool (areaAt (tk T pid) fd).used) := by rcases four (k := fd) (by omega) (by omega) with rfl | rfl | rfl | rfl <;> rfl
        rw [Nat.add_assoc]
        refine tab_ld t' (by omega) h9 hu0 ?_
        refine pIf_i (fun hz => ?_) (fun hz => ?_)
        · exact bad (.inr (.inr (by simpa using hz)))
        · have hz3 : (areaAt (tk T pid) fd).used = true := by simpa using hz
          have e0 : areaE T pid fd = 0 := by simp [areaE, ha]; exact ⟨by omega, by omega, hz3⟩
          (apply ld_b; (· (repeat (first | exact Heap.set_same _ _ _ | assumption | refine Heap.look_ne (by (first | assumption | exact Ne.symm (by assumption) | grind)) ?_))); (· rfl))
          (apply ld_b; (· (repeat (first | exact Heap.set_same _ _ _ | assumption | refine Heap.look_ne (by (first | assumption | exact Ne.symm (by assumption) | grind)) ?_))); (· rfl))
          refine pIdx_i (by omega) (by omega) ?_
          refine WpVal.mono (k1 e0 _ hle) ?_ (fun v h' q => fgt_mk (fgt_mk q))
          rintro v h' ⟨rfl, g, hg, k⟩
          exact ⟨(), rfl, fgt_mk ⟨0, rfl, (0 : Int), rfl, fgt_here hg k⟩⟩
def unmapF (T : List Task) (pid fd : Int) : List Task × Int := if areaE T pid fd = 0 then (T.set pid.toNat (setArea (tk T pid) fd .z), 0) else (T, areaE T pid fd)
theorem unmap_ok {h : Heap} {b : Nat} {T : List Task} (t : Tab h b T) (pid fd : Int) {KP K : Value → Pr}
    (k : K (.int .i64 (unmapF T pid fd).2) (TabTo h b (unmapF T pid fd).1)) : WpCall Try.prog 42 #[.pointer (some ⟨b, 0, none⟩), .int .i64 pid, .int .i64 fd] KP K h := by
  refine tasks_Table_Unmap_call _ _ _ ?_
  unfold tasks_Table_Unmap
  refine area_ok' t pid fd rfl ?_ ?_
  · intro e
    have : unmapF T pid fd = (T, areaE T pid fd) := by simp [unmapF, e]
    rw [this, show TabTo h b T = h from t.same] at k
    exact ⟨areaE T pid fd, rfl, fgt_mk k⟩
  · intro e H hle
    obtain ⟨ha, f0, f6, _⟩ := areaE_ok e
    have hr := alive_range ha
    refine WpVal.of_func (caps := []) (tasks_Table_Unmap_1_call _ ?_)
    unfold tasks_Table_Unmap_1
    simp only [add_mk, Nat.zero_add, Nat.add_zero, pSome_some]
    rw [zc_area0, Nat.add_assoc]
    refine tab_set (t.le hle) (by omega) hr.2 _ _ (setArea (tk T pid) fd .z) (by rw [Area.len]; omega) (area_put _ f0 f6 _) (area_one _) (Area.len _) ?_
    refine fgt_mk ⟨rfl, _, Heap.le_set_set hle _ _, (0 : Int), rfl, fgt_mk ?_⟩
    simpa [unmapF, e] using k
def protF (T : List Task) (pid fd off : Int) : List Task × Int := if areaE T pid fd = 0 then (T.set pid.toNat (setArea (tk T pid) fd { areaAt (tk T pid) fd with prot := off }), 0) else (T, areaE T pid fd)
theorem protect_ok {h : Heap} {b : Nat} {T : List Task} (t : Tab h b T) (pid fd off : Int) {KP K : Value → Pr}
    (k : K (.int .i64 (protF T pid fd off).2) (TabTo h b (protF T pid fd off).1)) : WpCall Try.prog 40 #[.pointer (some ⟨b, 0, none⟩), .int .i64 pid, .int .i64 fd, .int .i64 off] KP K h := by
  refine tasks_Table_Protect_call _ _ _ _ ?_
  unfold tasks_Table_Protect
  have hB := t.blk
  (intro b1 hb1; try simp only [Heap.set_none] at hb1)
  have t' : Tab (h.set b1 (.row [.int .i64 off] 1)) b T := ⟨by (repeat (first | exact Heap.set_same _ _ _ | assumption | refine Heap.look_ne (by (first | assumption | exact Ne.symm (by assumption) | grind)) ?_)), t.len⟩
  refine area_ok' t' pid fd rfl ?_ ?_
  · intro e
    have : protF T pid fd off = (T, areaE T pid fd) := by simp [protF, e]
    rw [this, show TabTo h b T = h from t.same] at k
    exact ⟨areaE T pid fd, rfl, fgt_here (by (intro i x hx; grind (splits := 30) [Heap.set])) k⟩
  · intro e H hle
    obtain ⟨ha, f0, f6, _⟩ := areaE_ok e
    have hr := alive_range ha
    have hlt := hr.2
    refine WpVal.of_func (tasks_Table_Protect_1_call _ _ ?_)
    unfold tasks_Table_Protect_1
    simp only [add_mk, Nat.zero_add, Nat.add_zero, pSome_some]
    refine ld_b (hle _ _ (Heap.set_same _ _ _)) rfl ?_
    rw [show pid.toNat * 49 + 29 + fd.toNat * 5 + 2 = pid.toNat * 49 + (29 + fd.toNat * 5 + 2) by omega]
    refine tab_st (t'.le hle) (by omega) hr.2 _ _ (setArea (tk T pid) fd { areaAt (tk T pid) fd with prot := off }) (by omega) (by rcases four f0 f6 with rfl | rfl | rfl | rfl <;> rfl) rfl ?_
    refine fgt_mk ⟨rfl, _, Heap.le_set_set hle _ _, (0 : Int), rfl, fgt_here (g := TabTo h b (protF T pid fd off).1) ?_ ?_⟩
    · simp only [protF, e, if_true, TabTo]; (intro i x hx; grind (splits := 30) [Heap.set])
    · have e2 : (protF T pid fd off).2 = 0 := by simp [protF, e]
      rw [e2] at k; exact k
def areaF (T : List Task) (pid fd : Int) : Area × Int := if areaE T pid fd = 0 then (areaAt (tk T pid) fd, 0) else (.z, areaE T pid fd)
theorem areaGet_ok {h : Heap} {b : Nat} {T : List Task} (t : Tab h b T) (pid fd : Int) {KP K : Value → Pr}
    (k : K (.tuple #[.agg (areaF T pid fd).1.enc.toArray, .int .i64 (areaF T pid fd).2]) h) : WpCall Try.prog 58 #[.pointer (some ⟨b, 0, none⟩), .int .i64 pid, .int .i64 fd] KP K h := by
  refine tasks_Table_Area_call _ _ _ ?_
  unfold tasks_Table_Area
  have hB := t.blk
  (intro b1 hb1; try simp only [Heap.set_none] at hb1)
  (intro b2 hb2; try simp only [Heap.set_none] at hb2)
  rw [zc_area]
  have t' : Tab ((h.set b1 (.row Area.z.enc Area.z.enc.length)).set b2 (.row Area.z.enc Area.z.enc.length)) b T := ⟨by (repeat (first | exact Heap.set_same _ _ _ | assumption | refine Heap.look_ne (by (first | assumption | exact Ne.symm (by assumption) | grind)) ?_)), t.len⟩
  refine area_ok' t' pid fd rfl ?_ ?_
  · intro e
    have : areaF T pid fd = (.z, areaE T pid fd) := by simp [areaF, e]
    rw [this] at k
    refine ⟨areaE T pid fd, rfl, ?_⟩
    refine ldA_all (Heap.set_same _ _ _) rfl ?_
    refine stA_all (by (repeat (first | exact Heap.set_same _ _ _ | assumption | refine Heap.look_ne (by (first | assumption | exact Ne.symm (by assumption) | grind)) ?_))) rfl rfl (area_one _) ?_
    refine ldA_all (Heap.set_same _ _ _) rfl ?_
    refine fgt_here ?_ k
    (intro i x hx; grind (splits := 30) [Heap.set])
  · intro e H hle
    obtain ⟨ha, f0, f6, _⟩ := areaE_ok e
    have hr := alive_range ha
    refine WpVal.of_func (tasks_Table_Area_1_call _ _ ?_)
    unfold tasks_Table_Area_1
    simp only [add_mk, Nat.zero_add, Nat.add_zero, pSome_some]
    rw [Nat.add_assoc]
    refine tab_ldA (t'.le hle) (by omega) hr.2 (area_cut (tk T pid) f0 f6) ?_
    have hb2 := hle _ _ (Heap.set_same _ _ _)
    refine stA_all hb2 rfl rfl (area_one _) ?_
    refine fgt_mk ⟨rfl, ((h.set b1 (.row Area.z.enc 5)).set b2 (.row (areaAt (tk T pid) fd).enc 5)), ?_, (0 : Int), rfl, ?_⟩
    · have := Heap.le_set_set hle b2 (.row (areaAt (tk T pid) fd).enc Area.z.enc.length)
      rw [Heap.set_set] at this; exact this
    have : areaF T pid fd = (areaAt (tk T pid) fd, 0) := by simp [areaF, e]
    rw [this] at k
    refine ldA_all (Heap.set_same _ _ _) rfl ?_
    refine stA_all (by (repeat (first | exact Heap.set_same _ _ _ | assumption | refine Heap.look_ne (by (first | assumption | exact Ne.symm (by assumption) | grind)) ?_))) rfl rfl (area_one _) ?_
    refine ldA_all (Heap.set_same _ _ _) rfl ?_
    refine fgt_here ?_ k
    (intro i x hx; grind (splits := 30) [Heap.set])
end Go.Proofs.Ytgheplpbffanoaa
