import Derived.Test.YtgheplpbffanoaaD2
set_option linter.unusedVariables false
set_option linter.unusedSimpArgs false
namespace Go.Proofs.Ytgheplpbffanoaa
open Go.Hl
attribute [local irreducible] loadF zc sizeP bytesP vcBody

def freeA (t : Task) : Int := idxOf (fun a => !a.used) (areas t)
theorem freeA_range (t : Task) : freeA t = -1 ∨ (0 ≤ freeA t ∧ freeA t < 4) := by
  have := idxOf_range (fun a => !a.used) (areas t); unfold freeA; simpa [areas] using this
theorem indexFuncArea_ok {h : Heap} {s : Sl} {l : List Area} {f : Value} {p : Area → Bool} (hv : s.vals 5 h (l.flatMap Area.enc)) (hl : s.len = l.length) (hb : l.length < 9223372036854775807)
    (hf : ∀ x ∈ l, ∀ (KP K : Value → Pr), K (.bool (p x)) h → WpVal Try.prog f [.agg (Area.enc x).toArray] KP K h) {KP K : Value → Pr}
    (k : K (.int .i64 (idxOf p l)) h) : WpCall Try.prog 68 #[.slice s.base s.len s.cap, f] KP K h := by
  refine slices_IndexFunc_api_Area_api_Area_call _ _ ?_
  unfold slices_IndexFunc_api_Area_api_Area slices_IndexFunc_api_Area_api_Area_l1
  exact loop_indexFunc Area.len hv hl hb hf (fgt_mk k)
theorem indexFuncFile_ok {h : Heap} {s : Sl} {l : List File} {f : Value} {p : File → Bool} (hv : s.vals 3 h (l.flatMap File.enc)) (hl : s.len = l.length) (hb : l.length < 9223372036854775807)
    (hf : ∀ x ∈ l, ∀ (KP K : Value → Pr), K (.bool (p x)) h → WpVal Try.prog f [.agg (File.enc x).toArray] KP K h) {KP K : Value → Pr}
    (k : K (.int .i64 (idxOf p l)) h) : WpCall Try.prog 92 #[.slice s.base s.len s.cap, f] KP K h := by
  refine slices_IndexFunc_api_File_api_File_call _ _ ?_
  unfold slices_IndexFunc_api_File_api_File slices_IndexFunc_api_File_api_File_l1
  exact loop_indexFunc File.len hv hl hb hf (fgt_mk k)
theorem indexFuncTask_ok {h : Heap} {s : Sl} {l : List Task} {f : Value} {p : Task → Bool} (hv : s.vals 49 h (l.flatMap Task.enc)) (hl : s.len = l.length) (hb : l.length < 9223372036854775807)
    (hf : ∀ x ∈ l, ∀ (KP K : Value → Pr), K (.bool (p x)) h → WpVal Try.prog f [.agg (Task.enc x).toArray] KP K h) {KP K : Value → Pr}
    (k : K (.int .i64 (idxOf p l)) h) : WpCall Try.prog 91 #[.slice s.base s.len s.cap, f] KP K h := by
  refine slices_IndexFunc_api_Task_api_Task_call _ _ ?_
  unfold slices_IndexFunc_api_Task_api_Task slices_IndexFunc_api_Task_api_Task_l1
  exact loop_indexFunc Task.len hv hl hb hf (fgt_mk k)
theorem containsArea_ok {h : Heap} {s : Sl} {l : List Area} {f : Value} {p : Area → Bool} (hv : s.vals 5 h (l.flatMap Area.enc)) (hl : s.len = l.length) (hb : l.length < 9223372036854775807)
    (hf : ∀ x ∈ l, ∀ (KP K : Value → Pr), K (.bool (p x)) h → WpVal Try.prog f [.agg (Area.enc x).toArray] KP K h) {KP K : Value → Pr}
    (k : K (.bool (l.any p)) h) : WpCall Try.prog 83 #[.slice s.base s.len s.cap, f] KP K h := by
  refine slices_ContainsFunc_api_Area_api_Area_call _ _ ?_
  unfold slices_ContainsFunc_api_Area_api_Area
  refine indexFuncArea_ok hv hl hb hf ⟨_, rfl, ?_⟩
  rw [← idxOf_any] at k; exact fgt_mk k
theorem containsFile_ok {h : Heap} {s : Sl} {l : List File} {f : Value} {p : File → Bool} (hv : s.vals 3 h (l.flatMap File.enc)) (hl : s.len = l.length) (hb : l.length < 9223372036854775807)
    (hf : ∀ x ∈ l, ∀ (KP K : Value → Pr), K (.bool (p x)) h → WpVal Try.prog f [.agg (File.enc x).toArray] KP K h) {KP K : Value → Pr}
    (k : K (.bool (l.any p)) h) : WpCall Try.prog 81 #[.slice s.base s.len s.cap, f] KP K h := by
  refine slices_ContainsFunc_api_File_api_File_call _ _ ?_
  unfold slices_ContainsFunc_api_File_api_File
  refine indexFuncFile_ok hv hl hb hf ⟨_, rfl, ?_⟩
  rw [← idxOf_any] at k; exact fgt_mk k
theorem containsTask_ok {h : Heap} {s : Sl} {l : List Task} {f : Value} {p : Task → Bool} (hv : s.vals 49 h (l.flatMap Task.enc)) (hl : s.len = l.length) (hb : l.length < 9223372036854775807)
    (hf : ∀ x ∈ l, ∀ (KP K : Value → Pr), K (.bool (p x)) h → WpVal Try.prog f [.agg (Task.enc x).toArray] KP K h) {KP K : Value → Pr}
    (k : K (.bool (l.any p)) h) : WpCall Try.prog 79 #[.slice s.base s.len s.cap, f] KP K h := by
  refine slices_ContainsFunc_api_Task_api_Task_call _ _ ?_
  unfold slices_ContainsFunc_api_Task_api_Task
  refine indexFuncTask_ok hv hl hb hf ⟨_, rfl, ?_⟩
  rw [← idxOf_any] at k; exact fgt_mk k

/-- A mapping is put into the least free place. -/
def mapF (T : List Task) (pid : Int) (a : Area) : List Task × Int × Int :=
  if aliveB T pid = true then if freeA (tk T pid) < 0 then (T, 0, 12) else (T.set pid.toNat (setArea (tk T pid) (freeA (tk T pid)) { a with used := true }), freeA (tk T pid), 0) else (T, 0, 3)
set_option maxHeartbeats 1000000 in
theorem map_ok {h : Heap} {b : Nat} {T : List Task} (t : Tab h b T) (pid : Int) (a : Area) {KP K : Value → Pr}
    (k : K (.tuple #[.int .i64 (mapF T pid a).2.1, .int .i64 (mapF T pid a).2.2]) (TabTo h b (mapF T pid a).1)) : WpCall Try.prog 37 #[.pointer (some ⟨b, 0, none⟩), .int .i64 pid, .agg a.enc.toArray] KP K h := by
  refine tasks_Table_Map_call _ _ _ ?_
  unfold tasks_Table_Map
  have hB := t.blk
  simp only [add_mk, Nat.zero_add, Nat.add_zero, pSome_some]
  (intro b1 hb1; try simp only [Heap.set_none] at hb1)
  rw [zc_int]
  (intro b2 hb2; try simp only [Heap.set_none] at hb2)
  refine st_b (Heap.set_same _ _ _) (by decide) rfl ?_
  rw [Heap.set_set]
  have hset : [Value.int .i64 0].set 0 (.int .i64 (-1)) = [.int .i64 (-1)] := rfl
  simp only [hset]
  apply st_b; (· (repeat (first | exact Heap.set_same _ _ _ | assumption | refine Heap.look_ne (by (first | assumption | exact Ne.symm (by assumption) | grind)) ?_))); (· show 0 < 5; decide); (· rfl)
  have ha1 : a.enc.set 0 (.bool true) = ({ a with used := true } : Area).enc := rfl
  rw [ha1]
  generalize hH : ((h.set b1 (.row a.enc a.enc.length)).set b2 (.row [.int .i64 (-1)] 1)).set b1 (.row ({ a with used := true } : Area).enc a.enc.length) = H
  have hH1 : H b1 = some (.row ({ a with used := true } : Area).enc 5) := by rw [← hH]; exact Heap.set_same _ _ _
  have hH2 : H b2 = some (.row [.int .i64 (-1)] 1) := by rw [← hH]; (repeat (first | exact Heap.set_same _ _ _ | assumption | refine Heap.look_ne (by (first | assumption | exact Ne.symm (by assumption) | grind)) ?_))
  have hle : Heap.le h H := by rw [← hH]; (intro i x hx; grind (splits := 30) [Heap.set])
  have hno : H b = some (.row (encT T) 441) := hle _ _ hB
  have t' : Tab H b T := ⟨hno, t.len⟩
  have n1 : b1 ≠ b := fun e => by subst e; rw [hB] at hb1; cases hb1
  have n2 : b2 ≠ b := fun e => by subst e; rw [hB] at hb2; exact absurd hb2.2 (by simp)
  refine on_ok t' pid ?_ ?_
  · intro ha
    have e : mapF T pid a = (T, 0, 3) := by simp [mapF, ha]
    rw [e, show TabTo h b T = h from t.same] at k
    exact ⟨(3 : Int), rfl, pIf_t rfl (fgt_here hle k)⟩
  · intro ha h1 h9
    refine WpVal.of_func (tasks_Table_Map_1_call _ _ _ ?_)
    unfold tasks_Table_Map_1
    simp only [add_mk, Nat.zero_add, Nat.add_zero, pSome_some]
    refine pAssert_i (by decide) ?_
    have hv : (Sl.mk (some ⟨b, pid.toNat * 49 + 29, none⟩) 4 4).vals 5 H ((areas (tk T pid)).flatMap Area.enc) :=
      sl_of_vals (tab_vals' t' (by omega) h9 (areas_cut _))
    refine indexFuncArea_ok (s := ⟨some ⟨b, pid.toNat * 49 + 29, none⟩, 4, 4⟩) (p := fun a => !a.used) hv rfl (by show (4 : Nat) < _; decide) ?_ ⟨freeA (tk T pid), rfl, ?_⟩
    · intro x hx KP K kx
      refine WpVal.of_func (caps := []) (tasks_Table_Map_1_1_call _ ?_)
      unfold tasks_Table_Map_1_1
      simp only [add_mk, Nat.zero_add, Nat.add_zero, pSome_some]
      intro c hc
      refine ld_b (Heap.set_same _ _ _) (show x.enc[0]? = _ from rfl) ?_
      exact fgt_here (Heap.le_set_new (Heap.le_refl _) hc _) kx
    apply st_b; (· exact hH2); (· decide); (· rfl)
    have hset2 : [Value.int .i64 (-1)].set 0 (.int .i64 (freeA (tk T pid))) = [.int .i64 (freeA (tk T pid))] := rfl
    rw [hset2]
    refine ld_b (Heap.set_same _ _ _) rfl ?_
    have hle2 : ∀ y, Heap.le h (H.set b2 y) := fun y => by rw [← hH]; (intro i x hx; grind (splits := 30) [Heap.set])
    have t2 : Tab (H.set b2 (.row [.int .i64 (freeA (tk T pid))] 1)) b T := t.le (hle2 _)
    have hfr := freeA_range (tk T pid)
    refine pIf_i (fun hz => ?_) (fun hz => ?_)
    · have hz' : freeA (tk T pid) < 0 := by simpa using hz
      have e : mapF T pid a = (T, 0, 12) := by simp [mapF, ha, hz']
      rw [e, show TabTo h b T = h from t.same] at k
      exact fgt_mk ⟨12, rfl, (12 : Int), rfl, pIf_t rfl (fgt_here (hle2 _) k)⟩
    · have hz' : ¬ freeA (tk T pid) < 0 := by simpa using hz
      have e : mapF T pid a = (T.set pid.toNat (setArea (tk T pid) (freeA (tk T pid)) { a with used := true }), freeA (tk T pid), 0) := by simp [mapF, ha, hz']
      rw [e] at k
      refine ld_b (Heap.set_same _ _ _) rfl ?_
      have n12 : b1 ≠ b2 := fun e => hb2.1 e.symm
      apply ldA_all; (· exact Heap.look_ne n12 hH1); (· rfl)
      refine pIdx_i (by omega) (by omega) ?_
      rw [Nat.add_assoc]
      refine tab_set t2 (by omega) h9 _ _ (setArea (tk T pid) (freeA (tk T pid)) { a with used := true }) (by rw [Area.len]; omega) (area_put _ (by omega) (by omega) _) (area_one _) (Area.len _) ?_
      refine fgt_mk ⟨0, rfl, (0 : Int), rfl, pIf_f rfl ?_⟩
      refine ld_b (Heap.look_ne n2 (Heap.set_same _ _ _)) rfl ?_
      refine fgt_here ?_ k
      unfold TabTo; rw [← hH]; (intro i x hx; grind (splits := 30) [Heap.set])

theorem aliveM_ok {h : Heap} {b : Nat} {T : List Task} (t : Tab h b T) (pid : Int) {KP K : Value → Pr} (k : K (.bool (aliveB T pid)) h) : WpCall Try.prog 19 #[.pointer (some ⟨b, 0, none⟩), .int .i64 pid] KP K h := by
  refine tasks_Table_Alive_call _ _ ?_
  unfold tasks_Table_Alive
  refine alive_ok t pid ⟨_, rfl, fgt_mk ?_⟩
  have : (!(if aliveB T pid = true then some (⟨b, pid.toNat * 49, none⟩ : Addr) else none).isNone) = aliveB T pid := by cases aliveB T pid <;> rfl
  rw [this]; exact k
theorem copy_ok {h : Heap} {b : Nat} {T : List Task} (t : Tab h b T) {KP K : Value → Pr} (k : ∀ c, h c = none → K (.pointer (some ⟨c, 0, none⟩)) (h.set c (.row (encT T) 441))) : WpCall Try.prog 20 #[.pointer (some ⟨b, 0, none⟩)] KP K h := by
  refine tasks_Table_Copy_call _ ?_
  unfold tasks_Table_Copy
  simp only [add_mk, Nat.zero_add, Nat.add_zero, pSome_some]
  refine pIf_f rfl ?_
  have hl : (encT T).length = 441 := by rw [encT_len, t.len]
  apply ldA_all; (· exact t.blk); (· exact hl)
  refine new_st ?_ hl (encT_one _) ?_
  · have := zc_tab; rw [lay_nil] at this; rw [this, encT_len]; rfl
  intro c hc
  exact fgt_mk (k c hc)

/- Uses. -/
def usesT (ino : Int) (x : Task) : Bool :=
  (!x.dead && ((x.cwd == ino) || ((x.exe == ino) && (ino != 0)))) || ((files x).any (fun f => !decide (f = File.z) && (f.ino == ino)) || (areas x).any (fun a => a.used && ((a.ino == ino) && (ino != 0))))
def usesB (T : List Task) (ino : Int) : Bool := (all T).any (usesT ino)
set_option maxHeartbeats 1000000 in
theorem uses1_ok {h : Heap} {b0 : Nat} {ino : Int} (hb0 : h b0 = some (.row [.int .i64 ino] 1)) (x : Task) {KP K : Value → Pr} (k : K (.bool (usesT ino x)) h) : WpCall Try.prog 80 #[.agg x.enc.toArray, .pointer (some ⟨b0, 0, none⟩)] KP K h := by
  refine tasks_Table_Uses_1_call _ _ ?_
  unfold tasks_Table_Uses_1 tasks_Table_Uses_1_j1 pJoin
  simp only [add_mk, Nat.zero_add, Nat.add_zero, pSome_some]
  intro b1 hb1
  have hle := Heap.le_set_new (x := .row x.enc x.enc.length) (Heap.le_refl h) hb1
  generalize hH : h.set b1 (.row x.enc x.enc.length) = H at hle
  have hH1 : H b1 = some (.row x.enc 49) := by rw [← hH]; exact Heap.set_same _ _ _
  have hH0 := hle _ _ hb0
  have fin : ∀ c, c = usesT ino x → fgt K (.bool c) H := fun c e => by rw [e]; exact fgt_here hle k
  have hvf : (Sl.mk (some ⟨b1, 11, none⟩) 6 6).vals 3 H ((files x).flatMap File.enc) := sl_of_vals (by rw [vals_row hH1]; exact files_cut x)
  have hva : (Sl.mk (some ⟨b1, 29, none⟩) 4 4).vals 5 H ((areas x).flatMap Area.enc) := sl_of_vals (by rw [vals_row hH1]; exact areas_cut x)
  have tail : ∀ (KP K' : Value → Pr) (kk : Bool → Pr), (∀ c, c = ((files x).any (fun f => !decide (f = File.z) && (f.ino == ino)) || (areas x).any (fun a => a.used && ((a.ino == ino) && (ino != 0)))) → kk c H) →
      pAssert (0 ≤ (0 : Int) ∧ (0 : Int) ≤ (6 : Int) ∧ (6 : Int) ≤ (6 : Int)) (pCall Try.prog 81 [(.slice (some (if (6 : Nat) = (0 : Int).toNat then (⟨b1, 11, none⟩ : Addr) else ⟨b1, 11 + (0 : Int).toNat * 3, none⟩)) (((6 : Int) : Int).toNat - (0 : Int).toNat) (6 - (0 : Int).toNat)), (.func (.func 82) [].toArray [(.pointer (some ⟨b0, 0, none⟩))].toArray)] KP (.one .bool) fun (r9 : Bool) => pIf r9
        (kk true)
        (pAssert (0 ≤ (0 : Int) ∧ (0 : Int) ≤ (4 : Int) ∧ (4 : Int) ≤ (4 : Int)) <| pCall Try.prog 83 [(.slice (some (if (4 : Nat) = (0 : Int).toNat then (⟨b1, 29, none⟩ : Addr) else ⟨b1, 29 + (0 : Int).toNat * 5, none⟩)) (((4 : Int) : Int).toNat - (0 : Int).toNat) (4 - (0 : Int).toNat)), (.func (.func 84) [].toArray [(.pointer (some ⟨b0, 0, none⟩))].toArray)] KP (.one .bool) fun (r10 : Bool) => kk r10)) H := by
    intro KP K' kk hk
    refine pAssert_i (by decide) ?_
    refine containsFile_ok (s := ⟨some ⟨b1, 11, none⟩, 6, 6⟩) (p := fun f => !decide (f = File.z) && (f.ino == ino)) hvf rfl (by show (6 : Nat) < _; decide) ?_ ⟨_, rfl, ?_⟩
    · intro f hf KP K kf
      refine WpVal.of_func (tasks_Table_Uses_1_1_call _ _ ?_)
      unfold tasks_Table_Uses_1_1 tasks_Table_Uses_1_1_j1 pJoin
      simp only [add_mk, Nat.zero_add, Nat.add_zero, pSome_some]
      intro c hc
      have hlc := Heap.le_set_new (x := .row f.enc f.enc.length) (Heap.le_refl H) hc
      refine ldA_all (Heap.set_same _ _ _) rfl ?_
      rw [zc_file0]
      refine pAssert_i ⟨rfl, rfl⟩ ?_
      rw [file_eq]
      refine pIf_i (fun hz => ?_) (fun hz => ?_)
      · have hz' : decide (f = File.z) = false := by simpa using hz
        refine ld_b (Heap.set_same _ _ _) (show f.enc[0]? = _ from rfl) ?_
        refine ld_b (hlc _ _ hH0) rfl ?_
        simp only [hz'] at kf
        exact fgt_here hlc kf
      · have hz' : decide (f = File.z) = true := by simpa using hz
        simp only [hz'] at kf
        exact fgt_here hlc kf
    · refine pIf_i (fun hz => ?_) (fun hz => ?_)
      · exact hk _ (by rw [hz]; rfl)
      · refine pAssert_i (by decide) ?_
        refine containsArea_ok (s := ⟨some ⟨b1, 29, none⟩, 4, 4⟩) (p := fun a => a.used && ((a.ino == ino) && (ino != 0))) hva rfl (by show (4 : Nat) < _; decide) ?_ ⟨_, rfl, ?_⟩
        · intro f hf KP K kf
          refine WpVal.of_func (tasks_Table_Uses_1_2_call _ _ ?_)
          unfold tasks_Table_Uses_1_2 tasks_Table_Uses_1_2_j1 pJoin
          simp only [add_mk, Nat.zero_add, Nat.add_zero, pSome_some]
          intro c hc
          have hlc := Heap.le_set_new (x := .row f.enc f.enc.length) (Heap.le_refl H) hc
          refine ld_b (Heap.set_same _ _ _) (show f.enc[0]? = _ from rfl) ?_
          refine pIf_i (fun hz => ?_) (fun hz => ?_)
          · refine ld_b (Heap.set_same _ _ _) (show f.enc[1]? = _ from rfl) ?_
            refine ld_b (hlc _ _ hH0) rfl ?_
            simp only [hz, Bool.true_and] at kf
            refine pIf_i (fun hz => ?_) (fun hz => ?_)
            · refine ld_b (hlc _ _ hH0) rfl ?_
              have hz2 : (f.ino == ino) = true := hz
              simp only [hz2, Bool.true_and] at kf
              exact fgt_here hlc kf
            · have hz2 : (f.ino == ino) = false := hz
              simp only [hz2, Bool.false_and] at kf
              exact fgt_here hlc kf
          · simp only [hz, Bool.false_and] at kf
            exact fgt_here hlc kf
        · exact hk _ (by rw [hz]; rfl)
  have cs := fun o v (e : x.enc[o]? = some v) => cell_row hH1 o
  refine ld_b hH1 (show x.enc[8]? = _ from rfl) ?_
  refine pIf_i (fun hz => ?_) (fun hz => ?_)
  · have hd : x.dead = false := by simpa using hz
    refine ld_b hH1 (show x.enc[5]? = _ from rfl) ?_
    refine ld_b hH0 rfl ?_
    refine pIf_i (fun hz => ?_) (fun hz => ?_)
    · have hz2 : (x.cwd == ino) = true := hz
      exact fin _ (by simp [usesT, hd, hz2])
    · have hz2 : (x.cwd == ino) = false := hz
      refine ld_b hH1 (show x.enc[6]? = _ from rfl) ?_
      refine ld_b hH0 rfl ?_
      refine pIf_i (fun hz => ?_) (fun hz => ?_)
      · have hz3 : (x.exe == ino) = true := hz
        refine ld_b hH0 rfl ?_
        refine pIf_i (fun hz => ?_) (fun hz => ?_)
        · have hz4 : (ino != 0) = true := hz
          exact fin _ (by simp only [usesT, hd, hz2, hz3, hz4]; rfl)
        · have hz4 : (ino != 0) = false := hz
          refine tail _ K (fun c => fgt K (.bool c)) fun c e => fin c ?_
          rw [e]; simp only [usesT, hd, hz2, hz3, hz4]; rfl
      · have hz3 : (x.exe == ino) = false := hz
        refine tail _ K (fun c => fgt K (.bool c)) fun c e => fin c ?_
        rw [e]; simp only [usesT, hd, hz2, hz3]; rfl
  · have hd : x.dead = true := by simpa using hz
    refine tail _ K (fun c => fgt K (.bool c)) fun c e => fin c ?_
    rw [e]; simp only [usesT, hd]; rfl
theorem uses_ok {h : Heap} {b : Nat} {T : List Task} (t : Tab h b T) (ino : Int) {KP K : Value → Pr} (k : K (.bool (usesB T ino)) h) : WpCall Try.prog 54 #[.pointer (some ⟨b, 0, none⟩), .int .i64 ino] KP K h := by
  refine tasks_Table_Uses_call _ _ ?_
  unfold tasks_Table_Uses
  have hB := t.blk
  (intro b1 hb1; try simp only [Heap.set_none] at hb1)
  have t' : Tab (h.set b1 (.row [.int .i64 ino] 1)) b T := ⟨by (repeat (first | exact Heap.set_same _ _ _ | assumption | refine Heap.look_ne (by (first | assumption | exact Ne.symm (by assumption) | grind)) ?_)), t.len⟩
  refine all_ok t' fun s h1 hle1 hs => ⟨s, rfl, ?_⟩
  have h8 := all_len T
  refine containsTask_ok (p := usesT ino) hs.1 hs.2 (by omega) ?_ ⟨_, rfl, fgt_here (Heap.le_trans (by (intro i x hx; grind (splits := 30) [Heap.set])) hle1) k⟩
  intro x hx KP K kx
  exact WpVal.of_func (uses1_ok (hle1 _ _ (Heap.set_same _ _ _)) x kx)
end Go.Proofs.Ytgheplpbffanoaa
