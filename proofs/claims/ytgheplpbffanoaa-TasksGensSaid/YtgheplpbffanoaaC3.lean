import Derived.Test.YtgheplpbffanoaaC2
set_option linter.unusedVariables false
namespace Go.Proofs.Ytgheplpbffanoaa
open Go.Hl
attribute [local irreducible] loadF zc sizeP bytesP vcBody

theorem SlT.le {h h' : Heap} {s : Sl} {l : List Task} (t : SlT h s l) (hl : Heap.le h h') : SlT h' s l := ⟨Sl.vals_le hl t.1, t.2⟩
theorem SlT.elem {h : Heap} {s : Sl} {l : List Task} (t : SlT h s l) {i : Nat} (hi : i < l.length) : ∃ a, s.base = some a ∧ h.vals (a.add (i * 49)) 49 = some (l[i]).enc := by
  obtain ⟨h1, h2⟩ := t
  unfold Sl.vals at h1
  cases hb : s.base with
  | none => simp only [hb] at h1; omega
  | some a =>
    simp only [hb] at h1
    refine ⟨a, rfl, ?_⟩
    have hm : i * 49 + 49 ≤ s.len * 49 := by omega
    rw [vals_sub h1 hm]
    have := flat_cut Task.enc 49 Task.len l i 0 49 hi (by omega)
    rw [Nat.add_zero] at this
    rw [this]
    exact cut_all' (Task.len _)

def openSum (l : List Task) : Int := (l.map openN).sum
def openAll (T : List Task) : Int := openSum (all T)
theorem openN_le (t : Task) : 0 ≤ openN t ∧ openN t ≤ 6 := by
  have := cntF_le (files t); unfold openN; simp [files] at *; omega
theorem openSum_le : ∀ l : List Task, 0 ≤ openSum l ∧ openSum l ≤ 6 * l.length
  | [] => by simp [openSum]
  | t :: l => by have := openSum_le l; have := openN_le t; simp [openSum] at *; omega
theorem openSum_snoc (l : List Task) (t : Task) : openSum (l ++ [t]) = openSum l + openN t := by simp [openSum]
theorem all_len (T : List Task) : (all T).length ≤ 8 := allFrom_len T 8 1

theorem openAll_ok {h : Heap} {b : Nat} {T : List Task} (t : Tab h b T) {KP K : Value → Pr} (k : K (.int .i64 (openAll T)) h) : WpCall Try.prog 17 #[.pointer (some ⟨b, 0, none⟩)] KP K h := by
  refine tasks_Table_Open_call _ ?_
  unfold tasks_Table_Open
  refine all_ok t fun s h1 hle1 hs => ⟨s, rfl, ?_⟩
  refine pLoop_rule (fun (st : Int × Int × Unit) h' => Heap.le h1 h' ∧ 0 ≤ st.2.1 ∧ st.2.1 ≤ (all T).length ∧ st.1 = openSum ((all T).take st.2.1.toNat)) (fun st => ((all T).length - st.2.1).toNat) ?_ ?_
  rotate_left
  · refine ⟨Heap.le_refl _, ?_, ?_, ?_⟩
    · show (0 : Int) ≤ 0; omega
    · show (0 : Int) ≤ _; omega
    · rfl
  rintro ⟨n, i, ⟨⟩⟩ h' kk ⟨hle, h0, hi1, h2⟩ hk
  simp only at h0 hi1 h2 hk ⊢
  unfold tasks_Table_Open_l1
  have h8 := all_len T
  have hsm := openSum_le ((all T).take i.toNat)
  have hl6 : ((all T).take i.toNat).length ≤ 8 := by simp; omega
  by_cases hi : i < (all T).length
  · have hlt : i.toNat < (all T).length := by omega
    obtain ⟨a, ha, hv⟩ := (hs.le hle).elem hlt
    have hsn : (all T).take (i + 1).toNat = (all T).take i.toNat ++ [(all T)[i.toNat]] := by
      rw [show (i + 1).toNat = i.toNat + 1 by omega, List.take_add_one]; simp [hlt]
    refine pIf_t (by rw [hs.2]; simpa using hi) (pIdx_i h0 (by rw [hs.2]; omega) (pSome_i ha (pLdA_i hv ?_)))
    intro b7 hb7
    have hle7 := fun y => Heap.le_set_new (x := y) hle hb7
    refine pStA_new zc_tlen (Task.len _) (task_one _) (pLdA_i (vals_whole (Heap.set_same _ _ _) (Task.len _)) ?_)
    refine open_ok _ ⟨openN (all T)[i.toNat], rfl, ?_⟩
    have hc := openSum_snoc ((all T).take i.toNat) (all T)[i.toNat]
    have hn := openN_le (all T)[i.toNat]
    show kk (IntKind.i64.wrap (n + openN (all T)[i.toNat]), IntKind.i64.wrap (i + 1), ()) _
    rw [wrap_small (by omega) (by omega), wrap_small (by omega) (by omega)]
    exact hk _ _ ⟨hle7 _, by simp only; omega, by simp only; omega, by simp only; rw [hsn, hc, h2]⟩ (by simp only; omega)
  · refine pIf_f (by rw [hs.2]; simpa using hi) (fgt_here (Heap.le_trans hle1 hle) ?_)
    have : i.toNat = (all T).length := by omega
    have e : n = openAll T := by rw [h2, this, List.take_length]; rfl
    rw [e]; exact k

/-- The table at the beginning. -/
def newT : List Task := (List.replicate 9 Task.z).set 1 { Task.z with pid := 1, gen := 1, ppid := 1, cwd := 1 }
theorem zc_tab : lay (zc Try.prog 65) [] = encT (List.replicate 9 Task.z) := by rw [lay_nil]; kernel_rfl
theorem new_ok {h : Heap} {KP K : Value → Pr} (k : ∀ b, h b = none → K (.pointer (some ⟨b, 0, none⟩)) (h.set b (.row (encT newT) 441))) : WpCall Try.prog 8 #[] KP K h := by
  refine tasks_New_call ?_
  unfold tasks_New
  intro b hb
  rw [zc_tab, show (encT (List.replicate 9 Task.z)).length = 441 by rw [encT_len]; rfl]
  refine pSome_i rfl (pIdx_i (by omega) (by omega) ?_)
  have hx : lay (zc Try.prog 39) [(0, (.int .i64 1)), (1, (.int .i64 1)), (2, (.int .i64 1)), (5, (.int .i64 1))] = ({ Task.z with pid := 1, gen := 1, ppid := 1, cwd := 1 } : Task).enc := by rw [zc_task]; rfl
  rw [hx, add_mk, add_mk]
  refine pStA_i (Heap.set_same _ _ _) (by rw [encT_len]; simp) (Task.len _) (task_one _) ?_
  rw [Heap.set_set]
  have := flat_splice Task.enc 49 Task.len (List.replicate 9 Task.z) 1 0 ({ Task.z with pid := 1, gen := 1, ppid := 1, cwd := 1 } : Task).enc { Task.z with pid := 1, gen := 1, ppid := 1, cwd := 1 } (by decide) (by rw [Task.len]; omega)
    (splice_whole (by rw [Task.len, Task.len])).symm
  rw [show 0 + 0 + (1 : Int).toNat * 49 = 1 * 49 + 0 from rfl, this]
  exact fgt_here (Heap.le_refl _) (k b hb)

theorem sh39 : (Try.prog.underlying 39).map shapeD = some .agg := by kernel_rfl
theorem sz39 : sizeP Try.prog 39 = 49 := by kernel_rfl
theorem sh3 : (Try.prog.underlying 3).map shapeD = some (.int .i64) := by kernel_rfl
/-- Fork, of the document. -/
def forked (T : List Task) (pid : Int) : Task := { tk T pid with pid := next T, gen := IntKind.i64.wrap ((tk T (next T)).gen + 1), ppid := pid, sigs := 0, tracer := 0 }
def fork (T : List Task) (pid : Int) : List Task × Int × Int :=
  if aliveB T pid = false then (T, 0, 3) else if next T = 0 then (T, 0, 11) else if openAll T + openN (tk T pid) > 16 then (T, 0, 23) else (T.set (next T).toNat (forked T pid), next T, 0)

theorem nextFrom_range (T : List Task) : ∀ n p, nextFrom T n p = 0 ∨ (p ≤ nextFrom T n p ∧ nextFrom T n p < p + n)
  | 0, _ => .inl rfl
  | n + 1, p => by
    unfold nextFrom
    split
    · right; omega
    · have := nextFrom_range T n (p + 1); omega
theorem next_range (T : List Task) : next T = 0 ∨ (1 ≤ next T ∧ next T < 9) := by have := nextFrom_range T 8 1; unfold next; omega

theorem tab_set {h : Heap} {b : Nat} {T : List Task} (t : Tab h b T) {pid : Int} (h0 : 0 ≤ pid) (h1 : pid < 9) (k : Nat) (vs : List Value) (x : Task) (hk : k + vs.length ≤ 49) (hx : x.enc = splice (tk T pid).enc k vs) (h1' : oneCells vs) {n : Nat} (hn : vs.length = n) {p : Pr}
    (hp : p (h.set b (.row (encT (T.set pid.toNat x)) 441))) : pStA n ⟨b, pid.toNat * 49 + k, none⟩ vs p h := by
  have hlt : pid.toNat < T.length := by rw [t.len]; omega
  refine pStA_i t.blk (by rw [encT_len, t.len]; omega) hn h1' ?_
  have e : tk T pid = T[pid.toNat] := by simp [tk, List.getD_eq_getElem?_getD, hlt]
  rw [e] at hx
  rw [flat_splice Task.enc 49 Task.len T pid.toNat k vs x hlt hk hx]
  exact hp

set_option maxHeartbeats 1000000 in
theorem fork_ok {h : Heap} {b : Nat} {T : List Task} (t : Tab h b T) (pid : Int) {KP K : Value → Pr}
    (k : K (.tuple #[.int .i64 (fork T pid).2.1, .int .i64 (fork T pid).2.2]) (h.set b (.row (encT (fork T pid).1) 441))) : WpCall Try.prog 9 #[.pointer (some ⟨b, 0, none⟩), .int .i64 pid] KP K h := by
  refine tasks_Table_Fork_call _ _ ?_
  unfold tasks_Table_Fork
  refine alive_ok t pid ⟨_, rfl, ?_⟩
  have same : h.set b (.row (encT T) 441) = h := Heap.set_self _ t.blk
  by_cases ha : aliveB T pid = true
  · have hr1 : 1 ≤ pid ∧ pid < 9 := by simp [aliveB, hasB] at ha; omega
    rw [if_pos ha]
    refine pIf_f rfl ?_
    refine next_ok t ⟨next T, rfl, ?_⟩
    by_cases hn : next T = 0
    · refine pIf_t (by simp [hn]) (fgt_here (Heap.le_refl _) ?_)
      have e : fork T pid = (T, 0, 11) := by simp [fork, ha, hn]
      rw [e, same] at k; exact k
    · have hnr : 1 ≤ next T ∧ next T < 9 := by have := next_range T; omega
      refine pIf_f (by simp [hn]) (pSome_i rfl (pLdA_i (tab_vals t (by omega) hr1.2) ?_))
      have hv0 := tab_vals t (pid := pid) (by omega) hr1.2
      refine openAll_ok t ⟨openAll T, rfl, pKeep_i ?_ ?_⟩
      · have hf := loadF_vals sh39 sz39 hv0
        exact hf
      refine open_ok _ ⟨openN (tk T pid), rfl, ?_⟩
      have hs := openSum_le (all T)
      have h8 := all_len T
      have ho := openN_le (tk T pid)
      have hoa : openAll T = openSum (all T) := rfl
      show pIf (decide (IntKind.i64.wrap (openAll T + openN (tk T pid)) > 16)) _ _ h
      rw [wrap_small (by omega) (by omega)]
      by_cases hf : openAll T + openN (tk T pid) > 16
      · refine pIf_t (by simpa using hf) (fgt_here (Heap.le_refl _) ?_)
        have e : fork T pid = (T, 0, 23) := by simp [fork, ha, hn, hf]
        rw [e, same] at k; exact k
      · have e : fork T pid = (T.set (next T).toNat (forked T pid), next T, 0) := by simp [fork, ha, hn, hf]
        rw [e] at k
        refine pIf_f (by simpa using hf) (pSome_i rfl (pLdA_i (tab_vals t (by omega) hr1.2) ?_))
        intro b9 hb9
        refine pStA_new zc_tlen (Task.len _) (task_one _) ?_
        have t9 := fun y => t.new (x := y) hb9
        refine pSome_i rfl (pIdx_i (by omega) (by omega) ?_)
        have hg : ∀ y, (h.set b9 y).cell ⟨b, (next T).toNat * 49 + 1, none⟩ = some (.int .i64 (tk T (next T)).gen) := fun y => tab_cell (t9 y) (pid := next T) (by omega) hnr.2 (k := 1) (by omega)
        refine pLd_i (tk T (next T)).gen (by simpa [Shape.inj] using hg _) ?_
        simp only [add_mk, Nat.zero_add, Nat.add_zero]
        have hl : ∀ l : List Value, l.length = 49 → ∀ o v, (l.set o v).length = 49 := fun l hh o v => by rw [List.length_set]; exact hh
        have l0 := Task.len (tk T pid)
        refine pSt_new (by rw [l0]; omega) (by rfl) (pKeep_i (loadF_cell (.int .i64) sh3 (by decide) (by simpa using hg _)) ?_)
        have l1 := hl _ l0 0 (.int .i64 (next T))
        refine pSt_new (by rw [l1]; omega) rfl ?_
        have l2 := hl _ l1 1 (.int .i64 (IntKind.i64.wrap ((tk T (next T)).gen + 1)))
        refine pSt_new (by rw [l2]; omega) rfl ?_
        have l3 := hl _ l2 2 (.int .i64 pid)
        refine pSt_new (by rw [l3]; omega) rfl ?_
        have l4 := hl _ l3 10 (.int .u64 0)
        refine pSt_new (by rw [l4]; omega) rfl ?_
        have ey : (((((tk T pid).enc.set 0 (.int .i64 (next T))).set 1 (.int .i64 (IntKind.i64.wrap ((tk T (next T)).gen + 1)))).set 2 (.int .i64 pid)).set 10 (.int .u64 0)).set 7 (.int .i64 0) = (forked T pid).enc := rfl
        rw [ey]
        have lf := Task.len (forked T pid)
        refine pSome_i rfl (pLdA_i (vals_whole (Heap.set_same _ _ _) (Task.len _)) (pIdx_i (by omega) (by omega) ?_))
        simp only [add_mk, Nat.zero_add, Nat.add_zero]
        refine tab_set (t9 _) (pid := next T) (by omega) hnr.2 0 (forked T pid).enc (forked T pid) (by rw [Task.len]; omega) (splice_whole (by rw [Task.len, Task.len])).symm (task_one _) (Task.len _) ?_
        exact fgt_here (Heap.le_set_set (Heap.le_set_new (Heap.le_refl _) hb9 _) _ _) k
  · have ha' : aliveB T pid = false := by simpa using ha
    rw [ha']
    refine pIf_t rfl (fgt_here (Heap.le_refl _) ?_)
    have e : fork T pid = (T, 0, 3) := by simp [fork, ha']
    rw [e, same] at k; exact k

end Go.Proofs.Ytgheplpbffanoaa
