import Derived.Test.YtgheplpbffanoaaC4
set_option linter.unusedVariables false
namespace Go.Proofs.Ytgheplpbffanoaa
open Go.Hl
attribute [local irreducible] loadF zc sizeP bytesP vcBody

/-- Each task stands at its pid. -/
def WF (T : List Task) : Prop := ∀ p : Int, hasB T p = true → (tk T p).pid = p

theorem allFrom_mem (T : List Task) (x : Task) : ∀ n p, x ∈ allFrom T n p → ∃ q, p ≤ q ∧ q < p + n ∧ hasB T q = true ∧ x = tk T q
  | 0, _, h => by simp [allFrom] at h
  | n + 1, p, h => by
    simp only [allFrom, List.mem_append] at h
    rcases h with h | h
    · by_cases hb : hasB T p = true
      · simp [hb] at h; exact ⟨p, by omega, by omega, hb, h⟩
      · simp [hb] at h
    · obtain ⟨q, h1, h2, h3, h4⟩ := allFrom_mem T x n (p + 1) h
      exact ⟨q, by omega, by omega, h3, h4⟩
theorem all_pid {T : List Task} (w : WF T) {x : Task} (hx : x ∈ all T) : 1 ≤ x.pid ∧ x.pid < 9 ∧ tk T x.pid = x := by
  obtain ⟨q, h1, h2, h3, rfl⟩ := allFrom_mem T x 8 1 hx
  have := w q h3
  rw [this]; exact ⟨by omega, by omega, rfl⟩

def waitFrom (pid : Int) : List Task → Int → Option Task × Int
  | [], e => (none, e)
  | x :: r, e => if x.ppid ≠ pid ∨ x.pid = pid then waitFrom pid r e else if x.dead then (some x, 0) else waitFrom pid r 11
def waitF (T : List Task) (pid : Int) : List Task × Int × Int × Int :=
  if aliveB T pid = false then (T, 0, 0, 3) else match waitFrom pid (all T) 10 with
    | (some x, _) => (T.set x.pid.toNat { Task.z with gen := x.gen }, x.pid, x.code, 0)
    | (none, e) => (T, 0, 0, e)

set_option maxHeartbeats 1000000 in
theorem wait_ok {h : Heap} {b : Nat} {T : List Task} (t : Tab h b T) (w : WF T) (pid : Int) {KP K : Value → Pr}
    (k : K (.tuple #[.int .i64 (waitF T pid).2.1, .int .i64 (waitF T pid).2.2.1, .int .i64 (waitF T pid).2.2.2]) (h.set b (.row (encT (waitF T pid).1) 441))) : WpCall Try.prog 11 #[.pointer (some ⟨b, 0, none⟩), .int .i64 pid] KP K h := by
  refine tasks_Table_Wait_call _ _ ?_
  unfold tasks_Table_Wait
  refine alive_ok t pid ⟨_, rfl, ?_⟩
  have same : h.set b (.row (encT T) 441) = h := Heap.set_self _ t.blk
  by_cases ha : aliveB T pid = true
  · rw [if_pos ha]
    refine pIf_f rfl ?_
    refine all_ok t fun s h1 hle1 hs => ⟨s, rfl, ?_⟩
    have e0 : waitF T pid = match waitFrom pid (all T) 10 with
      | (some x, _) => (T.set x.pid.toNat { Task.z with gen := x.gen }, x.pid, x.code, 0)
      | (none, e) => (T, 0, 0, e) := by simp [waitF, ha]
    have hW : waitFrom pid ((all T).drop 0) 10 = waitFrom pid (all T) 10 := rfl
    generalize waitFrom pid (all T) 10 = W at e0 hW
    refine pLoop_rule (fun (st : Int × Int × Unit) h' => Heap.le h1 h' ∧ 0 ≤ st.2.1 ∧ st.2.1 ≤ (all T).length ∧ waitFrom pid ((all T).drop st.2.1.toNat) st.1 = W) (fun st => ((all T).length - st.2.1).toNat) ?_ ?_
    rotate_left
    · refine ⟨Heap.le_refl _, ?_, ?_, ?_⟩
      · show (0 : Int) ≤ 0; omega
      · show (0 : Int) ≤ _; omega
      · exact hW
    rintro ⟨n, i, ⟨⟩⟩ h' kk ⟨hle, h0, hi1, h2⟩ hk
    simp only at h0 hi1 h2 hk ⊢
    unfold tasks_Table_Wait_l3 tasks_Table_Wait_j2 tasks_Table_Wait_j1 pJoin
    have h8 := all_len T
    by_cases hi : i < (all T).length
    · have hlt : i.toNat < (all T).length := by omega
      obtain ⟨a, hav, hv⟩ := (hs.le hle).elem hlt
      have hx := all_pid w (List.getElem_mem hlt)
      rw [List.drop_eq_getElem_cons hlt] at h2
      generalize (all T)[i.toNat] = x at *
      refine pIf_t (by rw [hs.2]; simpa using hi) (pIdx_i h0 (by rw [hs.2]; omega) (pSome_i hav (pLdA_i hv ?_)))
      intro b9 hb9
      have hle9 := fun y => Heap.le_set_new (x := y) hle hb9
      refine pStA_new zc_tlen (Task.len _) (task_one _) ?_
      have ce : ∀ o, (h'.set b9 (.row x.enc (zc Try.prog 39).length)).cell ⟨b9, o, none⟩ = x.enc[o]? := fun o => cell_row (Heap.set_same _ _ _) o
      have hnext : ∀ e, waitFrom pid ((all T).drop (i.toNat + 1)) e = W → kk (e, IntKind.i64.wrap (i + 1), ()) (h'.set b9 (.row x.enc (zc Try.prog 39).length)) := fun e he => by
        rw [wrap_small (by omega) (by omega)]
        refine hk _ _ ⟨hle9 _, by simp only; omega, by simp only; omega, ?_⟩ (by simp only; omega)
        simp only
        rw [show (i + 1).toNat = i.toNat + 1 by omega]; exact he
      simp only [add_mk, Nat.zero_add]
      simp only [waitFrom] at h2
      have dead : ¬ (x.ppid ≠ pid ∨ x.pid = pid) → pLd .bool ⟨b9, 8, none⟩ (fun (x14 : Bool) => pIf x14
          (pSome (some ⟨b, 0, none⟩) fun a15 => pLd (.int .i64) ⟨b9, 0, none⟩ fun (x16 : Int) => pLd (.int .i64) ⟨b9, 1, none⟩ fun (x17 : Int) => pIdx x16 9 <| pStA 49 ((a15.add 0).add ((x16 : Int).toNat * 49)) (lay (zc Try.prog 39) [(1, (.int .i64 x17))]) <| pLd (.int .i64) ⟨b9, 0, none⟩ fun (x18 : Int) => pLd (.int .i64) ⟨b9, 9, none⟩ fun (x19 : Int) => fgt K (.tuple [(.int .i64 x18), (.int .i64 x19), (.int .i64 0)].toArray))
          (kk (11, IntKind.i64.wrap (i + 1), ()))) (h'.set b9 (.row x.enc (zc Try.prog 39).length)) := fun hc => by
        rw [if_neg hc] at h2
        refine pLd_i x.dead (ce 8) (pIf_i (fun hd => ?_) (fun hd => ?_))
        · rw [if_pos hd] at h2
          rw [← h2] at e0
          simp only at e0
          rw [e0] at k
          simp only at k
          refine pSome_i rfl (pLd_i x.pid (ce 0) (pLd_i x.gen (ce 1) (pIdx_i (by omega) (by omega) ?_)))
          have t9 := (t.le (Heap.le_trans hle1 hle)).new (x := .row x.enc (zc Try.prog 39).length) hb9
          have hz : lay (zc Try.prog 39) [(1, (.int .i64 x.gen))] = ({ Task.z with gen := x.gen } : Task).enc := by rw [zc_task]; rfl
          rw [hz]
          simp only [add_mk, Nat.zero_add]
          refine tab_set t9 (pid := x.pid) (by omega) hx.2.1 0 _ { Task.z with gen := x.gen } (by rw [Task.len]; omega) (splice_whole (by rw [Task.len, Task.len])).symm (task_one _) (Task.len _) ?_
          have hne : b9 ≠ b := fun e => by subst e; have := (t.le (Heap.le_trans hle1 hle)).blk; rw [hb9] at this; cases this
          have ce2 : ∀ Y o, ((h'.set b9 (.row x.enc (zc Try.prog 39).length)).set b Y).cell ⟨b9, o, none⟩ = x.enc[o]? := fun Y o => cell_row (by rw [Heap.set_ne _ _ hne]; exact Heap.set_same _ _ _) o
          refine pLd_i x.pid (ce2 _ 0) (pLd_i x.code (ce2 _ 9) ?_)
          exact fgt_here (Heap.le_set_set (Heap.le_set_new (Heap.le_trans hle1 hle) hb9 _) _ _) k
        · rw [if_neg (by rw [hd]; simp)] at h2
          exact hnext 11 h2
      refine pLd_i x.ppid (ce 2) (pIf_i (fun hz => ?_) (fun hz => ?_))
      · have hz' : x.ppid ≠ pid := by simpa using hz
        rw [if_pos (.inl hz')] at h2
        exact pIf_t rfl (hnext n h2)
      · have hz' : x.ppid = pid := by simpa using hz
        refine pLd_i x.pid (ce 0) (pIf_i (fun hy => ?_) (fun hy => ?_))
        · have hy' : x.pid = pid := by simpa using hy
          rw [if_pos (.inr hy')] at h2
          exact hnext n h2
        · have hy' : ¬ x.pid = pid := by simpa using hy
          exact dead (by rintro (h | h); exact h hz'; exact hy' h)
    · refine pIf_f (by rw [hs.2]; simpa using hi) (fgt_here (Heap.le_trans hle1 hle) ?_)
      rw [List.drop_eq_nil_of_le (by omega)] at h2
      rw [← h2] at e0
      simp only [waitFrom] at e0
      rw [e0, same] at k; exact k
  · have ha' : aliveB T pid = false := by simpa using ha
    rw [ha']
    refine pIf_t rfl (fgt_here (Heap.le_refl _) ?_)
    have e : waitF T pid = (T, 0, 0, 3) := by simp [waitF, ha']
    rw [e, same] at k; exact k

end Go.Proofs.Ytgheplpbffanoaa
