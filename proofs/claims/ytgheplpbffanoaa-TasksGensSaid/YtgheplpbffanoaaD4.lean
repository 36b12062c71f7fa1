import Derived.Test.YtgheplpbffanoaaD3
set_option linter.unusedVariables false
set_option linter.unusedSimpArgs false
namespace Go.Proofs.Ytgheplpbffanoaa
open Go.Hl
attribute [local irreducible] loadF zc sizeP bytesP vcBody

/-- What every table is. -/
structure TW (T : List Task) : Prop where
  len : T.length = 9
  zero : tk T 0 = Task.z
  pid : ∀ p : Int, 1 ≤ p → p < 9 → (tk T p).pid = 0 ∨ (tk T p).pid = p
  free : ∀ p : Int, 1 ≤ p → p < 9 → (tk T p).pid = 0 → tk T p = { Task.z with gen := (tk T p).gen }
theorem TW.wf {T : List Task} (w : TW T) : WF T := fun p hp => by
  simp only [hasB, Bool.and_eq_true, decide_eq_true_eq, bne_iff_ne, ne_eq] at hp
  have := w.pid p (by omega) (by omega)
  omega
theorem TW.has {T : List Task} (w : TW T) {p : Int} (hp : hasB T p = true) : 1 ≤ p ∧ p < 9 ∧ (tk T p).pid = p := by
  have h1 := w.wf p hp
  simp only [hasB, Bool.and_eq_true, decide_eq_true_eq, bne_iff_ne, ne_eq] at hp
  omega

theorem refHas_ok {h : Heap} {b : Nat} {T : List Task} (t : Tab h b T) (w : TW T) (pid : Int) {KP K : Value → Pr} (k : K (.bool (hasB T pid)) h) : WpCall Try.prog 60 #[.pointer (some ⟨b, 0, none⟩), .int .i64 pid] KP K h := by
  refine ref24_Table_Has_call _ _ ?_
  unfold ref24_Table_Has ref24_Table_Has_j1 pJoin
  simp only [add_mk, Nat.zero_add, Nat.add_zero, pSome_some]
  have fin : ∀ c, c = hasB T pid → fgt K (.bool c) h := fun c e => by rw [e]; exact fgt_mk k
  refine pIf_i (fun hz => ?_) (fun hz => ?_)
  · refine pIf_i (fun hz => ?_) (fun hz => ?_)
    · simp only [decide_eq_true_eq] at *
      refine pIdx_i (by omega) (by omega) ?_
      refine tab_ld0 t (by omega) (by omega) (fin _ ?_)
      have := w.pid pid (by omega) (by omega)
      have h9 : pid < 9 := by omega
      simp only [hasB]
      by_cases h0 : (tk T pid).pid = 0
      · simp [h0]
      · have : (tk T pid).pid > 0 := by omega
        have hle : 1 ≤ pid := by omega
        simp [h0, hle, h9, this]
    · simp only [decide_eq_true_eq, decide_eq_false_iff_not] at *
      refine fin _ ?_
      have : ¬ pid < 9 := by omega
      simp [hasB, this]
  · simp only [decide_eq_true_eq, decide_eq_false_iff_not] at *
    refine fin _ ?_
    have : ¬ 1 ≤ pid := by omega
    simp [hasB, this]
theorem has_lt {T : List Task} {pid : Int} (h : hasB T pid = true) : 1 ≤ pid ∧ pid < 9 := by
  simp [hasB] at h; omega
theorem refAlive_ok {h : Heap} {b : Nat} {T : List Task} (t : Tab h b T) (w : TW T) (pid : Int) {KP K : Value → Pr} (k : K (.bool (aliveB T pid)) h) : WpCall Try.prog 43 #[.pointer (some ⟨b, 0, none⟩), .int .i64 pid] KP K h := by
  refine ref24_Table_Alive_call _ _ ?_
  unfold ref24_Table_Alive ref24_Table_Alive_j1 pJoin
  simp only [add_mk, Nat.zero_add, Nat.add_zero, pSome_some]
  refine refHas_ok t w pid ⟨_, rfl, ?_⟩
  refine pIf_i (fun hz => ?_) (fun hz => ?_)
  · have hr := has_lt hz
    refine pIdx_i (by omega) (by omega) ?_
    refine tab_ld t (by omega) hr.2 (k := 8) rfl (fgt_mk ?_)
    have hz2 : hasB T pid = true := hz
    simpa [aliveB, hz2] using k
  · have hz2 : hasB T pid = false := hz
    exact fgt_mk (by simpa [aliveB, hz2] using k)

theorem refCount_ok {h : Heap} (x : Task) {KP K : Value → Pr} (k : K (.int .i64 (openN x)) h) : WpCall Try.prog 51 #[.agg x.enc.toArray] KP K h := by
  refine ref24_Count_call _ ?_
  unfold ref24_Count
  intro b1 hb1
  have hle : Heap.le h (h.set b1 (.row x.enc x.enc.length)) := Heap.le_set_new (Heap.le_refl _) hb1 _
  have hb : (h.set b1 (.row x.enc x.enc.length)) b1 = some (.row x.enc 49) := Heap.set_same _ _ _
  generalize h.set b1 (.row x.enc x.enc.length) = H at hle hb
  refine pLoop_rule (fun (s : Int × Int × Unit) h' => h' = H ∧ 0 ≤ s.2.1 ∧ s.2.1 ≤ 6 ∧ s.1 = cntF ((files x).take s.2.1.toNat)) (fun s => (6 - s.2.1).toNat) ?_ ?_
  rotate_left
  · exact ⟨rfl, by show (0 : Int) ≤ 0; omega, by show (0 : Int) ≤ 6; omega, rfl⟩
  rintro ⟨n, i, ⟨⟩⟩ h' kk ⟨rfl, h0, h1, h2⟩ hk
  simp only at h0 h1 h2 hk ⊢
  unfold ref24_Count_l3 ref24_Count_j2 ref24_Count_j1 pJoin
  simp only [add_mk, Nat.zero_add, Nat.add_zero, pSome_some]
  have hb6 := cntF_le ((files x).take i.toNat)
  have hl6 : ((files x).take i.toNat).length ≤ 6 := by simp [files]; omega
  by_cases hi : i < 6
  · have hlt : i.toNat < (files x).length := by simp [files]; omega
    have hsn : (files x).take (i + 1).toNat = (files x).take i.toNat ++ [(files x)[i.toNat]] := by
      rw [show (i + 1).toNat = i.toNat + 1 by omega, List.take_add_one]; simp [hlt]
    have hc := cntF_snoc ((files x).take i.toNat) (files x)[i.toNat]
    have c0 : x.enc[11 + i.toNat * 3]? = some (.int .i64 ((files x)[i.toNat]).ino) := by rcases six h0 hi with rfl | rfl | rfl | rfl | rfl | rfl <;> rfl
    have c1 : x.enc[11 + i.toNat * 3 + 1]? = some (.int .i64 ((files x)[i.toNat]).flags) := by rcases six h0 hi with rfl | rfl | rfl | rfl | rfl | rfl <;> rfl
    have c2 : x.enc[11 + i.toNat * 3 + 2]? = some (.int .i64 ((files x)[i.toNat]).off) := by rcases six h0 hi with rfl | rfl | rfl | rfl | rfl | rfl <;> rfl
    generalize (files x)[i.toNat] = f at *
    have yes : f ≠ File.z → kk (IntKind.i64.wrap (n + 1), IntKind.i64.wrap (i + 1), ()) h' := fun hf => by
      rw [if_neg hf] at hc
      rw [wrap_small (by omega) (by omega), wrap_small (by omega) (by omega)]
      exact hk _ _ ⟨rfl, by simp only; omega, by simp only; omega, by simp only; rw [hsn, hc, h2]⟩ (by simp only; omega)
    have no : f = File.z → kk (n, IntKind.i64.wrap (i + 1), ()) h' := fun hf => by
      rw [if_pos hf] at hc
      rw [wrap_small (by omega) (by omega)]
      exact hk _ _ ⟨rfl, by simp only; omega, by simp only; omega, by simp only; rw [hsn, hc, h2]; omega⟩ (by simp only; omega)
    refine pIf_t (by simpa using hi) (pIdx_i h0 (by omega) (ld_b hb c0 (pIf_i (fun hz => ?_) (fun hz => ?_))))
    · exact pIf_t rfl (yes (by rintro rfl; simp [File.z] at hz))
    · refine pIdx_i h0 (by omega) (ld_b hb c1 (pIf_i (fun hy => ?_) (fun hy => ?_)))
      · exact pIf_t rfl (yes (by rintro rfl; simp [File.z] at hy))
      · refine pIdx_i h0 (by omega) (ld_b hb c2 (pIf_i (fun hx => ?_) (fun hx => ?_)))
        · exact yes (by rintro rfl; simp [File.z] at hx)
        · refine no ?_
          cases f
          simp at hz hy hx
          simp [File.z, hz, hy, hx]
  · refine pIf_f (by simpa using hi) (fgt_here hle ?_)
    have : i = 6 := by omega
    subst this
    have e : n = openN x := by rw [h2]; rfl
    rw [e]; exact k

theorem openN_z (g : Int) : openN { Task.z with gen := g } = 0 := by rfl
theorem openSum_step {T : List Task} (w : TW T) {p : Int} (h1 : 1 ≤ p) (h9 : p < 9) (n : Nat) : openSum (allFrom T (n + 1) p) = openN (tk T p) + openSum (allFrom T n (p + 1)) := by
  rw [allFrom]
  by_cases hh : hasB T p = true
  · simp [hh, openSum]
  · have : (tk T p).pid = 0 := by
      have h9' : p < 9 := h9
      simp [hasB, h1, h9'] at hh; exact hh
    rw [w.free p h1 h9 this, openN_z]
    simp [hh]
theorem refOpen_ok {h : Heap} {b : Nat} {T : List Task} (t : Tab h b T) (w : TW T) {KP K : Value → Pr} (k : K (.int .i64 (openAll T)) h) : WpCall Try.prog 50 #[.pointer (some ⟨b, 0, none⟩)] KP K h := by
  refine ref24_Table_Open_call _ ?_
  unfold ref24_Table_Open
  refine pLoop_rule (fun (s : Int × Int × Unit) h' => h' = h ∧ 1 ≤ s.2.1 ∧ s.2.1 ≤ 9 ∧ 0 ≤ s.1 ∧ s.1 + openSum (allFrom T (9 - s.2.1).toNat s.2.1) = openAll T) (fun s => (9 - s.2.1).toNat) ?_ ?_
  rotate_left
  · exact ⟨rfl, by show (1 : Int) ≤ 1; omega, by show (1 : Int) ≤ 9; omega, by show (0 : Int) ≤ 0; omega, by show 0 + _ = _; simp [openAll, all]⟩
  rintro ⟨n, i, ⟨⟩⟩ h' kk ⟨rfl, h0, h1, h2, h3⟩ hk
  simp only at h0 h1 h2 h3 hk ⊢
  unfold ref24_Table_Open_l1
  simp only [add_mk, Nat.zero_add, Nat.add_zero, pSome_some]
  have hs := openSum_le (all T)
  have h8 := all_len T
  have hoa : openAll T = openSum (all T) := rfl
  by_cases hi : i < 9
  · have e : (9 - i).toNat = (8 - i).toNat + 1 := by omega
    rw [e, openSum_step w h0 hi] at h3
    have hn := openN_le (tk T i)
    have hr := openSum_le (allFrom T (8 - i).toNat (i + 1))
    refine pIf_t (by simpa using hi) (pIdx_i (by omega) (by omega) ?_)
    refine pLdA_i (tab_vals t (by omega) hi) ?_
    refine refCount_ok _ ⟨openN (tk T i), rfl, ?_⟩
    show kk (IntKind.i64.wrap (n + openN (tk T i)), IntKind.i64.wrap (i + 1), ()) _
    rw [wrap_small (by omega) (by omega), wrap_small (by omega) (by omega)]
    refine hk _ _ ⟨rfl, by simp only; omega, by simp only; omega, by simp only; omega, ?_⟩ (by simp only; omega)
    simp only
    rw [show (9 - (i + 1)).toNat = (8 - i).toNat by omega]; omega
  · refine pIf_f (by simpa using hi) (fgt_mk ?_)
    have : i = 9 := by omega
    subst this
    have e : n = openAll T := by rw [← h3]; simp [allFrom, openSum]
    rw [e]; exact k
theorem refNext_ok {h : Heap} {b : Nat} {T : List Task} (t : Tab h b T) {KP K : Value → Pr} (k : K (.int .i64 (next T)) h) : WpCall Try.prog 49 #[.pointer (some ⟨b, 0, none⟩)] KP K h := by
  refine ref24_Table_Next_call _ ?_
  unfold ref24_Table_Next
  refine pLoop_rule (fun (s : Int × Unit) h' => h' = h ∧ 1 ≤ s.1 ∧ s.1 ≤ 9 ∧ nextFrom T (9 - s.1).toNat s.1 = next T) (fun s => (9 - s.1).toNat) ?_ ?_
  rotate_left
  · exact ⟨rfl, by show (1 : Int) ≤ 1; omega, by show (1 : Int) ≤ 9; omega, rfl⟩
  rintro ⟨p, ⟨⟩⟩ h' kk ⟨rfl, h1, h2, h3⟩ hk
  simp only at h1 h2 h3 hk ⊢
  unfold ref24_Table_Next_l1
  simp only [add_mk, Nat.zero_add, Nat.add_zero, pSome_some]
  by_cases hp : p < 9
  · have e : (9 - p).toNat = (8 - p).toNat + 1 := by omega
    rw [e, nextFrom] at h3
    refine pIf_t (by simpa using hp) (pIdx_i (by omega) (by omega) (tab_ld0 t (by omega) hp (pIf_i (fun hz => ?_) (fun hz => ?_))))
    · have hz' : (tk T p).pid = 0 := by simpa using hz
      rw [if_pos hz'] at h3
      rw [h3]; exact fgt_mk k
    · have hz' : (tk T p).pid ≠ 0 := by simpa using hz
      rw [if_neg hz'] at h3
      rw [wrap_small (by omega) (by omega)]
      refine hk _ _ ⟨rfl, by simp only; omega, by simp only; omega, ?_⟩ (by simp only; omega)
      rw [← h3]
      congr 1; simp only; omega
  · refine pIf_f (by simpa using hp) ?_
    have : p = 9 := by omega
    subst this
    have h3' : next T = 0 := by rw [← h3]; rfl
    exact fgt_mk (by rw [← h3']; exact k)
theorem refNew_ok {h : Heap} {KP K : Value → Pr} (k : ∀ b, h b = none → K (.pointer (some ⟨b, 0, none⟩)) (h.set b (.row (encT newT) 441))) : WpCall Try.prog 13 #[] KP K h := by
  refine ref24_New_call ?_
  unfold ref24_New
  simp only [add_mk, Nat.zero_add, Nat.add_zero, pSome_some]
  have zt : lay (zc Try.prog 70) [] = encT (List.replicate 9 Task.z) := by rw [lay_nil]; kernel_rfl
  rw [zt]
  intro b hb
  rw [show (encT (List.replicate 9 Task.z)).length = 441 by rw [encT_len]; rfl]
  refine pIdx_i (by omega) (by omega) ?_
  have hx : lay (zc Try.prog 39) [(0, (.int .i64 1)), (1, (.int .i64 1)), (2, (.int .i64 1)), (5, (.int .i64 1))] = ({ Task.z with pid := 1, gen := 1, ppid := 1, cwd := 1 } : Task).enc := by rw [zc_task]; rfl
  rw [hx]
  refine stA_b (Heap.set_same _ _ _) (by rw [encT_len]; simp) (Task.len _) (task_one _) ?_
  rw [Heap.set_set]
  have := flat_splice Task.enc 49 Task.len (List.replicate 9 Task.z) 1 0 ({ Task.z with pid := 1, gen := 1, ppid := 1, cwd := 1 } : Task).enc { Task.z with pid := 1, gen := 1, ppid := 1, cwd := 1 } (by decide) (by rw [Task.len]; omega)
    (splice_whole (by rw [Task.len, Task.len])).symm
  rw [show (1 : Int).toNat * 49 = 1 * 49 + 0 from rfl, this]
  exact fgt_mk (k b hb)

/-- The list of all, by places. -/
theorem refAll_ok {h : Heap} {b : Nat} {T : List Task} (t : Tab h b T) (w : TW T) {KP K : Value → Pr} (k : ∀ s h', Heap.le h h' → SlT h' s (all T) → K (.slice s.base s.len s.cap) h') : WpCall Try.prog 53 #[.pointer (some ⟨b, 0, none⟩)] KP K h := by
  refine ref24_Table_All_call _ ?_
  unfold ref24_Table_All
  have ho0 : Own 49 h h ⟨none, 0, 0⟩ (encT []) := Own.none 49 h h
  have hl0 : [] ++ allFrom T ((9 : Int) - 1).toNat 1 = all T := by rw [List.nil_append, show ((9 : Int) - 1).toNat = 8 from rfl]; unfold all; rfl
  refine pLoop_rule (fun (s : Sl × Int × Unit) h' => Heap.le h h' ∧ 1 ≤ s.2.1 ∧ s.2.1 ≤ 9 ∧ ∃ l, Own 49 h h' s.1 (encT l) ∧ l ++ allFrom T (9 - s.2.1).toNat s.2.1 = all T) (fun s => (9 - s.2.1).toNat) ?_ ?_
  rotate_left
  · refine ⟨Heap.le_refl _, ?_, ?_, ?_⟩
    · show (1 : Int) ≤ 1; omega
    · show (1 : Int) ≤ 9; omega
    · exact ⟨[], ho0, hl0⟩
  rintro ⟨s, p, ⟨⟩⟩ h' kk ⟨hle, h0, h1, l, ho, hl⟩ hk
  simp only at h0 h1 ho hl hk ⊢
  unfold ref24_Table_All_l2 ref24_Table_All_j1 pJoin
  simp only [add_mk, Nat.zero_add, Nat.add_zero, pSome_some]
  have hlen : l.length ≤ 8 := by
    have := congrArg List.length hl
    have h8 := allFrom_len T 8 1
    simp only [List.length_append] at this
    unfold all at this; omega
  have t' := t.le hle
  by_cases hp : p < 9
  · have e : (9 - p).toNat = (8 - p).toNat + 1 := by omega
    have e2 : (9 - (p + 1)).toNat = (8 - p).toNat := by omega
    rw [e, allFrom] at hl
    refine pIf_t (by simpa using hp) ?_
    refine refHas_ok t' w p ⟨hasB T p, rfl, ?_⟩
    rw [wrap_small (by omega) (by omega)]
    refine pIf_i (fun hz => ?_) (fun hz => ?_)
    · rw [if_pos hz] at hl
      refine pIdx_i (by omega) (by omega) (pLdA_i (tab_vals t' (by omega) hp) (pAssert_i (Task.len _) ?_))
      intro b8 hb8
      have hcs : lay (reps 1 (zc Try.prog 39)) [(0, .agg (tk T p).enc.toArray)] = encT [tk T p] := by
        simp only [lay, reps, List.replicate_one, List.flatten_cons, List.flatten_nil, List.append_nil, encT, List.flatMap_cons, List.flatMap_nil]
        exact splice_whole (by rw [zc_tlen]; rfl)
      rw [hcs]
      refine append_own (h0 := h) (ho.keep (Heap.le_set_new (Heap.le_refl _) hb8 _)) (new := encT [tk T p]) ?_ (Heap.le_set_new hle hb8 _) ?_ (encT_one _) ?_
      · show Heap.vals _ ⟨b8, 0, none⟩ (1 * 49) = _
        exact vals_whole (Heap.set_same _ _ _) (by rw [encT_len]; rfl)
      · have := ho.1
        rw [encT_len] at this
        have : s.len = l.length := by omega
        show (s.len + 1) * 392 ≤ 140737488355328; omega
      · intro s' h2 hle2 ho2 hs2
        refine hk _ _ ⟨hle2, by simp only; omega, by simp only; omega, l ++ [tk T p], by rw [encT_app]; exact ho2, ?_⟩ (by simp only; omega)
        simp only
        rw [e2, List.append_assoc]; exact hl
    · have hz' : hasB T p = false := hz
      rw [if_neg (by rw [hz']; simp)] at hl
      refine hk _ _ ⟨hle, by simp only; omega, by simp only; omega, l, ho, ?_⟩ (by simp only; omega)
      simp only
      rw [e2]; simpa using hl
  · refine pIf_f (by simpa using hp) ?_
    have : p = 9 := by omega
    subst this
    have e : l = all T := by rw [← hl]; simp [allFrom]
    subst e
    refine fgt_mk (k _ _ hle ⟨ho.vals, ?_⟩)
    have := ho.1
    rw [encT_len] at this; omega

theorem task_ct (x : Task) : okCells [.int .i64, .int .i64, .int .i64, .int .i64, .int .i64, .int .i64, .int .i64, .int .i64, .bool, .int .i64, .int .u64, .int .i64, .int .i64, .int .i64, .int .i64, .int .i64, .int .i64, .int .i64, .int .i64, .int .i64, .int .i64, .int .i64, .int .i64, .int .i64, .int .i64, .int .i64, .int .i64, .int .i64, .int .i64, .bool, .int .i64, .int .i64, .int .i64, .bool, .bool, .int .i64, .int .i64, .int .i64, .bool, .bool, .int .i64, .int .i64, .int .i64, .bool, .bool, .int .i64, .int .i64, .int .i64, .bool] x.enc = true := rfl
theorem eqv_self (v : Value) (c : CT) (h : okCell c v = true) : eqv v v = true := by
  cases c <;> cases v <;> simp [okCell] at h <;> simp [eqv, strEq]
theorem eqCells_self : ∀ (c : List CT) (l : List Value), okCells c l = true → eqCells l l = true
  | [], [], _ => rfl
  | [], _ :: _, h => by simp [okCells] at h
  | _ :: _, [], h => by simp [okCells] at h
  | c :: r, v :: s, h => by
    simp only [okCells, Bool.and_eq_true] at h
    simp [eqCells, eqv_self v c h.1, eqCells_self r s h.2]
theorem refSame_ok {h : Heap} {s u : Sl} {l : List Task} (hs : SlT h s l) (hu : SlT h u l) (hl : l.length ≤ 8) {KP K : Value → Pr} (k : K (.bool true) h) : WpCall Try.prog 22 #[.slice s.base s.len s.cap, .slice u.base u.len u.cap] KP K h := by
  refine ref24_Same_call _ _ ?_
  unfold ref24_Same
  refine pIf_f (by rw [hs.2, hu.2]; simp) ?_
  refine pLoop_rule (fun (s1 : Int × Unit) H => H = h ∧ 0 ≤ s1.1 ∧ s1.1 ≤ l.length) (fun s1 => (l.length - s1.1).toNat) ?_ ?_
  rotate_left
  · exact ⟨rfl, by show (0 : Int) ≤ 0; omega, by show (0 : Int) ≤ _; omega⟩
  rintro ⟨i, ⟨⟩⟩ H kk ⟨rfl, h0, h1⟩ hk
  simp only at h0 h1 hk ⊢
  unfold ref24_Same_l1
  by_cases hi : i < l.length
  · have hlt : i.toNat < l.length := by omega
    obtain ⟨a, ha, hv⟩ := hs.elem hlt
    obtain ⟨c, hc, hw⟩ := hu.elem hlt
    refine pIf_t (by rw [hs.2]; simpa using hi) (pIdx_i h0 (by rw [hs.2]; omega) (pSome_i ha (pIdx_i h0 (by rw [hu.2]; omega) (pSome_i hc (pLdA_i hv (pLdA_i hw (pAssert_i ⟨task_ct _, task_ct _⟩ ?_)))))))
    refine pIf_f (by rw [eqCells_self _ _ (task_ct _)]; rfl) ?_
    rw [wrap_small (by omega) (by omega)]
    exact hk _ _ ⟨rfl, by simp only; omega, by simp only; omega⟩ (by simp only; omega)
  · exact pIf_f (by rw [hs.2]; simpa using hi) (fgt_mk k)
end Go.Proofs.Ytgheplpbffanoaa
