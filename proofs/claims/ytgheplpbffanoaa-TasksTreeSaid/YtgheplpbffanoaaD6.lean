import Derived.Test.YtgheplpbffanoaaD5
set_option linter.unusedVariables false
set_option linter.unusedSimpArgs false
namespace Go.Proofs.Ytgheplpbffanoaa
open Go.Hl
attribute [local irreducible] loadF zc sizeP bytesP vcBody

/- Fork. -/
set_option maxHeartbeats 1000000 in
theorem refFork_ok {h : Heap} {b : Nat} {T : List Task} (t : Tab h b T) (w : TW T) (pid : Int) {KP K : Value → Pr}
    (k : K (.tuple #[.int .i64 (fork T pid).2.1, .int .i64 (fork T pid).2.2]) (TabTo h b (fork T pid).1)) : WpCall Try.prog 15 #[.pointer (some ⟨b, 0, none⟩), .int .i64 pid] KP K h := by
  refine ref24_Table_Fork_call _ _ ?_
  unfold ref24_Table_Fork
  refine refAlive_ok t w pid ⟨_, rfl, ?_⟩
  simp only [add_mk, Nat.zero_add, Nat.add_zero, pSome_some]
  refine pIf_i (fun hz => ?_) (fun hz => ?_)
  · have ha : aliveB T pid = false := by simpa using hz
    have e : fork T pid = (T, 0, 3) := by simp [fork, ha]
    rw [e, show TabTo h b T = h from t.same] at k
    exact fgt_mk k
  · have ha : aliveB T pid = true := by simpa using hz
    have hr := alive_range ha
    have hlt := hr.2
    refine refNext_ok t ⟨next T, rfl, ?_⟩
    refine pIf_i (fun hz => ?_) (fun hz => ?_)
    · have hn : next T = 0 := by simpa using hz
      have e : fork T pid = (T, 0, 11) := by simp [fork, ha, hn]
      rw [e, show TabTo h b T = h from t.same] at k
      exact fgt_mk k
    · have hn : next T ≠ 0 := by simpa using hz
      have hnr : 1 ≤ next T ∧ next T < 9 := by have := next_range T; omega
      generalize hc : next T = c at *
      refine pIdx_i (by omega) (by omega) ?_
      refine pLdA_i (tab_vals t (by omega) hlt) ?_
      refine refOpen_ok t w ⟨openAll T, rfl, pKeep_i (loadF_vals sh39 sz39 (tab_vals t (by omega) hlt)) ?_⟩
      refine refCount_ok _ ⟨openN (tk T pid), rfl, ?_⟩
      have hs := openSum_le (all T)
      have h8 := all_len T
      have ho := openN_le (tk T pid)
      have hoa : openAll T = openSum (all T) := rfl
      show pIf (decide (IntKind.i64.wrap (openAll T + openN (tk T pid)) > 16)) _ _ h
      rw [wrap_small (by omega) (by omega)]
      refine pIf_i (fun hz => ?_) (fun hz => ?_)
      · have hf : openAll T + openN (tk T pid) > 16 := by simpa using hz
        have e : fork T pid = (T, 0, 23) := by simp [fork, ha, hn, hf, hc]
        rw [e, show TabTo h b T = h from t.same] at k
        exact fgt_mk k
      · have hf : ¬ openAll T + openN (tk T pid) > 16 := by simpa using hz
        have e : fork T pid = (T.set c.toNat (forked T pid), c, 0) := by simp [fork, ha, hn, hf, hc]
        rw [e] at k
        refine pIdx_i (by omega) (by omega) ?_
        refine tab_ld t (by omega) hnr.2 (k := 1) rfl ?_
        refine pIdx_i (by omega) (by omega) ?_
        refine pLdA_i (tab_vals t (by omega) hlt) ?_
        refine pIdx_i (by omega) (by omega) ?_
        refine tab_set t (pid := c) (by omega) hnr.2 0 (tk T pid).enc (tk T pid) (by rw [Task.len]; omega) (splice_whole (by rw [Task.len, Task.len])).symm (task_one _) (Task.len _) ?_
        refine pIdx_i (by omega) (by omega) ?_
        refine st2 t.len (by omega) hnr.2 0 { tk T pid with pid := c } (by omega) (by rfl) rfl ?_
        refine pIdx_i (by omega) (by omega) ?_
        refine st2 t.len (by omega) hnr.2 1 { tk T pid with pid := c, gen := IntKind.i64.wrap ((tk T c).gen + 1) } (by omega) (by rfl) rfl ?_
        refine pIdx_i (by omega) (by omega) ?_
        refine st2 t.len (by omega) hnr.2 2 { tk T pid with pid := c, gen := IntKind.i64.wrap ((tk T c).gen + 1), ppid := pid } (by omega) (by rfl) rfl ?_
        refine pIdx_i (by omega) (by omega) ?_
        refine st2 t.len (by omega) hnr.2 10 { tk T pid with pid := c, gen := IntKind.i64.wrap ((tk T c).gen + 1), ppid := pid, sigs := 0 } (by omega) (by rfl) rfl ?_
        refine pIdx_i (by omega) (by omega) ?_
        refine st2 t.len (by omega) hnr.2 7 (forked T pid) (by omega) (by simp only [forked, hc]; rfl) rfl ?_
        exact fgt_mk k

/- Exit. -/
theorem and255' (c : Int) : bitsV .and .i64 c 255 = c % 256 := by
  have h1 : (BitVec.ofInt 64 c &&& BitVec.ofInt 64 255).toNat = (c % 256).toNat := by
    rw [BitVec.toNat_and, show (BitVec.ofInt 64 255).toNat = 2 ^ 8 - 1 by decide, Nat.and_two_pow_sub_one_eq_mod, BitVec.toNat_ofInt]
    omega
  show IntKind.i64.wrap ((BitVec.ofInt 64 c &&& BitVec.ofInt 64 255).toNat : Int) = c % 256
  rw [h1, wrap_small (by omega) (by omega)]
  omega
theorem tmod256 (c : Int) : (if c.tmod 256 < 0 then IntKind.i64.wrap (c.tmod 256 + 256) else c.tmod 256) = c % 256 := by
  have h1 : c.tmod 256 = c % 256 ∨ (c.tmod 256 = c % 256 - 256 ∧ c.tmod 256 < 0) := by
    have := Int.tmod_eq_emod (a := c) (b := 256)
    have h3 : 0 ≤ c % 256 := Int.emod_nonneg c (by omega)
    have h4 : c % 256 < 256 := Int.emod_lt_of_pos c (by omega)
    split at this
    · left; omega
    · right
      constructor
      · simpa using this
      · simp at this; omega
  have h3 : 0 ≤ c % 256 := Int.emod_nonneg c (by omega)
  have h4 : c % 256 < 256 := Int.emod_lt_of_pos c (by omega)
  rcases h1 with h1 | ⟨h1, h2⟩
  · rw [if_neg (by omega), h1]
  · rw [if_pos h2, wrap_small (by omega) (by omega)]; omega

theorem fix_z (pid : Int) (h : 1 ≤ pid) : fixT pid Task.z = Task.z := by
  have : ¬ (0 : Int) = pid := by omega
  simp [fixT, Task.z, this]

set_option maxHeartbeats 1000000 in
theorem refExit_ok {h : Heap} {b : Nat} {T : List Task} (t : Tab h b T) (w : TW T) (pid code : Int) {KP K : Value → Pr}
    (k : K (.int .i64 (exitF T pid code).2) (TabTo h b (exitF T pid code).1)) : WpCall Try.prog 27 #[.pointer (some ⟨b, 0, none⟩), .int .i64 pid, .int .i64 code] KP K h := by
  refine ref24_Table_Exit_call _ _ _ ?_
  unfold ref24_Table_Exit
  refine refAlive_ok t w pid ⟨_, rfl, ?_⟩
  simp only [add_mk, Nat.zero_add, Nat.add_zero, pSome_some]
  refine pIf_i (fun hz => ?_) (fun hz => ?_)
  · have ha : aliveB T pid = false := by simpa using hz
    have e : exitF T pid code = (T, 3) := by simp [exitF, ha]
    rw [e, show TabTo h b T = h from t.same] at k
    exact fgt_mk k
  · have ha : aliveB T pid = true := by simpa using hz
    have hr := alive_range ha
    have hlt := hr.2
    refine pIf_i (fun hz => ?_) (fun hz => ?_)
    · have hp1 : pid = 1 := by simpa using hz
      have e : exitF T pid code = (T, 1) := by simp [exitF, hp1]; rw [← hp1]; exact ha
      rw [e, show TabTo h b T = h from t.same] at k
      exact fgt_mk k
    · have hp1 : pid ≠ 1 := by simpa using hz
      have e : exitF T pid code = ((T.set pid.toNat (gone (tk T pid) code)).map (fixT pid), 0) := by simp [exitF, ha, hp1]
      rw [e] at k
      have hpid : (tk T pid).pid = pid := by
        have : hasB T pid = true := by simp [aliveB] at ha; exact ha.1
        exact (w.has this).2.2
      refine pIdx_i (by omega) (by omega) ?_
      refine pLdA_i (tab_vals t (by omega) hlt) ?_
      refine new_st zc_tlen (Task.len _) (task_one _) ?_
      have hB := t.blk
      (intro b4 hb4; try simp only [Heap.set_none] at hb4)
      refine pAssert_i (by decide) ?_
      have t4 : Tab (h.set b4 (.row (tk T pid).enc 49)) b T := ⟨by (repeat (first | exact Heap.set_same _ _ _ | assumption | refine Heap.look_ne (by (first | assumption | exact Ne.symm (by assumption) | grind)) ?_)), t.len⟩
      have main : ref24_Table_Exit_j4 (some ⟨b, 0, none⟩) pid (fgt K) b4 (code % 256) (h.set b4 (.row (tk T pid).enc 49)) := by
        unfold ref24_Table_Exit_j4
        simp only [add_mk, Nat.zero_add, Nat.add_zero, pSome_some]
        refine ld_b (Heap.set_same _ _ _) rfl ?_
        refine ld_b (Heap.set_same _ _ _) rfl ?_
        refine ld_b (Heap.set_same _ _ _) rfl ?_
        refine ld_b (Heap.set_same _ _ _) rfl ?_
        refine ld_b (Heap.set_same _ _ _) rfl ?_
        refine ld_b (Heap.set_same _ _ _) rfl ?_
        refine pIdx_i (by omega) (by omega) ?_
        have hg : lay (zc Try.prog 39) [(0, (.int .i64 pid)), (1, (.int .i64 (tk T pid).gen)), (2, (.int .i64 (tk T pid).ppid)), (3, (.int .i64 (tk T pid).uid)), (4, (.int .i64 (tk T pid).gid)), (5, (.int .i64 (tk T pid).cwd)), (6, (.int .i64 (tk T pid).exe)), (8, (.bool true)), (9, (.int .i64 (code % 256)))] = (gone (tk T pid) code).enc := by
          rw [zc_task]
          unfold gone
          rw [and255', hpid]; rfl
        rw [hg]
        refine tab_set t4 (by omega) hlt 0 _ (gone (tk T pid) code) (by rw [Task.len]; omega) (splice_whole (by rw [Task.len, Task.len])).symm (task_one _) (Task.len _) ?_
        generalize hT1 : T.set pid.toNat (gone (tk T pid) code) = T1 at k
        have hl1 : T1.length = 9 := by rw [← hT1, List.length_set]; exact t.len
        have hz0 : T1[0]'(by omega) = Task.z := by
          have h0 := w.zero
          rw [tk_eq t.len (by omega) (by omega)] at h0
          subst hT1
          rw [List.getElem_set]
          rw [if_neg (by omega)]
          exact h0
        have hm1 : mid pid T1 1 = T1 := by
          have := mid_step pid T1 0 (by omega)
          rw [hz0, fix_z pid hr.1] at this
          have h00 : mid pid T1 0 = T1 := by simp [mid]
          rw [h00] at this
          rw [← this, ← hz0]
          exact List.set_getElem_self _
        refine pLoop_rule (fun (s : Int × Unit) h' => 1 ≤ s.1 ∧ s.1 ≤ 9 ∧ h' = (h.set b4 (.row (tk T pid).enc 49)).set b (.row (encT (mid pid T1 s.1.toNat)) 441)) (fun s => (9 - s.1).toNat) ?_ ?_
        rotate_left
        · exact ⟨by show (1 : Int) ≤ 1; omega, by show (1 : Int) ≤ 9; omega, by show _ = Heap.set _ b (.row (encT (mid pid T1 1)) 441); rw [hm1]⟩
        rintro ⟨i, ⟨⟩⟩ h' kk ⟨hi0, hi9, rfl⟩ hk
        simp only at hi0 hi9 hk ⊢
        unfold ref24_Table_Exit_l3 ref24_Table_Exit_j2 ref24_Table_Exit_j1 pJoin
        simp only [add_mk, Nat.zero_add, Nat.add_zero, pSome_some]
        have step : ∀ (T' : List Task), T'.length = 9 → Tab ((h.set b4 (.row (tk T pid).enc 49)).set b (.row (encT T') 441)) b T' := fun T' hl => t4.set' hl
        by_cases hi : i < 9
        · have hlti : i.toNat < T1.length := by omega
          have hml : (mid pid T1 i.toNat).length = 9 := by rw [mid_len]; exact hl1
          have tm := step _ hml
          have hget : tk (mid pid T1 i.toNat) i = T1[i.toNat] := by rw [tk_eq hml hi (by omega), mid_get pid T1 i.toNat hlti]
          have hms := mid_step pid T1 i.toNat hlti
          have hnext : ∀ X, X = mid pid T1 (i.toNat + 1) → kk (IntKind.i64.wrap (i + 1), ()) ((h.set b4 (.row (tk T pid).enc 49)).set b (.row (encT X) 441)) := fun X hX => by
            rw [wrap_small (by omega) (by omega)]
            refine hk _ _ ⟨by simp only; omega, by simp only; omega, ?_⟩ (by simp only; omega)
            simp only
            rw [hX, show (i + 1).toNat = i.toNat + 1 by omega]
          generalize hu : T1[i.toNat] = u at *
          refine pIf_t (by simpa using hi) (pIdx_i (by omega) (by omega) ?_)
          have c2 : (tk (mid pid T1 i.toNat) i).enc[2]? = some (.int .i64 u.ppid) := by rw [hget]; rfl
          refine tab_ld tm (by omega) hi c2 ?_
          refine pIf_i (fun hz => ?_) (fun hz => ?_)
          · have hz' : u.ppid = pid := by simpa using hz
            refine pIdx_i (by omega) (by omega) ?_
            refine tab_st tm (by omega) hi 2 (.int .i64 1) { u with ppid := 1 } (by omega) (by rw [hget]; rfl) rfl ?_
            rw [Heap.set_set]
            have l6 : ((mid pid T1 i.toNat).set i.toNat { u with ppid := 1 }).length = 9 := by rw [List.length_set]; exact hml
            have hget2 := tk_set hml hi (by omega) { u with ppid := 1 }
            refine pIdx_i (by omega) (by omega) ?_
            have c7 : (tk ((mid pid T1 i.toNat).set i.toNat { u with ppid := 1 }) i).enc[7]? = some (.int .i64 u.tracer) := by rw [hget2]; rfl
            refine tab_ld (step _ l6) (by omega) hi c7 ?_
            refine pIf_i (fun hz => ?_) (fun hz => ?_)
            · have hy' : u.tracer = pid := by simpa using hz
              refine pIdx_i (by omega) (by omega) ?_
              refine tab_st (step _ l6) (by omega) hi 7 (.int .i64 0) { u with ppid := 1, tracer := 0 } (by omega) (by rw [hget2]; rfl) rfl ?_
              rw [Heap.set_set, set_set_same]
              exact hnext _ (by rw [← hms]; simp [fixT, hz', hy'])
            · have hy' : ¬ u.tracer = pid := by simpa using hz
              exact hnext _ (by rw [← hms]; simp [fixT, hz', hy'])
          · have hz' : ¬ u.ppid = pid := by simpa using hz
            have c7 : (tk (mid pid T1 i.toNat) i).enc[7]? = some (.int .i64 u.tracer) := by rw [hget]; rfl
            refine pIdx_i (by omega) (by omega) ?_
            refine tab_ld tm (by omega) hi c7 ?_
            refine pIf_i (fun hz => ?_) (fun hz => ?_)
            · have hy' : u.tracer = pid := by simpa using hz
              refine pIdx_i (by omega) (by omega) ?_
              refine tab_st tm (by omega) hi 7 (.int .i64 0) { u with tracer := 0 } (by omega) (by rw [hget]; rfl) rfl ?_
              rw [Heap.set_set]
              exact hnext _ (by rw [← hms]; simp [fixT, hz', hy'])
            · have hy' : ¬ u.tracer = pid := by simpa using hz
              refine hnext _ ?_
              rw [← hms]
              have : fixT pid u = u := by simp [fixT, hz', hy']
              rw [this, ← hget, tk_eq hml hi (by omega)]
              exact (List.set_getElem_self _).symm
        · refine pIf_f (by simpa using hi) (fgt_here (g := TabTo h b (T1.map (fixT pid))) ?_ ?_)
          · have : i = 9 := by omega
            subst this
            have e : mid pid T1 (9 : Int).toNat = T1.map (fixT pid) := by
              unfold mid
              rw [List.take_of_length_le (by rw [hl1]; decide), List.drop_eq_nil_of_le (by rw [hl1]; decide), List.append_nil]
            rw [e]; unfold TabTo; (intro i x hx; grind (splits := 30) [Heap.set])
          · exact k
      have e256 := tmod256 code
      refine pIf_i (fun hz => ?_) (fun hz => ?_)
      · have hz' : code.tmod 256 < 0 := by simpa using hz
        rw [if_pos hz'] at e256
        show ref24_Table_Exit_j4 _ _ _ _ _ _
        rw [e256]; exact main
      · have hz' : ¬ code.tmod 256 < 0 := by simpa using hz
        rw [if_neg hz'] at e256
        show ref24_Table_Exit_j4 _ _ _ _ _ _
        rw [e256]; exact main

/- Wait. -/
set_option maxHeartbeats 1000000 in
theorem refWait_ok {h : Heap} {b : Nat} {T : List Task} (t : Tab h b T) (w : TW T) (pid : Int) {KP K : Value → Pr}
    (k : K (.tuple #[.int .i64 (waitF T pid).2.1, .int .i64 (waitF T pid).2.2.1, .int .i64 (waitF T pid).2.2.2]) (TabTo h b (waitF T pid).1)) : WpCall Try.prog 28 #[.pointer (some ⟨b, 0, none⟩), .int .i64 pid] KP K h := by
  refine ref24_Table_Wait_call _ _ ?_
  unfold ref24_Table_Wait
  refine refAlive_ok t w pid ⟨_, rfl, ?_⟩
  simp only [add_mk, Nat.zero_add, Nat.add_zero, pSome_some]
  refine pIf_i (fun hz => ?_) (fun hz => ?_)
  · have ha : aliveB T pid = false := by simpa using hz
    have e : waitF T pid = (T, 0, 0, 3) := by simp [waitF, ha]
    rw [e, show TabTo h b T = h from t.same] at k
    exact fgt_mk k
  · have ha : aliveB T pid = true := by simpa using hz
    have e0 : waitF T pid = match waitFrom pid (all T) 10 with
      | (some x, _) => (T.set x.pid.toNat { Task.z with gen := x.gen }, x.pid, x.code, 0)
      | (none, e) => (T, 0, 0, e) := by
      have hna : ¬ aliveB T pid = false := by simp [ha]
      simp only [waitF, if_neg hna]; rfl
    have hW : waitFrom pid (allFrom T 8 1) 10 = waitFrom pid (all T) 10 := rfl
    generalize waitFrom pid (all T) 10 = W at e0 hW
    refine pLoop_rule (fun (st : Int × Int × Unit) h' => h' = h ∧ 1 ≤ st.2.1 ∧ st.2.1 ≤ 9 ∧ 0 ≤ st.1 ∧ st.1 < st.2.1 ∧ waitFrom pid (allFrom T (9 - st.2.1).toNat st.2.1) (if st.1 = 0 then 10 else 11) = W) (fun st => (9 - st.2.1).toNat) ?_ ?_
    rotate_left
    · exact ⟨rfl, by show (1 : Int) ≤ 1; omega, by show (1 : Int) ≤ 9; omega, by show (0 : Int) ≤ 0; omega, by show (0 : Int) < 1; omega, hW⟩
    rintro ⟨n, p, ⟨⟩⟩ h' kk ⟨rfl, h0, h1, hn0, hnp, h2⟩ hk
    simp only at h0 h1 hn0 hnp h2 hk ⊢
    unfold ref24_Table_Wait_l3 ref24_Table_Wait_j2 ref24_Table_Wait_j1 pJoin
    simp only [add_mk, Nat.zero_add, Nat.add_zero, pSome_some]
    by_cases hp : p < 9
    · have e : (9 - p).toNat = (8 - p).toNat + 1 := by omega
      rw [e, allFrom] at h2
      refine pIf_t (by simpa using hp) ?_
      have hnext : ∀ m, 0 ≤ m → m ≤ p → waitFrom pid (allFrom T (8 - p).toNat (p + 1)) (if m = 0 then 10 else 11) = W → kk (m, IntKind.i64.wrap (p + 1), ()) h' := fun m hm0 hmp he => by
        rw [wrap_small (by omega) (by omega)]
        refine hk _ _ ⟨rfl, by simp only; omega, by simp only; omega, hm0, by simp only; omega, ?_⟩ (by simp only; omega)
        simp only
        rw [show (9 - (p + 1)).toNat = (8 - p).toNat by omega]; exact he
      refine refHas_ok t w p ⟨hasB T p, rfl, ?_⟩
      refine pIf_i (fun hz => ?_) (fun hz => ?_)
      · have hh : hasB T p = false := by simpa using hz
        rw [if_neg (by simp [hh]), List.nil_append] at h2
        exact pIf_t rfl (hnext n hn0 (by omega) h2)
      · have hh : hasB T p = true := by simpa using hz
        have hpid := (w.has hh).2.2
        rw [if_pos hh, List.singleton_append, waitFrom, hpid] at h2
        refine pIf_i (fun hz => ?_) (fun hz => ?_)
        · have hpp : p = pid := by simpa using hz
          rw [if_pos (.inr hpp)] at h2
          exact pIf_t rfl (hnext n hn0 (by omega) h2)
        · have hpp : ¬ p = pid := by simpa using hz
          refine pIdx_i (by omega) (by omega) ?_
          refine tab_ld t (by omega) hp (k := 2) rfl ?_
          refine pIf_i (fun hz => ?_) (fun hz => ?_)
          · have hq : (tk T p).ppid ≠ pid := by simpa using hz
            rw [if_pos (.inl hq)] at h2
            exact hnext n hn0 (by omega) h2
          · have hq : (tk T p).ppid = pid := by simpa using hz
            rw [if_neg (by simp [hq, hpp])] at h2
            refine pIdx_i (by omega) (by omega) ?_
            refine tab_ld t (by omega) hp (k := 8) rfl ?_
            refine pIf_i (fun hz => ?_) (fun hz => ?_)
            · rw [if_pos hz] at h2
              rw [← h2] at e0
              simp only [hpid] at e0
              rw [e0] at k
              refine pIdx_i (by omega) (by omega) ?_
              refine tab_ld t (by omega) hp (k := 9) rfl ?_
              refine pIdx_i (by omega) (by omega) ?_
              refine tab_ld t (by omega) hp (k := 1) rfl ?_
              refine pIdx_i (by omega) (by omega) ?_
              have hz0 : lay (zc Try.prog 39) [(1, .int .i64 (tk T p).gen)] = ({ Task.z with gen := (tk T p).gen } : Task).enc := by rw [zc_task]; rfl
              rw [hz0]
              refine tab_set t (by omega) hp 0 _ { Task.z with gen := (tk T p).gen } (by rw [Task.len]; omega) (splice_whole (by rw [Task.len, Task.len])).symm (task_one _) (Task.len _) ?_
              exact fgt_mk k
            · have hd : (tk T p).dead = false := hz
              rw [if_neg (by rw [hd]; simp)] at h2
              rw [wrap_small (by omega) (by omega)]
              exact hnext (n + 1) (by omega) (by omega) (by rw [if_neg (by omega)]; exact h2)
    · refine pIf_f (by simpa using hp) ?_
      have : p = 9 := by omega
      subst this
      have h2' : W = (none, if n = 0 then 10 else 11) := by rw [← h2]; rfl
      rw [h2'] at e0
      simp only at e0
      rw [e0, show TabTo h' b T = h' from t.same] at k
      refine pIf_i (fun hz => ?_) (fun hz => ?_)
      · have : n = 0 := by simpa using hz
        rw [if_pos this] at k; exact fgt_mk k
      · have : ¬ n = 0 := by simpa using hz
        rw [if_neg this] at k; exact fgt_mk k
end Go.Proofs.Ytgheplpbffanoaa
