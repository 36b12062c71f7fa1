import Derived.Test.YtgheplpbffanoaaD13
set_option linter.unusedVariables false
set_option linter.unusedSimpArgs false
namespace Go.Proofs.Ytgheplpbffanoaa
open Go.Hl
attribute [local irreducible] loadF zc sizeP bytesP vcBody

theorem openAll8 {T : List Task} (w : TW T) : openAll T = openN (tk T 1) + (openN (tk T 2) + (openN (tk T 3) + (openN (tk T 4) + (openN (tk T 5) + (openN (tk T 6) + (openN (tk T 7) + openN (tk T 8))))))) := by
  have e : openAll T = openSum (allFrom T 8 1) := rfl
  rw [e, openSum_step w (by omega) (by omega) 7, openSum_step w (by omega) (by omega) 6, openSum_step w (by omega) (by omega) 5, openSum_step w (by omega) (by omega) 4,
    openSum_step w (by omega) (by omega) 3, openSum_step w (by omega) (by omega) 2, openSum_step w (by omega) (by omega) 1, openSum_step w (by omega) (by omega) 0]
  simp [allFrom, openSum]
theorem eight {p : Int} (h1 : 1 ≤ p) (h9 : p < 9) : p = 1 ∨ p = 2 ∨ p = 3 ∨ p = 4 ∨ p = 5 ∨ p = 6 ∨ p = 7 ∨ p = 8 := by omega
theorem openAll_set {T : List Task} (w : TW T) {p : Int} (h1 : 1 ≤ p) (h9 : p < 9) {x : Task} (w' : TW (T.set p.toNat x)) : openAll (T.set p.toNat x) = openAll T - openN (tk T p) + openN x := by
  rw [openAll8 w, openAll8 w']
  have hs := tk_set w.len h9 (by omega) x
  have hn : ∀ q : Int, 0 ≤ q → q ≠ p → tk (T.set p.toNat x) q = tk T q := fun q q0 hq => tk_set_ne (by omega) q0 hq x
  rcases eight h1 h9 with rfl | rfl | rfl | rfl | rfl | rfl | rfl | rfl <;>
    (simp only [hs, hn _ (show (0 : Int) ≤ 1 by omega), hn _ (show (0 : Int) ≤ 2 by omega), hn _ (show (0 : Int) ≤ 3 by omega), hn _ (show (0 : Int) ≤ 4 by omega), hn _ (show (0 : Int) ≤ 5 by omega), hn _ (show (0 : Int) ≤ 6 by omega), hn _ (show (0 : Int) ≤ 7 by omega), hn _ (show (0 : Int) ≤ 8 by omega), ne_eq, reduceCtorEq, not_false_eq_true, Int.reduceEq]; omega)
theorem openAll_map {T : List Task} (w : TW T) {f : Task → Task} (hf : ∀ x, openN (f x) = openN x) (w' : TW (T.map f)) : openAll (T.map f) = openAll T := by
  rw [openAll8 w, openAll8 w']
  have hm : ∀ q : Int, 0 ≤ q → q < 9 → tk (T.map f) q = f (tk T q) := fun q q0 q9 => tk_map w.len q0 q9 f
  simp only [hm _ (show (0 : Int) ≤ 1 by omega) (by omega), hm _ (show (0 : Int) ≤ 2 by omega) (by omega), hm _ (show (0 : Int) ≤ 3 by omega) (by omega), hm _ (show (0 : Int) ≤ 4 by omega) (by omega), hm _ (show (0 : Int) ≤ 5 by omega) (by omega), hm _ (show (0 : Int) ≤ 6 by omega) (by omega), hm _ (show (0 : Int) ≤ 7 by omega) (by omega), hm _ (show (0 : Int) ≤ 8 by omega) (by omega), hf]

/-- A table whose tasks are a tree. -/
structure TT (T : List Task) : Prop where
  w : TW T
  op : openAll T ≤ 16
  one : aliveB T 1 = true
  top : (tk T 1).ppid = 1
  par : ∀ p : Int, hasB T p = true → aliveB T (tk T p).ppid = true
  rk : ∃ r : Int → Nat, r 1 = 0 ∧ ∀ p : Int, hasB T p = true → p ≠ 1 → r (tk T p).ppid < r p

theorem hasB_set {T : List Task} (hl : T.length = 9) {p q : Int} (h1 : 1 ≤ p) (h9 : p < 9) (x : Task) : hasB (T.set p.toNat x) q = if q = p then x.pid != 0 else hasB T q := by
  by_cases e : q = p
  · subst e
    rw [if_pos rfl]
    have h9' : q < 9 := h9
    simp [hasB, tk_set hl h9 (by omega), h1, h9']
  · rw [if_neg e]
    by_cases hq : 0 ≤ q
    · simp [hasB, tk_set_ne (show 0 ≤ p by omega) hq e]
    · have : ¬ 1 ≤ q := by omega
      simp [hasB, this]
theorem aliveB_set {T : List Task} (hl : T.length = 9) {p q : Int} (h1 : 1 ≤ p) (h9 : p < 9) (x : Task) : aliveB (T.set p.toNat x) q = if q = p then (x.pid != 0) && !x.dead else aliveB T q := by
  unfold aliveB
  rw [hasB_set hl h1 h9]
  by_cases e : q = p
  · subst e
    rw [if_pos rfl, if_pos rfl, tk_set hl h9 (by omega)]
  · rw [if_neg e, if_neg e]
    by_cases hq : 0 ≤ q
    · rw [tk_set_ne (show 0 ≤ p by omega) hq e]
    · have : ¬ 1 ≤ q := by omega
      simp [hasB, this]
theorem alive_has {T : List Task} {p : Int} (h : aliveB T p = true) : hasB T p = true := by simp [aliveB] at h; exact h.1

/-- A deed that leaves a task's place in the tree. -/
theorem TT.upd {T : List Task} (t : TT T) {p : Int} (ha : aliveB T p = true) {x : Task} (hp : x.pid = (tk T p).pid) (hpp : x.ppid = (tk T p).ppid) (hd : x.dead = (tk T p).dead) (ho : openAll (T.set p.toNat x) ≤ 16) : TT (T.set p.toNat x) := by
  have hr := alive_range ha
  have hlt := hr.2
  have hpid := (t.w.has (alive_has ha)).2.2
  have hnd : (tk T p).dead = false := by simp [aliveB] at ha; exact ha.2
  have hx0 : (x.pid != 0) = true := by rw [hp, hpid]; simp; omega
  have hxa : ((x.pid != 0) && !x.dead) = true := by rw [hx0, hd, hnd]; rfl
  have hal : ∀ q, aliveB T q = true → aliveB (T.set p.toNat x) q = true := fun q hq => by
    rw [aliveB_set t.w.len hr.1 hlt]
    split
    · exact hxa
    · exact hq
  have hha : ∀ q, hasB (T.set p.toNat x) q = true → hasB T q = true := fun q hq => by
    rw [hasB_set t.w.len hr.1 hlt] at hq
    split at hq
    · rename_i e; subst e; exact alive_has ha
    · exact hq
  have hpar : ∀ q, hasB T q = true → (tk (T.set p.toNat x) q).ppid = (tk T q).ppid := fun q hq => by
    have := has_lt hq
    by_cases e : q = p
    · subst e; rw [tk_set t.w.len hlt (by omega)]; exact hpp
    · rw [tk_set_ne (by omega) (by omega) e]
  refine ⟨set_w t.w ha hp, ho, hal 1 t.one, ?_, fun q hq => ?_, ?_⟩
  · rw [hpar 1 (alive_has t.one)]; exact t.top
  · rw [hpar q (hha q hq)]; exact hal _ (t.par q (hha q hq))
  · obtain ⟨r, r1, r2⟩ := t.rk
    exact ⟨r, r1, fun q hq hq1 => by rw [hpar q (hha q hq)]; exact r2 q (hha q hq) hq1⟩

theorem nextFrom_free (T : List Task) : ∀ n p, nextFrom T n p ≠ 0 → (tk T (nextFrom T n p)).pid = 0
  | 0, _, h => by simp [nextFrom] at h
  | n + 1, p, h => by
    unfold nextFrom at h ⊢
    split
    · assumption
    · rename_i hz; rw [if_neg hz] at h; exact nextFrom_free T n (p + 1) h
theorem next_free (T : List Task) (h : next T ≠ 0) : (tk T (next T)).pid = 0 := nextFrom_free T 8 1 h
theorem TT.fork {T : List Task} (t : TT T) (pid : Int) : TT (fork T pid).1 := by
  have w' := fork_w t.w pid
  unfold Go.Proofs.Ytgheplpbffanoaa.fork at w' ⊢
  split
  · exact t
  · rename_i ha0
    have ha : aliveB T pid = true := by simpa using ha0
    split
    · exact t
    · rename_i hn
      split
      · exact t
      · rename_i ho
        rw [if_neg ha0, if_neg hn, if_neg ho] at w'
        have hnr := next_range T
        have h1 : 1 ≤ next T := by omega
        have h9 : next T < 9 := by omega
        have hfree : (tk T (next T)).pid = 0 := next_free T hn
        generalize hc : next T = c at *
        have hnh : hasB T c = false := by simp [hasB, hfree]
        have hpc : pid ≠ c := fun e => by rw [← e, alive_has ha] at hnh; cases hnh
        have hr := alive_range ha
        have hnd : (tk T pid).dead = false := by simp [aliveB] at ha; exact ha.2
        have hfd : (forked T pid).dead = false := hnd
        have hfp : (forked T pid).pid = c := hc
        have hfx : ((forked T pid).pid != 0) = true := by rw [hfp]; simp; omega
        have hal : ∀ q, aliveB T q = true → aliveB (T.set c.toNat (forked T pid)) q = true := fun q hq => by
          rw [aliveB_set t.w.len h1 h9]
          split
          · rw [hfx, hfd]; rfl
          · exact hq
        have hnc : ∀ q, aliveB T q = true → q ≠ c := fun q hq e => by subst e; rw [alive_has hq] at hnh; cases hnh
        have hop : openAll (T.set c.toNat (forked T pid)) = openAll T + openN (tk T pid) := by
          rw [openAll_set t.w h1 h9 w', t.w.free c h1 h9 hfree, openN_z]
          show openAll T - 0 + openN (tk T pid) = _
          omega
        refine ⟨w', by rw [hop]; omega, hal 1 t.one, ?_, fun q hq => ?_, ?_⟩
        · rw [tk_set_ne (by omega) (by omega) (hnc 1 t.one)]; exact t.top
        · by_cases e : q = c
          · subst e; rw [tk_set t.w.len h9 (by omega)]; exact hal pid ha
          · rw [hasB_set t.w.len h1 h9, if_neg e] at hq
            have := has_lt hq
            rw [tk_set_ne (by omega) (by omega) e]; exact hal _ (t.par q hq)
        · obtain ⟨r, r1, r2⟩ := t.rk
          refine ⟨fun q => if q = c then r pid + 1 else r q, ?_, fun q hq hq1 => ?_⟩
          · show (if (1 : Int) = c then _ else _) = 0
            rw [if_neg (hnc 1 t.one)]; exact r1
          · by_cases e : q = c
            · subst e
              rw [tk_set t.w.len h9 (by omega)]
              show (if pid = q then r pid + 1 else r pid) < (if q = q then r pid + 1 else r q)
              rw [if_neg hpc, if_pos rfl]; omega
            · rw [hasB_set t.w.len h1 h9, if_neg e] at hq
              have := has_lt hq
              rw [tk_set_ne (by omega) (by omega) e]
              show (if (tk T q).ppid = c then r pid + 1 else r (tk T q).ppid) < (if q = c then r pid + 1 else r q)
              rw [if_neg (hnc _ (t.par q hq)), if_neg e]; exact r2 q hq hq1

theorem gone_open (x : Task) (code : Int) : openN (gone x code) = 0 := rfl
theorem fix_open (pid : Int) (x : Task) : openN (fixT pid x) = openN x := rfl
theorem TT.exit {T : List Task} (t : TT T) (pid code : Int) : TT (exitF T pid code).1 := by
  have w' := exit_w t.w pid code
  unfold exitF at w' ⊢
  split
  · exact t
  · rename_i ha0
    have ha : aliveB T pid = true := by simpa using ha0
    split
    · exact t
    · rename_i hp1
      rw [if_neg ha0, if_neg hp1] at w'
      have hr := alive_range ha
      have hlt := hr.2
      have hpid := (t.w.has (alive_has ha)).2.2
      have w2 : TW (T.set pid.toNat (gone (tk T pid) code)) := set_w t.w ha rfl
      -- what stands at a place
      have hq0 : ∀ q, 0 ≤ q → q < 9 → q ≠ pid → tk ((T.set pid.toNat (gone (tk T pid) code)).map (fixT pid)) q = fixT pid (tk T q) := fun q h0 h9 hq => by
        rw [tk_map w2.len h0 h9, tk_set_ne (by omega) h0 hq]
      have hqp : tk ((T.set pid.toNat (gone (tk T pid) code)).map (fixT pid)) pid = fixT pid (gone (tk T pid) code) := by
        rw [tk_map w2.len (by omega) hlt, tk_set t.w.len hlt (by omega)]
      have hhas : ∀ q, hasB ((T.set pid.toNat (gone (tk T pid) code)).map (fixT pid)) q = hasB T q := fun q => by
        by_cases h19 : 1 ≤ q ∧ q < 9
        · by_cases e : q = pid
          · subst e
            unfold hasB; rw [hqp]; rfl
          · unfold hasB; rw [hq0 q (by omega) h19.2 e]; rfl
        · have : hasB T q = false := by simp [hasB]; omega
          rw [this]; simp [hasB]; omega
      have hal : ∀ q, aliveB T q = true → q ≠ pid → aliveB ((T.set pid.toNat (gone (tk T pid) code)).map (fixT pid)) q = true := fun q hq e => by
        have hqr := alive_range hq
        have : (fixT pid (tk T q)).dead = (tk T q).dead := rfl
        simp only [aliveB, hhas, hq0 q (by omega) hqr.2 e, this]
        exact hq
      have hpar : ∀ q, hasB T q = true → (tk ((T.set pid.toNat (gone (tk T pid) code)).map (fixT pid)) q).ppid = if (tk T q).ppid = pid then 1 else (tk T q).ppid := fun q hq => by
        have := has_lt hq
        by_cases e : q = pid
        · subst e; rw [hqp]; rfl
        · rw [hq0 q (by omega) this.2 e]; rfl
      have h1p : (1 : Int) ≠ pid := fun e => hp1 e.symm
      refine ⟨w', ?_, hal 1 t.one h1p, ?_, fun q hq => ?_, ?_⟩
      · rw [openAll_map w2 (fix_open pid) w', openAll_set t.w hr.1 hlt w2, gone_open]
        have := openN_le (tk T pid)
        have := t.op
        omega
      · rw [hpar 1 (alive_has t.one), t.top, if_neg h1p]
      · rw [hhas] at hq
        rw [hpar q hq]
        split
        · exact hal 1 t.one h1p
        · rename_i e; exact hal _ (t.par q hq) e
      · obtain ⟨r, r1, r2⟩ := t.rk
        refine ⟨r, r1, fun q hq hq1 => ?_⟩
        rw [hhas] at hq
        rw [hpar q hq]
        have := r2 q hq hq1
        split
        · rw [r1]; omega
        · exact this

theorem waitFrom_dead {pid : Int} : ∀ {l : List Task} {e : Int} {x : Task} {e' : Int}, waitFrom pid l e = (some x, e') → x.dead = true
  | [], _, _, _, h => by simp [waitFrom] at h
  | y :: r, e, x, e', h => by
    unfold waitFrom at h
    split at h
    · exact waitFrom_dead h
    · split at h
      · rename_i hd; simp at h; rw [← h.1]; exact hd
      · exact waitFrom_dead h
theorem TT.wait {T : List Task} (t : TT T) (pid : Int) : TT (waitF T pid).1 := by
  have w' := wait_w t.w pid
  unfold waitF at w' ⊢
  split
  · exact t
  · rename_i ha0
    rw [if_neg ha0] at w'
    cases hw : waitFrom pid (all T) 10 with
    | mk o e =>
      cases o with
      | none => exact t
      | some x =>
        rw [hw] at w'
        simp only at w' ⊢
        obtain ⟨h1, h9, hx⟩ := all_pid t.w.wf (waitFrom_mem hw)
        have hdead : x.dead = true := waitFrom_dead hw
        generalize hp : x.pid = p at *
        have hnc : ∀ q, aliveB T q = true → q ≠ p := fun q hq e => by
          subst e
          simp only [aliveB, hx, hdead] at hq
          simp at hq
        have hzp : ({ Task.z with gen := x.gen } : Task).pid = 0 := rfl
        have hal : ∀ q, aliveB T q = true → aliveB (T.set p.toNat { Task.z with gen := x.gen }) q = true := fun q hq => by
          rw [aliveB_set t.w.len h1 h9, if_neg (hnc q hq)]; exact hq
        have hha : ∀ q, hasB (T.set p.toNat { Task.z with gen := x.gen }) q = true → hasB T q = true ∧ q ≠ p := fun q hq => by
          rw [hasB_set t.w.len h1 h9] at hq
          split at hq
          · have hz0 : (({ Task.z with gen := x.gen } : Task).pid != 0) = false := rfl
            rw [hz0] at hq; cases hq
          · rename_i e; exact ⟨hq, e⟩
        refine ⟨w', ?_, hal 1 t.one, ?_, fun q hq => ?_, ?_⟩
        · rw [openAll_set t.w h1 h9 w', openN_z]
          have := openN_le (tk T p)
          have := t.op
          omega
        · rw [tk_set_ne (by omega) (by omega) (hnc 1 t.one)]; exact t.top
        · obtain ⟨hq1, hq2⟩ := hha q hq
          have := has_lt hq1
          rw [tk_set_ne (by omega) (by omega) hq2]; exact hal _ (t.par q hq1)
        · obtain ⟨r, r1, r2⟩ := t.rk
          refine ⟨r, r1, fun q hq hq1 => ?_⟩
          obtain ⟨hq2, hq3⟩ := hha q hq
          have := has_lt hq2
          rw [tk_set_ne (by omega) (by omega) hq3]; exact r2 q hq2 hq1

theorem setFile_keeps (x : Task) (k : Int) (f : File) : (setFile x k f).ppid = x.ppid ∧ (setFile x k f).dead = x.dead := by unfold setFile; (repeat' split) <;> exact ⟨rfl, rfl⟩
theorem setArea_keeps (x : Task) (k : Int) (f : Area) : (setArea x k f).ppid = x.ppid ∧ (setArea x k f).dead = x.dead ∧ openN (setArea x k f) = openN x := by unfold setArea; (repeat' split) <;> exact ⟨rfl, rfl, rfl⟩
theorem cntF_set (l : List File) (k : Nat) (f : File) (hk : k < l.length) : cntF (l.set k f) = cntF l - (if l[k] = File.z then 0 else 1) + (if f = File.z then 0 else 1) := by
  have e : l = l.take k ++ (l[k] :: l.drop (k + 1)) := by rw [← List.drop_eq_getElem_cons hk, List.take_append_drop]
  have h1 : cntF l = cntF (l.take k) + (if l[k] = File.z then 0 else 1) + cntF (l.drop (k + 1)) := by
    have := congrArg cntF e
    rw [this]
    unfold cntF
    rw [List.filter_append, List.filter_cons]
    by_cases hz : l[k] = File.z <;> simp [hz] <;> omega
  have h2 : cntF (l.set k f) = cntF (l.take k) + (if f = File.z then 0 else 1) + cntF (l.drop (k + 1)) := by
    rw [List.set_eq_take_append_cons_drop, if_pos hk]
    unfold cntF
    rw [List.filter_append, List.filter_cons]
    by_cases hz : f = File.z <;> simp [hz] <;> omega
  omega
theorem setFile_files (x : Task) {k : Int} (h0 : 0 ≤ k) (h6 : k < 6) (f : File) : files (setFile x k f) = (files x).set k.toNat f := by
  rcases six h0 h6 with rfl | rfl | rfl | rfl | rfl | rfl <;> rfl
theorem setFile_open (x : Task) {k : Int} (h0 : 0 ≤ k) (h6 : k < 6) (f : File) : openN (setFile x k f) = openN x - (if fileAt x k = File.z then 0 else 1) + (if f = File.z then 0 else 1) := by
  unfold openN
  have hk : k.toNat < (files x).length := by simp [files]; omega
  rw [setFile_files x h0 h6, cntF_set _ _ _ hk]
  have : (files x)[k.toNat] = fileAt x k := by simp [fileAt, hk]
  rw [this]
theorem TT.put {T : List Task} (t : TT T) (pid : Int) (f : File) : TT (putF T pid f).1 := by
  unfold putF
  split
  · rename_i ha
    split
    · exact t
    · rename_i hf
      split
      · exact t
      · rename_i ho
        have hr := alive_range ha
        have hk := setFile_keeps (tk T pid) (freeFd (tk T pid)) f
        have hfr := freeFd_range (tk T pid)
        refine t.upd ha (setFile_pid _ _ _) hk.1 hk.2 ?_
        rw [openAll_set t.w hr.1 hr.2 (set_w t.w ha (setFile_pid _ _ _)), setFile_open _ (by omega) (by omega)]
        split <;> split <;> omega
  · exact t
theorem TT.close {T : List Task} (t : TT T) (pid fd : Int) : TT (closeF T pid fd).1 := by
  unfold closeF
  split
  · rename_i e
    obtain ⟨ha, f0, f6, fz⟩ := fdE_ok e
    have hr := alive_range ha
    have hk := setFile_keeps (tk T pid) fd .z
    refine t.upd ha (setFile_pid _ _ _) hk.1 hk.2 ?_
    rw [openAll_set t.w hr.1 hr.2 (set_w t.w ha (setFile_pid _ _ _)), setFile_open _ f0 f6, if_neg fz, if_pos rfl]
    have := t.op
    omega
  · exact t
theorem TT.dup {T : List Task} (t : TT T) (pid fd : Int) : TT (dupF T pid fd).1 := by
  unfold dupF; split
  · exact t.put _ _
  · exact t
theorem TT.area {T : List Task} (t : TT T) {pid : Int} (ha : aliveB T pid = true) (k : Int) (a : Area) : TT (T.set pid.toNat (setArea (tk T pid) k a)) := by
  have hr := alive_range ha
  have hk := setArea_keeps (tk T pid) k a
  refine t.upd ha (setArea_pid _ _ _) hk.1 hk.2.1 ?_
  rw [openAll_set t.w hr.1 hr.2 (set_w t.w ha (setArea_pid _ _ _)), hk.2.2]
  have := t.op
  omega
theorem TT.map {T : List Task} (t : TT T) (pid : Int) (a : Area) : TT (mapF T pid a).1 := by
  unfold mapF
  split
  · rename_i ha
    split
    · exact t
    · exact t.area ha _ _
  · exact t
theorem TT.setArea {T : List Task} (t : TT T) (pid k : Int) (a : Area) : TT (setAreaF T pid k a).1 := by
  unfold setAreaF; split
  · rename_i e; exact t.area (areaE_ok e).1 _ _
  · exact t
theorem TT.on {T : List Task} (t : TT T) (pid : Int) {f : Task → Task} (h1 : ∀ x, (f x).pid = x.pid) (h2 : ∀ x, (f x).ppid = x.ppid) (h3 : ∀ x, (f x).dead = x.dead) (h4 : ∀ x, openN (f x) = openN x) : TT (onF T pid f).1 := by
  unfold onF
  split
  · rename_i ha
    have hr := alive_range ha
    refine t.upd ha (h1 _) (h2 _) (h3 _) ?_
    rw [openAll_set t.w hr.1 hr.2 (set_w t.w ha (h1 _)), h4]
    have := t.op
    omega
  · exact t
theorem TT.sig {T : List Task} (t : TT T) (pid sig : Int) : TT (sigF T pid sig).1 := by
  unfold sigF; split
  · rename_i ha
    split
    · exact t
    · have hr := alive_range ha
      have hw : TW (T.set pid.toNat { tk T pid with sigs := bitsV .or .u64 (tk T pid).sigs (sigBit sig) }) := set_w t.w ha rfl
      have ho := openAll_set t.w hr.1 hr.2 hw
      refine t.upd ha rfl rfl rfl ?_
      rw [ho]
      have := t.op
      show openAll T - openN (tk T pid) + openN (tk T pid) ≤ 16
      omega
  · exact t
theorem tt_ite {c : Prop} [Decidable c] {a b : List Task} (ha : TT a) (hb : TT b) : TT (if c then a else b) := by
  by_cases h : c
  · rw [if_pos h]; exact ha
  · rw [if_neg h]; exact hb
theorem TT.do_ {T : List Task} (t : TT T) (o : Op) (h5 : ¬ o.kind.tmod 15 = 5) : TT (doF T o) := by
  unfold doF
  rw [if_neg h5]
  refine tt_ite (t.fork _) (tt_ite (t.exit _ _) (tt_ite (t.wait _) (tt_ite (t.put _ _) (tt_ite (t.close _ _) (tt_ite (t.dup _ _) (tt_ite (t.map _ _) (tt_ite ?_ (tt_ite (t.setArea _ _ _) (tt_ite (t.on _ ?_ ?_ ?_ ?_) (tt_ite (t.on _ ?_ ?_ ?_ ?_) (tt_ite (t.on _ ?_ ?_ ?_ ?_) (tt_ite (t.sig _ _) (t.on _ ?_ ?_ ?_ ?_)))))))))))))
  · rw [prot_set]; exact t.setArea _ _ _
  all_goals intro x; rfl

/-- Up ends at the first task. -/
theorem up_one {T : List Task} (t : TT T) {r : Int → Nat} (r1 : r 1 = 0) (r2 : ∀ p : Int, hasB T p = true → p ≠ 1 → r (tk T p).ppid < r p) :
    ∀ (n : Nat) (l : List Int) (p : Int), hasB T p = true → r p < n → (∀ q, memI l q = true → r p < r q) → ∃ m, upFrom T (miss l + 1) l p = m ++ [1]
  | 0, _, _, _, h, _ => absurd h (Nat.not_lt_zero _)
  | n + 1, l, p, hh, hn, hl => by
    have hr := has_lt hh
    have hmp : memI l p = false := by
      cases hm : memI l p with
      | false => rfl
      | true => exact absurd (hl p hm) (Nat.lt_irrefl _)
    rw [upFrom, if_pos ⟨hh, hmp⟩]
    have hms := miss_snoc l p hr.1 hr.2 hmp
    rw [← hms]
    by_cases h1 : p = 1
    · subst h1
      rw [t.top, upFrom, if_neg (by rw [memI_snoc]; simp)]
      exact ⟨l, rfl⟩
    · have hlt := r2 p hh h1
      refine up_one t r1 r2 n (l ++ [p]) _ (alive_has (t.par p hh)) (by omega) fun q hq => ?_
      rw [memI_snoc] at hq
      simp only [Bool.or_eq_true, beq_iff_eq] at hq
      rcases hq with hq | rfl
      · have := hl q hq; omega
      · exact hlt
theorem TT.up {T : List Task} (t : TT T) {p : Int} (hh : hasB T p = true) : ∃ m, upL T p = m ++ [1] := by
  obtain ⟨r, r1, r2⟩ := t.rk
  exact up_one t r1 r2 (r p + 1) [] p hh (Nat.lt_succ_self _) (fun q hq => by simp [memI] at hq)

theorem newT_tt : TT newT where
  w := newT_w
  op := by decide
  one := by decide
  top := by decide
  par := fun p hp => by
    have hr := has_lt hp
    rcases eight hr.1 hr.2 with rfl | rfl | rfl | rfl | rfl | rfl | rfl | rfl <;> first | rfl | (exact absurd hp (by decide))
  rk := ⟨fun _ => 0, rfl, fun p hp h1 => by
    have hr := has_lt hp
    rcases eight hr.1 hr.2 with rfl | rfl | rfl | rfl | rfl | rfl | rfl | rfl <;> first | (exact absurd rfl h1) | (exact absurd hp (by decide))⟩
end Go.Proofs.Ytgheplpbffanoaa
