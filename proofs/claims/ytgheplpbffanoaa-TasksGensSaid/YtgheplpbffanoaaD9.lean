import Derived.Test.YtgheplpbffanoaaD8
set_option linter.unusedVariables false
set_option linter.unusedSimpArgs false
namespace Go.Proofs.Ytgheplpbffanoaa
open Go.Hl
attribute [local irreducible] loadF zc sizeP bytesP vcBody

/- The tables stay tables. -/
theorem tk_set_ne {T : List Task} {p q : Int} (h0 : 0 ≤ p) (q0 : 0 ≤ q) (hne : q ≠ p) (x : Task) : tk (T.set p.toNat x) q = tk T q := by
  unfold tk
  rw [List.getD_eq_getElem?_getD, List.getD_eq_getElem?_getD, List.getElem?_set_ne (by omega)]
theorem TW.set {T : List Task} (w : TW T) {p : Int} (h1 : 1 ≤ p) (h9 : p < 9) {x : Task} (hx : x.pid = p ∨ x = { Task.z with gen := x.gen }) : TW (T.set p.toNat x) where
  len := by rw [List.length_set]; exact w.len
  zero := by rw [tk_set_ne (by omega) (by omega) (by omega)]; exact w.zero
  pid := fun q q1 q9 => by
    by_cases e : q = p
    · subst e
      rw [tk_set w.len q9 (by omega)]
      rcases hx with hx | hx
      · exact .inr hx
      · left; rw [hx]; rfl
    · rw [tk_set_ne (by omega) (by omega) e]; exact w.pid q q1 q9
  free := fun q q1 q9 hq => by
    by_cases e : q = p
    · subst e
      rw [tk_set w.len q9 (by omega)] at hq ⊢
      rcases hx with hx | hx
      · omega
      · exact hx
    · rw [tk_set_ne (by omega) (by omega) e] at hq ⊢; exact w.free q q1 q9 hq
theorem tk_map {T : List Task} (hl : T.length = 9) {q : Int} (h0 : 0 ≤ q) (h9 : q < 9) (f : Task → Task) : tk (T.map f) q = f (tk T q) := by
  rw [tk_eq (by simpa using hl) h9 h0, tk_eq hl h9 h0]; simp
theorem TW.alive {T : List Task} (w : TW T) {p : Int} (ha : aliveB T p = true) : 1 ≤ p ∧ p < 9 ∧ (tk T p).pid = p := by
  have : hasB T p = true := by simp [aliveB] at ha; exact ha.1
  exact w.has this
theorem newT_w : TW newT where
  len := rfl
  zero := rfl
  pid := fun p h1 h9 => by
    have : p = 1 ∨ p = 2 ∨ p = 3 ∨ p = 4 ∨ p = 5 ∨ p = 6 ∨ p = 7 ∨ p = 8 := by omega
    rcases this with rfl | rfl | rfl | rfl | rfl | rfl | rfl | rfl <;> decide
  free := fun p h1 h9 hq => by
    have : p = 1 ∨ p = 2 ∨ p = 3 ∨ p = 4 ∨ p = 5 ∨ p = 6 ∨ p = 7 ∨ p = 8 := by omega
    rcases this with rfl | rfl | rfl | rfl | rfl | rfl | rfl | rfl <;> first | rfl | (exact absurd hq (by decide))
theorem fork_w {T : List Task} (w : TW T) (pid : Int) : TW (fork T pid).1 := by
  unfold fork
  split
  · exact w
  · split
    · exact w
    · split
      · exact w
      · rename_i hn _
        have := next_range T
        exact w.set (by omega) (by omega) (.inl rfl)
theorem exit_w {T : List Task} (w : TW T) (pid code : Int) : TW (exitF T pid code).1 := by
  unfold exitF
  split
  · exact w
  · split
    · exact w
    · rename_i ha _
      have ha' : aliveB T pid = true := by simpa using ha
      obtain ⟨h1, h9, hp⟩ := w.alive ha'
      have w2 : TW (T.set pid.toNat (gone (tk T pid) code)) := w.set h1 h9 (.inl hp)
      constructor
      · simpa using w.len
      · rw [tk_map w2.len (by omega) (by omega), w2.zero, fix_z pid h1]
      · intro q q1 q9
        rw [tk_map w2.len (by omega) q9]; exact w2.pid q q1 q9
      · intro q q1 q9 hq
        rw [tk_map w2.len (by omega) q9] at hq ⊢
        have hf := w2.free q q1 q9 hq
        have h0 : ¬ (0 : Int) = pid := by omega
        rw [hf]
        simp [fixT, Task.z, h0]
theorem waitFrom_mem {pid : Int} : ∀ {l : List Task} {e : Int} {x : Task} {e' : Int}, waitFrom pid l e = (some x, e') → x ∈ l
  | [], _, _, _, h => by simp [waitFrom] at h
  | y :: r, e, x, e', h => by
    unfold waitFrom at h
    split at h
    · exact List.mem_cons_of_mem _ (waitFrom_mem h)
    · split at h
      · simp at h; rw [h.1]; exact List.mem_cons_self
      · exact List.mem_cons_of_mem _ (waitFrom_mem h)
theorem wait_w {T : List Task} (w : TW T) (pid : Int) : TW (waitF T pid).1 := by
  unfold waitF
  split
  · exact w
  · split
    · rename_i x e he
      obtain ⟨h1, h9, _⟩ := all_pid w.wf (waitFrom_mem he)
      exact w.set h1 h9 (.inr rfl)
    · exact w
theorem onF_w {T : List Task} (w : TW T) (pid : Int) {f : Task → Task} (hf : ∀ x, (f x).pid = x.pid) : TW (onF T pid f).1 := by
  unfold onF
  split
  · rename_i ha
    obtain ⟨h1, h9, hp⟩ := w.alive ha
    exact w.set h1 h9 (.inl (by rw [hf]; exact hp))
  · exact w
theorem setFile_pid (x : Task) (k : Int) (f : File) : (setFile x k f).pid = x.pid := by unfold setFile; (repeat' split) <;> rfl
theorem setArea_pid (x : Task) (k : Int) (f : Area) : (setArea x k f).pid = x.pid := by unfold setArea; (repeat' split) <;> rfl
theorem set_w {T : List Task} (w : TW T) {pid : Int} (ha : aliveB T pid = true) {x : Task} (hx : x.pid = (tk T pid).pid) : TW (T.set pid.toNat x) := by
  obtain ⟨h1, h9, hp⟩ := w.alive ha
  exact w.set h1 h9 (.inl (hx.trans hp))
theorem put_w {T : List Task} (w : TW T) (pid : Int) (f : File) : TW (putF T pid f).1 := by
  unfold putF
  split
  · rename_i ha
    split
    · exact w
    · split
      · exact w
      · exact set_w w ha (setFile_pid _ _ _)
  · exact w
theorem close_w {T : List Task} (w : TW T) (pid fd : Int) : TW (closeF T pid fd).1 := by
  unfold closeF; split
  · rename_i e; exact set_w w (fdE_ok e).1 (setFile_pid _ _ _)
  · exact w
theorem seek_w {T : List Task} (w : TW T) (pid fd off : Int) : TW (seekF T pid fd off).1 := by
  unfold seekF; split
  · rename_i e; exact set_w w (fdE_ok e).1 (setFile_pid _ _ _)
  · exact w
theorem dup_w {T : List Task} (w : TW T) (pid fd : Int) : TW (dupF T pid fd).1 := by
  unfold dupF; split
  · exact put_w w _ _
  · exact w
theorem map_w {T : List Task} (w : TW T) (pid : Int) (a : Area) : TW (mapF T pid a).1 := by
  unfold mapF
  split
  · rename_i ha
    split
    · exact w
    · exact set_w w ha (setArea_pid _ _ _)
  · exact w
theorem setArea_w {T : List Task} (w : TW T) (pid k : Int) (a : Area) : TW (setAreaF T pid k a).1 := by
  unfold setAreaF; split
  · rename_i e; exact set_w w (areaE_ok e).1 (setArea_pid _ _ _)
  · exact w
theorem sig_w {T : List Task} (w : TW T) (pid sig : Int) : TW (sigF T pid sig).1 := by
  unfold sigF; split
  · rename_i ha
    split
    · exact w
    · exact set_w w ha rfl
  · exact w
theorem prot_set (T : List Task) (pid k p : Int) : protF T pid k p = setAreaF T pid k { (areaF T pid k).1 with prot := p } := by
  unfold protF setAreaF areaF; split <;> rfl
theorem unmap_set (T : List Task) (pid k : Int) : unmapF T pid k = setAreaF T pid k .z := rfl

structure Op where
  kind : Int
  p : Int
  a : Int
  b : Int
  x : Area
def Op.enc (o : Op) : List Value := [.int .u8 o.kind, .int .i64 o.p, .int .i64 o.a, .int .i64 o.b] ++ o.x.enc
theorem Op.len (o : Op) : o.enc.length = 9 := rfl
/-- What an op makes of a table. -/
def doF (T : List Task) (o : Op) : List Task :=
  if o.kind.tmod 15 = 0 then (fork T o.p).1 else if o.kind.tmod 15 = 1 then (exitF T o.p o.a).1 else if o.kind.tmod 15 = 2 then (waitF T o.p).1
  else if o.kind.tmod 15 = 3 then (putF T o.p ⟨o.a, o.b, 0⟩).1 else if o.kind.tmod 15 = 4 then (closeF T o.p o.a).1 else if o.kind.tmod 15 = 5 then (seekF T o.p o.a o.b).1
  else if o.kind.tmod 15 = 6 then (dupF T o.p o.a).1 else if o.kind.tmod 15 = 7 then (mapF T o.p o.x).1 else if o.kind.tmod 15 = 8 then (protF T o.p o.a o.b).1
  else if o.kind.tmod 15 = 9 then (unmapF T o.p o.a).1 else if o.kind.tmod 15 = 10 then (onF T o.p fun x => { x with uid := o.a, gid := o.b }).1
  else if o.kind.tmod 15 = 11 then (onF T o.p fun x => { x with cwd := o.a }).1 else if o.kind.tmod 15 = 12 then (onF T o.p fun x => noAreas { x with exe := o.a }).1
  else if o.kind.tmod 15 = 13 then (sigF T o.p o.a).1 else (onF T o.p fun x => { x with tracer := o.a }).1
theorem tw_ite {c : Prop} [Decidable c] {a b : List Task} (ha : TW a) (hb : TW b) : TW (if c then a else b) := by
  by_cases h : c
  · rw [if_pos h]; exact ha
  · rw [if_neg h]; exact hb
theorem doF_w {T : List Task} (w : TW T) (o : Op) : TW (doF T o) := by
  unfold doF
  refine tw_ite (fork_w w _) (tw_ite (exit_w w _ _) (tw_ite (wait_w w _) (tw_ite (put_w w _ _) (tw_ite (close_w w _ _) (tw_ite (seek_w w _ _ _) (tw_ite (dup_w w _ _) (tw_ite (map_w w _ _) (tw_ite ?_ (tw_ite (setArea_w w _ _ _) (tw_ite (onF_w w _ ?_) (tw_ite (onF_w w _ ?_) (tw_ite (onF_w w _ ?_) (tw_ite (sig_w w _ _) (onF_w w _ ?_))))))))))))))
  · rw [prot_set]; exact setArea_w w _ _ _
  all_goals intro x; rfl
end Go.Proofs.Ytgheplpbffanoaa
