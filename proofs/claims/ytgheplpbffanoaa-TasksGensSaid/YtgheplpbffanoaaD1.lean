import Derived.Test.YtgheplpbffanoaaC6
import Derived.Test.YtgheplpbffanoaaHl17
set_option linter.unusedVariables false
set_option linter.unusedSimpArgs false
namespace Go.Proofs.Ytgheplpbffanoaa
open Go.Hl
attribute [local irreducible] loadF zc sizeP bytesP vcBody

theorem alive_range {T : List Task} {pid : Int} (h : aliveB T pid = true) : 1 ≤ pid ∧ pid < 9 := by
  simp [aliveB, hasB] at h; omega

theorem st2 {H : Heap} {b : Nat} {T : List Task} {x : Task} (hl : T.length = 9) {pid : Int} (h0 : 0 ≤ pid) (h1 : pid < 9) (k : Nat) {v : Value} (x' : Task) (hk : k < 49) (hx : x'.enc = x.enc.set k v) (h1' : v.oneCell' = true) {p : Pr}
    (hp : p (H.set b (.row (encT (T.set pid.toNat x')) 441))) : pSt ⟨b, pid.toNat * 49 + k, none⟩ v p (H.set b (.row (encT (T.set pid.toNat x)) 441)) := by
  have t : Tab (H.set b (.row (encT (T.set pid.toNat x)) 441)) b (T.set pid.toNat x) := ⟨Heap.set_same _ _ _, by simpa using hl⟩
  refine tab_st t h0 h1 k v x' hk (by rw [tk_set hl h1 h0]; exact hx) h1' ?_
  rw [Heap.set_set, set_set_same]; exact hp
theorem stA2 {H : Heap} {b : Nat} {T : List Task} {x : Task} (hl : T.length = 9) {pid : Int} (h0 : 0 ≤ pid) (h1 : pid < 9) (k : Nat) {vs : List Value} (x' : Task) (hk : k + vs.length ≤ 49) (hx : x'.enc = splice x.enc k vs) (h1' : oneCells vs) {n : Nat} (hn : vs.length = n) {p : Pr}
    (hp : p (H.set b (.row (encT (T.set pid.toNat x')) 441))) : pStA n ⟨b, pid.toNat * 49 + k, none⟩ vs p (H.set b (.row (encT (T.set pid.toNat x)) 441)) := by
  have t : Tab (H.set b (.row (encT (T.set pid.toNat x)) 441)) b (T.set pid.toNat x) := ⟨Heap.set_same _ _ _, by simpa using hl⟩
  refine tab_set t h0 h1 k vs x' hk (by rw [tk_set hl h1 h0]; exact hx) h1' hn ?_
  rw [Heap.set_set, set_set_same]; exact hp
theorem tab_ld {h : Heap} {b : Nat} {T : List Task} (t : Tab h b T) {pid : Int} (h0 : 0 ≤ pid) (h1 : pid < 9) {k : Nat} {s : Shape} {x : s.T} (hx : (tk T pid).enc[k]? = some (s.inj x)) {kk : s.T → Pr} (hk : kk x h) : pLd s ⟨b, pid.toNat * 49 + k, none⟩ kk h := by
  refine pLd_i x ?_ hk
  rcases Nat.lt_or_ge k 49 with h2 | h2
  · rw [tab_cell t h0 h1 h2]; exact hx
  · rw [List.getElem?_eq_none (by rw [Task.len]; exact h2)] at hx; cases hx
theorem tab_ld0 {h : Heap} {b : Nat} {T : List Task} (t : Tab h b T) {pid : Int} (h0 : 0 ≤ pid) (h1 : pid < 9) {kk : Int → Pr} (hk : kk (tk T pid).pid h) : pLd (.int .i64) ⟨b, pid.toNat * 49, none⟩ kk h :=
  tab_ld (k := 0) t h0 h1 rfl hk
theorem tab_ldA {h : Heap} {b : Nat} {T : List Task} (t : Tab h b T) {pid : Int} (h0 : 0 ≤ pid) (h1 : pid < 9) {k n : Nat} {xs : List Value} (hx : cut (tk T pid).enc k n = some xs) {kk : List Value → Pr} (hk : kk xs h) : pLdA n ⟨b, pid.toNat * 49 + k, none⟩ kk h := by
  have hv := tab_vals t h0 h1
  have := vals_sub hv (k := k) (m := n) (by have := (cut_some hx).2.1; rw [Task.len] at this; exact this)
  rw [add_mk] at this
  exact pLdA_i (this.trans hx) hk

/- Files and areas of a task, by their numbers. -/
def fileAt (t : Task) (k : Int) : File := (files t).getD k.toNat .z
def setFile (t : Task) (k : Int) (f : File) : Task :=
  if k = 0 then { t with f0 := f } else if k = 1 then { t with f1 := f } else if k = 2 then { t with f2 := f } else if k = 3 then { t with f3 := f } else if k = 4 then { t with f4 := f } else { t with f5 := f }
def areaAt (t : Task) (k : Int) : Area := (areas t).getD k.toNat .z
def setArea (t : Task) (k : Int) (a : Area) : Task :=
  if k = 0 then { t with a0 := a } else if k = 1 then { t with a1 := a } else if k = 2 then { t with a2 := a } else { t with a3 := a }
theorem six {k : Int} (h0 : 0 ≤ k) (h1 : k < 6) : k = 0 ∨ k = 1 ∨ k = 2 ∨ k = 3 ∨ k = 4 ∨ k = 5 := by omega
theorem four {k : Int} (h0 : 0 ≤ k) (h1 : k < 4) : k = 0 ∨ k = 1 ∨ k = 2 ∨ k = 3 := by omega
theorem file_cut (t : Task) {k : Int} (h0 : 0 ≤ k) (h1 : k < 6) : cut t.enc (11 + k.toNat * 3) 3 = some (fileAt t k).enc := by
  rcases six h0 h1 with rfl | rfl | rfl | rfl | rfl | rfl <;> rfl
theorem file_put (t : Task) {k : Int} (h0 : 0 ≤ k) (h1 : k < 6) (f : File) : (setFile t k f).enc = splice t.enc (11 + k.toNat * 3) f.enc := by
  rcases six h0 h1 with rfl | rfl | rfl | rfl | rfl | rfl <;> rfl
theorem area_cut (t : Task) {k : Int} (h0 : 0 ≤ k) (h1 : k < 4) : cut t.enc (29 + k.toNat * 5) 5 = some (areaAt t k).enc := by
  rcases four h0 h1 with rfl | rfl | rfl | rfl <;> rfl
theorem area_put (t : Task) {k : Int} (h0 : 0 ≤ k) (h1 : k < 4) (a : Area) : (setArea t k a).enc = splice t.enc (29 + k.toNat * 5) a.enc := by
  rcases four h0 h1 with rfl | rfl | rfl | rfl <;> rfl
theorem area_eq (f g : Area) : eqCells f.enc g.enc = decide (f = g) := by
  cases f; cases g; simp [eqCells, eqv, Area.enc]
  rw [Bool.eq_iff_iff]; simp
theorem zc_area : zc Try.prog 36 = Area.z.enc := by kernel_rfl
theorem zc_area0 : lay (zc Try.prog 36) [] = Area.z.enc := by rw [lay_nil, zc_area]
theorem zc_alen : (zc Try.prog 36).length = 5 := by rw [zc_area]; rfl
theorem zc_int : zc Try.prog 3 = [.int .i64 0] := by kernel_rfl

/- on: an alive task by a call. -/
theorem on_ok {h : Heap} {b : Nat} {T : List Task} (t : Tab h b T) (pid : Int) {f : Value} {KP K : Value → Pr}
    (k0 : aliveB T pid = false → K (.int .i64 3) h)
    (k1 : aliveB T pid = true → 1 ≤ pid → pid < 9 → WpVal Try.prog f [.pointer (some ⟨b, pid.toNat * 49, none⟩)] KP (fun v h' => ∃ x : Int, v = .int .i64 x ∧ K (.int .i64 x) h') h) :
    WpCall Try.prog 66 #[.pointer (some ⟨b, 0, none⟩), .int .i64 pid, f] KP K h := by
  refine tasks_Table_on_call _ _ _ ?_
  unfold tasks_Table_on
  refine alive_ok t pid ⟨_, rfl, ?_⟩
  by_cases ha : aliveB T pid = true
  · have hr := alive_range ha
    rw [if_pos ha]
    refine pIf_f rfl ?_
    refine WpVal.mono (k1 ha hr.1 hr.2) ?_ (fun v h' => fgt_mk)
    rintro v h' ⟨x, rfl, k⟩
    exact ⟨x, rfl, fgt_mk k⟩
  · have ha' : aliveB T pid = false := by simpa using ha
    rw [ha']
    exact pIf_t rfl (fgt_mk (k0 ha'))

/-- A deed on an alive task that says OK. -/
def onF (T : List Task) (pid : Int) (f : Task → Task) : List Task × Int := if aliveB T pid = true then (T.set pid.toNat (f (tk T pid)), 0) else (T, 3)
abbrev TabTo (h : Heap) (b : Nat) (T : List Task) : Heap := h.set b (.row (encT T) 441)
theorem Tab.same {h : Heap} {b : Nat} {T : List Task} (t : Tab h b T) : h.set b (.row (encT T) 441) = h := Heap.set_self _ t.blk

theorem own_ok {h : Heap} {b : Nat} {T : List Task} (t : Tab h b T) (pid u g : Int) {KP K : Value → Pr}
    (k : K (.int .i64 (onF T pid fun x => { x with uid := u, gid := g }).2) (TabTo h b (onF T pid fun x => { x with uid := u, gid := g }).1)) : WpCall Try.prog 44 #[.pointer (some ⟨b, 0, none⟩), .int .i64 pid, .int .i64 u, .int .i64 g] KP K h := by
  refine tasks_Table_Own_call _ _ _ _ ?_
  unfold tasks_Table_Own
  have hB := t.blk
  (intro b1 hb1; try simp only [Heap.set_none] at hb1)
  (intro b2 hb2; try simp only [Heap.set_none] at hb2)
  have t' : Tab ((h.set b1 (.row [.int .i64 u] 1)).set b2 (.row [.int .i64 g] 1)) b T := ⟨by (repeat (first | exact Heap.set_same _ _ _ | assumption | refine Heap.look_ne (by (first | assumption | exact Ne.symm (by assumption) | grind)) ?_)), t.len⟩
  refine on_ok t' pid ?_ ?_
  · intro ha
    refine ⟨(3 : Int), rfl, fgt_here (g := TabTo h b T) ?_ (by simpa [onF, ha] using k)⟩
    rw [show TabTo h b T = h from t.same]; (intro i x hx; grind (splits := 30) [Heap.set])
  · intro ha h1 h9
    refine WpVal.of_func (tasks_Table_Own_1_call _ _ _ ?_)
    unfold tasks_Table_Own_1
    simp only [add_mk, Nat.zero_add, Nat.add_zero, pSome_some]
    (apply ld_b; (· (repeat (first | exact Heap.set_same _ _ _ | assumption | refine Heap.look_ne (by (first | assumption | exact Ne.symm (by assumption) | grind)) ?_))); (· rfl))
    (apply ld_b; (· (repeat (first | exact Heap.set_same _ _ _ | assumption | refine Heap.look_ne (by (first | assumption | exact Ne.symm (by assumption) | grind)) ?_))); (· rfl))
    refine tab_st t' (by omega) h9 3 _ { tk T pid with uid := u } (by omega) (by rfl) rfl ?_
    refine keep_cell (.int .i64) sh3 (by decide) (by (repeat (first | exact Heap.set_same _ _ _ | assumption | refine Heap.look_ne (by (first | assumption | exact Ne.symm (by assumption) | grind)) ?_))) rfl ?_
    refine st2 t.len (by omega) h9 4 { tk T pid with uid := u, gid := g } (by omega) (by rfl) rfl ?_
    refine fgt_mk ⟨0, rfl, (0 : Int), rfl, ?_⟩
    refine fgt_here (g := TabTo h b (T.set pid.toNat { tk T pid with uid := u, gid := g })) ?_ (by simpa [onF, ha] using k)
    unfold TabTo; (intro i x hx; grind (splits := 30) [Heap.set])

theorem chdir_ok {h : Heap} {b : Nat} {T : List Task} (t : Tab h b T) (pid u : Int) {KP K : Value → Pr}
    (k : K (.int .i64 (onF T pid fun x => { x with cwd := u }).2) (TabTo h b (onF T pid fun x => { x with cwd := u }).1)) : WpCall Try.prog 45 #[.pointer (some ⟨b, 0, none⟩), .int .i64 pid, .int .i64 u] KP K h := by
  refine tasks_Table_Chdir_call _ _ _ ?_
  unfold tasks_Table_Chdir
  have hB := t.blk
  (intro b1 hb1; try simp only [Heap.set_none] at hb1)
  have t' : Tab (h.set b1 (.row [.int .i64 u] 1)) b T := ⟨by (repeat (first | exact Heap.set_same _ _ _ | assumption | refine Heap.look_ne (by (first | assumption | exact Ne.symm (by assumption) | grind)) ?_)), t.len⟩
  refine on_ok t' pid ?_ ?_
  · (intro ha; refine ⟨(3 : Int), rfl, fgt_here (g := TabTo h b T) ?_ (by simpa [onF, ha] using k)⟩; rw [show TabTo h b T = h from t.same]; (intro i x hx; grind (splits := 30) [Heap.set]))
  · intro ha h1 h9
    refine WpVal.of_func (tasks_Table_Chdir_1_call _ _ ?_)
    unfold tasks_Table_Chdir_1
    simp only [add_mk, Nat.zero_add, Nat.add_zero, pSome_some]
    (apply ld_b; (· (repeat (first | exact Heap.set_same _ _ _ | assumption | refine Heap.look_ne (by (first | assumption | exact Ne.symm (by assumption) | grind)) ?_))); (· rfl))
    refine tab_st t' (by omega) h9 5 _ { tk T pid with cwd := u } (by omega) (by rfl) rfl ?_
    (refine fgt_mk ⟨0, rfl, (0 : Int), rfl, ?_⟩; refine fgt_here (g := TabTo h b (T.set pid.toNat ({ tk T pid with cwd := u }))) ?_ (by simpa [onF, ha] using k); unfold TabTo; (intro i x hx; grind (splits := 30) [Heap.set]))
theorem trace_ok {h : Heap} {b : Nat} {T : List Task} (t : Tab h b T) (pid u : Int) {KP K : Value → Pr}
    (k : K (.int .i64 (onF T pid fun x => { x with tracer := u }).2) (TabTo h b (onF T pid fun x => { x with tracer := u }).1)) : WpCall Try.prog 48 #[.pointer (some ⟨b, 0, none⟩), .int .i64 pid, .int .i64 u] KP K h := by
  refine tasks_Table_Trace_call _ _ _ ?_
  unfold tasks_Table_Trace
  have hB := t.blk
  (intro b1 hb1; try simp only [Heap.set_none] at hb1)
  have t' : Tab (h.set b1 (.row [.int .i64 u] 1)) b T := ⟨by (repeat (first | exact Heap.set_same _ _ _ | assumption | refine Heap.look_ne (by (first | assumption | exact Ne.symm (by assumption) | grind)) ?_)), t.len⟩
  refine on_ok t' pid ?_ ?_
  · (intro ha; refine ⟨(3 : Int), rfl, fgt_here (g := TabTo h b T) ?_ (by simpa [onF, ha] using k)⟩; rw [show TabTo h b T = h from t.same]; (intro i x hx; grind (splits := 30) [Heap.set]))
  · intro ha h1 h9
    refine WpVal.of_func (tasks_Table_Trace_1_call _ _ ?_)
    unfold tasks_Table_Trace_1
    simp only [add_mk, Nat.zero_add, Nat.add_zero, pSome_some]
    (apply ld_b; (· (repeat (first | exact Heap.set_same _ _ _ | assumption | refine Heap.look_ne (by (first | assumption | exact Ne.symm (by assumption) | grind)) ?_))); (· rfl))
    refine tab_st t' (by omega) h9 7 _ { tk T pid with tracer := u } (by omega) (by rfl) rfl ?_
    (refine fgt_mk ⟨0, rfl, (0 : Int), rfl, ?_⟩; refine fgt_here (g := TabTo h b (T.set pid.toNat ({ tk T pid with tracer := u }))) ?_ (by simpa [onF, ha] using k); unfold TabTo; (intro i x hx; grind (splits := 30) [Heap.set]))
def noAreas (x : Task) : Task := { x with a0 := .z, a1 := .z, a2 := .z, a3 := .z }
theorem exec_ok {h : Heap} {b : Nat} {T : List Task} (t : Tab h b T) (pid u : Int) {KP K : Value → Pr}
    (k : K (.int .i64 (onF T pid fun x => noAreas { x with exe := u }).2) (TabTo h b (onF T pid fun x => noAreas { x with exe := u }).1)) : WpCall Try.prog 46 #[.pointer (some ⟨b, 0, none⟩), .int .i64 pid, .int .i64 u] KP K h := by
  refine tasks_Table_Exec_call _ _ _ ?_
  unfold tasks_Table_Exec
  have hB := t.blk
  (intro b1 hb1; try simp only [Heap.set_none] at hb1)
  have t' : Tab (h.set b1 (.row [.int .i64 u] 1)) b T := ⟨by (repeat (first | exact Heap.set_same _ _ _ | assumption | refine Heap.look_ne (by (first | assumption | exact Ne.symm (by assumption) | grind)) ?_)), t.len⟩
  refine on_ok t' pid ?_ ?_
  · (intro ha; refine ⟨(3 : Int), rfl, fgt_here (g := TabTo h b T) ?_ (by simpa [onF, ha] using k)⟩; rw [show TabTo h b T = h from t.same]; (intro i x hx; grind (splits := 30) [Heap.set]))
  · intro ha h1 h9
    refine WpVal.of_func (tasks_Table_Exec_1_call _ _ ?_)
    unfold tasks_Table_Exec_1
    simp only [add_mk, Nat.zero_add, Nat.add_zero, pSome_some]
    (apply ld_b; (· (repeat (first | exact Heap.set_same _ _ _ | assumption | refine Heap.look_ne (by (first | assumption | exact Ne.symm (by assumption) | grind)) ?_))); (· rfl))
    refine tab_st t' (by omega) h9 6 _ { tk T pid with exe := u } (by omega) (by rfl) rfl ?_
    rw [zc_areas]
    refine stA2 t.len (by omega) h9 29 (noAreas { tk T pid with exe := u }) (by decide) (by rfl) (areas_one _) (by decide) ?_
    (refine fgt_mk ⟨0, rfl, (0 : Int), rfl, ?_⟩; refine fgt_here (g := TabTo h b (T.set pid.toNat (noAreas { tk T pid with exe := u }))) ?_ (by simpa [onF, ha] using k); unfold TabTo; (intro i x hx; grind (splits := 30) [Heap.set]))
def sigBit (n : Int) : Int := IntKind.u64.wrap (1 * 2 ^ (min n.toNat 64))
def sigF (T : List Task) (pid sig : Int) : List Task × Int :=
  if aliveB T pid = true then if sig < 0 ∨ sig > 63 then (T, 22) else (T.set pid.toNat { tk T pid with sigs := bitsV .or .u64 (tk T pid).sigs (sigBit sig) }, 0) else (T, 3)
theorem signal_ok {h : Heap} {b : Nat} {T : List Task} (t : Tab h b T) (pid u : Int) {KP K : Value → Pr}
    (k : K (.int .i64 (sigF T pid u).2) (TabTo h b (sigF T pid u).1)) : WpCall Try.prog 47 #[.pointer (some ⟨b, 0, none⟩), .int .i64 pid, .int .i64 u] KP K h := by
  refine tasks_Table_Signal_call _ _ _ ?_
  unfold tasks_Table_Signal
  have hB := t.blk
  (intro b1 hb1; try simp only [Heap.set_none] at hb1)
  have t' : Tab (h.set b1 (.row [.int .i64 u] 1)) b T := ⟨by (repeat (first | exact Heap.set_same _ _ _ | assumption | refine Heap.look_ne (by (first | assumption | exact Ne.symm (by assumption) | grind)) ?_)), t.len⟩
  refine on_ok t' pid ?_ ?_
  · intro ha
    refine ⟨(3 : Int), rfl, fgt_here (g := TabTo h b T) ?_ (by simpa [sigF, ha] using k)⟩
    rw [show TabTo h b T = h from t.same]; (intro i x hx; grind (splits := 30) [Heap.set])
  · intro ha h1 h9
    refine WpVal.of_func (tasks_Table_Signal_1_call _ _ ?_)
    unfold tasks_Table_Signal_1 tasks_Table_Signal_1_j1 pJoin
    simp only [add_mk, Nat.zero_add, Nat.add_zero, pSome_some]
    have bad : (u < 0 ∨ u > 63) → fgt (fun v h' => ∃ x : Int, v = .int .i64 x ∧ ∃ y : Int, (Value.int .i64 x) = (RShape.one (.int .i64)).inj y ∧ fgt K (.int .i64 y) h') (.int .i64 22) (h.set b1 (.row [.int .i64 u] 1)) := fun hu => by
      refine fgt_mk ⟨22, rfl, (22 : Int), rfl, ?_⟩
      refine fgt_here (g := TabTo h b T) ?_ (by simpa [sigF, ha, hu] using k)
      rw [show TabTo h b T = h from t.same]; (intro i x hx; grind (splits := 30) [Heap.set])
    (apply ld_b; (· (repeat (first | exact Heap.set_same _ _ _ | assumption | refine Heap.look_ne (by (first | assumption | exact Ne.symm (by assumption) | grind)) ?_))); (· rfl))
    refine pIf_i (fun hz => ?_) (fun hz => ?_)
    · exact pIf_t rfl (bad (.inl (by simpa using hz)))
    · have hz1 : ¬ u < 0 := by simpa using hz
      (apply ld_b; (· (repeat (first | exact Heap.set_same _ _ _ | assumption | refine Heap.look_ne (by (first | assumption | exact Ne.symm (by assumption) | grind)) ?_))); (· rfl))
      refine pIf_i (fun hz => ?_) (fun hz => ?_)
      · exact bad (.inr (by simpa using hz))
      · have hz2 : ¬ u > 63 := by simpa using hz
        refine tab_ld t' (by omega) h9 (k := 10) rfl ?_
        (apply ld_b; (· (repeat (first | exact Heap.set_same _ _ _ | assumption | refine Heap.look_ne (by (first | assumption | exact Ne.symm (by assumption) | grind)) ?_))); (· rfl))
        refine pAssert_i (by omega) ?_
        refine tab_st t' (by omega) h9 10 _ { tk T pid with sigs := bitsV .or .u64 (tk T pid).sigs (sigBit u) } (by omega) (by rfl) rfl ?_
        refine fgt_mk ⟨0, rfl, (0 : Int), rfl, ?_⟩
        refine fgt_here (g := TabTo h b (T.set pid.toNat { tk T pid with sigs := bitsV .or .u64 (tk T pid).sigs (sigBit u) })) ?_ (by simpa [sigF, ha, hz1, hz2] using k)
        unfold TabTo; (intro i x hx; grind (splits := 30) [Heap.set])

/- Descriptors. -/
def fdE (T : List Task) (pid fd : Int) : Int :=
  if aliveB T pid = true then if fd < 0 ∨ fd ≥ 6 ∨ fileAt (tk T pid) fd = .z then 9 else 0 else 3
theorem fdE_ok {T : List Task} {pid fd : Int} (h : fdE T pid fd = 0) : aliveB T pid = true ∧ 0 ≤ fd ∧ fd < 6 ∧ fileAt (tk T pid) fd ≠ .z := by
  unfold fdE at h
  split at h
  · rename_i ha
    split at h
    · omega
    · rename_i hn
      simp only [not_or] at hn
      exact ⟨ha, by omega, by omega, hn.2.2⟩
  · omega
theorem file_ok' {h : Heap} {b : Nat} {T : List Task} (t : Tab h b T) (pid fd : Int) {f : Value} (hf : f.oneCell' = true) {KP K : Value → Pr}
    (k0 : fdE T pid fd ≠ 0 → K (.int .i64 (fdE T pid fd)) h)
    (k1 : fdE T pid fd = 0 → ∀ H, Heap.le h H → (∀ c, H c = none → h c = none) → WpVal Try.prog f [.pointer (some ⟨b, pid.toNat * 49 + 11 + fd.toNat * 3, none⟩)] KP (fun v h' => v = .tuple #[] ∧ ∃ g, Heap.le g h' ∧ K (.int .i64 0) g) H) :
    WpCall Try.prog 62 #[.pointer (some ⟨b, 0, none⟩), .int .i64 pid, .int .i64 fd, f] KP K h := by
  refine tasks_Table_file_call _ _ _ _ ?_
  unfold tasks_Table_file
  have hB := t.blk
  (intro b1 hb1; try simp only [Heap.set_none] at hb1)
  refine pAssert_i hf ?_
  (intro b2 hb2; try simp only [Heap.set_none] at hb2)
  have t' : Tab ((h.set b1 (.row [.int .i64 fd] 1)).set b2 (.row [f] 1)) b T := ⟨by (repeat (first | exact Heap.set_same _ _ _ | assumption | refine Heap.look_ne (by (first | assumption | exact Ne.symm (by assumption) | grind)) ?_)), t.len⟩
  have hle : Heap.le h ((h.set b1 (.row [.int .i64 fd] 1)).set b2 (.row [f] 1)) := by (intro i x hx; grind (splits := 30) [Heap.set])
  refine on_ok t' pid ?_ ?_
  · intro ha
    exact ⟨(3 : Int), rfl, fgt_here hle (by simpa [fdE, ha] using k0)⟩
  · intro ha h1 h9
    refine WpVal.of_func (tasks_Table_file_1_call _ _ _ ?_)
    unfold tasks_Table_file_1 tasks_Table_file_1_j1 pJoin
    simp only [add_mk, Nat.zero_add, Nat.add_zero, pSome_some]
    have bad : (fd < 0 ∨ fd ≥ 6 ∨ fileAt (tk T pid) fd = .z) → fgt (fun v h' => ∃ x : Int, v = .int .i64 x ∧ ∃ y : Int, (Value.int .i64 x) = (RShape.one (.int .i64)).inj y ∧ fgt K (.int .i64 y) h') (.int .i64 9) ((h.set b1 (.row [.int .i64 fd] 1)).set b2 (.row [f] 1)) := fun hu =>
      fgt_mk ⟨9, rfl, (9 : Int), rfl, fgt_here hle (by simpa [fdE, ha, hu] using k0)⟩
    (apply ld_b; (· (repeat (first | exact Heap.set_same _ _ _ | assumption | refine Heap.look_ne (by (first | assumption | exact Ne.symm (by assumption) | grind)) ?_))); (· rfl))
    refine pIf_i (fun hz => ?_) (fun hz => ?_)
    · exact pIf_t rfl (bad (.inl (by simpa using hz)))
    · have hz1 : ¬ fd < 0 := by simpa using hz
      (apply ld_b; (· (repeat (first | exact Heap.set_same _ _ _ | assumption | refine Heap.look_ne (by (first | assumption | exact Ne.symm (by assumption) | grind)) ?_))); (· rfl))
      refine pIf_i (fun hz => ?_) (fun hz => ?_)
      · exact pIf_t rfl (bad (.inr (.inl (by simpa using hz))))
      · have hz2 : ¬ fd ≥ 6 := by simpa using hz
        (apply ld_b; (· (repeat (first | exact Heap.set_same _ _ _ | assumption | refine Heap.look_ne (by (first | assumption | exact Ne.symm (by assumption) | grind)) ?_))); (· rfl))
        refine pIdx_i (by omega) (by omega) ?_
        rw [Nat.add_assoc]
        refine tab_ldA t' (by omega) h9 (file_cut (tk T pid) (by omega) (by omega)) ?_
        rw [zc_file0]
        refine pAssert_i ⟨rfl, rfl⟩ ?_
        rw [file_eq]
        refine pIf_i (fun hz => ?_) (fun hz => ?_)
        · exact bad (.inr (.inr (by simpa using hz)))
        · have hz3 : ¬ fileAt (tk T pid) fd = .z := by simpa using hz
          have e0 : fdE T pid fd = 0 := by simp [fdE, ha]; exact ⟨by omega, by omega, hz3⟩
          (apply ld_b; (· (repeat (first | exact Heap.set_same _ _ _ | assumption | refine Heap.look_ne (by (first | assumption | exact Ne.symm (by assumption) | grind)) ?_))); (· rfl))
          (apply ld_b; (· (repeat (first | exact Heap.set_same _ _ _ | assumption | refine Heap.look_ne (by (first | assumption | exact Ne.symm (by assumption) | grind)) ?_))); (· rfl))
          refine pIdx_i (by omega) (by omega) ?_
          refine WpVal.mono (k1 e0 _ hle (by intro c hc; grind [Heap.set])) ?_ (fun v h' q => fgt_mk (fgt_mk q))
          rintro v h' ⟨rfl, g, hg, k⟩
          exact ⟨(), rfl, fgt_mk ⟨0, rfl, (0 : Int), rfl, fgt_here hg k⟩⟩

def closeF (T : List Task) (pid fd : Int) : List Task × Int := if fdE T pid fd = 0 then (T.set pid.toNat (setFile (tk T pid) fd .z), 0) else (T, fdE T pid fd)
theorem close_ok {h : Heap} {b : Nat} {T : List Task} (t : Tab h b T) (pid fd : Int) {KP K : Value → Pr}
    (k : K (.int .i64 (closeF T pid fd).2) (TabTo h b (closeF T pid fd).1)) : WpCall Try.prog 31 #[.pointer (some ⟨b, 0, none⟩), .int .i64 pid, .int .i64 fd] KP K h := by
  refine tasks_Table_Close_call _ _ _ ?_
  unfold tasks_Table_Close
  refine file_ok' t pid fd rfl ?_ ?_
  · intro e
    refine ⟨fdE T pid fd, rfl, fgt_mk ?_⟩
    have : closeF T pid fd = (T, fdE T pid fd) := by simp [closeF, e]
    rw [this] at k; unfold TabTo at k; rw [t.same] at k; exact k
  · intro e H hle _
    obtain ⟨ha, f0, f6, _⟩ := fdE_ok e
    have hr := alive_range ha
    refine WpVal.of_func (caps := []) (tasks_Table_Close_1_call _ ?_)
    unfold tasks_Table_Close_1
    simp only [add_mk, Nat.zero_add, Nat.add_zero, pSome_some]
    rw [zc_file0, Nat.add_assoc]
    refine tab_set (t.le hle) (by omega) hr.2 _ _ (setFile (tk T pid) fd .z) (by rw [File.len]; omega) (file_put _ f0 f6 _) (file_one _) (File.len _) ?_
    refine fgt_mk ⟨rfl, _, Heap.le_set_set hle _ _, (0 : Int), rfl, fgt_mk ?_⟩
    simpa [closeF, e] using k
def seekF (T : List Task) (pid fd off : Int) : List Task × Int := if fdE T pid fd = 0 then (T.set pid.toNat (setFile (tk T pid) fd { fileAt (tk T pid) fd with off := off }), 0) else (T, fdE T pid fd)
theorem seek_ok {h : Heap} {b : Nat} {T : List Task} (t : Tab h b T) (pid fd off : Int) {KP K : Value → Pr}
    (k : K (.int .i64 (seekF T pid fd off).2) (TabTo h b (seekF T pid fd off).1)) : WpCall Try.prog 33 #[.pointer (some ⟨b, 0, none⟩), .int .i64 pid, .int .i64 fd, .int .i64 off] KP K h := by
  refine tasks_Table_Seek_call _ _ _ _ ?_
  unfold tasks_Table_Seek
  have hB := t.blk
  (intro b1 hb1; try simp only [Heap.set_none] at hb1)
  have t' : Tab (h.set b1 (.row [.int .i64 off] 1)) b T := ⟨by (repeat (first | exact Heap.set_same _ _ _ | assumption | refine Heap.look_ne (by (first | assumption | exact Ne.symm (by assumption) | grind)) ?_)), t.len⟩
  refine file_ok' t' pid fd rfl ?_ ?_
  · intro e
    have : seekF T pid fd off = (T, fdE T pid fd) := by simp [seekF, e]
    rw [this] at k; unfold TabTo at k; rw [t.same] at k
    exact ⟨fdE T pid fd, rfl, fgt_here (by (intro i x hx; grind (splits := 30) [Heap.set])) k⟩
  · intro e H hle _
    obtain ⟨ha, f0, f6, _⟩ := fdE_ok e
    have hr := alive_range ha
    refine WpVal.of_func (tasks_Table_Seek_1_call _ _ ?_)
    unfold tasks_Table_Seek_1
    simp only [add_mk, Nat.zero_add, Nat.add_zero, pSome_some]
    refine ld_b (hle _ _ (Heap.set_same _ _ _)) rfl ?_
    have hlt := hr.2
    rw [show pid.toNat * 49 + 11 + fd.toNat * 3 + 2 = pid.toNat * 49 + (11 + fd.toNat * 3 + 2) by omega]
    refine tab_st (t'.le hle) (by omega) hr.2 _ _ (setFile (tk T pid) fd { fileAt (tk T pid) fd with off := off }) (by omega) (by rcases six f0 f6 with rfl | rfl | rfl | rfl | rfl | rfl <;> rfl) rfl ?_
    refine fgt_mk ⟨rfl, _, Heap.le_set_set hle _ _, (0 : Int), rfl, fgt_here (g := TabTo h b (seekF T pid fd off).1) ?_ ?_⟩
    · simp only [seekF, e, if_true, TabTo]; (intro i x hx; grind (splits := 30) [Heap.set])
    · have e2 : (seekF T pid fd off).2 = 0 := by simp [seekF, e]
      rw [e2] at k; exact k
def fileF (T : List Task) (pid fd : Int) : File × Int := if fdE T pid fd = 0 then (fileAt (tk T pid) fd, 0) else (.z, fdE T pid fd)
theorem fileGet_ok {h : Heap} {b : Nat} {T : List Task} (t : Tab h b T) (pid fd : Int) {KP K : Value → Pr}
    (k : K (.tuple #[.agg (fileF T pid fd).1.enc.toArray, .int .i64 (fileF T pid fd).2]) h) : WpCall Try.prog 56 #[.pointer (some ⟨b, 0, none⟩), .int .i64 pid, .int .i64 fd] KP K h := by
  refine tasks_Table_File_call _ _ _ ?_
  unfold tasks_Table_File
  have hB := t.blk
  (intro b1 hb1; try simp only [Heap.set_none] at hb1)
  (intro b2 hb2; try simp only [Heap.set_none] at hb2)
  rw [zc_file]
  have t' : Tab ((h.set b1 (.row File.z.enc File.z.enc.length)).set b2 (.row File.z.enc File.z.enc.length)) b T := ⟨by (repeat (first | exact Heap.set_same _ _ _ | assumption | refine Heap.look_ne (by (first | assumption | exact Ne.symm (by assumption) | grind)) ?_)), t.len⟩
  refine file_ok' t' pid fd rfl ?_ ?_
  · intro e
    have : fileF T pid fd = (.z, fdE T pid fd) := by simp [fileF, e]
    rw [this] at k
    refine ⟨fdE T pid fd, rfl, ?_⟩
    refine ldA_all (Heap.set_same _ _ _) rfl ?_
    refine stA_all (by (repeat (first | exact Heap.set_same _ _ _ | assumption | refine Heap.look_ne (by (first | assumption | exact Ne.symm (by assumption) | grind)) ?_))) rfl rfl (file_one _) ?_
    refine ldA_all (Heap.set_same _ _ _) rfl ?_
    refine fgt_here ?_ k
    (intro i x hx; grind (splits := 30) [Heap.set])
  · intro e H hle hnone
    obtain ⟨ha, f0, f6, _⟩ := fdE_ok e
    have hr := alive_range ha
    refine WpVal.of_func (tasks_Table_File_1_call _ _ ?_)
    unfold tasks_Table_File_1
    simp only [add_mk, Nat.zero_add, Nat.add_zero, pSome_some]
    rw [Nat.add_assoc]
    refine tab_ldA (t'.le hle) (by omega) hr.2 (file_cut (tk T pid) f0 f6) ?_
    have hb2 := hle _ _ (Heap.set_same _ _ _)
    refine stA_all hb2 rfl rfl (file_one _) ?_
    refine fgt_mk ⟨rfl, ((h.set b1 (.row File.z.enc 3)).set b2 (.row (fileAt (tk T pid) fd).enc 3)), ?_, (0 : Int), rfl, ?_⟩
    · have := Heap.le_set_set hle b2 (.row (fileAt (tk T pid) fd).enc File.z.enc.length)
      rw [Heap.set_set] at this; exact this
    have : fileF T pid fd = (fileAt (tk T pid) fd, 0) := by simp [fileF, e]
    rw [this] at k
    refine ldA_all (Heap.set_same _ _ _) rfl ?_
    refine stA_all (by (repeat (first | exact Heap.set_same _ _ _ | assumption | refine Heap.look_ne (by (first | assumption | exact Ne.symm (by assumption) | grind)) ?_))) rfl rfl (file_one _) ?_
    refine ldA_all (Heap.set_same _ _ _) rfl ?_
    refine fgt_here ?_ k
    (intro i x hx; grind (splits := 30) [Heap.set])
end Go.Proofs.Ytgheplpbffanoaa
