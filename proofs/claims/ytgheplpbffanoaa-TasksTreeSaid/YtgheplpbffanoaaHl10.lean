/- The heap logic: what 'vcIdx' and 'vcStep' say of the model's regions; environments. -/
import Derived.Test.YtgheplpbffanoaaHl9
namespace Go.Hl

structure EnvOk (env : Env) (a : Act) : Prop where
  size : env.length = a.tmps.size
  val : ∀ i v, (env.at i).get = some v → a.tmps[i]? = some v
  defs : a.defers = []

structure Keep (S : List Nat) (env env' : Env) : Prop where
  len : env'.length = env.length
  get : ∀ i, i ∉ S → (env'.at i).get = (env.at i).get

theorem Keep.refl (S : List Nat) (env : Env) : Keep S env env := ⟨rfl, fun _ _ => rfl⟩
theorem Keep.trans {S : List Nat} {a b c : Env} (h : Keep S a b) (k : Keep S b c) : Keep S a c := ⟨k.len.trans h.len, fun i hi => (k.get i hi).trans (h.get i hi)⟩
theorem Keep.mono {S T : List Nat} {a b : Env} (h : Keep S a b) (m : ∀ i, i ∈ S → i ∈ T) : Keep T a b := ⟨h.len, fun i hi => h.get i (fun k => hi (m i k))⟩

theorem at_set (env : Env) (d : Nat) (x : EV) (i : Nat) : Env.at (env.set d x) i = if d = i ∧ i < env.length then x else env.at i := by
  unfold Env.at
  simp only [List.getD_eq_getElem?_getD, List.getElem?_set]
  by_cases h : d = i
  · subst h
    by_cases hl : d < env.length
    · simp [hl]
    · simp [hl]
  · simp [h]

theorem EnvOk.fits {env : Env} {a : Act} (h : EnvOk env a) : Fits (evE env) a.eval := fun x v hx => by
  cases x with
  | tmp t =>
    have := h.val t v hx
    simp [Act.eval, this]
  | const c =>
    have : c = v := by
      cases c <;> try (simpa [evE, EV.get] using hx)
      rename_i b
      cases b <;> simpa [evE, EV.get] using hx
    simp [Act.eval, this]
  | global g => simp [evE, EV.get] at hx; simp [Act.eval, ← hx]
  | func f => simp [evE, EV.get] at hx; simp [Act.eval, ← hx]

theorem EnvOk.put {env : Env} {a : Act} (h : EnvOk env a) (dst : Option Tmp) (v : Value) : EnvOk (putE env dst (.val v)) (a.put dst v) := by
  cases dst with
  | none => exact h
  | some d =>
    refine ⟨by simp [putE, Act.put, h.size], fun i u hu => ?_, h.defs⟩
    simp only [putE] at hu
    rw [at_set] at hu
    by_cases hc : d = i ∧ i < env.length
    · rw [if_pos hc] at hu
      obtain ⟨rfl, hl⟩ := hc
      simp only [EV.get, Option.some.injEq] at hu
      subst hu
      rw [h.size] at hl
      simp [Act.put, hl]
    · rw [if_neg hc] at hu
      have := h.val i u hu
      by_cases hdi : d = i
      · subst hdi
        exfalso
        apply hc
        refine ⟨rfl, ?_⟩
        rw [h.size]
        rcases Nat.lt_or_ge d a.tmps.size with k | k
        · exact k
        · rw [Array.getElem?_eq_none k] at this; cases this
      · simp [Act.put, Array.getElem?_setIfInBounds_ne hdi, this]

theorem EnvOk.putEV {env : Env} {a : Act} (h : EnvOk env a) (dst : Option Tmp) {x : EV} {v : Value} (hx : x.get = some v) : EnvOk (putE env dst x) (a.put dst v) := by
  have hp := h.put dst v
  cases dst with
  | none => exact h
  | some d =>
    refine ⟨by have := hp.size; simpa [putE] using this, fun i u hu => hp.val i u ?_, h.defs⟩
    simp only [putE] at hu ⊢
    rw [at_set] at hu ⊢
    by_cases hc : d = i ∧ i < env.length
    · rw [if_pos hc] at hu ⊢; rw [hx] at hu; exact hu
    · rw [if_neg hc] at hu ⊢; exact hu

def upE (k : EV → Pr) : Value → Pr := fun v h => ∃ x : EV, x.get = some v ∧ k x h

theorem opE_pv {P : Program} {KP : Value → Pr} {o : Oper} {env : Env} {k : EV → Pr} {h : Heap} (hc : cls o.op = .pv) (s : vcOpE P KP o env k h) : SemP P o (evE env) (upE k) h := by
  have pass : ∀ (x : EV) (kk : EV → Pr), (match x with | .un => F | v => kk v) h → gv x (upE kk) h := fun x kk s => by
    cases x with
    | un => exact s.elim
    | sk => exact ⟨.sk, rfl, s⟩
    | tt => exact ⟨.tt, rfl, s⟩
    | ff => exact ⟨.ff, rfl, s⟩
    | val v => exact ⟨.val v, rfl, s⟩
  have up : vcOp P KP o (evE env) (fun v => k (.val v)) h → SemP P o (evE env) (upE k) h := fun s => by
    obtain ⟨v, hy, s⟩ := vcOp_pv hc s
    exact ⟨v, hy, .val v, rfl, s⟩
  unfold vcOpE at s
  cases ho : o.op <;> simp only [ho] at s <;> try exact up s
  · exact sem_move (.inl ho) (pass _ _ s)
  · exact sem_move (.inr ho) (pass _ _ s)
  · rename_i c a b
    cases hc' : evE env c with
    | tt => simp only [hc'] at s; exact sem_pick (a := a) (b := b) (c := c) ho (by rw [hc']; exact pass _ _ s)
    | ff => simp only [hc'] at s; exact sem_pick (a := a) (b := b) (c := c) ho (by rw [hc']; exact pass _ _ s)
    | un => simp only [hc'] at s; exact up s
    | sk => simp only [hc'] at s; exact up s
    | val v => simp only [hc'] at s; exact up s

theorem opE_not {P : Program} {KP : Value → Pr} {o : Oper} {env : Env} {k : EV → Pr} {h : Heap} (hc : cls o.op ≠ .pv) (s : vcOpE P KP o env k h) : vcOp P KP o (evE env) (fun v => k (.val v)) h := by
  unfold vcOpE at s
  cases ho : o.op <;> simp only [ho] at s <;> first
    | exact s
    | (exfalso; apply hc; rw [ho]; rfl)

theorem opE_ef {P : Program} {KP : Value → Pr} {o : Oper} {env : Env} {k : EV → Pr} {h : Heap} (s : vcOpE P KP o env k h) : SemE P o (evE env) KP (upE k) h := by
  by_cases hc : cls o.op = .pv
  · exact (opE_pv hc s).toE
  · exact (vcOp_ef (opE_not hc s)).mono (fun v g hg => ⟨.val v, rfl, hg⟩) (fun _ _ hg => hg)

theorem EnvOk.putUn {env : Env} {a : Act} (h : EnvOk env a) (dst : Option Tmp) : EnvOk (putE env dst .sk) (a.put dst undef) := h.putEV dst rfl

theorem keep_put {S : List Nat} (env : Env) (dst : Option Tmp) (x : EV) (h : ∀ d, dst = some d → d ∈ S) : Keep S env (putE env dst x) := by
  cases dst with
  | none => exact Keep.refl _ _
  | some d =>
    refine ⟨by simp [putE], fun i hi => ?_⟩
    simp only [putE]
    rw [at_set, if_neg (fun (hc : d = i ∧ _) => hi (hc.1 ▸ h d rfl))]

theorem mem_opDsts {o : Oper} {d : Nat} (hd : o.dst = some d) : ∀ (l : List Oper), o ∈ l → d ∈ opDsts l
  | [], hm => by cases hm
  | o' :: r, hm => by
    unfold opDsts
    rcases List.mem_cons.1 hm with e | hm
    · subst e; rw [hd]; simp
    · have := mem_opDsts hd r hm
      cases o'.dst with
      | none => exact this
      | some _ => exact List.mem_cons_of_mem _ this

theorem mem_opDsts_get {ops : Array Oper} {i d : Nat} {o : Oper} (ho : ops[i]? = some o) (hd : o.dst = some d) : d ∈ opDsts ops.toList :=
  mem_opDsts hd _ (Array.mem_toList_iff.2 (Array.mem_of_getElem? ho))

/-- A guard is decided as the model decides it. -/
theorem step_cases {ops : Array Oper} {o : Oper} {env : Env} {ex sk : Env → Pr} {h : Heap} {a : Act} (s : vcStep ops o env ex sk h) (ok : EnvOk env a) :
    ∃ env2, EnvOk env2 a ∧ Keep (opDsts ops.toList) env env2 ∧ ((Region.wanted o (yielded ops a.tmps) = true ∧ ex env2 h) ∨ (Region.wanted o (yielded ops a.tmps) = false ∧ sk env2 h)) := by
  unfold vcStep at s
  cases hg : o.guard with
  | none => simp only [hg] at s; exact ⟨env, ok, Keep.refl _ _, .inl ⟨by simp [Region.wanted, hg], s⟩⟩
  | some jw =>
    obtain ⟨j, want⟩ := jw
    simp only [hg] at s
    cases hd : (ops[j]?).bind (·.dst) with
    | none => simp only [hd] at s; exact s.elim
    | some d =>
      simp only [hd] at s
      have hmem : d ∈ opDsts ops.toList := by
        cases hj : ops[j]? with
        | none => simp [hj] at hd
        | some oj => simp [hj] at hd; exact mem_opDsts_get hj hd
      have wv : ∀ b, (env.at d).get = some (.bool b) → Region.wanted o (yielded ops a.tmps) = (b == want) := fun b hb => by
        have := ok.val d _ hb
        simp [Region.wanted, hg, yielded, hd, this]
      cases he : env.at d with
      | un => simp only [he] at s; exact s.elim
      | sk =>
        simp only [he] at s
        have hv := ok.val d _ (show (env.at d).get = some (.tuple #[]) by rw [he]; rfl)
        exact ⟨env, ok, Keep.refl _ _, .inr ⟨by simp [Region.wanted, hg, yielded, hd, hv], s⟩⟩
      | tt =>
        simp only [he] at s
        have := wv true (by rw [he]; rfl)
        refine ⟨env, ok, Keep.refl _ _, ?_⟩
        cases want
        · exact .inr ⟨by rw [this]; rfl, by simpa using s⟩
        · exact .inl ⟨by rw [this]; rfl, by simpa using s⟩
      | ff =>
        simp only [he] at s
        have := wv false (by rw [he]; rfl)
        refine ⟨env, ok, Keep.refl _ _, ?_⟩
        cases want
        · exact .inl ⟨by rw [this]; rfl, by simpa using s⟩
        · exact .inr ⟨by rw [this]; rfl, by simpa using s⟩
      | val v =>
        simp only [he] at s
        cases v <;> try exact s.elim
        rename_i b
        have := wv b (by rw [he]; rfl)
        have hok : ∀ x : EV, x.get = some (.bool b) → EnvOk (env.set d x) a := fun x hx => ⟨by simp [ok.size], fun i u hu => by
          rw [at_set] at hu
          by_cases hc : d = i ∧ i < env.length
          · rw [if_pos hc] at hu
            obtain ⟨rfl, _⟩ := hc
            rw [hx] at hu
            exact ok.val d u (by rw [he]; exact hu)
          · rw [if_neg hc] at hu; exact ok.val i u hu, ok.defs⟩
        have hkeep : ∀ x : EV, Keep (opDsts ops.toList) env (env.set d x) := fun x => keep_put env (some d) x (fun d' hd' => by cases hd'; exact hmem)
        cases b
        · refine ⟨env.set d .ff, hok .ff rfl, hkeep _, ?_⟩
          have s2 := s.2 rfl
          cases want
          · exact .inl ⟨by rw [this]; rfl, by simpa using s2⟩
          · exact .inr ⟨by rw [this]; rfl, by simpa using s2⟩
        · refine ⟨env.set d .tt, hok .tt rfl, hkeep _, ?_⟩
          have s2 := s.1 rfl
          cases want
          · exact .inr ⟨by rw [this]; rfl, by simpa using s2⟩
          · exact .inl ⟨by rw [this]; rfl, by simpa using s2⟩

def RPost (h0 : Heap) (w0 : World) (S : List Nat) (env0 : Env) (K : Env → Pr) (KP : Value → Pr) : Exit → Act → World → Prop
  | .normal, a', w' => ∃ env', EnvOk env' a' ∧ Keep S env0 env' ∧ ∃ h', K env' h' ∧ R h' w' ∧ Fr h0 w0 h' w'
  | .panic [p], a', w' => a'.defers = [] ∧ p.recovered = false ∧ p.goexit = false ∧ ∃ h', KP p.v h' ∧ R h' w' ∧ Fr h0 w0 h' w'
  | _, _, _ => False

/-- From what an operation does to what the model's rule for it asks. -/
theorem opTo_wp {P : Program} {o : Oper} {a : Act} {w : World} {next : Act → World → Prop} {Q : Exit → Act → World → Prop} {N X : Value → World → Prop}
    (s : OpTo P o a.eval w N X) (hn : ∀ v w', N v w' → next (a.put o.dst v) w') (hx : ∀ p w', p.recovered = false → p.goexit = false → X p.v w' → Q (.panic [p]) a w') : o.wp P a w next Q := by
  unfold OpTo at s
  unfold Oper.wp
  generalize (execOp a.eval o).run P w = res at *
  cases res with
  | ok n w' =>
    cases n <;> simp only [Oper.upon] at s ⊢ <;> first
      | exact hn _ _ s
      | (refine s.mono fun en w'' he => ?_
         cases en with
         | returned v => exact hn _ _ he
         | panicked ch => cases ch with
           | nil => exact he.elim
           | cons p t => cases t with
             | nil => exact hx p w'' he.1 he.2.1 he.2.2
             | cons _ _ => exact he.elim
         | outgrown => exact he.elim)
  | halt x w' =>
    cases x <;> simp only [Oper.upon] at s ⊢
    exact hx _ w' rfl rfl s

theorem idx_sound {P : Program} {KP : Value → Pr} {ops : Array Oper} {K : Env → Pr} {h0 : Heap} {w0 : World} {env0 : Env} :
    ∀ (l : List Nat) (env : Env) (h : Heap), vcIdx P KP ops l env K h → ∀ a w, EnvOk env a → Keep (opDsts ops.toList) env0 env → R h w → Fr h0 w0 h w →
      wpOps P ops (RPost h0 w0 (opDsts ops.toList) env0 K KP) l a w
  | [], env, h, s, a, w, ok, kp, r, f => ⟨env, ok, kp, h, s, r, f⟩
  | i :: l, env, h, s, a, w, ok, kp, r, f => by
    simp only [vcIdx] at s
    simp only [wpOps]
    cases ho : ops[i]? with
    | none => simp only [ho] at s; exact s.elim
    | some o =>
      simp only [ho] at s ⊢
      obtain ⟨env2, ok2, kp2, s⟩ := step_cases s ok
      have hmem : ∀ d, o.dst = some d → d ∈ opDsts ops.toList := fun d hd => mem_opDsts_get ho hd
      rcases s with ⟨hw, s⟩ | ⟨hw, s⟩
      · rw [if_pos hw]
        left
        have se := opE_ef s a.eval w ok2.fits r
        refine opTo_wp se (fun v w' hn => ?_) (fun p w' h1 h2 hx => ?_)
        · obtain ⟨h', ⟨x, hxv, hk⟩, r', f'⟩ := hn
          exact idx_sound l _ h' hk _ w' (ok2.putEV _ hxv) ((kp.trans kp2).trans (keep_put _ _ _ hmem)) r' (f.trans f')
        · obtain ⟨h', hk, r', f'⟩ := hx
          exact ⟨ok.defs, h1, h2, h', hk, r', f.trans f'⟩
      · rw [hw]
        simp only [Bool.false_eq_true, if_false]
        exact idx_sound l _ h s _ w (ok2.putUn _) ((kp.trans kp2).trans (keep_put _ _ _ hmem)) r f

end Go.Hl
