/- The heap logic: what 'vcIdx' and 'vcStep' say of the model's regions; environments. -/
import Derived.Test.YtpbhanglcophbaaGreatH1
import Derived.Eval
import Derived.Scope
import Derived.Recover
import Derived.IntWalk
import Derived.ChangeSame
import Derived.ProofKit
import Derived.Carry
import Derived.Laws.Externs
import Derived.Lib.Overlaps
namespace Go.Hl
variable {D : List Deferred}

structure EnvOk (D : List Deferred) (env : Env) (a : Act) : Prop where
  size : env.length = a.tmps.size
  val : ∀ i v, (env.at i).get = some v → a.tmps[i]? = some v
  defs : a.defers = D

structure Keep (S : List Nat) (env env' : Env) : Prop where
  len : env'.length = env.length
  get : ∀ i, i ∉ S → (env'.at i).get = (env.at i).get

theorem Keep.refl (S : List Nat) (env : Env) : Keep S env env := ⟨rfl, fun _ _ => rfl⟩
theorem Keep.trans {S : List Nat} {a b c : Env} (h : Keep S a b) (k : Keep S b c) : Keep S a c := ⟨k.len.trans h.len, fun i hi => (k.get i hi).trans (h.get i hi)⟩
theorem Keep.mono {S T : List Nat} {a b : Env} (h : Keep S a b) (m : ∀ i, i ∈ S → i ∈ T) : Keep T a b := ⟨h.len, fun i hi => h.get i (fun k => hi (m i k))⟩

theorem at_set (env : Env) (d : Nat) (x : EV) (i : Nat) : Env.at (env.set d x) i = if d = i ∧ i < env.length then x else env.at i := by
  unfold Env.at
  simp only [List.getD_eq_getElem?_getD, List.getElem?_set]
  by_cases h : d = i
  · subst h
    by_cases hl : d < env.length
    · simp [hl]
    · simp [hl]
  · simp [h]

theorem EnvOk.fits {env : Env} {a : Act} (h : EnvOk D env a) : Fits (evE env) a.eval := fun x v hx => by
  cases x with
  | tmp t =>
    have := h.val t v hx
    simp [Act.eval, this]
  | const c =>
    have : c = v := by
      cases c <;> try (simpa [evE, EV.get] using hx)
      rename_i b
      cases b <;> simpa [evE, EV.get] using hx
    simp [Act.eval, this]
  | global g => simp [evE, EV.get] at hx; simp [Act.eval, ← hx]
  | func f => simp [evE, EV.get] at hx; simp [Act.eval, ← hx]

theorem EnvOk.put {env : Env} {a : Act} (h : EnvOk D env a) (dst : Option Tmp) (v : Value) : EnvOk D (putE env dst (.val v)) (a.put dst v) := by
  cases dst with
  | none => exact h
  | some d =>
    refine ⟨by simp [putE, Act.put, h.size], fun i u hu => ?_, h.defs⟩
    simp only [putE] at hu
    rw [at_set] at hu
    by_cases hc : d = i ∧ i < env.length
    · rw [if_pos hc] at hu
      obtain ⟨rfl, hl⟩ := hc
      simp only [EV.get, Option.some.injEq] at hu
      subst hu
      rw [h.size] at hl
      simp [Act.put, hl]
    · rw [if_neg hc] at hu
      have := h.val i u hu
      by_cases hdi : d = i
      · subst hdi
        exfalso
        apply hc
        refine ⟨rfl, ?_⟩
        rw [h.size]
        rcases Nat.lt_or_ge d a.tmps.size with k | k
        · exact k
        · rw [Array.getElem?_eq_none k] at this; cases this
      · simp [Act.put, Array.getElem?_setIfInBounds_ne hdi, this]

theorem EnvOk.putEV {env : Env} {a : Act} (h : EnvOk D env a) (dst : Option Tmp) {x : EV} {v : Value} (hx : x.get = some v) : EnvOk D (putE env dst x) (a.put dst v) := by
  have hp := h.put dst v
  cases dst with
  | none => exact h
  | some d =>
    refine ⟨by have := hp.size; simpa [putE] using this, fun i u hu => hp.val i u ?_, h.defs⟩
    simp only [putE] at hu ⊢
    rw [at_set] at hu ⊢
    by_cases hc : d = i ∧ i < env.length
    · rw [if_pos hc] at hu ⊢; rw [hx] at hu; exact hu
    · rw [if_neg hc] at hu ⊢; exact hu

def upE (k : EV → Pr) : Value → Pr := fun v h => ∃ x : EV, x.get = some v ∧ k x h

theorem opE_pv {P : Program} {KP : Value → Pr} {o : Oper} {env : Env} {k : EV → Pr} {h : Heap} (hc : cls o.op = .pv) (s : vcOpE P KP o env k h) : SemP P o (evE env) (upE k) h := by
  have pass : ∀ (x : EV) (kk : EV → Pr), (match x with | .un => F | v => kk v) h → gv x (upE kk) h := fun x kk s => by
    cases x with
    | un => exact s.elim
    | sk => exact ⟨.sk, rfl, s⟩
    | tt => exact ⟨.tt, rfl, s⟩
    | ff => exact ⟨.ff, rfl, s⟩
    | over => exact ⟨.over, rfl, s⟩
    | step a b => exact ⟨.step a b, rfl, s⟩
    | val v => exact ⟨.val v, rfl, s⟩
  have up : vcOp P KP o (evE env) (fun v => k (.val v)) h → SemP P o (evE env) (upE k) h := fun s => by
    obtain ⟨v, hy, s⟩ := vcOp_pv hc s
    exact ⟨v, hy, .val v, rfl, s⟩
  unfold vcOpE at s
  cases ho : o.op <;> simp only [ho] at s <;> try exact up s
  · exact sem_move (.inl ho) (pass _ _ s)
  · exact sem_move (.inr ho) (pass _ _ s)
  · rename_i c a b
    cases hc' : evE env c with
    | tt => simp only [hc'] at s; exact sem_pick (a := a) (b := b) (c := c) ho (by rw [hc']; exact pass _ _ s)
    | ff => simp only [hc'] at s; exact sem_pick (a := a) (b := b) (c := c) ho (by rw [hc']; exact pass _ _ s)
    | un => simp only [hc'] at s; exact up s
    | sk => simp only [hc'] at s; exact up s
    | over => simp only [hc'] at s; exact up s
    | step _ _ => simp only [hc'] at s; exact up s
    | val v => simp only [hc'] at s; exact up s
  · rw [ho] at hc; simp [cls] at hc
  · rename_i x i
    cases hx : evE env x with
    | over =>
      simp only [hx] at s
      split at s
      · exact sem_extract ho (v := .tuple #[.bool false]) (by rw [hx]; rfl) (show upE k (.bool false) h from ⟨.ff, rfl, s⟩)
      · exact s.elim
    | step a b =>
      simp only [hx] at s
      split at s
      · exact sem_extract ho (v := .tuple #[.bool true, a, b]) (by rw [hx]; rfl) (show upE k (.bool true) h from ⟨.tt, rfl, s⟩)
      · exact sem_extract ho (v := .tuple #[.bool true, a, b]) (by rw [hx]; rfl) (show upE k a h from ⟨.val a, rfl, s⟩)
      · exact sem_extract ho (v := .tuple #[.bool true, a, b]) (by rw [hx]; rfl) (show upE k b h from ⟨.val b, rfl, s⟩)
      · exact s.elim
    | un => simp only [hx] at s; exact up s
    | sk => simp only [hx] at s; exact up s
    | tt => simp only [hx] at s; exact up s
    | ff => simp only [hx] at s; exact up s
    | val v => simp only [hx] at s; exact up s

theorem opE_not {P : Program} {KP : Value → Pr} {o : Oper} {env : Env} {k : EV → Pr} {h : Heap} (hc : cls o.op ≠ .pv) (hn : ∀ it str, o.op ≠ .next it str) (s : vcOpE P KP o env k h) : vcOp P KP o (evE env) (fun v => k (.val v)) h := by
  unfold vcOpE at s
  cases ho : o.op <;> simp only [ho] at s <;> first
    | exact s
    | (exfalso; apply hc; rw [ho]; rfl)
    | exact absurd ho (hn _ _)

theorem opE_ef {P : Program} {KP : Value → Pr} {o : Oper} {env : Env} {k : EV → Pr} {h : Heap} (s : vcOpE P KP o env k h) : SemE P o (evE env) KP (upE k) h := by
  by_cases hc : cls o.op = .pv
  · exact (opE_pv hc s).toE
  · by_cases hn : ∃ it str, o.op = .next it str
    · obtain ⟨it, str, ho⟩ := hn
      unfold vcOpE at s
      simp only [ho] at s
      exact sem_next ho s
    exact (vcOp_ef (opE_not hc (fun it str h => hn ⟨it, str, h⟩) s)).mono (fun v g hg => ⟨.val v, rfl, hg⟩) (fun _ _ hg => hg)

theorem EnvOk.putUn {env : Env} {a : Act} (h : EnvOk D env a) (dst : Option Tmp) : EnvOk D (putE env dst .sk) (a.put dst undef) := h.putEV dst rfl

theorem keep_put {S : List Nat} (env : Env) (dst : Option Tmp) (x : EV) (h : ∀ d, dst = some d → d ∈ S) : Keep S env (putE env dst x) := by
  cases dst with
  | none => exact Keep.refl _ _
  | some d =>
    refine ⟨by simp [putE], fun i hi => ?_⟩
    simp only [putE]
    rw [at_set, if_neg (fun (hc : d = i ∧ _) => hi (hc.1 ▸ h d rfl))]

theorem mem_opDsts {o : Oper} {d : Nat} (hd : o.dst = some d) : ∀ (l : List Oper), o ∈ l → d ∈ opDsts l
  | [], hm => by cases hm
  | o' :: r, hm => by
    unfold opDsts
    rcases List.mem_cons.1 hm with e | hm
    · subst e; rw [hd]; simp
    · have := mem_opDsts hd r hm
      cases o'.dst with
      | none => exact this
      | some _ => exact List.mem_cons_of_mem _ this

theorem mem_opDsts_get {ops : Array Oper} {i d : Nat} {o : Oper} (ho : ops[i]? = some o) (hd : o.dst = some d) : d ∈ opDsts ops.toList :=
  mem_opDsts hd _ (Array.mem_toList_iff.2 (Array.mem_of_getElem? ho))

/-- A guard is decided as the model decides it. -/
theorem step_cases {ops : Array Oper} {o : Oper} {env : Env} {ex sk : Env → Pr} {h : Heap} {a : Act} (s : vcStep ops o env ex sk h) (ok : EnvOk D env a) :
    ∃ env2, EnvOk D env2 a ∧ Keep (opDsts ops.toList) env env2 ∧ ((Region.wanted o (yielded ops a.tmps) = true ∧ ex env2 h) ∨ (Region.wanted o (yielded ops a.tmps) = false ∧ sk env2 h)) := by
  unfold vcStep at s
  cases hg : o.guard with
  | none => simp only [hg] at s; exact ⟨env, ok, Keep.refl _ _, .inl ⟨by simp [Region.wanted, hg], s⟩⟩
  | some jw =>
    obtain ⟨j, want⟩ := jw
    simp only [hg] at s
    cases hd : (ops[j]?).bind (·.dst) with
    | none => simp only [hd] at s; exact s.elim
    | some d =>
      simp only [hd] at s
      have hmem : d ∈ opDsts ops.toList := by
        cases hj : ops[j]? with
        | none => simp [hj] at hd
        | some oj => simp [hj] at hd; exact mem_opDsts_get hj hd
      have wv : ∀ b, (env.at d).get = some (.bool b) → Region.wanted o (yielded ops a.tmps) = (b == want) := fun b hb => by
        have := ok.val d _ hb
        simp [Region.wanted, hg, yielded, hd, this]
      cases he : env.at d with
      | un => simp only [he] at s; exact s.elim
      | over => simp only [he] at s; exact s.elim
      | step _ _ => simp only [he] at s; exact s.elim
      | sk =>
        simp only [he] at s
        have hv := ok.val d _ (show (env.at d).get = some (.tuple #[]) by rw [he]; rfl)
        exact ⟨env, ok, Keep.refl _ _, .inr ⟨by simp [Region.wanted, hg, yielded, hd, hv], s⟩⟩
      | tt =>
        simp only [he] at s
        have := wv true (by rw [he]; rfl)
        refine ⟨env, ok, Keep.refl _ _, ?_⟩
        cases want
        · exact .inr ⟨by rw [this]; rfl, by simpa using s⟩
        · exact .inl ⟨by rw [this]; rfl, by simpa using s⟩
      | ff =>
        simp only [he] at s
        have := wv false (by rw [he]; rfl)
        refine ⟨env, ok, Keep.refl _ _, ?_⟩
        cases want
        · exact .inl ⟨by rw [this]; rfl, by simpa using s⟩
        · exact .inr ⟨by rw [this]; rfl, by simpa using s⟩
      | val v =>
        simp only [he] at s
        cases v <;> try exact s.elim
        rename_i b
        have := wv b (by rw [he]; rfl)
        have hok : ∀ x : EV, x.get = some (.bool b) → EnvOk D (env.set d x) a := fun x hx => ⟨by simp [ok.size], fun i u hu => by
          rw [at_set] at hu
          by_cases hc : d = i ∧ i < env.length
          · rw [if_pos hc] at hu
            obtain ⟨rfl, _⟩ := hc
            rw [hx] at hu
            exact ok.val d u (by rw [he]; exact hu)
          · rw [if_neg hc] at hu; exact ok.val i u hu, ok.defs⟩
        have hkeep : ∀ x : EV, Keep (opDsts ops.toList) env (env.set d x) := fun x => keep_put env (some d) x (fun d' hd' => by cases hd'; exact hmem)
        cases b
        · refine ⟨env.set d .ff, hok .ff rfl, hkeep _, ?_⟩
          have s2 := s.2 rfl
          cases want
          · exact .inl ⟨by rw [this]; rfl, by simpa using s2⟩
          · exact .inr ⟨by rw [this]; rfl, by simpa using s2⟩
        · refine ⟨env.set d .tt, hok .tt rfl, hkeep _, ?_⟩
          have s2 := s.1 rfl
          cases want
          · exact .inr ⟨by rw [this]; rfl, by simpa using s2⟩
          · exact .inl ⟨by rw [this]; rfl, by simpa using s2⟩

def RPost (D : List Deferred) (h0 : Heap) (w0 : World) (S : List Nat) (env0 : Env) (K : Env → Pr) (KP : Value → Pr) : Exit → Act → World → Prop
  | .normal, a', w' => ∃ env', EnvOk D env' a' ∧ Keep S env0 env' ∧ ∃ h', K env' h' ∧ R h' w' ∧ Fr h0 w0 h' w'
  | .panic [p], a', w' => a'.defers = D ∧ p.recovered = false ∧ p.goexit = false ∧ ∃ h', KP p.v h' ∧ R h' w' ∧ Fr h0 w0 h' w'
  | _, _, _ => False

/-- From what an operation does to what the model's rule for it asks. -/
theorem opTo_wp {P : Program} {o : Oper} {a : Act} {w : World} {next : Act → World → Prop} {Q : Exit → Act → World → Prop} {N X : Value → World → Prop}
    (s : OpTo P o a.eval w N X) (hn : ∀ v w', N v w' → next (a.put o.dst v) w') (hx : ∀ p w', p.recovered = false → p.goexit = false → X p.v w' → Q (.panic [p]) a w') : o.wp P a w next Q := by
  unfold OpTo at s
  unfold Oper.wp
  generalize (execOp a.eval o).run P w = res at *
  cases res with
  | ok n w' =>
    cases n <;> simp only [Oper.upon] at s ⊢ <;> first
      | exact hn _ _ s
      | (refine s.mono fun en w'' he => ?_
         cases en with
         | returned v => exact hn _ _ he
         | panicked ch => cases ch with
           | nil => exact he.elim
           | cons p t => cases t with
             | nil => exact hx p w'' he.1 he.2.1 he.2.2
             | cons _ _ => exact he.elim
         | outgrown => exact he.elim)
  | halt x w' =>
    cases x <;> simp only [Oper.upon] at s ⊢
    exact hx _ w' rfl rfl s

theorem idx_sound {P : Program} {KP : Value → Pr} {ops : Array Oper} {K : Env → Pr} {h0 : Heap} {w0 : World} {env0 : Env} :
    ∀ (l : List Nat) (env : Env) (h : Heap), vcIdx P KP ops l env K h → ∀ a w, EnvOk D env a → Keep (opDsts ops.toList) env0 env → R h w → Fr h0 w0 h w →
      wpOps P ops (RPost D h0 w0 (opDsts ops.toList) env0 K KP) l a w
  | [], env, h, s, a, w, ok, kp, r, f => ⟨env, ok, kp, h, s, r, f⟩
  | i :: l, env, h, s, a, w, ok, kp, r, f => by
    simp only [vcIdx] at s
    simp only [wpOps]
    cases ho : ops[i]? with
    | none => simp only [ho] at s; exact s.elim
    | some o =>
      simp only [ho] at s ⊢
      obtain ⟨env2, ok2, kp2, s⟩ := step_cases s ok
      have hmem : ∀ d, o.dst = some d → d ∈ opDsts ops.toList := fun d hd => mem_opDsts_get ho hd
      rcases s with ⟨hw, s⟩ | ⟨hw, s⟩
      · rw [if_pos hw]
        left
        have se := opE_ef s a.eval w ok2.fits r
        refine opTo_wp se (fun v w' hn => ?_) (fun p w' h1 h2 hx => ?_)
        · obtain ⟨h', ⟨x, hxv, hk⟩, r', f'⟩ := hn
          exact idx_sound l _ h' hk _ w' (ok2.putEV _ hxv) ((kp.trans kp2).trans (keep_put _ _ _ hmem)) r' (f.trans f')
        · obtain ⟨h', hk, r', f'⟩ := hx
          exact ⟨ok.defs, h1, h2, h', hk, r', f.trans f'⟩
      · rw [hw]
        simp only [Bool.false_eq_true, if_false]
        exact idx_sound l _ h s _ w (ok2.putUn _) ((kp.trans kp2).trans (keep_put _ _ _ hmem)) r f

end Go.Hl

set_option linter.unusedVariables false
namespace Go.Hl
variable {D : List Deferred}

abbrev Facts := List (Nat × Pr)
def MonoF (f : Pr) : Prop := ∀ (h : Heap) (b : Nat) (x : Blk), h b = none → f h → f (h.set b x)
def Fin (h : Heap) : Prop := ∃ N, ∀ b, N ≤ b → h b = none

theorem Fin.of_R {h : Heap} {w : World} (r : R h w) : Fin h := ⟨w.heap.size, fun b hb => by
  cases e : h b with
  | none => rfl
  | some x => exact absurd (r.lt e) (by omega)⟩
theorem Fin.set {h : Heap} (f : Fin h) (b : Nat) (x : Blk) : Fin (h.set b x) := by
  obtain ⟨N, hN⟩ := f
  refine ⟨max N (b + 1), fun i hi => ?_⟩
  rw [Heap.set_ne _ _ (by omega)]
  exact hN i (by omega)
theorem Fin.fresh {h : Heap} (f : Fin h) : ∃ b, h b = none := by obtain ⟨N, hN⟩ := f; exact ⟨N, hN N (Nat.le_refl _)⟩

section
variable (P : Program) (KP : Value → Pr) (ops : Array Oper) (ms : List Nat)

def YA (o : Oper) (a : Act) (v : Value) : Prop := ∀ w, (execOp a.eval o).run P w = .ok (.value v) w
def YL (o : Oper) (a : Act) (f : Pr) (v : Value) : Prop := ∀ h w, f h → R h w → (execOp a.eval o).run P w = .ok (.value v) w
def NA (o : Oper) (a : Act) (cs : List Value) (mk : Nat → Value) : Prop :=
  ∀ w, ∃ w' ty, (execOp a.eval o).run P w = .ok (.value (mk w.heap.size)) w' ∧ w'.heap = w.heap.push (.cells cs.toArray ty (0, 0)) ∧ w'.os = w.os ∧ w'.tape = w.tape ∧ w'.output = w.output
def SR (o : Oper) (a : Act) (k : Value → Pr) : Pr := fun h => ∀ w, R h w → OpTo P o a.eval w (fun v w' => Ends h w (k v) w') (fun v w' => Ends h w (KP v) w')
def KeptF (i : Nat) (fs : Facts) : Pr := fun h => ∀ jf ∈ fs, (ms.getD i 0).testBit jf.1 = false → jf.2 h

/-- One operation, then C. -/
def Front (i : Nat) (fs : Facts) (a : Act) (C : Act → Facts → Pr) : Pr := fun h =>
  match ops[i]? with
  | none => False
  | some o =>
    if Region.wanted o (yielded ops a.tmps) = true then
      match cls o.op with
      | .pv => ∃ v, YA P o a v ∧ C (a.put o.dst v) fs h
      | .ld => ∃ v f, YL P o a f v ∧ MonoF f ∧ f h ∧ C (a.put o.dst v) ((i, f) :: fs) h
      | .nw => ∃ cs mk, NA P o a cs mk ∧ ∀ b, h b = none → C (a.put o.dst (mk b)) fs (h.set b (.row cs cs.length))
      | .ef => SR P KP o a (fun v h' => KeptF ms i fs h' ∧ C (a.put o.dst v) fs h') h
    else C (a.put o.dst undef) fs h

/-- What may be made ahead of an effect can be made. -/
def Side (i : Nat) (r : List Nat) (a : Act) : Prop :=
  ∀ oi, ops[i]? = some oi → cls oi.op = .ef → Region.wanted oi (yielded ops a.tmps) = true → ∀ y ∈ r, ∀ oy, ops[y]? = some oy → needsN oy = true → (ms.getD y 0).testBit i = false → ∃ cs mk, NA P oy a cs mk

def DS (K : Act → Pr) : List Nat → Act → Facts → Pr
  | [], a, _ => K a
  | i :: r, a, fs => fun h => Side P ops ms i r a ∧ Front P KP ops ms i fs a (DS K r) h

/-- What may be made ahead of x looks at no result of z. -/
def Look (x z : Nat) : Prop := ∀ ox oz, ops[x]? = some ox → ops[z]? = some oz → cls ox.op = .ef → ∀ y oy, ops[y]? = some oy → needsN oy = true → (ms.getD y 0).testBit x = false → ∀ d, oz.dst = some d → d ∉ oy.looksAt ops
end

section
variable {P : Program} {KP : Value → Pr} {ops : Array Oper} {ms : List Nat}

theorem SR.mono {o : Oper} {a : Act} {k k' : Value → Pr} {h : Heap} (s : SR P KP o a k h) (m : ∀ v g, Fin g → k v g → k' v g) : SR P KP o a k' h := fun w r => by
  have := s w r
  have em : ∀ v w', Ends h w (k v) w' → Ends h w (k' v) w' := fun v w' ⟨h', kk, r', f⟩ => ⟨h', m v h' (Fin.of_R r') kk, r', f⟩
  unfold OpTo at *
  generalize (execOp a.eval o).run P w = res at *
  cases res with
  | ok n w' =>
    cases n <;> simp only at this ⊢ <;> first
      | exact em _ _ this
      | (refine this.mono fun en w'' he => ?_
         cases en with
         | returned v => exact em _ _ he
         | panicked ch => cases ch with
           | nil => exact he
           | cons p t => cases t <;> exact he
         | outgrown => exact he)
  | halt x w' => cases x <;> simp only at this ⊢ <;> exact this

theorem SR.frame {o : Oper} {a : Act} {k : Value → Pr} {h : Heap} {b : Nat} {x : Blk} (s : SR P KP o a k h) (hb : h b = none) :
    SR P KP o a (fun v g => ∃ h', k v h' ∧ h' b = none ∧ g = h'.set b x) (h.set b x) := fun w r => by
  have := s w (r.mono (Heap.le_set_new (Heap.le_refl h) hb x))
  have ep : ∀ v w', Ends h w (KP v) w' → Ends (h.set b x) w (KP v) w' := fun v w' e => by
    obtain ⟨g, ⟨h', kk, hn, rfl⟩, r', f⟩ := e.frame r hb
    exact ⟨h', kk, r'.mono (Heap.le_set_new (Heap.le_refl _) hn x), f.forget (Heap.le_set_new (Heap.le_refl _) hn x)⟩
  unfold OpTo at *
  generalize (execOp a.eval o).run P w = res at *
  cases res with
  | ok n w' =>
    cases n <;> simp only at this ⊢ <;> first
      | exact this.frame r hb
      | (refine this.mono fun en w'' he => ?_
         cases en with
         | returned v => exact he.frame r hb
         | panicked ch => cases ch with
           | nil => exact he
           | cons p t => cases t with
             | nil => exact ⟨he.1, he.2.1, ep _ _ he.2.2⟩
             | cons _ _ => exact he
         | outgrown => exact he)
  | halt x w' => cases x <;> simp only at this ⊢ <;> exact ep _ _ this

theorem SR.congr {o : Oper} {a a' : Act} {k : Value → Pr} {h : Heap} (e : execOp a'.eval o = execOp a.eval o) (s : SR P KP o a k h) : SR P KP o a' k h := fun w r => by
  have := s w r
  unfold OpTo at *
  rw [e]; exact this

theorem NA.unique {o : Oper} {a : Act} {cs cs' : List Value} {mk mk' : Nat → Value} (h : NA P o a cs mk) (h' : NA P o a cs' mk') : cs' = cs ∧ mk' = mk := by
  have key : ∀ n, cs' = cs ∧ mk' n = mk n := fun n => by
    let w : World := { (default : World) with heap := Array.replicate n (.pending #[] 0) }
    obtain ⟨w1, t1, r1, p1, _⟩ := h w
    obtain ⟨w2, t2, r2, p2, _⟩ := h' w
    rw [r1] at r2
    simp only [Result.ok.injEq, Next.value.injEq] at r2
    obtain ⟨e1, e2⟩ := r2
    subst e2
    rw [p1] at p2
    have := Array.push_eq_push.1 p2
    have e3 := this.1
    simp only [Obj.cells.injEq] at e3
    have hn : w.heap.size = n := by simp [w]
    rw [hn] at e1
    refine ⟨?_, e1.symm⟩
    have := congrArg Array.toList e3.1
    simpa using this.symm
  exact ⟨(key 0).1, funext fun n => (key n).2⟩

theorem KeptF.sub {i : Nat} {fs fs' : Facts} {h : Heap} (m : ∀ x ∈ fs', x ∈ fs) (k : KeptF ms i fs h) : KeptF ms i fs' h := fun jf hj hb => k jf (m jf hj) hb

theorem Front.mono {i : Nat} {fs : Facts} {a : Act} {C C' : Act → Facts → Pr} {h : Heap} (fin : Fin h) (s : Front P KP ops ms i fs a C h) (m : ∀ a' fs' h', (∃ v, a' = a.put ((ops[i]?).bind (·.dst)) v) → (∀ x ∈ fs', x ∈ fs ∨ MonoF x.2) → Fin h' → C a' fs' h' → C' a' fs' h') : Front P KP ops ms i fs a C' h := by
  unfold Front at *
  cases ho : ops[i]? with
  | none => simp only [ho] at s
  | some o =>
    simp only [ho, Option.bind_some] at s m ⊢
    by_cases hw : Region.wanted o (yielded ops a.tmps) = true
    · rw [if_pos hw] at s ⊢
      cases hc : cls o.op <;> simp only [hc] at s ⊢
      · obtain ⟨v, hy, s⟩ := s; exact ⟨v, hy, m _ _ _ ⟨_, rfl⟩ (fun x hx => .inl hx) fin s⟩
      · obtain ⟨v, f, hy, hm, hf, s⟩ := s
        exact ⟨v, f, hy, hm, hf, m _ _ _ ⟨_, rfl⟩ (fun x hx => by rcases List.mem_cons.1 hx with rfl | hx; exact .inr hm; exact .inl hx) fin s⟩
      · obtain ⟨cs, mk, hn, s⟩ := s; exact ⟨cs, mk, hn, fun b hb => m _ _ _ ⟨_, rfl⟩ (fun x hx => .inl hx) (fin.set _ _) (s b hb)⟩
      · exact s.mono fun v g fg hg => ⟨hg.1, m _ _ _ ⟨_, rfl⟩ (fun x hx => .inl hx) fg hg.2⟩
    · rw [if_neg hw] at s ⊢
      exact m _ _ _ ⟨_, rfl⟩ (fun x hx => .inl hx) fin s

theorem Front.facts {i : Nat} {fs fs' : Facts} {a : Act} {C : Act → Facts → Pr} {h : Heap} (hs : ∀ x ∈ fs', x ∈ fs) (hC : ∀ a g g' h, (∀ x ∈ g', x ∈ g) → C a g h → C a g' h) (s : Front P KP ops ms i fs a C h) : Front P KP ops ms i fs' a C h := by
  unfold Front at *
  cases ho : ops[i]? with
  | none => simp only [ho] at s
  | some o =>
    simp only [ho] at s ⊢
    by_cases hw : Region.wanted o (yielded ops a.tmps) = true
    · rw [if_pos hw] at s ⊢
      cases hc : cls o.op <;> simp only [hc] at s ⊢
      · obtain ⟨v, hy, s⟩ := s; exact ⟨v, hy, hC _ _ _ _ hs s⟩
      · obtain ⟨v, f, hy, hm, hf, s⟩ := s
        exact ⟨v, f, hy, hm, hf, hC _ _ _ _ (fun x hx => by rcases List.mem_cons.1 hx with rfl | hx; exact List.mem_cons_self ..; exact List.mem_cons_of_mem _ (hs x hx)) s⟩
      · obtain ⟨cs, mk, hn, s⟩ := s; exact ⟨cs, mk, hn, fun b hb => hC _ _ _ _ hs (s b hb)⟩
      · exact s.mono fun v g _ hg => ⟨hg.1.sub hs, hC _ _ _ _ hs hg.2⟩
    · rw [if_neg hw] at s ⊢
      exact hC _ _ _ _ hs s

theorem DS.facts {K : Act → Pr} : ∀ (l : List Nat) (a : Act) (g g' : Facts) (h : Heap), (∀ x ∈ g', x ∈ g) → DS P KP ops ms K l a g h → DS P KP ops ms K l a g' h
  | [], _, _, _, _, _, s => s
  | i :: r, a, g, g', h, hs, s => ⟨s.1, Front.facts hs (fun a g g' h hs s => DS.facts r a g g' h hs s) s.2⟩

theorem KeptF.mono_set {i : Nat} {fs : Facts} {h : Heap} {b : Nat} {x : Blk} (hm : ∀ y ∈ fs, MonoF y.2) (hb : h b = none) (k : KeptF ms i fs h) : KeptF ms i fs (h.set b x) :=
  fun jf hj hbit => hm jf hj h b x hb (k jf hj hbit)

/-- Two operations that may change places. -/
theorem Front.swap {p i : Nat} {fs : Facts} {a : Act} {C : Act → Facts → Pr} {h : Heap} {op oi : Oper} (hop : ops[p]? = some op) (hoi : ops[i]? = some oi) (hsel : Region.noSelect ops = true)
    (hpass : mayPass P ops op oi = true) (hun : (ms.getD i 0).testBit p = false) (fin : Fin h) (hfs : ∀ y ∈ fs, MonoF y.2)
    (hC : ∀ a g g' h, (∀ x ∈ g', x ∈ g) → C a g h → C a g' h)
    (hside : cls op.op = .ef → Region.wanted op (yielded ops a.tmps) = true → needsN oi = true → ∃ cs mk, NA P oi a cs mk)
    (s : Front P KP ops ms p fs a (fun a1 fs1 => Front P KP ops ms i fs1 a1 C) h) : Front P KP ops ms i fs a (fun a1 fs1 => Front P KP ops ms p fs1 a1 C) h := by
  unfold mayPass at hpass
  simp only [Bool.and_eq_true] at hpass
  obtain ⟨hap, hcl⟩ := hpass
  obtain ⟨h1, h2, h3⟩ := Oper.apart_spec hap
  have si := Region.noSelect_spec hsel i oi
  have spp := Region.noSelect_spec hsel p op
  -- what p writes does not concern i, and the other way round
  have ei : ∀ (a : Act) u, execOp (a.put op.dst u).eval oi = execOp a.eval oi := fun a u => execOp_put oi (fun cs b => si cs b hoi) a op.dst u h1
  have ep : ∀ (a : Act) u, execOp (a.put oi.dst u).eval op = execOp a.eval op := fun a u => execOp_put op (fun cs b => spp cs b hop) a oi.dst u h3
  have wi : ∀ (a : Act) u, Region.wanted oi (yielded ops (a.put op.dst u).tmps) = Region.wanted oi (yielded ops a.tmps) := fun a u => wanted_put oi a op.dst u h1
  have wp : ∀ (a : Act) u, Region.wanted op (yielded ops (a.put oi.dst u).tmps) = Region.wanted op (yielded ops a.tmps) := fun a u => wanted_put op a oi.dst u h3
  have pc : ∀ (a : Act) u v, (a.put op.dst u).put oi.dst v = (a.put oi.dst v).put op.dst u := fun a u v => Act.put_comm a u v h2
  have yai : ∀ (a : Act) u v, YA P oi (a.put op.dst u) v → YA P oi a v := fun a u v y w => by have := y w; rwa [ei] at this
  have yap : ∀ (a : Act) u v, YA P op a v → YA P op (a.put oi.dst u) v := fun a u v y w => by rw [ep]; exact y w
  have yli : ∀ (a : Act) u f v, YL P oi (a.put op.dst u) f v → YL P oi a f v := fun a u f v y h w hf r => by have := y h w hf r; rwa [ei] at this
  have ylp : ∀ (a : Act) u f v, YL P op a f v → YL P op (a.put oi.dst u) f v := fun a u f v y h w hf r => by rw [ep]; exact y h w hf r
  have nai : ∀ (a : Act) u cs mk, NA P oi (a.put op.dst u) cs mk → NA P oi a cs mk := fun a u cs mk y w => by have := y w; rwa [ei] at this
  have nap : ∀ (a : Act) u cs mk, NA P op a cs mk → NA P op (a.put oi.dst u) cs mk := fun a u cs mk y w => by rw [ep]; exact y w
  unfold Front at *
  simp only [hop, hoi, wi, wp] at *
  by_cases hwp : Region.wanted op (yielded ops a.tmps) = true
  · by_cases hwi : Region.wanted oi (yielded ops a.tmps) = true
    · rw [if_pos hwi]
      rw [if_pos hwp] at s
      simp only [hwp, hwi, if_true] at s ⊢
      cases hcp : cls op.op <;> cases hci : cls oi.op <;> simp only [hcp, hci, Bool.false_eq_true] at s hcl ⊢
      -- pv, then whatever
      · obtain ⟨u, hu, v, hv, s⟩ := s; exact ⟨v, yai _ _ _ hv, u, yap _ _ _ hu, by rw [← pc]; exact s⟩
      · obtain ⟨u, hu, v, f, hv, hm, hf, s⟩ := s; exact ⟨v, f, yli _ _ _ _ hv, hm, hf, u, yap _ _ _ hu, by rw [← pc]; exact s⟩
      · obtain ⟨u, hu, cs, mk, hn, s⟩ := s; exact ⟨cs, mk, nai _ _ _ _ hn, fun b hb => ⟨u, yap _ _ _ hu, by rw [← pc]; exact s b hb⟩⟩
      · obtain ⟨u, hu, s⟩ := s
        refine (SR.congr (ei a u).symm s).mono fun v g _ hg => ⟨hg.1, u, yap _ _ _ hu, by rw [← pc]; exact hg.2⟩
      -- ld
      · obtain ⟨u, f, hu, hm, hf, v, hv, s⟩ := s; exact ⟨v, yai _ _ _ hv, u, f, ylp _ _ _ _ hu, hm, hf, by rw [← pc]; exact s⟩
      · obtain ⟨u, f, hu, hm, hf, v, f', hv, hm', hf', s⟩ := s
        refine ⟨v, f', yli _ _ _ _ hv, hm', hf', u, f, ylp _ _ _ _ hu, hm, hf, ?_⟩
        rw [← pc]
        refine hC _ _ _ _ (fun x hx => ?_) s
        simp only [List.mem_cons] at hx ⊢
        rcases hx with hx | hx | hx
        · exact .inr (.inl hx)
        · exact .inl hx
        · exact .inr (.inr hx)
      · obtain ⟨u, f, hu, hm, hf, cs, mk, hn, s⟩ := s
        exact ⟨cs, mk, nai _ _ _ _ hn, fun b hb => ⟨u, f, ylp _ _ _ _ hu, hm, hm h b _ hb hf, by rw [← pc]; exact s b hb⟩⟩
      · obtain ⟨u, f, hu, hm, hf, s⟩ := s
        refine (SR.congr (ei a u).symm s).mono fun v g _ hg => ⟨hg.1.sub (fun x hx => List.mem_cons_of_mem _ hx), u, f, ylp _ _ _ _ hu, hm, hg.1 (p, f) (List.mem_cons_self ..) hun, by rw [← pc]; exact hg.2⟩
      -- nw
      · obtain ⟨cs, mk, hn, s⟩ := s
        obtain ⟨b0, hb0⟩ := fin.fresh
        obtain ⟨v, hv, _⟩ := s b0 hb0
        refine ⟨v, yai _ _ _ hv, cs, mk, nap _ _ _ _ hn, fun b hb => ?_⟩
        obtain ⟨v', hv', s⟩ := s b hb
        have e : v' = v := by
          have e1 := yai _ _ _ hv' default
          have e2 := yai _ _ _ hv default
          rw [e1] at e2; simpa using e2
        subst e
        rw [← pc]; exact s
      · obtain ⟨cs, mk, hn, s⟩ := s
        obtain ⟨b0, hb0⟩ := fin.fresh
        obtain ⟨cs', mk', hn', _⟩ := s b0 hb0
        have hn1 := nai _ _ _ _ hn'
        refine ⟨cs', mk', hn1, fun b' hb' => ⟨cs, mk, nap _ _ _ _ hn, fun b hb => ?_⟩⟩
        have hne : b ≠ b' := fun e => by subst e; simp at hb
        have hbh : h b = none := by rwa [Heap.set_ne _ _ hne] at hb
        obtain ⟨cs2, mk2, hn2, s⟩ := s b hbh
        obtain ⟨rfl, rfl⟩ := NA.unique hn1 (nai _ _ _ _ hn2)
        have := s b' (by rw [Heap.set_ne _ _ (Ne.symm hne)]; exact hb')
        rw [← pc, Heap.set_comm _ _ _ (Ne.symm hne)]
        exact this
      -- ef, then a new block
      · have hna : ∃ cs mk, NA P oi a cs mk := by
          cases hoo : oi.op with
          | alloc t =>
            simp only [hoo] at hcl
            exact ⟨zc P t, fun b => .pointer (some ⟨b, 0, none⟩), fun w => by
              obtain ⟨z, hz1, hz2, _⟩ := run_zero hcl w
              exact ⟨w.alloc (.cells (zc P t).toArray t), t, by simp [execOp, hoo, Instr.alloc, hz1, newVar, newRow, hz2], rfl, rfl, rfl, rfl⟩⟩
          | _ => first
            | (simp only [hoo] at hcl; exact hside hcp hwp hcl)
            | (rw [hoo] at hci; simp [cls] at hci; done)
        obtain ⟨cs, mk, hn⟩ := hna
        refine ⟨_, _, hn, fun b hb => ?_⟩
        have fr := s.frame (x := .row cs cs.length) hb
        refine (SR.congr (ep a _) fr).mono fun u g _ hg => ?_
        obtain ⟨h', ⟨hk, cs', mk', hn', hc⟩, hb', rfl⟩ := hg
        obtain ⟨rfl, rfl⟩ := NA.unique hn (nai _ _ _ _ hn')
        refine ⟨hk.mono_set hfs hb', ?_⟩
        rw [← pc]; exact hc b hb'
    · rw [if_neg hwi]
      rw [if_pos hwp] at s
      simp only [hwp, hwi, if_true, if_false, Bool.false_eq_true] at s ⊢
      cases hcp : cls op.op <;> simp only [hcp] at s ⊢
      · obtain ⟨u, hu, s⟩ := s; exact ⟨u, yap _ _ _ hu, by rw [← pc]; exact s⟩
      · obtain ⟨u, f, hu, hm, hf, s⟩ := s; exact ⟨u, f, ylp _ _ _ _ hu, hm, hf, by rw [← pc]; exact s⟩
      · obtain ⟨cs, mk, hn, s⟩ := s; exact ⟨cs, mk, nap _ _ _ _ hn, fun b hb => by rw [← pc]; exact s b hb⟩
      · exact (SR.congr (ep a _) s).mono fun v g _ hg => ⟨hg.1, by rw [← pc]; exact hg.2⟩
  · rw [if_neg hwp] at s
    by_cases hwi : Region.wanted oi (yielded ops a.tmps) = true
    · rw [if_pos hwi] at s ⊢
      simp only [hwp, if_false, Bool.false_eq_true] at s ⊢
      cases hci : cls oi.op <;> simp only [hci] at s ⊢
      · obtain ⟨u, hu, s⟩ := s; exact ⟨u, yai _ _ _ hu, by rw [← pc]; exact s⟩
      · obtain ⟨u, f, hu, hm, hf, s⟩ := s; exact ⟨u, f, yli _ _ _ _ hu, hm, hf, by rw [← pc]; exact s⟩
      · obtain ⟨cs, mk, hn, s⟩ := s; exact ⟨cs, mk, nai _ _ _ _ hn, fun b hb => by rw [← pc]; exact s b hb⟩
      · exact (SR.congr (ei a _).symm s).mono fun v g _ hg => ⟨hg.1, by rw [← pc]; exact hg.2⟩
    · rw [if_neg hwi] at s ⊢
      simp only [hwp, if_false, Bool.false_eq_true] at s ⊢
      rw [← pc]; exact s

/-- An operation that all before it may let pass. -/
theorem DS.bring {K : Act → Pr} {i : Nat} {oi : Oper} (hoi : ops[i]? = some oi) (hsel : Region.noSelect ops = true) (post : List Nat) :
    ∀ (pre : List Nat) (fs : Facts) (a : Act) (h : Heap), (∀ p ∈ pre, Look ops ms p i ∧ ∃ op, ops[p]? = some op ∧ mayPass P ops op oi = true ∧ (ms.getD i 0).testBit p = false) → Fin h → (∀ y ∈ fs, MonoF y.2) →
      DS P KP ops ms K (pre ++ i :: post) a fs h → Front P KP ops ms i fs a (DS P KP ops ms K (pre ++ post)) h
  | [], _, _, _, _, _, _, s => s.2
  | p :: pre, fs, a, h, hp, fin, hfs, s => by
    obtain ⟨hlook, op, hop, hpass, hun⟩ := hp p (List.mem_cons_self ..)
    obtain ⟨sd, s⟩ := s
    have s1 : Front P KP ops ms p fs a (fun a1 fs1 => Front P KP ops ms i fs1 a1 (DS P KP ops ms K (pre ++ post))) h :=
      Front.mono fin s fun a' fs' h' _ hx fin' s' => DS.bring hoi hsel post pre fs' a' h' (fun q hq => hp q (List.mem_cons_of_mem _ hq)) fin' (fun y hy => (hx y hy).elim (fun hm => hfs y hm) id) s'
    have s2 := Front.swap hop hoi hsel hpass hun fin hfs (fun a g g' h hs s => DS.facts _ a g g' h hs s) (fun h1 h2 h3 => sd op hop h1 h2 i (by simp) oi hoi h3 hun) s1
    have hap : Oper.apart ops op oi = true := by
      unfold mayPass at hpass
      simp only [Bool.and_eq_true] at hpass
      exact hpass.1
    obtain ⟨_, _, h3⟩ := Oper.apart_spec hap
    refine Front.mono fin s2 fun a' fs' h' ⟨v, ha'⟩ hx fin' s' => ⟨fun op' hop' hef hw y hy oy hoy hn hb => ?_, s'⟩
    rw [hop] at hop'; cases hop'
    rw [hoi, Option.bind_some] at ha'
    subst ha'
    rw [wanted_put op a oi.dst v h3] at hw
    obtain ⟨cs, mk, hna⟩ := sd op hop hef hw y (show y ∈ pre ++ i :: post from by have hy' : y ∈ pre ++ post := hy; rcases List.mem_append.1 hy' with h | h; exact List.mem_append_left _ h; exact List.mem_append_right _ (List.mem_cons_of_mem _ h)) oy hoy hn hb
    refine ⟨cs, mk, fun w => ?_⟩
    rw [execOp_put (ops := ops) oy (fun cs b => Region.noSelect_spec hsel y oy cs b hoy) a oi.dst v (fun d hd => hlook op oi hop hoi hef y oy hoy hn hb d hd)]
    exact hna w

/- From the generator to 'DS'. -/
theorem cell_mono {h : Heap} {b : Nat} {x : Blk} (hb : h b = none) {a : Addr} {v : Value} (hc : h.cell a = some v) : (h.set b x).cell a = some v := by
  unfold Heap.cell at *
  cases hs : a.spot with
  | some _ => simp [hs] at hc
  | none =>
    simp only [hs] at hc ⊢
    have hne : a.block ≠ b := fun e => by rw [e, hb] at hc; simp at hc
    rw [Heap.set_ne _ _ hne]; exact hc

theorem vals_mono {h : Heap} {b : Nat} {x : Blk} (hb : h b = none) {a : Addr} {n : Nat} {xs : List Value} (hc : h.vals a n = some xs) : (h.set b x).vals a n = some xs := by
  unfold Heap.vals at *
  cases hs : a.spot with
  | some _ => simp [hs] at hc
  | none =>
    simp only [hs] at hc ⊢
    have hne : a.block ≠ b := fun e => by rw [e, hb] at hc; simp at hc
    rw [Heap.set_ne _ _ hne]; exact hc

theorem loadF_mono (t : TypeId) (va v : Value) : MonoF (loadF P t va v) := fun h b x hb hf => by
  unfold loadF at *
  cases va <;> try exact hf.elim
  rename_i a
  cases a with
  | none => exact hf.elim
  | some a =>
    simp only at hf ⊢
    cases hu : P.underlying t with
    | none => simp [hu] at hf
    | some d =>
      simp only [hu] at hf ⊢
      cases hd : shapeD d <;> simp only [hd] at hf ⊢ <;> first
        | exact cell_mono hb hf
        | (obtain ⟨cs, hc, e⟩ := hf; exact ⟨cs, vals_mono hb hc, e⟩)

theorem keepF_kept {i : Nat} {p : Pr} {h : Heap} : ∀ {fs : Facts}, keepF ms i fs p h → KeptF ms i fs h ∧ p h
  | [], s => ⟨fun _ hx _ => (by cases hx), s⟩
  | (j, f) :: r, s => by
    unfold keepF at s
    cases hb : (ms.getD i 0).testBit j with
    | true =>
      simp only [hb] at s
      obtain ⟨h1, h2⟩ := keepF_kept s
      refine ⟨fun jf hx hbit => ?_, h2⟩
      rcases List.mem_cons.1 hx with rfl | hx
      · rw [hb] at hbit; cases hbit
      · exact h1 jf hx hbit
    | false =>
      simp only [hb] at s
      obtain ⟨h1, h2⟩ := keepF_kept s.2
      refine ⟨fun jf hx hbit => ?_, h2⟩
      rcases List.mem_cons.1 hx with rfl | hx
      · exact s.1
      · exact h1 jf hx hbit

theorem draw_DS {K : Env → Pr} {env0 : Env} : ∀ (l : List Nat) (fs : Facts) (env : Env) (h : Heap) (a : Act), vcDraw P KP ops ms l fs env K h → EnvOk D env a → Keep (opDsts ops.toList) env0 env →
    DS P KP ops ms (fun a' h' => ∃ env', EnvOk D env' a' ∧ Keep (opDsts ops.toList) env0 env' ∧ K env' h') l a fs h
  | [], fs, env, h, a, s, ok, kp => ⟨env, ok, kp, s⟩
  | i :: r, fs, env, h, a, s, ok, kp => by
    simp only [vcDraw] at s
    simp only [DS, Front]
    cases ho : ops[i]? with
    | none => simp only [ho] at s; exact s.elim
    | some o =>
      simp only [ho] at s ⊢
      obtain ⟨env2, ok2, kp2, s⟩ := step_cases s ok
      have sidev : ∀ (l : List Nat) (p : Pr), vcSide P KP ops ms i env2 l p h → p h ∧ ∀ y ∈ l, ∀ oy, ops[y]? = some oy → needsN oy = true → (ms.getD y 0).testBit i = false → ∃ cs mk, NA P oy a cs mk := by
        intro l
        induction l with
        | nil => intro p s; exact ⟨s, fun y hy => by cases hy⟩
        | cons y l ih =>
          intro p s
          unfold vcSide at s
          cases hy : ops[y]? with
          | none =>
            simp only [hy] at s
            obtain ⟨h1, h2⟩ := ih p s
            refine ⟨h1, fun z hz oz hoz hn hb => ?_⟩
            rcases List.mem_cons.1 hz with rfl | hz
            · rw [hy] at hoz; cases hoz
            · exact h2 z hz oz hoz hn hb
          | some oy =>
            simp only [hy] at s
            cases hc : (needsN oy && !(ms.getD y 0).testBit i) with
            | false =>
              simp only [hc] at s
              obtain ⟨h1, h2⟩ := ih p s
              refine ⟨h1, fun z hz oz hoz hn hb => ?_⟩
              rcases List.mem_cons.1 hz with rfl | hz
              · rw [hy] at hoz; cases hoz
                rw [hn, hb] at hc; cases hc
              · exact h2 z hz oz hoz hn hb
            | true =>
              simp only [hc] at s
              obtain ⟨s0, s⟩ := s
              obtain ⟨h1, h2⟩ := ih p s
              refine ⟨h1, fun z hz oz hoz hn hb => ?_⟩
              rcases List.mem_cons.1 hz with rfl | hz
              · rw [hy] at hoz; cases hoz
                have hcn : cls oy.op = .nw := by
                  unfold needsN at hn
                  cases hoo : oy.op <;> simp only [hoo, Bool.false_eq_true] at hn <;> rfl
                obtain ⟨cs, mk, hna, _⟩ := vcOp_nw hcn s0
                exact ⟨cs, mk, fun w => hna a.eval w ok2.fits⟩
              · exact h2 z hz oz hoz hn hb
      have hmem : ∀ d, o.dst = some d → d ∈ opDsts ops.toList := fun d hd => mem_opDsts_get ho hd
      have nxtE : ∀ fs (x : EV) v h, x.get = some v → vcDraw P KP ops ms r fs (putE env2 o.dst x) K h → DS P KP ops ms (fun a' h' => ∃ env', EnvOk D env' a' ∧ Keep (opDsts ops.toList) env0 env' ∧ K env' h') r (a.put o.dst v) fs h :=
        fun fs x v h hx s => draw_DS r fs _ h _ s (ok2.putEV _ hx) ((kp.trans kp2).trans (keep_put _ _ _ hmem))
      have nxt : ∀ fs v h, vcDraw P KP ops ms r fs (putE env2 o.dst (.val v)) K h → DS P KP ops ms (fun a' h' => ∃ env', EnvOk D env' a' ∧ Keep (opDsts ops.toList) env0 env' ∧ K env' h') r (a.put o.dst v) fs h :=
        fun fs v h s => draw_DS r fs _ h _ s (ok2.put _ _) ((kp.trans kp2).trans (keep_put _ _ _ hmem))
      have skipS : cls o.op ≠ .ef → Side P ops ms i r a := fun hne oi hoi hef => by
        rw [ho] at hoi; cases hoi; exact absurd hef hne
      rcases s with ⟨hw, s⟩ | ⟨hw, s⟩
      · rw [if_pos hw]
        cases hc : cls o.op <;> simp only [hc] at s ⊢ <;> first | refine ⟨skipS (by rw [hc]; decide), ?_⟩ | skip
        · obtain ⟨v, hy, x, hx, s⟩ := opE_pv hc s
          exact ⟨v, fun w => hy a.eval w ok2.fits, nxtE _ _ _ _ hx s⟩
        · cases hoo : o.op <;> simp only [hoo] at s <;> first | exact s.elim | skip
          rename_i t x
          obtain ⟨va, hva, s⟩ := gv_some s
          obtain ⟨v, hy, hf, s⟩ := sem_load (P := P) hoo hva s
          exact ⟨v, loadF P t va v, fun h w hf r => hy h a.eval w hf ok2.fits r, loadF_mono t va v, hf, nxt _ _ _ s⟩
        · obtain ⟨cs, mk, hn, s⟩ := vcOp_nw hc (opE_not (by rw [hc]; simp) (fun it str hx => by rw [hx] at hc; cases hc) s)
          exact ⟨cs, mk, fun w => hn a.eval w ok2.fits, fun b hb => nxt _ _ _ (s b hb)⟩
        · obtain ⟨s, sd⟩ := sidev r _ s
          refine ⟨fun oi hoi _ _ y hy oy hoy hn hb => sd y hy oy hoy hn hb, ?_⟩
          have se := opE_ef s
          refine SR.mono (fun w r => se a.eval w ok2.fits r) fun v g _ hg => ?_
          obtain ⟨x, hx, hg⟩ := hg
          obtain ⟨h1, h2⟩ := keepF_kept hg
          exact ⟨h1, nxtE _ _ _ _ hx h2⟩
      · rw [if_neg (by rw [hw]; simp)]
        have hnw : Side P ops ms i r a := fun oi hoi _ hw' => by
          rw [ho] at hoi; cases hoi; rw [hw] at hw'; cases hw'
        refine ⟨hnw, ?_⟩
        exact draw_DS r fs _ h _ s (ok2.putUn _) ((kp.trans kp2).trans (keep_put _ _ _ hmem))

/- The masks. -/
theorem foldl_bit (acc : List Nat) (x : Nat) : ∀ (l : List Edge) (s : Nat), (l.foldl (fun s e => if Region.binds .any e then s ||| (2 ^ e.on) ||| acc.getD e.on 0 else s) s).testBit x = true →
    s.testBit x = true ∨ ∃ e ∈ l, Region.binds .any e = true ∧ (e.on = x ∨ (acc.getD e.on 0).testBit x = true)
  | [], s, h => .inl h
  | e :: l, s, h => by
    simp only [List.foldl_cons] at h
    rcases foldl_bit acc x l _ h with h1 | ⟨e', hm, h1⟩
    · by_cases hb : Region.binds .any e = true
      · rw [if_pos hb] at h1
        simp only [Nat.testBit_or, Nat.testBit_two_pow, Bool.or_eq_true, decide_eq_true_eq] at h1
        rcases h1 with (h1 | h1) | h1
        · exact .inl h1
        · exact .inr ⟨e, List.mem_cons_self .., hb, .inl h1⟩
        · exact .inr ⟨e, List.mem_cons_self .., hb, .inr h1⟩
      · rw [if_neg hb] at h1; exact .inl h1
    · exact .inr ⟨e', List.mem_cons_of_mem _ hm, h1⟩

theorem masks_acc : ∀ (l : List Oper) (acc : List Nat) (q : Nat), q < acc.length → (masks l acc).getD q 0 = acc.getD q 0
  | [], acc, q, _ => rfl
  | o :: r, acc, q, h => by
    rw [masks, masks_acc r _ q (by simp; omega)]
    simp [List.getD_eq_getElem?_getD, List.getElem?_append_left h]

theorem masks_at : ∀ (l : List Oper) (acc : List Nat) (y : Nat) (o : Oper), l[y]? = some o → ∃ acc', acc'.length = acc.length + y ∧ (∀ q, q < acc'.length → (masks l acc).getD q 0 = acc'.getD q 0) ∧ (masks l acc).getD (acc.length + y) 0 = maskOf acc' o
  | [], acc, y, o, h => by simp at h
  | o' :: r, acc, 0, o, h => by
    simp at h; subst h
    refine ⟨acc, rfl, fun q hq => masks_acc _ _ _ hq, ?_⟩
    rw [masks, masks_acc r _ _ (by simp)]
    simp [List.getD_eq_getElem?_getD]
  | o' :: r, acc, y + 1, o, h => by
    obtain ⟨acc', h1, h2, h3⟩ := masks_at r (acc ++ [maskOf acc o']) y o (by simpa using h)
    refine ⟨acc', by simp at h1; omega, fun q hq => h2 q hq, ?_⟩
    rw [masks]
    simp only [List.length_append, List.length_cons, List.length_nil] at h3
    rw [show acc.length + (y + 1) = acc.length + (0 + 1) + y by omega]
    exact h3

theorem masks_spec {y x : Nat} {o : Oper} (ho : ops[y]? = some o) (h : ((masks ops.toList []).getD y 0).testBit x = true) :
    ∃ e ∈ o.after, Region.binds .any e = true ∧ (e.on = x ∨ (e.on < y ∧ ((masks ops.toList []).getD e.on 0).testBit x = true)) := by
  obtain ⟨acc', h1, h2, h3⟩ := masks_at ops.toList [] y o (by rw [Array.getElem?_toList]; exact ho)
  simp only [List.length_nil, Nat.zero_add] at h1 h3
  rw [h3] at h
  rcases foldl_bit acc' x _ 0 h with h | ⟨e, hm, hb, h⟩
  · simp at h
  · refine ⟨e, Array.mem_toList_iff.1 hm, hb, h.imp id fun h => ?_⟩
    have hlt : e.on < acc'.length := by
      rcases Nat.lt_or_ge e.on acc'.length with k | k
      · exact k
      · simp [List.getD_eq_getElem?_getD, List.getElem?_eq_none k] at h
    exact ⟨by omega, by rw [h2 _ hlt]; exact h⟩

/-- What is carried out is closed: whatever an operation comes behind has been. -/
def Closed (ops : Array Oper) (listed : Array Bool) : Prop := ∀ q o, ops[q]? = some o → listed.getD q false = true → ∀ e ∈ o.after, Region.binds .any e = true → listed.getD e.on false = true

theorem closed_mask {listed : Array Bool} (hc : Closed ops listed) : ∀ (n y x : Nat) (o : Oper), y < n → ops[y]? = some o → (∀ e ∈ o.after, Region.binds .any e = true → listed.getD e.on false = true) →
    ((masks ops.toList []).getD y 0).testBit x = true → listed.getD x false = true
  | 0, y, _, _, h, _, _, _ => by omega
  | n + 1, y, x, o, hy, ho, hr, hb => by
    obtain ⟨e, he, hbind, hx⟩ := masks_spec ho hb
    have h1 := hr e he hbind
    rcases hx with rfl | ⟨hlt, hx⟩
    · exact h1
    · cases hoe : ops[e.on]? with
      | none =>
        have hge : ops.size ≤ e.on := by
          rcases Nat.lt_or_ge e.on ops.size with k | k
          · simp [k] at hoe
          · exact k
        exfalso
        have hy' : y < ops.size := (Array.getElem?_eq_some_iff.1 ho).1
        omega
      | some oe => exact closed_mask hc n e.on x oe (by omega) hoe (fun e' he' hb' => hc e.on oe hoe h1 e' he' hb') hx

structure Good (P : Program) (ops : Array Oper) (ms : List Nat) (rem : List Nat) : Prop where
  pass : rem.Pairwise fun x y => (ms.getD y 0).testBit x = true ∨ ∃ ox oy, ops[x]? = some ox ∧ ops[y]? = some oy ∧ mayPass P ops ox oy = true
  pred : rem.Pairwise fun x y => isPred ops x y = false
  look : rem.Pairwise fun x z => Look ops ms x z
  nodup : rem.Nodup
  own : ∀ x ∈ rem, isPred ops x x = false

theorem Look.of_ok {x : Nat} {zs : List Nat} (h : lookOk ops ms x zs = true) : ∀ z ∈ zs, Look ops ms x z := fun z hz ox oz hox hoz hef y oy hoy hn hb d hd hmem => by
  unfold lookOk at h
  simp only [hox, hef] at h
  have hy : y ∈ List.range ops.size := List.mem_range.2 (Array.getElem?_eq_some_iff.1 hoy).1
  have := List.all_eq_true.1 h y hy
  simp only [hoy, hn, hb, Bool.not_true, Bool.false_or] at this
  have := List.all_eq_true.1 this z hz
  simp only [hoz, Option.bind_some, hd] at this
  simp [hmem] at this

theorem Good.of_ord : ∀ {l : List Nat}, ordOk P ops ms l = true → Good P ops ms l
  | [], _ => ⟨.nil, .nil, .nil, .nil, fun _ h => by cases h⟩
  | i :: r, h => by
    simp only [ordOk, Bool.and_eq_true] at h
    obtain ⟨⟨⟨⟨h0, h1⟩, h2⟩, h3⟩, h4⟩ := h
    have g := Good.of_ord h4
    refine ⟨List.pairwise_cons.2 ⟨fun y hy => ?_, g.pass⟩, List.pairwise_cons.2 ⟨fun y hy => ?_, g.pred⟩, List.pairwise_cons.2 ⟨fun y hy => Look.of_ok h0 y hy, g.look⟩, List.nodup_cons.2 ⟨?_, g.nodup⟩, fun x hx => ?_⟩
    · unfold passAll at h1
      have := List.all_eq_true.1 h1 y hy
      simp only [Bool.or_eq_true] at this
      rcases this with h | h
      · exact .inl h
      · right
        cases hi : ops[i]? with
        | none => simp [hi] at h
        | some ox =>
          cases hy' : ops[y]? with
          | none => simp [hi, hy'] at h
          | some oy => simp only [hi, hy'] at h; exact ⟨ox, oy, rfl, rfl, h⟩
    · have := List.all_eq_true.1 h2 y (List.mem_cons_of_mem _ hy)
      simpa using this
    · simpa using h3
    · rcases List.mem_cons.1 hx with rfl | hx
      · have := List.all_eq_true.1 h2 x (List.mem_cons_self ..)
        simpa using this
      · exact g.own x hx

theorem Good.sub {l l' : List Nat} (g : Good P ops ms l) (s : l'.Sublist l) : Good P ops ms l' := ⟨g.pass.sublist s, g.pred.sublist s, g.look.sublist s, g.nodup.sublist s, fun x hx => g.own x (s.subset hx)⟩

/-- One step of the model's, then C. -/
theorem front_wp {i : Nat} {fs : Facts} {a : Act} {h h0 : Heap} {w w0 : World} {C : Act → Facts → Pr} {Q : Exit → Act → World → Prop} {next : Act → World → Prop} (s : Front P KP ops ms i fs a C h) (r : R h w) (f : Fr h0 w0 h w)
    (hn : ∀ v fs' h' w', (∀ x ∈ fs', x ∈ fs ∨ MonoF x.2) → C (a.put ((ops[i]?).bind (·.dst)) v) fs' h' → R h' w' → Fr h0 w0 h' w' → next (a.put ((ops[i]?).bind (·.dst)) v) w')
    (hx : ∀ p w' h', p.recovered = false → p.goexit = false → KP p.v h' → R h' w' → Fr h0 w0 h' w' → Q (.panic [p]) a w') : wpOp P ops Q i next a w := by
  unfold wpOp
  unfold Front at s
  cases ho : ops[i]? with
  | none => simp only [ho] at s
  | some o =>
    simp only [ho, Option.bind_some] at s hn ⊢
    by_cases hw : Region.wanted o (yielded ops a.tmps) = true
    · rw [if_pos hw] at s ⊢
      left
      have fin : ∀ (k : Value → Pr), SR P KP o a k h → (∀ v h' w', k v h' → R h' w' → Fr h0 w0 h' w' → next (a.put o.dst v) w') → o.wp P a w next Q := fun k s hk =>
        opTo_wp (s w r) (fun v w' ⟨h', kk, r', f'⟩ => hk v h' w' kk r' (f.trans f')) (fun p w' h1 h2 ⟨h', kk, r', f'⟩ => hx p w' h' h1 h2 kk r' (f.trans f'))
      cases hc : cls o.op <;> simp only [hc] at s
      · obtain ⟨v, hy, s⟩ := s
        refine fin (fun v => C (a.put o.dst v) fs) (fun w r => ?_) (fun v h' w' k r' f' => hn v fs h' w' (fun x hx => .inl hx) k r' f')
        simp only [OpTo, hy w]
        exact .here r s
      · obtain ⟨v, g, hy, hm, hf, s⟩ := s
        refine fin (fun v => C (a.put o.dst v) ((i, g) :: fs)) (fun w r => ?_) (fun v h' w' k r' f' => hn v _ h' w' (fun x hx => by rcases List.mem_cons.1 hx with rfl | hx; exact .inr hm; exact .inl hx) k r' f')
        simp only [OpTo, hy h w hf r]
        exact .here r s
      · obtain ⟨cs, mk, hna, s⟩ := s
        refine fin (fun v => C (a.put o.dst v) fs) (fun w r => ?_) (fun v h' w' k r' f' => hn v fs h' w' (fun x hx => .inl hx) k r' f')
        obtain ⟨w', ty, hr, hwp, hos, ht, hu⟩ := hna w
        simp only [OpTo, hr]
        have nb := new_block r (cs := cs) (sp := []) (ty := ty) (fr := (0, 0)) (by simpa using hwp) hos ht hu (calm0 _)
        simp only [List.append_nil] at nb
        exact ⟨_, s _ r.fresh, nb.1, nb.2⟩
      · exact fin _ s (fun v h' w' k r' f' => hn v fs h' w' (fun x hx => .inl hx) k.2 r' f')
    · rw [if_neg hw] at s
      have hw' : Region.wanted o (yielded ops a.tmps) = false := by simpa using hw
      rw [hw']
      simp only [Bool.false_eq_true, if_false]
      exact hn undef fs h w (fun x hx => .inl hx) s r f

theorem split_mem : ∀ {l : List Nat} {i : Nat}, i ∈ l → ∃ pre post, l = pre ++ i :: post
  | x :: l, i, h => by
    by_cases e : x = i
    · subst e; exact ⟨[], l, rfl⟩
    · rcases List.mem_cons.1 h with h | h
      · exact absurd h.symm e
      · obtain ⟨pre, post, rfl⟩ := split_mem h; exact ⟨x :: pre, post, rfl⟩

theorem draw_any {K : Act → Pr} {h0 : Heap} {w0 : World} {Q : Exit → Act → World → Prop} (hsel : Region.noSelect ops = true)
    (hms : ms = masks ops.toList []) (hQ : ∀ a h w, a.defers = D → K a h → R h w → Fr h0 w0 h w → Q .normal a w)
    (hX : ∀ a p w h, a.defers = D → p.recovered = false → p.goexit = false → KP p.v h → R h w → Fr h0 w0 h w → Q (.panic [p]) a w) :
    ∀ (n : Nat) (rem : List Nat) (fs : Facts) (a : Act) (h : Heap) (w : World) (listed : Array Bool), rem.length = n → Good P ops ms rem → (∀ j ∈ rem, ∃ o, ops[j]? = some o ∧ ∀ e ∈ o.after, Region.binds .any e = true → e.on < ops.size) →
      (∀ j, j < ops.size → (listed.getD j true = false ↔ j ∈ rem)) → listed.size = ops.size → Closed ops listed → (∀ y ∈ fs, MonoF y.2) → a.defers = D → DS P KP ops ms K rem a fs h → R h w → Fr h0 w0 h w →
      wpAny P .any ops Q n listed a w
  | 0, rem, fs, a, h, w, listed, hlen, g, hin, hl, hsz, hcl, hfs, hd, s, r, f => by
    have e : rem = [] := List.length_eq_zero_iff.1 hlen
    subst e
    refine ⟨?_, hQ a h w hd s r f⟩
    cases hr : Region.ready .any ops listed with
    | nil => rfl
    | cons j l =>
      have hj : j ∈ Region.ready .any ops listed := by rw [hr]; exact List.mem_cons_self ..
      obtain ⟨h1, o, ho, _⟩ := mem_ready.1 hj
      have := (hl j (Array.getElem?_eq_some_iff.1 ho).1).1 h1
      cases this
  | n + 1, rem, fs, a, h, w, listed, hlen, g, hin, hl, hsz, hcl, hfs, hd, s, r, f => by
    have listed_of : ∀ j, j < ops.size → j ∉ rem → listed.getD j false = true := fun j hj hn => by
      have h1 : ¬ listed.getD j true = false := fun e => hn ((hl j hj).1 e)
      have hlt : j < listed.size := by omega
      simp [hlt] at h1 ⊢
      exact h1
    refine ⟨fun hr => ?_, fun i hi => ?_⟩
    · exfalso
      cases rem with
      | nil => simp at hlen
      | cons x rest =>
        obtain ⟨o, ho, hoin⟩ := hin x (List.mem_cons_self ..)
        have hx : x ∈ Region.ready .any ops listed := by
          refine mem_ready.2 ⟨(hl x (Array.getElem?_eq_some_iff.1 ho).1).2 (List.mem_cons_self ..), o, ho, fun e he hb => ?_⟩
          refine listed_of e.on (hoin e he hb) fun hm => ?_
          rcases List.mem_cons.1 hm with hm | hm
          · -- an operation behind itself: it would never be ready; here it is in its own mask
            have hp : isPred ops x x = true := by
              unfold isPred; rw [ho]
              exact List.any_eq_true.2 ⟨e, Array.mem_toList_iff.2 he, by simp [hb, hm]⟩
            rw [g.own x (List.mem_cons_self ..)] at hp; cases hp
          · have hp : isPred ops x e.on = true := by
              unfold isPred; rw [ho]
              exact List.any_eq_true.2 ⟨e, Array.mem_toList_iff.2 he, by simp [hb]⟩
            have := (List.pairwise_cons.1 g.pred).1 e.on hm
            rw [hp] at this; cases this
        rw [hr] at hx; cases hx
    · obtain ⟨hun, oi, hoi, hpreds⟩ := mem_ready.1 hi
      have hisz : i < ops.size := (Array.getElem?_eq_some_iff.1 hoi).1
      have hmem := (hl i hisz).1 hun
      obtain ⟨pre, post, rfl⟩ := split_mem hmem
      have hps : ∀ p ∈ pre, Look ops ms p i ∧ ∃ op, ops[p]? = some op ∧ mayPass P ops op oi = true ∧ (ms.getD i 0).testBit p = false := fun p hp => by
        refine ⟨(List.pairwise_append.1 g.look).2.2 p hp i (List.mem_cons_self ..), ?_⟩
        have hpw := (List.pairwise_append.1 g.pass).2.2 p hp i (List.mem_cons_self ..)
        have hnb : (ms.getD i 0).testBit p = false := by
          cases hb : (ms.getD i 0).testBit p with
          | false => rfl
          | true =>
            exfalso
            rw [hms] at hb
            have hlp := closed_mask hcl _ i p oi (Nat.lt_succ_self _) hoi hpreds hb
            obtain ⟨op, hop, _⟩ := hin p (List.mem_append_left _ hp)
            have hps : p < ops.size := (Array.getElem?_eq_some_iff.1 hop).1
            have hq := (hl p hps).2 (List.mem_append_left _ hp)
            have hlt : p < listed.size := by omega
            simp [hlt] at hlp hq
            rw [hlp] at hq; cases hq
        rcases hpw with hpw | ⟨ox, oy, h1, h2, h3⟩
        · rw [hnb] at hpw; cases hpw
        · rw [hoi] at h2; cases h2; exact ⟨ox, h1, h3, hnb⟩
      have fr := DS.bring (P := P) (KP := KP) hoi hsel post pre fs a h hps (Fin.of_R r) hfs s
      have hsub : (pre ++ post).Sublist (pre ++ i :: post) := List.Sublist.append_left (List.sublist_cons_self _ _) _
      have hni : i ∉ pre ++ post := by
        have := g.nodup
        rw [List.nodup_append] at this
        obtain ⟨_, h2, h3⟩ := this
        intro hm
        rcases List.mem_append.1 hm with hm | hm
        · exact h3 i hm i (List.mem_cons_self ..) rfl
        · exact (List.nodup_cons.1 h2).1 hm
      refine front_wp fr r f (fun v fs' h' w' hx k r' f' => ?_) (fun p w' h' h1 h2 k r' f' => hX a p w' h' hd h1 h2 k r' f')
      refine draw_any hsel hms hQ hX n (pre ++ post) fs' _ h' w' (listed.setIfInBounds i true) (by simp at hlen ⊢; omega) (g.sub hsub) (fun j hj => hin j (hsub.subset hj)) (fun j hj => ?_) (by simpa using hsz) (fun q o ho hq e he hb => ?_)
        (fun y hy => (hx y hy).elim (fun hm => hfs y hm) id) ?_ k r' f'
      · by_cases hij : i = j
        · subst hij
          have hlt : i < listed.size := by omega
          simp [hlt]
          exact ⟨fun h => hni (List.mem_append_left _ h), fun h => hni (List.mem_append_right _ h)⟩
        · rw [getD_set_ne true hij, hl j hj]
          simp only [List.mem_append, List.mem_cons]
          constructor
          · rintro (h | h | h)
            · exact .inl h
            · exact absurd h.symm hij
            · exact .inr h
          · rintro (h | h)
            · exact .inl h
            · exact .inr (.inr h)
      · by_cases hiq : i = q
        · subst hiq
          rw [hoi] at ho; cases ho
          exact getD_set_true (hpreds e he hb)
        · rw [getD_set_ne false hiq] at hq
          exact getD_set_true (hcl q o ho hq e he hb)
      · cases (ops[i]?).bind (·.dst) <;> exact hd

end
theorem draw_wpAny {P : Program} {KP : Value → Pr} {ops : Array Oper} {K : Env → Pr} {h0 : Heap} {w0 : World} {env : Env} {h : Heap} {l : List Nat} {a : Act} {w : World}
    (hd : drawOk P ops l = true) (s : vcDraw P KP ops (masks ops.toList []) l [] env K h) (ok : EnvOk D env a) (r : R h w) (f : Fr h0 w0 h w) :
    wpAny P .any ops (RPost D h0 w0 (opDsts ops.toList) env K KP) ops.size (Array.replicate ops.size false) a { w with drawn := w.drawn + 1 } := by
  unfold drawOk at hd
  simp only [Bool.and_eq_true] at hd
  obtain ⟨⟨⟨hsel, hall⟩, hpi⟩, hord⟩ := hd
  have g := Good.of_ord (P := P) hord
  have mem : ∀ j, j < ops.size → j ∈ l := fun j hj => by
    have := List.all_eq_true.1 hall j (List.mem_range.2 hj)
    simpa using this
  have hin : ∀ j ∈ l, ∃ o, ops[j]? = some o ∧ ∀ e ∈ o.after, Region.binds .any e = true → e.on ∈ l := fun j hj => by
    have := List.all_eq_true.1 hpi j hj
    cases ho : ops[j]? with
    | none => simp [ho] at this
    | some o =>
      simp only [ho] at this
      refine ⟨o, rfl, fun e he hb => ?_⟩
      have := List.all_eq_true.1 this e (Array.mem_toList_iff.2 he)
      simpa [hb] using this
  have hsize : ∀ j ∈ l, j < ops.size := fun j hj => by obtain ⟨o, ho, _⟩ := hin j hj; exact (Array.getElem?_eq_some_iff.1 ho).1
  have hlen : l.length = ops.size := by
    have h1 : l.length ≤ (List.range ops.size).length := List.Nodup.length_le_of_subset g.nodup (fun j hj => List.mem_range.2 (hsize j hj))
    have h2 : (List.range ops.size).length ≤ l.length := List.Nodup.length_le_of_subset List.nodup_range (fun j hj => mem j (List.mem_range.1 hj))
    simp at h1 h2; omega
  have ds := draw_DS (P := P) (KP := KP) l [] env h a s ok (Keep.refl _ env)
  rw [← hlen]
  refine draw_any (h0 := h0) (w0 := w0) hsel rfl (fun a h w hd k r f => ?_) (fun a p w h hd h1 h2 k r f => ⟨hd, h1, h2, h, k, r, f⟩) l.length l [] a h _ _ rfl g
    (fun j hj => by obtain ⟨o, ho, he⟩ := hin j hj; exact ⟨o, ho, fun e hm hb => hsize _ (he e hm hb)⟩) (fun j hj => ?_) (by simp [hlen]) (fun q o ho hq => ?_) (fun y hy => by cases hy) ok.defs ds (r.of_heap rfl) (f.trans (Fr.of_heap rfl rfl rfl rfl))
  · obtain ⟨env', ok', kp', hk⟩ := k
    exact ⟨env', ok', kp', h, hk, r, f⟩
  · rw [← hlen] at hj
    simp [hj]
    exact mem j (by omega)
  · simp only [Array.getD_eq_getD_getElem?, Array.getElem?_replicate] at hq
    split at hq <;> simp at hq

theorem draw_sound {P : Program} {KP : Value → Pr} {ops : Array Oper} {K : Env → Pr} {h0 : Heap} {w0 : World} {env : Env} {h : Heap} {l : List Nat} {id : Nat} {a : Act} {w : World} (hm : P.follows .mixedOrders = true)
    (hd : drawOk P ops l = true) (s : vcDraw P KP ops (masks ops.toList []) l [] env K h) (ok : EnvOk D env a) (r : R h w) (f : Fr h0 w0 h w) :
    (Code.region id ops true).wp P (RPost D h0 w0 (opDsts ops.toList) env K KP) a w :=
  wp_region_any hm (draw_wpAny hd s ok r f)

end Go.Hl

namespace Go.Hl
variable {D : List Deferred}

def CPost (D : List Deferred) (h0 : Heap) (w0 : World) (S : List Nat) (env0 : Env) (K : Exit → Env → Pr) (KP : Value → Pr) : Exit → Act → World → Prop
  | .panic [p], a', w' => a'.defers = D ∧ p.recovered = false ∧ p.goexit = false ∧ ∃ h', KP p.v h' ∧ R h' w' ∧ Fr h0 w0 h' w'
  | .panic _, _, _ => False
  | .outgrown, _, _ => False
  | e, a', w' => ∃ env', EnvOk D env' a' ∧ Keep S env0 env' ∧ ∃ h', K e env' h' ∧ R h' w' ∧ Fr h0 w0 h' w'

/-- The exits of which K speaks. -/
def Exit.said : Exit → Bool
  | .panic _ | .outgrown => false
  | _ => true

theorem CPost.said {h0 : Heap} {w0 : World} {S : List Nat} {env0 : Env} {K : Exit → Env → Pr} {KP : Value → Pr} {e : Exit} {a : Act} {w : World} (he : Exit.said e = true) :
    CPost D h0 w0 S env0 K KP e a w = ∃ env', EnvOk D env' a ∧ Keep S env0 env' ∧ ∃ h', K e env' h' ∧ R h' w ∧ Fr h0 w0 h' w := by
  cases e <;> first | rfl | cases he

/-- From one post to another: the panics are the same, the other exits by 'm'. -/
theorem CPost.map {h0 : Heap} {w0 : World} {S T : List Nat} {env0 env1 : Env} {K K' : Exit → Env → Pr} {KP : Value → Pr} {e : Exit} {a : Act} {w : World} (p : CPost D h0 w0 S env0 K KP e a w)
    (m : ∀ env', Exit.said e = true → EnvOk D env' a → Keep S env0 env' → ∀ h', K e env' h' → R h' w → Fr h0 w0 h' w → CPost D h0 w0 T env1 K' KP e a w) : CPost D h0 w0 T env1 K' KP e a w := by
  cases he : Exit.said e with
  | true =>
    rw [CPost.said he] at p
    obtain ⟨env', ok, kp, h', k, r, f⟩ := p
    exact m env' he ok kp h' k r f
  | false =>
    cases e with
    | panic ch => cases ch with
      | nil => exact p
      | cons x t => cases t <;> exact p
    | outgrown => exact p
    | normal => cases he
    | exit _ => cases he
    | goto _ => cases he
    | ret => cases he

theorem RPost.toC {h0 : Heap} {w0 : World} {S : List Nat} {env0 : Env} {K : Exit → Env → Pr} {KP : Value → Pr} {e : Exit} {a : Act} {w : World} (p : RPost D h0 w0 S env0 (K .normal) KP e a w) : CPost D h0 w0 S env0 K KP e a w := by
  cases e <;> try exact p.elim
  case normal => exact p
  case panic ch => cases ch with
    | nil => exact p
    | cons x t => cases t <;> exact p

theorem kill_at : ∀ (S : List Nat) (env : Env) (i : Nat) (v : Value), ((kill S env).at i).get = some v → i ∉ S ∧ (env.at i).get = some v
  | [], env, i, v, h => ⟨by simp, h⟩
  | t :: S, env, i, v, h => by
    obtain ⟨h1, h2⟩ := kill_at S _ i v h
    rw [at_set] at h2
    by_cases hc : t = i ∧ i < env.length
    · rw [if_pos hc] at h2; cases h2
    · rw [if_neg hc] at h2
      refine ⟨?_, h2⟩
      intro hm
      rcases List.mem_cons.1 hm with e | hm
      · subst e
        apply hc
        refine ⟨rfl, ?_⟩
        rcases Nat.lt_or_ge i env.length with k | k
        · exact k
        · simp [Env.at, List.getD_eq_getElem?_getD, List.getElem?_eq_none k, EV.get] at h2
      · exact h1 hm

theorem kill_len : ∀ (S : List Nat) (env : Env), (kill S env).length = env.length
  | [], _ => rfl
  | t :: S, env => by rw [kill, kill_len S]; simp

theorem put_len : ∀ (l : List (Nat × Shape)) (s : St l) (env : Env), (St.put l s env).length = env.length
  | [], _, _ => rfl
  | (t, sh) :: r, s, env => by rw [St.put, put_len r]; simp

theorem put_get : ∀ (l : List (Nat × Shape)) (s : St l) (env : Env), St.get l env = some s → ∀ (base : Env) (i : Nat), ((St.put l s base).at i).get = (base.at i).get ∨ ((St.put l s base).at i).get = (env.at i).get
  | [], _, _, _, _, _ => .inl rfl
  | (t, sh) :: r, s, env, h, base, i => by
    simp only [St.get] at h
    cases hv : (env.at t).get with
    | none => simp [hv] at h
    | some v =>
      simp only [hv] at h
      cases hp : sh.proj v with
      | none => simp [hp] at h
      | some x =>
        simp only [hp] at h
        cases hg : St.get r env with
        | none => simp [hg] at h
        | some y =>
          simp only [hg] at h
          cases h
          rcases put_get r y env hg (base.set t (.val (sh.inj x))) i with h1 | h1
          · show ((St.put r y (base.set t (.val (sh.inj x)))).at i).get = _ ∨ ((St.put r y (base.set t (.val (sh.inj x)))).at i).get = _
            rw [h1, at_set]
            by_cases hc : t = i ∧ i < base.length
            · rw [if_pos hc]
              right
              obtain ⟨rfl, _⟩ := hc
              rw [hv, sh.proj_inj v x hp]; rfl
            · rw [if_neg hc]; exact .inl rfl
          · exact .inr h1

/-- The environment at a join, or at the head of a loop. -/
theorem join_ok {J : List (Nat × Shape)} {S : List Nat} {env env' : Env} {a : Act} {s : St J} (ok : EnvOk D env' a) (kp : Keep S env env') (hg : St.get J env' = some s) : EnvOk D (St.put J s (kill S env)) a := by
  refine ⟨by rw [put_len, kill_len, ← kp.len, ok.size], fun i v hv => ?_, ok.defs⟩
  rcases put_get J s env' hg (kill S env) i with h1 | h1
  · rw [h1] at hv
    obtain ⟨h2, h3⟩ := kill_at S env i v hv
    exact ok.val i v (by rw [kp.get i h2]; exact h3)
  · rw [h1] at hv; exact ok.val i v hv

theorem kill_get : ∀ (S : List Nat) (env : Env) (i : Nat), i ∉ S → (kill S env).at i = env.at i
  | [], _, _, _ => rfl
  | t :: S, env, i, h => by
    rw [kill, kill_get S _ i (fun k => h (List.mem_cons_of_mem _ k)), at_set, if_neg (fun (hc : t = i ∧ _) => h (by rw [hc.1]; exact List.mem_cons_self ..))]

theorem join_keep {J : List (Nat × Shape)} {S : List Nat} {env env' : Env} {s : St J} (kp : Keep S env env') (hg : St.get J env' = some s) : Keep S env (St.put J s (kill S env)) := by
  refine ⟨by rw [put_len, kill_len], fun i hi => ?_⟩
  rcases put_get J s env' hg (kill S env) i with h1 | h1
  · rw [h1, kill_get S env i hi]
  · rw [h1, kp.get i hi]

theorem code_sound {P : Program} {KP : Value → Pr} (hm : P.follows .mixedOrders = true) : ∀ (c : Code) (ann : Ann) (env : Env) (K : Exit → Env → Pr) (h : Heap), vcCode P KP c ann env K h →
    ∀ h0 w0 a w, EnvOk D env a → R h w → Fr h0 w0 h w → c.wp P (CPost D h0 w0 (assigned c) env K KP) a w
  | .skip, ann, env, K, h, s, h0, w0, a, w, ok, r, f => by
    have s' : K .normal env h := by cases ann <;> exact s
    exact wp_skip ⟨env, ok, Keep.refl _ _, h, s', r, f⟩
  | .label _, ann, env, K, h, s, h0, w0, a, w, ok, r, f => by
    have s' : K .normal env h := by cases ann <;> exact s
    exact wp_label ⟨env, ok, Keep.refl _ _, h, s', r, f⟩
  | .exit i, ann, env, K, h, s, h0, w0, a, w, ok, r, f => by
    have s' : K (.exit i) env h := by cases ann <;> exact s
    exact wp_exit ⟨env, ok, Keep.refl _ _, h, s', r, f⟩
  | .ret, ann, env, K, h, s, h0, w0, a, w, ok, r, f => by
    have s' : K .ret env h := by cases ann <;> exact s
    exact wp_ret ⟨env, ok, Keep.refl _ _, h, s', r, f⟩
  | .region id ops false, ann, env, K, h, s, h0, w0, a, w, ok, r, f => by
    have s' : vcIdx P KP ops (List.range ops.size) env (K .normal) h := by cases ann <;> exact s
    refine wp_mono (wp_region (idx_sound (h0 := h0) (w0 := w0) (env0 := env) _ env h s' a w ok (Keep.refl _ _) r f)) fun e a w p => ?_
    exact RPost.toC p
  | .region id ops true, ann, env, K, h, s, h0, w0, a, w, ok, r, f => by
    cases ann <;> try exact s.elim
    rename_i l
    unfold vcCode at s
    cases hd : drawOk P ops l with
    | false => simp only [hd] at s; exact s.elim
    | true =>
      simp only [hd] at s
      refine wp_mono (draw_sound hm hd s (h0 := h0) (w0 := w0) ok r f) fun e a w p => ?_
      exact RPost.toC p
  | .seq x y, ann, env, K, h, s, h0, w0, a, w, ok, r, f => by
    cases ann <;> try exact s.elim
    case two ax ay =>
      unfold vcCode at s
      refine wp_seq (wp_mono (code_sound hm x ax env _ h s h0 w0 a w ok r f) fun e a' w' p => ?_)
      by_cases hn : e = .normal
      · subst hn
        obtain ⟨env', ok', kp', h', k', r', f'⟩ := p
        refine wp_mono (code_sound hm y ay env' K h' k' h0 w0 a' w' ok' r' f') fun e2 a2 w2 p2 => ?_
        refine p2.map fun env2 he ok2 kp2 h2 k2 r2 f2 => ?_
        rw [CPost.said he]
        exact ⟨env2, ok2, (kp'.mono (fun i hi => List.mem_append_left _ hi)).trans (kp2.mono (fun i hi => List.mem_append_right _ hi)), h2, k2, r2, f2⟩
      · have : CPost D h0 w0 (assigned (x.seq y)) env K KP e a' w' := by
          refine p.map fun env2 he ok2 kp2 h2 k2 r2 f2 => ?_
          rw [CPost.said he]
          refine ⟨env2, ok2, kp2.mono (fun i hi => List.mem_append_left _ hi), h2, ?_, r2, f2⟩
          cases e <;> first | exact k2 | exact absurd rfl hn
        cases e <;> first | exact this | exact absurd rfl hn
    case join ax ay J =>
      unfold vcCode at s
      refine wp_seq (wp_mono (code_sound hm x ax env _ h s h0 w0 a w ok r f) fun e a' w' p => ?_)
      by_cases hn : e = .normal
      · subst hn
        obtain ⟨env', ok', kp', h', k', r', f'⟩ := p
        simp only at k'
        cases hg : St.get J env' with
        | none => simp only [hg] at k'; exact k'.elim
        | some st =>
          simp only [hg] at k'
          refine wp_mono (code_sound hm y ay _ K h' k' h0 w0 a' w' (join_ok ok' kp' hg) r' f') fun e2 a2 w2 p2 => ?_
          refine p2.map fun env2 he ok2 kp2 h2 k2 r2 f2 => ?_
          rw [CPost.said he]
          exact ⟨env2, ok2, ((join_keep kp' hg).mono (fun i hi => List.mem_append_left _ hi)).trans (kp2.mono (fun i hi => List.mem_append_right _ hi)), h2, k2, r2, f2⟩
      · have : CPost D h0 w0 (assigned (x.seq y)) env K KP e a' w' := by
          refine p.map fun env2 he ok2 kp2 h2 k2 r2 f2 => ?_
          rw [CPost.said he]
          refine ⟨env2, ok2, kp2.mono (fun i hi => List.mem_append_left _ hi), h2, ?_, r2, f2⟩
          cases e <;> first | exact k2 | exact absurd rfl hn
        cases e <;> first | exact this | exact absurd rfl hn
  | .cond c x y, ann, env, K, h, s, h0, w0, a, w, ok, r, f => by
    cases ann <;> try exact s.elim
    rename_i ax ay
    unfold vcCode at s
    have left : vcCode P KP x ax env K h → x.wp P (CPost D h0 w0 (assigned (.cond c x y)) env K KP) a w := fun s =>
      wp_mono (code_sound hm x ax env K h s h0 w0 a w ok r f) fun e a' w' p => p.map fun env2 he ok2 kp2 h2 k2 r2 f2 => by
        rw [CPost.said he]; exact ⟨env2, ok2, kp2.mono (fun i hi => List.mem_append_left _ hi), h2, k2, r2, f2⟩
    have right : vcCode P KP y ay env K h → y.wp P (CPost D h0 w0 (assigned (.cond c x y)) env K KP) a w := fun s =>
      wp_mono (code_sound hm y ay env K h s h0 w0 a w ok r f) fun e a' w' p => p.map fun env2 he ok2 kp2 h2 k2 r2 f2 => by
        rw [CPost.said he]; exact ⟨env2, ok2, kp2.mono (fun i hi => List.mem_append_right _ hi), h2, k2, r2, f2⟩
    cases he : evE env c with
    | un => simp only [he] at s; exact s.elim
    | sk => simp only [he] at s; exact s.elim
    | over => simp only [he] at s; exact s.elim
    | step _ _ => simp only [he] at s; exact s.elim
    | tt => simp only [he] at s; exact wp_cond_true (ok.fits c _ (by rw [he]; rfl)) (left s)
    | ff => simp only [he] at s; exact wp_cond_false (ok.fits c _ (by rw [he]; rfl)) (right s)
    | val v =>
      simp only [he] at s
      cases v <;> try exact s.elim
      rename_i t
      refine wp_cond_split (t := t) (ok.fits c _ (by rw [he]; rfl)) (fun ht => left (s.1 ht)) (fun ht => right (s.2 ht))
  | .block id c, ann, env, K, h, s, h0, w0, a, w, ok, r, f => by
    cases ann <;> try exact s.elim
    rename_i ax
    unfold vcCode at s
    refine wp_block (wp_mono (code_sound hm c ax env _ h s h0 w0 a w ok r f) fun e a' w' p => ?_)
    by_cases hx : ∃ i, e = .exit i
    · obtain ⟨i, rfl⟩ := hx
      obtain ⟨env', ok', kp', h', k', r', f'⟩ := p
      simp only [Exit.inBlock]
      simp only at k'
      by_cases hi : i = id
      · rw [if_pos hi] at k' ⊢
        exact ⟨env', ok', kp', h', k', r', f'⟩
      · rw [if_neg hi] at k' ⊢
        exact ⟨env', ok', kp', h', k', r', f'⟩
    · have : CPost D h0 w0 (assigned (.block id c)) env K KP e a' w' := by
        refine p.map fun env2 he ok2 kp2 h2 k2 r2 f2 => ?_
        rw [CPost.said he]
        refine ⟨env2, ok2, kp2, h2, ?_, r2, f2⟩
        cases e <;> first | exact k2 | exact absurd ⟨_, rfl⟩ hx
      cases e <;> first | exact this | exact absurd ⟨_, rfl⟩ hx
  | .loop c, ann, env, K, h, s, h0, w0, a, w, ok, r, f => by
    cases ann <;> try exact s.elim
    rename_i J ax
    unfold vcCode at s
    cases hg : St.get J env with
    | none => simp only [hg] at s; exact s.elim
    | some s0 =>
      simp only [hg] at s
      obtain ⟨n, hn⟩ := s
      intro b k cs
      have key : ∀ (n : Nat) (st : St J) (h : Heap), iter (fun (s : St J) (k : St J → Pr) => vcCode P KP c ax (St.put J s (kill (assigned c) env)) fun e env' => match e with
            | .normal => (match St.get J env' with
              | some s => k s
              | none => F)
            | e => K e env') n st h → ∀ a w, EnvOk D (St.put J st (kill (assigned c) env)) a → Keep (assigned c) env (St.put J st (kill (assigned c) env)) → R h w → Fr h0 w0 h w →
          ∃ e a' w', CPost D h0 w0 (assigned (.loop c)) env K KP e a' w' ∧ Arrives P (lone (b.at a (.code c :: .inLoop c :: k)) cs w) b k cs e a' w' := by
        intro n
        induction n with
        | zero => intro st h hit; exact hit.elim
        | succ n ih =>
          intro st h hit a w ok kp r f
          obtain ⟨e, a₁, w₁, hq, harr⟩ := code_sound hm c ax _ _ h hit h0 w0 a w ok r f b (.inLoop c :: k) cs
          by_cases hne : e = .normal
          · subst hne
            obtain ⟨env', ok', kp', h', k', r', f'⟩ := hq
            simp only at k'
            cases hg' : St.get J env' with
            | none => simp only [hg'] at k'; exact k'.elim
            | some st' =>
              simp only [hg'] at k'
              have kpall : Keep (assigned c) env env' := kp.trans kp'
              obtain ⟨e₂, a₂, w₂, hq₂, harr₂⟩ := ih st' h' k' a₁ w₁ (join_ok ok' kpall hg') (join_keep kpall hg') r' f'
              exact ⟨e₂, a₂, w₂, hq₂, .of_steps (Steps.trans harr (.one step_inLoop)) harr₂⟩
          · refine ⟨e, a₁, w₁, hq.map fun env2 he ok2 kp2 h2 k2 r2 f2 => ?_, ?_⟩
            · rw [CPost.said he]
              refine ⟨env2, ok2, kp.trans kp2, h2, ?_, r2, f2⟩
              cases e <;> first | exact k2 | exact absurd rfl hne
            · exact .pass (x := .inLoop c) rfl (fun _ _ => .inl hne) harr
      obtain ⟨e, a', w', hq, harr⟩ := key n s0 h hn a w (join_ok ok (Keep.refl _ _) hg) (join_keep (Keep.refl _ _) hg) r f
      exact ⟨e, a', w', hq, .of_steps (.one step_loop) harr⟩
  | .scope c, ann, env, K, h, s, h0, w0, a, w, ok, r, f => by
    cases ann <;> try exact s.elim
    rename_i x
    refine wp_scope_straight (wp_mono (code_sound hm c x env _ h s h0 w0 a w ok r f) fun e a w p => ?_)
    cases e with
    | goto l => obtain ⟨_, _, _, _, k', _, _⟩ := p; exact k'.elim
    | normal => exact p
    | exit i => exact p
    | ret => exact p
    | panic ch => cases ch with
      | nil => exact p
      | cons q t => cases t <;> exact p
    | outgrown => exact p
  | .goto _, ann, _, _, _, s, _, _, _, _, _, _, _ => by cases ann <;> exact s.elim
  | .rangeFunc .., ann, _, _, _, s, _, _, _, _, _, _, _ => by cases ann <;> exact s.elim
  | .refuse _, ann, _, _, _, s, _, _, _, _, _, _, _ => by cases ann <;> exact s.elim

theorem res_sound {P : Program} {env : Env} : ∀ (l : List ResultVar) (k : List Value → Pr) (h : Heap), vcRes P env l k h → ∀ a w, EnvOk D env a → R h w →
    ∃ vs, k vs h ∧ (l.mapM (fun (x : ResultVar) => match x with
    | .tmp t => (pure (a.tmps.getD t undef) : Sem Value)
    | .cell ad t => do loadVar t (← asAddr (a.tmps.getD ad undef)))).run P w = .ok vs w
  | [], k, h, s, a, w, ok, r => ⟨[], s, by simp⟩
  | .tmp t :: l, k, h, s, a, w, ok, r => by
    obtain ⟨v, hv, s⟩ := gv_some s
    obtain ⟨vs, hk, hr⟩ := res_sound l _ h s a w ok r
    refine ⟨v :: vs, hk, ?_⟩
    have := ok.val t v hv
    simp only [List.mapM_cons, Sem.run_bind, Sem.run_pure, Result.andThen_ok, hr]
    simp [this]
  | .cell ad t :: l, k, h, s, a, w, ok, r => by
    obtain ⟨va, hv, s⟩ := gv_some s
    have := ok.val ad va hv
    have hgd : a.tmps.getD ad undef = va := by simp [this]
    have : ∃ v, (∃ p, va = .pointer (some p) ∧ (loadVar t p).run P w = .ok v w) ∧ vcRes P env l (fun vs => k (v :: vs)) h := by
      unfold vcLoad at s
      cases va <;> try exact s.elim
      rename_i pa
      cases pa with
      | none => exact s.elim
      | some p =>
        simp only at s
        cases hu : P.underlying t with
        | none => simp only [hu] at s; exact s.elim
        | some d =>
          simp only [hu] at s
          by_cases hs : shapeD d = .agg
          · simp only [hs] at s
            obtain ⟨cs, hc, hk⟩ := s
            exact ⟨_, ⟨p, rfl, load_agg r hu (shape_agg hs) hc⟩, hk⟩
          · have hna := shape_notAgg hs
            cases hd : shapeD d <;> simp only [hd] at s hs <;> first
              | exact absurd trivial hs
              | (obtain ⟨y, hc, hk⟩ := s; exact ⟨_, ⟨p, rfl, load_cell r hu hna hc⟩, hk⟩)
    obtain ⟨v, ⟨p, rfl, hl⟩, s3⟩ := this
    obtain ⟨vs, hk, hr⟩ := res_sound l _ h s3 a w ok r
    refine ⟨v :: vs, hk, ?_⟩
    have hp : (asAddr (.pointer (some p))).run P w = .ok p w := rfl
    simp only [List.mapM_cons, Sem.run_bind, hgd, hp, Sem.run_pure, Result.andThen_ok, hl, hr]

theorem results_run {P : Program} {env : Env} {fn : Func} {k : List Value → Pr} {h : Heap} (s : vcRes P env fn.results.toList k h) {a : Act} {w : World} (ok : EnvOk D env a) (r : R h w) :
    ∃ vs, k vs h ∧ (results fn a.tmps).run P w = .ok (match vs with | [v] => v | vs => .tuple vs.toArray) w := by
  obtain ⟨vs, hk, hr⟩ := res_sound _ k h s a w ok r
  refine ⟨vs, hk, ?_⟩
  unfold results
  rw [Array.mapM_eq_mapM_toList]
  simp only [Sem.run_bind, Sem.run_map]
  erw [hr]
  simp only [Result.andThen_ok, Sem.run_pure]
  match vs with
  | [] => rfl
  | [v] => rfl
  | _ :: _ :: _ => rfl

/-- The rule for a function. -/
theorem WpCall.of_vc {P : Program} {f : FuncId} {fn : Func} {c : Code} {args : List Value} {KP K : Value → Pr} {h : Heap} (hm : P.follows .mixedOrders = true) (hf : P.funcs[f]? = some fn) (hb : fn.body = some c)
    (hc : ∀ as w, (callFunc f as).run P w = .ok (.enter f as) w) (ann : Ann)
    (s : vcBody P fn c ann args (fun v h' => ∃ g, Heap.le g h' ∧ KP v g) (fun v h' => ∃ g, Heap.le g h' ∧ K v g) h) : WpCall P f args.toArray KP K h := by
  refine WpCall.forget ⟨?_⟩
  intro w r
  unfold CallTo
  rw [hc]
  refine calls_of_wp hf hb ?_
  unfold vcBody at s
  have ok : EnvOk [] (args.map .val ++ List.replicate (fn.ntmps - args.length) .un) { tmps := args.toArray ++ Array.replicate (fn.ntmps - args.toArray.size) undef, defers := [] } := by
    refine ⟨by simp, fun i v hv => ?_, rfl⟩
    unfold Env.at at hv
    rw [List.getD_eq_getElem?_getD] at hv
    rcases Nat.lt_or_ge i args.length with hi | hi
    · rw [List.getElem?_append_left (by simpa using hi)] at hv
      simp [hi, EV.get] at hv
      rw [Array.getElem?_append_left (by simpa using hi)]
      simp [hi, hv]
    · rw [List.getElem?_append_right (by simpa using hi)] at hv
      rcases Nat.lt_or_ge (i - args.length) (fn.ntmps - args.length) with hj | hj
      · simp [hj, EV.get] at hv
      · simp [List.getElem?_replicate, EV.get] at hv
        rw [if_neg (by omega)] at hv
        simp at hv
  refine wp_mono (code_sound hm c ann _ _ h s h w _ w ok r (Fr.refl h w)) fun e a' w' p => ?_
  have fin : ∀ env' h', EnvOk [] env' a' → R h' w' → Fr h w h' w' → (vcRes P env' fn.results.toList fun vs => match vs with
      | [v] => (fun v h' => ∃ g, Heap.le g h' ∧ K v g) v
      | vs => (fun v h' => ∃ g, Heap.le g h' ∧ K v g) (.tuple vs.toArray)) h' →
      a'.defers = [] ∧ ∃ v, (results fn a'.tmps).run P w' = .ok v w' ∧ Ends h w (fun h' => ∃ g, Heap.le g h' ∧ K v g) w' := by
    intro env' h' ok' r' f' k'
    obtain ⟨vs, hk, hr⟩ := results_run k' ok' r'
    refine ⟨ok'.defs, _, hr, h', ?_, r', f'⟩
    match vs, hk with
    | [], hk => exact hk
    | [v], hk => exact hk
    | _ :: _ :: _, hk => exact hk
  cases e <;> try exact p.elim
  case normal =>
    obtain ⟨env', ok', _, h', k', r', f'⟩ := p
    exact fin env' h' ok' r' f' k'
  case ret =>
    obtain ⟨env', ok', _, h', k', r', f'⟩ := p
    exact fin env' h' ok' r' f' k'
  case panic ch =>
    cases ch with
    | nil => exact p.elim
    | cons x t => cases t with
      | nil =>
        obtain ⟨hd, h1, h2, h', hk, r', f'⟩ := p
        exact ⟨hd, h1, h2, h', hk, r', f'⟩
      | cons _ _ => exact p.elim
  case exit i =>
    obtain ⟨env', _, _, h', k', _, _⟩ := p
    exact k'.elim
  case goto l =>
    obtain ⟨env', _, _, h', k', _, _⟩ := p
    exact k'.elim

end Go.Hl

set_option linter.unusedVariables false
set_option linter.unusedSimpArgs false
namespace Go.Hl

/-- A deferred call that does nothing where the frame returns. -/
def Idle (P : Program) (d : Deferred) : Prop := ∃ fv cap g as, d.target = .fn fv cap ∧ (∀ w, (invoke d.target d.args).run P w = .ok (.enter g as) w) ∧
  ∀ w, CallsD P g as .returning w fun e u' w' => (∃ v, e = .returned v) ∧ u' = .returning ∧ w' = w
/-- A piece of code that defers such a call, and writes the slot t. -/
def DefersIdle (P : Program) (c1 : Code) (t : Nat) : Prop := ∀ (a : Act) (w : World), a.defers = [] → (t < a.tmps.size) → c1.wp P (fun e a' w' => e = .normal ∧ w' = w ∧ (∃ d, a'.defers = [d] ∧ Idle P d) ∧ a'.tmps.size = a.tmps.size ∧ ∀ i, i ≠ t → a'.tmps[i]? = a.tmps[i]?) a w

/-- The rule for a function that begins with c0, defers by c1, and goes on with c2; no panic. -/
theorem WpCall.of_vcD {P : Program} {f : FuncId} {fn : Func} {c0 c1 c2 : Code} {args : List Value} {KP K : Value → Pr} {h : Heap} (hm : P.follows .mixedOrders = true) (hf : P.funcs[f]? = some fn) (hb : fn.body = some (.seq c0 (.seq c1 c2)))
    (hc : ∀ as w, (callFunc f as).run P w = .ok (.enter f as) w) (t : Nat) (ht0 : t ∉ assigned c0) (hta : args.length ≤ t) (htn : t < fn.ntmps) (h1 : DefersIdle P c1 t) (ann0 ann2 : Ann)
    (s : vcBody P fn (.seq c0 c2) (.two ann0 ann2) args (fun _ _ => False) (fun v h' => ∃ g, Heap.le g h' ∧ K v g) h) : WpCall P f args.toArray KP K h := by
  refine WpCall.forget ⟨?_⟩
  intro w r
  unfold CallTo
  rw [hc]
  refine calls_of_wp_defers hf hb ?_
  unfold vcBody at s
  have ok : EnvOk [] (args.map .val ++ List.replicate (fn.ntmps - args.length) .un) { tmps := args.toArray ++ Array.replicate (fn.ntmps - args.toArray.size) undef, defers := [] } := by
    refine ⟨by simp, fun i v hv => ?_, rfl⟩
    unfold Env.at at hv
    rw [List.getD_eq_getElem?_getD] at hv
    rcases Nat.lt_or_ge i args.length with hi | hi
    · rw [List.getElem?_append_left (by simpa using hi)] at hv
      simp [hi, EV.get] at hv
      rw [Array.getElem?_append_left (by simpa using hi)]
      simp [hi, hv]
    · rw [List.getElem?_append_right (by simpa using hi)] at hv
      rcases Nat.lt_or_ge (i - args.length) (fn.ntmps - args.length) with hj | hj
      · simp [hj, EV.get] at hv
      · simp [List.getElem?_replicate, EV.get] at hv
        rw [if_neg (by omega)] at hv
        simp at hv
  have hun : ∀ v, (Env.at (args.map EV.val ++ List.replicate (fn.ntmps - args.length) EV.un) t).get ≠ some v := fun v hv => by
    unfold Env.at at hv
    rw [List.getD_eq_getElem?_getD, List.getElem?_append_right (by simpa using hta)] at hv
    simp only [List.getElem?_replicate] at hv
    split at hv <;> simp [EV.get] at hv
  have fin : ∀ D env' (a' : Act) (w' : World) h', EnvOk D env' a' → R h' w' → Fr h w h' w' → (vcRes P env' fn.results.toList fun vs => match vs with
      | [v] => (fun v h' => ∃ g, Heap.le g h' ∧ K v g) v
      | vs => (fun v h' => ∃ g, Heap.le g h' ∧ K v g) (.tuple vs.toArray)) h' →
      ∃ v, (results fn a'.tmps).run P w' = .ok v w' ∧ Ends h w (fun h' => ∃ g, Heap.le g h' ∧ K v g) w' := by
    intro D env' a' w' h' ok' r' f' k'
    obtain ⟨vs, hk, hr⟩ := results_run k' ok' r'
    refine ⟨_, hr, h', ?_, r', f'⟩
    match vs, hk with
    | [], hk => exact hk
    | [v], hk => exact hk
    | _ :: _ :: _, hk => exact hk
  unfold vcCode at s
  refine wp_seq (wp_mono (code_sound hm c0 ann0 _ _ h s h w _ w ok r (Fr.refl h w)) fun e a' w' p => ?_)
  cases e <;> try exact p.elim
  case exit i => obtain ⟨env', _, _, h', k', _, _⟩ := p; exact k'.elim
  case goto l => obtain ⟨env', _, _, h', k', _, _⟩ := p; exact k'.elim
  case ret =>
    obtain ⟨env', ok', _, h', k', r', f'⟩ := p
    obtain ⟨v, hr, he⟩ := fin _ env' a' w' h' ok' r' f' k'
    show Leaves P fn a'.tmps _ a'.defers .returning w'
    rw [ok'.defs]
    exact ⟨v, hr, he⟩
  case panic ch =>
    cases ch with
    | nil => exact p.elim
    | cons x tl => cases tl with
      | nil => obtain ⟨_, _, _, h', hk, _, _⟩ := p; exact hk.elim
      | cons _ _ => exact p.elim
  case normal =>
    obtain ⟨env', ok', kp, h', k', r', f'⟩ := p
    have hsz : a'.tmps.size = fn.ntmps ∨ args.length > fn.ntmps := by
      have h1 := ok'.size
      have h2 := kp.len
      simp at h1 h2
      omega
    refine wp_seq (wp_mono (h1 a' w' ok'.defs (by omega)) fun e a2 w2 q => ?_)
    obtain ⟨he, hw, ⟨d, hd, fv, cap, g, as, ht, hi, hcd⟩, hs, hk⟩ := q
    subst he hw
    have ok2 : EnvOk [d] env' a2 := by
      refine ⟨ok'.size.trans hs.symm, fun i v hv => ?_, hd⟩
      by_cases hit : i = t
      · subst hit
        rw [kp.get i ht0] at hv
        exact absurd hv (hun v)
      · rw [hk i hit]; exact ok'.val i v hv
    refine wp_mono (code_sound hm c2 ann2 env' _ h' k' h w a2 w2 ok2 r' f') fun e a3 w3 p => ?_
    have go : ∀ env3 h3, EnvOk [d] env3 a3 → R h3 w3 → Fr h w h3 w3 → (vcRes P env3 fn.results.toList fun vs => match vs with
      | [v] => (fun v h' => ∃ g, Heap.le g h' ∧ K v g) v
      | vs => (fun v h' => ∃ g, Heap.le g h' ∧ K v g) (.tuple vs.toArray)) h3 → Leaves P fn a3.tmps (fun e w'' =>
      match e with
      | Ending.returned v => (fun v w' => Ends h w (fun h' => ∃ g, g.le h' ∧ K v g) w') v w''
      | Ending.panicked [p] =>
        p.recovered = false ∧ p.goexit = false ∧ (fun v w' => Ends h w (fun h' => ∃ g, g.le h' ∧ KP v g) w') p.v w''
      | x => False) a3.defers .returning w3 := fun env3 h3 ok3 r3 f3 k3 => by
      obtain ⟨v, hr, he⟩ := fin _ env3 a3 w3 h3 ok3 r3 f3 k3
      rw [ok3.defs]
      refine ⟨by simp, fv, cap, g, as, ht, hi w3, (hcd w3).mono ?_⟩
      rintro e u' w' ⟨⟨v0, rfl⟩, rfl, rfl⟩
      exact ⟨v, hr, he⟩
    cases e <;> try exact p.elim
    case exit i => obtain ⟨env', _, _, h', k', _, _⟩ := p; exact k'.elim
    case goto l => obtain ⟨env', _, _, h', k', _, _⟩ := p; exact k'.elim
    case ret =>
      obtain ⟨env3, ok3, _, h3, k3, r3, f3⟩ := p
      exact go env3 h3 ok3 r3 f3 k3
    case normal =>
      obtain ⟨env3, ok3, _, h3, k3, r3, f3⟩ := p
      exact go env3 h3 ok3 r3 f3 k3
    case panic ch =>
      cases ch with
      | nil => exact p.elim
      | cons x tl => cases tl with
        | nil => obtain ⟨_, _, _, h', hk, _, _⟩ := p; exact hk.elim
        | cons _ _ => exact p.elim
/-- 'defer func() { .. }()', the closure of two variables. -/
theorem defersIdle_of {P : Program} {id g i j t ty : Nat} {p1 p2 : String} {e : Array Edge} (hgn : ∀ as w, (callFunc g as).run P w = .ok (.enter g as) w)
    (hg : ∀ vi vj w, CallsD P g #[vi, vj] .returning w fun e u' w' => (∃ v, e = .returned v) ∧ u' = .returning ∧ w' = w) :
    DefersIdle P (.region id #[{ dst := some t, op := .makeFunc (.func g) #[] #[.tmp i, .tmp j], type := ty, after := #[], guard := none, pos := p1 }, { dst := none, op := .defer { callee := .value (.tmp t), args := #[], argTypes := #[] }, type := 0, after := e, guard := none, pos := p2 }] false) t := by
  intro a w ha ht
  have hmf : ∀ (fn : Fn) (first cap : Array Value) (w : World), (Instr.makeFunc fn first cap).run P w = .ok (.func fn first cap) w := fun _ _ _ _ => rfl
  refine wp_region ?_
  show wpOps P _ _ [0, 1] a w
  simp only [wpOps, Region.wanted, List.getElem?_toArray, List.getElem?_cons_zero, List.getElem?_cons_succ]
  simp only [Oper.wp, execOp, hmf, Oper.upon, Sem.run_bind, Sem.run_pure, Result.andThen_ok, if_true]
  left
  have hself : (a.put (some t) (Value.func (Fn.func g) (Array.map a.eval #[]) (Array.map a.eval #[Operand.tmp i, Operand.tmp j]))).eval (.tmp t) = Value.func (Fn.func g) #[] #[a.eval (.tmp i), a.eval (.tmp j)] := by
    simp [Act.put, Act.eval, ht]
  simp only [resolve, hself, Deferred.ofValue, Sem.run_pure, Result.andThen_ok, Sem.run_bind]
  left
  refine ⟨trivial, trivial, ⟨_, by simp [Act.put, ha]; rfl, .func g, #[a.eval (.tmp i), a.eval (.tmp j)], g, #[a.eval (.tmp i), a.eval (.tmp j)], rfl, fun w => ?_, fun w => hg _ _ w⟩, by simp [Act.put], fun k hk => ?_⟩
  · simp only [invoke]
    simpa using hgn #[a.eval (.tmp i), a.eval (.tmp j)] w
  · simp [Act.put, Array.getElem?_setIfInBounds, Ne.symm hk]
end Go.Hl

namespace Go.Hl

def pKeep (f p : Pr) : Pr := fun h => f h ∧ p h
/-- With less known. -/
def fgt (K : Value → Pr) : Value → Pr := fun v h' => ∃ g, Heap.le g h' ∧ K v g

end Go.Hl

set_option linter.unusedSectionVars false
namespace Go.Hl

@[simp] theorem add_mk (b o n : Nat) : (⟨b, o, none⟩ : Addr).add n = ⟨b, o + n, none⟩ := by unfold Addr.add; split <;> simp_all

theorem cell_row {h : Heap} {b : Nat} {cs : List Value} {tot : Nat} (hb : h b = some (.row cs tot)) (o : Nat) : h.cell ⟨b, o, none⟩ = cs[o]? := by simp [Heap.cell, hb]
theorem vals_row {h : Heap} {b : Nat} {cs : List Value} {tot : Nat} (hb : h b = some (.row cs tot)) (o n : Nat) : h.vals ⟨b, o, none⟩ n = cut cs o n := by simp [Heap.vals, hb]
theorem cut_all (cs : List Value) : cut cs 0 cs.length = some cs := by simp [cut]
theorem cut_all' {cs : List Value} {n : Nat} (h : cs.length = n) : cut cs 0 n = some cs := by subst h; exact cut_all cs

theorem set_new_ne {h : Heap} {b i : Nat} {x y : Blk} (hb : h b = none) (hi : h i = some y) : (h.set b x) i = some y := by
  rw [Heap.set_ne _ _ (fun e => by subst e; rw [hb] at hi; cases hi)]; exact hi
theorem ne_new {h : Heap} {b i : Nat} {y : Blk} (hb : h b = none) (hi : h i = some y) : i ≠ b := fun e => by subst e; rw [hb] at hi; cases hi

/- Rows of records: n cells each. -/
section
variable {α : Type} (enc : α → List Value) (n : Nat) (he : ∀ x, (enc x).length = n)
include he

theorem flat_len (l : List α) : (l.flatMap enc).length = l.length * n := by
  induction l with
  | nil => simp
  | cons x r ih => simp [List.flatMap_cons, ih, he, Nat.succ_mul, Nat.add_comm]

theorem flat_drop (l : List α) (i : Nat) : (l.flatMap enc).drop (i * n) = (l.drop i).flatMap enc := by
  induction i generalizing l with
  | zero => simp
  | succ i ih =>
    cases l with
    | nil => simp
    | cons x r =>
      rw [List.flatMap_cons, Nat.succ_mul, Nat.add_comm, ← List.drop_drop, List.drop_append_of_le_length (by rw [he]; exact Nat.le_refl _)]
      rw [show (enc x).drop n = [] from List.drop_eq_nil_of_le (by rw [he]; exact Nat.le_refl _)]
      simpa using ih r

theorem flat_take (l : List α) (i : Nat) : (l.flatMap enc).take (i * n) = (l.take i).flatMap enc := by
  induction i generalizing l with
  | zero => simp
  | succ i ih =>
    cases l with
    | nil => simp
    | cons x r =>
      have : (enc x ++ r.flatMap enc).take ((i + 1) * n) = enc x ++ (r.flatMap enc).take (i * n) := by
        rw [List.take_append, he, show (i + 1) * n - n = i * n by rw [Nat.succ_mul]; omega, List.take_of_length_le (by rw [he, Nat.succ_mul]; omega)]
      rw [List.flatMap_cons, this, ih]
      simp

theorem flat_split (l : List α) (i : Nat) (hi : i < l.length) : l.flatMap enc = (l.take i).flatMap enc ++ (enc l[i] ++ (l.drop (i + 1)).flatMap enc) := by
  have e : l = l.take i ++ (l[i] :: l.drop (i + 1)) := by rw [← List.drop_eq_getElem_cons hi, List.take_append_drop]
  have := congrArg (List.flatMap enc) e
  rw [List.flatMap_append, List.flatMap_cons] at this
  exact this

theorem flat_get (l : List α) (i k : Nat) (hi : i < l.length) (hk : k < n) : (l.flatMap enc)[i * n + k]? = (enc l[i])[k]? := by
  rw [← List.getElem?_drop, flat_drop enc n he, List.drop_eq_getElem_cons hi, List.flatMap_cons, List.getElem?_append_left (by rw [he]; exact hk)]

theorem flat_cut (l : List α) (i k m : Nat) (hi : i < l.length) (hk : k + m ≤ n) : cut (l.flatMap enc) (i * n + k) m = cut (enc l[i]) k m := by
  have h1 : (i + 1) * n ≤ l.length * n := Nat.mul_le_mul_right _ hi
  rw [Nat.succ_mul] at h1
  unfold cut
  rw [if_pos (by rw [flat_len enc n he]; omega), if_pos (by rw [he]; exact hk)]
  congr 1
  rw [← List.drop_drop, flat_drop enc n he, List.drop_eq_getElem_cons hi, List.flatMap_cons, List.drop_append_of_le_length (by rw [he]; omega), List.take_append_of_le_length (by rw [List.length_drop, he]; omega)]

theorem flat_part (l : List α) (i : Nat) (hi : i < l.length) : ((l.flatMap enc).drop (i * n)).take n = enc l[i] := by
  rw [flat_drop enc n he, List.drop_eq_getElem_cons hi, List.flatMap_cons, List.take_append_of_le_length (by rw [he]; exact Nat.le_refl _), List.take_of_length_le (by rw [he]; exact Nat.le_refl _)]

theorem flat_set (l : List α) (i k : Nat) (v : Value) (x : α) (hi : i < l.length) (hk : k < n) (hx : enc x = (enc l[i]).set k v) : (l.flatMap enc).set (i * n + k) v = (l.set i x).flatMap enc := by
  have hl : ((l.take i).flatMap enc).length = i * n := by rw [flat_len enc n he, List.length_take]; congr 1; omega
  rw [flat_split enc n he l i hi, List.set_append_right _ _ (by rw [hl]; omega), hl, Nat.add_sub_cancel_left, List.set_append_left _ _ (by rw [he]; exact hk), ← hx]
  rw [List.set_eq_take_append_cons_drop, if_pos hi]
  simp

theorem flat_splice (l : List α) (i k : Nat) (vs : List Value) (x : α) (hi : i < l.length) (hk : k + vs.length ≤ n) (hx : enc x = splice (enc l[i]) k vs) : splice (l.flatMap enc) (i * n + k) vs = (l.set i x).flatMap enc := by
  have hl : ((l.take i).flatMap enc).length = i * n := by rw [flat_len enc n he, List.length_take]; congr 1; omega
  rw [flat_split enc n he l i hi]
  unfold splice at *
  rw [List.take_append, hl, Nat.add_sub_cancel_left, List.take_of_length_le (by rw [hl]; omega), List.take_append_of_le_length (by rw [he]; omega)]
  rw [List.drop_append, hl, List.drop_eq_nil_of_le (by rw [hl]; omega : ((l.take i).flatMap enc).length ≤ i * n + k + vs.length), List.nil_append,
    show i * n + k + vs.length - i * n = k + vs.length by omega, List.drop_append_of_le_length (by rw [he]; exact hk)]
  rw [List.set_eq_take_append_cons_drop, if_pos hi, List.flatMap_append, List.flatMap_cons, hx]
  simp
end

/- The primitives, as rules. -/
section
variable {h : Heap} {p q : Pr}
theorem pIf_t {c : Bool} (hc : c = true) (hp : p h) : pIf c p q h := ⟨fun _ => hp, fun e => (by rw [hc] at e; cases e)⟩
theorem pIf_f {c : Bool} (hc : c = false) (hq : q h) : pIf c p q h := ⟨fun e => (by rw [hc] at e; cases e), fun _ => hq⟩
theorem pIf_i {c : Bool} (hp : c = true → p h) (hq : c = false → q h) : pIf c p q h := ⟨hp, hq⟩
theorem pLd_i {s : Shape} {a : Addr} {k : s.T → Pr} (x : s.T) (hv : h.cell a = some (s.inj x)) (hk : k x h) : pLd s a k h := ⟨x, hv, hk⟩
theorem pLdA_i {n : Nat} {a : Addr} {k : List Value → Pr} {cs : List Value} (hv : h.vals a n = some cs) (hk : k cs h) : pLdA n a k h := ⟨cs, hv, hk⟩
theorem pSome_i {x : Option Addr} {k : Addr → Pr} {a : Addr} (hx : x = some a) (hk : k a h) : pSome x k h := ⟨a, hx, hk⟩
theorem pIdx_i {i : Int} {n : Nat} (h0 : 0 ≤ i) (h1 : i < n) (hp : p h) : pIdx i n p h := ⟨h0, h1, hp⟩
theorem pAssert_i {φ : Prop} (hf : φ) (hp : p h) : pAssert φ p h := ⟨hf, hp⟩
theorem pKeep_i {f : Pr} (hf : f h) (hp : p h) : pKeep f p h := ⟨hf, hp⟩
theorem pSt_i {b o : Nat} {v : Value} {cs : List Value} {tot : Nat} (hb : h b = some (.row cs tot)) (ho : o < cs.length) (h1 : v.oneCell' = true) (hp : p (h.set b (.row (cs.set o v) tot))) : pSt ⟨b, o, none⟩ v p h :=
  ⟨cs, tot, rfl, hb, ho, h1, hp⟩
theorem pStA_i {n b o : Nat} {vs cs : List Value} {tot : Nat} (hb : h b = some (.row cs tot)) (ho : o + n ≤ cs.length) (hl : vs.length = n) (h1 : oneCells vs) (hp : p (h.set b (.row (splice cs o vs) tot))) : pStA n ⟨b, o, none⟩ vs p h :=
  ⟨cs, tot, rfl, hb, ho, hl, h1, hp⟩
theorem splice_whole {cs vs : List Value} (h : vs.length = cs.length) : splice cs 0 vs = vs := by unfold splice; simp [h]
/-- A variable is written whole. -/
theorem pStA_whole {n b : Nat} {vs cs : List Value} {tot : Nat} (hb : h b = some (.row cs tot)) (hc : cs.length = n) (hl : vs.length = n) (h1 : oneCells vs) (hp : p (h.set b (.row vs tot))) : pStA n ⟨b, 0, none⟩ vs p h :=
  pStA_i hb (by omega) hl h1 (by rw [splice_whole (by omega)]; exact hp)
/-- A new variable that is written whole at once. -/
theorem pStA_new {n b : Nat} {vs cs : List Value} {tot : Nat} (hc : cs.length = n) (hl : vs.length = n) (h1 : oneCells vs) (hp : p (h.set b (.row vs tot))) : pStA n ⟨b, 0, none⟩ vs p (h.set b (.row cs tot)) :=
  pStA_whole (Heap.set_same _ _ _) hc hl h1 (by rw [Heap.set_set]; exact hp)
theorem pSt_new {b o : Nat} {v : Value} {cs : List Value} {tot : Nat} (ho : o < cs.length) (h1 : v.oneCell' = true) (hp : p (h.set b (.row (cs.set o v) tot))) : pSt ⟨b, o, none⟩ v p (h.set b (.row cs tot)) :=
  pSt_i (Heap.set_same _ _ _) ho h1 (by rw [Heap.set_set]; exact hp)
theorem vals_whole {b n : Nat} {cs : List Value} {tot : Nat} (hb : h b = some (.row cs tot)) (hn : cs.length = n) : h.vals ⟨b, 0, none⟩ n = some cs := by rw [vals_row hb]; exact cut_all' hn
end

theorem wrap_small {x : Int} (h0 : -9223372036854775808 ≤ x) (h1 : x ≤ 9223372036854775807) : IntKind.i64.wrap x = x := Go.IntWalk.i64_in x ⟨h0, h1⟩

theorem cut_cut {cs xs : List Value} {o n : Nat} (h : cut cs o n = some xs) {k m : Nat} (hk : k + m ≤ n) : cut cs (o + k) m = cut xs k m := by
  obtain ⟨h1, h2, h3⟩ := cut_some h
  unfold cut at *
  rw [if_pos (by omega), if_pos (by omega)]
  rw [if_pos h2] at h
  cases h
  congr 1
  rw [List.drop_take, List.take_take, List.drop_drop, Nat.min_eq_left (by omega)]

theorem vals_sub {h : Heap} {a : Addr} {n : Nat} {xs : List Value} (hv : h.vals a n = some xs) {k m : Nat} (hk : k + m ≤ n) : h.vals (a.add k) m = cut xs k m := by
  obtain ⟨b, o, s⟩ := a
  unfold Heap.vals at hv
  cases s with
  | some _ => simp at hv
  | none =>
    simp only at hv
    rw [add_mk]
    unfold Heap.vals
    simp only
    cases hb : h b with
    | none => simp [hb] at hv
    | some x => cases x with
      | row cs tot => simp only [hb] at hv ⊢; exact cut_cut hv hk
      | fix ob =>
        cases ob <;> simp only [hb] at hv ⊢ <;> first
          | exact cut_cut hv hk
          | cases hv
      | obj o => simp [hb] at hv
      | map es => simp [hb] at hv

theorem vals_le {h h' : Heap} (l : Heap.le h h') {a : Addr} {n : Nat} {xs : List Value} (hv : h.vals a n = some xs) : h'.vals a n = some xs := by
  unfold Heap.vals at *
  cases hs : a.spot with
  | some _ => simp [hs] at hv
  | none =>
    simp only [hs] at hv ⊢
    cases hb : h a.block with
    | none => simp [hb] at hv
    | some x => rw [l _ _ hb]; rw [hb] at hv; exact hv

theorem cell_le {h h' : Heap} (l : Heap.le h h') {a : Addr} {v : Value} (hv : h.cell a = some v) : h'.cell a = some v := by
  unfold Heap.cell at *
  cases hs : a.spot with
  | some _ => simp [hs] at hv
  | none =>
    simp only [hs] at hv ⊢
    cases hb : h a.block with
    | none => simp [hb] at hv
    | some x => rw [l _ _ hb]; rw [hb] at hv; exact hv

theorem Sl.vals_le {h h' : Heap} (l : Heap.le h h') {z : Nat} {s : Sl} {xs : List Value} (hv : s.vals z h xs) : s.vals z h' xs := by
  unfold Sl.vals at *
  cases hb : s.base with
  | none => simp only [hb] at hv ⊢; exact hv
  | some a => simp only [hb] at hv ⊢; exact Hl.vals_le l hv

theorem loadF_vals {P : Program} {t : TypeId} {a : Addr} {n : Nat} {cs : List Value} {h : Heap} (hs : (P.underlying t).map shapeD = some .agg) (hn : sizeP P t = n) (hv : h.vals a n = some cs) : loadF P t (.pointer (some a)) (.agg cs.toArray) h := by
  unfold loadF
  cases hu : P.underlying t with
  | none => simp [hu] at hs
  | some d =>
    simp only [hu, Option.map_some, Option.some.injEq] at hs
    simp only [hs, hn]
    exact ⟨cs, hv, rfl⟩

theorem loadF_cell {P : Program} {t : TypeId} {a : Addr} {v : Value} {h : Heap} (s : Shape) (hs : (P.underlying t).map shapeD = some s) (hn : s ≠ .agg) (hv : h.cell a = some v) : loadF P t (.pointer (some a)) v h := by
  unfold loadF
  cases hu : P.underlying t with
  | none => simp [hu] at hs
  | some d =>
    simp only [hu, Option.map_some, Option.some.injEq] at hs
    simp only [hs]
    cases s <;> first | exact hv | exact absurd rfl hn

theorem lay_nil (cs : List Value) : lay cs [] = cs := by cases cs <;> rfl

/-- A loop: what holds at its head, and what falls. -/
theorem pLoop_rule {σ : Type} {body : σ → (σ → Pr) → Pr} (I : σ → Heap → Prop) (μ : σ → Nat)
    (step : ∀ s h (k : σ → Pr), I s h → (∀ s' h', I s' h' → μ s' < μ s → k s' h') → body s k h) {s : σ} {h : Heap} (hi : I s h) : pLoop body s h := by
  have key : ∀ n s h, I s h → μ s ≤ n → iter body (n + 1) s h := by
    intro n
    induction n with
    | zero => exact fun s h hi hm => step s h _ hi fun s' h' hi' hlt => absurd hlt (by omega)
    | succ n ih => exact fun s h hi hm => step s h _ hi fun s' h' hi' hlt => ih s' h' hi' (by omega)
  exact ⟨μ s + 1, key _ s h hi (Nat.le_refl _)⟩

theorem fgt_here {K : Value → Pr} {v : Value} {g h : Heap} (l : Heap.le g h) (k : K v g) : fgt K v h := ⟨g, l, k⟩

/-- A slice that the function has made by appending: it ends where its block's known cells end. -/
def Own (z : Nat) (h0 h : Heap) (s : Sl) (xs : List Value) : Prop :=
  xs.length = s.len * z ∧ ((s.base = none ∧ s.len = 0 ∧ s.cap = 0) ∨ ∃ b tot, s.base = some ⟨b, 0, none⟩ ∧ h0 b = none ∧ h b = some (.row xs tot) ∧ s.cap * z ≤ tot)

theorem Own.none (z : Nat) (h0 h : Heap) : Own z h0 h ⟨none, 0, 0⟩ [] := ⟨by simp, .inl ⟨rfl, rfl, rfl⟩⟩

theorem Own.vals {z : Nat} {h0 h : Heap} {s : Sl} {xs : List Value} (o : Own z h0 h s xs) : s.vals z h xs := by
  obtain ⟨hl, ⟨h1, h2, h3⟩ | ⟨b, tot, h1, h2, h3, h4⟩⟩ := o
  · unfold Sl.vals; rw [h1]; simp [h2] at hl ⊢; exact hl
  · unfold Sl.vals; rw [h1]; simp only; rw [vals_row h3]; exact cut_all' hl

theorem Own.keep {z : Nat} {h0 h h' : Heap} {s : Sl} {xs : List Value} (o : Own z h0 h s xs) (l : Heap.le h h') : Own z h0 h' s xs := by
  obtain ⟨hl, h1 | ⟨b, tot, h1, h2, h3, h4⟩⟩ := o
  · exact ⟨hl, .inl h1⟩
  · exact ⟨hl, .inr ⟨b, tot, h1, h2, l _ _ h3, h4⟩⟩

theorem splice_end (cs vs : List Value) : splice cs cs.length vs = cs ++ vs := by
  unfold splice; simp

theorem append_own {z bytes : Nat} {h0 h : Heap} {s x : Sl} {xs new : List Value} {k : Sl → Pr} (o : Own z h0 h s xs) (hx : x.vals z h new) (hle : Heap.le h0 h) (hr : Roomy (s.len + x.len) bytes) (h1 : oneCells new)
    (hk : ∀ s' h', Heap.le h0 h' → Own z h0 h' s' (xs ++ new) → s'.len = s.len + x.len → k s' h') : pAppend z bytes s x k h := by
  have hv := o.vals
  have hnl := sl_length hx
  refine ⟨xs, new, hv, .inr hx, hr, h1, fun hfit => ?_, fun hgrow b cap hb hcap => ?_⟩
  · obtain ⟨hl, ⟨e1, e2, e3⟩ | ⟨b, tot, e1, e2, e3, e4⟩⟩ := o
    · rw [e1]
      simp only
      have hx0 : x.len = 0 := by omega
      refine hk _ h hle ?_ rfl
      have : xs = [] := by apply List.length_eq_zero_iff.1; rw [hl, e2]; simp
      have : new = [] := by apply List.length_eq_zero_iff.1; rw [hnl, hx0]; simp
      subst_vars
      exact ⟨by simp [e2, hx0], .inl ⟨rfl, by simp [e2, hx0], e3⟩⟩
    · rw [e1]
      simp only
      refine ⟨xs, tot, trivial, e3, by omega, by simpa using e4, hk _ _ ?_ ?_ rfl⟩
      · intro i y hy
        rw [Heap.set_ne _ _ (fun e => by subst e; rw [e2] at hy; cases hy)]
        exact hle i y hy
      · refine ⟨by simp [hl, hnl, Nat.add_mul], .inr ⟨b, tot, rfl, e2, ?_, e4⟩⟩
        rw [Heap.set_same, Nat.zero_add, ← hl, splice_end]
  · refine hk _ _ (Heap.le_set_new hle hb _) ?_ rfl
    refine ⟨by simp [o.1, hnl, Nat.add_mul], .inr ⟨b, cap * z, rfl, Heap.le_none hle hb, by rw [Heap.set_same], Nat.le_refl _⟩⟩

end Go.Hl

namespace Go.Hl
open Go.ChangeShapes Go.WideShapes Go.RowKit

/-- Nothing is known: nothing that was there turns. -/
theorem Fr.below {h h' : Heap} {w w' : World} (f : Fr h w h' w') (q : ∀ b, Quiet (h b)) : Below w.heap.size w w' :=
  ⟨f.os, f.tape, f.output, f.size, fun b hb => (f.stay b hb (q b)).1⟩

/-- A law's triple over a view that asks for nothing to be written: the call returns, and nothing that was there has turned. -/
theorem WpCall.law {P : Program} {f : FuncId} {args : Array Value} {h : Heap} {v : Value} (c : WpCall P f args (fun _ _ => False) (fun u _ => u = v) h) (hc : ∀ as w, (callFunc f as).run P w = .ok (.enter f as) w) (q : ∀ b, Quiet (h b)) {w : World} (r : R h w) :
    Calls P f args w fun e w' => e = .returned v ∧ Below w.heap.size w w' := by
  have c := c.go r
  unfold CallTo at c
  rw [hc] at c
  exact c.mono fun e w' he => by
    cases e with
    | returned u => obtain ⟨h', hu, _, fr⟩ := he; exact ⟨by rw [hu], fr.below q⟩
    | panicked ch => cases ch with
      | nil => exact he.elim
      | cons p t => cases t with
        | nil => obtain ⟨_, _, _, hf, _⟩ := he; exact hf.elim
        | cons _ _ => exact he.elim
    | outgrown => exact he.elim

def none' : Heap := fun _ => Option.none
theorem none'_R (w : World) : R none' w := fun _ _ h => by cases h
theorem none'_quiet (b : Nat) : Quiet (none' b) := .inl rfl

/-- The row's last step, where of the world behind the call no more is known than that what was there is as it was. -/
theorem post_below {H : Type} {enc : TypeId × Value → H} {P : Program} {f : Func} {s : ChangeSpec} {apart fresh handsOn again : Bool} {W W' : World} {args : Array Value} {v : Value} {ds gs : List (DataW H)} {before pa pv : List MemPlace}
    (hW : DataW.Whole enc P f.params.toList s.vars apart W args.toList ds gs before) (hb : Below W.heap.size W W') (hps : before = pa ++ pv)
    (hres : ∀ (b : Nat) (sp : Nat → Bool) (hd : Bool), DataW.TrodAll enc P W' b sp hd f.resultTypes.toList (v.resultList f.resultTypes.size) (s.fn H (ds ++ gs)).results [])
    (hargs : ∀ sp : Nat → Bool, (∀ p ∈ before, sp p.block = true) → DataW.TrodAll enc P W' 0 sp true f.params.toList args.toList (s.fn H (ds ++ gs)).args pa)
    (hvars : ∀ sp : Nat → Bool, (∀ p ∈ before, sp p.block = true) → DataW.TrodVars enc P W' sp s.vars (s.fn H (ds ++ gs)).vars pv)
    (hok : ∀ (j : Nat) (t : TypeId) (r : Value), f.resultTypes[j]? = some t → (v.resultList f.resultTypes.size)[j]? = some r → Value.okWide P W' .any 0 t r) :
    s.post enc P f apart fresh handsOn again W args v W' := by
  have lt : ∀ p ∈ before, p.block < W.heap.size := fun p hp => hW.lt p hp
  have all : ∀ p ∈ before, (fun _ => true : Nat → Bool) p.block = true := fun _ _ => rfl
  have old : ∀ p ∈ before, (fun b => decide (b < W.heap.size)) p.block = true := fun p hp => by simpa using lt p hp
  have hin : ∀ p, p ∈ pa ++ pv → p ∈ before := fun p hp => by rw [hps]; exact hp
  refine ⟨ds, gs, before, [], pa, pv, hW, hres _ _ _, hargs _ old, hvars _ old, World.keptBut_mono (fun p hp => ⟨hp, .inr ?_⟩) (hb.frame (· ∈ before)), fun _ => ?_⟩
  · rw [hps, List.mem_append] at hp; exact hp
  · obtain ⟨_, _, _, _, _, hz, hn⟩ := hW
    refine ⟨hok, _, _, ([] ++ pa) ++ pv, ⟨[] ++ pa, pv, trodAll_append (hargs _ all) (hres _ _ _), hvars _ all, rfl, fun b off hp => ?_, fun ha => ?_⟩, ?_⟩
    · have hm := hin (.cell b off) (by simpa using hp)
      rw [hb.frozen (lt _ hm)]
      exact hz b off hm
    · have := hn ha
      rw [hps] at this
      simpa using this
    · intro p hp _
      rw [hps]; simpa using hp
end Go.Hl

set_option linter.unusedSectionVars false
namespace Go.Hl

theorem Heap.set_none {h : Heap} {b i : Nat} {x : Blk} : (h.set b x) i = none ↔ i ≠ b ∧ h i = none := by
  unfold Heap.set
  by_cases e : i = b
  · simp [e]
  · simp [e]
theorem Heap.look_ne {h : Heap} {b i : Nat} {x : Blk} {y : Option Blk} (e : i ≠ b) (k : h i = y) : (h.set b x) i = y := by rw [Heap.set_ne _ _ e]; exact k

theorem pSome_some (a : Addr) (k : Addr → Pr) : pSome (some a) k = k a := by
  funext h; simp [pSome]
theorem pJoin_eq {σ : Type} (body : (σ → Pr) → Pr) (k : σ → Pr) : pJoin body k = body k := rfl
theorem pKeep_eq (f p : Pr) (h : Heap) : pKeep f p h = (f h ∧ p h) := rfl

section
variable {h : Heap} {p : Pr}
/-- A load, by its block. -/
theorem ld_b {s : Shape} {b o : Nat} {k : s.T → Pr} {cs : List Value} {tot : Nat} {x : s.T} (hb : h b = some (.row cs tot)) (hx : cs[o]? = some (s.inj x)) (hk : k x h) : pLd s ⟨b, o, none⟩ k h :=
  ⟨x, by rw [cell_row hb]; exact hx, hk⟩
theorem ldA_b {n b o : Nat} {k : List Value → Pr} {cs xs : List Value} {tot : Nat} (hb : h b = some (.row cs tot)) (hx : cut cs o n = some xs) (hk : k xs h) : pLdA n ⟨b, o, none⟩ k h :=
  ⟨xs, by rw [vals_row hb]; exact hx, hk⟩
theorem ldA_all {n b : Nat} {k : List Value → Pr} {cs : List Value} {tot : Nat} (hb : h b = some (.row cs tot)) (hn : cs.length = n) (hk : k cs h) : pLdA n ⟨b, 0, none⟩ k h :=
  ldA_b hb (cut_all' hn) hk
theorem st_b {b o : Nat} {v : Value} {cs : List Value} {tot : Nat} (hb : h b = some (.row cs tot)) (ho : o < cs.length) (h1 : v.oneCell' = true) (hp : p (h.set b (.row (cs.set o v) tot))) : pSt ⟨b, o, none⟩ v p h :=
  pSt_i hb ho h1 hp
theorem stA_b {n b o : Nat} {vs cs : List Value} {tot : Nat} (hb : h b = some (.row cs tot)) (ho : o + n ≤ cs.length) (hl : vs.length = n) (h1 : oneCells vs) (hp : p (h.set b (.row (splice cs o vs) tot))) : pStA n ⟨b, o, none⟩ vs p h :=
  pStA_i hb ho hl h1 hp
theorem stA_all {n b : Nat} {vs cs : List Value} {tot : Nat} (hb : h b = some (.row cs tot)) (hc : cs.length = n) (hl : vs.length = n) (h1 : oneCells vs) (hp : p (h.set b (.row vs tot))) : pStA n ⟨b, 0, none⟩ vs p h :=
  pStA_whole hb hc hl h1 hp
theorem keep_cell {P : Program} {t : TypeId} {b o : Nat} {v : Value} {cs : List Value} {tot : Nat} (s : Shape) (hs : (P.underlying t).map shapeD = some s) (hn : s ≠ .agg) (hb : h b = some (.row cs tot)) (hx : cs[o]? = some v) (hp : p h) :
    pKeep (loadF P t (.pointer (some ⟨b, o, none⟩)) v) p h := ⟨loadF_cell s hs hn (by rw [cell_row hb]; exact hx), hp⟩
theorem keep_agg {P : Program} {t : TypeId} {b o n : Nat} {xs cs : List Value} {tot : Nat} (hs : (P.underlying t).map shapeD = some .agg) (hn : sizeP P t = n) (hb : h b = some (.row cs tot)) (hx : cut cs o n = some xs) (hp : p h) :
    pKeep (loadF P t (.pointer (some ⟨b, o, none⟩)) (.agg xs.toArray)) p h := ⟨loadF_vals hs hn (by rw [vals_row hb]; exact hx), hp⟩
/-- A new variable that is written whole. -/
theorem new_st {n : Nat} {cs vs : List Value} {k : Nat → Pr} (hc : cs.length = n) (hl : vs.length = n) (h1 : oneCells vs) (hk : ∀ b, h b = none → k b (h.set b (.row vs n))) : pNew cs (fun b => pStA n ⟨b, 0, none⟩ vs (k b)) h := by
  intro b hb
  have := hk b hb
  refine stA_all (Heap.set_same _ _ _) hc hl h1 ?_
  rw [Heap.set_set, hc]; exact this
end

theorem le_refl' {g h : Heap} (e : g = h) : Heap.le g h := by subst e; exact Heap.le_refl _
theorem le_new {g h : Heap} {b : Nat} {x : Blk} (e : h b = none) (l : Heap.le g h) : Heap.le g (h.set b x) := Heap.le_set_new l e x
theorem len_set {l : List Value} {n : Nat} (h : l.length = n) (o : Nat) (v : Value) : (l.set o v).length = n := by rw [List.length_set]; exact h

/-- A loop that goes up to a bound. -/
theorem pLoop_up {σ : Type} {body : σ → (σ → Pr) → Pr} (I : σ → Heap → Prop) (μ : σ → Nat) {s : σ} {h : Heap} (hi : I s h)
    (step : ∀ s h (k : σ → Pr), I s h → (∀ s' h', I s' h' → μ s' < μ s → k s' h') → body s k h) : pLoop body s h := pLoop_rule I μ step hi

end Go.Hl

set_option linter.unusedSectionVars false
set_option linter.unusedVariables false
namespace Go.Hl

theorem WpVal.of_func {P : Program} {g : FuncId} {args caps : List Value} {KP K : Value → Pr} {h : Heap} (c : WpCall P g (args ++ caps).toArray KP K h) : WpVal P (.func (.func g) [].toArray caps.toArray) args KP K h := by
  show WpCall P g ((#[] ++ args.toArray) ++ caps.toArray) KP K h
  simpa using c
theorem WpVal.mono {P : Program} {f : Value} {args : List Value} {KP KP' K K' : Value → Pr} {h : Heap} (c : WpVal P f args KP K h)
    (m : ∀ v h', K v h' → K' v h') (mp : ∀ v h', KP v h' → KP' v h') : WpVal P f args KP' K' h := by
  unfold WpVal at *
  split at c
  · exact WpCall.mono c m mp
  · exact c.elim
theorem fgt_mk {K : Value → Pr} {v : Value} {h : Heap} (k : K v h) : fgt K v h := ⟨h, Heap.le_refl _, k⟩

theorem sl_elem {α : Type} {enc : α → List Value} {n : Nat} (he : ∀ x, (enc x).length = n) {h : Heap} {s : Sl} {l : List α} (hv : s.vals n h (l.flatMap enc)) (hl : s.len = l.length) {i : Nat} (hi : i < l.length) :
    ∃ a, s.base = some a ∧ h.vals (a.add (i * n)) n = some (enc l[i]) := by
  unfold Sl.vals at hv
  cases hb : s.base with
  | none => simp only [hb] at hv; omega
  | some a =>
    simp only [hb] at hv
    refine ⟨a, rfl, ?_⟩
    have hm : i * n + n ≤ s.len * n := by rw [hl, ← Nat.succ_mul]; exact Nat.mul_le_mul_right _ hi
    rw [vals_sub hv hm]
    have := flat_cut enc n he l i 0 n hi (by omega)
    rw [Nat.add_zero] at this
    rw [this]
    exact cut_all' (he _)

theorem vals_cell1 {h : Heap} {a : Addr} {v : Value} (hv : h.vals a 1 = some [v]) : h.cell a = some v := (vals_cell hv).2.2 0 v rfl

def idxFrom {α : Type} (p : α → Bool) : List α → Int → Int
  | [], _ => -1
  | x :: r, i => if p x then i else idxFrom p r (i + 1)
def idxOf {α : Type} (p : α → Bool) (l : List α) : Int := idxFrom p l 0

theorem idxFrom_range {α : Type} (p : α → Bool) : ∀ (l : List α) (i : Int), idxFrom p l i = -1 ∨ (i ≤ idxFrom p l i ∧ idxFrom p l i < i + l.length)
  | [], _ => .inl rfl
  | x :: r, i => by
    unfold idxFrom
    split
    · right; simp; omega
    · have := idxFrom_range p r (i + 1); simp; omega
theorem idxOf_range {α : Type} (p : α → Bool) (l : List α) : idxOf p l = -1 ∨ (0 ≤ idxOf p l ∧ idxOf p l < l.length) := by have := idxFrom_range p l 0; unfold idxOf; omega
theorem idxFrom_any {α : Type} (p : α → Bool) : ∀ (l : List α) (i : Int), 0 ≤ i → decide (idxFrom p l i ≥ 0) = l.any p
  | [], i, h => by simp [idxFrom]
  | x :: r, i, h => by
    unfold idxFrom
    by_cases hx : p x = true
    · simp [hx, h]
    · have := idxFrom_any p r (i + 1) (by omega)
      simp [hx] at this ⊢; exact this
theorem idxOf_any {α : Type} (p : α → Bool) (l : List α) : decide (idxOf p l ≥ 0) = l.any p := idxFrom_any p l 0 (Int.le_refl _)

section
variable {P : Program} {α : Type} {enc : α → List Value} {n : Nat} (he : ∀ x, (enc x).length = n) {s : Sl} {l : List α} {h : Heap} (hv : s.vals n h (l.flatMap enc)) (hl : s.len = l.length) (hb : l.length < 9223372036854775807)
include he hv hl hb

/-- A loop over a slice that ends at the first element of which p holds. -/
theorem loop_idx {p : α → Bool} {K : Int → Pr} {body : Addr → Int → Pr → Pr → Pr}
    (hbody : ∀ (i : Nat) (hi : i < l.length) a (yes no : Pr), s.base = some a → h.vals (a.add (i * n)) n = some (enc l[i]) → (p l[i] = true → yes h) → (p l[i] = false → no h) → body a i yes no h)
    (k : K (idxOf p l) h) :
    pLoop (σ := Int × Unit) (fun s1 k1 => pIf (decide ((s1.1 : Int) < (s.len : Int))) (pIdx s1.1 s.len <| pSome s.base fun a3 => body a3 s1.1 (K s1.1) (k1 ((IntKind.i64.wrap (s1.1 + 1)), ()))) (K (-1))) (0, ()) h := by
  refine pLoop_rule (fun (s1 : Int × Unit) H => H = h ∧ 0 ≤ s1.1 ∧ s1.1 ≤ l.length ∧ idxFrom p (l.drop s1.1.toNat) s1.1 = idxOf p l) (fun s1 => (l.length - s1.1).toNat) ?_ ?_
  rotate_left
  · exact ⟨rfl, Int.le_refl _, Int.natCast_nonneg _, rfl⟩
  rintro ⟨i, ⟨⟩⟩ H kk ⟨rfl, h0, h1, h2⟩ hk
  simp only at h0 h1 h2 hk ⊢
  by_cases hi : i < l.length
  · have hlt : i.toNat < l.length := by omega
    obtain ⟨a, ha, hv'⟩ := sl_elem he hv hl hlt
    rw [List.drop_eq_getElem_cons hlt, idxFrom] at h2
    refine pIf_t (by rw [hl]; simpa using hi) (pIdx_i h0 (by omega) (pSome_i ha ?_))
    have e : i = (i.toNat : Int) := by omega
    have := hbody i.toNat hlt a (K i) (kk ((IntKind.i64.wrap (i + 1)), ())) ha hv' ?_ ?_
    · rw [e] at this ⊢; simpa using this
    · intro hp
      rw [if_pos hp] at h2
      rw [h2]; exact k
    · intro hp
      rw [if_neg (by rw [hp]; simp)] at h2
      rw [wrap_small (by omega) (by omega)]
      refine hk _ _ ⟨rfl, by simp only; omega, by simp only; omega, ?_⟩ (by simp only; omega)
      simp only
      rw [show (i + 1).toNat = i.toNat + 1 by omega]; exact h2
  · refine pIf_f (by rw [hl]; simpa using hi) ?_
    rw [List.drop_eq_nil_of_le (by omega)] at h2
    have h2' : idxOf p l = -1 := h2.symm
    rw [← h2']; exact k

/-- IndexFunc. -/
theorem loop_indexFunc {p : α → Bool} {f : Value} {KP K : Value → Pr}
    (hf : ∀ x ∈ l, ∀ (KP K : Value → Pr), K (.bool (p x)) h → WpVal P f [.agg (enc x).toArray] KP K h)
    (k : K (.int .i64 (idxOf p l)) h) :
    pLoop (σ := Int × Unit) (fun s1 k1 => pIf (decide ((s1.1 : Int) < (s.len : Int))) (pIdx s1.1 s.len <| pSome s.base fun a3 => pLdA n (a3.add (s1.1.toNat * n)) fun x4 => pCallV P f [(.agg x4.toArray)] KP (.one .bool) fun (r5 : Bool) => pIf r5 (K (.int .i64 s1.1)) (k1 ((IntKind.i64.wrap (s1.1 + 1)), ()))) (K (.int .i64 (-1)))) (0, ()) h := by
  refine loop_idx (p := p) (K := fun i => K (.int .i64 i)) (body := fun a i yes no => pLdA n (a.add (i.toNat * n)) fun x4 => pCallV P f [(.agg x4.toArray)] KP (.one .bool) fun (r5 : Bool) => pIf r5 yes no) he hv hl hb ?_ k
  intro i hi a yes no ha hv' hy hn
  refine pLdA_i (by simpa using hv') ?_
  exact hf l[i] (List.getElem_mem hi) _ _ ⟨p l[i], rfl, hy, hn⟩

/-- Index of numbers. -/
theorem loop_indexInt {v : Int} {val : α → Int} (hval : ∀ x, enc x = [.int .i64 (val x)]) (h1 : n = 1) {K : Value → Pr}
    (k : K (.int .i64 (idxOf (fun x => v == val x) l)) h) :
    pLoop (σ := Int × Unit) (fun s1 k1 => pIf (decide ((s1.1 : Int) < (s.len : Int))) (pIdx s1.1 s.len <| pSome s.base fun a3 => pLd (.int .i64) (a3.add (s1.1.toNat * 1)) fun (x4 : Int) => pIf ((v : Int) == x4) (K (.int .i64 s1.1)) (k1 ((IntKind.i64.wrap (s1.1 + 1)), ()))) (K (.int .i64 (-1)))) (0, ()) h := by
  subst h1
  refine loop_idx (p := fun x => v == val x) (K := fun i => K (.int .i64 i)) (body := fun a i yes no => pLd (.int .i64) (a.add (i.toNat * 1)) fun (x4 : Int) => pIf ((v : Int) == x4) yes no) he hv hl hb ?_ k
  intro i hi a yes no ha hv' hy hn
  refine pLd_i (val l[i]) ?_ ⟨hy, hn⟩
  rw [hval] at hv'
  exact vals_cell1 (v := .int .i64 (val l[i])) (by simpa using hv')

/-- Index of records that are held against each other cell by cell. -/
theorem loop_indexAgg {v : α} {ct : List CT} (ok : ∀ x, okCells ct (enc x) = true) {p : α → Bool} (hp : ∀ x, eqCells (enc v) (enc x) = p x) {b1 : Nat} {tot : Nat} (hb1 : h b1 = some (.row (enc v) tot)) {K : Value → Pr}
    (k : K (.int .i64 (idxOf p l)) h) :
    pLoop (σ := Int × Unit) (fun s1 k1 => pIf (decide ((s1.1 : Int) < (s.len : Int))) (pIdx s1.1 s.len <| pSome s.base fun a3 => pLdA n ⟨b1, 0, none⟩ fun x5 => pLdA n (a3.add (s1.1.toNat * n)) fun x6 => pAssert (okCells ct x5 = true ∧ okCells ct x6 = true) <| pIf (eqCells x5 x6) (K (.int .i64 s1.1)) (k1 ((IntKind.i64.wrap (s1.1 + 1)), ()))) (K (.int .i64 (-1)))) (0, ()) h := by
  refine loop_idx (p := p) (K := fun i => K (.int .i64 i)) (body := fun a i yes no => pLdA n ⟨b1, 0, none⟩ fun x5 => pLdA n (a.add (i.toNat * n)) fun x6 => pAssert (okCells ct x5 = true ∧ okCells ct x6 = true) <| pIf (eqCells x5 x6) yes no) he hv hl hb ?_ k
  intro i hi a yes no ha hv' hy hn
  refine ldA_all hb1 (he _) (pLdA_i (by simpa using hv') (pAssert_i ⟨ok _, ok _⟩ ?_))
  rw [hp]; exact ⟨hy, hn⟩
end

/-- A part of an array or of a slice as a slice. -/
theorem sl_of_vals {n : Nat} {h : Heap} {a : Addr} {len cap : Nat} {xs : List Value} (hv : h.vals a (len * n) = some xs) : Sl.vals n ⟨some a, len, cap⟩ h xs := hv

end Go.Hl

set_option linter.unusedSectionVars false
set_option linter.unusedVariables false
namespace Go.Hl
open Go.ChangeShapes Go.WideShapes Go.RowKit

/-- All that is there, and stays. -/
def fixW (W : World) : Heap := fun b => (W.heap[b]?).map Blk.fix
theorem fixW_R (W : World) : R (fixW W) W := fun b x h => by
  unfold fixW at h
  cases ho : W.heap[b]? with
  | none => simp [ho] at h
  | some o => simp [ho] at h; subst h; rfl
theorem fixW_quiet (W : World) (b : Nat) : Quiet (fixW W b) := by
  unfold fixW
  cases W.heap[b]? with
  | none => exact .inl rfl
  | some o => exact .inr ⟨o, rfl⟩

theorem mapM_some {α β : Type} {f : α → Option β} : ∀ {l : List α} {r : List β}, l.mapM f = some r → r.length = l.length ∧ ∀ i (h : i < l.length) (h' : i < r.length), f l[i] = some r[i]
  | [], r, h => by simp at h; subst h; exact ⟨rfl, fun i h => by simp at h⟩
  | a :: l, r, h => by
    simp only [List.mapM_cons] at h
    cases hf : f a with
    | none => simp [hf] at h
    | some b =>
      cases hl : l.mapM f with
      | none => simp [hf, hl] at h
      | some s =>
        simp [hf, hl] at h
        subst h
        obtain ⟨h1, h2⟩ := mapM_some hl
        refine ⟨by simp [h1], fun i hi hi' => ?_⟩
        cases i with
        | zero => simpa using hf
        | succ i => simpa using h2 i (by simpa using hi) (by simpa using hi')

theorem cells_vals {W : World} {base : Nat} {a : Addr} {n : Nat} {cs : List Value} (h : W.cells? base a n = some cs) (hn : n ≠ 0) : (fixW W).vals a n = some cs := by
  unfold World.cells? at h
  split at h
  · obtain ⟨h1, h2⟩ := mapM_some h
    simp only [List.length_range] at h1
    have hc : ∀ i (hi : i < n), W.cell? (a.add i) = some (cs[i]'(by omega)) := fun i hi => by
      have := h2 i (by simpa using hi) (by omega)
      simpa using this
    have h0 := hc 0 (by omega)
    rw [show a.add 0 = a from rfl] at h0
    unfold World.cell? at h0
    cases ho : W.heap[a.block]? with
    | none => simp [ho] at h0
    | some o =>
      cases o with
      | cells c t fr =>
        simp only [ho] at h0
        cases hs : a.spot with
        | some x => simp [hs] at h0
        | none =>
          have hget : ∀ i (hi : i < n), c.toList[a.off + i]? = some (cs[i]'(by omega)) := fun i hi => by
            have := hc i hi
            unfold World.cell? at this
            rw [add_block, ho] at this
            simp only [add_spot hs, add_off] at this
            simpa using this
          unfold Heap.vals fixW
          simp only [hs, ho, Option.map_some]
          unfold cut
          have hlast := hget (n - 1) (by omega)
          have hlt : a.off + (n - 1) < c.toList.length := by
            rcases Nat.lt_or_ge (a.off + (n - 1)) c.toList.length with k | k
            · exact k
            · rw [List.getElem?_eq_none k] at hlast; cases hlast
          rw [if_pos (by omega)]
          congr 1
          apply List.ext_getElem?
          intro i
          rcases Nat.lt_or_ge i n with hi | hi
          · rw [List.getElem?_take, if_pos hi, List.getElem?_drop, hget i hi]
            simp [h1, hi]
          · rw [List.getElem?_eq_none (by simp; omega), List.getElem?_eq_none (by omega)]
      | _ => simp [ho] at h0
  · cases h

/-- Kinds of cells, slices with what theirs are. -/
inductive CTy where
  | int (k : IntKind) | bool | str | slice (l : List CTy)

mutual
def COk (W : World) : CTy → Value → Prop
  | .int k, v => ∃ n, v = .int k n ∧ (Lit.int k n).wf = true
  | .bool, v => ∃ b, v = .bool b
  | .str, v => ∃ s : ByteArray, v = .string s ∧ s.size ≤ maxLen
  | .slice l, v => ∃ s : Sl, v = .slice s.base s.len s.cap ∧ s.len ≤ s.cap ∧ s.cap ≤ maxLen ∧ ∀ i, i < s.len → ∃ a cs, s.base = some a ∧ (fixW W).vals (a.add (i * l.length)) l.length = some cs ∧ COks W l cs
def COks (W : World) : List CTy → List Value → Prop
  | [], [] => True
  | c :: r, v :: s => COk W c v ∧ COks W r s
  | _, _ => False
end

theorem COks.nil' {W : World} {cs : List Value} (h : COks W [] cs) : cs = [] := by
  cases cs with
  | nil => rfl
  | cons _ _ => exact h.elim
theorem COks.cons' {W : World} {c : CTy} {r : List CTy} {cs : List Value} (h : COks W (c :: r) cs) : ∃ v s, cs = v :: s ∧ COk W c v ∧ COks W r s := by
  cases cs with
  | nil => exact h.elim
  | cons v s => exact ⟨v, s, rfl, h.1, h.2⟩
theorem COks.int' {W : World} {k : IntKind} {r : List CTy} {cs : List Value} (h : COks W (.int k :: r) cs) : ∃ n s, cs = .int k n :: s ∧ (Lit.int k n).wf = true ∧ COks W r s := by
  obtain ⟨v, s, rfl, ⟨n, rfl, hw⟩, h2⟩ := h.cons'
  exact ⟨n, s, rfl, hw, h2⟩
theorem COks.bool' {W : World} {r : List CTy} {cs : List Value} (h : COks W (.bool :: r) cs) : ∃ b s, cs = .bool b :: s ∧ COks W r s := by
  obtain ⟨v, s, rfl, ⟨n, rfl⟩, h2⟩ := h.cons'
  exact ⟨n, s, rfl, h2⟩
theorem COks.str' {W : World} {r : List CTy} {cs : List Value} (h : COks W (.str :: r) cs) : ∃ (b : ByteArray) (s : List Value), cs = .string b :: s ∧ b.size ≤ maxLen ∧ COks W r s := by
  obtain ⟨v, s, rfl, ⟨n, rfl, hw⟩, h2⟩ := h.cons'
  exact ⟨n, s, rfl, hw, h2⟩

theorem COks.len {W : World} : ∀ {l : List CTy} {cs : List Value}, COks W l cs → cs.length = l.length
  | [], [], _ => rfl
  | _ :: _, _ :: _, h => by simp [COks.len h.2]
  | [], _ :: _, h => h.elim
  | _ :: _, [], h => h.elim
theorem COks.app {W : World} : ∀ {l l' : List CTy} {cs cs' : List Value}, COks W l cs → COks W l' cs' → COks W (l ++ l') (cs ++ cs')
  | [], _, [], _, _, k => k
  | _ :: _, _, _ :: _, _, h, k => ⟨h.1, COks.app h.2 k⟩
  | [], _, _ :: _, _, h, _ => h.elim
  | _ :: _, _, [], _, h, _ => h.elim

mutual
def ctys (P : Program) : Nat → TypeId → Option (List CTy)
  | 0, _ => none
  | d + 1, t => match P.underlying t with
    | some (.int k) => some [.int k]
    | some .bool => some [.bool]
    | some .string => some [.str]
    | some (.slice e) => (ctys P d e).bind fun l => if l.length = P.cellsOf e ∧ l.length ≠ 0 then some [.slice l] else none
    | some (.struct fs) => (ctyFs P d 0 fs.toList).bind fun l => if l.length = P.cellsOf t then some l else none
    | some (.array n e) => (ctys P d e).bind fun l => if l.length = P.cellsOf e ∧ n * l.length = P.cellsOf t then some (List.replicate n l).flatten else none
    | _ => none
def ctyFs (P : Program) : Nat → Nat → List Field → Option (List CTy)
  | 0, _, _ => none
  | _ + 1, _, [] => some []
  | d + 1, off, f :: fs => if f.offset != off then none else
    (ctys P d f.type).bind fun l => if l.length = P.cellsOf f.type then (ctyFs P d (off + l.length) fs).map (l ++ ·) else none
end

theorem COks.reps {W : World} {l : List CTy} : ∀ (n : Nat) (cs : List Value), cs.length = n * l.length → (∀ i, i < n → COks W l ((cs.drop (i * l.length)).take l.length)) → COks W (List.replicate n l).flatten cs
  | 0, cs, h, _ => by
    have : cs = [] := List.length_eq_zero_iff.1 (by simpa using h)
    subst this; trivial
  | n + 1, cs, h, k => by
    have e : cs = cs.take l.length ++ cs.drop l.length := (List.take_append_drop _ _).symm
    rw [e, List.replicate_succ, List.flatten_cons]
    refine COks.app (by simpa using k 0 (by omega)) (COks.reps n _ ?_ ?_)
    · rw [List.length_drop, h, Nat.succ_mul]; omega
    · intro i hi
      rw [List.drop_drop]
      have := k (i + 1) (by omega)
      rw [Nat.succ_mul, Nat.add_comm] at this
      exact this

section
variable {P : Program} {H : Type} {enc : TypeId × Value → H} {W : World} {base : Nat} {sp : Nat → Bool} {held : Bool}

theorem trod_array {t e : TypeId} {n fuel : Nat} {cs : List Value} {x : DataW H × List MemPlace} (ht : P.underlying t = some (.array n e)) (h : DataW.trod enc P W base sp held fuel t cs = some x) :
    ∃ (m : Nat) (xs : List (DataW H × List MemPlace)), cs.length = P.cellsOf t ∧ (List.range n).mapM (fun i => DataW.trod enc P W base sp held m e ((cs.drop (i * P.cellsOf e)).take (P.cellsOf e))) = some xs := by
  cases fuel with
  | zero => simp [DataW.trod] at h
  | succ m =>
    unfold DataW.trod at h
    rw [ht] at h
    split at h <;> simp_all
    obtain ⟨hl, xs, hp, hd⟩ := h
    exact ⟨m, xs, hp⟩

mutual
theorem trod_cok : ∀ (d : Nat) (t : TypeId) (l : List CTy), ctys P d t = some l → ∀ (fuel : Nat) (cs : List Value) (x : DataW H × List MemPlace), DataW.trod enc P W base sp held fuel t cs = some x → COks W l cs
  | 0, _, _, h, _, _, _, _ => by simp [ctys] at h
  | d + 1, t, l, h, fuel, cs, x, hx => by
    unfold ctys at h
    cases hu : P.underlying t with
    | none => simp [hu] at h
    | some dsc =>
      cases dsc <;> simp only [hu] at h <;> try (cases h; done)
      case bool =>
        cases h
        obtain ⟨b, rfl, _⟩ := DataW.trod_bool hu hx
        exact ⟨⟨b, rfl⟩, trivial⟩
      case int k =>
        cases h
        obtain ⟨n, rfl, _, hw⟩ := DataW.trod_int hu hx
        exact ⟨⟨n, rfl, hw⟩, trivial⟩
      case string =>
        cases h
        obtain ⟨s, rfl, _, hs⟩ := DataW.trod_string hu hx
        exact ⟨⟨s, rfl, hs⟩, trivial⟩
      case slice e =>
        cases he : ctys P d e with
        | none => simp [he] at h
        | some le =>
          simp only [he, Option.bind_some] at h
          split at h
          · rename_i hl
            cases h
            rcases DataW.trod_slice hu hx with ⟨rfl, _⟩ | ⟨a, len, cap, elems, rest, n, _, rfl, _, _, hlc, hcm, hel, hget, _, _⟩
            · exact ⟨⟨⟨none, 0, 0⟩, rfl, Nat.le_refl _, Nat.zero_le _, fun i hi => absurd hi (Nat.not_lt_zero _)⟩, trivial⟩
            · refine ⟨⟨⟨some a, len, cap⟩, rfl, hlc, hcm, fun i hi => ?_⟩, trivial⟩
              have hi' : i < len := hi
              have hg := hget i hi'
              rw [List.getElem?_eq_getElem (by omega)] at hg
              simp only [Option.bind_eq_some_iff] at hg
              obtain ⟨cs', h1, h2⟩ := hg
              refine ⟨a, cs', rfl, ?_, trod_cok d e le he _ _ _ h2⟩
              rw [hl.1]
              exact cells_vals h1 (by rw [← hl.1]; exact hl.2)
          · cases h
      case struct fs =>
        cases hfs : ctyFs P d 0 fs.toList with
        | none => simp [hfs] at h
        | some lf =>
          simp only [hfs, Option.bind_some] at h
          split at h
          · rename_i hl
            cases h
            obtain ⟨xs, n, _, _, hlen, hxs, hget⟩ := DataW.trod_struct hu hx
            have := trodFs_cok d 0 fs.toList _ hfs cs (by rw [hl, hlen]; omega) (fun i f hf => by
              have := hget i f (by simpa using hf)
              have hi : i < xs.length := by
                rw [hxs]
                have := List.getElem?_eq_some_iff.1 hf
                simpa using this.1
              rw [List.getElem?_eq_getElem hi] at this
              exact ⟨n, _, this⟩)
            rw [List.drop_zero, List.take_of_length_le (by omega)] at this
            exact this
          · cases h
      case array n e =>
        cases he : ctys P d e with
        | none => simp [he] at h
        | some le =>
          simp only [he, Option.bind_some] at h
          split at h
          · rename_i hl
            cases h
            obtain ⟨m, xs, hlen, hm⟩ := trod_array hu hx
            obtain ⟨h1, h2⟩ := mapM_some hm
            simp only [List.length_range] at h1
            refine COks.reps n cs (by omega) fun i hi => ?_
            have := h2 i (by simpa using hi) (by omega)
            simp only [List.getElem_range] at this
            rw [hl.1]
            exact trod_cok d e le he _ _ _ this
          · cases h
theorem trodFs_cok : ∀ (d : Nat) (off : Nat) (fs : List Field) (l : List CTy), ctyFs P d off fs = some l → ∀ (cs : List Value), off + l.length ≤ cs.length →
    (∀ (i : Nat) (f : Field), fs[i]? = some f → ∃ n x, DataW.trod enc P W base sp held n f.type ((cs.drop f.offset).take (P.cellsOf f.type)) = some x) → COks W l ((cs.drop off).take l.length)
  | 0, _, _, _, h, _, _, _ => by simp [ctyFs] at h
  | d + 1, off, [], l, h, cs, hl, k => by
    simp [ctyFs] at h; subst h
    simp; trivial
  | d + 1, off, f :: fs, l, h, cs, hl, k => by
    unfold ctyFs at h
    split at h
    · cases h
    · rename_i hoff
      have hoff' : f.offset = off := by simpa using hoff
      cases he : ctys P d f.type with
      | none => simp [he] at h
      | some lf =>
        simp only [he, Option.bind_some] at h
        split at h
        · rename_i hlen
          cases hr : ctyFs P d (off + lf.length) fs with
          | none => simp [hr] at h
          | some lr =>
            simp [hr] at h
            subst h
            obtain ⟨n, x, hx⟩ := k 0 f rfl
            have h1 := trod_cok d f.type lf he _ _ _ hx
            have h2 := trodFs_cok d (off + lf.length) fs lr hr cs (by simp at hl; omega) (fun i g hg => k (i + 1) g (by simpa using hg))
            rw [hoff', ← hlen] at h1
            rw [List.length_append, List.take_add, List.drop_drop]
            exact COks.app h1 h2
        · cases h
end

theorem open_cok {t : TypeId} {l : List CTy} (hl : ctys P 60 t = some l) {v : Value} {d : DataW H} {ps : List MemPlace} (h : DataW.Trod enc P W base sp held t v d ps) : COks W l v.cells.toList := by
  obtain ⟨fuel, hf⟩ := h
  exact trod_cok 60 t l hl fuel _ _ hf
end

/-- A list out of what there is at each place. -/
theorem elems_list {α : Type} : ∀ {n : Nat} {φ : Nat → α → Prop}, (∀ i, i < n → ∃ x, φ i x) → ∃ l : List α, l.length = n ∧ ∀ i (h : i < l.length), φ i l[i]
  | 0, _, _ => ⟨[], rfl, fun i h => absurd h (Nat.not_lt_zero _)⟩
  | n + 1, φ, h => by
    obtain ⟨l, h1, h2⟩ := elems_list (n := n) fun i hi => h i (by omega)
    obtain ⟨x, hx⟩ := h n (by omega)
    refine ⟨l ++ [x], by simp [h1], fun i hi => ?_⟩
    rcases Nat.lt_or_ge i l.length with k | k
    · rw [List.getElem_append_left k]; exact h2 i k
    · have : i = n := by simp at hi; omega
      subst this
      rw [List.getElem_append_right k]; simpa [h1] using hx

/-- A slice whose elements are read one by one. -/
def SlE {α : Type} (enc : α → List Value) (n : Nat) (h : Heap) (s : Sl) (l : List α) : Prop :=
  s.len = l.length ∧ ∀ i (hi : i < l.length), ∃ a, s.base = some a ∧ h.vals (a.add (i * n)) n = some (enc l[i])
theorem SlE.le {α : Type} {enc : α → List Value} {n : Nat} {h h' : Heap} {s : Sl} {l : List α} (e : SlE enc n h s l) (hl : Heap.le h h') : SlE enc n h' s l :=
  ⟨e.1, fun i hi => by obtain ⟨a, h1, h2⟩ := e.2 i hi; exact ⟨a, h1, vals_le hl h2⟩⟩

theorem open_slice {α : Type} {enc : α → List Value} {W : World} {l : List CTy} {v : Value} (h : COk W (.slice l) v) {φ : α → Prop} (f : ∀ cs, COks W l cs → ∃ x, cs = enc x ∧ φ x) :
    ∃ (s : Sl) (xs : List α), v = .slice s.base s.len s.cap ∧ s.len ≤ maxLen ∧ SlE enc l.length (fixW W) s xs ∧ ∀ x ∈ xs, φ x := by
  unfold COk at h
  obtain ⟨s, rfl, h1, h2, h3⟩ := h
  obtain ⟨xs, hx1, hx2⟩ := elems_list (φ := fun i x => ∃ a, s.base = some a ∧ (fixW W).vals (a.add (i * l.length)) l.length = some (enc x) ∧ φ x) (n := s.len) fun i hi => by
    obtain ⟨a, cs, ha, hv, hc⟩ := h3 i hi
    obtain ⟨x, rfl, hx⟩ := f cs hc
    exact ⟨x, a, ha, hv, hx⟩
  refine ⟨s, xs, rfl, Nat.le_trans h1 h2, ⟨hx1.symm, fun i hi => ?_⟩, fun x hx => ?_⟩
  · obtain ⟨a, ha, hv, _⟩ := hx2 i hi; exact ⟨a, ha, hv⟩
  · obtain ⟨i, hi, rfl⟩ := List.getElem_of_mem hx
    obtain ⟨_, _, _, hp⟩ := hx2 i hi; exact hp

/-- An append to a slice of one's own: what was there at first, and is there, stays. -/
theorem append_own' {z bytes : Nat} {h0 h : Heap} {s x : Sl} {xs new : List Value} {k : Sl → Pr} (o : Own z h0 h s xs) (hdom : ∀ b, h b = none → h0 b = none) (hx : x.vals z h new) (hr : Roomy (s.len + x.len) bytes) (h1 : oneCells new)
    (hk : ∀ s' h', (∀ b y, h0 b = some y → ∀ {v}, h b = some v → h' b = some v) → Own z h0 h' s' (xs ++ new) → s'.len = s.len + x.len → k s' h') : pAppend z bytes s x k h := by
  have hv := o.vals
  have hnl := sl_length hx
  refine ⟨xs, new, hv, .inr hx, hr, h1, fun hfit => ?_, fun hgrow b cap hb hcap => ?_⟩
  · obtain ⟨hl, ⟨e1, e2, e3⟩ | ⟨b, tot, e1, e2, e3, e4⟩⟩ := o
    · rw [e1]
      simp only
      have hx0 : x.len = 0 := by omega
      refine hk _ h (fun _ _ _ _ e => e) ?_ rfl
      have : xs = [] := by apply List.length_eq_zero_iff.1; rw [hl, e2]; simp
      have : new = [] := by apply List.length_eq_zero_iff.1; rw [hnl, hx0]; simp
      subst_vars
      exact ⟨by simp [e2, hx0], .inl ⟨rfl, by simp [e2, hx0], e3⟩⟩
    · rw [e1]
      simp only
      refine ⟨xs, tot, trivial, e3, by omega, by simpa using e4, hk _ _ ?_ ?_ rfl⟩
      · intro i y hy v hv
        rw [Heap.set_ne _ _ (fun e => by subst e; rw [e2] at hy; cases hy)]
        exact hv
      · refine ⟨by simp [hl, hnl, Nat.add_mul], .inr ⟨b, tot, rfl, e2, ?_, e4⟩⟩
        rw [Heap.set_same, Nat.zero_add, ← hl, splice_end]
  · refine hk _ _ (fun i y hy v hv => ?_) ?_ rfl
    · rw [Heap.set_ne _ _ (fun e => by subst e; rw [hb] at hv; cases hv)]; exact hv
    · exact ⟨by simp [o.1, hnl, Nat.add_mul], .inr ⟨b, cap * z, rfl, hdom b hb, by rw [Heap.set_same], Nat.le_refl _⟩⟩

end Go.Hl

set_option linter.unusedSectionVars false
set_option linter.unusedVariables false
namespace Go.Hl

/-- A function without a body that tells a value and does nothing. -/
theorem WpCall.of_extern {P : Program} {f : FuncId} {fn : Func} {e : Array Value → Sem Value} {args : Array Value} {v : Value} {KP K : Value → Pr} {h : Heap} (hf : P.funcs[f]? = some fn) (hname : (fn.name == "runtime.NumGoroutine") = false)
    (hb : fn.body.isNone = true) (hn : Extern.findNext fn = none) (he : Extern.find fn = some e) (hrun : ∀ w, R h w → (e args).run P w = .ok v w) (k : K v h) : WpCall P f args KP K h := by
  refine ⟨fun w r => ?_⟩
  unfold CallTo
  rw [run_callFunc_extern hf hname hb hn he, hrun w r]
  exact .here r k

/-- A function without a body, whose meaning is e. -/
structure IsExtern (P : Program) (f : FuncId) (e : Array Value → Sem Value) : Prop where
  run : ∀ args w, (callFunc f args).run P w = ((e args).run P w).andThen fun v w' => .ok (.value v) w'
theorem IsExtern.call {P : Program} {f : FuncId} {e : Array Value → Sem Value} (x : IsExtern P f e) {args : Array Value} {v : Value} {KP K : Value → Pr} {h : Heap} (hrun : ∀ w, R h w → (e args).run P w = .ok v w) (k : K v h) : WpCall P f args KP K h := by
  refine ⟨fun w r => ?_⟩
  unfold CallTo
  rw [x.run, hrun w r]
  exact .here r k

theorem R.shape {h : Heap} {w : World} (r : R h w) {b : Nat} {cs : List Value} {tot : Nat} (hb : h b = some (.row cs tot)) : ∃ t, w.shape? b = some (t, tot) := by
  obtain ⟨sp, ty, fr, h1, h2, h3⟩ := r b _ hb
  exact ⟨ty, by simp [World.shape?, h1, h2]⟩
theorem R.frozen {h : Heap} {w : World} (r : R h w) {b : Nat} {cs : List Value} {tot : Nat} (hb : h b = some (.row cs tot)) {a : Addr} (ha : a.block = b) : w.frozen? a = false := by
  obtain ⟨sp, ty, fr, h1, h2, h3⟩ := r b _ hb
  simp only [World.frozen?, ha, h1]
  have : fr.2 ≤ fr.1 := h3
  simp
  omega

/-- What was there is there, but where F says. -/
def Upd (F : Nat → Prop) (h h' : Heap) : Prop := ∀ b x, h b = some x → ¬ F b → h' b = some x
theorem Upd.refl (F : Nat → Prop) (h : Heap) : Upd F h h := fun _ _ e _ => e
theorem Upd.of_le {F : Nat → Prop} {h h' : Heap} (l : Heap.le h h') : Upd F h h' := fun b x e _ => l b x e
theorem Upd.set {F : Nat → Prop} {h : Heap} {b : Nat} {x : Blk} (hb : F b ∨ h b = none) : Upd F h (h.set b x) := fun i y hy hn => by
  rw [Heap.set_ne]
  · exact hy
  · rintro rfl
    rcases hb with hb | hb
    · exact hn hb
    · rw [hy] at hb; cases hb
theorem Upd.mono {F G : Nat → Prop} {h h' : Heap} (u : Upd F h h') (m : ∀ b, F b → G b) : Upd G h h' := fun b x e n => u b x e fun hf => n (m b hf)
theorem Upd.trans {F : Nat → Prop} {h h' h'' : Heap} (u : Upd F h h') (v : Upd F h' h'') : Upd F h h'' := fun b x e n => v b x (u b x e n) n
/-- What was turned at a new place concerns nobody. -/
theorem Upd.trans_new {F G : Nat → Prop} {h h' h'' : Heap} (u : Upd F h h') (v : Upd G h' h'') (m : ∀ b, G b → F b ∨ h b = none) : Upd F h h'' := fun b x e n => v b x (u b x e n) fun hg => by
  rcases m b hg with hf | hf
  · exact n hf
  · rw [e] at hf; cases hf
theorem Upd.le {F : Nat → Prop} {h h' : Heap} (u : Upd F h h') (m : ∀ b, F b → h b = none) : Heap.le h h' := fun b x e => u b x e fun hf => by rw [m b hf] at e; cases e
theorem Upd.vals {F : Nat → Prop} {h h' : Heap} (u : Upd F h h') {a : Addr} (hn : ¬ F a.block) {n : Nat} {xs : List Value} (hv : h.vals a n = some xs) : h'.vals a n = some xs := by
  unfold Heap.vals at *
  cases hs : a.spot with
  | some _ => simp [hs] at hv
  | none =>
    simp only [hs] at hv ⊢
    cases hb : h a.block with
    | none => simp [hb] at hv
    | some x => rw [u _ _ hb hn]; rw [hb] at hv; exact hv

/-- The block of a slice. -/
def blk (s : Sl) (b : Nat) : Prop := ∃ a, s.base = some a ∧ a.block = b
@[simp] theorem blk_none (n c b : Nat) : blk ⟨none, n, c⟩ b ↔ False := by simp [blk]
@[simp] theorem blk_some (a : Addr) (n c b : Nat) : blk ⟨some a, n, c⟩ b ↔ a.block = b := by simp [blk]

/-- A slice that has its block alone, from its beginning. -/
def Has (z : Nat) (h : Heap) (s : Sl) (xs : List Value) : Prop :=
  xs.length = s.len * z ∧ s.len ≤ s.cap ∧ ((s.base = none ∧ s.len = 0 ∧ s.cap = 0) ∨ ∃ b rest tot, s.base = some ⟨b, 0, none⟩ ∧ h b = some (.row (xs ++ rest) tot) ∧ s.cap * z ≤ tot)

theorem Has.none (z : Nat) (h : Heap) : Has z h ⟨none, 0, 0⟩ [] := ⟨by simp, Nat.le_refl _, .inl ⟨rfl, rfl, rfl⟩⟩
theorem Has.vals {z : Nat} {h : Heap} {s : Sl} {xs : List Value} (o : Has z h s xs) : s.vals z h xs := by
  obtain ⟨hl, _, ⟨h1, h2, h3⟩ | ⟨b, rest, tot, h1, h3, h4⟩⟩ := o
  · unfold Sl.vals; rw [h1]; simp [h2] at hl ⊢; exact hl
  · unfold Sl.vals; rw [h1]; simp only; rw [vals_row h3]
    unfold cut
    rw [if_pos (by simp; omega)]
    simp [← hl]
theorem Has.upd {z : Nat} {F : Nat → Prop} {h h' : Heap} {s : Sl} {xs : List Value} (o : Has z h s xs) (u : Upd F h h') (hn : ∀ b, blk s b → ¬ F b) : Has z h' s xs := by
  obtain ⟨hl, hc, h1 | ⟨b, rest, tot, h1, h3, h4⟩⟩ := o
  · exact ⟨hl, hc, .inl h1⟩
  · exact ⟨hl, hc, .inr ⟨b, rest, tot, h1, u _ _ h3 (hn b ⟨_, h1, rfl⟩), h4⟩⟩
theorem Has.keep {z : Nat} {h h' : Heap} {s : Sl} {xs : List Value} (o : Has z h s xs) (l : Heap.le h h') : Has z h' s xs := o.upd (Upd.of_le (F := fun _ => False) l) (fun _ _ h => h)
theorem Has.len {h : Heap} {s : Sl} {xs : List Value} (o : Has 1 h s xs) : s.len = xs.length := by have := o.1; omega
theorem Has.block {z : Nat} {h : Heap} {s : Sl} {xs : List Value} (o : Has z h s xs) {b : Nat} (hb : blk s b) : h b ≠ Option.none := by
  obtain ⟨a, ha, hb⟩ := hb
  obtain ⟨_, _, ⟨h1, _⟩ | ⟨b', rest, tot, h1, h3, h4⟩⟩ := o
  · rw [h1] at ha; cases ha
  · rw [h1] at ha; cases ha; subst hb; rw [h3]; simp

/-- Append to a slice that has its block alone. -/
theorem append_hasE {z bytes : Nat} {h : Heap} {s x : Sl} {xs new : List Value} {k : Sl → Pr} (o : Has z h s xs) (hx : x.valsE z h new) (hr : Roomy (s.len + x.len) bytes) (h1 : oneCells new)
    (hk : ∀ s' h', Upd (blk s) h h' → Has z h' s' (xs ++ new) → (∀ b, blk s' b → blk s b ∨ h b = none) → s'.len = s.len + x.len → k s' h') : pAppend z bytes s x k h := by
  have hv := o.vals
  have hnl := sl_lengthE hx
  refine ⟨xs, new, hv, hx, hr, h1, fun hfit => ?_, fun hgrow b cap hb hcap => ?_⟩
  · obtain ⟨hl, hc, ⟨e1, e2, e3⟩ | ⟨b, rest, tot, e1, e3, e4⟩⟩ := o
    · rw [e1]
      simp only
      have hx0 : x.len = 0 := by omega
      have h1 : xs = [] := by apply List.length_eq_zero_iff.1; rw [hl, e2]; simp
      have h2 : new = [] := by apply List.length_eq_zero_iff.1; rw [hnl, hx0]; simp
      subst h1 h2
      refine hk _ h (Upd.refl _ _) ⟨by simp [e2, hx0], by simp [e2, hx0, e3], .inl ⟨rfl, by simp [e2, hx0], e3⟩⟩ (fun b hb => .inl ?_) rfl
      simp at hb
    · rw [e1]
      simp only
      have hlen : (xs ++ rest).length = xs.length + rest.length := by simp
      refine ⟨xs ++ rest, tot, trivial, e3, by simp; omega, by simpa using e4, hk _ _ ?_ ?_ ?_ rfl⟩
      · exact Upd.set (.inl ⟨_, e1, rfl⟩)
      · refine ⟨by simp [hl, hnl, Nat.add_mul], hfit, .inr ⟨b, rest.drop new.length, tot, rfl, ?_, e4⟩⟩
        rw [Heap.set_same]
        congr 2
        unfold splice
        simp only [Nat.zero_add, ← hl]
        simp [List.drop_append]
      · rintro b' ⟨a, ha, rfl⟩
        exact .inl ⟨a, by rw [e1]; exact ha, rfl⟩
  · refine hk _ _ (Upd.set (.inr hb)) ⟨by simp [o.1, hnl, Nat.add_mul], hcap, .inr ⟨b, [], cap * z, rfl, by simp, Nat.le_refl _⟩⟩ ?_ rfl
    rintro b' hb'
    simp at hb'
    subst hb'
    exact .inr hb

theorem append_has {z bytes : Nat} {h : Heap} {s x : Sl} {xs new : List Value} {k : Sl → Pr} (o : Has z h s xs) (hx : x.vals z h new) (hr : Roomy (s.len + x.len) bytes) (h1 : oneCells new)
    (hk : ∀ s' h', Upd (blk s) h h' → Has z h' s' (xs ++ new) → (∀ b, blk s' b → blk s b ∨ h b = none) → s'.len = s.len + x.len → k s' h') : pAppend z bytes s x k h :=
  append_hasE o (.inr hx) hr h1 hk
/-- Many slices, each with its block alone; R: blocks that are none of theirs. -/
structure Pool (h : Heap) (R : Nat → Prop) (S : List Sl) (C : List (List Value)) : Prop where
  len : C.length = S.length
  has : ∀ k (hk : k < S.length), Has 1 h S[k] (C[k]'(by omega))
  apart : ∀ j k (hj : j < S.length) (hk : k < S.length), j ≠ k → ∀ b, blk S[j] b → ¬ blk S[k] b
  root : ∀ k (hk : k < S.length) b, blk S[k] b → ¬ R b

/-- The blocks of a pool. -/
def foot (S : List Sl) (b : Nat) : Prop := ∃ s ∈ S, blk s b

theorem Pool.upd {h h' : Heap} {R : Nat → Prop} {S : List Sl} {C : List (List Value)} (p : Pool h R S C) {F : Nat → Prop} (u : Upd F h h') (hF : ∀ b, F b → ¬ foot S b) : Pool h' R S C :=
  ⟨p.len, fun k hk => (p.has k hk).upd u fun b hb hf => hF b hf ⟨_, List.getElem_mem hk, hb⟩, p.apart, p.root⟩

/-- One slice of a pool turns. -/
theorem Pool.turn {h h' : Heap} {R : Nat → Prop} {S : List Sl} {C : List (List Value)} (p : Pool h R S C) {k : Nat} (hk : k < S.length) {s' : Sl} {c' : List Value} (u : Upd (blk S[k]) h h') (o : Has 1 h' s' c') (hs : ∀ b, blk s' b → blk S[k] b ∨ h b = none)
    (hR : ∀ b, R b → h b ≠ none) : Pool h' R (S.set k s') (C.set k c') := by
  refine ⟨by simp [p.len], fun j hj => ?_, fun i j hi hj hij b hb hb' => ?_, fun j hj b hb hr => ?_⟩
  · rw [List.length_set] at hj
    by_cases e : k = j
    · subst e; simpa using o
    · simp only [List.getElem_set_ne e]
      exact (p.has j hj).upd u fun b hb => p.apart j k hj hk (Ne.symm e) b hb
  · rw [List.length_set] at hi hj
    by_cases ei : k = i
    · subst ei
      simp only [List.getElem_set_self] at hb
      simp only [List.getElem_set_ne hij] at hb'
      rcases hs b hb with hb | hb
      · exact p.apart k j hk hj hij b hb hb'
      · exact (p.has j hj).block hb' hb
    · simp only [List.getElem_set_ne ei] at hb
      by_cases ej : k = j
      · subst ej
        simp only [List.getElem_set_self] at hb'
        rcases hs b hb' with hb' | hb'
        · exact p.apart i k hi hk hij b hb hb'
        · exact (p.has i hi).block hb hb'
      · simp only [List.getElem_set_ne ej] at hb'
        exact p.apart i j hi hj hij b hb hb'
  · rw [List.length_set] at hj
    by_cases e : k = j
    · subst e
      simp only [List.getElem_set_self] at hb
      rcases hs b hb with hb | hb
      · exact p.root k hk b hb hr
      · exact hR b hr hb
    · simp only [List.getElem_set_ne e] at hb
      exact p.root j hj b hb hr

/-- copy, by the blocks. -/
theorem copy_b {h : Heap} {z bd od ld cd bs os ls cs' m : Nat} {rs rd xs : List Value} {ts td : Nat} {k : Int → Pr} (hm : min ls ld = m) (h0 : m ≠ 0) (hs : h bs = some (.row rs ts)) (hx : cut rs os (m * z) = some xs)
    (hd : h bd = some (.row rd td)) (h1 : od ≤ rd.length) (h2 : od + m * z ≤ td) (h3 : oneCells xs) (hk : k ((m : Nat) : Int) (h.set bd (.row (splice rd od xs) td))) :
    pCopy z ⟨some ⟨bd, od, none⟩, ld, cd⟩ ⟨some ⟨bs, os, none⟩, ls, cs'⟩ k h := by
  subst hm
  refine ⟨fun e => absurd e h0, fun _ => ⟨xs, ⟨bd, od, none⟩, rd, td, ?_, rfl, rfl, hd, h1, h2, h3, hk⟩⟩
  unfold Sl.vals
  simp only
  rw [vals_row hs]; exact hx
theorem copy_none {h : Heap} {z : Nat} {d s : Sl} {k : Int → Pr} (hm : min s.len d.len = 0) (hk : k 0 h) : pCopy z d s k h := ⟨fun _ => hk, fun e => absurd hm e⟩

/-- append of zeros where there is no room. -/
theorem extend_new {h : Heap} {z bytes : Nat} {zero : List Value} {b n cap : Nat} {m : Nat} {cs old : List Value} {tot : Nat} {k : Sl → Pr} (hb : h b = some (.row cs tot)) (hx : cut cs 0 (n * z) = some old) (hr : Roomy (n + m) bytes) (h1 : oneCells zero) (hc : cap < n + m)
    (hk : ∀ b' cap', h b' = none → n + m ≤ cap' → k ⟨some ⟨b', 0, none⟩, n + m, cap'⟩ (h.set b' (.row (old ++ (List.replicate m zero).flatten) (cap' * z)))) :
    pExtend z bytes zero ⟨some ⟨b, 0, none⟩, n, cap⟩ (m : Int) k h := by
  refine ⟨old, ?_, Int.natCast_nonneg _, by simpa using hr, h1, fun e => ?_, fun _ b' cap' hb' hc' => ?_⟩
  · unfold Sl.vals; simp only; rw [vals_row hb]; exact hx
  · simp at e; omega
  · have := hk b' cap' hb' (by simpa using hc')
    simpa using this

end Go.Hl

set_option linter.unusedVariables false
namespace Go.Hl

def sw (f : Nat → Int) (i j : Nat) : Nat → Int := fun c => if c = i then f j else if c = j then f i else f c
/-- Each is at least its parent. -/
def HeapOk (f : Nat → Int) (n : Nat) : Prop := ∀ c, 1 ≤ c → c < n → f ((c - 1) / 2) ≤ f c
/-- A heap but for the edge above j. -/
def HeapUp (f : Nat → Int) (n j : Nat) : Prop :=
  (∀ c, 1 ≤ c → c < n → c ≠ j → f ((c - 1) / 2) ≤ f c) ∧ (∀ c, 1 ≤ c → c < n → (c - 1) / 2 = j → 1 ≤ j → f ((j - 1) / 2) ≤ f c)
/-- A heap but for the edges below i. -/
def HeapDn (f : Nat → Int) (n i : Nat) : Prop :=
  (∀ c, 1 ≤ c → c < n → (c - 1) / 2 ≠ i → f ((c - 1) / 2) ≤ f c) ∧ (∀ c, 1 ≤ c → c < n → (c - 1) / 2 = i → 1 ≤ i → f ((i - 1) / 2) ≤ f c)

theorem HeapUp.step {f : Nat → Int} {n j : Nat} (h : HeapUp f n j) (h1 : 1 ≤ j) (hj : j < n) (hlt : f j < f ((j - 1) / 2)) : HeapUp (sw f ((j - 1) / 2) j) n ((j - 1) / 2) := by
  obtain ⟨a, b⟩ := h
  have hne : (j - 1) / 2 ≠ j := by omega
  refine ⟨fun c c1 c2 c3 => ?_, fun c c1 c2 c3 c4 => ?_⟩
  · unfold sw
    by_cases e : c = j
    · subst e; simp only [if_true, if_neg c3]; omega
    · simp only [if_neg c3, if_neg e]
      by_cases p1 : (c - 1) / 2 = (j - 1) / 2
      · rw [if_pos p1]; have := a c c1 c2 e; rw [p1] at this; omega
      · rw [if_neg p1]
        by_cases p2 : (c - 1) / 2 = j
        · rw [if_pos p2]; exact b c c1 c2 p2 h1
        · rw [if_neg p2]; exact a c c1 c2 e
  · unfold sw
    have q1 : ((j - 1) / 2 - 1) / 2 ≠ (j - 1) / 2 := by omega
    have q2 : ((j - 1) / 2 - 1) / 2 ≠ j := by omega
    have q3 : c ≠ (j - 1) / 2 := by omega
    have hp := a ((j - 1) / 2) c4 (by omega) hne
    simp only [if_neg q1, if_neg q2, if_neg q3]
    by_cases e : c = j
    · rw [if_pos e]; exact hp
    · rw [if_neg e]; have := a c c1 c2 e; rw [c3] at this; omega
theorem HeapUp.stop {f : Nat → Int} {n j : Nat} (h : HeapUp f n j) (hs : j = 0 ∨ f ((j - 1) / 2) ≤ f j) : HeapOk f n := fun c c1 c2 => by
  by_cases e : c = j
  · subst e; rcases hs with hs | hs
    · omega
    · exact hs
  · exact h.1 c c1 c2 e
/-- A new last one. -/
theorem HeapOk.push {f : Nat → Int} {n : Nat} (h : HeapOk f n) : HeapUp f (n + 1) n :=
  ⟨fun c c1 c2 c3 => h c c1 (by omega), fun c c1 c2 c3 c4 => by omega⟩

/-- Below i the lesser child m changes places with it. -/
theorem HeapDn.step {f : Nat → Int} {n i m : Nat} (h : HeapDn f n i) (hm : (m - 1) / 2 = i) (m1 : 1 ≤ m) (mn : m < n) (hlt : f m < f i) (hmin : ∀ c, 1 ≤ c → c < n → (c - 1) / 2 = i → f m ≤ f c) : HeapDn (sw f i m) n m := by
  obtain ⟨a, b⟩ := h
  have hne : m ≠ i := by omega
  refine ⟨fun c c1 c2 c3 => ?_, fun c c1 c2 c3 c4 => ?_⟩
  · unfold sw
    by_cases e : c = i
    · subst e
      have q1 : (c - 1) / 2 ≠ c := by omega
      rw [if_neg q1, if_neg c3, if_pos rfl]
      exact b m m1 mn hm c1
    · rw [if_neg e]
      by_cases p : (c - 1) / 2 = i
      · rw [if_pos p]
        by_cases e2 : c = m
        · rw [if_pos e2]; omega
        · rw [if_neg e2]; exact hmin c c1 c2 p
      · rw [if_neg p, if_neg c3]
        by_cases e2 : c = m
        · subst e2; exact absurd hm p
        · rw [if_neg e2]; exact a c c1 c2 p
  · unfold sw
    have q1 : c ≠ i := by omega
    have q2 : c ≠ m := by omega
    have := a c c1 c2 (by omega)
    rw [c3] at this
    rw [if_neg q1, if_neg q2, hm, if_pos rfl]
    exact this
theorem HeapDn.stop {f : Nat → Int} {n i : Nat} (h : HeapDn f n i) (hs : ∀ c, 1 ≤ c → c < n → (c - 1) / 2 = i → f i ≤ f c) : HeapOk f n := fun c c1 c2 => by
  by_cases e : (c - 1) / 2 = i
  · rw [e]; exact hs c c1 c2 e
  · exact h.1 c c1 c2 e
/-- The last one comes to the top. -/
theorem HeapOk.pop {f : Nat → Int} {n : Nat} (h : HeapOk f (n + 1)) : HeapDn (sw f 0 n) n 0 :=
  ⟨fun c c1 c2 c3 => by
    unfold sw
    have q1 : c ≠ 0 := by omega
    have q2 : c ≠ n := by omega
    have q3 : (c - 1) / 2 ≠ n := by omega
    rw [if_neg c3, if_neg q1, if_neg q2, if_neg q3]
    exact h c c1 (by omega), fun c c1 c2 c3 c4 => by omega⟩
/-- The first is the least. -/
theorem HeapOk.least {f : Nat → Int} {n : Nat} (h : HeapOk f n) : ∀ c, c < n → f 0 ≤ f c := by
  intro c
  induction c using Nat.strongRecOn with
  | _ c ih =>
    intro hc
    by_cases e : c = 0
    · subst e; exact Int.le_refl _
    · have := ih ((c - 1) / 2) (by omega) (by omega)
      have := h c (by omega) hc
      omega

theorem HeapOk.congr {f g : Nat → Int} {n : Nat} (h : HeapOk f n) (e : ∀ c, c < n → g c = f c) : HeapOk g n := fun c c1 c2 => by
  rw [e c c2, e _ (by omega)]; exact h c c1 c2

/-- Two of a list change places. -/
def swL (l : List Int) (i j : Nat) : List Int := (l.set i (l.getD j 0)).set j (l.getD i 0)
theorem swL_len (l : List Int) (i j : Nat) : (swL l i j).length = l.length := by simp [swL]
theorem swL_at (l : List Int) {i j : Nat} (hi : i < l.length) (hj : j < l.length) (c : Nat) : (swL l i j).getD c 0 = sw (fun c => l.getD c 0) i j c := by
  unfold swL sw
  simp only [List.getD_eq_getElem?_getD, List.getElem?_set, List.length_set]
  by_cases e1 : j = c
  · subst e1
    by_cases e2 : j = i
    · subst e2; simp [hi]
    · simp [hi, hj, e2]
  · by_cases e2 : i = c
    · subst e2; simp [e1, hi, hj]
    · simp [e1, e2, Ne.symm e1, Ne.symm e2]
theorem swL_count (l : List Int) {i j : Nat} (hi : i < l.length) (hj : j < l.length) (x : Int) : (swL l i j).count x = l.count x := by
  unfold swL
  have e1 : l.getD j 0 = l[j] := by simp [List.getD_eq_getElem?_getD, hj]
  have e2 : l.getD i 0 = l[i] := by simp [List.getD_eq_getElem?_getD, hi]
  rw [e1, e2, List.count_set (by simpa using hj), List.count_set hi, List.getElem_set]
  have hpi : l.count l[i] ≥ 1 := List.count_pos_iff.2 (List.getElem_mem hi)
  by_cases e : i = j
  · subst e
    by_cases h1 : l[i] = x
    · have : l.count x ≥ 1 := by rw [← h1]; exact hpi
      simp [h1]; omega
    · simp [h1]
  · rw [if_neg e]
    by_cases h1 : l[i] = x <;> by_cases h2 : l[j] = x
    · have : l.count x ≥ 1 := by rw [← h1]; exact hpi
      simp [h1, h2]; omega
    · have : l.count x ≥ 1 := by rw [← h1]; exact hpi
      simp [h1, h2]; omega
    · simp [h1, h2]
    · simp [h1, h2]
end Go.Hl

set_option linter.unusedSectionVars false
set_option linter.unusedVariables false
namespace Go.Hl

/-- The two speak of other blocks, or say the same of what stays. -/
def Dis (g h : Heap) : Prop := ∀ b, g b = none ∨ h b = none ∨ ∃ o, g b = some (.fix o) ∧ h b = some (.fix o)
theorem Dis.symm {g h : Heap} (d : Dis g h) : Dis h g := fun b => by
  rcases d b with e | e | ⟨o, e, f⟩
  · exact .inr (.inl e)
  · exact .inl e
  · exact .inr (.inr ⟨o, f, e⟩)
theorem Dis.mono {g h g' h' : Heap} (d : Dis g h) (l : Heap.le g' g) (m : Heap.le h' h) : Dis g' h' := fun b => by
  rcases d b with e | e | ⟨o, e, f⟩
  · exact .inl (Heap.le_none l e)
  · exact .inr (.inl (Heap.le_none m e))
  · cases hg : g' b with
    | none => exact .inl rfl
    | some x =>
      cases hh : h' b with
      | none => exact .inr (.inl rfl)
      | some y =>
        have h1 := l _ _ hg
        have h2 := m _ _ hh
        rw [e] at h1; rw [f] at h2
        cases h1; cases h2
        exact .inr (.inr ⟨o, rfl, rfl⟩)
def Heap.cup (g h : Heap) : Heap := fun b => match g b with | some x => some x | none => h b
theorem Heap.le_cup_left (g h : Heap) : Heap.le g (g.cup h) := fun b x e => by simp [Heap.cup, e]
theorem Heap.le_cup_right {g h : Heap} (d : Dis g h) : Heap.le h (g.cup h) := fun b x e => by
  rcases d b with q | q | ⟨o, q, r⟩
  · simp [Heap.cup, q, e]
  · rw [e] at q; cases q
  · rw [e] at r; cases r; simp [Heap.cup, q]
theorem Heap.cup_le {g h k : Heap} (l : Heap.le g k) (m : Heap.le h k) : Heap.le (g.cup h) k := fun b x e => by
  unfold Heap.cup at e
  split at e
  · rename_i y hy; cases e; exact l _ _ hy
  · exact m _ _ e
theorem Dis.cup {g h k : Heap} (d : Dis g h) (e : Dis g k) : Dis g (h.cup k) := fun b => by
  unfold Heap.cup
  rcases d b with q | q | ⟨o, q, r⟩
  · exact .inl q
  · simp only [q]; exact e b
  · exact .inr (.inr ⟨o, q, by simp [r]⟩)

def sep (p q : Pr) : Pr := fun h => ∃ g1 g2, Dis g1 g2 ∧ Heap.le g1 h ∧ Heap.le g2 h ∧ p g1 ∧ q g2
/-- Parts that are apart. -/
def seps : List Pr → Pr
  | [] => fun _ => True
  | p :: r => sep p (seps r)

theorem seps_mono : ∀ {L : List Pr} {h h' : Heap}, seps L h → Heap.le h h' → seps L h'
  | [], _, _, _, _ => trivial
  | _ :: _, _, _, ⟨g1, g2, d, l1, l2, p, q⟩, l => ⟨g1, g2, d, Heap.le_trans l1 l, Heap.le_trans l2 l, p, q⟩
theorem seps_tail {p : Pr} {L : List Pr} {h : Heap} (H : seps (p :: L) h) : seps L h := by
  obtain ⟨g1, g2, d, l1, l2, a, b⟩ := H
  exact seps_mono b l2
theorem seps_nil {L : List Pr} {h : Heap} : seps [] h := trivial
theorem seps_under {p : Pr} {L M : List Pr} (m : ∀ g, seps L g → seps M g) {h : Heap} (H : seps (p :: L) h) : seps (p :: M) h := by
  obtain ⟨g1, g2, d, l1, l2, a, b⟩ := H
  exact ⟨g1, g2, d, l1, l2, a, m _ b⟩
theorem seps_imp {p q : Pr} {L : List Pr} (m : ∀ g, p g → q g) {h : Heap} (H : seps (p :: L) h) : seps (q :: L) h := by
  obtain ⟨g1, g2, d, l1, l2, a, b⟩ := H
  exact ⟨g1, g2, d, l1, l2, m _ a, b⟩
/-- The second one first. -/
theorem f1 {a b : Pr} {L : List Pr} {h : Heap} (H : seps (a :: b :: L) h) : seps (b :: a :: L) h := by
  obtain ⟨g1, g2, d, l1, l2, pa, g3, g4, d', l3, l4, pb, q⟩ := H
  have d14 : Dis g1 g4 := d.mono (Heap.le_refl _) l4
  exact ⟨g3, g1.cup g4, ((d.mono (Heap.le_refl _) l3).symm).cup d', Heap.le_trans l3 l2, Heap.cup_le l1 (Heap.le_trans l4 l2), pb, g1, g4, d14, Heap.le_cup_left _ _, Heap.le_cup_right d14, pa, q⟩
theorem f2 {a b c : Pr} {L : List Pr} {h : Heap} (H : seps (a :: b :: c :: L) h) : seps (c :: a :: b :: L) h := f1 (seps_under (fun _ => f1) H)
theorem f3 {a b c d : Pr} {L : List Pr} {h : Heap} (H : seps (a :: b :: c :: d :: L) h) : seps (d :: a :: b :: c :: L) h := f1 (seps_under (fun _ => f2) H)
theorem f4 {a b c d e : Pr} {L : List Pr} {h : Heap} (H : seps (a :: b :: c :: d :: e :: L) h) : seps (e :: a :: b :: c :: d :: L) h := f1 (seps_under (fun _ => f3) H)
theorem f5 {a b c d e f : Pr} {L : List Pr} {h : Heap} (H : seps (a :: b :: c :: d :: e :: f :: L) h) : seps (f :: a :: b :: c :: d :: e :: L) h := f1 (seps_under (fun _ => f4) H)
theorem f6 {a b c d e f g : Pr} {L : List Pr} {h : Heap} (H : seps (a :: b :: c :: d :: e :: f :: g :: L) h) : seps (g :: a :: b :: c :: d :: e :: f :: L) h := f1 (seps_under (fun _ => f5) H)
/-- The first one behind the second (third, ..). -/
theorem b2 {a b c : Pr} {L : List Pr} {h : Heap} (H : seps (a :: b :: c :: L) h) : seps (b :: c :: a :: L) h := f2 (f2 H)
theorem b3 {a b c d : Pr} {L : List Pr} {h : Heap} (H : seps (a :: b :: c :: d :: L) h) : seps (b :: c :: d :: a :: L) h := f3 (f3 (f3 H))
theorem b4 {a b c d e : Pr} {L : List Pr} {h : Heap} (H : seps (a :: b :: c :: d :: e :: L) h) : seps (b :: c :: d :: e :: a :: L) h := f4 (f4 (f4 (f4 H)))

/-- A list of parts as one part. -/
theorem seps_join : ∀ {A B : List Pr} {h : Heap}, seps (A ++ B) h → seps (seps A :: B) h
  | [], B, h, H => ⟨fun _ => none, h, fun b => .inl rfl, fun _ _ e => (by cases e), Heap.le_refl _, trivial, H⟩
  | a :: A, B, h, H => by
    obtain ⟨g1, g2, d, l1, l2, pa, q⟩ := H
    obtain ⟨g3, g4, d', l3, l4, qa, qb⟩ := seps_join (A := A) (B := B) q
    have d13 : Dis g1 g3 := d.mono (Heap.le_refl _) l3
    have d14 : Dis g1 g4 := d.mono (Heap.le_refl _) l4
    exact ⟨g1.cup g3, g4, (d14.symm.cup d'.symm).symm, Heap.cup_le l1 (Heap.le_trans l3 l2), Heap.le_trans l4 l2, ⟨g1, g3, d13, Heap.le_cup_left _ _, Heap.le_cup_right d13, pa, qa⟩, qb⟩
theorem seps_split : ∀ {A B : List Pr} {h : Heap}, seps (seps A :: B) h → seps (A ++ B) h
  | [], B, h, H => seps_tail H
  | a :: A, B, h, H => by
    obtain ⟨g1, g2, d, l1, l2, ⟨g3, g4, d', l3, l4, pa, qa⟩, q⟩ := H
    have d32 : Dis g3 g2 := d.mono l3 (Heap.le_refl _)
    have d42 : Dis g4 g2 := d.mono l4 (Heap.le_refl _)
    refine ⟨g3, g4.cup g2, d'.cup d32, Heap.le_trans l3 l1, Heap.cup_le (Heap.le_trans l4 l1) l2, pa, seps_split (A := A) (B := B) ⟨g4, g2, d42, Heap.le_cup_left _ _, Heap.le_cup_right d42, qa, q⟩⟩
/-- One of a list in front. -/
theorem seps_mid : ∀ {A B : List Pr} {p : Pr} {h : Heap}, seps (A ++ p :: B) h → seps (p :: (A ++ B)) h
  | [], B, p, h, H => H
  | a :: A, B, p, h, H => f1 (seps_under (fun _ => seps_mid (A := A)) H)
theorem seps_mid' : ∀ {A B : List Pr} {p : Pr} {h : Heap}, seps (p :: (A ++ B)) h → seps (A ++ p :: B) h
  | [], B, p, h, H => H
  | a :: A, B, p, h, H => seps_under (fun _ => seps_mid' (A := A)) (f1 H)
theorem seps_app : ∀ {A B : List Pr} {h : Heap}, seps (A ++ B) h → seps (B ++ A) h
  | [], B, h, H => by simpa using H
  | a :: A, B, h, H => by
    have H1 : seps (a :: (B ++ A)) h := seps_under (fun _ => seps_app (A := A)) H
    exact seps_mid' H1

/-- What holds of a part holds of the whole. -/
theorem seps_fst {p : Pr} {L : List Pr} {h : Heap} (H : seps (p :: L) h) (m : ∀ {g k : Heap}, p g → Heap.le g k → p k) : p h := by
  obtain ⟨g1, g2, d, l1, l2, a, b⟩ := H
  exact m a l1

/- Rows. -/
def rowP (b : Nat) (cs : List Value) (tot : Nat) : Pr := fun h => h b = some (.row cs tot)
theorem row_at {b : Nat} {cs : List Value} {tot : Nat} {L : List Pr} {h : Heap} (H : seps (rowP b cs tot :: L) h) : h b = some (.row cs tot) := seps_fst H fun {_ _} p l => l _ _ p
theorem seps_set {p p' : Pr} {b : Nat} {x y : Blk} {L : List Pr} {h : Heap} (H : seps (p :: L) h) (hb : ∀ g, p g → g b = some x) (hx : ∀ o, x ≠ .fix o) (hp : ∀ g, p g → p' (g.set b y)) : seps (p' :: L) (h.set b y) := by
  obtain ⟨g1, g2, d, l1, l2, a, q⟩ := H
  have e1 := hb _ a
  have e2 : g2 b = none := by
    rcases d b with e | e | ⟨o, e, f⟩
    · rw [e1] at e; cases e
    · exact e
    · rw [e1] at e; cases e; exact absurd rfl (hx o)
  refine ⟨g1.set b y, g2, fun i => ?_, Heap.le_set_set l1 b y, fun i z hz => ?_, hp _ a, q⟩
  · by_cases hi : i = b
    · subst hi; exact .inr (.inl e2)
    · rw [Heap.set_ne _ _ hi]; exact d i
  · rw [Heap.set_ne _ _ (fun e => by subst e; rw [e2] at hz; cases hz)]
    exact l2 _ _ hz
theorem row_set {b : Nat} {cs cs' : List Value} {tot tot' : Nat} {L : List Pr} {h : Heap} (H : seps (rowP b cs tot :: L) h) : seps (rowP b cs' tot' :: L) (h.set b (.row cs' tot')) :=
  seps_set H (fun _ e => e) (fun o e => by cases e) (fun _ _ => Heap.set_same _ _ _)
theorem new_row {b : Nat} {cs : List Value} {n : Nat} {L : List Pr} {h : Heap} (H : seps L h) (hb : h b = none) : seps (rowP b cs n :: L) (h.set b (.row cs n)) :=
  ⟨fun i => if i = b then some (.row cs n) else none, h, fun i => by
    by_cases hi : i = b
    · subst hi; exact .inr (.inl hb)
    · left; simp [hi], fun i x e => by
    by_cases hi : i = b
    · subst hi; simp at e; subst e; exact Heap.set_same _ _ _
    · simp [hi] at e, Heap.le_set_new (Heap.le_refl _) hb _, by simp [rowP], H⟩

/- Slices. -/
/-- A slice that may be read. -/
def rd (z : Nat) (s : Sl) (xs : List Value) : Pr := fun h => s.vals z h xs
/-- A slice that has its block alone. -/
def own (z : Nat) (s : Sl) (xs : List Value) : Pr := fun h => Has z h s xs
theorem rd_at {z : Nat} {s : Sl} {xs : List Value} {L : List Pr} {h : Heap} (H : seps (rd z s xs :: L) h) : s.vals z h xs := seps_fst H fun {_ _} p l => Sl.vals_le l p
theorem own_at {z : Nat} {s : Sl} {xs : List Value} {L : List Pr} {h : Heap} (H : seps (own z s xs :: L) h) : Has z h s xs := seps_fst H fun {_ _} p l => p.keep l
theorem own_rd {z : Nat} {s : Sl} {xs : List Value} {L : List Pr} {h : Heap} (H : seps (own z s xs :: L) h) : seps (rd z s xs :: L) h := seps_imp (fun _ o => o.vals) H

/- What was proved with 'Upd' and 'what is new'. -/
/-- Blocks of a view that may be written. -/
def Wr (g : Heap) (x : Nat) : Prop := ∃ y, g x = some y ∧ ∀ o, y ≠ .fix o
def New (G : Nat → Prop) (h : Heap) : Nat → Prop := fun x => G x ∨ h x = none
/-- A predicate that hangs on its blocks alone. -/
structure Foot (q : Heap → (Nat → Prop) → Prop) : Prop where
  loc : ∀ {h g : Heap} {G : Nat → Prop}, q h G → (∀ x y, h x = some y → G x → g x = some y) → q g G
  norm : ∀ {h : Heap} {G : Nat → Prop}, q h G → ∃ G', q h G' ∧ ∀ x, G' x → G x ∧ Wr h x
def ex (q : Heap → (Nat → Prop) → Prop) : Pr := fun h => ∃ G, q h G ∧ ∀ x, G x → Wr h x

theorem ex_at {q : Heap → (Nat → Prop) → Prop} (f : Foot q) {L : List Pr} {h : Heap} (H : seps (ex q :: L) h) : ∃ G, q h G := by
  obtain ⟨g1, g2, d, l1, l2, ⟨G, a, w⟩, r⟩ := H
  exact ⟨G, f.loc a fun x y hx _ => l1 _ _ hx⟩

/-- The step of a part: where it lies may turn, and what is new may be taken. -/
theorem ex_step {q : Heap → (Nat → Prop) → Prop} (f : Foot q) {L : List Pr} {h : Heap} (H : seps (ex q :: L) h) :
    ∃ G, q h G ∧ ∀ (q' : Heap → (Nat → Prop) → Prop) (h' : Heap), Foot q' → q' h' (New G h) → Upd G h h' → seps (ex q' :: L) h' := by
  obtain ⟨g1, g2, d, l1, l2, ⟨G, a, w⟩, r⟩ := H
  refine ⟨G, f.loc a fun x y hx _ => l1 _ _ hx, fun q' h' f' hq u => ?_⟩
  obtain ⟨G', hq', hG'⟩ := f'.norm hq
  have out : ∀ x, G' x → g2 x = none := fun x hx => by
    rcases (hG' x hx).1 with h1 | h1
    · obtain ⟨y, hy, hf⟩ := w x h1
      rcases d x with e | e | ⟨o, e, _⟩
      · rw [hy] at e; cases e
      · exact e
      · rw [hy] at e; cases e; exact absurd rfl (hf o)
    · exact Heap.le_none l2 h1
  have out2 : ∀ x, G x → g2 x = none := fun x h1 => by
    obtain ⟨y, hy, hf⟩ := w x h1
    rcases d x with e | e | ⟨o, e, _⟩
    · rw [hy] at e; cases e
    · exact e
    · rw [hy] at e; cases e; exact absurd rfl (hf o)
  classical
  refine ⟨fun x => if G' x then h' x else none, g2, fun x => ?_, fun x y hx => ?_, fun x y hx => ?_, ⟨G', f'.loc hq' fun x y hx hg => by simp [hg, hx], fun x hx => ?_⟩, r⟩
  · by_cases hx : G' x
    · exact .inr (.inl (out x hx))
    · left; simp [hx]
  · by_cases hg : G' x
    · simpa [hg] using hx
    · simp [hg] at hx
  · exact u x y (l2 _ _ hx) fun hg => by rw [out2 x hg] at hx; cases hx
  · obtain ⟨y, hy, hf⟩ := (hG' x hx).2
    exact ⟨y, by simp [hx, hy], hf⟩

/-- Something new beside what there is. -/
theorem ex_new {q : Heap → (Nat → Prop) → Prop} (f : Foot q) {L : List Pr} {h h' : Heap} (H : seps L h) (l : Heap.le h h') (hq : q h' (fun x => h x = none)) : seps (ex q :: L) h' := by
  obtain ⟨G', hq', hG'⟩ := f.norm hq
  classical
  refine ⟨fun x => if G' x then h' x else none, h, fun x => ?_, fun x y hx => ?_, l, ⟨G', f.loc hq' fun x y hx hg => by simp [hg, hx], fun x hx => ?_⟩, H⟩
  · by_cases hx : G' x
    · exact .inr (.inl (hG' x hx).1)
    · left; simp [hx]
  · by_cases hg : G' x
    · simpa [hg] using hx
    · simp [hg] at hx
  · obtain ⟨y, hy, hf⟩ := (hG' x hx).2
    exact ⟨y, by simp [hx, hy], hf⟩

/- Slices. -/
def hasQ (z : Nat) (s : Sl) (xs : List Value) : Heap → (Nat → Prop) → Prop := fun h G => Has z h s xs ∧ ∀ b, blk s b → G b
theorem hasQ_foot (z : Nat) (s : Sl) (xs : List Value) : Foot (hasQ z s xs) := by
  refine ⟨fun {h g G} q m => ⟨?_, q.2⟩, fun {h G} q => ⟨blk s, ⟨q.1, fun _ hb => hb⟩, fun x hx => ⟨q.2 x hx, ?_⟩⟩⟩
  · obtain ⟨hl, hc, e | ⟨b, rest, tot, h1, h3, h4⟩⟩ := q.1
    · exact ⟨hl, hc, .inl e⟩
    · exact ⟨hl, hc, .inr ⟨b, rest, tot, h1, m _ _ h3 (q.2 _ ⟨_, h1, rfl⟩), h4⟩⟩
  · obtain ⟨a, ha, hx⟩ := hx
    obtain ⟨hl, hc, e | ⟨b, rest, tot, h1, h3, h4⟩⟩ := q.1
    · rw [e.1] at ha; cases ha
    · rw [h1] at ha; cases ha; subst hx
      exact ⟨_, h3, fun o e => by cases e⟩
theorem own_ex {z : Nat} {s : Sl} {xs : List Value} {h : Heap} (o : own z s xs h) : ex (hasQ z s xs) h := by
  obtain ⟨G, hq, hG⟩ := (hasQ_foot z s xs).norm (h := h) (G := blk s) ⟨o, fun _ hb => hb⟩
  exact ⟨G, hq, fun x hx => (hG x hx).2⟩
theorem ex_own {z : Nat} {s : Sl} {xs : List Value} {h : Heap} (o : ex (hasQ z s xs) h) : own z s xs h := by
  obtain ⟨G, hq, hG⟩ := o
  exact hq.1
/-- A slice that turned ('Upd', 'Has'). -/
theorem own_step {z : Nat} {s : Sl} {xs : List Value} {L : List Pr} {h h' : Heap} (H : seps (own z s xs :: L) h) {s' : Sl} {xs' : List Value} (u : Upd (blk s) h h') (o : Has z h' s' xs') (f : ∀ b, blk s' b → blk s b ∨ h b = none) : seps (own z s' xs' :: L) h' := by
  obtain ⟨g1, g2, d, l1, l2, a, r⟩ := H
  have out : ∀ x, blk s x → g2 x = none := fun x hx => by
    obtain ⟨ad, ha, hx⟩ := hx
    obtain ⟨hl, hc, e | ⟨b, rest, tot, h1, h3, h4⟩⟩ := a
    · rw [e.1] at ha; cases ha
    · rw [h1] at ha; cases ha; subst hx
      rcases d b with e | e | ⟨o, e, _⟩
      · rw [h3] at e; cases e
      · exact e
      · rw [h3] at e; cases e
  classical
  refine ⟨fun x => if blk s' x then h' x else none, g2, fun x => ?_, fun x y hx => ?_, fun x y hx => ?_, ?_, r⟩
  · by_cases hx : blk s' x
    · right; left
      rcases f x hx with q | q
      · exact out x q
      · exact Heap.le_none l2 q
    · left; simp [hx]
  · by_cases hg : blk s' x
    · simpa [hg] using hx
    · simp [hg] at hx
  · exact u x y (l2 _ _ hx) fun hg => by rw [out x hg] at hx; cases hx
  · exact ((hasQ_foot z s' xs').loc (G := blk s') ⟨o, fun _ hb => hb⟩ fun x y hx hg => by simp [hg, hx]).1
/-- A new slice. -/
theorem own_new {z : Nat} {s : Sl} {xs : List Value} {L : List Pr} {h h' : Heap} (H : seps L h) (l : Heap.le h h') (o : Has z h' s xs) (f : ∀ b, blk s b → h b = none) : seps (own z s xs :: L) h' :=
  seps_imp (fun _ => ex_own) (ex_new (hasQ_foot z s xs) H l ⟨o, f⟩)
/-- Two new slices that are apart. -/
theorem own_new2 {z : Nat} {s t : Sl} {xs ys : List Value} {L : List Pr} {h h' : Heap} (H : seps L h) (l : Heap.le h h') (o : Has z h' s xs) (f : ∀ b, blk s b → h b = none) (o2 : Has z h' t ys) (f2 : ∀ b, blk t b → h b = none) (ap : ∀ b, blk s b → ¬ blk t b) :
    seps (own z s xs :: own z t ys :: L) h' := by
  classical
  let h1 : Heap := fun x => if blk s x then none else h' x
  have l1 : Heap.le h h1 := fun x y hx => by
    have : ¬ blk s x := fun e => by rw [f x e] at hx; cases hx
    simp only [h1, this, if_false]; exact l _ _ hx
  have l2 : Heap.le h1 h' := fun x y hx => by
    by_cases e : blk s x
    · simp [h1, e] at hx
    · simpa [h1, e] using hx
  have H1 := own_new (h' := h1) H l1 ((hasQ_foot z t ys).loc (G := blk t) ⟨o2, fun _ hb => hb⟩ fun x y hx hg => by
    have : ¬ blk s x := fun e => ap x e hg
    simp only [h1, this, if_false]; exact hx).1 f2
  exact own_new H1 l2 o fun b hb => by simp [h1, hb]
/-- Nothing is there yet. -/
theorem own_nil {z : Nat} {L : List Pr} {h : Heap} (H : seps L h) : seps (own z ⟨none, 0, 0⟩ [] :: L) h :=
  own_new H (Heap.le_refl _) (Has.none _ _) (fun b hb => by simp at hb)
/-- append to a slice that has its block alone. -/
theorem append_sep {z bytes : Nat} {h : Heap} {s x : Sl} {xs new : List Value} {L : List Pr} {k : Sl → Pr} (H : seps (own z s xs :: L) h) (hx : x.vals z h new) (hr : Roomy (s.len + x.len) bytes) (h1 : oneCells new)
    (hk : ∀ s' h', seps (own z s' (xs ++ new) :: L) h' → s'.len = s.len + x.len → k s' h') : pAppend z bytes s x k h :=
  append_has (own_at H) hx hr h1 fun s' h' u o f e => hk s' h' (own_step H u o f) e
/-- append to a slice that has its block alone. -/
theorem append_sepE {z bytes : Nat} {h : Heap} {s x : Sl} {xs new : List Value} {L : List Pr} {k : Sl → Pr} (H : seps (own z s xs :: L) h) (hx : x.valsE z h new) (hr : Roomy (s.len + x.len) bytes) (h1 : oneCells new)
    (hk : ∀ s' h', seps (own z s' (xs ++ new) :: L) h' → s'.len = s.len + x.len → k s' h') : pAppend z bytes s x k h :=
  append_hasE (own_at H) hx hr h1 fun s' h' u o f e => hk s' h' (own_step H u o f) e
theorem fgt_k {K : Value → Pr} {v : Value} {h : Heap} (k : K v h) : fgt K v h := ⟨h, Heap.le_refl h, k⟩

end Go.Hl

set_option linter.unusedVariables false
namespace Go.Hl
theorem wf_u8 {n : Int} (w : (Lit.int .u8 n).wf = true) : 0 ≤ n ∧ n ≤ 255 := by simp [Lit.wf, IntKind.min, IntKind.max, IntKind.bits, IntKind.signed] at w; omega
theorem wf_i64 {n : Int} (w : (Lit.int .i64 n).wf = true) : -9223372036854775808 ≤ n ∧ n ≤ 9223372036854775807 := by simp [Lit.wf, IntKind.min, IntKind.max, IntKind.bits, IntKind.signed] at w; omega
theorem wf_u64 {n : Int} (w : (Lit.int .u64 n).wf = true) : 0 ≤ n ∧ n ≤ 18446744073709551615 := by simp [Lit.wf, IntKind.min, IntKind.max, IntKind.bits, IntKind.signed] at w; omega
theorem wf_i32 {n : Int} (w : (Lit.int .i32 n).wf = true) : -2147483648 ≤ n ∧ n ≤ 2147483647 := by simp [Lit.wf, IntKind.min, IntKind.max, IntKind.bits, IntKind.signed] at w; omega
theorem wf_i16 {n : Int} (w : (Lit.int .i16 n).wf = true) : -32768 ≤ n ∧ n ≤ 32767 := by simp [Lit.wf, IntKind.min, IntKind.max, IntKind.bits, IntKind.signed] at w; omega

/-- Parts in another order: those of the numbers given first, the others behind them as they stood. -/
def lessN : List Nat → Nat → Nat
  | [], _ => 0
  | j :: r, i => (if j < i then 1 else 0) + lessN r i
def pickA : List Nat → List Nat → List Pr → List Pr
  | _, [], M => M
  | rem, i :: is, M => M.getD (i - lessN rem i) (fun _ => True) :: pickA (i :: rem) is (M.eraseIdx (i - lessN rem i))
def pickL (is : List Nat) (M : List Pr) : List Pr := pickA [] is M
theorem seps_none {L : List Pr} {h : Heap} (H : seps L h) : seps ((fun _ => True) :: L) h := ⟨fun _ => none, h, fun _ => .inl rfl, fun _ _ e => (by cases e), Heap.le_refl _, trivial, H⟩
theorem seps_at : ∀ {M : List Pr} {h : Heap} (i : Nat), seps M h → seps (M.getD i (fun _ => True) :: M.eraseIdx i) h
  | [], h, i, H => seps_none H
  | a :: M, h, 0, H => H
  | a :: M, h, i + 1, H => f1 (seps_under (fun _ H => seps_at i H) H)
theorem pkA : ∀ (rem is : List Nat) {M : List Pr} {h : Heap}, seps M h → seps (pickA rem is M) h
  | _, [], _, _, H => H
  | rem, i :: is, _, _, H => seps_under (fun _ H => pkA (i :: rem) is H) (seps_at _ H)
theorem pk (is : List Nat) {M : List Pr} {h : Heap} (H : seps M h) : seps (pickL is M) h := pkA [] is H
/-- The first n alone. -/
theorem keepN : ∀ (n : Nat) {M : List Pr} {h : Heap}, seps M h → seps (M.take n) h
  | 0, _, _, _ => trivial
  | n + 1, [], _, H => trivial
  | n + 1, a :: M, _, H => seps_under (fun _ H => keepN n H) H
/-- One of them goes. -/
theorem rid : ∀ (i : Nat) {M : List Pr} {h : Heap}, seps M h → seps (M.eraseIdx i) h := fun i _ _ H => seps_tail (seps_at i H)
example {a b c d : Pr} {L : List Pr} {h : Heap} (H : seps (a :: b :: c :: d :: L) h) : seps (c :: a :: d :: b :: L) h := pk [2, 0, 3] H
example {b : Nat} {cs : List Value} {a c d : Pr} {L : List Pr} {h : Heap} (H : seps (a :: c :: d :: rowP b cs 3 :: L) h) : h b = some (.row cs 3) := row_at (pk [3] H)

end Go.Hl

set_option linter.unusedVariables false
namespace Go.Hl

/-- A slice that has its block alone, wherever it begins in it. -/
def HasO (z : Nat) (h : Heap) (s : Sl) (xs : List Value) : Prop :=
  xs.length = s.len * z ∧ s.len ≤ s.cap ∧ ((s.base = none ∧ s.len = 0 ∧ s.cap = 0) ∨ ∃ b pre rest tot, s.base = some ⟨b, pre.length, none⟩ ∧ h b = some (.row (pre ++ (xs ++ rest)) tot) ∧ pre.length + s.cap * z ≤ tot)
theorem HasO.of {z : Nat} {h : Heap} {s : Sl} {xs : List Value} (o : Has z h s xs) : HasO z h s xs := by
  obtain ⟨hl, hc, e | ⟨b, rest, tot, h1, h3, h4⟩⟩ := o
  · exact ⟨hl, hc, .inl e⟩
  · exact ⟨hl, hc, .inr ⟨b, [], rest, tot, h1, h3, by simpa using h4⟩⟩
theorem HasO.keep {z : Nat} {h h' : Heap} {s : Sl} {xs : List Value} (o : HasO z h s xs) (l : Heap.le h h') : HasO z h' s xs := by
  obtain ⟨hl, hc, e | ⟨b, pre, rest, tot, h1, h3, h4⟩⟩ := o
  · exact ⟨hl, hc, .inl e⟩
  · exact ⟨hl, hc, .inr ⟨b, pre, rest, tot, h1, l _ _ h3, h4⟩⟩
theorem HasO.vals {z : Nat} {h : Heap} {s : Sl} {xs : List Value} (o : HasO z h s xs) : s.vals z h xs := by
  obtain ⟨hl, _, ⟨h1, h2, h3⟩ | ⟨b, pre, rest, tot, h1, h3, h4⟩⟩ := o
  · unfold Sl.vals; rw [h1]; simp [h2] at hl ⊢; exact hl
  · unfold Sl.vals; rw [h1]; simp only; rw [vals_row h3]
    unfold cut
    rw [if_pos (by simp; omega), List.drop_left, ← hl, List.take_left]
def ownO (z : Nat) (s : Sl) (xs : List Value) : Pr := fun h => HasO z h s xs
theorem ownO_at {z : Nat} {s : Sl} {xs : List Value} {L : List Pr} {h : Heap} (H : seps (ownO z s xs :: L) h) : HasO z h s xs := seps_fst H fun {_ _} p l => p.keep l
theorem own_O {z : Nat} {s : Sl} {xs : List Value} {L : List Pr} {h : Heap} (H : seps (own z s xs :: L) h) : seps (ownO z s xs :: L) h := seps_imp (fun _ o => HasO.of o) H
theorem ownO_len {z : Nat} {h : Heap} {s : Sl} {xs : List Value} (o : HasO z h s xs) : xs.length = s.len * z := o.1

theorem ownO_step {z : Nat} {s : Sl} {xs : List Value} {L : List Pr} {h h' : Heap} (H : seps (ownO z s xs :: L) h) {s' : Sl} {xs' : List Value} (u : Upd (blk s) h h') (o : HasO z h' s' xs') (f : ∀ b, blk s' b → blk s b ∨ h b = none) : seps (ownO z s' xs' :: L) h' := by
  obtain ⟨g1, g2, d, l1, l2, a, r⟩ := H
  have out : ∀ x, blk s x → g2 x = none := fun x hx => by
    obtain ⟨ad, ha, hx⟩ := hx
    obtain ⟨hl, hc, e | ⟨b, pre, rest, tot, h1, h3, h4⟩⟩ := a
    · rw [e.1] at ha; cases ha
    · rw [h1] at ha; cases ha; subst hx
      rcases d b with e | e | ⟨o, e, _⟩
      · rw [h3] at e; cases e
      · exact e
      · rw [h3] at e; cases e
  classical
  refine ⟨fun x => if blk s' x then h' x else none, g2, fun x => ?_, fun x y hx => ?_, fun x y hx => ?_, ?_, r⟩
  · by_cases hx : blk s' x
    · right; left
      rcases f x hx with q | q
      · exact out x q
      · exact Heap.le_none l2 q
    · left; simp [hx]
  · by_cases hg : blk s' x
    · simpa [hg] using hx
    · simp [hg] at hx
  · exact u x y (l2 _ _ hx) fun hg => by rw [out x hg] at hx; cases hx
  · obtain ⟨hl, hc, e | ⟨b, pre, rest, tot, h1, h3, h4⟩⟩ := o
    · exact ⟨hl, hc, .inl e⟩
    · have hb : blk s' b := ⟨_, h1, rfl⟩
      exact ⟨hl, hc, .inr ⟨b, pre, rest, tot, h1, by simp only [hb, if_true]; exact h3, h4⟩⟩

/-- append to it. -/
theorem append_O {z bytes : Nat} {h : Heap} {s x : Sl} {xs new : List Value} {L : List Pr} {k : Sl → Pr} (H : seps (ownO z s xs :: L) h) (hx : x.vals z h new) (hr : Roomy (s.len + x.len) bytes) (h1 : oneCells new)
    (hk : ∀ s' h', seps (ownO z s' (xs ++ new) :: L) h' → s'.len = s.len + x.len → k s' h') : pAppend z bytes s x k h := by
  have o := ownO_at H
  have hv := o.vals
  have hnl := sl_length hx
  refine ⟨xs, new, hv, .inr hx, hr, h1, fun hfit => ?_, fun hgrow b cap hb hcap => ?_⟩
  · obtain ⟨hl, hc, ⟨e1, e2, e3⟩ | ⟨b, pre, rest, tot, e1, e3, e4⟩⟩ := o
    · rw [e1]
      simp only
      have hx0 : x.len = 0 := by omega
      have h1 : xs = [] := by apply List.length_eq_zero_iff.1; rw [hl, e2]; simp
      have h2 : new = [] := by apply List.length_eq_zero_iff.1; rw [hnl, hx0]; simp
      subst h1 h2
      refine hk _ h (seps_imp (fun g _ => ⟨by simp [e2, hx0], by simp [e2, hx0, e3], .inl ⟨rfl, by simp [e2, hx0], e3⟩⟩) H) rfl
    · rw [e1]
      simp only
      refine ⟨pre ++ (xs ++ rest), tot, trivial, e3, by simp; omega, by simpa using e4, hk _ _ ?_ rfl⟩
      refine ownO_step H (Upd.set (.inl ⟨_, e1, rfl⟩)) ⟨by simp [hl, hnl, Nat.add_mul], hfit, .inr ⟨b, pre, rest.drop new.length, tot, rfl, ?_, e4⟩⟩ (fun b' hb' => ?_)
      · rw [Heap.set_same]
        congr 2
        unfold splice
        have e5 : pre ++ (xs ++ rest) = (pre ++ xs) ++ rest := by simp
        rw [show pre.length + s.len * z = (pre ++ xs).length by simp; omega, e5, List.take_left, ← List.drop_drop, List.drop_left]
        simp
      · obtain ⟨a, ha, rfl⟩ := hb'
        exact .inl ⟨a, by rw [e1]; exact ha, rfl⟩
  · refine hk _ _ ?_ rfl
    exact seps_under (fun _ H => H) (seps_imp (fun _ o => HasO.of o) (own_new (seps_tail H) (Heap.le_set_new (Heap.le_refl _) hb _) ⟨by simp [o.1, hnl, Nat.add_mul], hcap, .inr ⟨b, [], cap * z, rfl, by simp, Nat.le_refl _⟩⟩ (fun b' hb' => by simp at hb'; subst hb'; exact hb)))

/-- The first one goes. -/
theorem tail_O {h : Heap} {s : Sl} {x : Value} {xs : List Value} {L : List Pr} (H : seps (ownO 1 s (x :: xs) :: L) h) {s2 : Sl} (hs : s2 = ⟨(if s.cap = 1 then s.base else s.base.map (·.add 1)), s.len - 1, s.cap - 1⟩) : seps (ownO 1 s2 xs :: L) h := by
  refine seps_imp (fun g o => ?_) H
  obtain ⟨hl, hc, ⟨e1, e2, e3⟩ | ⟨b, pre, rest, tot, e1, e3, e4⟩⟩ := o
  · rw [e2] at hl; simp at hl
  · rw [List.length_cons] at hl
    by_cases hcc : s.cap = 1
    · refine ⟨by rw [hs]; simp only; omega, by rw [hs]; simp only; omega, .inr ⟨b, pre, x :: (xs ++ rest), tot, by rw [hs, if_pos hcc]; exact e1, ?_, ?_⟩⟩
      · have : xs = [] := List.length_eq_zero_iff.1 (by omega)
        subst this
        exact e3
      · rw [hs]; simp only; omega
    · refine ⟨by rw [hs]; simp only; omega, by rw [hs]; simp only; omega, .inr ⟨b, pre ++ [x], rest, tot, by rw [hs, if_neg hcc, e1]; simp, ?_, ?_⟩⟩
      · rw [e3]; simp
      · rw [hs]; simp only [List.length_append, List.length_cons, List.length_nil]; omega

/- Maps. -/
def mapP (b : Nat) (es : List (Value × Value)) : Pr := fun h => h b = some (.map es)
theorem map_at {b : Nat} {es : List (Value × Value)} {L : List Pr} {h : Heap} (H : seps (mapP b es :: L) h) : h b = some (.map es) := seps_fst H fun {_ _} p l => l _ _ p
theorem map_new {es : List (Value × Value)} {L : List Pr} {h : Heap} (H : seps L h) {b : Nat} (hb : h b = none) : seps (mapP b es :: L) (h.set b (.map es)) :=
  ⟨fun i => if i = b then some (.map es) else none, h, fun i => by
    by_cases hi : i = b
    · subst hi; exact .inr (.inl hb)
    · left; simp [hi], fun i x e => by
    by_cases hi : i = b
    · subst hi; simp at e; subst e; exact Heap.set_same _ _ _
    · simp [hi] at e, Heap.le_set_new (Heap.le_refl _) hb _, by simp [mapP], H⟩
theorem map_set {b : Nat} {es es' : List (Value × Value)} {L : List Pr} {h : Heap} (H : seps (mapP b es :: L) h) : seps (mapP b es' :: L) (h.set b (.map es')) :=
  seps_set H (fun _ e => e) (fun o e => by cases e) (fun _ _ => Heap.set_same _ _ _)

/-- Maps from whole numbers. -/
def intE {α : Type} (f : α → Value) (V : List (Int × α)) : List (Value × Value) := V.map fun p => (.int .i64 p.1, f p.2)
def getE {α : Type} : List (Int × α) → Int → Option α
  | [], _ => none
  | (y, a) :: r, x => if x = y then some a else getE r x
theorem find_int {α : Type} (f : α → Value) (x : Int) : ∀ V : List (Int × α), findM (.int .i64) (.int .i64 x) (intE f V) = some ((getE V x).map f)
  | [] => rfl
  | (y, a) :: r => by
    have ih := find_int f x r
    unfold intE at ih ⊢
    simp only [List.map_cons, findM, getE]
    by_cases e : x = y
    · subst e
      have : Instr.sameNow (.int .i64) (.int .i64 x) (.int .i64 x) = some true := by simp [Instr.sameNow]
      rw [this]; simp
    · have : Instr.sameNow (.int .i64) (.int .i64 x) (.int .i64 y) = some false := by simp [Instr.sameNow, e]
      rw [this]; simp [e, ih]
theorem put_int {α : Type} (f : α → Value) (x : Int) (a : α) : ∀ V : List (Int × α), getE V x = none → putM (.int .i64) (.int .i64 x) (f a) (intE f V) = some (intE f (V ++ [(x, a)]))
  | [], _ => rfl
  | (y, b) :: r, h => by
    unfold getE at h
    by_cases e : x = y
    · rw [if_pos e] at h; cases h
    · rw [if_neg e] at h
      have ih := put_int f x a r h
      unfold intE at ih ⊢
      have : Instr.sameNow (.int .i64) (.int .i64 x) (.int .i64 y) = some false := by simp [Instr.sameNow, e]
      simp only [List.map_cons, putM, List.cons_append, this, ih]
      rfl
theorem getS_str {b : Nat} {V : List (Int × ByteArray)} {h : Heap} (hm : h b = some (.map (intE .string V))) {x : Int} {k : ByteArray → Bool → Pr} (hk : k ((getE V x).getD ⟨#[]⟩) (getE V x).isSome h) : pGetS (.int .i64) (some b) (.int .i64 x) .str (.string ⟨#[]⟩) k h := by
  refine ⟨_, _, (getE V x).getD ⟨#[]⟩, hm, find_int _ x V, ?_, ?_⟩
  · cases getE V x <;> rfl
  · cases hg : getE V x <;> (rw [hg] at hk; exact hk)
theorem put_str {b : Nat} {V : List (Int × ByteArray)} {h : Heap} {L : List Pr} (H : seps (mapP b (intE .string V) :: L) h) {x : Int} {a : ByteArray} (hn : getE V x = none) {p : Pr} (hp : ∀ h', seps (mapP b (intE .string (V ++ [(x, a)])) :: L) h' → p h') : pPut (.int .i64) (some b) (.int .i64 x) (.string a) p h :=
  ⟨b, _, _, rfl, map_at H, put_int .string x a V hn, hp _ (map_set H)⟩
end Go.Hl

set_option linter.unusedVariables false
namespace Go.Hl

/-- What a part is known by: its block, or its slice. -/
inductive Key where
  | blk (b : Nat)
  | sl (s : Sl)
/-- A part's key. -/
class Keyed (P : Pr) (k : outParam Key) : Prop where
  out : True := trivial
instance {b cs tot} : Keyed (rowP b cs tot) (.blk b) := {}
instance {b es} : Keyed (mapP b es) (.blk b) := {}
instance {z s xs} : Keyed (own z s xs) (.sl s) := {}
instance {z s xs} : Keyed (ownO z s xs) (.sl s) := {}
instance {z s xs} : Keyed (rd z s xs) (.sl s) := {}
/-- The part of a key, and the others. -/
class Pick (M : List Pr) (k : Key) (P : outParam Pr) (R : outParam (List Pr)) : Prop where
  out : ∀ {h : Heap}, seps M h → seps (P :: R) h
instance (priority := 2000) Pick.here {P : Pr} {M : List Pr} {k : Key} [Keyed P k] : Pick (P :: M) k P M := ⟨fun H => H⟩
instance (priority := 1000) Pick.there {A P : Pr} {M R : List Pr} {k : Key} [p : Pick M k P R] : Pick (A :: M) k P (A :: R) := ⟨fun H => f1 (seps_under (fun _ => p.out) H)⟩

/-- Parts that are wanted, of those that there are. -/
class Sub (M N : List Pr) : Prop where
  out : ∀ {h : Heap}, seps M h → seps N h
/-- One wanted part. -/
class Out (M : List Pr) (P : Pr) (R : outParam (List Pr)) : Prop where
  out : ∀ {h : Heap}, seps M h → seps (P :: R) h
instance (priority := 2000) Out.here {P : Pr} {M : List Pr} : Out (P :: M) P M := ⟨fun H => H⟩
instance (priority := 1000) Out.there {A P : Pr} {M R : List Pr} [p : Out M P R] : Out (A :: M) P (A :: R) := ⟨fun H => f1 (seps_under (fun _ => p.out) H)⟩
instance (priority := 3000) Sub.refl {M : List Pr} : Sub M M := ⟨fun H => H⟩
instance (priority := 2000) Sub.nil {M : List Pr} : Sub M [] := ⟨fun _ => trivial⟩
instance (priority := 1500) Sub.cons {M N R : List Pr} {P : Pr} [o : Out M P R] [s : Sub R N] : Sub M (P :: N) := ⟨fun H => seps_under (fun _ => s.out) (o.out H)⟩
instance (priority := 1000) Sub.drop {A : Pr} {M N : List Pr} [s : Sub M N] : Sub (A :: M) N := ⟨fun H => s.out (seps_tail H)⟩
instance (priority := 2500) Sub.app0 {M L : List Pr} [s : Sub M L] : Sub M ([] ++ L) := ⟨fun H => s.out H⟩
instance (priority := 2500) Sub.app1 {M L A : List Pr} {a : Pr} [s : Sub M (a :: (A ++ L))] : Sub M ((a :: A) ++ L) := ⟨fun H => s.out H⟩
theorem sub {M N : List Pr} [s : Sub M N] {h : Heap} (H : seps M h) : seps N h := s.out H

/-- What there was is there still. -/
def was (g : Heap) : Pr := fun h => Heap.le g h
theorem hstart (h : Heap) : seps [was h] h := ⟨h, fun _ => none, fun _ => .inr (.inl rfl), Heap.le_refl h, fun _ _ e => (by cases e), Heap.le_refl h, trivial⟩
class Was (M : List Pr) (g : outParam Heap) : Prop where
  out : ∀ {h : Heap}, seps M h → Heap.le g h
instance (priority := 2000) Was.here {g : Heap} {M : List Pr} : Was (was g :: M) g := ⟨fun H => seps_fst H fun {_ _} p l => Heap.le_trans p l⟩
instance (priority := 1000) Was.there {A : Pr} {g : Heap} {M : List Pr} [w : Was M g] : Was (A :: M) g := ⟨fun H => w.out (seps_tail H)⟩
/-- The end of what leaves nothing behind. -/
theorem back {M : List Pr} {g h : Heap} [w : Was M g] (H : seps M h) {K : Value → Pr} {v : Value} (k : K v g) : fgt K v h := fgt_here (w.out H) k

/- Cells. -/
class One (v : Value) : Prop where
  out : v.oneCell' = true
instance {k x} : One (.int k x) := ⟨rfl⟩
instance {x} : One (.bool x) := ⟨rfl⟩
instance {x} : One (.string x) := ⟨rfl⟩
instance {x} : One (.pointer x) := ⟨rfl⟩
instance {b l c} : One (.slice b l c) := ⟨rfl⟩
instance {m} : One (.map m) := ⟨rfl⟩
instance {f a c} : One (.func f a c) := ⟨rfl⟩
instance : One .nilFunc := ⟨rfl⟩
instance : One .nilIface := ⟨rfl⟩
instance {t v} : One (.iface t v) := ⟨rfl⟩
class Ones (vs : List Value) : Prop where
  out : oneCells vs
instance : Ones [] := ⟨fun _ h => by cases h⟩
instance {v : Value} {l : List Value} [o : One v] [r : Ones l] : Ones (v :: l) := ⟨fun x hx => by
  rcases List.mem_cons.1 hx with rfl | hx
  · exact o.out
  · exact r.out x hx⟩
instance {a b : List Value} [x : Ones a] [y : Ones b] : Ones (a ++ b) := ⟨fun v hv => by
  rcases List.mem_append.1 hv with hv | hv
  · exact x.out v hv
  · exact y.out v hv⟩
/-- A cell is written. -/
class Put (cs : List Value) (k : Nat) (v : Value) (cs' : outParam (List Value)) : Prop where
  lt : k < cs.length
  eq : cs.set k v = cs'
instance {a v : Value} {l : List Value} : Put (a :: l) 0 v (v :: l) := ⟨by simp, rfl⟩
instance {a v : Value} {l l' : List Value} {k : Nat} [p : Put l k v l'] : Put (a :: l) (k + 1) v (a :: l') := ⟨by simpa using p.lt, by rw [List.set_cons_succ, p.eq]⟩
/-- Cells are written. -/
class Spl (cs : List Value) (k : Nat) (vs : List Value) (cs' : outParam (List Value)) : Prop where
  le : k + vs.length ≤ cs.length
  eq : splice cs k vs = cs'
instance (priority := 2000) Spl.nil {cs : List Value} : Spl cs 0 [] cs := ⟨by simp, by simp [splice]⟩
instance Spl.here {a v : Value} {l vs l' : List Value} [p : Spl l 0 vs l'] : Spl (a :: l) 0 (v :: vs) (v :: l') := ⟨by simpa using p.le, by
  have := p.eq
  unfold splice at this ⊢
  simp at this ⊢; exact this⟩
instance Spl.there {a : Value} {l vs l' : List Value} {k : Nat} [p : Spl l k vs l'] : Spl (a :: l) (k + 1) vs (a :: l') := ⟨by
    have := p.le; simp; omega, by
  have := p.eq
  unfold splice at this ⊢
  rw [List.take_succ_cons, show k + 1 + vs.length = (k + vs.length) + 1 by omega, List.drop_succ_cons, List.cons_append, List.cons_append, this]⟩
/-- Cells are read. -/
class Cut (cs : List Value) (k n : Nat) (vs : outParam (List Value)) : Prop where
  eq : cut cs k n = some vs
instance (priority := 2000) Cut.nil {cs : List Value} : Cut cs 0 0 [] := ⟨by simp [cut]⟩
instance Cut.here {a : Value} {l vs : List Value} {n : Nat} [p : Cut l 0 n vs] : Cut (a :: l) 0 (n + 1) (a :: vs) := ⟨by
  have := p.eq
  unfold cut at this ⊢
  split at this
  · rename_i h; rw [if_pos (by simp at h ⊢; omega)]; simp at this ⊢; exact this
  · cases this⟩
instance Cut.there {a : Value} {l vs : List Value} {k n : Nat} [p : Cut l k n vs] : Cut (a :: l) (k + 1) n vs := ⟨by
  have := p.eq
  unfold cut at this ⊢
  split at this
  · rename_i h; rw [if_pos (by simp at h ⊢; omega)]; simpa using this
  · cases this⟩

section
variable {M R : List Pr} {b tot : Nat} {cs : List Value} {h : Heap}
theorem ld_c [i : Pick M (.blk b) (rowP b cs tot) R] (H : seps M h) {s : Shape} {k : Nat} {x : s.T} {q : s.T → Pr} (e : cs[k]? = some (s.inj x)) (hq : q x h) : pLd s ⟨b, k, none⟩ q h :=
  ld_b (row_at (i.out H)) e hq
theorem ldA_c {k n : Nat} {vs : List Value} [i : Pick M (.blk b) (rowP b cs tot) R] [c : Cut cs k n vs] (H : seps M h) {q : List Value → Pr} (hq : q vs h) : pLdA n ⟨b, k, none⟩ q h :=
  ldA_b (row_at (i.out H)) c.eq hq
theorem st_c {k : Nat} {v : Value} {cs' : List Value} [i : Pick M (.blk b) (rowP b cs tot) R] [c : Put cs k v cs'] [o : One v] (H : seps M h) {p : Pr} (hp : ∀ h, seps (rowP b cs' tot :: R) h → p h) : pSt ⟨b, k, none⟩ v p h :=
  st_b (row_at (i.out H)) c.lt o.out (by rw [c.eq]; exact hp _ (row_set (i.out H)))
theorem stA_c {k n : Nat} {vs cs' : List Value} [i : Pick M (.blk b) (rowP b cs tot) R] [c : Spl cs k vs cs'] [o : Ones vs] (H : seps M h) (hn : vs.length = n) {p : Pr} (hp : ∀ h, seps (rowP b cs' tot :: R) h → p h) : pStA n ⟨b, k, none⟩ vs p h :=
  ⟨cs, tot, rfl, row_at (i.out H), by have := c.le; rw [hn] at this; exact this, hn, o.out, by rw [c.eq]; exact hp _ (row_set (i.out H))⟩
theorem new_c (H : seps M h) {k : Nat → Pr} {n : Nat} (hn : cs.length = n) (hp : ∀ b h, seps (rowP b cs n :: M) h → k b h) : pNew cs k h := fun b hb => hp b _ (by rw [hn]; exact new_row H hb)
end

/-- The cells of a type's zero value. -/
class Zc (P : Program) (t : TypeId) (cs : outParam (List Value)) : Prop where
  eq : zc P t = cs
theorem new_z {M : List Pr} {cs : List Value} {h : Heap} {P : Program} {t : TypeId} [z : Zc P t cs] (H : seps M h) {k : Nat → Pr} {n : Nat} (hn : cs.length = n) (hp : ∀ b h, seps (rowP b cs n :: M) h → k b h) : pNew (zc P t) k h := by
  rw [z.eq]; exact new_c H hn hp

theorem zc_eq {P : Program} {t : TypeId} {cs : List Value} [z : Zc P t cs] : zc P t = cs := z.eq
/-- A literal's parts are laid over cells. -/
class Lay (cs : List Value) (ps : List (Nat × Value)) (cs' : outParam (List Value)) : Prop where
  eq : lay cs ps = cs'
instance {cs : List Value} : Lay cs [] cs := ⟨lay_nil cs⟩
instance (priority := 2000) {cs vs c1 c2 : List Value} {o : Nat} {r : List (Nat × Value)} [a : Spl cs o vs c1] [b : Lay c1 r c2] : Lay cs ((o, .agg vs.toArray) :: r) c2 := ⟨by
  unfold lay; simp only; rw [a.eq]; exact b.eq⟩
instance (priority := 1000) {cs c1 c2 : List Value} {v : Value} {o : Nat} {r : List (Nat × Value)} [q : One v] [a : Put cs o v c1] [b : Lay c1 r c2] : Lay cs ((o, v) :: r) c2 := ⟨by
  have h := q.out
  have e := a.eq
  unfold lay
  cases v <;> first | (simp only; rw [e]; exact b.eq) | (cases h)⟩
theorem lay_eq {cs cs' : List Value} {ps : List (Nat × Value)} [l : Lay cs ps cs'] : lay cs ps = cs' := l.eq
/-- A type of several cells; of one cell. -/
class AggT (P : Program) (t : TypeId) (n : outParam Nat) : Prop where
  sh : (P.underlying t).map shapeD = some .agg
  sz : sizeP P t = n
class CellT (P : Program) (t : TypeId) (s : outParam Shape) : Prop where
  sh : (P.underlying t).map shapeD = some s
  ne : s ≠ .agg
theorem keepA_c {M R : List Pr} {h : Heap} {P : Program} {t : TypeId} {b k n tot : Nat} {cs xs : List Value} [a : AggT P t n] [i : Pick M (.blk b) (rowP b cs tot) R] [c : Cut cs k n xs] (H : seps M h) {p : Pr} (hp : p h) : pKeep (loadF P t (.pointer (some ⟨b, k, none⟩)) (.agg xs.toArray)) p h :=
  keep_agg a.sh a.sz (row_at (i.out H)) c.eq hp
theorem keep_c {M R : List Pr} {h : Heap} {P : Program} {t : TypeId} {b k tot : Nat} {cs : List Value} {v : Value} {s : Shape} [a : CellT P t s] [i : Pick M (.blk b) (rowP b cs tot) R] (H : seps M h) (e : cs[k]? = some v) {p : Pr} (hp : p h) : pKeep (loadF P t (.pointer (some ⟨b, k, none⟩)) v) p h :=
  keep_cell s a.sh a.ne (row_at (i.out H)) e hp
theorem call_c {P : Program} {f : FuncId} {args : List Value} {KP : Value → Pr} {r : RShape} {k : r.T → Pr} {h : Heap} (q : WpCall P f args.toArray KP (fun v h => ∃ x, v = r.inj x ∧ k x h) h) : pCall P f args KP r k h := q
theorem callV_c {P : Program} {f : FuncId} {first caps : Array Value} {args : List Value} {KP : Value → Pr} {r : RShape} {k : r.T → Pr} {h : Heap} (q : WpCall P f ((first ++ args.toArray) ++ caps) KP (fun v h => ∃ x, v = r.inj x ∧ k x h) h) : pCallV P (.func (.func f) first caps) args KP r k h := q
theorem callW_c {P : Program} {f : Value} {args : List Value} {KP : Value → Pr} {r : RShape} {k : r.T → Pr} {h : Heap} (q : WpVal P f args KP (fun v h => ∃ x, v = r.inj x ∧ k x h) h) : pCallV P f args KP r k h := q
theorem join_c {σ : Type} {body : (σ → Pr) → Pr} {k : σ → Pr} {h : Heap} (q : body k h) : pJoin body k h := q

/-- A call's result. -/
theorem one1 {s : Shape} {x : s.T} {k : s.T → Pr} {h : Heap} (q : k x h) : ∃ y, s.inj x = RShape.inj (.one s) y ∧ k y h := ⟨x, rfl, q⟩
theorem tup0 {k : Unit → Pr} {h : Heap} (q : k () h) : ∃ y, Value.tuple #[] = RShape.inj (.many []) y ∧ k y h := ⟨(), rfl, q⟩
theorem tup2 {s t : Shape} {x : s.T} {y : t.T} {k : s.T × t.T × Unit → Pr} {h : Heap} (q : k (x, y, ()) h) : ∃ z, Value.tuple #[s.inj x, t.inj y] = RShape.inj (.many [s, t]) z ∧ k z h := ⟨(x, y, ()), rfl, q⟩
theorem tup3 {s t u : Shape} {x : s.T} {y : t.T} {w : u.T} {k : s.T × t.T × u.T × Unit → Pr} {h : Heap} (q : k (x, y, w, ()) h) : ∃ z, Value.tuple #[s.inj x, t.inj y, u.inj w] = RShape.inj (.many [s, t, u]) z ∧ k z h := ⟨(x, y, w, ()), rfl, q⟩

theorem Sl.valsE_le {h h' : Heap} (l : Heap.le h h') {z : Nat} {s : Sl} {xs : List Value} (hv : s.valsE z h xs) : s.valsE z h' xs := by
  rcases hv with e | hv
  · exact .inl e
  · exact .inr (Sl.vals_le l hv)
theorem valsE_vals {h : Heap} {z : Nat} {s : Sl} {xs : List Value} (hv : s.valsE z h xs) (hl : 0 < xs.length) : s.vals z h xs :=
  hv.resolve_left fun e => by rw [e.2] at hl; exact absurd hl (Nat.lt_irrefl 0)
theorem fits_nil {p : Pr} {h : Heap} (q : p h) : pFits [] p h := q
theorem fits_c {v : Value} [o : One v] {r : List (Nat × Value)} {p : Pr} {h : Heap} (q : pFits r p h) : pFits ((1, v) :: r) p h := by
  have := o.out
  cases v <;> first | exact q | (cases this)

end Go.Hl

set_option linter.unusedVariables false
namespace Go.Hl

abbrev B64 := BitVec 64
theorem blt_lt {a b : Nat} (h : Nat.blt a b = true) : a < b := Nat.lt_of_lt_of_le (Nat.lt_succ_self a) (Nat.le_of_ble_eq_true h)
theorem w_u64 (x : Int) : IntKind.u64.wrap x = ((BitVec.ofInt 64 x).toNat : Int) := by
  simp only [IntKind.wrap, IntKind.signed, IntKind.bits, BitVec.toNat_ofInt, Bool.false_and]
  simp; omega
theorem w_i64 (x : Int) : IntKind.i64.wrap x = (BitVec.ofInt 64 x).toInt := by
  simp only [IntKind.wrap, IntKind.signed, IntKind.bits, BitVec.toInt_ofInt, Bool.true_and, Int.bmod]
  simp; split <;> split <;> omega
@[simp] theorem ofI_nat (a : B64) : BitVec.ofInt 64 (a.toNat : Int) = a := by
  apply BitVec.eq_of_toNat_eq; rw [BitVec.toNat_ofInt]; have := a.isLt; omega
@[simp] theorem ofI_int (a : B64) : BitVec.ofInt 64 a.toInt = a := BitVec.ofInt_toInt
theorem ofI_add (x y : Int) : BitVec.ofInt 64 (x + y) = BitVec.ofInt 64 x + BitVec.ofInt 64 y := by simp [BitVec.ofInt_add]
theorem ofI_mul (x y : Int) : BitVec.ofInt 64 (x * y) = BitVec.ofInt 64 x * BitVec.ofInt 64 y := by simp [BitVec.ofInt_mul]
theorem ofI_neg (x : Int) : BitVec.ofInt 64 (-x) = - BitVec.ofInt 64 x := by simp [BitVec.ofInt_neg]
theorem ofI_sub (x y : Int) : BitVec.ofInt 64 (x - y) = BitVec.ofInt 64 x - BitVec.ofInt 64 y := by
  rw [Int.sub_eq_add_neg, ofI_add, ofI_neg, BitVec.sub_eq_add_neg]

section
variable (a b : B64)
theorem u_add : IntKind.u64.wrap ((a.toNat : Int) + b.toNat) = ((a + b).toNat : Int) := by rw [w_u64, ofI_add, ofI_nat, ofI_nat]
theorem u_sub : IntKind.u64.wrap ((a.toNat : Int) - b.toNat) = ((a - b).toNat : Int) := by rw [w_u64, ofI_sub, ofI_nat, ofI_nat]
theorem u_mul : IntKind.u64.wrap ((a.toNat : Int) * b.toNat) = ((a * b).toNat : Int) := by rw [w_u64, ofI_mul, ofI_nat, ofI_nat]
theorem u_neg : IntKind.u64.wrap (0 - (a.toNat : Int)) = ((-a).toNat : Int) := by
  rw [w_u64, ofI_sub, ofI_nat, show BitVec.ofInt 64 0 = 0#64 from rfl, BitVec.zero_sub]
theorem i_add : IntKind.i64.wrap (a.toInt + b.toInt) = (a + b).toInt := by rw [w_i64, ofI_add, ofI_int, ofI_int]
theorem i_sub : IntKind.i64.wrap (a.toInt - b.toInt) = (a - b).toInt := by rw [w_i64, ofI_sub, ofI_int, ofI_int]
theorem i_neg : IntKind.i64.wrap (0 - a.toInt) = (-a).toInt := by
  rw [w_i64, ofI_sub, ofI_int, show BitVec.ofInt 64 0 = 0#64 from rfl, BitVec.zero_sub]
theorem u_i : IntKind.i64.wrap (a.toNat : Int) = a.toInt := by rw [w_i64, ofI_nat]
theorem i_u : IntKind.u64.wrap a.toInt = (a.toNat : Int) := by rw [w_u64, ofI_int]
theorem u_u : IntKind.u64.wrap (a.toNat : Int) = (a.toNat : Int) := by rw [w_u64, ofI_nat]
theorem i_i : IntKind.i64.wrap a.toInt = a.toInt := by rw [w_i64, ofI_int]
theorem u_and : bitsV .and .u64 (a.toNat : Int) b.toNat = ((a &&& b).toNat : Int) := by unfold bitsV; simp only [IntKind.bits, ofI_nat]; exact u_u (a &&& b)
theorem u_or : bitsV .or .u64 (a.toNat : Int) b.toNat = ((a ||| b).toNat : Int) := by unfold bitsV; simp only [IntKind.bits, ofI_nat]; exact u_u (a ||| b)
theorem u_xor : bitsV .xor .u64 (a.toNat : Int) b.toNat = ((a ^^^ b).toNat : Int) := by unfold bitsV; simp only [IntKind.bits, ofI_nat]; exact u_u (a ^^^ b)
theorem u_andnot : bitsV .andNot .u64 (a.toNat : Int) b.toNat = ((a &&& ~~~b).toNat : Int) := by unfold bitsV; simp only [IntKind.bits, ofI_nat]; exact u_u (a &&& ~~~b)
theorem u_not (m : Int) (hm : m = 18446744073709551615) : bitsV .xor .u64 m (a.toNat : Int) = ((~~~a).toNat : Int) := by
  subst hm
  have : (18446744073709551615 : Int) = ((BitVec.allOnes 64).toNat : Int) := by rfl
  rw [this, u_xor, BitVec.allOnes_xor]
theorem u_shl (c : Nat) : IntKind.u64.wrap ((a.toNat : Int) * 2 ^ (min c 64)) = ((a <<< c).toNat : Int) := by
  rw [w_u64, BitVec.toNat_ofInt, BitVec.toNat_shiftLeft, Nat.shiftLeft_eq]
  have e : (a.toNat : Int) * 2 ^ (min c 64) = ((a.toNat * 2 ^ (min c 64) : Nat) : Int) := by simp
  rw [e]
  by_cases hc : c ≤ 64
  · rw [Nat.min_eq_left hc]; omega
  · rw [Nat.min_eq_right (by omega)]
    have : 2 ^ c = 2 ^ 64 * 2 ^ (c - 64) := by rw [← Nat.pow_add]; congr 1; omega
    rw [this, ← Nat.mul_assoc, Nat.mul_right_comm]
    simp
theorem u_shr (c : Nat) : (a.toNat : Int).fdiv (2 ^ (min c 64)) = ((a >>> c).toNat : Int) := by
  rw [BitVec.toNat_ushiftRight, Nat.shiftRight_eq_div_pow]
  have e : (2 : Int) ^ (min c 64) = ((2 ^ (min c 64) : Nat) : Int) := by simp
  rw [e, show ((a.toNat : Int)).fdiv ((2 ^ (min c 64) : Nat) : Int) = ((a.toNat / 2 ^ (min c 64) : Nat) : Int) from (Int.ofNat_fdiv _ _).symm]
  congr 1
  by_cases hc : c ≤ 64
  · rw [Nat.min_eq_left hc]
  · rw [Nat.min_eq_right (by omega), Nat.div_eq_of_lt a.isLt, Nat.div_eq_of_lt]
    exact Nat.lt_of_lt_of_le a.isLt (Nat.pow_le_pow_right (by decide) (by omega))
theorem i_shr (c : Nat) : a.toInt.fdiv (2 ^ (min c 64)) = (a.sshiftRight c).toInt := by
  rw [BitVec.toInt_sshiftRight, Int.shiftRight_eq_div_pow]
  have e : (2 : Int) ^ (min c 64) = ((2 ^ (min c 64) : Nat) : Int) := by simp
  have h1 := BitVec.toInt_lt (x := a)
  have h2 := BitVec.le_toInt (x := a)
  rw [Int.fdiv_eq_ediv_of_nonneg _ (by rw [e]; exact Int.natCast_nonneg _)]
  by_cases hc : c ≤ 64
  · rw [Nat.min_eq_left hc]; simp
  · rw [Nat.min_eq_right (by omega)]
    have h3 : 2 ^ 64 ≤ 2 ^ c := Nat.pow_le_pow_right (by decide) (by omega)
    generalize hg : 2 ^ c = g at h3 ⊢
    have h4 : (g : Int) ≥ 18446744073709551616 := by omega
    rcases Int.lt_or_le a.toInt 0 with hn | hn
    · rw [Int.ediv_eq_neg_one_of_neg_of_le hn (by simp at h2 ⊢; omega), Int.ediv_eq_neg_one_of_neg_of_le hn (by simp at h2 ⊢; omega)]
    · rw [Int.ediv_eq_zero_of_lt hn (by simp at h1 ⊢; omega), Int.ediv_eq_zero_of_lt hn (by simp at h1 ⊢; omega)]
end

theorem u_div (a b : B64) : IntKind.u64.wrap ((a.toNat : Int).tdiv b.toNat) = ((a / b).toNat : Int) := by
  rw [Int.tdiv_eq_ediv_of_nonneg (by omega), w_u64, BitVec.toNat_ofInt, BitVec.toNat_udiv]
  have h1 : (a.toNat : Int) / (b.toNat : Int) = ((a.toNat / b.toNat : Nat) : Int) := by simp
  rw [h1]
  have h2 := Nat.div_le_self a.toNat b.toNat
  have h3 := a.isLt
  generalize a.toNat / b.toNat = q at h2 ⊢
  omega
theorem u_mod (a b : B64) : (a.toNat : Int).tmod b.toNat = ((a % b).toNat : Int) := by
  rw [Int.tmod_eq_emod_of_nonneg (by omega), BitVec.toNat_umod]; simp

/-- A number without a sign, with one. -/
class U (x : Int) (a : outParam B64) : Prop where
  eq : x = (a.toNat : Int)
class S (x : Int) (a : outParam B64) : Prop where
  eq : x = a.toInt
instance : U 0 0#64 := ⟨rfl⟩
instance : U 1 1#64 := ⟨rfl⟩
instance : U 2 2#64 := ⟨rfl⟩
instance : U 3 3#64 := ⟨rfl⟩
instance : U 4 4#64 := ⟨rfl⟩
instance : U 5 5#64 := ⟨rfl⟩
instance : U 6 6#64 := ⟨rfl⟩
instance : U 7 7#64 := ⟨rfl⟩
instance : U 8 8#64 := ⟨rfl⟩
instance : U 9 9#64 := ⟨rfl⟩
instance : U 10 10#64 := ⟨rfl⟩
instance : U 11 11#64 := ⟨rfl⟩
instance : U 12 12#64 := ⟨rfl⟩
instance : U 13 13#64 := ⟨rfl⟩
instance : U 14 14#64 := ⟨rfl⟩
instance : U 15 15#64 := ⟨rfl⟩
instance : U 16 16#64 := ⟨rfl⟩
instance : U 17 17#64 := ⟨rfl⟩
instance : U 18 18#64 := ⟨rfl⟩
instance : U 19 19#64 := ⟨rfl⟩
instance : U 20 20#64 := ⟨rfl⟩
instance : U 21 21#64 := ⟨rfl⟩
instance : U 22 22#64 := ⟨rfl⟩
instance : U 23 23#64 := ⟨rfl⟩
instance : U 24 24#64 := ⟨rfl⟩
instance : U 25 25#64 := ⟨rfl⟩
instance : U 26 26#64 := ⟨rfl⟩
instance : U 27 27#64 := ⟨rfl⟩
instance : U 28 28#64 := ⟨rfl⟩
instance : U 29 29#64 := ⟨rfl⟩
instance : U 30 30#64 := ⟨rfl⟩
instance : U 31 31#64 := ⟨rfl⟩
instance : U 32 32#64 := ⟨rfl⟩
instance : U 33 33#64 := ⟨rfl⟩
instance : U 34 34#64 := ⟨rfl⟩
instance : U 35 35#64 := ⟨rfl⟩
instance : U 36 36#64 := ⟨rfl⟩
instance : U 37 37#64 := ⟨rfl⟩
instance : U 38 38#64 := ⟨rfl⟩
instance : U 39 39#64 := ⟨rfl⟩
instance : U 40 40#64 := ⟨rfl⟩
instance : U 48 48#64 := ⟨rfl⟩
instance : U 56 56#64 := ⟨rfl⟩
instance : U 63 63#64 := ⟨rfl⟩
instance : U 64 64#64 := ⟨rfl⟩
instance : U 127 127#64 := ⟨rfl⟩
instance : U 128 128#64 := ⟨rfl⟩
instance : U 255 255#64 := ⟨rfl⟩
instance : U 256 256#64 := ⟨rfl⟩
instance : U 4095 4095#64 := ⟨rfl⟩
instance : U 4096 4096#64 := ⟨rfl⟩
instance : U 8191 8191#64 := ⟨rfl⟩
instance : U 8192 8192#64 := ⟨rfl⟩
instance : U 65535 65535#64 := ⟨rfl⟩
instance : U 65536 65536#64 := ⟨rfl⟩
instance : U 16777216 16777216#64 := ⟨rfl⟩
instance : U 4294967295 4294967295#64 := ⟨rfl⟩
instance : U 4294967296 4294967296#64 := ⟨rfl⟩
instance : U 2147483647 2147483647#64 := ⟨rfl⟩
instance : U 2147483648 2147483648#64 := ⟨rfl⟩
instance : U 9223372036854775807 9223372036854775807#64 := ⟨rfl⟩
instance : U 9223372036854775808 9223372036854775808#64 := ⟨rfl⟩
instance : U 18446744073709551615 18446744073709551615#64 := ⟨rfl⟩
instance : S 0 0#64 := ⟨rfl⟩
instance : S 1 1#64 := ⟨rfl⟩
instance : S 2 2#64 := ⟨rfl⟩
instance : S 8 8#64 := ⟨rfl⟩
instance : S 64 64#64 := ⟨rfl⟩
instance : S 4096 4096#64 := ⟨rfl⟩
instance : S (-1) (BitVec.ofInt 64 (-1)) := ⟨rfl⟩
instance : S (-4096) (BitVec.ofInt 64 (-4096)) := ⟨rfl⟩
instance : S 9223372036854775807 9223372036854775807#64 := ⟨rfl⟩
instance : S (-9223372036854775808) (BitVec.ofInt 64 (-9223372036854775808)) := ⟨rfl⟩
instance : S 4611686018427387904 4611686018427387904#64 := ⟨rfl⟩
instance : S (-4611686018427387904) (BitVec.ofInt 64 (-4611686018427387904)) := ⟨rfl⟩
instance {a : B64} : U (a.toNat : Int) a := ⟨rfl⟩
instance {a : B64} : S a.toInt a := ⟨rfl⟩
section
variable {x y : Int} {a b : B64}
instance [p : U x a] [q : U y b] : U (IntKind.u64.wrap (x + y)) (a + b) := ⟨by rw [p.eq, q.eq, u_add]⟩
instance [p : U x a] [q : U y b] : U (IntKind.u64.wrap (x - y)) (a - b) := ⟨by rw [p.eq, q.eq, u_sub]⟩
instance [p : U x a] [q : U y b] : U (IntKind.u64.wrap (x * y)) (a * b) := ⟨by rw [p.eq, q.eq, u_mul]⟩
instance [p : U x a] [q : U y b] : U (IntKind.u64.wrap (x.tdiv y)) (a / b) := ⟨by rw [p.eq, q.eq, u_div]⟩
instance [p : U x a] [q : U y b] : U (x.tmod y) (a % b) := ⟨by rw [p.eq, q.eq, u_mod]⟩
instance [p : U x a] [q : U y b] : U (bitsV .and .u64 x y) (a &&& b) := ⟨by rw [p.eq, q.eq, u_and]⟩
instance [p : U x a] [q : U y b] : U (bitsV .or .u64 x y) (a ||| b) := ⟨by rw [p.eq, q.eq, u_or]⟩
instance [p : U x a] [q : U y b] : U (bitsV .xor .u64 x y) (a ^^^ b) := ⟨by rw [p.eq, q.eq, u_xor]⟩
instance [p : U x a] [q : U y b] : U (bitsV .andNot .u64 x y) (a &&& ~~~b) := ⟨by rw [p.eq, q.eq, u_andnot]⟩
instance (priority := 2000) [p : U x a] : U (bitsV .xor .u64 18446744073709551615 x) (~~~a) := ⟨by rw [p.eq, u_not _ _ rfl]⟩
instance (priority := 2000) [p : U x a] : U (bitsV .xor .u64 IntKind.u64.max x) (~~~a) := ⟨by rw [p.eq]; exact u_not _ _ (by rfl)⟩
instance (priority := 2000) [p : U x a] : U (IntKind.u64.wrap (0 - x)) (-a) := ⟨by rw [p.eq, u_neg]⟩
instance {c : Nat} [p : U x a] : U (IntKind.u64.wrap (x * 2 ^ (min c IntKind.u64.bits))) (a <<< c) := ⟨by rw [p.eq]; exact u_shl a c⟩
instance {c : Nat} [p : U x a] : U (x.fdiv (2 ^ (min c IntKind.u64.bits))) (a >>> c) := ⟨by rw [p.eq]; exact u_shr a c⟩
instance {c : Nat} [p : S x a] : S (x.fdiv (2 ^ (min c IntKind.i64.bits))) (a.sshiftRight c) := ⟨by rw [p.eq]; exact i_shr a c⟩
instance (priority := 2000) [p : U x a] [q : U y b] : U (IntKind.u64.wrap (x * 2 ^ (min y.toNat IntKind.u64.bits))) (a <<< b.toNat) := ⟨by rw [p.eq, q.eq]; exact u_shl a b.toNat⟩
instance (priority := 2000) [p : U x a] [q : U y b] : U (x.fdiv (2 ^ (min y.toNat IntKind.u64.bits))) (a >>> b.toNat) := ⟨by rw [p.eq, q.eq]; exact u_shr a b.toNat⟩
instance (priority := 2000) [p : S x a] [q : U y b] : S (x.fdiv (2 ^ (min y.toNat IntKind.i64.bits))) (a.sshiftRight b.toNat) := ⟨by rw [p.eq, q.eq]; exact i_shr a b.toNat⟩
instance {u v : Int} {c d : B64} [p : U x a] [q : U y b] [r : U u c] [t : U v d] : U (if x < y then u else v) (if a < b then c else d) := ⟨by
  rw [p.eq, q.eq, r.eq, t.eq]
  by_cases h : a < b
  · rw [if_pos h, if_pos (by rw [BitVec.lt_def] at h; omega)]
  · rw [if_neg h, if_neg (by rw [BitVec.lt_def] at h; omega)]⟩
instance {u v : Int} {c d : B64} [p : U x a] [q : U y b] [r : U u c] [t : U v d] : U (if x > y then u else v) (if b < a then c else d) := ⟨by
  rw [p.eq, q.eq, r.eq, t.eq]
  by_cases h : b < a
  · rw [if_pos h, if_pos (by rw [BitVec.lt_def] at h; omega)]
  · rw [if_neg h, if_neg (by rw [BitVec.lt_def] at h; omega)]⟩
instance {u v : Int} {c d : B64} [p : S x a] [q : S y b] [r : S u c] [t : S v d] : S (if x < y then u else v) (if a.toInt < b.toInt then c else d) := ⟨by
  rw [p.eq, q.eq, r.eq, t.eq]; split <;> rfl⟩
instance {u v : Int} {c d : B64} [p : S x a] [q : S y b] [r : S u c] [t : S v d] : S (if x > y then u else v) (if b.toInt < a.toInt then c else d) := ⟨by
  rw [p.eq, q.eq, r.eq, t.eq]
  by_cases h : b.toInt < a.toInt
  · rw [if_pos h, if_pos (by omega)]
  · rw [if_neg h, if_neg (by omega)]⟩
theorem unonneg [p : U x a] : 0 ≤ x := by rw [p.eq]; omega
instance [p : S x a] [q : S y b] : S (IntKind.i64.wrap (x + y)) (a + b) := ⟨by rw [p.eq, q.eq, i_add]⟩
instance [p : S x a] [q : S y b] : S (IntKind.i64.wrap (x - y)) (a - b) := ⟨by rw [p.eq, q.eq, i_sub]⟩
instance (priority := 2000) [p : S x a] : S (IntKind.i64.wrap (0 - x)) (-a) := ⟨by rw [p.eq, i_neg]⟩
instance (priority := 500) [p : U x a] : S (IntKind.i64.wrap x) a := ⟨by rw [p.eq, u_i]⟩
instance (priority := 500) [p : S x a] : U (IntKind.u64.wrap x) a := ⟨by rw [p.eq, i_u]⟩
end

/-- A value in its plain form. -/
class Val (v : Value) (v' : outParam Value) : Prop where
  eq : v = v'
class Vals (l : List Value) (l' : outParam (List Value)) : Prop where
  eq : l = l'
instance : Vals [] [] := ⟨rfl⟩
instance {v v' : Value} {l l' : List Value} [a : Val v v'] [b : Vals l l'] : Vals (v :: l) (v' :: l') := ⟨by rw [a.eq, b.eq]⟩
instance (priority := 2000) {x : Int} {a : B64} [u : U x a] : Val (.int .u64 x) (.int .u64 a.toNat) := ⟨by rw [u.eq]⟩
instance (priority := 2000) {x : Int} {a : B64} [u : S x a] : Val (.int .i64 x) (.int .i64 a.toInt) := ⟨by rw [u.eq]⟩
instance (priority := 2000) {l l' : List Value} [a : Vals l l'] : Val (.agg l.toArray) (.agg l'.toArray) := ⟨by rw [a.eq]⟩
instance (priority := 2000) {l l' : List Value} [a : Vals l l'] : Val (.tuple l.toArray) (.tuple l'.toArray) := ⟨by rw [a.eq]⟩
instance (priority := 100) {v : Value} : Val v v := ⟨rfl⟩
/-- The end of what leaves nothing behind, its value in its plain form. -/
theorem fin {M : List Pr} {g h : Heap} [w : Was M g] (H : seps M h) {K : Value → Pr} {v v' : Value} [a : Val v v'] (k : K v' g) : fgt K v h := by rw [a.eq]; exact back H k
theorem fin' {h : Heap} {K : Value → Pr} {v v' : Value} [a : Val v v'] (k : K v' h) : fgt K v h := by rw [a.eq]; exact fgt_mk k

/-- A condition in its plain form. -/
class Cnd (c : Bool) (p : outParam Prop) : Prop where
  iff : c = true ↔ p
section
variable {x y : Int} {a b : B64} {c d : Bool} {p q : Prop}
instance (priority := 2000) [i : U x a] [j : U y b] : Cnd (decide (x < y)) (a < b) := ⟨by rw [i.eq, j.eq, BitVec.lt_def]; simp⟩
instance (priority := 2000) [i : U x a] [j : U y b] : Cnd (decide (x ≤ y)) (a ≤ b) := ⟨by rw [i.eq, j.eq, BitVec.le_def]; simp⟩
instance (priority := 2000) [i : U x a] [j : U y b] : Cnd (decide (x > y)) (b < a) := ⟨by rw [i.eq, j.eq, BitVec.lt_def]; simp⟩
instance (priority := 2000) [i : U x a] [j : U y b] : Cnd (decide (x ≥ y)) (b ≤ a) := ⟨by rw [i.eq, j.eq, BitVec.le_def]; simp⟩
instance (priority := 2000) [i : U x a] [j : U y b] : Cnd (x == y) (a = b) := ⟨by rw [i.eq, j.eq, beq_iff_eq]; exact ⟨fun h => BitVec.eq_of_toNat_eq (by omega), fun h => by rw [h]⟩⟩
instance (priority := 2000) [i : U x a] [j : U y b] : Cnd (x != y) (¬ a = b) := ⟨by rw [i.eq, j.eq, bne_iff_ne]; exact ⟨fun h e => h (by rw [e]), fun h e => h (BitVec.eq_of_toNat_eq (by omega))⟩⟩
instance (priority := 1500) [i : S x a] [j : S y b] : Cnd (decide (x < y)) (a.toInt < b.toInt) := ⟨by rw [i.eq, j.eq]; simp⟩
instance (priority := 1500) [i : S x a] [j : S y b] : Cnd (decide (x ≤ y)) (a.toInt ≤ b.toInt) := ⟨by rw [i.eq, j.eq]; simp⟩
instance (priority := 1500) [i : S x a] [j : S y b] : Cnd (decide (x > y)) (b.toInt < a.toInt) := ⟨by rw [i.eq, j.eq]; simp⟩
instance (priority := 1500) [i : S x a] [j : S y b] : Cnd (decide (x ≥ y)) (b.toInt ≤ a.toInt) := ⟨by rw [i.eq, j.eq]; simp⟩
instance (priority := 1500) [i : S x a] [j : S y b] : Cnd (x == y) (a = b) := ⟨by rw [i.eq, j.eq]; simp [BitVec.toInt_inj]⟩
instance (priority := 1500) [i : S x a] [j : S y b] : Cnd (x != y) (¬ a = b) := ⟨by rw [i.eq, j.eq]; simp [BitVec.toInt_inj]⟩
instance (priority := 500) {p : Prop} [Decidable p] : Cnd (decide p) p := ⟨by simp⟩
instance (priority := 500) : Cnd (x == y) (x = y) := ⟨by simp⟩
instance (priority := 500) : Cnd (x != y) (¬ x = y) := ⟨by simp⟩
instance (priority := 1000) [i : Cnd c p] : Cnd (!c) (¬ p) := ⟨by rw [← i.iff]; simp⟩
instance (priority := 1000) [i : Cnd c p] [j : Cnd d q] : Cnd (c == d) (p ↔ q) := ⟨by rw [← i.iff, ← j.iff]; cases c <;> cases d <;> simp⟩
instance (priority := 1000) [i : Cnd c p] [j : Cnd d q] : Cnd (c && d) (p ∧ q) := ⟨by rw [← i.iff, ← j.iff]; simp⟩
instance (priority := 1000) [i : Cnd c p] [j : Cnd d q] : Cnd (c || d) (p ∨ q) := ⟨by rw [← i.iff, ← j.iff]; simp⟩
instance (priority := 100) : Cnd c (c = true) := ⟨Iff.rfl⟩
/-- What holds where a condition is true, where it is false. -/
class Cnd2 (c : Bool) (p q : outParam Prop) : Prop where
  t : c = true → p
  f : c = false → q
instance (priority := 1000) [i : Cnd c p] : Cnd2 c p (¬ p) := ⟨i.iff.1, fun e h => (by rw [i.iff.2 h] at e; cases e)⟩
instance (priority := 2000) [i : Cnd2 c p q] : Cnd2 (!c) q p := ⟨fun e => i.f (by simpa using e), fun e => i.t (by simpa using e)⟩
instance (priority := 2000) {α : Type} [BEq α] {x y : α} [i : Cnd (x == y) p] : Cnd2 (x != y) (¬ p) p := ⟨fun e h => (by unfold bne at e; rw [i.iff.2 h] at e; cases e), fun e => i.iff.1 (by unfold bne at e; simpa using e)⟩
theorem if_c [i : Cnd2 c p q] {P Q : Pr} {h : Heap} (ht : p → P h) (hf : q → Q h) : pIf c P Q h := pIf_i (fun e => ht (i.t e)) (fun e => hf (i.f e))
/-- A condition's value. -/
theorem Cnd.val [i : Cnd c p] [Decidable p] : c = decide p := by
  have := i.iff
  cases c <;> simp_all
/-- A Bool in its plain form. -/
class Bv (c : Bool) (d : outParam Bool) : Prop where
  eq : c = d
instance (priority := 2000) [i : U x a] [j : U y b] : Bv (decide (x < y)) (decide (a < b)) := ⟨Cnd.val⟩
instance (priority := 2000) [i : U x a] [j : U y b] : Bv (decide (x ≤ y)) (decide (a ≤ b)) := ⟨Cnd.val⟩
instance (priority := 2000) [i : U x a] [j : U y b] : Bv (decide (x > y)) (decide (b < a)) := ⟨Cnd.val⟩
instance (priority := 2000) [i : U x a] [j : U y b] : Bv (decide (x ≥ y)) (decide (b ≤ a)) := ⟨Cnd.val⟩
instance (priority := 2000) [i : U x a] [j : U y b] : Bv (x == y) (decide (a = b)) := ⟨Cnd.val⟩
instance (priority := 2000) [i : U x a] [j : U y b] : Bv (x != y) (decide (¬ a = b)) := ⟨Cnd.val⟩
instance (priority := 1500) [i : S x a] [j : S y b] : Bv (decide (x < y)) (decide (a.toInt < b.toInt)) := ⟨by rw [i.eq, j.eq]⟩
instance (priority := 1500) [i : S x a] [j : S y b] : Bv (decide (x ≤ y)) (decide (a.toInt ≤ b.toInt)) := ⟨by rw [i.eq, j.eq]⟩
instance (priority := 1500) [i : S x a] [j : S y b] : Bv (decide (x > y)) (decide (b.toInt < a.toInt)) := ⟨by rw [i.eq, j.eq]⟩
instance (priority := 1500) [i : S x a] [j : S y b] : Bv (decide (x ≥ y)) (decide (b.toInt ≤ a.toInt)) := ⟨by rw [i.eq, j.eq]⟩
instance (priority := 1500) [i : S x a] [j : S y b] : Bv (x == y) (decide (a = b)) := ⟨Cnd.val⟩
instance (priority := 1500) [i : S x a] [j : S y b] : Bv (x != y) (decide (¬ a = b)) := ⟨Cnd.val⟩
variable {c' d' : Bool}
instance (priority := 1000) [i : Bv c c'] : Bv (!c) (!c') := ⟨by rw [i.eq]⟩
instance (priority := 1000) [i : Bv c c'] [j : Bv d d'] : Bv (c == d) (c' == d') := ⟨by rw [i.eq, j.eq]⟩
instance (priority := 1000) [i : Bv c c'] [j : Bv d d'] : Bv (c && d) (c' && d') := ⟨by rw [i.eq, j.eq]⟩
instance (priority := 1000) [i : Bv c c'] [j : Bv d d'] : Bv (c || d) (c' || d') := ⟨by rw [i.eq, j.eq]⟩
instance (priority := 100) : Bv c c := ⟨rfl⟩
instance (priority := 2000) [i : Bv c c'] : Val (.bool c) (.bool c') := ⟨by rw [i.eq]⟩
end

/-- A row in its plain form, in front. -/
theorem row_val {M R : List Pr} (b : Nat) {cs cs' : List Value} {tot : Nat} [i : Pick M (.blk b) (rowP b cs tot) R] [a : Vals cs cs'] {h : Heap} (H : seps M h) : seps (rowP b cs' tot :: R) h := by
  have := i.out H; rw [a.eq] at this; exact this
/-- A loop of so many rounds. -/
theorem loop_c {σ : Type} {body : σ → (σ → Pr) → Pr} {s : σ} (n : Nat) {h : Heap} (q : iter body n s h) : pLoop body s h := ⟨n, q⟩
theorem iter_c {σ : Type} {body : σ → (σ → Pr) → Pr} {s : σ} {n : Nat} {h : Heap} (q : body s (iter body n) h) : iter body (n + 1) s h := q

/-- A row in front, and of the others those that are wanted. -/
theorem row_out {M R' R : List Pr} (b : Nat) {cs : List Value} {tot : Nat} [i : Pick M (.blk b) (rowP b cs tot) R'] [a : Sub R' R] {h : Heap} (H : seps M h) : seps (rowP b cs tot :: R) h := seps_under (fun _ => a.out) (i.out H)

/- Maps that are written down. -/
theorem newM_c {M : List Pr} {h : Heap} (H : seps M h) {k : Nat → Pr} (q : ∀ p h, seps (mapP p [] :: M) h → k p h) : pNewObj (.map []) k h := fun b hb => q b _ (map_new H hb)
theorem same_int (k : IntKind) (x y : Int) : Instr.sameNow (.int k) (.int k x) (.int k y) = some (decide (x = y)) := by
  cases k <;> (unfold Instr.sameNow; simp; try rfl)
/-- Keys are new. -/
class NewKey (k : IntKind) (x : Int) (es : List (Value × Value)) : Prop where
  out : ∀ v, putM (.int k) (.int k x) v es = some (es ++ [(.int k x, v)])
instance {k : IntKind} {x : Int} : NewKey k x [] := ⟨fun _ => rfl⟩
class NeInt (x y : Int) : Prop where
  ne : x ≠ y
instance {k : IntKind} {x y : Int} {v : Value} {es : List (Value × Value)} [n : NeInt x y] [r : NewKey k x es] : NewKey k x ((.int k y, v) :: es) := ⟨fun u => by
  unfold putM; rw [same_int, decide_eq_false n.ne]; simp [r.out]⟩
theorem put_c {M R : List Pr} {h : Heap} {b : Nat} {es : List (Value × Value)} {k : IntKind} {x : Int} {v : Value} {p : Pr} [i : Pick M (.blk b) (mapP b es) R] (H : seps M h) (e : putM (.int k) (.int k x) v es = some (es ++ [(.int k x, v)])) (q : ∀ h, seps (mapP b (es ++ [(.int k x, v)]) :: R) h → p h) : pPut (.int k) (some b) (.int k x) v p h :=
  ⟨b, es, _, rfl, map_at (i.out H), e, q _ (map_set (i.out H))⟩
/-- All that a look may tell. -/
def GetAll (x : Int) (s : Shape) (z : Value) (q : s.T → Bool → Pr) (h : Heap) : List (Value × Value) → Prop
  | [] => ∃ p, z = s.inj p ∧ q p false h
  | (.int _ y, v) :: r => (x = y → ∃ p, v = s.inj p ∧ q p true h) ∧ (x ≠ y → GetAll x s z q h r)
  | _ => False
/-- All keys are of a kind. -/
def keysInt (k : IntKind) : List (Value × Value) → Bool
  | [] => true
  | (.int k' _, _) :: r => decide (k' = k) && keysInt k r
  | _ => false
theorem getAll_ok {k : IntKind} {x : Int} {s : Shape} {z : Value} {q : s.T → Bool → Pr} {h : Heap} : ∀ {es : List (Value × Value)}, keysInt k es = true → GetAll x s z q h es → ∃ res y, findM (.int k) (.int k x) es = some res ∧ res.getD z = s.inj y ∧ q y res.isSome h
  | [], _, ⟨p, e, g⟩ => ⟨none, p, rfl, e, g⟩
  | (.int k' y, v) :: r, hk, g => by
    unfold keysInt at hk
    simp only [Bool.and_eq_true, decide_eq_true_eq] at hk
    obtain ⟨rfl, hk⟩ := hk
    unfold findM
    rw [same_int]
    by_cases e : x = y
    · obtain ⟨p, e1, e2⟩ := g.1 e
      rw [decide_eq_true e]
      exact ⟨some v, p, rfl, e1, e2⟩
    · rw [decide_eq_false e]
      exact getAll_ok hk (g.2 e)
  | (.bool _, _) :: _, hk, _ => by unfold keysInt at hk; cases hk
theorem getS_c {M R : List Pr} {h : Heap} {b : Nat} {es : List (Value × Value)} {k : IntKind} {x : Int} {s : Shape} {z : Value} {q : s.T → Bool → Pr} [i : Pick M (.blk b) (mapP b es) R] (H : seps M h) (hk : keysInt k es = true) (g : GetAll x s z q h es) : pGetS (.int k) (some b) (.int k x) s z q h := by
  obtain ⟨res, y, e1, e2, e3⟩ := getAll_ok hk g
  exact ⟨es, res, y, map_at (i.out H), e1, e2, e3⟩

theorem callV0_c {P : Program} {f : FuncId} {args : List Value} {KP : Value → Pr} {r : RShape} {k : r.T → Pr} {h : Heap} (q : WpCall P f args.toArray KP (fun v h => ∃ x, v = r.inj x ∧ k x h) h) : pCallV P (.func (.func f) [].toArray [].toArray) args KP r k h := by
  refine callV_c ?_
  have e : (([].toArray ++ args.toArray) ++ [].toArray : Array Value) = args.toArray := by simp
  rw [e]; exact q
theorem neInt {x y : Int} (h : decide (x = y) = false) : x ≠ y := of_decide_eq_false h

theorem row_sub {P : Pr} {L M : List Pr} [s : Sub L M] {h : Heap} (H : seps (P :: L) h) : seps (P :: M) h := seps_under (fun _ => s.out) H

theorem seps_dropA : ∀ {A B : List Pr} {h : Heap}, seps (A ++ B) h → seps B h
  | [], _, _, H => H
  | _ :: _, _, _, H => seps_dropA (seps_tail H)

end Go.Hl
