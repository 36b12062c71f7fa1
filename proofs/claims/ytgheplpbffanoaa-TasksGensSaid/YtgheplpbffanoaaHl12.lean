/- The heap logic: code. 'code_sound' and, for a function, 'WpCall.of_vc'. -/
import Derived.Test.YtgheplpbffanoaaHl11
import Derived.Eval
namespace Go.Hl

def CPost (h0 : Heap) (w0 : World) (S : List Nat) (env0 : Env) (K : Exit → Env → Pr) (KP : Value → Pr) : Exit → Act → World → Prop
  | .panic [p], a', w' => a'.defers = [] ∧ p.recovered = false ∧ p.goexit = false ∧ ∃ h', KP p.v h' ∧ R h' w' ∧ Fr h0 w0 h' w'
  | .panic _, _, _ => False
  | .outgrown, _, _ => False
  | e, a', w' => ∃ env', EnvOk env' a' ∧ Keep S env0 env' ∧ ∃ h', K e env' h' ∧ R h' w' ∧ Fr h0 w0 h' w'

/-- The exits of which K speaks. -/
def Exit.said : Exit → Bool
  | .panic _ | .outgrown => false
  | _ => true

theorem CPost.said {h0 : Heap} {w0 : World} {S : List Nat} {env0 : Env} {K : Exit → Env → Pr} {KP : Value → Pr} {e : Exit} {a : Act} {w : World} (he : Exit.said e = true) :
    CPost h0 w0 S env0 K KP e a w = ∃ env', EnvOk env' a ∧ Keep S env0 env' ∧ ∃ h', K e env' h' ∧ R h' w ∧ Fr h0 w0 h' w := by
  cases e <;> first | rfl | cases he

/-- From one post to another: the panics are the same, the other exits by 'm'. -/
theorem CPost.map {h0 : Heap} {w0 : World} {S T : List Nat} {env0 env1 : Env} {K K' : Exit → Env → Pr} {KP : Value → Pr} {e : Exit} {a : Act} {w : World} (p : CPost h0 w0 S env0 K KP e a w)
    (m : ∀ env', Exit.said e = true → EnvOk env' a → Keep S env0 env' → ∀ h', K e env' h' → R h' w → Fr h0 w0 h' w → CPost h0 w0 T env1 K' KP e a w) : CPost h0 w0 T env1 K' KP e a w := by
  cases he : Exit.said e with
  | true =>
    rw [CPost.said he] at p
    obtain ⟨env', ok, kp, h', k, r, f⟩ := p
    exact m env' he ok kp h' k r f
  | false =>
    cases e with
    | panic ch => cases ch with
      | nil => exact p
      | cons x t => cases t <;> exact p
    | outgrown => exact p
    | normal => cases he
    | exit _ => cases he
    | goto _ => cases he
    | ret => cases he

theorem RPost.toC {h0 : Heap} {w0 : World} {S : List Nat} {env0 : Env} {K : Exit → Env → Pr} {KP : Value → Pr} {e : Exit} {a : Act} {w : World} (p : RPost h0 w0 S env0 (K .normal) KP e a w) : CPost h0 w0 S env0 K KP e a w := by
  cases e <;> try exact p.elim
  case normal => exact p
  case panic ch => cases ch with
    | nil => exact p
    | cons x t => cases t <;> exact p

theorem kill_at : ∀ (S : List Nat) (env : Env) (i : Nat) (v : Value), ((kill S env).at i).get = some v → i ∉ S ∧ (env.at i).get = some v
  | [], env, i, v, h => ⟨by simp, h⟩
  | t :: S, env, i, v, h => by
    obtain ⟨h1, h2⟩ := kill_at S _ i v h
    rw [at_set] at h2
    by_cases hc : t = i ∧ i < env.length
    · rw [if_pos hc] at h2; cases h2
    · rw [if_neg hc] at h2
      refine ⟨?_, h2⟩
      intro hm
      rcases List.mem_cons.1 hm with e | hm
      · subst e
        apply hc
        refine ⟨rfl, ?_⟩
        rcases Nat.lt_or_ge i env.length with k | k
        · exact k
        · simp [Env.at, List.getD_eq_getElem?_getD, List.getElem?_eq_none k, EV.get] at h2
      · exact h1 hm

theorem kill_len : ∀ (S : List Nat) (env : Env), (kill S env).length = env.length
  | [], _ => rfl
  | t :: S, env => by rw [kill, kill_len S]; simp

theorem put_len : ∀ (l : List (Nat × Shape)) (s : St l) (env : Env), (St.put l s env).length = env.length
  | [], _, _ => rfl
  | (t, sh) :: r, s, env => by rw [St.put, put_len r]; simp

theorem put_get : ∀ (l : List (Nat × Shape)) (s : St l) (env : Env), St.get l env = some s → ∀ (base : Env) (i : Nat), ((St.put l s base).at i).get = (base.at i).get ∨ ((St.put l s base).at i).get = (env.at i).get
  | [], _, _, _, _, _ => .inl rfl
  | (t, sh) :: r, s, env, h, base, i => by
    simp only [St.get] at h
    cases hv : (env.at t).get with
    | none => simp [hv] at h
    | some v =>
      simp only [hv] at h
      cases hp : sh.proj v with
      | none => simp [hp] at h
      | some x =>
        simp only [hp] at h
        cases hg : St.get r env with
        | none => simp [hg] at h
        | some y =>
          simp only [hg] at h
          cases h
          rcases put_get r y env hg (base.set t (.val (sh.inj x))) i with h1 | h1
          · show ((St.put r y (base.set t (.val (sh.inj x)))).at i).get = _ ∨ ((St.put r y (base.set t (.val (sh.inj x)))).at i).get = _
            rw [h1, at_set]
            by_cases hc : t = i ∧ i < base.length
            · rw [if_pos hc]
              right
              obtain ⟨rfl, _⟩ := hc
              rw [hv, sh.proj_inj v x hp]; rfl
            · rw [if_neg hc]; exact .inl rfl
          · exact .inr h1

/-- The environment at a join, or at the head of a loop. -/
theorem join_ok {J : List (Nat × Shape)} {S : List Nat} {env env' : Env} {a : Act} {s : St J} (ok : EnvOk env' a) (kp : Keep S env env') (hg : St.get J env' = some s) : EnvOk (St.put J s (kill S env)) a := by
  refine ⟨by rw [put_len, kill_len, ← kp.len, ok.size], fun i v hv => ?_, ok.defs⟩
  rcases put_get J s env' hg (kill S env) i with h1 | h1
  · rw [h1] at hv
    obtain ⟨h2, h3⟩ := kill_at S env i v hv
    exact ok.val i v (by rw [kp.get i h2]; exact h3)
  · rw [h1] at hv; exact ok.val i v hv

theorem kill_get : ∀ (S : List Nat) (env : Env) (i : Nat), i ∉ S → (kill S env).at i = env.at i
  | [], _, _, _ => rfl
  | t :: S, env, i, h => by
    rw [kill, kill_get S _ i (fun k => h (List.mem_cons_of_mem _ k)), at_set, if_neg (fun (hc : t = i ∧ _) => h (by rw [hc.1]; exact List.mem_cons_self ..))]

theorem join_keep {J : List (Nat × Shape)} {S : List Nat} {env env' : Env} {s : St J} (kp : Keep S env env') (hg : St.get J env' = some s) : Keep S env (St.put J s (kill S env)) := by
  refine ⟨by rw [put_len, kill_len], fun i hi => ?_⟩
  rcases put_get J s env' hg (kill S env) i with h1 | h1
  · rw [h1, kill_get S env i hi]
  · rw [h1, kp.get i hi]

theorem code_sound {P : Program} {KP : Value → Pr} (hm : P.follows .mixedOrders = true) : ∀ (c : Code) (ann : Ann) (env : Env) (K : Exit → Env → Pr) (h : Heap), vcCode P KP c ann env K h →
    ∀ h0 w0 a w, EnvOk env a → R h w → Fr h0 w0 h w → c.wp P (CPost h0 w0 (assigned c) env K KP) a w
  | .skip, ann, env, K, h, s, h0, w0, a, w, ok, r, f => by
    have s' : K .normal env h := by cases ann <;> exact s
    exact wp_skip ⟨env, ok, Keep.refl _ _, h, s', r, f⟩
  | .label _, ann, env, K, h, s, h0, w0, a, w, ok, r, f => by
    have s' : K .normal env h := by cases ann <;> exact s
    exact wp_label ⟨env, ok, Keep.refl _ _, h, s', r, f⟩
  | .exit i, ann, env, K, h, s, h0, w0, a, w, ok, r, f => by
    have s' : K (.exit i) env h := by cases ann <;> exact s
    exact wp_exit ⟨env, ok, Keep.refl _ _, h, s', r, f⟩
  | .ret, ann, env, K, h, s, h0, w0, a, w, ok, r, f => by
    have s' : K .ret env h := by cases ann <;> exact s
    exact wp_ret ⟨env, ok, Keep.refl _ _, h, s', r, f⟩
  | .region id ops false, ann, env, K, h, s, h0, w0, a, w, ok, r, f => by
    have s' : vcIdx P KP ops (List.range ops.size) env (K .normal) h := by cases ann <;> exact s
    refine wp_mono (wp_region (idx_sound (h0 := h0) (w0 := w0) (env0 := env) _ env h s' a w ok (Keep.refl _ _) r f)) fun e a w p => ?_
    exact RPost.toC p
  | .region id ops true, ann, env, K, h, s, h0, w0, a, w, ok, r, f => by
    cases ann <;> try exact s.elim
    rename_i l
    unfold vcCode at s
    cases hd : drawOk P ops l with
    | false => simp only [hd] at s; exact s.elim
    | true =>
      simp only [hd] at s
      refine wp_mono (draw_sound hm hd s (h0 := h0) (w0 := w0) ok r f) fun e a w p => ?_
      exact RPost.toC p
  | .seq x y, ann, env, K, h, s, h0, w0, a, w, ok, r, f => by
    cases ann <;> try exact s.elim
    case two ax ay =>
      unfold vcCode at s
      refine wp_seq (wp_mono (code_sound hm x ax env _ h s h0 w0 a w ok r f) fun e a' w' p => ?_)
      by_cases hn : e = .normal
      · subst hn
        obtain ⟨env', ok', kp', h', k', r', f'⟩ := p
        refine wp_mono (code_sound hm y ay env' K h' k' h0 w0 a' w' ok' r' f') fun e2 a2 w2 p2 => ?_
        refine p2.map fun env2 he ok2 kp2 h2 k2 r2 f2 => ?_
        rw [CPost.said he]
        exact ⟨env2, ok2, (kp'.mono (fun i hi => List.mem_append_left _ hi)).trans (kp2.mono (fun i hi => List.mem_append_right _ hi)), h2, k2, r2, f2⟩
      · have : CPost h0 w0 (assigned (x.seq y)) env K KP e a' w' := by
          refine p.map fun env2 he ok2 kp2 h2 k2 r2 f2 => ?_
          rw [CPost.said he]
          refine ⟨env2, ok2, kp2.mono (fun i hi => List.mem_append_left _ hi), h2, ?_, r2, f2⟩
          cases e <;> first | exact k2 | exact absurd rfl hn
        cases e <;> first | exact this | exact absurd rfl hn
    case join ax ay J =>
      unfold vcCode at s
      refine wp_seq (wp_mono (code_sound hm x ax env _ h s h0 w0 a w ok r f) fun e a' w' p => ?_)
      by_cases hn : e = .normal
      · subst hn
        obtain ⟨env', ok', kp', h', k', r', f'⟩ := p
        simp only at k'
        cases hg : St.get J env' with
        | none => simp only [hg] at k'; exact k'.elim
        | some st =>
          simp only [hg] at k'
          refine wp_mono (code_sound hm y ay _ K h' k' h0 w0 a' w' (join_ok ok' kp' hg) r' f') fun e2 a2 w2 p2 => ?_
          refine p2.map fun env2 he ok2 kp2 h2 k2 r2 f2 => ?_
          rw [CPost.said he]
          exact ⟨env2, ok2, ((join_keep kp' hg).mono (fun i hi => List.mem_append_left _ hi)).trans (kp2.mono (fun i hi => List.mem_append_right _ hi)), h2, k2, r2, f2⟩
      · have : CPost h0 w0 (assigned (x.seq y)) env K KP e a' w' := by
          refine p.map fun env2 he ok2 kp2 h2 k2 r2 f2 => ?_
          rw [CPost.said he]
          refine ⟨env2, ok2, kp2.mono (fun i hi => List.mem_append_left _ hi), h2, ?_, r2, f2⟩
          cases e <;> first | exact k2 | exact absurd rfl hn
        cases e <;> first | exact this | exact absurd rfl hn
  | .cond c x y, ann, env, K, h, s, h0, w0, a, w, ok, r, f => by
    cases ann <;> try exact s.elim
    rename_i ax ay
    unfold vcCode at s
    have left : vcCode P KP x ax env K h → x.wp P (CPost h0 w0 (assigned (.cond c x y)) env K KP) a w := fun s =>
      wp_mono (code_sound hm x ax env K h s h0 w0 a w ok r f) fun e a' w' p => p.map fun env2 he ok2 kp2 h2 k2 r2 f2 => by
        rw [CPost.said he]; exact ⟨env2, ok2, kp2.mono (fun i hi => List.mem_append_left _ hi), h2, k2, r2, f2⟩
    have right : vcCode P KP y ay env K h → y.wp P (CPost h0 w0 (assigned (.cond c x y)) env K KP) a w := fun s =>
      wp_mono (code_sound hm y ay env K h s h0 w0 a w ok r f) fun e a' w' p => p.map fun env2 he ok2 kp2 h2 k2 r2 f2 => by
        rw [CPost.said he]; exact ⟨env2, ok2, kp2.mono (fun i hi => List.mem_append_right _ hi), h2, k2, r2, f2⟩
    cases he : evE env c with
    | un => simp only [he] at s; exact s.elim
    | sk => simp only [he] at s; exact s.elim
    | tt => simp only [he] at s; exact wp_cond_true (ok.fits c _ (by rw [he]; rfl)) (left s)
    | ff => simp only [he] at s; exact wp_cond_false (ok.fits c _ (by rw [he]; rfl)) (right s)
    | val v =>
      simp only [he] at s
      cases v <;> try exact s.elim
      rename_i t
      refine wp_cond_split (t := t) (ok.fits c _ (by rw [he]; rfl)) (fun ht => left (s.1 ht)) (fun ht => right (s.2 ht))
  | .block id c, ann, env, K, h, s, h0, w0, a, w, ok, r, f => by
    cases ann <;> try exact s.elim
    rename_i ax
    unfold vcCode at s
    refine wp_block (wp_mono (code_sound hm c ax env _ h s h0 w0 a w ok r f) fun e a' w' p => ?_)
    by_cases hx : ∃ i, e = .exit i
    · obtain ⟨i, rfl⟩ := hx
      obtain ⟨env', ok', kp', h', k', r', f'⟩ := p
      simp only [Exit.inBlock]
      simp only at k'
      by_cases hi : i = id
      · rw [if_pos hi] at k' ⊢
        exact ⟨env', ok', kp', h', k', r', f'⟩
      · rw [if_neg hi] at k' ⊢
        exact ⟨env', ok', kp', h', k', r', f'⟩
    · have : CPost h0 w0 (assigned (.block id c)) env K KP e a' w' := by
        refine p.map fun env2 he ok2 kp2 h2 k2 r2 f2 => ?_
        rw [CPost.said he]
        refine ⟨env2, ok2, kp2, h2, ?_, r2, f2⟩
        cases e <;> first | exact k2 | exact absurd ⟨_, rfl⟩ hx
      cases e <;> first | exact this | exact absurd ⟨_, rfl⟩ hx
  | .loop c, ann, env, K, h, s, h0, w0, a, w, ok, r, f => by
    cases ann <;> try exact s.elim
    rename_i J ax
    unfold vcCode at s
    cases hg : St.get J env with
    | none => simp only [hg] at s; exact s.elim
    | some s0 =>
      simp only [hg] at s
      obtain ⟨n, hn⟩ := s
      intro b k cs
      have key : ∀ (n : Nat) (st : St J) (h : Heap), iter (fun (s : St J) (k : St J → Pr) => vcCode P KP c ax (St.put J s (kill (assigned c) env)) fun e env' => match e with
            | .normal => (match St.get J env' with
              | some s => k s
              | none => F)
            | e => K e env') n st h → ∀ a w, EnvOk (St.put J st (kill (assigned c) env)) a → Keep (assigned c) env (St.put J st (kill (assigned c) env)) → R h w → Fr h0 w0 h w →
          ∃ e a' w', CPost h0 w0 (assigned (.loop c)) env K KP e a' w' ∧ Arrives P (lone (b.at a (.code c :: .inLoop c :: k)) cs w) b k cs e a' w' := by
        intro n
        induction n with
        | zero => intro st h hit; exact hit.elim
        | succ n ih =>
          intro st h hit a w ok kp r f
          obtain ⟨e, a₁, w₁, hq, harr⟩ := code_sound hm c ax _ _ h hit h0 w0 a w ok r f b (.inLoop c :: k) cs
          by_cases hne : e = .normal
          · subst hne
            obtain ⟨env', ok', kp', h', k', r', f'⟩ := hq
            simp only at k'
            cases hg' : St.get J env' with
            | none => simp only [hg'] at k'; exact k'.elim
            | some st' =>
              simp only [hg'] at k'
              have kpall : Keep (assigned c) env env' := kp.trans kp'
              obtain ⟨e₂, a₂, w₂, hq₂, harr₂⟩ := ih st' h' k' a₁ w₁ (join_ok ok' kpall hg') (join_keep kpall hg') r' f'
              exact ⟨e₂, a₂, w₂, hq₂, .of_steps (Steps.trans harr (.one step_inLoop)) harr₂⟩
          · refine ⟨e, a₁, w₁, hq.map fun env2 he ok2 kp2 h2 k2 r2 f2 => ?_, ?_⟩
            · rw [CPost.said he]
              refine ⟨env2, ok2, kp.trans kp2, h2, ?_, r2, f2⟩
              cases e <;> first | exact k2 | exact absurd rfl hne
            · exact .pass (x := .inLoop c) rfl (fun _ _ => .inl hne) harr
      obtain ⟨e, a', w', hq, harr⟩ := key n s0 h hn a w (join_ok ok (Keep.refl _ _) hg) (join_keep (Keep.refl _ _) hg) r f
      exact ⟨e, a', w', hq, .of_steps (.one step_loop) harr⟩
  | .scope _, ann, _, _, _, s, _, _, _, _, _, _, _ => by cases ann <;> exact s.elim
  | .goto _, ann, _, _, _, s, _, _, _, _, _, _, _ => by cases ann <;> exact s.elim
  | .rangeFunc .., ann, _, _, _, s, _, _, _, _, _, _, _ => by cases ann <;> exact s.elim
  | .refuse _, ann, _, _, _, s, _, _, _, _, _, _, _ => by cases ann <;> exact s.elim

theorem res_sound {P : Program} {env : Env} : ∀ (l : List ResultVar) (k : List Value → Pr) (h : Heap), vcRes P env l k h → ∀ a w, EnvOk env a → R h w →
    ∃ vs, k vs h ∧ (l.mapM (fun (x : ResultVar) => match x with
    | .tmp t => (pure (a.tmps.getD t undef) : Sem Value)
    | .cell ad t => do loadVar t (← asAddr (a.tmps.getD ad undef)))).run P w = .ok vs w
  | [], k, h, s, a, w, ok, r => ⟨[], s, by simp⟩
  | .tmp t :: l, k, h, s, a, w, ok, r => by
    obtain ⟨v, hv, s⟩ := gv_some s
    obtain ⟨vs, hk, hr⟩ := res_sound l _ h s a w ok r
    refine ⟨v :: vs, hk, ?_⟩
    have := ok.val t v hv
    simp only [List.mapM_cons, Sem.run_bind, Sem.run_pure, Result.andThen_ok, hr]
    simp [this]
  | .cell ad t :: l, k, h, s, a, w, ok, r => by
    obtain ⟨va, hv, s⟩ := gv_some s
    have := ok.val ad va hv
    have hgd : a.tmps.getD ad undef = va := by simp [this]
    have : ∃ v, (∃ p, va = .pointer (some p) ∧ (loadVar t p).run P w = .ok v w) ∧ vcRes P env l (fun vs => k (v :: vs)) h := by
      unfold vcLoad at s
      cases va <;> try exact s.elim
      rename_i pa
      cases pa with
      | none => exact s.elim
      | some p =>
        simp only at s
        cases hu : P.underlying t with
        | none => simp only [hu] at s; exact s.elim
        | some d =>
          simp only [hu] at s
          by_cases hs : shapeD d = .agg
          · simp only [hs] at s
            obtain ⟨cs, hc, hk⟩ := s
            exact ⟨_, ⟨p, rfl, load_agg r hu (shape_agg hs) hc⟩, hk⟩
          · have hna := shape_notAgg hs
            cases hd : shapeD d <;> simp only [hd] at s hs <;> first
              | exact absurd trivial hs
              | (obtain ⟨y, hc, hk⟩ := s; exact ⟨_, ⟨p, rfl, load_cell r hu hna hc⟩, hk⟩)
    obtain ⟨v, ⟨p, rfl, hl⟩, s3⟩ := this
    obtain ⟨vs, hk, hr⟩ := res_sound l _ h s3 a w ok r
    refine ⟨v :: vs, hk, ?_⟩
    have hp : (asAddr (.pointer (some p))).run P w = .ok p w := rfl
    simp only [List.mapM_cons, Sem.run_bind, hgd, hp, Sem.run_pure, Result.andThen_ok, hl, hr]

theorem results_run {P : Program} {env : Env} {fn : Func} {k : List Value → Pr} {h : Heap} (s : vcRes P env fn.results.toList k h) {a : Act} {w : World} (ok : EnvOk env a) (r : R h w) :
    ∃ vs, k vs h ∧ (results fn a.tmps).run P w = .ok (match vs with | [v] => v | vs => .tuple vs.toArray) w := by
  obtain ⟨vs, hk, hr⟩ := res_sound _ k h s a w ok r
  refine ⟨vs, hk, ?_⟩
  unfold results
  rw [Array.mapM_eq_mapM_toList]
  simp only [Sem.run_bind, Sem.run_map]
  erw [hr]
  simp only [Result.andThen_ok, Sem.run_pure]
  match vs with
  | [] => rfl
  | [v] => rfl
  | _ :: _ :: _ => rfl

/-- The rule for a function. -/
theorem WpCall.of_vc {P : Program} {f : FuncId} {fn : Func} {c : Code} {args : List Value} {KP K : Value → Pr} {h : Heap} (hm : P.follows .mixedOrders = true) (hf : P.funcs[f]? = some fn) (hb : fn.body = some c)
    (hc : ∀ as w, (callFunc f as).run P w = .ok (.enter f as) w) (ann : Ann)
    (s : vcBody P fn c ann args (fun v h' => ∃ g, Heap.le g h' ∧ KP v g) (fun v h' => ∃ g, Heap.le g h' ∧ K v g) h) : WpCall P f args.toArray KP K h := by
  refine WpCall.forget ⟨hc, fun w r => calls_of_wp hf hb ?_⟩
  unfold vcBody at s
  have ok : EnvOk (args.map .val ++ List.replicate (fn.ntmps - args.length) .un) { tmps := args.toArray ++ Array.replicate (fn.ntmps - args.toArray.size) undef, defers := [] } := by
    refine ⟨by simp, fun i v hv => ?_, rfl⟩
    unfold Env.at at hv
    rw [List.getD_eq_getElem?_getD] at hv
    rcases Nat.lt_or_ge i args.length with hi | hi
    · rw [List.getElem?_append_left (by simpa using hi)] at hv
      simp [hi, EV.get] at hv
      rw [Array.getElem?_append_left (by simpa using hi)]
      simp [hi, hv]
    · rw [List.getElem?_append_right (by simpa using hi)] at hv
      rcases Nat.lt_or_ge (i - args.length) (fn.ntmps - args.length) with hj | hj
      · simp [hj, EV.get] at hv
      · simp [List.getElem?_replicate, EV.get] at hv
        rw [if_neg (by omega)] at hv
        simp at hv
  refine wp_mono (code_sound hm c ann _ _ h s h w _ w ok r (Fr.refl h w)) fun e a' w' p => ?_
  have fin : ∀ env' h', EnvOk env' a' → R h' w' → Fr h w h' w' → (vcRes P env' fn.results.toList fun vs => match vs with
      | [v] => (fun v h' => ∃ g, Heap.le g h' ∧ K v g) v
      | vs => (fun v h' => ∃ g, Heap.le g h' ∧ K v g) (.tuple vs.toArray)) h' →
      a'.defers = [] ∧ ∃ v, (results fn a'.tmps).run P w' = .ok v w' ∧ Ends h w (fun h' => ∃ g, Heap.le g h' ∧ K v g) w' := by
    intro env' h' ok' r' f' k'
    obtain ⟨vs, hk, hr⟩ := results_run k' ok' r'
    refine ⟨ok'.defs, _, hr, h', ?_, r', f'⟩
    match vs, hk with
    | [], hk => exact hk
    | [v], hk => exact hk
    | _ :: _ :: _, hk => exact hk
  cases e <;> try exact p.elim
  case normal =>
    obtain ⟨env', ok', _, h', k', r', f'⟩ := p
    exact fin env' h' ok' r' f' k'
  case ret =>
    obtain ⟨env', ok', _, h', k', r', f'⟩ := p
    exact fin env' h' ok' r' f' k'
  case panic ch =>
    cases ch with
    | nil => exact p.elim
    | cons x t => cases t with
      | nil =>
        obtain ⟨hd, h1, h2, h', hk, r', f'⟩ := p
        exact ⟨hd, h1, h2, h', hk, r', f'⟩
      | cons _ _ => exact p.elim
  case exit i =>
    obtain ⟨env', _, _, h', k', _, _⟩ := p
    exact k'.elim
  case goto l =>
    obtain ⟨env', _, _, h', k', _, _⟩ := p
    exact k'.elim

end Go.Hl
