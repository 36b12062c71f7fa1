/- The heap logic: a region that draws its order: one walk, in an order of ours, serves every order. -/
import Derived.Test.YtgheplpbffanoaaHl10
set_option linter.unusedVariables false
namespace Go.Hl

abbrev Facts := List (Nat × Pr)
def MonoF (f : Pr) : Prop := ∀ (h : Heap) (b : Nat) (x : Blk), h b = none → f h → f (h.set b x)
def Fin (h : Heap) : Prop := ∃ N, ∀ b, N ≤ b → h b = none

theorem Fin.of_R {h : Heap} {w : World} (r : R h w) : Fin h := ⟨w.heap.size, fun b hb => by
  cases e : h b with
  | none => rfl
  | some x => exact absurd (r.lt e) (by omega)⟩
theorem Fin.set {h : Heap} (f : Fin h) (b : Nat) (x : Blk) : Fin (h.set b x) := by
  obtain ⟨N, hN⟩ := f
  refine ⟨max N (b + 1), fun i hi => ?_⟩
  rw [Heap.set_ne _ _ (by omega)]
  exact hN i (by omega)
theorem Fin.fresh {h : Heap} (f : Fin h) : ∃ b, h b = none := by obtain ⟨N, hN⟩ := f; exact ⟨N, hN N (Nat.le_refl _)⟩

section
variable (P : Program) (KP : Value → Pr) (ops : Array Oper) (ms : List Nat)

def YA (o : Oper) (a : Act) (v : Value) : Prop := ∀ w, (execOp a.eval o).run P w = .ok (.value v) w
def YL (o : Oper) (a : Act) (f : Pr) (v : Value) : Prop := ∀ h w, f h → R h w → (execOp a.eval o).run P w = .ok (.value v) w
def NA (o : Oper) (a : Act) (cs : List Value) (mk : Nat → Value) : Prop :=
  ∀ w, ∃ w' ty, (execOp a.eval o).run P w = .ok (.value (mk w.heap.size)) w' ∧ w'.heap = w.heap.push (.cells cs.toArray ty (0, 0)) ∧ w'.os = w.os ∧ w'.tape = w.tape ∧ w'.output = w.output
def SR (o : Oper) (a : Act) (k : Value → Pr) : Pr := fun h => ∀ w, R h w → OpTo P o a.eval w (fun v w' => Ends h w (k v) w') (fun v w' => Ends h w (KP v) w')
def KeptF (i : Nat) (fs : Facts) : Pr := fun h => ∀ jf ∈ fs, (ms.getD i 0).testBit jf.1 = false → jf.2 h

/-- One operation, then C. -/
def Front (i : Nat) (fs : Facts) (a : Act) (C : Act → Facts → Pr) : Pr := fun h =>
  match ops[i]? with
  | none => False
  | some o =>
    if Region.wanted o (yielded ops a.tmps) = true then
      match cls o.op with
      | .pv => ∃ v, YA P o a v ∧ C (a.put o.dst v) fs h
      | .ld => ∃ v f, YL P o a f v ∧ MonoF f ∧ f h ∧ C (a.put o.dst v) ((i, f) :: fs) h
      | .nw => ∃ cs mk, NA P o a cs mk ∧ ∀ b, h b = none → C (a.put o.dst (mk b)) fs (h.set b (.row cs cs.length))
      | .ef => SR P KP o a (fun v h' => KeptF ms i fs h' ∧ C (a.put o.dst v) fs h') h
    else C (a.put o.dst undef) fs h

def DS (K : Act → Pr) : List Nat → Act → Facts → Pr
  | [], a, _ => K a
  | i :: r, a, fs => Front P KP ops ms i fs a (DS K r)
end

section
variable {P : Program} {KP : Value → Pr} {ops : Array Oper} {ms : List Nat}

theorem SR.mono {o : Oper} {a : Act} {k k' : Value → Pr} {h : Heap} (s : SR P KP o a k h) (m : ∀ v g, Fin g → k v g → k' v g) : SR P KP o a k' h := fun w r => by
  have := s w r
  have em : ∀ v w', Ends h w (k v) w' → Ends h w (k' v) w' := fun v w' ⟨h', kk, r', f⟩ => ⟨h', m v h' (Fin.of_R r') kk, r', f⟩
  unfold OpTo at *
  generalize (execOp a.eval o).run P w = res at *
  cases res with
  | ok n w' =>
    cases n <;> simp only at this ⊢ <;> first
      | exact em _ _ this
      | (refine this.mono fun en w'' he => ?_
         cases en with
         | returned v => exact em _ _ he
         | panicked ch => cases ch with
           | nil => exact he
           | cons p t => cases t <;> exact he
         | outgrown => exact he)
  | halt x w' => cases x <;> simp only at this ⊢ <;> exact this

theorem SR.frame {o : Oper} {a : Act} {k : Value → Pr} {h : Heap} {b : Nat} {x : Blk} (s : SR P KP o a k h) (hb : h b = none) :
    SR P KP o a (fun v g => ∃ h', k v h' ∧ h' b = none ∧ g = h'.set b x) (h.set b x) := fun w r => by
  have := s w (r.mono (Heap.le_set_new (Heap.le_refl h) hb x))
  have ep : ∀ v w', Ends h w (KP v) w' → Ends (h.set b x) w (KP v) w' := fun v w' e => by
    obtain ⟨g, ⟨h', kk, hn, rfl⟩, r', f⟩ := e.frame r hb
    exact ⟨h', kk, r'.mono (Heap.le_set_new (Heap.le_refl _) hn x), f.forget (Heap.le_set_new (Heap.le_refl _) hn x)⟩
  unfold OpTo at *
  generalize (execOp a.eval o).run P w = res at *
  cases res with
  | ok n w' =>
    cases n <;> simp only at this ⊢ <;> first
      | exact this.frame r hb
      | (refine this.mono fun en w'' he => ?_
         cases en with
         | returned v => exact he.frame r hb
         | panicked ch => cases ch with
           | nil => exact he
           | cons p t => cases t with
             | nil => exact ⟨he.1, he.2.1, ep _ _ he.2.2⟩
             | cons _ _ => exact he
         | outgrown => exact he)
  | halt x w' => cases x <;> simp only at this ⊢ <;> exact ep _ _ this

theorem SR.congr {o : Oper} {a a' : Act} {k : Value → Pr} {h : Heap} (e : execOp a'.eval o = execOp a.eval o) (s : SR P KP o a k h) : SR P KP o a' k h := fun w r => by
  have := s w r
  unfold OpTo at *
  rw [e]; exact this

theorem NA.unique {o : Oper} {a : Act} {cs cs' : List Value} {mk mk' : Nat → Value} (h : NA P o a cs mk) (h' : NA P o a cs' mk') : cs' = cs ∧ mk' = mk := by
  have key : ∀ n, cs' = cs ∧ mk' n = mk n := fun n => by
    let w : World := { (default : World) with heap := Array.replicate n (.pending #[] 0) }
    obtain ⟨w1, t1, r1, p1, _⟩ := h w
    obtain ⟨w2, t2, r2, p2, _⟩ := h' w
    rw [r1] at r2
    simp only [Result.ok.injEq, Next.value.injEq] at r2
    obtain ⟨e1, e2⟩ := r2
    subst e2
    rw [p1] at p2
    have := Array.push_eq_push.1 p2
    have e3 := this.1
    simp only [Obj.cells.injEq] at e3
    have hn : w.heap.size = n := by simp [w]
    rw [hn] at e1
    refine ⟨?_, e1.symm⟩
    have := congrArg Array.toList e3.1
    simpa using this.symm
  exact ⟨(key 0).1, funext fun n => (key n).2⟩

theorem KeptF.sub {i : Nat} {fs fs' : Facts} {h : Heap} (m : ∀ x ∈ fs', x ∈ fs) (k : KeptF ms i fs h) : KeptF ms i fs' h := fun jf hj hb => k jf (m jf hj) hb

theorem Front.mono {i : Nat} {fs : Facts} {a : Act} {C C' : Act → Facts → Pr} {h : Heap} (fin : Fin h) (s : Front P KP ops ms i fs a C h) (m : ∀ a' fs' h', (∀ x ∈ fs', x ∈ fs ∨ MonoF x.2) → Fin h' → C a' fs' h' → C' a' fs' h') : Front P KP ops ms i fs a C' h := by
  unfold Front at *
  cases ho : ops[i]? with
  | none => simp only [ho] at s
  | some o =>
    simp only [ho] at s ⊢
    by_cases hw : Region.wanted o (yielded ops a.tmps) = true
    · rw [if_pos hw] at s ⊢
      cases hc : cls o.op <;> simp only [hc] at s ⊢
      · obtain ⟨v, hy, s⟩ := s; exact ⟨v, hy, m _ _ _ (fun x hx => .inl hx) fin s⟩
      · obtain ⟨v, f, hy, hm, hf, s⟩ := s
        exact ⟨v, f, hy, hm, hf, m _ _ _ (fun x hx => by rcases List.mem_cons.1 hx with rfl | hx; exact .inr hm; exact .inl hx) fin s⟩
      · obtain ⟨cs, mk, hn, s⟩ := s; exact ⟨cs, mk, hn, fun b hb => m _ _ _ (fun x hx => .inl hx) (fin.set _ _) (s b hb)⟩
      · exact s.mono fun v g fg hg => ⟨hg.1, m _ _ _ (fun x hx => .inl hx) fg hg.2⟩
    · rw [if_neg hw] at s ⊢
      exact m _ _ _ (fun x hx => .inl hx) fin s

theorem Front.facts {i : Nat} {fs fs' : Facts} {a : Act} {C : Act → Facts → Pr} {h : Heap} (hs : ∀ x ∈ fs', x ∈ fs) (hC : ∀ a g g' h, (∀ x ∈ g', x ∈ g) → C a g h → C a g' h) (s : Front P KP ops ms i fs a C h) : Front P KP ops ms i fs' a C h := by
  unfold Front at *
  cases ho : ops[i]? with
  | none => simp only [ho] at s
  | some o =>
    simp only [ho] at s ⊢
    by_cases hw : Region.wanted o (yielded ops a.tmps) = true
    · rw [if_pos hw] at s ⊢
      cases hc : cls o.op <;> simp only [hc] at s ⊢
      · obtain ⟨v, hy, s⟩ := s; exact ⟨v, hy, hC _ _ _ _ hs s⟩
      · obtain ⟨v, f, hy, hm, hf, s⟩ := s
        exact ⟨v, f, hy, hm, hf, hC _ _ _ _ (fun x hx => by rcases List.mem_cons.1 hx with rfl | hx; exact List.mem_cons_self ..; exact List.mem_cons_of_mem _ (hs x hx)) s⟩
      · obtain ⟨cs, mk, hn, s⟩ := s; exact ⟨cs, mk, hn, fun b hb => hC _ _ _ _ hs (s b hb)⟩
      · exact s.mono fun v g _ hg => ⟨hg.1.sub hs, hC _ _ _ _ hs hg.2⟩
    · rw [if_neg hw] at s ⊢
      exact hC _ _ _ _ hs s

theorem DS.facts {K : Act → Pr} : ∀ (l : List Nat) (a : Act) (g g' : Facts) (h : Heap), (∀ x ∈ g', x ∈ g) → DS P KP ops ms K l a g h → DS P KP ops ms K l a g' h
  | [], _, _, _, _, _, s => s
  | i :: r, a, g, g', h, hs, s => Front.facts hs (fun a g g' h hs s => DS.facts r a g g' h hs s) s

theorem KeptF.mono_set {i : Nat} {fs : Facts} {h : Heap} {b : Nat} {x : Blk} (hm : ∀ y ∈ fs, MonoF y.2) (hb : h b = none) (k : KeptF ms i fs h) : KeptF ms i fs (h.set b x) :=
  fun jf hj hbit => hm jf hj h b x hb (k jf hj hbit)

/-- Two operations that may change places. -/
theorem Front.swap {p i : Nat} {fs : Facts} {a : Act} {C : Act → Facts → Pr} {h : Heap} {op oi : Oper} (hop : ops[p]? = some op) (hoi : ops[i]? = some oi) (hsel : Region.noSelect ops = true)
    (hpass : mayPass P ops op oi = true) (hun : (ms.getD i 0).testBit p = false) (fin : Fin h) (hfs : ∀ y ∈ fs, MonoF y.2)
    (hC : ∀ a g g' h, (∀ x ∈ g', x ∈ g) → C a g h → C a g' h)
    (s : Front P KP ops ms p fs a (fun a1 fs1 => Front P KP ops ms i fs1 a1 C) h) : Front P KP ops ms i fs a (fun a1 fs1 => Front P KP ops ms p fs1 a1 C) h := by
  unfold mayPass at hpass
  simp only [Bool.and_eq_true] at hpass
  obtain ⟨hap, hcl⟩ := hpass
  obtain ⟨h1, h2, h3⟩ := Oper.apart_spec hap
  have si := Region.noSelect_spec hsel i oi
  have spp := Region.noSelect_spec hsel p op
  -- what p writes does not concern i, and the other way round
  have ei : ∀ (a : Act) u, execOp (a.put op.dst u).eval oi = execOp a.eval oi := fun a u => execOp_put oi (fun cs b => si cs b hoi) a op.dst u h1
  have ep : ∀ (a : Act) u, execOp (a.put oi.dst u).eval op = execOp a.eval op := fun a u => execOp_put op (fun cs b => spp cs b hop) a oi.dst u h3
  have wi : ∀ (a : Act) u, Region.wanted oi (yielded ops (a.put op.dst u).tmps) = Region.wanted oi (yielded ops a.tmps) := fun a u => wanted_put oi a op.dst u h1
  have wp : ∀ (a : Act) u, Region.wanted op (yielded ops (a.put oi.dst u).tmps) = Region.wanted op (yielded ops a.tmps) := fun a u => wanted_put op a oi.dst u h3
  have pc : ∀ (a : Act) u v, (a.put op.dst u).put oi.dst v = (a.put oi.dst v).put op.dst u := fun a u v => Act.put_comm a u v h2
  have yai : ∀ (a : Act) u v, YA P oi (a.put op.dst u) v → YA P oi a v := fun a u v y w => by have := y w; rwa [ei] at this
  have yap : ∀ (a : Act) u v, YA P op a v → YA P op (a.put oi.dst u) v := fun a u v y w => by rw [ep]; exact y w
  have yli : ∀ (a : Act) u f v, YL P oi (a.put op.dst u) f v → YL P oi a f v := fun a u f v y h w hf r => by have := y h w hf r; rwa [ei] at this
  have ylp : ∀ (a : Act) u f v, YL P op a f v → YL P op (a.put oi.dst u) f v := fun a u f v y h w hf r => by rw [ep]; exact y h w hf r
  have nai : ∀ (a : Act) u cs mk, NA P oi (a.put op.dst u) cs mk → NA P oi a cs mk := fun a u cs mk y w => by have := y w; rwa [ei] at this
  have nap : ∀ (a : Act) u cs mk, NA P op a cs mk → NA P op (a.put oi.dst u) cs mk := fun a u cs mk y w => by rw [ep]; exact y w
  unfold Front at *
  simp only [hop, hoi, wi, wp] at *
  by_cases hwp : Region.wanted op (yielded ops a.tmps) = true
  · by_cases hwi : Region.wanted oi (yielded ops a.tmps) = true
    · rw [if_pos hwi]
      rw [if_pos hwp] at s
      simp only [hwp, hwi, if_true] at s ⊢
      cases hcp : cls op.op <;> cases hci : cls oi.op <;> simp only [hcp, hci, Bool.false_eq_true] at s hcl ⊢
      -- pv, then whatever
      · obtain ⟨u, hu, v, hv, s⟩ := s; exact ⟨v, yai _ _ _ hv, u, yap _ _ _ hu, by rw [← pc]; exact s⟩
      · obtain ⟨u, hu, v, f, hv, hm, hf, s⟩ := s; exact ⟨v, f, yli _ _ _ _ hv, hm, hf, u, yap _ _ _ hu, by rw [← pc]; exact s⟩
      · obtain ⟨u, hu, cs, mk, hn, s⟩ := s; exact ⟨cs, mk, nai _ _ _ _ hn, fun b hb => ⟨u, yap _ _ _ hu, by rw [← pc]; exact s b hb⟩⟩
      · obtain ⟨u, hu, s⟩ := s
        refine (SR.congr (ei a u).symm s).mono fun v g _ hg => ⟨hg.1, u, yap _ _ _ hu, by rw [← pc]; exact hg.2⟩
      -- ld
      · obtain ⟨u, f, hu, hm, hf, v, hv, s⟩ := s; exact ⟨v, yai _ _ _ hv, u, f, ylp _ _ _ _ hu, hm, hf, by rw [← pc]; exact s⟩
      · obtain ⟨u, f, hu, hm, hf, v, f', hv, hm', hf', s⟩ := s
        refine ⟨v, f', yli _ _ _ _ hv, hm', hf', u, f, ylp _ _ _ _ hu, hm, hf, ?_⟩
        rw [← pc]
        refine hC _ _ _ _ (fun x hx => ?_) s
        simp only [List.mem_cons] at hx ⊢
        rcases hx with hx | hx | hx
        · exact .inr (.inl hx)
        · exact .inl hx
        · exact .inr (.inr hx)
      · obtain ⟨u, f, hu, hm, hf, cs, mk, hn, s⟩ := s
        exact ⟨cs, mk, nai _ _ _ _ hn, fun b hb => ⟨u, f, ylp _ _ _ _ hu, hm, hm h b _ hb hf, by rw [← pc]; exact s b hb⟩⟩
      · obtain ⟨u, f, hu, hm, hf, s⟩ := s
        refine (SR.congr (ei a u).symm s).mono fun v g _ hg => ⟨hg.1.sub (fun x hx => List.mem_cons_of_mem _ hx), u, f, ylp _ _ _ _ hu, hm, hg.1 (p, f) (List.mem_cons_self ..) hun, by rw [← pc]; exact hg.2⟩
      -- nw
      · obtain ⟨cs, mk, hn, s⟩ := s
        obtain ⟨b0, hb0⟩ := fin.fresh
        obtain ⟨v, hv, _⟩ := s b0 hb0
        refine ⟨v, yai _ _ _ hv, cs, mk, nap _ _ _ _ hn, fun b hb => ?_⟩
        obtain ⟨v', hv', s⟩ := s b hb
        have e : v' = v := by
          have e1 := yai _ _ _ hv' default
          have e2 := yai _ _ _ hv default
          rw [e1] at e2; simpa using e2
        subst e
        rw [← pc]; exact s
      · obtain ⟨cs, mk, hn, s⟩ := s
        obtain ⟨b0, hb0⟩ := fin.fresh
        obtain ⟨cs', mk', hn', _⟩ := s b0 hb0
        have hn1 := nai _ _ _ _ hn'
        refine ⟨cs', mk', hn1, fun b' hb' => ⟨cs, mk, nap _ _ _ _ hn, fun b hb => ?_⟩⟩
        have hne : b ≠ b' := fun e => by subst e; simp at hb
        have hbh : h b = none := by rwa [Heap.set_ne _ _ hne] at hb
        obtain ⟨cs2, mk2, hn2, s⟩ := s b hbh
        obtain ⟨rfl, rfl⟩ := NA.unique hn1 (nai _ _ _ _ hn2)
        have := s b' (by rw [Heap.set_ne _ _ (Ne.symm hne)]; exact hb')
        rw [← pc, Heap.set_comm _ _ _ (Ne.symm hne)]
        exact this
      -- ef, then alloc
      · cases hoo : oi.op with
        | alloc t =>
          simp only [hoo] at hcl
          have hn : NA P oi a (zc P t) (fun b => .pointer (some ⟨b, 0, none⟩)) := fun w => by
            obtain ⟨z, hz1, hz2, _⟩ := run_zero hcl w
            exact ⟨w.alloc (.cells (zc P t).toArray t), t, by simp [execOp, hoo, Instr.alloc, hz1, newVar, newRow, hz2], rfl, rfl, rfl, rfl⟩
          refine ⟨_, _, hn, fun b hb => ?_⟩
          have fr := s.frame (x := .row (zc P t) (zc P t).length) hb
          refine (SR.congr (ep a _) fr).mono fun u g _ hg => ?_
          obtain ⟨h', ⟨hk, cs', mk', hn', hc⟩, hb', rfl⟩ := hg
          obtain ⟨rfl, rfl⟩ := NA.unique hn (nai _ _ _ _ hn')
          refine ⟨hk.mono_set hfs hb', ?_⟩
          rw [← pc]; exact hc b hb'
        | _ => simp [hoo] at hcl
    · rw [if_neg hwi]
      rw [if_pos hwp] at s
      simp only [hwp, hwi, if_true, if_false, Bool.false_eq_true] at s ⊢
      cases hcp : cls op.op <;> simp only [hcp] at s ⊢
      · obtain ⟨u, hu, s⟩ := s; exact ⟨u, yap _ _ _ hu, by rw [← pc]; exact s⟩
      · obtain ⟨u, f, hu, hm, hf, s⟩ := s; exact ⟨u, f, ylp _ _ _ _ hu, hm, hf, by rw [← pc]; exact s⟩
      · obtain ⟨cs, mk, hn, s⟩ := s; exact ⟨cs, mk, nap _ _ _ _ hn, fun b hb => by rw [← pc]; exact s b hb⟩
      · exact (SR.congr (ep a _) s).mono fun v g _ hg => ⟨hg.1, by rw [← pc]; exact hg.2⟩
  · rw [if_neg hwp] at s
    by_cases hwi : Region.wanted oi (yielded ops a.tmps) = true
    · rw [if_pos hwi] at s ⊢
      simp only [hwp, if_false, Bool.false_eq_true] at s ⊢
      cases hci : cls oi.op <;> simp only [hci] at s ⊢
      · obtain ⟨u, hu, s⟩ := s; exact ⟨u, yai _ _ _ hu, by rw [← pc]; exact s⟩
      · obtain ⟨u, f, hu, hm, hf, s⟩ := s; exact ⟨u, f, yli _ _ _ _ hu, hm, hf, by rw [← pc]; exact s⟩
      · obtain ⟨cs, mk, hn, s⟩ := s; exact ⟨cs, mk, nai _ _ _ _ hn, fun b hb => by rw [← pc]; exact s b hb⟩
      · exact (SR.congr (ei a _).symm s).mono fun v g _ hg => ⟨hg.1, by rw [← pc]; exact hg.2⟩
    · rw [if_neg hwi] at s ⊢
      simp only [hwp, if_false, Bool.false_eq_true] at s ⊢
      rw [← pc]; exact s

/-- An operation that all before it may let pass. -/
theorem DS.bring {K : Act → Pr} {i : Nat} {oi : Oper} (hoi : ops[i]? = some oi) (hsel : Region.noSelect ops = true) (post : List Nat) :
    ∀ (pre : List Nat) (fs : Facts) (a : Act) (h : Heap), (∀ p ∈ pre, ∃ op, ops[p]? = some op ∧ mayPass P ops op oi = true ∧ (ms.getD i 0).testBit p = false) → Fin h → (∀ y ∈ fs, MonoF y.2) →
      DS P KP ops ms K (pre ++ i :: post) a fs h → Front P KP ops ms i fs a (DS P KP ops ms K (pre ++ post)) h
  | [], _, _, _, _, _, _, s => s
  | p :: pre, fs, a, h, hp, fin, hfs, s => by
    obtain ⟨op, hop, hpass, hun⟩ := hp p (List.mem_cons_self ..)
    have s1 : Front P KP ops ms p fs a (fun a1 fs1 => Front P KP ops ms i fs1 a1 (DS P KP ops ms K (pre ++ post))) h :=
      Front.mono fin s fun a' fs' h' hx fin' s' => DS.bring hoi hsel post pre fs' a' h' (fun q hq => hp q (List.mem_cons_of_mem _ hq)) fin' (fun y hy => (hx y hy).elim (fun hm => hfs y hm) id) s'
    exact Front.swap hop hoi hsel hpass hun fin hfs (fun a g g' h hs s => DS.facts _ a g g' h hs s) s1


/- From the generator to 'DS'. -/
theorem cell_mono {h : Heap} {b : Nat} {x : Blk} (hb : h b = none) {a : Addr} {v : Value} (hc : h.cell a = some v) : (h.set b x).cell a = some v := by
  unfold Heap.cell at *
  cases hs : a.spot with
  | some _ => simp [hs] at hc
  | none =>
    simp only [hs] at hc ⊢
    have hne : a.block ≠ b := fun e => by rw [e, hb] at hc; simp at hc
    rw [Heap.set_ne _ _ hne]; exact hc

theorem vals_mono {h : Heap} {b : Nat} {x : Blk} (hb : h b = none) {a : Addr} {n : Nat} {xs : List Value} (hc : h.vals a n = some xs) : (h.set b x).vals a n = some xs := by
  unfold Heap.vals at *
  cases hs : a.spot with
  | some _ => simp [hs] at hc
  | none =>
    simp only [hs] at hc ⊢
    have hne : a.block ≠ b := fun e => by rw [e, hb] at hc; simp at hc
    rw [Heap.set_ne _ _ hne]; exact hc

theorem loadF_mono (t : TypeId) (va v : Value) : MonoF (loadF P t va v) := fun h b x hb hf => by
  unfold loadF at *
  cases va <;> try exact hf.elim
  rename_i a
  cases a with
  | none => exact hf.elim
  | some a =>
    simp only at hf ⊢
    cases hu : P.underlying t with
    | none => simp [hu] at hf
    | some d =>
      simp only [hu] at hf ⊢
      cases hd : shapeD d <;> simp only [hd] at hf ⊢ <;> first
        | exact cell_mono hb hf
        | (obtain ⟨cs, hc, e⟩ := hf; exact ⟨cs, vals_mono hb hc, e⟩)

theorem keepF_kept {i : Nat} {p : Pr} {h : Heap} : ∀ {fs : Facts}, keepF ms i fs p h → KeptF ms i fs h ∧ p h
  | [], s => ⟨fun _ hx _ => (by cases hx), s⟩
  | (j, f) :: r, s => by
    unfold keepF at s
    cases hb : (ms.getD i 0).testBit j with
    | true =>
      simp only [hb] at s
      obtain ⟨h1, h2⟩ := keepF_kept s
      refine ⟨fun jf hx hbit => ?_, h2⟩
      rcases List.mem_cons.1 hx with rfl | hx
      · rw [hb] at hbit; cases hbit
      · exact h1 jf hx hbit
    | false =>
      simp only [hb] at s
      obtain ⟨h1, h2⟩ := keepF_kept s.2
      refine ⟨fun jf hx hbit => ?_, h2⟩
      rcases List.mem_cons.1 hx with rfl | hx
      · exact s.1
      · exact h1 jf hx hbit

theorem draw_DS {K : Env → Pr} {env0 : Env} : ∀ (l : List Nat) (fs : Facts) (env : Env) (h : Heap) (a : Act), vcDraw P KP ops ms l fs env K h → EnvOk env a → Keep (opDsts ops.toList) env0 env →
    DS P KP ops ms (fun a' h' => ∃ env', EnvOk env' a' ∧ Keep (opDsts ops.toList) env0 env' ∧ K env' h') l a fs h
  | [], fs, env, h, a, s, ok, kp => ⟨env, ok, kp, s⟩
  | i :: r, fs, env, h, a, s, ok, kp => by
    simp only [vcDraw] at s
    simp only [DS, Front]
    cases ho : ops[i]? with
    | none => simp only [ho] at s; exact s.elim
    | some o =>
      simp only [ho] at s ⊢
      obtain ⟨env2, ok2, kp2, s⟩ := step_cases s ok
      have hmem : ∀ d, o.dst = some d → d ∈ opDsts ops.toList := fun d hd => mem_opDsts_get ho hd
      have nxtE : ∀ fs (x : EV) v h, x.get = some v → vcDraw P KP ops ms r fs (putE env2 o.dst x) K h → DS P KP ops ms (fun a' h' => ∃ env', EnvOk env' a' ∧ Keep (opDsts ops.toList) env0 env' ∧ K env' h') r (a.put o.dst v) fs h :=
        fun fs x v h hx s => draw_DS r fs _ h _ s (ok2.putEV _ hx) ((kp.trans kp2).trans (keep_put _ _ _ hmem))
      have nxt : ∀ fs v h, vcDraw P KP ops ms r fs (putE env2 o.dst (.val v)) K h → DS P KP ops ms (fun a' h' => ∃ env', EnvOk env' a' ∧ Keep (opDsts ops.toList) env0 env' ∧ K env' h') r (a.put o.dst v) fs h :=
        fun fs v h s => draw_DS r fs _ h _ s (ok2.put _ _) ((kp.trans kp2).trans (keep_put _ _ _ hmem))
      rcases s with ⟨hw, s⟩ | ⟨hw, s⟩
      · rw [if_pos hw]
        cases hc : cls o.op <;> simp only [hc] at s ⊢
        · obtain ⟨v, hy, x, hx, s⟩ := opE_pv hc s
          exact ⟨v, fun w => hy a.eval w ok2.fits, nxtE _ _ _ _ hx s⟩
        · cases hoo : o.op <;> simp only [hoo] at s <;> first | exact s.elim | skip
          rename_i t x
          obtain ⟨va, hva, s⟩ := gv_some s
          obtain ⟨v, hy, hf, s⟩ := sem_load (P := P) hoo hva s
          exact ⟨v, loadF P t va v, fun h w hf r => hy h a.eval w hf ok2.fits r, loadF_mono t va v, hf, nxt _ _ _ s⟩
        · obtain ⟨cs, mk, hn, s⟩ := vcOp_nw hc (opE_not (by rw [hc]; simp) s)
          exact ⟨cs, mk, fun w => hn a.eval w ok2.fits, fun b hb => nxt _ _ _ (s b hb)⟩
        · have se := vcOp_ef s
          refine SR.mono (fun w r => se a.eval w ok2.fits r) fun v g _ hg => ?_
          obtain ⟨h1, h2⟩ := keepF_kept hg
          exact ⟨h1, nxt _ _ _ h2⟩
      · rw [if_neg (by rw [hw]; simp)]
        exact draw_DS r fs _ h _ s (ok2.putUn _) ((kp.trans kp2).trans (keep_put _ _ _ hmem))

/- The masks. -/
theorem foldl_bit (acc : List Nat) (x : Nat) : ∀ (l : List Edge) (s : Nat), (l.foldl (fun s e => if Region.binds .any e then s ||| (2 ^ e.on) ||| acc.getD e.on 0 else s) s).testBit x = true →
    s.testBit x = true ∨ ∃ e ∈ l, Region.binds .any e = true ∧ (e.on = x ∨ (acc.getD e.on 0).testBit x = true)
  | [], s, h => .inl h
  | e :: l, s, h => by
    simp only [List.foldl_cons] at h
    rcases foldl_bit acc x l _ h with h1 | ⟨e', hm, h1⟩
    · by_cases hb : Region.binds .any e = true
      · rw [if_pos hb] at h1
        simp only [Nat.testBit_or, Nat.testBit_two_pow, Bool.or_eq_true, decide_eq_true_eq] at h1
        rcases h1 with (h1 | h1) | h1
        · exact .inl h1
        · exact .inr ⟨e, List.mem_cons_self .., hb, .inl h1⟩
        · exact .inr ⟨e, List.mem_cons_self .., hb, .inr h1⟩
      · rw [if_neg hb] at h1; exact .inl h1
    · exact .inr ⟨e', List.mem_cons_of_mem _ hm, h1⟩

theorem masks_acc : ∀ (l : List Oper) (acc : List Nat) (q : Nat), q < acc.length → (masks l acc).getD q 0 = acc.getD q 0
  | [], acc, q, _ => rfl
  | o :: r, acc, q, h => by
    rw [masks, masks_acc r _ q (by simp; omega)]
    simp [List.getD_eq_getElem?_getD, List.getElem?_append_left h]

theorem masks_at : ∀ (l : List Oper) (acc : List Nat) (y : Nat) (o : Oper), l[y]? = some o → ∃ acc', acc'.length = acc.length + y ∧ (∀ q, q < acc'.length → (masks l acc).getD q 0 = acc'.getD q 0) ∧ (masks l acc).getD (acc.length + y) 0 = maskOf acc' o
  | [], acc, y, o, h => by simp at h
  | o' :: r, acc, 0, o, h => by
    simp at h; subst h
    refine ⟨acc, rfl, fun q hq => masks_acc _ _ _ hq, ?_⟩
    rw [masks, masks_acc r _ _ (by simp)]
    simp [List.getD_eq_getElem?_getD]
  | o' :: r, acc, y + 1, o, h => by
    obtain ⟨acc', h1, h2, h3⟩ := masks_at r (acc ++ [maskOf acc o']) y o (by simpa using h)
    refine ⟨acc', by simp at h1; omega, fun q hq => h2 q hq, ?_⟩
    rw [masks]
    simp only [List.length_append, List.length_cons, List.length_nil] at h3
    rw [show acc.length + (y + 1) = acc.length + (0 + 1) + y by omega]
    exact h3

theorem masks_spec {y x : Nat} {o : Oper} (ho : ops[y]? = some o) (h : ((masks ops.toList []).getD y 0).testBit x = true) :
    ∃ e ∈ o.after, Region.binds .any e = true ∧ (e.on = x ∨ (e.on < y ∧ ((masks ops.toList []).getD e.on 0).testBit x = true)) := by
  obtain ⟨acc', h1, h2, h3⟩ := masks_at ops.toList [] y o (by rw [Array.getElem?_toList]; exact ho)
  simp only [List.length_nil, Nat.zero_add] at h1 h3
  rw [h3] at h
  rcases foldl_bit acc' x _ 0 h with h | ⟨e, hm, hb, h⟩
  · simp at h
  · refine ⟨e, Array.mem_toList_iff.1 hm, hb, h.imp id fun h => ?_⟩
    have hlt : e.on < acc'.length := by
      rcases Nat.lt_or_ge e.on acc'.length with k | k
      · exact k
      · simp [List.getD_eq_getElem?_getD, List.getElem?_eq_none k] at h
    exact ⟨by omega, by rw [h2 _ hlt]; exact h⟩

/-- What is carried out is closed: whatever an operation comes behind has been. -/
def Closed (ops : Array Oper) (listed : Array Bool) : Prop := ∀ q o, ops[q]? = some o → listed.getD q false = true → ∀ e ∈ o.after, Region.binds .any e = true → listed.getD e.on false = true

theorem closed_mask {listed : Array Bool} (hc : Closed ops listed) : ∀ (n y x : Nat) (o : Oper), y < n → ops[y]? = some o → (∀ e ∈ o.after, Region.binds .any e = true → listed.getD e.on false = true) →
    ((masks ops.toList []).getD y 0).testBit x = true → listed.getD x false = true
  | 0, y, _, _, h, _, _, _ => by omega
  | n + 1, y, x, o, hy, ho, hr, hb => by
    obtain ⟨e, he, hbind, hx⟩ := masks_spec ho hb
    have h1 := hr e he hbind
    rcases hx with rfl | ⟨hlt, hx⟩
    · exact h1
    · cases hoe : ops[e.on]? with
      | none =>
        have hge : ops.size ≤ e.on := by
          rcases Nat.lt_or_ge e.on ops.size with k | k
          · simp [k] at hoe
          · exact k
        exfalso
        have hy' : y < ops.size := (Array.getElem?_eq_some_iff.1 ho).1
        omega
      | some oe => exact closed_mask hc n e.on x oe (by omega) hoe (fun e' he' hb' => hc e.on oe hoe h1 e' he' hb') hx

structure Good (P : Program) (ops : Array Oper) (ms : List Nat) (rem : List Nat) : Prop where
  pass : rem.Pairwise fun x y => (ms.getD y 0).testBit x = true ∨ ∃ ox oy, ops[x]? = some ox ∧ ops[y]? = some oy ∧ mayPass P ops ox oy = true
  pred : rem.Pairwise fun x y => isPred ops x y = false
  nodup : rem.Nodup
  own : ∀ x ∈ rem, isPred ops x x = false

theorem Good.of_ord : ∀ {l : List Nat}, ordOk P ops ms l = true → Good P ops ms l
  | [], _ => ⟨.nil, .nil, .nil, fun _ h => by cases h⟩
  | i :: r, h => by
    simp only [ordOk, Bool.and_eq_true] at h
    obtain ⟨⟨⟨h1, h2⟩, h3⟩, h4⟩ := h
    have g := Good.of_ord h4
    refine ⟨List.pairwise_cons.2 ⟨fun y hy => ?_, g.pass⟩, List.pairwise_cons.2 ⟨fun y hy => ?_, g.pred⟩, List.nodup_cons.2 ⟨?_, g.nodup⟩, fun x hx => ?_⟩
    · unfold passAll at h1
      have := List.all_eq_true.1 h1 y hy
      simp only [Bool.or_eq_true] at this
      rcases this with h | h
      · exact .inl h
      · right
        cases hi : ops[i]? with
        | none => simp [hi] at h
        | some ox =>
          cases hy' : ops[y]? with
          | none => simp [hi, hy'] at h
          | some oy => simp only [hi, hy'] at h; exact ⟨ox, oy, rfl, rfl, h⟩
    · have := List.all_eq_true.1 h2 y (List.mem_cons_of_mem _ hy)
      simpa using this
    · simpa using h3
    · rcases List.mem_cons.1 hx with rfl | hx
      · have := List.all_eq_true.1 h2 x (List.mem_cons_self ..)
        simpa using this
      · exact g.own x hx

theorem Good.sub {l l' : List Nat} (g : Good P ops ms l) (s : l'.Sublist l) : Good P ops ms l' := ⟨g.pass.sublist s, g.pred.sublist s, g.nodup.sublist s, fun x hx => g.own x (s.subset hx)⟩

/-- One step of the model's, then C. -/
theorem front_wp {i : Nat} {fs : Facts} {a : Act} {h h0 : Heap} {w w0 : World} {C : Act → Facts → Pr} {Q : Exit → Act → World → Prop} {next : Act → World → Prop} (s : Front P KP ops ms i fs a C h) (r : R h w) (f : Fr h0 w0 h w)
    (hn : ∀ v fs' h' w', (∀ x ∈ fs', x ∈ fs ∨ MonoF x.2) → C (a.put ((ops[i]?).bind (·.dst)) v) fs' h' → R h' w' → Fr h0 w0 h' w' → next (a.put ((ops[i]?).bind (·.dst)) v) w')
    (hx : ∀ p w' h', p.recovered = false → p.goexit = false → KP p.v h' → R h' w' → Fr h0 w0 h' w' → Q (.panic [p]) a w') : wpOp P ops Q i next a w := by
  unfold wpOp
  unfold Front at s
  cases ho : ops[i]? with
  | none => simp only [ho] at s
  | some o =>
    simp only [ho, Option.bind_some] at s hn ⊢
    by_cases hw : Region.wanted o (yielded ops a.tmps) = true
    · rw [if_pos hw] at s ⊢
      left
      have fin : ∀ (k : Value → Pr), SR P KP o a k h → (∀ v h' w', k v h' → R h' w' → Fr h0 w0 h' w' → next (a.put o.dst v) w') → o.wp P a w next Q := fun k s hk =>
        opTo_wp (s w r) (fun v w' ⟨h', kk, r', f'⟩ => hk v h' w' kk r' (f.trans f')) (fun p w' h1 h2 ⟨h', kk, r', f'⟩ => hx p w' h' h1 h2 kk r' (f.trans f'))
      cases hc : cls o.op <;> simp only [hc] at s
      · obtain ⟨v, hy, s⟩ := s
        refine fin (fun v => C (a.put o.dst v) fs) (fun w r => ?_) (fun v h' w' k r' f' => hn v fs h' w' (fun x hx => .inl hx) k r' f')
        simp only [OpTo, hy w]
        exact .here r s
      · obtain ⟨v, g, hy, hm, hf, s⟩ := s
        refine fin (fun v => C (a.put o.dst v) ((i, g) :: fs)) (fun w r => ?_) (fun v h' w' k r' f' => hn v _ h' w' (fun x hx => by rcases List.mem_cons.1 hx with rfl | hx; exact .inr hm; exact .inl hx) k r' f')
        simp only [OpTo, hy h w hf r]
        exact .here r s
      · obtain ⟨cs, mk, hna, s⟩ := s
        refine fin (fun v => C (a.put o.dst v) fs) (fun w r => ?_) (fun v h' w' k r' f' => hn v fs h' w' (fun x hx => .inl hx) k r' f')
        obtain ⟨w', ty, hr, hwp, hos, ht, hu⟩ := hna w
        simp only [OpTo, hr]
        have nb := new_block r (cs := cs) (sp := []) (ty := ty) (fr := (0, 0)) (by simpa using hwp) hos ht hu (calm0 _)
        simp only [List.append_nil] at nb
        exact ⟨_, s _ r.fresh, nb.1, nb.2⟩
      · exact fin _ s (fun v h' w' k r' f' => hn v fs h' w' (fun x hx => .inl hx) k.2 r' f')
    · rw [if_neg hw] at s
      have hw' : Region.wanted o (yielded ops a.tmps) = false := by simpa using hw
      rw [hw']
      simp only [Bool.false_eq_true, if_false]
      exact hn undef fs h w (fun x hx => .inl hx) s r f

theorem split_mem : ∀ {l : List Nat} {i : Nat}, i ∈ l → ∃ pre post, l = pre ++ i :: post
  | x :: l, i, h => by
    by_cases e : x = i
    · subst e; exact ⟨[], l, rfl⟩
    · rcases List.mem_cons.1 h with h | h
      · exact absurd h.symm e
      · obtain ⟨pre, post, rfl⟩ := split_mem h; exact ⟨x :: pre, post, rfl⟩

theorem draw_any {K : Act → Pr} {h0 : Heap} {w0 : World} {Q : Exit → Act → World → Prop} (hsel : Region.noSelect ops = true)
    (hms : ms = masks ops.toList []) (hQ : ∀ a h w, a.defers = [] → K a h → R h w → Fr h0 w0 h w → Q .normal a w)
    (hX : ∀ a p w h, a.defers = [] → p.recovered = false → p.goexit = false → KP p.v h → R h w → Fr h0 w0 h w → Q (.panic [p]) a w) :
    ∀ (n : Nat) (rem : List Nat) (fs : Facts) (a : Act) (h : Heap) (w : World) (listed : Array Bool), rem.length = n → Good P ops ms rem → (∀ j ∈ rem, ∃ o, ops[j]? = some o ∧ ∀ e ∈ o.after, Region.binds .any e = true → e.on < ops.size) →
      (∀ j, j < ops.size → (listed.getD j true = false ↔ j ∈ rem)) → listed.size = ops.size → Closed ops listed → (∀ y ∈ fs, MonoF y.2) → a.defers = [] → DS P KP ops ms K rem a fs h → R h w → Fr h0 w0 h w →
      wpAny P .any ops Q n listed a w
  | 0, rem, fs, a, h, w, listed, hlen, g, hin, hl, hsz, hcl, hfs, hd, s, r, f => by
    have e : rem = [] := List.length_eq_zero_iff.1 hlen
    subst e
    refine ⟨?_, hQ a h w hd s r f⟩
    cases hr : Region.ready .any ops listed with
    | nil => rfl
    | cons j l =>
      have hj : j ∈ Region.ready .any ops listed := by rw [hr]; exact List.mem_cons_self ..
      obtain ⟨h1, o, ho, _⟩ := mem_ready.1 hj
      have := (hl j (Array.getElem?_eq_some_iff.1 ho).1).1 h1
      cases this
  | n + 1, rem, fs, a, h, w, listed, hlen, g, hin, hl, hsz, hcl, hfs, hd, s, r, f => by
    have listed_of : ∀ j, j < ops.size → j ∉ rem → listed.getD j false = true := fun j hj hn => by
      have h1 : ¬ listed.getD j true = false := fun e => hn ((hl j hj).1 e)
      have hlt : j < listed.size := by omega
      simp [hlt] at h1 ⊢
      exact h1
    refine ⟨fun hr => ?_, fun i hi => ?_⟩
    · exfalso
      cases rem with
      | nil => simp at hlen
      | cons x rest =>
        obtain ⟨o, ho, hoin⟩ := hin x (List.mem_cons_self ..)
        have hx : x ∈ Region.ready .any ops listed := by
          refine mem_ready.2 ⟨(hl x (Array.getElem?_eq_some_iff.1 ho).1).2 (List.mem_cons_self ..), o, ho, fun e he hb => ?_⟩
          refine listed_of e.on (hoin e he hb) fun hm => ?_
          rcases List.mem_cons.1 hm with hm | hm
          · -- an operation behind itself: it would never be ready; here it is in its own mask
            have hp : isPred ops x x = true := by
              unfold isPred; rw [ho]
              exact List.any_eq_true.2 ⟨e, Array.mem_toList_iff.2 he, by simp [hb, hm]⟩
            rw [g.own x (List.mem_cons_self ..)] at hp; cases hp
          · have hp : isPred ops x e.on = true := by
              unfold isPred; rw [ho]
              exact List.any_eq_true.2 ⟨e, Array.mem_toList_iff.2 he, by simp [hb]⟩
            have := (List.pairwise_cons.1 g.pred).1 e.on hm
            rw [hp] at this; cases this
        rw [hr] at hx; cases hx
    · obtain ⟨hun, oi, hoi, hpreds⟩ := mem_ready.1 hi
      have hisz : i < ops.size := (Array.getElem?_eq_some_iff.1 hoi).1
      have hmem := (hl i hisz).1 hun
      obtain ⟨pre, post, rfl⟩ := split_mem hmem
      have hps : ∀ p ∈ pre, ∃ op, ops[p]? = some op ∧ mayPass P ops op oi = true ∧ (ms.getD i 0).testBit p = false := fun p hp => by
        have hpw := (List.pairwise_append.1 g.pass).2.2 p hp i (List.mem_cons_self ..)
        have hnb : (ms.getD i 0).testBit p = false := by
          cases hb : (ms.getD i 0).testBit p with
          | false => rfl
          | true =>
            exfalso
            rw [hms] at hb
            have hlp := closed_mask hcl _ i p oi (Nat.lt_succ_self _) hoi hpreds hb
            obtain ⟨op, hop, _⟩ := hin p (List.mem_append_left _ hp)
            have hps : p < ops.size := (Array.getElem?_eq_some_iff.1 hop).1
            have hq := (hl p hps).2 (List.mem_append_left _ hp)
            have hlt : p < listed.size := by omega
            simp [hlt] at hlp hq
            rw [hlp] at hq; cases hq
        rcases hpw with hpw | ⟨ox, oy, h1, h2, h3⟩
        · rw [hnb] at hpw; cases hpw
        · rw [hoi] at h2; cases h2; exact ⟨ox, h1, h3, hnb⟩
      have fr := DS.bring (P := P) (KP := KP) hoi hsel post pre fs a h hps (Fin.of_R r) hfs s
      have hsub : (pre ++ post).Sublist (pre ++ i :: post) := List.Sublist.append_left (List.sublist_cons_self _ _) _
      have hni : i ∉ pre ++ post := by
        have := g.nodup
        rw [List.nodup_append] at this
        obtain ⟨_, h2, h3⟩ := this
        intro hm
        rcases List.mem_append.1 hm with hm | hm
        · exact h3 i hm i (List.mem_cons_self ..) rfl
        · exact (List.nodup_cons.1 h2).1 hm
      refine front_wp fr r f (fun v fs' h' w' hx k r' f' => ?_) (fun p w' h' h1 h2 k r' f' => hX a p w' h' hd h1 h2 k r' f')
      refine draw_any hsel hms hQ hX n (pre ++ post) fs' _ h' w' (listed.setIfInBounds i true) (by simp at hlen ⊢; omega) (g.sub hsub) (fun j hj => hin j (hsub.subset hj)) (fun j hj => ?_) (by simpa using hsz) (fun q o ho hq e he hb => ?_)
        (fun y hy => (hx y hy).elim (fun hm => hfs y hm) id) ?_ k r' f'
      · by_cases hij : i = j
        · subst hij
          have hlt : i < listed.size := by omega
          simp [hlt]
          exact ⟨fun h => hni (List.mem_append_left _ h), fun h => hni (List.mem_append_right _ h)⟩
        · rw [getD_set_ne true hij, hl j hj]
          simp only [List.mem_append, List.mem_cons]
          constructor
          · rintro (h | h | h)
            · exact .inl h
            · exact absurd h.symm hij
            · exact .inr h
          · rintro (h | h)
            · exact .inl h
            · exact .inr (.inr h)
      · by_cases hiq : i = q
        · subst hiq
          rw [hoi] at ho; cases ho
          exact getD_set_true (hpreds e he hb)
        · rw [getD_set_ne false hiq] at hq
          exact getD_set_true (hcl q o ho hq e he hb)
      · cases (ops[i]?).bind (·.dst) <;> exact hd

end
theorem draw_sound {P : Program} {KP : Value → Pr} {ops : Array Oper} {K : Env → Pr} {h0 : Heap} {w0 : World} {env : Env} {h : Heap} {l : List Nat} {id : Nat} {a : Act} {w : World} (hm : P.follows .mixedOrders = true)
    (hd : drawOk P ops l = true) (s : vcDraw P KP ops (masks ops.toList []) l [] env K h) (ok : EnvOk env a) (r : R h w) (f : Fr h0 w0 h w) :
    (Code.region id ops true).wp P (RPost h0 w0 (opDsts ops.toList) env K KP) a w := by
  unfold drawOk at hd
  simp only [Bool.and_eq_true] at hd
  obtain ⟨⟨⟨hsel, hall⟩, hpi⟩, hord⟩ := hd
  have g := Good.of_ord (P := P) hord
  have mem : ∀ j, j < ops.size → j ∈ l := fun j hj => by
    have := List.all_eq_true.1 hall j (List.mem_range.2 hj)
    simpa using this
  have hin : ∀ j ∈ l, ∃ o, ops[j]? = some o ∧ ∀ e ∈ o.after, Region.binds .any e = true → e.on ∈ l := fun j hj => by
    have := List.all_eq_true.1 hpi j hj
    cases ho : ops[j]? with
    | none => simp [ho] at this
    | some o =>
      simp only [ho] at this
      refine ⟨o, rfl, fun e he hb => ?_⟩
      have := List.all_eq_true.1 this e (Array.mem_toList_iff.2 he)
      simpa [hb] using this
  have hsize : ∀ j ∈ l, j < ops.size := fun j hj => by obtain ⟨o, ho, _⟩ := hin j hj; exact (Array.getElem?_eq_some_iff.1 ho).1
  have hlen : l.length = ops.size := by
    have h1 : l.length ≤ (List.range ops.size).length := List.Nodup.length_le_of_subset g.nodup (fun j hj => List.mem_range.2 (hsize j hj))
    have h2 : (List.range ops.size).length ≤ l.length := List.Nodup.length_le_of_subset List.nodup_range (fun j hj => mem j (List.mem_range.1 hj))
    simp at h1 h2; omega
  have ds := draw_DS (P := P) (KP := KP) l [] env h a s ok (Keep.refl _ env)
  refine wp_region_any hm ?_
  rw [← hlen]
  refine draw_any (h0 := h0) (w0 := w0) hsel rfl (fun a h w hd k r f => ?_) (fun a p w h hd h1 h2 k r f => ⟨hd, h1, h2, h, k, r, f⟩) l.length l [] a h _ _ rfl g
    (fun j hj => by obtain ⟨o, ho, he⟩ := hin j hj; exact ⟨o, ho, fun e hm hb => hsize _ (he e hm hb)⟩) (fun j hj => ?_) (by simp [hlen]) (fun q o ho hq => ?_) (fun y hy => by cases hy) ok.defs ds (r.of_heap rfl) (f.trans (Fr.of_heap rfl rfl rfl rfl))
  · obtain ⟨env', ok', kp', hk⟩ := k
    exact ⟨env', ok', kp', h, hk, r, f⟩
  · rw [← hlen] at hj
    simp [hj]
    exact mem j (by omega)
  · simp only [Array.getD_eq_getD_getElem?, Array.getElem?_replicate] at hq
    split at hq <;> simp at hq

end Go.Hl
