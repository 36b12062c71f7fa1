/- The heap logic: what 'vcOp' says is true of the model's operation: the four classes P (values alone), L (a load), A (a new block), E (whatever else). -/
import Derived.Test.YtgheplpbffanoaaHl3
import Derived.Laws.StructEq
import Derived.Laws.Append
import Derived.Laws.Small
namespace Go.Hl

def Fits (e : Operand → EV) (ρ : Operand → Value) : Prop := ∀ x v, (e x).get = some v → ρ x = v

def OpTo (P : Program) (o : Oper) (ρ : Operand → Value) (w : World) (N X : Value → World → Prop) : Prop :=
  match (execOp ρ o).run P w with
  | .ok (.value v) w' => N v w'
  | .ok .skip w' => N undef w'
  | .ok (.enter f args) w' => Calls P f args w' fun e w'' => match e with
    | .returned v => N v w''
    | .panicked [p] => p.recovered = false ∧ p.goexit = false ∧ X p.v w''
    | _ => False
  | .halt (.panic v) w' => X v w'
  | _ => False

/-- In every world of which h is true. -/
def SemE (P : Program) (o : Oper) (e : Operand → EV) (KP k : Value → Pr) : Pr := fun h =>
  ∀ ρ w, Fits e ρ → R h w → OpTo P o ρ w (fun v w' => Ends h w (k v) w') (fun v w' => Ends h w (KP v) w')

def Yld (P : Program) (o : Oper) (e : Operand → EV) (v : Value) : Prop := ∀ ρ w, Fits e ρ → (execOp ρ o).run P w = .ok (.value v) w
def SemP (P : Program) (o : Oper) (e : Operand → EV) (k : Value → Pr) : Pr := fun h => ∃ v, Yld P o e v ∧ k v h

/-- What a load has read is there. -/
def loadF (P : Program) (t : TypeId) (va v : Value) : Pr := fun h =>
  match va with
  | .pointer (some a) => match P.underlying t with
    | some d => match shapeD d with
      | .agg => ∃ cs, h.vals a (sizeP P t) = some cs ∧ v = .agg cs.toArray
      | _ => h.cell a = some v
    | none => False
  | _ => False

def YldL (P : Program) (o : Oper) (e : Operand → EV) (f : Pr) (v : Value) : Prop := ∀ h ρ w, f h → Fits e ρ → R h w → (execOp ρ o).run P w = .ok (.value v) w
def SemL (P : Program) (o : Oper) (e : Operand → EV) (f : Value → Pr) (k : Value → Pr) : Pr := fun h => ∃ v, YldL P o e (f v) v ∧ f v h ∧ k v h

/-- The operation lays a new block. -/
def News (P : Program) (o : Oper) (e : Operand → EV) (cs : List Value) (mk : Nat → Value) : Prop :=
  ∀ ρ w, Fits e ρ → ∃ w' ty, (execOp ρ o).run P w = .ok (.value (mk w.heap.size)) w' ∧ w'.heap = w.heap.push (.cells cs.toArray ty (0, 0)) ∧ w'.os = w.os ∧ w'.tape = w.tape ∧ w'.output = w.output
def SemA (P : Program) (o : Oper) (e : Operand → EV) (k : Value → Pr) : Pr := fun h =>
  ∃ cs mk, News P o e cs mk ∧ ∀ b, h b = none → k (mk b) (h.set b (.row cs cs.length))

section
variable {P : Program} {o : Oper} {e : Operand → EV} {KP k : Value → Pr} {h : Heap}

theorem SemP.toE (s : SemP P o e k h) : SemE P o e KP k h := fun ρ w hf r => by
  obtain ⟨v, hy, hk⟩ := s
  simp only [OpTo, hy ρ w hf]
  exact .here r hk

theorem SemL.toE {f : Value → Pr} (s : SemL P o e f k h) : SemE P o e KP k h := fun ρ w hf r => by
  obtain ⟨v, hy, hfv, hk⟩ := s
  simp only [OpTo, hy h ρ w hfv hf r]
  exact .here r hk

theorem calm0 (n : Nat) : Calm n (0, 0) := .inl (Nat.le_refl _)

theorem SemA.toE (s : SemA P o e k h) : SemE P o e KP k h := fun ρ w hf r => by
  obtain ⟨cs, mk, hn, hk⟩ := s
  obtain ⟨w', ty, hr, hw, ho, ht, hu⟩ := hn ρ w hf
  simp only [OpTo, hr]
  have nb := new_block r (cs := cs) (sp := []) (ty := ty) (fr := (0, 0)) (by simpa using hw) ho ht hu (calm0 _)
  simp only [List.append_nil] at nb
  exact ⟨_, hk _ r.fresh, nb.1, nb.2⟩

theorem SemE.mono {KP' k' : Value → Pr} (s : SemE P o e KP k h) (m : ∀ v g, k v g → k' v g) (mp : ∀ v g, KP v g → KP' v g) : SemE P o e KP' k' h := fun ρ w hf r => by
  have := s ρ w hf r
  unfold OpTo at *
  generalize (execOp ρ o).run P w = res at *
  cases res with
  | ok n w' =>
    cases n <;> simp only at this ⊢ <;> first
      | exact this.mono (m _)
      | (refine this.mono fun en w'' he => ?_
         cases en with
         | returned v => exact he.mono (m v)
         | panicked ch => cases ch with
           | nil => exact he
           | cons p t => cases t with
             | nil => exact ⟨he.1, he.2.1, he.2.2.mono (mp _)⟩
             | cons _ _ => exact he
         | outgrown => exact he)
  | halt x w' => cases x <;> simp only at this ⊢ <;> exact this.mono (mp _)

/-- The frame rule of an operation. -/
theorem SemE.frame {b : Nat} {x : Blk} (s : SemE P o e KP k h) (hb : h b = none) :
    SemE P o e (fun v g => ∃ h', KP v h' ∧ h' b = none ∧ g = h'.set b x) (fun v g => ∃ h', k v h' ∧ h' b = none ∧ g = h'.set b x) (h.set b x) := fun ρ w hf r => by
  have := s ρ w hf (r.mono (Heap.le_set_new (Heap.le_refl h) hb x))
  unfold OpTo at *
  generalize (execOp ρ o).run P w = res at *
  cases res with
  | ok n w' =>
    cases n <;> simp only at this ⊢ <;> first
      | exact this.frame r hb
      | (refine this.mono fun en w'' he => ?_
         cases en with
         | returned v => exact he.frame r hb
         | panicked ch => cases ch with
           | nil => exact he
           | cons p t => cases t with
             | nil => exact ⟨he.1, he.2.1, he.2.2.frame r hb⟩
             | cons _ _ => exact he
         | outgrown => exact he)
  | halt x w' => cases x <;> simp only at this ⊢ <;> exact this.frame r hb

theorem gv_some {x : EV} {k : Value → Pr} (s : gv x k h) : ∃ v, x.get = some v ∧ k v h := by
  unfold gv at s
  cases hx : x.get with
  | none => simp [hx] at s; exact s.elim
  | some v => simp [hx] at s; exact ⟨v, rfl, s⟩

theorem gvs_some : ∀ {l : List EV} {k : List Value → Pr}, gvs l k h → ∃ vs, l.map EV.get = vs.map some ∧ k vs h
  | [], k, s => ⟨[], rfl, s⟩
  | x :: r, k, s => by
    obtain ⟨v, hv, s⟩ := gv_some s
    obtain ⟨vs, hvs, s⟩ := gvs_some s
    exact ⟨v :: vs, by simp [hv, hvs], s⟩

theorem fits_map {ρ : Operand → Value} (hf : Fits e ρ) : ∀ (l : List Operand) (vs : List Value), (l.map e).map EV.get = vs.map some → l.map ρ = vs
  | [], [], _ => rfl
  | [], _ :: _, hh => by simp at hh
  | _ :: _, [], hh => by simp at hh
  | x :: l, v :: vs, hh => by
    simp only [List.map_cons, List.cons.injEq] at hh
    simp only [List.map_cons]
    rw [hf x v hh.1, fits_map hf l vs hh.2]

theorem fits_arr {ρ : Operand → Value} (hf : Fits e ρ) (l : Array Operand) (vs : List Value) (hh : (l.toList.map e).map EV.get = vs.map some) : l.map ρ = vs.toArray := by
  apply Array.ext'
  simp [fits_map hf l.toList vs hh]

/-- An operation that yields a value, whatever is known of the heap. -/
theorem mkP {v : Value} (hy : ∀ ρ w, Fits e ρ → (execOp ρ o).run P w = .ok (.value v) w) (hk : k v h) : SemP P o e k h := ⟨v, hy, hk⟩

theorem sem_move {x : Operand} (ho : o.op = .move x ∨ o.op = .assign x) (s : gv (e x) k h) : SemP P o e k h := by
  obtain ⟨v, hv, s⟩ := gv_some s
  refine mkP (fun ρ w hf => ?_) s
  rcases ho with ho | ho <;> simp [execOp, ho, hf x v hv]

theorem pickV_some {c : Bool} {x y : Value} (s : pickV c x y k h) : k (if c = true then x else y) h := by
  unfold pickV at s
  cases x <;> cases y <;> simp only at s <;> first | exact s.elim | skip
  · cases c <;> simpa using s
  · rename_i i a j b
    by_cases hij : i = j
    · subst hij; cases c <;> simpa using s
    · simp only [hij, if_false] at s; exact s.elim
  · cases c <;> simpa using s

theorem sem_pick {c a b : Operand} (ho : o.op = .pick c a b) (s : vcPick (e c) (e a) (e b) k h) : SemP P o e k h := by
  unfold vcPick at s
  cases hc : e c with
  | un => simp only [hc] at s; exact s.elim
  | sk => simp only [hc] at s; exact s.elim
  | tt =>
    simp only [hc] at s
    obtain ⟨v, hv, s⟩ := gv_some s
    exact mkP (fun ρ w hf => by simp [execOp, ho, hf c (.bool true) (by rw [hc]; rfl), asBool, hf a v hv]) s
  | ff =>
    simp only [hc] at s
    obtain ⟨v, hv, s⟩ := gv_some s
    exact mkP (fun ρ w hf => by simp [execOp, ho, hf c (.bool false) (by rw [hc]; rfl), asBool, hf b v hv]) s
  | val c' =>
    cases c' <;> simp only [hc] at s <;> first | exact s.elim | skip
    rename_i c'
    obtain ⟨x, hx, s⟩ := gv_some s
    obtain ⟨y, hy, s⟩ := gv_some s
    exact mkP (fun ρ w hf => by simp [execOp, ho, hf c (.bool c') (by rw [hc]; rfl), asBool, hf a x hx, hf b y hy]) (pickV_some s)

theorem sem_alloc {t : TypeId} (ho : o.op = .alloc t) (hz : zeroOk P t = true) (s : pNew (zc P t) (fun b => k (.pointer (some ⟨b, 0, none⟩))) h) : SemA P o e k h :=
  ⟨zc P t, fun b => .pointer (some ⟨b, 0, none⟩), fun ρ w hf => by
    obtain ⟨z, hz1, hz2, _⟩ := run_zero hz w
    exact ⟨w.alloc (.cells (zc P t).toArray t), t, by simp [execOp, ho, Instr.alloc, hz1, newVar, newRow, hz2], rfl, rfl, rfl, rfl⟩, fun b hb => s b hb⟩

theorem one_cells {v : Value} (h : v.oneCell' = true) : v.cells.toList = [v] := by cases v <;> first | rfl | (simp [Value.oneCell'] at h; done)

theorem sem_box {t : TypeId} {x : Operand} (ho : o.op = .box t x)
    (s : gv (e x) (fun v => match shapeOf P t with
    | .any => pAssert (v.oneCell' = true) (pNew [v] fun b => k (.pointer (some ⟨b, 0, none⟩)))
    | _ => match v with
      | .agg cs => pNew cs.toList fun b => k (.pointer (some ⟨b, 0, none⟩))
      | v => pNew [v] fun b => k (.pointer (some ⟨b, 0, none⟩))) h) : SemA P o e k h := by
  obtain ⟨v, hv, s⟩ := gv_some s
  have s' : ∀ b, h b = none → k (.pointer (some ⟨b, 0, none⟩)) (h.set b (.row v.cells.toList v.cells.toList.length)) := fun b hb => by
    by_cases hs : shapeOf P t = .any
    · simp only [hs] at s
      rw [one_cells s.1]
      exact s.2 b hb
    · have s2 : (match v with
        | .agg cs => pNew cs.toList fun b => k (.pointer (some ⟨b, 0, none⟩))
        | v => pNew [v] fun b => k (.pointer (some ⟨b, 0, none⟩))) h := by
        cases hsh : shapeOf P t <;> simp only [hsh] at s hs <;> first | exact absurd trivial hs | exact s
      cases v <;> exact s2 b hb
  exact ⟨v.cells.toList, fun b => .pointer (some ⟨b, 0, none⟩), fun ρ w hf =>
    ⟨w.alloc (.cells v.cells t), t, by simp [execOp, ho, Instr.box, newVar, newRow, hf x v hv], rfl, rfl, rfl, rfl⟩, s'⟩

theorem parts_some : ∀ {l : List (Nat × Operand)} {k : List (Nat × Value) → Pr}, partsOf e l k h → ∃ vs, (∀ ρ, Fits e ρ → l.map (fun (i, x) => (i, ρ x)) = vs) ∧ k vs h
  | [], k, s => ⟨[], fun _ _ => rfl, s⟩
  | (i, x) :: r, k, s => by
    obtain ⟨v, hv, s⟩ := gv_some s
    obtain ⟨vs, hvs, s⟩ := parts_some s
    exact ⟨(i, v) :: vs, fun ρ hf => by simp [hf x v hv, ← hvs ρ hf], s⟩

theorem yld_load {t : TypeId} {x : Operand} (ho : o.op = .load t x) {va : Value} (hv : (e x).get = some va) (v : Value) : YldL P o e (loadF P t va v) v := fun h ρ w hfv hf r => by
  unfold loadF at hfv
  cases va <;> try exact hfv.elim
  rename_i a
  cases a with
  | none => exact hfv.elim
  | some a =>
    simp only at hfv
    cases hu : P.underlying t with
    | none => simp [hu] at hfv
    | some d =>
      simp only [hu] at hfv
      by_cases hs : shapeD d = .agg
      · simp only [hs] at hfv
        obtain ⟨cs, hc, rfl⟩ := hfv
        simp [execOp, ho, hf x _ hv, Instr.loadAt, Instr.sureAddr, load_agg r hu (shape_agg hs) hc]
      · have hc : h.cell a = some v := by
          cases hd : shapeD d <;> simp only [hd] at hfv hs <;> first | exact hfv | exact absurd trivial hs
        simp [execOp, ho, hf x _ hv, Instr.loadAt, Instr.sureAddr, load_cell r hu (shape_notAgg hs) hc]

theorem sem_load {t : TypeId} {x : Operand} (ho : o.op = .load t x) {va : Value} (hv : (e x).get = some va) (s : vcLoad P t va k h) : SemL P o e (loadF P t va) k h := by
  have hy := fun v => yld_load (P := P) (o := o) (e := e) ho hv v
  unfold vcLoad at s
  unfold loadF at hy ⊢
  cases va <;> try exact s.elim
  rename_i a
  cases a with
  | none => exact s.elim
  | some a =>
    simp only at s hy ⊢
    cases hu : P.underlying t with
    | none => simp only [hu] at s; exact s.elim
    | some d =>
      simp only [hu] at s hy ⊢
      by_cases hs : shapeD d = .agg
      · simp only [hs] at s hy ⊢
        obtain ⟨cs, hc, hk⟩ := s
        exact ⟨_, hy _, ⟨cs, hc, rfl⟩, hk⟩
      · cases hd : shapeD d <;> simp only [hd] at s hy hs ⊢ <;> first
          | exact absurd trivial hs
          | (obtain ⟨y, hc, hk⟩ := s; exact ⟨_, hy _, hc, hk⟩)

end
end Go.Hl
