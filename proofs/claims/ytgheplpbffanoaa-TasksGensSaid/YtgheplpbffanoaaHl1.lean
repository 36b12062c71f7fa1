/- A heap logic over the kit's 'Calls' and 'Code.wp': partial views of the heap ('Heap', 'R'), what a step may change ('Fr'), the triple of a call ('WpCall') and its frame rule. -/
import Derived.Orders
import Derived.Below
import Derived.Laws.Sem
import Derived.Laws.Cells
import Derived.Laws.Rows
namespace Go.Hl

/-- What is known of a block: its first cells and how many there are in all (it may be written); the very object (it stays); a map's entries. -/
inductive Blk where
  | row (cs : List Value) (tot : Nat)
  | fix (o : Obj)
  | map (es : List (Value × Value))

abbrev Heap := Nat → Option Blk
abbrev Pr := Heap → Prop

def Heap.set (h : Heap) (b : Nat) (x : Blk) : Heap := fun i => if i = b then some x else h i
def Heap.del (h : Heap) (b : Nat) : Heap := fun i => if i = b then none else h i

@[simp] theorem Heap.set_same (h : Heap) (b : Nat) (x : Blk) : h.set b x b = some x := by simp [Heap.set]
theorem Heap.set_ne (h : Heap) {b i : Nat} (x : Blk) (e : i ≠ b) : h.set b x i = h i := by simp [Heap.set, e]
@[simp] theorem Heap.set_set (h : Heap) (b : Nat) (x y : Blk) : (h.set b x).set b y = h.set b y := by
  funext i; simp only [Heap.set]; split <;> rfl
theorem Heap.set_comm (h : Heap) {b c : Nat} (x y : Blk) (e : b ≠ c) : (h.set b x).set c y = (h.set c y).set b x := by
  funext i; simp only [Heap.set]; split <;> split <;> simp_all
theorem Heap.set_self (h : Heap) {b : Nat} {x : Blk} (e : h b = some x) : h.set b x = h := by
  funext i; simp only [Heap.set]; split
  · subst_vars; exact e.symm
  · rfl
@[simp] theorem Heap.del_same (h : Heap) (b : Nat) : h.del b b = none := by simp [Heap.del]
theorem Heap.del_ne (h : Heap) {b i : Nat} (e : i ≠ b) : h.del b i = h i := by simp [Heap.del, e]

/-- Less is known, or as much. -/
def Heap.le (g h : Heap) : Prop := ∀ b x, g b = some x → h b = some x
theorem Heap.le_refl (h : Heap) : h.le h := fun _ _ e => e
theorem Heap.le_trans {a b c : Heap} (h : a.le b) (k : b.le c) : a.le c := fun _ _ e => k _ _ (h _ _ e)
theorem Heap.le_set_new {g h : Heap} {b : Nat} (l : g.le h) (e : h b = none) (x : Blk) : g.le (h.set b x) := fun i y hy => by
  by_cases hi : i = b
  · subst hi; rw [l _ _ hy] at e; cases e
  · rw [Heap.set_ne _ _ hi]; exact l _ _ hy
theorem Heap.le_set_set {g h : Heap} (l : g.le h) (b : Nat) (x : Blk) : (g.set b x).le (h.set b x) := fun i y hy => by
  by_cases hi : i = b
  · subst hi; simpa using hy
  · rw [Heap.set_ne _ _ hi] at *; exact l _ _ hy
theorem Heap.le_none {g h : Heap} (l : g.le h) {b : Nat} (e : h b = none) : g b = none := by
  cases hg : g b with
  | none => rfl
  | some x => rw [l _ _ hg] at e; cases e
theorem Heap.del_le (h : Heap) (b : Nat) : (h.del b).le h := fun i y hy => by
  by_cases hi : i = b
  · subst hi; simp at hy
  · rwa [Heap.del_ne _ hi] at hy

/-- No byte of the block's cells is shared with a string. -/
def Calm (n : Nat) (fr : Nat × Nat) : Prop := fr.2 ≤ fr.1 ∨ n ≤ fr.1

def Blk.At : Blk → Option Obj → Prop
  | .row cs tot, o => ∃ sp ty fr, o = some (.cells (cs ++ sp).toArray ty fr) ∧ (cs ++ sp).length = tot ∧ Calm tot fr
  | .fix ob, o => o = some ob
  | .map es, o => ∃ me clk, o = some (.map me clk) ∧ me.toList.map (fun e => (e.key, e.val)) = es

theorem Blk.At.some {x : Blk} {o : Option Obj} (h : x.At o) : ∃ ob, o = Option.some ob := by
  cases x with
  | row cs tot => obtain ⟨_, _, _, h, _⟩ := h; exact ⟨_, h⟩
  | fix ob => exact ⟨_, h⟩
  | map es => obtain ⟨_, _, h, _⟩ := h; exact ⟨_, h⟩

/-- The view is true of the world. -/
def R (h : Heap) (w : World) : Prop := ∀ b x, h b = some x → x.At w.heap[b]?

theorem R.mono {g h : Heap} {w : World} (r : R h w) (l : g.le h) : R g w := fun b x e => r b x (l b x e)

theorem R.lt {h : Heap} {w : World} (r : R h w) {b : Nat} {x : Blk} (e : h b = some x) : b < w.heap.size := by
  obtain ⟨ob, ho⟩ := (r b x e).some
  rcases Nat.lt_or_ge b w.heap.size with k | k
  · exact k
  · rw [Array.getElem?_eq_none k] at ho; cases ho

theorem R.fresh {h : Heap} {w : World} (r : R h w) : h w.heap.size = none := by
  cases e : h w.heap.size with
  | none => rfl
  | some x => exact absurd (r.lt e) (Nat.lt_irrefl _)

theorem R.of_heap {h : Heap} {w w' : World} (r : R h w) (e : w'.heap = w.heap) : R h w' := fun b x hb => by rw [e]; exact r b x hb

/-- Of this block the view says nothing, or that it stays. -/
def Quiet (o : Option Blk) : Prop := o = none ∨ ∃ ob, o = some (.fix ob)

structure Fr (h : Heap) (w : World) (h' : Heap) (w' : World) : Prop where
  os : w'.os = w.os
  tape : w'.tape = w.tape
  output : w'.output = w.output
  size : w.heap.size ≤ w'.heap.size
  stay : ∀ b, b < w.heap.size → Quiet (h b) → w'.heap[b]? = w.heap[b]? ∧ (h' b = none ∨ h' b = h b)

theorem Fr.refl (h : Heap) (w : World) : Fr h w h w := ⟨rfl, rfl, rfl, Nat.le_refl _, fun _ _ _ => ⟨rfl, .inr rfl⟩⟩

theorem Fr.trans {h h1 h2 : Heap} {w w1 w2 : World} (f : Fr h w h1 w1) (g : Fr h1 w1 h2 w2) : Fr h w h2 w2 :=
  ⟨g.os.trans f.os, g.tape.trans f.tape, g.output.trans f.output, Nat.le_trans f.size g.size, fun b hb hq => by
    obtain ⟨e1, k1⟩ := f.stay b hb hq
    have hq1 : Quiet (h1 b) := by
      rcases k1 with k1 | k1
      · exact .inl k1
      · rw [k1]; exact hq
    obtain ⟨e2, k2⟩ := g.stay b (Nat.lt_of_lt_of_le hb f.size) hq1
    refine ⟨e2.trans e1, ?_⟩
    rcases k2 with k2 | k2
    · exact .inl k2
    · rw [k2]; exact k1⟩

theorem Fr.forget {h h' g : Heap} {w w' : World} (f : Fr h w h' w') (l : g.le h') : Fr h w g w' :=
  ⟨f.os, f.tape, f.output, f.size, fun b hb hq => by
    obtain ⟨e, k⟩ := f.stay b hb hq
    refine ⟨e, ?_⟩
    cases hg : g b with
    | none => exact .inl rfl
    | some x =>
      have hx := l b x hg
      rcases k with k | k
      · rw [k] at hx; cases hx
      · right; rw [← hx, k]⟩

theorem Fr.of_heap {h : Heap} {w w' : World} (e : w'.heap = w.heap) (o : w'.os = w.os) (t : w'.tape = w.tape) (u : w'.output = w.output) : Fr h w h w' :=
  ⟨o, t, u, by rw [e]; exact Nat.le_refl _, fun b _ _ => ⟨by rw [e], .inr rfl⟩⟩

/-- The step ends in a world of which a view is true that K holds of. -/
def Ends (h : Heap) (w : World) (K : Pr) (w' : World) : Prop := ∃ h', K h' ∧ R h' w' ∧ Fr h w h' w'

theorem Ends.mono {h : Heap} {w w' : World} {K K' : Pr} (e : Ends h w K w') (m : ∀ h', K h' → K' h') : Ends h w K' w' := by
  obtain ⟨h', k, r, f⟩ := e; exact ⟨h', m _ k, r, f⟩

theorem Ends.here {h : Heap} {w : World} {K : Pr} (r : R h w) (k : K h) : Ends h w K w := ⟨h, k, r, Fr.refl h w⟩

theorem Ends.trans {h h1 : Heap} {w w1 w2 : World} {K : Pr} (f : Fr h w h1 w1) (e : Ends h1 w1 K w2) : Ends h w K w2 := by
  obtain ⟨h', k, r, g⟩ := e; exact ⟨h', k, r, f.trans g⟩

theorem Ends.forget {h : Heap} {w w' : World} {K : Pr} (e : Ends h w (fun h' => ∃ g, Heap.le g h' ∧ K g) w') : Ends h w K w' := by
  obtain ⟨h', ⟨g, l, k⟩, r, f⟩ := e; exact ⟨g, k, r.mono l, f.forget l⟩

/-- The frame rule's core: one more block, of which the step was told nothing. -/
theorem Ends.frame {h : Heap} {w w' : World} {K : Pr} {b : Nat} {x : Blk} (r : R (h.set b x) w) (hb : h b = none) (e : Ends h w K w') :
    Ends (h.set b x) w (fun g => ∃ h', K h' ∧ h' b = none ∧ g = h'.set b x) w' := by
  obtain ⟨h', k, r', f⟩ := e
  have hlt : b < w.heap.size := r.lt (Heap.set_same h b x)
  obtain ⟨e1, e2⟩ := f.stay b hlt (.inl hb)
  have hn : h' b = none := by
    rcases e2 with e2 | e2
    · exact e2
    · rw [e2]; exact hb
  refine ⟨h'.set b x, ⟨h', k, hn, rfl⟩, fun i y hy => ?_, f.os, f.tape, f.output, f.size, fun i hi hq => ?_⟩
  · by_cases hib : i = b
    · subst hib
      rw [e1]
      exact r _ _ (by simpa using hy)
    · rw [Heap.set_ne _ _ hib] at hy; exact r' _ _ hy
  · by_cases hib : i = b
    · subst hib; exact ⟨e1, .inr (by simp)⟩
    · rw [Heap.set_ne _ _ hib] at hq ⊢
      rw [Heap.set_ne _ _ hib]
      exact f.stay i hi hq

/-- A call's triple: in every world of which the view h is true, the call returns v with K v, or panics with v and KP v. -/
def WpCall (P : Program) (f : FuncId) (args : Array Value) (KP K : Value → Pr) : Pr := fun h =>
  (∀ as w, (callFunc f as).run P w = .ok (.enter f as) w) ∧ ∀ w, R h w → Calls P f args w fun e w' => match e with
    | .returned v => Ends h w (K v) w'
    | .panicked [p] => p.recovered = false ∧ p.goexit = false ∧ Ends h w (KP p.v) w'
    | _ => False

theorem WpCall.mono {P : Program} {f : FuncId} {args : Array Value} {KP KP' K K' : Value → Pr} {h : Heap} (c : WpCall P f args KP K h)
    (m : ∀ v h', K v h' → K' v h') (mp : ∀ v h', KP v h' → KP' v h') : WpCall P f args KP' K' h := ⟨c.1, fun w r =>
  (c.2 w r).mono fun e w' he => by
    cases e with
    | returned v => exact he.mono (m v)
    | panicked ch =>
      cases ch with
      | nil => exact he
      | cons p t => cases t with
        | nil => exact ⟨he.1, he.2.1, he.2.2.mono (mp _)⟩
        | cons _ _ => exact he
    | outgrown => exact he⟩

theorem WpCall.forget {P : Program} {f : FuncId} {args : Array Value} {KP K : Value → Pr} {h : Heap}
    (c : WpCall P f args (fun v h' => ∃ g, Heap.le g h' ∧ KP v g) (fun v h' => ∃ g, Heap.le g h' ∧ K v g) h) : WpCall P f args KP K h := ⟨c.1, fun w r =>
  (c.2 w r).mono fun e w' he => by
    cases e with
    | returned v => exact he.forget
    | panicked ch =>
      cases ch with
      | nil => exact he
      | cons p t => cases t with
        | nil => exact ⟨he.1, he.2.1, he.2.2.forget⟩
        | cons _ _ => exact he
    | outgrown => exact he⟩

open Classical in
/-- What is known besides may be left out. -/
theorem WpCall.less {P : Program} {f : FuncId} {args : Array Value} {KP K : Value → Pr} {g h : Heap} (c : WpCall P f args KP K g) (l : g.le h) : WpCall P f args (fun v h' => ∃ g', KP v g' ∧ Heap.le g' h') (fun v h' => ∃ g', K v g' ∧ Heap.le g' h') h := ⟨c.1, fun w r => by
  have key : ∀ (K : Pr) w', Ends g w K w' → Ends h w (fun h' => ∃ g', K g' ∧ Heap.le g' h') w' := fun K w' e => by
    obtain ⟨g', k, r', f⟩ := e
    refine ⟨fun b => if b < w.heap.size ∧ Quiet (g b) then h b else g' b, ⟨g', k, fun b x hb => ?_⟩, fun b x hb => ?_, f.os, f.tape, f.output, f.size, fun b hb hq' => ?_⟩
    · dsimp only
      split
      · rename_i hc
        rcases (f.stay b hc.1 hc.2).2 with e | e
        · rw [e] at hb; cases hb
        · exact l _ _ (by rw [← e]; exact hb)
      · exact hb
    · dsimp only at hb
      split at hb
      · rename_i hc
        rw [(f.stay b hc.1 hc.2).1]
        exact r _ _ hb
      · exact r' _ _ hb
    · have hg : Quiet (g b) := by
        cases hgb : g b with
        | none => exact .inl rfl
        | some x =>
          right
          rcases hq' with hn | ⟨ob, ho⟩
          · rw [l _ _ hgb] at hn; cases hn
          · exact ⟨ob, by rw [← ho, l _ _ hgb]⟩
      refine ⟨(f.stay b hb hg).1, .inr ?_⟩
      simp [hb, hg]
  refine (c.2 w (r.mono l)).mono fun e w' he => ?_
  cases e with
  | returned v => exact key _ _ he
  | panicked ch =>
    cases ch with
    | nil => exact he
    | cons p t => cases t with
      | nil => exact ⟨he.1, he.2.1, key _ _ he.2.2⟩
      | cons _ _ => exact he
  | outgrown => exact he⟩

end Go.Hl
