/- A heap logic over the kit's 'Calls' and 'Code.wp': partial views of the heap ('Heap', 'R'), what a step may change ('Fr'), the triple of a call ('WpCall') and its frame rule. -/
import Derived.Orders
import Derived.Below
import Derived.Laws.Sem
import Derived.Laws.Cells
import Derived.Laws.Rows
import Derived.Laws.StructEq
import Derived.Laws.Append
import Derived.Laws.Small
import Derived.Laws.Tables
import Derived.ChangeKeysEq
namespace Go.Hl

/-- What is known of a block: its first cells and how many there are in all (it may be written); the very object (it stays); a map's entries. -/
inductive Blk where
  | row (cs : List Value) (tot : Nat)
  | fix (o : Obj)
  | obj (o : Obj)
  | map (es : List (Value × Value))

abbrev Heap := Nat → Option Blk
abbrev Pr := Heap → Prop

def Heap.set (h : Heap) (b : Nat) (x : Blk) : Heap := fun i => if i = b then some x else h i
def Heap.del (h : Heap) (b : Nat) : Heap := fun i => if i = b then none else h i

@[simp] theorem Heap.set_same (h : Heap) (b : Nat) (x : Blk) : h.set b x b = some x := by simp [Heap.set]
theorem Heap.set_ne (h : Heap) {b i : Nat} (x : Blk) (e : i ≠ b) : h.set b x i = h i := by simp [Heap.set, e]
@[simp] theorem Heap.set_set (h : Heap) (b : Nat) (x y : Blk) : (h.set b x).set b y = h.set b y := by
  funext i; simp only [Heap.set]; split <;> rfl
theorem Heap.set_comm (h : Heap) {b c : Nat} (x y : Blk) (e : b ≠ c) : (h.set b x).set c y = (h.set c y).set b x := by
  funext i; simp only [Heap.set]; split <;> split <;> simp_all
theorem Heap.set_self (h : Heap) {b : Nat} {x : Blk} (e : h b = some x) : h.set b x = h := by
  funext i; simp only [Heap.set]; split
  · subst_vars; exact e.symm
  · rfl
@[simp] theorem Heap.del_same (h : Heap) (b : Nat) : h.del b b = none := by simp [Heap.del]
theorem Heap.del_ne (h : Heap) {b i : Nat} (e : i ≠ b) : h.del b i = h i := by simp [Heap.del, e]

/-- Less is known, or as much. -/
def Heap.le (g h : Heap) : Prop := ∀ b x, g b = some x → h b = some x
theorem Heap.le_refl (h : Heap) : h.le h := fun _ _ e => e
theorem Heap.le_trans {a b c : Heap} (h : a.le b) (k : b.le c) : a.le c := fun _ _ e => k _ _ (h _ _ e)
theorem Heap.le_set_new {g h : Heap} {b : Nat} (l : g.le h) (e : h b = none) (x : Blk) : g.le (h.set b x) := fun i y hy => by
  by_cases hi : i = b
  · subst hi; rw [l _ _ hy] at e; cases e
  · rw [Heap.set_ne _ _ hi]; exact l _ _ hy
theorem Heap.le_set_set {g h : Heap} (l : g.le h) (b : Nat) (x : Blk) : (g.set b x).le (h.set b x) := fun i y hy => by
  by_cases hi : i = b
  · subst hi; simpa using hy
  · rw [Heap.set_ne _ _ hi] at *; exact l _ _ hy
theorem Heap.le_none {g h : Heap} (l : g.le h) {b : Nat} (e : h b = none) : g b = none := by
  cases hg : g b with
  | none => rfl
  | some x => rw [l _ _ hg] at e; cases e
theorem Heap.del_le (h : Heap) (b : Nat) : (h.del b).le h := fun i y hy => by
  by_cases hi : i = b
  · subst hi; simp at hy
  · rwa [Heap.del_ne _ hi] at hy

/-- No byte of the block's cells is shared with a string. -/
def Calm (_ : Nat) (fr : Nat × Nat) : Prop := fr.2 ≤ fr.1

/-- The entries' stamps: below the clock, and no two alike. -/
def BornOk (me : Array MapEntry) (clk : Nat) : Prop := (∀ x ∈ me.toList, x.born < clk) ∧ (me.toList.map (·.born)).Nodup
theorem BornOk.nil (clk : Nat) : BornOk #[] clk := ⟨by simp, by simp⟩
theorem BornOk.push {me : Array MapEntry} {clk : Nat} (h : BornOk me clk) (k v : Value) : BornOk (me.push { key := k, val := v, born := clk }) (clk + 1) := by
  refine ⟨fun x hx => ?_, ?_⟩
  · simp at hx
    rcases hx with hx | hx
    · have := h.1 x (by simpa using hx); omega
    · rw [hx]; exact Nat.lt_succ_self _
  · simp only [Array.toList_push, List.map_append, List.map_cons, List.map_nil]
    refine List.nodup_append.2 ⟨h.2, by simp, fun a ha b hb => ?_⟩
    obtain ⟨x, hx, rfl⟩ := List.mem_map.1 ha
    have := h.1 x hx
    simp at hb; omega
theorem BornOk.modify {me : Array MapEntry} {clk : Nat} (h : BornOk me clk) (j : Nat) (k v : Value) : BornOk (me.modify j fun x => { x with key := k, val := v }) clk := by
  have e : (me.modify j fun x => { x with key := k, val := v }).toList.map (·.born) = me.toList.map (·.born) := by
    apply List.ext_getElem?
    intro i
    simp only [Array.toList_modify, List.getElem?_map, List.getElem?_modify]
    cases me.toList[i]? with
    | none => rfl
    | some x => by_cases hi : j = i <;> simp [hi]
  refine ⟨fun x hx => ?_, by rw [e]; exact h.2⟩
  have : x.born ∈ me.toList.map (·.born) := by rw [← e]; exact List.mem_map.2 ⟨x, hx, rfl⟩
  obtain ⟨y, hy, hb⟩ := List.mem_map.1 this
  rw [← hb]; exact h.1 y hy

def Blk.At : Blk → Option Obj → Prop
  | .row cs tot, o => ∃ sp ty fr, o = some (.cells (cs ++ sp).toArray ty fr) ∧ (cs ++ sp).length = tot ∧ Calm tot fr
  | .fix ob, o => o = some ob
  | .obj ob, o => o = some ob
  | .map es, o => ∃ me clk, o = some (.map me clk) ∧ me.toList.map (fun e => (e.key, e.val)) = es ∧ BornOk me clk

theorem Blk.At.some {x : Blk} {o : Option Obj} (h : x.At o) : ∃ ob, o = Option.some ob := by
  cases x with
  | row cs tot => obtain ⟨_, _, _, h, _⟩ := h; exact ⟨_, h⟩
  | fix ob => exact ⟨_, h⟩
  | obj ob => exact ⟨_, h⟩
  | map es => obtain ⟨_, _, h, _, _⟩ := h; exact ⟨_, h⟩

/-- The view is true of the world. -/
def R (h : Heap) (w : World) : Prop := ∀ b x, h b = some x → x.At w.heap[b]?

theorem R.mono {g h : Heap} {w : World} (r : R h w) (l : g.le h) : R g w := fun b x e => r b x (l b x e)

theorem R.lt {h : Heap} {w : World} (r : R h w) {b : Nat} {x : Blk} (e : h b = some x) : b < w.heap.size := by
  obtain ⟨ob, ho⟩ := (r b x e).some
  rcases Nat.lt_or_ge b w.heap.size with k | k
  · exact k
  · rw [Array.getElem?_eq_none k] at ho; cases ho

theorem R.fresh {h : Heap} {w : World} (r : R h w) : h w.heap.size = none := by
  cases e : h w.heap.size with
  | none => rfl
  | some x => exact absurd (r.lt e) (Nat.lt_irrefl _)

theorem R.of_heap {h : Heap} {w w' : World} (r : R h w) (e : w'.heap = w.heap) : R h w' := fun b x hb => by rw [e]; exact r b x hb

/-- Of this block the view says nothing, or that it stays. -/
def Quiet (o : Option Blk) : Prop := o = none ∨ ∃ ob, o = some (.fix ob)

structure Fr (h : Heap) (w : World) (h' : Heap) (w' : World) : Prop where
  os : w'.os = w.os
  tape : w'.tape = w.tape
  output : w'.output = w.output
  size : w.heap.size ≤ w'.heap.size
  stay : ∀ b, b < w.heap.size → Quiet (h b) → w'.heap[b]? = w.heap[b]? ∧ (h' b = none ∨ h' b = h b)

theorem Fr.refl (h : Heap) (w : World) : Fr h w h w := ⟨rfl, rfl, rfl, Nat.le_refl _, fun _ _ _ => ⟨rfl, .inr rfl⟩⟩

theorem Fr.trans {h h1 h2 : Heap} {w w1 w2 : World} (f : Fr h w h1 w1) (g : Fr h1 w1 h2 w2) : Fr h w h2 w2 :=
  ⟨g.os.trans f.os, g.tape.trans f.tape, g.output.trans f.output, Nat.le_trans f.size g.size, fun b hb hq => by
    obtain ⟨e1, k1⟩ := f.stay b hb hq
    have hq1 : Quiet (h1 b) := by
      rcases k1 with k1 | k1
      · exact .inl k1
      · rw [k1]; exact hq
    obtain ⟨e2, k2⟩ := g.stay b (Nat.lt_of_lt_of_le hb f.size) hq1
    refine ⟨e2.trans e1, ?_⟩
    rcases k2 with k2 | k2
    · exact .inl k2
    · rw [k2]; exact k1⟩

theorem Fr.forget {h h' g : Heap} {w w' : World} (f : Fr h w h' w') (l : g.le h') : Fr h w g w' :=
  ⟨f.os, f.tape, f.output, f.size, fun b hb hq => by
    obtain ⟨e, k⟩ := f.stay b hb hq
    refine ⟨e, ?_⟩
    cases hg : g b with
    | none => exact .inl rfl
    | some x =>
      have hx := l b x hg
      rcases k with k | k
      · rw [k] at hx; cases hx
      · right; rw [← hx, k]⟩

theorem Fr.of_heap {h : Heap} {w w' : World} (e : w'.heap = w.heap) (o : w'.os = w.os) (t : w'.tape = w.tape) (u : w'.output = w.output) : Fr h w h w' :=
  ⟨o, t, u, by rw [e]; exact Nat.le_refl _, fun b _ _ => ⟨by rw [e], .inr rfl⟩⟩

/-- The step ends in a world of which a view is true that K holds of. -/
def Ends (h : Heap) (w : World) (K : Pr) (w' : World) : Prop := ∃ h', K h' ∧ R h' w' ∧ Fr h w h' w'

theorem Ends.mono {h : Heap} {w w' : World} {K K' : Pr} (e : Ends h w K w') (m : ∀ h', K h' → K' h') : Ends h w K' w' := by
  obtain ⟨h', k, r, f⟩ := e; exact ⟨h', m _ k, r, f⟩

theorem Ends.here {h : Heap} {w : World} {K : Pr} (r : R h w) (k : K h) : Ends h w K w := ⟨h, k, r, Fr.refl h w⟩

theorem Ends.trans {h h1 : Heap} {w w1 w2 : World} {K : Pr} (f : Fr h w h1 w1) (e : Ends h1 w1 K w2) : Ends h w K w2 := by
  obtain ⟨h', k, r, g⟩ := e; exact ⟨h', k, r, f.trans g⟩

theorem Ends.forget {h : Heap} {w w' : World} {K : Pr} (e : Ends h w (fun h' => ∃ g, Heap.le g h' ∧ K g) w') : Ends h w K w' := by
  obtain ⟨h', ⟨g, l, k⟩, r, f⟩ := e; exact ⟨g, k, r.mono l, f.forget l⟩

/-- The frame rule's core: one more block, of which the step was told nothing. -/
theorem Ends.frame {h : Heap} {w w' : World} {K : Pr} {b : Nat} {x : Blk} (r : R (h.set b x) w) (hb : h b = none) (e : Ends h w K w') :
    Ends (h.set b x) w (fun g => ∃ h', K h' ∧ h' b = none ∧ g = h'.set b x) w' := by
  obtain ⟨h', k, r', f⟩ := e
  have hlt : b < w.heap.size := r.lt (Heap.set_same h b x)
  obtain ⟨e1, e2⟩ := f.stay b hlt (.inl hb)
  have hn : h' b = none := by
    rcases e2 with e2 | e2
    · exact e2
    · rw [e2]; exact hb
  refine ⟨h'.set b x, ⟨h', k, hn, rfl⟩, fun i y hy => ?_, f.os, f.tape, f.output, f.size, fun i hi hq => ?_⟩
  · by_cases hib : i = b
    · subst hib
      rw [e1]
      exact r _ _ (by simpa using hy)
    · rw [Heap.set_ne _ _ hib] at hy; exact r' _ _ hy
  · by_cases hib : i = b
    · subst hib; exact ⟨e1, .inr (by simp)⟩
    · rw [Heap.set_ne _ _ hib] at hq ⊢
      rw [Heap.set_ne _ _ hib]
      exact f.stay i hi hq

/-- What a call does: N of a value with which it returns, X of one with which it panics. -/
def CallTo (P : Program) (f : FuncId) (args : Array Value) (w : World) (N X : Value → World → Prop) : Prop :=
  match (callFunc f args).run P w with
  | .ok (.value v) w' => N v w'
  | .ok .skip w' => N undef w'
  | .ok (.enter f args) w' => Calls P f args w' fun e w'' => match e with
    | .returned v => N v w''
    | .panicked [p] => p.recovered = false ∧ p.goexit = false ∧ X p.v w''
    | _ => False
  | .halt (.panic v) w' => X v w'
  | _ => False

theorem CallTo.mono {P : Program} {f : FuncId} {args : Array Value} {w : World} {N N' X X' : Value → World → Prop} (c : CallTo P f args w N X) (m : ∀ v w', N v w' → N' v w') (mx : ∀ v w', X v w' → X' v w') : CallTo P f args w N' X' := by
  unfold CallTo at *
  generalize (callFunc f args).run P w = res at *
  cases res with
  | ok n w' =>
    cases n <;> simp only at c ⊢ <;> first
      | exact m _ _ c
      | (refine c.mono fun e w'' he => ?_
         cases e with
         | returned v => exact m _ _ he
         | panicked ch => cases ch with
           | nil => exact he
           | cons p t => cases t with
             | nil => exact ⟨he.1, he.2.1, mx _ _ he.2.2⟩
             | cons _ _ => exact he
         | outgrown => exact he)
      | exact c
  | halt hh w' => cases hh <;> first | exact mx _ _ c | exact c

structure CallOk (P : Program) (f : FuncId) (args : Array Value) (KP K : Value → Pr) (h : Heap) : Prop where
  go : ∀ w, R h w → CallTo P f args w (fun v w' => Ends h w (K v) w') (fun v w' => Ends h w (KP v) w')
/-- A call's triple: in every world of which the view h is true, the call returns v with K v, or panics with v and KP v. (A structure, so that Lean does not look through it for further arguments.) -/
def WpCall (P : Program) (f : FuncId) (args : Array Value) (KP K : Value → Pr) : Pr := fun h => CallOk P f args KP K h

theorem WpCall.go {P : Program} {f : FuncId} {args : Array Value} {KP K : Value → Pr} {h : Heap} (c : WpCall P f args KP K h) {w : World} (r : R h w) :
    CallTo P f args w (fun v w' => Ends h w (K v) w') (fun v w' => Ends h w (KP v) w') := CallOk.go c w r

theorem WpCall.mono {P : Program} {f : FuncId} {args : Array Value} {KP KP' K K' : Value → Pr} {h : Heap} (c : WpCall P f args KP K h)
    (m : ∀ v h', K v h' → K' v h') (mp : ∀ v h', KP v h' → KP' v h') : WpCall P f args KP' K' h := ⟨fun _ r =>
  (WpCall.go c r).mono (fun v _ he => he.mono (m v)) (fun v _ he => he.mono (mp v))⟩

theorem WpCall.forget {P : Program} {f : FuncId} {args : Array Value} {KP K : Value → Pr} {h : Heap}
    (c : WpCall P f args (fun v h' => ∃ g, Heap.le g h' ∧ KP v g) (fun v h' => ∃ g, Heap.le g h' ∧ K v g) h) : WpCall P f args KP K h := ⟨fun _ r =>
  (WpCall.go c r).mono (fun _ _ he => he.forget) (fun _ _ he => he.forget)⟩

open Classical in
/-- What is known besides may be left out. -/
theorem WpCall.less {P : Program} {f : FuncId} {args : Array Value} {KP K : Value → Pr} {g h : Heap} (c : WpCall P f args KP K g) (l : g.le h) : WpCall P f args (fun v h' => ∃ g', KP v g' ∧ Heap.le g' h') (fun v h' => ∃ g', K v g' ∧ Heap.le g' h') h := ⟨fun w r => by
  have key : ∀ (K : Pr) w', Ends g w K w' → Ends h w (fun h' => ∃ g', K g' ∧ Heap.le g' h') w' := fun K w' e => by
    obtain ⟨g', k, r', f⟩ := e
    refine ⟨fun b => if b < w.heap.size ∧ Quiet (g b) then h b else g' b, ⟨g', k, fun b x hb => ?_⟩, fun b x hb => ?_, f.os, f.tape, f.output, f.size, fun b hb hq' => ?_⟩
    · dsimp only
      split
      · rename_i hc
        rcases (f.stay b hc.1 hc.2).2 with e | e
        · rw [e] at hb; cases hb
        · exact l _ _ (by rw [← e]; exact hb)
      · exact hb
    · dsimp only at hb
      split at hb
      · rename_i hc
        rw [(f.stay b hc.1 hc.2).1]
        exact r _ _ hb
      · exact r' _ _ hb
    · have hg : Quiet (g b) := by
        cases hgb : g b with
        | none => exact .inl rfl
        | some x =>
          right
          rcases hq' with hn | ⟨ob, ho⟩
          · rw [l _ _ hgb] at hn; cases hn
          · exact ⟨ob, by rw [← ho, l _ _ hgb]⟩
      refine ⟨(f.stay b hb hg).1, .inr ?_⟩
      simp [hb, hg]
  exact (WpCall.go c (r.mono l)).mono (fun _ _ he => key _ _ he) (fun _ _ he => key _ _ he)⟩

end Go.Hl

namespace Go.Hl

/-- What is known of a slot: nothing; that its operation was passed over; the Bool true or false, decided; a value. -/
inductive EV where
  | un | sk | tt | ff | over | step (a b : Value) | val (v : Value)

def EV.get : EV → Option Value
  | .un => none
  | .sk => some (.tuple #[])
  | .tt => some (.bool true)
  | .ff => some (.bool false)
  | .over => some (.tuple #[.bool false])
  | .step a b => some (.tuple #[.bool true, a, b])
  | .val v => some v

abbrev Env := List EV
def Env.at (env : Env) (t : Nat) : EV := env.getD t .un

def evE (env : Env) : Operand → EV
  | .tmp t => env.at t
  | .const (.bool true) => .tt
  | .const (.bool false) => .ff
  | .const v => .val v
  | .global g => .val (.pointer (some ⟨g, 0, none⟩))
  | .func f => .val (.func (.func f) #[] #[])

structure Sl where
  base : Option Addr
  len : Nat
  cap : Nat

inductive Shape where
  | int (k : IntKind) | bool | str | ptr | slice | agg | map | any
  deriving DecidableEq

def Shape.T : Shape → Type
  | .int _ => Int | .bool => Bool | .str => ByteArray | .ptr => Option Addr | .slice => Sl | .agg => List Value | .map => Option Nat | .any => Value

def Shape.inj : (s : Shape) → s.T → Value
  | .int k, n => .int k n
  | .bool, b => .bool b
  | .str, s => .string s
  | .ptr, a => .pointer a
  | .slice, s => .slice s.base s.len s.cap
  | .agg, l => .agg l.toArray
  | .map, r => .map r
  | .any, v => v

def Shape.proj : (s : Shape) → Value → Option s.T
  | .int k, .int k' n => if k = k' then some n else none
  | .bool, .bool b => some b
  | .str, .string s => some s
  | .ptr, .pointer a => some a
  | .slice, .slice a l c => some ⟨a, l, c⟩
  | .agg, .agg cs => some cs.toList
  | .map, .map r => some r
  | .any, v => some v
  | _, _ => none

theorem Shape.proj_inj : (s : Shape) → (v : Value) → (x : s.T) → s.proj v = some x → v = s.inj x
  | .int k, v, x, h => by
    cases v <;> simp only [Shape.proj] at h <;> try cases h
    rename_i k' n
    by_cases e : k = k'
    · subst e; simp only [if_true] at h; cases h; rfl
    · rw [if_neg e] at h; cases h
  | .bool, v, x, h => by cases v <;> simp only [Shape.proj] at h <;> cases h; rfl
  | .str, v, x, h => by cases v <;> simp only [Shape.proj] at h <;> cases h; rfl
  | .ptr, v, x, h => by cases v <;> simp only [Shape.proj] at h <;> cases h; rfl
  | .slice, v, x, h => by cases v <;> simp only [Shape.proj] at h <;> cases h; rfl
  | .agg, v, x, h => by cases v <;> simp only [Shape.proj] at h <;> cases h; rfl
  | .map, v, x, h => by cases v <;> simp only [Shape.proj] at h <;> cases h; rfl
  | .any, v, x, h => by simp only [Shape.proj] at h; cases h; rfl

/-- Several shapes: their payloads in a row. -/
def Shapes.T : List Shape → Type
  | [] => Unit
  | s :: r => s.T × Shapes.T r
def Shapes.inj : (l : List Shape) → Shapes.T l → List Value
  | [], _ => []
  | s :: r, x => s.inj x.1 :: Shapes.inj r x.2

/-- A call's result: one value, or a tuple. -/
inductive RShape where
  | one (s : Shape) | many (l : List Shape)
def RShape.T : RShape → Type
  | .one s => s.T
  | .many l => Shapes.T l
def RShape.inj : (r : RShape) → r.T → Value
  | .one s, x => s.inj x
  | .many l, x => .tuple (Shapes.inj l x).toArray

/-- Cells in a heap. -/
def Heap.cell (h : Heap) (a : Addr) : Option Value :=
  match a.spot with
  | some _ => none
  | none => match h a.block with
    | some (.row cs _) => cs[a.off]?
    | some (.fix (.cells c _ _)) => c[a.off]?
    | _ => none

def cut (cs : List Value) (off n : Nat) : Option (List Value) := if off + n ≤ cs.length then some ((cs.drop off).take n) else none

def Heap.vals (h : Heap) (a : Addr) (n : Nat) : Option (List Value) :=
  match a.spot with
  | some _ => none
  | none => match h a.block with
    | some (.row cs _) => cut cs a.off n
    | some (.fix (.cells c _ _)) => cut c.toList a.off n
    | _ => none

def splice (cs : List Value) (off : Nat) (vs : List Value) : List Value := cs.take off ++ vs ++ cs.drop (off + vs.length)

def oneCells (vs : List Value) : Prop := ∀ v ∈ vs, v.oneCell' = true

/- The primitives. -/
def F : Pr := fun _ => False
def pIf (c : Bool) (p q : Pr) : Pr := fun h => (c = true → p h) ∧ (c = false → q h)
def pAssert (φ : Prop) (p : Pr) : Pr := fun h => φ ∧ p h
def pNew (cs : List Value) (k : Nat → Pr) : Pr := fun h => ∀ b, h b = none → k b (h.set b (.row cs cs.length))
def pLd (s : Shape) (a : Addr) (k : s.T → Pr) : Pr := fun h => ∃ x, h.cell a = some (s.inj x) ∧ k x h
def pLdA (n : Nat) (a : Addr) (k : List Value → Pr) : Pr := fun h => ∃ cs, h.vals a n = some cs ∧ k cs h
def pSt (a : Addr) (v : Value) (p : Pr) : Pr := fun h => ∃ cs tot, a.spot = none ∧ h a.block = some (.row cs tot) ∧ a.off < cs.length ∧ v.oneCell' = true ∧ p (h.set a.block (.row (cs.set a.off v) tot))
def pStA (n : Nat) (a : Addr) (vs : List Value) (p : Pr) : Pr := fun h => ∃ cs tot, a.spot = none ∧ h a.block = some (.row cs tot) ∧ a.off + n ≤ cs.length ∧ vs.length = n ∧ oneCells vs ∧ p (h.set a.block (.row (splice cs a.off vs) tot))
def pSome (x : Option Addr) (k : Addr → Pr) : Pr := fun h => ∃ a, x = some a ∧ k a h
def pIdx (i : Int) (n : Nat) (p : Pr) : Pr := fun h => 0 ≤ i ∧ i < n ∧ p h
def pPart (s : Shape) (cs : List Value) (off : Nat) (k : s.T → Pr) : Pr := fun h => ∃ x, cs[off]? = some (s.inj x) ∧ k x h
def pCall (P : Program) (f : FuncId) (args : List Value) (KP : Value → Pr) (r : RShape) (k : r.T → Pr) : Pr :=
  WpCall P f args.toArray KP (fun v h => ∃ x, v = r.inj x ∧ k x h)
def WpVal (P : Program) (f : Value) (args : List Value) (KP K : Value → Pr) : Pr := fun h =>
  match f with
  | .func (.func g) first caps => WpCall P g ((first ++ args.toArray) ++ caps) KP K h
  | _ => False
/-- A call of a function value. -/
def pCallV (P : Program) (f : Value) (args : List Value) (KP : Value → Pr) (r : RShape) (k : r.T → Pr) : Pr :=
  WpVal P f args KP (fun v h => ∃ x, v = r.inj x ∧ k x h)

/-- The cells of a slice. -/
def Sl.vals (size : Nat) (s : Sl) (h : Heap) (xs : List Value) : Prop :=
  match s.base with
  | some a => h.vals a (s.len * size) = some xs
  | none => s.len = 0 ∧ xs = []

/-- The same, of a slice that may be empty. -/
def Sl.valsE (size : Nat) (s : Sl) (h : Heap) (xs : List Value) : Prop := s.len = 0 ∧ xs = [] ∨ s.vals size h xs

def Roomy (need bytes : Nat) : Prop := need * bytes ≤ 140737488355328

/-- The built-in append: in place where there is room, else at a new place. -/
def pAppend (size bytes : Nat) (s x : Sl) (k : Sl → Pr) : Pr := fun h =>
  ∃ old new, s.vals size h old ∧ x.valsE size h new ∧ Roomy (s.len + x.len) bytes ∧ oneCells new ∧
    (s.len + x.len ≤ s.cap → match s.base with
      | none => k ⟨none, s.len + x.len, s.cap⟩ h
      | some a => ∃ cs tot, a.spot = none ∧ h a.block = some (.row cs tot) ∧ a.off + s.len * size ≤ cs.length ∧ a.off + s.cap * size ≤ tot ∧
          k ⟨some a, s.len + x.len, s.cap⟩ (h.set a.block (.row (splice cs (a.off + s.len * size) new) tot))) ∧
    (s.cap < s.len + x.len → ∀ b cap, h b = none → s.len + x.len ≤ cap → k ⟨some ⟨b, 0, none⟩, s.len + x.len, cap⟩ (h.set b (.row (old ++ new) (cap * size))))

/-- The built-in append of as many zeros. -/
def pExtend (size bytes : Nat) (zero : List Value) (s : Sl) (n : Int) (k : Sl → Pr) : Pr := fun h =>
  ∃ old, s.vals size h old ∧ 0 ≤ n ∧ Roomy (s.len + n.toNat) bytes ∧ oneCells zero ∧
    (s.len + n.toNat ≤ s.cap → match s.base with
      | none => k ⟨none, s.len + n.toNat, s.cap⟩ h
      | some a => ∃ cs tot, a.spot = none ∧ h a.block = some (.row cs tot) ∧ a.off + s.len * size ≤ cs.length ∧ a.off + s.cap * size ≤ tot ∧
          k ⟨some a, s.len + n.toNat, s.cap⟩ (h.set a.block (.row (splice cs (a.off + s.len * size) (List.replicate n.toNat zero).flatten) tot))) ∧
    (s.cap < s.len + n.toNat → ∀ b cap, h b = none → s.len + n.toNat ≤ cap → k ⟨some ⟨b, 0, none⟩, s.len + n.toNat, cap⟩ (h.set b (.row (old ++ (List.replicate n.toNat zero).flatten) (cap * size))))

/-- A new object that is no row of cells. -/
def pNewObj (x : Blk) (k : Nat → Pr) : Pr := fun h => ∀ b, h b = none → k b (h.set b x)

/- Maps. -/
def findM (kd : TypeDesc) (key : Value) : List (Value × Value) → Option (Option Value)
  | [] => some none
  | (k, v) :: r => match Instr.sameNow kd key k with
    | some true => some (some v)
    | some false => findM kd key r
    | none => none
def putM (kd : TypeDesc) (key v : Value) : List (Value × Value) → Option (List (Value × Value))
  | [] => some [(key, v)]
  | (k, u) :: r => match Instr.sameNow kd key k with
    | some true => some ((key, v) :: r)
    | some false => (putM kd key v r).map ((k, u) :: ·)
    | none => none
def pGet (kd : TypeDesc) (m : Option Nat) (key : Value) (k : Option Value → Pr) : Pr := fun h =>
  match m with
  | none => k none h
  | some r => ∃ es res, h r = some (.map es) ∧ findM kd key es = some res ∧ k res h
/-- A look into a map: what is there, in its shape, and whether it is. -/
def pGetS (kd : TypeDesc) (m : Option Nat) (key : Value) (s : Shape) (z : Value) (k : s.T → Bool → Pr) : Pr := fun h =>
  match m with
  | none => ∃ x, z = s.inj x ∧ k x false h
  | some r => ∃ es res x, h r = some (.map es) ∧ findM kd key es = some res ∧ res.getD z = s.inj x ∧ k x res.isSome h
def pPut (kd : TypeDesc) (m : Option Nat) (key v : Value) (p : Pr) : Pr := fun h =>
  ∃ r es es', m = some r ∧ h r = some (.map es) ∧ putM kd key v es = some es' ∧ p (h.set r (.map es'))

/-- The next rune of a string that is ranged over. -/
def pRune (b : Nat) (k : Int → Int → Pr) (over : Pr) : Pr := fun h =>
  ∃ s pos, h b = some (.obj (.stringIter s pos)) ∧ (pos < s.size → k pos (Utf8.decode s pos).1 (h.set b (.obj (.stringIter s (pos + (Utf8.decode s pos).2))))) ∧ (¬ pos < s.size → over h)

/-- copy: as many cells as there are of both. -/
def pCopy (size : Nat) (dst src : Sl) (k : Int → Pr) : Pr := fun h =>
  (min src.len dst.len = 0 → k 0 h) ∧
  (min src.len dst.len ≠ 0 → ∃ xs a cs tot, (Sl.mk src.base (min src.len dst.len) src.cap).vals size h xs ∧ dst.base = some a ∧ a.spot = none ∧ h a.block = some (.row cs tot) ∧ a.off ≤ cs.length ∧ a.off + min src.len dst.len * size ≤ tot ∧ oneCells xs ∧
    k ((min src.len dst.len : Nat) : Int) (h.set a.block (.row (splice cs a.off xs) tot)))
/-- clear of a slice. -/
def pClear (size : Nat) (zero : List Value) (s : Sl) (p : Pr) : Pr := fun h =>
  (s.len = 0 → p h) ∧ (s.len ≠ 0 → s.base = none → p h) ∧
  (s.len ≠ 0 → ∀ a, s.base = some a → ∃ cs tot, a.spot = none ∧ h a.block = some (.row cs tot) ∧ a.off + s.len * size ≤ cs.length ∧ oneCells zero ∧ p (h.set a.block (.row (splice cs a.off (List.replicate s.len zero).flatten) tot)))

/- Types. -/
def sizeP (P : Program) (t : TypeId) : Nat := ((P.info? t).map (·.size)).getD 0
def bytesP (P : Program) (t : TypeId) : Nat := ((P.info? t).map (·.bytes)).getD 0
def zc (P : Program) (t : TypeId) : List Value :=
  match (P.info? t).bind (·.zero) with
  | some z => z.cells.toList
  | none => []
def zeroV (P : Program) (t : TypeId) : Option Value := (P.info? t).bind (·.zero)
def zeroOk (P : Program) (t : TypeId) : Bool := match (P.info? t).bind (·.zero) with | some z => z.cells.size == sizeP P t | none => false

def shapeD : TypeDesc → Shape
  | .int k => .int k
  | .bool => .bool
  | .string => .str
  | .pointer _ => .ptr
  | .slice _ => .slice
  | .struct _ | .array .. => .agg
  | .map .. => .map
  | _ => .any

def shapeOf (P : Program) (t : TypeId) : Shape :=
  match P.underlying t with
  | some d => shapeD d
  | none => .any

def rshapeOf (P : Program) (t : TypeId) : RShape :=
  match P.underlying t with
  | some (.tuple ts) => .many (ts.toList.map (shapeOf P))
  | _ => .one (shapeOf P t)

/- Values. -/
def gv (x : EV) (k : Value → Pr) : Pr :=
  match x.get with
  | some v => k v
  | none => F

def gvs : List EV → (List Value → Pr) → Pr
  | [], k => k []
  | x :: r, k => gv x fun v => gvs r fun vs => k (v :: vs)

def strEq (x y : ByteArray) : Bool := x.toList == y.toList
def bitsV (op : BinOp) (k : IntKind) (x y : Int) : Int :=
  let a := BitVec.ofInt k.bits x
  let b := BitVec.ofInt k.bits y
  match op with
  | .and => k.wrap (a &&& b).toNat
  | .or => k.wrap (a ||| b).toNat
  | .xor => k.wrap (a ^^^ b).toNat
  | _ => k.wrap (a &&& ~~~b).toNat

/-- Cells that may be held against each other one by one. -/
inductive CT where
  | int (k : IntKind) | bool | str
def okCell : CT → Value → Bool
  | .int k, .int k' _ => k == k'
  | .bool, .bool _ => true
  | .str, .string _ => true
  | _, _ => false
def okCells : List CT → List Value → Bool
  | [], [] => true
  | c :: r, v :: s => okCell c v && okCells r s
  | _, _ => false
def eqv : Value → Value → Bool
  | .int _ a, .int _ b => a == b
  | .bool a, .bool b => a == b
  | .string a, .string b => strEq a b
  | _, _ => false
def eqCells : List Value → List Value → Bool
  | [], [] => true
  | a :: r, b :: s => eqv a b && eqCells r s
  | _, _ => false

mutual
/-- The cells of a type that is made of whole numbers, Bools and strings alone. -/
def flatTy (P : Program) : Nat → TypeId → Option (List CT)
  | 0, _ => none
  | d + 1, t => match P.underlying t with
    | some (.int k) => some [.int k]
    | some .bool => some [.bool]
    | some .string => some [.str]
    | some (.struct fs) => if P.stoodInHeld t then none else flatFs P d 0 fs.toList
    | some (.array n e) => (flatTy P d e).bind fun l => if l.length = sizeP P e then some (List.replicate n l).flatten else none
    | _ => none
def flatFs (P : Program) : Nat → Nat → List Field → Option (List CT)
  | 0, _, _ => none
  | _ + 1, _, [] => some []
  | d + 1, off, f :: fs => if f.name == "_" || f.offset != off then none else
    (flatTy P d f.type).bind fun l => if l.length = sizeP P f.type then (flatFs P d (off + l.length) fs).map (l ++ ·) else none
end

def pickV (c : Bool) : Value → Value → (Value → Pr) → Pr
  | .bool a, .bool b, k => k (.bool (if c = true then a else b))
  | .int i a, .int j b, k => if i = j then k (.int i (if c = true then a else b)) else F
  | .string a, .string b, k => k (.string (if c = true then a else b))
  | _, _, _ => F

def vcPick (c a b : EV) (k : Value → Pr) : Pr :=
  match c with
  | .tt => gv a k
  | .ff => gv b k
  | .val (.bool c) => gv a fun x => gv b fun y => pickV c x y k
  | _ => F

def isNilConst : Operand → Bool
  | .const (.pointer none) | .const (.slice none _ _) | .const (.map none) | .const .nilIface => true
  | _ => false

/-- Is the value nil? ('u': the nil that it is held against; 'd': their type.) -/
def nilTest (d : TypeDesc) (v u : Value) (k : Bool → Pr) : Pr :=
  match d, v, u with
  | .pointer _, .pointer a, .pointer none => k a.isNone
  | .slice _, .slice a _ _, .slice none _ _ => k a.isNone
  | .map _ _, .map a, .map none => k a.isNone
  | .interface _, .nilIface, .nilIface => k true
  | .interface _, .iface _ _, .nilIface => k false
  | _, _, _ => F

def vcInt (op : BinOp) (i : IntKind) (a b : Int) (k : Value → Pr) : Pr :=
  match op with
  | .add => k (.int i (i.wrap (a + b)))
  | .sub => k (.int i (i.wrap (a - b)))
  | .mul => k (.int i (i.wrap (a * b)))
  | .quo => pAssert (b ≠ 0) (k (.int i (i.wrap (a.tdiv b))))
  | .rem => pAssert (b ≠ 0) (k (.int i (a.tmod b)))
  | .and => k (.int i (bitsV .and i a b))
  | .or => k (.int i (bitsV .or i a b))
  | .xor => k (.int i (bitsV .xor i a b))
  | .andNot => k (.int i (bitsV .andNot i a b))
  | .eql => k (.bool (a == b))
  | .neq => k (.bool (a != b))
  | .lss => k (.bool (a < b))
  | .leq => k (.bool (a ≤ b))
  | .gtr => k (.bool (a > b))
  | .geq => k (.bool (a ≥ b))
  | _ => F

def vcBin (P : Program) (op : BinOp) (t : TypeId) (y : Operand) (vx vy : Value) (k : Value → Pr) : Pr :=
  match isNilConst y with
  | true =>
    (match P.underlying t with
     | some d => match op with
       | .eql => nilTest d vx vy fun b => k (.bool b)
       | .neq => nilTest d vx vy fun b => k (.bool (!b))
       | _ => F
     | none => F)
  | false =>
  match vx, vy with
  | .int i a, .int j b =>
    match op with
    | .shl => pAssert (0 ≤ b) (k (.int i (i.wrap (a * 2 ^ (min b.toNat i.bits)))))
    | .shr => pAssert (0 ≤ b) (k (.int i (a.fdiv (2 ^ (min b.toNat i.bits)))))
    | _ => if i = j then vcInt op i a b k else F
  | .bool a, .bool b =>
    (match P.underlying t with
     | some .bool => match op with
       | .eql => k (.bool (a == b))
       | .neq => k (.bool (!(a == b)))
       | _ => F
     | _ => F)
  | .string a, .string b =>
    match op with
    | .add => pAssert (a.size + b.size < 9223372036854775808) (k (.string (a ++ b)))
    | .eql => k (.bool (strEq a b))
    | .neq => k (.bool (!strEq a b))
    | .lss => k (.bool (Op.bytesLess a.toList b.toList))
    | .leq => k (.bool (Op.bytesLess a.toList b.toList || strEq a b))
    | .gtr => k (.bool !(Op.bytesLess a.toList b.toList || strEq a b))
    | .geq => k (.bool !(Op.bytesLess a.toList b.toList))
    | _ => F
  | .agg a, .agg b =>
    match flatTy P 50 t, P.eqGuardType P.depth t, (P.underlying t).any (fun d => shapeD d = .agg) with
    | some l, false, true => match op with
      | .eql => pAssert (okCells l a.toList = true ∧ okCells l b.toList = true) (k (.bool (eqCells a.toList b.toList)))
      | .neq => pAssert (okCells l a.toList = true ∧ okCells l b.toList = true) (k (.bool (!eqCells a.toList b.toList)))
      | _ => F
    | _, _, _ => F
  | _, _ => F

def vcUn (op : UnOp) (v : Value) (k : Value → Pr) : Pr :=
  match op, v with
  | .not, .bool b => k (.bool (!b))
  | .neg, .int i n => k (.int i (i.wrap (0 - n)))
  | .xor, .int i n => k (.int i (bitsV .xor i (if i.signed then -1 else i.max) n))
  | _, _ => F

def vcLoad (P : Program) (t : TypeId) (va : Value) (k : Value → Pr) : Pr :=
  match va with
  | .pointer (some a) => match P.underlying t with
    | some d => match shapeD d with
      | .agg => pLdA (sizeP P t) a fun cs => k (.agg cs.toArray)
      | s => pLd s a fun x => k (s.inj x)
    | none => F
  | _ => F

def vcStore (P : Program) (t : TypeId) (va v : Value) (p : Pr) : Pr :=
  match va with
  | .pointer (some a) => match shapeOf P t with
    | .any => (match sizeP P t with
        | 1 => pSt a v p
        | _ => F)
    | _ => match v with
      | .agg cs => match sizeP P t with
        | 0 => F
        | n + 1 => pStA (n + 1) a cs.toList p
      | v => match sizeP P t with
        | 1 => pSt a v p
        | _ => F
  | _ => F

/-- The parts of a literal, laid over what it begins with. -/
def lay : List Value → List (Nat × Value) → List Value
  | cs, [] => cs
  | cs, (off, v) :: r => lay (match v with | .agg xs => splice cs off xs.toList | v => cs.set off v) r

/-- One cell, or as many as are wanted. -/
def fitsB (size : Nat) (v : Value) : Prop := v.cells.size = size

def pFits : List (Nat × Value) → Pr → Pr
  | [], p => p
  | (size, .agg xs) :: r, p => pAssert (xs.toList.length = size) (pFits r p)
  | (1, _) :: r, p => pFits r p
  | _, _ => F

def placesOf (P : Program) (fs : Array Field) (parts : List (Nat × Value)) : Option (List (Nat × Nat × Value)) :=
  parts.mapM fun (i, v) => (fs[i]?).map fun f => (f.offset, sizeP P f.type, v)

def partsOf (e : Operand → EV) : List (Nat × Operand) → (List (Nat × Value) → Pr) → Pr
  | [], k => k []
  | (i, x) :: r, k => gv (e x) fun v => partsOf e r fun vs => k ((i, v) :: vs)

def inRange (n : Nat) (ps : List (Nat × Nat × Value)) : Bool := ps.all fun p => p.1 + p.2.1 ≤ n

def vcBuild (P : Program) (t : TypeId) (parts : List (Nat × Value)) (k : Value → Pr) : Pr :=
  match zeroOk P t, P.underlying t with
  | true, some (.struct fs) => match fs.toList.all (fun f => (P.info? f.type).isSome) with
   | false => F
   | true => match placesOf P fs parts with
    | some ps => match inRange (sizeP P t) ps with
      | true => pFits (ps.map fun p => (p.2.1, p.2.2)) (k (.agg (lay (zc P t) (ps.map fun p => (p.1, p.2.2))).toArray))
      | false => F
    | none => F
  | true, some (.array _ e) => match (P.info? e).isSome with
   | false => F
   | true =>
    let ps := parts.map fun p => (p.1 * sizeP P e, sizeP P e, p.2)
    match inRange (sizeP P t) ps with
    | true => pFits (ps.map fun p => (p.2.1, p.2.2)) (k (.agg (lay (zc P t) (ps.map fun p => (p.1, p.2.2))).toArray))
    | false => F
  | _, _ => F

/-- n times the cells. -/
def reps (n : Nat) (cs : List Value) : List Value := (List.replicate n cs).flatten

def vcBuildSlice (P : Program) (t : TypeId) (n : Nat) (parts : List (Nat × Value)) (k : Value → Pr) : Pr :=
  match P.underlying t with
  | some (.slice e) =>
    match zeroOk P e && decide (n * sizeP P e ≤ 16777216) && decide (sizeP P e ≠ 0) with
    | true =>
      let ps := parts.map fun p => (p.1 * sizeP P e, sizeP P e, p.2)
      match inRange (n * sizeP P e) ps with
      | true => pFits (ps.map fun p => (p.2.1, p.2.2)) (pNew (lay (reps n (zc P e)) (ps.map fun p => (p.1, p.2.2))) fun b => k (.slice (some ⟨b, 0, none⟩) n n))
      | false => F
    | false => F
  | _ => F

def vcFieldAddr (P : Program) (t : TypeId) (v : Value) (f : Nat) (k : Value → Pr) : Pr :=
  match v with
  | .pointer (some a) => match P.underlying t with
    | some (.struct fs) => match fs[f]? with
      | some f => match sizeP P f.type with
        | 0 => F
        | _ + 1 => k (.pointer (some (a.add f.offset)))
      | none => F
    | _ => F
  | _ => F

def vcPart (P : Program) (t : TypeId) (cs : List Value) (off : Nat) (k : Value → Pr) : Pr :=
  match P.underlying t with
  | some d => match shapeD d with
    | .agg => k (.agg ((cs.drop off).take (sizeP P t)).toArray)
    | s => pPart s cs off fun x => k (s.inj x)
  | none => F

def vcField (P : Program) (t : TypeId) (v : Value) (f : Nat) (k : Value → Pr) : Pr :=
  match v with
  | .agg cs => match P.underlying t with
    | some (.struct fs) => match fs[f]? with
      | some f => vcPart P f.type cs.toList f.offset k
      | none => F
    | _ => F
  | _ => F

def vcIndexAddr (P : Program) (t : TypeId) (x i : Value) (k : Value → Pr) : Pr :=
  match P.underlying t, x, i with
  | some (.array n e), .pointer (some a), .int _ i => match sizeP P e with
    | 0 => F
    | z + 1 => pIdx i n (k (.pointer (some (a.add (i.toNat * (z + 1))))))
  | some (.slice e), .slice base n _, .int _ i => match sizeP P e with
    | 0 => F
    | z + 1 => pIdx i n (pSome base fun a => k (.pointer (some (a.add (i.toNat * (z + 1))))))
  | _, _, _ => F

def byteAt (s : ByteArray) (i : Int) : Int := ((s[i.toNat]?).getD 0).toNat

def vcIndex (P : Program) (t : TypeId) (x i : Value) (k : Value → Pr) : Pr :=
  match P.underlying t, x, i with
  | some .string, .string s, .int _ i => pIdx i s.size (k (.int .u8 (byteAt s i)))
  | some (.array n e), .agg cs, .int _ i => pIdx i n (vcPart P e cs.toList (i.toNat * sizeP P e) k)
  | _, _, _ => F

def vcExtract (v : Value) (i : Nat) (k : Value → Pr) : Pr :=
  match v with
  | .tuple vs => match vs.toList[i]? with
    | some v => k v
    | none => F
  | _ => F

def oInt (x : Option EV) (d : Int) (k : Int → Pr) : Pr :=
  match x with
  | none => k d
  | some e => gv e fun v => match v with
    | .int _ n => k n
    | _ => F

def vcSlice (P : Program) (t : TypeId) (x : Value) (lo hi mx : Option EV) (k : Value → Pr) : Pr :=
  match mx with
  | none => (match P.underlying t, x with
    | some .string, .string s => oInt lo 0 fun l => oInt hi s.size fun h => pAssert (0 ≤ l ∧ l ≤ h ∧ h ≤ s.size) (k (.string (s.extract l.toNat h.toNat)))
    | some (.slice e), .slice a n c => match sizeP P e with
      | 0 => F
      | z + 1 => oInt lo 0 fun l => oInt hi n fun h => pAssert (0 ≤ l ∧ l ≤ h ∧ h ≤ c)
        (k (.slice (if c = l.toNat then a else a.map (·.add (l.toNat * (z + 1)))) (h.toNat - l.toNat) (c - l.toNat)))
    | some (.array n e), .pointer (some a) => match sizeP P e with
      | 0 => F
      | z + 1 => oInt lo 0 fun l => oInt hi n fun h => pAssert (0 ≤ l ∧ l ≤ h ∧ h ≤ n)
        (k (.slice (some (if n = l.toNat then a else a.add (l.toNat * (z + 1)))) (h.toNat - l.toNat) (n - l.toNat)))
    | _, _ => F)
  | some mv => (match hi, P.underlying t, x with
    | some hv, some (.slice e), .slice a n c => match sizeP P e with
      | 0 => F
      | z + 1 => oInt lo 0 fun l => oInt (some hv) n fun h => oInt (some mv) c fun m => pAssert (0 ≤ l ∧ l ≤ h ∧ h ≤ m ∧ m ≤ c)
        (k (.slice (if m.toNat = l.toNat then a else a.map (·.add (l.toNat * (z + 1)))) (h.toNat - l.toNat) (m.toNat - l.toNat)))
    | _, _, _ => F)

def vcConvert (P : Program) (s d : TypeId) (v : Value) (k : Value → Pr) : Pr :=
  match P.underlying s, P.underlying d, v with
  | some (.int _), some (.int j), .int _ n => k (.int j (j.wrap n))
  | some .string, some .string, .string s => k (.string s)
  | some (.int _), some .string, .int _ n => k (.string (Utf8.encode n))
  | _, _, _ => F

def vcLen (P : Program) (t : TypeId) (v : Value) (k : Value → Pr) : Pr :=
  match P.underlying t, v with
  | some .string, .string s => k (.int .i64 s.size)
  | some (.array n _), _ => k (.int .i64 n)
  | some (.slice _), .slice _ n _ => k (.int .i64 n)
  | _, _ => F

def vcMinMax (mx : Bool) (args : List Value) (k : Value → Pr) : Pr :=
  match args with
  | [.int i a, .int _ b] => k (.int i (if mx then (if b > a then b else a) else (if b < a then b else a)))
  | _ => F

def vcAppend (P : Program) (ts : List TypeId) (args : List Value) (k : Value → Pr) : Pr :=
  match ts, args with
  | [t, u], [.slice a n c, .slice b m d] => match P.underlying t, P.underlying u with
    | some (.slice e), some (.slice _) => match zeroOk P e && decide (sizeP P e ≠ 0) && decide (bytesP P e ≠ 0) with
      | true => pAppend (sizeP P e) (bytesP P e) ⟨a, n, c⟩ ⟨b, m, d⟩ fun s => k (.slice s.base s.len s.cap)
      | false => F
    | _, _ => F
  | [t, u], [.slice a n c, .int _ m] => match P.underlying t, P.underlying u with
    | some (.slice e), some (.int _) => match zeroOk P e && decide (sizeP P e ≠ 0) && decide (bytesP P e ≠ 0) with
      | true => pExtend (sizeP P e) (bytesP P e) (zc P e) ⟨a, n, c⟩ m fun s => k (.slice s.base s.len s.cap)
      | false => F
    | _, _ => F
  | _, _ => F

def vcCap (P : Program) (t : TypeId) (v : Value) (k : Value → Pr) : Pr :=
  match P.underlying t, v with
  | some (.slice _), .slice _ _ c => k (.int .i64 c)
  | _, _ => F

def vcCopy (P : Program) (ts : List TypeId) (args : List Value) (k : Value → Pr) : Pr :=
  match ts, args with
  | t :: _, [.slice a n c, .slice b m d] => match P.underlying t with
    | some (.slice e) => match sizeP P e with
      | 0 => F
      | z + 1 => pCopy (z + 1) ⟨a, n, c⟩ ⟨b, m, d⟩ fun i => k (.int .i64 i)
    | _ => F
  | _, _ => F
def vcClear (P : Program) (ts : List TypeId) (args : List Value) (k : Value → Pr) : Pr :=
  match ts, args with
  | t :: _, [.slice a n c] => match P.underlying t with
    | some (.slice e) => match zeroOk P e with
      | true => match sizeP P e with
        | 0 => F
        | z + 1 => pClear (z + 1) (zc P e) ⟨a, n, c⟩ (k (.tuple #[]))
      | false => F
    | _ => F
  | _, _ => F
/-- The method of a type that stands in no embedded field. -/
def methP (P : Program) (t : TypeId) (name : String) : Option (FuncId × Bool) :=
  ((P.info? t).bind fun i => i.methods.find? (·.name == name)).bind fun m => match m.path.toList with
    | [] => m.func
    | _ => none
/-- A call through an interface. -/
def pInvoke (P : Program) (KP : Value → Pr) (name : String) (recv : Value) (args : List Value) (r : RShape) (k : r.T → Pr) : Pr :=
  match recv with
  | .iface t v => match methP P t name with
    | some (f, true) => (match P.underlying t with
      | some (.pointer _) => pCall P f (v :: args) KP r k
      | _ => F)
    | some (f, false) => (match P.underlying t with
      | some (.pointer el) => vcLoad P el v fun x => pCall P f (x :: args) KP r k
      | some _ => pCall P f (v :: args) KP r k
      | none => F)
    | none => F
  | _ => F
def vcInvoke (P : Program) (KP : Value → Pr) (name : String) (recv : Value) (args : List Value) (rt : TypeId) (k : Value → Pr) : Pr :=
  pInvoke P KP name recv args (rshapeOf P rt) fun x => k ((rshapeOf P rt).inj x)
def isIfaceD : TypeDesc → Bool
  | .interface _ => true
  | _ => false
def vcMakeIface (P : Program) (t : TypeId) (v : Value) (k : Value → Pr) : Pr :=
  match P.underlying t with
  | some d => match isIfaceD d with
    | false => k (.iface t v)
    | true => F
  | none => F
/-- What an interface value of a certain type holds. -/
def pUnbox (v : Value) (t : TypeId) (s : Shape) (k : s.T → Pr) : Pr := fun h => ∃ x, v = .iface t (s.inj x) ∧ k x h
def otherIface (v : Value) (t : TypeId) : Prop := match v with
  | .iface u _ => u ≠ t
  | .nilIface => True
  | _ => False
def pIs (v : Value) (t : TypeId) (s : Shape) (z : Value) (k : s.T → Bool → Pr) : Pr := fun h =>
  (∃ x, v = .iface t (s.inj x) ∧ k x true h) ∨ (otherIface v t ∧ ∃ x, z = s.inj x ∧ k x false h)
def vcAssert (P : Program) (v : Value) (t : TypeId) (ok : Bool) (k : Value → Pr) : Pr :=
  match P.underlying t with
  | some d => match isIfaceD d with
    | true => F
    | false => match ok with
      | false => pUnbox v t (shapeOf P t) fun x => k ((shapeOf P t).inj x)
      | true => match zeroV P t with
        | some z => pIs v t (shapeOf P t) z fun x b => k (.tuple #[(shapeOf P t).inj x, .bool b])
        | none => F
  | none => F
def simpleKey : TypeDesc → Bool
  | .int _ | .string | .bool => true
  | _ => false
def vcLookup (P : Program) (t : TypeId) (m key : Value) (ok : Bool) (k : Value → Pr) : Pr :=
  match P.underlying t with
  | some (.map kt et) => match P.underlying kt with
    | some kd => match simpleKey kd, zeroV P et with
      | true, some z => (match m with
        | .map m => pGetS kd m key (shapeOf P et) z fun x b => match ok with
          | true => k (.tuple #[(shapeOf P et).inj x, .bool b])
          | false => k ((shapeOf P et).inj x)
        | _ => F)
      | _, _ => F
    | none => F
  | _ => F
def vcPut (P : Program) (t : TypeId) (m key v : Value) (p : Pr) : Pr :=
  match P.underlying t with
  | some (.map kt _) => match P.underlying kt with
    | some kd => match simpleKey kd with
      | true => (match m with
        | .map m => pPut kd m key v p
        | _ => F)
      | false => F
    | none => F
  | _ => F
def vcMakeSlice (P : Program) (t : TypeId) (l c : Value) (k : Value → Pr) : Pr :=
  match P.underlying t with
  | some (.slice e) => match zeroOk P e && decide (sizeP P e ≠ 0) && decide (bytesP P e ≠ 0) with
    | true => (match l, c with
      | .int .i64 l, .int .i64 c => pAssert (0 ≤ l ∧ l ≤ c ∧ Roomy c.toNat (bytesP P e)) (pNew (reps c.toNat (zc P e)) fun b => k (.slice (some ⟨b, 0, none⟩) l.toNat c.toNat))
      | _, _ => F)
    | false => F
  | _ => F

def vcCall (P : Program) (KP : Value → Pr) (c : Call) (t : TypeId) (e : Operand → EV) (k : Value → Pr) : Pr :=
  gvs (c.args.toList.map e) fun args =>
  match c.callee with
  | .builtin .len => match c.argTypes.toList, args with
    | t :: _, v :: _ => vcLen P t v k
    | _, _ => F
  | .builtin .min => vcMinMax false args k
  | .builtin .max => vcMinMax true args k
  | .builtin .append => vcAppend P c.argTypes.toList args k
  | .builtin .cap => match c.argTypes.toList, args with
    | t :: _, [v] => vcCap P t v k
    | _, _ => F
  | .builtin .copy => vcCopy P c.argTypes.toList args k
  | .builtin .clear => vcClear P c.argTypes.toList args k
  | .invoke r m => gv (e r) fun v => vcInvoke P KP m v args t k
  | .value (.func f) => pCall P f args KP (rshapeOf P t) fun x => k ((rshapeOf P t).inj x)
  | .value f => gv (e f) fun v => pCallV P v args KP (rshapeOf P t) fun x => k ((rshapeOf P t).inj x)
  | _ => F

def vcOp (P : Program) (KP : Value → Pr) (o : Oper) (e : Operand → EV) (k : Value → Pr) : Pr :=
  match o.op with
  | .move x | .assign x => gv (e x) k
  | .pick c a b => vcPick (e c) (e a) (e b) k
  | .alloc t => match zeroOk P t with
    | true => pNew (zc P t) fun b => k (.pointer (some ⟨b, 0, none⟩))
    | false => F
  | .box t x => gv (e x) fun v => match shapeOf P t with
    | .any => pAssert (v.oneCell' = true) (pNew [v] fun b => k (.pointer (some ⟨b, 0, none⟩)))
    | _ => match v with
      | .agg cs => pNew cs.toList fun b => k (.pointer (some ⟨b, 0, none⟩))
      | v => pNew [v] fun b => k (.pointer (some ⟨b, 0, none⟩))
  | .build t ps => partsOf e ps.toList fun ps => vcBuild P t ps k
  | .buildSlice t n ps => partsOf e ps.toList fun ps => vcBuildSlice P t n ps k
  | .load t a => gv (e a) fun v => vcLoad P t v k
  | .store t a x => gv (e a) fun va => gv (e x) fun v => vcStore P t va v (k undef)
  | .nilCheck x => gv (e x) fun v => match v with
    | .pointer a => pSome a fun a => k (.pointer (some a))
    | _ => F
  | .binOp op t x y _ => gv (e x) fun vx => gv (e y) fun vy => vcBin P op t y vx vy k
  | .unOp op _ x => gv (e x) fun v => vcUn op v k
  | .convert s d x => gv (e x) fun v => vcConvert P s d v k
  | .makeFunc fn fs cs => gvs (fs.toList.map e) fun fs => gvs (cs.toList.map e) fun cs => k (.func fn fs.toArray cs.toArray)
  | .slice t x lo hi mx => gv (e x) fun v => vcSlice P t v (lo.map e) (hi.map e) (mx.map e) k
  | .fieldAddr t x f => gv (e x) fun v => vcFieldAddr P t v f k
  | .field t x f => gv (e x) fun v => vcField P t v f k
  | .indexAddr t x i => gv (e x) fun v => gv (e i) fun j => vcIndexAddr P t v j k
  | .index t x i => gv (e x) fun v => gv (e i) fun j => vcIndex P t v j k
  | .extract x i => gv (e x) fun v => vcExtract v i k
  | .call c => vcCall P KP c o.type e k
  | .makeInterface t x => gv (e x) fun v => vcMakeIface P t v k
  | .typeAssert x _ t ok => gv (e x) fun v => vcAssert P v t ok k
  | .makeMap _ none => pNewObj (.map []) fun b => k (.map (some b))
  | .makeMap t (some x) => gv (e x) fun v => match v, P.underlying t with
    | .int _ _, some (.map _ _) => pNewObj (.map []) fun b => k (.map (some b))
    | _, _ => F
  | .makeSlice t l c => gv (e l) fun vl => gv (e c) fun vc => vcMakeSlice P t vl vc k
  | .lookup t m i ok => gv (e m) fun vm => gv (e i) fun vi => vcLookup P t vm vi ok k
  | .mapUpdate t m i x | .insert t m i x => gv (e m) fun vm => gv (e i) fun vi => gv (e x) fun v => vcPut P t vm vi v (k undef)
  | .range t x => gv (e x) fun v => match P.underlying t, v with
    | some .string, .string s => pNewObj (.obj (.stringIter s 0)) fun b => k (.pointer (some ⟨b, 0, none⟩))
    | _, _ => F
  | _ => F

end Go.Hl

namespace Go.Hl
section
variable {P : Program}

theorem run_sizeOf' {t : TypeId} {i : TypeInfo} (h : P.info? t = some i) (w : World) : (sizeOf t).run P w = .ok i.size w := by
  simp [sizeOf, typeInfo, h]

theorem run_size_ne {t : TypeId} (h : sizeP P t ≠ 0) (w : World) : (sizeOf t).run P w = .ok (sizeP P t) w := by
  unfold sizeP at *
  cases hi : P.info? t with
  | none => simp [hi] at h
  | some i => simp [run_sizeOf' hi]

theorem info_of_underlying {t : TypeId} {d : TypeDesc} (h : P.underlying t = some d) : ∃ i, P.info? t = some i := by
  unfold Program.underlying at h
  cases hi : P.info? t with
  | none => simp [hi] at h
  | some i => exact ⟨i, rfl⟩

theorem run_size_un {t : TypeId} {d : TypeDesc} (h : P.underlying t = some d) (w : World) : (sizeOf t).run P w = .ok (sizeP P t) w := by
  obtain ⟨i, hi⟩ := info_of_underlying h
  simp [run_sizeOf' hi, sizeP, hi]

theorem run_zero {t : TypeId} (h : zeroOk P t = true) (w : World) : ∃ z, (zeroValue t).run P w = .ok z w ∧ z.cells = (zc P t).toArray ∧ z.cells.size = sizeP P t ∧ (zc P t).length = sizeP P t := by
  unfold zeroOk at h
  cases hi : P.info? t with
  | none => simp [hi] at h
  | some i =>
    cases hz : i.zero with
    | none => simp [hi, hz] at h
    | some z =>
      simp [hi, hz] at h
      refine ⟨z, by simp [zeroValue, typeInfo, hi, hz], ?_, h, ?_⟩
      · simp [zc, hi, hz]
      · simp [zc, hi, hz, h]

def isAggD : TypeDesc → Bool
  | .struct _ | .array _ _ => true
  | _ => false

theorem run_isAgg {t : TypeId} {d : TypeDesc} (h : P.underlying t = some d) (w : World) : (isAgg t).run P w = .ok (isAggD d) w := by
  cases d <;> simp [isAgg, run_underlying h, isAggD]

theorem shape_agg {d : TypeDesc} (h : shapeD d = .agg) : isAggD d = true := by
  cases d <;> simp_all [shapeD, isAggD]

theorem shape_notAgg {d : TypeDesc} (h : shapeD d ≠ .agg) : isAggD d = false := by
  cases d <;> simp_all [shapeD, isAggD]

theorem add_zero' (a : Addr) : a.add 0 = a := rfl
theorem add_block (a : Addr) (n : Nat) : (a.add n).block = a.block := by unfold Addr.add; split <;> rfl
theorem add_off (a : Addr) (n : Nat) : (a.add n).off = a.off + n := by unfold Addr.add; split <;> simp_all
theorem add_spot {a : Addr} (h : a.spot = none) (n : Nat) : (a.add n).spot = none := by unfold Addr.add; split <;> simp_all

theorem row_cell {w : World} {b : Nat} {cs : List Value} {tot : Nat} (h : (Blk.row cs tot).At w.heap[b]?) {i : Nat} {v : Value} (hv : cs[i]? = some v) (sp : Option Nat) (hs : sp = none) :
    w.cell? ⟨b, i, sp⟩ = some v := by
  obtain ⟨s, ty, fr, ho, _, _⟩ := h
  subst hs
  have hi : i < cs.length := by
    rcases Nat.lt_or_ge i cs.length with k | k
    · exact k
    · rw [List.getElem?_eq_none k] at hv; cases hv
  simp [World.cell?, ho, List.getElem?_append_left hi, hv]

theorem cell_run {h : Heap} {w : World} (r : R h w) {a : Addr} {v : Value} (hc : h.cell a = some v) : w.cell? a = some v := by
  unfold Heap.cell at hc
  obtain ⟨b, off, spot⟩ := a
  cases spot with
  | some s => simp at hc
  | none =>
    simp only at hc
    cases hb : h b with
    | none => simp [hb] at hc
    | some x =>
      have hx := r b x hb
      cases x with
      | row cs tot => simp only [hb] at hc; exact row_cell hx hc none rfl
      | fix o =>
        cases o <;> simp only [hb] at hc <;> try cases hc
        simp only [Blk.At] at hx
        simp [World.cell?, hx, hc]
      | obj o => simp [hb] at hc
      | map es => simp [hb] at hc

theorem cut_some {cs xs : List Value} {off n : Nat} (h : cut cs off n = some xs) : xs.length = n ∧ off + n ≤ cs.length ∧ ∀ j, j < n → xs[j]? = cs[off + j]? := by
  unfold cut at h
  split at h
  · rename_i hl
    cases h
    refine ⟨by simp; omega, hl, fun j hj => ?_⟩
    rw [List.getElem?_take, if_pos hj, List.getElem?_drop]
  · cases h

theorem vals_cell {h : Heap} {a : Addr} {n : Nat} {xs : List Value} (hv : h.vals a n = some xs) : a.spot = none ∧ xs.length = n ∧ ∀ j v, xs[j]? = some v → h.cell (a.add j) = some v := by
  unfold Heap.vals at hv
  cases hs : a.spot with
  | some s => simp [hs] at hv
  | none =>
    simp only [hs] at hv
    cases hb : h a.block with
    | none => simp [hb] at hv
    | some x =>
      have key : ∀ cs : List Value, cut cs a.off n = some xs → xs.length = n ∧ ∀ j v, xs[j]? = some v → cs[a.off + j]? = some v := fun cs hc => by
        obtain ⟨h1, h2, h3⟩ := cut_some hc
        refine ⟨h1, fun j v hj => ?_⟩
        have hjn : j < n := by
          rcases Nat.lt_or_ge j n with k | k
          · exact k
          · rw [List.getElem?_eq_none (by omega)] at hj; cases hj
        rw [← h3 j hjn]; exact hj
      cases x with
      | row cs tot =>
        simp only [hb] at hv
        obtain ⟨h1, h2⟩ := key cs hv
        refine ⟨rfl, h1, fun j v hj => ?_⟩
        simp [Heap.cell, add_spot hs, add_block, hb, add_off, h2 j v hj]
      | fix o =>
        cases o <;> simp only [hb] at hv <;> try cases hv
        rename_i c t fr
        obtain ⟨h1, h2⟩ := key c.toList hv
        refine ⟨rfl, h1, fun j v hj => ?_⟩
        have := h2 j v hj
        simp [Heap.cell, add_spot hs, add_block, hb, add_off]
        simpa using this
      | obj o => simp [hb] at hv
      | map es => simp [hb] at hv

theorem vals_load {h : Heap} {w : World} (r : R h w) {a : Addr} {n : Nat} {xs : List Value} (hv : h.vals a n = some xs) : (loadCells a n).run P w = .ok xs.toArray w := by
  obtain ⟨_, h2, h3⟩ := vals_cell hv
  rw [← h2]
  exact run_loadCells_list w a xs fun j v hj => cell_run r (h3 j v hj)

theorem load_cell {h : Heap} {w : World} (r : R h w) {t : TypeId} {d : TypeDesc} (hu : P.underlying t = some d) (hd : isAggD d = false) {a : Addr} {v : Value} (hc : h.cell a = some v) :
    (loadVar t a).run P w = .ok v w := by
  simp [loadVar, run_isAgg hu, hd, cell_run r hc]

theorem load_agg {h : Heap} {w : World} (r : R h w) {t : TypeId} {d : TypeDesc} (hu : P.underlying t = some d) (hd : isAggD d = true) {a : Addr} {xs : List Value} (hc : h.vals a (sizeP P t) = some xs) :
    (loadVar t a).run P w = .ok (.agg xs.toArray) w := by
  simp [loadVar, run_isAgg hu, hd, run_size_un hu, vals_load r hc]

/- Writing. -/
theorem setCell_heap (w : World) (b off : Nat) (v : Value) (c : Array Value) (ty : TypeId) (fr : Nat × Nat) (h : w.heap[b]? = some (.cells c ty fr)) :
    (w.setCell ⟨b, off, none⟩ v).heap[b]? = some (.cells (c.setIfInBounds off v) ty fr) := by
  simp [World.setCell, Array.getElem?_modify, h]

theorem setCell_other (w : World) (b off : Nat) (v : Value) (i : Nat) (h : i ≠ b) : (w.setCell ⟨b, off, none⟩ v).heap[i]? = w.heap[i]? := by
  simp only [World.setCell, Array.getElem?_modify]
  rw [if_neg (by omega)]

theorem run_store1 {w : World} {b off : Nat} {v : Value} {c : Array Value} {ty : TypeId} {fr : Nat × Nat} (h : w.heap[b]? = some (.cells c ty fr)) (hc : Calm c.size fr)
    (ho : off < c.size) (hv : v.oneCell' = true) : (store ⟨b, off, none⟩ v).run P w = .ok () (w.setCell ⟨b, off, none⟩ v) := by
  have hf : w.frozen? ⟨b, off, none⟩ = false := by
    obtain ⟨lo, hi⟩ := fr
    simp only [World.frozen?, h, Bool.and_eq_false_iff, decide_eq_false_iff_not]
    have hc : hi ≤ lo := hc
    omega
  have hcell : w.cell? ⟨b, off, none⟩ = some c[off] := by simp [World.cell?, h, ho]
  rw [run_store P w _ v _ hv, hcell]
  simp [hf]

/-- The world behind a store of these cells. -/
def putW (w : World) (b off : Nat) : List Value → World
  | [] => w
  | v :: r => putW (w.setCell ⟨b, off, none⟩ v) b (off + 1) r

theorem putW_same (b : Nat) : ∀ (vs : List Value) (off : Nat) (w : World), (putW w b off vs).os = w.os ∧ (putW w b off vs).tape = w.tape ∧ (putW w b off vs).output = w.output ∧ (putW w b off vs).heap.size = w.heap.size ∧ ∀ i, i ≠ b → (putW w b off vs).heap[i]? = w.heap[i]?
  | [], _, _ => ⟨rfl, rfl, rfl, rfl, fun _ _ => rfl⟩
  | v :: r, off, w => by
    obtain ⟨h1, h2, h3, h4, h5⟩ := putW_same b r (off + 1) (w.setCell ⟨b, off, none⟩ v)
    exact ⟨h1, h2, h3, h4.trans (by simp [World.setCell]), fun i hi => (h5 i hi).trans (setCell_other _ _ _ _ _ hi)⟩

theorem splice_cons (cs : List Value) (off : Nat) (v : Value) (r : List Value) (h : off < cs.length) : splice (cs.set off v) (off + 1) r = splice cs off (v :: r) := by
  unfold splice
  have e1 : (cs.set off v).take (off + 1) = cs.take off ++ [v] := by
    rw [List.take_add_one]
    simp [List.take_set_of_le, h]
  have e2 : (cs.set off v).drop (off + 1 + r.length) = cs.drop (off + (v :: r).length) := by
    rw [List.drop_set_of_lt (by omega)]
    congr 1; simp; omega
  rw [e1, e2]; simp

theorem splice_length (cs : List Value) (off : Nat) (vs : List Value) (h : off + vs.length ≤ cs.length) : (splice cs off vs).length = cs.length := by
  unfold splice; simp; omega

theorem splice_nil (cs : List Value) (off : Nat) : splice cs off [] = cs := by simp [splice]

theorem putW_heap (b : Nat) (ty : TypeId) (fr : Nat × Nat) : ∀ (vs : List Value) (off : Nat) (w : World) (c : List Value), w.heap[b]? = some (.cells c.toArray ty fr) → off + vs.length ≤ c.length →
    (putW w b off vs).heap[b]? = some (.cells (splice c off vs).toArray ty fr)
  | [], off, w, c, h, _ => by rw [splice_nil]; exact h
  | v :: r, off, w, c, h, hl => by
    have h1 := setCell_heap w b off v c.toArray ty fr h
    have := putW_heap b ty fr r (off + 1) (w.setCell ⟨b, off, none⟩ v) (c.set off v) (by rw [h1]; simp) (by simp at hl ⊢; omega)
    rw [splice_cons c off v r (by simp at hl; omega)] at this
    exact this

theorem run_storeCells' (b : Nat) (ty : TypeId) (fr : Nat × Nat) : ∀ (vs : List Value) (i off : Nat) (w : World) (c : List Value), w.heap[b]? = some (.cells c.toArray ty fr) → Calm c.length fr → off + i + vs.length ≤ c.length → oneCells vs →
    (storeCells ⟨b, off, none⟩ vs i).run P w = .ok () (putW w b (off + i) vs)
  | [], _, _, _, _, _, _, _, _ => rfl
  | v :: r, i, off, w, c, h, hc, hl, h1 => by
    have hadd : (⟨b, off, none⟩ : Addr).add i = ⟨b, off + i, none⟩ := by unfold Addr.add; split <;> simp_all
    have hs := run_store1 (P := P) (off := off + i) (v := v) h (by simpa using hc) (by simp at hl ⊢; omega) (h1 v (by simp))
    have ih := run_storeCells' b ty fr r (i + 1) off (w.setCell ⟨b, off + i, none⟩ v) (c.set (off + i) v) (by rw [setCell_heap w b _ v _ ty fr h]; simp) (by simpa using hc) (by simp at hl ⊢; omega) (fun x hx => h1 x (by simp [hx]))
    simp only [storeCells, Sem.run_bind, hadd, hs, Result.andThen_ok, ih, putW]
    rw [show off + (i + 1) = off + i + 1 by omega]

/-- A store of cells into a block that is known, at a place whose cells are there (known, or not yet). -/
theorem store_cells {h : Heap} {w : World} (r : R h w) {a : Addr} {cs : List Value} {tot : Nat} (hs : a.spot = none) (hb : h a.block = some (.row cs tot)) {vs : List Value} (h1 : oneCells vs)
    {off : Nat} (ho : off ≤ cs.length) (hl : off + vs.length ≤ tot) (hoff : off = a.off) :
    ∃ w', (storeCells a vs).run P w = .ok () w' ∧ R (h.set a.block (.row (splice cs off vs) tot)) w' ∧ Fr h w (h.set a.block (.row (splice cs off vs) tot)) w' := by
  obtain ⟨b, o, s⟩ := a
  simp only at hs hoff
  subst hs; subst hoff
  obtain ⟨sp, ty, fr, ho', hlen, hc⟩ := r _ _ hb
  simp only at hb ho'
  have hlen' : (cs ++ sp).length = tot := hlen
  refine ⟨putW w b off vs, ?_, ?_, ?_⟩
  · have := run_storeCells' (P := P) b ty fr vs 0 off w (cs ++ sp) ho' (by rw [hlen']; exact hc) (by omega) h1
    simpa using this
  · obtain ⟨_, _, _, _, h5⟩ := putW_same b vs off w
    intro i x hi
    by_cases hib : i = b
    · subst hib
      simp only [Heap.set_same] at hi
      cases hi
      have hp := putW_heap i ty fr vs off w (cs ++ sp) ho' (by omega)
      refine ⟨(cs ++ sp).drop (max cs.length (off + vs.length)), ty, fr, ?_, ?_, hc⟩
      · rw [hp]
        congr 3
        unfold splice
        rw [List.take_append_of_le_length ho]
        simp only [List.append_assoc]
        congr 2
        rw [List.drop_append]
        by_cases hcase : off + vs.length ≤ cs.length
        · rw [Nat.max_eq_left hcase, show off + vs.length - cs.length = 0 by omega]; simp
        · rw [Nat.max_eq_right (by omega), List.drop_eq_nil_of_le (by omega : cs.length ≤ off + vs.length)]
          rw [List.drop_append, List.drop_eq_nil_of_le (by omega : cs.length ≤ off + vs.length)]
          simp
      · have := hlen'
        simp only [splice, List.length_append, List.length_take, List.length_drop] at *
        omega
    · rw [Heap.set_ne _ _ hib] at hi
      rw [h5 i hib]
      exact r _ _ hi
  · obtain ⟨h1, h2, h3, h4, h5⟩ := putW_same b vs off w
    refine ⟨h1, h2, h3, Nat.le_of_eq h4.symm, fun i hi hq => ?_⟩
    by_cases hib : i = b
    · subst hib
      rw [hb] at hq
      rcases hq with hq | ⟨ob, hq⟩ <;> cases hq
    · exact ⟨h5 i hib, .inr (Heap.set_ne _ _ hib)⟩

/-- A new block. -/
theorem new_block {h : Heap} {w w' : World} (r : R h w) {cs sp : List Value} {ty : TypeId} {fr : Nat × Nat} (hw : w'.heap = w.heap.push (.cells (cs ++ sp).toArray ty fr)) (ho : w'.os = w.os) (ht : w'.tape = w.tape) (hu : w'.output = w.output)
    (hc : Calm (cs ++ sp).length fr) :
    R (h.set w.heap.size (.row cs (cs ++ sp).length)) w' ∧ Fr h w (h.set w.heap.size (.row cs (cs ++ sp).length)) w' := by
  refine ⟨fun i x hi => ?_, ho, ht, hu, by rw [hw]; simp, fun i hi hq => ?_⟩
  · by_cases hib : i = w.heap.size
    · subst hib
      simp only [Heap.set_same] at hi; cases hi
      rw [hw]
      exact ⟨sp, ty, fr, by simp, rfl, hc⟩
    · rw [Heap.set_ne _ _ hib] at hi
      have hlt := r.lt hi
      rw [hw, Array.getElem?_push, if_neg (by omega)]
      exact r _ _ hi
  · have hib : i ≠ w.heap.size := by omega
    rw [Heap.set_ne _ _ hib]
    refine ⟨?_, .inr rfl⟩
    rw [hw, Array.getElem?_push, if_neg (by omega)]

end
end Go.Hl

namespace Go.Hl

def Fits (e : Operand → EV) (ρ : Operand → Value) : Prop := ∀ x v, (e x).get = some v → ρ x = v

def OpTo (P : Program) (o : Oper) (ρ : Operand → Value) (w : World) (N X : Value → World → Prop) : Prop :=
  match (execOp ρ o).run P w with
  | .ok (.value v) w' => N v w'
  | .ok .skip w' => N undef w'
  | .ok (.enter f args) w' => Calls P f args w' fun e w'' => match e with
    | .returned v => N v w''
    | .panicked [p] => p.recovered = false ∧ p.goexit = false ∧ X p.v w''
    | _ => False
  | .halt (.panic v) w' => X v w'
  | _ => False

/-- In every world of which h is true. -/
def SemE (P : Program) (o : Oper) (e : Operand → EV) (KP k : Value → Pr) : Pr := fun h =>
  ∀ ρ w, Fits e ρ → R h w → OpTo P o ρ w (fun v w' => Ends h w (k v) w') (fun v w' => Ends h w (KP v) w')

def Yld (P : Program) (o : Oper) (e : Operand → EV) (v : Value) : Prop := ∀ ρ w, Fits e ρ → (execOp ρ o).run P w = .ok (.value v) w
def SemP (P : Program) (o : Oper) (e : Operand → EV) (k : Value → Pr) : Pr := fun h => ∃ v, Yld P o e v ∧ k v h

/-- What a load has read is there. -/
def loadF (P : Program) (t : TypeId) (va v : Value) : Pr := fun h =>
  match va with
  | .pointer (some a) => match P.underlying t with
    | some d => match shapeD d with
      | .agg => ∃ cs, h.vals a (sizeP P t) = some cs ∧ v = .agg cs.toArray
      | _ => h.cell a = some v
    | none => False
  | _ => False

def YldL (P : Program) (o : Oper) (e : Operand → EV) (f : Pr) (v : Value) : Prop := ∀ h ρ w, f h → Fits e ρ → R h w → (execOp ρ o).run P w = .ok (.value v) w
def SemL (P : Program) (o : Oper) (e : Operand → EV) (f : Value → Pr) (k : Value → Pr) : Pr := fun h => ∃ v, YldL P o e (f v) v ∧ f v h ∧ k v h

/-- The operation lays a new block. -/
def News (P : Program) (o : Oper) (e : Operand → EV) (cs : List Value) (mk : Nat → Value) : Prop :=
  ∀ ρ w, Fits e ρ → ∃ w' ty, (execOp ρ o).run P w = .ok (.value (mk w.heap.size)) w' ∧ w'.heap = w.heap.push (.cells cs.toArray ty (0, 0)) ∧ w'.os = w.os ∧ w'.tape = w.tape ∧ w'.output = w.output
def SemA (P : Program) (o : Oper) (e : Operand → EV) (k : Value → Pr) : Pr := fun h =>
  ∃ cs mk, News P o e cs mk ∧ ∀ b, h b = none → k (mk b) (h.set b (.row cs cs.length))

section
variable {P : Program} {o : Oper} {e : Operand → EV} {KP k : Value → Pr} {h : Heap}

theorem SemP.toE (s : SemP P o e k h) : SemE P o e KP k h := fun ρ w hf r => by
  obtain ⟨v, hy, hk⟩ := s
  simp only [OpTo, hy ρ w hf]
  exact .here r hk

theorem SemL.toE {f : Value → Pr} (s : SemL P o e f k h) : SemE P o e KP k h := fun ρ w hf r => by
  obtain ⟨v, hy, hfv, hk⟩ := s
  simp only [OpTo, hy h ρ w hfv hf r]
  exact .here r hk

theorem calm0 (n : Nat) : Calm n (0, 0) := Nat.le_refl _

theorem SemA.toE (s : SemA P o e k h) : SemE P o e KP k h := fun ρ w hf r => by
  obtain ⟨cs, mk, hn, hk⟩ := s
  obtain ⟨w', ty, hr, hw, ho, ht, hu⟩ := hn ρ w hf
  simp only [OpTo, hr]
  have nb := new_block r (cs := cs) (sp := []) (ty := ty) (fr := (0, 0)) (by simpa using hw) ho ht hu (calm0 _)
  simp only [List.append_nil] at nb
  exact ⟨_, hk _ r.fresh, nb.1, nb.2⟩

theorem SemE.mono {KP' k' : Value → Pr} (s : SemE P o e KP k h) (m : ∀ v g, k v g → k' v g) (mp : ∀ v g, KP v g → KP' v g) : SemE P o e KP' k' h := fun ρ w hf r => by
  have := s ρ w hf r
  unfold OpTo at *
  generalize (execOp ρ o).run P w = res at *
  cases res with
  | ok n w' =>
    cases n <;> simp only at this ⊢ <;> first
      | exact this.mono (m _)
      | (refine this.mono fun en w'' he => ?_
         cases en with
         | returned v => exact he.mono (m v)
         | panicked ch => cases ch with
           | nil => exact he
           | cons p t => cases t with
             | nil => exact ⟨he.1, he.2.1, he.2.2.mono (mp _)⟩
             | cons _ _ => exact he
         | outgrown => exact he)
  | halt x w' => cases x <;> simp only at this ⊢ <;> exact this.mono (mp _)

/-- The frame rule of an operation. -/
theorem SemE.frame {b : Nat} {x : Blk} (s : SemE P o e KP k h) (hb : h b = none) :
    SemE P o e (fun v g => ∃ h', KP v h' ∧ h' b = none ∧ g = h'.set b x) (fun v g => ∃ h', k v h' ∧ h' b = none ∧ g = h'.set b x) (h.set b x) := fun ρ w hf r => by
  have := s ρ w hf (r.mono (Heap.le_set_new (Heap.le_refl h) hb x))
  unfold OpTo at *
  generalize (execOp ρ o).run P w = res at *
  cases res with
  | ok n w' =>
    cases n <;> simp only at this ⊢ <;> first
      | exact this.frame r hb
      | (refine this.mono fun en w'' he => ?_
         cases en with
         | returned v => exact he.frame r hb
         | panicked ch => cases ch with
           | nil => exact he
           | cons p t => cases t with
             | nil => exact ⟨he.1, he.2.1, he.2.2.frame r hb⟩
             | cons _ _ => exact he
         | outgrown => exact he)
  | halt x w' => cases x <;> simp only at this ⊢ <;> exact this.frame r hb

theorem gv_some {x : EV} {k : Value → Pr} (s : gv x k h) : ∃ v, x.get = some v ∧ k v h := by
  unfold gv at s
  cases hx : x.get with
  | none => simp [hx] at s; exact s.elim
  | some v => simp [hx] at s; exact ⟨v, rfl, s⟩

theorem gvs_some : ∀ {l : List EV} {k : List Value → Pr}, gvs l k h → ∃ vs, l.map EV.get = vs.map some ∧ k vs h
  | [], k, s => ⟨[], rfl, s⟩
  | x :: r, k, s => by
    obtain ⟨v, hv, s⟩ := gv_some s
    obtain ⟨vs, hvs, s⟩ := gvs_some s
    exact ⟨v :: vs, by simp [hv, hvs], s⟩

theorem fits_map {ρ : Operand → Value} (hf : Fits e ρ) : ∀ (l : List Operand) (vs : List Value), (l.map e).map EV.get = vs.map some → l.map ρ = vs
  | [], [], _ => rfl
  | [], _ :: _, hh => by simp at hh
  | _ :: _, [], hh => by simp at hh
  | x :: l, v :: vs, hh => by
    simp only [List.map_cons, List.cons.injEq] at hh
    simp only [List.map_cons]
    rw [hf x v hh.1, fits_map hf l vs hh.2]

theorem fits_arr {ρ : Operand → Value} (hf : Fits e ρ) (l : Array Operand) (vs : List Value) (hh : (l.toList.map e).map EV.get = vs.map some) : l.map ρ = vs.toArray := by
  apply Array.ext'
  simp [fits_map hf l.toList vs hh]

/-- An operation that yields a value, whatever is known of the heap. -/
theorem mkP {v : Value} (hy : ∀ ρ w, Fits e ρ → (execOp ρ o).run P w = .ok (.value v) w) (hk : k v h) : SemP P o e k h := ⟨v, hy, hk⟩

theorem sem_move {x : Operand} (ho : o.op = .move x ∨ o.op = .assign x) (s : gv (e x) k h) : SemP P o e k h := by
  obtain ⟨v, hv, s⟩ := gv_some s
  refine mkP (fun ρ w hf => ?_) s
  rcases ho with ho | ho <;> simp [execOp, ho, hf x v hv]

theorem pickV_some {c : Bool} {x y : Value} (s : pickV c x y k h) : k (if c = true then x else y) h := by
  unfold pickV at s
  cases x <;> cases y <;> simp only at s <;> first | exact s.elim | skip
  · cases c <;> simpa using s
  · rename_i i a j b
    by_cases hij : i = j
    · subst hij; cases c <;> simpa using s
    · simp only [hij, if_false] at s; exact s.elim
  · cases c <;> simpa using s

theorem sem_pick {c a b : Operand} (ho : o.op = .pick c a b) (s : vcPick (e c) (e a) (e b) k h) : SemP P o e k h := by
  unfold vcPick at s
  cases hc : e c with
  | un => simp only [hc] at s; exact s.elim
  | sk => simp only [hc] at s; exact s.elim
  | over => simp only [hc] at s; exact s.elim
  | step _ _ => simp only [hc] at s; exact s.elim
  | tt =>
    simp only [hc] at s
    obtain ⟨v, hv, s⟩ := gv_some s
    exact mkP (fun ρ w hf => by simp [execOp, ho, hf c (.bool true) (by rw [hc]; rfl), asBool, hf a v hv]) s
  | ff =>
    simp only [hc] at s
    obtain ⟨v, hv, s⟩ := gv_some s
    exact mkP (fun ρ w hf => by simp [execOp, ho, hf c (.bool false) (by rw [hc]; rfl), asBool, hf b v hv]) s
  | val c' =>
    cases c' <;> simp only [hc] at s <;> first | exact s.elim | skip
    rename_i c'
    obtain ⟨x, hx, s⟩ := gv_some s
    obtain ⟨y, hy, s⟩ := gv_some s
    exact mkP (fun ρ w hf => by simp [execOp, ho, hf c (.bool c') (by rw [hc]; rfl), asBool, hf a x hx, hf b y hy]) (pickV_some s)

theorem sem_alloc {t : TypeId} (ho : o.op = .alloc t) (hz : zeroOk P t = true) (s : pNew (zc P t) (fun b => k (.pointer (some ⟨b, 0, none⟩))) h) : SemA P o e k h :=
  ⟨zc P t, fun b => .pointer (some ⟨b, 0, none⟩), fun ρ w hf => by
    obtain ⟨z, hz1, hz2, _⟩ := run_zero hz w
    exact ⟨w.alloc (.cells (zc P t).toArray t), t, by simp [execOp, ho, Instr.alloc, hz1, newVar, newRow, hz2], rfl, rfl, rfl, rfl⟩, fun b hb => s b hb⟩

theorem one_cells {v : Value} (h : v.oneCell' = true) : v.cells.toList = [v] := by cases v <;> first | rfl | (simp [Value.oneCell'] at h; done)

theorem sem_box {t : TypeId} {x : Operand} (ho : o.op = .box t x)
    (s : gv (e x) (fun v => match shapeOf P t with
    | .any => pAssert (v.oneCell' = true) (pNew [v] fun b => k (.pointer (some ⟨b, 0, none⟩)))
    | _ => match v with
      | .agg cs => pNew cs.toList fun b => k (.pointer (some ⟨b, 0, none⟩))
      | v => pNew [v] fun b => k (.pointer (some ⟨b, 0, none⟩))) h) : SemA P o e k h := by
  obtain ⟨v, hv, s⟩ := gv_some s
  have s' : ∀ b, h b = none → k (.pointer (some ⟨b, 0, none⟩)) (h.set b (.row v.cells.toList v.cells.toList.length)) := fun b hb => by
    by_cases hs : shapeOf P t = .any
    · simp only [hs] at s
      rw [one_cells s.1]
      exact s.2 b hb
    · have s2 : (match v with
        | .agg cs => pNew cs.toList fun b => k (.pointer (some ⟨b, 0, none⟩))
        | v => pNew [v] fun b => k (.pointer (some ⟨b, 0, none⟩))) h := by
        cases hsh : shapeOf P t <;> simp only [hsh] at s hs <;> first | exact absurd trivial hs | exact s
      cases v <;> exact s2 b hb
  exact ⟨v.cells.toList, fun b => .pointer (some ⟨b, 0, none⟩), fun ρ w hf =>
    ⟨w.alloc (.cells v.cells t), t, by simp [execOp, ho, Instr.box, newVar, newRow, hf x v hv], rfl, rfl, rfl, rfl⟩, s'⟩

theorem parts_some : ∀ {l : List (Nat × Operand)} {k : List (Nat × Value) → Pr}, partsOf e l k h → ∃ vs, (∀ ρ, Fits e ρ → l.map (fun (i, x) => (i, ρ x)) = vs) ∧ k vs h
  | [], k, s => ⟨[], fun _ _ => rfl, s⟩
  | (i, x) :: r, k, s => by
    obtain ⟨v, hv, s⟩ := gv_some s
    obtain ⟨vs, hvs, s⟩ := parts_some s
    exact ⟨(i, v) :: vs, fun ρ hf => by simp [hf x v hv, ← hvs ρ hf], s⟩

theorem yld_load {t : TypeId} {x : Operand} (ho : o.op = .load t x) {va : Value} (hv : (e x).get = some va) (v : Value) : YldL P o e (loadF P t va v) v := fun h ρ w hfv hf r => by
  unfold loadF at hfv
  cases va <;> try exact hfv.elim
  rename_i a
  cases a with
  | none => exact hfv.elim
  | some a =>
    simp only at hfv
    cases hu : P.underlying t with
    | none => simp [hu] at hfv
    | some d =>
      simp only [hu] at hfv
      by_cases hs : shapeD d = .agg
      · simp only [hs] at hfv
        obtain ⟨cs, hc, rfl⟩ := hfv
        simp [execOp, ho, hf x _ hv, Instr.loadAt, Instr.sureAddr, load_agg r hu (shape_agg hs) hc]
      · have hc : h.cell a = some v := by
          cases hd : shapeD d <;> simp only [hd] at hfv hs <;> first | exact hfv | exact absurd trivial hs
        simp [execOp, ho, hf x _ hv, Instr.loadAt, Instr.sureAddr, load_cell r hu (shape_notAgg hs) hc]

theorem sem_load {t : TypeId} {x : Operand} (ho : o.op = .load t x) {va : Value} (hv : (e x).get = some va) (s : vcLoad P t va k h) : SemL P o e (loadF P t va) k h := by
  have hy := fun v => yld_load (P := P) (o := o) (e := e) ho hv v
  unfold vcLoad at s
  unfold loadF at hy ⊢
  cases va <;> try exact s.elim
  rename_i a
  cases a with
  | none => exact s.elim
  | some a =>
    simp only at s hy ⊢
    cases hu : P.underlying t with
    | none => simp only [hu] at s; exact s.elim
    | some d =>
      simp only [hu] at s hy ⊢
      by_cases hs : shapeD d = .agg
      · simp only [hs] at s hy ⊢
        obtain ⟨cs, hc, hk⟩ := s
        exact ⟨_, hy _, ⟨cs, hc, rfl⟩, hk⟩
      · cases hd : shapeD d <;> simp only [hd] at s hy hs ⊢ <;> first
          | exact absurd trivial hs
          | (obtain ⟨y, hc, hk⟩ := s; exact ⟨_, hy _, hc, hk⟩)

end
end Go.Hl

namespace Go.Hl

theorem foldl_splice : ∀ (vs : List Value) (n off : Nat) (cs : List Value), off + n + vs.length ≤ cs.length →
    (vs.zipIdx n).foldl (fun (cs : Array Value) (x : Value × Nat) => cs.setIfInBounds (off + x.2) x.1) cs.toArray = (splice cs (off + n) vs).toArray
  | [], n, off, cs, _ => by simp [splice_nil]
  | v :: r, n, off, cs, h => by
    simp only [List.length_cons] at h
    simp only [List.zipIdx_cons, List.foldl_cons]
    have : cs.toArray.setIfInBounds (off + n) v = (cs.set (off + n) v).toArray := by simp
    rw [this, foldl_splice r (n + 1) off (cs.set (off + n) v) (by simp; omega), show off + (n + 1) = off + n + 1 by omega, splice_cons _ _ _ _ (by omega)]

def laid (cs : List Value) (off : Nat) (v : Value) : List Value := match v with | .agg xs => splice cs off xs.toList | v => cs.set off v

theorem lay_cons (cs : List Value) (off : Nat) (v : Value) (r : List (Nat × Value)) : lay cs ((off, v) :: r) = lay (laid cs off v) r := rfl

theorem splice_one (cs : List Value) (off : Nat) (v : Value) (h : off < cs.length) : splice cs off [v] = cs.set off v := by
  rw [← splice_cons cs off v [] h, splice_nil]

theorem laid_eq (cs : List Value) (off : Nat) (v : Value) (h : off + v.cells.size ≤ cs.length) : laid cs off v = splice cs off v.cells.toList := by
  unfold laid
  cases v <;> simp only [Value.cells] at h ⊢ <;> first
    | rfl
    | (simp only [List.size_toArray, List.length_cons, List.length_nil] at h; exact (splice_one cs off _ (by omega)).symm)

theorem fill_lay (place : Nat → Option (Nat × Nat)) : ∀ (parts : List (Nat × Value)) (ps : List (Nat × Nat × Value)) (cs : List Value),
    parts.map (fun p => (place p.1).map fun q => (q.1, q.2, p.2)) = ps.map some → (∀ p ∈ ps, p.2.2.cells.size = p.2.1 ∧ p.1 + p.2.1 ≤ cs.length) →
    Instr.fill place cs.toArray parts = some (lay cs (ps.map fun p => (p.1, p.2.2))).toArray
  | [], [], cs, _, _ => rfl
  | [], _ :: _, _, h, _ => by simp at h
  | _ :: _, [], _, h, _ => by simp at h
  | (i, v) :: parts, (off, size, v') :: ps, cs, h, hok => by
    simp only [List.map_cons, List.cons.injEq] at h
    obtain ⟨h1, h2⟩ := h
    cases hp : place i with
    | none => simp [hp] at h1
    | some q =>
      obtain ⟨qo, qs⟩ := q
      simp only [hp, Option.map_some, Option.some.injEq, Prod.mk.injEq] at h1
      obtain ⟨rfl, rfl, rfl⟩ := h1
      obtain ⟨hsz, hin⟩ := hok _ (List.mem_cons_self ..)
      simp only at hsz hin
      simp only [Instr.fill, hp, hsz]
      rw [if_neg (by simp; omega)]
      have hf := foldl_splice v.cells.toList 0 qo cs (by simp [hsz]; omega)
      have e : (v.cells.zipIdx.foldl (fun cs (x : Value × Nat) => cs.setIfInBounds (qo + x.2) x.1) cs.toArray) = (splice cs qo v.cells.toList).toArray := by
        rw [← Array.foldl_toList, Array.toList_zipIdx, hf]; rfl
      have e2 : (v.cells.zipIdx.foldl (fun (cs : Array Value) (x : Value × Nat) => match x with | (c, j) => cs.setIfInBounds (qo + j) c) cs.toArray) = (splice cs qo v.cells.toList).toArray := e
      simp only [List.map_cons, lay_cons, laid_eq cs qo v (by omega)]
      have ih := fill_lay place parts ps (splice cs qo v.cells.toList) h2 (fun p hp => by
        have := hok p (List.mem_cons_of_mem _ hp)
        rwa [splice_length _ _ _ (by simp [hsz]; omega)])
      rw [← ih]
      congr 1

theorem pFits_all {p : Pr} {h : Heap} : ∀ {l : List (Nat × Value)}, pFits l p h → (∀ x ∈ l, x.2.cells.size = x.1) ∧ p h
  | [], s => ⟨by simp, s⟩
  | (size, v) :: r, s => by
    by_cases hv : ∃ xs, v = .agg xs
    · obtain ⟨xs, rfl⟩ := hv
      simp only [pFits] at s
      obtain ⟨h1, s⟩ := s
      obtain ⟨h2, s⟩ := pFits_all s
      refine ⟨fun x hx => ?_, s⟩
      rcases List.mem_cons.1 hx with rfl | hx
      · simpa [Value.cells] using h1
      · exact h2 x hx
    · have hc : v.cells.size = 1 := by cases v <;> first | rfl | exact absurd ⟨_, rfl⟩ hv
      by_cases h1 : size = 1
      · subst h1
        have s' : pFits r p h := by cases v <;> first | exact s | exact absurd ⟨_, rfl⟩ hv
        obtain ⟨h2, s⟩ := pFits_all s'
        refine ⟨fun x hx => ?_, s⟩
        rcases List.mem_cons.1 hx with rfl | hx
        · exact hc
        · exact h2 x hx
      · exfalso
        cases v <;> first | exact absurd ⟨_, rfl⟩ hv | skip
        all_goals
          rcases size with _ | _ | n
          · exact s
          · exact absurd rfl h1
          · exact s

theorem inRange_all {n : Nat} {ps : List (Nat × Nat × Value)} (h : inRange n ps = true) : ∀ p ∈ ps, p.1 + p.2.1 ≤ n := by
  unfold inRange at h
  intro p hp
  simpa using List.all_eq_true.1 h p hp

theorem placesOf_eq {P : Program} {fs : Array Field} : ∀ {parts : List (Nat × Value)} {ps : List (Nat × Nat × Value)}, placesOf P fs parts = some ps →
    parts.map (fun p => ((fs.toList.map fun (f : Field) => (f.offset, sizeP P f.type)).toArray[p.1]?).map fun q => (q.1, q.2, p.2)) = ps.map some
  | [], ps, h => by simp [placesOf] at h; subst h; rfl
  | (i, v) :: r, ps, h => by
    simp only [placesOf, List.mapM_cons] at h
    cases hf : fs[i]? with
    | none => simp [hf] at h
    | some f =>
      simp only [hf, Option.map_some, Option.bind_eq_bind, Option.bind_some] at h
      cases hr : placesOf P fs r with
      | none => simp only [placesOf] at hr; simp [hr] at h
      | some ps' =>
        have hr' := hr
        simp only [placesOf] at hr
        simp only [hr, Option.bind_some, Option.pure_def, Option.some.injEq] at h
        subst h
        have := placesOf_eq (P := P) (fs := fs) (parts := r) (ps := ps') hr'
        simp only [List.map_cons, this, List.cons.injEq, and_true]
        simp [hf]

section
variable {P : Program} {o : Oper} {e : Operand → EV} {KP k : Value → Pr} {h : Heap}

theorem places_mapM : ∀ (fs : List Field), fs.all (fun f => (P.info? f.type).isSome) = true →
    fs.mapM (fun f => (P.info? f.type).map fun i => (f.offset, i.size)) = some (fs.map fun f => (f.offset, sizeP P f.type))
  | [], _ => by simp
  | f :: r, hh => by
    simp only [List.all_cons, Bool.and_eq_true] at hh
    obtain ⟨i, hi⟩ := Option.isSome_iff_exists.1 hh.1
    simp [List.mapM_cons, hi, places_mapM r hh.2, sizeP]

theorem zero_info {t : TypeId} (hz : zeroOk P t = true) : ∃ i z, P.info? t = some i ∧ i.zero = some z ∧ z.cells = (zc P t).toArray ∧ (zc P t).length = sizeP P t := by
  unfold zeroOk at hz
  cases hi : P.info? t with
  | none => simp [hi] at hz
  | some i =>
    cases hzz : i.zero with
    | none => simp [hi, hzz] at hz
    | some z =>
      simp [hi, hzz] at hz
      exact ⟨i, z, rfl, hzz, by simp [zc, hi, hzz], by simp [zc, hi, hzz, hz]⟩

theorem run_build_struct {t : TypeId} {fs : Array Field} (hz : zeroOk P t = true) (hu : P.underlying t = some (.struct fs)) (hfs : fs.toList.all (fun f => (P.info? f.type).isSome) = true) {parts : List (Nat × Value)} {ps : List (Nat × Nat × Value)}
    (hp : placesOf P fs parts = some ps) (hr : inRange (sizeP P t) ps = true) (hs : ∀ x ∈ ps, x.2.2.cells.size = x.2.1) (w : World) :
    (Instr.build t parts.toArray).run P w = .ok (.agg (lay (zc P t) (ps.map fun p => (p.1, p.2.2))).toArray) w := by
  obtain ⟨i, z, hi, hz1, hz2, hz4⟩ := zero_info hz
  refine run_build w t _ _ ?_
  simp only [Program.built, hi, hu, hz1, places_mapM fs.toList hfs, hz2]
  exact fill_lay _ parts ps (zc P t) (placesOf_eq hp) (fun p hpm => ⟨hs p hpm, by rw [hz4]; exact inRange_all hr p hpm⟩)

theorem run_build_array {t el : TypeId} {n : Nat} (hz : zeroOk P t = true) (hu : P.underlying t = some (.array n el)) (hi : (P.info? el).isSome = true) {parts : List (Nat × Value)} {ps : List (Nat × Nat × Value)}
    (hp : ps = parts.map fun p => (p.1 * sizeP P el, sizeP P el, p.2)) (hr : inRange (sizeP P t) ps = true) (hs : ∀ x ∈ ps, x.2.2.cells.size = x.2.1) (w : World) :
    (Instr.build t parts.toArray).run P w = .ok (.agg (lay (zc P t) (ps.map fun p => (p.1, p.2.2))).toArray) w := by
  obtain ⟨i, z, hi', hz1, hz2, hz4⟩ := zero_info hz
  obtain ⟨ie, hie⟩ := Option.isSome_iff_exists.1 hi
  have hsz : ie.size = sizeP P el := by simp [sizeP, hie]
  refine run_build w t _ _ ?_
  simp only [Program.built, hi', hu, hz1, hie, hz2, hsz]
  exact fill_lay _ parts ps (zc P t) (by subst hp; simp) (fun p hpm => ⟨hs p hpm, by rw [hz4]; exact inRange_all hr p hpm⟩)

theorem zeros_reps (n : Nat) (zs : List Value) (size : Nat) (hs : zs.length = size) : ((Array.range (n * size)).map (fun i => zs.toArray[i % zs.toArray.size]!)) = (reps n zs).toArray := by
  apply Array.ext'
  simp only [Array.toList_map, Array.toList_range, List.size_toArray, hs]
  unfold reps
  induction n with
  | zero => simp
  | succ n ih =>
    rw [List.replicate_succ', List.flatten_append, Nat.succ_mul, List.range_add, List.map_append, ih]
    congr 1
    simp only [List.flatten_cons, List.flatten_nil, List.append_nil, List.map_map]
    apply List.ext_getElem
    · simp [hs]
    · intro i h1 h2
      simp at h1
      simp [h1, hs, Nat.mod_eq_of_lt h1]

theorem run_buildSlice' {t el : TypeId} {n : Nat} (hz : zeroOk P el = true) (hu : P.underlying t = some (.slice el)) (h0 : sizeP P el ≠ 0) (hn : n * sizeP P el ≤ 16777216) {parts : List (Nat × Value)} {ps : List (Nat × Nat × Value)}
    (hp : ps = parts.map fun p => (p.1 * sizeP P el, sizeP P el, p.2)) (hr : inRange (n * sizeP P el) ps = true) (hs : ∀ x ∈ ps, x.2.2.cells.size = x.2.1) (w : World) :
    (Instr.buildSlice t n parts.toArray).run P w = .ok (.slice (some ⟨w.heap.size, 0, none⟩) n n) (w.alloc (.cells (lay (reps n (zc P el)) (ps.map fun p => (p.1, p.2.2))).toArray el)) := by
  obtain ⟨z, hz1, hz2, hz3, hz4⟩ := run_zero hz w
  have hrl : (reps n (zc P el)).length = n * sizeP P el := by simp [reps, hz4]
  have hfill := fill_lay (fun i => some (i * sizeP P el, sizeP P el)) parts ps (reps n (zc P el)) (by subst hp; simp) (fun p hpm => ⟨hs p hpm, by rw [hrl]; exact inRange_all hr p hpm⟩)
  simp only [Instr.buildSlice, Sem.run_bind, run_underlying hu, Result.andThen_ok, run_size_ne h0]
  rw [if_neg (by omega)]
  by_cases hn0 : n = 0
  · subst hn0
    have he : (reps 0 (zc P el)) = [] := rfl
    have hfill' : Instr.fill (fun i => some (i * sizeP P el, sizeP P el)) #[] parts = some (lay (reps 0 (zc P el)) (ps.map fun p => (p.1, p.2.2))).toArray := by rw [← hfill, he]
    simp only [Nat.zero_mul, if_true, Sem.run_bind, Sem.run_pure, Result.andThen_ok]
    have hr0 : (Array.range 0).map (fun i => (#[] : Array Value)[i % (#[] : Array Value).size]!) = #[] := by apply Array.ext' ; simp
    simp only [hr0, hfill', Sem.run_bind]
    simp [newRow]
  · rw [if_neg (show ¬ n * sizeP P el = 0 from Nat.mul_ne_zero hn0 h0)]
    simp only [Sem.run_bind, hz1, Result.andThen_ok, Sem.run_pure, hz2]
    rw [zeros_reps n (zc P el) (sizeP P el) hz4]
    simp only [hfill]
    simp [newRow]

end
end Go.Hl

namespace Go.Hl
section
variable {P : Program} {o : Oper} {e : Operand → EV} {KP k : Value → Pr} {h : Heap}

theorem info_some_of_size {t : TypeId} (h : sizeP P t ≠ 0) : ∃ i, P.info? t = some i := by
  unfold sizeP at h
  cases hi : P.info? t with
  | none => simp [hi] at h
  | some i => exact ⟨i, rfl⟩

theorem eqGuard_skip {op : BinOp} {t : TypeId} {x y : Operand} {a b : Value} (ha : ∀ c, a ≠ .agg c) (hn : a ≠ .nilIface) (w : World) : (eqGuard op t x y a b).run P w = .ok () w := by
  unfold eqGuard
  cases op <;> simp <;> cases a <;> simp_all

theorem eqGuard_agg {op : BinOp} {t : TypeId} {x y : Operand} {a b : Array Value} (hm : P.eqGuardType P.depth t = false) (w : World) : (eqGuard op t x y (.agg a) (.agg b)).run P w = .ok () w :=
  run_eqGuard_agg w op t x y a b hm

/-- 'v' for an operation on two values. -/
theorem bin_run {op : BinOp} {t u : TypeId} {x y : Operand} (ho : o.op = .binOp op t x y u) {a b v : Value} (hx : (e x).get = some a) (hy : (e y).get = some b)
    (hg : ∀ w, (eqGuard op t x y a b).run P w = .ok () w) (hr : ∀ w, (binOp op t a b).run P w = .ok v w) : Yld P o e v := fun ρ w hf => by
  simp [execOp, ho, hf x a hx, hf y b hy, hg, hr]

theorem sem_int {op : BinOp} {t u : TypeId} {x y : Operand} (ho : o.op = .binOp op t x y u) {i : IntKind} {a b : Int} (hx : (e x).get = some (.int i a)) (hy : (e y).get = some (.int i b))
    (hop : op ≠ .shl ∧ op ≠ .shr) (s : vcInt op i a b k h) : SemP P o e k h := by
  have hg : ∀ w, (eqGuard op t x y (.int i a) (.int i b)).run P w = .ok () w := fun w => eqGuard_skip (by simp) (by simp) w
  have mk : ∀ v, (∀ w, (binOp op t (.int i a) (.int i b)).run P w = .ok v w) → k v h → SemP P o e k h := fun v hr hk => ⟨v, bin_run ho hx hy hg hr, hk⟩
  cases op <;> simp only [vcInt] at s <;> first
    | exact absurd rfl hop.1
    | exact absurd rfl hop.2
    | (exact mk _ (fun w => by simp [binOp, Op.intArith, Op.intBits, Op.intCmp, bitsV]) s)
    | (exact mk _ (fun w => by simp [binOp, Op.intDiv, s.1]) s.2)
    | exact s.elim

theorem sem_shift {op : BinOp} {t u : TypeId} {x y : Operand} (ho : o.op = .binOp op t x y u) {i j : IntKind} {a b : Int} (hx : (e x).get = some (.int i a)) (hy : (e y).get = some (.int j b))
    (hop : op = .shl ∨ op = .shr) (hb : 0 ≤ b) (s : k (.int i (if op = .shl then i.wrap (a * 2 ^ (min b.toNat i.bits)) else a.fdiv (2 ^ (min b.toNat i.bits)))) h) : SemP P o e k h := by
  have hg : ∀ w, (eqGuard op t x y (.int i a) (.int j b)).run P w = .ok () w := fun w => eqGuard_skip (by simp) (by simp) w
  refine ⟨_, bin_run ho hx hy hg (fun w => ?_), s⟩
  have hn : ¬ b < 0 := by omega
  rcases hop with rfl | rfl <;> simp [binOp, Op.shift, hn]

theorem equal_run {t : TypeId} {a b : Value} {r : Bool} (h : ∀ w, (Op.equal t a b).run P w = .ok r w) (ha : ∀ k n, a ≠ .int k n) (hs : ∀ s, a ≠ .string s) (hf : ∀ k n, a ≠ .float k n) (hc : ∀ k n m, a ≠ .complex k n m) (w : World) :
    (binOp .eql t a b).run P w = .ok (.bool r) w ∧ (binOp .neq t a b).run P w = .ok (.bool (!r)) w := by
  have h' := h w
  constructor <;> (cases a <;> simp_all [binOp])

end

theorem okCells_length : ∀ {l : List CT} {xs : List Value}, okCells l xs = true → xs.length = l.length
  | [], [], _ => rfl
  | [], _ :: _, h => by simp [okCells] at h
  | _ :: _, [], h => by simp [okCells] at h
  | c :: l, v :: xs, h => by
    simp only [okCells, Bool.and_eq_true] at h
    simp [okCells_length h.2]

theorem okCells_append : ∀ {l m : List CT} {xs : List Value}, okCells (l ++ m) xs = true → okCells l (xs.take l.length) = true ∧ okCells m (xs.drop l.length) = true
  | [], m, xs, h => by simpa [okCells] using h
  | c :: l, m, [], h => by simp [okCells] at h
  | c :: l, m, v :: xs, h => by
    simp only [List.cons_append, okCells, Bool.and_eq_true] at h
    obtain ⟨h1, h2⟩ := okCells_append h.2
    simp [okCells, h.1, h1, h2]

theorem eqCells_append : ∀ {l : List CT} {xs ys : List Value} {n : Nat}, okCells l (xs.take n) = true → okCells l (ys.take n) = true → n ≤ xs.length → n ≤ ys.length →
    eqCells xs ys = (eqCells (xs.take n) (ys.take n) && eqCells (xs.drop n) (ys.drop n))
  | l, xs, ys, 0, _, _, _, _ => by simp [eqCells]
  | l, [], _, n + 1, _, _, h, _ => by simp at h
  | l, _, [], n + 1, _, _, _, h => by simp at h
  | [], x :: xs, y :: ys, n + 1, h, _, _, _ => by simp [okCells] at h
  | c :: l, x :: xs, y :: ys, n + 1, hx, hy, h1, h2 => by
    simp only [List.take_succ_cons, okCells, Bool.and_eq_true] at hx hy
    simp only [List.take_succ_cons, List.drop_succ_cons, eqCells]
    rw [eqCells_append hx.2 hy.2 (by simpa using h1) (by simpa using h2), Bool.and_assoc]

section
variable {P : Program}

/-- One value of a type that is made of plain cells, packed. -/
def packV (d : TypeDesc) (xs : List Value) : Value := match d with
  | .struct _ | .array .. => .agg xs.toArray
  | _ => xs.headD undef

theorem part_run {t : TypeId} {d : TypeDesc} (hu : P.underlying t = some d) {cs : List Value} {off : Nat} {l : List CT} (hl : l.length = sizeP P t) (hok : okCells l ((cs.drop off).take l.length) = true) (hone : isAggD d = false → l.length = 1) (w : World) :
    (part t cs.toArray off).run P w = .ok (packV d ((cs.drop off).take l.length)) w := by
  by_cases hd : isAggD d = true
  · have e : packV d ((cs.drop off).take l.length) = .agg ((cs.drop off).take l.length).toArray := by
      unfold packV; unfold isAggD at hd; cases d <;> simp_all
    rw [e]
    simp only [part, Sem.run_bind, run_isAgg hu, hd, Result.andThen_ok, if_true, run_size_un hu, ← hl]
    simp
  · have hd' : isAggD d = false := by simpa using hd
    have h1 := hone hd'
    rw [h1] at hok ⊢
    have hlen := okCells_length hok
    rw [h1] at hlen
    have e : packV d ((cs.drop off).take 1) = ((cs.drop off).take 1).headD undef := by
      unfold packV; unfold isAggD at hd'; cases d <;> simp_all
    rw [e]
    have hlt : off < cs.length := by simp at hlen; omega
    simp only [part, Sem.run_bind, run_isAgg hu, hd', Result.andThen_ok, Bool.false_eq_true, if_false]
    have hg : cs.toArray[off]? = some cs[off] := by simp [hlt]
    have hh : (cs.drop off).take 1 = [cs[off]] := by
      rw [List.drop_eq_getElem_cons hlt]; rfl
    rw [hh]
    simp [hlt]

theorem okCells_one {c : CT} {xs : List Value} (h : okCells [c] xs = true) : ∃ v, xs = [v] ∧ okCell c v = true := by
  cases xs with
  | nil => simp [okCells] at h
  | cons v r => cases r with
    | nil => exact ⟨v, rfl, by simpa [okCells] using h⟩
    | cons _ _ => simp [okCells] at h

theorem cells_size (t : TypeId) : P.cellsOf t = sizeP P t := rfl

theorem items_eq {D : Nat} {el : TypeId} {de : TypeDesc} {m : List CT} (hue : P.underlying el = some de) (hm : m.length = sizeP P el)
    (key : ∀ xs ys, okCells m xs = true → okCells m ys = true → (isAggD de = false → m.length = 1) ∧ ∀ w, (Op.equalIn D el (packV de xs) (packV de ys)).run P w = .ok (eqCells xs ys) w) (xs ys : List Value) :
    ∀ (n j : Nat), okCells (List.replicate n m).flatten (xs.drop (j * sizeP P el)) = true → okCells (List.replicate n m).flatten (ys.drop (j * sizeP P el)) = true → ∀ w,
      (Op.eqItems D el (P.cellsOf el) xs.toArray ys.toArray (List.range' j n)).run P w = .ok (eqCells (xs.drop (j * sizeP P el)) (ys.drop (j * sizeP P el))) w
  | 0, j, hx, hy, w => by
    have h1 := okCells_length hx
    have h2 := okCells_length hy
    simp only [List.replicate_zero, List.flatten_nil, List.length_nil, List.length_eq_zero_iff] at h1 h2
    rw [h1, h2]
    simp [Op.eqItems, eqCells]
  | n + 1, j, hx, hy, w => by
    rw [List.replicate_succ, List.flatten_cons] at hx hy
    obtain ⟨hx1, hx2⟩ := okCells_append hx
    obtain ⟨hy1, hy2⟩ := okCells_append hy
    rw [List.drop_drop, hm, show j * sizeP P el + sizeP P el = (j + 1) * sizeP P el by rw [Nat.succ_mul]] at hx2 hy2
    have kk := key _ _ hx1 hy1
    have ih := items_eq hue hm key xs ys n (j + 1) hx2 hy2 w
    rw [List.range'_succ]
    simp only [Op.eqItems, Sem.run_bind]
    rw [cells_size, part_run hue hm hx1 kk.1, Result.andThen_ok, part_run hue hm hy1 kk.1, Result.andThen_ok, kk.2 w, Result.andThen_ok]
    have e := eqCells_append (l := m) (xs := xs.drop (j * sizeP P el)) (ys := ys.drop (j * sizeP P el)) (n := m.length) hx1 hy1
      (by have := okCells_length hx; rw [List.length_append] at this; omega) (by have := okCells_length hy; rw [List.length_append] at this; omega)
    rw [e, List.drop_drop, List.drop_drop, hm, show j * sizeP P el + sizeP P el = (j + 1) * sizeP P el by rw [Nat.succ_mul]]
    cases heq : eqCells ((xs.drop (j * sizeP P el)).take (sizeP P el)) ((ys.drop (j * sizeP P el)).take (sizeP P el)) with
    | false => simp
    | true =>
      simp only [Bool.not_true, Bool.false_eq_true, if_false, Bool.true_and]
      rw [cells_size] at ih
      exact ih

theorem flat_un {d : Nat} {t : TypeId} {l : List CT} (h : flatTy P d t = some l) : ∃ de, P.underlying t = some de := by
  cases d with
  | zero => simp [flatTy] at h
  | succ d =>
    cases hue : P.underlying t with
    | none => simp [flatTy, hue] at h
    | some de => exact ⟨de, rfl⟩

theorem flat_eq : ∀ (D d : Nat), d ≤ D →
    (∀ (t : TypeId) (l : List CT) (dd : TypeDesc) (xs ys : List Value), flatTy P d t = some l → P.underlying t = some dd → okCells l xs = true → okCells l ys = true →
      (isAggD dd = false → l.length = 1) ∧ ∀ w, (Op.equalIn D t (packV dd xs) (packV dd ys)).run P w = .ok (eqCells xs ys) w) ∧
    (∀ (off : Nat) (fs : List Field) (l : List CT) (xs ys : List Value), flatFs P d off fs = some l → okCells l (xs.drop off) = true → okCells l (ys.drop off) = true → ∀ w,
      (Op.eqFields (D - 1) xs.toArray ys.toArray fs).run P w = .ok (eqCells (xs.drop off) (ys.drop off)) w)
  | _, 0, _ => ⟨fun t l dd xs ys h => by simp [flatTy] at h, fun off fs l xs ys h => by simp [flatFs] at h⟩
  | 0, d + 1, h => by omega
  | D + 1, d + 1, hle => by
    have ih := flat_eq D d (by omega)
    have ihf := (flat_eq (D + 1) d (by omega)).2
    refine ⟨fun t l dd xs ys hf hu hx hy => ?_, fun off fs l xs ys hf hx hy w => ?_⟩
    · simp only [flatTy, hu] at hf
      cases dd <;> simp only at hf <;> try (cases hf; done)
      case bool =>
        cases hf
        obtain ⟨a, rfl, ha⟩ := okCells_one hx
        obtain ⟨b, rfl, hb⟩ := okCells_one hy
        cases a <;> simp [okCell] at ha
        cases b <;> simp [okCell] at hb
        exact ⟨fun _ => rfl, fun w => by simp [packV, run_equalIn_bool w D t _ _ hu, eqCells, eqv]⟩
      case int kk =>
        cases hf
        obtain ⟨a, rfl, ha⟩ := okCells_one hx
        obtain ⟨b, rfl, hb⟩ := okCells_one hy
        cases a <;> simp [okCell] at ha
        cases b <;> simp [okCell] at hb
        subst ha; subst hb
        exact ⟨fun _ => rfl, fun w => by simp [packV, run_equalIn_int w D t _ _ _ _ hu, eqCells, eqv]⟩
      case string =>
        cases hf
        obtain ⟨a, rfl, ha⟩ := okCells_one hx
        obtain ⟨b, rfl, hb⟩ := okCells_one hy
        cases a <;> simp [okCell] at ha
        cases b <;> simp [okCell] at hb
        exact ⟨fun _ => rfl, fun w => by simp [packV, run_equalIn_string w D t _ _ hu, eqCells, eqv, strEq]⟩
      case struct fs =>
        refine ⟨fun h => by simp [isAggD] at h, fun w => ?_⟩
        by_cases hs : P.stoodInHeld t = true
        · simp [hs] at hf
        · simp only [hs, if_false, Bool.false_eq_true] at hf
          have hfo : P.fieldsOf t = fs := by simp [Program.fieldsOf, hu]
          rw [show packV (.struct fs) xs = .agg xs.toArray from rfl, show packV (.struct fs) ys = .agg ys.toArray from rfl,
            run_equalIn_struct w D t _ _ (by rw [hfo]; exact hu) (by simpa using hs), hfo]
          have := ihf 0 fs.toList l xs ys hf (by simpa using hx) (by simpa using hy) w
          simpa using this
      case array n el =>
        refine ⟨fun h => by simp [isAggD] at h, fun w => ?_⟩
        cases hfe : flatTy P d el with
        | none => simp [hfe] at hf
        | some m =>
          simp only [hfe, Option.bind_some] at hf
          by_cases hm : m.length = sizeP P el
          · simp only [hm, if_true, Option.some.injEq] at hf
            subst hf
            obtain ⟨de, hue⟩ := flat_un hfe
            obtain ⟨i, hi⟩ := info_of_underlying hue
            rw [show packV (.array n el) xs = .agg xs.toArray from rfl, show packV (.array n el) ys = .agg ys.toArray from rfl, run_equalIn_array w D _ _ hu hi]
            have := items_eq hue hm (fun xs ys h1 h2 => ih.1 el m de xs ys hfe hue h1 h2) xs ys n 0 (by simpa using hx) (by simpa using hy) w
            simpa [List.range_eq_range'] using this
          · simp [hm] at hf
    · cases fs with
      | nil =>
        simp only [flatFs, Option.some.injEq] at hf
        subst hf
        have h1 := okCells_length hx
        have h2 := okCells_length hy
        simp only [List.length_nil, List.length_eq_zero_iff] at h1 h2
        rw [h1, h2]
        simp [Op.eqFields, eqCells]
      | cons f fs =>
        simp only [flatFs] at hf
        by_cases hn : (f.name == "_" || f.offset != off) = true
        · simp [hn] at hf
        · simp only [hn, if_false, Bool.false_eq_true] at hf
          simp only [Bool.or_eq_true, beq_iff_eq, bne_iff_ne, ne_eq, not_or, Decidable.not_not] at hn
          obtain ⟨hn1, hn2⟩ := hn
          cases hfe : flatTy P d f.type with
          | none => simp [hfe] at hf
          | some m =>
            simp only [hfe, Option.bind_some] at hf
            by_cases hm : m.length = sizeP P f.type
            · simp only [hm, if_true] at hf
              cases hr : flatFs P d (off + sizeP P f.type) fs with
              | none => simp [hr] at hf
              | some r =>
                simp only [hr, Option.map_some, Option.some.injEq] at hf
                subst hf
                obtain ⟨de, hue⟩ := flat_un hfe
                obtain ⟨hx1, hx2⟩ := okCells_append hx
                obtain ⟨hy1, hy2⟩ := okCells_append hy
                have key := ih.1 f.type m de _ _ hfe hue hx1 hy1
                rw [List.drop_drop, hm] at hx2 hy2
                have e := eqCells_append (l := m) (xs := xs.drop off) (ys := ys.drop off) (n := m.length) hx1 hy1
                  (by have := okCells_length hx; rw [List.length_append] at this; omega) (by have := okCells_length hy; rw [List.length_append] at this; omega)
                have rest := ihf (off + sizeP P f.type) fs r xs ys hr hx2 hy2 w
                simp only [Nat.add_sub_cancel] at rest ⊢
                simp only [Op.eqFields, hn1, ne_eq, not_false_eq_true, if_true, Sem.run_bind]
                rw [hn2, part_run hue hm hx1 key.1, Result.andThen_ok, part_run hue hm hy1 key.1, Result.andThen_ok, key.2 w, Result.andThen_ok]
                rw [e, List.drop_drop, List.drop_drop, hm]
                cases heq : eqCells ((xs.drop off).take (sizeP P f.type)) ((ys.drop off).take (sizeP P f.type)) with
                | false => simp
                | true =>
                  simp only [Bool.not_true, Bool.false_eq_true, if_false, Bool.true_and]
                  exact rest
            · simp [hm] at hf
termination_by _ d => d

/-- '==' on structs and arrays of plain cells. -/
theorem agg_run {t : TypeId} {l : List CT} {xs ys : Array Value} (hf : flatTy P 50 t = some l) (hx : okCells l xs.toList = true) (hy : okCells l ys.toList = true) (ha : ∃ d, P.underlying t = some d ∧ isAggD d = true) (w : World) :
    (Op.equalIn 10000 t (.agg xs) (.agg ys)).run P w = .ok (eqCells xs.toList ys.toList) w := by
  obtain ⟨d, hu, hd⟩ := ha
  have := ((flat_eq (P := P) 10000 50 (by omega)).1 t l d xs.toList ys.toList hf hu hx hy).2 w
  cases d <;> simp [isAggD] at hd <;> simpa [packV] using this

end
end Go.Hl

namespace Go.Hl
section
variable {P : Program} {o : Oper} {e : Operand → EV} {KP k : Value → Pr} {h : Heap}

theorem eq_ptr_nil {t el : TypeId} (hu : P.underlying t = some (.pointer el)) (d : Nat) (a : Option Addr) (w : World) : (Op.equalIn (d + 1) t (.pointer a) (.pointer none)).run P w = .ok a.isNone w := by
  cases a <;> simp [Op.equalIn, run_underlying hu]
theorem eq_slice_nil {t el : TypeId} (hu : P.underlying t = some (.slice el)) (d : Nat) (a : Option Addr) (n c n' c' : Nat) (w : World) : (Op.equalIn (d + 1) t (.slice a n c) (.slice none n' c')).run P w = .ok a.isNone w := by
  cases a <;> simp [Op.equalIn, run_underlying hu]
theorem eq_map_nil {t kt et : TypeId} (hu : P.underlying t = some (.map kt et)) (d : Nat) (a : Option Nat) (w : World) : (Op.equalIn (d + 1) t (.map a) (.map none)).run P w = .ok a.isNone w := by
  cases a <;> simp [Op.equalIn, run_underlying hu]

theorem eq_ifc_nil {t : TypeId} {ms} (hu : P.underlying t = some (.interface ms)) (d : Nat) (w : World) : (Op.equalIn (d + 1) t .nilIface .nilIface).run P w = .ok true w ∧ ∀ ty v, (Op.equalIn (d + 1) t (.iface ty v) .nilIface).run P w = .ok false w := by
  constructor
  · simp [Op.equalIn, run_underlying hu]
  · intro ty v; simp [Op.equalIn, run_underlying hu]
theorem guard_const {op : BinOp} {t : TypeId} {x y : Operand} (hy : isNilConst y = true) {a b : Value} (ha : ∀ c, a ≠ .agg c) (w : World) : (eqGuard op t x y a b).run P w = .ok () w := by
  obtain ⟨c, rfl⟩ : ∃ c, y = .const c := by
    unfold isNilConst at hy
    split at hy <;> first | exact ⟨_, rfl⟩ | cases hy
  unfold eqGuard
  cases op <;> simp <;> cases a <;> cases b <;> simp_all
theorem nil_bin {op : BinOp} {t u : TypeId} {x y : Operand} (ho : o.op = .binOp op t x y u) {vx vy : Value} (hx : (e x).get = some vx) (hy : (e y).get = some vy) {d : TypeDesc} (hu : P.underlying t = some d) (hyc : isNilConst y = true)
    (s : (match op with | .eql => nilTest d vx vy fun b => k (.bool b) | .neq => nilTest d vx vy fun b => k (.bool (!b)) | _ => F) h) : SemP P o e k h := by
  have key : ∀ {kb : Bool → Pr}, nilTest d vx vy kb h → ∃ r : Bool, kb r h ∧ (∀ w, (Op.equal t vx vy).run P w = .ok r w) ∧ (∀ c, vx ≠ .agg c) ∧ True ∧ (∀ k n, vx ≠ .int k n) ∧ (∀ s, vx ≠ .string s) ∧ (∀ k n, vx ≠ .float k n) ∧ (∀ k n m, vx ≠ .complex k n m) := by
    intro kb s
    unfold nilTest at s
    cases d <;> try exact s.elim
    case pointer el =>
      cases vx <;> try exact s.elim
      rename_i a
      cases vy <;> try exact s.elim
      rename_i b
      cases b with
      | some _ => exact s.elim
      | none =>
        exact ⟨_, s, fun w => eq_ptr_nil hu 9999 a w, by simp, trivial, by simp, by simp, by simp, by simp⟩
    case slice el =>
      cases vx <;> try exact s.elim
      rename_i a n c
      cases vy <;> try exact s.elim
      rename_i b n' c'
      cases b with
      | some _ => exact s.elim
      | none =>
        exact ⟨_, s, fun w => eq_slice_nil hu 9999 a n c n' c' w, by simp, trivial, by simp, by simp, by simp, by simp⟩
    case map kt et =>
      cases vx <;> try exact s.elim
      rename_i a
      cases vy <;> try exact s.elim
      rename_i b
      cases b with
      | some _ => exact s.elim
      | none =>
        exact ⟨_, s, fun w => eq_map_nil hu 9999 a w, by simp, trivial, by simp, by simp, by simp, by simp⟩
    case interface ms =>
      cases vx <;> try exact s.elim
      · cases vy <;> try exact s.elim
        exact ⟨_, s, fun w => (eq_ifc_nil hu 9999 w).2 _ _, by simp, trivial, by simp, by simp, by simp, by simp⟩
      · cases vy <;> try exact s.elim
        exact ⟨_, s, fun w => (eq_ifc_nil hu 9999 w).1, by simp, trivial, by simp, by simp, by simp, by simp⟩
  cases op <;> try exact s.elim
  · obtain ⟨r, hk, hr, n1, n2, n3, n4, n5, n6⟩ := key s
    exact ⟨_, bin_run ho hx hy (fun w => guard_const hyc n1 w) (fun w => (equal_run hr n3 n4 n5 n6 w).1), hk⟩
  · obtain ⟨r, hk, hr, n1, n2, n3, n4, n5, n6⟩ := key s
    exact ⟨_, bin_run ho hx hy (fun w => guard_const hyc n1 w) (fun w => (equal_run hr n3 n4 n5 n6 w).2), hk⟩

theorem sem_str {op : BinOp} {t u : TypeId} {x y : Operand} (ho : o.op = .binOp op t x y u) {a b : ByteArray} (hx : (e x).get = some (.string a)) (hy : (e y).get = some (.string b))
    (s : (match op with
    | .add => pAssert (a.size + b.size < 9223372036854775808) (k (.string (a ++ b)))
    | .eql => k (.bool (strEq a b))
    | .neq => k (.bool (!strEq a b))
    | .lss => k (.bool (Op.bytesLess a.toList b.toList))
    | .leq => k (.bool (Op.bytesLess a.toList b.toList || strEq a b))
    | .gtr => k (.bool !(Op.bytesLess a.toList b.toList || strEq a b))
    | .geq => k (.bool !(Op.bytesLess a.toList b.toList))
    | _ => F) h) : SemP P o e k h := by
  have hg : ∀ w, (eqGuard op t x y (.string a) (.string b)).run P w = .ok () w := fun w => eqGuard_skip (by simp) (by simp) w
  have mk : ∀ v, (∀ w, (binOp op t (.string a) (.string b)).run P w = .ok v w) → k v h → SemP P o e k h := fun v hr hk => ⟨v, bin_run ho hx hy hg hr, hk⟩
  cases op <;> first
    | exact s.elim
    | (exact mk _ (fun w => by simp [binOp, Op.stringOp, strEq]) s)
    | skip
  case add =>
    refine mk _ (fun w => ?_) s.2
    have h1 := s.1
    have hm : ¬ ((a.size + b.size : Nat) : Int) > IntKind.i64.max := by
      have : IntKind.i64.max = 9223372036854775807 := by decide
      rw [this]; omega
    simp only [binOp, Op.stringOp]
    rw [if_neg hm]
    simp

theorem sem_bin {op : BinOp} {t u : TypeId} {x y : Operand} (ho : o.op = .binOp op t x y u) {vx vy : Value} (hx : (e x).get = some vx) (hy : (e y).get = some vy) (s : vcBin P op t y vx vy k h) : SemP P o e k h := by
  unfold vcBin at s
  cases hn : isNilConst y with
  | true =>
    simp only [hn] at s
    cases hu : P.underlying t with
    | none => simp only [hu] at s; exact s.elim
    | some d =>
      simp only [hu] at s
      exact nil_bin ho hx hy hu hn s
  | false =>
    simp only [hn] at s
    cases vx <;> cases vy <;> try exact s.elim
    case int.int i a j b =>
      by_cases h1 : op = .shl
      · subst h1; exact sem_shift ho hx hy (.inl rfl) s.1 (by simpa using s.2)
      · by_cases h2 : op = .shr
        · subst h2; exact sem_shift ho hx hy (.inr rfl) s.1 (by simpa using s.2)
        · have s' : (if i = j then vcInt op i a b k else F) h := by cases op <;> first | exact s | exact absurd rfl h1 | exact absurd rfl h2
          by_cases hij : i = j
          · subst hij
            simp only [if_true] at s'
            exact sem_int ho hx hy ⟨h1, h2⟩ s'
          · simp only [hij, if_false] at s'; exact s'.elim
    case bool.bool a b =>
      cases hu : P.underlying t with
      | none => simp only [hu] at s; exact s.elim
      | some d =>
        simp only [hu] at s
        cases d <;> try exact s.elim
        have hr : ∀ w, (Op.equal t (.bool a) (.bool b)).run P w = .ok (a == b) w := fun w => run_equalIn_bool w 9999 t a b hu
        have hq := fun w => equal_run (P := P) (t := t) hr (by simp) (by simp) (by simp) (by simp) w
        cases op <;> try exact s.elim
        · exact ⟨_, bin_run ho hx hy (fun w => eqGuard_skip (by simp) (by simp) w) (fun w => (hq w).1), s⟩
        · exact ⟨_, bin_run ho hx hy (fun w => eqGuard_skip (by simp) (by simp) w) (fun w => (hq w).2), s⟩
    case string.string a b => exact sem_str ho hx hy s
    case agg.agg a b =>
      cases hf : flatTy P 50 t with
      | none => simp only [hf] at s; exact s.elim
      | some l =>
        cases hg : P.eqGuardType P.depth t with
        | true => simp only [hf, hg] at s; exact s.elim
        | false =>
          cases ha : (P.underlying t).any (fun d => decide (shapeD d = .agg)) with
          | false => simp only [hf, hg, ha] at s; exact s.elim
          | true =>
            simp only [hf, hg, ha] at s
            have hd : ∃ d, P.underlying t = some d ∧ isAggD d = true := by
              cases hu : P.underlying t with
              | none => simp [hu] at ha
              | some d => simp [hu] at ha; exact ⟨d, rfl, shape_agg ha⟩
            have mk : ∀ (v : Value), (okCells l a.toList = true ∧ okCells l b.toList = true → ∀ w, (binOp op t (.agg a) (.agg b)).run P w = .ok v w) → pAssert (okCells l a.toList = true ∧ okCells l b.toList = true) (k v) h → SemP P o e k h :=
              fun v hr hk => ⟨v, bin_run ho hx hy (fun w => eqGuard_agg hg w) (hr hk.1), hk.2⟩
            cases op <;> try exact s.elim
            · exact mk _ (fun hh w => by simp [run_eql_struct, agg_run hf hh.1 hh.2 hd w]) s
            · exact mk _ (fun hh w => by simp [run_neq_struct, agg_run hf hh.1 hh.2 hd w]) s

theorem sem_un {op : UnOp} {t : TypeId} {x : Operand} (ho : o.op = .unOp op t x) {v : Value} (hx : (e x).get = some v) (s : vcUn op v k h) : SemP P o e k h := by
  unfold vcUn at s
  cases op <;> cases v <;> first
    | exact s.elim
    | exact ⟨_, fun ρ w hf => by simp [execOp, ho, hf x _ hx, Op.unary, Op.intArith, Op.intBits, bitsV], s⟩

theorem sem_convert {a b : TypeId} {x : Operand} (ho : o.op = .convert a b x) {v : Value} (hx : (e x).get = some v) (s : vcConvert P a b v k h) : SemP P o e k h := by
  unfold vcConvert at s
  cases ha : P.underlying a with
  | none => simp only [ha] at s; exact s.elim
  | some da =>
    cases hb : P.underlying b with
    | none => simp only [ha, hb] at s; cases da <;> exact s.elim
    | some db =>
      simp only [ha, hb] at s
      cases da <;> cases db <;> cases v <;> first
        | exact s.elim
        | exact ⟨_, fun ρ w hf => by simp [execOp, ho, hf x _ hx, convert, run_underlying ha, run_underlying hb, Conv.intToInt, Conv.intToString], s⟩

theorem sem_nil {x : Operand} (ho : o.op = .nilCheck x) {v : Value} (hx : (e x).get = some v)
    (s : (match v with | .pointer a => pSome a fun a => k (.pointer (some a)) | _ => F) h) : SemP P o e k h := by
  cases v <;> try exact s.elim
  obtain ⟨a, rfl, s⟩ := s
  exact ⟨_, fun ρ w hf => by simp [execOp, ho, hf x _ hx], s⟩

theorem sem_fieldAddr {t : TypeId} {x : Operand} {f : Nat} (ho : o.op = .fieldAddr t x f) {v : Value} (hx : (e x).get = some v) (s : vcFieldAddr P t v f k h) : SemP P o e k h := by
  unfold vcFieldAddr at s
  cases v <;> try exact s.elim
  rename_i a
  cases a with
  | none => exact s.elim
  | some a =>
    simp only at s
    cases hu : P.underlying t with
    | none => simp only [hu] at s; exact s.elim
    | some d =>
      simp only [hu] at s
      cases d <;> try exact s.elim
      rename_i fs
      simp only at s
      cases hfd : fs[f]? with
      | none => simp only [hfd] at s; exact s.elim
      | some fd =>
        simp only [hfd] at s
        cases hs : sizeP P fd.type with
        | zero => simp only [hs] at s; exact s.elim
        | succ n =>
          simp only [hs] at s
          have h0 : sizeP P fd.type ≠ 0 := by omega
          exact ⟨_, fun ρ w hf => by simp [execOp, ho, hf x _ hx, Instr.fieldAt, run_underlying hu, hfd, Instr.sureAddr, fieldPlace, run_size_ne h0, h0], s⟩

theorem part_sem {t : TypeId} {cs : List Value} {off : Nat} (s : vcPart P t cs off k h) : ∃ v, (∀ w, (part t cs.toArray off).run P w = .ok v w) ∧ k v h := by
  unfold vcPart at s
  cases hu : P.underlying t with
  | none => simp only [hu] at s; exact s.elim
  | some d =>
    simp only [hu] at s
    by_cases hs : shapeD d = .agg
    · simp only [hs] at s
      exact ⟨_, fun w => by simp [part, run_isAgg hu, shape_agg hs, run_size_un hu], s⟩
    · have hn := shape_notAgg hs
      cases hd : shapeD d <;> simp only [hd] at s hs <;> first
        | exact absurd trivial hs
        | (obtain ⟨y, hy, s⟩ := s
           exact ⟨_, fun w => by simp [part, run_isAgg hu, hn, hy], s⟩)

theorem sem_field {t : TypeId} {x : Operand} {f : Nat} (ho : o.op = .field t x f) {v : Value} (hx : (e x).get = some v) (s : vcField P t v f k h) : SemP P o e k h := by
  unfold vcField at s
  cases v <;> try exact s.elim
  rename_i cs
  simp only at s
  cases hu : P.underlying t with
  | none => simp only [hu] at s; exact s.elim
  | some d =>
    simp only [hu] at s
    cases d <;> try exact s.elim
    rename_i fs
    simp only at s
    cases hfd : fs[f]? with
    | none => simp only [hfd] at s; exact s.elim
    | some fd =>
      simp only [hfd] at s
      obtain ⟨v, hv, s⟩ := part_sem s
      exact ⟨v, fun ρ w hf => by simp only [Array.toArray_toList] at hv; simp [execOp, ho, hf x _ hx, Instr.field, run_underlying hu, hfd, asAgg, hv], s⟩

theorem sem_indexAddr {t : TypeId} {x i : Operand} (ho : o.op = .indexAddr t x i) {vx vi : Value} (hx : (e x).get = some vx) (hi : (e i).get = some vi) (s : vcIndexAddr P t vx vi k h) : SemP P o e k h := by
  unfold vcIndexAddr at s
  cases hu : P.underlying t with
  | none => simp only [hu] at s; exact s.elim
  | some d =>
    simp only [hu] at s
    cases d <;> try exact s.elim
    case array n el =>
      cases vx <;> try exact s.elim
      rename_i a
      cases a with
      | none => exact s.elim
      | some a =>
        cases vi <;> try exact s.elim
        simp only at s
        cases hz : sizeP P el with
        | zero => simp only [hz] at s; exact s.elim
        | succ z =>
          simp only [hz] at s
          obtain ⟨h1, h2, s⟩ := s
          exact ⟨_, fun ρ w hf => by simp [execOp, ho, hf x _ hx, hf i _ hi, Instr.indexAt, run_underlying hu, asIntOf, Instr.sureAddr, run_size_ne (P := P) (t := el) (by omega), h1, h2, hz], s⟩
    case slice el =>
      cases vx <;> try exact s.elim
      cases vi <;> try exact s.elim
      simp only at s
      cases hz : sizeP P el with
      | zero => simp only [hz] at s; exact s.elim
      | succ z =>
        simp only [hz] at s
        obtain ⟨h1, h2, a, rfl, s⟩ := s
        exact ⟨_, fun ρ w hf => by simp [execOp, ho, hf x _ hx, hf i _ hi, Instr.indexAt, run_underlying hu, asIntOf, run_size_ne (P := P) (t := el) (by omega), h1, h2, hz], s⟩

theorem sem_index {t : TypeId} {x i : Operand} (ho : o.op = .index t x i) {vx vi : Value} (hx : (e x).get = some vx) (hi : (e i).get = some vi) (s : vcIndex P t vx vi k h) : SemP P o e k h := by
  unfold vcIndex at s
  cases hu : P.underlying t with
  | none => simp only [hu] at s; exact s.elim
  | some d =>
    simp only [hu] at s
    cases d <;> cases vx <;> cases vi <;> try exact s.elim
    case string.string.int st kk j =>
      obtain ⟨h1, h2, s⟩ := s
      have hj : j.toNat < st.size := by omega
      exact ⟨_, fun ρ w hf => by simp [execOp, ho, hf x _ hx, hf i _ hi, Instr.index, run_underlying hu, asIntOf, h1, hj, byteAt], s⟩
    case array.agg.int n el cs kk j =>
      obtain ⟨h1, h2, s⟩ := s
      have hue : ∃ de, P.underlying el = some de := by
        cases hue : P.underlying el with
        | none => simp only [vcPart, hue] at s; exact s.elim
        | some de => exact ⟨de, rfl⟩
      obtain ⟨de, hue⟩ := hue
      obtain ⟨v, hv, s⟩ := part_sem s
      exact ⟨v, fun ρ w hf => by simp only [Array.toArray_toList] at hv; simp [execOp, ho, hf x _ hx, hf i _ hi, Instr.index, run_underlying hu, asIntOf, h1, h2, run_size_un hue, hv], s⟩

theorem sem_extract {x : Operand} {i : Nat} (ho : o.op = .extract x i) {v : Value} (hx : (e x).get = some v) (s : vcExtract v i k h) : SemP P o e k h := by
  unfold vcExtract at s
  cases v <;> try exact s.elim
  rename_i vs
  simp only at s
  cases hv : vs.toList[i]? with
  | none => simp only [hv] at s; exact s.elim
  | some v =>
    simp only [hv] at s
    exact ⟨v, fun ρ w hf => by simp only [Array.getElem?_toList] at hv; simp [execOp, ho, hf x _ hx, Instr.extract, hv], s⟩

theorem sem_makeFunc {fn : Fn} {fs cs : Array Operand} (ho : o.op = .makeFunc fn fs cs) (s : (gvs (fs.toList.map e) fun fs => gvs (cs.toList.map e) fun cs => k (.func fn fs.toArray cs.toArray)) h) : SemP P o e k h := by
  obtain ⟨vf, hvf, s⟩ := gvs_some s
  obtain ⟨vc, hvc, s⟩ := gvs_some s
  exact ⟨_, fun ρ w hf => by simp [execOp, ho, Instr.makeFunc, fits_arr hf fs vf hvf, fits_arr hf cs vc hvc], s⟩

theorem oInt_some {x : Option EV} {d : Int} {ki : Int → Pr} (s : oInt x d ki h) : (x = none ∧ ki d h) ∨ ∃ ev i n, x = some ev ∧ ev.get = some (.int i n) ∧ ki n h := by
  unfold oInt at s
  cases x with
  | none => exact .inl ⟨rfl, s⟩
  | some ev =>
    simp only at s
    obtain ⟨v, hv, s⟩ := gv_some s
    cases v <;> try exact s.elim
    exact .inr ⟨ev, _, _, rfl, hv, s⟩

/-- A bound, as the model reads it. -/
def bnd (ρ : Operand → Value) (x : Option Operand) (d n : Int) : Prop := (x = none ∧ n = d) ∨ ∃ y i, x = some y ∧ ρ y = .int i n

theorem oInt_bnd {x : Option Operand} {d : Int} {ki : Int → Pr} (s : oInt (x.map e) d ki h) : ∃ n, ki n h ∧ ∀ ρ, Fits e ρ → bnd ρ x d n := by
  rcases oInt_some s with ⟨hx, s2⟩ | ⟨ev, i, n, hx, hev, s2⟩
  · cases x with
    | none => exact ⟨d, s2, fun ρ _ => .inl ⟨rfl, rfl⟩⟩
    | some y => cases hx
  · cases x with
    | none => cases hx
    | some y =>
      simp only [Option.map_some, Option.some.injEq] at hx
      subst hx
      exact ⟨n, s2, fun ρ hf => .inr ⟨y, i, rfl, hf y _ hev⟩⟩

theorem bounds_run {isS : Bool} {n c : Nat} {ρ : Operand → Value} {lo hi : Option Operand} {l m : Int} (hl : bnd ρ lo 0 l) (hh : bnd ρ hi n m) (h1 : 0 ≤ l) (h2 : l ≤ m) (h3 : m ≤ c) (w : World) :
    (Instr.sliceBounds isS n c (lo.map ρ) (hi.map ρ) none).run P w = .ok (l.toNat, m.toNat, c) w := by
  have sb : ∀ (i : IntKind) (j : Int) (y : Nat) (code : BoundsCode), 0 ≤ j → j ≤ y → (Instr.sliceBound (.int i j) y code).run P w = .ok j.toNat w := fun i j y code a b => by
    simp [Instr.sliceBound, asIntOf, a, b]
  unfold Instr.sliceBounds
  rcases hl with ⟨rfl, rfl⟩ | ⟨y, i, rfl, hy⟩ <;> rcases hh with ⟨rfl, rfl⟩ | ⟨z, j, rfl, hz⟩
  · simp
  · simp [hz, sb j m c _ (by omega) h3]
  · have h2' : l ≤ (n : Int) := h2
    simp [hy, sb i l n _ h1 h2']
  · have e : ((m.toNat : Nat) : Int) = m := by omega
    simp [hz, sb j m c _ (by omega) h3, hy, sb i l m.toNat _ h1 (by omega)]

theorem bounds_run3 {n c : Nat} {ρ : Operand → Value} {lo : Option Operand} {hv mv : Operand} {l m q : Int} (hl : bnd ρ lo 0 l) (hh : bnd ρ (some hv) n m) (hq : bnd ρ (some mv) c q) (h1 : 0 ≤ l) (h2 : l ≤ m) (h3 : m ≤ q) (h4 : q ≤ c) (w : World) :
    (Instr.sliceBounds true n c (lo.map ρ) (some (ρ hv)) (some (ρ mv))).run P w = .ok (l.toNat, m.toNat, q.toNat) w := by
  have sb : ∀ (i : IntKind) (j : Int) (y : Nat) (code : BoundsCode), 0 ≤ j → j ≤ y → (Instr.sliceBound (.int i j) y code).run P w = .ok j.toNat w := fun i j y code a b => by
    simp [Instr.sliceBound, asIntOf, a, b]
  unfold Instr.sliceBounds
  rcases hh with ⟨hc, _⟩ | ⟨z, j, hz', hz⟩
  · cases hc
  cases hz'
  rcases hq with ⟨hc, _⟩ | ⟨y, i, hy', hy⟩
  · cases hc
  cases hy'
  have e1 : ((q.toNat : Nat) : Int) = q := by omega
  have e2 : ((m.toNat : Nat) : Int) = m := by omega
  rcases hl with ⟨rfl, rfl⟩ | ⟨x, d, rfl, hx⟩
  · simp [hz, hy, sb i q c _ (by omega) h4, sb j m q.toNat _ (by omega) (by omega)]
  · simp [hz, hy, hx, sb i q c _ (by omega) h4, sb j m q.toNat _ (by omega) (by omega), sb d l m.toNat _ h1 (by omega)]

theorem sem_slice {t : TypeId} {x : Operand} {lo hi mx : Option Operand} (ho : o.op = .slice t x lo hi mx) {v : Value} (hx : (e x).get = some v) (s : vcSlice P t v (lo.map e) (hi.map e) (mx.map e) k h) : SemP P o e k h := by
  unfold vcSlice at s
  cases mx with
  | some mv =>
    simp only [Option.map_some] at s
    cases hi with
    | none => exact s.elim
    | some hv =>
      simp only [Option.map_some] at s
      cases hu : P.underlying t with
      | none => simp only [hu] at s; exact s.elim
      | some d =>
        simp only [hu] at s
        cases d <;> try exact s.elim
        cases v <;> try exact s.elim
        rename_i el a n c
        simp only at s
        cases hz : sizeP P el with
        | zero => simp only [hz] at s; exact s.elim
        | succ z =>
          simp only [hz] at s
          obtain ⟨l, s, hl⟩ := oInt_bnd s
          obtain ⟨m, s, hm⟩ := oInt_bnd (x := some hv) s
          obtain ⟨q, s, hq⟩ := oInt_bnd (x := some mv) s
          obtain ⟨⟨h1, h2, h3, h4⟩, s⟩ := s
          refine ⟨_, fun ρ w hf => ?_, s⟩
          have hb := bounds_run3 (P := P) (hl ρ hf) (hm ρ hf) (hq ρ hf) h1 h2 h3 h4 w
          simp [execOp, ho, hf x _ hx, Instr.sliceAt, run_underlying hu, Instr.slice, hb, run_size_ne (P := P) (t := el) (by omega), hz]
  | none =>
    simp only [Option.map_none] at s
    cases hu : P.underlying t with
    | none => simp only [hu] at s; exact s.elim
    | some d =>
      simp only [hu] at s
      cases d <;> try exact s.elim
      case string =>
        cases v <;> try exact s.elim
        obtain ⟨l, s, hl⟩ := oInt_bnd s
        obtain ⟨m, s, hm⟩ := oInt_bnd s
        obtain ⟨⟨h1, h2, h3⟩, s⟩ := s
        refine ⟨_, fun ρ w hf => ?_, s⟩
        have hb := bounds_run (P := P) (isS := false) (hl ρ hf) (hm ρ hf) h1 h2 h3 w
        simp [execOp, ho, hf x _ hx, Instr.sliceAt, run_underlying hu, Instr.slice, hb]
      case slice el =>
        cases v <;> try exact s.elim
        simp only at s
        cases hz : sizeP P el with
        | zero => simp only [hz] at s; exact s.elim
        | succ z =>
          simp only [hz] at s
          obtain ⟨l, s, hl⟩ := oInt_bnd s
          obtain ⟨m, s, hm⟩ := oInt_bnd s
          obtain ⟨⟨h1, h2, h3⟩, s⟩ := s
          refine ⟨_, fun ρ w hf => ?_, s⟩
          have hb := bounds_run (P := P) (isS := true) (hl ρ hf) (hm ρ hf) h1 h2 h3 w
          simp [execOp, ho, hf x _ hx, Instr.sliceAt, run_underlying hu, Instr.slice, hb, run_size_ne (P := P) (t := el) (by omega), hz]
      case array n el =>
        cases v <;> try exact s.elim
        rename_i a
        cases a with
        | none => exact s.elim
        | some a =>
          simp only at s
          cases hz : sizeP P el with
          | zero => simp only [hz] at s; exact s.elim
          | succ z =>
            simp only [hz] at s
            obtain ⟨l, s, hl⟩ := oInt_bnd s
            obtain ⟨m, s, hm⟩ := oInt_bnd s
            obtain ⟨⟨h1, h2, h3⟩, s⟩ := s
            refine ⟨_, fun ρ w hf => ?_, s⟩
            have hb := bounds_run (P := P) (isS := false) (hl ρ hf) (hm ρ hf) h1 h2 h3 w
            simp [execOp, ho, hf x _ hx, Instr.sliceAt, run_underlying hu, Instr.sureAddr, hb, run_size_ne (P := P) (t := el) (by omega), hz]

end
end Go.Hl

namespace Go.Hl
section
variable {P : Program} {o : Oper} {e : Operand → EV} {KP k : Value → Pr} {h : Heap}

theorem parts_arr {ρ : Operand → Value} {ps : Array (Nat × Operand)} {vs : List (Nat × Value)} (hv : ∀ ρ, Fits e ρ → ps.toList.map (fun (i, x) => (i, ρ x)) = vs) (hf : Fits e ρ) : ps.map (fun (i, x) => (i, ρ x)) = vs.toArray := by
  apply Array.ext'
  have := hv ρ hf
  simp only [Array.toList_map]
  exact this

theorem sem_build {t : TypeId} {ps : Array (Nat × Operand)} (ho : o.op = .build t ps) (s : partsOf e ps.toList (fun ps => vcBuild P t ps k) h) : SemP P o e k h := by
  obtain ⟨vs, hv, s⟩ := parts_some s
  unfold vcBuild at s
  cases hz : zeroOk P t with
  | false => simp only [hz] at s; exact s.elim
  | true =>
    simp only [hz] at s
    cases hu : P.underlying t with
    | none => simp only [hu] at s; exact s.elim
    | some d =>
      simp only [hu] at s
      cases d <;> try exact s.elim
      case struct fs =>
        simp only at s
        cases hfs : fs.toList.all (fun f => (P.info? f.type).isSome) with
        | false => simp only [hfs] at s; exact s.elim
        | true =>
          simp only [hfs] at s
          cases hp : placesOf P fs vs with
          | none => simp only [hp] at s; exact s.elim
          | some ps' =>
            simp only [hp] at s
            cases hr : inRange (sizeP P t) ps' with
            | false => simp only [hr] at s; exact s.elim
            | true =>
              simp only [hr] at s
              obtain ⟨h1, s⟩ := pFits_all s
              refine ⟨_, fun ρ w hf => ?_, s⟩
              have hb := run_build_struct (P := P) hz hu hfs hp hr (fun x hx => h1 (x.2.1, x.2.2) (List.mem_map.2 ⟨x, hx, rfl⟩)) w
              have ha := parts_arr hv hf
              simp only [execOp, ho, ha, Sem.run_bind, hb, Result.andThen_ok, Sem.run_pure]
      case array n el =>
        simp only at s
        cases hi : (P.info? el).isSome with
        | false => simp only [hi] at s; exact s.elim
        | true =>
          simp only [hi] at s
          cases hr : inRange (sizeP P t) (vs.map fun p => (p.1 * sizeP P el, sizeP P el, p.2)) with
          | false => simp only [hr] at s; exact s.elim
          | true =>
            simp only [hr] at s
            obtain ⟨h1, s⟩ := pFits_all s
            refine ⟨_, fun ρ w hf => ?_, s⟩
            have hb := run_build_array (P := P) hz hu hi rfl hr (fun x hx => h1 (x.2.1, x.2.2) (List.mem_map.2 ⟨x, hx, rfl⟩)) w
            have ha := parts_arr hv hf
            simp only [execOp, ho, ha, Sem.run_bind, hb, Result.andThen_ok, Sem.run_pure]

theorem sem_buildSlice {t : TypeId} {n : Nat} {ps : Array (Nat × Operand)} (ho : o.op = .buildSlice t n ps) (s : partsOf e ps.toList (fun ps => vcBuildSlice P t n ps k) h) : SemA P o e k h := by
  obtain ⟨vs, hv, s⟩ := parts_some s
  unfold vcBuildSlice at s
  cases hu : P.underlying t with
  | none => simp only [hu] at s; exact s.elim
  | some d =>
    simp only [hu] at s
    cases d <;> try exact s.elim
    rename_i el
    simp only at s
    cases hz : (zeroOk P el && decide (n * sizeP P el ≤ 16777216) && decide (sizeP P el ≠ 0)) with
    | false => simp only [hz] at s; exact s.elim
    | true =>
      simp only [hz] at s
      simp only [Bool.and_eq_true, decide_eq_true_eq] at hz
      cases hr : inRange (n * sizeP P el) (vs.map fun p => (p.1 * sizeP P el, sizeP P el, p.2)) with
      | false => simp only [hr] at s; exact s.elim
      | true =>
        simp only [hr] at s
        obtain ⟨h1, s⟩ := pFits_all s
        refine ⟨_, fun b => .slice (some ⟨b, 0, none⟩) n n, fun ρ w hf => ?_, fun b hb => s b hb⟩
        have hb := run_buildSlice' (P := P) hz.1.1 hu hz.2 hz.1.2 rfl hr (fun x hx => h1 (x.2.1, x.2.2) (List.mem_map.2 ⟨x, hx, rfl⟩)) w
        have ha := parts_arr hv hf
        exact ⟨w.alloc (.cells _ el), el, by simp only [execOp, ho, ha, Sem.run_bind, hb, Result.andThen_ok, Sem.run_pure], rfl, rfl, rfl, rfl⟩

theorem sem_store {t : TypeId} {x y : Operand} (ho : o.op = .store t x y) {va v : Value} (hx : (e x).get = some va) (hy : (e y).get = some v) (s : vcStore P t va v (k undef) h) : SemE P o e KP k h := fun ρ w hf r => by
  unfold vcStore at s
  cases va <;> try exact s.elim
  rename_i a
  cases a with
  | none => exact s.elim
  | some a =>
    simp only at s
    have key : ∀ (vs : List Value), v.cells.toList = vs → sizeP P t = vs.length → sizeP P t ≠ 0 ∨ (∃ i, P.info? t = some i) →
        (∃ cs tot, a.spot = none ∧ h a.block = some (.row cs tot) ∧ a.off + vs.length ≤ cs.length ∧ oneCells vs ∧ k undef (h.set a.block (.row (splice cs a.off vs) tot))) →
        OpTo P o ρ w (fun v w' => Ends h w (k v) w') (fun v w' => Ends h w (KP v) w') := by
      intro vs hvs hsz hin ⟨cs, tot, h1, h2, h3, h4, h5⟩
      have hi : ∃ i, P.info? t = some i := by
        rcases hin with hin | hin
        · exact info_some_of_size hin
        · exact hin
      obtain ⟨i, hi⟩ := hi
      have hrs : (sizeOf t).run P w = .ok (sizeP P t) w := by simp [run_sizeOf' hi, sizeP, hi]
      obtain ⟨sp, ty, fr, hh1, hh2, _⟩ := r _ _ h2
      have htot : a.off + vs.length ≤ tot := by rw [← hh2]; simp; omega
      obtain ⟨w', e1, e2, e3⟩ := store_cells (P := P) r h1 h2 h4 (off := a.off) (by omega) htot rfl
      have hne : ¬ v.cells.size ≠ sizeP P t := by rw [hsz, ← hvs]; simp
      have hrun : (execOp ρ o).run P w = .ok .skip w' := by
        simp only [execOp, ho, hf x _ hx, hf y _ hy, Instr.storeAt, Instr.sureAddr, storeVar, Sem.run_bind, Sem.run_pure, Result.andThen_ok, hrs]
        rw [if_neg hne]
        simp [hvs, e1]
      simp only [OpTo, hrun]
      exact ⟨_, h5, e2, e3⟩
    have one : v.cells.toList = [v] → (match sizeP P t with | 1 => pSt a v (k undef) | _ => F) h → OpTo P o ρ w (fun v w' => Ends h w (k v) w') (fun v w' => Ends h w (KP v) w') := fun hc s' => by
      by_cases h1 : sizeP P t = 1
      · simp only [h1] at s'
        obtain ⟨cs, tot, g1, g2, g3, g4, g5⟩ := s'
        refine key [v] hc (by simp [h1]) (.inl (by omega)) ⟨cs, tot, g1, g2, by simp; omega, fun u hu => by simp at hu; subst hu; exact g4, ?_⟩
        rw [splice_one _ _ _ g3]; exact g5
      · exfalso
        rcases hn : sizeP P t with _ | _ | n
        · rw [hn] at s'; exact s'
        · exact h1 hn
        · rw [hn] at s'; exact s'
    by_cases hs : shapeOf P t = .any
    · simp only [hs] at s
      refine one ?_ s
      by_cases h1 : sizeP P t = 1
      · simp only [h1] at s
        obtain ⟨cs, tot, g1, g2, g3, g4, g5⟩ := s
        exact one_cells g4
      · exfalso
        rcases hn : sizeP P t with _ | _ | n
        · rw [hn] at s; exact s
        · exact h1 hn
        · rw [hn] at s; exact s
    · have s2 : (match v with
        | .agg cs => (match sizeP P t with
          | 0 => F
          | n + 1 => pStA (n + 1) a cs.toList (k undef))
        | v => match sizeP P t with
          | 1 => pSt a v (k undef)
          | _ => F) h := by
        cases hsh : shapeOf P t <;> simp only [hsh] at s hs <;> first | exact absurd trivial hs | exact s
      by_cases hv : ∃ cs, v = .agg cs
      · obtain ⟨cs', rfl⟩ := hv
        simp only at s2
        cases h0 : sizeP P t with
        | zero => simp only [h0] at s2; exact s2.elim
        | succ n =>
          simp only [h0] at s2
          obtain ⟨cs, tot, h1, h2, h3, h4, h5, h6⟩ := s2
          exact key cs'.toList (by simp [Value.cells]) (by omega) (.inl (by omega)) ⟨cs, tot, h1, h2, by rw [h4]; exact h3, h5, h6⟩
      · exact one (by cases v <;> first | rfl | exact absurd ⟨_, rfl⟩ hv) (by cases v <;> first | exact s2 | exact absurd ⟨_, rfl⟩ hv)

theorem args_arr {ρ : Operand → Value} {as : Array Operand} {vs : List Value} (hf : Fits e ρ) (hv : (as.toList.map e).map EV.get = vs.map some) : as.map ρ = vs.toArray := fits_arr hf as vs hv

theorem sem_len {c : Call} {t : TypeId} {ts : List TypeId} {v : Value} {vs : List Value} (ho : o.op = .call c) (hc : c.callee = .builtin .len) (ht : c.argTypes.toList = t :: ts) (hv : (c.args.toList.map e).map EV.get = (v :: vs).map some)
    (s : vcLen P t v k h) : SemP P o e k h := by
  have hat : c.argTypes[0]? = some t := by rw [← Array.getElem?_toList, ht]; rfl
  have mk : ∀ n : Int, (∀ w, (Builtin.len_ c.argTypes o.type (v :: vs).toArray).run P w = .ok (.int .i64 n) w) → k (.int .i64 n) h → SemP P o e k h := fun n hr hk =>
    ⟨_, fun ρ w hf => by simp only [execOp, ho, resolve, hc, fits_arr hf _ _ hv, invoke, builtin, Sem.run_bind, Sem.run_pure, Result.andThen_ok, hr], hk⟩
  unfold vcLen at s
  cases hu : P.underlying t with
  | none => simp only [hu] at s; exact s.elim
  | some d =>
    simp only [hu] at s
    cases d <;> try exact s.elim
    case string =>
      cases v <;> try exact s.elim
      exact mk _ (fun w => by simp [Builtin.len_, hat, run_underlying hu, goInt]) s
    case slice el =>
      cases v <;> try exact s.elim
      exact mk _ (fun w => by simp [Builtin.len_, hat, run_underlying hu, goInt]) s
    case array n el =>
      exact mk _ (fun w => by simp [Builtin.len_, hat, run_underlying hu, goInt]) s

theorem sem_minmax {c : Call} {vs : List Value} {mx : Bool} (ho : o.op = .call c) (hc : c.callee = .builtin (if mx then .max else .min)) (hv : (c.args.toList.map e).map EV.get = vs.map some)
    (s : vcMinMax mx vs k h) : SemP P o e k h := by
  unfold vcMinMax at s
  match vs, s, hv with
  | [.int i a, .int j b], s, hv =>
    refine ⟨_, fun ρ w hf => ?_, s⟩
    cases mx <;> simp only [Bool.false_eq_true, if_false, if_true] at hc
    · simp [execOp, ho, resolve, hc, fits_arr hf _ _ hv, invoke, builtin, Builtin.min_, Builtin.min2]
    · simp [execOp, ho, resolve, hc, fits_arr hf _ _ hv, invoke, builtin, Builtin.max_, Builtin.max2]

theorem sem_pCall {f : FuncId} {args : List Value} {r : RShape} {kk : r.T → Pr} (hrun : ∀ ρ w, Fits e ρ → (execOp ρ o).run P w = (callFunc f args.toArray).run P w)
    (s : pCall P f args KP r kk h) (hk : ∀ x g, kk x g → k (r.inj x) g) : SemE P o e KP k h := fun ρ w hf hr => by
  have := (WpCall.go (show WpCall P f args.toArray KP _ h from s) hr).mono (N' := fun v w' => Ends h w (k v) w') (X' := fun v w' => Ends h w (KP v) w') (fun v w' he => he.mono fun g hg => by obtain ⟨x, rfl, hx⟩ := hg; exact hk x g hx) (fun _ _ he => he)
  unfold CallTo at this
  unfold OpTo
  rw [hrun ρ w hf]
  exact this

theorem sem_call {c : Call} (ho : o.op = .call c) {f : FuncId} (hc : c.callee = .value (.func f)) (hef : e (.func f) = .val (.func (.func f) #[] #[])) {vs : List Value} (hv : (c.args.toList.map e).map EV.get = vs.map some) {t : TypeId}
    (s : pCall P f vs KP (rshapeOf P t) (fun x => k ((rshapeOf P t).inj x)) h) : SemE P o e KP k h :=
  sem_pCall (fun ρ w hf => by
    have hff := hf (.func f) _ (by rw [hef]; rfl)
    simp [execOp, ho, resolve, hc, fits_arr hf _ _ hv, hff, Deferred.ofValue, invoke]) s (fun _ _ hx => hx)

theorem sem_callv {c : Call} (ho : o.op = .call c) {x : Operand} (hc : c.callee = .value x) {g : FuncId} {first caps : Array Value} (hx : (e x).get = some (.func (.func g) first caps)) {vs : List Value} (hv : (c.args.toList.map e).map EV.get = vs.map some) {t : TypeId}
    (s : pCall P g ((first.toList ++ vs) ++ caps.toList) KP (rshapeOf P t) (fun x => k ((rshapeOf P t).inj x)) h) : SemE P o e KP k h :=
  sem_pCall (fun ρ w hf => by
    have hff := hf x _ hx
    have ha : (first.toList ++ vs ++ caps.toList).toArray = first ++ vs.toArray ++ caps := by apply Array.ext'; simp
    rw [ha]
    simp [execOp, ho, resolve, hc, fits_arr hf _ _ hv, hff, Deferred.ofValue, invoke]) s (fun _ _ hx => hx)

theorem sem_callV {c : Call} (ho : o.op = .call c) {x : Operand} (hc : c.callee = .value x) {v : Value} (hx : (e x).get = some v) {vs : List Value} (hv : (c.args.toList.map e).map EV.get = vs.map some) {t : TypeId}
    (s : pCallV P v vs KP (rshapeOf P t) (fun x => k ((rshapeOf P t).inj x)) h) : SemE P o e KP k h := by
  unfold pCallV WpVal at s
  cases v <;> try exact s.elim
  rename_i fn first caps
  cases fn <;> try exact s.elim
  rename_i g
  refine sem_callv ho hc hx hv (t := t) ?_
  simp only at s
  unfold pCall
  have ha : (first.toList ++ vs ++ caps.toList).toArray = first ++ vs.toArray ++ caps := by apply Array.ext'; simp
  rw [ha]; exact s

theorem sl_load {h : Heap} {w : World} (r : R h w) {s : Sl} {size : Nat} {xs : List Value} (hv : s.vals size h xs) :
    (Builtin.firstCells size s.len (.slice s.base s.len s.cap)).run P w = .ok xs.toArray w := by
  unfold Sl.vals at hv
  cases hb : s.base with
  | none => simp only [hb] at hv; simp [Builtin.firstCells, hv.2]
  | some a => simp only [hb] at hv; simp [Builtin.firstCells, vals_load r hv]

theorem sl_length {h : Heap} {s : Sl} {size : Nat} {xs : List Value} (hv : s.vals size h xs) : xs.length = s.len * size := by
  unfold Sl.vals at hv
  cases hb : s.base with
  | none => simp only [hb] at hv; simp [hv.1, hv.2]
  | some a => simp only [hb] at hv; exact (vals_cell hv).2.1

theorem sl_loadE {h : Heap} {w : World} (r : R h w) {s : Sl} {size : Nat} {xs : List Value} (hv : s.valsE size h xs) :
    (Builtin.firstCells size s.len (.slice s.base s.len s.cap)).run P w = .ok xs.toArray w := by
  rcases hv with ⟨h0, rfl⟩ | hv
  · cases hb : s.base with
    | none => simp [Builtin.firstCells]
    | some a =>
      have := run_loadCells_list (P := P) w a [] (fun j v hj => by simp at hj)
      simp only [List.length_nil] at this
      simp [Builtin.firstCells, h0, this]
  · exact sl_load r hv
theorem sl_lengthE {h : Heap} {s : Sl} {size : Nat} {xs : List Value} (hv : s.valsE size h xs) : xs.length = s.len * size := by
  rcases hv with ⟨h0, rfl⟩ | hv
  · simp [h0]
  · exact sl_length hv

theorem zeroCells_size (z : Array Value) (n : Nat) : (Builtin.zeroCells z n).size = n * z.size := by simp [Builtin.zeroCells]

theorem sem_append {c : Call} {t u : TypeId} {el el' : TypeId} {s x : Sl} (ho : o.op = .call c) (hc : c.callee = .builtin .append) (ht : c.argTypes.toList = [t, u]) (hv : (c.args.toList.map e).map EV.get = [some (.slice s.base s.len s.cap), some (.slice x.base x.len x.cap)])
    (hu : P.underlying t = some (.slice el)) (hu' : P.underlying u = some (.slice el')) (hz : zeroOk P el = true) (h0 : sizeP P el ≠ 0) (hb0 : bytesP P el ≠ 0)
    (sp : pAppend (sizeP P el) (bytesP P el) s x (fun s => k (.slice s.base s.len s.cap)) h) : SemE P o e KP k h := fun ρ w hf r => by
  obtain ⟨old, new, ho1, hn1, hroom, hone, hin, hout⟩ := sp
  have hat0 : c.argTypes[0]? = some t := by rw [← Array.getElem?_toList, ht]; rfl
  have hat1 : c.argTypes[1]? = some u := by rw [← Array.getElem?_toList, ht]; rfl
  have hargs : c.args.map ρ = #[.slice s.base s.len s.cap, .slice x.base x.len x.cap] := fits_arr hf _ [_, _] hv
  obtain ⟨i, hi⟩ := info_some_of_size h0
  have hti : (typeInfo el).run P w = .ok i w := by simp [typeInfo, hi]
  have hbytes : i.bytes = bytesP P el := by simp [bytesP, hi]
  obtain ⟨z, hz1, hz2, hz3, hz4⟩ := run_zero hz w
  have hexec : (execOp ρ o).run P w = ((Builtin.append_ c.argTypes o.type #[.slice s.base s.len s.cap, .slice x.base x.len x.cap]).run P w).andThen fun v w' => .ok (.value v) w' := by
    simp only [execOp, ho, resolve, hc, hargs, invoke, builtin, Sem.run_bind, Sem.run_pure, Result.andThen_ok]
  have hzeros : ((underlying u).run P w) = .ok (.slice el') w := run_underlying hu' w
  by_cases hfit : s.len + x.len ≤ s.cap
  · have hi2 := hin hfit
    cases hb : s.base with
    | none =>
      rw [hb] at hi2
      have hrun : (Builtin.append_ c.argTypes o.type #[.slice s.base s.len s.cap, .slice x.base x.len x.cap]).run P w = .ok (.slice none (s.len + x.len) s.cap) w := by
        have hl := sl_loadE (P := P) r hn1
        simp [Builtin.append_, hat0, hat1, run_underlying hu, run_underlying hu', run_size_ne h0, Builtin.lenOf, hfit, hb, hl]
      simp only [OpTo, hexec, hrun, Result.andThen_ok]
      exact .here r hi2
    | some a =>
      rw [hb] at hi2
      obtain ⟨cs, tot, g1, g2, g3, g4, g5⟩ := hi2
      have hnl := sl_lengthE hn1
      have hcap : a.off + s.len * sizeP P el + new.length ≤ tot := by
        have : (s.len + x.len) * sizeP P el ≤ s.cap * sizeP P el := Nat.mul_le_mul_right _ hfit
        rw [Nat.add_mul] at this
        omega
      obtain ⟨w', e1, e2, e3⟩ := store_cells (P := P) (a := a.add (s.len * sizeP P el)) r (add_spot g1 _) (by rw [add_block]; exact g2) hone (off := a.off + s.len * sizeP P el) g3 hcap (add_off _ _).symm
      rw [add_block] at e2 e3
      have hrun : (Builtin.append_ c.argTypes o.type #[.slice s.base s.len s.cap, .slice x.base x.len x.cap]).run P w = .ok (.slice (some a) (s.len + x.len) s.cap) w' := by
        have hl := sl_loadE (P := P) r hn1
        simp [Builtin.append_, hat0, hat1, run_underlying hu, run_underlying hu', run_size_ne h0, Builtin.lenOf, hfit, hb, hl, e1]
      simp only [OpTo, hexec, hrun, Result.andThen_ok]
      exact ⟨_, g5, e2, e3⟩
  · have hlt : s.cap < s.len + x.len := by omega
    have hgrow : ¬ Builtin.nextslicecap (s.len + x.len) s.cap * i.bytes > 2 ^ 48 := by
      have := growslice_fits (need := s.len + x.len) (old := s.cap) (bytes := i.bytes) hlt (by rw [hbytes]; exact hroom)
      have e : (2 : Nat) ^ 48 = 281474976710656 := by decide
      omega
    have hgrow' : ¬ 281474976710656 < Builtin.nextslicecap (s.len + x.len) s.cap * i.bytes := by
      have e : (2 : Nat) ^ 48 = 281474976710656 := by decide
      omega
    generalize hq : Question.cut (.appendCap (s.len + x.len) s.cap el) (w.tape w.drawn (.appendCap (s.len + x.len) s.cap el)) = cap'
    have hle : s.len + x.len ≤ cap' := by rw [← hq]; simp only [Question.cut]; omega
    have hl1 := fun w' (hw : R h w') => sl_load (P := P) hw ho1
    have hl2 := fun w' (hw : R h w') => sl_loadE (P := P) hw hn1
    have hrd : R h w.drew := r.of_heap rfl
    have hol := sl_length ho1
    have hnl := sl_lengthE hn1
    have hsz : ¬ i.bytes = 0 := by rw [hbytes]; exact hb0
    have hrun : (Builtin.append_ c.argTypes o.type #[.slice s.base s.len s.cap, .slice x.base x.len x.cap]).run P w =
        .ok (.slice (some ⟨w.heap.size, 0, none⟩) (s.len + x.len) cap') (w.drew.alloc (.cells (old.toArray ++ new.toArray ++ Builtin.zeroCells z.cells (cap' - (s.len + x.len))) el)) := by
      have a1 := hl1 _ hrd
      have a2 := hl2 _ hrd
      have hz1' : (zeroValue el).run P w.drew = .ok z w.drew := by
        have := hz1
        simp only [zeroValue, typeInfo, Sem.run_bind, run_program, Result.andThen_ok, hi, Sem.run_pure] at this ⊢
        cases hiz : i.zero with
        | none => simp [hiz] at this
        | some zz => simp [hiz] at this ⊢; exact this
      have hti' : (typeInfo el).run P w.drew = .ok i w.drew := by simp [typeInfo, hi]
      simp [Builtin.append_, hat0, hat1, run_underlying hu, run_underlying hu', run_size_ne h0, Builtin.lenOf, hti, hfit, hsz, hgrow', Question.forced, hq, a1, a2, hz1', hti', newRow]
      rw [← Array.append_assoc]; simp
    simp only [OpTo, hexec, hrun, Result.andThen_ok]
    have hk := hout hlt w.heap.size cap' r.fresh hle
    have nb := new_block (w := w) (w' := w.drew.alloc (.cells (old.toArray ++ new.toArray ++ Builtin.zeroCells z.cells (cap' - (s.len + x.len))) el)) r (cs := old ++ new) (sp := (Builtin.zeroCells z.cells (cap' - (s.len + x.len))).toList) (ty := el) (fr := (0, 0))
      (by show w.heap.push _ = w.heap.push _; congr 2; apply Array.ext'; simp) rfl rfl rfl (calm0 _)
    have htot : (old ++ new ++ (Builtin.zeroCells z.cells (cap' - (s.len + x.len))).toList).length = cap' * sizeP P el := by
      simp only [List.length_append, Array.length_toList, zeroCells_size, hol, hnl, hz3]
      rw [← Nat.add_mul, ← Nat.add_mul]
      congr 1; omega
    rw [htot] at nb
    exact ⟨_, hk, nb.1, nb.2⟩

theorem sem_extend {c : Call} {t u : TypeId} {el : TypeId} {s : Sl} {kx ki : IntKind} {n : Int} (ho : o.op = .call c) (hc : c.callee = .builtin .append) (ht : c.argTypes.toList = [t, u]) (hv : (c.args.toList.map e).map EV.get = [some (.slice s.base s.len s.cap), some (.int kx n)])
    (hu : P.underlying t = some (.slice el)) (hu' : P.underlying u = some (.int ki)) (hz : zeroOk P el = true) (h0 : sizeP P el ≠ 0) (hb0 : bytesP P el ≠ 0)
    (sp : pExtend (sizeP P el) (bytesP P el) (zc P el) s n (fun s => k (.slice s.base s.len s.cap)) h) : SemE P o e KP k h := fun ρ w hf r => by
  obtain ⟨old, ho1, hn0, hroom, hone0, hin, hout⟩ := sp
  have hat0 : c.argTypes[0]? = some t := by rw [← Array.getElem?_toList, ht]; rfl
  have hat1 : c.argTypes[1]? = some u := by rw [← Array.getElem?_toList, ht]; rfl
  have hargs : c.args.map ρ = #[.slice s.base s.len s.cap, .int kx n] := fits_arr hf _ [_, _] hv
  obtain ⟨i, hi⟩ := info_some_of_size h0
  have hti : (typeInfo el).run P w = .ok i w := by simp [typeInfo, hi]
  have hbytes : i.bytes = bytesP P el := by simp [bytesP, hi]
  obtain ⟨z, hz1, hz2, hz3, hz4⟩ := run_zero hz w
  have hexec : (execOp ρ o).run P w = ((Builtin.append_ c.argTypes o.type #[.slice s.base s.len s.cap, .int kx n]).run P w).andThen fun v w' => .ok (.value v) w' := by
    simp only [execOp, ho, resolve, hc, hargs, invoke, builtin, Sem.run_bind, Sem.run_pure, Result.andThen_ok]
  generalize hnew : (List.replicate n.toNat (zc P el)).flatten = new at *
  have hnl : new.length = n.toNat * sizeP P el := by rw [← hnew]; simp [hz4]
  have hone : oneCells new := by
    rw [← hnew]
    intro v hv
    obtain ⟨l, hl, hv⟩ := List.mem_flatten.1 hv
    rw [List.mem_replicate] at hl
    exact hone0 v (hl.2 ▸ hv)
  have hnb : n.toNat * bytesP P el ≤ 140737488355328 := by
    have : (s.len + n.toNat) * bytesP P el ≤ 140737488355328 := hroom
    rw [Nat.add_mul] at this; omega
  have hn47 : n.toNat ≤ 140737488355328 := Nat.le_trans (Nat.le_mul_of_pos_right _ (by omega)) hnb
  have hwrap : IntKind.i64.wrap n = n := by
    have : (n.toNat : Int) = n := by omega
    rw [IntKind.wrap_i64]; omega
  have happ : ∀ (w : World), (n.toNat * sizeP P el = 0 ∧ new = []) ∨ (n.toNat * sizeP P el ≠ 0 ∧ ∃ z', (zeroValue el).run P w = .ok z' w ∧ Builtin.zeroCells z'.cells n.toNat = new.toArray) := fun w => by
    obtain ⟨z', q1, q2, q3, q4⟩ := run_zero hz w
    by_cases hq : n.toNat * sizeP P el = 0
    · exact .inl ⟨hq, List.eq_nil_of_length_eq_zero (by rw [hnl, hq])⟩
    · refine .inr ⟨hq, z', q1, ?_⟩
      rw [← hnew]
      have := zeros_reps n.toNat (zc P el) (sizeP P el) hz4
      have e2 : (zc P el).toArray.size = sizeP P el := by simp [hz4]
      have hz' : (Builtin.zeroCells z'.cells n.toNat).toList = (List.replicate n.toNat (zc P el)).flatten := by
        unfold Builtin.zeroCells
        rw [q2]
        rw [e2] at this ⊢
        rw [this]; rfl
      apply Array.ext'
      rw [hz']
  have hneg : ¬ n < 0 := by omega
  have hbig : ¬ 281474976710656 < n * (i.bytes : Int) := by
    rw [hbytes]
    have e1 : n * (bytesP P el : Int) = ((n.toNat * bytesP P el : Nat) : Int) := by rw [Int.natCast_mul]; congr 1; omega
    rw [e1]; omega
  by_cases hfit : s.len + n.toNat ≤ s.cap
  · have hi2 := hin hfit
    cases hb : s.base with
    | none =>
      rw [hb] at hi2
      have hrun : (Builtin.append_ c.argTypes o.type #[.slice s.base s.len s.cap, .int kx n]).run P w = .ok (.slice none (s.len + n.toNat) s.cap) w := by
        rcases happ w with ⟨q1, q2⟩ | ⟨q1, z', q2, q3⟩ <;> simp [q1, q2, Builtin.append_, hat0, hat1, run_underlying hu, run_underlying hu', run_size_ne h0, asInt, asIntOf, hwrap, hneg, hti, hbig, hfit, hb]
      simp only [OpTo, hexec, hrun, Result.andThen_ok]
      exact .here r hi2
    | some a =>
      rw [hb] at hi2
      obtain ⟨cs, tot, g1, g2, g3, g4, g5⟩ := hi2
      have hcap : a.off + s.len * sizeP P el + new.length ≤ tot := by
        have : (s.len + n.toNat) * sizeP P el ≤ s.cap * sizeP P el := Nat.mul_le_mul_right _ hfit
        rw [Nat.add_mul] at this
        omega
      obtain ⟨w', e1, e2, e3⟩ := store_cells (P := P) (a := a.add (s.len * sizeP P el)) r (add_spot g1 _) (by rw [add_block]; exact g2) hone (off := a.off + s.len * sizeP P el) g3 hcap (add_off _ _).symm
      rw [add_block] at e2 e3
      have hrun : (Builtin.append_ c.argTypes o.type #[.slice s.base s.len s.cap, .int kx n]).run P w = .ok (.slice (some a) (s.len + n.toNat) s.cap) w' := by
        rcases happ w with ⟨q1, q2⟩ | ⟨q1, z', q2, q3⟩
        · rw [q2] at e1; simp [q1, Builtin.append_, hat0, hat1, run_underlying hu, run_underlying hu', run_size_ne h0, asInt, asIntOf, hwrap, hneg, hti, hbig, hfit, hb, e1]
        · simp [q1, q2, q3, Builtin.append_, hat0, hat1, run_underlying hu, run_underlying hu', run_size_ne h0, asInt, asIntOf, hwrap, hneg, hti, hbig, hfit, hb, e1]
      simp only [OpTo, hexec, hrun, Result.andThen_ok]
      exact ⟨_, g5, e2, e3⟩
  · have hlt : s.cap < s.len + n.toNat := by omega
    have hgrow : ¬ Builtin.nextslicecap (s.len + n.toNat) s.cap * i.bytes > 2 ^ 48 := by
      have := growslice_fits (need := s.len + n.toNat) (old := s.cap) (bytes := i.bytes) hlt (by rw [hbytes]; exact hroom)
      have e : (2 : Nat) ^ 48 = 281474976710656 := by decide
      omega
    have hgrow' : ¬ 281474976710656 < Builtin.nextslicecap (s.len + n.toNat) s.cap * i.bytes := by
      have e : (2 : Nat) ^ 48 = 281474976710656 := by decide
      omega
    generalize hq : Question.cut (.appendCap (s.len + n.toNat) s.cap el) (w.tape w.drawn (.appendCap (s.len + n.toNat) s.cap el)) = cap'
    have hle : s.len + n.toNat ≤ cap' := by rw [← hq]; simp only [Question.cut]; omega
    have hl1 := fun w' (hw : R h w') => sl_load (P := P) hw ho1
    have hrd : R h w.drew := r.of_heap rfl
    have hol := sl_length ho1
    have hneed : ¬ (9223372036854775807 : Int) < (s.len : Int) + max n 0 := by
      have : s.len + n.toNat ≤ 140737488355328 := Nat.le_trans (Nat.le_mul_of_pos_right _ (Nat.pos_of_ne_zero hb0)) hroom
      omega
    have hsz : ¬ i.bytes = 0 := by rw [hbytes]; exact hb0
    have hrun : (Builtin.append_ c.argTypes o.type #[.slice s.base s.len s.cap, .int kx n]).run P w =
        .ok (.slice (some ⟨w.heap.size, 0, none⟩) (s.len + n.toNat) cap') (w.drew.alloc (.cells (old.toArray ++ new.toArray ++ Builtin.zeroCells z.cells (cap' - (s.len + n.toNat))) el)) := by
      have a1 := hl1 _ hrd
      have hz1' : (zeroValue el).run P w.drew = .ok z w.drew := by
        have := hz1
        simp only [zeroValue, typeInfo, Sem.run_bind, run_program, Result.andThen_ok, hi, Sem.run_pure] at this ⊢
        cases hiz : i.zero with
        | none => simp [hiz] at this
        | some zz => simp [hiz] at this ⊢; exact this
      have hti' : (typeInfo el).run P w.drew = .ok i w.drew := by simp [typeInfo, hi]
      rcases happ w.drew with ⟨q1, q2⟩ | ⟨q1, z', q2, q3⟩
      · simp [q1, q2, Builtin.append_, hat0, hat1, run_underlying hu, run_underlying hu', run_size_ne h0, asInt, asIntOf, hwrap, hneg, hti, hbig, hneed, hfit, hgrow', Question.forced, hq, a1, hz1', hti', newRow]
      · have q4 := q3
        rw [hz1'] at q2; cases q2
        simp [q1, q3, Builtin.append_, hat0, hat1, run_underlying hu, run_underlying hu', run_size_ne h0, asInt, asIntOf, hwrap, hneg, hti, hbig, hneed, hfit, hgrow', Question.forced, hq, a1, hz1', hti', newRow]
        rw [← Array.append_assoc]; simp
    simp only [OpTo, hexec, hrun, Result.andThen_ok]
    have hk := hout hlt w.heap.size cap' r.fresh hle
    have nb := new_block (w := w) (w' := w.drew.alloc (.cells (old.toArray ++ new.toArray ++ Builtin.zeroCells z.cells (cap' - (s.len + n.toNat))) el)) r (cs := old ++ new) (sp := (Builtin.zeroCells z.cells (cap' - (s.len + n.toNat))).toList) (ty := el) (fr := (0, 0))
      (by show w.heap.push _ = w.heap.push _; congr 2; apply Array.ext'; simp) rfl rfl rfl (calm0 _)
    have htot : (old ++ new ++ (Builtin.zeroCells z.cells (cap' - (s.len + n.toNat))).toList).length = cap' * sizeP P el := by
      simp only [List.length_append, Array.length_toList, zeroCells_size, hol, hnl, hz3]
      rw [← Nat.add_mul, ← Nat.add_mul]
      congr 1; omega
    rw [htot] at nb
    exact ⟨_, hk, nb.1, nb.2⟩

end
end Go.Hl

set_option linter.unusedSimpArgs false
set_option linter.unusedSectionVars false
namespace Go.Hl
section
variable {P : Program} {o : Oper} {e : Operand → EV} {KP k : Value → Pr} {h : Heap}

theorem run_getObj' {w : World} {r : Nat} {ob : Obj} (hb : w.heap[r]? = some ob) (hc : ∀ c t f, ob ≠ .cells c t f) : (getObj r).run P w = .ok ob w := by
  cases ob <;> first
    | (simp [getObj, Sem.run, hb]; done)
    | exact absurd rfl (hc _ _ _)
theorem run_setObj' {w : World} {r : Nat} {ob : Obj} (hb : w.heap[r]? = some ob) (hc : ∀ c t f, ob ≠ .cells c t f) (o' : Obj) : (setObj r o').run P w = .ok () { w with heap := w.heap.setIfInBounds r o' } := by
  cases ob <;> first
    | (simp [setObj, Sem.run, hb]; done)
    | exact absurd rfl (hc _ _ _)

/-- A new block of whatever kind. -/
theorem new_any {h : Heap} {w w' : World} (r : R h w) {ob : Obj} {x : Blk} (hx : x.At (some ob)) (hw : w'.heap = w.heap.push ob) (ho : w'.os = w.os) (ht : w'.tape = w.tape) (hu : w'.output = w.output) :
    R (h.set w.heap.size x) w' ∧ Fr h w (h.set w.heap.size x) w' := by
  refine ⟨fun i y hi => ?_, ho, ht, hu, by rw [hw]; simp, fun i hi hq => ?_⟩
  · by_cases hib : i = w.heap.size
    · subst hib
      simp only [Heap.set_same] at hi; cases hi
      rw [hw]; simpa using hx
    · rw [Heap.set_ne _ _ hib] at hi
      have hlt := r.lt hi
      rw [hw, Array.getElem?_push, if_neg (by omega)]
      exact r _ _ hi
  · have hib : i ≠ w.heap.size := by omega
    rw [Heap.set_ne _ _ hib]
    refine ⟨?_, .inr rfl⟩
    rw [hw, Array.getElem?_push, if_neg (by omega)]

/-- An object that is known, written anew. -/
theorem put_any {h : Heap} {w : World} (r : R h w) {b : Nat} {x y : Blk} {ob : Obj} (hb : h b = some x) (hq : ¬ Quiet (h b)) (hy : y.At (some ob)) :
    R (h.set b y) { w with heap := w.heap.setIfInBounds b ob } ∧ Fr h w (h.set b y) { w with heap := w.heap.setIfInBounds b ob } := by
  have hlt := r.lt hb
  refine ⟨fun i z hi => ?_, rfl, rfl, rfl, by simp, fun i hi hqi => ?_⟩
  · by_cases hib : i = b
    · subst hib
      simp only [Heap.set_same] at hi; cases hi
      simp only [Array.getElem?_setIfInBounds, if_true, hlt]
      simpa using hy
    · rw [Heap.set_ne _ _ hib] at hi
      simp only [Array.getElem?_setIfInBounds]
      rw [if_neg (by omega)]
      exact r _ _ hi
  · have hib : i ≠ b := fun e => hq (by rw [← e]; exact hqi)
    rw [Heap.set_ne _ _ hib]
    refine ⟨?_, .inr rfl⟩
    simp only [Array.getElem?_setIfInBounds]
    rw [if_neg (by omega)]

theorem sem_newObj {x : Blk} {ob : Obj} {mk : Nat → Value} (hx : x.At (some ob)) (hrun : ∀ ρ w, Fits e ρ → (execOp ρ o).run P w = .ok (.value (mk w.heap.size)) { w with heap := w.heap.push ob })
    (s : pNewObj x (fun b => k (mk b)) h) : SemE P o e KP k h := fun ρ w hf r => by
  simp only [OpTo, hrun ρ w hf]
  have nb := new_any (w' := { w with heap := w.heap.push ob }) r hx rfl rfl rfl rfl
  exact ⟨_, s _ r.fresh, nb.1, nb.2⟩

theorem sem_makeMap {t : TypeId} {x : Option Operand} (ho : o.op = .makeMap t x)
    (s : (match x with
      | none => pNewObj (.map []) fun b => k (.map (some b))
      | some x => gv (e x) fun v => match v, P.underlying t with
        | .int _ _, some (.map _ _) => pNewObj (.map []) fun b => k (.map (some b))
        | _, _ => F) h) : SemE P o e KP k h := by
  cases x with
  | none =>
    refine sem_newObj (x := .map []) (ob := .map #[] 0) (mk := fun b => .map (some b)) ⟨#[], 0, rfl, rfl, BornOk.nil _⟩ (fun ρ w hf => ?_) s
    simp [execOp, ho, Instr.makeMap]
  | some x =>
    obtain ⟨v, hv, s⟩ := gv_some s
    cases v <;> try exact s.elim
    cases hu : P.underlying t with
    | none => simp only [hu] at s; exact s.elim
    | some d =>
      simp only [hu] at s
      cases d <;> try exact s.elim
      refine sem_newObj (x := .map []) (ob := .map #[] 0) (mk := fun b => .map (some b)) ⟨#[], 0, rfl, rfl, BornOk.nil _⟩ (fun ρ w hf => ?_) s
      simp [execOp, ho, Instr.makeMap, run_underlying hu, hf x _ hv, asInt]
      rfl

theorem sem_range {t : TypeId} {x : Operand} (ho : o.op = .range t x) {v : Value} (hx : (e x).get = some v)
    (s : (match P.underlying t, v with
      | some .string, .string s => pNewObj (.obj (.stringIter s 0)) fun b => k (.pointer (some ⟨b, 0, none⟩))
      | _, _ => F) h) : SemE P o e KP k h := by
  cases hu : P.underlying t with
  | none => simp only [hu] at s; exact s.elim
  | some d =>
    simp only [hu] at s
    cases d <;> try exact s.elim
    cases v <;> try exact s.elim
    rename_i st
    refine sem_newObj (x := .obj (.stringIter st 0)) (ob := .stringIter st 0) (mk := fun b => .pointer (some ⟨b, 0, none⟩)) rfl (fun ρ w hf => ?_) s
    simp [execOp, ho, Instr.range, run_underlying hu, hf x _ hx]

/-- The next rune: a tuple of three, or that it is over. -/
def vcNext (it : Operand) (str : Bool) (env : Operand → EV) (k : EV → Pr) : Pr :=
  match str with
  | true => gv (env it) fun v => match v with
    | .pointer (some ⟨b, 0, _⟩) => pRune b (fun i c => k (.step (.int .i64 i) (.int .i32 c))) (k .over)
    | _ => F
  | false => F

theorem sem_next {it : Operand} {str : Bool} (ho : o.op = .next it str) {k : EV → Pr} (s : vcNext it str e k h) : SemE P o e KP (fun v h => ∃ x : EV, x.get = some v ∧ k x h) h := fun ρ w hf r => by
  unfold vcNext at s
  cases str with
  | false => exact s.elim
  | true =>
    simp only at s
    obtain ⟨v, hv, s⟩ := gv_some s
    split at s
    · rename_i b sp
      obtain ⟨st, pos, hb, h1, h2⟩ := s
      have ho' := r b _ hb
      have hob : w.heap[b]? = some (.stringIter st pos) := ho'
      have hg := run_getObj' (P := P) hob (by intros; simp)
      have hs := run_setObj' (P := P) hob (by intros; simp)
      by_cases hp : pos < st.size
      · have hrun : (execOp ρ o).run P w = .ok (.value (.tuple #[.bool true, .int .i64 pos, .int .i32 (Utf8.decode st pos).1])) { w with heap := w.heap.setIfInBounds b (.stringIter st (pos + (Utf8.decode st pos).2)) } := by
          simp [execOp, ho, Instr.next, hf it _ hv, hg, hp, hs, goInt]
        simp only [OpTo, hrun]
        obtain ⟨r', f'⟩ := put_any r (y := .obj (.stringIter st (pos + (Utf8.decode st pos).2))) (ob := .stringIter st (pos + (Utf8.decode st pos).2)) hb (by rw [hb]; rintro (hh | ⟨_, hh⟩) <;> cases hh) rfl
        exact ⟨_, ⟨_, rfl, h1 hp⟩, r', f'⟩
      · have hrun : (execOp ρ o).run P w = .ok (.value (.tuple #[.bool false])) w := by
          simp [execOp, ho, Instr.next, hf it _ hv, hg, hp]
        simp only [OpTo, hrun]
        exact .here r ⟨_, rfl, h2 hp⟩
    · exact s.elim

theorem sem_makeIface {t : TypeId} {x : Operand} (ho : o.op = .makeInterface t x) {v : Value} (hx : (e x).get = some v) (s : vcMakeIface P t v k h) : SemP P o e k h := by
  unfold vcMakeIface at s
  cases hu : P.underlying t with
  | none => simp only [hu] at s; exact s.elim
  | some d =>
    simp only [hu] at s
    cases hd : isIfaceD d with
    | true => simp only [hd] at s; exact s.elim
    | false =>
      simp only [hd] at s
      refine ⟨_, fun ρ w hf => ?_, s⟩
      cases d <;> first
        | (simp [isIfaceD] at hd; done)
        | simp [execOp, ho, hf x _ hx, Instr.makeInterface, run_underlying hu]

theorem run_zeroV {t : TypeId} {z : Value} (hz : zeroV P t = some z) (w : World) : (zeroValue t).run P w = .ok z w := by
  unfold zeroV at hz
  cases hi : P.info? t with
  | none => simp [hi] at hz
  | some i =>
    simp [hi] at hz
    simp [zeroValue, typeInfo, hi, hz]

theorem sem_assert {x : Operand} {xt t : TypeId} {ok : Bool} (ho : o.op = .typeAssert x xt t ok) {v : Value} (hx : (e x).get = some v) (s : vcAssert P v t ok k h) : SemP P o e k h := by
  unfold vcAssert at s
  cases hu : P.underlying t with
  | none => simp only [hu] at s; exact s.elim
  | some d =>
    simp only [hu] at s
    cases hd : isIfaceD d with
    | true => simp only [hd] at s; exact s.elim
    | false =>
      simp only [hd] at s
      cases ok with
      | false =>
        obtain ⟨y, rfl, s⟩ := s
        refine ⟨_, fun ρ w hf => ?_, s⟩
        cases d <;> first
          | (simp [isIfaceD] at hd; done)
          | simp [execOp, ho, hf x _ hx, Instr.typeAssert, run_underlying hu]
      | true =>
        simp only at s
        cases hz : zeroV P t with
        | none => simp only [hz] at s; exact s.elim
        | some z =>
          simp only [hz] at s
          rcases s with ⟨y, rfl, s⟩ | ⟨hot, y, hy, s⟩
          · refine ⟨_, fun ρ w hf => ?_, s⟩
            cases d <;> first
              | (simp [isIfaceD] at hd; done)
              | simp [execOp, ho, hf x _ hx, Instr.typeAssert, run_underlying hu]
          · rw [← hy] at s
            refine ⟨_, fun ρ w hf => ?_, s⟩
            cases v <;> try exact hot.elim
            case iface u y' =>
              have hut : ¬ u = t := hot
              cases d <;> first
                | (simp [isIfaceD] at hd; done)
                | simp [execOp, ho, hf x _ hx, Instr.typeAssert, run_underlying hu, hut, run_zeroV hz]
            case nilIface =>
              cases d <;> first
                | (simp [isIfaceD] at hd; done)
                | simp [execOp, ho, hf x _ hx, Instr.typeAssert, run_underlying hu, run_zeroV hz]

/- Maps. -/
theorem findNow_eq (kd : TypeDesc) (key : Value) : ∀ (es : List MapEntry) (i : Nat) (res : Option Value), findM kd key (es.map fun x => (x.key, x.val)) = some res →
    ∃ q, Instr.findNow kd key es i = some q ∧ q.map (·.2) = res
  | [], i, res, h => by
    simp [findM] at h; subst h; exact ⟨none, rfl, rfl⟩
  | x :: es, i, res, h => by
    simp only [List.map_cons, findM] at h
    cases hq : Instr.sameNow kd key x.key with
    | none => simp [hq] at h
    | some c =>
      simp only [hq] at h
      cases c with
      | true =>
        simp at h; subst h
        exact ⟨some (i, x.val), by simp [Instr.findNow, hq], rfl⟩
      | false =>
        simp only at h
        obtain ⟨q, h1, h2⟩ := findNow_eq kd key es (i + 1) res h
        exact ⟨q, by simp [Instr.findNow, hq, h1], h2⟩

theorem checkKey_gen {kt : TypeId} {kd : TypeDesc} (hu : P.underlying kt = some kd) (hk : simpleKey kd = true) (em : Bool) (n : Nat) (key : Value) (w : World) : (Instr.checkKey em (n + 1) kt key).run P w = .ok () w := by
  cases kd <;> first
    | (simp [simpleKey] at hk; done)
    | simp [Instr.checkKey, run_underlying hu]
theorem checkKey_simple {kt : TypeId} {kd : TypeDesc} (hu : P.underlying kt = some kd) (hk : simpleKey kd = true) (em : Bool) (key : Value) (w : World) : (Instr.checkKey em 10000 kt key).run P w = .ok () w := checkKey_gen hu hk em 9999 key w

theorem sem_lookup {t : TypeId} {x i : Operand} {ok : Bool} (ho : o.op = .lookup t x i ok) {vm vi : Value} (hx : (e x).get = some vm) (hi : (e i).get = some vi) (s : vcLookup P t vm vi ok k h) : SemE P o e KP k h := fun ρ w hf r => by
  unfold vcLookup at s
  cases hu : P.underlying t with
  | none => simp only [hu] at s; exact s.elim
  | some d =>
    simp only [hu] at s
    cases d <;> try exact s.elim
    rename_i kt et
    simp only at s
    cases hk : P.underlying kt with
    | none => simp only [hk] at s; exact s.elim
    | some kd =>
      simp only [hk] at s
      cases hsk : simpleKey kd with
      | false => simp only [hsk] at s; exact s.elim
      | true =>
        cases hz : zeroV P et with
        | none => simp only [hsk, hz] at s; exact s.elim
        | some z =>
          simp only [hsk, hz] at s
          cases vm <;> try exact s.elim
          rename_i m
          have hck := checkKey_simple (P := P) hk hsk
          have hzz := run_zeroV (P := P) hz
          have fin : ∀ (res : Option Value), (execOp ρ o).run P w = .ok (.value (match ok with
              | true => (match res with | some v => .tuple #[v, .bool true] | none => .tuple #[z, .bool false])
              | false => (match res with | some v => v | none => z))) w → (∃ x, res.getD z = (shapeOf P et).inj x ∧ (match ok with
              | true => k (.tuple #[(shapeOf P et).inj x, .bool res.isSome])
              | false => k ((shapeOf P et).inj x)) h) → OpTo P o ρ w (fun v w' => Ends h w (k v) w') (fun v w' => Ends h w (KP v) w') := by
            intro res hrun hk'
            simp only [OpTo, hrun]
            refine .here r ?_
            obtain ⟨x, hx, hk'⟩ := hk'
            rw [← hx] at hk'
            cases ok <;> cases res <;> exact hk'
          cases m with
          | none =>
            refine fin none ?_ (by obtain ⟨x, h1, h2⟩ := s; exact ⟨x, h1, h2⟩)
            have hfk : (Instr.findKey kt vi []).run P w = .ok none w := by simp [Instr.findKey, run_underlying hk, Instr.findNow]
            cases ok <;> simp [execOp, ho, Instr.lookup, hf x _ hx, hf i _ hi, run_underlying hu, hck, hfk, hzz]
          | some b =>
            obtain ⟨es, res, xx, hb, hfe, hxx, hk'⟩ := s
            obtain ⟨me, clk, hob, hes, hbo⟩ := r b _ hb
            subst hes
            obtain ⟨q, h1, h2⟩ := findNow_eq kd vi me.toList 0 res hfe
            have hg := run_getObj' (P := P) hob (by intros; simp)
            have hfk : (Instr.findKey kt vi me.toList).run P w = .ok q w := by simp [Instr.findKey, run_underlying hk, h1]
            refine fin res ?_ ⟨xx, hxx, hk'⟩
            cases q with
            | none =>
              simp at h2; subst h2
              cases ok <;> simp [execOp, ho, Instr.lookup, hf x _ hx, hf i _ hi, run_underlying hu, hck, hfk, hzz, hg]
            | some q =>
              simp at h2; subst h2
              cases ok <;> simp [execOp, ho, Instr.lookup, hf x _ hx, hf i _ hi, run_underlying hu, hck, hfk, hzz, hg]

theorem bytes_eq {a b : ByteArray} (h : (a == b) = true) : a = b := by
  have h' : (a.data == b.data) = true := h
  have := eq_of_beq h'
  cases a; cases b; simp_all
theorem bytes_self (a : ByteArray) : (a == a) = true := by
  show (a.data == a.data) = true
  simp
theorem sameBits_now {kd : TypeDesc} {a b : Value} (h : Instr.sameNow kd a b = some true) (n : Nat) : Instr.sameBits n b a = true := by
  unfold Instr.sameNow at h
  split at h
  · split at h
    · rename_i hk
      simp at h; subst h; subst hk; unfold Instr.sameBits; simp
    · cases h
  · simp only [Option.some.injEq] at h
    have := bytes_eq h
    subst this; unfold Instr.sameBits; exact bytes_self _
  · simp at h; subst h; unfold Instr.sameBits; simp
  · cases h

theorem put_eq (kd : TypeDesc) (key v : Value) : ∀ (es : List MapEntry) (i : Nat) (es' : List (Value × Value)), putM kd key v (es.map fun x => (x.key, x.val)) = some es' →
    (Instr.findNow kd key es i = some none ∧ es' = (es.map fun x => (x.key, x.val)) ++ [(key, v)]) ∨
    (∃ j u, Instr.findNow kd key es i = some (some (i + j, u)) ∧ ∃ (hj : j < es.length), Instr.sameNow kd key (es[j]).key = some true ∧ es' = (es.modify j fun x => { x with key := key, val := v }).map fun x => (x.key, x.val))
  | [], i, es', h => by
    simp [putM] at h; subst h; exact .inl ⟨rfl, rfl⟩
  | x :: es, i, es', h => by
    simp only [List.map_cons, putM] at h
    cases hq : Instr.sameNow kd key x.key with
    | none => simp [hq] at h
    | some c =>
      simp only [hq] at h
      cases c with
      | true =>
        simp at h; subst h
        exact .inr ⟨0, x.val, by simp [Instr.findNow, hq], by simp, hq, by simp⟩
      | false =>
        simp only at h
        cases hp : putM kd key v (es.map fun x => (x.key, x.val)) with
        | none => simp [hp] at h
        | some r =>
          simp [hp] at h; subst h
          rcases put_eq kd key v es (i + 1) r hp with ⟨h1, h2⟩ | ⟨j, u, h1, hj, h2, h3⟩
          · exact .inl ⟨by simp [Instr.findNow, hq, h1], by simp [h2]⟩
          · exact .inr ⟨j + 1, u, by simp [Instr.findNow, hq, h1]; omega, by simp; omega, by simpa using h2, by simp [h3]⟩

theorem sem_put {t : TypeId} {x i y : Operand} (ho : o.op = .mapUpdate t x i y ∨ o.op = .insert t x i y) {vm vi v : Value} (hx : (e x).get = some vm) (hi : (e i).get = some vi) (hy : (e y).get = some v) (s : vcPut P t vm vi v (k undef) h) : SemE P o e KP k h := fun ρ w hf r => by
  unfold vcPut at s
  cases hu : P.underlying t with
  | none => simp only [hu] at s; exact s.elim
  | some d =>
    simp only [hu] at s
    cases d <;> try exact s.elim
    rename_i kt et
    simp only at s
    cases hk : P.underlying kt with
    | none => simp only [hk] at s; exact s.elim
    | some kd =>
      simp only [hk] at s
      cases hsk : simpleKey kd with
      | false => simp only [hsk] at s; exact s.elim
      | true =>
        simp only [hsk] at s
        cases vm <;> try exact s.elim
        rename_i m
        obtain ⟨b, es, es', rfl, hb, hp, hk'⟩ := s
        obtain ⟨me, clk, hob, hes, hbo⟩ := r b _ hb
        subst hes
        have hck := checkKey_simple (P := P) hk hsk
        have hg := run_getObj' (P := P) hob (by intros; simp)
        have hs := run_setObj' (P := P) hob (by intros; simp)
        have hexec : (execOp ρ o).run P w = ((Instr.mapUpdate t (.map (some b)) vi v).run P w).andThen fun _ w' => .ok .skip w' := by
          rcases ho with ho | ho <;> simp only [execOp, ho, hf x _ hx, hf i _ hi, hf y _ hy, Sem.run_bind, Sem.run_pure]
        have hq : ¬ Quiet (h b) := by rw [hb]; rintro (hh | ⟨_, hh⟩) <;> cases hh
        rcases put_eq kd vi v me.toList 0 es' hp with ⟨h1, h2⟩ | ⟨j, u, h1, hj, h2, h3⟩
        · have hrun : (Instr.mapUpdate t (.map (some b)) vi v).run P w = .ok () { w with heap := w.heap.setIfInBounds b (.map (me.push { key := vi, val := v, born := clk }) (clk + 1)) } := by
            simp [Instr.mapUpdate, run_underlying hu, hg, hck, Instr.findKey, run_underlying hk, h1, hs]
          simp only [OpTo, hexec, hrun, Result.andThen_ok]
          obtain ⟨r', f'⟩ := put_any r (y := .map es') (ob := .map (me.push { key := vi, val := v, born := clk }) (clk + 1)) hb hq ⟨_, _, rfl, by rw [h2]; simp, hbo.push _ _⟩
          exact ⟨_, hk', r', f'⟩
        · simp only [Nat.zero_add] at h1
          have hsb := sameBits_now h2 10000
          have hkey : (Instr.keyThatStays (((me[j]?).map (·.key)).getD vi) vi).run P w = .ok vi w := by
            have hj' : j < me.size := by simpa using hj
            have e1 : ((me[j]?).map (·.key)).getD vi = (me.toList[j]).key := by simp [hj']
            rw [e1]
            simp only [Instr.keyThatStays, hsb, if_true, Sem.run_pure]
          have hrun : (Instr.mapUpdate t (.map (some b)) vi v).run P w = .ok () { w with heap := w.heap.setIfInBounds b (.map (me.modify j fun x => { x with key := vi, val := v }) clk) } := by
            simp only [Instr.mapUpdate, run_underlying hu, hg, hck, Instr.findKey, run_underlying hk, h1, hs, hkey, Sem.run_bind, Sem.run_pure, Result.andThen_ok]
          simp only [OpTo, hexec, hrun, Result.andThen_ok]
          obtain ⟨r', f'⟩ := put_any r (y := .map es') (ob := .map (me.modify j fun x => { x with key := vi, val := v }) clk) hb hq ⟨_, _, rfl, by rw [h3]; simp, hbo.modify _ _ _⟩
          exact ⟨_, hk', r', f'⟩

/- copy, clear, cap, make. -/
theorem sem_cap {c : Call} {t : TypeId} {ts : List TypeId} {v : Value} (ho : o.op = .call c) (hc : c.callee = .builtin .cap) (ht : c.argTypes.toList = t :: ts) (hv : (c.args.toList.map e).map EV.get = [v].map some)
    (s : vcCap P t v k h) : SemP P o e k h := by
  have hat : c.argTypes[0]? = some t := by rw [← Array.getElem?_toList, ht]; rfl
  unfold vcCap at s
  cases hu : P.underlying t with
  | none => simp only [hu] at s; exact s.elim
  | some d =>
    simp only [hu] at s
    cases d <;> try exact s.elim
    cases v <;> try exact s.elim
    refine ⟨_, fun ρ w hf => ?_, s⟩
    simp only [execOp, ho, resolve, hc, fits_arr hf _ _ hv, invoke, builtin, Sem.run_bind, Sem.run_pure, Result.andThen_ok]
    simp [Builtin.cap_, hat, run_underlying hu, goInt]

theorem sem_copy {c : Call} {ts : List TypeId} {args : List Value} (ho : o.op = .call c) (hc : c.callee = .builtin .copy) (ht : c.argTypes.toList = ts) (hv : (c.args.toList.map e).map EV.get = args.map some)
    (s : vcCopy P ts args k h) : SemE P o e KP k h := fun ρ w hf r => by
  unfold vcCopy at s
  split at s <;> try exact s.elim
  rename_i t ts' a n cc b m d
  cases hu : P.underlying t with
  | none => simp only [hu] at s; exact s.elim
  | some dd =>
    simp only [hu] at s
    cases dd <;> try exact s.elim
    rename_i el
    simp only at s
    cases hz : sizeP P el with
    | zero => simp only [hz] at s; exact s.elim
    | succ z =>
      simp only [hz] at s
      obtain ⟨s1, s2⟩ := s
      simp only at s1 s2
      have hat : c.argTypes[0]? = some t := by rw [← Array.getElem?_toList, ht]; rfl
      have hargs := fits_arr hf _ _ hv
      have hsz := run_size_ne (P := P) (t := el) (by omega)
      have hexec : (execOp ρ o).run P w = ((Builtin.copy_ c.argTypes o.type #[.slice a n cc, .slice b m d]).run P w).andThen fun v w' => .ok (.value v) w' := by
        simp only [execOp, ho, resolve, hc, hargs, invoke, builtin, Sem.run_bind, Sem.run_pure, Result.andThen_ok]
      by_cases hn : min m n = 0
      · have hl : (Builtin.firstCells (sizeP P el) 0 (.slice b m d)).run P w = .ok #[] w := by
          cases b with
          | none => simp [Builtin.firstCells]
          | some bb =>
            simp only [Builtin.firstCells, Nat.zero_mul]
            exact run_loadCells_list w bb [] (by simp)
        have hmn : Nat.min m n = 0 := hn
        have hrun : (Builtin.copy_ c.argTypes o.type #[.slice a n cc, .slice b m d]).run P w = .ok (.int .i64 0) w := by
          cases a <;> simp [Builtin.copy_, hat, run_underlying hu, hsz, Builtin.lenOf, hmn, hl, goInt, storeCells]
        simp only [OpTo, hexec, hrun, Result.andThen_ok]
        exact .here r (s1 hn)
      · obtain ⟨xs, aa, cs, tot, hxs, ha, hsp, hb, hle, hlt, hone, hk'⟩ := s2 hn
        subst ha
        have hl := sl_load (P := P) r hxs
        simp only at hl
        have hmn : Nat.min m n = min m n := rfl
        have hxl := sl_length hxs
        simp only at hxl
        have htot : aa.off + xs.length ≤ tot := by rw [hxl]; omega
        obtain ⟨w', e1, e2, e3⟩ := store_cells (P := P) r hsp hb hone (off := aa.off) (by omega) htot rfl
        have hl' : (Builtin.firstCells (sizeP P el) (min m n) (.slice b m d)).run P w = .ok xs.toArray w := by
          rw [hz]
          cases b <;> exact hl
        have hrun : (Builtin.copy_ c.argTypes o.type #[.slice (some aa) n cc, .slice b m d]).run P w = .ok (.int .i64 ((min m n : Nat) : Int)) w' := by
          simp only [Builtin.copy_, hat, run_underlying hu, hsz, Builtin.lenOf, hmn, hl', goInt, Sem.run_bind, Sem.run_pure, Result.andThen_ok, List.getElem?_toArray, List.getElem?_cons_zero, List.getElem?_cons_succ, e1]
        simp only [OpTo, hexec, hrun, Result.andThen_ok]
        exact ⟨_, hk', e2, e3⟩

theorem sem_clear {c : Call} {ts : List TypeId} {args : List Value} (ho : o.op = .call c) (hc : c.callee = .builtin .clear) (ht : c.argTypes.toList = ts) (hv : (c.args.toList.map e).map EV.get = args.map some)
    (s : vcClear P ts args k h) : SemE P o e KP k h := fun ρ w hf r => by
  unfold vcClear at s
  split at s <;> try exact s.elim
  rename_i t ts' a n cc
  cases hu : P.underlying t with
  | none => simp only [hu] at s; exact s.elim
  | some dd =>
    simp only [hu] at s
    cases dd <;> try exact s.elim
    rename_i el
    simp only at s
    cases hzo : zeroOk P el with
    | false => simp only [hzo] at s; exact s.elim
    | true =>
      simp only [hzo] at s
      cases hz : sizeP P el with
      | zero => simp only [hz] at s; exact s.elim
      | succ z =>
        simp only [hz] at s
        obtain ⟨s1, s2, s3⟩ := s
        simp only at s1 s2 s3
        have hat : c.argTypes[0]? = some t := by rw [← Array.getElem?_toList, ht]; rfl
        have hargs := fits_arr hf _ _ hv
        have hexec : (execOp ρ o).run P w = ((Builtin.clear_ c.argTypes o.type #[.slice a n cc]).run P w).andThen fun v w' => .ok (.value v) w' := by
          simp only [execOp, ho, resolve, hc, hargs, invoke, builtin, Sem.run_bind, Sem.run_pure, Result.andThen_ok]
        by_cases hn : n = 0
        · have hrun : (Builtin.clear_ c.argTypes o.type #[.slice a n cc]).run P w = .ok (.tuple #[]) w := by
            subst hn
            cases a <;> simp [Builtin.clear_, hat, run_underlying hu]
          simp only [OpTo, hexec, hrun, Result.andThen_ok]
          exact .here r (s1 hn)
        · cases a with
          | none =>
            have hrun : (Builtin.clear_ c.argTypes o.type #[.slice none n cc]).run P w = .ok (.tuple #[]) w := by
              simp [Builtin.clear_, hat, run_underlying hu]
            simp only [OpTo, hexec, hrun, Result.andThen_ok]
            exact .here r (s2 hn rfl)
          | some aa =>
            obtain ⟨cs, tot, hsp, hb, hle, hone, hk'⟩ := s3 hn aa rfl
            obtain ⟨zv, hz1, hz2, hz3, hz4⟩ := run_zero hzo w
            have hzc : (Builtin.zeroCells zv.cells n).toList = (List.replicate n (zc P el)).flatten := by
              have := zeros_reps n (zc P el) (sizeP P el) hz4
              unfold Builtin.zeroCells
              rw [hz2]
              have e2 : (zc P el).toArray.size = sizeP P el := by simp [hz4]
              rw [e2] at this ⊢
              rw [this]; rfl
            have hzl : ((List.replicate n (zc P el)).flatten).length = n * sizeP P el := by simp [hz4]
            have hone' : oneCells (List.replicate n (zc P el)).flatten := by
              intro v hv
              obtain ⟨l, hl, hvl⟩ := List.mem_flatten.1 hv
              rw [List.eq_of_mem_replicate hl] at hvl
              exact hone v hvl
            obtain ⟨sp, ty, fr, hh1, hh2, _⟩ := r _ _ hb
            have htot : aa.off + ((List.replicate n (zc P el)).flatten).length ≤ tot := by rw [← hh2, hzl, hz]; simp; omega
            obtain ⟨w', e1, e2, e3⟩ := store_cells (P := P) r hsp hb hone' (off := aa.off) (by omega) htot rfl
            have hrun : (Builtin.clear_ c.argTypes o.type #[.slice (some aa) n cc]).run P w = .ok (.tuple #[]) w' := by
              cases n with
              | zero => exact absurd rfl hn
              | succ n => simp [Builtin.clear_, hat, run_underlying hu, hz1, hzc, e1]
            simp only [OpTo, hexec, hrun, Result.andThen_ok]
            exact ⟨_, hk', e2, e3⟩

theorem sem_makeSlice {t : TypeId} {l c : Operand} (ho : o.op = .makeSlice t l c) {vl vc : Value} (hl : (e l).get = some vl) (hc : (e c).get = some vc) (s : vcMakeSlice P t vl vc k h) : SemA P o e k h := by
  unfold vcMakeSlice at s
  cases hu : P.underlying t with
  | none => simp only [hu] at s; exact s.elim
  | some dd =>
    simp only [hu] at s
    cases dd <;> try exact s.elim
    rename_i el
    simp only at s
    cases hzo : (zeroOk P el && decide (sizeP P el ≠ 0) && decide (bytesP P el ≠ 0)) with
    | false => simp only [hzo] at s; exact s.elim
    | true =>
      simp only [hzo] at s
      simp only [Bool.and_eq_true, decide_eq_true_eq] at hzo
      split at s <;> try exact s.elim
      rename_i ll cl
      obtain ⟨⟨g1, g2, g3⟩, s⟩ := s
      obtain ⟨i, hi⟩ := info_some_of_size hzo.1.2
      have hbytes : i.bytes = bytesP P el := by simp [bytesP, hi]
      refine ⟨reps cl.toNat (zc P el), fun b => .slice (some ⟨b, 0, none⟩) ll.toNat cl.toNat, fun ρ w hf => ?_, fun b hb => s b hb⟩
      obtain ⟨zv, hz1, hz2, hz3, hz4⟩ := run_zero hzo.1.1 w
      have hsz := run_size_ne (P := P) hzo.1.2 w
      unfold Roomy at g3
      have hb0 : 1 ≤ bytesP P el := by have := hzo.2; omega
      have hcb : cl.toNat ≤ cl.toNat * bytesP P el := Nat.le_mul_of_pos_right _ hb0
      have hcl : cl ≤ 140737488355328 := by omega
      have ew1 : IntKind.i64.wrap ll = ll := by rw [IntKind.wrap_i64]; omega
      have ew2 : IntKind.i64.wrap cl = cl := by rw [IntKind.wrap_i64]; omega
      have hmul : (i.bytes : Int) * cl ≤ 140737488355328 := by
        have : ((cl.toNat * bytesP P el : Nat) : Int) ≤ ((140737488355328 : Nat) : Int) := Int.ofNat_le.2 g3
        rw [hbytes]
        have e2 : ((cl.toNat * bytesP P el : Nat) : Int) = (bytesP P el : Int) * cl := by
          rw [Int.natCast_mul, Int.toNat_of_nonneg (by omega), Int.mul_comm]
        omega
      have hti : (typeInfo el).run P w = .ok i w := by simp [typeInfo, hi]
      have hc1 : ¬ ((decide (cl < 0) || decide ((i.bytes : Int) * cl > 2 ^ 48)) || decide (ll < 0) || decide (ll > cl)) = true := by
        have e48 : (2 : Int) ^ 48 = 281474976710656 := by decide
        simp only [Bool.or_eq_true, decide_eq_true_eq, e48]
        omega
      have hrow : ((Array.range (cl.toNat * sizeP P el)).map (fun j => ((zc P el).toArray)[j % ((zc P el).toArray).size]!)) = (reps cl.toNat (zc P el)).toArray := zeros_reps _ _ _ hz4
      have hrun : (execOp ρ o).run P w = .ok (.value (.slice (some ⟨w.heap.size, 0, none⟩) ll.toNat cl.toNat)) (w.alloc (.cells (reps cl.toNat (zc P el)).toArray el)) := by
        by_cases hn : cl.toNat * sizeP P el = 0
        · have hc0 : cl.toNat = 0 := by
            rcases Nat.mul_eq_zero.1 hn with h0 | h0
            · exact h0
            · exact absurd h0 hzo.1.2
          have hr0 : (Array.range 0).map (fun i => (#[] : Array Value)[i % (#[] : Array Value).size]!) = #[] := by apply Array.ext'; simp
          have hrp : (reps 0 (zc P el)).toArray = #[] := rfl
          simp only [execOp, ho, Instr.makeSlice, hf l _ hl, hf c _ hc, run_underlying hu, asInt, asIntOf, Sem.run_bind, Sem.run_pure, Result.andThen_ok, hti, ew1, ew2, hsz]
          rw [if_neg hc1]
          simp only [hn, hc0, Sem.run_bind, run_askRoom, Result.andThen_ok, if_true, Sem.run_pure, Nat.zero_mul, hsz]
          simp only [hr0]
          simp [newRow, hrp]
        · simp only [execOp, ho, Instr.makeSlice, hf l _ hl, hf c _ hc, run_underlying hu, asInt, asIntOf, Sem.run_bind, Sem.run_pure, Result.andThen_ok, hti, ew1, ew2, hsz]
          rw [if_neg hc1]
          simp only [Sem.run_bind, run_askRoom, Result.andThen_ok, hsz]
          rw [if_neg hn]
          simp only [Sem.run_bind, hz1, Result.andThen_ok, Sem.run_pure, hz2, hrow]
          simp [newRow]
      exact ⟨w.alloc (.cells (reps cl.toNat (zc P el)).toArray el), el, hrun, rfl, rfl, rfl, rfl⟩

/- Methods of interface values. -/
theorem sem_pCallR {f : FuncId} {args : List Value} {r : RShape} {kk : r.T → Pr} (hrun : ∀ ρ w, Fits e ρ → R h w → (execOp ρ o).run P w = (callFunc f args.toArray).run P w)
    (s : pCall P f args KP r kk h) (hk : ∀ x g, kk x g → k (r.inj x) g) : SemE P o e KP k h := fun ρ w hf hr => by
  have := (WpCall.go (show WpCall P f args.toArray KP _ h from s) hr).mono (N' := fun v w' => Ends h w (k v) w') (X' := fun v w' => Ends h w (KP v) w') (fun v w' he => he.mono fun g hg => by obtain ⟨x, rfl, hx⟩ := hg; exact hk x g hx) (fun _ _ he => he)
  unfold CallTo at this
  unfold OpTo
  rw [hrun ρ w hf hr]
  exact this

theorem methP_some {t : TypeId} {name : String} {f : FuncId} {pr : Bool} (hm : methP P t name = some (f, pr)) : ∃ i m, P.info? t = some i ∧ i.methods.find? (·.name == name) = some m ∧ m.path = #[] ∧ m.func = some (f, pr) := by
  unfold methP at hm
  cases hi : P.info? t with
  | none => simp [hi] at hm
  | some i =>
    simp only [hi, Option.bind_some] at hm
    cases hf : i.methods.find? (·.name == name) with
    | none => simp [hf] at hm
    | some m =>
      simp only [hf, Option.bind_some] at hm
      cases hp : m.path.toList with
      | nil => exact ⟨i, m, rfl, hf, by apply Array.ext'; exact hp, by simpa [hp] using hm⟩
      | cons a b => simp [hp] at hm

theorem vcLoad_val {el : TypeId} {x : Value} {kk : Value → Pr} (s : vcLoad P el x kk h) : ∃ a y, x = .pointer (some a) ∧ kk y h ∧ ∀ w, R h w → (loadVar el a).run P w = .ok y w := by
  unfold vcLoad at s
  cases x <;> try exact s.elim
  rename_i a
  cases a with
  | none => exact s.elim
  | some a =>
    simp only at s
    cases hue : P.underlying el with
    | none => simp only [hue] at s; exact s.elim
    | some de =>
      simp only [hue] at s
      by_cases hs : shapeD de = .agg
      · simp only [hs] at s
        obtain ⟨cs, hcs, s⟩ := s
        exact ⟨a, _, rfl, s, fun w r => load_agg r hue (shape_agg hs) hcs⟩
      · have hn := shape_notAgg hs
        cases hd : shapeD de <;> simp only [hd] at s hs <;> first
          | exact absurd trivial hs
          | (obtain ⟨y, hy, s⟩ := s
             exact ⟨a, _, rfl, s, fun w r => load_cell r hue hn hy⟩)

theorem sem_invoke {c : Call} {recv : Operand} {name : String} (ho : o.op = .call c) (hc : c.callee = .invoke recv name) {v : Value} (hx : (e recv).get = some v) {vs : List Value} (hv : (c.args.toList.map e).map EV.get = vs.map some) {rt : TypeId}
    (s : vcInvoke P KP name v vs rt k h) : SemE P o e KP k h := by
  unfold vcInvoke pInvoke at s
  cases v <;> try exact s.elim
  rename_i t x
  cases hm : methP P t name with
  | none => simp only [hm] at s; exact s.elim
  | some fp =>
    obtain ⟨f, pr⟩ := fp
    obtain ⟨i, m, hi, hfind, hpath, hfunc⟩ := methP_some hm
    have hbase : ∀ ρ w, Fits e ρ → (execOp ρ o).run P w = ((method (P.types.size + Made.depth) t x name).run P w).andThen fun q w' => (callFunc q.1 (#[q.2] ++ vs.toArray)).run P w' := fun ρ w hf => by
      have hargs := fits_arr hf _ _ hv
      have hext : (#[Value.iface t x] ++ vs.toArray).extract 1 (#[Value.iface t x] ++ vs.toArray).size = vs.toArray := by
        apply Array.ext'; simp
      have h0 : (#[Value.iface t x] ++ vs.toArray)[0]? = some (.iface t x) := by simp
      simp only [execOp, ho, resolve, hc, hargs, hf recv _ hx, Sem.run_bind, Sem.run_pure, Result.andThen_ok, invoke, h0, hext, callMethod, run_program]
    have hmeth : ∀ w, (method (P.types.size + Made.depth) t x name).run P w = ((receiverAt t (.val x) pr (some ((name.splitOn ".").getLastD name))).run P w).andThen fun y w' => .ok (f, y) w' := fun w => by
      have h1 : 1 ≤ Made.depth := by decide
      have hd : ∃ n, P.types.size + Made.depth = n + 1 := ⟨P.types.size + Made.depth - 1, by omega⟩
      obtain ⟨n, hn⟩ := hd
      rw [hn]
      simp only [method, Sem.run_bind, typeInfo, run_program, Result.andThen_ok, hi, Sem.run_pure, hfind, hpath, hfunc, follow]
      rfl
    have harr : ∀ y : Value, (#[y] ++ vs.toArray) = (y :: vs).toArray := fun y => by apply Array.ext'; simp
    cases pr with
    | true =>
      simp only [hm] at s
      cases hu : P.underlying t with
      | none => simp only [hu] at s; exact s.elim
      | some d =>
        simp only [hu] at s
        cases d <;> try exact s.elim
        refine sem_pCall (fun ρ w hf => ?_) s (fun _ _ hx => hx)
        rw [hbase ρ w hf, hmeth]
        simp only [receiverAt, run_underlying hu, Sem.run_bind, Result.andThen_ok, Place.get, Sem.run_pure, harr]
    | false =>
      simp only [hm] at s
      cases hu : P.underlying t with
      | none => simp only [hu] at s; exact s.elim
      | some d =>
        by_cases hptr : ∃ el, d = .pointer el
        · obtain ⟨el, rfl⟩ := hptr
          simp only [hu] at s
          obtain ⟨a, y, rfl, s, hy⟩ := vcLoad_val s
          refine sem_pCallR (fun ρ w hf r => ?_) s (fun _ _ hx => hx)
          rw [hbase ρ w hf, hmeth]
          have hwr : ∀ (nm : String) (w : World), (Builtin.ssaWrapNilChk_ #[t] t #[.pointer (some a), strVal "", strVal nm]).run P w = .ok (.pointer (some a)) w := fun nm w => rfl
          simp only [receiverAt, run_underlying hu, Sem.run_bind, Result.andThen_ok, Place.get, Sem.run_pure, hwr, asAddr, hy w r, harr]
        · have s' : pCall P f (x :: vs) KP (rshapeOf P rt) (fun x => k ((rshapeOf P rt).inj x)) h := by
            simp only [hu] at s
            cases d <;> first | exact s | exact absurd ⟨_, rfl⟩ hptr
          refine sem_pCall (fun ρ w hf => ?_) s' (fun _ _ hx => hx)
          rw [hbase ρ w hf, hmeth]
          have hrec : (receiverAt t (.val x) false (some ((name.splitOn ".").getLastD name))).run P w = .ok x w := by
            cases d <;> first
              | exact absurd ⟨_, rfl⟩ hptr
              | simp [receiverAt, run_underlying hu, Place.get]
          simp only [hrec, Result.andThen_ok, harr]
end
end Go.Hl

namespace Go.Hl

inductive Cls where
  | pv | ld | nw | ef
  deriving DecidableEq

def clsCall : Callee → Cls
  | .builtin .len | .builtin .min | .builtin .max | .builtin .cap => .pv
  | _ => .ef

def cls : Op → Cls
  | .move _ | .assign _ | .pick .. | .build .. | .binOp .. | .unOp .. | .convert .. | .nilCheck _ | .makeFunc .. | .slice .. | .fieldAddr .. | .field .. | .indexAddr .. | .index .. | .extract .. | .makeInterface .. | .typeAssert .. => .pv
  | .call c => clsCall c.callee
  | .load .. => .ld
  | .alloc _ | .box .. | .buildSlice .. | .makeSlice .. => .nw
  | _ => .ef

section
variable {P : Program} {o : Oper} {KP k : Value → Pr} {h : Heap} {env : Env}

theorem call_pv {c : Call} (ho : o.op = .call c) (hc : cls (.call c) = .pv) (s : vcCall P KP c o.type (evE env) k h) : SemP P o (evE env) k h := by
  unfold vcCall at s
  obtain ⟨vs, hv, s⟩ := gvs_some s
  cases hcal : c.callee with
  | value f => simp [cls, clsCall, hcal] at hc
  | invoke r m => simp [cls, clsCall, hcal] at hc
  | builtin b =>
    simp only [hcal] at s
    cases b <;> first
      | (simp [cls, clsCall, hcal] at hc; done)
      | skip
    case len =>
      cases ht : c.argTypes.toList with
      | nil => simp only [ht] at s; exact s.elim
      | cons t ts =>
        cases vs with
        | nil => simp only [ht] at s; exact s.elim
        | cons v vs =>
          simp only [ht] at s
          exact sem_len ho hcal ht hv s
    case cap =>
      cases ht : c.argTypes.toList with
      | nil => simp only [ht] at s; exact s.elim
      | cons t ts =>
        match vs, s, hv with
        | [v], s, hv =>
          simp only [ht] at s
          exact sem_cap ho hcal ht hv s
        | [], s, hv => simp only [ht] at s; exact s.elim
        | _ :: _ :: _, s, hv => simp only [ht] at s; exact s.elim
    case max => exact sem_minmax (mx := true) ho (by simpa using hcal) hv s
    case min => exact sem_minmax (mx := false) ho (by simpa using hcal) hv s

theorem vcOp_pv (hc : cls o.op = .pv) (s : vcOp P KP o (evE env) k h) : SemP P o (evE env) k h := by
  unfold vcOp at s
  cases ho : o.op <;> simp only [ho] at s hc <;> first
    | exact sem_move (.inl ho) s
    | exact sem_move (.inr ho) s
    | exact sem_pick ho s
    | exact sem_build ho s
    | (obtain ⟨v, hv, s⟩ := gv_some s
       first
         | exact sem_un ho hv s
         | exact sem_convert ho hv s
         | exact sem_nil ho hv s
         | exact sem_slice ho hv s
         | exact sem_fieldAddr ho hv s
         | exact sem_field ho hv s
         | exact sem_extract ho hv s
         | exact sem_makeIface ho hv s
         | exact sem_assert ho hv s
         | (obtain ⟨u, hu, s⟩ := gv_some s
            first
              | exact sem_bin ho hv hu s
              | exact sem_indexAddr ho hv hu s
              | exact sem_index ho hv hu s))
    | exact sem_makeFunc ho s
    | exact call_pv ho hc s
    | exact s.elim
    | (simp [cls] at hc; done)

theorem vcOp_ld {t : TypeId} {x : Operand} (ho : o.op = .load t x) (s : vcOp P KP o (evE env) k h) : ∃ va, (evE env x).get = some va ∧ SemL P o (evE env) (loadF P t va) k h := by
  unfold vcOp at s
  simp only [ho] at s
  obtain ⟨va, hv, s⟩ := gv_some s
  exact ⟨va, hv, sem_load ho hv s⟩

theorem vcOp_nw (hc : cls o.op = .nw) (s : vcOp P KP o (evE env) k h) : SemA P o (evE env) k h := by
  unfold vcOp at s
  cases ho : o.op <;> simp only [ho] at s hc <;> first
    | exact sem_box ho s
    | exact sem_buildSlice ho s
    | skip
  case alloc t =>
    cases hz : zeroOk P t with
    | false => simp only [hz] at s; exact s.elim
    | true => simp only [hz] at s; exact sem_alloc ho hz s
  case makeSlice t l c =>
    obtain ⟨vl, hl, s⟩ := gv_some s
    obtain ⟨vc, hc', s⟩ := gv_some s
    exact sem_makeSlice ho hl hc' s
  case call c =>
    cases hcal : c.callee with
    | value f => simp [cls, clsCall, hcal] at hc
    | invoke r m => simp [cls, clsCall, hcal] at hc
    | builtin b => cases b <;> simp [cls, clsCall, hcal] at hc
  all_goals (simp [cls] at hc; done)

theorem vcOp_ef (s : vcOp P KP o (evE env) k h) : SemE P o (evE env) KP k h := by
  cases hc : cls o.op with
  | pv => exact (vcOp_pv hc s).toE
  | nw => exact (vcOp_nw hc s).toE
  | ld =>
    cases ho : o.op <;> simp [cls, ho] at hc <;> first
      | (obtain ⟨va, _, s⟩ := vcOp_ld ho s; exact s.toE)
      | skip
    case call c =>
      cases hcal : c.callee with
      | value f => simp [clsCall, hcal] at hc
      | invoke r m => simp [clsCall, hcal] at hc
      | builtin b => cases b <;> simp [clsCall, hcal] at hc
  | ef =>
    unfold vcOp at s
    cases ho : o.op <;> simp only [ho] at s hc <;> first
      | exact s.elim
      | (simp [cls] at hc; done)
      | skip
    case store t a x =>
      obtain ⟨va, hva, s⟩ := gv_some s
      obtain ⟨v, hv, s⟩ := gv_some s
      exact sem_store ho hva hv s
    case insert t m i x =>
      obtain ⟨vm, hm, s⟩ := gv_some s
      obtain ⟨vi, hi, s⟩ := gv_some s
      obtain ⟨v, hv, s⟩ := gv_some s
      exact sem_put (.inr ho) hm hi hv s
    case mapUpdate t m i x =>
      obtain ⟨vm, hm, s⟩ := gv_some s
      obtain ⟨vi, hi, s⟩ := gv_some s
      obtain ⟨v, hv, s⟩ := gv_some s
      exact sem_put (.inl ho) hm hi hv s
    case lookup t m i ok =>
      obtain ⟨vm, hm, s⟩ := gv_some s
      obtain ⟨vi, hi, s⟩ := gv_some s
      exact sem_lookup ho hm hi s
    case makeMap t x => exact sem_makeMap ho (by cases x <;> exact s)
    case range t x =>
      obtain ⟨v, hv, s⟩ := gv_some s
      exact sem_range ho hv s
    case call c =>
      unfold vcCall at s
      obtain ⟨vs, hv, s⟩ := gvs_some s
      cases hcal : c.callee with
      | invoke r m =>
        simp only [hcal] at s
        obtain ⟨v, hx, s⟩ := gv_some s
        exact sem_invoke ho hcal hx hv s
      | value f =>
        by_cases hf : ∃ g, f = .func g
        · obtain ⟨g, rfl⟩ := hf
          simp only [hcal] at s
          exact sem_call ho hcal rfl hv s
        · have s' : gv (evE env f) (fun v => pCallV P v vs KP (rshapeOf P o.type) fun x => k ((rshapeOf P o.type).inj x)) h := by
            cases f <;> simp only [hcal] at s <;> first | exact s | exact absurd ⟨_, rfl⟩ hf
          obtain ⟨v, hx, s'⟩ := gv_some s'
          exact sem_callV ho hcal hx hv s'
      | builtin b =>
        simp only [hcal] at s
        cases b <;> first
          | exact s.elim
          | (simp [cls, clsCall, hcal] at hc; done)
          | skip
        case copy => exact sem_copy ho hcal rfl hv s
        case clear => exact sem_clear ho hcal rfl hv s
        case append =>
          unfold vcAppend at s
          match hat : c.argTypes.toList, hvs : vs, s with
          | [t, u], [.slice a n cc, .slice b m d], s =>
            simp only at s
            cases hu : P.underlying t with
            | none => simp only [hu] at s; exact s.elim
            | some dt =>
              cases hu' : P.underlying u with
              | none => simp only [hu, hu'] at s; cases dt <;> exact s.elim
              | some du =>
                simp only [hu, hu'] at s
                cases dt <;> try exact s.elim
                cases du <;> try exact s.elim
                rename_i el el'
                simp only at s
                cases hz : (zeroOk P el && decide (sizeP P el ≠ 0) && decide (bytesP P el ≠ 0)) with
                | false => simp only [hz] at s; exact s.elim
                | true =>
                  simp only [hz] at s
                  simp only [Bool.and_eq_true, decide_eq_true_eq] at hz
                  exact sem_append (s := ⟨a, n, cc⟩) (x := ⟨b, m, d⟩) ho hcal hat (by rw [hv]; rfl) hu hu' hz.1.1 hz.1.2 hz.2 s
          | [t, u], [.slice a n cc, .int kx m], s =>
            simp only at s
            cases hu : P.underlying t with
            | none => simp only [hu] at s; exact s.elim
            | some dt =>
              cases hu' : P.underlying u with
              | none => simp only [hu, hu'] at s; cases dt <;> exact s.elim
              | some du =>
                simp only [hu, hu'] at s
                cases dt <;> try exact s.elim
                cases du <;> try exact s.elim
                rename_i el ki
                simp only at s
                cases hz : (zeroOk P el && decide (sizeP P el ≠ 0) && decide (bytesP P el ≠ 0)) with
                | false => simp only [hz] at s; exact s.elim
                | true =>
                  simp only [hz] at s
                  simp only [Bool.and_eq_true, decide_eq_true_eq] at hz
                  exact sem_extend (s := ⟨a, n, cc⟩) ho hcal hat (by rw [hv]; rfl) hu hu' hz.1.1 hz.1.2 hz.2 s

end

/- Regions. -/
def putE (env : Env) (dst : Option Tmp) (v : EV) : Env :=
  match dst with
  | some d => env.set d v
  | none => env

/-- The step of one operation: guarded or not. -/
def vcStep (ops : Array Oper) (o : Oper) (env : Env) (ex sk : Env → Pr) : Pr :=
  match o.guard with
  | none => ex env
  | some (j, want) =>
    match (ops[j]?).bind (·.dst) with
    | none => F
    | some d =>
      match env.at d with
      | .sk => sk env
      | .tt => if want then ex env else sk env
      | .ff => if want then sk env else ex env
      | .val (.bool b) => pIf b (if want then ex (env.set d .tt) else sk (env.set d .tt)) (if want then sk (env.set d .ff) else ex (env.set d .ff))
      | _ => F

/-- An operation, its result as an environment has it: a Bool that is decided stays decided. -/
def vcOpE (P : Program) (KP : Value → Pr) (o : Oper) (env : Env) (k : EV → Pr) : Pr :=
  match o.op with
  | .move x | .assign x => (match evE env x with | .un => F | v => k v)
  | .pick c a b => (match evE env c with
    | .tt => (match evE env a with | .un => F | v => k v)
    | .ff => (match evE env b with | .un => F | v => k v)
    | _ => vcOp P KP o (evE env) fun v => k (.val v))
  | .extract x i => (match evE env x with
    | .over => (match i with | 0 => k .ff | _ => F)
    | .step a b => (match i with | 0 => k .tt | 1 => k (.val a) | 2 => k (.val b) | _ => F)
    | _ => vcOp P KP o (evE env) fun v => k (.val v))
  | .next it str => vcNext it str (evE env) k
  | _ => vcOp P KP o (evE env) fun v => k (.val v)

def vcIdx (P : Program) (KP : Value → Pr) (ops : Array Oper) : List Nat → Env → (Env → Pr) → Pr
  | [], env, k => k env
  | i :: r, env, k =>
    match ops[i]? with
    | none => F
    | some o => vcStep ops o env
        (fun env => vcOpE P KP o env fun v => vcIdx P KP ops r (putE env o.dst v) k)
        (fun env => vcIdx P KP ops r (putE env o.dst .sk) k)

/-- What each operation comes behind, direct or not: a mask of bits an operation. -/
def maskOf (acc : List Nat) (o : Oper) : Nat :=
  o.after.toList.foldl (fun s e => if Region.binds .any e then s ||| (2 ^ e.on) ||| acc.getD e.on 0 else s) 0
def masks : List Oper → List Nat → List Nat
  | [], acc => acc
  | o :: r, acc => masks r (acc ++ [maskOf acc o])

def keepF (ms : List Nat) (i : Nat) : List (Nat × Pr) → Pr → Pr
  | [], p => p
  | (j, f) :: r, p => match (ms.getD i 0).testBit j with
    | true => keepF ms i r p
    | false => fun h => f h ∧ keepF ms i r p h

/-- A new block whose cells hang on values alone: it may be made ahead of an effect that it does not come behind. -/
def needsN (o : Oper) : Bool :=
  match o.op with
  | .buildSlice .. | .box .. => o.guard.isNone
  | _ => false
def T : Pr := fun _ => True
def pAnd (p q : Pr) : Pr := fun h => p h ∧ q h
/-- Those that may be made ahead can be made. -/
def vcSide (P : Program) (KP : Value → Pr) (ops : Array Oper) (ms : List Nat) (i : Nat) (env : Env) : List Nat → Pr → Pr
  | [], p => p
  | y :: r, p => match ops[y]? with
    | none => vcSide P KP ops ms i env r p
    | some o => match needsN o && !(ms.getD y 0).testBit i with
      | true => pAnd (vcOp P KP o (evE env) fun _ => T) (vcSide P KP ops ms i env r p)
      | false => vcSide P KP ops ms i env r p

def vcDraw (P : Program) (KP : Value → Pr) (ops : Array Oper) (ms : List Nat) : List Nat → List (Nat × Pr) → Env → (Env → Pr) → Pr
  | [], _, env, k => k env
  | i :: r, fs, env, k =>
    match ops[i]? with
    | none => F
    | some o => vcStep ops o env
        (fun env => match cls o.op with
          | .ld => match o.op with
            | .load t x => gv (evE env x) fun va => vcLoad P t va fun v => vcDraw P KP ops ms r ((i, loadF P t va v) :: fs) (putE env o.dst (.val v)) k
            | _ => F
          | .ef => vcSide P KP ops ms i env r <| vcOpE P KP o env fun v => keepF ms i fs (vcDraw P KP ops ms r fs (putE env o.dst v) k)
          | _ => vcOpE P KP o env fun v => vcDraw P KP ops ms r fs (putE env o.dst v) k)
        (fun env => vcDraw P KP ops ms r fs (putE env o.dst .sk) k)

/-- May x, which comes first in our order, be passed by y? -/
def mayPass (P : Program) (ops : Array Oper) (x y : Oper) : Bool :=
  Oper.apart ops x y && match cls x.op, cls y.op with
    | .pv, _ => true
    | .ld, _ => true
    | .nw, .pv | .nw, .nw => true
    | .ef, .nw => (match y.op with | .alloc t => zeroOk P t | _ => needsN y)
    | _, _ => false

def passAll (P : Program) (ops : Array Oper) (ms : List Nat) (x : Nat) (ys : List Nat) : Bool :=
  ys.all fun y => (ms.getD y 0).testBit x || match ops[x]?, ops[y]? with
    | some ox, some oy => mayPass P ops ox oy
    | _, _ => false

/-- What may be made ahead of x looks at nothing that comes behind x. -/
def lookOk (ops : Array Oper) (ms : List Nat) (x : Nat) (zs : List Nat) : Bool :=
  match ops[x]? with
  | none => true
  | some ox => match cls ox.op with
    | .ef => (List.range ops.size).all fun y => match ops[y]? with
      | none => true
      | some oy => !needsN oy || (ms.getD y 0).testBit x || zs.all fun z => match (ops[z]?).bind (·.dst) with
        | some d => !(oy.looksAt ops).contains d
        | none => true
    | _ => true

def isPred (ops : Array Oper) (i y : Nat) : Bool :=
  match ops[i]? with
  | some o => o.after.toList.any fun e => Region.binds .any e && e.on == y
  | none => false

def ordOk (P : Program) (ops : Array Oper) (ms : List Nat) : List Nat → Bool
  | [] => true
  | i :: r => lookOk ops ms i r && passAll P ops ms i r && (i :: r).all (fun y => !isPred ops i y) && !r.contains i && ordOk P ops ms r

def predsIn (ops : Array Oper) (ord : List Nat) : Bool :=
  ord.all fun i => match ops[i]? with
    | some o => o.after.toList.all fun e => !Region.binds .any e || ord.contains e.on
    | none => false

def drawOk (P : Program) (ops : Array Oper) (ord : List Nat) : Bool :=
  Region.noSelect ops && (List.range ops.size).all (fun i => ord.contains i) && predsIn ops ord && ordOk P ops (masks ops.toList []) ord

/- Code. -/
inductive Ann where
  | none
  | ord (l : List Nat)
  | two (a b : Ann)
  | join (a b : Ann) (st : List (Nat × Shape))
  | sub (a : Ann)
  | loop (st : List (Nat × Shape)) (a : Ann)

def St : List (Nat × Shape) → Type
  | [] => Unit
  | x :: r => x.2.T × St r
def St.get : (l : List (Nat × Shape)) → Env → Option (St l)
  | [], _ => some ()
  | (t, s) :: r, env => match (env.at t).get with
    | some v => match s.proj v with
      | some x => match St.get r env with
        | some y => some (x, y)
        | none => none
      | none => none
    | none => none
def St.put : (l : List (Nat × Shape)) → St l → Env → Env
  | [], _, env => env
  | (t, s) :: r, x, env => St.put r x.2 (env.set t (.val (s.inj x.1)))
def kill : List Nat → Env → Env
  | [], env => env
  | t :: r, env => kill r (env.set t .un)

def opDsts : List Oper → List Nat
  | [] => []
  | o :: r => match o.dst with
    | some d => d :: opDsts r
    | none => opDsts r
def assigned : Code → List Nat
  | .region _ ops _ => opDsts ops.toList
  | .seq a b => assigned a ++ assigned b
  | .cond _ a b => assigned a ++ assigned b
  | .block _ c => assigned c
  | .loop c => assigned c
  | .scope c => assigned c
  | _ => []

def iter {σ : Type} (body : σ → (σ → Pr) → Pr) : Nat → σ → Pr
  | 0, _ => F
  | n + 1, s => body s (iter body n)
def pLoop {σ : Type} (body : σ → (σ → Pr) → Pr) (s : σ) : Pr := fun h => ∃ n, iter body n s h
def pJoin {σ : Type} (body : (σ → Pr) → Pr) (k : σ → Pr) : Pr := body k

def vcCode (P : Program) (KP : Value → Pr) : Code → Ann → Env → (Exit → Env → Pr) → Pr
  | .skip, _, env, K => K .normal env
  | .label _, _, env, K => K .normal env
  | .region _ ops false, _, env, K => vcIdx P KP ops (List.range ops.size) env (K .normal)
  | .region _ ops true, .ord l, env, K =>
    (match drawOk P ops l with
     | true => vcDraw P KP ops (masks ops.toList []) l [] env (K .normal)
     | false => F)
  | .seq a b, .two x y, env, K => vcCode P KP a x env fun e env => match e with
    | .normal => vcCode P KP b y env K
    | e => K e env
  | .seq a b, .join x y J, env, K => pJoin (σ := St J)
      (fun k => vcCode P KP a x env fun e env' => match e with
        | .normal => (match St.get J env' with
          | some s => k s
          | none => F)
        | e => K e env')
      (fun s => vcCode P KP b y (St.put J s (kill (assigned a) env)) K)
  | .cond c a b, .two x y, env, K =>
    (match evE env c with
     | .tt => vcCode P KP a x env K
     | .ff => vcCode P KP b y env K
     | .val (.bool t) => pIf t (vcCode P KP a x env K) (vcCode P KP b y env K)
     | _ => F)
  | .block id c, .sub x, env, K => vcCode P KP c x env fun e env => match e with
    | .exit i => if i = id then K .normal env else K (.exit i) env
    | e => K e env
  | .loop c, .loop J x, env, K =>
    (match St.get J env with
     | some s0 => pLoop (σ := St J) (fun s k => vcCode P KP c x (St.put J s (kill (assigned c) env)) fun e env' => match e with
        | .normal => (match St.get J env' with
          | some s => k s
          | none => F)
        | e => K e env') s0
     | none => F)
  | .scope c, .sub x, env, K => vcCode P KP c x env fun e env => match e with
    | .goto _ => F
    | e => K e env
  | .exit id, _, env, K => K (.exit id) env
  | .ret, _, env, K => K .ret env
  | _, _, _, _ => F

def vcRes (P : Program) (env : Env) : List ResultVar → (List Value → Pr) → Pr
  | [], k => k []
  | .tmp t :: r, k => gv (env.at t) fun v => vcRes P env r fun vs => k (v :: vs)
  | .cell a t :: r, k => gv (env.at a) fun va => vcLoad P t va fun v => vcRes P env r fun vs => k (v :: vs)

def vcBody (P : Program) (fn : Func) (c : Code) (ann : Ann) (args : List Value) (KP K : Value → Pr) : Pr :=
  vcCode P KP c ann (args.map .val ++ List.replicate (fn.ntmps - args.length) .un) fun e env => match e with
    | .normal | .ret => vcRes P env fn.results.toList fun vs => match vs with
      | [v] => K v
      | vs => K (.tuple vs.toArray)
    | _ => F

end Go.Hl
