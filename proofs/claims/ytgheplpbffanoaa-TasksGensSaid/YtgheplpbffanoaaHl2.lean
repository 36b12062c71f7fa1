/- The heap logic's words for one operation: environments, shapes, the primitives 'pLd', 'pSt', 'pNew', .., and 'vcOp', which turns an operation into them. -/
import Derived.Test.YtgheplpbffanoaaHl1
namespace Go.Hl

/-- What is known of a slot: nothing; that its operation was passed over; the Bool true or false, decided; a value. -/
inductive EV where
  | un | sk | tt | ff | val (v : Value)

def EV.get : EV → Option Value
  | .un => none
  | .sk => some (.tuple #[])
  | .tt => some (.bool true)
  | .ff => some (.bool false)
  | .val v => some v

abbrev Env := List EV
def Env.at (env : Env) (t : Nat) : EV := env.getD t .un

def evE (env : Env) : Operand → EV
  | .tmp t => env.at t
  | .const (.bool true) => .tt
  | .const (.bool false) => .ff
  | .const v => .val v
  | .global g => .val (.pointer (some ⟨g, 0, none⟩))
  | .func f => .val (.func (.func f) #[] #[])

structure Sl where
  base : Option Addr
  len : Nat
  cap : Nat

inductive Shape where
  | int (k : IntKind) | bool | str | ptr | slice | agg | map | any
  deriving DecidableEq

def Shape.T : Shape → Type
  | .int _ => Int | .bool => Bool | .str => ByteArray | .ptr => Option Addr | .slice => Sl | .agg => List Value | .map => Option Nat | .any => Value

def Shape.inj : (s : Shape) → s.T → Value
  | .int k, n => .int k n
  | .bool, b => .bool b
  | .str, s => .string s
  | .ptr, a => .pointer a
  | .slice, s => .slice s.base s.len s.cap
  | .agg, l => .agg l.toArray
  | .map, r => .map r
  | .any, v => v

def Shape.proj : (s : Shape) → Value → Option s.T
  | .int k, .int k' n => if k = k' then some n else none
  | .bool, .bool b => some b
  | .str, .string s => some s
  | .ptr, .pointer a => some a
  | .slice, .slice a l c => some ⟨a, l, c⟩
  | .agg, .agg cs => some cs.toList
  | .map, .map r => some r
  | .any, v => some v
  | _, _ => none

theorem Shape.proj_inj : (s : Shape) → (v : Value) → (x : s.T) → s.proj v = some x → v = s.inj x
  | .int k, v, x, h => by
    cases v <;> simp only [Shape.proj] at h <;> try cases h
    rename_i k' n
    by_cases e : k = k'
    · subst e; simp only [if_true] at h; cases h; rfl
    · rw [if_neg e] at h; cases h
  | .bool, v, x, h => by cases v <;> simp only [Shape.proj] at h <;> cases h; rfl
  | .str, v, x, h => by cases v <;> simp only [Shape.proj] at h <;> cases h; rfl
  | .ptr, v, x, h => by cases v <;> simp only [Shape.proj] at h <;> cases h; rfl
  | .slice, v, x, h => by cases v <;> simp only [Shape.proj] at h <;> cases h; rfl
  | .agg, v, x, h => by cases v <;> simp only [Shape.proj] at h <;> cases h; rfl
  | .map, v, x, h => by cases v <;> simp only [Shape.proj] at h <;> cases h; rfl
  | .any, v, x, h => by simp only [Shape.proj] at h; cases h; rfl

/-- Several shapes: their payloads in a row. -/
def Shapes.T : List Shape → Type
  | [] => Unit
  | s :: r => s.T × Shapes.T r
def Shapes.inj : (l : List Shape) → Shapes.T l → List Value
  | [], _ => []
  | s :: r, x => s.inj x.1 :: Shapes.inj r x.2

/-- A call's result: one value, or a tuple. -/
inductive RShape where
  | one (s : Shape) | many (l : List Shape)
def RShape.T : RShape → Type
  | .one s => s.T
  | .many l => Shapes.T l
def RShape.inj : (r : RShape) → r.T → Value
  | .one s, x => s.inj x
  | .many l, x => .tuple (Shapes.inj l x).toArray

/-- Cells in a heap. -/
def Heap.cell (h : Heap) (a : Addr) : Option Value :=
  match a.spot with
  | some _ => none
  | none => match h a.block with
    | some (.row cs _) => cs[a.off]?
    | some (.fix (.cells c _ _)) => c[a.off]?
    | _ => none

def cut (cs : List Value) (off n : Nat) : Option (List Value) := if off + n ≤ cs.length then some ((cs.drop off).take n) else none

def Heap.vals (h : Heap) (a : Addr) (n : Nat) : Option (List Value) :=
  match a.spot with
  | some _ => none
  | none => match h a.block with
    | some (.row cs _) => cut cs a.off n
    | some (.fix (.cells c _ _)) => cut c.toList a.off n
    | _ => none

def splice (cs : List Value) (off : Nat) (vs : List Value) : List Value := cs.take off ++ vs ++ cs.drop (off + vs.length)

def oneCells (vs : List Value) : Prop := ∀ v ∈ vs, v.oneCell' = true

/- The primitives. -/
def F : Pr := fun _ => False
def pIf (c : Bool) (p q : Pr) : Pr := fun h => (c = true → p h) ∧ (c = false → q h)
def pAssert (φ : Prop) (p : Pr) : Pr := fun h => φ ∧ p h
def pNew (cs : List Value) (k : Nat → Pr) : Pr := fun h => ∀ b, h b = none → k b (h.set b (.row cs cs.length))
def pLd (s : Shape) (a : Addr) (k : s.T → Pr) : Pr := fun h => ∃ x, h.cell a = some (s.inj x) ∧ k x h
def pLdA (n : Nat) (a : Addr) (k : List Value → Pr) : Pr := fun h => ∃ cs, h.vals a n = some cs ∧ k cs h
def pSt (a : Addr) (v : Value) (p : Pr) : Pr := fun h => ∃ cs tot, a.spot = none ∧ h a.block = some (.row cs tot) ∧ a.off < cs.length ∧ v.oneCell' = true ∧ p (h.set a.block (.row (cs.set a.off v) tot))
def pStA (n : Nat) (a : Addr) (vs : List Value) (p : Pr) : Pr := fun h => ∃ cs tot, a.spot = none ∧ h a.block = some (.row cs tot) ∧ a.off + n ≤ cs.length ∧ vs.length = n ∧ oneCells vs ∧ p (h.set a.block (.row (splice cs a.off vs) tot))
def pSome (x : Option Addr) (k : Addr → Pr) : Pr := fun h => ∃ a, x = some a ∧ k a h
def pIdx (i : Int) (n : Nat) (p : Pr) : Pr := fun h => 0 ≤ i ∧ i < n ∧ p h
def pPart (s : Shape) (cs : List Value) (off : Nat) (k : s.T → Pr) : Pr := fun h => ∃ x, cs[off]? = some (s.inj x) ∧ k x h
def pCall (P : Program) (f : FuncId) (args : List Value) (KP : Value → Pr) (r : RShape) (k : r.T → Pr) : Pr :=
  WpCall P f args.toArray KP (fun v h => ∃ x, v = r.inj x ∧ k x h)
def WpVal (P : Program) (f : Value) (args : List Value) (KP K : Value → Pr) : Pr := fun h =>
  match f with
  | .func (.func g) first caps => WpCall P g ((first ++ args.toArray) ++ caps) KP K h
  | _ => False
/-- A call of a function value. -/
def pCallV (P : Program) (f : Value) (args : List Value) (KP : Value → Pr) (r : RShape) (k : r.T → Pr) : Pr :=
  WpVal P f args KP (fun v h => ∃ x, v = r.inj x ∧ k x h)

/-- The cells of a slice. -/
def Sl.vals (size : Nat) (s : Sl) (h : Heap) (xs : List Value) : Prop :=
  match s.base with
  | some a => h.vals a (s.len * size) = some xs
  | none => s.len = 0 ∧ xs = []

def Roomy (need bytes : Nat) : Prop := need * bytes ≤ 140737488355328

/-- The built-in append: in place where there is room, else at a new place. -/
def pAppend (size bytes : Nat) (s x : Sl) (k : Sl → Pr) : Pr := fun h =>
  ∃ old new, s.vals size h old ∧ x.vals size h new ∧ Roomy (s.len + x.len) bytes ∧ oneCells new ∧
    (s.len + x.len ≤ s.cap → match s.base with
      | none => k ⟨none, s.len + x.len, s.cap⟩ h
      | some a => ∃ cs tot, a.spot = none ∧ h a.block = some (.row cs tot) ∧ a.off + s.len * size ≤ cs.length ∧ a.off + s.cap * size ≤ tot ∧
          k ⟨some a, s.len + x.len, s.cap⟩ (h.set a.block (.row (splice cs (a.off + s.len * size) new) tot))) ∧
    (s.cap < s.len + x.len → ∀ b cap, h b = none → s.len + x.len ≤ cap → k ⟨some ⟨b, 0, none⟩, s.len + x.len, cap⟩ (h.set b (.row (old ++ new) (cap * size))))

/- Types. -/
def sizeP (P : Program) (t : TypeId) : Nat := ((P.info? t).map (·.size)).getD 0
def bytesP (P : Program) (t : TypeId) : Nat := ((P.info? t).map (·.bytes)).getD 0
def zc (P : Program) (t : TypeId) : List Value :=
  match (P.info? t).bind (·.zero) with
  | some z => z.cells.toList
  | none => []
def zeroOk (P : Program) (t : TypeId) : Bool := match (P.info? t).bind (·.zero) with | some z => z.cells.size == sizeP P t | none => false

def shapeD : TypeDesc → Shape
  | .int k => .int k
  | .bool => .bool
  | .string => .str
  | .pointer _ => .ptr
  | .slice _ => .slice
  | .struct _ | .array .. => .agg
  | .map .. => .map
  | _ => .any

def shapeOf (P : Program) (t : TypeId) : Shape :=
  match P.underlying t with
  | some d => shapeD d
  | none => .any

def rshapeOf (P : Program) (t : TypeId) : RShape :=
  match P.underlying t with
  | some (.tuple ts) => .many (ts.toList.map (shapeOf P))
  | _ => .one (shapeOf P t)

/- Values. -/
def gv (x : EV) (k : Value → Pr) : Pr :=
  match x.get with
  | some v => k v
  | none => F

def gvs : List EV → (List Value → Pr) → Pr
  | [], k => k []
  | x :: r, k => gv x fun v => gvs r fun vs => k (v :: vs)

def strEq (x y : ByteArray) : Bool := x.toList == y.toList
def bitsV (op : BinOp) (k : IntKind) (x y : Int) : Int :=
  let a := BitVec.ofInt k.bits x
  let b := BitVec.ofInt k.bits y
  match op with
  | .and => k.wrap (a &&& b).toNat
  | .or => k.wrap (a ||| b).toNat
  | .xor => k.wrap (a ^^^ b).toNat
  | _ => k.wrap (a &&& ~~~b).toNat

/-- Cells that may be held against each other one by one. -/
inductive CT where
  | int (k : IntKind) | bool | str
def okCell : CT → Value → Bool
  | .int k, .int k' _ => k == k'
  | .bool, .bool _ => true
  | .str, .string _ => true
  | _, _ => false
def okCells : List CT → List Value → Bool
  | [], [] => true
  | c :: r, v :: s => okCell c v && okCells r s
  | _, _ => false
def eqv : Value → Value → Bool
  | .int _ a, .int _ b => a == b
  | .bool a, .bool b => a == b
  | .string a, .string b => strEq a b
  | _, _ => false
def eqCells : List Value → List Value → Bool
  | [], [] => true
  | a :: r, b :: s => eqv a b && eqCells r s
  | _, _ => false

mutual
/-- The cells of a type that is made of whole numbers, Bools and strings alone. -/
def flatTy (P : Program) : Nat → TypeId → Option (List CT)
  | 0, _ => none
  | d + 1, t => match P.underlying t with
    | some (.int k) => some [.int k]
    | some .bool => some [.bool]
    | some .string => some [.str]
    | some (.struct fs) => if P.stoodInHeld t then none else flatFs P d 0 fs.toList
    | some (.array n e) => (flatTy P d e).bind fun l => if l.length = sizeP P e then some (List.replicate n l).flatten else none
    | _ => none
def flatFs (P : Program) : Nat → Nat → List Field → Option (List CT)
  | 0, _, _ => none
  | _ + 1, _, [] => some []
  | d + 1, off, f :: fs => if f.name == "_" || f.offset != off then none else
    (flatTy P d f.type).bind fun l => if l.length = sizeP P f.type then (flatFs P d (off + l.length) fs).map (l ++ ·) else none
end

def pickV (c : Bool) : Value → Value → (Value → Pr) → Pr
  | .bool a, .bool b, k => k (.bool (if c = true then a else b))
  | .int i a, .int j b, k => if i = j then k (.int i (if c = true then a else b)) else F
  | .string a, .string b, k => k (.string (if c = true then a else b))
  | _, _, _ => F

def vcPick (c a b : EV) (k : Value → Pr) : Pr :=
  match c with
  | .tt => gv a k
  | .ff => gv b k
  | .val (.bool c) => gv a fun x => gv b fun y => pickV c x y k
  | _ => F

def isNilConst : Operand → Bool
  | .const (.pointer none) | .const (.slice none _ _) | .const (.map none) => true
  | _ => false

/-- Is the value nil? ('u': the nil that it is held against; 'd': their type.) -/
def nilTest (d : TypeDesc) (v u : Value) (k : Bool → Pr) : Pr :=
  match d, v, u with
  | .pointer _, .pointer a, .pointer none => k a.isNone
  | .slice _, .slice a _ _, .slice none _ _ => k a.isNone
  | .map _ _, .map a, .map none => k a.isNone
  | _, _, _ => F

def vcInt (op : BinOp) (i : IntKind) (a b : Int) (k : Value → Pr) : Pr :=
  match op with
  | .add => k (.int i (i.wrap (a + b)))
  | .sub => k (.int i (i.wrap (a - b)))
  | .mul => k (.int i (i.wrap (a * b)))
  | .quo => pAssert (b ≠ 0) (k (.int i (i.wrap (a.tdiv b))))
  | .rem => pAssert (b ≠ 0) (k (.int i (a.tmod b)))
  | .and => k (.int i (bitsV .and i a b))
  | .or => k (.int i (bitsV .or i a b))
  | .xor => k (.int i (bitsV .xor i a b))
  | .andNot => k (.int i (bitsV .andNot i a b))
  | .eql => k (.bool (a == b))
  | .neq => k (.bool (a != b))
  | .lss => k (.bool (a < b))
  | .leq => k (.bool (a ≤ b))
  | .gtr => k (.bool (a > b))
  | .geq => k (.bool (a ≥ b))
  | _ => F

def vcBin (P : Program) (op : BinOp) (t : TypeId) (y : Operand) (vx vy : Value) (k : Value → Pr) : Pr :=
  match isNilConst y with
  | true =>
    (match P.underlying t with
     | some d => match op with
       | .eql => nilTest d vx vy fun b => k (.bool b)
       | .neq => nilTest d vx vy fun b => k (.bool (!b))
       | _ => F
     | none => F)
  | false =>
  match vx, vy with
  | .int i a, .int j b =>
    match op with
    | .shl => pAssert (0 ≤ b) (k (.int i (i.wrap (a * 2 ^ (min b.toNat i.bits)))))
    | .shr => pAssert (0 ≤ b) (k (.int i (a.fdiv (2 ^ (min b.toNat i.bits)))))
    | _ => if i = j then vcInt op i a b k else F
  | .bool a, .bool b =>
    (match P.underlying t with
     | some .bool => match op with
       | .eql => k (.bool (a == b))
       | .neq => k (.bool (!(a == b)))
       | _ => F
     | _ => F)
  | .string a, .string b =>
    match op with
    | .add => pAssert (a.size + b.size < 9223372036854775808) (k (.string (a ++ b)))
    | .eql => k (.bool (strEq a b))
    | .neq => k (.bool (!strEq a b))
    | .lss => k (.bool (Op.bytesLess a.toList b.toList))
    | .leq => k (.bool (Op.bytesLess a.toList b.toList || strEq a b))
    | .gtr => k (.bool !(Op.bytesLess a.toList b.toList || strEq a b))
    | .geq => k (.bool !(Op.bytesLess a.toList b.toList))
    | _ => F
  | .agg a, .agg b =>
    match flatTy P 50 t, P.eqGuardType P.depth t, (P.underlying t).any (fun d => shapeD d = .agg) with
    | some l, false, true => match op with
      | .eql => pAssert (okCells l a.toList = true ∧ okCells l b.toList = true) (k (.bool (eqCells a.toList b.toList)))
      | .neq => pAssert (okCells l a.toList = true ∧ okCells l b.toList = true) (k (.bool (!eqCells a.toList b.toList)))
      | _ => F
    | _, _, _ => F
  | _, _ => F

def vcUn (op : UnOp) (v : Value) (k : Value → Pr) : Pr :=
  match op, v with
  | .not, .bool b => k (.bool (!b))
  | .neg, .int i n => k (.int i (i.wrap (0 - n)))
  | .xor, .int i n => k (.int i (bitsV .xor i (if i.signed then -1 else i.max) n))
  | _, _ => F

def vcLoad (P : Program) (t : TypeId) (va : Value) (k : Value → Pr) : Pr :=
  match va with
  | .pointer (some a) => match P.underlying t with
    | some d => match shapeD d with
      | .agg => pLdA (sizeP P t) a fun cs => k (.agg cs.toArray)
      | s => pLd s a fun x => k (s.inj x)
    | none => F
  | _ => F

def vcStore (P : Program) (t : TypeId) (va v : Value) (p : Pr) : Pr :=
  match va with
  | .pointer (some a) => match shapeOf P t with
    | .any => (match sizeP P t with
        | 1 => pSt a v p
        | _ => F)
    | _ => match v with
      | .agg cs => match sizeP P t with
        | 0 => F
        | n + 1 => pStA (n + 1) a cs.toList p
      | v => match sizeP P t with
        | 1 => pSt a v p
        | _ => F
  | _ => F

/-- The parts of a literal, laid over what it begins with. -/
def lay : List Value → List (Nat × Value) → List Value
  | cs, [] => cs
  | cs, (off, v) :: r => lay (match v with | .agg xs => splice cs off xs.toList | v => cs.set off v) r

/-- One cell, or as many as are wanted. -/
def fitsB (size : Nat) (v : Value) : Prop := v.cells.size = size

def pFits : List (Nat × Value) → Pr → Pr
  | [], p => p
  | (size, .agg xs) :: r, p => pAssert (xs.toList.length = size) (pFits r p)
  | (1, _) :: r, p => pFits r p
  | _, _ => F

def placesOf (P : Program) (fs : Array Field) (parts : List (Nat × Value)) : Option (List (Nat × Nat × Value)) :=
  parts.mapM fun (i, v) => (fs[i]?).map fun f => (f.offset, sizeP P f.type, v)

def partsOf (e : Operand → EV) : List (Nat × Operand) → (List (Nat × Value) → Pr) → Pr
  | [], k => k []
  | (i, x) :: r, k => gv (e x) fun v => partsOf e r fun vs => k ((i, v) :: vs)

def inRange (n : Nat) (ps : List (Nat × Nat × Value)) : Bool := ps.all fun p => p.1 + p.2.1 ≤ n

def vcBuild (P : Program) (t : TypeId) (parts : List (Nat × Value)) (k : Value → Pr) : Pr :=
  match zeroOk P t, P.underlying t with
  | true, some (.struct fs) => match fs.toList.all (fun f => (P.info? f.type).isSome) with
   | false => F
   | true => match placesOf P fs parts with
    | some ps => match inRange (sizeP P t) ps with
      | true => pFits (ps.map fun p => (p.2.1, p.2.2)) (k (.agg (lay (zc P t) (ps.map fun p => (p.1, p.2.2))).toArray))
      | false => F
    | none => F
  | true, some (.array _ e) => match (P.info? e).isSome with
   | false => F
   | true =>
    let ps := parts.map fun p => (p.1 * sizeP P e, sizeP P e, p.2)
    match inRange (sizeP P t) ps with
    | true => pFits (ps.map fun p => (p.2.1, p.2.2)) (k (.agg (lay (zc P t) (ps.map fun p => (p.1, p.2.2))).toArray))
    | false => F
  | _, _ => F

/-- n times the cells. -/
def reps (n : Nat) (cs : List Value) : List Value := (List.replicate n cs).flatten

def vcBuildSlice (P : Program) (t : TypeId) (n : Nat) (parts : List (Nat × Value)) (k : Value → Pr) : Pr :=
  match P.underlying t with
  | some (.slice e) =>
    match zeroOk P e && decide (n * sizeP P e ≤ 16777216) && decide (sizeP P e ≠ 0) with
    | true =>
      let ps := parts.map fun p => (p.1 * sizeP P e, sizeP P e, p.2)
      match inRange (n * sizeP P e) ps with
      | true => pFits (ps.map fun p => (p.2.1, p.2.2)) (pNew (lay (reps n (zc P e)) (ps.map fun p => (p.1, p.2.2))) fun b => k (.slice (some ⟨b, 0, none⟩) n n))
      | false => F
    | false => F
  | _ => F

def vcFieldAddr (P : Program) (t : TypeId) (v : Value) (f : Nat) (k : Value → Pr) : Pr :=
  match v with
  | .pointer (some a) => match P.underlying t with
    | some (.struct fs) => match fs[f]? with
      | some f => match sizeP P f.type with
        | 0 => F
        | _ + 1 => k (.pointer (some (a.add f.offset)))
      | none => F
    | _ => F
  | _ => F

def vcPart (P : Program) (t : TypeId) (cs : List Value) (off : Nat) (k : Value → Pr) : Pr :=
  match P.underlying t with
  | some d => match shapeD d with
    | .agg => k (.agg ((cs.drop off).take (sizeP P t)).toArray)
    | s => pPart s cs off fun x => k (s.inj x)
  | none => F

def vcField (P : Program) (t : TypeId) (v : Value) (f : Nat) (k : Value → Pr) : Pr :=
  match v with
  | .agg cs => match P.underlying t with
    | some (.struct fs) => match fs[f]? with
      | some f => vcPart P f.type cs.toList f.offset k
      | none => F
    | _ => F
  | _ => F

def vcIndexAddr (P : Program) (t : TypeId) (x i : Value) (k : Value → Pr) : Pr :=
  match P.underlying t, x, i with
  | some (.array n e), .pointer (some a), .int _ i => match sizeP P e with
    | 0 => F
    | z + 1 => pIdx i n (k (.pointer (some (a.add (i.toNat * (z + 1))))))
  | some (.slice e), .slice base n _, .int _ i => match sizeP P e with
    | 0 => F
    | z + 1 => pIdx i n (pSome base fun a => k (.pointer (some (a.add (i.toNat * (z + 1))))))
  | _, _, _ => F

def byteAt (s : ByteArray) (i : Int) : Int := ((s[i.toNat]?).getD 0).toNat

def vcIndex (P : Program) (t : TypeId) (x i : Value) (k : Value → Pr) : Pr :=
  match P.underlying t, x, i with
  | some .string, .string s, .int _ i => pIdx i s.size (k (.int .u8 (byteAt s i)))
  | some (.array n e), .agg cs, .int _ i => pIdx i n (vcPart P e cs.toList (i.toNat * sizeP P e) k)
  | _, _, _ => F

def vcExtract (v : Value) (i : Nat) (k : Value → Pr) : Pr :=
  match v with
  | .tuple vs => match vs.toList[i]? with
    | some v => k v
    | none => F
  | _ => F

def oInt (x : Option EV) (d : Int) (k : Int → Pr) : Pr :=
  match x with
  | none => k d
  | some e => gv e fun v => match v with
    | .int _ n => k n
    | _ => F

def vcSlice (P : Program) (t : TypeId) (x : Value) (lo hi : Option EV) (mx : Bool) (k : Value → Pr) : Pr :=
  match mx, P.underlying t, x with
  | false, some .string, .string s => oInt lo 0 fun l => oInt hi s.size fun h => pAssert (0 ≤ l ∧ l ≤ h ∧ h ≤ s.size) (k (.string (s.extract l.toNat h.toNat)))
  | false, some (.slice e), .slice a n c => match sizeP P e with
    | 0 => F
    | z + 1 => oInt lo 0 fun l => oInt hi n fun h => pAssert (0 ≤ l ∧ l ≤ h ∧ h ≤ c)
      (k (.slice (if c = l.toNat then a else a.map (·.add (l.toNat * (z + 1)))) (h.toNat - l.toNat) (c - l.toNat)))
  | false, some (.array n e), .pointer (some a) => match sizeP P e with
    | 0 => F
    | z + 1 => oInt lo 0 fun l => oInt hi n fun h => pAssert (0 ≤ l ∧ l ≤ h ∧ h ≤ n)
      (k (.slice (some (if n = l.toNat then a else a.add (l.toNat * (z + 1)))) (h.toNat - l.toNat) (n - l.toNat)))
  | _, _, _ => F

def vcConvert (P : Program) (s d : TypeId) (v : Value) (k : Value → Pr) : Pr :=
  match P.underlying s, P.underlying d, v with
  | some (.int _), some (.int j), .int _ n => k (.int j (j.wrap n))
  | some .string, some .string, .string s => k (.string s)
  | _, _, _ => F

def vcLen (P : Program) (t : TypeId) (v : Value) (k : Value → Pr) : Pr :=
  match P.underlying t, v with
  | some .string, .string s => k (.int .i64 s.size)
  | some (.array n _), _ => k (.int .i64 n)
  | some (.slice _), .slice _ n _ => k (.int .i64 n)
  | _, _ => F

def vcMinMax (mx : Bool) (args : List Value) (k : Value → Pr) : Pr :=
  match args with
  | [.int i a, .int _ b] => k (.int i (if mx then (if b > a then b else a) else (if b < a then b else a)))
  | _ => F

def vcAppend (P : Program) (ts : List TypeId) (args : List Value) (k : Value → Pr) : Pr :=
  match ts, args with
  | [t, u], [.slice a n c, .slice b m d] => match P.underlying t, P.underlying u with
    | some (.slice e), some (.slice _) => match zeroOk P e && decide (sizeP P e ≠ 0) && decide (bytesP P e ≠ 0) with
      | true => pAppend (sizeP P e) (bytesP P e) ⟨a, n, c⟩ ⟨b, m, d⟩ fun s => k (.slice s.base s.len s.cap)
      | false => F
    | _, _ => F
  | _, _ => F

def vcCall (P : Program) (KP : Value → Pr) (c : Call) (t : TypeId) (e : Operand → EV) (k : Value → Pr) : Pr :=
  gvs (c.args.toList.map e) fun args =>
  match c.callee with
  | .builtin .len => match c.argTypes.toList, args with
    | t :: _, v :: _ => vcLen P t v k
    | _, _ => F
  | .builtin .min => vcMinMax false args k
  | .builtin .max => vcMinMax true args k
  | .builtin .append => vcAppend P c.argTypes.toList args k
  | .value (.func f) => pCall P f args KP (rshapeOf P t) fun x => k ((rshapeOf P t).inj x)
  | .value f => gv (e f) fun v => pCallV P v args KP (rshapeOf P t) fun x => k ((rshapeOf P t).inj x)
  | _ => F

def vcOp (P : Program) (KP : Value → Pr) (o : Oper) (e : Operand → EV) (k : Value → Pr) : Pr :=
  match o.op with
  | .move x | .assign x => gv (e x) k
  | .pick c a b => vcPick (e c) (e a) (e b) k
  | .alloc t => match zeroOk P t with
    | true => pNew (zc P t) fun b => k (.pointer (some ⟨b, 0, none⟩))
    | false => F
  | .box t x => gv (e x) fun v => match shapeOf P t with
    | .any => pAssert (v.oneCell' = true) (pNew [v] fun b => k (.pointer (some ⟨b, 0, none⟩)))
    | _ => match v with
      | .agg cs => pNew cs.toList fun b => k (.pointer (some ⟨b, 0, none⟩))
      | v => pNew [v] fun b => k (.pointer (some ⟨b, 0, none⟩))
  | .build t ps => partsOf e ps.toList fun ps => vcBuild P t ps k
  | .buildSlice t n ps => partsOf e ps.toList fun ps => vcBuildSlice P t n ps k
  | .load t a => gv (e a) fun v => vcLoad P t v k
  | .store t a x => gv (e a) fun va => gv (e x) fun v => vcStore P t va v (k undef)
  | .nilCheck x => gv (e x) fun v => match v with
    | .pointer a => pSome a fun a => k (.pointer (some a))
    | _ => F
  | .binOp op t x y _ => gv (e x) fun vx => gv (e y) fun vy => vcBin P op t y vx vy k
  | .unOp op _ x => gv (e x) fun v => vcUn op v k
  | .convert s d x => gv (e x) fun v => vcConvert P s d v k
  | .makeFunc fn fs cs => gvs (fs.toList.map e) fun fs => gvs (cs.toList.map e) fun cs => k (.func fn fs.toArray cs.toArray)
  | .slice t x lo hi mx => gv (e x) fun v => vcSlice P t v (lo.map e) (hi.map e) mx.isSome k
  | .fieldAddr t x f => gv (e x) fun v => vcFieldAddr P t v f k
  | .field t x f => gv (e x) fun v => vcField P t v f k
  | .indexAddr t x i => gv (e x) fun v => gv (e i) fun j => vcIndexAddr P t v j k
  | .index t x i => gv (e x) fun v => gv (e i) fun j => vcIndex P t v j k
  | .extract x i => gv (e x) fun v => vcExtract v i k
  | .call c => vcCall P KP c o.type e k
  | _ => F

end Go.Hl
