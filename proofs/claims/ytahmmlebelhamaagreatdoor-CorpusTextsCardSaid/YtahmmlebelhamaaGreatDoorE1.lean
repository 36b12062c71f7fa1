/- A concrete evaluator of the program's code, sound for the triples: values with relative block numbers, what they stand for. -/
import Derived.Test.YtahmmlebelhamaaGreatDoorH2
import Derived.Lib.ItoaNum
set_option linter.unusedVariables false
set_option linter.unusedSimpArgs false
set_option linter.unusedSectionVars false
namespace Go.Hl

/-- A tree of numbers. -/
inductive Tr (α : Type) where
  | e | n (l : Tr α) (x : Option α) (r : Tr α)
def Tr.get0 {α : Type} : Tr α → Nat → Option α
  | .e, _ => none
  | .n l x r, i => match i with
    | 0 => x
    | j + 1 => match Nat.beq (Nat.mod j 2) 0 with
      | true => l.get0 (Nat.div j 2)
      | false => r.get0 (Nat.div j 2)
def Tr.set0 {α : Type} : Nat → Tr α → Nat → α → Tr α
  | 0, t, _, _ => t
  | d + 1, .e, i, v => match i with
    | 0 => .n .e (some v) .e
    | j + 1 => match Nat.beq (Nat.mod j 2) 0 with
      | true => .n (Tr.set0 d .e (Nat.div j 2) v) none .e
      | false => .n .e none (Tr.set0 d .e (Nat.div j 2) v)
  | d + 1, .n l x r, i, v => match i with
    | 0 => .n l (some v) r
    | j + 1 => match Nat.beq (Nat.mod j 2) 0 with
      | true => .n (Tr.set0 d l (Nat.div j 2) v) x r
      | false => .n l x (Tr.set0 d r (Nat.div j 2) v)
theorem Tr.get_set0 {α : Type} (v : α) : ∀ (d : Nat) (t : Tr α) (i j : Nat), i + 1 < 2 ^ d → (Tr.set0 d t i v).get0 j = if j = i then some v else t.get0 j
  | 0, _, i, _, h => by simp at h
  | d + 1, t, i, j, h => by
    have hp : 2 ^ (d + 1) = 2 * 2 ^ d := by rw [Nat.pow_succ]; omega
    have key : ∀ (l : Tr α) (x : Option α) (r : Tr α), (Tr.set0 (d + 1) (.n l x r) i v).get0 j = if j = i then some v else (Tr.n l x r).get0 j := by
      intro l x r
      cases i with
      | zero =>
        cases j with
        | zero => simp [Tr.set0, Tr.get0]
        | succ j => simp [Tr.set0, Tr.get0]
      | succ i =>
        have hi : Nat.div i 2 + 1 < 2 ^ d := by show i / 2 + 1 < _; omega
        have h0 : ∀ n : Nat, Nat.beq (Nat.mod n 2) 0 = decide (n % 2 = 0) := fun n => by
          show Nat.beq (n % 2) 0 = _
          cases q : Nat.beq (n % 2) 0 with
          | true => have := Nat.eq_of_beq_eq_true q; simp [this]
          | false => have := Nat.ne_of_beq_eq_false q; simp [this]
        unfold Tr.set0
        simp only
        cases hq : Nat.beq (Nat.mod i 2) 0 with
        | true =>
          simp only
          rw [h0] at hq
          have hq := of_decide_eq_true hq
          cases j with
          | zero => simp [Tr.get0]
          | succ j =>
            unfold Tr.get0
            simp only
            cases hw : Nat.beq (Nat.mod j 2) 0 with
            | true =>
              simp only
              rw [Tr.get_set0 v d l _ _ hi]
              rw [h0] at hw
              have hw := of_decide_eq_true hw
              have : (Nat.div j 2 = Nat.div i 2) ↔ (j + 1 = i + 1) := by show j / 2 = i / 2 ↔ _; omega
              simp only [this]
            | false =>
              simp only
              rw [h0] at hw
              have hw := of_decide_eq_false hw
              rw [if_neg (by omega)]
        | false =>
          simp only
          rw [h0] at hq
          have hq := of_decide_eq_false hq
          cases j with
          | zero => simp [Tr.get0]
          | succ j =>
            unfold Tr.get0
            simp only
            cases hw : Nat.beq (Nat.mod j 2) 0 with
            | false =>
              simp only
              rw [Tr.get_set0 v d r _ _ hi]
              rw [h0] at hw
              have hw := of_decide_eq_false hw
              have : (Nat.div j 2 = Nat.div i 2) ↔ (j + 1 = i + 1) := by show j / 2 = i / 2 ↔ _; omega
              simp only [this]
            | true =>
              simp only
              rw [h0] at hw
              have hw := of_decide_eq_true hw
              rw [if_neg (by omega)]
    cases t with
    | n l x r => exact key l x r
    | e =>
      have := key .e none .e
      have e1 : (Tr.n (.e : Tr α) none .e).get0 j = (Tr.e : Tr α).get0 j := by
        cases j with
        | zero => rfl
        | succ j => unfold Tr.get0; simp only; split <;> rfl
      rw [e1] at this
      rw [← this]
      rfl

/- The same, by recursors (which the kernel does faster). -/
noncomputable def Tr.get {α : Type} (t : Tr α) : Nat → Option α :=
  Tr.rec (motive := fun _ => Nat → Option α) (fun _ => none) (fun _ x _ gl gr i => Nat.rec (motive := fun _ => Option α) x (fun j _ => Bool.rec (motive := fun _ => Option α) (gr (Nat.div j 2)) (gl (Nat.div j 2)) (Nat.beq (Nat.mod j 2) 0)) i) t
theorem Tr.get_eq {α : Type} : ∀ (t : Tr α) (i : Nat), t.get i = t.get0 i
  | .e, _ => rfl
  | .n l x r, 0 => rfl
  | .n l x r, j + 1 => by
    show (Bool.rec (r.get (Nat.div j 2)) (l.get (Nat.div j 2)) (Nat.beq (Nat.mod j 2) 0) : Option α) = _
    unfold Tr.get0
    simp only
    cases Nat.beq (Nat.mod j 2) 0 with
    | true => exact Tr.get_eq l _
    | false => exact Tr.get_eq r _
noncomputable def Tr.set {α : Type} (d : Nat) : Tr α → Nat → α → Tr α :=
  Nat.rec (motive := fun _ => Tr α → Nat → α → Tr α) (fun t _ _ => t) (fun _ ih t i v => Tr.casesOn (motive := fun _ => Tr α) t
    (Nat.rec (motive := fun _ => Tr α) (.n .e (some v) .e) (fun j _ => Bool.rec (motive := fun _ => Tr α) (.n .e none (ih .e (Nat.div j 2) v)) (.n (ih .e (Nat.div j 2) v) none .e) (Nat.beq (Nat.mod j 2) 0)) i)
    (fun l x r => Nat.rec (motive := fun _ => Tr α) (.n l (some v) r) (fun j _ => Bool.rec (motive := fun _ => Tr α) (.n l x (ih r (Nat.div j 2) v)) (.n (ih l (Nat.div j 2) v) x r) (Nat.beq (Nat.mod j 2) 0)) i)) d
theorem Tr.set_eq {α : Type} (v : α) : ∀ (d : Nat) (t : Tr α) (i : Nat), Tr.set d t i v = Tr.set0 d t i v
  | 0, _, _ => rfl
  | d + 1, .e, 0 => rfl
  | d + 1, .n l x r, 0 => rfl
  | d + 1, .e, j + 1 => by
    show (Bool.rec (.n .e none (Tr.set d .e (Nat.div j 2) v)) (.n (Tr.set d .e (Nat.div j 2) v) none .e) (Nat.beq (Nat.mod j 2) 0) : Tr α) = _
    unfold Tr.set0
    simp only
    cases Nat.beq (Nat.mod j 2) 0 with
    | true => simp only [Tr.set_eq v d]
    | false => simp only [Tr.set_eq v d]
  | d + 1, .n l x r, j + 1 => by
    show (Bool.rec (.n l x (Tr.set d r (Nat.div j 2) v)) (.n (Tr.set d l (Nat.div j 2) v) x r) (Nat.beq (Nat.mod j 2) 0) : Tr α) = _
    unfold Tr.set0
    simp only
    cases Nat.beq (Nat.mod j 2) 0 with
    | true => simp only [Tr.set_eq v d]
    | false => simp only [Tr.set_eq v d]
theorem Tr.get_set {α : Type} (v : α) (d : Nat) (t : Tr α) (i j : Nat) (h : i + 1 < 2 ^ d) : (Tr.set d t i v).get j = if j = i then some v else t.get j := by
  rw [Tr.get_eq, Tr.get_eq, Tr.set_eq, Tr.get_set0 v d t i j h]

/-- An address, relative. -/
structure EA where
  b : Nat
  o : Nat
/-- A capacity: a number; the block's room, less some. -/
inductive Cp where
  | lit (n : Nat) | sym (k : Nat)
structure ES where
  base : Option EA
  len : Nat
  cap : Cp
inductive SV where
  | int (k : IntKind) (n : Int)
  | sint (k : IntKind) (i : Nat) (c : Int)
  | ostr (i : Nat)
  | bool (b : Bool)
  | str (s : List UInt8)
  | ptr (a : Option EA)
  | sl (s : ES)
  | map (r : Option Nat)
  | fn (g : FuncId) (first caps : List SV)
  | agg (l : List SV)
  | tup (l : List SV)
  | ifc (t : TypeId) (v : SV)
  | nifc
  | nfn

def SV.one : SV → Bool
  | .agg _ | .tup _ => false
  | _ => true
/-- Where a relative block is: the true one, the offset at which it begins, its room. Of a symbol: its number, or its text. -/
structure Pl3 where
  b : Nat
  o : Nat
  c : Nat
  v : Int
  s : List UInt8
abbrev Ro := List Pl3
def Ro.le (r s : Ro) : Prop := ∀ (i : Nat) (p : Pl3), r[i]? = some p → s[i]? = some p
theorem Ro.le_refl (r : Ro) : r.le r := fun _ _ h => h
theorem Ro.le_trans {r s t : Ro} (h : r.le s) (k : s.le t) : r.le t := fun i p q => k i p (h i p q)
theorem Ro.le_push (r : Ro) (x : Pl3) : r.le (r ++ [x]) := fun i p h => by
  have hi : i < r.length := by
    rcases Nat.lt_or_ge i r.length with k | k
    · exact k
    · rw [List.getElem?_eq_none k] at h; cases h
  rw [List.getElem?_append_left hi]; exact h

def AD (r : Ro) (a : EA) (x : Addr) : Prop := ∃ p, r[a.b]? = some p ∧ x = ⟨p.b, p.o + a.o, none⟩
def OAD (r : Ro) : Option EA → Option Addr → Prop
  | none, x => x = none
  | some a, x => ∃ y, x = some y ∧ AD r a y
def ESD (r : Ro) (s : ES) (x : Sl) : Prop := OAD r s.base x.base ∧ x.len = s.len ∧ match s.cap with
  | .lit n => x.cap = n
  | .sym k => ∃ a p, s.base = some a ∧ r[a.b]? = some p ∧ x.cap + k = p.c ∧ x.len ≤ x.cap
mutual
def SD (r : Ro) : SV → Value → Prop
  | .int k n, v => v = .int k n
  | .sint k i c, v => ∃ p, r[i]? = some p ∧ v = .int k (p.v + c)
  | .ostr i, v => ∃ p, r[i]? = some p ∧ v = .string ⟨⟨p.s⟩⟩
  | .bool b, v => v = .bool b
  | .str l, v => v = .string ⟨⟨l⟩⟩
  | .ptr a, v => ∃ x, OAD r a x ∧ v = .pointer x
  | .sl s, v => ∃ x, ESD r s x ∧ v = .slice x.base x.len x.cap
  | .map none, v => v = .map none
  | .map (some i), v => ∃ p, r[i]? = some p ∧ v = .map (some p.b)
  | .fn g a b, v => ∃ x y, SDl r a x ∧ SDl r b y ∧ v = .func (.func g) x.toArray y.toArray
  | .agg l, v => ∃ x, SDl r l x ∧ v = .agg x.toArray
  | .tup l, v => ∃ x, SDl r l x ∧ v = .tuple x.toArray
  | .ifc t a, v => ∃ x, SD r a x ∧ v = .iface t x
  | .nifc, v => v = .nilIface
  | .nfn, v => v = .nilFunc
def SDl (r : Ro) : List SV → List Value → Prop
  | [], x => x = []
  | a :: l, x => ∃ y z, x = y :: z ∧ SD r a y ∧ SDl r l z
end
theorem AD.mono {r s : Ro} (l : r.le s) {a : EA} {x : Addr} (h : AD r a x) : AD s a x := by
  obtain ⟨p, h1, h2⟩ := h; exact ⟨p, l _ _ h1, h2⟩
theorem OAD.mono {r s : Ro} (l : r.le s) {a : Option EA} {x : Option Addr} (h : OAD r a x) : OAD s a x := by
  cases a with
  | none => exact h
  | some a => obtain ⟨y, e, h⟩ := h; exact ⟨y, e, h.mono l⟩
theorem ESD.mono {r s : Ro} (l : r.le s) {a : ES} {x : Sl} (h : ESD r a x) : ESD s a x := by
  obtain ⟨h1, h2, h3⟩ := h
  refine ⟨h1.mono l, h2, ?_⟩
  cases hc : a.cap with
  | lit n => rw [hc] at h3; exact h3
  | sym k => rw [hc] at h3; obtain ⟨q, p, e1, e2, e3⟩ := h3; exact ⟨q, p, e1, l _ _ e2, e3⟩
mutual
theorem SD.mono {r s : Ro} (l : r.le s) : ∀ (a : SV) {v : Value}, SD r a v → SD s a v
  | .int .., _, h => h
  | .sint .., _, h => by obtain ⟨p, h, e⟩ := h; exact ⟨p, l _ _ h, e⟩
  | .ostr .., _, h => by obtain ⟨p, h, e⟩ := h; exact ⟨p, l _ _ h, e⟩
  | .bool .., _, h => h
  | .str .., _, h => h
  | .ptr .., _, h => by obtain ⟨x, h, e⟩ := h; exact ⟨x, h.mono l, e⟩
  | .sl .., _, h => by obtain ⟨x, h, e⟩ := h; exact ⟨x, h.mono l, e⟩
  | .map none, _, h => h
  | .map (some i), _, h => by obtain ⟨p, h, e⟩ := h; exact ⟨p, l _ _ h, e⟩
  | .fn g a b, _, h => by obtain ⟨x, y, h1, h2, e⟩ := h; exact ⟨x, y, SDl.mono l a h1, SDl.mono l b h2, e⟩
  | .agg a, _, h => by obtain ⟨x, h1, e⟩ := h; exact ⟨x, SDl.mono l a h1, e⟩
  | .tup a, _, h => by obtain ⟨x, h1, e⟩ := h; exact ⟨x, SDl.mono l a h1, e⟩
  | .ifc t a, _, h => by obtain ⟨x, h1, e⟩ := h; exact ⟨x, SD.mono l a h1, e⟩
  | .nifc, _, h => h
  | .nfn, _, h => h
theorem SDl.mono {r s : Ro} (l : r.le s) : ∀ (a : List SV) {v : List Value}, SDl r a v → SDl s a v
  | [], _, h => h
  | a :: m, _, h => by obtain ⟨y, z, e, h1, h2⟩ := h; exact ⟨y, z, e, SD.mono l a h1, SDl.mono l m h2⟩
end
theorem SDl.len {r : Ro} : ∀ {a : List SV} {v : List Value}, SDl r a v → v.length = a.length
  | [], _, h => by rw [h]; rfl
  | _ :: _, _, h => by obtain ⟨y, z, e, _, h2⟩ := h; rw [e, List.length_cons, List.length_cons, h2.len]
theorem SDl.nil {r : Ro} : SDl r [] [] := rfl
theorem SDl.cons {r : Ro} {a : SV} {l : List SV} {v : Value} {x : List Value} (h : SD r a v) (k : SDl r l x) : SDl r (a :: l) (v :: x) := ⟨v, x, rfl, h, k⟩
theorem SDl.app {r : Ro} : ∀ {a b : List SV} {v w : List Value}, SDl r a v → SDl r b w → SDl r (a ++ b) (v ++ w)
  | [], _, _, _, h, k => by rw [h]; exact k
  | _ :: _, _, _, _, h, k => by obtain ⟨y, z, e, h1, h2⟩ := h; rw [e]; exact SDl.cons h1 (h2.app k)
theorem SDl.get {r : Ro} : ∀ {a : List SV} {v : List Value}, SDl r a v → ∀ {i : Nat} {x : SV}, a[i]? = some x → ∃ y, v[i]? = some y ∧ SD r x y
  | [], _, _, i, x, e => by simp at e
  | b :: a, v, h, i, x, e => by
    obtain ⟨y, z, rfl, h1, h2⟩ := h
    cases i with
    | zero => simp at e; subst e; exact ⟨y, rfl, h1⟩
    | succ i => simpa using h2.get (by simpa using e)
theorem SDl.drop {r : Ro} : ∀ (n : Nat) {a : List SV} {v : List Value}, SDl r a v → SDl r (a.drop n) (v.drop n)
  | 0, _, _, h => h
  | n + 1, [], _, h => by rw [h]; rfl
  | n + 1, _ :: a, _, h => by obtain ⟨y, z, rfl, h1, h2⟩ := h; exact h2.drop n
theorem SDl.take {r : Ro} : ∀ (n : Nat) {a : List SV} {v : List Value}, SDl r a v → SDl r (a.take n) (v.take n)
  | 0, _, _, h => by rw [List.take_zero, List.take_zero]; rfl
  | n + 1, [], _, h => by rw [h]; rfl
  | n + 1, _ :: a, _, h => by obtain ⟨y, z, rfl, h1, h2⟩ := h; exact SDl.cons h1 (h2.take n)
theorem SDl.set {r : Ro} {b : SV} {w : Value} (hb : SD r b w) : ∀ (n : Nat) {a : List SV} {v : List Value}, SDl r a v → SDl r (a.set n b) (v.set n w)
  | _, [], _, h => by rw [h]; rfl
  | 0, _ :: a, _, h => by obtain ⟨y, z, rfl, h1, h2⟩ := h; exact SDl.cons hb h2
  | n + 1, _ :: a, _, h => by obtain ⟨y, z, rfl, h1, h2⟩ := h; exact SDl.cons h1 (h2.set hb n)
theorem SDl.rep {r : Ro} {a : List SV} {v : List Value} (h : SDl r a v) : ∀ n : Nat, SDl r (List.replicate n a).flatten (List.replicate n v).flatten
  | 0 => rfl
  | n + 1 => by rw [List.replicate_succ, List.replicate_succ, List.flatten_cons, List.flatten_cons]; exact h.app (h.rep n)
end Go.Hl

set_option linter.unusedVariables false
set_option linter.unusedSimpArgs false
set_option linter.unusedSectionVars false
namespace Go.Hl

/- Lists, by recursors. -/
noncomputable def getL (l : List SV) : Nat → Option SV :=
  List.rec (motive := fun _ => Nat → Option SV) (fun _ => none) (fun a _ ih n => Nat.rec (motive := fun _ => Option SV) (some a) (fun m _ => ih m) n) l
noncomputable def setL (l : List SV) : Nat → SV → List SV :=
  List.rec (motive := fun _ => Nat → SV → List SV) (fun _ _ => []) (fun a t ih n v => Nat.rec (motive := fun _ => List SV) (v :: t) (fun m _ => a :: ih m v) n) l
noncomputable def takeL (l : List SV) : Nat → List SV :=
  List.rec (motive := fun _ => Nat → List SV) (fun _ => []) (fun a _ ih n => Nat.rec (motive := fun _ => List SV) [] (fun m _ => a :: ih m) n) l
noncomputable def dropL (l : List SV) : Nat → List SV :=
  List.rec (motive := fun _ => Nat → List SV) (fun _ => []) (fun a t ih n => Nat.rec (motive := fun _ => List SV) (a :: t) (fun m _ => ih m) n) l
noncomputable def appL (l m : List SV) : List SV := List.rec (motive := fun _ => List SV) m (fun a _ ih => a :: ih) l
/-- So many, and each fills one cell. -/
noncomputable def okN (l : List SV) : Nat → Bool :=
  List.rec (motive := fun _ => Nat → Bool) (fun n => Nat.rec (motive := fun _ => Bool) true (fun _ _ => false) n) (fun a _ ih n => Nat.rec (motive := fun _ => Bool) false (fun m _ => Bool.rec (motive := fun _ => Bool) false (ih m) a.one) n) l
theorem getL_eq : ∀ (l : List SV) (n : Nat), getL l n = l[n]?
  | [], _ => rfl
  | a :: l, 0 => rfl
  | a :: l, n + 1 => by show getL l n = _; rw [getL_eq l n, List.getElem?_cons_succ]
theorem setL_eq : ∀ (l : List SV) (n : Nat) (v : SV), setL l n v = l.set n v
  | [], _, _ => rfl
  | a :: l, 0, _ => rfl
  | a :: l, n + 1, v => by show a :: setL l n v = _; rw [setL_eq l n v, List.set_cons_succ]
theorem takeL_eq : ∀ (l : List SV) (n : Nat), takeL l n = l.take n
  | [], _ => by rw [List.take_nil]; rfl
  | a :: l, 0 => rfl
  | a :: l, n + 1 => by show a :: takeL l n = _; rw [takeL_eq l n, List.take_succ_cons]
theorem dropL_eq : ∀ (l : List SV) (n : Nat), dropL l n = l.drop n
  | [], _ => by rw [List.drop_nil]; rfl
  | a :: l, 0 => rfl
  | a :: l, n + 1 => by show dropL l n = _; rw [dropL_eq l n, List.drop_succ_cons]
theorem appL_eq : ∀ (l m : List SV), appL l m = l ++ m
  | [], _ => rfl
  | a :: l, m => by show a :: appL l m = _; rw [appL_eq l m, List.cons_append]
theorem okN_eq : ∀ {l : List SV} {n : Nat}, okN l n = true → l.length = n ∧ l.all SV.one = true
  | [], 0, _ => ⟨rfl, rfl⟩
  | [], n + 1, h => by cases h
  | a :: l, 0, h => by cases h
  | a :: l, n + 1, h => by
    have h : (Bool.rec false (okN l n) a.one : Bool) = true := h
    cases ha : a.one with
    | false => rw [ha] at h; cases h
    | true =>
      rw [ha] at h
      obtain ⟨h1, h2⟩ := okN_eq (l := l) (n := n) h
      exact ⟨by rw [List.length_cons, h1], by rw [List.all_cons, ha, h2]; rfl⟩

/-- Cells in pieces, with how many there are. -/
abbrev Rope := List (Nat × List SV)
noncomputable def flatR (r : Rope) : List SV :=
  List.rec (motive := fun _ => List SV) [] (fun c t ih => Prod.casesOn (motive := fun _ => List SV) c (fun _ l => List.casesOn (motive := fun _ => List SV) t l (fun _ _ => appL l ih))) r
theorem flatR_cons (c : Nat × List SV) (r : Rope) : flatR (c :: r) = c.2 ++ flatR r := by
  cases r with
  | nil => show c.2 = c.2 ++ []; rw [List.append_nil]
  | cons d r => show appL c.2 (flatR (d :: r)) = _; rw [appL_eq]
noncomputable def appR (a b : Rope) : Rope := List.rec (motive := fun _ => Rope) b (fun c _ ih => c :: ih) a
theorem appR_eq : ∀ (a b : Rope), appR a b = a ++ b
  | [], _ => rfl
  | c :: a, b => by show c :: appR a b = _; rw [appR_eq a b, List.cons_append]
theorem flatR_app : ∀ (a b : Rope), flatR (a ++ b) = flatR a ++ flatR b
  | [], b => rfl
  | c :: a, b => by rw [List.cons_append, flatR_cons, flatR_cons, flatR_app a b, List.append_assoc]
def RopeOk (r : Rope) : Prop := ∀ c ∈ r, c.2.length = c.1
theorem RopeOk.nil : RopeOk [] := fun _ h => by cases h
theorem RopeOk.cons {c : Nat × List SV} {r : Rope} (h : c.2.length = c.1) (k : RopeOk r) : RopeOk (c :: r) := fun d hd => by
  rcases List.mem_cons.1 hd with e | e
  · rw [e]; exact h
  · exact k d e
theorem RopeOk.head {c : Nat × List SV} {r : Rope} (h : RopeOk (c :: r)) : c.2.length = c.1 := h c (List.mem_cons_self ..)
theorem RopeOk.tail {c : Nat × List SV} {r : Rope} (h : RopeOk (c :: r)) : RopeOk r := fun d hd => h d (List.mem_cons_of_mem _ hd)
theorem RopeOk.app {a b : Rope} (h : RopeOk a) (k : RopeOk b) : RopeOk (a ++ b) := fun d hd => by
  rcases List.mem_append.1 hd with e | e
  · exact h d e
  · exact k d e
noncomputable def getR (r : Rope) : Nat → Option SV :=
  List.rec (motive := fun _ => Nat → Option SV) (fun _ => none) (fun c _ ih i => Prod.casesOn (motive := fun _ => Option SV) c (fun n l => Bool.rec (motive := fun _ => Option SV) (ih (Nat.sub i n)) (getL l i) (Nat.blt i n))) r
theorem blt_iff {a b : Nat} : Nat.blt a b = true ↔ a < b := ⟨fun h => Nat.lt_of_lt_of_le (Nat.lt_succ_self _) (Nat.le_of_ble_eq_true h), fun h => Nat.ble_eq_true_of_le h⟩
theorem blt_not {a b : Nat} (h : Nat.blt a b = false) : b ≤ a := by
  rcases Nat.lt_or_ge a b with k | k
  · rw [blt_iff.2 k] at h; cases h
  · exact k
theorem getR_eq : ∀ {r : Rope} (h : RopeOk r) (i : Nat), getR r i = (flatR r)[i]?
  | [], _, _ => rfl
  | c :: r, h, i => by
    have hc := h.head
    show (Bool.rec (getR r (Nat.sub i c.1)) (getL c.2 i) (Nat.blt i c.1) : Option SV) = _
    rw [flatR_cons]
    cases hb : Nat.blt i c.1 with
    | true =>
      have := blt_iff.1 hb
      simp only
      rw [getL_eq, List.getElem?_append_left (by omega)]
    | false =>
      have := blt_not hb
      simp only
      rw [getR_eq h.tail, List.getElem?_append_right (by omega), hc]; rfl
noncomputable def setR (r : Rope) : Nat → SV → Option Rope :=
  List.rec (motive := fun _ => Nat → SV → Option Rope) (fun _ _ => none) (fun c t ih i v => Prod.casesOn (motive := fun _ => Option Rope) c (fun n l => Bool.rec (motive := fun _ => Option Rope)
    (Option.casesOn (motive := fun _ => Option Rope) (ih (Nat.sub i n) v) none (fun t' => some ((n, l) :: t')))
    (some ((n, setL l i v) :: t)) (Nat.blt i n))) r
theorem setR_eq : ∀ {r : Rope} (h : RopeOk r) {i : Nat} {v : SV} {r' : Rope}, setR r i v = some r' → i < (flatR r).length ∧ RopeOk r' ∧ flatR r' = (flatR r).set i v
  | [], _, _, _, _, e => by cases e
  | c :: r, h, i, v, r', e => by
    have hc := h.head
    have e : (Bool.rec (Option.casesOn (motive := fun _ => Option Rope) (setR r (Nat.sub i c.1) v) none (fun t' => some (c :: t'))) (some ((c.1, setL c.2 i v) :: r)) (Nat.blt i c.1) : Option Rope) = some r' := e
    cases hb : Nat.blt i c.1 with
    | true =>
      rw [hb] at e; cases e
      have := blt_iff.1 hb
      refine ⟨by rw [flatR_cons, List.length_append]; omega, RopeOk.cons (by rw [setL_eq, List.length_set]; exact hc) h.tail, ?_⟩
      rw [flatR_cons, flatR_cons, setL_eq, List.set_append_left _ _ (by omega)]
    | false =>
      rw [hb] at e
      have := blt_not hb
      cases hs : setR r (Nat.sub i c.1) v with
      | none => rw [hs] at e; cases e
      | some t' =>
        rw [hs] at e; cases e
        obtain ⟨h1, h2, h3⟩ := setR_eq h.tail hs
        have h1 : i - c.1 < (flatR r).length := h1
        refine ⟨by rw [flatR_cons, List.length_append]; omega, RopeOk.cons hc h2, ?_⟩
        rw [flatR_cons, flatR_cons, h3, List.set_append_right _ _ (by omega), hc]; rfl
/-- What is ahead of a place, and from there on. -/
noncomputable def splitR (r : Rope) : Nat → Option (Rope × Rope) :=
  List.rec (motive := fun _ => Nat → Option (Rope × Rope)) (fun n => Nat.rec (motive := fun _ => Option (Rope × Rope)) (some ([], [])) (fun _ _ => none) n)
    (fun c t ih n => Nat.rec (motive := fun _ => Option (Rope × Rope)) (some ([], c :: t)) (fun _ _ => Prod.casesOn (motive := fun _ => Option (Rope × Rope)) c (fun m l => Bool.rec (motive := fun _ => Option (Rope × Rope))
      (some ([(n, takeL l n)], (Nat.sub m n, dropL l n) :: t))
      (Option.casesOn (motive := fun _ => Option (Rope × Rope)) (ih (Nat.sub n m)) none (fun p => Prod.casesOn (motive := fun _ => Option (Rope × Rope)) p (fun a b => some ((m, l) :: a, b))))
      (Nat.ble m n))) n) r
theorem splitR_eq : ∀ {r : Rope} (h : RopeOk r) {n : Nat} {a b : Rope}, splitR r n = some (a, b) → RopeOk a ∧ RopeOk b ∧ flatR r = flatR a ++ flatR b ∧ (flatR a).length = n
  | [], h, 0, a, b, e => by cases e; exact ⟨h, h, rfl, rfl⟩
  | [], h, n + 1, a, b, e => by cases e
  | c :: r, h, 0, a, b, e => by cases e; exact ⟨RopeOk.nil, h, rfl, rfl⟩
  | c :: r, h, n + 1, a, b, e => by
    have hc := h.head
    have e : (Bool.rec (some ([(n + 1, takeL c.2 (n + 1))], (Nat.sub c.1 (n + 1), dropL c.2 (n + 1)) :: r)) (Option.casesOn (motive := fun _ => Option (Rope × Rope)) (splitR r (Nat.sub (n + 1) c.1)) none (fun p => some (c :: p.1, p.2))) (Nat.ble c.1 (n + 1)) : Option (Rope × Rope)) = some (a, b) := e
    cases hb : Nat.ble c.1 (n + 1) with
    | true =>
      rw [hb] at e
      have hle := Nat.le_of_ble_eq_true hb
      cases hs : splitR r (Nat.sub (n + 1) c.1) with
      | none => rw [hs] at e; cases e
      | some p =>
        obtain ⟨p1, p2⟩ := p
        rw [hs] at e; cases e
        obtain ⟨h1, h2, h3, h4⟩ := splitR_eq h.tail hs
        have h4 : (flatR p1).length = n + 1 - c.1 := h4
        refine ⟨RopeOk.cons hc h1, h2, by rw [flatR_cons, flatR_cons, h3, List.append_assoc], by rw [flatR_cons, List.length_append, hc]; show c.1 + (flatR p1).length = n + 1; omega⟩
    | false =>
      rw [hb] at e; cases e
      have hlt : n + 1 < c.1 := by
        rcases Nat.lt_or_ge (n + 1) c.1 with k | k
        · exact k
        · rw [Nat.ble_eq_true_of_le k] at hb; cases hb
      refine ⟨RopeOk.cons (by rw [takeL_eq, List.length_take]; simp only; omega) RopeOk.nil, RopeOk.cons (by rw [dropL_eq, List.length_drop]; show _ = c.1 - (n + 1); omega) h.tail, ?_, ?_⟩
      · rw [flatR_cons, flatR_cons, flatR_cons, takeL_eq, dropL_eq]
        show _ = (c.2.take (n + 1) ++ flatR []) ++ _
        rw [show flatR [] = [] from rfl, List.append_nil, ← List.append_assoc, List.take_append_drop]
      · rw [flatR_cons, takeL_eq, List.length_append, List.length_take]
        show min (n + 1) _ + 0 = _
        omega
/-- A part. -/
noncomputable def subR (r : Rope) (o n : Nat) : Option Rope :=
  Option.casesOn (motive := fun _ => Option Rope) (splitR r o) none (fun p => Prod.casesOn (motive := fun _ => Option Rope) p (fun _ b => Option.casesOn (motive := fun _ => Option Rope) (splitR b n) none (fun q => Prod.casesOn (motive := fun _ => Option Rope) q (fun c _ => some c))))
theorem subR_eq {r : Rope} (h : RopeOk r) {o n : Nat} {x : Rope} (e : subR r o n = some x) : o + n ≤ (flatR r).length ∧ RopeOk x ∧ flatR x = ((flatR r).drop o).take n := by
  unfold subR at e
  cases h1 : splitR r o with
  | none => rw [h1] at e; cases e
  | some p =>
    obtain ⟨a, b⟩ := p
    rw [h1] at e
    simp only at e
    cases h2 : splitR b n with
    | none => rw [h2] at e; cases e
    | some q =>
      obtain ⟨c, d⟩ := q
      rw [h2] at e
      cases e
      obtain ⟨k1, k2, k3, k4⟩ := splitR_eq h h1
      obtain ⟨m1, m2, m3, m4⟩ := splitR_eq k2 h2
      have el : (flatR r).length = o + (n + (flatR d).length) := by rw [k3, m3, List.length_append, List.length_append]; omega
      refine ⟨by omega, m1, ?_⟩
      rw [k3, ← k4, List.drop_left, m3, ← m4, List.take_left]
noncomputable def cutR (r : Rope) (o n : Nat) : Option (List SV) := Option.casesOn (motive := fun _ => Option (List SV)) (subR r o n) none (fun x => some (flatR x))
/-- Some cells written over; beyond the end there may be new ones. -/
noncomputable def overR (r : Rope) (o n : Nat) (vs : List SV) : Option Rope :=
  Option.casesOn (motive := fun _ => Option Rope) (splitR r o) none (fun p => Prod.casesOn (motive := fun _ => Option Rope) p (fun a b => some (appR a ((n, vs) :: Option.casesOn (motive := fun _ => Rope) (splitR b n) [] (fun q => Prod.casesOn (motive := fun _ => Rope) q (fun _ d => d))))))
noncomputable def splR (r : Rope) (o n : Nat) (vs : List SV) : Option Rope :=
  Option.casesOn (motive := fun _ => Option Rope) (splitR r o) none (fun p => Prod.casesOn (motive := fun _ => Option Rope) p (fun a b => Option.casesOn (motive := fun _ => Option Rope) (splitR b n) none (fun q => Prod.casesOn (motive := fun _ => Option Rope) q (fun _ d => some (appR a ((n, vs) :: d))))))
theorem cutR_eq {r : Rope} (h : RopeOk r) {o n : Nat} {x : List SV} (e : cutR r o n = some x) : o + n ≤ (flatR r).length ∧ x = ((flatR r).drop o).take n := by
  unfold cutR at e
  cases h1 : subR r o n with
  | none => rw [h1] at e; cases e
  | some y => rw [h1] at e; cases e; obtain ⟨h2, _, h3⟩ := subR_eq h h1; exact ⟨h2, h3⟩
theorem splR_eq {r : Rope} (h : RopeOk r) {o n : Nat} {vs : List SV} (hn : vs.length = n) {r' : Rope} (e : splR r o n vs = some r') : o + n ≤ (flatR r).length ∧ RopeOk r' ∧ flatR r' = (flatR r).take o ++ vs ++ (flatR r).drop (o + vs.length) := by
  unfold splR at e
  cases h1 : splitR r o with
  | none => rw [h1] at e; cases e
  | some p =>
    obtain ⟨a, b⟩ := p
    rw [h1] at e
    simp only at e
    cases h2 : splitR b n with
    | none => rw [h2] at e; cases e
    | some q =>
      obtain ⟨c, d⟩ := q
      rw [h2] at e
      cases e
      obtain ⟨k1, k2, k3, k4⟩ := splitR_eq h h1
      obtain ⟨m1, m2, m3, m4⟩ := splitR_eq k2 h2
      have el : (flatR r).length = o + (n + (flatR d).length) := by rw [k3, m3, List.length_append, List.length_append]; omega
      rw [appR_eq]
      refine ⟨by omega, k1.app (RopeOk.cons hn m2), ?_⟩
      rw [flatR_app, flatR_cons, hn, ← List.drop_drop, k3, ← k4, List.take_left, List.drop_left, m3, ← m4, List.drop_left, List.append_assoc]
theorem overR_eq {r : Rope} (h : RopeOk r) {o n : Nat} {vs : List SV} (hn : vs.length = n) {r' : Rope} (e : overR r o n vs = some r') : o ≤ (flatR r).length ∧ RopeOk r' ∧ (flatR r' = (flatR r).take o ++ vs ++ (flatR r).drop (o + vs.length) ∨ flatR r' = (flatR r).take o ++ vs) := by
  unfold overR at e
  cases h1 : splitR r o with
  | none => rw [h1] at e; cases e
  | some p =>
    obtain ⟨a, b⟩ := p
    rw [h1] at e
    simp only at e
    obtain ⟨k1, k2, k3, k4⟩ := splitR_eq h h1
    have le : o ≤ (flatR r).length := by rw [k3, List.length_append]; omega
    cases h2 : splitR b n with
    | none =>
      rw [h2] at e; cases e
      rw [appR_eq]
      refine ⟨le, k1.app (RopeOk.cons hn RopeOk.nil), .inr ?_⟩
      rw [flatR_app, flatR_cons, k3, ← k4, List.take_left]
      show _ ++ (vs ++ []) = _
      rw [List.append_nil]
    | some q =>
      obtain ⟨c, d⟩ := q
      rw [h2] at e
      cases e
      obtain ⟨m1, m2, m3, m4⟩ := splitR_eq k2 h2
      rw [appR_eq]
      refine ⟨le, k1.app (RopeOk.cons hn m2), .inl ?_⟩
      rw [flatR_app, flatR_cons, hn, ← List.drop_drop, k3, ← k4, List.take_left, List.drop_left, m3, ← m4, List.drop_left, List.append_assoc]
noncomputable def lenL (l : List SV) : Nat := List.rec (motive := fun _ => Nat) 0 (fun _ _ ih => Nat.succ ih) l
theorem lenL_eq : ∀ (l : List SV), lenL l = l.length
  | [] => rfl
  | a :: l => by show Nat.succ (lenL l) = _; rw [lenL_eq l]; rfl
/-- A row cut into pieces of so many cells. -/
noncomputable def chopR (lens : List Nat) : Rope → Rope :=
  List.rec (motive := fun _ => Rope → Rope) (fun r => r) (fun n _ ih r => Option.casesOn (motive := fun _ => Rope) (splitR r n) r (fun p => Prod.casesOn (motive := fun _ => Rope) p (fun a b => appR a (ih b)))) lens
theorem chopR_eq : ∀ (lens : List Nat) {r : Rope} (h : RopeOk r), RopeOk (chopR lens r) ∧ flatR (chopR lens r) = flatR r
  | [], r, h => ⟨h, rfl⟩
  | n :: lens, r, h => by
    show RopeOk (Option.casesOn (motive := fun _ => Rope) (splitR r n) r (fun p => appR p.1 (chopR lens p.2))) ∧ flatR (Option.casesOn (motive := fun _ => Rope) (splitR r n) r (fun p => appR p.1 (chopR lens p.2))) = _
    cases h1 : splitR r n with
    | none => exact ⟨h, rfl⟩
    | some p =>
      obtain ⟨a, b⟩ := p
      obtain ⟨k1, k2, k3, k4⟩ := splitR_eq h h1
      obtain ⟨m1, m2⟩ := chopR_eq lens k2
      simp only [appR_eq]
      exact ⟨k1.app m1, by rw [flatR_app, m2, k3]⟩
noncomputable def newR (lens : List Nat) (n : Nat) (cs : List SV) : Rope := chopR lens [(n, cs)]
theorem newR_eq (lens : List Nat) {n : Nat} {cs : List SV} (hn : cs.length = n) : RopeOk (newR lens n cs) ∧ flatR (newR lens n cs) = cs := by
  obtain ⟨h1, h2⟩ := chopR_eq lens (r := [(n, cs)]) (RopeOk.cons hn RopeOk.nil)
  exact ⟨h1, h2⟩
end Go.Hl

set_option linter.unusedVariables false
set_option linter.unusedSimpArgs false
set_option linter.unusedSectionVars false
namespace Go.Hl
noncomputable section

def iAdd (a b : Int) : Int := Int.rec (motive := fun _ => Int) (fun m => Int.rec (motive := fun _ => Int) (fun n => .ofNat (Nat.add m n)) (fun n => Int.subNatNat m (Nat.succ n)) b) (fun m => Int.rec (motive := fun _ => Int) (fun n => Int.subNatNat n (Nat.succ m)) (fun n => .negSucc (Nat.succ (Nat.add m n))) b) a
theorem iAdd_eq (a b : Int) : iAdd a b = a + b := by cases a <;> cases b <;> rfl
def iNeg (a : Int) : Int := Int.rec (motive := fun _ => Int) (fun m => Nat.rec (motive := fun _ => Int) (.ofNat 0) (fun n _ => .negSucc n) m) (fun m => .ofNat (Nat.succ m)) a
theorem iNeg_eq (a : Int) : iNeg a = -a := by cases a with
  | ofNat m => cases m <;> rfl
  | negSucc m => rfl
def iSub (a b : Int) : Int := iAdd a (iNeg b)
theorem iSub_eq (a b : Int) : iSub a b = a - b := by unfold iSub; rw [iAdd_eq, iNeg_eq]; rfl
def iLt (a b : Int) : Bool := Int.rec (motive := fun _ => Bool) (fun m => Int.rec (motive := fun _ => Bool) (fun n => Nat.blt m n) (fun _ => false) b) (fun m => Int.rec (motive := fun _ => Bool) (fun _ => true) (fun n => Nat.blt n m) b) a
theorem iLt_eq (a b : Int) : iLt a b = decide (a < b) := by
  have blt : ∀ m n : Nat, Nat.blt m n = decide (m < n) := fun m n => by
    cases h : Nat.blt m n with
    | true => rw [decide_eq_true (blt_iff.1 h)]
    | false => rw [decide_eq_false (by have := blt_not h; omega)]
  cases a with
  | ofNat m => cases b with
    | ofNat n => show Nat.blt m n = _; rw [blt]; congr 1; simp
    | negSucc n => show false = _; rw [decide_eq_false]; simp only [Int.ofNat_eq_natCast]; omega
  | negSucc m => cases b with
    | ofNat n => show true = _; rw [decide_eq_true]; simp only [Int.ofNat_eq_natCast]; omega
    | negSucc n => show Nat.blt n m = _; rw [blt]; congr 1; simp only [eq_iff_iff]; omega
def iLe (a b : Int) : Bool := Int.rec (motive := fun _ => Bool) (fun m => Int.rec (motive := fun _ => Bool) (fun n => Nat.ble m n) (fun _ => false) b) (fun m => Int.rec (motive := fun _ => Bool) (fun _ => true) (fun n => Nat.ble n m) b) a
theorem iLe_eq (a b : Int) : iLe a b = decide (a ≤ b) := by
  have ble : ∀ m n : Nat, Nat.ble m n = decide (m ≤ n) := fun m n => by
    cases h : Nat.ble m n with
    | true => rw [decide_eq_true (Nat.le_of_ble_eq_true h)]
    | false => rw [decide_eq_false (fun k => by rw [Nat.ble_eq_true_of_le k] at h; cases h)]
  cases a with
  | ofNat m => cases b with
    | ofNat n => show Nat.ble m n = _; rw [ble]; congr 1; simp
    | negSucc n => show false = _; rw [decide_eq_false]; simp only [Int.ofNat_eq_natCast]; omega
  | negSucc m => cases b with
    | ofNat n => show true = _; rw [decide_eq_true]; simp only [Int.ofNat_eq_natCast]; omega
    | negSucc n => show Nat.ble n m = _; rw [ble]; congr 1; simp only [eq_iff_iff]; omega
def iEq (a b : Int) : Bool := Int.rec (motive := fun _ => Bool) (fun m => Int.rec (motive := fun _ => Bool) (fun n => Nat.beq m n) (fun _ => false) b) (fun m => Int.rec (motive := fun _ => Bool) (fun _ => false) (fun n => Nat.beq m n) b) a
theorem iEq_eq (a b : Int) : iEq a b = (a == b) := by
  have beq : ∀ m n : Nat, Nat.beq m n = decide (m = n) := fun m n => by
    cases h : Nat.beq m n with
    | true => rw [decide_eq_true (Nat.eq_of_beq_eq_true h)]
    | false => rw [decide_eq_false (Nat.ne_of_beq_eq_false h)]
  rw [show (a == b) = decide (a = b) from rfl]
  cases a with
  | ofNat m => cases b with
    | ofNat n => show Nat.beq m n = _; rw [beq]; congr 1; simp only [Int.ofNat.injEq]
    | negSucc n => show false = _; rw [decide_eq_false]; exact fun h => by cases h
  | negSucc m => cases b with
    | ofNat n => show false = _; rw [decide_eq_false]; exact fun h => by cases h
    | negSucc n => show Nat.beq m n = _; rw [beq]; congr 1; simp
def maxN : IntKind → Nat
  | .i8 => 127 | .i16 => 32767 | .i32 => 2147483647 | .i64 => 9223372036854775807
  | .u8 => 255 | .u16 => 65535 | .u32 => 4294967295 | .u64 => 18446744073709551615
def minN : IntKind → Nat
  | .i8 => 128 | .i16 => 32768 | .i32 => 2147483648 | .i64 => 9223372036854775808
  | _ => 0
theorem maxN_eq (k : IntKind) : k.max = (maxN k : Int) := by cases k <;> simp [IntKind.max, IntKind.bits, IntKind.signed, maxN]
theorem minN_eq (k : IntKind) : k.min = -(minN k : Int) := by cases k <;> simp [IntKind.min, IntKind.bits, IntKind.signed, minN]
theorem wrap_in' (k : IntKind) {n : Int} (h1 : k.min ≤ n) (h2 : n ≤ k.max) : k.wrap n = n := by
  cases k <;> simp [IntKind.min, IntKind.max, IntKind.bits, IntKind.signed] at h1 h2 <;> simp [IntKind.wrap, IntKind.bits, IntKind.signed] <;> omega
/-- 'wrap', fast where nothing wraps. -/
def fwrap (k : IntKind) (n : Int) : Int := Int.rec (motive := fun _ => Int)
  (fun m => Bool.rec (motive := fun _ => Int) (k.wrap (.ofNat m)) (.ofNat m) (Nat.ble m (maxN k)))
  (fun m => Bool.rec (motive := fun _ => Int) (k.wrap (.negSucc m)) (.negSucc m) (Nat.blt m (minN k))) n
theorem fwrap_eq (k : IntKind) (n : Int) : fwrap k n = k.wrap n := by
  cases n with
  | ofNat m =>
    show Bool.rec (motive := fun _ => Int) (k.wrap (.ofNat m)) (.ofNat m) (Nat.ble m (maxN k)) = _
    cases h : Nat.ble m (maxN k) with
    | false => rfl
    | true =>
      have := Nat.le_of_ble_eq_true h
      refine (wrap_in' k ?_ ?_).symm
      · rw [minN_eq]; simp only [Int.ofNat_eq_natCast]; omega
      · rw [maxN_eq]; simp only [Int.ofNat_eq_natCast]; omega
  | negSucc m =>
    show Bool.rec (motive := fun _ => Int) (k.wrap (.negSucc m)) (.negSucc m) (Nat.blt m (minN k)) = _
    cases h : Nat.blt m (minN k) with
    | false => rfl
    | true =>
      have := blt_iff.1 h
      show Int.negSucc m = _
      refine (wrap_in' k ?_ ?_).symm
      · rw [minN_eq]; omega
      · rw [maxN_eq]; omega
/-- 'bitsV', fast on numbers from 0 on. -/
def fbits (op : BinOp) (k : IntKind) (x y : Int) : Int := Int.rec (motive := fun _ => Int)
  (fun m => Int.rec (motive := fun _ => Int) (fun n => Bool.rec (motive := fun _ => Int) (bitsV op k (.ofNat m) (.ofNat n)) (match op with
    | .and => .ofNat (Nat.land m n)
    | .or => .ofNat (Nat.lor m n)
    | .xor => .ofNat (Nat.xor m n)
    | _ => bitsV op k (.ofNat m) (.ofNat n)) (Bool.rec (motive := fun _ => Bool) false (Nat.ble n (maxN k)) (Nat.ble m (maxN k)))) (fun n => bitsV op k (.ofNat m) (.negSucc n)) y)
  (fun m => bitsV op k (.negSucc m) y) x
theorem maxN_pow (k : IntKind) : ∃ p, maxN k + 1 = 2 ^ p ∧ p ≤ k.bits := by
  cases k <;> first | exact ⟨7, rfl, by decide⟩ | exact ⟨15, rfl, by decide⟩ | exact ⟨31, rfl, by decide⟩ | exact ⟨63, rfl, by decide⟩ | exact ⟨8, rfl, by decide⟩ | exact ⟨16, rfl, by decide⟩ | exact ⟨32, rfl, by decide⟩ | exact ⟨64, rfl, by decide⟩
theorem fbits_eq (op : BinOp) (k : IntKind) (x y : Int) : fbits op k x y = bitsV op k x y := by
  cases x with
  | negSucc m => rfl
  | ofNat m => cases y with
    | negSucc n => rfl
    | ofNat n =>
      show Bool.rec (motive := fun _ => Int) (bitsV op k (.ofNat m) (.ofNat n)) (match op with
        | .and => .ofNat (Nat.land m n)
        | .or => .ofNat (Nat.lor m n)
        | .xor => .ofNat (Nat.xor m n)
        | _ => bitsV op k (.ofNat m) (.ofNat n)) (Bool.rec (motive := fun _ => Bool) false (Nat.ble n (maxN k)) (Nat.ble m (maxN k))) = _
      cases h1 : Nat.ble m (maxN k) with
      | false => rfl
      | true =>
        cases h2 : Nat.ble n (maxN k) with
        | false => rfl
        | true =>
          have a1 := Nat.le_of_ble_eq_true h1
          have a2 := Nat.le_of_ble_eq_true h2
          obtain ⟨p, e1, e2⟩ := maxN_pow k
          have l1 : m < 2 ^ p := by omega
          have l2 : n < 2 ^ p := by omega
          have up : 2 ^ p ≤ 2 ^ k.bits := Nat.pow_le_pow_right (by omega) e2
          have t1 : (BitVec.ofInt k.bits (.ofNat m)).toNat = m := by
            rw [show (Int.ofNat m) = (m : Int) from rfl, BitVec.ofInt_natCast, BitVec.toNat_ofNat, Nat.mod_eq_of_lt (by omega)]
          have t2 : (BitVec.ofInt k.bits (.ofNat n)).toNat = n := by
            rw [show (Int.ofNat n) = (n : Int) from rfl, BitVec.ofInt_natCast, BitVec.toNat_ofNat, Nat.mod_eq_of_lt (by omega)]
          have w : ∀ z : Nat, z < 2 ^ p → k.wrap (z : Int) = (z : Int) := fun z hz => wrap_in' k (by rw [minN_eq]; omega) (by rw [maxN_eq]; omega)
          cases op <;> first
            | rfl
            | (show Int.ofNat (Nat.land m n) = _
               unfold bitsV
               simp only [BitVec.toNat_and, t1, t2]
               rw [w _ (Nat.and_lt_two_pow _ l2)]; rfl)
            | (show Int.ofNat (Nat.lor m n) = _
               unfold bitsV
               simp only [BitVec.toNat_or, t1, t2]
               rw [w _ (Nat.or_lt_two_pow l1 l2)]; rfl)
            | (show Int.ofNat (Nat.xor m n) = _
               unfold bitsV
               simp only [BitVec.toNat_xor, t1, t2]
               rw [w _ (Nat.xor_lt_two_pow l1 l2)]; rfl)
end
end Go.Hl

set_option linter.unusedVariables false
set_option linter.unusedSimpArgs false
set_option linter.unusedSectionVars false
namespace Go.Hl
noncomputable section

/-- How much room a block has: so many cells; as the block's room says, in elements of so many cells. -/
inductive Rm where
  | lit (n : Nat) | sym (z : Nat)
/-- A symbol that is a text (the number is then its length): what it is, if that is known; what it isn't. -/
inductive Tx where
  | no | tx (kn : Option (List UInt8)) (nots : List (List UInt8))
inductive CB where
  | row (cs : Rope) (rm : Rm)
  | map (es : List (SV × SV))
  | it (s : List UInt8) (pos : Nat)
  | dead
  /-- A symbol: a number between two, that leaves q if it is divided by m. -/
  | num (lo hi : Int) (m q : Nat) (t : Tx)
  /-- Of a variable: the table of tens' powers is there. -/
  | pow10 (g : Nat)
/-- Does it stand for a block? -/
def CB.lv : CB → Prop
  | .row .. | .map .. | .it .. => True
  | _ => False
structure CH where
  t : Tr CB
  n : Nat
abbrev ER := CH → Bool

inductive EI where
  | n (v : Int) | s (i : Nat) (c : Int)
inductive ET where
  | n (v : List UInt8) | s (i : Nat)
def Shape.E : Shape → Type
  | .int _ => EI | .bool => Bool | .str => ET | .ptr => Option EA | .slice => ES | .agg => List SV | .map => Option Nat | .any => SV
def Shape.injE : (s : Shape) → s.E → SV
  | .int k, x => match x with
    | .n n => .int k n
    | .s i c => .sint k i c
  | .bool, b => .bool b
  | .str, x => match x with
    | .n s => .str s
    | .s i => .ostr i
  | .ptr, a => .ptr a
  | .slice, s => .sl s
  | .agg, l => .agg l
  | .map, r => .map r
  | .any, v => v
def Shape.projE : (s : Shape) → SV → Option s.E
  | .int k, .int k' n => if k = k' then some (.n n) else none
  | .int k, .sint k' i c => if k = k' then some (.s i c) else none
  | .bool, .bool b => some b
  | .str, .str s => some (.n s)
  | .str, .ostr i => some (.s i)
  | .ptr, .ptr a => some a
  | .slice, .sl s => some s
  | .agg, .agg cs => some cs
  | .map, .map r => some r
  | .any, v => some v
  | _, _ => none
def ShapesE : List Shape → Type
  | [] => Unit
  | s :: r => s.E × ShapesE r
def ShapesE.inj : (l : List Shape) → ShapesE l → List SV
  | [], _ => []
  | s :: r, x => s.injE x.1 :: ShapesE.inj r x.2
def ShapesE.proj : (l : List Shape) → List SV → Option (ShapesE l)
  | [], [] => some ()
  | s :: r, v :: vs => match s.projE v with
    | some x => match ShapesE.proj r vs with
      | some y => some (x, y)
      | none => none
    | none => none
  | _, _ => none
def RShape.E : RShape → Type
  | .one s => s.E
  | .many l => ShapesE l
def RShape.injE : (r : RShape) → r.E → SV
  | .one s, x => s.injE x
  | .many l, x => .tup (ShapesE.inj l x)
def RShape.projE : (r : RShape) → SV → Option r.E
  | .one s, v => s.projE v
  | .many l, .tup vs => ShapesE.proj l vs
  | .many _, _ => none

/-- A constant. -/
def ofV : Value → Option SV
  | .int k n => some (.int k n)
  | .bool b => some (.bool b)
  | .string s => some (.str s.data.toList)
  | .pointer none => some (.ptr none)
  | .slice none n c => some (.sl ⟨none, n, .lit c⟩)
  | .map none => some (.map none)
  | .nilIface => some .nifc
  | .nilFunc => some .nfn
  | _ => none
def ofVs : List Value → Option (List SV)
  | [] => some []
  | v :: r => match ofV v with
    | some x => match ofVs r with
      | some y => some (x :: y)
      | none => none
    | none => none

/-- Of a value that may be a struct. -/
def ofZ : Value → Option SV
  | .agg cs => match ofVs cs.toList with
    | some l => some (.agg l)
    | none => none
  | v => ofV v

inductive EVE where
  | un | sk | tt | ff | over | step (a b : SV) | v (x : SV)
def EVE.get : EVE → Option SV
  | .un => none
  | .sk => some (.tup [])
  | .tt => some (.bool true)
  | .ff => some (.bool false)
  | .over => some (.tup [.bool false])
  | .step a b => some (.tup [.bool true, a, b])
  | .v x => some x
abbrev EnE := List EVE
def EnE.at (e : EnE) (t : Nat) : EVE := e.getD t .un
def evO (e : EnE) : Operand → EVE
  | .tmp t => e.at t
  | .const (.bool true) => .tt
  | .const (.bool false) => .ff
  | .const v => match ofV v with
    | some x => .v x
    | none => .un
  | .global _ => .un
  | .func f => .v (.fn f [] [])


/- The primitives. -/
def eF : ER := fun _ => false
def eIf (c : Bool) (p q : ER) : ER := fun H => match c with
  | true => p H
  | false => q H
def eAssert (c : Bool) (p : ER) : ER := fun H => match c with
  | true => p H
  | false => false
def CH.push (H : CH) (B : CB) : CH := ⟨H.t.set 24 H.n B, H.n + 1⟩
def CH.put (H : CH) (i : Nat) (B : CB) : CH := ⟨H.t.set 24 i B, H.n⟩
def eNewB (B : CB) (k : Nat → ER) : ER := fun H => match Nat.blt H.n 1000000 with
  | true => k H.n (H.push B)
  | false => false
def eNew (lens : List Nat) (cs : List SV) (k : Nat → ER) : ER := eNewB (.row (newR lens (lenL cs) cs) (.lit (lenL cs))) k
def CH.row (H : CH) (b : Nat) (k : Rope → Rm → Bool) : Bool := match H.t.get b with
  | some (.row cs rm) => k cs rm
  | _ => false
/- Symbols. -/
def CH.num (H : CH) (i : Nat) (k : Int → Int → Nat → Nat → Tx → Bool) : Bool := match H.t.get i with
  | some (.num lo hi m q t) => k lo hi m q t
  | _ => false
/-- Each number from v on. -/
def eEach (i : Nat) (k : Int → ER) (m q : Nat) (t : Tx) : Nat → Int → ER
  | 0, _ => fun _ => true
  | n + 1, v => fun H => (match decide (v % (m : Int) = q) with
    | true => k v (H.put i (.num v v m q t))
    | false => true) && eEach i k m q t n (v + 1) H
/-- Each number that a symbol may be. -/
def eConcI (i : Nat) (k : Int → ER) : ER := fun H => H.num i fun lo hi m q t => match decide (hi - lo ≤ 600) with
  | true => eEach i k m q t (hi - lo + 1).toNat lo H
  | false => false
/-- A value without symbols. -/
def eConc (v : SV) (k : SV → ER) : ER := match v with
  | .sint kk i c => eConcI i fun n => k (.int kk (n + c))
  | .ostr i => fun H => match H.t.get i with
    | some (.num _ _ _ _ (.tx (some l) _)) => k (.str l) H
    | _ => false
  | v => k v
def eConcs : List SV → (List SV → ER) → ER
  | [], k => k []
  | v :: r, k => eConc v fun v => eConcs r fun vs => k (v :: vs)
/-- Is a symbol less than a number? -/
def eLtS (i : Nat) (d : Int) (k : Bool → ER) : ER := fun H => H.num i fun lo hi m q t => match decide (hi < d) with
  | true => k true H
  | false => match decide (d ≤ lo) with
    | true => k false H
    | false => k true (H.put i (.num lo (d - 1) m q t)) && k false (H.put i (.num d hi m q t))
def eEqS (i : Nat) (d : Int) (k : Bool → ER) : ER := fun H => H.num i fun lo hi m q t => match decide (d < lo ∨ hi < d ∨ d % (m : Int) ≠ q) with
  | true => k false H
  | false => k true (H.put i (.num d d m q t)) && match decide (lo = d), decide (hi = d) with
    | true, true => true
    | true, false => k false (H.put i (.num (d + 1) hi m q t))
    | false, true => k false (H.put i (.num lo (d - 1) m q t))
    | false, false => k false (H.put i (.num lo (d - 1) m q t)) && k false (H.put i (.num (d + 1) hi m q t))
def eAddS (kk : IntKind) (i : Nat) (c : Int) (fb : ER) (k : SV → ER) : ER := fun H => H.num i fun lo hi _ _ _ => match decide (kk.min ≤ lo + c ∧ hi + c ≤ kk.max) with
  | true => k (.sint kk i c) H
  | false => fb H
def eResid (kk : IntKind) (i : Nat) (lo hi c : Int) (n : Nat) (t : Tx) (k : SV → ER) : Nat → ER
  | 0 => fun _ => true
  | a + 1 => fun H => (match iLe (iAdd lo (((a : Int) - lo) % (n : Int))) hi with
    | true => k (.int kk (((a : Int) + c) % (n : Int))) (H.put i (.num lo hi n a t))
    | false => true) && eResid kk i lo hi c n t k a H
def eRemS (kk : IntKind) (i : Nat) (c n : Int) (fb : ER) (k : SV → ER) : ER := fun H => H.num i fun lo hi m q t => match decide (0 ≤ lo + c ∧ 0 < n ∧ n ≤ 600) with
  | true => match Nat.beq m 1 with
    | true => eResid kk i lo hi c n.toNat t k n.toNat H
    | false => match decide (0 < m ∧ m % n.toNat = 0) with
      | true => k (.int kk (((q : Int) + c) % n)) H
      | false => fb H
  | false => fb H
def eStrS (i : Nat) (l : List UInt8) (k : Bool → ER) : ER := fun H => match H.t.get i with
  | some (.num _ _ _ _ (.tx (some l') _)) => k (l' == l) H
  | some (.num lo hi m q (.tx none nots)) => (match nots.contains l with
    | true => k false H
    | false => k true (H.put i (.num lo hi m q (.tx (some l) nots))) && k false (H.put i (.num lo hi m q (.tx none (l :: nots)))))
  | _ => false
def eLd (s : Shape) (a : EA) (k : s.E → ER) : ER := fun H => H.row a.b fun cs _ => match getR cs a.o with
  | some v => match s.projE v with
    | some x => k x H
    | none => false
  | none => false
def cutE (cs : List SV) (off n : Nat) : Option (List SV) := match Nat.ble (off + n) cs.length with
  | true => some ((cs.drop off).take n)
  | false => none
def eLdA (n : Nat) (a : EA) (k : List SV → ER) : ER := fun H => H.row a.b fun cs _ => match cutR cs a.o n with
  | some x => k x H
  | none => false
def eSt (a : EA) (v : SV) (p : ER) : ER := fun H => H.row a.b fun cs rm => match setR cs a.o v with
  | some cs' => (match v.one with
    | true => p (H.put a.b (.row cs' rm))
    | false => false)
  | none => false
def spliceE (cs : List SV) (off : Nat) (vs : List SV) : List SV := cs.take off ++ vs ++ cs.drop (off + vs.length)
def eStA (n : Nat) (a : EA) (vs : List SV) (p : ER) : ER := fun H => H.row a.b fun cs rm => match okN vs n with
  | true => (match splR cs a.o n vs with
    | some cs' => p (H.put a.b (.row cs' rm))
    | none => false)
  | false => false
def eSome (x : Option EA) (k : EA → ER) : ER := match x with
  | some a => k a
  | none => eF
def eIdx (i : Int) (n : Nat) (p : ER) : ER := eAssert (iLe 0 i && iLt i n) p
def ePart (s : Shape) (cs : List SV) (off : Nat) (k : s.E → ER) : ER := match getL cs off with
  | some v => match s.projE v with
    | some x => k x
    | none => eF
  | none => eF
def EA.add (a : EA) (n : Nat) : EA := ⟨a.b, Nat.add a.o n⟩

/-- The cells of a slice. -/
def ES.vals (z : Nat) (s : ES) (H : CH) (k : Rope → Bool) : Bool := match s.base with
  | some a => H.row a.b fun cs _ => match subR cs a.o (s.len * z) with
    | some x => k x
    | none => false
  | none => match s.len with
    | 0 => k []
    | _ + 1 => false
def roomy (need bytes : Nat) : Bool := Nat.ble (need * bytes) 140737488355328
/-- append: where the capacity is known, in place or at a new place; where it isn't, what was there is forgotten. -/
def eAppend (z bytes : Nat) (s : ES) (new : List SV) (m : Nat) (k : ES → ER) : ER := fun H =>
  s.vals z H fun old => match roomy (s.len + m) bytes && okN new (m * z) with
  | false => false
  | true => match s.base, s.cap with
    | none, .lit 0 => (match m with
      | 0 => k ⟨none, 0, .lit 0⟩ H
      | _ + 1 => match Nat.blt H.n 1000000 with
        | true => k ⟨some ⟨H.n, 0⟩, s.len + m, .sym 0⟩ (H.push (.row (old ++ [(m * z, new)]) (.sym z)))
        | false => false)
    | some a, .lit c => (match Nat.ble (s.len + m) c with
      | true => H.row a.b fun cs rm => match rm with
        | .lit tot => (match Nat.ble (a.o + c * z) tot with
          | true => (match overR cs (a.o + s.len * z) (m * z) new with
            | some cs' => k ⟨some a, s.len + m, .lit c⟩ (H.put a.b (.row cs' rm))
            | none => false)
          | false => false)
        | .sym _ => false
      | false => match Nat.blt H.n 1000000 with
        | true => k ⟨some ⟨H.n, 0⟩, s.len + m, .sym 0⟩ (H.push (.row (old ++ [(m * z, new)]) (.sym z)))
        | false => false)
    | some a, .sym q => H.row a.b fun _ rm => (match rm with
      | .sym y => (match (Nat.beq y z && (Nat.beq a.o (q * z) && Nat.beq a.o 0)) && Nat.blt H.n 1000000 with
        | true => k ⟨some ⟨H.n, 0⟩, s.len + m, .sym 0⟩ ((H.put a.b .dead).push (.row (old ++ [(m * z, new)]) (.sym z)))
        | false => false)
      | .lit _ => false)
    | _, _ => false

/- Maps. -/
def eqvE : SV → SV → Option Bool
  | .int k a, .int k' b => if k = k' then some (iEq a b) else none
  | .bool a, .bool b => some (a == b)
  | .str a, .str b => some (a == b)
  | _, _ => none
def findE (key : SV) : List (SV × SV) → Option (Option SV)
  | [] => some none
  | (k, v) :: r => match eqvE key k with
    | some true => some (some v)
    | some false => findE key r
    | none => none
def putME (key v : SV) : List (SV × SV) → Option (List (SV × SV))
  | [] => some [(key, v)]
  | (k, u) :: r => match eqvE key k with
    | some true => some ((key, v) :: r)
    | some false => match putME key v r with
      | some x => some ((k, u) :: x)
      | none => none
    | none => none

/- Operations. -/
def eGv (x : EVE) (k : SV → ER) : ER := match x.get with
  | some v => k v
  | none => eF
def eGvs : List EVE → (List SV → ER) → ER
  | [], k => k []
  | x :: r, k => eGv x fun v => eGvs r fun vs => k (v :: vs)
def ePick2 (c : Bool) : SV → SV → (SV → ER) → ER
  | .bool a, .bool b, k => k (.bool (if c = true then a else b))
  | .int i a, .int j b, k => if i = j then k (.int i (if c = true then a else b)) else eF
  | .str a, .str b, k => k (.str (if c = true then a else b))
  | .sint i a x, .int j b, k => if i = j then k (if c = true then .sint i a x else .int j b) else eF
  | .int i a, .sint j b y, k => if i = j then k (if c = true then .int i a else .sint j b y) else eF
  | .sint i a x, .sint j b y, k => if i = j then k (if c = true then .sint i a x else .sint j b y) else eF
  | _, _, _ => eF
def ePick (c a b : EVE) (k : SV → ER) : ER := match c with
  | .tt => eGv a k
  | .ff => eGv b k
  | .v (.bool c) => eGv a fun x => eGv b fun y => ePick2 c x y k
  | _ => eF
def eNil (d : TypeDesc) (v u : SV) (k : Bool → ER) : ER := match d, v, u with
  | .pointer _, .ptr a, .ptr none => k a.isNone
  | .slice _, .sl s, .sl ⟨none, _, _⟩ => k s.base.isNone
  | .map _ _, .map a, .map none => k a.isNone
  | .interface _, .nifc, .nifc => k true
  | .interface _, .ifc _ _, .nifc => k false
  | _, _, _ => eF
def eInt (op : BinOp) (i : IntKind) (a b : Int) (k : SV → ER) : ER := match op with
  | .add => k (.int i (fwrap i (iAdd a b)))
  | .sub => k (.int i (fwrap i (iSub a b)))
  | .mul => k (.int i (fwrap i (a * b)))
  | .quo => eAssert (b != 0) (k (.int i (fwrap i (a.tdiv b))))
  | .rem => eAssert (b != 0) (k (.int i (a.tmod b)))
  | .and => k (.int i (fbits .and i a b))
  | .or => k (.int i (fbits .or i a b))
  | .xor => k (.int i (fbits .xor i a b))
  | .andNot => k (.int i (bitsV .andNot i a b))
  | .eql => k (.bool (iEq a b))
  | .neq => k (.bool (!iEq a b))
  | .lss => k (.bool (iLt a b))
  | .leq => k (.bool (iLe a b))
  | .gtr => k (.bool (iLt b a))
  | .geq => k (.bool (iLe b a))
  | _ => eF
def okCellE : CT → SV → Bool
  | .int k, .int k' _ => k == k'
  | .bool, .bool _ => true
  | .str, .str _ => true
  | _, _ => false
def okCellsE : List CT → List SV → Bool
  | [], [] => true
  | c :: r, v :: s => okCellE c v && okCellsE r s
  | _, _ => false
def eqvC : SV → SV → Bool
  | .int _ a, .int _ b => iEq a b
  | .bool a, .bool b => a == b
  | .str a, .str b => a == b
  | _, _ => false
def eqCellsE : List SV → List SV → Bool
  | [], [] => true
  | a :: r, b :: s => eqvC a b && eqCellsE r s
  | _, _ => false
def okCellS : CT → SV → Bool
  | .int k, .sint k' _ _ => k == k'
  | .str, .ostr _ => true
  | c, v => okCellE c v
def symEq : CT → SV → SV → Bool
  | .int c, .sint k i u, .sint k' j w => (c == k && c == k') && (Nat.beq i j && iEq u w)
  | .str, .ostr i, .ostr j => Nat.beq i j
  | _, _, _ => false
def eOkL : List CT → List SV → List SV → ER → ER
  | [], [], [], p => p
  | c :: l, a :: x, b :: y, p => match okCellS c a && okCellS c b with
    | true => eOkL l x y p
    | false => eF
  | _, _, _, _ => eF
/-- Are two structs alike, cell by cell? -/
def eEqL : List CT → List SV → List SV → (Bool → ER) → ER
  | [], [], [], k => k true
  | c :: l, a :: x, b :: y, k => match symEq c a b with
    | true => eEqL l x y k
    | false => eConc a fun a => eConc b fun b => match okCellE c a && okCellE c b with
      | true => (match eqvC a b with
        | true => eEqL l x y k
        | false => eOkL l x y (k false))
      | false => eF
  | _, _, _, _ => eF
def eBinC (P : Program) (op : BinOp) (t : TypeId) (nl : Bool) (vx vy : SV) (k : SV → ER) : ER :=
  match nl with
  | true =>
    (match P.underlying t with
     | some d => match op with
       | .eql => eNil d vx vy fun b => k (.bool b)
       | .neq => eNil d vx vy fun b => k (.bool (!b))
       | _ => eF
     | none => eF)
  | false =>
  match vx, vy with
  | .int i a, .int j b =>
    match op with
    | .shl => eAssert (iLe 0 b) (k (.int i (fwrap i (a * 2 ^ (min b.toNat i.bits)))))
    | .shr => eAssert (iLe 0 b) (k (.int i (a.fdiv (2 ^ (min b.toNat i.bits)))))
    | _ => if i = j then eInt op i a b k else eF
  | .bool a, .bool b =>
    (match P.underlying t with
     | some .bool => match op with
       | .eql => k (.bool (a == b))
       | .neq => k (.bool (!(a == b)))
       | _ => eF
     | _ => eF)
  | .str a, .str b =>
    match op with
    | .add => eAssert (decide (a.length + b.length < 9223372036854775808)) (k (.str (a ++ b)))
    | .eql => k (.bool (a == b))
    | .neq => k (.bool (!(a == b)))
    | .lss => k (.bool (Op.bytesLess a b))
    | .leq => k (.bool (Op.bytesLess a b || a == b))
    | .gtr => k (.bool !(Op.bytesLess a b || a == b))
    | .geq => k (.bool !(Op.bytesLess a b))
    | _ => eF
  | .agg a, .agg b =>
    match flatTy P 50 t, P.eqGuardType P.depth t, (P.underlying t).any (fun d => shapeD d = .agg) with
    | some l, false, true => match op with
      | .eql => eEqL l a b fun t => k (.bool t)
      | .neq => eEqL l a b fun t => k (.bool (!t))
      | _ => eF
    | _, _, _ => eF
  | _, _ => eF
def eSI (P : Program) (op : BinOp) (t : TypeId) (nl : Bool) (ki : IntKind) (i : Nat) (c : Int) (kj : IntKind) (n : Int) (k : SV → ER) : ER :=
  match nl || !decide (ki = kj) with
  | true => eConcI i fun v => eBinC P op t nl (.int ki (v + c)) (.int kj n) k
  | false => match op with
    | .add => eAddS ki i (c + n) (eConcI i fun v => eBinC P op t nl (.int ki (v + c)) (.int kj n) k) k
    | .sub => eAddS ki i (c - n) (eConcI i fun v => eBinC P op t nl (.int ki (v + c)) (.int kj n) k) k
    | .rem => eRemS ki i c n (eConcI i fun v => eBinC P op t nl (.int ki (v + c)) (.int kj n) k) k
    | .eql => eEqS i (n - c) fun b => k (.bool b)
    | .neq => eEqS i (n - c) fun b => k (.bool (!b))
    | .lss => eLtS i (n - c) fun b => k (.bool b)
    | .leq => eLtS i (n - c + 1) fun b => k (.bool b)
    | .gtr => eLtS i (n - c + 1) fun b => k (.bool (!b))
    | .geq => eLtS i (n - c) fun b => k (.bool (!b))
    | _ => eConcI i fun v => eBinC P op t nl (.int ki (v + c)) (.int kj n) k
def eIS (P : Program) (op : BinOp) (t : TypeId) (nl : Bool) (kj : IntKind) (n : Int) (ki : IntKind) (i : Nat) (c : Int) (k : SV → ER) : ER :=
  match nl || !decide (kj = ki) with
  | true => eConcI i fun v => eBinC P op t nl (.int kj n) (.int ki (v + c)) k
  | false => match op with
    | .add => eAddS ki i (c + n) (eConcI i fun v => eBinC P op t nl (.int kj n) (.int ki (v + c)) k) k
    | .eql => eEqS i (n - c) fun b => k (.bool b)
    | .neq => eEqS i (n - c) fun b => k (.bool (!b))
    | .lss => eLtS i (n - c + 1) fun b => k (.bool (!b))
    | .leq => eLtS i (n - c) fun b => k (.bool (!b))
    | .gtr => eLtS i (n - c) fun b => k (.bool b)
    | .geq => eLtS i (n - c + 1) fun b => k (.bool b)
    | _ => eConcI i fun v => eBinC P op t nl (.int kj n) (.int ki (v + c)) k
def eSS (P : Program) (op : BinOp) (t : TypeId) (nl : Bool) (ki : IntKind) (i : Nat) (c : Int) (kj : IntKind) (j : Nat) (d : Int) (k : SV → ER) : ER :=
  match nl || !(decide (ki = kj) && Nat.beq i j) with
  | true => eConcI i fun v => eConcI j fun u => eBinC P op t nl (.int ki (v + c)) (.int kj (u + d)) k
  | false => match op with
    | .eql => k (.bool (c == d))
    | .neq => k (.bool (c != d))
    | .lss => k (.bool (c < d))
    | .leq => k (.bool (c ≤ d))
    | .gtr => k (.bool (c > d))
    | .geq => k (.bool (c ≥ d))
    | _ => eConcI i fun v => eConcI j fun u => eBinC P op t nl (.int ki (v + c)) (.int kj (u + d)) k
def eAddO (i : Nat) (l : List UInt8) (fb : ER) (k : SV → ER) : ER := match l with
  | [] => fun H => H.num i fun _ hi _ _ t => (match t with
    | .tx _ _ => (match iLt hi 9223372036854775808 with
      | true => k (.ostr i) H
      | false => false)
    | .no => false)
  | _ => fb
def eOS (P : Program) (op : BinOp) (t : TypeId) (nl : Bool) (vx vy : SV) (i : Nat) (l : List UInt8) (k : SV → ER) : ER :=
  match nl with
  | true => eF
  | false => match op with
    | .eql => eStrS i l fun b => k (.bool b)
    | .neq => eStrS i l fun b => k (.bool (!b))
    | .add => eAddO i l (eConc vx fun vx => eConc vy fun vy => eBinC P op t nl vx vy k) k
    | _ => eConc vx fun vx => eConc vy fun vy => eBinC P op t nl vx vy k
def eBin (P : Program) (op : BinOp) (t : TypeId) (nl : Bool) (vx vy : SV) (k : SV → ER) : ER := match vx, vy with
  | .sint ki i c, .int kj n => eSI P op t nl ki i c kj n k
  | .int kj n, .sint ki i c => eIS P op t nl kj n ki i c k
  | .sint ki i c, .sint kj j d => eSS P op t nl ki i c kj j d k
  | .ostr i, .str l => eOS P op t nl vx vy i l k
  | .str l, .ostr i => eOS P op t nl vx vy i l k
  | .ostr i, .ostr j => (match nl || !Nat.beq i j with
    | true => eConc vx fun vx => eConc vy fun vy => eBinC P op t nl vx vy k
    | false => match op with
      | .eql => k (.bool true)
      | .neq => k (.bool false)
      | _ => eConc vx fun vx => eConc vy fun vy => eBinC P op t nl vx vy k)
  | vx, vy => eBinC P op t nl vx vy k
def eUn (op : UnOp) (v : SV) (k : SV → ER) : ER := match op, v with
  | .not, .bool b => k (.bool (!b))
  | .neg, .int i n => k (.int i (i.wrap (0 - n)))
  | .xor, .int i n => k (.int i (bitsV .xor i (if i.signed then -1 else i.max) n))
  | _, _ => eF
def eLoad (P : Program) (t : TypeId) (va : SV) (k : SV → ER) : ER := match va with
  | .ptr (some a) => match P.underlying t with
    | some d => match shapeD d with
      | .agg => eLdA (sizeP P t) a fun cs => k (.agg cs)
      | s => eLd s a fun x => k (s.injE x)
    | none => eF
  | _ => eF
def eStore (P : Program) (t : TypeId) (va v : SV) (p : ER) : ER := match va with
  | .ptr (some a) => match shapeOf P t with
    | .any => (match sizeP P t with
        | 1 => eSt a v p
        | _ => eF)
    | _ => match v with
      | .agg cs => match sizeP P t with
        | 0 => eF
        | n + 1 => eStA (n + 1) a cs p
      | v => match sizeP P t with
        | 1 => eSt a v p
        | _ => eF
  | _ => eF
def spliceF (cs : List SV) (off : Nat) (vs : List SV) : List SV := appL (takeL cs off) (appL vs (dropL cs (off + lenL vs)))
def layE : List SV → List (Nat × SV) → List SV
  | cs, [] => cs
  | cs, (off, v) :: r => layE (match v with | .agg xs => spliceF cs off xs | v => setL cs off v) r
def eFits : List (Nat × SV) → ER → ER
  | [], p => p
  | (size, .agg xs) :: r, p => eAssert (Nat.beq xs.length size) (eFits r p)
  | (1, _) :: r, p => eFits r p
  | _, _ => eF
def placesE (P : Program) (fs : Array Field) : List (Nat × SV) → Option (List (Nat × Nat × SV))
  | [] => some []
  | (i, v) :: r => match fs[i]? with
    | some f => match placesE P fs r with
      | some x => some ((f.offset, sizeP P f.type, v) :: x)
      | none => none
    | none => none
def ePartsOf (e : Operand → EVE) : List (Nat × Operand) → (List (Nat × SV) → ER) → ER
  | [], k => k []
  | (i, x) :: r, k => eGv (e x) fun v => ePartsOf e r fun vs => k ((i, v) :: vs)
def inRangeE (n : Nat) (ps : List (Nat × Nat × SV)) : Bool := ps.all fun p => decide (p.1 + p.2.1 ≤ n)
def eBuild (P : Program) (t : TypeId) (parts : List (Nat × SV)) (k : SV → ER) : ER :=
  match ofVs (zc P t) with
  | none => eF
  | some z => match zeroOk P t, P.underlying t with
  | true, some (.struct fs) => match fs.toList.all (fun f => (P.info? f.type).isSome) with
   | false => eF
   | true => match placesE P fs parts with
    | some ps => match inRangeE (sizeP P t) ps with
      | true => eFits (ps.map fun p => (p.2.1, p.2.2)) (k (.agg (layE z (ps.map fun p => (p.1, p.2.2)))))
      | false => eF
    | none => eF
  | true, some (.array _ e) => match (P.info? e).isSome with
   | false => eF
   | true =>
    let ps := parts.map fun p => (p.1 * sizeP P e, sizeP P e, p.2)
    match inRangeE (sizeP P t) ps with
    | true => eFits (ps.map fun p => (p.2.1, p.2.2)) (k (.agg (layE z (ps.map fun p => (p.1, p.2.2)))))
    | false => eF
  | _, _ => eF
def lensS (z n : Nat) : List Nat := match Nat.ble (z * n) 64 with
  | true => []
  | false => match Nat.ble z 3 with
    | true => List.replicate (Nat.div (z * n) 16) 16
    | false => List.replicate n z
def eBuildSlice (P : Program) (t : TypeId) (n : Nat) (parts : List (Nat × SV)) (k : SV → ER) : ER :=
  match P.underlying t with
  | some (.slice e) => match ofVs (zc P e) with
   | none => eF
   | some z =>
    match zeroOk P e && decide (n * sizeP P e ≤ 16777216) && decide (sizeP P e ≠ 0) with
    | true =>
      let ps := parts.map fun p => (p.1 * sizeP P e, sizeP P e, p.2)
      match inRangeE (n * sizeP P e) ps with
      | true => eFits (ps.map fun p => (p.2.1, p.2.2)) (eNew (lensS (sizeP P e) n) (layE ((List.replicate n z).flatten) (ps.map fun p => (p.1, p.2.2))) fun b => k (.sl ⟨some ⟨b, 0⟩, n, .lit n⟩))
      | false => eF
    | false => eF
  | _ => eF
def eFieldAddr (P : Program) (t : TypeId) (v : SV) (f : Nat) (k : SV → ER) : ER := match v with
  | .ptr (some a) => match P.underlying t with
    | some (.struct fs) => match fs[f]? with
      | some f => match sizeP P f.type with
        | 0 => eF
        | _ + 1 => k (.ptr (some (a.add f.offset)))
      | none => eF
    | _ => eF
  | _ => eF
def ePartV (P : Program) (t : TypeId) (cs : List SV) (off : Nat) (k : SV → ER) : ER := match P.underlying t with
  | some d => match shapeD d with
    | .agg => k (.agg (takeL (dropL cs off) (sizeP P t)))
    | s => ePart s cs off fun x => k (s.injE x)
  | none => eF
def eField (P : Program) (t : TypeId) (v : SV) (f : Nat) (k : SV → ER) : ER := match v with
  | .agg cs => match P.underlying t with
    | some (.struct fs) => match fs[f]? with
      | some f => ePartV P f.type cs f.offset k
      | none => eF
    | _ => eF
  | _ => eF
def eIndexAddr (P : Program) (t : TypeId) (x i : SV) (k : SV → ER) : ER := match P.underlying t, x, i with
  | some (.array n e), .ptr (some a), .int _ i => match sizeP P e with
    | 0 => eF
    | z + 1 => eIdx i n (k (.ptr (some (a.add (i.toNat * (z + 1))))))
  | some (.slice e), .sl s, .int _ i => match sizeP P e with
    | 0 => eF
    | z + 1 => eIdx i s.len (eSome s.base fun a => k (.ptr (some (a.add (i.toNat * (z + 1))))))
  | _, _, _ => eF
def eIndex (P : Program) (t : TypeId) (x i : SV) (k : SV → ER) : ER := match P.underlying t, x, i with
  | some .string, .str s, .int _ i => eIdx i s.length (k (.int .u8 ((s[i.toNat]?).getD 0).toNat))
  | some (.array n e), .agg cs, .int _ i => eIdx i n (ePartV P e cs (i.toNat * sizeP P e) k)
  | _, _, _ => eF
def eExtract (v : SV) (i : Nat) (k : SV → ER) : ER := match v with
  | .tup vs => match vs[i]? with
    | some v => k v
    | none => eF
  | _ => eF
def eOInt (x : Option EVE) (d : Int) (k : Int → ER) : ER := match x with
  | none => k d
  | some e => eGv e fun v => eConc v fun v => match v with
    | .int _ n => k n
    | _ => eF
def eSlice (P : Program) (t : TypeId) (x : SV) (lo hi mx : Option EVE) (k : SV → ER) : ER := match mx with
  | none => (match P.underlying t, x with
    | some .string, .str s => eOInt lo 0 fun l => eOInt hi s.length fun h => eAssert (iLe 0 l && (iLe l h && iLe h s.length)) (k (.str ((s.drop l.toNat).take (h.toNat - l.toNat))))
    | some (.slice e), .sl s => match sizeP P e with
      | 0 => eF
      | z + 1 => match s.cap with
        | .lit c => eOInt lo 0 fun l => eOInt hi s.len fun h => eAssert (iLe 0 l && (iLe l h && iLe h c))
          (k (.sl ⟨if c = l.toNat then s.base else s.base.map (·.add (l.toNat * (z + 1))), h.toNat - l.toNat, .lit (c - l.toNat)⟩))
        | .sym q => eOInt lo 0 fun l => eOInt hi s.len fun h => eAssert (iLe 0 l && (iLe l h && (iLe h s.len && (iLt l s.len || iEq l 0))))
          (k (.sl ⟨s.base.map (·.add (l.toNat * (z + 1))), h.toNat - l.toNat, .sym (q + l.toNat)⟩))
    | some (.array n e), .ptr (some a) => match sizeP P e with
      | 0 => eF
      | z + 1 => eOInt lo 0 fun l => eOInt hi n fun h => eAssert (iLe 0 l && (iLe l h && iLe h n))
        (k (.sl ⟨some (if n = l.toNat then a else a.add (l.toNat * (z + 1))), h.toNat - l.toNat, .lit (n - l.toNat)⟩))
    | _, _ => eF)
  | some _ => eF
def eConvert (P : Program) (s d : TypeId) (v : SV) (k : SV → ER) : ER := match P.underlying s, P.underlying d, v with
  | some (.int _), some (.int j), .int _ n => k (.int j (fwrap j n))
  | some .string, some .string, .str s => k (.str s)
  | _, _, _ => eF
def eConvS (P : Program) (s d : TypeId) (v : SV) (k : SV → ER) : ER := match v with
  | .sint kk i c => (match P.underlying s, P.underlying d with
    | some (.int _), some (.int j) => eAddS j i c (eConcI i fun n => eConvert P s d (.int kk (n + c)) k) k
    | _, _ => eF)
  | .ostr i => (match P.underlying s, P.underlying d with
    | some .string, some .string => k (.ostr i)
    | _, _ => eConc v fun v => eConvert P s d v k)
  | v => eConvert P s d v k
def eLen (P : Program) (t : TypeId) (v : SV) (k : SV → ER) : ER := match P.underlying t, v with
  | some .string, .str s => k (.int .i64 s.length)
  | some (.array n _), _ => k (.int .i64 n)
  | some (.slice _), .sl s => k (.int .i64 s.len)
  | _, _ => eF
def eMinMax (mx : Bool) (args : List SV) (k : SV → ER) : ER := match args with
  | [.int i a, .int _ b] => k (.int i (if mx then (if b > a then b else a) else (if b < a then b else a)))
  | _ => eF
def eApp (P : Program) (ts : List TypeId) (args : List SV) (k : SV → ER) : ER := match ts, args with
  | [t, u], [.sl s, .sl x] => match P.underlying t, P.underlying u with
    | some (.slice e), some (.slice _) => match zeroOk P e && decide (sizeP P e ≠ 0) && decide (bytesP P e ≠ 0) with
      | true => fun H => x.vals (sizeP P e) H fun new => eAppend (sizeP P e) (bytesP P e) s (flatR new) x.len (fun s => k (.sl s)) H
      | false => eF
    | _, _ => eF
  | _, _ => eF
def eMakeSlice (P : Program) (t : TypeId) (l c : SV) (k : SV → ER) : ER := match P.underlying t with
  | some (.slice e) => match ofVs (zc P e) with
   | none => eF
   | some z => match zeroOk P e && decide (sizeP P e ≠ 0) && decide (bytesP P e ≠ 0) with
    | true => (match l, c with
      | .int .i64 l, .int .i64 c => eAssert (decide (0 ≤ l ∧ l ≤ c) && roomy c.toNat (bytesP P e)) (eNew (lensS (sizeP P e) c.toNat) ((List.replicate c.toNat z).flatten) fun b => k (.sl ⟨some ⟨b, 0⟩, l.toNat, .lit c.toNat⟩))
      | _, _ => eF)
    | false => eF
  | _ => eF
def eCopy (P : Program) (ts : List TypeId) (args : List SV) (k : SV → ER) : ER := match ts, args with
  | t :: _, [.sl d, .sl s] => match P.underlying t with
    | some (.slice e) => match sizeP P e with
      | 0 => eF
      | z + 1 => fun H => match Nat.min s.len d.len with
        | 0 => k (.int .i64 0) H
        | m + 1 => (ES.mk s.base (m + 1) s.cap).vals (z + 1) H fun xs => match d.base with
          | some a => H.row a.b fun cs rm => (match okN (flatR xs) ((m + 1) * (z + 1)) with
            | true => (match splR cs a.o ((m + 1) * (z + 1)) (flatR xs) with
              | some cs' => k (.int .i64 ((m + 1 : Nat) : Int)) (H.put a.b (.row cs' rm))
              | none => false)
            | false => false)
          | none => false
    | _ => eF
  | _, _ => eF
def eClear (P : Program) (ts : List TypeId) (args : List SV) (k : SV → ER) : ER := match ts, args with
  | t :: _, [.sl d] => match P.underlying t with
    | some (.slice e) => match zeroOk P e, ofVs (zc P e) with
      | true, some zs => match sizeP P e with
        | 0 => eF
        | z + 1 => fun H => match d.len with
          | 0 => k (.tup []) H
          | m + 1 => (match d.base with
            | some a => H.row a.b fun cs rm => (match okN zs (z + 1) with
              | true => (match splR cs a.o ((m + 1) * (z + 1)) (List.replicate (m + 1) zs).flatten with
                | some cs' => k (.tup []) (H.put a.b (.row cs' rm))
                | none => false)
              | false => false)
            | none => false)
      | _, _ => eF
    | _ => eF
  | _, _ => eF
/-- What a call does. -/
abbrev Cal := FuncId → List SV → (SV → ER) → ER
def eCall (C : Cal) (f : FuncId) (args : List SV) (r : RShape) (k : r.E → ER) : ER := C f args fun v => match r.projE v with
  | some x => k x
  | none => eF
def eCallV (C : Cal) (v : SV) (args : List SV) (r : RShape) (k : r.E → ER) : ER := match v with
  | .fn g a b => eCall C g (a ++ args ++ b) r k
  | _ => eF
def eMakeIface (P : Program) (t : TypeId) (v : SV) (k : SV → ER) : ER := match P.underlying t with
  | some d => match isIfaceD d with
    | false => k (.ifc t v)
    | true => eF
  | none => eF
def eInvoke (P : Program) (C : Cal) (name : String) (recv : SV) (args : List SV) (r : RShape) (k : r.E → ER) : ER := match recv with
  | .ifc t v => match methP P t name with
    | some (f, true) => (match P.underlying t with
      | some (.pointer _) => eCall C f (v :: args) r k
      | _ => eF)
    | some (f, false) => (match P.underlying t with
      | some (.pointer el) => eLoad P el v fun x => eCall C f (x :: args) r k
      | some _ => eCall C f (v :: args) r k
      | none => eF)
    | none => eF
  | _ => eF
def eTA (P : Program) (v : SV) (t : TypeId) (ok : Bool) (k : SV → ER) : ER := match P.underlying t with
  | some d => match isIfaceD d with
    | true => eF
    | false => match ok with
      | false => (match v with
        | .ifc u x => (match Nat.beq u t with
          | true => (match (shapeOf P t).projE x with
            | some y => k ((shapeOf P t).injE y)
            | none => eF)
          | false => eF)
        | _ => eF)
      | true => match (zeroV P t).bind ofZ with
        | some z => (match (shapeOf P t).projE z with
          | some zz => (match v with
            | .ifc u x => (match Nat.beq u t with
              | true => (match (shapeOf P t).projE x with
                | some y => k (.tup [(shapeOf P t).injE y, .bool true])
                | none => eF)
              | false => k (.tup [(shapeOf P t).injE zz, .bool false]))
            | .nifc => k (.tup [(shapeOf P t).injE zz, .bool false])
            | _ => eF)
          | none => eF)
        | none => eF
  | none => eF
def eLen1 (P : Program) (t : TypeId) (v : SV) (k : SV → ER) : ER := match v with
  | .ostr i => (match P.underlying t with
    | some .string => fun H => H.num i fun _ _ _ _ t => (match t with
      | .tx _ _ => k (.sint .i64 i 0) H
      | .no => false)
    | _ => eF)
  | v => eConc v fun v => eLen P t v k
def eLenS (P : Program) (ts : List TypeId) (args : List SV) (k : SV → ER) : ER := match ts, args with
  | t :: _, v :: _ => eLen1 P t v k
  | _, _ => eF
def eMinS (ki : IntKind) (i : Nat) (c b : Int) (k : SV → ER) : ER := fun H => H.num i fun lo hi _ _ _ => match iLe b (iAdd lo c) with
  | true => k (.int ki b) H
  | false => match iLe (iAdd hi c) b with
    | true => k (.sint ki i c) H
    | false => eLtS i (b - c) (fun t => match t with
      | true => k (.sint ki i c)
      | false => k (.int ki b)) H
def eMaxS (ki : IntKind) (i : Nat) (c b : Int) (k : SV → ER) : ER := fun H => H.num i fun lo hi _ _ _ => match iLe b (iAdd lo c) with
  | true => k (.sint ki i c) H
  | false => match iLe (iAdd hi c) b with
    | true => k (.int ki b) H
    | false => eLtS i (b - c) (fun t => match t with
      | true => k (.int ki b)
      | false => k (.sint ki i c)) H
def eMinMaxS (mx : Bool) (args : List SV) (k : SV → ER) : ER := match args with
  | [.sint ki i c, .int _ b] => (match mx with
    | false => eMinS ki i c b k
    | true => eMaxS ki i c b k)
  | [.int ki a, .sint _ i c] => (match mx with
    | false => eMinS ki i c a k
    | true => eMaxS ki i c a k)
  | args => eConcs args fun args => eMinMax mx args k
def eCallR (P : Program) (C : Cal) (f : FuncId) (args : List SV) (t : TypeId) (k : SV → ER) : ER := eCall C f args (rshapeOf P t) fun x => k ((rshapeOf P t).injE x)
def eCallVR (P : Program) (C : Cal) (v : SV) (args : List SV) (t : TypeId) (k : SV → ER) : ER := eCallV C v args (rshapeOf P t) fun x => k ((rshapeOf P t).injE x)
def eInvokeR (P : Program) (C : Cal) (m : String) (v : SV) (args : List SV) (t : TypeId) (k : SV → ER) : ER := eInvoke P C m v args (rshapeOf P t) fun x => k ((rshapeOf P t).injE x)
def eCallO (P : Program) (C : Cal) (c : Call) (t : TypeId) (e : Operand → EVE) (k : SV → ER) : ER :=
  eGvs (c.args.toList.map e) fun args =>
  match c.callee with
  | .builtin .len => eLenS P c.argTypes.toList args k
  | .builtin .min => eMinMaxS false args k
  | .builtin .max => eMinMaxS true args k
  | .builtin .append => eApp P c.argTypes.toList args k
  | .builtin .copy => eCopy P c.argTypes.toList args k
  | .builtin .clear => eClear P c.argTypes.toList args k
  | .invoke r m => eGv (e r) fun v => eInvokeR P C m v args t k
  | .value (.func f) => eCallR P C f args t k
  | .value f => eGv (e f) fun v => eCallVR P C v args t k
  | _ => eF
def eLookup (P : Program) (t : TypeId) (m key : SV) (ok : Bool) (k : SV → ER) : ER := match P.underlying t with
  | some (.map kt et) => match P.underlying kt with
    | some kd => match simpleKey kd, (zeroV P et).bind ofZ with
      | true, some z => (match m with
        | .map none => (match (shapeOf P et).projE z with
          | some x => (match ok with
            | true => k (.tup [(shapeOf P et).injE x, .bool false])
            | false => k ((shapeOf P et).injE x))
          | none => eF)
        | .map (some b) => fun H => (match H.t.get b with
          | some (.map es) => (match findE key es with
            | some res => (match (shapeOf P et).projE (res.getD z) with
              | some x => (match ok with
                | true => k (.tup [(shapeOf P et).injE x, .bool res.isSome]) H
                | false => k ((shapeOf P et).injE x) H)
              | none => false)
            | none => false)
          | _ => false)
        | _ => eF)
      | _, _ => eF
    | none => eF
  | _ => eF
def ePut (P : Program) (t : TypeId) (m key v : SV) (p : ER) : ER := match P.underlying t with
  | some (.map kt _) => match P.underlying kt with
    | some kd => match simpleKey kd with
      | true => (match m with
        | .map (some b) => fun H => (match H.t.get b with
          | some (.map es) => (match putME key v es with
            | some es' => p (H.put b (.map es'))
            | none => false)
          | _ => false)
        | _ => eF)
      | false => eF
    | none => eF
  | _ => eF
/-- Is the key of its type's kind? -/
def keyOk : TypeDesc → SV → Bool
  | .int _, .int _ _ => true
  | .string, .str _ => true
  | .bool, .bool _ => true
  | _, _ => false
def mapKeyOk (P : Program) (t : TypeId) (key : SV) : Bool := match P.underlying t with
  | some (.map kt _) => match P.underlying kt with
    | some kd => keyOk kd key
    | none => false
  | _ => false
def unitE : SV := .tup []
/-- The pieces of a type's cells; of a slice's. -/
def lensT (P : Program) : Nat → TypeId → List Nat
  | 0, _ => []
  | d + 1, t => match Nat.ble (sizeP P t) 64 with
    | true => [sizeP P t]
    | false => match P.underlying t with
      | some (.array n e) => (match Nat.ble (sizeP P e) 3 with
        | true => List.replicate (Nat.div (n * sizeP P e) 16) 16
        | false => (List.replicate n (lensT P d e)).flatten)
      | some (.struct fs) => fs.toList.flatMap fun f => lensT P d f.type
      | _ => []
def eAlloc (P : Program) (t : TypeId) (k : SV → ER) : ER := match zeroOk P t with
  | true => (match ofVs (zc P t) with
    | some z => eNew (lensT P 5 t) z fun b => k (.ptr (some ⟨b, 0⟩))
    | none => eF)
  | false => eF
def eBox (P : Program) (t : TypeId) (v : SV) (k : SV → ER) : ER := match shapeOf P t with
  | .any => eAssert v.one (eNew [] [v] fun b => k (.ptr (some ⟨b, 0⟩)))
  | _ => match v with
    | .agg cs => eNew (lensT P 5 t) cs fun b => k (.ptr (some ⟨b, 0⟩))
    | v => eNew [] [v] fun b => k (.ptr (some ⟨b, 0⟩))
def eNilCk (v : SV) (k : SV → ER) : ER := match v with
  | .ptr a => eSome a fun a => k (.ptr (some a))
  | _ => eF
def eUnS (op : UnOp) (v : SV) (k : SV → ER) : ER := eConc v fun v => eUn op v k
/-- Nothing, or 0. -/
def isLo : Option EVE → Bool
  | none => true
  | some (.v (.int _ n)) => iEq n 0
  | _ => false
/-- Nothing, or the text's length. -/
def isHi (i : Nat) : Option EVE → Bool
  | none => true
  | some (.v (.sint _ j c)) => Nat.beq i j && iEq c 0
  | _ => false
def eSliceO (P : Program) (t : TypeId) (i : Nat) (lo hi mx : Option EVE) (fb : ER) (k : SV → ER) : ER := match P.underlying t, mx, isLo lo && isHi i hi with
  | some .string, none, true => fun H => H.num i fun _ _ _ _ t => (match t with
    | .tx _ _ => k (.ostr i) H
    | .no => false)
  | _, _, _ => fb
def eSliceS (P : Program) (t : TypeId) (v : SV) (lo hi mx : Option EVE) (k : SV → ER) : ER := match v with
  | .ostr i => eSliceO P t i lo hi mx (eConc v fun v => eSlice P t v lo hi mx k) k
  | v => eConc v fun v => eSlice P t v lo hi mx k
def eIndexAddrS (P : Program) (t : TypeId) (v j : SV) (k : SV → ER) : ER := eConc j fun j => eIndexAddr P t v j k
def eIndexS (P : Program) (t : TypeId) (v j : SV) (k : SV → ER) : ER := eConc v fun v => eConc j fun j => eIndex P t v j k
def eRange (P : Program) (t : TypeId) (v : SV) (k : SV → ER) : ER := eConc v fun v => match P.underlying t, v with
  | some .string, .str s => eNewB (.it s 0) fun b => k (.ptr (some ⟨b, 0⟩))
  | _, _ => eF
def eMakeMapS (P : Program) (t : TypeId) (v : SV) (k : SV → ER) : ER := match v, P.underlying t with
  | .int _ _, some (.map _ _) => eNewB (.map []) fun b => k (.map (some b))
  | _, _ => eF
def eMakeSliceS (P : Program) (t : TypeId) (vl vc : SV) (k : SV → ER) : ER := eConc vl fun vl => eConc vc fun vc => eMakeSlice P t vl vc k
def eLookupS (P : Program) (t : TypeId) (vm vi : SV) (ok : Bool) (k : SV → ER) : ER := eConc vi fun vi => eAssert (mapKeyOk P t vi) (eLookup P t vm vi ok k)
def ePutS (P : Program) (t : TypeId) (vm vi v : SV) (k : SV → ER) : ER := eConc vi fun vi => eAssert (mapKeyOk P t vi) (ePut P t vm vi v (k unitE))
def eOp (P : Program) (C : Cal) (o : Oper) (e : Operand → EVE) (k : SV → ER) : ER := match o.op with
  | .move x | .assign x => eGv (e x) k
  | .pick c a b => ePick (e c) (e a) (e b) k
  | .alloc t => eAlloc P t k
  | .box t x => eGv (e x) fun v => eBox P t v k
  | .build t ps => ePartsOf e ps.toList fun ps => eBuild P t ps k
  | .buildSlice t n ps => ePartsOf e ps.toList fun ps => eBuildSlice P t n ps k
  | .load t a => eGv (e a) fun v => eLoad P t v k
  | .store t a x => eGv (e a) fun va => eGv (e x) fun v => eStore P t va v (k unitE)
  | .nilCheck x => eGv (e x) fun v => eNilCk v k
  | .binOp op t x y _ => eGv (e x) fun vx => eGv (e y) fun vy => eBin P op t (isNilConst y) vx vy k
  | .unOp op _ x => eGv (e x) fun v => eUnS op v k
  | .convert s d x => eGv (e x) fun v => eConvS P s d v k
  | .makeFunc (.func g) fs cs => eGvs (fs.toList.map e) fun fs => eGvs (cs.toList.map e) fun cs => k (.fn g fs cs)
  | .slice t x lo hi mx => eGv (e x) fun v => eSliceS P t v (lo.map e) (hi.map e) (mx.map e) k
  | .fieldAddr t x f => eGv (e x) fun v => eFieldAddr P t v f k
  | .field t x f => eGv (e x) fun v => eField P t v f k
  | .indexAddr t x i => eGv (e x) fun v => eGv (e i) fun j => eIndexAddrS P t v j k
  | .index t x i => eGv (e x) fun v => eGv (e i) fun j => eIndexS P t v j k
  | .extract x i => eGv (e x) fun v => eExtract v i k
  | .call c => eCallO P C c o.type e k
  | .range t x => eGv (e x) fun v => eRange P t v k
  | .makeInterface t x => eGv (e x) fun v => eMakeIface P t v k
  | .typeAssert x _ t ok => eGv (e x) fun v => eTA P v t ok k
  | .makeMap _ none => eNewB (.map []) fun b => k (.map (some b))
  | .makeMap t (some x) => eGv (e x) fun v => eMakeMapS P t v k
  | .makeSlice t l c => eGv (e l) fun vl => eGv (e c) fun vc => eMakeSliceS P t vl vc k
  | .lookup t m i ok => eGv (e m) fun vm => eGv (e i) fun vi => eLookupS P t vm vi ok k
  | .mapUpdate t m i x | .insert t m i x => eGv (e m) fun vm => eGv (e i) fun vi => eGv (e x) fun v => ePutS P t vm vi v k
  | _ => eF
def eNextV (v : SV) (k1 : SV → SV → ER) (k2 : ER) : ER := match v with
  | .ptr (some ⟨b, 0⟩) => fun H => (match H.t.get b with
    | some (.it s pos) => (match Nat.blt pos s.length with
      | true => k1 (.int .i64 pos) (.int .i32 (Utf8.decode ⟨⟨s⟩⟩ pos).1) (H.put b (.it s (pos + (Utf8.decode ⟨⟨s⟩⟩ pos).2)))
      | false => k2 H)
    | _ => false)
  | _ => eF
def eNext (it : Operand) (str : Bool) (env : Operand → EVE) (k : EVE → ER) : ER := match str with
  | true => eGv (env it) fun v => eNextV v (fun a b => k (.step a b)) (k .over)
  | false => eF
end
end Go.Hl

set_option linter.unusedVariables false
set_option linter.unusedSimpArgs false
set_option linter.unusedSectionVars false
namespace Go.Hl

def MD (r : Ro) : List (SV × SV) → List (Value × Value) → Prop
  | [], x => x = []
  | (a, b) :: l, x => ∃ y z w, x = (y, z) :: w ∧ SD r a y ∧ SD r b z ∧ MD r l w
theorem MD.mono {r s : Ro} (l : r.le s) : ∀ {a : List (SV × SV)} {x : List (Value × Value)}, MD r a x → MD s a x
  | [], _, h => h
  | (a, b) :: m, _, h => by obtain ⟨y, z, w, e, h1, h2, h3⟩ := h; exact ⟨y, z, w, e, h1.mono l, h2.mono l, h3.mono l⟩
def BD (r : Ro) (p : Pl3) : CB → Blk → Prop
  | .row cs rm, .row cs' tot => (∃ pre mid rest, cs' = pre ++ (mid ++ rest) ∧ pre.length = p.o ∧ SDl r (flatR cs) mid ∧ RopeOk cs) ∧ p.o = 0 ∧ match rm with
    | .lit n => p.o + n = tot ∧ cs'.length ≤ tot
    | .sym z => p.o + p.c * z ≤ tot ∧ cs'.length ≤ tot
  | .map es, .map es' => MD r es es'
  | .it s pos, .obj (.stringIter s' pos') => p.o = 0 ∧ s' = ⟨⟨s⟩⟩ ∧ pos' = pos
  | _, _ => False
theorem BD.mono {r s : Ro} (l : r.le s) {p : Pl3} {B : CB} {x : Blk} (h : BD r p B x) : BD s p B x := by
  cases B <;> cases x <;> try exact h
  · obtain ⟨⟨pre, mid, rest, e, h1, h2, h4⟩, h3⟩ := h
    exact ⟨⟨pre, mid, rest, e, h1, SDl.mono l _ h2, h4⟩, h3⟩
  · exact MD.mono l h
  · rename_i o; cases o <;> exact h
theorem BD.live {r : Ro} {p : Pl3} {B : CB} {x : Blk} (h : BD r p B x) : B.lv := by
  cases B <;> first | trivial | (cases x <;> exact h.elim)
def Tx.says : Tx → Pl3 → Prop
  | .no, _ => True
  | .tx kn nots, p => p.v = (p.s.length : Int) ∧ (∀ l, kn = some l → p.s = l) ∧ ∀ l, l ∈ nots → p.s ≠ l
/-- What is said of a symbol. -/
def CB.says : CB → Pl3 → Prop
  | .num lo hi m q t, p => (lo ≤ p.v ∧ p.v ≤ hi ∧ p.v % (m : Int) = q) ∧ t.says p
  | _, _ => True
theorem CB.says_lv {B : CB} (h : B.lv) (p : Pl3) : B.says p := by cases B <;> first | trivial | exact h.elim
/-- Of a variable's block g, which stays: it holds the table of tens' powers; where g is 1000 + b: the block b holds some int. -/
def Pow10At (h : Heap) (g : Nat) : Prop := (g < 1000 → ∃ ty fr, h g = some (.fix (.cells (Lib.pow10Tab.map fun z => Value.int .u64 z).toArray ty fr))) ∧ (1000 ≤ g → ∃ m cs ty fr, h (g - 1000) = some (.fix (.cells cs ty fr)) ∧ cs[0]? = some (.int .i64 m))
structure Sat (r : Ro) (h0 : Heap) (H : CH) (h : Heap) : Prop where
  len : r.length = H.n
  sm : H.n ≤ 1000000
  top : ∀ i B, H.t.get i = some B → i < H.n
  live : ∀ i B, H.t.get i = some B → B.lv → ∃ p x, r[i]? = some p ∧ h p.b = some x ∧ BD r p B x ∧ h0 p.b = none
  inj : ∀ i j B C p q, H.t.get i = some B → B.lv → H.t.get j = some C → C.lv → r[i]? = some p → r[j]? = some q → p.b = q.b → i = j
  sym : ∀ i B p, H.t.get i = some B → r[i]? = some p → B.says p
  glob : ∀ i g, H.t.get i = some (.pow10 g) → Pow10At h0 g
  le : Heap.le h0 h
theorem get_set' {α : Type} (v : α) (t : Tr α) {i : Nat} (hi : i ≤ 1000000) (j : Nat) : (Tr.set 24 t i v).get j = if j = i then some v else t.get j :=
  Tr.get_set v 24 t i j (by have : (2 : Nat) ^ 24 = 16777216 := rfl; omega)
theorem sym_put {r : Ro} {H : CH} (hs : ∀ i B p, H.t.get i = some B → r[i]? = some p → B.says p) {i : Nat} (hi : i ≤ 1000000) {B : CB} (hB : ∀ p, r[i]? = some p → B.says p) : ∀ j C q, (H.put i B).t.get j = some C → r[j]? = some q → C.says q := by
  intro j C q h1 h2
  simp only [CH.put] at h1
  rw [get_set' _ _ hi] at h1
  split at h1
  · rename_i e; subst e; cases h1; exact hB q h2
  · exact hs j C q h1 h2
theorem glob_put {H : CH} {φ : Nat → Prop} (hs : ∀ i g, H.t.get i = some (.pow10 g) → φ g) {i : Nat} (hi : i ≤ 1000000) {B : CB} (hB : ∀ g, B = .pow10 g → φ g) : ∀ j g, (H.put i B).t.get j = some (.pow10 g) → φ g := by
  intro j g h1
  simp only [CH.put] at h1
  rw [get_set' _ _ hi] at h1
  split at h1
  · cases h1; exact hB g rfl
  · exact hs j g h1
theorem glob_push {H : CH} {φ : Nat → Prop} (hs : ∀ i g, H.t.get i = some (.pow10 g) → φ g) (hn : H.n ≤ 1000000) {B : CB} (hB : ∀ g, B = .pow10 g → φ g) : ∀ j g, (H.push B).t.get j = some (.pow10 g) → φ g := by
  intro j g h1
  simp only [CH.push] at h1
  rw [get_set' _ _ hn] at h1
  split at h1
  · cases h1; exact hB g rfl
  · exact hs j g h1
theorem CB.lv_pow {B : CB} (h : B.lv) {φ : Nat → Prop} : ∀ g, B = .pow10 g → φ g := fun g e => by subst e; exact h.elim
theorem sym_push {r : Ro} {H : CH} (hs : ∀ i B p, H.t.get i = some B → r[i]? = some p → B.says p) (hl : r.length = H.n) (hn : H.n ≤ 1000000) (ht : ∀ i B, H.t.get i = some B → i < H.n) {B : CB} {p : Pl3} (hB : B.says p) : ∀ j C q, (H.push B).t.get j = some C → (r ++ [p])[j]? = some q → C.says q := by
  intro j C q h1 h2
  simp only [CH.push] at h1
  rw [get_set' _ _ hn] at h1
  split at h1
  · rename_i e; subst e; cases h1
    rw [List.getElem?_append_right (by rw [hl]; exact Nat.le_refl _), hl] at h2
    simp at h2; subst h2; exact hB
  · have := ht j C h1
    rw [List.getElem?_append_left (by rw [hl]; exact this)] at h2
    exact hs j C q h1 h2
theorem Sat.fresh {r : Ro} {h0 h : Heap} {H : CH} (S : Sat r h0 H h) {b : Nat} (hb : h b = none) : h0 b = none := Heap.le_none S.le hb
theorem Sat.push {r : Ro} {h0 h : Heap} {H : CH} (S : Sat r h0 H h) {B : CB} {p : Pl3} {x : Blk} (hn : H.n < 1000000) (hb : h p.b = none) (hB : BD (r ++ [p]) p B x) : Sat (r ++ [p]) h0 (H.push B) (h.set p.b x) := by
  have lv := hB.live
  have hlt : ∀ i C, H.t.get i = some C → i ≠ H.n := fun i C h => by have := S.top i C h; omega
  refine ⟨by simp [CH.push, S.len], by show H.n + 1 ≤ _; omega, fun i C hC => ?_, fun i C hC hl => ?_, fun i j C D q1 q2 h1 l1 h2 l2 e1 e2 e => ?_, sym_push S.sym S.len S.sm S.top (CB.says_lv lv p), glob_push S.glob S.sm (CB.lv_pow lv), Heap.le_set_new S.le hb x⟩
  · simp only [CH.push] at hC ⊢
    rw [get_set' _ _ S.sm] at hC
    split at hC
    · omega
    · have := S.top i C hC; omega
  · simp only [CH.push] at hC
    rw [get_set' _ _ S.sm] at hC
    split at hC
    · rename_i e
      subst e; cases hC
      exact ⟨p, x, by rw [List.getElem?_append_right (by rw [S.len]; exact Nat.le_refl _), S.len]; simp, Heap.set_same _ _ _, hB, S.fresh hb⟩
    · obtain ⟨q, y, a1, a2, a3, a4⟩ := S.live i C hC hl
      refine ⟨q, y, Ro.le_push _ _ _ _ a1, ?_, a3.mono (Ro.le_push _ _), a4⟩
      rw [Heap.set_ne _ _ (fun e => by rw [e] at a2; rw [hb] at a2; cases a2)]; exact a2
  · simp only [CH.push] at h1 h2
    rw [get_set' _ _ S.sm] at h1 h2
    have new : ∀ (q : Pl3), (r ++ [p])[H.n]? = some q → q = p := fun q e => by
      rw [List.getElem?_append_right (by rw [S.len]; exact Nat.le_refl _), S.len] at e; simpa using e.symm
    have old : ∀ (i : Nat) (C : CB) (q : Pl3), H.t.get i = some C → C.lv → (r ++ [p])[i]? = some q → r[i]? = some q ∧ q.b ≠ p.b := fun i C q hC hl e => by
      obtain ⟨q', y, a1, a2, a3, a4⟩ := S.live i C hC hl
      have := Ro.le_push r p _ _ a1
      rw [e] at this
      cases this
      exact ⟨a1, fun e => by rw [e] at a2; rw [hb] at a2; cases a2⟩
    split at h1
    · rename_i e3; subst e3
      split at h2
      · rename_i e4; rw [e4]
      · rw [new _ e1] at e
        exact absurd e.symm (old j D q2 h2 l2 e2).2
    · split at h2
      · rename_i e4; subst e4
        rw [new _ e2] at e
        exact absurd e (old i C q1 h1 l1 e1).2
      · exact S.inj i j C D q1 q2 h1 l1 h2 l2 (old i C q1 h1 l1 e1).1 (old j D q2 h2 l2 e2).1 e
theorem Sat.put {r : Ro} {h0 h : Heap} {H : CH} (S : Sat r h0 H h) {i : Nat} {C B : CB} {p : Pl3} {x : Blk} (hi : H.t.get i = some C) (hl : C.lv) (hp : r[i]? = some p) (hB : BD r p B x) : Sat r h0 (H.put i B) (h.set p.b x) := by
  obtain ⟨q, y, a1, a2, a3, a4⟩ := S.live i C hi hl
  rw [hp] at a1; cases a1
  have hin := S.top i C hi
  have hsm : i ≤ 1000000 := by have := S.sm; omega
  have lv := hB.live
  refine ⟨S.len, S.sm, fun j D hD => ?_, fun j D hD hl' => ?_, fun j k D E q1 q2 h1 l1 h2 l2 e1 e2 e => ?_, sym_put S.sym hsm (fun p _ => CB.says_lv lv p), glob_put S.glob hsm (CB.lv_pow lv), ?_⟩
  · simp only [CH.put] at hD ⊢
    rw [get_set' _ _ hsm] at hD
    split at hD
    · omega
    · exact S.top j D hD
  · simp only [CH.put] at hD
    rw [get_set' _ _ hsm] at hD
    split at hD
    · rename_i e
      subst e; cases hD
      exact ⟨p, x, hp, Heap.set_same _ _ _, hB, a4⟩
    · rename_i ne
      obtain ⟨q, z, b1, b2, b3, b4⟩ := S.live j D hD hl'
      refine ⟨q, z, b1, ?_, b3, b4⟩
      rw [Heap.set_ne _ _ (fun e => ne (S.inj j i D C q p hD hl' hi hl b1 hp e))]; exact b2
  · simp only [CH.put] at h1 h2
    rw [get_set' _ _ hsm] at h1 h2
    have fix : ∀ (j : Nat) (D : CB), (if j = i then some B else H.t.get j) = some D → D.lv → ∃ D', H.t.get j = some D' ∧ D'.lv := fun j D hD hl' => by
      split at hD
      · rename_i e; subst e; exact ⟨C, hi, hl⟩
      · exact ⟨D, hD, hl'⟩
    obtain ⟨D', c1, c2⟩ := fix j D h1 l1
    obtain ⟨E', d1, d2⟩ := fix k E h2 l2
    exact S.inj j k D' E' q1 q2 c1 c2 d1 d2 e1 e2 e
  · intro c z hz
    rw [Heap.set_ne _ _ (fun e => by rw [e, a4] at hz; cases hz)]
    exact S.le c z hz
/-- What is known of a block is forgotten. -/
theorem Sat.kill {r : Ro} {h0 h : Heap} {H : CH} (S : Sat r h0 H h) {i : Nat} (hin : i < H.n) : Sat r h0 (H.put i .dead) h := by
  have hsm : i ≤ 1000000 := by have := S.sm; omega
  have old : ∀ (j : Nat) (D : CB), (H.put i .dead).t.get j = some D → D.lv → H.t.get j = some D := fun j D hD hl => by
    simp only [CH.put] at hD
    rw [get_set' _ _ hsm] at hD
    split at hD
    · cases hD; exact hl.elim
    · exact hD
  refine ⟨S.len, S.sm, fun j D hD => ?_, fun j D hD hl => S.live j D (old j D hD hl) hl, fun j k D E q1 q2 h1 l1 h2 l2 => S.inj j k D E q1 q2 (old j D h1 l1) l1 (old k E h2 l2) l2, sym_put S.sym hsm (fun _ _ => trivial), glob_put S.glob hsm (fun g e => by cases e), S.le⟩
  simp only [CH.put] at hD ⊢
  rw [get_set' _ _ hsm] at hD
  split at hD
  · omega
  · exact S.top j D hD
/-- A block has a new number, at another offset. -/
theorem Sat.move {r : Ro} {h0 h : Heap} {H : CH} (S : Sat r h0 H h) {i : Nat} {C B : CB} {p q : Pl3} {x : Blk} (hn : H.n < 1000000) (hi : H.t.get i = some C) (hl : C.lv) (hp : r[i]? = some p) (hq : q.b = p.b) (hB : BD (r ++ [q]) q B x) :
    Sat (r ++ [q]) h0 ((H.put i .dead).push B) (h.set p.b x) := by
  have hin := S.top i C hi
  have K := S.kill hin
  have lv := hB.live
  have hsm : i ≤ 1000000 := by have := S.sm; omega
  obtain ⟨p', y, a1, a2, a3, a4⟩ := S.live i C hi hl
  rw [hp] at a1; cases a1
  have oldH : ∀ (j : Nat) (D : CB), (H.put i .dead).t.get j = some D → D.lv → H.t.get j = some D ∧ j ≠ i := fun j D hD hl => by
    simp only [CH.put] at hD
    rw [get_set' _ _ hsm] at hD
    split at hD
    · cases hD; exact hl.elim
    · rename_i ne; exact ⟨hD, ne⟩
  have new : ∀ (q' : Pl3), (r ++ [q])[(H.put i .dead).n]? = some q' → q' = q := fun q' e => by
    rw [List.getElem?_append_right (by rw [S.len]; exact Nat.le_refl _), S.len] at e
    have : (H.put i .dead).n - H.n = 0 := Nat.sub_self _
    rw [this] at e
    simpa using e.symm
  have old : ∀ (j : Nat) (D : CB) (q' : Pl3), (H.put i .dead).t.get j = some D → D.lv → (r ++ [q])[j]? = some q' → r[j]? = some q' ∧ q'.b ≠ p.b := fun j D q' hD hl' e => by
    obtain ⟨c1, c2⟩ := oldH j D hD hl'
    obtain ⟨q2, y2, b1, b2, b3, b4⟩ := S.live j D c1 hl'
    have := Ro.le_push r q _ _ b1
    rw [e] at this
    cases this
    exact ⟨b1, fun e => c2 (S.inj j i D C q' p c1 hl' hi hl b1 hp e)⟩
  refine ⟨by simp [CH.push, CH.put, S.len], by show H.n + 1 ≤ _; omega, fun j D hD => ?_, fun j D hD hl' => ?_, fun j k D E q1 q2 h1 l1 h2 l2 e1 e2 e => ?_, sym_push K.sym K.len K.sm K.top (CB.says_lv lv q), glob_push K.glob K.sm (CB.lv_pow lv), ?_⟩
  · simp only [CH.push] at hD ⊢
    rw [get_set' _ _ K.sm] at hD
    split at hD
    · show j < H.n + 1
      rename_i e; rw [e]; exact Nat.lt_succ_self _
    · have := K.top j D hD
      show j < H.n + 1
      exact Nat.lt_succ_of_lt this
  · simp only [CH.push] at hD
    rw [get_set' _ _ K.sm] at hD
    split at hD
    · rename_i e
      cases hD
      refine ⟨q, x, ?_, by rw [hq]; exact Heap.set_same _ _ _, hB, by rw [hq]; exact a4⟩
      rw [e]
      rw [List.getElem?_append_right (by rw [S.len]; exact Nat.le_refl _), S.len]
      have : (H.put i .dead).n - H.n = 0 := Nat.sub_self _
      rw [this]; rfl
    · obtain ⟨c1, c2⟩ := oldH j D hD hl'
      obtain ⟨q2, y2, b1, b2, b3, b4⟩ := S.live j D c1 hl'
      refine ⟨q2, y2, Ro.le_push _ _ _ _ b1, ?_, b3.mono (Ro.le_push _ _), b4⟩
      rw [Heap.set_ne _ _ (fun e => c2 (S.inj j i D C q2 p c1 hl' hi hl b1 hp e))]; exact b2
  · simp only [CH.push] at h1 h2
    rw [get_set' _ _ K.sm] at h1 h2
    split at h1
    · rename_i e3
      split at h2
      · rename_i e4; rw [e3, e4]
      · rw [e3] at e1
        rw [new _ e1, hq] at e
        exact absurd e.symm (old k E q2 h2 l2 e2).2
    · split at h2
      · rename_i e4
        rw [e4] at e2
        rw [new _ e2, hq] at e
        exact absurd e (old j D q1 h1 l1 e1).2
      · exact S.inj j k D E q1 q2 (oldH j D h1 l1).1 l1 (oldH k E h2 l2).1 l2 (old j D q1 h1 l1 e1).1 (old k E q2 h2 l2 e2).1 e
  · intro c z hz
    rw [Heap.set_ne _ _ (fun e => by rw [e, a4] at hz; cases hz)]
    exact S.le c z hz
/-- A block is turned by what is not told: it has a new number, here or elsewhere. -/
theorem Sat.turn {r : Ro} {h0 h h' : Heap} {H : CH} (S : Sat r h0 H h) {i : Nat} {C B : CB} {p q : Pl3} {x : Blk} (hn : H.n < 1000000) (hi : H.t.get i = some C) (hl : C.lv) (hp : r[i]? = some p) (u : Upd (fun b => b = p.b) h h') (hq : q.b = p.b ∨ h q.b = none) (hx : h' q.b = some x) (hB : BD (r ++ [q]) q B x) :
    Sat (r ++ [q]) h0 ((H.put i .dead).push B) h' := by
  have hin := S.top i C hi
  have K := S.kill hin
  have lv := hB.live
  have hsm : i ≤ 1000000 := by have := S.sm; omega
  obtain ⟨p', y, a1, a2, a3, a4⟩ := S.live i C hi hl
  rw [hp] at a1; cases a1
  have oldH : ∀ (j : Nat) (D : CB), (H.put i .dead).t.get j = some D → D.lv → H.t.get j = some D ∧ j ≠ i := fun j D hD hl => by
    simp only [CH.put] at hD
    rw [get_set' _ _ hsm] at hD
    split at hD
    · cases hD; exact hl.elim
    · rename_i ne; exact ⟨hD, ne⟩
  have new : ∀ (q' : Pl3), (r ++ [q])[(H.put i .dead).n]? = some q' → q' = q := fun q' e => by
    rw [List.getElem?_append_right (by rw [S.len]; exact Nat.le_refl _), S.len] at e
    have : (H.put i .dead).n - H.n = 0 := Nat.sub_self _
    rw [this] at e
    simpa using e.symm
  have old : ∀ (j : Nat) (D : CB) (q' : Pl3), (H.put i .dead).t.get j = some D → D.lv → (r ++ [q])[j]? = some q' → r[j]? = some q' ∧ q'.b ≠ p.b ∧ ∃ y, h q'.b = some y := fun j D q' hD hl' e => by
    obtain ⟨c1, c2⟩ := oldH j D hD hl'
    obtain ⟨q2, y2, b1, b2, b3, b4⟩ := S.live j D c1 hl'
    have := Ro.le_push r q _ _ b1
    rw [e] at this
    cases this
    exact ⟨b1, fun e => c2 (S.inj j i D C q' p c1 hl' hi hl b1 hp e), _, b2⟩
  have apart : ∀ (j : Nat) (D : CB) (q' : Pl3), (H.put i .dead).t.get j = some D → D.lv → (r ++ [q])[j]? = some q' → q'.b ≠ q.b := fun j D q' hD hl' e => by
    obtain ⟨c1, c2, y, c3⟩ := old j D q' hD hl' e
    rcases hq with hq | hq
    · rw [hq]; exact c2
    · intro e; rw [e, hq] at c3; cases c3
  refine ⟨by simp [CH.push, CH.put, S.len], by show H.n + 1 ≤ _; omega, fun j D hD => ?_, fun j D hD hl' => ?_, fun j k D E q1 q2 h1 l1 h2 l2 e1 e2 e => ?_, sym_push K.sym K.len K.sm K.top (CB.says_lv lv q), glob_push K.glob K.sm (CB.lv_pow lv), ?_⟩
  · simp only [CH.push] at hD ⊢
    rw [get_set' _ _ K.sm] at hD
    split at hD
    · show j < H.n + 1
      rename_i e; rw [e]; exact Nat.lt_succ_self _
    · have := K.top j D hD
      show j < H.n + 1
      exact Nat.lt_succ_of_lt this
  · simp only [CH.push] at hD
    rw [get_set' _ _ K.sm] at hD
    split at hD
    · rename_i e
      cases hD
      refine ⟨q, x, ?_, hx, hB, ?_⟩
      · rw [e]
        rw [List.getElem?_append_right (by rw [S.len]; exact Nat.le_refl _), S.len]
        have : (H.put i .dead).n - H.n = 0 := Nat.sub_self _
        rw [this]; rfl
      · rcases hq with hq | hq
        · rw [hq]; exact a4
        · exact Heap.le_none S.le hq
    · obtain ⟨c1, c2⟩ := oldH j D hD hl'
      obtain ⟨q2, y2, b1, b2, b3, b4⟩ := S.live j D c1 hl'
      refine ⟨q2, y2, Ro.le_push _ _ _ _ b1, ?_, b3.mono (Ro.le_push _ _), b4⟩
      exact u _ _ b2 fun e => c2 (S.inj j i D C q2 p c1 hl' hi hl b1 hp e)
  · simp only [CH.push] at h1 h2
    rw [get_set' _ _ K.sm] at h1 h2
    split at h1
    · rename_i e3
      split at h2
      · rename_i e4; rw [e3, e4]
      · rw [e3] at e1
        rw [new _ e1] at e
        exact absurd e.symm (apart k E q2 h2 l2 e2)
    · split at h2
      · rename_i e4
        rw [e4] at e2
        rw [new _ e2] at e
        exact absurd e (apart j D q1 h1 l1 e1)
      · exact S.inj j k D E q1 q2 (oldH j D h1 l1).1 l1 (oldH k E h2 l2).1 l2 (old j D q1 h1 l1 e1).1 (old k E q2 h2 l2 e2).1 e
  · intro c z hz
    exact u _ _ (S.le c z hz) fun e => by rw [e, a4] at hz; cases hz
/-- A new block, by what is not told. -/
theorem Sat.gain {r : Ro} {h0 h h' : Heap} {H : CH} (S : Sat r h0 H h) {B : CB} {q : Pl3} {x : Blk} (hn : H.n < 1000000) (u : Heap.le h h') (hq : h q.b = none) (hx : h' q.b = some x) (hB : BD (r ++ [q]) q B x) : Sat (r ++ [q]) h0 (H.push B) h' := by
  have lv := hB.live
  have oldr : ∀ (j : Nat) (D : CB) (q' : Pl3), H.t.get j = some D → (r ++ [q])[j]? = some q' → r[j]? = some q' := fun j D q' hD e => by
    have := S.top j D hD
    rwa [List.getElem?_append_left (by rw [S.len]; exact this)] at e
  have new : ∀ (q' : Pl3), (r ++ [q])[H.n]? = some q' → q' = q := fun q' e => by
    rw [List.getElem?_append_right (by rw [S.len]; exact Nat.le_refl _), S.len] at e; simpa using e.symm
  have apart : ∀ (j : Nat) (D : CB) (q' : Pl3), H.t.get j = some D → D.lv → (r ++ [q])[j]? = some q' → q'.b ≠ q.b := fun j D q' hD hl' e => by
    obtain ⟨q2, y2, b1, b2, b3, b4⟩ := S.live j D hD hl'
    have := oldr j D q' hD e
    rw [b1] at this; cases this
    intro e; rw [e, hq] at b2; cases b2
  refine ⟨by simp [CH.push, S.len], by show H.n + 1 ≤ _; omega, fun j D hD => ?_, fun j D hD hl' => ?_, fun j k D E q1 q2 h1 l1 h2 l2 e1 e2 e => ?_, sym_push S.sym S.len S.sm S.top (CB.says_lv lv q), glob_push S.glob S.sm (CB.lv_pow lv), Heap.le_trans S.le u⟩
  · simp only [CH.push] at hD ⊢
    rw [get_set' _ _ S.sm] at hD
    split at hD
    · omega
    · have := S.top j D hD; omega
  · simp only [CH.push] at hD
    rw [get_set' _ _ S.sm] at hD
    split at hD
    · rename_i e
      subst e; cases hD
      exact ⟨q, x, by rw [List.getElem?_append_right (by rw [S.len]; exact Nat.le_refl _), S.len]; simp, hx, hB, Heap.le_none S.le hq⟩
    · obtain ⟨q2, y2, b1, b2, b3, b4⟩ := S.live j D hD hl'
      exact ⟨q2, y2, Ro.le_push _ _ _ _ b1, u _ _ b2, b3.mono (Ro.le_push _ _), b4⟩
  · simp only [CH.push] at h1 h2
    rw [get_set' _ _ S.sm] at h1 h2
    split at h1
    · rename_i e3
      split at h2
      · rename_i e4; rw [e3, e4]
      · rw [e3] at e1
        rw [new _ e1] at e
        exact absurd e.symm (apart k E q2 h2 l2 e2)
    · split at h2
      · rename_i e4
        rw [e4] at e2
        rw [new _ e2] at e
        exact absurd e (apart j D q1 h1 l1 e1)
      · exact S.inj j k D E q1 q2 h1 l1 h2 l2 (oldr j D q1 h1 e1) (oldr k E q2 h2 e2) e
/-- More is known of a symbol. -/
theorem Sat.learn {r : Ro} {h0 h : Heap} {H : CH} (S : Sat r h0 H h) {i : Nat} {C B : CB} (hi : H.t.get i = some C) (hl : ¬ B.lv) (hB : ∀ p, r[i]? = some p → B.says p) (hg : ∀ g, B = .pow10 g → Pow10At h0 g := by intro g e; cases e) : Sat r h0 (H.put i B) h := by
  have hin := S.top i C hi
  have hsm : i ≤ 1000000 := by have := S.sm; omega
  have old : ∀ (j : Nat) (D : CB), (H.put i B).t.get j = some D → D.lv → H.t.get j = some D := fun j D hD hl' => by
    simp only [CH.put] at hD
    rw [get_set' _ _ hsm] at hD
    split at hD
    · cases hD; exact absurd hl' hl
    · exact hD
  refine ⟨S.len, S.sm, fun j D hD => ?_, fun j D hD hl => S.live j D (old j D hD hl) hl, fun j k D E q1 q2 h1 l1 h2 l2 => S.inj j k D E q1 q2 (old j D h1 l1) l1 (old k E h2 l2) l2, sym_put S.sym hsm hB, glob_put S.glob hsm hg, S.le⟩
  simp only [CH.put] at hD ⊢
  rw [get_set' _ _ hsm] at hD
  split at hD
  · omega
  · exact S.top j D hD
/-- A new symbol. -/
theorem Sat.name {r : Ro} {h0 h : Heap} {H : CH} (S : Sat r h0 H h) {B : CB} {p : Pl3} (hn : H.n < 1000000) (hl : ¬ B.lv) (hB : B.says p) (hg : ∀ g, B = .pow10 g → Pow10At h0 g := by intro g e; cases e) : Sat (r ++ [p]) h0 (H.push B) h := by
  have old : ∀ (j : Nat) (D : CB), (H.push B).t.get j = some D → D.lv → H.t.get j = some D := fun j D hD hl' => by
    simp only [CH.push] at hD
    rw [get_set' _ _ S.sm] at hD
    split at hD
    · cases hD; exact absurd hl' hl
    · exact hD
  have oldr : ∀ (j : Nat) (D : CB) (q : Pl3), H.t.get j = some D → (r ++ [p])[j]? = some q → r[j]? = some q := fun j D q hD e => by
    have := S.top j D hD
    rwa [List.getElem?_append_left (by rw [S.len]; exact this)] at e
  refine ⟨by simp [CH.push, S.len], by show H.n + 1 ≤ _; omega, fun j D hD => ?_, fun j D hD hl => ?_, fun j k D E q1 q2 h1 l1 h2 l2 e1 e2 => S.inj j k D E q1 q2 (old j D h1 l1) l1 (old k E h2 l2) l2 (oldr j D q1 (old j D h1 l1) e1) (oldr k E q2 (old k E h2 l2) e2), sym_push S.sym S.len S.sm S.top hB, glob_push S.glob S.sm hg, S.le⟩
  · simp only [CH.push] at hD ⊢
    rw [get_set' _ _ S.sm] at hD
    split at hD
    · omega
    · have := S.top j D hD; omega
  · obtain ⟨q, x, a1, a2, a3, a4⟩ := S.live j D (old j D hD hl) hl
    exact ⟨q, x, Ro.le_push _ _ _ _ a1, a2, a3.mono (Ro.le_push _ _), a4⟩
end Go.Hl

set_option linter.unusedVariables false
set_option linter.unusedSimpArgs false
set_option linter.unusedSectionVars false
namespace Go.Hl

theorem eF_no {H : CH} {p : Prop} (e : eF H = true) : p := by cases e
def KR (r : Ro) (h0 : Heap) (k : SV → ER) (k' : Value → Pr) : Prop := ∀ r' H' h' v v', r.le r' → Sat r' h0 H' h' → SD r' v v' → k v H' = true → k' v' h'
theorem KR.up {r s : Ro} {h0 : Heap} {k : SV → ER} {k' : Value → Pr} (K : KR r h0 k k') (l : r.le s) : KR s h0 k k' := fun r' H' h' v v' l' => K r' H' h' v v' (Ro.le_trans l l')
theorem proj_rel {r : Ro} {s : Shape} {v : SV} {v' : Value} {x : s.E} (h : SD r v v') (e : s.projE v = some x) : v = s.injE x ∧ ∃ z, v' = s.inj z := by
  cases s with
  | any => cases e; exact ⟨rfl, v', rfl⟩
  | int k =>
    cases v <;> simp only [Shape.projE] at e <;> try cases e
    · split at e
      · rename_i ek; subst ek; cases e; exact ⟨rfl, _, h⟩
      · cases e
    · split at e
      · rename_i ek; subst ek; cases e; obtain ⟨p, _, h⟩ := h; exact ⟨rfl, _, h⟩
      · cases e
  | bool => cases v <;> simp only [Shape.projE] at e <;> cases e; exact ⟨rfl, _, h⟩
  | str =>
    cases v <;> simp only [Shape.projE] at e <;> cases e
    · obtain ⟨p, _, h⟩ := h; exact ⟨rfl, _, h⟩
    · exact ⟨rfl, _, h⟩
  | ptr => cases v <;> simp only [Shape.projE] at e <;> cases e; obtain ⟨z, _, hz⟩ := h; exact ⟨rfl, z, hz⟩
  | slice => cases v <;> simp only [Shape.projE] at e <;> cases e; obtain ⟨z, _, hz⟩ := h; exact ⟨rfl, z, hz⟩
  | agg => cases v <;> simp only [Shape.projE] at e <;> cases e; obtain ⟨z, _, hz⟩ := h; exact ⟨rfl, z, hz⟩
  | map =>
    cases v with
    | map m =>
      cases m with
      | none => cases e; exact ⟨rfl, none, h⟩
      | some i => cases e; obtain ⟨p, _, hz⟩ := h; exact ⟨rfl, some p.b, hz⟩
    | _ => simp only [Shape.projE] at e; cases e
theorem BD.mk {r : Ro} {p : Pl3} {cs : Rope} {rm : Rm} {pre mid rest cs' : List Value} {tot : Nat} (ro : RopeOk cs) (e : cs' = pre ++ (mid ++ rest)) (hl : pre.length = p.o) (hd : SDl r (flatR cs) mid) (hr : p.o = 0 ∧ match rm with | .lit n => p.o + n = tot | .sym z => p.o + p.c * z ≤ tot) (ht : cs'.length ≤ tot) : BD r p (.row cs rm) (.row cs' tot) := ⟨⟨pre, mid, rest, e, hl, hd, ro⟩, hr.1, by cases rm <;> exact ⟨hr.2, ht⟩⟩
theorem ofV_rel {r : Ro} {v : Value} {x : SV} (e : ofV v = some x) : SD r x v := by
  cases v <;> simp only [ofV] at e <;> try cases e
  · rfl
  · rfl
  · rfl
  · rename_i a; cases a <;> cases e; exact ⟨none, rfl, rfl⟩
  · rename_i a n c; cases a <;> cases e; exact ⟨⟨none, n, c⟩, ⟨rfl, rfl, rfl⟩, rfl⟩
  · rename_i a; cases a <;> cases e; rfl
  · rfl
  · rfl
theorem ofVs_rel {r : Ro} : ∀ {v : List Value} {x : List SV}, ofVs v = some x → SDl r x v
  | [], x, e => by cases e; rfl
  | a :: v, x, e => by
    unfold ofVs at e
    split at e
    · rename_i y hy
      split at e
      · rename_i z hz
        cases e
        exact SDl.cons (ofV_rel hy) (ofVs_rel hz)
      · cases e
    · cases e
theorem ofZ_rel {r : Ro} {v : Value} {x : SV} (e : ofZ v = some x) : SD r x v := by
  cases v with
  | agg cs =>
    unfold ofZ at e
    simp only at e
    split at e
    · rename_i l hl
      cases e
      exact ⟨cs.toList, ofVs_rel hl, by simp⟩
    · cases e
  | _ => exact ofV_rel e
theorem one_rel {r : Ro} {v : SV} {v' : Value} (h : SD r v v') (e : v.one = true) : v'.oneCell' = true := by
  cases v <;> simp only [SV.one] at e <;> try cases e
  · rw [h]; rfl
  · obtain ⟨_, _, e⟩ := h; rw [e]; rfl
  · obtain ⟨_, _, e⟩ := h; rw [e]; rfl
  · rw [h]; rfl
  · rw [h]; rfl
  · obtain ⟨_, _, e⟩ := h; rw [e]; rfl
  · obtain ⟨_, _, e⟩ := h; rw [e]; rfl
  · rename_i m
    cases m with
    | none => rw [h]; rfl
    | some i => obtain ⟨_, _, e⟩ := h; rw [e]; rfl
  · obtain ⟨_, _, _, _, e⟩ := h; rw [e]; rfl
  · obtain ⟨_, _, e⟩ := h; rw [e]; rfl
  · rw [h]; rfl
  · rw [h]; rfl
theorem ones_rel {r : Ro} : ∀ {v : List SV} {v' : List Value}, SDl r v v' → v.all SV.one = true → oneCells v'
  | [], _, h, _ => by rw [h]; intro x hx; cases hx
  | a :: v, _, h, e => by
    obtain ⟨y, z, rfl, h1, h2⟩ := h
    rw [List.all_cons, Bool.and_eq_true] at e
    intro x hx
    rcases List.mem_cons.1 hx with q | q
    · rw [q]; exact one_rel h1 e.1
    · exact ones_rel h2 e.2 x q

section
variable {r : Ro} {h0 : Heap} {H : CH} {h : Heap} (S : Sat r h0 H h)
include S
theorem row_inv {b : Nat} {k : Rope → Rm → Bool} (e : H.row b k = true) : ∃ cs rm p pre mid rest tot, H.t.get b = some (.row cs rm) ∧ k cs rm = true ∧ r[b]? = some p ∧ h p.b = some (.row (pre ++ (mid ++ rest)) tot) ∧ pre.length = p.o ∧ (SDl r (flatR cs) mid ∧ RopeOk cs) ∧ ((p.o = 0 ∧ match rm with | .lit n => p.o + n = tot | .sym z => p.o + p.c * z ≤ tot) ∧ (pre ++ (mid ++ rest)).length ≤ tot) := by
  unfold CH.row at e
  split at e
  · rename_i cs rm hg
    obtain ⟨p, x, a1, a2, a3, a4⟩ := S.live _ _ hg trivial
    cases x <;> try exact a3.elim
    obtain ⟨⟨pre, mid, rest, e1, e2, e3, e5⟩, e4⟩ := a3
    subst e1
    exact ⟨cs, rm, p, pre, mid, rest, _, hg, e, a1, a2, e2, ⟨e3, e5⟩, by cases rm <;> exact ⟨⟨e4.1, e4.2.1⟩, e4.2.2⟩⟩
  · cases e
theorem eLd_ok {a : EA} {x : Addr} (ha : AD r a x) {s : Shape} {k : s.E → ER} {k' : s.T → Pr} (e : eLd s a k H = true) (kr : ∀ y z, SD r (s.injE y) (s.inj z) → k y H = true → k' z h) : pLd s x k' h := by
  unfold eLd at e
  obtain ⟨cs, rm, p, pre, mid, rest, tot, hg, e, hp, hh, hl, ⟨hd, ro⟩, hr, ht⟩ := row_inv S e
  obtain ⟨q, hq, rfl⟩ := ha
  rw [hp] at hq; cases hq
  split at e
  · rename_i v hv
    split at e
    · rename_i y hy
      rw [getR_eq ro] at hv
      obtain ⟨w, hw, hs⟩ := hd.get hv
      obtain ⟨e1, z, e2⟩ := proj_rel hs hy
      subst e1 e2
      refine ⟨z, ?_, kr y z hs e⟩
      unfold Heap.cell
      simp only [hh]
      rw [← hl, List.getElem?_append_right (Nat.le_add_right _ _), Nat.add_sub_cancel_left, List.getElem?_append_left]
      · exact hw
      · rcases Nat.lt_or_ge a.o mid.length with g | g
        · exact g
        · rw [List.getElem?_eq_none g] at hw; cases hw
    · cases e
  · cases e
omit S in
theorem cut_rel {cs : List SV} {pre mid rest : List Value} (hd : SDl r cs mid) {o n : Nat} {x : List SV} (e : cutE cs o n = some x) : ∃ y, cut (pre ++ (mid ++ rest)) (pre.length + o) n = some y ∧ SDl r x y := by
  unfold cutE at e
  split at e
  · rename_i hb
    cases e
    have hb := Nat.le_of_ble_eq_true hb
    have := hd.len
    refine ⟨(mid.drop o).take n, ?_, (hd.drop o).take n⟩
    unfold cut
    rw [if_pos (by simp; omega)]
    rw [← List.drop_drop, List.drop_left, List.drop_append_of_le_length (by omega), List.take_append_of_le_length (by rw [List.length_drop]; omega)]
  · cases e
omit S in
theorem cutR_E {cs : Rope} (ro : RopeOk cs) {o n : Nat} {y : List SV} (e : cutR cs o n = some y) : cutE (flatR cs) o n = some y := by
  obtain ⟨h1, h2⟩ := cutR_eq ro e
  unfold cutE
  rw [Nat.ble_eq_true_of_le h1, h2]
theorem eLdA_ok {a : EA} {x : Addr} (ha : AD r a x) {n : Nat} {k : List SV → ER} {k' : List Value → Pr} (e : eLdA n a k H = true) (kr : ∀ y z, SDl r y z → k y H = true → k' z h) : pLdA n x k' h := by
  unfold eLdA at e
  obtain ⟨cs, rm, p, pre, mid, rest, tot, hg, e, hp, hh, hl, ⟨hd, ro⟩, hr, ht⟩ := row_inv S e
  obtain ⟨q, hq, rfl⟩ := ha
  rw [hp] at hq; cases hq
  split at e
  · rename_i y hy
    obtain ⟨z, hz, hs⟩ := cut_rel (pre := pre) (rest := rest) hd (cutR_E ro hy)
    refine ⟨z, ?_, kr y z hs e⟩
    unfold Heap.vals
    simp only [hh]
    rw [← hl]; exact hz
  · cases e
theorem eSt_ok {a : EA} {x : Addr} (ha : AD r a x) {v : SV} {w : Value} (hv : SD r v w) {k : ER} {k' : Pr} (e : eSt a v k H = true) (kr : ∀ H' h', Sat r h0 H' h' → k H' = true → k' h') : pSt x w k' h := by
  unfold eSt at e
  obtain ⟨cs, rm, p, pre, mid, rest, tot, hg, e, hp, hh, hl, ⟨hd, ro⟩, hr, ht⟩ := row_inv S e
  obtain ⟨q, hq, rfl⟩ := ha
  rw [hp] at hq; cases hq
  split at e
  · rename_i cs' hcs
    obtain ⟨h1, ro', hf⟩ := setR_eq ro hcs
    split at e
    · rename_i hb
      have hlen := hd.len
      refine ⟨_, _, rfl, hh, by simp; omega, one_rel hv hb, ?_⟩
      refine kr _ _ (S.put (B := .row cs' rm) hg trivial hp (BD.mk (pre := pre) (mid := mid.set a.o w) (rest := rest) ro' ?_ hl (by rw [hf]; exact hd.set hv _) hr (by rw [List.length_set]; exact ht))) e
      show (pre ++ (mid ++ rest)).set (p.o + a.o) w = _
      rw [List.set_append_right _ _ (by omega), ← hl, Nat.add_sub_cancel_left, List.set_append_left _ _ (by omega)]
    · cases e
  · cases e
omit S in
theorem splice_rel {cs vs : List SV} {pre mid rest ws : List Value} (hd : SDl r cs mid) (hv : SDl r vs ws) {o : Nat} (ho : o + vs.length ≤ cs.length) : splice (pre ++ (mid ++ rest)) (pre.length + o) ws = pre ++ (splice mid o ws ++ rest) ∧ SDl r (spliceE cs o vs) (splice mid o ws) := by
  have h1 := hd.len; have h2 := hv.len
  refine ⟨?_, ?_⟩
  · unfold splice
    rw [List.take_append, List.take_of_length_le (by omega), Nat.add_sub_cancel_left, List.take_append_of_le_length (by omega)]
    rw [Nat.add_assoc, ← List.drop_drop, List.drop_left, List.drop_append_of_le_length (by omega)]
    simp
  · unfold splice spliceE
    rw [h2]
    exact ((hd.take _).app hv).app (hd.drop _)
theorem eStA_ok {a : EA} {x : Addr} (ha : AD r a x) {n : Nat} {v : List SV} {w : List Value} (hv : SDl r v w) {k : ER} {k' : Pr} (e : eStA n a v k H = true) (kr : ∀ H' h', Sat r h0 H' h' → k H' = true → k' h') : pStA n x w k' h := by
  unfold eStA at e
  obtain ⟨cs, rm, p, pre, mid, rest, tot, hg, e, hp, hh, hl, ⟨hd, ro⟩, hr, ht⟩ := row_inv S e
  obtain ⟨q, hq, rfl⟩ := ha
  rw [hp] at hq; cases hq
  split at e
  · rename_i hb
    obtain ⟨h2, h3⟩ := okN_eq hb
    split at e
    · rename_i cs' hcs
      obtain ⟨h1, ro', hf⟩ := splR_eq ro h2 hcs
      have hlen := hd.len
      obtain ⟨s1, s2⟩ := splice_rel (pre := pre) (rest := rest) hd hv (o := a.o) (by omega)
      refine ⟨_, _, rfl, hh, by simp; omega, by rw [hv.len]; exact h2, ones_rel hv h3, ?_⟩
      refine kr _ _ (S.put (B := .row cs' rm) hg trivial hp (BD.mk (pre := pre) (rest := rest) ro' ?_ hl (by rw [hf]; exact s2) hr (by have hw := hv.len; unfold splice; simp at ht ⊢; omega))) e
      show splice (pre ++ (mid ++ rest)) (p.o + a.o) w = _
      rw [← hl, s1]
    · cases e
  · cases e
theorem eNewB_ok {B : CB} {y : Blk} (hB : ∀ b, BD (r ++ [⟨b, 0, 0, 0, []⟩]) ⟨b, 0, 0, 0, []⟩ B y) {k : Nat → ER} {k' : Nat → Pr} (e : eNewB B k H = true) (kr : ∀ b H' h', Sat (r ++ [⟨b, 0, 0, 0, []⟩]) h0 H' h' → (r ++ [(⟨b, 0, 0, 0, []⟩ : Pl3)])[H.n]? = some ⟨b, 0, 0, 0, []⟩ → k H.n H' = true → k' b h') : ∀ b, h b = none → k' b (h.set b y) := by
  unfold eNewB at e
  intro b hb
  split at e
  · rename_i hn
    have hn : H.n < 1000000 := Nat.lt_of_lt_of_le (Nat.lt_succ_self _) (Nat.le_of_ble_eq_true hn)
    exact kr b _ _ (S.push hn hb (hB b)) (by rw [List.getElem?_append_right (by rw [S.len]; exact Nat.le_refl _), S.len]; simp) e
  · cases e
theorem eNew_ok {lens : List Nat} {cs : List SV} {ws : List Value} (hv : SDl r cs ws) {k : Nat → ER} {k' : Nat → Pr} (e : eNew lens cs k H = true) (kr : ∀ b H' h', Sat (r ++ [⟨b, 0, 0, 0, []⟩]) h0 H' h' → (r ++ [(⟨b, 0, 0, 0, []⟩ : Pl3)])[H.n]? = some ⟨b, 0, 0, 0, []⟩ → k H.n H' = true → k' b h') : pNew ws k' h :=
  eNewB_ok (y := .row ws ws.length) S (fun b => BD.mk (pre := []) (mid := ws) (rest := []) (newR_eq lens (lenL_eq cs).symm).1 (by simp) rfl (by rw [(newR_eq lens (lenL_eq cs).symm).2]; exact SDl.mono (Ro.le_push _ _) _ hv) ⟨rfl, by show 0 + lenL cs = _; rw [lenL_eq, hv.len]; omega⟩ (Nat.le_refl _)) e kr
end
end Go.Hl

set_option linter.unusedVariables false
set_option linter.unusedSimpArgs false
set_option linter.unusedSectionVars false
namespace Go.Hl

theorem cut_split {cs : List Value} {o n : Nat} {y : List Value} (e : cut cs o n = some y) : ∃ A B, cs = A ++ (y ++ B) ∧ A.length = o ∧ y.length = n := by
  unfold cut at e
  split at e
  · cases e
    refine ⟨cs.take o, cs.drop (o + n), ?_, by simp; omega, by simp; omega⟩
    rw [← List.drop_drop, List.take_append_drop, List.take_append_drop]
  · cases e
theorem splice_split {A y B w : List Value} : splice (A ++ (y ++ B)) (A.length + y.length) w = A ++ ((y ++ w) ++ B.drop w.length) := by
  unfold splice
  have e : A ++ (y ++ B) = (A ++ y) ++ B := by simp
  have l : A.length + y.length = (A ++ y).length := by simp
  rw [e, l, List.take_left, ← List.drop_drop, List.drop_left]
  simp
section
variable {r : Ro} {h0 : Heap} {H : CH} {h : Heap} (S : Sat r h0 H h)
include S
theorem vals_ok {z : Nat} {s : ES} {x : Sl} (hs : ESD r s x) {k : Rope → Bool} (e : s.vals z H k = true) : ∃ l l', (SDl r (flatR l) l' ∧ RopeOk l) ∧ x.vals z h l' ∧ k l = true ∧ (s.base = none → s.len = 0 ∧ l = [] ∧ l' = []) := by
  obtain ⟨hb, hlen, hc⟩ := hs
  unfold ES.vals at e
  cases hbase : s.base with
  | none =>
    rw [hbase] at hb e
    simp only at e
    have hb : x.base = none := hb
    split at e
    · rename_i h0'
      refine ⟨[], [], ⟨rfl, RopeOk.nil⟩, ?_, e, fun _ => ⟨h0', rfl, rfl⟩⟩
      unfold Sl.vals; rw [hb]; exact ⟨by omega, rfl⟩
    · cases e
  | some a =>
    rw [hbase] at hb e
    obtain ⟨y, hy, q, hq, rfl⟩ := hb
    simp only at e
    obtain ⟨cs, rm, p, pre, mid, rest, tot, hg, e, hp, hh, hl, ⟨hd, ro⟩, hr, ht⟩ := row_inv S e
    rw [hp] at hq; cases hq
    split at e
    · rename_i l hcut
      obtain ⟨g1, g2, g3⟩ := subR_eq ro hcut
      obtain ⟨l', h1, h2⟩ := cut_rel (pre := pre) (rest := rest) hd (o := a.o) (n := s.len * z) (x := flatR l) (by unfold cutE; rw [Nat.ble_eq_true_of_le g1, g3])
      refine ⟨l, l', ⟨h2, g2⟩, ?_, e, fun e => (by cases e)⟩
      unfold Sl.vals
      rw [hy]
      simp only
      unfold Heap.vals
      simp only [hh]
      rw [← hl, hlen]; exact h1
    · cases e
theorem append_ok {z bytes : Nat} {s : ES} {x y : Sl} (hs : ESD r s x) {new : List SV} {new' : List Value} (hn : SDl r new new') (hy : y.vals z h new') {k : ES → ER} {k' : Sl → Pr} (e : eAppend z bytes s new y.len k H = true)
    (kr : ∀ r' H' h' u w, r.le r' → Sat r' h0 H' h' → ESD r' u w → k u H' = true → k' w h') : pAppend z bytes x y k' h := by
  unfold eAppend at e
  obtain ⟨old, old', ⟨ho, hro⟩, hov, e, hnil⟩ := vals_ok S hs e
  obtain ⟨hb, hlen, hc⟩ := hs
  split at e
  · cases e
  rename_i hcond
  rw [Bool.and_eq_true] at hcond
  have hroom : Roomy (x.len + y.len) bytes := by rw [hlen]; exact Nat.le_of_ble_eq_true hcond.1
  obtain ⟨hnl0, hone0⟩ := okN_eq hcond.2
  have hone := ones_rel hn hone0
  have hroN : RopeOk (old ++ [(y.len * z, new)]) := hro.app (RopeOk.cons hnl0 RopeOk.nil)
  have hflN : flatR (old ++ [(y.len * z, new)]) = flatR old ++ new := by rw [flatR_app]; rfl
  have hblt : ∀ {a b : Nat}, Nat.blt a b = true → a < b := fun h => Nat.lt_of_lt_of_le (Nat.lt_succ_self _) (Nat.le_of_ble_eq_true h)
  -- a new place
  have grow : ∀ (H1 : CH), Sat r h0 H1 h → H1.n = H.n → H.n < 1000000 → k ⟨some ⟨H.n, 0⟩, s.len + y.len, .sym 0⟩ (H1.push (.row (old ++ [(y.len * z, new)]) (.sym z))) = true → ∀ b cap, h b = none → x.len + y.len ≤ cap → k' ⟨some ⟨b, 0, none⟩, x.len + y.len, cap⟩ (h.set b (.row (old' ++ new') (cap * z))) := by
    intro H1 S1 en hlt e b cap hbn hcap
    have hgl : (old' ++ new').length ≤ cap * z := by
      rw [List.length_append, sl_length hov, sl_length hy, ← Nat.add_mul]
      exact Nat.mul_le_mul_right _ hcap
    have S2 := S1.push (p := ⟨b, 0, cap, 0, []⟩) (B := .row (old ++ [(y.len * z, new)]) (.sym z)) (x := .row (old' ++ new') (cap * z)) (by omega) hbn (BD.mk (pre := []) (mid := old' ++ new') (rest := []) hroN (by simp) rfl (by rw [hflN]; exact SDl.mono (Ro.le_push _ _) _ (ho.app hn)) ⟨rfl, by show 0 + cap * z ≤ cap * z; omega⟩ hgl)
    refine kr _ _ _ _ _ (Ro.le_push _ _) S2 ?_ e
    have hget : (r ++ [(⟨b, 0, cap, 0, []⟩ : Pl3)])[H.n]? = some ⟨b, 0, cap, 0, []⟩ := by rw [List.getElem?_append_right (by rw [S.len]; exact Nat.le_refl _), S.len]; simp
    exact ⟨⟨_, rfl, _, hget, rfl⟩, by simp only; rw [hlen], ⟨_, _, rfl, hget, rfl, hcap⟩⟩
  refine ⟨old', new', hov, hy, hroom, hone, ?_, ?_⟩
  · -- in place
    intro hfit
    split at e
    · -- nil
      rename_i hbase hcap
      rw [hbase] at hb
      rw [hcap] at hc
      have hb : x.base = none := hb
      have hc : x.cap = 0 := hc
      rw [hb]
      have h1 : s.len = 0 := (hnil hbase).1
      have h2 : y.len = 0 := by omega
      rw [h2] at e ⊢
      simp only at e
      have h3 : x.len = 0 := by omega
      rw [h3, hc]
      exact kr r H h ⟨none, 0, .lit 0⟩ _ (Ro.le_refl _) S ⟨rfl, rfl, rfl⟩ e
    · -- a capacity that is known
      rename_i a c hbase hcap
      rw [hbase] at hb
      rw [hcap] at hc
      have hc : x.cap = c := hc
      obtain ⟨ad, hy', q, hq, rfl⟩ := hb
      rw [hy']
      split at e
      · obtain ⟨cs, rm, p, pre, mid, rest, tot, hg, e, hp, hh, hl, ⟨hd, ro⟩, hr, ht⟩ := row_inv S e
        obtain rfl : p = q := Option.some.inj (hp.symm.trans hq)
        split at e
        · rename_i tot2
          split at e
          · rename_i hb2
            have g1 := Nat.le_of_ble_eq_true hb2
            split at e
            case h_2 => cases e
            rename_i cs' hcs
            obtain ⟨g2, ro', hfl⟩ := overR_eq ro hnl0 hcs
            have hdl := hd.len
            have hr' : p.o + tot2 = tot := hr.2
            obtain ⟨A, B, e1, e2, e3⟩ : ∃ A B, pre ++ (mid ++ rest) = A ++ (old' ++ B) ∧ A.length = p.o + a.o ∧ old'.length = s.len * z := by
              unfold Sl.vals at hov
              rw [hy'] at hov
              unfold Heap.vals at hov
              simp only [hh] at hov
              obtain ⟨A, B, e1, e2, e3⟩ := cut_split hov
              exact ⟨A, B, e1, e2, by rw [e3, hlen]⟩
            refine ⟨_, tot, rfl, hh, by simp only; rw [hlen]; simp; omega, by simp only; rw [hc]; omega, ?_⟩
            -- what is written behind may be beyond what is known: known cells end at the new ones
            have hnl := hn.len
            have key : splice (pre ++ (mid ++ rest)) (p.o + a.o + x.len * z) new' = pre ++ (splice (mid ++ rest) (a.o + s.len * z) new') := by
              unfold splice
              rw [hlen, ← hl]
              rw [List.take_append, List.take_of_length_le (by omega)]
              rw [show pre.length + a.o + s.len * z - pre.length = a.o + s.len * z by omega]
              rw [show pre.length + a.o + s.len * z + new'.length = pre.length + (a.o + s.len * z + new'.length) by omega, ← List.drop_drop, List.drop_left]
              simp
            have key2 : splice (mid ++ rest) (a.o + s.len * z) new' = splice mid (a.o + s.len * z) new' ++ (if a.o + s.len * z + new'.length ≤ mid.length then rest else rest.drop (a.o + s.len * z + new'.length - mid.length)) := by
              unfold splice
              rw [List.take_append_of_le_length (by omega)]
              split
              · rw [List.drop_append_of_le_length (by omega)]; simp
              · rename_i hgt
                rw [List.drop_append, List.drop_of_length_le (l := mid) (by omega)]; simp
            have hnl2 := sl_length hy
            have hsl : (splice (pre ++ (mid ++ rest)) (p.o + a.o + x.len * z) new').length ≤ tot := by
              have hm : (x.len + y.len) * z ≤ c * z := Nat.mul_le_mul_right _ (by omega)
              rw [Nat.add_mul] at hm
              unfold splice; simp at ht ⊢; omega
            have S2 : Sat r h0 (H.put a.b (.row cs' (.lit tot2))) (h.set p.b (.row (splice (pre ++ (mid ++ rest)) (p.o + a.o + x.len * z) new') tot)) := by
              rcases hfl with hfl | hfl
              · refine S.put (B := .row cs' (.lit tot2)) hg trivial hp (BD.mk (pre := pre) ro' (by rw [key, key2]) hl ?_ hr hsl)
                rw [hfl]
                unfold splice
                rw [hnl]
                exact ((hd.take _).app hn).app (hd.drop _)
              · refine S.put (B := .row cs' (.lit tot2)) hg trivial hp (BD.mk (pre := pre) (mid := mid.take (a.o + s.len * z) ++ new') (rest := (mid ++ rest).drop (a.o + s.len * z + new'.length)) ro' ?_ hl ?_ hr hsl)
                · rw [key]
                  unfold splice
                  rw [List.take_append_of_le_length (by omega), List.append_assoc]
                · rw [hfl]
                  exact (hd.take _).app hn
            refine kr r _ _ ⟨some a, s.len + y.len, .lit c⟩ _ (Ro.le_refl _) S2 ⟨⟨_, rfl, _, hp, rfl⟩, by simp only; rw [hlen], hc⟩ e
          · cases e
        · cases e
      · rename_i hbig
        have : ¬ (s.len + y.len ≤ c) := fun h => by rw [Nat.ble_eq_true_of_le h] at hbig; cases hbig
        omega
    · -- a capacity that is the block's
      rename_i a q' hbase hcap
      rw [hbase] at hb
      rw [hcap] at hc
      obtain ⟨ad, hy', q, hq, rfl⟩ := hb
      obtain ⟨a2, p2, f1, f2, f3, f4⟩ := hc
      rw [hbase] at f1; cases f1
      rw [hq] at f2; cases f2
      rw [hy']
      obtain ⟨cs, rm, p, pre, mid, rest, tot, hg, e, hp, hh, hl, ⟨hd, ro⟩, hr, ht⟩ := row_inv S e
      obtain rfl : p = q := Option.some.inj (hp.symm.trans hq)
      split at e
      · rename_i zz
        split at e
        · rename_i hb2
          rw [Bool.and_eq_true, Bool.and_eq_true] at hb2
          obtain ⟨⟨g1, g2⟩, g3⟩ := hb2
          rw [Bool.and_eq_true] at g2
          have g1 := Nat.eq_of_beq_eq_true g1
          have g20 : a.o = 0 := Nat.eq_of_beq_eq_true g2.2
          have g2 := Nat.eq_of_beq_eq_true g2.1
          have g3 := hblt g3
          subst g1
          have ho0 : p.o = 0 := hr.1
          have hr : p.o + p.c * zz ≤ tot := hr.2
          obtain ⟨A, B, e1, e2, e3⟩ : ∃ A B, pre ++ (mid ++ rest) = A ++ (old' ++ B) ∧ A.length = p.o + a.o ∧ old'.length = s.len * zz := by
            unfold Sl.vals at hov
            rw [hy'] at hov
            unfold Heap.vals at hov
            simp only [hh] at hov
            obtain ⟨A, B, e1, e2, e3⟩ := cut_split hov
            exact ⟨A, B, e1, e2, by rw [e3, hlen]⟩
          have hroom2 : p.o + a.o + x.cap * zz ≤ tot := by
            have : (x.cap + q') * zz = p.c * zz := by rw [f3]
            rw [Nat.add_mul] at this
            omega
          refine ⟨_, tot, rfl, hh, by rw [e1, List.length_append, List.length_append, e2, e3, hlen]; simp only; omega, hroom2, ?_⟩
          simp only
          have hsp : splice (pre ++ (mid ++ rest)) (p.o + a.o + x.len * zz) new' = A ++ ((old' ++ new') ++ B.drop new'.length) := by
            rw [e1, hlen, ← e2, ← e3]; exact splice_split
          have hnl2 := sl_length hy
          have hsl : (splice (pre ++ (mid ++ rest)) (p.o + a.o + x.len * zz) new').length ≤ tot := by
            have hm : (x.len + y.len) * zz ≤ x.cap * zz := Nat.mul_le_mul_right _ (by omega)
            rw [Nat.add_mul] at hm
            unfold splice; simp at ht ⊢; omega
          have S2 := S.move (B := .row (old ++ [(y.len * zz, new)]) (.sym zz)) (p := p) (q := ⟨p.b, p.o + a.o, x.cap, 0, []⟩) (x := .row (splice (pre ++ (mid ++ rest)) (p.o + a.o + x.len * zz) new') tot) g3 hg trivial hp rfl
            (BD.mk (pre := A) (mid := old' ++ new') (rest := B.drop new'.length) hroN hsp e2 (by rw [hflN]; exact SDl.mono (Ro.le_push _ _) _ (ho.app hn)) ⟨by simp only; omega, hroom2⟩ hsl)
          have hget : (r ++ [(⟨p.b, p.o + a.o, x.cap, 0, []⟩ : Pl3)])[H.n]? = some ⟨p.b, p.o + a.o, x.cap, 0, []⟩ := by rw [List.getElem?_append_right (by rw [S.len]; exact Nat.le_refl _), S.len]; simp
          refine kr _ _ _ ⟨some ⟨H.n, 0⟩, s.len + y.len, .sym 0⟩ _ (Ro.le_push _ _) S2 ⟨⟨_, rfl, _, hget, rfl⟩, by simp only; rw [hlen], ⟨_, _, rfl, hget, rfl, hfit⟩⟩ e
        · cases e
      · cases e
    · cases e
  · -- at a new place
    intro hgt
    split at e
    · rename_i hbase hcap
      split at e
      · rename_i hm
        rw [hcap] at hc
        have hc : x.cap = 0 := hc
        have := (hnil hbase).1
        omega
      · rename_i m hm
        split at e
        · rename_i hlt
          exact grow H S rfl (hblt hlt) e
        · cases e
    · rename_i a c hbase hcap
      split at e
      · rename_i hle
        have := Nat.le_of_ble_eq_true hle
        rw [hcap] at hc
        have hc : x.cap = c := hc
        omega
      · split at e
        · rename_i hlt
          exact grow H S rfl (hblt hlt) e
        · cases e
    · rename_i a q' hbase hcap
      obtain ⟨cs, rm, p, pre, mid, rest, tot, hg, e, hp, hh, hl, hd, hr, ht⟩ := row_inv S e
      split at e
      · split at e
        · rename_i hb2
          rw [Bool.and_eq_true] at hb2
          exact grow _ (S.kill (S.top _ _ hg)) rfl (hblt hb2.2) e
        · cases e
      · cases e
    · cases e
end
end Go.Hl

set_option linter.unusedVariables false
set_option linter.unusedSimpArgs false
set_option linter.unusedSectionVars false
namespace Go.Hl

theorem wrap_in (k : IntKind) {n : Int} (h1 : k.min ≤ n) (h2 : n ≤ k.max) : k.wrap n = n := by
  cases k <;> simp [IntKind.min, IntKind.max, IntKind.bits, IntKind.signed] at h1 h2 <;> simp [IntKind.wrap, IntKind.bits, IntKind.signed] <;> omega
section
variable {r : Ro} {h0 : Heap} {h : Heap} {g : Prop}
theorem num_inv {H : CH} {i : Nat} {k : Int → Int → Nat → Nat → Tx → Bool} (e : H.num i k = true) : ∃ lo hi m q t, H.t.get i = some (.num lo hi m q t) ∧ k lo hi m q t = true := by
  unfold CH.num at e
  split at e
  · rename_i lo hi m q t hg; exact ⟨lo, hi, m, q, t, hg, e⟩
  · cases e
theorem num_in {H : CH} (S : Sat r h0 H h) {i : Nat} {p : Pl3} (hp : r[i]? = some p) {lo hi : Int} {m q : Nat} {t : Tx} (hg : H.t.get i = some (.num lo hi m q t)) : lo ≤ p.v ∧ p.v ≤ hi ∧ p.v % (m : Int) = q := (S.sym i _ p hg hp).1
theorem num_learn {H : CH} (S : Sat r h0 H h) {i : Nat} {p : Pl3} (hp : r[i]? = some p) {lo0 hi0 : Int} {m0 q0 : Nat} {t : Tx} (hg : H.t.get i = some (.num lo0 hi0 m0 q0 t)) (lo hi : Int) {m q : Nat} (hs : lo ≤ p.v ∧ p.v ≤ hi ∧ p.v % (m : Int) = q) : Sat r h0 (H.put i (.num lo hi m q t)) h :=
  S.learn hg (fun h => h.elim) fun p' hp' => by rw [hp] at hp'; cases hp'; exact ⟨hs, (S.sym i _ p hg hp).2⟩
theorem each_ok {i : Nat} {p : Pl3} (hp : r[i]? = some p) {m q : Nat} (hm : p.v % (m : Int) = q) {k : Int → ER} {H : CH} (S : Sat r h0 H h) {lo0 hi0 : Int} {m0 q0 : Nat} {t : Tx} (hg : H.t.get i = some (.num lo0 hi0 m0 q0 t)) (kr : ∀ H', Sat r h0 H' h → k p.v H' = true → g) : ∀ (n : Nat) (v : Int), v ≤ p.v → p.v < v + n → eEach i k m q t n v H = true → g
  | 0, v, h1, h2, e => by omega
  | n + 1, v, h1, h2, e => by
    unfold eEach at e
    rw [Bool.and_eq_true] at e
    by_cases hv : p.v = v
    · have := e.1
      rw [← hv, decide_eq_true hm] at this
      exact kr _ (num_learn S hp hg _ _ ⟨Int.le_refl _, Int.le_refl _, hm⟩) this
    · exact each_ok hp hm S hg kr n (v + 1) (by omega) (by omega) e.2
theorem concI_ok {i : Nat} {p : Pl3} (hp : r[i]? = some p) {k : Int → ER} {H : CH} (S : Sat r h0 H h) (e : eConcI i k H = true) (kr : ∀ H', Sat r h0 H' h → k p.v H' = true → g) : g := by
  obtain ⟨lo, hi, m, q, t, hg, e⟩ := num_inv e
  obtain ⟨h1, h2, h3⟩ := num_in S hp hg
  split at e
  · exact each_ok hp h3 S hg kr _ _ h1 (by omega) e
  · cases e
theorem conc_ok {v : SV} {w : Value} (hv : SD r v w) {k : SV → ER} {H : CH} (S : Sat r h0 H h) (e : eConc v k H = true) (kr : ∀ v' H', Sat r h0 H' h → SD r v' w → k v' H' = true → g) : g := by
  cases v with
  | sint kk i c =>
    obtain ⟨p, hp, rfl⟩ := hv
    exact concI_ok hp S e fun H' S' e => kr _ _ S' (by exact rfl) e
  | ostr i =>
    obtain ⟨p, hp, rfl⟩ := hv
    unfold eConc at e
    simp only at e
    split at e
    · rename_i l nots hg
      have := (S.sym i _ p hg hp).2.2.1 l rfl
      exact kr _ _ S (by rw [this]; exact rfl) e
    · cases e
  | _ => exact kr _ _ S hv e
theorem concs_ok : ∀ {v : List SV} {w : List Value} (hv : SDl r v w) {k : List SV → ER} {H : CH} (S : Sat r h0 H h) (e : eConcs v k H = true) (kr : ∀ v' H', Sat r h0 H' h → SDl r v' w → k v' H' = true → g), g
  | [], w, hv, k, H, S, e, kr => kr _ _ S hv e
  | v :: vs, w, hv, k, H, S, e, kr => by
    obtain ⟨y, z, rfl, h1, h2⟩ := hv
    exact conc_ok h1 S e fun v' H' S' hv' e => concs_ok h2 S' e fun vs' H2 S2 hvs e => kr _ _ S2 (SDl.cons hv' hvs) e
theorem ltS_ok {i : Nat} {d : Int} {p : Pl3} (hp : r[i]? = some p) {k : Bool → ER} {H : CH} (S : Sat r h0 H h) (e : eLtS i d k H = true) (kr : ∀ H', Sat r h0 H' h → k (decide (p.v < d)) H' = true → g) : g := by
  obtain ⟨lo, hi, m, q, t, hg, e⟩ := num_inv e
  obtain ⟨h1, h2, h3⟩ := num_in S hp hg
  split at e
  · rename_i c; have c := of_decide_eq_true c
    exact kr H S (by rw [decide_eq_true (by omega)]; exact e)
  · split at e
    · rename_i c; have c := of_decide_eq_true c
      exact kr H S (by rw [decide_eq_false (by omega)]; exact e)
    · rw [Bool.and_eq_true] at e
      by_cases hv : p.v < d
      · exact kr _ (num_learn S hp hg lo (d - 1) ⟨h1, by omega, h3⟩) (by rw [decide_eq_true hv]; exact e.1)
      · exact kr _ (num_learn S hp hg d hi ⟨by omega, h2, h3⟩) (by rw [decide_eq_false hv]; exact e.2)
theorem eqS_ok {i : Nat} {d : Int} {p : Pl3} (hp : r[i]? = some p) {k : Bool → ER} {H : CH} (S : Sat r h0 H h) (e : eEqS i d k H = true) (kr : ∀ H', Sat r h0 H' h → k (decide (p.v = d)) H' = true → g) : g := by
  obtain ⟨lo, hi, m, q, t, hg, e⟩ := num_inv e
  obtain ⟨h1, h2, h3⟩ := num_in S hp hg
  split at e
  · rename_i c; have c := of_decide_eq_true c
    exact kr H S (by rw [decide_eq_false (fun hv => by subst hv; omega)]; exact e)
  · rw [Bool.and_eq_true] at e
    by_cases hv : p.v = d
    · exact kr _ (num_learn S hp hg d d ⟨by omega, by omega, h3⟩) (by rw [decide_eq_true hv]; exact e.1)
    · have e2 := e.2
      have kf : ∀ lo' hi', lo' ≤ p.v → p.v ≤ hi' → k false (H.put i (.num lo' hi' m q t)) = true → g := fun lo' hi' a b e => kr _ (num_learn S hp hg _ _ ⟨a, b, h3⟩) (by rw [decide_eq_false hv]; exact e)
      split at e2
      · rename_i c1 c2; have c1 := of_decide_eq_true c1; have c2 := of_decide_eq_true c2; omega
      · rename_i c1 c2; have c1 := of_decide_eq_true c1; exact kf _ _ (by omega) h2 e2
      · rename_i c1 c2; have c2 := of_decide_eq_true c2; exact kf _ _ h1 (by omega) e2
      · rw [Bool.and_eq_true] at e2
        by_cases hl : p.v < d
        · exact kf _ _ h1 (by omega) e2.1
        · exact kf _ _ (by omega) h2 e2.2
theorem addS_ok {kk : IntKind} {i : Nat} {c : Int} {p : Pl3} (hp : r[i]? = some p) {fb : ER} {k : SV → ER} {H : CH} (S : Sat r h0 H h) (e : eAddS kk i c fb k H = true) (kr : kk.wrap (p.v + c) = p.v + c → k (.sint kk i c) H = true → g) (kf : fb H = true → g) : g := by
  obtain ⟨lo, hi, m, q, t, hg, e⟩ := num_inv e
  obtain ⟨h1, h2, h3⟩ := num_in S hp hg
  split at e
  · rename_i cc; have cc := of_decide_eq_true cc
    exact kr (wrap_in kk (by omega) (by omega)) e
  · exact kf e
theorem resid_ok {kk : IntKind} {i : Nat} {lo hi c : Int} {n : Nat} {p : Pl3} (hp : r[i]? = some p) (hin : lo ≤ p.v ∧ p.v ≤ hi) {k : SV → ER} {H : CH} (S : Sat r h0 H h) {lo0 hi0 : Int} {m0 q0 : Nat} {t : Tx} (hg : H.t.get i = some (.num lo0 hi0 m0 q0 t)) {a : Nat} (ha : p.v % (n : Int) = (a : Int)) (kr : ∀ H', Sat r h0 H' h → k (.int kk (((a : Int) + c) % (n : Int))) H' = true → g) : ∀ m, a < m → eResid kk i lo hi c n t k m H = true → g
  | 0, h, e => by omega
  | m + 1, hm, e => by
    unfold eResid at e
    rw [Bool.and_eq_true] at e
    by_cases q : a = m
    · subst q
      have hle : iLe (iAdd lo (((a : Int) - lo) % (n : Int))) hi = true := by
        rw [iLe_eq, iAdd_eq]
        refine decide_eq_true ?_
        have h1 : ((a : Int) - lo) % (n : Int) = (p.v - lo) % (n : Int) := by rw [← ha, Int.sub_emod, Int.emod_emod, ← Int.sub_emod]
        have h2 := Int.emod_add_mul_ediv (p.v - lo) (n : Int)
        have h3 : 0 ≤ (n : Int) * ((p.v - lo) / (n : Int)) := Int.mul_nonneg (by omega) (Int.ediv_nonneg (by omega) (by omega))
        omega
      have e1 := e.1
      simp only [hle] at e1
      exact kr _ (num_learn S hp hg _ _ ⟨hin.1, hin.2, ha⟩) e1
    · exact resid_ok hp hin S hg ha kr m (by omega) e.2
theorem remS_ok {kk : IntKind} {i : Nat} {c n : Int} {p : Pl3} (hp : r[i]? = some p) {fb : ER} {k : SV → ER} {H : CH} (S : Sat r h0 H h) (e : eRemS kk i c n fb k H = true) (kr : ∀ H', n ≠ 0 → Sat r h0 H' h → k (.int kk ((p.v + c).tmod n)) H' = true → g) (kf : fb H = true → g) : g := by
  obtain ⟨lo, hi, m, q, t, hg, e⟩ := num_inv e
  obtain ⟨h1, h2, h3⟩ := num_in S hp hg
  split at e
  · rename_i cc; have cc := of_decide_eq_true cc
    have hn : ((n.toNat : Nat) : Int) = n := by omega
    have ht : (p.v + c).tmod n = (p.v + c) % n := Int.tmod_eq_emod_of_nonneg (by omega)
    split at e
    · have hlt := Int.emod_lt_of_pos p.v (show (0 : Int) < n by omega)
      have hge := Int.emod_nonneg p.v (show (n : Int) ≠ 0 by omega)
      refine resid_ok (n := n.toNat) (a := (p.v % n).toNat) hp ⟨h1, h2⟩ S hg (by rw [hn]; omega) (fun H' S' e => kr H' (by omega) S' ?_) n.toNat (by omega) e
      rw [ht]
      have : ((((p.v % n).toNat : Nat) : Int) + c) % ((n.toNat : Nat) : Int) = (p.v + c) % n := by
        rw [hn, show (((p.v % n).toNat : Nat) : Int) = p.v % n by omega, Int.emod_add_emod]
      rw [← this]; exact e
    · split at e
      · rename_i c2; have c2 := of_decide_eq_true c2
        refine kr H (by omega) S ?_
        rw [ht]
        have : ((q : Int) + c) % n = (p.v + c) % n := by
          obtain ⟨z, hz⟩ := Nat.dvd_of_mod_eq_zero c2.2
          have hmn : (m : Int) = n * z := by rw [← hn, ← Int.natCast_mul, ← hz]
          rw [← h3, hmn, ← Int.emod_add_emod, Int.emod_emod_of_dvd _ (Int.dvd_mul_right n z), Int.emod_add_emod]
        rw [← this]; exact e
      · exact kf e
  · exact kf e
theorem strS_ok {i : Nat} {l : List UInt8} {p : Pl3} (hp : r[i]? = some p) {k : Bool → ER} {H : CH} (S : Sat r h0 H h) (e : eStrS i l k H = true) (kr : ∀ H', Sat r h0 H' h → k (p.s == l) H' = true → g) : g := by
  unfold eStrS at e
  split at e
  · rename_i l' nots hg
    have := (S.sym i _ p hg hp).2.2.1 l' rfl
    exact kr H S (by rw [this]; exact e)
  · rename_i lo hi m q nots hg
    obtain ⟨hs0, hs1, hs⟩ := S.sym i _ p hg hp
    have ne : p.s ≠ l → (p.s == l) = false := fun h => by simpa using h
    split at e
    · rename_i c
      exact kr H S (by rw [ne (hs.2 l (by simpa using c))]; exact e)
    · rw [Bool.and_eq_true] at e
      by_cases hv : p.s = l
      · refine kr _ (S.learn (B := .num lo hi m q (.tx (some l) nots)) hg (fun h => h.elim) fun p' hp' => ?_) (by rw [show (p.s == l) = true by simpa using hv]; exact e.1)
        rw [hp] at hp'; cases hp'
        exact ⟨hs0, hs1, fun l' h => by cases h; exact hv, hs.2⟩
      · refine kr _ (S.learn (B := .num lo hi m q (.tx none (l :: nots))) hg (fun h => h.elim) fun p' hp' => ?_) (by rw [ne hv]; exact e.2)
        rw [hp] at hp'; cases hp'
        refine ⟨hs0, hs1, fun l' h => (by cases h), fun l' hl' => ?_⟩
        rcases List.mem_cons.1 hl' with h | h
        · subst h; exact hv
        · exact hs.2 l' h
  · cases e
theorem tx_inv {H : CH} (S : Sat r h0 H h) {i : Nat} {p : Pl3} (hp : r[i]? = some p) {lo hi : Int} {m q : Nat} {kn : Option (List UInt8)} {nots : List (List UInt8)} (hg : H.t.get i = some (.num lo hi m q (.tx kn nots))) : p.v = (p.s.length : Int) ∧ p.v ≤ hi := ⟨(S.sym i _ p hg hp).2.1, (S.sym i _ p hg hp).1.2.1⟩
end
end Go.Hl

set_option linter.unusedVariables false
set_option linter.unusedSimpArgs false
set_option linter.unusedSectionVars false
namespace Go.Hl

def ED (r : Ro) : EVE → EV → Prop
  | .un, _ => True
  | .sk, x => x = .sk
  | .tt, x => x = .tt
  | .ff, x => x = .ff
  | .over, x => x = .over
  | .step a b, x => ∃ v w, x = .step v w ∧ SD r a v ∧ SD r b w
  | .v a, x => ∃ v, x = .val v ∧ SD r a v
theorem ED.mono {r s : Ro} (l : r.le s) : ∀ {a : EVE} {x : EV}, ED r a x → ED s a x
  | .un, _, h => h
  | .sk, _, h => h
  | .tt, _, h => h
  | .ff, _, h => h
  | .over, _, h => h
  | .step a b, _, h => by obtain ⟨v, w, e, h1, h2⟩ := h; exact ⟨v, w, e, h1.mono l, h2.mono l⟩
  | .v a, _, h => by obtain ⟨v, e, h⟩ := h; exact ⟨v, e, h.mono l⟩
theorem ED.get {r : Ro} {a : EVE} {x : EV} (h : ED r a x) {v : SV} (e : a.get = some v) : ∃ w, x.get = some w ∧ SD r v w := by
  cases a with
  | un => cases e
  | sk => cases e; rw [show x = .sk from h]; exact ⟨_, rfl, [], rfl, rfl⟩
  | tt => cases e; rw [show x = .tt from h]; exact ⟨_, rfl, rfl⟩
  | ff => cases e; rw [show x = .ff from h]; exact ⟨_, rfl, rfl⟩
  | over => cases e; rw [show x = .over from h]; exact ⟨_, rfl, [_], SDl.cons rfl rfl, rfl⟩
  | step a b => cases e; obtain ⟨v', w', rfl, h1, h2⟩ := h; exact ⟨_, rfl, [_, _, _], SDl.cons rfl (SDl.cons h1 (SDl.cons h2 rfl)), rfl⟩
  | v a => cases e; obtain ⟨w, rfl, hw⟩ := h; exact ⟨w, rfl, hw⟩
theorem gv_ok {r : Ro} {a : EVE} {x : EV} (hx : ED r a x) {H : CH} {h : Heap} {k : SV → ER} {k' : Value → Pr} (e : eGv a k H = true) (kr : ∀ v w, SD r v w → k v H = true → k' w h) : gv x k' h := by
  unfold eGv at e
  cases ha : a.get with
  | none => rw [ha] at e; exact eF_no e
  | some v =>
    rw [ha] at e
    obtain ⟨w, hw, hs⟩ := hx.get ha
    unfold gv
    rw [hw]
    exact kr v w hs e
theorem gvs_ok {r : Ro} {e : Operand → EVE} {e' : Operand → EV} (he : ∀ x, ED r (e x) (e' x)) {H : CH} {h : Heap} : ∀ (l : List Operand) {k : List SV → ER} {k' : List Value → Pr}, eGvs (l.map e) k H = true → (∀ v w, SDl r v w → k v H = true → k' w h) → gvs (l.map e') k' h
  | [], k, k', E, kr => kr [] [] rfl E
  | x :: l, k, k', E, kr => by
    refine gv_ok (he x) E fun v w hv E => ?_
    exact gvs_ok he l E fun vs ws hvs E => kr (v :: vs) (w :: ws) (SDl.cons hv hvs) E
/-- The parts of a literal. -/
def PD (r : Ro) : List (Nat × SV) → List (Nat × Value) → Prop
  | [], x => x = []
  | (i, a) :: l, x => ∃ y z, x = (i, y) :: z ∧ SD r a y ∧ PD r l z
theorem partsOf_ok {r : Ro} {e : Operand → EVE} {e' : Operand → EV} (he : ∀ x, ED r (e x) (e' x)) {H : CH} {h : Heap} : ∀ (l : List (Nat × Operand)) {k : List (Nat × SV) → ER} {k' : List (Nat × Value) → Pr}, ePartsOf e l k H = true → (∀ v w, PD r v w → k v H = true → k' w h) → partsOf e' l k' h
  | [], k, k', E, kr => kr [] [] rfl E
  | (i, x) :: l, k, k', E, kr => by
    refine gv_ok (he x) E fun v w hv E => ?_
    exact partsOf_ok he l E fun vs ws hvs E => kr ((i, v) :: vs) ((i, w) :: ws) ⟨w, ws, rfl, hv, hvs⟩ E
theorem str_eq {a b : List UInt8} : strEq ⟨⟨a⟩⟩ ⟨⟨b⟩⟩ = (a == b) := by
  unfold strEq
  rw [show (⟨⟨a⟩⟩ : ByteArray).toList = a from by rw [ByteArray.toList_eq], show (⟨⟨b⟩⟩ : ByteArray).toList = b from by rw [ByteArray.toList_eq]]
theorem str_app {a b : List UInt8} : (⟨⟨a⟩⟩ : ByteArray) ++ ⟨⟨b⟩⟩ = ⟨⟨a ++ b⟩⟩ := by
  apply ByteArray.ext; rw [ByteArray.data_append]; simp
theorem str_cut {a : List UInt8} {l n : Nat} : (⟨⟨a⟩⟩ : ByteArray).extract l n = ⟨⟨(a.drop l).take (n - l)⟩⟩ := by
  apply ByteArray.ext; rw [ByteArray.data_extract]; apply Array.ext'; rw [Array.toList_extract]
theorem str_size {a : List UInt8} : (⟨⟨a⟩⟩ : ByteArray).size = a.length := rfl
theorem str_less {a b : List UInt8} : Op.bytesLess (⟨⟨a⟩⟩ : ByteArray).toList (⟨⟨b⟩⟩ : ByteArray).toList = Op.bytesLess a b := by
  rw [show (⟨⟨a⟩⟩ : ByteArray).toList = a from by rw [ByteArray.toList_eq], show (⟨⟨b⟩⟩ : ByteArray).toList = b from by rw [ByteArray.toList_eq]]
theorem str_at' {a : List UInt8} {i : Int} : byteAt ⟨⟨a⟩⟩ i = (((a[i.toNat]?).getD 0).toNat : Nat) := by
  unfold byteAt
  have : (⟨⟨a⟩⟩ : ByteArray)[i.toNat]? = a[i.toNat]? := by
    by_cases h : i.toNat < a.length
    · rw [getElem?_pos (⟨⟨a⟩⟩ : ByteArray) i.toNat h, List.getElem?_eq_getElem h]; rfl
    · rw [getElem?_neg (⟨⟨a⟩⟩ : ByteArray) i.toNat h, List.getElem?_eq_none (by omega)]
  rw [this]
theorem assert_ok {H : CH} {h : Heap} {c : Bool} {φ : Prop} {p : ER} {p' : Pr} (e : eAssert c p H = true) (hc : c = true → φ) (hp : p H = true → p' h) : pAssert φ p' h := by
  unfold eAssert at e
  cases c with
  | true => exact ⟨hc rfl, hp e⟩
  | false => cases e
theorem assert_inv {H : CH} {c : Bool} {p : ER} (e : eAssert c p H = true) : c = true ∧ p H = true := by
  unfold eAssert at e
  cases c with
  | true => exact ⟨rfl, e⟩
  | false => cases e
theorem idx_ok {H : CH} {h : Heap} {i : Int} {n : Nat} {p : ER} {p' : Pr} (e : eIdx i n p H = true) (hp : p H = true → p' h) : pIdx i n p' h := by
  obtain ⟨h1, h2⟩ := assert_inv e
  rw [Bool.and_eq_true, iLe_eq, iLt_eq, decide_eq_true_eq, decide_eq_true_eq] at h1
  exact ⟨h1.1, h1.2, hp h2⟩
theorem AD.add {r : Ro} {a : EA} {x : Addr} (h : AD r a x) (n : Nat) : AD r (a.add n) (x.add n) := by
  obtain ⟨p, h1, rfl⟩ := h
  exact ⟨p, h1, by rw [add_mk]; show _ = (⟨p.b, p.o + (a.o + n), none⟩ : Addr); rw [Nat.add_assoc]⟩
theorem okCell_rel {r : Ro} {c : CT} {v : SV} {w : Value} (h : SD r v w) : okCellE c v = true → okCell c w = true := by
  intro e
  cases c <;> cases v <;> simp only [okCellE] at e <;> try cases e
  · rw [h]; exact e
  · rw [h]; rfl
  · rw [h]; rfl
theorem okCells_rel {r : Ro} : ∀ {l : List CT} {v : List SV} {w : List Value}, SDl r v w → okCellsE l v = true → okCells l w = true
  | [], [], _, h, _ => by rw [h]; rfl
  | [], _ :: _, _, h, e => by cases e
  | _ :: _, [], _, h, e => by cases e
  | c :: l, a :: v, _, h, e => by
    obtain ⟨y, z, rfl, h1, h2⟩ := h
    simp only [okCellsE, Bool.and_eq_true] at e
    simp only [okCells, Bool.and_eq_true]
    exact ⟨okCell_rel h1 e.1, okCells_rel h2 e.2⟩
theorem okCellS_rel {r : Ro} {c : CT} {v : SV} {w : Value} (h : SD r v w) : okCellS c v = true → okCell c w = true := by
  intro e
  unfold okCellS at e
  split at e
  · obtain ⟨_, _, rfl⟩ := h; exact e
  · obtain ⟨_, _, rfl⟩ := h; rfl
  · exact okCell_rel h e
theorem symEq_rel {r : Ro} {c : CT} {a b : SV} {v w : Value} (ha : SD r a v) (hb : SD r b w) (e : symEq c a b = true) : okCell c v = true ∧ okCell c w = true ∧ eqv v w = true := by
  unfold symEq at e
  split at e
  · obtain ⟨p, hp, rfl⟩ := ha
    obtain ⟨q, hq, rfl⟩ := hb
    simp only [Bool.and_eq_true, iEq_eq, beq_iff_eq] at e
    obtain ⟨⟨rfl, rfl⟩, e3, rfl⟩ := e
    have e3 := Nat.eq_of_beq_eq_true e3
    subst e3
    obtain rfl : p = q := Option.some.inj (hp.symm.trans hq)
    exact ⟨by simp [okCell], by simp [okCell], by simp [eqv]⟩
  · obtain ⟨p, hp, rfl⟩ := ha
    obtain ⟨q, hq, rfl⟩ := hb
    have e3 := Nat.eq_of_beq_eq_true e
    subst e3
    obtain rfl : p = q := Option.some.inj (hp.symm.trans hq)
    exact ⟨rfl, rfl, by show strEq _ _ = true; rw [str_eq]; simp⟩
  · cases e
theorem eqvC_rel {r : Ro} {c : CT} {a b : SV} {v w : Value} (ha : SD r a v) (hb : SD r b w) (e1 : okCellE c a = true) (f1 : okCellE c b = true) : eqv v w = eqvC a b := by
  cases c <;> cases a <;> simp only [okCellE] at e1 <;> (try cases e1) <;> cases b <;> simp only [okCellE] at f1 <;> (try cases f1)
  · rw [ha, hb]; simp only [eqv, eqvC, iEq_eq]
  · rw [ha, hb]; rfl
  · rw [ha, hb]; exact str_eq
theorem okL_ok {r : Ro} {g : Prop} {H : CH} : ∀ {l : List CT} {a b : List SV} {v w : List Value}, SDl r a v → SDl r b w → ∀ {p : ER}, eOkL l a b p H = true → (okCells l v = true → okCells l w = true → p H = true → g) → g
  | [], [], [], _, _, ha, hb, p, e, kr => by rw [show _ = [] from ha, show _ = [] from hb] at kr; exact kr rfl rfl e
  | c :: l, a :: x, b :: y, _, _, ha, hb, p, e, kr => by
    obtain ⟨v, vs, rfl, a1, a2⟩ := ha
    obtain ⟨w, ws, rfl, b1, b2⟩ := hb
    unfold eOkL at e
    cases hc : (okCellS c a && okCellS c b) with
    | false => simp only [hc] at e; exact eF_no e
    | true =>
      simp only [hc] at e
      rw [Bool.and_eq_true] at hc
      exact okL_ok a2 b2 e fun c1 c2 e => kr (by simp only [okCells, Bool.and_eq_true]; exact ⟨okCellS_rel a1 hc.1, c1⟩) (by simp only [okCells, Bool.and_eq_true]; exact ⟨okCellS_rel b1 hc.2, c2⟩) e
  | [], [], _ :: _, _, _, _, _, _, e, _ => by cases e
  | [], _ :: _, _, _, _, _, _, _, e, _ => by cases e
  | _ :: _, [], _, _, _, _, _, _, e, _ => by cases e
  | _ :: _, _ :: _, [], _, _, _, _, _, e, _ => by cases e
theorem eqL_ok {r : Ro} {h0 h : Heap} {g : Prop} : ∀ {l : List CT} {a b : List SV} {v w : List Value}, SDl r a v → SDl r b w → ∀ {H : CH} (S : Sat r h0 H h) {k : Bool → ER}, eEqL l a b k H = true → (∀ H' t, Sat r h0 H' h → okCells l v = true → okCells l w = true → t = eqCells v w → k t H' = true → g) → g
  | [], [], [], _, _, ha, hb, H, S, k, e, kr => by rw [show _ = [] from ha, show _ = [] from hb] at kr; exact kr H true S rfl rfl rfl e
  | c :: l, a :: x, b :: y, _, _, ha, hb, H, S, k, e, kr => by
    obtain ⟨v, vs, rfl, a1, a2⟩ := ha
    obtain ⟨w, ws, rfl, b1, b2⟩ := hb
    unfold eEqL at e
    cases hc : symEq c a b with
    | true =>
      simp only [hc] at e
      obtain ⟨c1, c2, c3⟩ := symEq_rel a1 b1 hc
      exact eqL_ok a2 b2 S e fun H' t S' d1 d2 d3 e => kr H' t S' (by simp only [okCells, Bool.and_eq_true]; exact ⟨c1, d1⟩) (by simp only [okCells, Bool.and_eq_true]; exact ⟨c2, d2⟩) (by simp only [eqCells, c3, Bool.true_and]; exact d3) e
    | false =>
      simp only [hc] at e
      refine conc_ok a1 S e fun a' H1 S1 a1 e => conc_ok b1 S1 e fun b' H2 S2 b1 e => ?_
      cases hc : (okCellE c a' && okCellE c b') with
      | false => simp only [hc] at e; exact eF_no e
      | true =>
        simp only [hc] at e
        rw [Bool.and_eq_true] at hc
        have c1 := okCell_rel a1 hc.1
        have c2 := okCell_rel b1 hc.2
        have c3 := eqvC_rel a1 b1 hc.1 hc.2
        cases he : eqvC a' b' with
        | true =>
          simp only [he] at e
          exact eqL_ok a2 b2 S2 e fun H' t S' d1 d2 d3 e => kr H' t S' (by simp only [okCells, Bool.and_eq_true]; exact ⟨c1, d1⟩) (by simp only [okCells, Bool.and_eq_true]; exact ⟨c2, d2⟩) (by simp only [eqCells, c3, he, Bool.true_and]; exact d3) e
        | false =>
          simp only [he] at e
          exact okL_ok a2 b2 e fun d1 d2 e => kr H2 false S2 (by simp only [okCells, Bool.and_eq_true]; exact ⟨c1, d1⟩) (by simp only [okCells, Bool.and_eq_true]; exact ⟨c2, d2⟩) (by simp only [eqCells, c3, he, Bool.false_and]) e
  | [], [], _ :: _, _, _, _, _, _, _, _, e, _ => by cases e
  | [], _ :: _, _, _, _, _, _, _, _, _, e, _ => by cases e
  | _ :: _, [], _, _, _, _, _, _, _, _, e, _ => by cases e
  | _ :: _, _ :: _, [], _, _, _, _, _, _, _, e, _ => by cases e
theorem eqCells_rel {r : Ro} : ∀ {l : List CT} {v u : List SV} {w x : List Value}, SDl r v w → SDl r u x → okCellsE l v = true → okCellsE l u = true → eqCells w x = eqCellsE v u
  | [], [], [], _, _, h, k, _, _ => by rw [h, k]; rfl
  | [], _ :: _, _, _, _, _, _, e, _ => by cases e
  | [], [], _ :: _, _, _, _, _, _, e => by cases e
  | _ :: _, [], _, _, _, _, _, e, _ => by cases e
  | _ :: _, _ :: _, [], _, _, _, _, _, e => by cases e
  | c :: l, a :: v, b :: u, _, _, h, k, e, f => by
    obtain ⟨y, z, rfl, h1, h2⟩ := h
    obtain ⟨y', z', rfl, k1, k2⟩ := k
    simp only [okCellsE, Bool.and_eq_true] at e f
    simp only [eqCells, eqCellsE]
    rw [eqCells_rel h2 k2 e.2 f.2]
    congr 1
    have e1 := e.1; have f1 := f.1
    cases c <;> cases a <;> simp only [okCellE] at e1 <;> (try cases e1) <;> cases b <;> simp only [okCellE] at f1 <;> (try cases f1)
    · rw [h1, k1]; simp only [eqv, eqvC, iEq_eq]
    · rw [h1, k1]; rfl
    · rw [h1, k1]; exact str_eq

section
variable {r : Ro} {h0 : Heap} {H : CH} {h : Heap} (S : Sat r h0 H h) {k : SV → ER} {k' : Value → Pr} (K : KR r h0 k k')
include S K
theorem KR.now {v : SV} {w : Value} (hv : SD r v w) (e : k v H = true) : k' w h := K r H h v w (Ro.le_refl _) S hv e
theorem ePick_ok {c a b : EVE} {c' a' b' : EV} (hc : ED r c c') (ha : ED r a a') (hb : ED r b b') (e : ePick c a b k H = true) : vcPick c' a' b' k' h := by
  unfold ePick at e
  unfold vcPick
  cases c with
  | un => exact eF_no e
  | sk => exact eF_no e
  | over => exact eF_no e
  | step _ _ => exact eF_no e
  | tt => rw [show c' = .tt from hc]; exact gv_ok ha e fun v w hv E => K.now S hv E
  | ff => rw [show c' = .ff from hc]; exact gv_ok hb e fun v w hv E => K.now S hv E
  | v c =>
    obtain ⟨w, rfl, hw⟩ := hc
    cases c with
    | bool t =>
      rw [show w = .bool t from hw]
      simp only
      refine gv_ok ha e fun x x' hx e => gv_ok hb e fun y y' hy e => ?_
      unfold ePick2 at e
      split at e
      · rename_i a b _
        rw [show x' = .bool a from hx, show y' = .bool b from hy]
        exact K.now S (by exact rfl) e
      · rename_i i a j b _
        rw [show x' = .int i a from hx, show y' = .int j b from hy]
        unfold pickV
        simp only
        split at e
        · rename_i ij
          rw [if_pos ij]
          exact K.now S (by exact rfl) e
        · exact eF_no e
      · rename_i a b _
        rw [show x' = .string ⟨⟨a⟩⟩ from hx, show y' = .string ⟨⟨b⟩⟩ from hy]
        unfold pickV
        refine K.now S (v := .str (if t = true then a else b)) ?_ e
        cases t <;> exact rfl
      · rename_i i a c j b _
        obtain ⟨p, hp, rfl⟩ := hx
        rw [show y' = .int j b from hy]
        unfold pickV
        simp only
        split at e
        · rename_i ij
          rw [if_pos ij]; subst ij
          refine K.now S ?_ e
          cases t
          · exact rfl
          · exact ⟨p, hp, rfl⟩
        · exact eF_no e
      · rename_i i a j b c _
        obtain ⟨p, hp, rfl⟩ := hy
        rw [show x' = .int i a from hx]
        unfold pickV
        simp only
        split at e
        · rename_i ij
          rw [if_pos ij]; subst ij
          refine K.now S ?_ e
          cases t
          · exact ⟨p, hp, rfl⟩
          · exact rfl
        · exact eF_no e
      · rename_i i a c j b d _
        obtain ⟨p, hp, rfl⟩ := hx
        obtain ⟨p', hp', rfl⟩ := hy
        unfold pickV
        simp only
        split at e
        · rename_i ij
          rw [if_pos ij]; subst ij
          refine K.now S ?_ e
          cases t
          · exact ⟨p', hp', rfl⟩
          · exact ⟨p, hp, rfl⟩
        · exact eF_no e
      · exact eF_no e
    | _ => exact eF_no e
omit K in
theorem eNil_ok {d : TypeDesc} {v u : SV} {v' u' : Value} (hv : SD r v v') (hu : SD r u u') {k : Bool → ER} {k' : Bool → Pr} (kr : ∀ b, k b H = true → k' b h) (e : eNil d v u k H = true) : nilTest d v' u' k' h := by
  unfold eNil at e
  split at e
  · rename_i a
    obtain ⟨x, hx, rfl⟩ := hv
    obtain ⟨y, hy, rfl⟩ := hu
    rw [show y = none from hy]
    unfold nilTest
    cases a with
    | none => rw [show x = none from hx]; exact kr _ e
    | some a => obtain ⟨z, rfl, _⟩ := hx; exact kr _ e
  · rename_i s l c
    obtain ⟨x, ⟨hx, _⟩, rfl⟩ := hv
    obtain ⟨y, ⟨hy, _⟩, rfl⟩ := hu
    have hy : y.base = none := hy
    rw [hy]
    unfold nilTest
    cases hb : s.base with
    | none => rw [hb] at hx e; rw [show x.base = none from hx]; exact kr _ e
    | some a => rw [hb] at hx e; obtain ⟨z, hz, _⟩ := hx; rw [hz]; exact kr _ e
  · rename_i a
    rw [show u' = .map none from hu]
    unfold nilTest
    cases a with
    | none => rw [show v' = .map none from hv]; exact kr _ e
    | some a => obtain ⟨z, _, rfl⟩ := hv; exact kr _ e
  · rw [show v' = .nilIface from hv, show u' = .nilIface from hu]
    exact kr _ e
  · obtain ⟨z, _, rfl⟩ := hv
    rw [show u' = .nilIface from hu]
    exact kr _ e
  · exact eF_no e
theorem eInt_ok {op : BinOp} {i : IntKind} {a b : Int} (e : eInt op i a b k H = true) : vcInt op i a b k' h := by
  have now : ∀ {v : SV} {w : Value}, SD r v w → k v H = true → k' w h := fun hv e => K.now S hv e
  cases op <;> simp only [eInt, fwrap_eq, iAdd_eq, iSub_eq, fbits_eq, iEq_eq, iLt_eq, iLe_eq] at e <;> simp only [vcInt] <;> first
    | exact eF_no e
    | exact now (by exact rfl) e
    | exact assert_ok e (fun h => by simpa using h) fun e => now (by exact rfl) e
theorem eBinC_ok {P : Program} {op : BinOp} {t : TypeId} {y : Operand} {v u : SV} {v' u' : Value} (hv : SD r v v') (hu : SD r u u') (e : eBinC P op t (isNilConst y) v u k H = true) : vcBin P op t y v' u' k' h := by
  have now : ∀ {v : SV} {w : Value}, SD r v w → k v H = true → k' w h := fun hv e => K.now S hv e
  unfold eBinC at e
  unfold vcBin
  cases hn : isNilConst y with
  | true =>
    simp only [hn] at e ⊢
    cases hu' : P.underlying t with
    | none => simp only [hu'] at e; exact eF_no e
    | some d =>
      simp only [hu'] at e ⊢
      cases op <;> simp only at e ⊢ <;> first
        | exact eF_no e
        | exact eNil_ok S hv hu (fun b e => now (by exact rfl) e) e
  | false =>
    simp only [hn] at e ⊢
    cases v with
    | int i a =>
      cases u with
      | int j b =>
        rw [show v' = .int i a from hv, show u' = .int j b from hu]
        cases op <;> simp only at e ⊢ <;> first
          | exact assert_ok e (fun h => by simpa [iLe_eq] using h) fun e => now (by first | exact rfl | (rw [fwrap_eq]; exact rfl)) e
          | (split at e
             · rename_i ij; rw [if_pos ij]; exact eInt_ok S K e
             · exact eF_no e)
      | _ => exact eF_no e
    | bool a =>
      cases u with
      | bool b =>
        rw [show v' = .bool a from hv, show u' = .bool b from hu]
        simp only at e ⊢
        cases hut : P.underlying t with
        | none => simp only [hut] at e; exact eF_no e
        | some d =>
          cases d <;> simp only [hut] at e ⊢ <;> first
            | exact eF_no e
            | (cases op <;> simp only at e ⊢ <;> first
                | exact eF_no e
                | exact now (by exact rfl) e)
      | _ => exact eF_no e
    | str a =>
      cases u with
      | str b =>
        rw [show v' = .string ⟨⟨a⟩⟩ from hv, show u' = .string ⟨⟨b⟩⟩ from hu]
        simp only at e ⊢
        cases op <;> simp only [str_eq, str_less, str_app] at e ⊢ <;> first
          | exact eF_no e
          | exact now (by exact rfl) e
          | exact assert_ok e (fun h => of_decide_eq_true h) fun e => now (by exact rfl) e
      | _ => exact eF_no e
    | agg a =>
      cases u with
      | agg b =>
        obtain ⟨a', ha, rfl⟩ := hv
        obtain ⟨b', hb, rfl⟩ := hu
        simp only at e ⊢
        cases h1 : flatTy P 50 t with
        | none => simp only [h1] at e; exact eF_no e
        | some l =>
          cases h2 : P.eqGuardType P.depth t with
          | true => simp only [h1, h2] at e; exact eF_no e
          | false =>
            cases h3 : (P.underlying t).any (fun d => decide (shapeD d = .agg)) with
            | false => simp only [h1, h2, h3] at e; exact eF_no e
            | true =>
              simp only [h1, h2, h3] at e ⊢
              cases op <;> simp only at e ⊢ <;> first
                | exact eF_no e
                | (refine eqL_ok ha hb S e fun H' t S' c1 c2 et e => ?_
                   subst et
                   exact ⟨⟨c1, c2⟩, K.now S' (by exact rfl) e⟩)
      | _ => exact eF_no e
    | _ => exact eF_no e
theorem eSI_ok {P : Program} {op : BinOp} {t : TypeId} {y : Operand} {ki kj : IntKind} {i : Nat} {c n : Int} {p : Pl3} (hp : r[i]? = some p) (e : eSI P op t (isNilConst y) ki i c kj n k H = true) : vcBin P op t y (.int ki (p.v + c)) (.int kj n) k' h := by
  have fb : eConcI i (fun v => eBinC P op t (isNilConst y) (.int ki (v + c)) (.int kj n) k) H = true → vcBin P op t y (.int ki (p.v + c)) (.int kj n) k' h := fun e =>
    concI_ok hp S e fun H' S' e => eBinC_ok S' K (by exact rfl) (by exact rfl) e
  unfold eSI at e
  cases hc : (isNilConst y || !decide (ki = kj)) with
  | true => simp only [hc] at e; exact fb e
  | false =>
    simp only [hc] at e
    rw [Bool.or_eq_false_iff] at hc
    obtain ⟨hn, hk⟩ := hc
    have hk : ki = kj := by simpa using hk
    subst hk
    have op2 : (∀ z, op ≠ .shl ∧ op ≠ .shr → vcInt op ki (p.v + c) n z h → vcBin P op t y (.int ki (p.v + c)) (.int ki n) z h) := by
      intro z ho hz
      unfold vcBin
      simp only [hn]
      cases op <;> simp_all
    have lt : ∀ {d : Int} {f : Bool → SV}, eLtS i d (fun b => k (f b)) H = true → (∀ b, SD r (f b) (.bool (match f b with | .bool x => x | _ => false))) → k' (.bool (match f (decide (p.v < d)) with | .bool x => x | _ => false)) h := fun e hf =>
      ltS_ok hp S e fun H' S' e => K.now S' (hf _) e
    have eq : ∀ {d : Int} {f : Bool → SV}, eEqS i d (fun b => k (f b)) H = true → (∀ b, SD r (f b) (.bool (match f b with | .bool x => x | _ => false))) → k' (.bool (match f (decide (p.v = d)) with | .bool x => x | _ => false)) h := fun e hf =>
      eqS_ok hp S e fun H' S' e => K.now S' (hf _) e
    have bl : ∀ {a b : Bool}, k' (.bool a) h → a = b → k' (.bool b) h := fun h e => e ▸ h
    cases op <;> simp only at e <;> first
      | exact fb e
      | exact addS_ok hp S e (fun hw e => op2 k' (by simp) (by
          simp only [vcInt]
          exact K.now S (by exact ⟨p, hp, by first | rw [show p.v + c + n = p.v + (c + n) by omega, hw] | rw [show p.v + c - n = p.v + (c - n) by omega, hw]⟩) e)) fb
      | exact remS_ok hp S e (fun H' hn0 S' e => op2 k' (by simp) ⟨hn0, K.now S' (by exact rfl) e⟩) fb
      | exact op2 k' (by simp) (bl (eq e fun b => rfl) (by simp only []; grind))
      | exact op2 k' (by simp) (bl (lt e fun b => rfl) (by simp only []; grind))
theorem eIS_ok {P : Program} {op : BinOp} {t : TypeId} {y : Operand} {ki kj : IntKind} {i : Nat} {c n : Int} {p : Pl3} (hp : r[i]? = some p) (e : eIS P op t (isNilConst y) kj n ki i c k H = true) : vcBin P op t y (.int kj n) (.int ki (p.v + c)) k' h := by
  have fb : eConcI i (fun v => eBinC P op t (isNilConst y) (.int kj n) (.int ki (v + c)) k) H = true → vcBin P op t y (.int kj n) (.int ki (p.v + c)) k' h := fun e =>
    concI_ok hp S e fun H' S' e => eBinC_ok S' K (by exact rfl) (by exact rfl) e
  unfold eIS at e
  cases hc : (isNilConst y || !decide (kj = ki)) with
  | true => simp only [hc] at e; exact fb e
  | false =>
    simp only [hc] at e
    rw [Bool.or_eq_false_iff] at hc
    obtain ⟨hn, hk⟩ := hc
    have hk : kj = ki := by simpa using hk
    subst hk
    have op2 : (∀ z, op ≠ .shl ∧ op ≠ .shr → vcInt op kj n (p.v + c) z h → vcBin P op t y (.int kj n) (.int kj (p.v + c)) z h) := by
      intro z ho hz
      unfold vcBin
      simp only [hn]
      cases op <;> simp_all
    have lt : ∀ {d : Int} {f : Bool → SV}, eLtS i d (fun b => k (f b)) H = true → (∀ b, SD r (f b) (.bool (match f b with | .bool x => x | _ => false))) → k' (.bool (match f (decide (p.v < d)) with | .bool x => x | _ => false)) h := fun e hf =>
      ltS_ok hp S e fun H' S' e => K.now S' (hf _) e
    have eq : ∀ {d : Int} {f : Bool → SV}, eEqS i d (fun b => k (f b)) H = true → (∀ b, SD r (f b) (.bool (match f b with | .bool x => x | _ => false))) → k' (.bool (match f (decide (p.v = d)) with | .bool x => x | _ => false)) h := fun e hf =>
      eqS_ok hp S e fun H' S' e => K.now S' (hf _) e
    have bl : ∀ {a b : Bool}, k' (.bool a) h → a = b → k' (.bool b) h := fun h e => e ▸ h
    cases op <;> simp only at e <;> first
      | exact fb e
      | exact addS_ok hp S e (fun hw e => op2 k' (by simp) (by
          simp only [vcInt]
          exact K.now S (by exact ⟨p, hp, by rw [show n + (p.v + c) = p.v + (c + n) by omega, hw]⟩) e)) fb
      | exact op2 k' (by simp) (bl (eq e fun b => rfl) (by simp only []; grind))
      | exact op2 k' (by simp) (bl (lt e fun b => rfl) (by simp only []; grind))
theorem eSS_ok {P : Program} {op : BinOp} {t : TypeId} {y : Operand} {ki kj : IntKind} {i j : Nat} {c d : Int} {p q : Pl3} (hp : r[i]? = some p) (hq : r[j]? = some q) (e : eSS P op t (isNilConst y) ki i c kj j d k H = true) : vcBin P op t y (.int ki (p.v + c)) (.int kj (q.v + d)) k' h := by
  have fb : eConcI i (fun v => eConcI j fun u => eBinC P op t (isNilConst y) (.int ki (v + c)) (.int kj (u + d)) k) H = true → vcBin P op t y (.int ki (p.v + c)) (.int kj (q.v + d)) k' h := fun e =>
    concI_ok hp S e fun H' S' e => concI_ok hq S' e fun H2 S2 e => eBinC_ok S2 K (by exact rfl) (by exact rfl) e
  unfold eSS at e
  cases hc : (isNilConst y || !(decide (ki = kj) && Nat.beq i j)) with
  | true => simp only [hc] at e; exact fb e
  | false =>
    simp only [hc] at e
    rw [Bool.or_eq_false_iff] at hc
    obtain ⟨hn, hk⟩ := hc
    have hk : (decide (ki = kj) && Nat.beq i j) = true := by simpa using hk
    rw [Bool.and_eq_true] at hk
    have hk1 : ki = kj := of_decide_eq_true hk.1
    have hk2 : i = j := Nat.eq_of_beq_eq_true hk.2
    subst hk1 hk2
    obtain rfl : p = q := Option.some.inj (hp.symm.trans hq)
    have op2 : (∀ z, op ≠ .shl ∧ op ≠ .shr → vcInt op ki (p.v + c) (p.v + d) z h → vcBin P op t y (.int ki (p.v + c)) (.int ki (p.v + d)) z h) := by
      intro z ho hz
      unfold vcBin
      simp only [hn]
      cases op <;> simp_all
    have bl : ∀ {a b : Bool}, k' (.bool a) h → a = b → k' (.bool b) h := fun h e => e ▸ h
    cases op <;> simp only at e <;> first
      | exact fb e
      | exact op2 k' (by simp) (bl (K.now S (by exact rfl) e) (by grind))
theorem eOS_ok {P : Program} {op : BinOp} {t : TypeId} {y : Operand} {vx vy : SV} {wx wy : Value} (hx : SD r vx wx) (hy : SD r vy wy) {i : Nat} {l : List UInt8} {p : Pl3} (hp : r[i]? = some p) (hw : (wx = .string ⟨⟨p.s⟩⟩ ∧ wy = .string ⟨⟨l⟩⟩) ∨ (wx = .string ⟨⟨l⟩⟩ ∧ wy = .string ⟨⟨p.s⟩⟩)) (e : eOS P op t (isNilConst y) vx vy i l k H = true) : vcBin P op t y wx wy k' h := by
  unfold eOS at e
  cases hn : isNilConst y with
  | true => simp only [hn] at e; exact eF_no e
  | false =>
    simp only [hn] at e
    have fb : eConc vx (fun vx => eConc vy fun vy => eBinC P op t false vx vy k) H = true → vcBin P op t y wx wy k' h := fun e =>
      conc_ok hx S e fun v' H' S' hv' e => conc_ok hy S' e fun u' H2 S2 hu' e => eBinC_ok S2 K hv' hu' (by rw [hn]; exact e)
    have sw : (l == p.s) = (p.s == l) := by
      rw [Bool.eq_iff_iff, beq_iff_eq, beq_iff_eq]; exact eq_comm
    have add : op = .add → eAddO i l (eConc vx fun vx => eConc vy fun vy => eBinC P op t false vx vy k) k H = true → vcBin P op t y wx wy k' h := by
      clear e
      intro ho e
      subst ho
      unfold eAddO at e
      split at e
      · obtain ⟨lo, hi, m, q, t', hg, e⟩ := num_inv e
        cases t' with
        | no => cases e
        | tx kn nots =>
          simp only at e
          split at e
          · rename_i hl
            rw [iLt_eq, decide_eq_true_eq] at hl
            obtain ⟨q1, q2⟩ := tx_inv S hp hg
            unfold vcBin
            simp only [hn]
            rcases hw with ⟨rfl, rfl⟩ | ⟨rfl, rfl⟩
            · simp only [str_app, List.append_nil]
              refine ⟨by simp only [str_size, List.length_nil]; omega, K.now S (v := .ostr i) ⟨p, hp, rfl⟩ e⟩
            · simp only [str_app, List.nil_append]
              refine ⟨by simp only [str_size, List.length_nil]; omega, K.now S (v := .ostr i) ⟨p, hp, rfl⟩ e⟩
          · cases e
      · exact fb e
    cases op <;> simp only at e <;> first
      | exact fb e
      | exact add rfl e
      | (refine strS_ok hp S e fun H' S' e => ?_
         unfold vcBin
         simp only [hn]
         rcases hw with ⟨rfl, rfl⟩ | ⟨rfl, rfl⟩ <;> simp only [str_eq, sw] <;> exact K.now S' (by exact rfl) e)
theorem eBin_ok {P : Program} {op : BinOp} {t : TypeId} {y : Operand} {v u : SV} {v' u' : Value} (hv : SD r v v') (hu : SD r u u') (e : eBin P op t (isNilConst y) v u k H = true) : vcBin P op t y v' u' k' h := by
  unfold eBin at e
  split at e
  · obtain ⟨p, hp, rfl⟩ := hv
    rw [show u' = _ from hu]; exact eSI_ok S K hp e
  · obtain ⟨p, hp, rfl⟩ := hu
    rw [show v' = _ from hv]; exact eIS_ok S K hp e
  · obtain ⟨p, hp, rfl⟩ := hv
    obtain ⟨q, hq, rfl⟩ := hu
    exact eSS_ok S K hp hq e
  · have hv0 := hv
    obtain ⟨p, hp, h1⟩ := hv
    exact eOS_ok S K hv0 hu hp (.inl ⟨h1, hu⟩) e
  · have hu0 := hu
    obtain ⟨p, hp, h1⟩ := hu
    exact eOS_ok S K hv hu0 hp (.inr ⟨hv, h1⟩) e
  · rename_i i j
    have fb : eConc (.ostr i) (fun vx => eConc (.ostr j) fun vy => eBinC P op t (isNilConst y) vx vy k) H = true → vcBin P op t y v' u' k' h := fun e =>
      conc_ok hv S e fun a H' S' ha e => conc_ok hu S' e fun b H2 S2 hb e => eBinC_ok S2 K ha hb e
    cases hc : (isNilConst y || !Nat.beq i j) with
    | true => simp only [hc] at e; exact fb e
    | false =>
      simp only [hc] at e
      rw [Bool.or_eq_false_iff] at hc
      obtain ⟨hn, hk⟩ := hc
      have hk : i = j := Nat.eq_of_beq_eq_true (by simpa using hk)
      subst hk
      cases op <;> simp only at e <;> first
        | exact fb e
        | (obtain ⟨p, hp, rfl⟩ := hv
           obtain ⟨q, hq, rfl⟩ := hu
           obtain rfl : p = q := Option.some.inj (hp.symm.trans hq)
           unfold vcBin
           simp only [hn, str_eq, beq_self_eq_true, Bool.not_true]
           exact K.now S (by exact rfl) e)
  · exact eBinC_ok S K hv hu e
theorem eUn_ok {op : UnOp} {v : SV} {w : Value} (hv : SD r v w) (e : eUn op v k H = true) : vcUn op w k' h := by
  have now : ∀ {v : SV} {w : Value}, SD r v w → k v H = true → k' w h := fun hv e => K.now S hv e
  unfold eUn at e
  split at e
  · rename_i b; rw [show w = .bool b from hv]; exact now (by exact rfl) e
  · rename_i i n; rw [show w = .int i n from hv]; exact now (by exact rfl) e
  · rename_i i n; rw [show w = .int i n from hv]; exact now (by exact rfl) e
  · exact eF_no e
theorem eLoad_ok {P : Program} {t : TypeId} {v : SV} {w : Value} (hv : SD r v w) (e : eLoad P t v k H = true) : vcLoad P t w k' h := by
  have now : ∀ {v : SV} {w : Value}, SD r v w → k v H = true → k' w h := fun hv e => K.now S hv e
  unfold eLoad at e
  split at e
  · rename_i a
    obtain ⟨x, ⟨y, rfl, hy⟩, rfl⟩ := hv
    unfold vcLoad
    simp only
    cases hd : P.underlying t with
    | none => simp only [hd] at e; exact eF_no e
    | some d =>
      simp only [hd] at e ⊢
      cases hs : shapeD d <;> simp only [hs] at e ⊢ <;> first
        | exact eLdA_ok S hy e fun u z hz e => now (by exact ⟨z, hz, rfl⟩) e
        | exact eLd_ok S hy e fun u z hz e => now hz e
  · exact eF_no e
omit K in
theorem eStore_ok {P : Program} {t : TypeId} {va v : SV} {wa w : Value} (ha : SD r va wa) (hv : SD r v w) {p : ER} {p' : Pr} (e : eStore P t va v p H = true) (kr : ∀ H' h', Sat r h0 H' h' → p H' = true → p' h') : vcStore P t wa w p' h := by
  unfold eStore at e
  split at e
  · rename_i a
    obtain ⟨x, ⟨y, rfl, hy⟩, rfl⟩ := ha
    unfold vcStore
    simp only
    have one : ∀ {q : Pr}, (match sizeP P t with | 1 => eSt a v p | _ => eF) H = true → (∀ (h1 : sizeP P t = 1), pSt y w p' h → q h) → q h := fun e kq => by
      by_cases h1 : sizeP P t = 1
      · simp only [h1] at e; exact kq h1 (eSt_ok S hy hv e kr)
      · exact absurd e (by
          generalize sizeP P t = n at h1
          match n, h1 with
          | 0, _ => simp [eF]
          | 1, h1 => exact absurd rfl h1
          | _ + 2, _ => simp [eF])
    have key : shapeOf P t ≠ .any → (match v with
        | .agg cs => (match sizeP P t with
          | 0 => eF
          | n + 1 => eStA (n + 1) a cs p)
        | v => match sizeP P t with
          | 1 => eSt a v p
          | _ => eF) H = true → (match w with
        | .agg cs => (match sizeP P t with
          | 0 => F
          | n + 1 => pStA (n + 1) y cs.toList p')
        | v => match sizeP P t with
          | 1 => pSt y v p'
          | _ => F) h := by
      intro _ e
      cases v with
      | agg cs =>
        obtain ⟨z, hz, rfl⟩ := hv
        simp only at e ⊢
        cases hn : sizeP P t with
        | zero => simp only [hn] at e; exact eF_no e
        | succ n =>
          simp only [hn] at e ⊢
          exact eStA_ok S hy hz e kr
      | _ =>
        refine one e fun h1 hw => ?_
        obtain ⟨_, _, _, _, _, hone, _⟩ := id hw
        simp only [h1]
        cases w <;> first
          | exact hw
          | (simp [Value.oneCell'] at hone)
    cases hs' : shapeOf P t <;> simp only [hs'] at e key ⊢ <;> first
      | exact key (by simp) e
      | exact one e fun h1 hw => by simp only [h1]; exact hw
  · exact eF_no e
end
end Go.Hl
