/- Opcodes: isa.Size, isa.conditional; the document's Size, Conditional. -/
import Derived.Test.YtpbhanglcophbaaGreatB
set_option linter.unusedVariables false
set_option linter.unusedSimpArgs false
namespace Go.Proofs.YtpbhanglcophbaaGreat
open Go.Hl
attribute [local irreducible] loadF zc sizeP bytesP vcBody pInvoke pIf pAssert pNew pLd pLdA pSt pStA pSome pIdx pPart pCall pCallV pAppend pExtend pGet pGetS pPut pNewObj pJoin pLoop pKeep fgt iter pFits
theorem and8 {n m : Nat} (hn : n < 256) (hm : m < 256) : bitsV .and .u8 (n : Int) (m : Int) = ((n &&& m : Nat) : Int) := by
  have e : ∀ k : Nat, k < 256 → BitVec.ofInt 8 (k : Int) = BitVec.ofNat 8 k := fun k _ => BitVec.ofInt_natCast 8 k
  show IntKind.u8.wrap ((BitVec.ofInt 8 (n : Int) &&& BitVec.ofInt 8 (m : Int)).toNat : Int) = _
  rw [e n hn, e m hm, BitVec.toNat_and, BitVec.toNat_ofNat, BitVec.toNat_ofNat, Nat.mod_eq_of_lt hn, Nat.mod_eq_of_lt hm]
  have : n &&& m ≤ n := Nat.and_le_left
  rw [IntKind.wrap_u8]; omega
theorem and8' {n : Nat} {m : Int} {q : Nat} (hn : n < 256) (hm : m = q) (hq : q < 256) : bitsV .and .u8 (n : Int) m = ((n &&& q : Nat) : Int) := by rw [hm]; exact and8 hn hq
def sizeF (n : Nat) : Int := if n &&& 224 ≠ 96 then 0 else if n &&& 7 < 1 then 0 else if 3 < n &&& 7 then 0 else if n &&& 24 = 0 then 4 else if n &&& 24 = 8 then 2 else if n &&& 24 = 16 then 1 else 8
def condF (n : Nat) : Bool := decide (16 ≤ n ∧ n ≤ 112 ∨ 160 ≤ n ∧ n ≤ 208)
/-- A jump with a condition: the whole opcode. -/
def condOp (n : Nat) : Bool := (decide (n &&& 7 = 5) || decide (n &&& 7 = 6)) && condF (n &&& 240)
theorem sizeF_ref (n : Nat) (h : n < 256) : sizeF n = if n = 97 ∨ n = 98 ∨ n = 99 then 4 else if n = 105 ∨ n = 106 ∨ n = 107 then 2 else if n = 113 ∨ n = 114 ∨ n = 115 then 1 else if n = 121 ∨ n = 122 ∨ n = 123 then 8 else 0 := by
  have : ∀ m : Fin 256, sizeF m.val = if m.val = 97 ∨ m.val = 98 ∨ m.val = 99 then 4 else if m.val = 105 ∨ m.val = 106 ∨ m.val = 107 then 2 else if m.val = 113 ∨ m.val = 114 ∨ m.val = 115 then 1 else if m.val = 121 ∨ m.val = 122 ∨ m.val = 123 then 8 else 0 := by decide +kernel
  exact this ⟨n, h⟩
theorem condOp_ref (n : Nat) (h : n < 256) : condOp n = decide ((n % 8 = 5 ∨ n % 8 = 6) ∧ (1 ≤ n / 16 ∧ n / 16 ≤ 7 ∨ 10 ≤ n / 16 ∧ n / 16 ≤ 13)) := by
  have : ∀ m : Fin 256, condOp m.val = decide ((m.val % 8 = 5 ∨ m.val % 8 = 6) ∧ (1 ≤ m.val / 16 ∧ m.val / 16 ≤ 7 ∨ 10 ≤ m.val / 16 ∧ m.val / 16 ≤ 13)) := by decide +kernel
  exact this ⟨n, h⟩
section
variable {KP K : Value → Pr} {h : Heap} {x : Int} {n : Nat} {M : List Pr}
theorem sizes_s (H : seps M h) (k : ∀ p h, seps (mapP p [(.int .u8 0, .int .i64 4), (.int .u8 8, .int .i64 2), (.int .u8 16, .int .i64 1), (.int .u8 24, .int .i64 8)] :: M) h → K (.map (some p)) h) : WpCall Tryz.prog 95 #[] KP K h := by
  refine isa_sizes_call ?_
  unfold isa_sizes
  refine newM_c H fun p h H => ?_
  repeat' (refine put_c H (by kernel_rfl) fun h H => ?_)
  exact fgt_mk (k p h H)
theorem size_s (hx : x = n) (hn : n < 256) (k : K (.int .i64 (sizeF n)) h) : WpCall Tryz.prog 49 #[.int .u8 x] KP K h := by
  subst hx
  refine isa_Size_call n ?_
  have H := hstart h
  simp only [isa_Size, isa_Size_j1, pJoin_eq]
  rw [and8' (m := 224) (q := 224) hn rfl (by decide), and8' (m := 7) (q := 7) hn rfl (by decide), and8' (m := 24) (q := 24) hn rfl (by decide)]
  unfold sizeF at k
  have h24 : (n &&& 24) = 0 ∨ (n &&& 24) = 8 ∨ (n &&& 24) = 16 ∨ (n &&& 24) = 24 := by
    have : ∀ m : Fin 256, (m.val &&& 24) = 0 ∨ (m.val &&& 24) = 8 ∨ (m.val &&& 24) = 16 ∨ (m.val &&& 24) = 24 := by decide +kernel
    exact this ⟨n, hn⟩
  refine if_c (fun h1 => ?_) (fun h1 => if_c (fun h2 => ?_) (fun h2 => ?_))
  · rw [if_pos (by omega)] at k
    refine pIf_t rfl (fin H ?_); exact k
  · rw [if_neg (by omega), if_pos (by omega)] at k
    refine pIf_t rfl (fin H ?_); exact k
  · rw [if_neg (by omega), if_neg (by omega)] at k
    refine if_c (fun h3 => ?_) (fun h3 => ?_)
    · rw [if_pos (by omega)] at k
      refine fin H ?_; exact k
    · rw [if_neg (by omega)] at k
      refine call_c (sizes_s H fun p h H => one1 ?_)
      refine getS_c H rfl ?_
      simp only [GetAll]
      refine ⟨fun e => ⟨_, rfl, ?_⟩, fun e1 => ⟨fun e => ⟨_, rfl, ?_⟩, fun e2 => ⟨fun e => ⟨_, rfl, ?_⟩, fun e3 => ⟨fun e => ⟨_, rfl, ?_⟩, fun e4 => ⟨_, rfl, ?_⟩⟩⟩⟩⟩
      · rw [if_pos (by omega)] at k
        refine fin H ?_; exact k
      · rw [if_neg (by omega), if_pos (by omega)] at k
        refine fin H ?_; exact k
      · rw [if_neg (by omega), if_neg (by omega), if_pos (by omega)] at k
        refine fin H ?_; exact k
      · rw [if_neg (by omega), if_neg (by omega), if_neg (by omega)] at k
        refine fin H ?_; exact k
      · exfalso; omega
end
end Go.Proofs.YtpbhanglcophbaaGreat

set_option linter.unusedVariables false
set_option linter.unusedSimpArgs false
namespace Go.Proofs.YtpbhanglcophbaaGreat
open Go.Hl
attribute [local irreducible] loadF zc sizeP bytesP vcBody pInvoke pIf pAssert pNew pLd pLdA pSt pStA pSome pIdx pPart pCall pCallV pAppend pExtend pGet pGetS pPut pNewObj pJoin pLoop pKeep fgt iter pFits
/-- What an opcode leaves to the other fields. -/
structure Shp where
  dst : Nat
  src : Nat
  off : Bool
  imm : Bool
deriving DecidableEq
abbrev Shp.enc (s : Shp) : List Value := [.int .u8 s.dst, .int .u8 s.src, .bool s.off, .bool s.imm]
def Shp.no : Shp := ⟨0, 0, false, false⟩
abbrev shpV (x : Shp × Bool) : Value := .tuple #[.agg x.1.enc.toArray, .bool x.2]
def numberF (n : Nat) : Shp × Bool :=
  if (192 < n &&& 240) ∨ (n &&& 240 = 128 ∧ n &&& 8 ≠ 0) then (.no, false) else if n &&& 240 = 128 then (⟨9, 0, false, false⟩, true) else if n &&& 8 ≠ 0 then (⟨9, 10, false, false⟩, true) else (⟨9, 0, false, true⟩, true)
def jumpF (n : Nat) : Shp × Bool :=
  if condF (n &&& 240) = true ∧ n &&& 8 ≠ 0 then (⟨10, 10, true, false⟩, true) else if condF (n &&& 240) = true then (⟨10, 0, true, true⟩, true) else if n &&& 8 ≠ 0 ∨ n &&& 7 ≠ 5 then (.no, false)
  else if n &&& 240 = 0 then (⟨0, 0, true, false⟩, true) else if n &&& 240 = 128 then (⟨0, 0, false, true⟩, true) else if n &&& 240 = 144 then (⟨0, 0, false, false⟩, true) else (.no, false)
def shapeF (n : Nat) : Shp × Bool :=
  if n = 24 then (⟨9, 1, false, true⟩, true) else if n &&& 7 = 4 ∨ n &&& 7 = 7 then numberF n else if n &&& 7 = 5 ∨ n &&& 7 = 6 then jumpF n else if sizeF n = 0 then (.no, false)
  else if n &&& 7 = 1 then (⟨9, 10, true, false⟩, true) else if n &&& 7 = 2 then (⟨10, 0, true, true⟩, true) else if n &&& 7 = 3 then (⟨10, 10, true, false⟩, true) else (.no, false)
section
variable {KP K : Value → Pr} {h : Heap} {x : Int} {n : Nat} {M : List Pr}
theorem lt240 (n : Nat) (hn : n < 256) : (n &&& 240) < 256 := Nat.lt_of_le_of_lt Nat.and_le_left hn
end
end Go.Proofs.YtpbhanglcophbaaGreat

set_option linter.unusedVariables false
set_option linter.unusedSimpArgs false
namespace Go.Proofs.YtpbhanglcophbaaGreat
open Go.Hl
attribute [local irreducible] loadF zc sizeP bytesP vcBody pInvoke pIf pAssert pNew pLd pLdA pSt pStA pSome pIdx pPart pCall pCallV pAppend pExtend pGet pGetS pPut pNewObj pJoin pLoop pKeep fgt iter pFits
/-- An instruction. -/
structure In where
  op : Nat
  dst : Nat
  src : Nat
  off : Int
  imm : Int
abbrev In.enc (i : In) : List Value := [.int .u8 i.op, .int .u8 i.dst, .int .u8 i.src, .int .i16 i.off, .int .i32 i.imm]
structure In.Ok (i : In) : Prop where
  op : i.op < 256
  dst : i.dst < 256
  src : i.src < 256
  off : -32768 ≤ i.off ∧ i.off < 32768
  imm : -2147483648 ≤ i.imm ∧ i.imm < 2147483648
def In.right (i : In) : Bool := (shapeF i.op).2 && decide (i.dst ≤ (shapeF i.op).1.dst) && decide (i.src ≤ (shapeF i.op).1.src) && ((shapeF i.op).1.off || decide (i.off = 0)) && ((shapeF i.op).1.imm || decide (i.imm = 0))
def In.jump (i : In) : Bool := decide (i.op &&& 7 = 5 ∧ i.op &&& 248 = 0) || condOp i.op
def In.isSnd (i : In) : Bool := decide (i.op = 0 ∧ i.dst = 0 ∧ i.src = 0 ∧ i.off = 0)
theorem and7 (n : Nat) : n &&& 7 = n % 8 := Nat.and_two_pow_sub_one_eq_mod n 3
theorem shapeF_ref (n : Nat) (h : n < 256) : shapeF n =
    if n = 24 then (⟨9, 1, false, true⟩, true) else if n % 8 = 4 ∨ n % 8 = 7 then (if 12 < n / 16 then (.no, false) else if n / 16 = 8 then (if n / 8 % 2 = 1 then (.no, false) else (⟨9, 0, false, false⟩, true)) else if n / 8 % 2 = 1 then (⟨9, 10, false, false⟩, true) else (⟨9, 0, false, true⟩, true))
    else if condOp n = true then (if n / 8 % 2 = 1 then (⟨10, 10, true, false⟩, true) else (⟨10, 0, true, true⟩, true)) else if n = 5 then (⟨0, 0, true, false⟩, true) else if n = 133 then (⟨0, 0, false, true⟩, true) else if n = 149 then (⟨0, 0, false, false⟩, true)
    else if sizeF n = 0 then (.no, false) else if n % 8 = 1 then (⟨9, 10, true, false⟩, true) else if n % 8 = 2 then (⟨10, 0, true, true⟩, true) else (⟨10, 10, true, false⟩, true) := by
  have : ∀ m : Fin 256, shapeF m.val =
    if m.val = 24 then (⟨9, 1, false, true⟩, true) else if m.val % 8 = 4 ∨ m.val % 8 = 7 then (if 12 < m.val / 16 then (.no, false) else if m.val / 16 = 8 then (if m.val / 8 % 2 = 1 then (.no, false) else (⟨9, 0, false, false⟩, true)) else if m.val / 8 % 2 = 1 then (⟨9, 10, false, false⟩, true) else (⟨9, 0, false, true⟩, true))
    else if condOp m.val = true then (if m.val / 8 % 2 = 1 then (⟨10, 10, true, false⟩, true) else (⟨10, 0, true, true⟩, true)) else if m.val = 5 then (⟨0, 0, true, false⟩, true) else if m.val = 133 then (⟨0, 0, false, true⟩, true) else if m.val = 149 then (⟨0, 0, false, false⟩, true)
    else if sizeF m.val = 0 then (.no, false) else if m.val % 8 = 1 then (⟨9, 10, true, false⟩, true) else if m.val % 8 = 2 then (⟨10, 0, true, true⟩, true) else (⟨10, 10, true, false⟩, true) := by decide +kernel
  exact this ⟨n, h⟩
section
variable {KP K : Value → Pr} {h : Heap} {x : Int} {n : Nat} {M : List Pr} {i : In}
theorem kbool {b c : Bool} (e : b = c) (k : K (.bool b) h) : K (.bool c) h := by rw [← e]; exact k
end
end Go.Proofs.YtpbhanglcophbaaGreat

set_option linter.unusedVariables false
set_option linter.unusedSimpArgs false
namespace Go.Proofs.YtpbhanglcophbaaGreat
open Go.Hl
abbrev codeC (L : List In) : List Value := L.flatMap In.enc
/-- A slice of instructions that may be read. -/
structure Code (l : Sl) (L : List In) (h : Heap) : Prop where
  vals : l.valsE 5 h (codeC L)
  len : l.len = L.length
  ok : ∀ i ∈ L, i.Ok
  small : L.length ≤ 4096
def In.nil : In := ⟨0, 0, 0, 0, 0⟩
theorem Code.le {l : Sl} {L : List In} {h g : Heap} (C : Code l L h) (q : Heap.le h g) : Code l L g := ⟨Sl.valsE_le q C.vals, C.len, C.ok, C.small⟩
theorem codeC_len (L : List In) : (codeC L).length = L.length * 5 := by
  induction L with
  | nil => rfl
  | cons a L ih => show (a.enc ++ codeC L).length = _; rw [List.length_append, ih]; simp; omega
theorem codeC_cut (L : List In) : ∀ i, i < L.length → cut (codeC L) (i * 5) 5 = some (L.getD i .nil).enc := by
  induction L with
  | nil => intro i hi; simp at hi
  | cons a L ih =>
    intro i hi
    have hl : (codeC (a :: L)).length = L.length * 5 + 5 := by rw [codeC_len]; simp; omega
    cases i with
    | zero => unfold cut; rw [if_pos (by omega)]; rfl
    | succ i =>
      have q := ih i (by simpa using hi)
      unfold cut at q ⊢
      have hl2 := codeC_len L
      have hi2 : i < L.length := by simpa using hi
      rw [if_pos (by omega)] at q
      rw [if_pos (by omega)]
      show some (List.take 5 (List.drop ((i + 1) * 5) (a.enc ++ codeC L))) = some (L.getD i .nil).enc
      rw [show (i + 1) * 5 = i * 5 + 5 by omega, Nat.add_comm, ← List.drop_drop]
      exact q
theorem Code.at {l : Sl} {L : List In} {g : Heap} (C : Code l L g) {i : Nat} {x : Int} (hx : x = i) (hi : i < L.length) {k : Addr → Pr} (q : ∀ a, g.vals (a.add (x.toNat * 5)) 5 = some (L.getD i .nil).enc → k a g) : pIdx x l.len (pSome l.base k) g := by
  subst hx
  have hv := valsE_vals C.vals (by rw [codeC_len]; omega)
  have hl := C.len
  refine pIdx_i (by omega) (by omega) ?_
  unfold Sl.vals at hv
  cases hb : l.base with
  | none => rw [hb] at hv; have := hv.1; omega
  | some a =>
    rw [hb] at hv
    refine ⟨a, rfl, q a ?_⟩
    rw [vals_sub hv (by simp only [Int.toNat_natCast]; omega)]
    exact codeC_cut L i hi
theorem ldV {g : Heap} {a : Addr} {n : Nat} {xs : List Value} {k : List Value → Pr} (hv : g.vals a n = some xs) (q : k xs g) : pLdA n a k g := ⟨xs, hv, q⟩
theorem ldV1 {g : Heap} {a : Addr} {n j : Nat} {xs : List Value} {s : Shape} {x : s.T} {k : s.T → Pr} (hv : g.vals a n = some xs) (e : xs[j]? = some (s.inj x)) (q : k x g) : pLd s (a.add j) k g := ⟨x, (vals_cell hv).2.2 j _ e, q⟩
attribute [local irreducible] loadF zc sizeP bytesP vcBody pInvoke pIf pAssert pNew pLd pLdA pSt pStA pSome pIdx pPart pCall pCallV pAppend pExtend pGet pGetS pPut pNewObj pJoin pLoop pKeep fgt iter pFits
theorem Code.okAt {l : Sl} {L : List In} {g : Heap} (C : Code l L g) {i : Nat} (hi : i < L.length) : (L.getD i .nil).Ok := by
  have e : L.getD i .nil = L[i] := by simp [List.getD, hi]
  rw [e]; exact C.ok _ (List.getElem_mem hi)
/-- Whether a place holds a second word. -/
def sndF (L : List In) : Nat → Bool
  | 0 => false
  | i + 1 => decide (i + 1 < L.length) && (L.getD (i + 1) .nil).isSnd && decide ((L.getD i .nil).op = 24) && (L.getD i .nil).right && !sndF L i
section
variable {x : Int} {L : List In} {l : Sl}
end
end Go.Proofs.YtpbhanglcophbaaGreat

set_option linter.unusedVariables false
set_option linter.unusedSimpArgs false
namespace Go.Proofs.YtpbhanglcophbaaGreat
open Go.Hl
attribute [local irreducible] loadF zc sizeP bytesP vcBody pInvoke pIf pAssert pNew pLd pLdA pSt pStA pSome pIdx pPart pCall pCallV pAppend pExtend pGet pGetS pPut pNewObj pJoin pLoop pKeep fgt iter pFits
/-- n Bools. -/
def frow (n : Nat) (z : Nat → Bool) : List Value := (List.range n).map fun j => .bool (z j)
theorem frow_len (n : Nat) (z : Nat → Bool) : (frow n z).length = n := by simp [frow]
theorem frow_get {n : Nat} (z : Nat → Bool) {i : Nat} (hi : i < n) : (frow n z)[i]? = some (.bool (z i)) := by simp [frow, hi]
theorem frow_cong {n : Nat} {z y : Nat → Bool} (h : ∀ i, i < n → z i = y i) : frow n z = frow n y := by
  unfold frow
  refine List.map_congr_left fun i hi => ?_
  rw [h i (by simpa using hi)]
theorem frow_set {n : Nat} (z : Nat → Bool) {i : Nat} (v : Bool) : (frow n z).set i (.bool v) = frow n (fun j => if j = i then v else z j) := by
  refine List.ext_getElem? fun j => ?_
  unfold frow
  by_cases hj : j < n
  · by_cases e : i = j
    · subst e; simp [hj]
    · rw [List.getElem?_set_ne e]; simp [hj, Ne.symm e]
  · rw [List.getElem?_eq_none (by simp; omega), List.getElem?_eq_none (by simp; omega)]
theorem frow_reps {P : Program} {t : TypeId} {n : Nat} [i : Zc P t [.bool false]] : reps n (zc P t) = frow n fun _ => false := by
  rw [i.eq]
  unfold reps frow
  induction n with
  | zero => rfl
  | succ n ih => rw [List.range_succ, List.map_append, ← ih, List.replicate_succ', List.flatten_append]; rfl
instance {n : Nat} {z : Nat → Bool} : Ones (frow n z) := ⟨fun v hv => by
  unfold frow at hv
  simp only [List.mem_map] at hv
  obtain ⟨_, _, rfl⟩ := hv
  rfl⟩
section
variable {KP K : Value → Pr} {h : Heap} {x : Int} {L : List In} {l : Sl} {M R : List Pr} {p tot n : Nat}
theorem ld_frow {z : Nat → Bool} [i : Pick M (.blk p) (rowP p (frow n z) tot) R] (H : seps M h) {j : Nat} (hj : j < n) {q : Bool → Pr} (hq : q (z j) h) : pLd .bool ⟨p, j, none⟩ q h :=
  ld_b (s := .bool) (row_at (i.out H)) (frow_get z hj) hq
theorem st_frow {z : Nat → Bool} {v : Bool} [i : Pick M (.blk p) (rowP p (frow n z) tot) R] (H : seps M h) {j : Nat} (hj : j < n) {q : Pr} (hq : ∀ h, seps (rowP p (frow n fun i => if i = j then v else z i) tot :: R) h → q h) : pSt ⟨p, j, none⟩ (.bool v) q h :=
  st_b (row_at (i.out H)) (by rw [frow_len]; exact hj) rfl (by rw [frow_set]; exact hq _ (row_set (i.out H)))
/-- The first j places of a function. -/
def ups (f : Nat → Bool) (j : Nat) : Nat → Bool := fun i => decide (i < j) && f i
theorem ups_set {f : Nat → Bool} {j n : Nat} {v : Bool} (hv : v = f j) : frow n (fun i => if i = j then v else ups f j i) = frow n (ups f (j + 1)) := frow_cong fun i _ => by
  unfold ups
  by_cases e : i = j
  · subst e; simp [hv]
  · rw [if_neg e]; congr 1; rw [decide_eq_decide]; omega
theorem ups_no {f : Nat → Bool} {j n : Nat} (hv : f j = false) : frow n (ups f j) = frow n (ups f (j + 1)) := frow_cong fun i _ => by
  unfold ups
  by_cases e : i = j
  · subst e; simp [hv]
  · congr 1; rw [decide_eq_decide]; omega
end
end Go.Proofs.YtpbhanglcophbaaGreat

set_option linter.unusedVariables false
set_option linter.unusedSimpArgs false
namespace Go.Proofs.YtpbhanglcophbaaGreat
open Go.Hl
attribute [local irreducible] loadF zc sizeP bytesP vcBody pInvoke pIf pAssert pNew pLd pLdA pSt pStA pSome pIdx pPart pCall pCallV pAppend pExtend pGet pGetS pPut pNewObj pJoin pLoop pKeep fgt iter pFits
def lo32 (x : Int) : B64 := BitVec.ofInt 64 x &&& 4294967295#64
def wideF (x y : Int) : B64 := lo32 x ||| lo32 y <<< 32
theorem lo32_nat (x : Int) : ((lo32 x).toNat : Int) = x % 4294967296 := by
  unfold lo32
  rw [BitVec.toNat_and, show (4294967295#64 : B64).toNat = 2 ^ 32 - 1 from rfl, Nat.and_two_pow_sub_one_eq_mod, BitVec.toNat_ofInt]
  omega
theorem lo32_lt (x : Int) : (lo32 x).toNat < 4294967296 := by have := lo32_nat x; omega
instance (x : Int) : U (IntKind.u64.wrap (IntKind.u32.wrap x)) (lo32 x) := ⟨by
  rw [lo32_nat, IntKind.wrap_u32, w_u64, BitVec.toNat_ofInt]; omega⟩
theorem wide_sum (x y : Int) : lo32 x + 4294967296#64 * lo32 y = wideF x y := by
  unfold wideF
  have h1 := lo32_lt x
  have h2 := lo32_lt y
  have e : 4294967296#64 * lo32 y = lo32 y <<< 32 := by
    apply BitVec.eq_of_toNat_eq
    rw [BitVec.toNat_mul, BitVec.toNat_shiftLeft, Nat.shiftLeft_eq, Nat.mul_comm]; rfl
  rw [e, BitVec.add_eq_or_of_and_eq_zero]
  apply BitVec.eq_of_toNat_eq
  rw [BitVec.toNat_and, BitVec.toNat_shiftLeft, Nat.shiftLeft_eq, Nat.mod_eq_of_lt (by omega)]
  have := Nat.and_div_two_pow (a := (lo32 x).toNat) (b := (lo32 y).toNat * 2 ^ 32) (n := 32)
  have m := Nat.and_mod_two_pow (a := (lo32 x).toNat) (b := (lo32 y).toNat * 2 ^ 32) (n := 32)
  rw [Nat.div_eq_of_lt (show (lo32 x).toNat < 2 ^ 32 by omega), Nat.zero_and] at this
  rw [show (lo32 y).toNat * 2 ^ 32 % 2 ^ 32 = 0 by omega, Nat.and_zero] at m
  show _ = 0
  omega
theorem zext32 (x : Int) : zextF (BitVec.ofInt 64 x) 4 = lo32 x := by
  unfold zextF lo32
  rw [if_pos (by decide), show lowF (8 * 4) = 4294967295#64 by unfold lowF; decide]
section
variable {KP K : Value → Pr} {h : Heap} {x : Int} {L : List In} {l : Sl} {M R : List Pr} {p tot n : Nat} {i j : In}
theorem wide_s (k : K (.int .u64 (wideF i.imm j.imm).toNat) h) : WpCall Tryz.prog 40 #[.agg i.enc.toArray, .agg j.enc.toArray] KP K h := by
  refine inst_Wide_call i.enc j.enc ?_
  have H := hstart h
  simp only [inst_Wide, add_mk, Nat.zero_add]
  refine new_c (n := 5) H rfl fun b1 g H => new_c (n := 5) H rfl fun b2 g H => ld_c H (by rfl) (ld_c H (by rfl) (pAssert_i (by decide) ?_))
  refine fin H ?_
  exact k
end
end Go.Proofs.YtpbhanglcophbaaGreat

set_option linter.unusedVariables false
set_option linter.unusedSimpArgs false
namespace Go.Proofs.YtpbhanglcophbaaGreat
open Go.Hl
attribute [local irreducible] loadF zc sizeP bytesP vcBody pInvoke pIf pAssert pNew pLd pLdA pSt pStA pSome pIdx pPart pCall pCallV pAppend pExtend pGet pGetS pPut pNewObj pJoin pLoop pKeep fgt iter pFits
/-- Whether an instruction's place, wide number and jump are right. -/
def goodF (L : List In) (maps : Int) (i : Nat) : Bool :=
  if sndF L i = true then true else if ¬ (L.getD i .nil).right = true then false
  else if (L.getD i .nil).op = 24 then sndF L (i + 1) && (decide ((L.getD i .nil).src = 0) || decide (((wideF (L.getD i .nil).imm (L.getD (i + 1) .nil).imm).toNat : Int) < if maps < 0 then 0 else maps))
  else if (L.getD i .nil).jump = true then decide (0 ≤ (L.getD i .nil).off) && decide ((i : Int) + 1 + (L.getD i .nil).off < L.length) && !sndF L ((i : Int) + 1 + (L.getD i .nil).off).toNat
  else true
theorem snd_lt {L : List In} {i : Nat} (h : sndF L i = true) : i < L.length := by
  cases i with
  | zero => cases h
  | succ i => unfold sndF at h; simp only [Bool.and_eq_true, decide_eq_true_eq] at h; exact h.1.1.1.1
section
variable {KP K : Value → Pr} {h : Heap} {x maps : Int} {L : List In} {l : Sl} {M R : List Pr} {p tot n i : Nat}
end
end Go.Proofs.YtpbhanglcophbaaGreat

set_option linter.unusedVariables false
set_option linter.unusedSimpArgs false
namespace Go.Proofs.YtpbhanglcophbaaGreat
open Go.Hl
attribute [local irreducible] loadF zc sizeP bytesP vcBody pInvoke pIf pAssert pNew pLd pLdA pSt pStA pSome pIdx pPart pCall pCallV pAppend pExtend pGet pGetS pPut pNewObj pJoin pLoop pKeep fgt iter pFits
def In.exit (i : In) : Bool := decide (i.op = 149 ∧ i.dst = 0 ∧ i.src = 0 ∧ i.off = 0 ∧ i.imm = 0)
/-- Whether a program is right as far as its instructions go. -/
def checkF (L : List In) (maps : Int) : Bool := decide (1 ≤ L.length ∧ L.length ≤ 64) && (L.getD (L.length - 1) .nil).exit && decide (∀ j, j < L.length → goodF L maps j = true)
section
variable {KP K : Value → Pr} {h : Heap} {x maps : Int} {L : List In} {l : Sl} {M R : List Pr} {p tot n i : Nat}
/-- A function's value that tells of one instruction after the other. -/
def Tells (L : List In) (f : Value) (I : Nat → Pr) (p : Nat → Bool) : Prop :=
  ∀ j g (KP K : Value → Pr), j < L.length → I j g → (∀ g', I (j + 1) g' → K (.bool (p j)) g') → WpVal Tryz.prog f [.agg (L.getD j .nil).enc.toArray] KP K g
end
end Go.Proofs.YtpbhanglcophbaaGreat

set_option linter.unusedVariables false
set_option linter.unusedSimpArgs false
namespace Go.Proofs.YtpbhanglcophbaaGreat
open Go.Hl
attribute [local irreducible] loadF zc sizeP bytesP vcBody pInvoke pIf pAssert pNew pLd pLdA pSt pStA pSome pIdx pPart pCall pCallV pAppend pExtend pGet pGetS pPut pNewObj pJoin pLoop pKeep fgt iter pFits
section
variable {KP K : Value → Pr} {h : Heap} {x maps : Int} {L : List In} {l : Sl} {M R : List Pr} {p tot n i : Nat}
theorem checkF_no {j : Nat} (hj : j < L.length) (e : goodF L maps j = false) : checkF L maps = false := by
  unfold checkF
  rw [decide_eq_false (p := ∀ j, j < L.length → goodF L maps j = true) (fun q => by rw [q j hj] at e; cases e), Bool.and_false]
theorem jump24 {i : In} (h : i.op = 24) : i.jump = false := by
  unfold In.jump
  rw [h]; decide
theorem right24 {i : In} (h : i.op = 24) (r : i.right = true) : i.src ≤ 1 := by
  unfold In.right at r
  rw [h] at r
  rw [show shapeF 24 = (⟨9, 1, false, true⟩, true) by rfl] at r
  simp only [Bool.and_eq_true, decide_eq_true_eq] at r
  exact r.1.1.2
end
end Go.Proofs.YtpbhanglcophbaaGreat

set_option linter.unusedVariables false
set_option linter.unusedSimpArgs false
namespace Go.Proofs.YtpbhanglcophbaaGreat
open Go.Hl
/-- A map's description. -/
structure Mp where
  kind : Int
  key : Int
  val : Int
  room : Int
abbrev Mp.enc (d : Mp) : List Value := [.int .i64 d.kind, .int .i64 d.key, .int .i64 d.val, .int .i64 d.room]
def Mp.nil : Mp := ⟨0, 0, 0, 0⟩
abbrev mpC (L : List Mp) : List Value := L.flatMap Mp.enc
structure Maps (l : Sl) (L : List Mp) (h : Heap) : Prop where
  vals : l.valsE 4 h (mpC L)
  len : l.len = L.length
  small : L.length ≤ 1000000
theorem Maps.le {l : Sl} {L : List Mp} {h g : Heap} (C : Maps l L h) (q : Heap.le h g) : Maps l L g := ⟨Sl.valsE_le q C.vals, C.len, C.small⟩
theorem mpC_len (L : List Mp) : (mpC L).length = L.length * 4 := by
  induction L with
  | nil => rfl
  | cons a L ih => show (a.enc ++ mpC L).length = _; rw [List.length_append, ih]; simp; omega
theorem mpC_cut (L : List Mp) : ∀ i, i < L.length → cut (mpC L) (i * 4) 4 = some (L.getD i .nil).enc := by
  induction L with
  | nil => intro i hi; simp at hi
  | cons a L ih =>
    intro i hi
    have hl : (mpC (a :: L)).length = L.length * 4 + 4 := by rw [mpC_len]; simp; omega
    cases i with
    | zero => unfold cut; rw [if_pos (by omega)]; rfl
    | succ i =>
      have q := ih i (by simpa using hi)
      unfold cut at q ⊢
      have hl2 := mpC_len L
      have hi2 : i < L.length := by simpa using hi
      rw [if_pos (by omega)] at q
      rw [if_pos (by omega)]
      show some (List.take 4 (List.drop ((i + 1) * 4) (a.enc ++ mpC L))) = some (L.getD i .nil).enc
      rw [show (i + 1) * 4 = i * 4 + 4 by omega, Nat.add_comm, ← List.drop_drop]
      exact q
theorem Maps.at {l : Sl} {L : List Mp} {g : Heap} (C : Maps l L g) {i : Nat} {x : Int} (hx : x = i) (hi : i < L.length) {k : Addr → Pr} (q : ∀ a, g.vals (a.add (x.toNat * 4)) 4 = some (L.getD i .nil).enc → k a g) : pIdx x l.len (pSome l.base k) g := by
  subst hx
  have hv := valsE_vals C.vals (by rw [mpC_len]; omega)
  have hl := C.len
  refine pIdx_i (by omega) (by omega) ?_
  unfold Sl.vals at hv
  cases hb : l.base with
  | none => rw [hb] at hv; have := hv.1; omega
  | some a =>
    rw [hb] at hv
    refine ⟨a, rfl, q a ?_⟩
    rw [vals_sub hv (by simp only [Int.toNat_natCast]; omega)]
    exact mpC_cut L i hi
attribute [local irreducible] loadF zc sizeP bytesP vcBody pInvoke pIf pAssert pNew pLd pLdA pSt pStA pSome pIdx pPart pCall pCallV pAppend pExtend pGet pGetS pPut pNewObj pJoin pLoop pKeep fgt iter pFits
def inB (n lo hi : Int) : Bool := decide (lo ≤ n ∧ n ≤ hi)
def Mp.may (d : Mp) : Bool :=
  if d.kind = 5 then decide (d.key = 0 ∧ d.val = 0 ∧ d.room = 0)
  else (if d.kind = 1 then inB d.key 4 4 else if d.kind = 2 then inB d.key 1 8 else if d.kind = 3 ∨ d.kind = 4 then inB d.key 0 0 else false) && inB d.val 1 32 && inB d.room 1 16
def mapsF (L : List Mp) : Bool := decide (L.length ≤ 4) && decide (∀ j, j < L.length → (L.getD j .nil).may = true)
section
variable {KP K : Value → Pr} {h : Heap} {x n lo hi : Int} {L : List Mp} {l : Sl} {M R : List Pr} {p tot i : Nat} {d : Mp}
end
end Go.Proofs.YtpbhanglcophbaaGreat

set_option linter.unusedVariables false
set_option linter.unusedSimpArgs false
namespace Go.Proofs.YtpbhanglcophbaaGreat
open Go.Hl
attribute [local irreducible] loadF zc sizeP bytesP vcBody pInvoke pIf pAssert pNew pLd pLdA pSt pStA pSome pIdx pPart pCall pCallV pAppend pExtend pGet pGetS pPut pNewObj pJoin pLoop pKeep fgt iter pFits
section
variable {KP K : Value → Pr} {h : Heap} {x n lo hi : Int} {L : List Mp} {l : Sl} {M R : List Pr} {p tot i : Nat} {d : Mp}
def TellsM (L : List Mp) (f : Value) (I : Nat → Pr) (p : Nat → Bool) : Prop :=
  ∀ j g (KP K : Value → Pr), j < L.length → I j g → (∀ g', I (j + 1) g' → K (.bool (p j)) g') → WpVal Tryz.prog f [.agg (L.getD j .nil).enc.toArray] KP K g
theorem mapsF_no {j : Nat} (hj : j < L.length) (e : (L.getD j .nil).may = false) : mapsF L = false := by
  unfold mapsF
  rw [decide_eq_false (p := ∀ j, j < L.length → (L.getD j .nil).may = true) (fun q => by rw [q j hj] at e; cases e), Bool.and_false]
end
end Go.Proofs.YtpbhanglcophbaaGreat

set_option linter.unusedVariables false
set_option linter.unusedSimpArgs false
namespace Go.Proofs.YtpbhanglcophbaaGreat
open Go.Hl
abbrev byC (B : List Nat) : List Value := B.map fun (b : Nat) => Value.int .u8 (b : Int)
/-- A slice of bytes that may be read. -/
structure Bys (l : Sl) (B : List Nat) (h : Heap) : Prop where
  vals : l.valsE 1 h (byC B)
  len : l.len = B.length
  ok : ∀ b ∈ B, b < 256
  small : B.length ≤ 1000000
theorem Bys.le {l : Sl} {B : List Nat} {h g : Heap} (C : Bys l B h) (q : Heap.le h g) : Bys l B g := ⟨Sl.valsE_le q C.vals, C.len, C.ok, C.small⟩
theorem Bys.ld {l : Sl} {B : List Nat} {g : Heap} (C : Bys l B g) {i : Nat} {x : Int} (hx : x = i) (hi : i < B.length) {k : Int → Pr} (q : k (B.getD i 0 : Nat) g) : pIdx x l.len (pSome l.base fun a => pLd (.int .u8) (a.add (x.toNat * 1)) k) g := by
  subst hx
  have hv := valsE_vals C.vals (by simp [byC]; omega)
  have hl := C.len
  refine pIdx_i (by omega) (by omega) ?_
  unfold Sl.vals at hv
  cases hb : l.base with
  | none => rw [hb] at hv; have := hv.1; omega
  | some a =>
    rw [hb] at hv
    refine ⟨a, rfl, _, ?_, q⟩
    refine (vals_cell hv).2.2 _ _ ?_
    rw [Int.toNat_natCast, Nat.mul_one]
    simp [byC, hi, List.getD]
    rfl
theorem Bys.lt {l : Sl} {B : List Nat} {g : Heap} (C : Bys l B g) (i : Nat) : B.getD i 0 < 256 := by
  by_cases hi : i < B.length
  · have e : B.getD i 0 = B[i] := by simp [List.getD, hi]
    rw [e]; exact C.ok _ (List.getElem_mem hi)
  · simp [List.getD, hi]
attribute [local irreducible] loadF zc sizeP bytesP vcBody pInvoke pIf pAssert pNew pLd pLdA pSt pStA pSome pIdx pPart pCall pCallV pAppend pExtend pGet pGetS pPut pNewObj pJoin pLoop pKeep fgt iter pFits
/-- The number in n bytes from a place on, the least first. -/
def numB (B : List Nat) (o : Nat) : Nat → Nat
  | 0 => 0
  | n + 1 => B.getD o 0 + 256 * numB B (o + 1) n
theorem numB_succ (B : List Nat) (n : Nat) : ∀ o, numB B o (n + 1) = numB B o n + B.getD (o + n) 0 * 256 ^ n := by
  induction n with
  | zero => intro o; simp [numB]
  | succ n ih =>
    intro o
    rw [numB, ih (o + 1), numB, Nat.pow_succ, show o + 1 + n = o + (n + 1) by omega, Nat.mul_add]
    rw [Nat.mul_comm (256 ^ n) 256, Nat.mul_left_comm, Nat.add_assoc]
theorem numB_lt {B : List Nat} (h : ∀ i, B.getD i 0 < 256) (n : Nat) : ∀ o, numB B o n < 256 ^ n := by
  induction n with
  | zero => intro o; simp [numB]
  | succ n ih =>
    intro o
    have h1 := ih (o + 1)
    have h2 := h o
    unfold numB
    rw [Nat.pow_succ]
    omega
section
variable {KP K : Value → Pr} {h : Heap} {x y : Int} {B : List Nat} {l : Sl} {M R : List Pr} {o n : Nat}
end
end Go.Proofs.YtpbhanglcophbaaGreat

set_option linter.unusedVariables false
set_option linter.unusedSimpArgs false
namespace Go.Proofs.YtpbhanglcophbaaGreat
open Go.Hl
attribute [local irreducible] loadF zc sizeP bytesP vcBody pInvoke pIf pAssert pNew pLd pLdA pSt pStA pSome pIdx pPart pCall pCallV pAppend pExtend pGet pGetS pPut pNewObj pJoin pLoop pKeep fgt iter pFits
theorem or_step {a c j : Nat} (ha : a < 256 ^ j) (hc : c < 256) (hj : j < 8) : bitsV .or .u64 (a : Int) (IntKind.u64.wrap ((IntKind.u64.wrap (c : Int)) * 2 ^ (min (8 * j) IntKind.u64.bits))) = ((a + c * 256 ^ j : Nat) : Int) := by
  have p7 : 256 ^ j ≤ 256 ^ 7 := Nat.pow_le_pow_right (by decide) (by omega)
  have p8 : 256 ^ j = 2 ^ (8 * j) := by rw [Nat.pow_mul]
  have e7 : 256 ^ 7 = 72057594037927936 := by decide
  have ha' : a = (BitVec.ofNat 64 a).toNat := by rw [BitVec.toNat_ofNat]; omega
  have hc' : c = (BitVec.ofNat 64 c).toNat := by rw [BitVec.toNat_ofNat]; omega
  have key : bitsV .or .u64 ((BitVec.ofNat 64 a).toNat : Int) (IntKind.u64.wrap ((IntKind.u64.wrap ((BitVec.ofNat 64 c).toNat : Int)) * 2 ^ (min (8 * j) IntKind.u64.bits))) = ((BitVec.ofNat 64 a ||| BitVec.ofNat 64 c <<< (8 * j)).toNat : Int) := by rw [u_u, show IntKind.u64.bits = 64 from rfl, u_shl, u_or]
  rw [← ha', ← hc'] at key
  rw [key]
  have hcm : c * 256 ^ j < 256 * 256 ^ 7 := Nat.mul_lt_mul_of_lt_of_le hc p7 (Nat.pow_pos (by decide))
  rw [BitVec.toNat_or, BitVec.toNat_shiftLeft, ← ha', ← hc', Nat.mod_eq_of_lt (by rw [Nat.shiftLeft_eq, ← p8]; omega), Nat.or_comm, ← Nat.shiftLeft_add_eq_or_of_lt (by rw [← p8]; exact ha), Nat.shiftLeft_eq, ← p8, Nat.add_comm]
section
variable {KP K : Value → Pr} {h : Heap} {x y n o : Int} {B : List Nat} {l : Sl} {M R : List Pr}
def thereF (B : List Nat) (o n : Int) : Bool := decide (isSize n = true ∧ 0 ≤ o ∧ o + n ≤ B.length)
end
end Go.Proofs.YtpbhanglcophbaaGreat

set_option linter.unusedVariables false
set_option linter.unusedSimpArgs false
namespace Go.Proofs.YtpbhanglcophbaaGreat
open Go.Hl
abbrev inC (L : List Int) : List Value := L.map fun (b : Int) => Value.int .i64 b
/-- A slice of numbers that may be read. -/
structure Ints (l : Sl) (L : List Int) (h : Heap) : Prop where
  vals : l.valsE 1 h (inC L)
  len : l.len = L.length
  small : L.length ≤ 1000000
theorem Ints.le {l : Sl} {L : List Int} {h g : Heap} (C : Ints l L h) (q : Heap.le h g) : Ints l L g := ⟨Sl.valsE_le q C.vals, C.len, C.small⟩
theorem Ints.ld {l : Sl} {L : List Int} {g : Heap} (C : Ints l L g) {i : Nat} {x : Int} (hx : x = i) (hi : i < L.length) {k : Int → Pr} (q : k (L.getD i 0) g) : pIdx x l.len (pSome l.base fun a => pLd (.int .i64) (a.add (x.toNat * 1)) k) g := by
  subst hx
  have hv := valsE_vals C.vals (by simp [inC]; omega)
  have hl := C.len
  refine pIdx_i (by omega) (by omega) ?_
  unfold Sl.vals at hv
  cases hb : l.base with
  | none => rw [hb] at hv; have := hv.1; omega
  | some a =>
    rw [hb] at hv
    refine ⟨a, rfl, _, ?_, q⟩
    refine (vals_cell hv).2.2 _ _ ?_
    rw [Int.toNat_natCast, Nat.mul_one]
    simp [inC, hi, List.getD]
    rfl
attribute [local irreducible] loadF zc sizeP bytesP vcBody pInvoke pIf pAssert pNew pLd pLdA pSt pStA pSome pIdx pPart pCall pCallV pAppend pExtend pGet pGetS pPut pNewObj pJoin pLoop pKeep fgt iter pFits
/-- The first place of those from j on, n of them, that p tells of; nothing: -1. -/
def firstF (p : Nat → Bool) (j : Nat) : Nat → Int
  | 0 => -1
  | n + 1 => if p j = true then j else firstF p (j + 1) n
theorem firstF_cases (p : Nat → Bool) (n : Nat) : ∀ j, firstF p j n = -1 ∧ (∀ i, j ≤ i → i < j + n → p i = false) ∨ ∃ i, j ≤ i ∧ i < j + n ∧ p i = true ∧ firstF p j n = i := by
  induction n with
  | zero => intro j; exact .inl ⟨rfl, fun i h1 h2 => by omega⟩
  | succ n ih =>
    intro j
    unfold firstF
    cases hp : p j
    · rw [if_neg (by simp)]
      rcases ih (j + 1) with ⟨e, q⟩ | ⟨i, h1, h2, h3, h4⟩
      · refine .inl ⟨e, fun i h1 h2 => ?_⟩
        by_cases hij : i = j
        · subst hij; exact hp
        · exact q i (by omega) (by omega)
      · exact .inr ⟨i, by omega, by omega, h3, h4⟩
    · exact .inr ⟨j, Nat.le_refl _, by omega, hp, by rw [if_pos rfl]⟩
section
variable {KP K : Value → Pr} {h : Heap} {x v : Int} {L : List Int} {l : Sl}
theorem indexI_s (C : Ints l L h) (k : K (.int .i64 (firstF (fun i => decide (v = L.getD i 0)) 0 L.length)) h) : WpCall Tryz.prog 98 #[.slice l.base l.len l.cap, .int .i64 v] KP K h := by
  refine slices_Index_int_int_call l v ?_
  have hs := C.small
  have hl := C.len
  unfold slices_Index_int_int
  obtain ⟨r, hr⟩ : ∃ r, firstF (fun i => decide (v = L.getD i 0)) 0 L.length = r := ⟨_, rfl⟩
  rw [hr] at k
  refine pLoop_rule (fun s g => ∃ j : Nat, j ≤ L.length ∧ s = ((j : Int), ()) ∧ g = h ∧ r = firstF (fun i => decide (v = L.getD i 0)) j (L.length - j)) (fun s => L.length - s.1.toNat) ?_ ⟨0, Nat.zero_le _, rfl, rfl, hr.symm⟩
  rintro s g k' ⟨j, hj, rfl, rfl, e⟩ kl
  dsimp only
  rw [e] at k
  unfold slices_Index_int_int_l1
  rw [hl]
  refine if_c (fun h1 => ?_) (fun h1 => ?_)
  · have hj : j < L.length := by omega
    rw [← hl]
    refine C.ld rfl hj ?_
    rw [show L.length - j = (L.length - (j + 1)) + 1 by omega] at e k
    unfold firstF at e k
    refine if_c (fun h2 => ?_) (fun h2 => ?_)
    · rw [if_pos (decide_eq_true h2)] at k
      exact fgt_mk k
    · rw [if_neg (by simpa using h2)] at e
      rw [wrap_small (by omega) (by omega)]
      exact kl _ _ ⟨j + 1, by omega, rfl, rfl, e⟩ (by dsimp only; omega)
  · have : j = L.length := by omega
    subst this
    rw [Nat.sub_self] at k
    exact fgt_mk k
theorem containsI_s (C : Ints l L h) (k : K (.bool (decide (v ∈ L))) h) : WpCall Tryz.prog 54 #[.slice l.base l.len l.cap, .int .i64 v] KP K h := by
  refine slices_Contains_int_int_call l v ?_
  unfold slices_Contains_int_int
  refine call_c (indexI_s C (one1 ?_))
  refine fgt_mk (kbool ?_ k)
  rw [decide_eq_decide]
  rcases firstF_cases (fun i => decide (v = L.getD i 0)) L.length 0 with ⟨e, q⟩ | ⟨i, h1, h2, h3, h4⟩
  · rw [e]
    constructor
    · intro m
      obtain ⟨i, hi, e⟩ := List.getElem_of_mem m
      have := q i (Nat.zero_le _) (by omega)
      have e2 : L.getD i 0 = L[i] := by simp [List.getD, hi]
      rw [decide_eq_false_iff_not, e2] at this
      exact absurd e.symm this
    · intro m; omega
  · rw [h4]
    refine ⟨fun _ => by omega, fun _ => ?_⟩
    have hi : i < L.length := by omega
    have e2 : L.getD i 0 = L[i] := by simp [List.getD, hi]
    rw [decide_eq_true_eq, e2] at h3
    rw [h3]; exact List.getElem_mem hi
end
end Go.Proofs.YtpbhanglcophbaaGreat

set_option linter.unusedVariables false
set_option linter.unusedSimpArgs false
namespace Go.Proofs.YtpbhanglcophbaaGreat
open Go.Hl
attribute [local irreducible] loadF zc sizeP bytesP vcBody pInvoke pIf pAssert pNew pLd pLdA pSt pStA pSome pIdx pPart pCall pCallV pAppend pExtend pGet pGetS pPut pNewObj pJoin pLoop pKeep fgt iter pFits
section
variable {KP K : Value → Pr} {h : Heap} {x v : Int} {L : List Int} {l : Sl}
/-- A function's value that tells of one number after the other. -/
def TellsI (L : List Int) (f : Value) (I : Nat → Pr) (p : Nat → Bool) : Prop :=
  ∀ j g (KP K : Value → Pr), j < L.length → I j g → (∀ g', I (j + 1) g' → K (.bool (p j)) g') → WpVal Tryz.prog f [.int .i64 (L.getD j 0)] KP K g
theorem indexFI_s {f : Value} {I : Nat → Pr} {p : Nat → Bool} (hs : L.length ≤ 1000000) (hl : l.len = L.length) (hC : ∀ j g, I j g → Ints l L g) (hf : TellsI L f I p) (H : I 0 h)
    (k : ∀ g j, I j g → K (.int .i64 (firstF p 0 L.length)) g) : WpCall Tryz.prog 144 #[.slice l.base l.len l.cap, f] KP K h := by
  refine slices_IndexFunc_int_int_call l f ?_
  unfold slices_IndexFunc_int_int
  obtain ⟨r, hr⟩ : ∃ r, firstF p 0 L.length = r := ⟨_, rfl⟩
  rw [hr] at k
  refine pLoop_rule (fun s g => ∃ j : Nat, j ≤ L.length ∧ s = ((j : Int), ()) ∧ I j g ∧ r = firstF p j (L.length - j)) (fun s => L.length - s.1.toNat) ?_ ⟨0, Nat.zero_le _, rfl, H, hr.symm⟩
  rintro s g k' ⟨j, hj, rfl, H, e⟩ kl
  dsimp only
  unfold slices_IndexFunc_int_int_l1
  rw [hl]
  refine if_c (fun h1 => ?_) (fun h1 => ?_)
  · have hj : j < L.length := by omega
    have C := hC j g H
    rw [← hl]
    rw [show L.length - j = (L.length - (j + 1)) + 1 by omega] at e
    unfold firstF at e
    refine C.ld rfl hj (callW_c (hf j g _ _ hj H fun g' H => one1 ?_))
    cases hpj : p j
    · rw [if_neg (by rw [hpj]; simp)] at e
      refine pIf_f rfl ?_
      rw [wrap_small (by omega) (by omega)]
      exact kl _ _ ⟨j + 1, by omega, rfl, H, e⟩ (by dsimp only; omega)
    · rw [if_pos hpj] at e
      have k := k _ _ H
      rw [e] at k
      exact pIf_t rfl (fgt_mk k)
  · have : j = L.length := by omega
    subst this
    have k := k _ _ H
    rw [e, Nat.sub_self] at k
    exact fgt_mk k
theorem containsFI_s {f : Value} {I : Nat → Pr} {p : Nat → Bool} (hs : L.length ≤ 1000000) (hl : l.len = L.length) (hC : ∀ j g, I j g → Ints l L g) (hf : TellsI L f I p) (H : I 0 h)
    (k : ∀ g j, I j g → K (.bool (!decide (∀ j, j < L.length → p j = false))) g) : WpCall Tryz.prog 111 #[.slice l.base l.len l.cap, f] KP K h := by
  refine slices_ContainsFunc_int_int_call l f ?_
  unfold slices_ContainsFunc_int_int
  refine call_c (indexFI_s hs hl hC hf H fun g j H => one1 ?_)
  have k := k g j H
  refine fgt_mk ?_
  rcases firstF_cases p L.length 0 with ⟨e, q⟩ | ⟨i, h1, h2, h3, h4⟩
  · rw [decide_eq_true (fun j hj => q j (Nat.zero_le _) (by omega))] at k
    rw [e]; exact k
  · rw [decide_eq_false (by intro q; rw [q i (by omega)] at h3; cases h3)] at k
    rw [h4, decide_eq_true (by omega)]; exact k
end
end Go.Proofs.YtpbhanglcophbaaGreat
