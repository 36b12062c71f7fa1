/- Patterns bit by bit: halberdref06.Bit, Of. -/
import Derived.Test.YtpbhanglcophbaaGreatA
set_option linter.unusedVariables false
set_option linter.unusedSimpArgs false
namespace Go.Proofs.YtpbhanglcophbaaGreat
open Go.Hl
attribute [local irreducible] loadF zc sizeP bytesP vcBody pInvoke pIf pAssert pNew pLd pLdA pSt pStA pSome pIdx pPart pCall pCallV pAppend pExtend pGet pGetS pPut pNewObj pJoin pLoop pKeep fgt iter pFits
/-- May bit i be 0, may it be 1. -/
def Tn.zb (t : Tn) (i : Nat) : Bool := t.m.getLsbD i || !t.v.getLsbD i
def Tn.ob (t : Tn) (i : Nat) : Bool := t.m.getLsbD i || t.v.getLsbD i
theorem shr_half (a : B64) (j : Nat) : (a >>> j) / 2#64 = a >>> (j + 1) := by
  apply BitVec.eq_of_toNat_eq
  simp [BitVec.toNat_udiv, BitVec.toNat_ushiftRight, Nat.shiftRight_succ]
theorem shr_bit (a : B64) (j : Nat) : (a >>> j) % 2#64 = 1#64 ↔ a.getLsbD j = true := by
  rw [← BitVec.toNat_inj]
  simp only [BitVec.toNat_umod, BitVec.toNat_ushiftRight, BitVec.toNat_ofNat, BitVec.getLsbD, Nat.testBit, Nat.reducePow, Nat.reduceMod]
  rw [Nat.and_comm, Nat.and_one_is_mod]; simp
theorem shr_bit0 (a : B64) (j : Nat) : (a >>> j) % 2#64 = 0#64 ↔ a.getLsbD j = false := by
  rw [← BitVec.toNat_inj]
  simp only [BitVec.toNat_umod, BitVec.toNat_ushiftRight, BitVec.toNat_ofNat, BitVec.getLsbD, Nat.testBit, Nat.reducePow, Nat.reduceMod]
  rw [Nat.and_comm, Nat.and_one_is_mod]; simp
/-- The number of bits. -/
def ofN (f : Nat → Bool) : Nat → Nat
  | 0 => 0
  | k + 1 => ofN f k + (if f k = true then 2 ^ k else 0)
theorem ofN_lt (f : Nat → Bool) : ∀ k, ofN f k < 2 ^ k
  | 0 => by simp [ofN]
  | k + 1 => by have := ofN_lt f k; unfold ofN; rw [Nat.pow_succ]; split <;> omega
theorem ofN_bit (f : Nat → Bool) : ∀ k i, (ofN f k).testBit i = (decide (i < k) && f i)
  | 0, i => by simp [ofN]
  | k + 1, i => by
    have hl := ofN_lt f k
    have ih := ofN_bit f k i
    unfold ofN
    by_cases hf : f k = true
    · rw [if_pos hf, Nat.add_comm, show 2 ^ k + ofN f k = 2 ^ k * 1 + ofN f k by omega, Nat.testBit_two_pow_mul_add _ hl]
      by_cases hi : i < k
      · rw [if_pos hi, ih]; simp [hi, Nat.lt_succ_of_lt hi]
      · rw [if_neg hi]
        by_cases e : i = k
        · subst e; simp [hf]
        · have : i - k ≠ 0 := by omega
          obtain ⟨q, hq⟩ := Nat.exists_eq_succ_of_ne_zero this
          rw [hq]; simp [Nat.testBit_succ]; omega
    · rw [if_neg hf, Nat.add_zero, ih]
      by_cases e : i = k
      · subst e; simp [hf]
      · congr 1; simp; omega
def ofB (f : Nat → Bool) : B64 := BitVec.ofNat 64 (ofN f 64)
theorem ofB_bit (f : Nat → Bool) {i : Nat} (hi : i < 64) : (ofB f).getLsbD i = f i := by
  unfold ofB
  rw [BitVec.getLsbD_ofNat, ofN_bit]; simp [hi]
/-- A pattern of bits. -/
def Tn.of (z o : Nat → Bool) : Tn := ⟨ofB fun i => !z i && o i, ofB fun i => z i && o i⟩
theorem Tn.eq_of {t : Tn} {z o : Nat → Bool} (hv : ∀ i, i < 64 → t.v.getLsbD i = (!z i && o i)) (hm : ∀ i, i < 64 → t.m.getLsbD i = (z i && o i)) : Tn.of z o = t := by
  cases t with
  | mk v m =>
    unfold Tn.of
    congr 1
    · apply BitVec.eq_of_getLsbD_eq; intro i hi; rw [ofB_bit _ hi]; exact (hv i hi).symm
    · apply BitVec.eq_of_getLsbD_eq; intro i hi; rw [ofB_bit _ hi]; exact (hm i hi).symm
/-- Rows of 64 Bools. -/
def brow (z : Nat → Bool) : List Value := (List.range 64).map fun j => .bool (z j)
theorem brow_len (z : Nat → Bool) : (brow z).length = 64 := by simp [brow]
theorem brow_get (z : Nat → Bool) {i : Nat} (hi : i < 64) : (brow z)[i]? = some (.bool (z i)) := by simp [brow, hi]
theorem brow_set (z : Nat → Bool) {i : Nat} (v : Bool) : (brow z).set i (.bool v) = brow (fun j => if j = i then v else z j) := by
  apply List.ext_getElem?
  intro j
  rw [List.getElem?_set]
  unfold brow
  by_cases e : i = j
  · subst e; by_cases hi : i < 64 <;> simp [hi]
  · by_cases hj : j < 64 <;> simp [e, Ne.symm e, hj]
theorem brow_cong {z y : Nat → Bool} (h : ∀ i, i < 64 → z i = y i) : brow z = brow y := by
  unfold brow
  apply List.map_congr_left
  intro i hi
  rw [h i (List.mem_range.1 hi)]
theorem brow_reps {P : Program} {t : TypeId} [i : Zc P t [.bool false]] : reps 64 (zc P t) = brow fun _ => false := by rw [i.eq]; rfl
instance {z : Nat → Bool} : Ones (brow z) := ⟨fun v hv => by
  unfold brow at hv
  obtain ⟨j, _, rfl⟩ := List.mem_map.1 hv
  rfl⟩
section
variable {KP K : Value → Pr} {h : Heap} {x y u : Int} {v m w n a b c d : B64} {M R : List Pr} {tot p : Nat} {l l2 : List Value} {t s : Tn}
/-- A Bool of a row. -/
theorem ld_brow {z : Nat → Bool} [i : Pick M (.blk p) (rowP p (brow z) tot) R] (H : seps M h) {j : Nat} (hj : j < 64) {q : Bool → Pr} (hq : q (z j) h) : pLd .bool ⟨p, j, none⟩ q h :=
  ld_b (s := .bool) (row_at (i.out H)) (brow_get z hj) hq
theorem st_brow {z : Nat → Bool} {v : Bool} [i : Pick M (.blk p) (rowP p (brow z) tot) R] (H : seps M h) {j : Nat} (hj : j < 64) {q : Pr} (hq : ∀ h, seps (rowP p (brow fun i => if i = j then v else z i) tot :: R) h → q h) : pSt ⟨p, j, none⟩ (.bool v) q h :=
  st_b (row_at (i.out H)) (by rw [brow_len]; exact hj) rfl (by rw [brow_set]; exact hq _ (row_set (i.out H)))
theorem up64 {j : Nat} (hj : j < 64) : IntKind.i64.wrap ((j : Int) + 1) = ((j + 1 : Nat) : Int) := by rw [wrap_small (by omega) (by omega)]; rfl
def pv (f : Nat → Bool) (j : Nat) : B64 := BitVec.ofNat 64 (ofN f j)
theorem pv_succ (f : Nat → Bool) (j : Nat) : pv f (j + 1) = if f j = true then pv f j + (1#64 <<< j) else pv f j := by
  unfold pv
  rw [ofN]
  split
  · rw [BitVec.ofNat_add]
    congr 1
    apply BitVec.eq_of_toNat_eq
    simp [BitVec.toNat_shiftLeft, Nat.shiftLeft_eq]
  · simp
theorem shl_succ (j : Nat) : 2#64 * (1#64 <<< j) = 1#64 <<< (j + 1) := by
  apply BitVec.eq_of_toNat_eq
  simp [BitVec.toNat_mul, BitVec.toNat_shiftLeft, Nat.shiftLeft_eq, Nat.pow_succ, Nat.mul_comm]
end
end Go.Proofs.YtpbhanglcophbaaGreat

set_option linter.unusedVariables false
set_option linter.unusedSimpArgs false
namespace Go.Proofs.YtpbhanglcophbaaGreat
open Go.Hl
attribute [local irreducible] loadF zc sizeP bytesP vcBody pInvoke pIf pAssert pNew pLd pLdA pSt pStA pSome pIdx pPart pCall pCallV pAppend pExtend pGet pGetS pPut pNewObj pJoin pLoop pKeep fgt iter pFits
def upto (f : Nat → Bool) (j : Nat) : Nat → Bool := fun i => decide (i < j) && f i
theorem upto_zero (f : Nat → Bool) : brow (upto f 0) = brow fun _ => false := brow_cong fun i _ => by simp [upto]
theorem upto_all (f : Nat → Bool) : brow (upto f 64) = brow f := brow_cong fun i hi => by simp [upto, hi]
theorem upto_set {f : Nat → Bool} {j : Nat} {v : Bool} (hv : v = f j) : brow (fun i => if i = j then v else upto f j i) = brow (upto f (j + 1)) := brow_cong fun i _ => by
  subst hv; unfold upto
  by_cases e : i = j
  · subst e; simp
  · rw [if_neg e]; congr 1; simp; omega
theorem upto_set2 {f : Nat → Bool} {j : Nat} {v u : Bool} (hv : v = f j) : brow (fun i => if i = j then v else (if i = j then u else upto f j i)) = brow (upto f (j + 1)) := by
  rw [← upto_set hv]; exact brow_cong fun i _ => by by_cases e : i = j <;> simp [e]
theorem upto_no {f : Nat → Bool} {j : Nat} (hv : f j = false) : brow (upto f j) = brow (upto f (j + 1)) := brow_cong fun i _ => by
  unfold upto
  by_cases e : i = j
  · subst e; simp [hv]
  · congr 1; simp; omega
/- What the operations do to bits. -/
theorem right_bits (t : Tn) (i : Nat) (hi : i < 64) : t.right.v.getLsbD i = (!t.zb i && t.ob i) ∧ t.right.m.getLsbD i = (t.zb i && t.ob i) := by
  unfold Tn.right Tn.zb Tn.ob
  simp only [BitVec.getLsbD_and, BitVec.getLsbD_not, hi, decide_true, Bool.true_and]
  cases t.v.getLsbD i <;> cases t.m.getLsbD i <;> simp
theorem meet_of {a b : Tn} (h : ∀ i, i < 64 → (a.zb i && b.zb i || a.ob i && b.ob i) = true) : (a.meet b).2 = true ∧ Tn.of (fun i => a.zb i && b.zb i) (fun i => a.ob i && b.ob i) = (a.meet b).1 := by
  have e : (a.right.v ^^^ b.right.v) &&& ~~~(a.right.m ||| b.right.m) = 0#64 := by
    apply BitVec.eq_of_getLsbD_eq
    intro i hi
    have h1 := h i hi
    have ha := right_bits a i hi
    have hb := right_bits b i hi
    simp only [BitVec.getLsbD_and, BitVec.getLsbD_xor, BitVec.getLsbD_not, BitVec.getLsbD_or, hi, decide_true, Bool.true_and, ha.1, ha.2, hb.1, hb.2, BitVec.getLsbD_zero]
    revert h1
    cases a.zb i <;> cases b.zb i <;> cases a.ob i <;> cases b.ob i <;> simp
  unfold Tn.meet
  rw [if_neg (by rw [e]; simp)]
  refine ⟨rfl, Tn.eq_of (fun i hi => ?_) (fun i hi => ?_)⟩
  · have h1 := h i hi
    have ha := right_bits a i hi
    have hb := right_bits b i hi
    have ra : a.zb i = true ∨ a.ob i = true := by unfold Tn.zb Tn.ob; cases a.v.getLsbD i <;> cases a.m.getLsbD i <;> simp
    have rb : b.zb i = true ∨ b.ob i = true := by unfold Tn.zb Tn.ob; cases b.v.getLsbD i <;> cases b.m.getLsbD i <;> simp
    have r := (right_bits ⟨a.right.v ||| b.right.v, a.right.m &&& b.right.m⟩ i hi).1
    rw [r]
    unfold Tn.zb Tn.ob
    simp only [BitVec.getLsbD_and, BitVec.getLsbD_or, ha.1, ha.2, hb.1, hb.2]
    change _ = (!(a.zb i && b.zb i) && (a.ob i && b.ob i))
    revert h1 ra rb
    cases a.zb i <;> cases b.zb i <;> cases a.ob i <;> cases b.ob i <;> simp
  · have h1 := h i hi
    have ha := right_bits a i hi
    have hb := right_bits b i hi
    have ra : a.zb i = true ∨ a.ob i = true := by unfold Tn.zb Tn.ob; cases a.v.getLsbD i <;> cases a.m.getLsbD i <;> simp
    have rb : b.zb i = true ∨ b.ob i = true := by unfold Tn.zb Tn.ob; cases b.v.getLsbD i <;> cases b.m.getLsbD i <;> simp
    have r := (right_bits ⟨a.right.v ||| b.right.v, a.right.m &&& b.right.m⟩ i hi).2
    rw [r]
    unfold Tn.zb Tn.ob
    simp only [BitVec.getLsbD_and, BitVec.getLsbD_or, ha.1, ha.2, hb.1, hb.2]
    change _ = ((a.zb i && b.zb i) && (a.ob i && b.ob i))
    revert h1 ra rb
    cases a.zb i <;> cases b.zb i <;> cases a.ob i <;> cases b.ob i <;> simp
theorem meet_no {a b : Tn} {i : Nat} (hi : i < 64) (h : (a.zb i && b.zb i || a.ob i && b.ob i) = false) : a.meet b = (.all, false) := by
  unfold Tn.meet
  rw [if_pos]
  intro e
  have ha := right_bits a i hi
  have hb := right_bits b i hi
  have e1 : ((a.right.v ^^^ b.right.v) &&& ~~~(a.right.m ||| b.right.m)).getLsbD i = false := by rw [e]; simp
  simp only [BitVec.getLsbD_and, BitVec.getLsbD_xor, BitVec.getLsbD_not, BitVec.getLsbD_or, hi, decide_true, Bool.true_and, ha.1, ha.2, hb.1, hb.2] at e1
  have ra : a.zb i = true ∨ a.ob i = true := by unfold Tn.zb Tn.ob; cases a.v.getLsbD i <;> cases a.m.getLsbD i <;> simp
  have rb : b.zb i = true ∨ b.ob i = true := by unfold Tn.zb Tn.ob; cases b.v.getLsbD i <;> cases b.m.getLsbD i <;> simp
  revert h e1 ra rb
  cases a.zb i <;> cases b.zb i <;> cases a.ob i <;> cases b.ob i <;> simp
section
variable {KP K : Value → Pr} {h : Heap} {x y u : Int} {v m w n c d : B64} {M R : List Pr} {tot p : Nat} {l l2 : List Value} {a b t s : Tn}
end
end Go.Proofs.YtpbhanglcophbaaGreat

set_option linter.unusedVariables false
set_option linter.unusedSimpArgs false
namespace Go.Proofs.YtpbhanglcophbaaGreat
open Go.Hl
attribute [local irreducible] loadF zc sizeP bytesP vcBody pInvoke pIf pAssert pNew pLd pLdA pSt pStA pSome pIdx pPart pCall pCallV pAppend pExtend pGet pGetS pPut pNewObj pJoin pLoop pKeep fgt iter pFits
theorem lowF_bit {k i : Nat} (hk : k ≤ 64) (hi : i < 64) : (lowF k).getLsbD i = decide (i < k) := by
  unfold lowF
  by_cases h0 : (k : Int) < 1
  · rw [if_pos h0]; simp; omega
  rw [if_neg h0]
  by_cases h1 : (k : Int) > 63
  · rw [if_pos h1, show (18446744073709551615#64) = BitVec.allOnes 64 from rfl, BitVec.getLsbD_allOnes]; simp; omega
  rw [if_neg h1]
  have e : (1#64 <<< (k : Int).toNat - 1#64).toNat = 2 ^ k - 1 := by
    rw [Int.toNat_natCast, BitVec.toNat_sub, BitVec.toNat_shiftLeft, Nat.shiftLeft_eq]
    have : 2 ^ k < 18446744073709551616 := by
      have : 2 ^ k ≤ 2 ^ 63 := Nat.pow_le_pow_right (by omega) (by omega)
      omega
    have h2 : 0 < 2 ^ k := Nat.two_pow_pos k
    simp; omega
  rw [BitVec.getLsbD, e, Nat.testBit_two_pow_sub_one]
theorem zext_bit {n : Int} {k : Nat} (h : isSize n = true) (hk : 8 * n = k) (x : B64) {i : Nat} (hi : i < 64) : (zextF x n).getLsbD i = (x.getLsbD i && decide (i < k)) := by
  unfold zextF
  rw [if_pos h, BitVec.getLsbD_and, hk, lowF_bit _ hi]
  rcases isSize_cases h with rfl | rfl | rfl | rfl <;> omega
theorem zext_no {n : Int} (h : isSize n = false) (x : B64) : zextF x n = x := by unfold zextF; rw [if_neg (by rw [h]; simp)]
theorem cut_of {t : Tn} {n : Int} {k : Nat} (h : isSize n = true ∧ 8 * n = k ∨ isSize n = false ∧ k = 64) : Tn.of (fun i => if i < k then t.zb i else true) (fun i => if i < k then t.ob i else false) = t.cut n := by
  refine Tn.eq_of (fun i hi => ?_) (fun i hi => ?_)
  · have ha := right_bits t i hi
    unfold Tn.cut
    rcases h with ⟨h1, h2⟩ | ⟨h1, h2⟩
    · simp only [zext_bit h1 h2 _ hi, ha.1]; by_cases hq : i < k <;> simp [hq]
    · simp only [zext_no h1, ha.1]; simp [show i < k by omega]
  · have ha := right_bits t i hi
    unfold Tn.cut
    rcases h with ⟨h1, h2⟩ | ⟨h1, h2⟩
    · simp only [zext_bit h1 h2 _ hi, ha.2]; by_cases hq : i < k <;> simp [hq]
    · simp only [zext_no h1, ha.2]; simp [show i < k by omega]
section
variable {KP K : Value → Pr} {h : Heap} {x y u : Int} {v m w n c d : B64} {M R : List Pr} {tot p : Nat} {l l2 : List Value} {a b t s : Tn}
end
end Go.Proofs.YtpbhanglcophbaaGreat

set_option linter.unusedVariables false
set_option linter.unusedSimpArgs false
namespace Go.Proofs.YtpbhanglcophbaaGreat
open Go.Hl
attribute [local irreducible] loadF zc sizeP bytesP vcBody pInvoke pIf pAssert pNew pLd pLdA pSt pStA pSome pIdx pPart pCall pCallV pAppend pExtend pGet pGetS pPut pNewObj pJoin pLoop pKeep fgt iter pFits
/-- Which bit comes to a place. -/
def src (kind : Int) (k i : Nat) : Option Nat :=
  if kind = 0 then (if k ≤ i then some (i - k) else none) else if kind = 2 then some (if 63 < i + k then 63 else i + k) else (if i + k < 64 then some (i + k) else none)
def zsrc (kind : Int) (t : Tn) (k i : Nat) : Bool := match src kind k i with | some j => t.zb j | none => true
def osrc (kind : Int) (t : Tn) (k i : Nat) : Bool := match src kind k i with | some j => t.ob j | none => false
def Tn.shift (kind : Int) (t : Tn) (c : B64) : Tn := if kind = 0 then t.lsh c else if kind = 2 then t.arsh c else t.rsh c
theorem shift_of (kind : Int) (t : Tn) (c : B64) : Tn.of (zsrc kind t (c % 64#64).toNat) (osrc kind t (c % 64#64).toNat) = t.shift kind c := by
  have hk : (c % 64#64).toNat < 64 := by rw [BitVec.toNat_umod]; exact Nat.mod_lt _ (by decide)
  unfold Tn.shift Tn.lsh Tn.rsh Tn.arsh
  generalize (c % 64#64).toNat = q at hk ⊢
  by_cases h0 : kind = 0
  · rw [if_pos h0]
    refine Tn.eq_of (fun i hi => ?_) (fun i hi => ?_)
    · unfold zsrc osrc src
      simp only [h0, if_true, BitVec.getLsbD_shiftLeft]
      by_cases hq : q ≤ i
      · rw [(right_bits t _ (by omega)).1]; simp [hq, hi, show ¬ i < q by omega]
      · simp [hq, show i < q by omega]
    · unfold zsrc osrc src
      simp only [h0, if_true, BitVec.getLsbD_shiftLeft]
      by_cases hq : q ≤ i
      · rw [(right_bits t _ (by omega)).2]; simp [hq, hi, show ¬ i < q by omega]
      · simp [hq, show i < q by omega]
  rw [if_neg h0]
  by_cases h2 : kind = 2
  · rw [if_pos h2]
    refine Tn.eq_of (fun i hi => ?_) (fun i hi => ?_)
    · unfold zsrc osrc src
      simp only [h0, h2, if_true, if_false, BitVec.getLsbD_sshiftRight]
      by_cases hq : i + q < 64
      · rw [(right_bits t _ (by omega)).1, Nat.add_comm q i]; simp [hq, hi, show ¬ 63 < i + q by omega, show ¬ 64 ≤ i by omega]
      · have h63 := (right_bits t 63 (by omega)).1
        simp only [show ¬ q + i < 64 by omega, if_false, BitVec.msb_eq_getLsbD_last, show 63 < i + q by omega, if_true, show ¬ 64 ≤ i by omega, decide_false, Bool.not_false, Bool.true_and]
        exact h63
    · unfold zsrc osrc src
      simp only [h0, h2, if_true, if_false, BitVec.getLsbD_sshiftRight]
      by_cases hq : i + q < 64
      · rw [(right_bits t _ (by omega)).2, Nat.add_comm q i]; simp [hq, hi, show ¬ 63 < i + q by omega, show ¬ 64 ≤ i by omega]
      · have h63 := (right_bits t 63 (by omega)).2
        simp only [show ¬ q + i < 64 by omega, if_false, BitVec.msb_eq_getLsbD_last, show 63 < i + q by omega, if_true, show ¬ 64 ≤ i by omega, decide_false, Bool.not_false, Bool.true_and]
        exact h63
  rw [if_neg h2]
  refine Tn.eq_of (fun i hi => ?_) (fun i hi => ?_)
  · unfold zsrc osrc src
    simp only [h0, h2, if_false, BitVec.getLsbD_ushiftRight]
    by_cases hq : i + q < 64
    · rw [(right_bits t _ (by omega)).1, Nat.add_comm q i]; simp [hq]
    · rw [BitVec.getLsbD_of_ge _ _ (by omega)]; simp [hq]
  · unfold zsrc osrc src
    simp only [h0, h2, if_false, BitVec.getLsbD_ushiftRight]
    by_cases hq : i + q < 64
    · rw [(right_bits t _ (by omega)).2, Nat.add_comm q i]; simp [hq]
    · rw [BitVec.getLsbD_of_ge _ _ (by omega)]; simp [hq]
section
variable {KP K : Value → Pr} {h : Heap} {x y u : Int} {v m w n c d : B64} {M R : List Pr} {tot p : Nat} {l l2 : List Value} {a b t s : Tn}
end
end Go.Proofs.YtpbhanglcophbaaGreat

set_option linter.unusedVariables false
set_option linter.unusedSimpArgs false
namespace Go.Proofs.YtpbhanglcophbaaGreat
open Go.Hl
attribute [local irreducible] loadF zc sizeP bytesP vcBody pInvoke pIf pAssert pNew pLd pLdA pSt pStA pSome pIdx pPart pCall pCallV pAppend pExtend pGet pGetS pPut pNewObj pJoin pLoop pKeep fgt iter pFits
theorem lowF_nat {k : Nat} (hk : k ≤ 64) : (lowF k).toNat = 2 ^ k - 1 := by
  apply Nat.eq_of_testBit_eq
  intro i
  rw [Nat.testBit_two_pow_sub_one]
  by_cases hi : i < 64
  · exact lowF_bit hk hi
  · rw [Nat.testBit_lt_two_pow (Nat.lt_of_lt_of_le (BitVec.isLt _) (Nat.pow_le_pow_right (by decide) (by omega)))]
    simp; omega
theorem lowF_succ {j : Nat} (hj : j < 64) : lowF j + 1#64 <<< j = lowF (j + 1 : Nat) := by
  apply BitVec.eq_of_toNat_eq
  have h1 : 2 ^ j ≤ 2 ^ 63 := Nat.pow_le_pow_right (by decide) (by omega)
  have h0 : 0 < 2 ^ j := Nat.two_pow_pos j
  rw [BitVec.toNat_add, lowF_nat (by omega), lowF_nat (by omega), BitVec.toNat_shiftLeft, Nat.shiftLeft_eq, Nat.pow_succ]
  simp; omega
theorem div_shl (a : B64) {j : Nat} (hj : j < 64) : a / (1#64 <<< j) = a >>> j := by
  apply BitVec.eq_of_toNat_eq
  have h1 : 2 ^ j ≤ 2 ^ 63 := Nat.pow_le_pow_right (by decide) (by omega)
  rw [BitVec.toNat_udiv, BitVec.toNat_ushiftRight, BitVec.toNat_shiftLeft, Nat.shiftLeft_eq, Nat.shiftRight_eq_div_pow]
  simp; rw [Nat.mod_eq_of_lt (by omega)]
theorem shr_eq_iff (a b : B64) (j : Nat) : a >>> j = b >>> j ↔ lenN (a ^^^ b).toNat ≤ j := by
  rw [lenN_le]
  have e : (a ^^^ b) >>> j = a >>> j ^^^ b >>> j := BitVec.ushiftRight_xor_distrib ..
  rw [← BitVec.xor_eq_zero_iff, ← e, ← BitVec.toNat_inj, BitVec.toNat_ushiftRight, Nat.shiftRight_eq_div_pow]
  simp [Nat.div_eq_zero_iff]
theorem shr_mul (a : B64) {j : Nat} (hj : j < 64) : (a >>> j) * (1#64 <<< j) = a &&& ~~~lowF j := by
  have e : (a >>> j) * (1#64 <<< j) = (a >>> j) <<< j := by
    apply BitVec.eq_of_toNat_eq
    simp [BitVec.toNat_mul, BitVec.toNat_shiftLeft, Nat.shiftLeft_eq]
  rw [e]
  apply BitVec.eq_of_getLsbD_eq
  intro i hi
  rw [BitVec.getLsbD_shiftLeft, BitVec.getLsbD_ushiftRight, BitVec.getLsbD_and, BitVec.getLsbD_not, lowF_bit (by omega) hi]
  by_cases hq : i < j
  · simp [hq]
  · simp [hq, hi, show j + (i - j) = i by omega]
section
variable {KP K : Value → Pr} {h : Heap} {x y u : Int} {v m w n c d lo hi : B64} {M R : List Pr} {tot p : Nat} {l l2 : List Value} {a b t s : Tn}
end
end Go.Proofs.YtpbhanglcophbaaGreat

set_option linter.unusedVariables false
set_option linter.unusedSimpArgs false
namespace Go.Proofs.YtpbhanglcophbaaGreat
open Go.Hl
attribute [local irreducible] loadF zc sizeP bytesP vcBody pInvoke pIf pAssert pNew pLd pLdA pSt pStA pSome pIdx pPart pCall pCallV pAppend pExtend pGet pGetS pPut pNewObj pJoin pLoop pKeep fgt iter pFits
/-- A row with one Bool of its own. -/
def wth (Z : Nat → Bool) (i : Nat) (v : Bool) : Nat → Bool := fun k => if k = i then v else Z k
theorem wth_set (Z : Nat → Bool) (i : Nat) (u v : Bool) : (fun k => if k = i then v else wth Z i u k) = wth Z i v := by
  funext k; unfold wth; by_cases e : k = i <;> simp [e]
structure Rs where
  n0 : Bool
  n1 : Bool
  z : Bool
  o : Bool
def cidx (kind : Int) (p q c : Nat) : Nat := if kind = 0 then (p + q + c) / 2 else if kind = 1 then (if p < q + c then 1 else 0) else 0
def bitx (kind : Int) (p q c : Nat) : Nat := if kind = 0 then (p + q + c) % 2 else if kind = 1 then (p + q + c) % 2 else if kind = 2 then p * q else if kind = 3 then p + q - p * q else (p + q) % 2
def rd (kind : Int) (x y cr : Nat → Bool) (p q c : Nat) (s : Rs) : Rs :=
  if (x p && y q && cr c) = true then ⟨s.n0 || cidx kind p q c == 0, s.n1 || cidx kind p q c == 1, s.z || bitx kind p q c == 0, s.o || bitx kind p q c == 1⟩ else s
theorem cst0 : ((0 : Nat) : Int) = 0 := rfl
theorem cst1 : ((1 : Nat) : Int) = 1 := rfl
theorem wr0 : IntKind.i64.wrap 0 = 0 := rfl
theorem wr1 : IntKind.i64.wrap 1 = 1 := rfl
theorem wr2 : IntKind.i64.wrap 2 = 2 := rfl
theorem wr3 : IntKind.i64.wrap 3 = 3 := rfl
theorem wrm1 : IntKind.i64.wrap (-1) = -1 := rfl
theorem wrm2 : IntKind.i64.wrap (-2) = -2 := rfl
section
variable {KP K : Value → Pr} {g : Heap} {M : List Pr}
def rowsT (b4 b5 b6 b9 b10 b15 : Nat) (Z O : Nat → Bool) (i : Nat) (x y cr : Nat → Bool) (s : Rs) (M : List Pr) : List Pr :=
  rowP b15 [.bool s.n0, .bool s.n1] 2 :: rowP b4 (brow (wth Z i s.z)) 64 :: rowP b5 (brow (wth O i s.o)) 64 :: rowP b9 [.bool (x 0), .bool (x 1)] 2 :: rowP b10 [.bool (y 0), .bool (y 1)] 2 :: rowP b6 [.bool (cr 0), .bool (cr 1)] 2 :: M
theorem two_get {x : Nat → Bool} {p : Nat} (hp : p < 2) : ([.bool (x 0), .bool (x 1)] : List Value)[p]? = some (Shape.bool.inj (x p)) := by
  rcases (by omega : p = 0 ∨ p = 1) with rfl | rfl <;> rfl
end
end Go.Proofs.YtpbhanglcophbaaGreat

set_option linter.unusedVariables false
set_option linter.unusedSimpArgs false
namespace Go.Proofs.YtpbhanglcophbaaGreat
open Go.Hl
def two (a b : Bool) : Nat → Bool := fun p => if p = 0 then a else b
def rdc (kind : Int) (x y cr : Nat → Bool) (p q : Nat) (s : Rs) : Rs := rd kind x y cr p q 1 (rd kind x y cr p q 0 s)
def rdq (kind : Int) (x y cr : Nat → Bool) (p : Nat) (s : Rs) : Rs := rdc kind x y cr p 1 (rdc kind x y cr p 0 s)
def rdp (kind : Int) (x y cr : Nat → Bool) (s : Rs) : Rs := rdq kind x y cr 1 (rdq kind x y cr 0 s)
def s00 : Rs := ⟨false, false, false, false⟩
/-- What is carried into a bit, its way. -/
def car (kind : Int) (a b : Tn) : Nat → Bool × Bool
  | 0 => (true, false)
  | i + 1 =>
    let s := rdp kind (two (a.zb i) (a.ob i)) (two (b.zb i) (b.ob i)) (two (car kind a b i).1 (car kind a b i).2) s00
    (s.n0, s.n1)
def way1 (kind : Int) (a b : Tn) (i : Nat) : Rs := rdp kind (two (a.zb i) (a.ob i)) (two (b.zb i) (b.ob i)) (two (car kind a b i).1 (car kind a b i).2) s00
section
variable {KP K : Value → Pr} {g h : Heap} {M : List Pr} {kind : Int} (hk : kind = 0 ∨ kind = 1 ∨ kind = 2 ∨ kind = 3 ∨ kind = 4) {p q c i b4 b5 b6 b9 b10 b15 : Nat} {Z O x y cr : Nat → Bool} {s : Rs} (hi : i < 64)
include hk hi
end
section
variable {KP K : Value → Pr} {h : Heap} {l l2 : List Value} {a b : Tn} {kind : Int}
end
end Go.Proofs.YtpbhanglcophbaaGreat

set_option linter.unusedVariables false
set_option linter.unusedSimpArgs false
namespace Go.Proofs.YtpbhanglcophbaaGreat
open Go.Hl
theorem sub_bit (x y : B64) {i : Nat} (hi : i < 64) : (x - y).getLsbD i = (x.getLsbD i ^^ (!y.getLsbD i ^^ BitVec.carry i x (~~~y) true)) := by
  have e : x - y = x + ~~~y + BitVec.setWidth 64 (BitVec.ofBool true) := by
    rw [BitVec.sub_eq_add_neg, BitVec.neg_eq_not_add, BitVec.add_assoc]; rfl
  rw [e, BitVec.getLsbD_add_add_bool hi, BitVec.getLsbD_not]
  simp [hi]
theorem Tn.zo (t : Tn) (i : Nat) : (t.zb i || t.ob i) = true := by unfold Tn.zb Tn.ob; cases t.v.getLsbD i <;> cases t.m.getLsbD i <;> simp
theorem right_max (t : Tn) {i : Nat} (hi : i < 64) : (t.right.v ||| t.right.m).getLsbD i = t.ob i := by
  rw [BitVec.getLsbD_or, (right_bits t i hi).1, (right_bits t i hi).2]
  cases t.zb i <;> cases t.ob i <;> simp
theorem right_min (t : Tn) {i : Nat} (hi : i < 64) : t.right.v.getLsbD i = !t.zb i := by
  rw [(right_bits t i hi).1]
  have := t.zo i
  revert this
  cases t.zb i <;> cases t.ob i <;> simp
theorem right_mask (t : Tn) {i : Nat} (hi : i < 64) : t.right.m.getLsbD i = (t.zb i && t.ob i) := (right_bits t i hi).2
theorem right_dis (t : Tn) : t.right.v &&& t.right.m = 0#64 := by
  apply BitVec.eq_of_getLsbD_eq
  intro i hi
  rw [BitVec.getLsbD_and, (right_bits t i hi).1, (right_bits t i hi).2]
  cases t.zb i <;> cases t.ob i <;> simp
theorem right_add (t : Tn) : t.right.v + t.right.m = t.right.v ||| t.right.m := BitVec.add_eq_or_of_and_eq_zero _ _ (right_dis t)
theorem add_max (a b : Tn) : a.right.v + b.right.v + a.right.m + b.right.m = (a.right.v ||| a.right.m) + (b.right.v ||| b.right.m) := by
  rw [← right_add, ← right_add]; ac_rfl
/- One bit of each kind. -/
theorem bit0 : ∀ az ao bz bo cl ch : Bool, (az || ao) = true → (bz || bo) = true → (!cl || ch) = true →
    let s := rdp 0 (two az ao) (two bz bo) (two (!cl) ch) s00
    s.n0 = !Bool.atLeastTwo (!az) (!bz) cl ∧ s.n1 = Bool.atLeastTwo ao bo ch ∧ (s.z && s.o) = (((!az ^^ (!bz ^^ cl)) ^^ (ao ^^ (bo ^^ ch))) || (az && ao) || (bz && bo)) ∧ (!s.z && s.o) = ((!az ^^ (!bz ^^ cl)) && !(((!az ^^ (!bz ^^ cl)) ^^ (ao ^^ (bo ^^ ch))) || (az && ao) || (bz && bo))) := by decide
theorem bit1 : ∀ az ao bz bo cl cm ch : Bool, (az || ao) = true → (bz || bo) = true → (!ch || cm) = true → (!cm || cl) = true →
    let s := rdp 1 (two az ao) (two bz bo) (two cl (!ch)) s00
    s.n0 = Bool.atLeastTwo ao bz cl ∧ s.n1 = !Bool.atLeastTwo (!az) (!bo) ch ∧ (s.z && s.o) = (((ao ^^ (bz ^^ cl)) ^^ (!az ^^ (!bo ^^ ch))) || (az && ao) || (bz && bo)) ∧
      (!s.z && s.o) = ((!az ^^ (bz ^^ cm)) && !(((ao ^^ (bz ^^ cl)) ^^ (!az ^^ (!bo ^^ ch))) || (az && ao) || (bz && bo))) ∧
      (!Bool.atLeastTwo (!az) (!bo) ch || Bool.atLeastTwo (!az) bz cm) = true ∧ (!Bool.atLeastTwo (!az) bz cm || Bool.atLeastTwo ao bz cl) = true := by decide
theorem bit2 : ∀ az ao bz bo : Bool, (az || ao) = true → (bz || bo) = true →
    let s := rdp 2 (two az ao) (two bz bo) (two true false) s00
    s.n0 = true ∧ s.n1 = false ∧ (s.z && s.o) = ((ao && bo) && !(!az && !bz)) ∧ (!s.z && s.o) = (!az && !bz) := by decide
theorem bit3 : ∀ az ao bz bo : Bool, (az || ao) = true → (bz || bo) = true →
    let s := rdp 3 (two az ao) (two bz bo) (two true false) s00
    s.n0 = true ∧ s.n1 = false ∧ (s.z && s.o) = ((az && ao || bz && bo) && !(!az || !bz)) ∧ (!s.z && s.o) = (!az || !bz) := by decide
theorem bit4 : ∀ az ao bz bo : Bool, (az || ao) = true → (bz || bo) = true →
    let s := rdp 4 (two az ao) (two bz bo) (two true false) s00
    s.n0 = true ∧ s.n1 = false ∧ (s.z && s.o) = (az && ao || bz && bo) ∧ (!s.z && s.o) = ((!az ^^ !bz) && !(az && ao || bz && bo)) := by decide
theorem car_same {kind : Int} {a b : Tn} (h : ∀ i, car kind a b i = (true, false) → (way1 kind a b i).n0 = true ∧ (way1 kind a b i).n1 = false) : ∀ i, car kind a b i = (true, false)
  | 0 => rfl
  | i + 1 => by
    have ih := car_same h i
    have := h i ih
    show ((way1 kind a b i).n0, (way1 kind a b i).n1) = _
    rw [this.1, this.2]
theorem rt_v (t : Tn) {i : Nat} (hi : i < 64) : t.right.v.getLsbD i = (t.v.getLsbD i && !t.m.getLsbD i) := by
  unfold Tn.right; simp only [BitVec.getLsbD_and, BitVec.getLsbD_not, hi, decide_true, Bool.true_and]
theorem car_add (a b : Tn) : ∀ i, i ≤ 64 → car 0 a b i = (!BitVec.carry i a.right.v b.right.v false, BitVec.carry i (a.right.v ||| a.right.m) (b.right.v ||| b.right.m) false) ∧ (!BitVec.carry i a.right.v b.right.v false || BitVec.carry i (a.right.v ||| a.right.m) (b.right.v ||| b.right.m) false) = true
  | 0, _ => by simp [car, BitVec.carry_zero]
  | i + 1, hi => by
    obtain ⟨ih, im⟩ := car_add a b i (by omega)
    have hi : i < 64 := by omega
    have q := bit0 _ _ _ _ _ _ (a.zo i) (b.zo i) im
    rw [BitVec.carry_succ, BitVec.carry_succ, right_max a hi, right_max b hi, right_min a hi, right_min b hi]
    constructor
    · show ((way1 0 a b i).n0, (way1 0 a b i).n1) = _
      unfold way1
      rw [ih]
      exact Prod.ext q.1 q.2.1
    · have h1 := a.zo i
      have h2 := b.zo i
      revert h1 h2 im
      generalize BitVec.carry i a.right.v b.right.v false = cl
      generalize BitVec.carry i (a.right.v ||| a.right.m) (b.right.v ||| b.right.m) false = ch
      cases a.zb i <;> cases a.ob i <;> cases b.zb i <;> cases b.ob i <;> cases cl <;> cases ch <;> decide
theorem two_add (a b : Tn) : Tn.of (fun i => (way1 0 a b i).z) (fun i => (way1 0 a b i).o) = a.add b := by
  have key : ∀ i, i < 64 → _ := fun i hi => bit0 (a.zb i) (a.ob i) (b.zb i) (b.ob i) _ _ (a.zo i) (b.zo i) (car_add a b i (by omega)).2
  have lo : ∀ i, i < 64 → (a.right.v + b.right.v).getLsbD i = (!a.zb i ^^ (!b.zb i ^^ BitVec.carry i a.right.v b.right.v false)) := fun i hi => by rw [BitVec.getLsbD_add hi, right_min a hi, right_min b hi]
  have up : ∀ i, i < 64 → (a.right.v + b.right.v + a.right.m + b.right.m).getLsbD i = (a.ob i ^^ (b.ob i ^^ BitVec.carry i (a.right.v ||| a.right.m) (b.right.v ||| b.right.m) false)) := fun i hi => by rw [add_max, BitVec.getLsbD_add hi, right_max a hi, right_max b hi]
  have ww : ∀ i, i < 64 → way1 0 a b i = rdp 0 (two (a.zb i) (a.ob i)) (two (b.zb i) (b.ob i)) (two (!BitVec.carry i a.right.v b.right.v false) (BitVec.carry i (a.right.v ||| a.right.m) (b.right.v ||| b.right.m) false)) s00 := fun i hi => by
    unfold way1; rw [(car_add a b i (by omega)).1]
  refine Tn.eq_of (fun i hi => ?_) (fun i hi => ?_)
  · rw [ww i hi, (key i hi).2.2.2]
    have e : a.add b = Tn.right ⟨a.right.v + b.right.v, ((a.right.v + b.right.v) ^^^ (a.right.v + b.right.v + a.right.m + b.right.m)) ||| a.right.m ||| b.right.m⟩ := rfl
    rw [e, rt_v _ hi]
    dsimp only
    rw [BitVec.getLsbD_or, BitVec.getLsbD_or, BitVec.getLsbD_xor, lo i hi, up i hi, right_mask a hi, right_mask b hi]
  · rw [ww i hi, (key i hi).2.2.1]
    show (((a.right.v + b.right.v) ^^^ (a.right.v + b.right.v + a.right.m + b.right.m)) ||| a.right.m ||| b.right.m).getLsbD i = _
    rw [BitVec.getLsbD_or, BitVec.getLsbD_or, BitVec.getLsbD_xor, lo i hi, up i hi, right_mask a hi, right_mask b hi]
theorem car_sub (a b : Tn) : ∀ i, i ≤ 64 → car 1 a b i = (BitVec.carry i (a.right.v ||| a.right.m) (~~~b.right.v) true, !BitVec.carry i a.right.v (~~~(b.right.v ||| b.right.m)) true) ∧ (!BitVec.carry i a.right.v (~~~(b.right.v ||| b.right.m)) true || BitVec.carry i a.right.v (~~~b.right.v) true) = true ∧ (!BitVec.carry i a.right.v (~~~b.right.v) true || BitVec.carry i (a.right.v ||| a.right.m) (~~~b.right.v) true) = true
  | 0, _ => by simp [car, BitVec.carry_zero]
  | i + 1, hi => by
    obtain ⟨ih, i1, i2⟩ := car_sub a b i (by omega)
    have hi : i < 64 := by omega
    have q := bit1 _ _ _ _ _ _ _ (a.zo i) (b.zo i) i1 i2
    have nb : (~~~b.right.v).getLsbD i = b.zb i := by rw [BitVec.getLsbD_not, right_min b hi]; simp [hi]
    have nm : (~~~(b.right.v ||| b.right.m)).getLsbD i = !b.ob i := by rw [BitVec.getLsbD_not, right_max b hi]; simp [hi]
    rw [BitVec.carry_succ, BitVec.carry_succ, BitVec.carry_succ, right_max a hi, right_min a hi, nb, nm]
    refine ⟨?_, q.2.2.2.2.1, q.2.2.2.2.2⟩
    show ((way1 1 a b i).n0, (way1 1 a b i).n1) = _
    unfold way1
    rw [ih]
    exact Prod.ext q.1 q.2.1
theorem two_sub (a b : Tn) : Tn.of (fun i => (way1 1 a b i).z) (fun i => (way1 1 a b i).o) = a.sub b := by
  have key : ∀ i, i < 64 → _ := fun i hi => bit1 (a.zb i) (a.ob i) (b.zb i) (b.ob i) _ _ _ (a.zo i) (b.zo i) (car_sub a b i (by omega)).2.1 (car_sub a b i (by omega)).2.2
  have nb : ∀ i, i < 64 → b.right.v.getLsbD i = !b.zb i := fun i hi => right_min b hi
  have mid : ∀ i, i < 64 → (a.right.v - b.right.v).getLsbD i = (!a.zb i ^^ (b.zb i ^^ BitVec.carry i a.right.v (~~~b.right.v) true)) := fun i hi => by rw [sub_bit _ _ hi, right_min a hi, right_min b hi, Bool.not_not]
  have e1 : a.right.v - b.right.v + a.right.m = (a.right.v ||| a.right.m) - b.right.v := by
    rw [← right_add, BitVec.sub_eq_add_neg, BitVec.sub_eq_add_neg]; ac_rfl
  have e2 : a.right.v - b.right.v - b.right.m = a.right.v - (b.right.v ||| b.right.m) := by
    rw [← right_add b, BitVec.sub_eq_add_neg, BitVec.sub_eq_add_neg, BitVec.sub_eq_add_neg, BitVec.neg_add, BitVec.sub_eq_add_neg, BitVec.add_assoc]
  have up : ∀ i, i < 64 → (a.right.v - b.right.v + a.right.m).getLsbD i = (a.ob i ^^ (b.zb i ^^ BitVec.carry i (a.right.v ||| a.right.m) (~~~b.right.v) true)) := fun i hi => by rw [e1, sub_bit _ _ hi, right_max a hi, right_min b hi, Bool.not_not]
  have lo : ∀ i, i < 64 → (a.right.v - b.right.v - b.right.m).getLsbD i = (!a.zb i ^^ (!b.ob i ^^ BitVec.carry i a.right.v (~~~(b.right.v ||| b.right.m)) true)) := fun i hi => by rw [e2, sub_bit _ _ hi, right_min a hi, right_max b hi]
  have ww : ∀ i, i < 64 → way1 1 a b i = rdp 1 (two (a.zb i) (a.ob i)) (two (b.zb i) (b.ob i)) (two (BitVec.carry i (a.right.v ||| a.right.m) (~~~b.right.v) true) (!BitVec.carry i a.right.v (~~~(b.right.v ||| b.right.m)) true)) s00 := fun i hi => by
    unfold way1; rw [(car_sub a b i (by omega)).1]
  refine Tn.eq_of (fun i hi => ?_) (fun i hi => ?_)
  · rw [ww i hi, (key i hi).2.2.2.1]
    have e : a.sub b = Tn.right ⟨a.right.v - b.right.v, ((a.right.v - b.right.v + a.right.m) ^^^ (a.right.v - b.right.v - b.right.m)) ||| a.right.m ||| b.right.m⟩ := rfl
    rw [e, rt_v _ hi]
    dsimp only
    rw [BitVec.getLsbD_or, BitVec.getLsbD_or, BitVec.getLsbD_xor, lo i hi, up i hi, mid i hi, right_mask a hi, right_mask b hi]
  · rw [ww i hi, (key i hi).2.2.1]
    show (((a.right.v - b.right.v + a.right.m) ^^^ (a.right.v - b.right.v - b.right.m)) ||| a.right.m ||| b.right.m).getLsbD i = _
    rw [BitVec.getLsbD_or, BitVec.getLsbD_or, BitVec.getLsbD_xor, lo i hi, up i hi, right_mask a hi, right_mask b hi]
theorem two_and (a b : Tn) : Tn.of (fun i => (way1 2 a b i).z) (fun i => (way1 2 a b i).o) = a.and b := by
  have cs := car_same (kind := 2) (a := a) (b := b) fun i e => by
    unfold way1; rw [e]; exact ⟨(bit2 _ _ _ _ (a.zo i) (b.zo i)).1, (bit2 _ _ _ _ (a.zo i) (b.zo i)).2.1⟩
  have ww : ∀ i, way1 2 a b i = rdp 2 (two (a.zb i) (a.ob i)) (two (b.zb i) (b.ob i)) (two true false) s00 := fun i => by unfold way1; rw [cs i]
  refine Tn.eq_of (fun i hi => ?_) (fun i hi => ?_)
  · rw [ww i, (bit2 _ _ _ _ (a.zo i) (b.zo i)).2.2.2]
    show (a.right.v &&& b.right.v).getLsbD i = _
    rw [BitVec.getLsbD_and, right_min a hi, right_min b hi]
  · rw [ww i, (bit2 _ _ _ _ (a.zo i) (b.zo i)).2.2.1]
    show ((a.right.v ||| a.right.m) &&& (b.right.v ||| b.right.m) &&& ~~~(a.right.v &&& b.right.v)).getLsbD i = _
    rw [BitVec.getLsbD_and, BitVec.getLsbD_and, right_max a hi, right_max b hi, BitVec.getLsbD_not, BitVec.getLsbD_and, right_min a hi, right_min b hi]
    simp [hi]
theorem two_or (a b : Tn) : Tn.of (fun i => (way1 3 a b i).z) (fun i => (way1 3 a b i).o) = a.or b := by
  have cs := car_same (kind := 3) (a := a) (b := b) fun i e => by
    unfold way1; rw [e]; exact ⟨(bit3 _ _ _ _ (a.zo i) (b.zo i)).1, (bit3 _ _ _ _ (a.zo i) (b.zo i)).2.1⟩
  have ww : ∀ i, way1 3 a b i = rdp 3 (two (a.zb i) (a.ob i)) (two (b.zb i) (b.ob i)) (two true false) s00 := fun i => by unfold way1; rw [cs i]
  refine Tn.eq_of (fun i hi => ?_) (fun i hi => ?_)
  · rw [ww i, (bit3 _ _ _ _ (a.zo i) (b.zo i)).2.2.2]
    show (a.right.v ||| b.right.v).getLsbD i = _
    rw [BitVec.getLsbD_or, right_min a hi, right_min b hi]
  · rw [ww i, (bit3 _ _ _ _ (a.zo i) (b.zo i)).2.2.1]
    show ((a.right.m ||| b.right.m) &&& ~~~(a.right.v ||| b.right.v)).getLsbD i = _
    rw [BitVec.getLsbD_and, BitVec.getLsbD_or, right_mask a hi, right_mask b hi, BitVec.getLsbD_not, BitVec.getLsbD_or, right_min a hi, right_min b hi]
    simp [hi]
theorem two_xor (a b : Tn) : Tn.of (fun i => (way1 4 a b i).z) (fun i => (way1 4 a b i).o) = a.xor b := by
  have cs := car_same (kind := 4) (a := a) (b := b) fun i e => by
    unfold way1; rw [e]; exact ⟨(bit4 _ _ _ _ (a.zo i) (b.zo i)).1, (bit4 _ _ _ _ (a.zo i) (b.zo i)).2.1⟩
  have ww : ∀ i, way1 4 a b i = rdp 4 (two (a.zb i) (a.ob i)) (two (b.zb i) (b.ob i)) (two true false) s00 := fun i => by unfold way1; rw [cs i]
  refine Tn.eq_of (fun i hi => ?_) (fun i hi => ?_)
  · rw [ww i, (bit4 _ _ _ _ (a.zo i) (b.zo i)).2.2.2]
    have e : a.xor b = Tn.right ⟨a.right.v ^^^ b.right.v, a.right.m ||| b.right.m⟩ := rfl
    rw [e, rt_v _ hi]
    dsimp only
    rw [BitVec.getLsbD_xor, BitVec.getLsbD_or, right_min a hi, right_min b hi, right_mask a hi, right_mask b hi]
  · rw [ww i, (bit4 _ _ _ _ (a.zo i) (b.zo i)).2.2.1]
    show (a.right.m ||| b.right.m).getLsbD i = _
    rw [BitVec.getLsbD_or, right_mask a hi, right_mask b hi]
section
variable {KP K : Value → Pr} {h : Heap} {l l2 : List Value} {a b : Tn}
end
end Go.Proofs.YtpbhanglcophbaaGreat

set_option linter.unusedVariables false
set_option linter.unusedSimpArgs false
namespace Go.Proofs.YtpbhanglcophbaaGreat
open Go.Hl
attribute [local irreducible] loadF zc sizeP bytesP vcBody pInvoke pIf pAssert pNew pLd pLdA pSt pStA pSome pIdx pPart pCall pCallV pAppend pExtend pGet pGetS pPut pNewObj pJoin pLoop pKeep fgt iter pFits
theorem shl_mul2 (j : Nat) : (1#64 <<< j) * 2#64 = 1#64 <<< (j + 1) := by rw [BitVec.mul_comm, shl_succ]
theorem mod_shl (x : B64) {j : Nat} (hj : j < 64) : x % (1#64 <<< j) = x &&& lowF j := by
  apply BitVec.eq_of_toNat_eq
  have h1 : 2 ^ j ≤ 2 ^ 63 := Nat.pow_le_pow_right (by decide) (by omega)
  rw [BitVec.toNat_umod, BitVec.toNat_and, lowF_nat (by omega), BitVec.toNat_shiftLeft, Nat.shiftLeft_eq, Nat.and_two_pow_sub_one_eq_mod]
  simp; rw [Nat.mod_eq_of_lt (by omega : 2 ^ j < 18446744073709551616)]
theorem and_all (x : B64) : x &&& lowF (64 : Nat) = x := by
  apply BitVec.eq_of_getLsbD_eq
  intro i hi
  rw [BitVec.getLsbD_and, lowF_bit (by omega) hi]; simp [hi]
section
variable {KP K : Value → Pr} {h : Heap} {x y : Int} {v w : B64} {n : Int} {op : Int}
theorem sext4 (v : B64) : sextF v 4 = if 1#64 <<< 31 ≤ v % 1#64 <<< 32 then v % 1#64 <<< 32 - 1#64 <<< 32 else v % 1#64 <<< 32 := by
  have e : sextF v 4 = (v <<< 32).sshiftRight 32 := rfl
  rw [e]
  apply BitVec.eq_of_toInt_eq
  have hv := v.isLt
  have hm : (v % 1#64 <<< 32).toNat = v.toNat % 4294967296 := by rw [BitVec.toNat_umod]; rfl
  have h2 : (1#64 <<< 32).toNat = 4294967296 := rfl
  have h1 : (1#64 <<< 31).toNat = 2147483648 := rfl
  rw [BitVec.toInt_sshiftRight, Int.shiftRight_eq_div_pow, BitVec.toInt_eq_toNat_cond (v <<< 32), BitVec.toNat_shiftLeft, Nat.shiftLeft_eq]
  by_cases hc : 1#64 <<< 31 ≤ v % 1#64 <<< 32
  · rw [if_pos hc, BitVec.toInt_eq_toNat_cond, BitVec.toNat_sub, hm, h2]
    rw [BitVec.le_def, hm, h1] at hc
    split <;> split <;> omega
  · rw [if_neg hc, BitVec.toInt_eq_toNat_cond, hm]
    rw [BitVec.le_def, hm, h1] at hc
    split <;> split <;> omega
end
end Go.Proofs.YtpbhanglcophbaaGreat

set_option linter.unusedVariables false
set_option linter.unusedSimpArgs false
namespace Go.Proofs.YtpbhanglcophbaaGreat
open Go.Hl
attribute [local irreducible] loadF zc sizeP bytesP vcBody pInvoke pIf pAssert pNew pLd pLdA pSt pStA pSome pIdx pPart pCall pCallV pAppend pExtend pGet pGetS pPut pNewObj pJoin pLoop pKeep fgt iter pFits
theorem half_floor (s : Int) : (if s < 0 ∧ ¬ s.tmod 2 = 0 then s.tdiv 2 - 1 else s.tdiv 2) = s / 2 := by
  rcases Int.lt_or_le s 0 with h | h
  · obtain ⟨t, rfl⟩ : ∃ t : Int, s = -t := ⟨-s, by omega⟩
    rw [Int.neg_tdiv, Int.neg_tmod, Int.tdiv_eq_ediv_of_nonneg (by omega), Int.tmod_eq_emod_of_nonneg (by omega)]
    split <;> omega
  · rw [Int.tdiv_eq_ediv_of_nonneg h, if_neg (by omega)]
theorem sshr_succ (a : B64) (j : Nat) : (a.sshiftRight (j + 1)).toInt = (a.sshiftRight j).toInt / 2 := by
  rw [BitVec.toInt_sshiftRight, BitVec.toInt_sshiftRight, Int.shiftRight_eq_div_pow, Int.shiftRight_eq_div_pow, Nat.pow_succ, Int.natCast_mul, Int.ediv_ediv_of_nonneg (by first | exact Int.natCast_nonneg _ | exact Int.le_of_lt (Int.pow_pos (by decide)))]
  rfl
theorem dbl (x : B64) : 2#64 * x = x <<< 1 := by
  apply BitVec.eq_of_toNat_eq
  simp [BitVec.toNat_mul, BitVec.toNat_shiftLeft, Nat.shiftLeft_eq, Nat.mul_comm]
theorem shl_step (a : B64) (j : Nat) : 2#64 * (a <<< j) = a <<< (j + 1) := by rw [dbl, BitVec.shiftLeft_add]
section
variable {KP K : Value → Pr} {h : Heap} {x y : Int} {v w a b : B64} {n op : Int}
end
end Go.Proofs.YtpbhanglcophbaaGreat

set_option linter.unusedVariables false
set_option linter.unusedSimpArgs false
namespace Go.Proofs.YtpbhanglcophbaaGreat
open Go.Hl
attribute [local irreducible] loadF zc sizeP bytesP vcBody pInvoke pIf pAssert pNew pLd pLdA pSt pStA pSome pIdx pPart pCall pCallV pAppend pExtend pGet pGetS pPut pNewObj pJoin pLoop pKeep fgt iter pFits
theorem half_le (x : B64) : 9223372036854775808#64 ≤ x ↔ x.getLsbD 63 = true := by
  rw [← BitVec.msb_eq_getLsbD_last, BitVec.msb_eq_decide, BitVec.le_def]; simp
theorem lt_half (x : B64) : x < 9223372036854775808#64 ↔ x.getLsbD 63 = false := by
  have := half_le x
  rw [BitVec.le_def] at this
  rw [BitVec.lt_def, ← Bool.not_eq_true, ← this]; omega
theorem half_bit (i : Nat) (hi : i < 64) : (9223372036854775808#64).getLsbD i = decide (i = 63) := by
  have : (9223372036854775808#64) = BitVec.twoPow 64 63 := by decide
  rw [this, BitVec.getLsbD_twoPow]; simp; omega
theorem top_and (x : B64) : x &&& topB = if x.getLsbD 63 = true then topB else 0#64 := by
  apply BitVec.eq_of_getLsbD_eq
  intro i hi
  unfold topB
  rw [BitVec.getLsbD_and, half_bit i hi]
  by_cases e : i = 63
  · subst e; cases h : x.getLsbD 63 <;> simp [half_bit]
  · simp only [e, decide_false, Bool.and_false]
    split
    · rw [half_bit i hi]; simp [e]
    · simp
theorem top_eq (x y : B64) : (x &&& topB = y &&& topB) ↔ (x / 9223372036854775808#64 = y / 9223372036854775808#64) := by
  have e : (9223372036854775808#64 : B64) = 1#64 <<< 63 := by decide
  rw [e, div_shl _ (by decide), div_shl _ (by decide), top_and, top_and]
  have h : ∀ z : B64, z >>> 63 = if z.getLsbD 63 = true then 1#64 else 0#64 := fun z => by
    apply BitVec.eq_of_toNat_eq
    have h1 := half_le z
    rw [BitVec.le_def] at h1
    have := z.isLt
    rw [BitVec.toNat_ushiftRight, Nat.shiftRight_eq_div_pow]
    split
    · rename_i hz; have := h1.2 hz; simp at this ⊢; omega
    · rename_i hz; have := mt h1.1 hz; simp at this ⊢; omega
  rw [h, h]
  have ne : ¬ topB = 0#64 := by decide
  have ne1 : ¬ (1#64 : B64) = 0#64 := by decide
  cases x.getLsbD 63 <;> cases y.getLsbD 63 <;> simp [ne, ne1, Ne.symm ne]
/-- The least and the most of a pattern, as numbers with signs. -/
theorem least_of {l m : B64} (d : l &&& m = 0#64) : (if 9223372036854775808#64 ≤ l ||| m ∧ l < 9223372036854775808#64 then l + 9223372036854775808#64 else l) = l ||| (m &&& topB)
    ∧ (if 9223372036854775808#64 ≤ l ||| m ∧ l < 9223372036854775808#64 then (l ||| m) - 9223372036854775808#64 else l ||| m) = l ||| (m &&& ~~~topB) := by
  have d63 : (l.getLsbD 63 && m.getLsbD 63) = false := by rw [← BitVec.getLsbD_and, d]; simp
  have bits : ∀ i, i < 64 → (l.getLsbD i && m.getLsbD i) = false := fun i hi => by rw [← BitVec.getLsbD_and, d]; simp
  by_cases hm : m.getLsbD 63 = true
  · have hl : l.getLsbD 63 = false := by rw [hm] at d63; simpa using d63
    have hc : 9223372036854775808#64 ≤ l ||| m ∧ l < 9223372036854775808#64 := ⟨(half_le _).2 (by rw [BitVec.getLsbD_or, hm]; simp), (lt_half _).2 hl⟩
    rw [if_pos hc, if_pos hc]
    constructor
    · rw [top_and, if_pos hm]
      show l + topB = l ||| topB
      refine BitVec.add_eq_or_of_and_eq_zero _ _ ?_
      rw [top_and, hl]; rfl
    · have e : (l ||| m &&& ~~~topB) + topB = l ||| m := by
        rw [BitVec.add_eq_or_of_and_eq_zero]
        · apply BitVec.eq_of_getLsbD_eq
          intro i hi
          simp only [BitVec.getLsbD_or, BitVec.getLsbD_and, BitVec.getLsbD_not, topB, half_bit i hi, hi, decide_true, Bool.true_and]
          by_cases e : i = 63
          · subst e; simp [hm]
          · simp [e]
        · rw [top_and]
          rw [if_neg]
          simp only [BitVec.getLsbD_or, BitVec.getLsbD_and, BitVec.getLsbD_not, topB, half_bit 63 (by decide), hl]
          simp
      show (l ||| m) - topB = _
      rw [← e, BitVec.add_sub_cancel]
  · have hm : m.getLsbD 63 = false := by simpa using hm
    have hc : ¬ (9223372036854775808#64 ≤ l ||| m ∧ l < 9223372036854775808#64) := by
      rw [half_le, lt_half, BitVec.getLsbD_or, hm]
      cases l.getLsbD 63 <;> simp
    rw [if_neg hc, if_neg hc, top_and, hm]
    refine ⟨by simp, ?_⟩
    apply BitVec.eq_of_getLsbD_eq
    intro i hi
    simp only [BitVec.getLsbD_or, BitVec.getLsbD_and, BitVec.getLsbD_not, topB, half_bit i hi, hi, decide_true, Bool.true_and]
    by_cases e : i = 63
    · subst e; rw [hm]; simp
    · simp [e]
section
variable {KP K : Value → Pr} {h : Heap} {x y : Int} {c : B64} {l l2 : List Value} {q r : Nm} {n : Int}
abbrev nmV (x : Nm × Bool) : Value := .tuple #[.agg x.1.enc.toArray, .bool x.2]
end
end Go.Proofs.YtpbhanglcophbaaGreat

set_option linter.unusedVariables false
set_option linter.unusedSimpArgs false
namespace Go.Proofs.YtpbhanglcophbaaGreat
open Go.Hl
attribute [local irreducible] loadF zc sizeP bytesP vcBody pInvoke pIf pAssert pNew pLd pLdA pSt pStA pSome pIdx pPart pCall pCallV pAppend pExtend pGet pGetS pPut pNewObj pJoin pLoop pKeep fgt iter pFits
theorem low_iff {x : B64} {n : Int} {k : Nat} (hs : isSize n = true) (hk : 8 * n = k) (h : k < 64) : x = zextF x n ↔ x < 1#64 <<< k := by
  unfold zextF
  rw [if_pos hs, hk, ← mod_shl x h]
  have h1 : 2 ^ k ≤ 2 ^ 63 := Nat.pow_le_pow_right (by decide) (by omega)
  have h0 : 0 < 2 ^ k := Nat.two_pow_pos k
  have e : (1#64 <<< k).toNat = 2 ^ k := by rw [BitVec.toNat_shiftLeft, Nat.shiftLeft_eq]; simp; omega
  rw [BitVec.lt_def, e, ← BitVec.toNat_inj, BitVec.toNat_umod, e]
  constructor
  · intro h; rw [h]; exact Nat.mod_lt _ h0
  · intro h; exact (Nat.mod_eq_of_lt h).symm
theorem lowF_pow {n : Int} {k : Nat} (hk : 8 * n = k) (h0 : 0 < k) (h : k < 64) : lowF (8 * n) = 1#64 <<< k - 1#64 := by
  unfold lowF
  rw [hk, if_neg (by omega), if_neg (by omega), Int.toNat_natCast]
section
variable {KP K : Value → Pr} {h : Heap} {x y : Int} {c : B64} {l l2 : List Value} {q r : Nm} {n : Int}
end
end Go.Proofs.YtpbhanglcophbaaGreat

set_option linter.unusedVariables false
set_option linter.unusedSimpArgs false
namespace Go.Proofs.YtpbhanglcophbaaGreat
open Go.Hl
attribute [local irreducible] loadF zc sizeP bytesP vcBody pInvoke pIf pAssert pNew pLd pLdA pSt pStA pSome pIdx pPart pCall pCallV pAppend pExtend pGet pGetS pPut pNewObj pJoin pLoop pKeep fgt iter pFits
/-- Whether a number lies in the range of numbers with signs. -/
abbrev inR (z : Int) : Prop := -9223372036854775808 ≤ z ∧ z < 9223372036854775808
theorem i64lo (a : B64) : -9223372036854775808 ≤ a.toInt := by simpa using BitVec.le_toInt (x := a)
theorem i64hi (a : B64) : a.toInt < 9223372036854775808 := by simpa using BitVec.toInt_lt (x := a)
theorem bmod_in {z : Int} (h : -18446744073709551616 ≤ z) (h2 : z < 18446744073709551616) : (z.bmod (2 ^ 64) < z ↔ 9223372036854775808 ≤ z) ∧ (z < z.bmod (2 ^ 64) ↔ z < -9223372036854775808) ∧ (z.bmod (2 ^ 64) = z ↔ inR z)
    ∧ (9223372036854775808 ≤ z → z.bmod (2 ^ 64) = z - 18446744073709551616) ∧ (z < -9223372036854775808 → z.bmod (2 ^ 64) = z + 18446744073709551616) := by
  unfold Int.bmod inR
  simp only [show ((2 ^ 64 : Nat) : Int) = 18446744073709551616 from rfl]
  omega
theorem sum_in (a b : B64) : (sumF a b).2 = decide (inR (a.toInt + b.toInt)) := by
  unfold sumF
  have h1 := i64lo a; have h2 := i64hi a; have h3 := i64lo b; have h4 := i64hi b
  rw [BitVec.toInt_add]
  have := bmod_in (z := a.toInt + b.toInt) (by omega) (by omega)
  rw [Bool.eq_iff_iff]
  simp only [beq_iff_eq, decide_eq_decide, decide_eq_true_eq]
  unfold inR at *
  omega
theorem less_in (a b : B64) : (lessF a b).2 = decide (inR (a.toInt - b.toInt)) := by
  unfold lessF
  have h1 := i64lo a; have h2 := i64hi a; have h3 := i64lo b; have h4 := i64hi b
  rw [BitVec.toInt_sub]
  have := bmod_in (z := a.toInt - b.toInt) (by omega) (by omega)
  rw [Bool.eq_iff_iff]
  simp only [beq_iff_eq, decide_eq_decide, decide_eq_true_eq]
  unfold inR at *
  omega
theorem tdm (z : Int) : ∃ q r : Int, z.tdiv 2 = q ∧ z.tmod 2 = r ∧ z = 2 * q + r ∧ -1 ≤ r ∧ r ≤ 1 ∧ (0 ≤ z → 0 ≤ r) ∧ (z ≤ 0 → r ≤ 0) := by
  refine ⟨_, _, rfl, rfl, ?_⟩
  rcases Int.lt_or_le z 0 with h | h
  · obtain ⟨t, rfl⟩ : ∃ t : Int, z = -t := ⟨-z, by omega⟩
    rw [Int.neg_tdiv, Int.neg_tmod, Int.tdiv_eq_ediv_of_nonneg (by omega), Int.tmod_eq_emod_of_nonneg (by omega)]
    omega
  · rw [Int.tdiv_eq_ediv_of_nonneg h, Int.tmod_eq_emod_of_nonneg h]
    omega
section
variable {KP K : Value → Pr} {h : Heap} {x y : Int} {a b : B64}
end
end Go.Proofs.YtpbhanglcophbaaGreat

set_option linter.unusedVariables false
set_option linter.unusedSimpArgs false
namespace Go.Proofs.YtpbhanglcophbaaGreat
open Go.Hl
attribute [local irreducible] loadF zc sizeP bytesP vcBody pInvoke pIf pAssert pNew pLd pLdA pSt pStA pSome pIdx pPart pCall pCallV pAppend pExtend pGet pGetS pPut pNewObj pJoin pLoop pKeep fgt iter pFits
theorem le_sum (a b : B64) : (a ≤ a + b) = (a ≤ 18446744073709551615#64 - b) := by
  rw [BitVec.le_def, BitVec.le_def, BitVec.toNat_add, BitVec.toNat_sub]
  have := a.isLt; have := b.isLt
  simp; omega
theorem pos_ne {c : B64} (h : 0#64 < c) (e : (c.toNat : Int) = 0) : False := by
  rw [BitVec.lt_def] at h; simp at h e; omega
theorem le_lt32 (a : B64) : (a ≤ 4294967295#64) = (a < 4294967296#64) := by
  rw [BitVec.le_def, BitVec.lt_def]; simp; omega
theorem mod_min (a c : B64) (h : 0#64 < c) : (if c - 1#64 < a then c - 1#64 else a) = (if c ≤ a then c - 1#64 else a) := by
  have e : (c - 1#64 < a) = (c ≤ a) := by
    rw [BitVec.lt_def] at h
    rw [BitVec.le_def, BitVec.lt_def, BitVec.toNat_sub]
    have := c.isLt; have := a.isLt
    simp at h ⊢; omega
  simp only [e]
theorem mul_pow (a : B64) (q : Nat) : a * 1#64 <<< q = a <<< q := by
  apply BitVec.eq_of_toNat_eq
  rw [BitVec.toNat_mul, BitVec.toNat_shiftLeft, BitVec.toNat_shiftLeft, Nat.shiftLeft_eq, Nat.shiftLeft_eq]
  simp [Nat.mul_mod]
theorem fit_shl (a : B64) {q : Nat} (h0 : 0 < q) (hq : q < 64) : ((a <<< q) >>> q = a) = (a < 1#64 <<< (64 - q)) := by
  have e : 2 ^ 64 = 2 ^ (64 - q) * 2 ^ q := by rw [← Nat.pow_add]; congr 1; omega
  have p1 : 2 ^ (64 - q) < 2 ^ 64 := Nat.pow_lt_pow_right (by decide) (by omega)
  have p2 : 0 < 2 ^ q := Nat.two_pow_pos q
  rw [BitVec.lt_def, ← BitVec.toNat_inj, BitVec.toNat_ushiftRight, BitVec.toNat_shiftLeft, BitVec.toNat_shiftLeft, Nat.shiftLeft_eq, Nat.shiftLeft_eq, Nat.shiftRight_eq_div_pow]
  have e1 : (1#64).toNat * 2 ^ (64 - q) % 2 ^ 64 = 2 ^ (64 - q) := by rw [show (1#64 : B64).toNat = 1 from rfl, Nat.one_mul, Nat.mod_eq_of_lt p1]
  rw [e1]
  have e2 : a.toNat * 2 ^ q % 2 ^ 64 / 2 ^ q = a.toNat % 2 ^ (64 - q) := by rw [e, Nat.mul_mod_mul_right, Nat.mul_div_cancel _ p2]
  rw [e2]
  have p3 : 0 < 2 ^ (64 - q) := Nat.two_pow_pos _
  exact propext ⟨fun h => by rw [← h]; exact Nat.mod_lt _ p3, fun h => Nat.mod_eq_of_lt h⟩
theorem alu_arsh (x c : B64) : aluO 192 true x (c % 64#64) = some (x.sshiftRight (c % 64#64).toNat) := by
  have z8 : ∀ y : B64, zextF y 8 = y := fun y => by unfold zextF isSize; rw [if_pos (by decide), show lowF (8 * 8) = BitVec.allOnes 64 by unfold lowF; decide]; exact BitVec.and_allOnes
  have s8 : ∀ y : B64, sextF y 8 = y := fun y => by unfold sextF isSize; simp
  unfold aluO shiftF cutW
  simp only [if_true, z8, s8, Int.reduceEq, if_false]
  have e : c % 64#64 % 64#64 = c % 64#64 := by apply BitVec.eq_of_toNat_eq; rw [BitVec.toNat_umod, BitVec.toNat_umod]; simp
  rw [e]
section
variable {KP K : Value → Pr} {h : Heap} {x y : Int} {a b : Nm} {c t : B64} {la lb : List Value} {only : Bool}
theorem turn_w (ht : t = 64#64 ∨ t = 32#64) : (c % t).toNat < 64 ∧ IntKind.i64.wrap ((c.toNat : Int).tmod t.toNat) = ((c % t).toNat : Int) ∧ (t.toNat : Int) ≠ 0
    ∧ IntKind.i64.wrap (IntKind.u64.wrap (64 - (c.toNat : Int).tmod t.toNat)) = ((64 - (c % t).toNat : Nat) : Int) := by
  have h0 : 0 < t.toNat ∧ t.toNat ≤ 64 := by rcases ht with e | e <;> rw [e] <;> decide
  have h1 : c.toNat % t.toNat < t.toNat := Nat.mod_lt _ h0.1
  have e : (c.toNat : Int).tmod t.toNat = ((c.toNat % t.toNat : Nat) : Int) := by rw [Int.tmod_eq_emod_of_nonneg (by omega)]; rfl
  rw [e, BitVec.toNat_umod]
  refine ⟨by omega, wrap_small (by omega) (by omega), by omega, ?_⟩
  generalize c.toNat % t.toNat = q at h1 ⊢
  rw [w_u64, BitVec.toNat_ofInt]
  rw [wrap_small (by omega) (by omega)]
  omega
theorem nz_pos {c : B64} (h : ¬ c = 0#64) : 0 < c.toNat := by
  rcases Nat.eq_zero_or_pos c.toNat with e | e
  · exact absurd (BitVec.eq_of_toNat_eq e) h
  · exact e
theorem turn64 (ht : t = 64#64 ∨ t = 32#64) : (t = 64#64) = ¬ (t < 64#64) := by
  rcases ht with e | e <;> subst e <;> decide
theorem alu_arsh' (ht : t = 64#64 ∨ t = 32#64) (h : ¬ (t < 64#64)) (x : B64) : aluO 192 true x (c % t) = some (x.sshiftRight (c % t).toNat) := by
  rw [← turn64 ht] at h; subst h; exact alu_arsh x c
theorem fit_sh (q64 : (c % t).toNat < 64) (h : ¬ c % t = 0#64) (u : B64) : ((u <<< (c % t).toNat) >>> (c % t).toNat = u) = (u < 1#64 <<< (64 - (c % t).toNat)) := fit_shl u (nz_pos h) q64
theorem z0 : (0#64 : B64).toNat = 0 := rfl
end
end Go.Proofs.YtpbhanglcophbaaGreat

set_option linter.unusedVariables false
set_option linter.unusedSimpArgs false
namespace Go.Proofs.YtpbhanglcophbaaGreat
open Go.Hl
attribute [local irreducible] loadF zc sizeP bytesP vcBody pInvoke pIf pAssert pNew pLd pLdA pSt pStA pSome pIdx pPart pCall pCallV pAppend pExtend pGet pGetS pPut pNewObj pJoin pLoop pKeep fgt iter pFits
section
variable {KP K : Value → Pr} {h : Heap} {x y : Int} {a b : Nm} {c t : B64} {la lb : List Value} {only : Bool} {op : Int}
theorem fn_add (a b : Nm) (c c' t : B64) (n : Nm) : (Rw.add ⟨a, b, c, false, t, n⟩).n = (Rw.add ⟨a, b, c', false, t, n⟩).n := by
  simp only [Rw.add, Rw.u1, Rw.u2, Rw.s1, Rw.s2, Rw.bits, Rw.uns, Rw.sig]
  all_goals by_cases h1 : a.uhi ≤ a.uhi + b.uhi
  all_goals by_cases h2 : b.uhi ≤ a.ulo
  all_goals try simp only [h1, h2, if_true, if_false]
  all_goals (try repeat' split)
  all_goals first | rfl | contradiction
theorem fn_sub (a b : Nm) (c c' t : B64) (n : Nm) : (Rw.sub ⟨a, b, c, false, t, n⟩).n = (Rw.sub ⟨a, b, c', false, t, n⟩).n := by
  simp only [Rw.sub, Rw.u1, Rw.u2, Rw.s1, Rw.s2, Rw.bits, Rw.uns, Rw.sig]
  all_goals by_cases h1 : a.uhi ≤ a.uhi + b.uhi
  all_goals by_cases h2 : b.uhi ≤ a.ulo
  all_goals try simp only [h1, h2, if_true, if_false]
  all_goals (try repeat' split)
  all_goals first | rfl | contradiction
theorem fn_mul (a b : Nm) (c c' t : B64) (n : Nm) : (Rw.mul ⟨a, b, c, false, t, n⟩).n = (Rw.mul ⟨a, b, c', false, t, n⟩).n := by
  simp only [Rw.mul, Rw.u1, Rw.u2, Rw.s1, Rw.s2, Rw.bits, Rw.uns, Rw.sig]
  all_goals by_cases h1 : a.uhi ≤ a.uhi + b.uhi
  all_goals by_cases h2 : b.uhi ≤ a.ulo
  all_goals try simp only [h1, h2, if_true, if_false]
  all_goals (try repeat' split)
  all_goals first | rfl | contradiction
theorem fn_div (a b : Nm) (c c' t : B64) (n : Nm) : (Rw.div ⟨a, b, c, false, t, n⟩).n = (Rw.div ⟨a, b, c', false, t, n⟩).n := by
  simp only [Rw.div, Rw.u1, Rw.u2, Rw.s1, Rw.s2, Rw.bits, Rw.uns, Rw.sig]
  all_goals by_cases h1 : a.uhi ≤ a.uhi + b.uhi
  all_goals by_cases h2 : b.uhi ≤ a.ulo
  all_goals try simp only [h1, h2, if_true, if_false]
  all_goals (try repeat' split)
  all_goals first | rfl | contradiction
theorem fn_mod (a b : Nm) (c c' t : B64) (n : Nm) : (Rw.mod ⟨a, b, c, false, t, n⟩).n = (Rw.mod ⟨a, b, c', false, t, n⟩).n := by
  simp only [Rw.mod, Rw.u1, Rw.u2, Rw.s1, Rw.s2, Rw.bits, Rw.uns, Rw.sig]
  all_goals by_cases h1 : a.uhi ≤ a.uhi + b.uhi
  all_goals by_cases h2 : b.uhi ≤ a.ulo
  all_goals try simp only [h1, h2, if_true, if_false]
  all_goals (try repeat' split)
  all_goals first | rfl | contradiction
theorem fn_and (a b : Nm) (c c' t : B64) (n : Nm) : (Rw.and ⟨a, b, c, false, t, n⟩).n = (Rw.and ⟨a, b, c', false, t, n⟩).n := by
  simp only [Rw.and, Rw.u1, Rw.u2, Rw.s1, Rw.s2, Rw.bits, Rw.uns, Rw.sig]
  all_goals by_cases h1 : a.uhi ≤ a.uhi + b.uhi
  all_goals by_cases h2 : b.uhi ≤ a.ulo
  all_goals try simp only [h1, h2, if_true, if_false]
  all_goals (try repeat' split)
  all_goals first | rfl | contradiction
theorem fn_or (a b : Nm) (c c' t : B64) (n : Nm) : (Rw.or ⟨a, b, c, false, t, n⟩).n = (Rw.or ⟨a, b, c', false, t, n⟩).n := by
  simp only [Rw.or, Rw.u1, Rw.u2, Rw.s1, Rw.s2, Rw.bits, Rw.uns, Rw.sig]
  all_goals by_cases h1 : a.uhi ≤ a.uhi + b.uhi
  all_goals by_cases h2 : b.uhi ≤ a.ulo
  all_goals try simp only [h1, h2, if_true, if_false]
  all_goals (try repeat' split)
  all_goals first | rfl | contradiction
theorem fn_xor (a b : Nm) (c c' t : B64) (n : Nm) : (Rw.xor ⟨a, b, c, false, t, n⟩).n = (Rw.xor ⟨a, b, c', false, t, n⟩).n := by
  simp only [Rw.xor, Rw.u1, Rw.u2, Rw.s1, Rw.s2, Rw.bits, Rw.uns, Rw.sig]
  all_goals by_cases h1 : a.uhi ≤ a.uhi + b.uhi
  all_goals by_cases h2 : b.uhi ≤ a.ulo
  all_goals try simp only [h1, h2, if_true, if_false]
  all_goals (try repeat' split)
  all_goals first | rfl | contradiction
theorem fn_lsh (a b : Nm) (c c' t : B64) (n : Nm) : (Rw.lsh ⟨a, b, c, false, t, n⟩).n = (Rw.lsh ⟨a, b, c', false, t, n⟩).n := by
  simp only [Rw.lsh, Rw.u1, Rw.u2, Rw.s1, Rw.s2, Rw.bits, Rw.uns, Rw.sig]
  all_goals by_cases h1 : a.uhi ≤ a.uhi + b.uhi
  all_goals by_cases h2 : b.uhi ≤ a.ulo
  all_goals try simp only [h1, h2, if_true, if_false]
  all_goals (try repeat' split)
  all_goals first | rfl | contradiction
theorem fn_rsh (a b : Nm) (c c' t : B64) (n : Nm) : (Rw.rsh ⟨a, b, c, false, t, n⟩).n = (Rw.rsh ⟨a, b, c', false, t, n⟩).n := by
  simp only [Rw.rsh, Rw.u1, Rw.u2, Rw.s1, Rw.s2, Rw.bits, Rw.uns, Rw.sig]
  all_goals by_cases h1 : a.uhi ≤ a.uhi + b.uhi
  all_goals by_cases h2 : b.uhi ≤ a.ulo
  all_goals try simp only [h1, h2, if_true, if_false]
  all_goals (try repeat' split)
  all_goals first | rfl | contradiction
theorem fn_arsh (a b : Nm) (c c' t : B64) (n : Nm) : (Rw.arsh ⟨a, b, c, false, t, n⟩).n = (Rw.arsh ⟨a, b, c', false, t, n⟩).n := by
  simp only [Rw.arsh, Rw.u1, Rw.u2, Rw.s1, Rw.s2, Rw.bits, Rw.uns, Rw.sig]
  all_goals by_cases h1 : a.uhi ≤ a.uhi + b.uhi
  all_goals by_cases h2 : b.uhi ≤ a.ulo
  all_goals try simp only [h1, h2, if_true, if_false]
  all_goals (try repeat' split)
  all_goals first | rfl | contradiction
theorem fn_mov (a b : Nm) (c c' t : B64) (n : Nm) : (Rw.mov ⟨a, b, c, false, t, n⟩).n = (Rw.mov ⟨a, b, c', false, t, n⟩).n := by
  simp only [Rw.mov, Rw.u1, Rw.u2, Rw.s1, Rw.s2, Rw.bits, Rw.uns, Rw.sig]
  all_goals by_cases h1 : a.uhi ≤ a.uhi + b.uhi
  all_goals by_cases h2 : b.uhi ≤ a.ulo
  all_goals try simp only [h1, h2, if_true, if_false]
  all_goals (try repeat' split)
  all_goals first | rfl | contradiction
theorem fn_sub2 (a b : Nm) (c c' t : B64) (o o' : Bool) (n : Nm) : (Rw.sub ⟨a, b, c, o, t, n⟩).n = (Rw.sub ⟨a, b, c', o', t, n⟩).n := by
  simp only [Rw.sub, Rw.u2, Rw.s2, Rw.bits, Rw.uns, Rw.sig]
  all_goals by_cases h1 : a.uhi ≤ a.uhi + b.uhi
  all_goals by_cases h2 : b.uhi ≤ a.ulo
  all_goals try simp only [h1, h2, if_true, if_false]
  all_goals (try repeat' split)
  all_goals first | rfl | contradiction
theorem fn_neg (a b : Nm) (c c' t : B64) (n : Nm) : (Rw.neg ⟨a, b, c, false, t, n⟩).n = (Rw.neg ⟨a, b, c', false, t, n⟩).n := fn_sub _ _ _ _ _ _
def RowN (F : Rw → Rw) : Prop := ∀ (a b : Nm) (c c' t : B64) (n : Nm), (F ⟨a, b, c, false, t, n⟩).n = (F ⟨a, b, c', false, t, n⟩).n
theorem rn_add : RowN Rw.add := fn_add
theorem rn_sub : RowN Rw.sub := fn_sub
theorem rn_mul : RowN Rw.mul := fn_mul
theorem rn_div : RowN Rw.div := fn_div
theorem rn_mod : RowN Rw.mod := fn_mod
theorem rn_and : RowN Rw.and := fn_and
theorem rn_or : RowN Rw.or := fn_or
theorem rn_xor : RowN Rw.xor := fn_xor
theorem rn_lsh : RowN Rw.lsh := fn_lsh
theorem rn_rsh : RowN Rw.rsh := fn_rsh
theorem rn_arsh : RowN Rw.arsh := fn_arsh
theorem rn_neg : RowN Rw.neg := fn_neg
theorem rn_mov : RowN Rw.mov := fn_mov
theorem xferO_some {F : Rw → Rw} {wide : Bool} (h : ∀ r, rowF op r = some (F r)) : xferO op wide a b = some (if a.bits.m = 0#64 ∧ b.bits.m = 0#64 then Nm.con ((aluO op wide a.bits.v b.bits.v).getD 0#64) else (if wide = true then (F (rowOf wide a b)).n.refine.1 else (F (rowOf wide a b)).n.refine.1.cut 4)) := by
  unfold xferO rowOf
  rw [h]
  dsimp only
  by_cases hz : a.bits.m = 0#64 ∧ b.bits.m = 0#64
  · rw [if_pos hz, if_pos hz]
  · rw [if_neg hz, if_neg hz]
end
end Go.Proofs.YtpbhanglcophbaaGreat

set_option linter.unusedVariables false
set_option linter.unusedSimpArgs false
namespace Go.Proofs.YtpbhanglcophbaaGreat
open Go.Hl
attribute [local irreducible] loadF zc sizeP bytesP vcBody pInvoke pIf pAssert pNew pLd pLdA pSt pStA pSome pIdx pPart pCall pCallV pAppend pExtend pGet pGetS pPut pNewObj pJoin pLoop pKeep fgt iter pFits
theorem maxU_succ {a b : B64} (h : ¬ b = 18446744073709551615#64) : maxU a (b + 1#64) = if a ≤ b then b + 1#64 else a := by
  have hb : b.toNat ≠ 18446744073709551615 := fun e => h (BitVec.eq_of_toNat_eq e)
  have := b.isLt
  have e : (a < b + 1#64) = (a ≤ b) := by rw [BitVec.lt_def, BitVec.le_def, BitVec.toNat_add]; simp; omega
  unfold maxU; simp only [e]
theorem minU_pred {a b : B64} (h : ¬ b = 0#64) : minU a (b - 1#64) = if b ≤ a then b - 1#64 else a := by
  have hb : b.toNat ≠ 0 := fun e => h (BitVec.eq_of_toNat_eq e)
  have := b.isLt
  have := a.isLt
  have e : (b - 1#64 < a) = (b ≤ a) := by rw [BitVec.lt_def, BitVec.le_def, BitVec.toNat_sub]; simp; omega
  unfold minU; simp only [e]
theorem maxS_succ {a b : B64} (h : ¬ b = 9223372036854775807#64) : maxS a (b + 1#64) = if a.toInt ≤ b.toInt then b + 1#64 else a := by
  have hb : b.toInt ≠ 9223372036854775807 := fun e => h (BitVec.eq_of_toInt_eq e)
  have h1 := i64lo b; have h2 := i64hi b
  have e : (a.toInt < (b + 1#64).toInt) = (a.toInt ≤ b.toInt) := by
    have : (b + 1#64).toInt = b.toInt + 1 := by rw [BitVec.toInt_add, (bmod_in (by simp; omega) (by simp; omega)).2.2.1.2 (by unfold inR; simp; omega)]; rfl
    rw [this]; simp; omega
  unfold maxS; simp only [e]
theorem minS_pred {a b : B64} (h : ¬ b = BitVec.ofInt 64 (-9223372036854775808)) : minS a (b - 1#64) = if b.toInt ≤ a.toInt then b - 1#64 else a := by
  have hb : b.toInt ≠ -9223372036854775808 := fun e => h (BitVec.eq_of_toInt_eq e)
  have h1 := i64lo b; have h2 := i64hi b
  have e : ((b - 1#64).toInt < a.toInt) = (b.toInt ≤ a.toInt) := by
    have : (b - 1#64).toInt = b.toInt - 1 := by rw [BitVec.toInt_sub, (bmod_in (by simp; omega) (by simp; omega)).2.2.1.2 (by unfold inR; simp; omega)]; rfl
    rw [this]; simp; omega
  unfold minS; simp only [e]
section
variable {KP K : Value → Pr} {g h : Heap} {x y op : Int} {a b q : Nm} {c : B64} {l la lb : List Value}
abbrev zc6 : List Value := [.int .u64 0, .int .u64 0, .int .u64 0, .int .u64 0, .int .i64 0, .int .i64 0]
theorem lt_max {c : B64} : c < 18446744073709551615#64 ↔ ¬ c = 18446744073709551615#64 := by
  rw [BitVec.lt_def, ← BitVec.toNat_inj]; have := c.isLt; simp; omega
theorem lt_maxS {c : B64} : c.toInt < (9223372036854775807#64).toInt ↔ ¬ c = 9223372036854775807#64 := by
  rw [← BitVec.toInt_inj]; have := i64hi c; have e : (9223372036854775807#64 : B64).toInt = 9223372036854775807 := rfl; rw [e]; omega
theorem gt_minS {c : B64} : (BitVec.ofInt 64 (-9223372036854775808)).toInt < c.toInt ↔ ¬ c = BitVec.ofInt 64 (-9223372036854775808) := by
  rw [← BitVec.toInt_inj]; have := i64lo c; have e : (BitVec.ofInt 64 (-9223372036854775808)).toInt = -9223372036854775808 := rfl; rw [e]; omega
theorem pos_iff {c : B64} : 0#64 < c ↔ ¬ c = 0#64 := by
  rw [BitVec.lt_def, ← BitVec.toNat_inj]; simp; omega
theorem lt_max' {c : B64} : (c < 18446744073709551615#64) = ¬ c = 18446744073709551615#64 := propext lt_max
theorem woF_c (q : Nm) (c : B64) : woF q c = if q.ulo = c ∧ q.uhi = c then (q, false) else
    (⟨q.bits, if q.ulo = c ∧ ¬ c = 18446744073709551615#64 then c + 1#64 else q.ulo, if q.uhi = c ∧ ¬ c = 0#64 then c - 1#64 else q.uhi,
      if q.slo = c ∧ ¬ c = 9223372036854775807#64 then c + 1#64 else q.slo, if q.shi = c ∧ ¬ c = BitVec.ofInt 64 (-9223372036854775808) then c - 1#64 else q.shi⟩, true) := by
  have e : ∀ (x : B64) (p p' : Prop) [Decidable p] [Decidable p'] (f : B64 → B64), (p ↔ p') → (if x = c ∧ p then f x else x) = (if x = c ∧ p' then f c else x) := fun x p p' _ _ f hp => by
    by_cases h : x = c
    · subst h; by_cases h2 : p
      · rw [if_pos ⟨rfl, h2⟩, if_pos ⟨rfl, hp.1 h2⟩]
      · rw [if_neg (fun e => h2 e.2), if_neg (fun e => h2 (hp.2 e.2))]
    · rw [if_neg (fun e => h e.1), if_neg (fun e => h e.1)]
  unfold woF
  rw [e q.ulo _ _ (· + 1#64) lt_max, e q.uhi _ _ (· - 1#64) pos_iff, e q.slo _ _ (· + 1#64) lt_maxS, e q.shi _ _ (· - 1#64) gt_minS]
end
end Go.Proofs.YtpbhanglcophbaaGreat

set_option linter.unusedVariables false
set_option linter.unusedSimpArgs false
namespace Go.Proofs.YtpbhanglcophbaaGreat
open Go.Hl
attribute [local irreducible] loadF zc sizeP bytesP vcBody pInvoke pIf pAssert pNew pLd pLdA pSt pStA pSome pIdx pPart pCall pCallV pAppend pExtend pGet pGetS pPut pNewObj pJoin pLoop pKeep fgt iter pFits
theorem step_ones {n w d N : Nat} (hn : n ≤ 64) (hd : d ≤ 64 - n) (hw : w < 2 ^ n) (e : d + ones w n = N) (h0 : 0 < w) : ∃ m, m ≤ 64 ∧ d + w % 2 ≤ 64 - m ∧ w / 2 < 2 ^ m ∧ d + w % 2 + ones (w / 2) m = N ∧ w < 18446744073709551616 := by
  cases n with
  | zero => rw [Nat.pow_zero] at hw; omega
  | succ m =>
    have w64 : w < 2 ^ 64 := Nat.lt_of_lt_of_le hw (Nat.pow_le_pow_right (by decide) hn)
    have hm : w % 2 < 2 := Nat.mod_lt _ (by decide)
    rw [Nat.pow_succ] at hw
    unfold ones at e
    exact ⟨m, by omega, by omega, by omega, by omega, w64⟩
theorem step_vals {w d : Nat} (h : w < 18446744073709551616) (hd : d ≤ 64) : IntKind.i64.wrap ((d : Int) + IntKind.i64.wrap ((w : Int).tmod 2)) = ((d + w % 2 : Nat) : Int) ∧ IntKind.u64.wrap ((w : Int).tdiv 2) = ((w / 2 : Nat) : Int) := by
  have hm : w % 2 < 2 := Nat.mod_lt _ (by decide)
  have e1 : (w : Int).tmod 2 = ((w % 2 : Nat) : Int) := by rw [Int.tmod_eq_emod_of_nonneg (by omega)]; rfl
  have e2 : (w : Int).tdiv 2 = ((w / 2 : Nat) : Int) := by rw [Int.tdiv_eq_ediv_of_nonneg (by omega)]; rfl
  rw [e1, e2, wrap_small (x := ((w % 2 : Nat) : Int)) (by omega) (by omega), wrap_small (by omega) (by omega), w_u64, BitVec.toNat_ofInt]
  constructor <;> omega
theorem ones_zero (m : Nat) : ones 0 m = 0 := by
  induction m with
  | zero => rfl
  | succ m ih => unfold ones; rw [ih]
theorem max_sub (x : B64) : 18446744073709551615#64 - x = ~~~x := by
  apply BitVec.eq_of_toNat_eq
  have := x.isLt
  rw [BitVec.toNat_sub, BitVec.toNat_not]; simp; omega
section
variable {KP K : Value → Pr} {g h : Heap} {x y op set : Int} {a b q : Nm} {c : B64} {l la lb : List Value} {b1 b2 b3 b4 b7 b8 : Nat}
end
end Go.Proofs.YtpbhanglcophbaaGreat

set_option linter.unusedVariables false
set_option linter.unusedSimpArgs false
namespace Go.Proofs.YtpbhanglcophbaaGreat
open Go.Hl
section
variable {KP K : Value → Pr} {g h : Heap} {x y op set : Int} {a b q : Nm} {c : B64} {l la lb : List Value} {b1 b2 b3 b4 b7 b8 : Nat}
end
end Go.Proofs.YtpbhanglcophbaaGreat

set_option linter.unusedVariables false
set_option linter.unusedSimpArgs false
namespace Go.Proofs.YtpbhanglcophbaaGreat
open Go.Hl
section
variable {KP K : Value → Pr} {g h : Heap} {x y op set : Int} {a b q : Nm} {c : B64} {l la lb : List Value} {b1 b2 b3 b4 b7 b8 : Nat}
theorem end_turned (a b : Nm) (F : Pa → Pa) : Pa.end a b (Pa.turned F ⟨a, b, false⟩) = ((Pa.end b a (F ⟨b, a, false⟩)).2.1, (Pa.end b a (F ⟨b, a, false⟩)).1, (Pa.end b a (F ⟨b, a, false⟩)).2.2) := by
  unfold Pa.end Pa.turned
  dsimp only
  generalize F ⟨b, a, false⟩ = q
  by_cases h1 : q.none = true
  · rw [if_pos (.inl h1), if_pos (.inl h1)]
  by_cases h2 : q.a.refine.2 = true
  · by_cases h3 : q.b.refine.2 = true
    · rw [if_neg (by intro e; rcases e with e | e | e; exact h1 e; exact e h3; exact e h2), if_neg (by intro e; rcases e with e | e | e; exact h1 e; exact e h2; exact e h3)]
    · rw [if_pos (.inr (.inl h3)), if_pos (.inr (.inr h3))]
  · rw [if_pos (.inr (.inr h2)), if_pos (.inr (.inl h2))]
abbrev oppT : List Value := [.int .u8 16, .int .u8 80, .int .u8 32, .int .u8 176, .int .u8 48, .int .u8 160, .int .u8 96, .int .u8 208, .int .u8 112, .int .u8 192]
def oppF (op : Int) : Int := if op = 16 then 80 else if op = 80 then 16 else if op = 32 then 176 else if op = 176 then 32 else if op = 48 then 160 else if op = 160 then 48 else if op = 96 then 208 else if op = 208 then 96 else if op = 112 then 192 else if op = 192 then 112 else op
end
end Go.Proofs.YtpbhanglcophbaaGreat

set_option linter.unusedVariables false
set_option linter.unusedSimpArgs false
namespace Go.Proofs.YtpbhanglcophbaaGreat
open Go.Hl
attribute [local irreducible] loadF zc sizeP bytesP vcBody pInvoke pIf pAssert pNew pLd pLdA pSt pStA pSome pIdx pPart pCall pCallV pAppend pExtend pGet pGetS pPut pNewObj pJoin pLoop pKeep fgt iter pFits
theorem low_lt (x : Nm) : x.low 4 = decide (x.uhi < 4294967296#64) := by
  unfold Nm.low
  rw [decide_eq_decide]
  exact low_iff (k := 32) rfl rfl (by decide)
section
variable {KP K : Value → Pr} {g h : Heap} {x y op set : Int} {a b q : Nm} {c : B64} {l la lb : List Value} {b1 b2 b3 b4 b7 b8 : Nat}
theorem end_no (a b : Nm) (p : Pa) (h : ¬ (Pa.end a b p).2.2 = true) : Pa.end a b p = (a, b, false) := by
  unfold Pa.end at h ⊢
  split
  · rfl
  · rename_i e; rw [if_neg e] at h; exact absurd rfl h
end
end Go.Proofs.YtpbhanglcophbaaGreat
