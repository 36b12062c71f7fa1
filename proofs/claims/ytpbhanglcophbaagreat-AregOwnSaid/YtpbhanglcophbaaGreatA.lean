/- Numbers of some bytes: words, halberdref01. -/
import Derived.Test.YtpbhanglcophbaaGreatVT
import Derived.Test.YtpbhanglcophbaaGreatH2
set_option linter.unusedVariables false
set_option linter.unusedSimpArgs false
namespace Go.Proofs.YtpbhanglcophbaaGreat
open Go.Hl
attribute [local irreducible] loadF zc sizeP bytesP vcBody pInvoke pIf pAssert pNew pLd pLdA pSt pStA pSome pIdx pPart pCall pCallV pAppend pExtend pGet pGetS pPut pJoin pLoop pKeep fgt

def isSize (n : Int) : Bool := n == 1 || n == 2 || n == 4 || n == 8
def lowF (n : Int) : B64 := if n < 1 then 0#64 else if n > 63 then 18446744073709551615#64 else (1#64 <<< n.toNat) - 1#64
def zextF (x : B64) (n : Int) : B64 := if isSize n = true then x &&& lowF (8 * n) else x
def sextF (x : B64) (n : Int) : B64 := if isSize n = true then (x <<< (64 - 8 * n).toNat).sshiftRight (64 - 8 * n).toNat else x
theorem isSize_cases {n : Int} (h : isSize n = true) : n = 1 ∨ n = 2 ∨ n = 4 ∨ n = 8 := by unfold isSize at h; simp at h; omega

section
variable {KP K : Value → Pr} {h : Heap} {x y z u n : Int} {v m w : B64}
theorem isSize_s (k : K (.bool (isSize n)) h) : WpCall Tryz.prog 90 #[.int .i64 n] KP K h := by
  refine words_IsSize_call n ?_
  have H := hstart h
  simp only [words_IsSize, words_IsSize_j1, lay_eq, zc_eq, add_mk, Nat.zero_add, Nat.add_zero, pSome_some, pJoin_eq]
  repeat' (first | (first | (first | refine ld_c H (by rfl) ?_ | refine ldA_c H ?_ | refine st_c H fun h H => ?_ | refine stA_c H (by rfl) fun h H => ?_ | refine new_c H (by rfl) fun b h H => ?_ | refine keepA_c H ?_ | refine keep_c H (by rfl) ?_ | refine pAssert_i (by first | rfl | decide | exact unonneg) ?_) | refine iter_c ?_ | refine pIf_t (by decide) ?_ | refine pIf_f (by decide) ?_ | refine if_c (fun hz => ?_) (fun hz => ?_)))
  all_goals (refine back H ?_)
  all_goals (first | (rw [show isSize n = true by simp [isSize, *]] at k; exact k) | (rw [show isSize n = (n == 8) by simp [isSize, *]] at k; exact k))
theorem low_s (k : K (.int .u64 (lowF n).toNat) h) : WpCall Tryz.prog 92 #[.int .i64 n] KP K h := by
  refine words_Low_call n ?_
  have H := hstart h
  simp only [words_Low, lay_eq, zc_eq, add_mk, Nat.zero_add, Nat.add_zero, pSome_some, pJoin_eq]
  repeat' (first | (first | (first | refine ld_c H (by rfl) ?_ | refine ldA_c H ?_ | refine st_c H fun h H => ?_ | refine stA_c H (by rfl) fun h H => ?_ | refine new_c H (by rfl) fun b h H => ?_ | refine keepA_c H ?_ | refine keep_c H (by rfl) ?_ | refine pAssert_i (by first | rfl | decide | exact unonneg) ?_) | refine iter_c ?_ | refine pIf_t (by decide) ?_ | refine pIf_f (by decide) ?_ | refine if_c (fun hz => ?_) (fun hz => ?_)) | (refine pAssert_i (by omega) ?_) | (refine fin H ?_; first | exact k | (simp only [lowF, *, if_true, if_false, not_true_eq_false, not_false_eq_true] at k; exact k)))
theorem zext_s [a : U x v] (k : K (.int .u64 (zextF v n).toNat) h) : WpCall Tryz.prog 87 #[.int .u64 x, .int .i64 n] KP K h := by
  rw [a.eq]
  refine words_Zext_call v.toNat n ?_
  have H := hstart h
  simp only [words_Zext, lay_eq, zc_eq, add_mk, Nat.zero_add, Nat.add_zero, pSome_some, pJoin_eq]
  refine call_c (isSize_s (one1 ?_))
  refine if_c (fun hz => ?_) (fun hz => ?_)
  · (refine fin H ?_; first | exact k | (simp only [zextF, *, if_true, if_false, not_true_eq_false, not_false_eq_true] at k; exact k))
  · have hz' : isSize n = true := by simpa using hz
    have e : IntKind.i64.wrap (8 * n) = 8 * n := by rcases isSize_cases hz' with rfl | rfl | rfl | rfl <;> rfl
    rw [e]
    refine call_c (low_s (one1 ?_))
    refine fin H ?_
    unfold zextF at k; rw [if_pos hz'] at k; exact k
theorem sext_s [a : U x v] (k : K (.int .u64 (sextF v n).toNat) h) : WpCall Tryz.prog 127 #[.int .u64 x, .int .i64 n] KP K h := by
  rw [a.eq]
  refine words_Sext_call v.toNat n ?_
  have H := hstart h
  simp only [words_Sext, lay_eq, zc_eq, add_mk, Nat.zero_add, Nat.add_zero, pSome_some, pJoin_eq]
  refine call_c (isSize_s (one1 ?_))
  refine if_c (fun hz => ?_) (fun hz => ?_)
  · (refine fin H ?_; first | exact k | (simp only [sextF, *, if_true, if_false, not_true_eq_false, not_false_eq_true] at k; exact k))
  · have hz' : isSize n = true := by simpa using hz
    have e : IntKind.i64.wrap (64 - IntKind.i64.wrap (8 * n)) = 64 - 8 * n := by rcases isSize_cases hz' with rfl | rfl | rfl | rfl <;> rfl
    rw [e]
    have e2 : 0 ≤ 64 - 8 * n := by rcases isSize_cases hz' with rfl | rfl | rfl | rfl <;> decide
    refine pAssert_i e2 (pAssert_i e2 ?_)
    refine fin H ?_
    unfold sextF at k; rw [if_pos hz'] at k; exact k
end
end Go.Proofs.YtpbhanglcophbaaGreat

set_option linter.unusedVariables false
set_option linter.unusedSimpArgs false
namespace Go.Proofs.YtpbhanglcophbaaGreat
open Go.Hl
attribute [local irreducible] loadF zc sizeP bytesP vcBody pInvoke pIf pAssert pNew pLd pLdA pSt pStA pSome pIdx pPart pCall pCallV pAppend pExtend pGet pGetS pPut pJoin pLoop pKeep fgt

structure Tn where
  v : B64
  m : B64
abbrev Tn.enc (t : Tn) : List Value := [.int .u64 t.v.toNat, .int .u64 t.m.toNat]
/-- Cells of what is known of bits. -/
class TnIs (l : List Value) (t : outParam Tn) : Prop where
  eq : l = t.enc
instance (priority := 2000) {t : Tn} : TnIs [.int .u64 t.v.toNat, .int .u64 t.m.toNat] t := ⟨rfl⟩
instance (priority := 1000) {x y : Int} {a b : B64} [i : U x a] [j : U y b] : TnIs [.int .u64 x, .int .u64 y] ⟨a, b⟩ := ⟨by rw [i.eq, j.eq]⟩
def Tn.right (t : Tn) : Tn := ⟨t.v &&& ~~~t.m, t.m⟩
def Tn.con (c : B64) : Tn := ⟨c, 0#64⟩
def Tn.all : Tn := ⟨0#64, 18446744073709551615#64⟩
def Tn.add (a b : Tn) : Tn :=
  let a := a.right
  let b := b.right
  Tn.right ⟨a.v + b.v, ((a.v + b.v) ^^^ (a.v + b.v + a.m + b.m)) ||| a.m ||| b.m⟩
def Tn.sub (a b : Tn) : Tn :=
  let a := a.right
  let b := b.right
  Tn.right ⟨a.v - b.v, ((a.v - b.v + a.m) ^^^ (a.v - b.v - b.m)) ||| a.m ||| b.m⟩
def Tn.and (a b : Tn) : Tn :=
  let a := a.right
  let b := b.right
  ⟨a.v &&& b.v, ((a.v ||| a.m) &&& (b.v ||| b.m)) &&& ~~~(a.v &&& b.v)⟩
def Tn.or (a b : Tn) : Tn :=
  let a := a.right
  let b := b.right
  ⟨a.v ||| b.v, (a.m ||| b.m) &&& ~~~(a.v ||| b.v)⟩
def Tn.xor (a b : Tn) : Tn :=
  let a := a.right
  let b := b.right
  Tn.right ⟨a.v ^^^ b.v, a.m ||| b.m⟩

def Tn.lsh (t : Tn) (c : B64) : Tn := ⟨t.right.v <<< (c % 64#64).toNat, t.right.m <<< (c % 64#64).toNat⟩
def Tn.rsh (t : Tn) (c : B64) : Tn := ⟨t.right.v >>> (c % 64#64).toNat, t.right.m >>> (c % 64#64).toNat⟩
def Tn.arsh (t : Tn) (c : B64) : Tn := ⟨t.right.v.sshiftRight (c % 64#64).toNat, t.right.m.sshiftRight (c % 64#64).toNat⟩
def Tn.cut (t : Tn) (n : Int) : Tn := ⟨zextF t.right.v n, zextF t.right.m n⟩
def Tn.meet (a b : Tn) : Tn × Bool :=
  if ¬ (a.right.v ^^^ b.right.v) &&& ~~~(a.right.m ||| b.right.m) = 0#64 then (.all, false)
  else (Tn.right ⟨a.right.v ||| b.right.v, a.right.m &&& b.right.m⟩, true)
def lenN (n : Nat) : Nat := if n = 0 then 0 else n.log2 + 1
def Tn.range (lo hi : B64) : Tn := if hi < lo then .all else Tn.right ⟨lo, lowF (lenN (lo ^^^ hi).toNat)⟩

section
variable {KP K : Value → Pr} {h : Heap} {x y z u : Int} {v m w n : B64} {l l2 : List Value} {s t : Tn}
theorem right_s [i : TnIs l s] (k : K (.agg (Tn.right s).enc.toArray) h) : WpCall Tryz.prog 138 #[.agg l.toArray] KP K h := by
  rw [i.eq]
  refine tnum_right_call s.enc ?_
  have H := hstart h
  simp only [tnum_right, lay_eq, zc_eq, add_mk, Nat.zero_add, Nat.add_zero, pSome_some, pJoin_eq]
  repeat' first | (first | refine ld_c H (by rfl) ?_ | refine ldA_c H ?_ | refine st_c H fun h H => ?_ | refine stA_c H (by rfl) fun h H => ?_ | refine new_c H (by rfl) fun b h H => ?_ | refine keepA_c H ?_ | refine keep_c H (by rfl) ?_ | refine pAssert_i (by first | rfl | decide | exact unonneg) ?_) | refine iter_c ?_ | refine pIf_t (by decide) ?_ | refine pIf_f (by decide) ?_ | refine if_c (fun hz => ?_) (fun hz => ?_)
  refine fin H ?_
  exact k
theorem tcon_s [a : U x v] (k : K (.agg (Tn.con v).enc.toArray) h) : WpCall Tryz.prog 42 #[.int .u64 x] KP K h := by
  rw [a.eq]
  refine tnum_Const_call v.toNat ?_
  have H := hstart h
  simp only [tnum_Const, lay_eq, zc_eq, add_mk, Nat.zero_add, Nat.add_zero, pSome_some, pJoin_eq]
  repeat' (first | (first | (first | refine ld_c H (by rfl) ?_ | refine ldA_c H ?_ | refine st_c H fun h H => ?_ | refine stA_c H (by rfl) fun h H => ?_ | refine new_c H (by rfl) fun b h H => ?_ | refine keepA_c H ?_ | refine keep_c H (by rfl) ?_ | refine pAssert_i (by first | rfl | decide | exact unonneg) ?_) | refine iter_c ?_ | refine pIf_t (by decide) ?_ | refine pIf_f (by decide) ?_ | refine if_c (fun hz => ?_) (fun hz => ?_)) | refine call_c (right_s (one1 ?_)) | (refine fin H ?_; exact k))
theorem tall_s (k : K (.agg Tn.all.enc.toArray) h) : WpCall Tryz.prog 86 #[] KP K h := by
  refine tnum_All_call ?_
  have H := hstart h
  simp only [tnum_All, lay_eq, zc_eq, add_mk, Nat.zero_add, Nat.add_zero, pSome_some, pJoin_eq]
  repeat' (first | (first | (first | refine ld_c H (by rfl) ?_ | refine ldA_c H ?_ | refine st_c H fun h H => ?_ | refine stA_c H (by rfl) fun h H => ?_ | refine new_c H (by rfl) fun b h H => ?_ | refine keepA_c H ?_ | refine keep_c H (by rfl) ?_ | refine pAssert_i (by first | rfl | decide | exact unonneg) ?_) | refine iter_c ?_ | refine pIf_t (by decide) ?_ | refine pIf_f (by decide) ?_ | refine if_c (fun hz => ?_) (fun hz => ?_)) | refine call_c (right_s (one1 ?_)) | (refine fin H ?_; exact k))
theorem tadd_s [i : TnIs l s] [j : TnIs l2 t] (k : K (.agg (Tn.add s t).enc.toArray) h) : WpCall Tryz.prog 115 #[.agg l.toArray, .agg l2.toArray] KP K h := by
  rw [i.eq, j.eq]
  refine tnum_Add_call s.enc t.enc ?_
  have H := hstart h
  simp only [tnum_Add, lay_eq, zc_eq, add_mk, Nat.zero_add, Nat.add_zero, pSome_some, pJoin_eq]
  repeat' (first | (first | (first | refine ld_c H (by rfl) ?_ | refine ldA_c H ?_ | refine st_c H fun h H => ?_ | refine stA_c H (by rfl) fun h H => ?_ | refine new_c H (by rfl) fun b h H => ?_ | refine keepA_c H ?_ | refine keep_c H (by rfl) ?_ | refine pAssert_i (by first | rfl | decide | exact unonneg) ?_) | refine iter_c ?_ | refine pIf_t (by decide) ?_ | refine pIf_f (by decide) ?_ | refine if_c (fun hz => ?_) (fun hz => ?_)) | refine call_c (right_s (one1 ?_)) | (refine fin H ?_; exact k))
theorem tsub_s [i : TnIs l s] [j : TnIs l2 t] (k : K (.agg (Tn.sub s t).enc.toArray) h) : WpCall Tryz.prog 119 #[.agg l.toArray, .agg l2.toArray] KP K h := by
  rw [i.eq, j.eq]
  refine tnum_Sub_call s.enc t.enc ?_
  have H := hstart h
  simp only [tnum_Sub, lay_eq, zc_eq, add_mk, Nat.zero_add, Nat.add_zero, pSome_some, pJoin_eq]
  repeat' (first | (first | (first | refine ld_c H (by rfl) ?_ | refine ldA_c H ?_ | refine st_c H fun h H => ?_ | refine stA_c H (by rfl) fun h H => ?_ | refine new_c H (by rfl) fun b h H => ?_ | refine keepA_c H ?_ | refine keep_c H (by rfl) ?_ | refine pAssert_i (by first | rfl | decide | exact unonneg) ?_) | refine iter_c ?_ | refine pIf_t (by decide) ?_ | refine pIf_f (by decide) ?_ | refine if_c (fun hz => ?_) (fun hz => ?_)) | refine call_c (right_s (one1 ?_)) | (refine fin H ?_; exact k))
theorem tand_s [i : TnIs l s] [j : TnIs l2 t] (k : K (.agg (Tn.and s t).enc.toArray) h) : WpCall Tryz.prog 121 #[.agg l.toArray, .agg l2.toArray] KP K h := by
  rw [i.eq, j.eq]
  refine tnum_And_call s.enc t.enc ?_
  have H := hstart h
  simp only [tnum_And, lay_eq, zc_eq, add_mk, Nat.zero_add, Nat.add_zero, pSome_some, pJoin_eq]
  repeat' (first | (first | (first | refine ld_c H (by rfl) ?_ | refine ldA_c H ?_ | refine st_c H fun h H => ?_ | refine stA_c H (by rfl) fun h H => ?_ | refine new_c H (by rfl) fun b h H => ?_ | refine keepA_c H ?_ | refine keep_c H (by rfl) ?_ | refine pAssert_i (by first | rfl | decide | exact unonneg) ?_) | refine iter_c ?_ | refine pIf_t (by decide) ?_ | refine pIf_f (by decide) ?_ | refine if_c (fun hz => ?_) (fun hz => ?_)) | refine call_c (right_s (one1 ?_)) | (refine fin H ?_; exact k))
theorem tor_s [i : TnIs l s] [j : TnIs l2 t] (k : K (.agg (Tn.or s t).enc.toArray) h) : WpCall Tryz.prog 122 #[.agg l.toArray, .agg l2.toArray] KP K h := by
  rw [i.eq, j.eq]
  refine tnum_Or_call s.enc t.enc ?_
  have H := hstart h
  simp only [tnum_Or, lay_eq, zc_eq, add_mk, Nat.zero_add, Nat.add_zero, pSome_some, pJoin_eq]
  repeat' (first | (first | (first | refine ld_c H (by rfl) ?_ | refine ldA_c H ?_ | refine st_c H fun h H => ?_ | refine stA_c H (by rfl) fun h H => ?_ | refine new_c H (by rfl) fun b h H => ?_ | refine keepA_c H ?_ | refine keep_c H (by rfl) ?_ | refine pAssert_i (by first | rfl | decide | exact unonneg) ?_) | refine iter_c ?_ | refine pIf_t (by decide) ?_ | refine pIf_f (by decide) ?_ | refine if_c (fun hz => ?_) (fun hz => ?_)) | refine call_c (right_s (one1 ?_)) | (refine fin H ?_; exact k))
theorem txor_s [i : TnIs l s] [j : TnIs l2 t] (k : K (.agg (Tn.xor s t).enc.toArray) h) : WpCall Tryz.prog 123 #[.agg l.toArray, .agg l2.toArray] KP K h := by
  rw [i.eq, j.eq]
  refine tnum_Xor_call s.enc t.enc ?_
  have H := hstart h
  simp only [tnum_Xor, lay_eq, zc_eq, add_mk, Nat.zero_add, Nat.add_zero, pSome_some, pJoin_eq]
  repeat' (first | (first | (first | refine ld_c H (by rfl) ?_ | refine ldA_c H ?_ | refine st_c H fun h H => ?_ | refine stA_c H (by rfl) fun h H => ?_ | refine new_c H (by rfl) fun b h H => ?_ | refine keepA_c H ?_ | refine keep_c H (by rfl) ?_ | refine pAssert_i (by first | rfl | decide | exact unonneg) ?_) | refine iter_c ?_ | refine pIf_t (by decide) ?_ | refine pIf_f (by decide) ?_ | refine if_c (fun hz => ?_) (fun hz => ?_)) | refine call_c (right_s (one1 ?_)) | (refine fin H ?_; exact k))
theorem tlsh_s [i : TnIs l s] [c : U z w] (k : K (.agg (Tn.lsh s w).enc.toArray) h) : WpCall Tryz.prog 124 #[.agg l.toArray, .int .u64 z] KP K h := by
  rw [i.eq, c.eq]
  refine tnum_Lsh_call s.enc w.toNat ?_
  have H := hstart h
  simp only [tnum_Lsh, lay_eq, zc_eq, add_mk, Nat.zero_add, Nat.add_zero, pSome_some, pJoin_eq]
  repeat' (first | (first | (first | refine ld_c H (by rfl) ?_ | refine ldA_c H ?_ | refine st_c H fun h H => ?_ | refine stA_c H (by rfl) fun h H => ?_ | refine new_c H (by rfl) fun b h H => ?_ | refine keepA_c H ?_ | refine keep_c H (by rfl) ?_ | refine pAssert_i (by first | rfl | decide | exact unonneg) ?_) | refine iter_c ?_ | refine pIf_t (by decide) ?_ | refine pIf_f (by decide) ?_ | refine if_c (fun hz => ?_) (fun hz => ?_)) | refine call_c (right_s (one1 ?_)) | (refine fin H ?_; exact k))
theorem trsh_s [i : TnIs l s] [c : U z w] (k : K (.agg (Tn.rsh s w).enc.toArray) h) : WpCall Tryz.prog 125 #[.agg l.toArray, .int .u64 z] KP K h := by
  rw [i.eq, c.eq]
  refine tnum_Rsh_call s.enc w.toNat ?_
  have H := hstart h
  simp only [tnum_Rsh, lay_eq, zc_eq, add_mk, Nat.zero_add, Nat.add_zero, pSome_some, pJoin_eq]
  repeat' (first | (first | (first | refine ld_c H (by rfl) ?_ | refine ldA_c H ?_ | refine st_c H fun h H => ?_ | refine stA_c H (by rfl) fun h H => ?_ | refine new_c H (by rfl) fun b h H => ?_ | refine keepA_c H ?_ | refine keep_c H (by rfl) ?_ | refine pAssert_i (by first | rfl | decide | exact unonneg) ?_) | refine iter_c ?_ | refine pIf_t (by decide) ?_ | refine pIf_f (by decide) ?_ | refine if_c (fun hz => ?_) (fun hz => ?_)) | refine call_c (right_s (one1 ?_)) | (refine fin H ?_; exact k))
theorem tarsh_s [i : TnIs l s] [c : U z w] (k : K (.agg (Tn.arsh s w).enc.toArray) h) : WpCall Tryz.prog 126 #[.agg l.toArray, .int .u64 z] KP K h := by
  rw [i.eq, c.eq]
  refine tnum_Arsh_call s.enc w.toNat ?_
  have H := hstart h
  simp only [tnum_Arsh, lay_eq, zc_eq, add_mk, Nat.zero_add, Nat.add_zero, pSome_some, pJoin_eq]
  repeat' (first | (first | (first | refine ld_c H (by rfl) ?_ | refine ldA_c H ?_ | refine st_c H fun h H => ?_ | refine stA_c H (by rfl) fun h H => ?_ | refine new_c H (by rfl) fun b h H => ?_ | refine keepA_c H ?_ | refine keep_c H (by rfl) ?_ | refine pAssert_i (by first | rfl | decide | exact unonneg) ?_) | refine iter_c ?_ | refine pIf_t (by decide) ?_ | refine pIf_f (by decide) ?_ | refine if_c (fun hz => ?_) (fun hz => ?_)) | refine call_c (right_s (one1 ?_)) | (refine fin H ?_; exact k))
theorem tcut_s {n : Int} [i : TnIs l s] (k : K (.agg (Tn.cut s n).enc.toArray) h) : WpCall Tryz.prog 91 #[.agg l.toArray, .int .i64 n] KP K h := by
  rw [i.eq]
  refine tnum_Cut_call s.enc n ?_
  have H := hstart h
  simp only [tnum_Cut, lay_eq, zc_eq, add_mk, Nat.zero_add, Nat.add_zero, pSome_some, pJoin_eq]
  repeat' (first | (first | (first | refine ld_c H (by rfl) ?_ | refine ldA_c H ?_ | refine st_c H fun h H => ?_ | refine stA_c H (by rfl) fun h H => ?_ | refine new_c H (by rfl) fun b h H => ?_ | refine keepA_c H ?_ | refine keep_c H (by rfl) ?_ | refine pAssert_i (by first | rfl | decide | exact unonneg) ?_) | refine iter_c ?_ | refine pIf_t (by decide) ?_ | refine pIf_f (by decide) ?_ | refine if_c (fun hz => ?_) (fun hz => ?_)) | refine call_c (right_s (one1 ?_)) | refine call_c (zext_s (one1 ?_)) | (refine fin H ?_; exact k))
theorem tmeet_s [i : TnIs l s] [j : TnIs l2 t] (k : K (.tuple #[.agg (Tn.meet s t).1.enc.toArray, .bool (Tn.meet s t).2]) h) : WpCall Tryz.prog 141 #[.agg l.toArray, .agg l2.toArray] KP K h := by
  rw [i.eq, j.eq]
  refine tnum_Meet_call s.enc t.enc ?_
  have H := hstart h
  simp only [tnum_Meet, lay_eq, zc_eq, add_mk, Nat.zero_add, Nat.add_zero, pSome_some, pJoin_eq]
  unfold Tn.meet at k
  repeat' (first | (first | (first | refine ld_c H (by rfl) ?_ | refine ldA_c H ?_ | refine st_c H fun h H => ?_ | refine stA_c H (by rfl) fun h H => ?_ | refine new_c H (by rfl) fun b h H => ?_ | refine keepA_c H ?_ | refine keep_c H (by rfl) ?_ | refine pAssert_i (by first | rfl | decide | exact unonneg) ?_) | refine iter_c ?_ | refine pIf_t (by decide) ?_ | refine pIf_f (by decide) ?_ | refine if_c (fun hz => ?_) (fun hz => ?_)) | refine call_c (right_s (one1 ?_)) | refine call_c (tall_s (one1 ?_)) | (refine fin H ?_; first | exact k | (simp only [Tn.meet, *, if_true, if_false, not_true_eq_false, not_false_eq_true] at k; exact k)))
theorem lenN_le {n k : Nat} : lenN n ≤ k ↔ n < 2 ^ k := by
  unfold lenN
  split
  · subst_vars; simp [Nat.two_pow_pos]
  · rename_i h; rw [Nat.succ_le_iff, Nat.log2_lt h]
theorem lenN_shr {n k : Nat} (h : 2 ^ k ≤ n) : lenN (n >>> k) + k = lenN n := by
  have key : ∀ j, lenN (n >>> k) ≤ j ↔ lenN n ≤ j + k := fun j => by
    rw [lenN_le, lenN_le, Nat.shiftRight_eq_div_pow, Nat.div_lt_iff_lt_mul (Nat.two_pow_pos k), Nat.pow_add]
  have h1 : ¬ lenN n ≤ k := by rw [lenN_le]; omega
  have h2 := (key (lenN (n >>> k))).1 (Nat.le_refl _)
  have h3 := (key (lenN n - k)).2 (by omega)
  omega
end
end Go.Proofs.YtpbhanglcophbaaGreat

set_option linter.unusedVariables false
set_option linter.unusedSimpArgs false
namespace Go.Proofs.YtpbhanglcophbaaGreat
open Go.Hl
attribute [local irreducible] loadF zc sizeP bytesP vcBody pInvoke pIf pAssert pNew pLd pLdA pSt pStA pSome pIdx pPart pCall pCallV pAppend pExtend pGet pGetS pPut pJoin pLoop pKeep fgt
section
variable {KP K : Value → Pr} {h : Heap} {x y z u : Int} {v m w n : B64}
theorem len_tail {k : Nat} {x : Int} {n : Nat} (hx : x = (k : Int)) (hk : k < 256) (hn : n ≤ 56) (g : K (.int .i64 (n + lenN k : Nat)) h) : math_bits_Len64_j1 K x n h := by
  subst hx
  unfold math_bits_Len64_j1
  have e1 : IntKind.u8.wrap (k : Int) = k := by rw [IntKind.wrap_u8]; omega
  rw [e1]
  generalize hT : ByteArray.mk _ = T
  have hs : T.size = 256 := by rw [← hT]; kernel_rfl
  have key : ((List.range 256).all fun i => Int.beq' (byteAt T (i : Int)) (lenN i : Int)) = true := by rw [← hT]; kernel_rfl
  have key := List.all_eq_true.1 key k (List.mem_range.2 hk)
  have key : byteAt T (k : Int) = (lenN k : Int) := by simpa using key
  rw [hs]
  refine pIdx_i (by omega) (by omega) ?_
  have hl : lenN k ≤ 8 := by rw [lenN_le]; omega
  rw [key, wrap_small (x := (lenN k : Int)) (by omega) (by omega), wrap_small (by omega) (by omega)]
  have e : ((n : Nat) : Int) + (lenN k : Int) = ((n + lenN k : Nat) : Int) := by omega
  rw [e]; exact g
theorem len_s [a : U x v] (k : K (.int .i64 (lenN v.toNat)) h) : WpCall Tryz.prog 150 #[.int .u64 x] KP K h := by
  rw [a.eq]
  refine math_bits_Len64_call v.toNat ?_
  have q : fgt K (.int .i64 (lenN v.toNat)) h := fgt_mk k
  unfold math_bits_Len64
  have hv := v.isLt
  generalize v.toNat = p at q hv ⊢
  have sh : ∀ (a : Nat) (c : Int) (cn : Nat), c = cn → (a : Int).fdiv (2 ^ (min c.toNat IntKind.u64.bits)) = ((a >>> (min cn 64) : Nat) : Int) := fun a c cn e => by
    subst e
    rw [Nat.shiftRight_eq_div_pow]
    have e2 : (2 : Int) ^ (min (cn : Int).toNat IntKind.u64.bits) = ((2 ^ (min cn 64) : Nat) : Int) := by simp [IntKind.bits]
    rw [e2]; exact (Int.ofNat_fdiv _ _).symm
  have st2 : ∀ (p2 n2 : Nat), p2 < 65536 → n2 ≤ 48 → n2 + lenN p2 = lenN p → math_bits_Len64_j2 (fgt K) p2 n2 h := fun p2 n2 hp hn e => by
    unfold math_bits_Len64_j2
    refine join_c ?_
    refine if_c (fun hz => ?_) (fun hz => ?_)
    · refine pAssert_i (by decide) ?_
      rw [sh p2 8 8 rfl, wrap_small (by omega) (by omega)]
      have hz : 2 ^ 8 ≤ p2 := by omega
      have h1 := lenN_shr hz
      have h2 : p2 >>> 8 < 256 := by rw [Nat.shiftRight_eq_div_pow]; omega
      refine len_tail (k := p2 >>> 8) (n := n2 + 8) rfl h2 (by omega) ?_
      rw [show n2 + 8 + lenN (p2 >>> 8) = lenN p by omega]; exact q
    · refine len_tail (k := p2) (n := n2) rfl (by omega) (by omega) ?_
      rw [e]; exact q
  have st1 : ∀ (p2 n2 : Nat), p2 < 4294967296 → n2 ≤ 32 → n2 + lenN p2 = lenN p → math_bits_Len64_j3 (fgt K) p2 n2 h := fun p2 n2 hp hn e => by
    unfold math_bits_Len64_j3
    refine join_c ?_
    refine if_c (fun hz => ?_) (fun hz => ?_)
    · refine pAssert_i (by decide) ?_
      rw [sh p2 16 16 rfl, wrap_small (by omega) (by omega)]
      have hz : 2 ^ 16 ≤ p2 := by omega
      have h1 := lenN_shr hz
      have h2 : p2 >>> 16 < 65536 := by rw [Nat.shiftRight_eq_div_pow]; omega
      exact st2 (p2 >>> 16) (n2 + 16) h2 (by omega) (by omega)
    · exact st2 p2 n2 (by omega) (by omega) e
  refine join_c ?_
  refine if_c (fun hz => ?_) (fun hz => ?_)
  · refine pAssert_i (by decide) ?_
    rw [sh p 32 32 rfl]
    have hz : 2 ^ 32 ≤ p := by omega
    have h1 := lenN_shr hz
    have h2 : p >>> 32 < 4294967296 := by rw [Nat.shiftRight_eq_div_pow]; omega
    exact st1 (p >>> 32) 32 h2 (by omega) (by omega)
  · exact st1 p 0 (by omega) (by omega) (by omega)
theorem trange_s [a : U x v] [b : U y w] (k : K (.agg (Tn.range v w).enc.toArray) h) : WpCall Tryz.prog 142 #[.int .u64 x, .int .u64 y] KP K h := by
  rw [a.eq, b.eq]
  refine tnum_Range_call v.toNat w.toNat ?_
  have H := hstart h
  simp only [tnum_Range, lay_eq, zc_eq, add_mk, Nat.zero_add, Nat.add_zero, pSome_some, pJoin_eq]
  unfold Tn.range at k
  repeat' (first | (first | (first | refine ld_c H (by rfl) ?_ | refine ldA_c H ?_ | refine st_c H fun h H => ?_ | refine stA_c H (by rfl) fun h H => ?_ | refine new_c H (by rfl) fun b h H => ?_ | refine keepA_c H ?_ | refine keep_c H (by rfl) ?_ | refine pAssert_i (by first | rfl | decide | exact unonneg) ?_) | refine iter_c ?_ | refine pIf_t (by decide) ?_ | refine pIf_f (by decide) ?_ | refine if_c (fun hz => ?_) (fun hz => ?_)) | refine call_c (right_s (one1 ?_)) | refine call_c (tall_s (one1 ?_)) | refine call_c (len_s (one1 ?_)) | refine call_c (low_s (one1 ?_)) | (refine fin H ?_; first | exact k | (simp only [Tn.range, *, if_true, if_false, not_true_eq_false, not_false_eq_true] at k; exact k)))
end
end Go.Proofs.YtpbhanglcophbaaGreat

set_option linter.unusedVariables false
set_option linter.unusedSimpArgs false
namespace Go.Proofs.YtpbhanglcophbaaGreat
open Go.Hl
attribute [local irreducible] loadF zc sizeP bytesP vcBody pInvoke pIf pAssert pNew pLd pLdA pSt pStA pSome pIdx pPart pCall pCallV pAppend pExtend pGet pGetS pPut pJoin pLoop pKeep fgt iter
structure Nm where
  bits : Tn
  ulo : B64
  uhi : B64
  slo : B64
  shi : B64
abbrev Nm.enc (x : Nm) : List Value := [.int .u64 x.bits.v.toNat, .int .u64 x.bits.m.toNat, .int .u64 x.ulo.toNat, .int .u64 x.uhi.toNat, .int .i64 x.slo.toInt, .int .i64 x.shi.toInt]
/-- Cells of what is known of a number. -/
class NmIs (l : List Value) (q : outParam Nm) : Prop where
  eq : l = q.enc
instance (priority := 2000) {q : Nm} : NmIs [.int .u64 q.bits.v.toNat, .int .u64 q.bits.m.toNat, .int .u64 q.ulo.toNat, .int .u64 q.uhi.toNat, .int .i64 q.slo.toInt, .int .i64 q.shi.toInt] q := ⟨rfl⟩
instance (priority := 1000) {x0 x1 x2 x3 x4 x5 : Int} {a0 a1 a2 a3 a4 a5 : B64} [i0 : U x0 a0] [i1 : U x1 a1] [i2 : U x2 a2] [i3 : U x3 a3] [i4 : S x4 a4] [i5 : S x5 a5] : NmIs [.int .u64 x0, .int .u64 x1, .int .u64 x2, .int .u64 x3, .int .i64 x4, .int .i64 x5] ⟨⟨a0, a1⟩, a2, a3, a4, a5⟩ := ⟨by rw [i0.eq, i1.eq, i2.eq, i3.eq, i4.eq, i5.eq]⟩
def maxU (x y : B64) : B64 := if x < y then y else x
def minU (x y : B64) : B64 := if y < x then y else x
def maxS (x y : B64) : B64 := if x.toInt < y.toInt then y else x
def minS (x y : B64) : B64 := if y.toInt < x.toInt then y else x
def Nm.con (c : B64) : Nm := ⟨.con c, c, c, c, c⟩
def Nm.all : Nm := ⟨.all, 0#64, 18446744073709551615#64, 9223372036854775808#64, 9223372036854775807#64⟩
def Nm.unsigned (x : Nm) (lo hi : B64) : Nm := { x with ulo := maxU x.ulo lo, uhi := minU x.uhi hi }
def Nm.signed (x : Nm) (lo hi : B64) : Nm := { x with slo := maxS x.slo lo, shi := minS x.shi hi }
def topB : B64 := 9223372036854775808#64
def Nm.r1 (x : Nm) : Nm :=
  let l := x.bits.v &&& ~~~x.bits.m
  (x.unsigned l (l ||| x.bits.m)).signed (l ||| (x.bits.m &&& topB)) (l ||| (x.bits.m &&& ~~~topB))
def Nm.r2 (x : Nm) : Nm := if x.ulo &&& topB = x.uhi &&& topB then x.signed x.ulo x.uhi else x
def Nm.r3 (x : Nm) : Nm := if (x.slo.toInt < 0 ↔ x.shi.toInt < 0) then x.unsigned x.slo x.shi else x
def Nm.r4 (x : Nm) : Nm × Bool :=
  if x.uhi < x.ulo then (x, false) else if x.shi.toInt < x.slo.toInt then (x, false) else
    ({ x with bits := (x.bits.meet (.range x.ulo x.uhi)).1 }, (x.bits.meet (.range x.ulo x.uhi)).2)
def Nm.round (x : Nm) : Nm × Bool := x.r1.r2.r3.r4
def Nm.refine (x : Nm) : Nm × Bool :=
  if x.round.2 = true then (if x.round.1.round.2 = true then (x.round.1.round.1, true) else (.all, false)) else (.all, false)

section
variable {KP K : Value → Pr} {h : Heap} {x y z u lo hi : Int} {v m w n a b c d : B64} {M R : List Pr} {k : Nat} {tot : Nat}
theorem con_s [i : U x v] (k : K (.agg (Nm.con v).enc.toArray) h) : WpCall Tryz.prog 18 #[.int .u64 x] KP K h := by
  rw [i.eq]
  refine num_Const_call v.toNat ?_
  have H := hstart h
  simp only [num_Const, lay_eq, zc_eq, add_mk, Nat.zero_add, Nat.add_zero, pSome_some, pJoin_eq]
  repeat' (first | (first | (first | refine ld_c H (by rfl) ?_ | refine ldA_c H ?_ | refine st_c H fun h H => ?_ | refine stA_c H (by rfl) fun h H => ?_ | refine new_c H (by rfl) fun b h H => ?_ | refine keepA_c H ?_ | refine keep_c H (by rfl) ?_ | refine pAssert_i (by first | rfl | decide | exact unonneg) ?_) | refine iter_c ?_ | refine pIf_t (by decide) ?_ | refine pIf_f (by decide) ?_ | refine if_c (fun hz => ?_) (fun hz => ?_)) | refine call_c (tcon_s (one1 ?_)) | simp only [lay_eq, Tn.con] | (refine fin H ?_; first | exact k | (simp only [Nm.con, *, if_true, if_false, not_true_eq_false, not_false_eq_true] at k; exact k)))
theorem all_s (k : K (.agg Nm.all.enc.toArray) h) : WpCall Tryz.prog 45 #[] KP K h := by
  refine num_All_call ?_
  have H := hstart h
  simp only [num_All, lay_eq, zc_eq, add_mk, Nat.zero_add, Nat.add_zero, pSome_some, pJoin_eq]
  repeat' (first | (first | (first | refine ld_c H (by rfl) ?_ | refine ldA_c H ?_ | refine st_c H fun h H => ?_ | refine stA_c H (by rfl) fun h H => ?_ | refine new_c H (by rfl) fun b h H => ?_ | refine keepA_c H ?_ | refine keep_c H (by rfl) ?_ | refine pAssert_i (by first | rfl | decide | exact unonneg) ?_) | refine iter_c ?_ | refine pIf_t (by decide) ?_ | refine pIf_f (by decide) ?_ | refine if_c (fun hz => ?_) (fun hz => ?_)) | refine call_c (tall_s (one1 ?_)) | simp only [lay_eq, Tn.all] | (refine fin H ?_; first | exact k | (simp only [Nm.all, *, if_true, if_false, not_true_eq_false, not_false_eq_true] at k; exact k)))
theorem isConst_s {x2 x3 x4 x5 : Int} [i : U x v] [j : U y m] (k : K (.tuple #[.int .u64 (if m = 0#64 then v else 0#64).toNat, .bool (decide (m = 0#64))]) h) : WpCall Tryz.prog 43 #[.agg #[.int .u64 x, .int .u64 y, .int .u64 x2, .int .u64 x3, .int .i64 x4, .int .i64 x5]] KP K h := by
  rw [i.eq, j.eq]
  refine num_IsConst_call [.int .u64 v.toNat, .int .u64 m.toNat, .int .u64 x2, .int .u64 x3, .int .i64 x4, .int .i64 x5] ?_
  have H := hstart h
  simp only [num_IsConst, lay_eq, zc_eq, add_mk, Nat.zero_add, Nat.add_zero, pSome_some, pJoin_eq]
  repeat' (first | (first | (first | refine ld_c H (by rfl) ?_ | refine ldA_c H ?_ | refine st_c H fun h H => ?_ | refine stA_c H (by rfl) fun h H => ?_ | refine new_c H (by rfl) fun b h H => ?_ | refine keepA_c H ?_ | refine keep_c H (by rfl) ?_ | refine pAssert_i (by first | rfl | decide | exact unonneg) ?_) | refine iter_c ?_ | refine pIf_t (by decide) ?_ | refine pIf_f (by decide) ?_ | refine if_c (fun hz => ?_) (fun hz => ?_)) | refine back H ?_)
  · simpa [hz] using k
  · have hz : m = 0#64 := by simpa using hz
    simpa [hz] using k
theorem unsigned_s {c0 c1 c4 c5 : Value} {b : Nat} {ul uh l1 h1 : B64} [i : Pick M (.blk b) (rowP b [c0, c1, .int .u64 x, .int .u64 y, c4, c5] tot) R] [a1 : U x ul] [a2 : U y uh] [a3 : U lo l1] [a4 : U hi h1] (H : seps M h)
    (k : ∀ h, seps (rowP b [c0, c1, .int .u64 (maxU ul l1).toNat, .int .u64 (minU uh h1).toNat, c4, c5] tot :: R) h → K (.tuple #[]) h) : WpCall Tryz.prog 139 #[.pointer (some ⟨b, 0, none⟩), .int .u64 lo, .int .u64 hi] KP K h := by
  refine num_known_unsigned_call (some ⟨b, 0, none⟩) lo hi ?_
  simp only [num_known_unsigned, lay_eq, zc_eq, add_mk, Nat.zero_add, Nat.add_zero, pSome_some, pJoin_eq]
  repeat' first | (first | refine ld_c H (by rfl) ?_ | refine ldA_c H ?_ | refine st_c H fun h H => ?_ | refine stA_c H (by rfl) fun h H => ?_ | refine new_c H (by rfl) fun b h H => ?_ | refine keepA_c H ?_ | refine keep_c H (by rfl) ?_ | refine pAssert_i (by first | rfl | decide | exact unonneg) ?_) | refine iter_c ?_ | refine pIf_t (by decide) ?_ | refine pIf_f (by decide) ?_ | refine if_c (fun hz => ?_) (fun hz => ?_)
  refine fgt_mk (k _ ?_)
  have H := row_val b H
  exact H
theorem signed_s {c0 c1 c2 c3 : Value} {b : Nat} {ul uh l1 h1 : B64} [i : Pick M (.blk b) (rowP b [c0, c1, c2, c3, .int .i64 x, .int .i64 y] tot) R] [a1 : S x ul] [a2 : S y uh] [a3 : S lo l1] [a4 : S hi h1] (H : seps M h)
    (k : ∀ h, seps (rowP b [c0, c1, c2, c3, .int .i64 (maxS ul l1).toInt, .int .i64 (minS uh h1).toInt] tot :: R) h → K (.tuple #[]) h) : WpCall Tryz.prog 140 #[.pointer (some ⟨b, 0, none⟩), .int .i64 lo, .int .i64 hi] KP K h := by
  refine num_known_signed_call (some ⟨b, 0, none⟩) lo hi ?_
  simp only [num_known_signed, lay_eq, zc_eq, add_mk, Nat.zero_add, Nat.add_zero, pSome_some, pJoin_eq]
  repeat' first | (first | refine ld_c H (by rfl) ?_ | refine ldA_c H ?_ | refine st_c H fun h H => ?_ | refine stA_c H (by rfl) fun h H => ?_ | refine new_c H (by rfl) fun b h H => ?_ | refine keepA_c H ?_ | refine keep_c H (by rfl) ?_ | refine pAssert_i (by first | rfl | decide | exact unonneg) ?_) | refine iter_c ?_ | refine pIf_t (by decide) ?_ | refine pIf_f (by decide) ?_ | refine if_c (fun hz => ?_) (fun hz => ?_)
  refine fgt_mk (k _ ?_)
  have H := row_val b H
  exact H
end
end Go.Proofs.YtpbhanglcophbaaGreat

set_option linter.unusedVariables false
set_option linter.unusedSimpArgs false
namespace Go.Proofs.YtpbhanglcophbaaGreat
open Go.Hl
attribute [local irreducible] loadF zc sizeP bytesP vcBody pInvoke pIf pAssert pNew pLd pLdA pSt pStA pSome pIdx pPart pCall pCallV pAppend pExtend pGet pGetS pPut pJoin pLoop pKeep fgt iter
def Nm.orAll (x : Nm) : Nm := x.refine.1
def Nm.bounds (lo hi : B64) : Nm := Nm.orAll { Nm.all with ulo := lo, uhi := hi }
def Nm.meet (a b : Nm) : Nm × Bool :=
  if (a.bits.meet b.bits).2 = true then Nm.refine { (a.unsigned b.ulo b.uhi).signed b.slo b.shi with bits := (a.bits.meet b.bits).1 } else (.all, false)
def Nm.low (x : Nm) (n : Int) : Bool := decide (x.uhi = zextF x.uhi n)
def Nm.cut (x : Nm) (n : Int) : Nm :=
  if n = 8 then x else if isSize n = false then x else
    if x.low n = true then Nm.orAll { Nm.all with bits := x.bits.cut n, ulo := x.ulo, uhi := x.uhi } else Nm.orAll { Nm.all with bits := x.bits.cut n, uhi := lowF (8 * n) }
section
variable {KP K : Value → Pr} {h : Heap} {x y z u lo hi : Int} {v m w n a b c d : B64} {M R : List Pr} {k : Nat} {tot : Nat}
theorem round_s {p : Nat} {q : Nm} [i : Pick M (.blk p) (rowP p q.enc tot) R] (H : seps M h)
    (k : ∀ h, seps (rowP p q.round.1.enc tot :: R) h → K (.bool q.round.2) h) : WpCall Tryz.prog 94 #[.pointer (some ⟨p, 0, none⟩)] KP K h := by
  refine num_known_round_call (some ⟨p, 0, none⟩) ?_
  have H := i.out H
  -- the last part
  have P4 : ∀ (y : Nm) h, seps (rowP p y.enc tot :: R) h → q.round = y.r4 → num_known_round_j2 (some ⟨p, 0, none⟩) (fgt KP) (fgt K) h := by
    intro y h H e
    rw [e] at k
    simp only [num_known_round_j2, num_known_round_j1, lay_eq, zc_eq, add_mk, Nat.zero_add, Nat.add_zero, pSome_some, pJoin_eq]
    unfold Nm.r4 at k
    repeat' (first | (first | (first | refine ld_c H (by rfl) ?_ | refine ldA_c H ?_ | refine st_c H fun h H => ?_ | refine stA_c H (by rfl) fun h H => ?_ | refine new_c H (by rfl) fun b h H => ?_ | refine keepA_c H ?_ | refine keep_c H (by rfl) ?_ | refine pAssert_i (by first | rfl | decide | exact unonneg) ?_) | refine iter_c ?_ | refine pIf_t (by decide) ?_ | refine pIf_f (by decide) ?_ | refine if_c (fun hz => ?_) (fun hz => ?_)) | refine call_c (trange_s (one1 ?_)) | (refine call_c (tmeet_s (tup2 ?_)); try dsimp only))
    all_goals (refine fgt_mk ?_; simp only [*, if_true, if_false] at k; exact k _ (row_out p H))
  have P3 : ∀ (y : Nm) h, seps (rowP p y.enc tot :: R) h → q.round = y.r3.r4 → num_known_round_j3 (some ⟨p, 0, none⟩) (fgt KP) (fgt K) h := by
    intro y h H e
    unfold num_known_round_j3
    refine join_c ?_
    simp only [show 0 = 0 by rfl, lay_eq, zc_eq, add_mk, Nat.zero_add, Nat.add_zero, pSome_some, pJoin_eq]
    unfold Nm.r3 at e
    repeat' (first | (first | (first | refine ld_c H (by rfl) ?_ | refine ldA_c H ?_ | refine st_c H fun h H => ?_ | refine stA_c H (by rfl) fun h H => ?_ | refine new_c H (by rfl) fun b h H => ?_ | refine keepA_c H ?_ | refine keep_c H (by rfl) ?_ | refine pAssert_i (by first | rfl | decide | exact unonneg) ?_) | refine iter_c ?_ | refine pIf_t (by decide) ?_ | refine pIf_f (by decide) ?_ | refine if_c (fun hz => ?_) (fun hz => ?_)) | refine call_c (unsigned_s H fun h H => tup0 ?_))
    · rw [if_pos (by simpa using hz)] at e; exact P4 _ _ H e
    · rw [if_neg (by simpa using hz)] at e; exact P4 _ _ H e
  unfold num_known_round
  simp only [add_mk, Nat.zero_add, Nat.add_zero, pSome_some]
  repeat' (first | (first | refine ld_c H (by rfl) ?_ | refine ldA_c H ?_ | refine st_c H fun h H => ?_ | refine stA_c H (by rfl) fun h H => ?_ | refine new_c H (by rfl) fun b h H => ?_ | refine keepA_c H ?_ | refine keep_c H (by rfl) ?_ | refine pAssert_i (by first | rfl | decide | exact unonneg) ?_) | refine call_c (unsigned_s H fun h H => tup0 ?_) | refine call_c (signed_s H fun h H => tup0 ?_))
  have H : seps (rowP p q.r1.enc tot :: R) _ := H
  have e : q.round = q.r1.r2.r3.r4 := rfl
  generalize q.r1 = y at H e
  refine join_c ?_
  unfold Nm.r2 topB at e
  repeat' (first | (first | (first | refine ld_c H (by rfl) ?_ | refine ldA_c H ?_ | refine st_c H fun h H => ?_ | refine stA_c H (by rfl) fun h H => ?_ | refine new_c H (by rfl) fun b h H => ?_ | refine keepA_c H ?_ | refine keep_c H (by rfl) ?_ | refine pAssert_i (by first | rfl | decide | exact unonneg) ?_) | refine iter_c ?_ | refine pIf_t (by decide) ?_ | refine pIf_f (by decide) ?_ | refine if_c (fun hz => ?_) (fun hz => ?_)) | refine call_c (signed_s H fun h H => tup0 ?_))
  · rw [if_pos (by assumption)] at e; exact P3 _ _ H e
  · rw [if_neg (by assumption)] at e; exact P3 _ _ H e
theorem refine_s {l : List Value} {q : Nm} [i : NmIs l q] (k : K (.tuple #[.agg q.refine.1.enc.toArray, .bool q.refine.2]) h) : WpCall Tryz.prog 48 #[.agg l.toArray] KP K h := by
  rw [i.eq]
  refine num_Refine_call q.enc ?_
  have H := hstart h
  simp only [num_Refine, num_Refine_l1, lay_eq, zc_eq, add_mk, Nat.zero_add, Nat.add_zero, pSome_some, pJoin_eq]
  unfold Nm.refine at k
  repeat' first | (first | refine ld_c H (by rfl) ?_ | refine ldA_c H ?_ | refine st_c H fun h H => ?_ | refine stA_c H (by rfl) fun h H => ?_ | refine new_c H (by rfl) fun b h H => ?_ | refine keepA_c H ?_ | refine keep_c H (by rfl) ?_ | refine pAssert_i (by first | rfl | decide | exact unonneg) ?_) | refine iter_c ?_ | refine pIf_t (by decide) ?_ | refine pIf_f (by decide) ?_ | refine if_c (fun hz => ?_) (fun hz => ?_)
  refine loop_c 3 ?_
  repeat' (first | (first | (first | refine ld_c H (by rfl) ?_ | refine ldA_c H ?_ | refine st_c H fun h H => ?_ | refine stA_c H (by rfl) fun h H => ?_ | refine new_c H (by rfl) fun b h H => ?_ | refine keepA_c H ?_ | refine keep_c H (by rfl) ?_ | refine pAssert_i (by first | rfl | decide | exact unonneg) ?_) | refine iter_c ?_ | refine pIf_t (by decide) ?_ | refine pIf_f (by decide) ?_ | refine if_c (fun hz => ?_) (fun hz => ?_)) | refine call_c (round_s H fun h H => one1 ?_) | refine call_c (all_s (one1 ?_)))
  all_goals (refine fin H ?_; first | exact k | (simp only [Bool.false_eq_true, *, if_true, if_false, not_true_eq_false, not_false_eq_true] at k; exact k))
theorem orAll_s {l : List Value} {q : Nm} [i : NmIs l q] (k : K (.agg q.orAll.enc.toArray) h) : WpCall Tryz.prog 93 #[.agg l.toArray] KP K h := by
  rw [i.eq]
  refine num_orAll_call q.enc ?_
  have H := hstart h
  simp only [num_orAll, lay_eq, zc_eq, add_mk, Nat.zero_add, Nat.add_zero, pSome_some, pJoin_eq]
  repeat' (first | (first | (first | refine ld_c H (by rfl) ?_ | refine ldA_c H ?_ | refine st_c H fun h H => ?_ | refine stA_c H (by rfl) fun h H => ?_ | refine new_c H (by rfl) fun b h H => ?_ | refine keepA_c H ?_ | refine keep_c H (by rfl) ?_ | refine pAssert_i (by first | rfl | decide | exact unonneg) ?_) | refine iter_c ?_ | refine pIf_t (by decide) ?_ | refine pIf_f (by decide) ?_ | refine if_c (fun hz => ?_) (fun hz => ?_)) | (refine call_c (refine_s (tup2 ?_)); try dsimp only) | (refine fin H ?_; first | exact k | (simp only [Nm.orAll, *, if_true, if_false, not_true_eq_false, not_false_eq_true] at k; exact k)))
theorem bounds_s [i : U lo a] [j : U hi b] (k : K (.agg (Nm.bounds a b).enc.toArray) h) : WpCall Tryz.prog 96 #[.int .u64 lo, .int .u64 hi] KP K h := by
  rw [i.eq, j.eq]
  refine num_Bounds_call a.toNat b.toNat ?_
  have H := hstart h
  simp only [num_Bounds, lay_eq, zc_eq, add_mk, Nat.zero_add, Nat.add_zero, pSome_some, pJoin_eq]
  repeat' (first | (first | (first | refine ld_c H (by rfl) ?_ | refine ldA_c H ?_ | refine st_c H fun h H => ?_ | refine stA_c H (by rfl) fun h H => ?_ | refine new_c H (by rfl) fun b h H => ?_ | refine keepA_c H ?_ | refine keep_c H (by rfl) ?_ | refine pAssert_i (by first | rfl | decide | exact unonneg) ?_) | refine iter_c ?_ | refine pIf_t (by decide) ?_ | refine pIf_f (by decide) ?_ | refine if_c (fun hz => ?_) (fun hz => ?_)) | refine call_c (all_s (one1 ?_)) | refine call_c (orAll_s (one1 ?_)) | (refine fin H ?_; first | exact k | (simp only [Nm.bounds, *, if_true, if_false, not_true_eq_false, not_false_eq_true] at k; exact k)))
theorem nlow_s {n : Int} {l : List Value} {q : Nm} [i : NmIs l q] (k : K (.bool (q.low n)) h) : WpCall Tryz.prog 61 #[.agg l.toArray, .int .i64 n] KP K h := by
  rw [i.eq]
  refine num_Low_call q.enc n ?_
  have H := hstart h
  simp only [num_Low, lay_eq, zc_eq, add_mk, Nat.zero_add, Nat.add_zero, pSome_some, pJoin_eq]
  repeat' (first | (first | (first | refine ld_c H (by rfl) ?_ | refine ldA_c H ?_ | refine st_c H fun h H => ?_ | refine stA_c H (by rfl) fun h H => ?_ | refine new_c H (by rfl) fun b h H => ?_ | refine keepA_c H ?_ | refine keep_c H (by rfl) ?_ | refine pAssert_i (by first | rfl | decide | exact unonneg) ?_) | refine iter_c ?_ | refine pIf_t (by decide) ?_ | refine pIf_f (by decide) ?_ | refine if_c (fun hz => ?_) (fun hz => ?_)) | refine call_c (zext_s (one1 ?_)) | (refine fin H ?_; first | exact k | (simp only [Nm.low, *, if_true, if_false, not_true_eq_false, not_false_eq_true] at k; exact k)))
theorem nmeet_s {l l2 : List Value} {q r : Nm} [i : NmIs l q] [j : NmIs l2 r] (k : K (.tuple #[.agg (q.meet r).1.enc.toArray, .bool (q.meet r).2]) h) : WpCall Tryz.prog 145 #[.agg l.toArray, .agg l2.toArray] KP K h := by
  rw [i.eq, j.eq]
  refine num_Meet_call q.enc r.enc ?_
  have H := hstart h
  simp only [num_Meet, lay_eq, zc_eq, add_mk, Nat.zero_add, Nat.add_zero, pSome_some, pJoin_eq]
  unfold Nm.meet at k
  repeat' (first | (first | (first | refine ld_c H (by rfl) ?_ | refine ldA_c H ?_ | refine st_c H fun h H => ?_ | refine stA_c H (by rfl) fun h H => ?_ | refine new_c H (by rfl) fun b h H => ?_ | refine keepA_c H ?_ | refine keep_c H (by rfl) ?_ | refine pAssert_i (by first | rfl | decide | exact unonneg) ?_) | refine iter_c ?_ | refine pIf_t (by decide) ?_ | refine pIf_f (by decide) ?_ | refine if_c (fun hz => ?_) (fun hz => ?_)) | refine call_c (all_s (one1 ?_)) | refine call_c (unsigned_s H fun h H => tup0 ?_) | refine call_c (signed_s H fun h H => tup0 ?_) | (refine call_c (tmeet_s (tup2 ?_)); try dsimp only) | (refine call_c (refine_s (tup2 ?_)); try dsimp only))
  · (refine fin H ?_; first | exact k | (simp only [Bool.false_eq_true, *, if_true, if_false, not_true_eq_false, not_false_eq_true] at k; exact k))
  · (refine fin H ?_; first | exact k | (simp only [Bool.false_eq_true, *, if_true, if_false, not_true_eq_false, not_false_eq_true] at k; exact k))
theorem ncut_s {n : Int} {l : List Value} {q : Nm} [i : NmIs l q] (k : K (.agg (q.cut n).enc.toArray) h) : WpCall Tryz.prog 47 #[.agg l.toArray, .int .i64 n] KP K h := by
  rw [i.eq]
  refine num_Cut_call q.enc n ?_
  have H := hstart h
  simp only [num_Cut, num_Cut_j1, num_Cut_j2, lay_eq, zc_eq, add_mk, Nat.zero_add, Nat.add_zero, pSome_some, pJoin_eq]
  unfold Nm.cut at k
  repeat' (first | (first | refine ld_c H (by rfl) ?_ | refine ldA_c H ?_ | refine st_c H fun h H => ?_ | refine stA_c H (by rfl) fun h H => ?_ | refine new_c H (by rfl) fun b h H => ?_ | refine keepA_c H ?_ | refine keep_c H (by rfl) ?_ | refine pAssert_i (by first | rfl | decide | exact unonneg) ?_) | refine pIf_t rfl ?_ | refine call_c (isSize_s (one1 ?_)))
  refine if_c (fun hz => ?_) (fun hz => ?_)
  · rw [if_pos hz] at k
    repeat' (first | (first | (first | refine ld_c H (by rfl) ?_ | refine ldA_c H ?_ | refine st_c H fun h H => ?_ | refine stA_c H (by rfl) fun h H => ?_ | refine new_c H (by rfl) fun b h H => ?_ | refine keepA_c H ?_ | refine keep_c H (by rfl) ?_ | refine pAssert_i (by first | rfl | decide | exact unonneg) ?_) | refine iter_c ?_ | refine pIf_t (by decide) ?_ | refine pIf_f (by decide) ?_ | refine if_c (fun hz => ?_) (fun hz => ?_)) | (refine fin H ?_; first | exact k | (simp only [true_and, *, if_true, if_false, not_true_eq_false, not_false_eq_true] at k; exact k)))
  rw [if_neg hz] at k
  repeat' (first | (first | refine ld_c H (by rfl) ?_ | refine ldA_c H ?_ | refine st_c H fun h H => ?_ | refine stA_c H (by rfl) fun h H => ?_ | refine new_c H (by rfl) fun b h H => ?_ | refine keepA_c H ?_ | refine keep_c H (by rfl) ?_ | refine pAssert_i (by first | rfl | decide | exact unonneg) ?_) | refine call_c (isSize_s (one1 ?_)))
  refine if_c (fun hz => ?_) (fun hz => ?_)
  · rw [if_pos (by simpa using hz)] at k
    repeat' (first | (first | (first | refine ld_c H (by rfl) ?_ | refine ldA_c H ?_ | refine st_c H fun h H => ?_ | refine stA_c H (by rfl) fun h H => ?_ | refine new_c H (by rfl) fun b h H => ?_ | refine keepA_c H ?_ | refine keep_c H (by rfl) ?_ | refine pAssert_i (by first | rfl | decide | exact unonneg) ?_) | refine iter_c ?_ | refine pIf_t (by decide) ?_ | refine pIf_f (by decide) ?_ | refine if_c (fun hz => ?_) (fun hz => ?_)) | (refine fin H ?_; first | exact k | (simp only [true_and, *, if_true, if_false, not_true_eq_false, not_false_eq_true] at k; exact k)))
  have hs : isSize n = true := by simpa using hz
  rw [if_neg (by simp [hs])] at k
  have e : IntKind.i64.wrap (8 * n) = 8 * n := by rcases isSize_cases hs with rfl | rfl | rfl | rfl <;> rfl
  rw [e]
  repeat' (first | (first | refine ld_c H (by rfl) ?_ | refine ldA_c H ?_ | refine st_c H fun h H => ?_ | refine stA_c H (by rfl) fun h H => ?_ | refine new_c H (by rfl) fun b h H => ?_ | refine keepA_c H ?_ | refine keep_c H (by rfl) ?_ | refine pAssert_i (by first | rfl | decide | exact unonneg) ?_) | refine call_c (all_s (one1 ?_)) | refine call_c (tcut_s (one1 ?_)) | refine call_c (low_s (one1 ?_)) | refine call_c (nlow_s (one1 ?_)))
  refine if_c (fun hz => ?_) (fun hz => ?_)
  all_goals repeat' (first | (first | refine ld_c H (by rfl) ?_ | refine ldA_c H ?_ | refine st_c H fun h H => ?_ | refine stA_c H (by rfl) fun h H => ?_ | refine new_c H (by rfl) fun b h H => ?_ | refine keepA_c H ?_ | refine keep_c H (by rfl) ?_ | refine pAssert_i (by first | rfl | decide | exact unonneg) ?_) | refine call_c (orAll_s (one1 ?_)) | (refine fin H ?_; first | exact k | (simp only [Bool.false_eq_true, *, if_true, if_false, not_true_eq_false, not_false_eq_true] at k; exact k)))
end
end Go.Proofs.YtpbhanglcophbaaGreat

set_option linter.unusedVariables false
set_option linter.unusedSimpArgs false
namespace Go.Proofs.YtpbhanglcophbaaGreat
open Go.Hl
attribute [local irreducible] loadF zc sizeP bytesP vcBody pInvoke pIf pAssert pNew pLd pLdA pSt pStA pSome pIdx pPart pCall pCallV pAppend pExtend pGet pGetS pPut pNewObj pJoin pLoop pKeep fgt iter
def cutW (wide : Bool) (x : B64) : B64 := zextF x (if wide then 8 else 4)
def divF (a b : B64) : B64 := if b = 0#64 then 0#64 else a / b
def modF (a b : B64) : B64 := if b = 0#64 then a else a % b
def plainF (op : Int) (a b : B64) : Option B64 :=
  if op = 0 then some (a + b) else if op = 16 then some (a - b) else if op = 32 then some (a * b) else if op = 48 then some (divF a b) else if op = 144 then some (modF a b)
  else if op = 64 then some (a ||| b) else if op = 80 then some (a &&& b) else if op = 160 then some (a ^^^ b) else if op = 176 then some b else if op = 128 then some (-a) else none
def shiftF (op : Int) (wide : Bool) (a b : B64) : Option B64 :=
  let n := b % (if wide then 64#64 else 32#64)
  if op = 96 then some (a <<< n.toNat) else if op = 112 then some (a >>> n.toNat)
  else if op = 192 then some ((sextF a (if wide then 8 else 4)).sshiftRight n.toNat) else none
def aluO (op : Int) (wide : Bool) (a b : B64) : Option B64 :=
  match shiftF op wide (cutW wide a) (cutW wide b) with
  | some x => some (cutW wide x)
  | none => (plainF op (cutW wide a) (cutW wide b)).map (cutW wide)

section
variable {KP K : Value → Pr} {h : Heap} {x y z u lo hi op : Int} {v m w n a b c d : B64} {M R : List Pr} {k : Nat} {tot : Nat}
theorem shift_s {wide : Bool} [i : U x a] [j : U y b] (k : K (.tuple #[.int .u64 ((shiftF op wide a b).getD 0#64).toNat, .bool (shiftF op wide a b).isSome]) h) : WpCall Tryz.prog 88 #[.int .u8 op, .int .u64 (if wide then 64 else 32), .int .u64 x, .int .u64 y] KP K h := by
  rw [i.eq, j.eq]
  refine alu_shift_call op (if wide then 64 else 32) a.toNat b.toNat ?_
  have H := hstart h
  unfold shiftF at k
  cases wide
  all_goals simp only [alu_shift, if_true, if_false, Bool.false_eq_true, lay_eq, zc_eq, add_mk, Nat.zero_add, Nat.add_zero, pSome_some, pJoin_eq]
  all_goals simp only [if_true, if_false, Bool.false_eq_true] at k
  all_goals repeat' (first | (first | (first | refine ld_c H (by rfl) ?_ | refine ldA_c H ?_ | refine st_c H fun h H => ?_ | refine stA_c H (by rfl) fun h H => ?_ | refine new_c H (by rfl) fun b h H => ?_ | refine keepA_c H ?_ | refine keep_c H (by rfl) ?_ | refine pAssert_i (by first | rfl | decide | exact unonneg) ?_) | refine iter_c ?_ | refine pIf_t (by decide) ?_ | refine pIf_f (by decide) ?_ | refine if_c (fun hz => ?_) (fun hz => ?_)) | (refine pAssert_i (by decide) ?_) | refine call_c (sext_s (one1 ?_)) | (simp only [*, if_true, if_false, Option.getD_some, Option.isSome_some, Option.getD_none, Option.isSome_none] at k; refine fin H ?_; exact k))
theorem plain1_s [i : U x a] [j : U y b] {r : B64} (e : plainF 0 a b = some r) (k : K (.int .u64 r.toNat) h) : WpCall Tryz.prog 128 #[.int .u64 x, .int .u64 y] KP K h := by
  rw [i.eq, j.eq]
  refine alu_plain_1_call a.toNat b.toNat ?_
  have H := hstart h
  simp only [alu_plain_1, lay_eq, zc_eq, add_mk, Nat.zero_add, Nat.add_zero, pSome_some, pJoin_eq]
  cases e
  refine fin H ?_; exact k
theorem plain2_s [i : U x a] [j : U y b] {r : B64} (e : plainF 16 a b = some r) (k : K (.int .u64 r.toNat) h) : WpCall Tryz.prog 129 #[.int .u64 x, .int .u64 y] KP K h := by
  rw [i.eq, j.eq]
  refine alu_plain_2_call a.toNat b.toNat ?_
  have H := hstart h
  simp only [alu_plain_2, lay_eq, zc_eq, add_mk, Nat.zero_add, Nat.add_zero, pSome_some, pJoin_eq]
  cases e
  refine fin H ?_; exact k
theorem plain3_s [i : U x a] [j : U y b] {r : B64} (e : plainF 32 a b = some r) (k : K (.int .u64 r.toNat) h) : WpCall Tryz.prog 130 #[.int .u64 x, .int .u64 y] KP K h := by
  rw [i.eq, j.eq]
  refine alu_plain_3_call a.toNat b.toNat ?_
  have H := hstart h
  simp only [alu_plain_3, lay_eq, zc_eq, add_mk, Nat.zero_add, Nat.add_zero, pSome_some, pJoin_eq]
  cases e
  refine fin H ?_; exact k
theorem plain4_s [i : U x a] [j : U y b] {r : B64} (e : plainF 64 a b = some r) (k : K (.int .u64 r.toNat) h) : WpCall Tryz.prog 133 #[.int .u64 x, .int .u64 y] KP K h := by
  rw [i.eq, j.eq]
  refine alu_plain_4_call a.toNat b.toNat ?_
  have H := hstart h
  simp only [alu_plain_4, lay_eq, zc_eq, add_mk, Nat.zero_add, Nat.add_zero, pSome_some, pJoin_eq]
  cases e
  refine fin H ?_; exact k
theorem plain5_s [i : U x a] [j : U y b] {r : B64} (e : plainF 80 a b = some r) (k : K (.int .u64 r.toNat) h) : WpCall Tryz.prog 134 #[.int .u64 x, .int .u64 y] KP K h := by
  rw [i.eq, j.eq]
  refine alu_plain_5_call a.toNat b.toNat ?_
  have H := hstart h
  simp only [alu_plain_5, lay_eq, zc_eq, add_mk, Nat.zero_add, Nat.add_zero, pSome_some, pJoin_eq]
  cases e
  refine fin H ?_; exact k
theorem plain6_s [i : U x a] [j : U y b] {r : B64} (e : plainF 160 a b = some r) (k : K (.int .u64 r.toNat) h) : WpCall Tryz.prog 135 #[.int .u64 x, .int .u64 y] KP K h := by
  rw [i.eq, j.eq]
  refine alu_plain_6_call a.toNat b.toNat ?_
  have H := hstart h
  simp only [alu_plain_6, lay_eq, zc_eq, add_mk, Nat.zero_add, Nat.add_zero, pSome_some, pJoin_eq]
  cases e
  refine fin H ?_; exact k
theorem plain7_s [i : U x a] [j : U y b] {r : B64} (e : plainF 176 a b = some r) (k : K (.int .u64 r.toNat) h) : WpCall Tryz.prog 136 #[.int .u64 x, .int .u64 y] KP K h := by
  rw [i.eq, j.eq]
  refine alu_plain_7_call a.toNat b.toNat ?_
  have H := hstart h
  simp only [alu_plain_7, lay_eq, zc_eq, add_mk, Nat.zero_add, Nat.add_zero, pSome_some, pJoin_eq]
  cases e
  refine fin H ?_; exact k
theorem plain8_s [i : U x a] [j : U y b] {r : B64} (e : plainF 128 a b = some r) (k : K (.int .u64 r.toNat) h) : WpCall Tryz.prog 137 #[.int .u64 x, .int .u64 y] KP K h := by
  rw [i.eq, j.eq]
  refine alu_plain_8_call a.toNat b.toNat ?_
  have H := hstart h
  simp only [alu_plain_8, lay_eq, zc_eq, add_mk, Nat.zero_add, Nat.add_zero, pSome_some, pJoin_eq]
  cases e
  refine fin H ?_; exact k
theorem adiv_s [i : U x a] [j : U y b] {r : B64} (e : plainF 48 a b = some r) (k : K (.int .u64 r.toNat) h) : WpCall Tryz.prog 131 #[.int .u64 x, .int .u64 y] KP K h := by
  rw [i.eq, j.eq]
  refine alu_div_call a.toNat b.toNat ?_
  have H := hstart h
  cases e
  unfold divF at k
  simp only [alu_div, lay_eq, zc_eq, add_mk, Nat.zero_add, Nat.add_zero, pSome_some, pJoin_eq]
  repeat' (first | (first | (first | refine ld_c H (by rfl) ?_ | refine ldA_c H ?_ | refine st_c H fun h H => ?_ | refine stA_c H (by rfl) fun h H => ?_ | refine new_c H (by rfl) fun b h H => ?_ | refine keepA_c H ?_ | refine keep_c H (by rfl) ?_ | refine pAssert_i (by first | rfl | decide | exact unonneg) ?_) | refine iter_c ?_ | refine pIf_t (by decide) ?_ | refine pIf_f (by decide) ?_ | refine if_c (fun hz => ?_) (fun hz => ?_)) | (refine pAssert_i (fun e => hz (BitVec.eq_of_toNat_eq (by simpa using e))) ?_) | (refine fin H ?_; first | exact k | (simp only [divF, *, if_true, if_false, not_true_eq_false, not_false_eq_true] at k; exact k)))
theorem amod_s [i : U x a] [j : U y b] {r : B64} (e : plainF 144 a b = some r) (k : K (.int .u64 r.toNat) h) : WpCall Tryz.prog 132 #[.int .u64 x, .int .u64 y] KP K h := by
  rw [i.eq, j.eq]
  refine alu_mod_call a.toNat b.toNat ?_
  have H := hstart h
  cases e
  unfold modF at k
  simp only [alu_mod, lay_eq, zc_eq, add_mk, Nat.zero_add, Nat.add_zero, pSome_some, pJoin_eq]
  repeat' (first | (first | (first | refine ld_c H (by rfl) ?_ | refine ldA_c H ?_ | refine st_c H fun h H => ?_ | refine stA_c H (by rfl) fun h H => ?_ | refine new_c H (by rfl) fun b h H => ?_ | refine keepA_c H ?_ | refine keep_c H (by rfl) ?_ | refine pAssert_i (by first | rfl | decide | exact unonneg) ?_) | refine iter_c ?_ | refine pIf_t (by decide) ?_ | refine pIf_f (by decide) ?_ | refine if_c (fun hz => ?_) (fun hz => ?_)) | (refine pAssert_i (fun e => hz (BitVec.eq_of_toNat_eq (by simpa using e))) ?_) | (refine fin H ?_; first | exact k | (simp only [modF, *, if_true, if_false, not_true_eq_false, not_false_eq_true] at k; exact k)))
abbrev fnV (f : Nat) : Value := .func (.func f) #[] #[]
abbrev plainE : List (Value × Value) := [(.int .u8 0, fnV 128), (.int .u8 16, fnV 129), (.int .u8 32, fnV 130), (.int .u8 48, fnV 131), (.int .u8 144, fnV 132), (.int .u8 64, fnV 133), (.int .u8 80, fnV 134), (.int .u8 160, fnV 135), (.int .u8 176, fnV 136), (.int .u8 128, fnV 137)]
theorem plain_s (H : seps M h) (k : ∀ p h, seps (mapP p plainE :: M) h → K (.map (some p)) h) : WpCall Tryz.prog 89 #[] KP K h := by
  refine alu_plain_call ?_
  unfold alu_plain
  refine newM_c H fun p h H => ?_
  repeat' (refine put_c H (by kernel_rfl) fun h H => ?_)
  exact fgt_mk (k p h H)
theorem alu_s {wide : Bool} [i : U x a] [j : U y b] (k : K (.tuple #[.int .u64 ((aluO op wide a b).getD 0#64).toNat, .bool (aluO op wide a b).isSome]) h) : WpCall Tryz.prog 46 #[.int .u8 op, .bool wide, .int .u64 x, .int .u64 y] KP K h := by
  rw [i.eq, j.eq]
  refine alu_Do_call op wide a.toNat b.toNat ?_
  have H := hstart h
  have key : alu_Do_j1 op a.toNat b.toNat (fgt KP) (fgt K) (if wide then 64 else 32) (if wide then 8 else 4) h := by
    unfold alu_Do_j1
    refine call_c (zext_s (one1 ?_))
    refine call_c (zext_s (one1 ?_))
    refine call_c (shift_s (tup2 ?_))
    unfold aluO at k
    unfold cutW at k
    cases e : shiftF op wide (zextF a (if wide then 8 else 4)) (zextF b (if wide then 8 else 4)) with
    | some r =>
      simp only [e] at k
      refine pIf_t rfl (call_c (zext_s (one1 ?_)))
      refine fin H ?_; exact k
    | none =>
      simp only [e] at k
      refine pIf_f rfl (call_c (plain_s H fun p h H => one1 ?_))
      refine getS_c H rfl ?_
      simp only [GetAll]
      repeat' (first | (refine ⟨fun e => ⟨_, rfl, ?_⟩, fun e => ?_⟩) | (refine ⟨_, rfl, ?_⟩) | fail)
      all_goals (try subst op)
      · refine pIf_f rfl (callV0_c (plain1_s rfl (one1 (call_c (zext_s (one1 ?_))))))
        refine fin H ?_; exact k
      · refine pIf_f rfl (callV0_c (plain2_s rfl (one1 (call_c (zext_s (one1 ?_))))))
        refine fin H ?_; exact k
      · refine pIf_f rfl (callV0_c (plain3_s rfl (one1 (call_c (zext_s (one1 ?_))))))
        refine fin H ?_; exact k
      · refine pIf_f rfl (callV0_c (adiv_s rfl (one1 (call_c (zext_s (one1 ?_))))))
        refine fin H ?_; exact k
      · refine pIf_f rfl (callV0_c (amod_s rfl (one1 (call_c (zext_s (one1 ?_))))))
        refine fin H ?_; exact k
      · refine pIf_f rfl (callV0_c (plain4_s rfl (one1 (call_c (zext_s (one1 ?_))))))
        refine fin H ?_; exact k
      · refine pIf_f rfl (callV0_c (plain5_s rfl (one1 (call_c (zext_s (one1 ?_))))))
        refine fin H ?_; exact k
      · refine pIf_f rfl (callV0_c (plain6_s rfl (one1 (call_c (zext_s (one1 ?_))))))
        refine fin H ?_; exact k
      · refine pIf_f rfl (callV0_c (plain7_s rfl (one1 (call_c (zext_s (one1 ?_))))))
        refine fin H ?_; exact k
      · refine pIf_f rfl (callV0_c (plain8_s rfl (one1 (call_c (zext_s (one1 ?_))))))
        refine fin H ?_; exact k
      · refine pIf_t rfl ?_
        unfold plainF at k
        simp only [*, if_false] at k
        refine fin H ?_; exact k
  unfold alu_Do
  refine join_c ?_
  cases wide
  · exact pIf_t rfl key
  · exact pIf_f rfl key
end
end Go.Proofs.YtpbhanglcophbaaGreat

set_option linter.unusedVariables false
set_option linter.unusedSimpArgs false
namespace Go.Proofs.YtpbhanglcophbaaGreat
open Go.Hl
attribute [local irreducible] loadF zc sizeP bytesP vcBody pInvoke pIf pAssert pNew pLd pLdA pSt pStA pSome pIdx pPart pCall pCallV pAppend pExtend pGet pGetS pPut pNewObj pJoin pLoop pKeep fgt iter
structure Rw where
  a : Nm
  b : Nm
  c : B64
  only : Bool
  turns : B64
  n : Nm
abbrev Rw.enc (r : Rw) : List Value :=
  [.int .u64 r.a.bits.v.toNat, .int .u64 r.a.bits.m.toNat, .int .u64 r.a.ulo.toNat, .int .u64 r.a.uhi.toNat, .int .i64 r.a.slo.toInt, .int .i64 r.a.shi.toInt,
   .int .u64 r.b.bits.v.toNat, .int .u64 r.b.bits.m.toNat, .int .u64 r.b.ulo.toNat, .int .u64 r.b.uhi.toNat, .int .i64 r.b.slo.toInt, .int .i64 r.b.shi.toInt,
   .int .u64 r.c.toNat, .bool r.only, .int .u64 r.turns.toNat,
   .int .u64 r.n.bits.v.toNat, .int .u64 r.n.bits.m.toNat, .int .u64 r.n.ulo.toNat, .int .u64 r.n.uhi.toNat, .int .i64 r.n.slo.toInt, .int .i64 r.n.shi.toInt]
def sumF (x y : B64) : B64 × Bool := (x + y, decide ((x + y).toInt < x.toInt) == decide (y.toInt < 0))
def lessF (x y : B64) : B64 × Bool := (x - y, decide (x.toInt < (x - y).toInt) == decide (y.toInt < 0))
def Rw.bits (r : Rw) (t : Tn) : Rw := { r with n := { r.n with bits := t } }
def Rw.uns (r : Rw) (lo hi : B64) : Rw := { r with n := { r.n with ulo := lo, uhi := hi } }
def Rw.sig (r : Rw) (lo hi : B64) : Rw := { r with n := { r.n with slo := lo, shi := hi } }
def Rw.u1 (r : Rw) : Rw := if r.a.uhi ≤ r.a.uhi + r.b.uhi then r.uns (r.a.ulo + r.b.ulo) (r.a.uhi + r.b.uhi) else r
def Rw.s1 (r : Rw) : Rw := if (sumF r.a.slo r.b.slo).2 = true then (if (sumF r.a.shi r.b.shi).2 = true then r.sig (r.a.slo + r.b.slo) (r.a.shi + r.b.shi) else r) else r
def Rw.add (r : Rw) : Rw := (r.bits (r.a.bits.add r.b.bits)).u1.s1
def Rw.u2 (r : Rw) : Rw := if r.b.uhi ≤ r.a.ulo then r.uns (r.a.ulo - r.b.uhi) (r.a.uhi - r.b.ulo) else r
def Rw.s2 (r : Rw) : Rw := if (lessF r.a.slo r.b.shi).2 = true then (if (lessF r.a.shi r.b.slo).2 = true then r.sig (r.a.slo - r.b.shi) (r.a.shi - r.b.slo) else r) else r
def Rw.sub (r : Rw) : Rw := (r.bits (r.a.bits.sub r.b.bits)).u2.s2
def Rw.mul (r : Rw) : Rw := if r.a.uhi ≤ 4294967295#64 then (if r.b.uhi ≤ 4294967295#64 then r.uns (r.a.ulo * r.b.ulo) (r.a.uhi * r.b.uhi) else r) else r
def Rw.div (r : Rw) : Rw := if r.only = true then (if 0#64 < r.c then r.uns (r.a.ulo / r.c) (r.a.uhi / r.c) else r.uns 0#64 r.a.uhi) else r.uns 0#64 r.a.uhi
def Rw.mod (r : Rw) : Rw := if r.only = true then (if 0#64 < r.c then r.uns 0#64 (if r.c - 1#64 < r.a.uhi then r.c - 1#64 else r.a.uhi) else r.uns 0#64 r.a.uhi) else r.uns 0#64 r.a.uhi
def Rw.and (r : Rw) : Rw := (r.bits (r.a.bits.and r.b.bits)).uns 0#64 (if r.b.uhi < r.a.uhi then r.b.uhi else r.a.uhi)
def Rw.or (r : Rw) : Rw := (r.bits (r.a.bits.or r.b.bits)).uns (if r.a.ulo < r.b.ulo then r.b.ulo else r.a.ulo) 18446744073709551615#64
def Rw.xor (r : Rw) : Rw := r.bits (r.a.bits.xor r.b.bits)
def Rw.lsh (r : Rw) : Rw :=
  if r.only = true then (if (r.a.uhi <<< (r.c % r.turns).toNat) >>> (r.c % r.turns).toNat = r.a.uhi then (r.bits (r.a.bits.lsh (r.c % r.turns))).uns (r.a.ulo <<< (r.c % r.turns).toNat) (r.a.uhi <<< (r.c % r.turns).toNat)
    else r.bits (r.a.bits.lsh (r.c % r.turns))) else r
def Rw.rsh (r : Rw) : Rw :=
  if r.only = true then (r.bits (r.a.bits.rsh (r.c % r.turns))).uns (r.a.ulo >>> (r.c % r.turns).toNat) (r.a.uhi >>> (r.c % r.turns).toNat) else r.uns 0#64 r.a.uhi
def Rw.arsh (r : Rw) : Rw :=
  if r.turns = 64#64 then (if r.only = true then (r.bits (r.a.bits.arsh (r.c % r.turns))).sig (r.a.slo.sshiftRight (r.c % r.turns).toNat) (r.a.shi.sshiftRight (r.c % r.turns).toNat)
    else r.sig (if (0#64).toInt < r.a.slo.toInt then 0#64 else r.a.slo) (if r.a.shi.toInt < (BitVec.ofInt 64 (-1)).toInt then BitVec.ofInt 64 (-1) else r.a.shi)) else r
def Rw.neg (r : Rw) : Rw := Rw.sub { r with a := .con 0#64, b := r.a }
def Rw.mov (r : Rw) : Rw := { r with n := r.b }

section
variable {KP K : Value → Pr} {h : Heap} {x y z u lo hi op : Int} {v m w n a b c d : B64} {M R : List Pr} {k : Nat} {tot p : Nat}
theorem sum_s [i : S x a] [j : S y b] (k : K (.tuple #[.int .i64 (a + b).toInt, .bool (sumF a b).2]) h) : WpCall Tryz.prog 117 #[.int .i64 x, .int .i64 y] KP K h := by
  rw [i.eq, j.eq]
  refine xfer_sum_call a.toInt b.toInt ?_
  have H := hstart h
  simp only [xfer_sum, lay_eq, zc_eq, add_mk, Nat.zero_add, Nat.add_zero, pSome_some, pJoin_eq]
  refine fin H ?_; exact k
theorem less_s [i : S x a] [j : S y b] (k : K (.tuple #[.int .i64 (a - b).toInt, .bool (lessF a b).2]) h) : WpCall Tryz.prog 120 #[.int .i64 x, .int .i64 y] KP K h := by
  rw [i.eq, j.eq]
  refine xfer_less_call a.toInt b.toInt ?_
  have H := hstart h
  simp only [xfer_less, lay_eq, zc_eq, add_mk, Nat.zero_add, Nat.add_zero, pSome_some, pJoin_eq]
  refine fin H ?_; exact k
theorem xuns_s {cs c1 c2 : List Value} [i : Pick M (.blk p) (rowP p cs tot) R] [j : Put cs 17 (.int .u64 lo) c1] [l : Put c1 18 (.int .u64 hi) c2] (H : seps M h) (k : ∀ h, seps (rowP p c2 tot :: R) h → K (.tuple #[]) h) : WpCall Tryz.prog 116 #[.pointer (some ⟨p, 0, none⟩), .int .u64 lo, .int .u64 hi] KP K h := by
  refine xfer_row_unsigned_call (some ⟨p, 0, none⟩) lo hi ?_
  simp only [xfer_row_unsigned, lay_eq, zc_eq, add_mk, Nat.zero_add, Nat.add_zero, pSome_some, pJoin_eq]
  repeat' first | (first | refine ld_c H (by rfl) ?_ | refine ldA_c H ?_ | refine st_c H fun h H => ?_ | refine stA_c H (by rfl) fun h H => ?_ | refine new_c H (by rfl) fun b h H => ?_ | refine keepA_c H ?_ | refine keep_c H (by rfl) ?_ | refine pAssert_i (by first | rfl | decide | exact unonneg) ?_) | refine iter_c ?_ | refine pIf_t (by decide) ?_ | refine pIf_f (by decide) ?_ | refine if_c (fun hz => ?_) (fun hz => ?_)
  exact fgt_mk (k _ H)
theorem xsig_s {cs c1 c2 : List Value} [i : Pick M (.blk p) (rowP p cs tot) R] [j : Put cs 19 (.int .i64 lo) c1] [l : Put c1 20 (.int .i64 hi) c2] (H : seps M h) (k : ∀ h, seps (rowP p c2 tot :: R) h → K (.tuple #[]) h) : WpCall Tryz.prog 118 #[.pointer (some ⟨p, 0, none⟩), .int .i64 lo, .int .i64 hi] KP K h := by
  refine xfer_row_signed_call (some ⟨p, 0, none⟩) lo hi ?_
  simp only [xfer_row_signed, lay_eq, zc_eq, add_mk, Nat.zero_add, Nat.add_zero, pSome_some, pJoin_eq]
  repeat' first | (first | refine ld_c H (by rfl) ?_ | refine ldA_c H ?_ | refine st_c H fun h H => ?_ | refine stA_c H (by rfl) fun h H => ?_ | refine new_c H (by rfl) fun b h H => ?_ | refine keepA_c H ?_ | refine keep_c H (by rfl) ?_ | refine pAssert_i (by first | rfl | decide | exact unonneg) ?_) | refine iter_c ?_ | refine pIf_t (by decide) ?_ | refine pIf_f (by decide) ?_ | refine if_c (fun hz => ?_) (fun hz => ?_)
  exact fgt_mk (k _ H)
theorem xmul_s {r : Rw} [i : Pick M (.blk p) (rowP p r.enc tot) R] (H : seps M h) (k : ∀ h, seps (rowP p r.mul.enc tot :: R) h → K (.tuple #[]) h) : WpCall Tryz.prog 75 #[.pointer (some ⟨p, 0, none⟩)] KP K h := by
  refine xfer_row_mul_call (some ⟨p, 0, none⟩) ?_
  have H := i.out H
  simp only [xfer_row_mul, xfer_row_mul_j1, lay_eq, zc_eq, add_mk, Nat.zero_add, Nat.add_zero, pSome_some, pJoin_eq]
  repeat' (first | (first | (first | refine ld_c H (by rfl) ?_ | refine ldA_c H ?_ | refine st_c H fun h H => ?_ | refine stA_c H (by rfl) fun h H => ?_ | refine new_c H (by rfl) fun b h H => ?_ | refine keepA_c H ?_ | refine keep_c H (by rfl) ?_ | refine pAssert_i (by first | rfl | decide | exact unonneg) ?_) | refine iter_c ?_ | refine pIf_t (by decide) ?_ | refine pIf_f (by decide) ?_ | refine if_c (fun hz => ?_) (fun hz => ?_)) | refine call_c (xuns_s H fun h H => tup0 ?_) | refine call_c (xsig_s H fun h H => tup0 ?_) | refine pAssert_i (by first | (intro e; exact absurd hz (by rw [BitVec.lt_def]; simp at e ⊢; omega)) | assumption) ?_ | refine call_c (tand_s (one1 ?_)) | refine call_c (tor_s (one1 ?_)) | refine call_c (txor_s (one1 ?_)) | (refine fgt_mk (k _ ?_); try simp only [Rw.mul, *, if_true, if_false, not_true_eq_false, not_false_eq_true, Bool.false_eq_true]; all_goals (try dsimp only at H); all_goals (have H := row_val p H; exact row_sub H)) | fail)
theorem xdiv_s {r : Rw} [i : Pick M (.blk p) (rowP p r.enc tot) R] (H : seps M h) (k : ∀ h, seps (rowP p r.div.enc tot :: R) h → K (.tuple #[]) h) : WpCall Tryz.prog 76 #[.pointer (some ⟨p, 0, none⟩)] KP K h := by
  refine xfer_row_div_call (some ⟨p, 0, none⟩) ?_
  have H := i.out H
  simp only [xfer_row_div, xfer_row_div_j1, lay_eq, zc_eq, add_mk, Nat.zero_add, Nat.add_zero, pSome_some, pJoin_eq]
  repeat' (first | (first | (first | refine ld_c H (by rfl) ?_ | refine ldA_c H ?_ | refine st_c H fun h H => ?_ | refine stA_c H (by rfl) fun h H => ?_ | refine new_c H (by rfl) fun b h H => ?_ | refine keepA_c H ?_ | refine keep_c H (by rfl) ?_ | refine pAssert_i (by first | rfl | decide | exact unonneg) ?_) | refine iter_c ?_ | refine pIf_t (by decide) ?_ | refine pIf_f (by decide) ?_ | refine if_c (fun hz => ?_) (fun hz => ?_)) | refine call_c (xuns_s H fun h H => tup0 ?_) | refine call_c (xsig_s H fun h H => tup0 ?_) | refine pAssert_i (by first | (intro e; exact absurd hz (by rw [BitVec.lt_def]; simp at e ⊢; omega)) | assumption) ?_ | refine call_c (tand_s (one1 ?_)) | refine call_c (tor_s (one1 ?_)) | refine call_c (txor_s (one1 ?_)) | (refine fgt_mk (k _ ?_); try simp only [Rw.div, *, if_true, if_false, not_true_eq_false, not_false_eq_true, Bool.false_eq_true]; all_goals (try dsimp only at H); all_goals (have H := row_val p H; exact row_sub H)) | fail)
theorem xmod_s {r : Rw} [i : Pick M (.blk p) (rowP p r.enc tot) R] (H : seps M h) (k : ∀ h, seps (rowP p r.mod.enc tot :: R) h → K (.tuple #[]) h) : WpCall Tryz.prog 77 #[.pointer (some ⟨p, 0, none⟩)] KP K h := by
  refine xfer_row_mod_call (some ⟨p, 0, none⟩) ?_
  have H := i.out H
  simp only [xfer_row_mod, xfer_row_mod_j1, lay_eq, zc_eq, add_mk, Nat.zero_add, Nat.add_zero, pSome_some, pJoin_eq]
  repeat' (first | (first | (first | refine ld_c H (by rfl) ?_ | refine ldA_c H ?_ | refine st_c H fun h H => ?_ | refine stA_c H (by rfl) fun h H => ?_ | refine new_c H (by rfl) fun b h H => ?_ | refine keepA_c H ?_ | refine keep_c H (by rfl) ?_ | refine pAssert_i (by first | rfl | decide | exact unonneg) ?_) | refine iter_c ?_ | refine pIf_t (by decide) ?_ | refine pIf_f (by decide) ?_ | refine if_c (fun hz => ?_) (fun hz => ?_)) | refine call_c (xuns_s H fun h H => tup0 ?_) | refine call_c (xsig_s H fun h H => tup0 ?_) | refine pAssert_i (by first | (intro e; exact absurd hz (by rw [BitVec.lt_def]; simp at e ⊢; omega)) | assumption) ?_ | refine call_c (tand_s (one1 ?_)) | refine call_c (tor_s (one1 ?_)) | refine call_c (txor_s (one1 ?_)) | (refine fgt_mk (k _ ?_); try simp only [Rw.mod, *, if_true, if_false, not_true_eq_false, not_false_eq_true, Bool.false_eq_true]; all_goals (try dsimp only at H); all_goals (have H := row_val p H; exact row_sub H)) | fail)
theorem xor_s {r : Rw} [i : Pick M (.blk p) (rowP p r.enc tot) R] (H : seps M h) (k : ∀ h, seps (rowP p r.or.enc tot :: R) h → K (.tuple #[]) h) : WpCall Tryz.prog 79 #[.pointer (some ⟨p, 0, none⟩)] KP K h := by
  refine xfer_row_or_call (some ⟨p, 0, none⟩) ?_
  have H := i.out H
  simp only [xfer_row_or, Rw.or, lay_eq, zc_eq, add_mk, Nat.zero_add, Nat.add_zero, pSome_some, pJoin_eq]
  repeat' (first | (first | (first | refine ld_c H (by rfl) ?_ | refine ldA_c H ?_ | refine st_c H fun h H => ?_ | refine stA_c H (by rfl) fun h H => ?_ | refine new_c H (by rfl) fun b h H => ?_ | refine keepA_c H ?_ | refine keep_c H (by rfl) ?_ | refine pAssert_i (by first | rfl | decide | exact unonneg) ?_) | refine iter_c ?_ | refine pIf_t (by decide) ?_ | refine pIf_f (by decide) ?_ | refine if_c (fun hz => ?_) (fun hz => ?_)) | refine call_c (xuns_s H fun h H => tup0 ?_) | refine call_c (xsig_s H fun h H => tup0 ?_) | refine pAssert_i (by first | (intro e; exact absurd hz (by rw [BitVec.lt_def]; simp at e ⊢; omega)) | assumption) ?_ | refine call_c (tand_s (one1 ?_)) | refine call_c (tor_s (one1 ?_)) | refine call_c (txor_s (one1 ?_)) | (refine fgt_mk (k _ ?_); try simp only [Rw.or, *, if_true, if_false, not_true_eq_false, not_false_eq_true, Bool.false_eq_true]; all_goals (try dsimp only at H); all_goals (have H := row_val p H; exact row_sub H)) | fail)
theorem xxor_s {r : Rw} [i : Pick M (.blk p) (rowP p r.enc tot) R] (H : seps M h) (k : ∀ h, seps (rowP p r.xor.enc tot :: R) h → K (.tuple #[]) h) : WpCall Tryz.prog 80 #[.pointer (some ⟨p, 0, none⟩)] KP K h := by
  refine xfer_row_xor_call (some ⟨p, 0, none⟩) ?_
  have H := i.out H
  simp only [xfer_row_xor, Rw.xor, lay_eq, zc_eq, add_mk, Nat.zero_add, Nat.add_zero, pSome_some, pJoin_eq]
  repeat' (first | (first | (first | refine ld_c H (by rfl) ?_ | refine ldA_c H ?_ | refine st_c H fun h H => ?_ | refine stA_c H (by rfl) fun h H => ?_ | refine new_c H (by rfl) fun b h H => ?_ | refine keepA_c H ?_ | refine keep_c H (by rfl) ?_ | refine pAssert_i (by first | rfl | decide | exact unonneg) ?_) | refine iter_c ?_ | refine pIf_t (by decide) ?_ | refine pIf_f (by decide) ?_ | refine if_c (fun hz => ?_) (fun hz => ?_)) | refine call_c (xuns_s H fun h H => tup0 ?_) | refine call_c (xsig_s H fun h H => tup0 ?_) | refine pAssert_i (by first | (intro e; exact absurd hz (by rw [BitVec.lt_def]; simp at e ⊢; omega)) | assumption) ?_ | refine call_c (tand_s (one1 ?_)) | refine call_c (tor_s (one1 ?_)) | refine call_c (txor_s (one1 ?_)) | (refine fgt_mk (k _ ?_); try simp only [Rw.xor, *, if_true, if_false, not_true_eq_false, not_false_eq_true, Bool.false_eq_true]; all_goals (try dsimp only at H); all_goals (have H := row_val p H; exact row_sub H)) | fail)
theorem xand_s {r : Rw} [i : Pick M (.blk p) (rowP p r.enc tot) R] (H : seps M h) (k : ∀ h, seps (rowP p r.and.enc tot :: R) h → K (.tuple #[]) h) : WpCall Tryz.prog 78 #[.pointer (some ⟨p, 0, none⟩)] KP K h := by
  refine xfer_row_and_call (some ⟨p, 0, none⟩) ?_
  have H := i.out H
  simp only [xfer_row_and, Rw.and, lay_eq, zc_eq, add_mk, Nat.zero_add, Nat.add_zero, pSome_some, pJoin_eq]
  repeat' (first | (first | (first | refine ld_c H (by rfl) ?_ | refine ldA_c H ?_ | refine st_c H fun h H => ?_ | refine stA_c H (by rfl) fun h H => ?_ | refine new_c H (by rfl) fun b h H => ?_ | refine keepA_c H ?_ | refine keep_c H (by rfl) ?_ | refine pAssert_i (by first | rfl | decide | exact unonneg) ?_) | refine iter_c ?_ | refine pIf_t (by decide) ?_ | refine pIf_f (by decide) ?_ | refine if_c (fun hz => ?_) (fun hz => ?_)) | refine call_c (xuns_s H fun h H => tup0 ?_) | refine call_c (xsig_s H fun h H => tup0 ?_) | refine pAssert_i (by first | (intro e; exact absurd hz (by rw [BitVec.lt_def]; simp at e ⊢; omega)) | assumption) ?_ | refine call_c (tand_s (one1 ?_)) | refine call_c (tor_s (one1 ?_)) | refine call_c (txor_s (one1 ?_)) | (refine fgt_mk (k _ ?_); try simp only [Rw.and, *, if_true, if_false, not_true_eq_false, not_false_eq_true, Bool.false_eq_true]; all_goals (try dsimp only at H); all_goals (have H := row_val p H; exact row_sub H)) | fail)
theorem xmov_s {r : Rw} [i : Pick M (.blk p) (rowP p r.enc tot) R] (H : seps M h) (k : ∀ h, seps (rowP p r.mov.enc tot :: R) h → K (.tuple #[]) h) : WpCall Tryz.prog 85 #[.pointer (some ⟨p, 0, none⟩)] KP K h := by
  refine xfer_row_mov_call (some ⟨p, 0, none⟩) ?_
  have H := i.out H
  simp only [xfer_row_mov, Rw.mov, lay_eq, zc_eq, add_mk, Nat.zero_add, Nat.add_zero, pSome_some, pJoin_eq]
  repeat' (first | (first | (first | refine ld_c H (by rfl) ?_ | refine ldA_c H ?_ | refine st_c H fun h H => ?_ | refine stA_c H (by rfl) fun h H => ?_ | refine new_c H (by rfl) fun b h H => ?_ | refine keepA_c H ?_ | refine keep_c H (by rfl) ?_ | refine pAssert_i (by first | rfl | decide | exact unonneg) ?_) | refine iter_c ?_ | refine pIf_t (by decide) ?_ | refine pIf_f (by decide) ?_ | refine if_c (fun hz => ?_) (fun hz => ?_)) | refine call_c (xuns_s H fun h H => tup0 ?_) | refine call_c (xsig_s H fun h H => tup0 ?_) | refine pAssert_i (by first | (intro e; exact absurd hz (by rw [BitVec.lt_def]; simp at e ⊢; omega)) | assumption) ?_ | refine call_c (tand_s (one1 ?_)) | refine call_c (tor_s (one1 ?_)) | refine call_c (txor_s (one1 ?_)) | (refine fgt_mk (k _ ?_); try simp only [Rw.mov, *, if_true, if_false, not_true_eq_false, not_false_eq_true, Bool.false_eq_true]; all_goals (try dsimp only at H); all_goals (have H := row_val p H; exact row_sub H)) | fail)
theorem xlsh_s {r : Rw} (ht : r.turns = 64#64 ∨ r.turns = 32#64) [i : Pick M (.blk p) (rowP p r.enc tot) R] (H : seps M h) (k : ∀ h, seps (rowP p r.lsh.enc tot :: R) h → K (.tuple #[]) h) : WpCall Tryz.prog 81 #[.pointer (some ⟨p, 0, none⟩)] KP K h := by
  refine xfer_row_lsh_call (some ⟨p, 0, none⟩) ?_
  have H := i.out H
  have h0 : (r.turns.toNat : Int) ≠ 0 := by rcases ht with e | e <;> rw [e] <;> decide
  simp only [xfer_row_lsh, xfer_row_lsh, lay_eq, zc_eq, add_mk, Nat.zero_add, Nat.add_zero, pSome_some, pJoin_eq]
  repeat' (first | (first | (first | refine ld_c H (by rfl) ?_ | refine ldA_c H ?_ | refine st_c H fun h H => ?_ | refine stA_c H (by rfl) fun h H => ?_ | refine new_c H (by rfl) fun b h H => ?_ | refine keepA_c H ?_ | refine keep_c H (by rfl) ?_ | refine pAssert_i (by first | rfl | decide | exact unonneg) ?_) | refine iter_c ?_ | refine pIf_t (by decide) ?_ | refine pIf_f (by decide) ?_ | refine if_c (fun hz => ?_) (fun hz => ?_)) | (refine pAssert_i h0 ?_) | refine call_c (xuns_s H fun h H => tup0 ?_) | refine call_c (xsig_s H fun h H => tup0 ?_) | refine call_c (tlsh_s (one1 ?_)) | refine call_c (trsh_s (one1 ?_)) | refine call_c (tarsh_s (one1 ?_)) | (refine fgt_mk (k _ ?_); try simp only [Rw.lsh, *, if_true, if_false, not_true_eq_false, not_false_eq_true, Bool.false_eq_true]; all_goals (try dsimp only at H); all_goals (have H := row_val p H; exact row_sub H)) | fail)
theorem xrsh_s {r : Rw} (ht : r.turns = 64#64 ∨ r.turns = 32#64) [i : Pick M (.blk p) (rowP p r.enc tot) R] (H : seps M h) (k : ∀ h, seps (rowP p r.rsh.enc tot :: R) h → K (.tuple #[]) h) : WpCall Tryz.prog 82 #[.pointer (some ⟨p, 0, none⟩)] KP K h := by
  refine xfer_row_rsh_call (some ⟨p, 0, none⟩) ?_
  have H := i.out H
  have h0 : (r.turns.toNat : Int) ≠ 0 := by rcases ht with e | e <;> rw [e] <;> decide
  simp only [xfer_row_rsh, xfer_row_rsh, lay_eq, zc_eq, add_mk, Nat.zero_add, Nat.add_zero, pSome_some, pJoin_eq]
  repeat' (first | (first | (first | refine ld_c H (by rfl) ?_ | refine ldA_c H ?_ | refine st_c H fun h H => ?_ | refine stA_c H (by rfl) fun h H => ?_ | refine new_c H (by rfl) fun b h H => ?_ | refine keepA_c H ?_ | refine keep_c H (by rfl) ?_ | refine pAssert_i (by first | rfl | decide | exact unonneg) ?_) | refine iter_c ?_ | refine pIf_t (by decide) ?_ | refine pIf_f (by decide) ?_ | refine if_c (fun hz => ?_) (fun hz => ?_)) | (refine pAssert_i h0 ?_) | refine call_c (xuns_s H fun h H => tup0 ?_) | refine call_c (xsig_s H fun h H => tup0 ?_) | refine call_c (tlsh_s (one1 ?_)) | refine call_c (trsh_s (one1 ?_)) | refine call_c (tarsh_s (one1 ?_)) | (refine fgt_mk (k _ ?_); try simp only [Rw.rsh, *, if_true, if_false, not_true_eq_false, not_false_eq_true, Bool.false_eq_true]; all_goals (try dsimp only at H); all_goals (have H := row_val p H; exact row_sub H)) | fail)
theorem xarsh_s {r : Rw} (ht : r.turns = 64#64 ∨ r.turns = 32#64) [i : Pick M (.blk p) (rowP p r.enc tot) R] (H : seps M h) (k : ∀ h, seps (rowP p r.arsh.enc tot :: R) h → K (.tuple #[]) h) : WpCall Tryz.prog 83 #[.pointer (some ⟨p, 0, none⟩)] KP K h := by
  refine xfer_row_arsh_call (some ⟨p, 0, none⟩) ?_
  have H := i.out H
  have h0 : (r.turns.toNat : Int) ≠ 0 := by rcases ht with e | e <;> rw [e] <;> decide
  simp only [xfer_row_arsh, lay_eq, zc_eq, add_mk, Nat.zero_add, Nat.add_zero, pSome_some, pJoin_eq]
  repeat' (first | (first | (first | refine ld_c H (by rfl) ?_ | refine ldA_c H ?_ | refine st_c H fun h H => ?_ | refine stA_c H (by rfl) fun h H => ?_ | refine new_c H (by rfl) fun b h H => ?_ | refine keepA_c H ?_ | refine keep_c H (by rfl) ?_ | refine pAssert_i (by first | rfl | decide | exact unonneg) ?_) | refine iter_c ?_ | refine pIf_t (by decide) ?_ | refine pIf_f (by decide) ?_ | refine if_c (fun hz => ?_) (fun hz => ?_)) | (refine pAssert_i h0 ?_) | refine call_c (xuns_s H fun h H => tup0 ?_) | refine call_c (xsig_s H fun h H => tup0 ?_) | refine call_c (tarsh_s (one1 ?_)) | fail)
  all_goals refine fgt_mk (k _ ?_)
  all_goals unfold Rw.arsh
  · rw [if_neg hz]; exact H
  · rw [if_pos (by assumption), if_pos (by assumption)]; have H := row_val p H; exact row_sub H
  · rw [if_pos (by assumption), if_neg hz]; have H := row_val p H; exact row_sub H
theorem xadd_s {r : Rw} [i : Pick M (.blk p) (rowP p r.enc tot) R] (H : seps M h) (k : ∀ h, seps (rowP p r.add.enc tot :: R) h → K (.tuple #[]) h) : WpCall Tryz.prog 73 #[.pointer (some ⟨p, 0, none⟩)] KP K h := by
  refine xfer_row_add_call (some ⟨p, 0, none⟩) ?_
  have H := i.out H
  simp only [xfer_row_add, xfer_row_add_j1, xfer_row_add_j2, lay_eq, zc_eq, add_mk, Nat.zero_add, Nat.add_zero, pSome_some, pJoin_eq]
  repeat' (first | (first | (first | refine ld_c H (by rfl) ?_ | refine ldA_c H ?_ | refine st_c H fun h H => ?_ | refine stA_c H (by rfl) fun h H => ?_ | refine new_c H (by rfl) fun b h H => ?_ | refine keepA_c H ?_ | refine keep_c H (by rfl) ?_ | refine pAssert_i (by first | rfl | decide | exact unonneg) ?_) | refine iter_c ?_ | refine pIf_t (by decide) ?_ | refine pIf_f (by decide) ?_ | refine if_c (fun hz => ?_) (fun hz => ?_)) | refine call_c (xuns_s H fun h H => tup0 ?_) | refine call_c (xsig_s H fun h H => tup0 ?_) | refine call_c (tadd_s (one1 ?_)) | (refine call_c (sum_s (tup2 ?_)); try dsimp only) | fail)
  all_goals (refine fgt_mk (k _ ?_); try simp only [Rw.add, Rw.u1, Rw.u2, Rw.s1, Rw.s2, Rw.bits, Rw.uns, Rw.sig, *, if_true, if_false, not_true_eq_false, not_false_eq_true, Bool.false_eq_true]; all_goals (try dsimp only at H); all_goals (have H := row_val p H; exact row_sub H))
theorem xsub_s {r : Rw} [i : Pick M (.blk p) (rowP p r.enc tot) R] (H : seps M h) (k : ∀ h, seps (rowP p r.sub.enc tot :: R) h → K (.tuple #[]) h) : WpCall Tryz.prog 74 #[.pointer (some ⟨p, 0, none⟩)] KP K h := by
  refine xfer_row_sub_call (some ⟨p, 0, none⟩) ?_
  have H := i.out H
  simp only [xfer_row_sub, xfer_row_sub_j1, xfer_row_sub_j2, lay_eq, zc_eq, add_mk, Nat.zero_add, Nat.add_zero, pSome_some, pJoin_eq]
  repeat' (first | (first | (first | refine ld_c H (by rfl) ?_ | refine ldA_c H ?_ | refine st_c H fun h H => ?_ | refine stA_c H (by rfl) fun h H => ?_ | refine new_c H (by rfl) fun b h H => ?_ | refine keepA_c H ?_ | refine keep_c H (by rfl) ?_ | refine pAssert_i (by first | rfl | decide | exact unonneg) ?_) | refine iter_c ?_ | refine pIf_t (by decide) ?_ | refine pIf_f (by decide) ?_ | refine if_c (fun hz => ?_) (fun hz => ?_)) | refine call_c (xuns_s H fun h H => tup0 ?_) | refine call_c (xsig_s H fun h H => tup0 ?_) | refine call_c (tsub_s (one1 ?_)) | (refine call_c (less_s (tup2 ?_)); try dsimp only) | fail)
  all_goals (refine fgt_mk (k _ ?_); try simp only [Rw.sub, Rw.u1, Rw.u2, Rw.s1, Rw.s2, Rw.bits, Rw.uns, Rw.sig, *, if_true, if_false, not_true_eq_false, not_false_eq_true, Bool.false_eq_true]; all_goals (try dsimp only at H); all_goals (have H := row_val p H; exact row_sub H))
theorem xneg_s {r : Rw} [i : Pick M (.blk p) (rowP p r.enc tot) R] (H : seps M h) (k : ∀ h, seps (rowP p r.neg.enc tot :: R) h → K (.tuple #[]) h) : WpCall Tryz.prog 84 #[.pointer (some ⟨p, 0, none⟩)] KP K h := by
  refine xfer_row_neg_call (some ⟨p, 0, none⟩) ?_
  have H := i.out H
  simp only [xfer_row_neg, lay_eq, zc_eq, add_mk, Nat.zero_add, Nat.add_zero, pSome_some, pJoin_eq]
  repeat' (first | (first | (first | refine ld_c H (by rfl) ?_ | refine ldA_c H ?_ | refine st_c H fun h H => ?_ | refine stA_c H (by rfl) fun h H => ?_ | refine new_c H (by rfl) fun b h H => ?_ | refine keepA_c H ?_ | refine keep_c H (by rfl) ?_ | refine pAssert_i (by first | rfl | decide | exact unonneg) ?_) | refine iter_c ?_ | refine pIf_t (by decide) ?_ | refine pIf_f (by decide) ?_ | refine if_c (fun hz => ?_) (fun hz => ?_)) | refine call_c (con_s (one1 ?_)) | fail)
  have H : seps (rowP p (Rw.enc { r with a := .con 0#64, b := r.a }) tot :: R) _ := H
  refine call_c (xsub_s H fun h H => tup0 ?_)
  exact fgt_mk (k _ H)
abbrev rowsE : List (Value × Value) := [(.int .u8 0, fnV 73), (.int .u8 16, fnV 74), (.int .u8 32, fnV 75), (.int .u8 48, fnV 76), (.int .u8 144, fnV 77), (.int .u8 80, fnV 78), (.int .u8 64, fnV 79), (.int .u8 160, fnV 80), (.int .u8 96, fnV 81), (.int .u8 112, fnV 82), (.int .u8 192, fnV 83), (.int .u8 128, fnV 84), (.int .u8 176, fnV 85)]
theorem rows_s (H : seps M h) (k : ∀ p h, seps (mapP p rowsE :: M) h → K (.map (some p)) h) : WpCall Tryz.prog 44 #[] KP K h := by
  refine xfer_rows_call ?_
  unfold xfer_rows
  refine newM_c H fun p h H => ?_
  repeat' (refine put_c H (by kernel_rfl) fun h H => ?_)
  exact fgt_mk (k p h H)
end
/-- An operation's row; nothing: there is none. -/
def rowF (op : Int) (r : Rw) : Option Rw :=
  if op = 0 then some r.add else if op = 16 then some r.sub else if op = 32 then some r.mul else if op = 48 then some r.div else if op = 144 then some r.mod else if op = 80 then some r.and
  else if op = 64 then some r.or else if op = 160 then some r.xor else if op = 96 then some r.lsh else if op = 112 then some r.rsh else if op = 192 then some r.arsh else if op = 128 then some r.neg else if op = 176 then some r.mov else none
def xferO (op : Int) (wide : Bool) (a b : Nm) : Option Nm :=
  match rowF op (if wide = true then ⟨a, b, if b.bits.m = 0#64 then b.bits.v else 0#64, decide (b.bits.m = 0#64), 64#64, .all⟩
      else ⟨a.cut 4, b.cut 4, if (b.cut 4).bits.m = 0#64 then (b.cut 4).bits.v else 0#64, decide ((b.cut 4).bits.m = 0#64), 32#64, .all⟩) with
  | none => none
  | some r =>
    if a.bits.m = 0#64 ∧ b.bits.m = 0#64 then some (.con ((aluO op wide a.bits.v b.bits.v).getD 0#64))
    else some (if wide = true then r.n.refine.1 else r.n.refine.1.cut 4)
end Go.Proofs.YtpbhanglcophbaaGreat

set_option linter.unusedVariables false
set_option linter.unusedSimpArgs false
namespace Go.Proofs.YtpbhanglcophbaaGreat
open Go.Hl
attribute [local irreducible] loadF zc sizeP bytesP vcBody pInvoke pIf pAssert pNew pLd pLdA pSt pStA pSome pIdx pPart pCall pCallV pAppend pExtend pGet pGetS pPut pNewObj pJoin pLoop pKeep fgt iter
section
variable {KP K : Value → Pr} {h : Heap} {x y z u lo hi op : Int} {v m w n c d : B64} {M R : List Pr} {k : Nat} {tot p : Nat} {a b : Nm}
/-- The row under way. -/
def rowOf (wide : Bool) (a b : Nm) : Rw := if wide = true then ⟨a, b, if b.bits.m = 0#64 then b.bits.v else 0#64, decide (b.bits.m = 0#64), 64#64, .all⟩
      else ⟨a.cut 4, b.cut 4, if (b.cut 4).bits.m = 0#64 then (b.cut 4).bits.v else 0#64, decide ((b.cut 4).bits.m = 0#64), 32#64, .all⟩
def Meth (g : Nat) (F : Rw → Rw) : Prop := ∀ (r : Rw) (R : List Pr) (p tot : Nat) (h : Heap) (KP K : Value → Pr), (r.turns = 64#64 ∨ r.turns = 32#64) → seps (rowP p r.enc tot :: R) h → (∀ h, seps (rowP p (F r).enc tot :: R) h → K (.tuple #[]) h) → WpCall Tryz.prog g #[.pointer (some ⟨p, 0, none⟩)] KP K h
theorem do_tail {wide : Bool} {g : Nat} {F : Rw → Rw} (hg : Meth g F) {b1 b2 b3 : Nat} {h0 : Heap} (H : seps (rowP b1 a.enc 6 :: rowP b2 b.enc 6 :: rowP b3 [.int .u64 0, .int .u64 0, .int .u64 0, .int .u64 0, .int .i64 0, .int .i64 0] 6 :: M) h) [w : Was M h0]
    (k : K (.tuple #[.agg (if a.bits.m = 0#64 ∧ b.bits.m = 0#64 then Nm.con ((aluO op wide a.bits.v b.bits.v).getD 0#64) else (if wide = true then (F (rowOf wide a b)).n.refine.1 else (F (rowOf wide a b)).n.refine.1.cut 4)).enc.toArray, .bool true]) h0) {x14 : Bool} (hx : x14 = decide (a.bits.m = 0#64 ∧ b.bits.m = 0#64)) :
    xfer_Do_j3 op wide (fgt KP) (fgt K) b1 b2 b3 (fnV g) (((if a.bits.m = 0#64 then a.bits.v else 0#64).toNat : Int), decide (a.bits.m = 0#64), ()) (((if b.bits.m = 0#64 then b.bits.v else 0#64).toNat : Int), decide (b.bits.m = 0#64), ()) x14 h := by
  subst hx
  unfold xfer_Do_j3
  refine if_c (fun hz => ?_) (fun hz => ?_)
  · rw [if_pos hz] at k
    dsimp only
    rw [if_pos hz.1, if_pos hz.2]
    repeat' (first | (first | refine ld_c H (by rfl) ?_ | refine ldA_c H ?_ | refine st_c H fun h H => ?_ | refine stA_c H (by rfl) fun h H => ?_ | refine new_c H (by rfl) fun b h H => ?_ | refine keepA_c H ?_ | refine keep_c H (by rfl) ?_ | refine pAssert_i (by first | rfl | decide | exact unonneg) ?_) | (refine call_c (alu_s (tup2 ?_)); try dsimp only) | refine call_c (con_s (one1 ?_)) | fail)
    refine fin H ?_; exact k
  rw [if_neg hz] at k
  repeat' (first | refine ldA_c H ?_ | refine keepA_c H ?_ | refine pAssert_i (by rfl) ?_ | refine call_c (all_s (one1 ?_)) | fail)
  simp only [zc_eq, lay_eq, pSome_some, add_mk, Nat.zero_add, Nat.add_zero]
  refine new_c H rfl fun b21 h H => ?_
  have go : ∀ h, seps (rowP b21 (rowOf wide a b).enc 21 :: rowP b3 [.int .u64 0, .int .u64 0, .int .u64 0, .int .u64 0, .int .i64 0, .int .i64 0] 6 :: M) h → xfer_Do_j2 wide (fgt KP) (fgt K) b3 (fnV g) b21 h := by
    intro h H
    unfold xfer_Do_j2
    simp only [zc_eq, lay_eq, pSome_some, add_mk, Nat.zero_add, Nat.add_zero]
    refine callV0_c (hg _ _ _ _ _ _ _ (by unfold rowOf; split <;> simp) H fun h H => tup0 ?_)
    generalize F (rowOf wide a b) = r at H k
    repeat' (first | (first | refine ld_c H (by rfl) ?_ | refine ldA_c H ?_ | refine st_c H fun h H => ?_ | refine stA_c H (by rfl) fun h H => ?_ | refine new_c H (by rfl) fun b h H => ?_ | refine keepA_c H ?_ | refine keep_c H (by rfl) ?_ | refine pAssert_i (by first | rfl | decide | exact unonneg) ?_) | (refine call_c (refine_s (tup2 ?_)); try dsimp only) | fail)
    refine join_c ?_
    unfold xfer_Do_j1
    refine if_c (fun hz => ?_) (fun hz => ?_)
    · rw [if_neg hz] at k
      try dsimp only
      repeat' (first | (first | refine ld_c H (by rfl) ?_ | refine ldA_c H ?_ | refine st_c H fun h H => ?_ | refine stA_c H (by rfl) fun h H => ?_ | refine new_c H (by rfl) fun b h H => ?_ | refine keepA_c H ?_ | refine keep_c H (by rfl) ?_ | refine pAssert_i (by first | rfl | decide | exact unonneg) ?_) | refine call_c (ncut_s (one1 ?_)) | fail)
      refine fin H ?_
      exact k
    · rw [if_pos hz] at k
      try dsimp only
      repeat' (first | (first | refine ld_c H (by rfl) ?_ | refine ldA_c H ?_ | refine st_c H fun h H => ?_ | refine stA_c H (by rfl) fun h H => ?_ | refine new_c H (by rfl) fun b h H => ?_ | refine keepA_c H ?_ | refine keep_c H (by rfl) ?_ | refine pAssert_i (by first | rfl | decide | exact unonneg) ?_) | fail)
      refine fin H ?_
      exact k
  refine join_c ?_
  refine if_c (fun hz => ?_) (fun hz => ?_)
  · unfold rowOf at go
    rw [if_neg hz] at go
    repeat' (first | (first | refine ld_c H (by rfl) ?_ | refine ldA_c H ?_ | refine st_c H fun h H => ?_ | refine stA_c H (by rfl) fun h H => ?_ | refine new_c H (by rfl) fun b h H => ?_ | refine keepA_c H ?_ | refine keep_c H (by rfl) ?_ | refine pAssert_i (by first | rfl | decide | exact unonneg) ?_) | refine call_c (ncut_s (one1 ?_)) | (refine call_c (isConst_s (tup2 ?_)); try dsimp only) | fail)
    refine go _ ?_
    have H := row_val b21 H
    exact row_sub H
  · unfold rowOf at go
    rw [if_pos hz] at go
    refine go _ ?_
    have H := row_val b21 H
    exact row_sub H
theorem dec_and {p q : Prop} [Decidable p] [Decidable q] (h : p) : decide q = decide (p ∧ q) := by simp [h]
theorem dec_no {p q : Prop} [Decidable p] [Decidable q] (h : ¬ p) : false = decide (p ∧ q) := by simp [h]
theorem m_add : Meth 73 Rw.add := fun r R p tot h KP K ht H k => xadd_s H k
theorem m_sub : Meth 74 Rw.sub := fun r R p tot h KP K ht H k => xsub_s H k
theorem m_mul : Meth 75 Rw.mul := fun r R p tot h KP K ht H k => xmul_s H k
theorem m_div : Meth 76 Rw.div := fun r R p tot h KP K ht H k => xdiv_s H k
theorem m_mod : Meth 77 Rw.mod := fun r R p tot h KP K ht H k => xmod_s H k
theorem m_and : Meth 78 Rw.and := fun r R p tot h KP K ht H k => xand_s H k
theorem m_or : Meth 79 Rw.or := fun r R p tot h KP K ht H k => xor_s H k
theorem m_xor : Meth 80 Rw.xor := fun r R p tot h KP K ht H k => xxor_s H k
theorem m_neg : Meth 84 Rw.neg := fun r R p tot h KP K ht H k => xneg_s H k
theorem m_mov : Meth 85 Rw.mov := fun r R p tot h KP K ht H k => xmov_s H k
theorem m_lsh : Meth 81 Rw.lsh := fun r R p tot h KP K ht H k => xlsh_s ht H k
theorem m_rsh : Meth 82 Rw.rsh := fun r R p tot h KP K ht H k => xrsh_s ht H k
theorem m_arsh : Meth 83 Rw.arsh := fun r R p tot h KP K ht H k => xarsh_s ht H k
theorem xfer_s {wide : Bool} {la lb : List Value} [i : NmIs la a] [j : NmIs lb b] (k : K (.tuple #[.agg ((xferO op wide a b).getD .all).enc.toArray, .bool (xferO op wide a b).isSome]) h) : WpCall Tryz.prog 25 #[.int .u8 op, .bool wide, .agg la.toArray, .agg lb.toArray] KP K h := by
  rw [i.eq, j.eq]
  refine xfer_Do_call op wide a.enc b.enc ?_
  have H := hstart h
  unfold xfer_Do
  simp only [zc_eq]
  refine new_c (n := 6) H rfl fun b1 h1 H => new_c (n := 6) H rfl fun b2 h2 H => new_c (n := 6) H rfl fun b3 h3 H => ?_
  refine call_c (rows_s H fun p h4 H => one1 ?_)
  refine getS_c H rfl ?_
  simp only [GetAll]
  repeat' (first | (refine ⟨fun e => ⟨_, rfl, ?_⟩, fun e => ?_⟩) | (refine ⟨_, rfl, ?_⟩) | fail)
  all_goals (try subst op)
  all_goals have H : seps (rowP b1 a.enc 6 :: rowP b2 b.enc 6 :: rowP b3 [.int .u64 0, .int .u64 0, .int .u64 0, .int .u64 0, .int .i64 0, .int .i64 0] 6 :: [was h]) h4 := sub H
  · refine pIf_f rfl (ldA_c H ?_)
    (refine call_c (isConst_s (tup2 ?_)); try dsimp only)
    refine ldA_c H ?_
    (refine call_c (isConst_s (tup2 ?_)); try dsimp only)
    refine join_c (if_c (fun hz => ?_) (fun hz => ?_))
    · refine do_tail m_add H ?_ (dec_and (by simpa using hz))
      unfold xferO rowF rowOf at *
      simp only [Int.reduceEq, if_true, if_false] at k
      split at k <;> simp_all
    · refine do_tail m_add H ?_ (dec_no (by simpa using hz))
      unfold xferO rowF rowOf at *
      simp only [Int.reduceEq, if_true, if_false] at k
      split at k <;> simp_all
  · refine pIf_f rfl (ldA_c H ?_)
    (refine call_c (isConst_s (tup2 ?_)); try dsimp only)
    refine ldA_c H ?_
    (refine call_c (isConst_s (tup2 ?_)); try dsimp only)
    refine join_c (if_c (fun hz => ?_) (fun hz => ?_))
    · refine do_tail m_sub H ?_ (dec_and (by simpa using hz))
      unfold xferO rowF rowOf at *
      simp only [Int.reduceEq, if_true, if_false] at k
      split at k <;> simp_all
    · refine do_tail m_sub H ?_ (dec_no (by simpa using hz))
      unfold xferO rowF rowOf at *
      simp only [Int.reduceEq, if_true, if_false] at k
      split at k <;> simp_all
  · refine pIf_f rfl (ldA_c H ?_)
    (refine call_c (isConst_s (tup2 ?_)); try dsimp only)
    refine ldA_c H ?_
    (refine call_c (isConst_s (tup2 ?_)); try dsimp only)
    refine join_c (if_c (fun hz => ?_) (fun hz => ?_))
    · refine do_tail m_mul H ?_ (dec_and (by simpa using hz))
      unfold xferO rowF rowOf at *
      simp only [Int.reduceEq, if_true, if_false] at k
      split at k <;> simp_all
    · refine do_tail m_mul H ?_ (dec_no (by simpa using hz))
      unfold xferO rowF rowOf at *
      simp only [Int.reduceEq, if_true, if_false] at k
      split at k <;> simp_all
  · refine pIf_f rfl (ldA_c H ?_)
    (refine call_c (isConst_s (tup2 ?_)); try dsimp only)
    refine ldA_c H ?_
    (refine call_c (isConst_s (tup2 ?_)); try dsimp only)
    refine join_c (if_c (fun hz => ?_) (fun hz => ?_))
    · refine do_tail m_div H ?_ (dec_and (by simpa using hz))
      unfold xferO rowF rowOf at *
      simp only [Int.reduceEq, if_true, if_false] at k
      split at k <;> simp_all
    · refine do_tail m_div H ?_ (dec_no (by simpa using hz))
      unfold xferO rowF rowOf at *
      simp only [Int.reduceEq, if_true, if_false] at k
      split at k <;> simp_all
  · refine pIf_f rfl (ldA_c H ?_)
    (refine call_c (isConst_s (tup2 ?_)); try dsimp only)
    refine ldA_c H ?_
    (refine call_c (isConst_s (tup2 ?_)); try dsimp only)
    refine join_c (if_c (fun hz => ?_) (fun hz => ?_))
    · refine do_tail m_mod H ?_ (dec_and (by simpa using hz))
      unfold xferO rowF rowOf at *
      simp only [Int.reduceEq, if_true, if_false] at k
      split at k <;> simp_all
    · refine do_tail m_mod H ?_ (dec_no (by simpa using hz))
      unfold xferO rowF rowOf at *
      simp only [Int.reduceEq, if_true, if_false] at k
      split at k <;> simp_all
  · refine pIf_f rfl (ldA_c H ?_)
    (refine call_c (isConst_s (tup2 ?_)); try dsimp only)
    refine ldA_c H ?_
    (refine call_c (isConst_s (tup2 ?_)); try dsimp only)
    refine join_c (if_c (fun hz => ?_) (fun hz => ?_))
    · refine do_tail m_and H ?_ (dec_and (by simpa using hz))
      unfold xferO rowF rowOf at *
      simp only [Int.reduceEq, if_true, if_false] at k
      split at k <;> simp_all
    · refine do_tail m_and H ?_ (dec_no (by simpa using hz))
      unfold xferO rowF rowOf at *
      simp only [Int.reduceEq, if_true, if_false] at k
      split at k <;> simp_all
  · refine pIf_f rfl (ldA_c H ?_)
    (refine call_c (isConst_s (tup2 ?_)); try dsimp only)
    refine ldA_c H ?_
    (refine call_c (isConst_s (tup2 ?_)); try dsimp only)
    refine join_c (if_c (fun hz => ?_) (fun hz => ?_))
    · refine do_tail m_or H ?_ (dec_and (by simpa using hz))
      unfold xferO rowF rowOf at *
      simp only [Int.reduceEq, if_true, if_false] at k
      split at k <;> simp_all
    · refine do_tail m_or H ?_ (dec_no (by simpa using hz))
      unfold xferO rowF rowOf at *
      simp only [Int.reduceEq, if_true, if_false] at k
      split at k <;> simp_all
  · refine pIf_f rfl (ldA_c H ?_)
    (refine call_c (isConst_s (tup2 ?_)); try dsimp only)
    refine ldA_c H ?_
    (refine call_c (isConst_s (tup2 ?_)); try dsimp only)
    refine join_c (if_c (fun hz => ?_) (fun hz => ?_))
    · refine do_tail m_xor H ?_ (dec_and (by simpa using hz))
      unfold xferO rowF rowOf at *
      simp only [Int.reduceEq, if_true, if_false] at k
      split at k <;> simp_all
    · refine do_tail m_xor H ?_ (dec_no (by simpa using hz))
      unfold xferO rowF rowOf at *
      simp only [Int.reduceEq, if_true, if_false] at k
      split at k <;> simp_all
  · refine pIf_f rfl (ldA_c H ?_)
    (refine call_c (isConst_s (tup2 ?_)); try dsimp only)
    refine ldA_c H ?_
    (refine call_c (isConst_s (tup2 ?_)); try dsimp only)
    refine join_c (if_c (fun hz => ?_) (fun hz => ?_))
    · refine do_tail m_lsh H ?_ (dec_and (by simpa using hz))
      unfold xferO rowF rowOf at *
      simp only [Int.reduceEq, if_true, if_false] at k
      split at k <;> simp_all
    · refine do_tail m_lsh H ?_ (dec_no (by simpa using hz))
      unfold xferO rowF rowOf at *
      simp only [Int.reduceEq, if_true, if_false] at k
      split at k <;> simp_all
  · refine pIf_f rfl (ldA_c H ?_)
    (refine call_c (isConst_s (tup2 ?_)); try dsimp only)
    refine ldA_c H ?_
    (refine call_c (isConst_s (tup2 ?_)); try dsimp only)
    refine join_c (if_c (fun hz => ?_) (fun hz => ?_))
    · refine do_tail m_rsh H ?_ (dec_and (by simpa using hz))
      unfold xferO rowF rowOf at *
      simp only [Int.reduceEq, if_true, if_false] at k
      split at k <;> simp_all
    · refine do_tail m_rsh H ?_ (dec_no (by simpa using hz))
      unfold xferO rowF rowOf at *
      simp only [Int.reduceEq, if_true, if_false] at k
      split at k <;> simp_all
  · refine pIf_f rfl (ldA_c H ?_)
    (refine call_c (isConst_s (tup2 ?_)); try dsimp only)
    refine ldA_c H ?_
    (refine call_c (isConst_s (tup2 ?_)); try dsimp only)
    refine join_c (if_c (fun hz => ?_) (fun hz => ?_))
    · refine do_tail m_arsh H ?_ (dec_and (by simpa using hz))
      unfold xferO rowF rowOf at *
      simp only [Int.reduceEq, if_true, if_false] at k
      split at k <;> simp_all
    · refine do_tail m_arsh H ?_ (dec_no (by simpa using hz))
      unfold xferO rowF rowOf at *
      simp only [Int.reduceEq, if_true, if_false] at k
      split at k <;> simp_all
  · refine pIf_f rfl (ldA_c H ?_)
    (refine call_c (isConst_s (tup2 ?_)); try dsimp only)
    refine ldA_c H ?_
    (refine call_c (isConst_s (tup2 ?_)); try dsimp only)
    refine join_c (if_c (fun hz => ?_) (fun hz => ?_))
    · refine do_tail m_neg H ?_ (dec_and (by simpa using hz))
      unfold xferO rowF rowOf at *
      simp only [Int.reduceEq, if_true, if_false] at k
      split at k <;> simp_all
    · refine do_tail m_neg H ?_ (dec_no (by simpa using hz))
      unfold xferO rowF rowOf at *
      simp only [Int.reduceEq, if_true, if_false] at k
      split at k <;> simp_all
  · refine pIf_f rfl (ldA_c H ?_)
    (refine call_c (isConst_s (tup2 ?_)); try dsimp only)
    refine ldA_c H ?_
    (refine call_c (isConst_s (tup2 ?_)); try dsimp only)
    refine join_c (if_c (fun hz => ?_) (fun hz => ?_))
    · refine do_tail m_mov H ?_ (dec_and (by simpa using hz))
      unfold xferO rowF rowOf at *
      simp only [Int.reduceEq, if_true, if_false] at k
      split at k <;> simp_all
    · refine do_tail m_mov H ?_ (dec_no (by simpa using hz))
      unfold xferO rowF rowOf at *
      simp only [Int.reduceEq, if_true, if_false] at k
      split at k <;> simp_all
  · refine pIf_t rfl ?_
    repeat' (first | (first | refine ld_c H (by rfl) ?_ | refine ldA_c H ?_ | refine st_c H fun h H => ?_ | refine stA_c H (by rfl) fun h H => ?_ | refine new_c H (by rfl) fun b h H => ?_ | refine keepA_c H ?_ | refine keep_c H (by rfl) ?_ | refine pAssert_i (by first | rfl | decide | exact unonneg) ?_) | refine call_c (all_s (one1 ?_)) | fail)
    refine fin H ?_
    unfold xferO rowF at k
    simp only [*, if_false] at k
    exact k
end
end Go.Proofs.YtpbhanglcophbaaGreat

set_option linter.unusedVariables false
set_option linter.unusedSimpArgs false
namespace Go.Proofs.YtpbhanglcophbaaGreat
open Go.Hl
attribute [local irreducible] loadF zc sizeP bytesP vcBody pInvoke pIf pAssert pNew pLd pLdA pSt pStA pSome pIdx pPart pCall pCallV pAppend pExtend pGet pGetS pPut pNewObj pJoin pLoop pKeep fgt iter pFits
structure Pa where
  a : Nm
  b : Nm
  none : Bool
abbrev Pa.enc (r : Pa) : List Value :=
  [.int .u64 r.a.bits.v.toNat, .int .u64 r.a.bits.m.toNat, .int .u64 r.a.ulo.toNat, .int .u64 r.a.uhi.toNat, .int .i64 r.a.slo.toInt, .int .i64 r.a.shi.toInt,
   .int .u64 r.b.bits.v.toNat, .int .u64 r.b.bits.m.toNat, .int .u64 r.b.ulo.toNat, .int .u64 r.b.uhi.toNat, .int .i64 r.b.slo.toInt, .int .i64 r.b.shi.toInt, .bool r.none]
def Pa.same (p : Pa) : Pa := ⟨(p.a.meet p.b).1, (p.a.meet p.b).1, !(p.a.meet p.b).2⟩
def woF (x : Nm) (c : B64) : Nm × Bool :=
  if x.ulo = c ∧ x.uhi = c then (x, false) else
    (⟨x.bits, if x.ulo = c ∧ c < 18446744073709551615#64 then x.ulo + 1#64 else x.ulo, if x.uhi = c ∧ 0#64 < c then x.uhi - 1#64 else x.uhi,
      if x.slo = c ∧ c.toInt < (9223372036854775807#64).toInt then x.slo + 1#64 else x.slo, if x.shi = c ∧ (BitVec.ofInt 64 (-9223372036854775808)).toInt < c.toInt then x.shi - 1#64 else x.shi⟩, true)
def Pa.unlike (p : Pa) : Pa :=
  let x := if p.b.bits.m = 0#64 then woF p.a p.b.bits.v else (p.a, true)
  let y := if p.a.bits.m = 0#64 then woF p.b p.a.bits.v else (p.b, true)
  ⟨x.1, y.1, if x.2 = true then !y.2 else true⟩
def Pa.above (p : Pa) : Pa :=
  if p.b.ulo = 18446744073709551615#64 then { p with none := true } else if p.a.uhi = 0#64 then { p with none := true } else
    { p with a := { p.a with ulo := maxU p.a.ulo (p.b.ulo + 1#64) }, b := { p.b with uhi := minU p.b.uhi (p.a.uhi - 1#64) } }
def Pa.notBelow (p : Pa) : Pa := { p with a := { p.a with ulo := maxU p.a.ulo p.b.ulo }, b := { p.b with uhi := minU p.b.uhi p.a.uhi } }
def Pa.aboveSigned (p : Pa) : Pa :=
  if p.b.slo = 9223372036854775807#64 then { p with none := true } else if p.a.shi = BitVec.ofInt 64 (-9223372036854775808) then { p with none := true } else
    { p with a := { p.a with slo := maxS p.a.slo (p.b.slo + 1#64) }, b := { p.b with shi := minS p.b.shi (p.a.shi - 1#64) } }
def Pa.notBelowSigned (p : Pa) : Pa := { p with a := { p.a with slo := maxS p.a.slo p.b.slo }, b := { p.b with shi := minS p.b.shi p.a.shi } }
def Pa.meet (p : Pa) (t : Tn) : Pa := { p with a := { p.a with bits := (p.a.bits.meet t).1 }, none := !(p.a.bits.meet t).2 }
def Pa.apart (p : Pa) : Pa := if p.b.bits.m = 0#64 then p.meet ⟨0#64, ~~~p.b.bits.v⟩ else p
def Pa.turned (F : Pa → Pa) (p : Pa) : Pa := let q := F { p with a := p.b, b := p.a }; { q with a := q.b, b := q.a }
section
variable {KP K : Value → Pr} {h : Heap} {x y z u lo hi op : Int} {v m w n a b c d : B64} {M R : List Pr} {k : Nat} {tot p : Nat} {l l2 : List Value}
theorem pnotBelow_s {r : Pa} [i : Pick M (.blk p) (rowP p r.enc tot) R] (H : seps M h) (k : ∀ h, seps (rowP p r.notBelow.enc tot :: R) h → K (.tuple #[]) h) : WpCall Tryz.prog 103 #[.pointer (some ⟨p, 0, none⟩)] KP K h := by
  refine narrow_pair_notBelow_call (some ⟨p, 0, none⟩) ?_
  have H := i.out H
  simp only [narrow_pair_notBelow, narrow_pair_notBelow, lay_eq, zc_eq, add_mk, Nat.zero_add, Nat.add_zero, pSome_some, pJoin_eq]
  repeat' (first | (first | (first | refine ld_c H (by rfl) ?_ | refine ldA_c H ?_ | refine st_c H fun h H => ?_ | refine stA_c H (by rfl) fun h H => ?_ | refine new_c H (by rfl) fun b h H => ?_ | refine keepA_c H ?_ | refine keep_c H (by rfl) ?_ | refine pAssert_i (by first | rfl | decide | exact unonneg) ?_) | refine iter_c ?_ | refine pIf_t (by decide) ?_ | refine pIf_f (by decide) ?_ | refine if_c (fun hz => ?_) (fun hz => ?_)) | (refine fgt_mk (k _ ?_); try simp only [Pa.notBelow, *, if_true, if_false, not_true_eq_false, not_false_eq_true, Bool.false_eq_true]; all_goals (try dsimp only at H); all_goals (have H := row_val p H; exact row_sub H)) | fail)
theorem pabove_s {r : Pa} [i : Pick M (.blk p) (rowP p r.enc tot) R] (H : seps M h) (k : ∀ h, seps (rowP p r.above.enc tot :: R) h → K (.tuple #[]) h) : WpCall Tryz.prog 102 #[.pointer (some ⟨p, 0, none⟩)] KP K h := by
  refine narrow_pair_above_call (some ⟨p, 0, none⟩) ?_
  have H := i.out H
  simp only [narrow_pair_above, narrow_pair_above_j1, lay_eq, zc_eq, add_mk, Nat.zero_add, Nat.add_zero, pSome_some, pJoin_eq]
  repeat' (first | (first | (first | refine ld_c H (by rfl) ?_ | refine ldA_c H ?_ | refine st_c H fun h H => ?_ | refine stA_c H (by rfl) fun h H => ?_ | refine new_c H (by rfl) fun b h H => ?_ | refine keepA_c H ?_ | refine keep_c H (by rfl) ?_ | refine pAssert_i (by first | rfl | decide | exact unonneg) ?_) | refine iter_c ?_ | refine pIf_t (by decide) ?_ | refine pIf_f (by decide) ?_ | refine if_c (fun hz => ?_) (fun hz => ?_)) | (refine fgt_mk (k _ ?_); try simp only [Pa.above, *, if_true, if_false, not_true_eq_false, not_false_eq_true, Bool.false_eq_true]; all_goals (try dsimp only at H); all_goals (have H := row_val p H; exact row_sub H)) | fail)
theorem paboveSigned_s {r : Pa} [i : Pick M (.blk p) (rowP p r.enc tot) R] (H : seps M h) (k : ∀ h, seps (rowP p r.aboveSigned.enc tot :: R) h → K (.tuple #[]) h) : WpCall Tryz.prog 104 #[.pointer (some ⟨p, 0, none⟩)] KP K h := by
  refine narrow_pair_aboveSigned_call (some ⟨p, 0, none⟩) ?_
  have H := i.out H
  simp only [narrow_pair_aboveSigned, narrow_pair_aboveSigned_j1, lay_eq, zc_eq, add_mk, Nat.zero_add, Nat.add_zero, pSome_some, pJoin_eq]
  repeat' (first | (first | (first | refine ld_c H (by rfl) ?_ | refine ldA_c H ?_ | refine st_c H fun h H => ?_ | refine stA_c H (by rfl) fun h H => ?_ | refine new_c H (by rfl) fun b h H => ?_ | refine keepA_c H ?_ | refine keep_c H (by rfl) ?_ | refine pAssert_i (by first | rfl | decide | exact unonneg) ?_) | refine iter_c ?_ | refine pIf_t (by decide) ?_ | refine pIf_f (by decide) ?_ | refine if_c (fun hz => ?_) (fun hz => ?_)) | (refine fgt_mk (k _ ?_); try simp only [Pa.aboveSigned, *, if_true, if_false, not_true_eq_false, not_false_eq_true, Bool.false_eq_true]; all_goals (try dsimp only at H); all_goals (have H := row_val p H; exact row_sub H)) | fail)
theorem pnotBelowSigned_s {r : Pa} [i : Pick M (.blk p) (rowP p r.enc tot) R] (H : seps M h) (k : ∀ h, seps (rowP p r.notBelowSigned.enc tot :: R) h → K (.tuple #[]) h) : WpCall Tryz.prog 105 #[.pointer (some ⟨p, 0, none⟩)] KP K h := by
  refine narrow_pair_notBelowSigned_call (some ⟨p, 0, none⟩) ?_
  have H := i.out H
  simp only [narrow_pair_notBelowSigned, narrow_pair_notBelowSigned, lay_eq, zc_eq, add_mk, Nat.zero_add, Nat.add_zero, pSome_some, pJoin_eq]
  repeat' (first | (first | (first | refine ld_c H (by rfl) ?_ | refine ldA_c H ?_ | refine st_c H fun h H => ?_ | refine stA_c H (by rfl) fun h H => ?_ | refine new_c H (by rfl) fun b h H => ?_ | refine keepA_c H ?_ | refine keep_c H (by rfl) ?_ | refine pAssert_i (by first | rfl | decide | exact unonneg) ?_) | refine iter_c ?_ | refine pIf_t (by decide) ?_ | refine pIf_f (by decide) ?_ | refine if_c (fun hz => ?_) (fun hz => ?_)) | (refine fgt_mk (k _ ?_); try simp only [Pa.notBelowSigned, *, if_true, if_false, not_true_eq_false, not_false_eq_true, Bool.false_eq_true]; all_goals (try dsimp only at H); all_goals (have H := row_val p H; exact row_sub H)) | fail)
theorem psame_s {r : Pa} [i : Pick M (.blk p) (rowP p r.enc tot) R] (H : seps M h) (k : ∀ h, seps (rowP p r.same.enc tot :: R) h → K (.tuple #[]) h) : WpCall Tryz.prog 106 #[.pointer (some ⟨p, 0, none⟩)] KP K h := by
  refine narrow_pair_same_call (some ⟨p, 0, none⟩) ?_
  have H := i.out H
  simp only [narrow_pair_same, lay_eq, zc_eq, add_mk, Nat.zero_add, Nat.add_zero, pSome_some, pJoin_eq]
  repeat' (first | (first | (first | refine ld_c H (by rfl) ?_ | refine ldA_c H ?_ | refine st_c H fun h H => ?_ | refine stA_c H (by rfl) fun h H => ?_ | refine new_c H (by rfl) fun b h H => ?_ | refine keepA_c H ?_ | refine keep_c H (by rfl) ?_ | refine pAssert_i (by first | rfl | decide | exact unonneg) ?_) | refine iter_c ?_ | refine pIf_t (by decide) ?_ | refine pIf_f (by decide) ?_ | refine if_c (fun hz => ?_) (fun hz => ?_)) | (refine call_c (nmeet_s (tup2 ?_)); try dsimp only) | (refine fgt_mk (k _ ?_); try simp only [Pa.same, *, if_true, if_false, not_true_eq_false, not_false_eq_true, Bool.false_eq_true]; all_goals (try dsimp only at H); all_goals (have H := row_val p H; exact row_sub H)) | fail)
theorem pmeet_s {r : Pa} {t : Tn} [j : TnIs l t] [i : Pick M (.blk p) (rowP p r.enc tot) R] (H : seps M h) (k : ∀ h, seps (rowP p (r.meet t).enc tot :: R) h → K (.tuple #[]) h) : WpCall Tryz.prog 149 #[.pointer (some ⟨p, 0, none⟩), .agg l.toArray] KP K h := by
  rw [j.eq]
  refine narrow_pair_meet_call (some ⟨p, 0, none⟩) t.enc ?_
  have H := i.out H
  simp only [narrow_pair_meet, lay_eq, zc_eq, add_mk, Nat.zero_add, Nat.add_zero, pSome_some, pJoin_eq]
  repeat' (first | (first | (first | refine ld_c H (by rfl) ?_ | refine ldA_c H ?_ | refine st_c H fun h H => ?_ | refine stA_c H (by rfl) fun h H => ?_ | refine new_c H (by rfl) fun b h H => ?_ | refine keepA_c H ?_ | refine keep_c H (by rfl) ?_ | refine pAssert_i (by first | rfl | decide | exact unonneg) ?_) | refine iter_c ?_ | refine pIf_t (by decide) ?_ | refine pIf_f (by decide) ?_ | refine if_c (fun hz => ?_) (fun hz => ?_)) | (refine call_c (tmeet_s (tup2 ?_)); try dsimp only) | (refine fgt_mk (k _ ?_); try simp only [Pa.meet, *, if_true, if_false, not_true_eq_false, not_false_eq_true, Bool.false_eq_true]; all_goals (try dsimp only at H); all_goals (have H := row_val p H; exact row_sub H)) | fail)
theorem papart_s {r : Pa} [i : Pick M (.blk p) (rowP p r.enc tot) R] (H : seps M h) (k : ∀ h, seps (rowP p r.apart.enc tot :: R) h → K (.tuple #[]) h) : WpCall Tryz.prog 110 #[.pointer (some ⟨p, 0, none⟩)] KP K h := by
  refine narrow_pair_apart_call (some ⟨p, 0, none⟩) ?_
  have H := i.out H
  simp only [narrow_pair_apart, lay_eq, zc_eq, add_mk, Nat.zero_add, Nat.add_zero, pSome_some, pJoin_eq, IntKind.signed, Bool.false_eq_true, if_false]
  refine ldA_c H ?_
  (refine call_c (isConst_s (tup2 ?_)); try dsimp only)
  refine if_c (fun hz => ?_) (fun hz => ?_)
  · have hz : r.b.bits.m = 0#64 := by simpa using hz
    rw [if_pos hz]
    refine call_c (pmeet_s (r := r) H fun h H => tup0 ?_)
    (refine fgt_mk (k _ ?_); try simp only [Pa.apart, *, if_true, if_false, not_true_eq_false, not_false_eq_true, Bool.false_eq_true]; all_goals (try dsimp only at H); all_goals (have H := row_val p H; exact row_sub H))
  · have hz : ¬ r.b.bits.m = 0#64 := by simpa using hz
    (refine fgt_mk (k _ ?_); try simp only [Pa.apart, *, if_true, if_false, not_true_eq_false, not_false_eq_true, Bool.false_eq_true]; all_goals (try dsimp only at H); all_goals (have H := row_val p H; exact row_sub H))
attribute [local irreducible] narrow_without_j5 narrow_without_j6 narrow_without_j7 narrow_without_j8 in
theorem without_s {q : Nm} [i : NmIs l q] [j : U x c] (k : K (.tuple #[.agg (woF q c).1.enc.toArray, .bool (woF q c).2]) h) : WpCall Tryz.prog 146 #[.agg l.toArray, .int .u64 x] KP K h := by
  rw [i.eq, j.eq]
  refine narrow_without_call q.enc c.toNat ?_
  have H := hstart h
  unfold narrow_without
  unfold woF at k
  simp only [zc_eq, add_mk, Nat.zero_add, Nat.add_zero]
  refine new_c (n := 6) H rfl fun b1 h1 H => new_c (n := 6) H rfl fun b2 h2 H => ?_
  have P0 : ∀ (g : Heap) (b10 : Nat) (y : Nm), seps [rowP b10 y.enc 6, rowP b2 [.int .u64 0, .int .u64 0, .int .u64 0, .int .u64 0, .int .i64 0, .int .i64 0] 6, rowP b1 q.enc 6, was h] g → K (.tuple #[.agg y.enc.toArray, .bool true]) h → narrow_without_j5 (fgt K) b2 b10 g := by
    intro g b10 y H k
    unfold narrow_without_j5
    repeat' (first | (first | refine ld_c H (by rfl) ?_ | refine ldA_c H ?_ | refine st_c H fun h H => ?_ | refine stA_c H (by rfl) fun h H => ?_ | refine new_c H (by rfl) fun b h H => ?_ | refine keepA_c H ?_ | refine keep_c H (by rfl) ?_ | refine pAssert_i (by first | rfl | decide | exact unonneg) ?_))
    refine fin H ?_; exact k
  -- the four bounds, from the last one on
  have P1 : ∀ (g : Heap) (b10 : Nat) (y : Nm), seps [rowP b10 y.enc 6, rowP b2 [.int .u64 0, .int .u64 0, .int .u64 0, .int .u64 0, .int .i64 0, .int .i64 0] 6, rowP b1 q.enc 6, was h] g → K (.tuple #[.agg (Nm.enc { y with shi := if q.shi = c ∧ (BitVec.ofInt 64 (-9223372036854775808)).toInt < c.toInt then y.shi - 1#64 else y.shi }).toArray, .bool true]) h → narrow_without_j6 c.toNat (fgt K) b1 b2 b10 g := by
    intro g b10 y H k
    unfold narrow_without_j6
    simp only [pJoin_eq, narrow_without_j4, add_mk, Nat.zero_add]
    repeat' first | (first | refine ld_c H (by rfl) ?_ | refine ldA_c H ?_ | refine st_c H fun h H => ?_ | refine stA_c H (by rfl) fun h H => ?_ | refine new_c H (by rfl) fun b h H => ?_ | refine keepA_c H ?_ | refine keep_c H (by rfl) ?_ | refine pAssert_i (by first | rfl | decide | exact unonneg) ?_) | refine iter_c ?_ | refine pIf_t (by decide) ?_ | refine pIf_f (by decide) ?_ | refine if_c (fun hz => ?_) (fun hz => ?_)
    · rw [if_pos (by constructor <;> assumption)] at k
      exact P0 _ b10 { y with shi := y.shi - 1#64 } (sub (row_val b10 H)) k
    · rw [if_neg (by intro e; exact hz e.2)] at k
      exact P0 _ b10 y (sub H) k
    · rw [if_neg (by intro e; exact hz e.1)] at k
      exact P0 _ b10 y (sub H) k
  have P2 : ∀ (g : Heap) (b10 : Nat) (y : Nm), seps [rowP b10 y.enc 6, rowP b2 [.int .u64 0, .int .u64 0, .int .u64 0, .int .u64 0, .int .i64 0, .int .i64 0] 6, rowP b1 q.enc 6, was h] g → K (.tuple #[.agg (Nm.enc { y with slo := if q.slo = c ∧ c.toInt < (9223372036854775807#64).toInt then y.slo + 1#64 else y.slo, shi := if q.shi = c ∧ (BitVec.ofInt 64 (-9223372036854775808)).toInt < c.toInt then y.shi - 1#64 else y.shi }).toArray, .bool true]) h → narrow_without_j7 c.toNat (fgt K) b1 b2 b10 g := by
    intro g b10 y H k
    unfold narrow_without_j7
    simp only [pJoin_eq, narrow_without_j3, add_mk, Nat.zero_add]
    repeat' first | (first | refine ld_c H (by rfl) ?_ | refine ldA_c H ?_ | refine st_c H fun h H => ?_ | refine stA_c H (by rfl) fun h H => ?_ | refine new_c H (by rfl) fun b h H => ?_ | refine keepA_c H ?_ | refine keep_c H (by rfl) ?_ | refine pAssert_i (by first | rfl | decide | exact unonneg) ?_) | refine iter_c ?_ | refine pIf_t (by decide) ?_ | refine pIf_f (by decide) ?_ | refine if_c (fun hz => ?_) (fun hz => ?_)
    · rw [if_pos (by constructor <;> assumption)] at k
      exact P1 _ b10 { y with slo := y.slo + 1#64 } (sub (row_val b10 H)) k
    · rw [if_neg (by intro e; exact hz e.2)] at k
      exact P1 _ b10 y (sub H) k
    · rw [if_neg (by intro e; exact hz e.1)] at k
      exact P1 _ b10 y (sub H) k
  have P3 : ∀ (g : Heap) (b10 : Nat) (y : Nm), seps [rowP b10 y.enc 6, rowP b2 [.int .u64 0, .int .u64 0, .int .u64 0, .int .u64 0, .int .i64 0, .int .i64 0] 6, rowP b1 q.enc 6, was h] g → K (.tuple #[.agg (Nm.enc { y with uhi := if q.uhi = c ∧ 0#64 < c then y.uhi - 1#64 else y.uhi, slo := if q.slo = c ∧ c.toInt < (9223372036854775807#64).toInt then y.slo + 1#64 else y.slo, shi := if q.shi = c ∧ (BitVec.ofInt 64 (-9223372036854775808)).toInt < c.toInt then y.shi - 1#64 else y.shi }).toArray, .bool true]) h → narrow_without_j8 c.toNat (fgt K) b1 b2 b10 g := by
    intro g b10 y H k
    unfold narrow_without_j8
    simp only [pJoin_eq, narrow_without_j2, add_mk, Nat.zero_add]
    repeat' first | (first | refine ld_c H (by rfl) ?_ | refine ldA_c H ?_ | refine st_c H fun h H => ?_ | refine stA_c H (by rfl) fun h H => ?_ | refine new_c H (by rfl) fun b h H => ?_ | refine keepA_c H ?_ | refine keep_c H (by rfl) ?_ | refine pAssert_i (by first | rfl | decide | exact unonneg) ?_) | refine iter_c ?_ | refine pIf_t (by decide) ?_ | refine pIf_f (by decide) ?_ | refine if_c (fun hz => ?_) (fun hz => ?_)
    · rw [if_pos (by constructor <;> assumption)] at k
      exact P2 _ b10 { y with uhi := y.uhi - 1#64 } (sub (row_val b10 H)) k
    · rw [if_neg (by intro e; exact hz e.2)] at k
      exact P2 _ b10 y (sub H) k
    · rw [if_neg (by intro e; exact hz e.1)] at k
      exact P2 _ b10 y (sub H) k
  have P4 : ∀ (g : Heap), seps [rowP b2 [.int .u64 0, .int .u64 0, .int .u64 0, .int .u64 0, .int .i64 0, .int .i64 0] 6, rowP b1 q.enc 6, was h] g → ¬ (q.ulo = c ∧ q.uhi = c) → narrow_without_j9 c.toNat (fgt K) b1 b2 false g := by
    intro g H e
    rw [if_neg e] at k
    unfold narrow_without_j9
    simp only [pJoin_eq, narrow_without_j1, zc_eq, add_mk, Nat.zero_add]
    refine pIf_f rfl ?_
    refine ldA_c H ?_
    refine new_c (n := 6) H rfl fun b10 g H => ?_
    repeat' first | (first | refine ld_c H (by rfl) ?_ | refine ldA_c H ?_ | refine st_c H fun h H => ?_ | refine stA_c H (by rfl) fun h H => ?_ | refine new_c H (by rfl) fun b h H => ?_ | refine keepA_c H ?_ | refine keep_c H (by rfl) ?_ | refine pAssert_i (by first | rfl | decide | exact unonneg) ?_) | refine iter_c ?_ | refine pIf_t (by decide) ?_ | refine pIf_f (by decide) ?_ | refine if_c (fun hz => ?_) (fun hz => ?_)
    · rw [if_pos (by constructor <;> assumption)] at k
      exact P3 _ b10 { q with ulo := q.ulo + 1#64 } (sub (row_val b10 H)) k
    · rw [if_neg (by intro e; exact hz e.2)] at k
      exact P3 _ b10 q (sub H) k
    · rw [if_neg (by intro e; exact hz e.1)] at k
      exact P3 _ b10 q (sub H) k
  refine join_c (ld_c H rfl ?_)
  refine if_c (fun hz => ?_) (fun hz => ?_)
  · refine ld_c H rfl ?_
    have e : ((q.uhi.toNat : Int) == (c.toNat : Int)) = decide (q.uhi = c) := Cnd.val
    rw [e]
    by_cases hq : q.uhi = c
    · rw [decide_eq_true hq]
      rw [if_pos ⟨hz, hq⟩] at k
      unfold narrow_without_j9
      refine pIf_t rfl ?_
      repeat' first | (first | refine ld_c H (by rfl) ?_ | refine ldA_c H ?_ | refine st_c H fun h H => ?_ | refine stA_c H (by rfl) fun h H => ?_ | refine new_c H (by rfl) fun b h H => ?_ | refine keepA_c H ?_ | refine keep_c H (by rfl) ?_ | refine pAssert_i (by first | rfl | decide | exact unonneg) ?_) | refine iter_c ?_ | refine pIf_t (by decide) ?_ | refine pIf_f (by decide) ?_ | refine if_c (fun hz => ?_) (fun hz => ?_)
      refine fin H ?_; exact k
    · rw [decide_eq_false hq]
      exact P4 _ H (fun e => hq e.2)
  · exact P4 _ H (fun e => hz e.1)
theorem hasSign_s {op : Int} (k : K (.bool (decide (op = 96 ∨ op = 112 ∨ op = 192 ∨ op = 208))) h) : WpCall Tryz.prog 60 #[.int .u8 op] KP K h := by
  refine narrow_hasSign_call op ?_
  have H := hstart h
  simp only [narrow_hasSign, narrow_hasSign_j1, lay_eq, zc_eq, add_mk, Nat.zero_add, Nat.add_zero, pSome_some, pJoin_eq]
  repeat' first | (first | refine ld_c H (by rfl) ?_ | refine ldA_c H ?_ | refine st_c H fun h H => ?_ | refine stA_c H (by rfl) fun h H => ?_ | refine new_c H (by rfl) fun b h H => ?_ | refine keepA_c H ?_ | refine keep_c H (by rfl) ?_ | refine pAssert_i (by first | rfl | decide | exact unonneg) ?_) | refine iter_c ?_ | refine pIf_t (by decide) ?_ | refine pIf_f (by decide) ?_ | refine if_c (fun hz => ?_) (fun hz => ?_)
  all_goals (refine back H ?_; simp only [*, true_or, or_true, decide_true, false_or] at k; first | exact k | (rw [show (op == 208) = decide (op = 208) by rfl]; exact k))
attribute [local irreducible] narrow_pair_unlike_j1 narrow_pair_unlike_j2 in
theorem punlike_s {r : Pa} [i : Pick M (.blk p) (rowP p r.enc tot) R] (H : seps M h) (k : ∀ h, seps (rowP p r.unlike.enc tot :: R) h → K (.tuple #[]) h) : WpCall Tryz.prog 107 #[.pointer (some ⟨p, 0, none⟩)] KP K h := by
  refine narrow_pair_unlike_call (some ⟨p, 0, none⟩) ?_
  have H := i.out H
  unfold narrow_pair_unlike
  simp only [pSome_some, add_mk, Nat.zero_add, zc_eq]
  refine ldA_c H ?_
  (refine call_c (isConst_s (tup2 ?_)); try dsimp only)
  refine ldA_c H ?_
  (refine call_c (isConst_s (tup2 ?_)); try dsimp only)
  refine ldA_c H (ldA_c H ?_)
  refine new_c (n := 6) H rfl fun b11 h1 H => new_c (n := 6) H rfl fun b12 h2 H => ?_
  repeat' (first | (first | refine ld_c H (by rfl) ?_ | refine ldA_c H ?_ | refine st_c H fun h H => ?_ | refine stA_c H (by rfl) fun h H => ?_ | refine new_c H (by rfl) fun b h H => ?_ | refine keepA_c H ?_ | refine keep_c H (by rfl) ?_ | refine pAssert_i (by first | rfl | decide | exact unonneg) ?_))
  have P1 : ∀ (g : Heap) (x y : Nm) (o i : Bool), seps (rowP b11 x.enc 6 :: rowP b12 y.enc 6 :: rowP p r.enc tot :: R) g → r.unlike = ⟨x, y, if o = true then !i else true⟩ → narrow_pair_unlike_j1 (some ⟨p, 0, none⟩) (fgt K) b11 b12 o i g := by
    intro g x y o i H e
    unfold narrow_pair_unlike_j1
    simp only [pSome_some, add_mk, Nat.zero_add]
    repeat' first | (first | refine ld_c H (by rfl) ?_ | refine ldA_c H ?_ | refine st_c H fun h H => ?_ | refine stA_c H (by rfl) fun h H => ?_ | refine new_c H (by rfl) fun b h H => ?_ | refine keepA_c H ?_ | refine keep_c H (by rfl) ?_ | refine pAssert_i (by first | rfl | decide | exact unonneg) ?_) | refine iter_c ?_ | refine pIf_t (by decide) ?_ | refine pIf_f (by decide) ?_ | refine if_c (fun hz => ?_) (fun hz => ?_)
    all_goals (refine fgt_mk (k _ ?_); rw [e]; simp only [*, if_true, if_false, Bool.false_eq_true]; have H := row_val p H; exact row_sub H)
  have P2 : ∀ (g : Heap) (x : Nm) (o : Bool), seps (rowP b11 x.enc 6 :: rowP b12 r.b.enc 6 :: rowP p r.enc tot :: R) g → (if r.b.bits.m = 0#64 then woF r.a r.b.bits.v else (r.a, true)) = (x, o) → narrow_pair_unlike_j2 (some ⟨p, 0, none⟩) (fgt KP) (fgt K) (((if r.a.bits.m = 0#64 then r.a.bits.v else 0#64).toNat : Int), decide (r.a.bits.m = 0#64), ()) b11 b12 o g := by
    intro g x o H e
    unfold narrow_pair_unlike_j2
    simp only [pSome_some, add_mk, Nat.zero_add]
    refine join_c (if_c (fun hz => ?_) (fun hz => ?_))
    · rw [if_pos (by simpa using hz)]
      repeat' (first | (first | refine ld_c H (by rfl) ?_ | refine ldA_c H ?_ | refine st_c H fun h H => ?_ | refine stA_c H (by rfl) fun h H => ?_ | refine new_c H (by rfl) fun b h H => ?_ | refine keepA_c H ?_ | refine keep_c H (by rfl) ?_ | refine pAssert_i (by first | rfl | decide | exact unonneg) ?_) | (refine call_c (without_s (tup2 ?_)); try dsimp only))
      refine P1 _ x (woF r.b r.a.bits.v).1 o _ (sub H) ?_
      unfold Pa.unlike
      rw [e, if_pos (by simpa using hz)]
    · refine P1 _ x r.b o _ (sub H) ?_
      unfold Pa.unlike
      rw [e, if_neg (by simpa using hz)]
  refine join_c (if_c (fun hz => ?_) (fun hz => ?_))
  · rw [if_pos (by simpa using hz)]
    repeat' (first | (first | refine ld_c H (by rfl) ?_ | refine ldA_c H ?_ | refine st_c H fun h H => ?_ | refine stA_c H (by rfl) fun h H => ?_ | refine new_c H (by rfl) fun b h H => ?_ | refine keepA_c H ?_ | refine keep_c H (by rfl) ?_ | refine pAssert_i (by first | rfl | decide | exact unonneg) ?_) | (refine call_c (without_s (tup2 ?_)); try dsimp only))
    refine P2 _ (woF r.a r.b.bits.v).1 _ (sub H) ?_
    rw [if_pos (by simpa using hz)]
  · refine P2 _ r.a _ (sub H) ?_
    rw [if_neg (by simpa using hz)]
end
end Go.Proofs.YtpbhanglcophbaaGreat

set_option linter.unusedVariables false
set_option linter.unusedSimpArgs false
namespace Go.Proofs.YtpbhanglcophbaaGreat
open Go.Hl
attribute [local irreducible] loadF zc sizeP bytesP vcBody pInvoke pIf pAssert pNew pLd pLdA pSt pStA pSome pIdx pPart pCall pCallV pAppend pExtend pGet pGetS pPut pNewObj pJoin pLoop pKeep fgt iter pFits
/-- How many ones the last k bits have. -/
def ones (x : Nat) : Nat → Nat
  | 0 => 0
  | k + 1 => x % 2 + ones (x / 2) k
theorem ones_succ (x k : Nat) : ones x (k + 1) = x % 2 + ones (x / 2) k := rfl
theorem ones_mod (i : Nat) : ∀ x, ones (x % 2 ^ i) i = ones x i := by
  induction i with
  | zero => intro x; rfl
  | succ i ih =>
    intro x
    unfold ones
    have e1 : x % 2 ^ (i + 1) % 2 = x % 2 := Nat.mod_mod_of_dvd x ⟨2 ^ i, by rw [Nat.pow_succ, Nat.mul_comm]⟩
    have e2 : x % 2 ^ (i + 1) / 2 = x / 2 % 2 ^ i := by rw [Nat.pow_succ, Nat.mul_comm, Nat.mod_mul_right_div_self]
    rw [e1, e2, ih]
theorem ones_add (i j : Nat) : ∀ x, ones x (i + j) = ones x i + ones (x / 2 ^ i) j := by
  induction i with
  | zero => intro x; simp [ones]
  | succ i ih =>
    intro x
    rw [Nat.succ_add, ones_succ, ones_succ, ih, Nat.div_div_eq_div_mul, Nat.pow_succ, Nat.mul_comm (2 ^ i) 2]
    omega
theorem ones_byte (a b j : Nat) (hb : b < 256) : ones (256 * a + b) (8 + j) = ones b 8 + ones a j := by
  rw [ones_add, ← ones_mod 8]
  have e1 : (256 * a + b) % 2 ^ 8 = b := by omega
  have e2 : (256 * a + b) / 2 ^ 8 = a := by omega
  rw [e1, e2]
theorem and_split (a b c d : Nat) (hb : b < 256) (hd : d < 256) : (256 * a + b) &&& (256 * c + d) = 256 * (a &&& c) + (b &&& d) := by
  have h1 := Nat.and_div_two_pow (a := 256 * a + b) (b := 256 * c + d) (n := 8)
  have h2 := Nat.and_mod_two_pow (a := 256 * a + b) (b := 256 * c + d) (n := 8)
  rw [show (256 * a + b) / 2 ^ 8 = a by omega, show (256 * c + d) / 2 ^ 8 = c by omega] at h1
  rw [show (256 * a + b) % 2 ^ 8 = b by omega, show (256 * c + d) % 2 ^ 8 = d by omega] at h2
  omega
def mk (c : Nat) : Nat → Nat
  | 0 => 0
  | k + 1 => 256 * mk c k + c
theorem mk_succ (c k : Nat) : mk c (k + 1) = 256 * mk c k + c := rfl
def S1 (k x : Nat) : Nat := (x / 2 &&& mk 0x55 k) + (x &&& mk 0x55 k)
def S2 (k x : Nat) : Nat := (x / 4 &&& mk 0x33 k) + (x &&& mk 0x33 k)
def S3 (k x : Nat) : Nat := (x / 16 + x) &&& mk 0x0f k
def pb (b : Nat) : Nat := ((((b / 2 &&& 0x55) + (b &&& 0x55)) / 4 &&& 0x33) + (((b / 2 &&& 0x55) + (b &&& 0x55)) &&& 0x33))
theorem b1_ok : ∀ b : Fin 256, (b.val / 2 &&& 0x55) + (b.val &&& 0x55) < 256 ∧ (128 + b.val / 2) &&& 0x55 = b.val / 2 &&& 0x55 := by decide +kernel
theorem b2_ok : ∀ b : Fin 256, ((b.val / 4 &&& 0x33) + (b.val &&& 0x33)) < 256 ∧ (64 + b.val / 4) &&& 0x33 = b.val / 4 &&& 0x33 ∧ (128 + b.val / 4) &&& 0x33 = b.val / 4 &&& 0x33 ∧ (192 + b.val / 4) &&& 0x33 = b.val / 4 &&& 0x33 := by decide +kernel
theorem b3_ok : ∀ b : Fin 256, pb b.val % 16 ≤ 4 ∧ pb b.val / 16 ≤ 4 ∧ (pb b.val / 16 + pb b.val) &&& 0x0f = ones b.val 8 := by decide +kernel
theorem b4_ok : ∀ c : Fin 5, ∀ h : Fin 5, ∀ l : Fin 5, (c.val * 16 + (h.val + (16 * h.val + l.val))) &&& 0x0f = (h.val + (16 * h.val + l.val)) &&& 0x0f := by decide +kernel
theorem S1_split (k a b : Nat) (hb : b < 256) : S1 (k + 1) (256 * a + b) = 256 * S1 k a + ((b / 2 &&& 0x55) + (b &&& 0x55)) := by
  have h := b1_ok ⟨b, hb⟩
  dsimp only at h
  unfold S1
  rw [mk_succ, and_split _ _ _ _ hb (by decide), show (256 * a + b) / 2 = 256 * (a / 2) + (a % 2 * 128 + b / 2) by omega, and_split _ _ _ _ (by omega) (by decide)]
  have e : (a % 2 * 128 + b / 2) &&& 85 = b / 2 &&& 85 := by
    rcases (show a % 2 = 0 ∨ a % 2 = 1 by omega) with e | e <;> rw [e]
    · simp
    · exact h.2
  rw [e]; omega
theorem S2_split (k a b : Nat) (hb : b < 256) : S2 (k + 1) (256 * a + b) = 256 * S2 k a + ((b / 4 &&& 0x33) + (b &&& 0x33)) := by
  have h := b2_ok ⟨b, hb⟩
  dsimp only at h
  unfold S2
  rw [mk_succ, and_split _ _ _ _ hb (by decide), show (256 * a + b) / 4 = 256 * (a / 4) + (a % 4 * 64 + b / 4) by omega, and_split _ _ _ _ (by omega) (by decide)]
  have e : (a % 4 * 64 + b / 4) &&& 51 = b / 4 &&& 51 := by
    rcases (show a % 4 = 0 ∨ a % 4 = 1 ∨ a % 4 = 2 ∨ a % 4 = 3 by omega) with e | e | e | e <;> rw [e]
    · simp
    · exact h.2.1
    · exact h.2.2.1
    · exact h.2.2.2
  rw [e]; omega
def Q (k x : Nat) : Nat := S2 k (S1 k x)
theorem Q_split (k a b : Nat) (hb : b < 256) : Q (k + 1) (256 * a + b) = 256 * Q k a + pb b := by
  unfold Q
  rw [S1_split k a b hb, S2_split _ _ _ (b1_ok ⟨b, hb⟩).1]; rfl
theorem Q_low (k a : Nat) : Q k a % 16 ≤ 4 := by
  cases k with
  | zero => simp [Q, S2, S1, mk]
  | succ k =>
    have h := (b3_ok ⟨a % 256, by omega⟩).1
    have e : a = 256 * (a / 256) + a % 256 := by omega
    rw [e, Q_split _ _ _ (by omega)]
    dsimp only at h
    omega
theorem S3_split (k a b : Nat) (hb : b < 256) : S3 (k + 1) (Q (k + 1) (256 * a + b)) = 256 * S3 k (Q k a) + ones b 8 := by
  obtain ⟨h1, h2, h3⟩ := b3_ok ⟨b, hb⟩
  dsimp only at h1 h2 h3
  have h4 := Q_low k a
  rw [Q_split _ _ _ hb]
  generalize Q k a = q at h4 ⊢
  unfold S3
  rw [mk_succ, ← h3]
  generalize pb b = p at h1 h2 ⊢
  rw [show (256 * q + p) / 16 + (256 * q + p) = 256 * (q / 16 + q) + (q % 16 * 16 + (p / 16 + p)) by omega, and_split _ _ _ _ (by omega) (by decide)]
  have e := b4_ok ⟨q % 16, by omega⟩ ⟨p / 16, by omega⟩ ⟨p % 16, by omega⟩
  dsimp only at e
  rw [show 16 * (p / 16) + p % 16 = p by omega] at e
  rw [e]
theorem ones_le (k : Nat) : ∀ x, ones x k ≤ k := by
  induction k with
  | zero => intro x; exact Nat.le_refl _
  | succ k ih => intro x; unfold ones; have := ih (x / 2); omega
theorem pop_nat (x : Nat) (hx : x < 18446744073709551616) : ∃ c0 c1 c2 c3 c4 c5 c6 c7 : Nat, c0 ≤ 8 ∧ c1 ≤ 8 ∧ c2 ≤ 8 ∧ c3 ≤ 8 ∧ c4 ≤ 8 ∧ c5 ≤ 8 ∧ c6 ≤ 8 ∧ c7 ≤ 8 ∧ S3 8 (Q 8 x) = c0 + 256 * (c1 + 256 * (c2 + 256 * (c3 + 256 * (c4 + 256 * (c5 + 256 * (c6 + 256 * c7)))))) ∧ ones x 64 = c0 + (c1 + (c2 + (c3 + (c4 + (c5 + (c6 + c7)))))) := by
  have st : ∀ k x, S3 (k + 1) (Q (k + 1) x) = 256 * S3 k (Q k (x / 256)) + ones (x % 256) 8 := fun k x => by
    have e : x = 256 * (x / 256) + x % 256 := by omega
    rw [show S3 (k + 1) (Q (k + 1) x) = S3 (k + 1) (Q (k + 1) (256 * (x / 256) + x % 256)) by rw [← e]]
    exact S3_split k _ _ (by omega)
  have so : ∀ j x, ones x (8 + j) = ones (x % 256) 8 + ones (x / 256) j := fun j x => by
    have e : x = 256 * (x / 256) + x % 256 := by omega
    rw [show ones x (8 + j) = ones (256 * (x / 256) + x % 256) (8 + j) by rw [← e]]
    exact ones_byte _ _ _ (by omega)
  have z : ∀ y, S3 0 (Q 0 y) = 0 := fun y => by simp [S3, mk]
  refine ⟨ones (x % 256) 8, ones (x / 256 % 256) 8, ones (x / 256 / 256 % 256) 8, ones (x / 256 / 256 / 256 % 256) 8, ones (x / 256 / 256 / 256 / 256 % 256) 8, ones (x / 256 / 256 / 256 / 256 / 256 % 256) 8, ones (x / 256 / 256 / 256 / 256 / 256 / 256 % 256) 8, ones (x / 256 / 256 / 256 / 256 / 256 / 256 / 256 % 256) 8, ones_le _ _, ones_le _ _, ones_le _ _, ones_le _ _, ones_le _ _, ones_le _ _, ones_le _ _, ones_le _ _, ?_, ?_⟩
  · rw [st 7, st 6, st 5, st 4, st 3, st 2, st 1, st 0, z]; omega
  · rw [so 56 (x), so 48 (x / 256), so 40 (x / 256 / 256), so 32 (x / 256 / 256 / 256), so 24 (x / 256 / 256 / 256 / 256), so 16 (x / 256 / 256 / 256 / 256 / 256), so 8 (x / 256 / 256 / 256 / 256 / 256 / 256), so 0 (x / 256 / 256 / 256 / 256 / 256 / 256 / 256), show ∀ y, ones y 0 = 0 from fun _ => rfl, Nat.add_zero]
theorem dig {c r p : Nat} (hc : c < 256) (h : p = c + 256 * r) : p / 256 = r := by omega
theorem pop_fold {c0 c1 c2 c3 c4 c5 c6 c7 p3 p4 p5 p6 : Nat} (h0 : c0 ≤ 8) (h1 : c1 ≤ 8) (h2 : c2 ≤ 8) (h3 : c3 ≤ 8) (h4 : c4 ≤ 8) (h5 : c5 ≤ 8) (h6 : c6 ≤ 8) (h7 : c7 ≤ 8)
    (e3 : p3 = c0 + 256 * (c1 + 256 * (c2 + 256 * (c3 + 256 * (c4 + 256 * (c5 + 256 * (c6 + 256 * c7))))))) (e4 : p4 = (p3 + p3 / 256) % 18446744073709551616) (e5 : p5 = (p4 + p4 / 65536) % 18446744073709551616) (e6 : p6 = (p5 + p5 / 4294967296) % 18446744073709551616) :
    p6 % 128 = c0 + (c1 + (c2 + (c3 + (c4 + (c5 + (c6 + c7)))))) := by
  obtain ⟨r6, g6⟩ : ∃ r6, r6 = c6 + 256 * c7 := ⟨_, rfl⟩
  rw [← g6] at e3
  obtain ⟨r5, g5⟩ : ∃ r5, r5 = c5 + 256 * r6 := ⟨_, rfl⟩
  rw [← g5] at e3
  obtain ⟨r4, g4⟩ : ∃ r4, r4 = c4 + 256 * r5 := ⟨_, rfl⟩
  rw [← g4] at e3
  obtain ⟨r3, g3⟩ : ∃ r3, r3 = c3 + 256 * r4 := ⟨_, rfl⟩
  rw [← g3] at e3
  obtain ⟨r2, g2⟩ : ∃ r2, r2 = c2 + 256 * r3 := ⟨_, rfl⟩
  rw [← g2] at e3
  obtain ⟨r1, g1⟩ : ∃ r1, r1 = c1 + 256 * r2 := ⟨_, rfl⟩
  rw [← g1] at e3
  have b6 : r6 ≤ 2056 := by omega
  have b5 : r5 ≤ 526344 := by clear g4 g3 g2 g1 e3 e4 e5 e6; omega
  have b4 : r4 ≤ 134744072 := by clear g6 g5 g3 g2 g1 e3 e4 e5 e6; omega
  have b3 : r3 ≤ 34494482440 := by clear g6 g5 g4 g2 g1 e3 e4 e5 e6; omega
  have b2 : r2 ≤ 8830587504648 := by clear g6 g5 g4 g3 g1 e3 e4 e5 e6; omega
  have b1 : r1 ≤ 2260630401189896 := by clear g6 g5 g4 g3 g2 e3 e4 e5 e6; omega
  have b0 : p3 ≤ 578721382704613384 := by clear g6 g5 g4 g3 g2 g1 e4 e5 e6; omega
  rw [dig (by omega) e3, Nat.mod_eq_of_lt (by omega)] at e4
  have k2 : p4 / 65536 = r2 + r3 := by clear g6 g5 g4 g3 e5 e6; omega
  rw [k2, Nat.mod_eq_of_lt (by clear g6 g5 g4 g3 g2 g1 e3 e6; omega)] at e5
  have f5 : p5 = (c0 + c1 + c2 + c3) + 256 * (c1 + c2 + c3 + c4) + 65536 * ((r2 + r3) + (r4 + r5)) := by clear g6 g5 e6 k2; omega
  have k3 : (r2 + r3) + (r4 + r5) = (c2 + c3 + c4 + c5) + 256 * ((c3 + c4 + c5 + c6) + 256 * ((r4 + r5) + (r6 + c7))) := by clear e6 k2 f5 e5 e4 e3 g1 b0 b1 b2 b3 b4 b5 b6; omega
  rw [k3] at f5
  have k4 : p5 / 4294967296 = (r4 + r5) + (r6 + c7) := by clear e6 k2 e5 e4 e3 g1 b0 b1 b2 b3 b4 b5 b6 k3 g2 g3 g4 g5 g6; omega
  rw [k4, Nat.mod_eq_of_lt (by clear k3 g1 g2 g3 g4 g5 g6 e3 e4 f5; omega)] at e6
  have k5 : (r4 + r5) + (r6 + c7) = (c4 + c5 + c6 + c7) + 256 * (r5 + r6 + c7) := by clear e6 k2 e5 e4 e3 g1 b0 b1 b2 b3 b4 b5 b6 k3 k4 f5 g2 g3; omega
  rw [k5] at e6
  clear e5 e4 e3 k2 k3 k4 k5 b0 b1 b2 b3 b4 b5 b6 g1 g2 g3 g4 g5 g6
  omega
theorem and127 {z : Int} {p : B64} [i : U z p] : bitsV .and .i64 (IntKind.i64.wrap z) 127 = ((p.toNat % 128 : Nat) : Int) := by
  rw [i.eq]
  have e : (p &&& 127#64).toNat = p.toNat % 128 := by rw [BitVec.toNat_and]; exact Nat.and_two_pow_sub_one_eq_mod p.toNat 7
  have e1 : BitVec.ofInt 64 (IntKind.i64.wrap (p.toNat : Int)) = p := by rw [w_i64, BitVec.ofInt_toInt]; simp
  show IntKind.i64.wrap ((BitVec.ofInt 64 (IntKind.i64.wrap (p.toNat : Int)) &&& BitVec.ofInt 64 127).toNat : Int) = _
  rw [e1, show BitVec.ofInt 64 127 = 127#64 from rfl, e]
  exact wrap_small (by omega) (by omega)
def P1 (v : B64) : B64 := (v >>> 1 &&& 6148914691236517205#64) + (v &&& 6148914691236517205#64)
def P2 (v : B64) : B64 := (v >>> 2 &&& 3689348814741910323#64) + (v &&& 3689348814741910323#64)
def P3 (v : B64) : B64 := (v >>> 4 + v) &&& 1085102592571150095#64
def P4 (j : Nat) (v : B64) : B64 := v + v >>> j
theorem P1_ok (v : B64) : (P1 v).toNat = S1 8 v.toNat := by
  unfold P1 S1
  rw [BitVec.toNat_add, BitVec.toNat_and, BitVec.toNat_and, BitVec.toNat_ushiftRight, Nat.shiftRight_eq_div_pow, show (6148914691236517205#64).toNat = mk 0x55 8 by decide, show 2 ^ 1 = 2 from rfl]
  have h1 : (v.toNat / 2 &&& mk 0x55 8) ≤ mk 0x55 8 := Nat.and_le_right
  have h2 : (v.toNat &&& mk 0x55 8) ≤ mk 0x55 8 := Nat.and_le_right
  have h3 : mk 0x55 8 = 6148914691236517205 := by decide
  exact Nat.mod_eq_of_lt (by omega)
theorem P2_ok (v : B64) : (P2 v).toNat = S2 8 v.toNat ∧ S2 8 v.toNat ≤ 7378697629483820646 := by
  unfold P2 S2
  rw [BitVec.toNat_add, BitVec.toNat_and, BitVec.toNat_and, BitVec.toNat_ushiftRight, Nat.shiftRight_eq_div_pow, show (3689348814741910323#64).toNat = mk 0x33 8 by decide, show 2 ^ 2 = 4 from rfl]
  have h1 : (v.toNat / 4 &&& mk 0x33 8) ≤ mk 0x33 8 := Nat.and_le_right
  have h2 : (v.toNat &&& mk 0x33 8) ≤ mk 0x33 8 := Nat.and_le_right
  have h3 : mk 0x33 8 = 3689348814741910323 := by decide
  exact ⟨Nat.mod_eq_of_lt (by omega), by omega⟩
theorem P3_ok (v : B64) (h : v.toNat ≤ 7378697629483820646) : (P3 v).toNat = S3 8 v.toNat := by
  unfold P3 S3
  rw [BitVec.toNat_and, BitVec.toNat_add, BitVec.toNat_ushiftRight, Nat.shiftRight_eq_div_pow, show (1085102592571150095#64).toNat = mk 0x0f 8 by decide, show 2 ^ 4 = 16 from rfl, Nat.mod_eq_of_lt (by omega)]
theorem P4_ok (v : B64) (j : Nat) : (P4 j v).toNat = (v.toNat + v.toNat / 2 ^ j) % 18446744073709551616 := by
  unfold P4
  rw [BitVec.toNat_add, BitVec.toNat_ushiftRight, Nat.shiftRight_eq_div_pow]
theorem pop_ok (v : B64) : (P4 32 (P4 16 (P4 8 (P3 (P2 (P1 v)))))).toNat % 128 = ones v.toNat 64 := by
  obtain ⟨c0, c1, c2, c3, c4, c5, c6, c7, h0, h1, h2, h3, h4, h5, h6, h7, e, eo⟩ := pop_nat v.toNat v.isLt
  have e3 : (P3 (P2 (P1 v))).toNat = S3 8 (Q 8 v.toNat) := by
    have q := P2_ok (P1 v)
    rw [P3_ok _ (by rw [q.1]; exact q.2), q.1, P1_ok]; rfl
  rw [eo]
  exact pop_fold h0 h1 h2 h3 h4 h5 h6 h7 (e3.trans e) (P4_ok _ 8) (P4_ok _ 16) (P4_ok _ 32)
instance : U 6148914691236517205 6148914691236517205#64 := ⟨rfl⟩
instance : U 3689348814741910323 3689348814741910323#64 := ⟨rfl⟩
instance : U 1085102592571150095 1085102592571150095#64 := ⟨rfl⟩
theorem q1 (v : B64) : IntKind.u64.wrap (bitsV .and .u64 ((v.toNat : Int).fdiv (2 ^ (min (1 : Int).toNat IntKind.u64.bits))) 6148914691236517205 + bitsV .and .u64 (v.toNat : Int) 6148914691236517205) = ((P1 v).toNat : Int) := U.eq
theorem q2 (v : B64) : IntKind.u64.wrap (bitsV .and .u64 ((v.toNat : Int).fdiv (2 ^ (min (2 : Int).toNat IntKind.u64.bits))) 3689348814741910323 + bitsV .and .u64 (v.toNat : Int) 3689348814741910323) = ((P2 v).toNat : Int) := U.eq
theorem q3 (v : B64) : bitsV .and .u64 (IntKind.u64.wrap ((v.toNat : Int).fdiv (2 ^ (min (4 : Int).toNat IntKind.u64.bits)) + (v.toNat : Int))) 1085102592571150095 = ((P3 v).toNat : Int) := U.eq
theorem q4_8 (v : B64) : IntKind.u64.wrap ((v.toNat : Int) + (v.toNat : Int).fdiv (2 ^ (min (8 : Int).toNat IntKind.u64.bits))) = ((P4 8 v).toNat : Int) := U.eq
theorem q4_16 (v : B64) : IntKind.u64.wrap ((v.toNat : Int) + (v.toNat : Int).fdiv (2 ^ (min (16 : Int).toNat IntKind.u64.bits))) = ((P4 16 v).toNat : Int) := U.eq
theorem q4_32 (v : B64) : IntKind.u64.wrap ((v.toNat : Int) + (v.toNat : Int).fdiv (2 ^ (min (32 : Int).toNat IntKind.u64.bits))) = ((P4 32 v).toNat : Int) := U.eq
theorem ones_s {KP K : Value → Pr} {h : Heap} {x : Int} {v : B64} [a : U x v] (k : K (.int .i64 (ones v.toNat 64)) h) : WpCall Tryz.prog 148 #[.int .u64 x] KP K h := by
  rw [a.eq]
  refine math_bits_OnesCount64_call v.toNat ?_
  have H := hstart h
  unfold math_bits_OnesCount64
  repeat refine pAssert_i (by decide) ?_
  rw [q1, q2, q3, q4_8, q4_16, q4_32, and127, pop_ok]
  refine fin H ?_
  exact k
end Go.Proofs.YtpbhanglcophbaaGreat

set_option linter.unusedVariables false
set_option linter.unusedSimpArgs false
namespace Go.Proofs.YtpbhanglcophbaaGreat
open Go.Hl
attribute [local irreducible] loadF zc sizeP bytesP vcBody pInvoke pIf pAssert pNew pLd pLdA pSt pStA pSome pIdx pPart pCall pCallV pAppend pExtend pGet pGetS pPut pNewObj pJoin pLoop pKeep fgt iter pFits
def Pa.common (p : Pa) : Pa := if p.b.bits.m = 0#64 ∧ ones p.b.bits.v.toNat 64 = 1 then p.meet ⟨p.b.bits.v, ~~~p.b.bits.v⟩ else p
section
variable {KP K : Value → Pr} {h : Heap} {x y z u lo hi op : Int} {v m w n c d : B64} {M R : List Pr} {k : Nat} {tot p : Nat} {l l2 : List Value} {a b : Nm}
theorem pcommon_s {r : Pa} [i : Pick M (.blk p) (rowP p r.enc tot) R] (H : seps M h) (k : ∀ h, seps (rowP p r.common.enc tot :: R) h → K (.tuple #[]) h) : WpCall Tryz.prog 109 #[.pointer (some ⟨p, 0, none⟩)] KP K h := by
  refine narrow_pair_common_call (some ⟨p, 0, none⟩) ?_
  have H := i.out H
  simp only [narrow_pair_common, narrow_pair_common_j1, lay_eq, zc_eq, add_mk, Nat.zero_add, Nat.add_zero, pSome_some, pJoin_eq, IntKind.signed, Bool.false_eq_true, if_false]
  refine ldA_c H ?_
  (refine call_c (isConst_s (tup2 ?_)); try dsimp only)
  have no : ¬ (r.b.bits.m = 0#64 ∧ ones r.b.bits.v.toNat 64 = 1) → fgt K (.tuple #[]) h := fun e => by
    refine fgt_mk (k _ ?_)
    unfold Pa.common
    rw [if_neg e]; exact H
  refine if_c (fun hz => ?_) (fun hz => ?_)
  · have hz : r.b.bits.m = 0#64 := by simpa using hz
    rw [if_pos hz]
    refine call_c (ones_s (one1 ?_))
    refine if_c (fun h1 => ?_) (fun h1 => ?_)
    · refine call_c (pmeet_s (r := r) H fun h H => tup0 ?_)
      refine fgt_mk (k _ ?_)
      unfold Pa.common
      rw [if_pos ⟨hz, by omega⟩]; exact H
    · exact no (fun e => h1 (by rw [e.2]; rfl))
  · have hz : ¬ r.b.bits.m = 0#64 := by simpa using hz
    exact pIf_f rfl (no (fun e => hz e.1))
/-- A way of a pair. -/
def Wy (f : Value) (F : Pa → Pa) (B : List Pr) : Prop := ∀ (r : Pa) (M : List Pr) (p : Nat) (h : Heap) (KP K : Value → Pr), seps (rowP p r.enc 13 :: (B ++ M)) h → (∀ h, seps (rowP p (F r).enc 13 :: (B ++ M)) h → K (.tuple #[]) h) → WpVal Tryz.prog f [.pointer (some ⟨p, 0, none⟩)] KP K h
theorem w_same : Wy (fnV 106) Pa.same [] := fun r M p h KP K H k => by
  show WpCall _ _ ((#[] ++ #[Value.pointer (some ⟨p, 0, none⟩)]) ++ #[]) _ _ _
  simp only [Array.empty_append, Array.append_empty]
  exact psame_s H k
theorem w_unlike : Wy (fnV 107) Pa.unlike [] := fun r M p h KP K H k => by
  show WpCall _ _ ((#[] ++ #[Value.pointer (some ⟨p, 0, none⟩)]) ++ #[]) _ _ _
  simp only [Array.empty_append, Array.append_empty]
  exact punlike_s H k
theorem w_above : Wy (fnV 102) Pa.above [] := fun r M p h KP K H k => by
  show WpCall _ _ ((#[] ++ #[Value.pointer (some ⟨p, 0, none⟩)]) ++ #[]) _ _ _
  simp only [Array.empty_append, Array.append_empty]
  exact pabove_s H k
theorem w_notBelow : Wy (fnV 103) Pa.notBelow [] := fun r M p h KP K H k => by
  show WpCall _ _ ((#[] ++ #[Value.pointer (some ⟨p, 0, none⟩)]) ++ #[]) _ _ _
  simp only [Array.empty_append, Array.append_empty]
  exact pnotBelow_s H k
theorem w_aboveSigned : Wy (fnV 104) Pa.aboveSigned [] := fun r M p h KP K H k => by
  show WpCall _ _ ((#[] ++ #[Value.pointer (some ⟨p, 0, none⟩)]) ++ #[]) _ _ _
  simp only [Array.empty_append, Array.append_empty]
  exact paboveSigned_s H k
theorem w_notBelowSigned : Wy (fnV 105) Pa.notBelowSigned [] := fun r M p h KP K H k => by
  show WpCall _ _ ((#[] ++ #[Value.pointer (some ⟨p, 0, none⟩)]) ++ #[]) _ _ _
  simp only [Array.empty_append, Array.append_empty]
  exact pnotBelowSigned_s H k
theorem w_common : Wy (fnV 109) Pa.common [] := fun r M p h KP K H k => by
  show WpCall _ _ ((#[] ++ #[Value.pointer (some ⟨p, 0, none⟩)]) ++ #[]) _ _ _
  simp only [Array.empty_append, Array.append_empty]
  exact pcommon_s H k
theorem w_apart : Wy (fnV 110) Pa.apart [] := fun r M p h KP K H k => by
  show WpCall _ _ ((#[] ++ #[Value.pointer (some ⟨p, 0, none⟩)]) ++ #[]) _ _ _
  simp only [Array.empty_append, Array.append_empty]
  exact papart_s H k
/-- The closure of a turned way, whose variable lies at q. -/
abbrev turnV (q : Nat) : Value := .func (.func 147) #[] #[.pointer (some ⟨q, 0, none⟩)]
theorem w_turned {g : Nat} {F : Pa → Pa} (hg : Wy (fnV g) F []) {q : Nat} : Wy (turnV q) (Pa.turned F) [rowP q [fnV g] 1] := fun r M p h KP K H k => by
  show WpCall _ _ ((#[] ++ #[Value.pointer (some ⟨p, 0, none⟩)]) ++ #[.pointer (some ⟨q, 0, none⟩)]) _ _ _
  simp only [Array.empty_append, Array.push_append, List.push_toArray]
  refine narrow_turned_1_call (some ⟨p, 0, none⟩) ⟨q, 0, none⟩ ?_
  simp only [narrow_turned_1, lay_eq, zc_eq, add_mk, Nat.zero_add, Nat.add_zero, pSome_some, pJoin_eq]
  have H : seps (rowP p r.enc 13 :: rowP q [fnV g] 1 :: M) h := H
  repeat' first | refine ld_c H (by rfl) ?_ | refine ldA_c H ?_ | refine st_c H fun h H => ?_ | refine stA_c H (by rfl) fun h H => ?_ | refine new_c H (by rfl) fun b h H => ?_ | refine keepA_c H ?_ | refine keep_c H (by rfl) ?_ | refine pAssert_i (by first | rfl | decide | exact unonneg) ?_
  have H : seps (rowP p (Pa.enc { r with a := r.b, b := r.a }) 13 :: ([] ++ (rowP q [fnV g] 1 :: M))) _ := H
  refine callW_c (hg _ _ _ _ _ _ H fun h H => tup0 ?_)
  have H : seps (rowP p (F { r with a := r.b, b := r.a }).enc 13 :: rowP q [fnV g] 1 :: M) _ := H
  generalize hF : F { r with a := r.b, b := r.a } = r' at H
  repeat' first | refine ld_c H (by rfl) ?_ | refine ldA_c H ?_ | refine st_c H fun h H => ?_ | refine stA_c H (by rfl) fun h H => ?_ | refine new_c H (by rfl) fun b h H => ?_ | refine keepA_c H ?_ | refine keep_c H (by rfl) ?_ | refine pAssert_i (by first | rfl | decide | exact unonneg) ?_
  refine fgt_mk (k _ ?_)
  have e : Pa.turned F r = { r' with a := r'.b, b := r'.a } := by unfold Pa.turned; rw [hF]
  rw [e]; exact H
theorem turned_s {f : Value} [o : One f] (H : seps M h) (k : ∀ q h, seps (rowP q [f] 1 :: M) h → K (turnV q) h) : WpCall Tryz.prog 108 #[f] KP K h := by
  refine narrow_turned_call f ?_
  unfold narrow_turned
  refine pAssert_i o.out (new_c H rfl fun q h H => ?_)
  exact fgt_mk (k q h H)
abbrev waysE (q : Nat → Nat) : List (Value × Value) :=
  [(.int .u8 16, .agg #[fnV 106, fnV 107]),
   (.int .u8 80, .agg #[fnV 107, fnV 106]),
   (.int .u8 32, .agg #[fnV 102, turnV (q 0)]),
   (.int .u8 48, .agg #[fnV 103, turnV (q 1)]),
   (.int .u8 160, .agg #[turnV (q 2), fnV 103]),
   (.int .u8 176, .agg #[turnV (q 3), fnV 102]),
   (.int .u8 96, .agg #[fnV 104, turnV (q 4)]),
   (.int .u8 112, .agg #[fnV 105, turnV (q 5)]),
   (.int .u8 192, .agg #[turnV (q 6), fnV 105]),
   (.int .u8 208, .agg #[turnV (q 7), fnV 104]),
   (.int .u8 64, .agg #[fnV 109, fnV 110])]
def seqN (a b c d e f g i : Nat) : Nat → Nat
  | 0 => a | 1 => b | 2 => c | 3 => d | 4 => e | 5 => f | 6 => g | _ => i
theorem ways_s (H : seps M h) (k : ∀ p (q : Nat → Nat) h, seps (mapP p (waysE q) :: rowP (q 0) [fnV 103] 1 :: rowP (q 1) [fnV 102] 1 :: rowP (q 2) [fnV 102] 1 :: rowP (q 3) [fnV 103] 1 ::
    rowP (q 4) [fnV 105] 1 :: rowP (q 5) [fnV 104] 1 :: rowP (q 6) [fnV 104] 1 :: rowP (q 7) [fnV 105] 1 :: M) h → K (.map (some p)) h) : WpCall Tryz.prog 59 #[] KP K h := by
  refine narrow_ways_call ?_
  unfold narrow_ways
  simp only [zc_eq]
  refine newM_c H fun p h H => ?_
  have pt : ∀ (es : List (Value × Value)) (x : Int) (a b : Value) (R : List Pr) (h : Heap) (P : Pr), seps (mapP p es :: R) h → One a → One b → putM (.int .u8) (.int .u8 x) (.agg #[a, b]) es = some (es ++ [(.int .u8 x, .agg #[a, b])]) →
      (∀ h, seps (mapP p (es ++ [(.int .u8 x, .agg #[a, b])]) :: R) h → P h) → pFits [(1, a), (1, b)] (pPut (.int .u8) (some p) (.int .u8 x) (.agg (lay [.nilFunc, .nilFunc] [(0, a), (1, b)]).toArray) P) h :=
    fun es x a b R h P H o1 o2 e q => by
      rw [show lay [.nilFunc, .nilFunc] [(0, a), (1, b)] = [a, b] from lay_eq]
      exact fits_c (fits_c (fits_nil (put_c H e q)))
  have pc : ∀ (es : List (Value × Value)) (x : Int) (a b : Value) (R : List Pr) (h : Heap) (P : Pr), seps (mapP p es :: R) h → One a → One b → putM (.int .u8) (.int .u8 x) (.agg #[a, b]) es = some (es ++ [(.int .u8 x, .agg #[a, b])]) →
      (∀ h, seps (mapP p (es ++ [(.int .u8 x, .agg #[a, b])]) :: R) h → P h) → pPut (.int .u8) (some p) (.int .u8 x) (.agg (lay [.nilFunc, .nilFunc] [(0, a), (1, b)]).toArray) P h :=
    fun es x a b R h P H o1 o2 e q => by
      rw [show lay [.nilFunc, .nilFunc] [(0, a), (1, b)] = [a, b] from lay_eq]
      exact put_c H e q
  have tn : ∀ (es : List (Value × Value)) (R : List Pr) (f : Value) (h : Heap) (k : Value → Pr), One f → seps (mapP p es :: R) h → (∀ q h, seps (mapP p es :: rowP q [f] 1 :: R) h → k (turnV q) h) → pCall Tryz.prog 108 [f] (fgt KP) (.one .any) k h :=
    fun es R f h k o H q => call_c (turned_s (h := h) H fun q' h H => ⟨_, rfl, q q' h (f1 H)⟩)
  refine pc _ _ _ _ _ _ _ H inferInstance inferInstance (by kernel_rfl) fun h H => ?_
  refine pc _ _ _ _ _ _ _ H inferInstance inferInstance (by kernel_rfl) fun h H => ?_
  refine tn _ _ _ _ _ inferInstance H fun q0 h H => pt _ _ _ _ _ _ _ H inferInstance inferInstance (by kernel_rfl) fun h H => ?_
  refine tn _ _ _ _ _ inferInstance H fun q1 h H => pt _ _ _ _ _ _ _ H inferInstance inferInstance (by kernel_rfl) fun h H => ?_
  refine tn _ _ _ _ _ inferInstance H fun q2 h H => pt _ _ _ _ _ _ _ H inferInstance inferInstance (by kernel_rfl) fun h H => ?_
  refine tn _ _ _ _ _ inferInstance H fun q3 h H => pt _ _ _ _ _ _ _ H inferInstance inferInstance (by kernel_rfl) fun h H => ?_
  refine tn _ _ _ _ _ inferInstance H fun q4 h H => pt _ _ _ _ _ _ _ H inferInstance inferInstance (by kernel_rfl) fun h H => ?_
  refine tn _ _ _ _ _ inferInstance H fun q5 h H => pt _ _ _ _ _ _ _ H inferInstance inferInstance (by kernel_rfl) fun h H => ?_
  refine tn _ _ _ _ _ inferInstance H fun q6 h H => pt _ _ _ _ _ _ _ H inferInstance inferInstance (by kernel_rfl) fun h H => ?_
  refine tn _ _ _ _ _ inferInstance H fun q7 h H => pt _ _ _ _ _ _ _ H inferInstance inferInstance (by kernel_rfl) fun h H => ?_
  refine pc _ _ _ _ _ _ _ H inferInstance inferInstance (by kernel_rfl) fun h H => ?_
  refine fgt_mk (k p (seqN q0 q1 q2 q3 q4 q5 q6 q7) h ?_)
  have H : seps (mapP p (waysE (seqN q0 q1 q2 q3 q4 q5 q6 q7)) :: _) h := H
  simp only [seqN] at H ⊢
  exact sub H
/-- What a way of a pair tells. -/
def Pa.end (a b : Nm) (p : Pa) : Nm × Nm × Bool := if p.none = true ∨ ¬ p.a.refine.2 = true ∨ ¬ p.b.refine.2 = true then (a, b, false) else (p.a.refine.1, p.b.refine.1, true)
abbrev nmsV (x : Nm × Nm × Bool) : Value := .tuple #[.agg x.1.enc.toArray, .agg x.2.1.enc.toArray, .bool x.2.2]
theorem way_end {b1 b2 b3 b4 b31 b35 : Nat} {x y : Nm} {N : List Pr} {h0 : Heap} [w : Was N h0] (c : Bool) (H : seps (rowP b1 a.enc 6 :: rowP b2 b.enc 6 :: rowP b3 [.int .u64 0, .int .u64 0, .int .u64 0, .int .u64 0, .int .i64 0, .int .i64 0] 6 :: rowP b4 [.int .u64 0, .int .u64 0, .int .u64 0, .int .u64 0, .int .i64 0, .int .i64 0] 6 :: rowP b31 x.enc 6 :: rowP b35 y.enc 6 :: N) h) (k : K (nmsV (if c = true then (a, b, false) else (x, y, true))) h0) : narrow_Way_j1 (fgt K) b1 b2 b3 b4 b31 b35 c h := by
  unfold narrow_Way_j1
  refine if_c (fun hz => ?_) (fun hz => ?_)
  · rw [if_pos hz] at k
    repeat' first | refine ld_c H (by rfl) ?_ | refine ldA_c H ?_ | refine st_c H fun h H => ?_ | refine stA_c H (by rfl) fun h H => ?_ | refine new_c H (by rfl) fun b h H => ?_ | refine keepA_c H ?_ | refine keep_c H (by rfl) ?_ | refine pAssert_i (by first | rfl | decide | exact unonneg) ?_
    refine fin H ?_; exact k
  · rw [if_neg hz] at k
    repeat' first | refine ld_c H (by rfl) ?_ | refine ldA_c H ?_ | refine st_c H fun h H => ?_ | refine stA_c H (by rfl) fun h H => ?_ | refine new_c H (by rfl) fun b h H => ?_ | refine keepA_c H ?_ | refine keep_c H (by rfl) ?_ | refine pAssert_i (by first | rfl | decide | exact unonneg) ?_
    refine fin H ?_; exact k
theorem way_tail {f : Value} {F : Pa → Pa} {B : List Pr} (hf : Wy f F B) {b1 b2 b3 b4 b22 : Nat} {N : List Pr} {h0 : Heap} [w : Was N h0] (H : seps (rowP b22 (Pa.enc ⟨a, b, false⟩) 13 :: (B ++ (rowP b1 a.enc 6 :: rowP b2 b.enc 6 :: rowP b3 [.int .u64 0, .int .u64 0, .int .u64 0, .int .u64 0, .int .i64 0, .int .i64 0] 6 :: rowP b4 [.int .u64 0, .int .u64 0, .int .u64 0, .int .u64 0, .int .i64 0, .int .i64 0] 6 :: N))) h)
    (k : K (nmsV (Pa.end a b (F ⟨a, b, false⟩))) h0) : narrow_Way_j2 (fgt KP) (fgt K) b1 b2 b3 b4 b22 f h := by
  unfold narrow_Way_j2
  simp only [zc_eq, pSome_some, add_mk, Nat.zero_add, Nat.add_zero]
  refine callW_c (hf _ _ _ _ _ _ H fun h H => tup0 ?_)
  generalize F ⟨a, b, false⟩ = p at H k
  have H := seps_under (fun _ => seps_dropA (A := B)) H
  refine ldA_c H ?_
  (refine call_c (refine_s (tup2 ?_)); try dsimp only)
  refine new_c (n := 6) H rfl fun b31 h H => ?_
  repeat' (first | refine stA_c H (by rfl) fun h H => ?_ | refine ldA_c H ?_ | fail)
  (refine call_c (refine_s (tup2 ?_)); try dsimp only)
  refine new_c (n := 6) H rfl fun b35 h H => ?_
  repeat' (first | refine stA_c H (by rfl) fun h H => ?_ | refine ldA_c H ?_ | fail)
  refine join_c (ld_c H rfl ?_)
  have go : ∀ c : Bool, (c = true ↔ (p.none = true ∨ ¬ p.a.refine.2 = true ∨ ¬ p.b.refine.2 = true)) → narrow_Way_j1 (fgt K) b1 b2 b3 b4 b31 b35 c h := fun c e => by
    refine way_end (a := a) (b := b) (x := p.a.refine.1) (y := p.b.refine.1) c (N := N) (sub H) ?_
    unfold Pa.end at k
    by_cases hp : p.none = true ∨ ¬ p.a.refine.2 = true ∨ ¬ p.b.refine.2 = true
    · rw [if_pos hp] at k; rw [if_pos (e.2 hp)]; exact k
    · rw [if_neg hp] at k; rw [if_neg (fun h => hp (e.1 h))]; exact k
  refine if_c (fun hz => go _ (by simp [hz])) (fun hz => ?_)
  refine if_c (fun h1 => go _ (by simp [h1])) (fun h1 => go _ (by simp [hz, h1]))
def wayO (op : Int) : Option ((Pa → Pa) × (Pa → Pa)) :=
  if op = 16 then some (Pa.same, Pa.unlike) else if op = 80 then some (Pa.unlike, Pa.same) else if op = 32 then some (Pa.above, .turned .notBelow) else if op = 48 then some (Pa.notBelow, .turned .above)
  else if op = 160 then some (.turned .above, Pa.notBelow) else if op = 176 then some (.turned .notBelow, Pa.above) else if op = 96 then some (Pa.aboveSigned, .turned .notBelowSigned) else if op = 112 then some (Pa.notBelowSigned, .turned .aboveSigned)
  else if op = 192 then some (.turned .aboveSigned, Pa.notBelowSigned) else if op = 208 then some (.turned .notBelowSigned, Pa.aboveSigned) else if op = 64 then some (Pa.common, Pa.apart) else none
def wayF (op : Int) (wide : Bool) (a b : Nm) (holds : Bool) : Nm × Nm × Bool :=
  match wayO op with
  | none => (a, b, true)
  | some (f, g) =>
    if wide = false ∧ ((op = 96 ∨ op = 112 ∨ op = 192 ∨ op = 208) ∨ a.low 4 = false ∨ b.low 4 = false) then (a, b, true)
    else Pa.end a b ((if holds = true then f else g) ⟨a, b, false⟩)
theorem way_mid {f g : Value} [of : One f] [og : One g] {F G : Pa → Pa} {B C : List Pr} (hf : Wy f F B) (hg : Wy g G C) {holds : Bool} {b1 b2 b3 b4 b8 : Nat} {N : List Pr} {h0 : Heap} [w : Was N h0]
    (HB : ∀ {X h}, seps (X :: rowP b1 a.enc 6 :: rowP b2 b.enc 6 :: rowP b3 [.int .u64 0, .int .u64 0, .int .u64 0, .int .u64 0, .int .i64 0, .int .i64 0] 6 :: rowP b4 [.int .u64 0, .int .u64 0, .int .u64 0, .int .u64 0, .int .i64 0, .int .i64 0] 6 :: N) h → seps (X :: (B ++ (rowP b1 a.enc 6 :: rowP b2 b.enc 6 :: rowP b3 [.int .u64 0, .int .u64 0, .int .u64 0, .int .u64 0, .int .i64 0, .int .i64 0] 6 :: rowP b4 [.int .u64 0, .int .u64 0, .int .u64 0, .int .u64 0, .int .i64 0, .int .i64 0] 6 :: [was h0]))) h)
    (HC : ∀ {X h}, seps (X :: rowP b1 a.enc 6 :: rowP b2 b.enc 6 :: rowP b3 [.int .u64 0, .int .u64 0, .int .u64 0, .int .u64 0, .int .i64 0, .int .i64 0] 6 :: rowP b4 [.int .u64 0, .int .u64 0, .int .u64 0, .int .u64 0, .int .i64 0, .int .i64 0] 6 :: N) h → seps (X :: (C ++ (rowP b1 a.enc 6 :: rowP b2 b.enc 6 :: rowP b3 [.int .u64 0, .int .u64 0, .int .u64 0, .int .u64 0, .int .i64 0, .int .i64 0] 6 :: rowP b4 [.int .u64 0, .int .u64 0, .int .u64 0, .int .u64 0, .int .i64 0, .int .i64 0] 6 :: [was h0]))) h)
    (H : seps (rowP b8 [f, g] 2 :: rowP b1 a.enc 6 :: rowP b2 b.enc 6 :: rowP b3 [.int .u64 0, .int .u64 0, .int .u64 0, .int .u64 0, .int .i64 0, .int .i64 0] 6 :: rowP b4 [.int .u64 0, .int .u64 0, .int .u64 0, .int .u64 0, .int .i64 0, .int .i64 0] 6 :: N) h)
    (k : K (nmsV (Pa.end a b ((if holds = true then F else G) ⟨a, b, false⟩))) h0) : narrow_Way_j3 holds (fgt KP) (fgt K) b1 b2 b3 b4 b8 false h := by
  unfold narrow_Way_j3
  refine pIf_f rfl ?_
  refine ldA_c H (ldA_c H (pAssert_i rfl (pAssert_i rfl ?_)))
  simp only [zc_eq, lay_eq]
  refine new_c (n := 13) H rfl fun b22 h H => ?_
  refine pIdx_i (by decide) (by decide) ?_
  simp only [add_mk, Nat.zero_add, Int.toNat_zero, Nat.zero_mul]
  refine ld_c H rfl (join_c ?_)
  refine if_c (fun hz => ?_) (fun hz => ?_)
  · rw [if_neg hz] at k
    refine pIdx_i (by decide) (by decide) ?_
    refine ld_c (k := 1) H rfl ?_
    exact way_tail hg (HC (sub H)) k
  · rw [if_pos hz] at k
    exact way_tail hf (HB (sub H)) k
theorem way_early {holds : Bool} {b1 b2 b3 b4 b8 : Nat} {N : List Pr} {h0 : Heap} [w : Was N h0] (H : seps (rowP b1 a.enc 6 :: rowP b2 b.enc 6 :: rowP b3 [.int .u64 0, .int .u64 0, .int .u64 0, .int .u64 0, .int .i64 0, .int .i64 0] 6 :: rowP b4 [.int .u64 0, .int .u64 0, .int .u64 0, .int .u64 0, .int .i64 0, .int .i64 0] 6 :: N) h) (k : K (nmsV (a, b, true)) h0) : narrow_Way_j3 holds (fgt KP) (fgt K) b1 b2 b3 b4 b8 true h := by
  unfold narrow_Way_j3
  refine pIf_t rfl ?_
  repeat' first | refine ld_c H (by rfl) ?_ | refine ldA_c H ?_ | refine st_c H fun h H => ?_ | refine stA_c H (by rfl) fun h H => ?_ | refine new_c H (by rfl) fun b h H => ?_ | refine keepA_c H ?_ | refine keep_c H (by rfl) ?_ | refine pAssert_i (by first | rfl | decide | exact unonneg) ?_
  refine fin H ?_; exact k
theorem way_found {wide holds : Bool} {f g : Value} [of : One f] [og : One g] {F G : Pa → Pa} {B C : List Pr} (hf : Wy f F B) (hg : Wy g G C) {b1 b2 b3 b4 b8 : Nat} {N : List Pr} {h0 : Heap} [w : Was N h0]
    (HB : ∀ {X h}, seps (X :: rowP b1 a.enc 6 :: rowP b2 b.enc 6 :: rowP b3 [.int .u64 0, .int .u64 0, .int .u64 0, .int .u64 0, .int .i64 0, .int .i64 0] 6 :: rowP b4 [.int .u64 0, .int .u64 0, .int .u64 0, .int .u64 0, .int .i64 0, .int .i64 0] 6 :: N) h → seps (X :: (B ++ (rowP b1 a.enc 6 :: rowP b2 b.enc 6 :: rowP b3 [.int .u64 0, .int .u64 0, .int .u64 0, .int .u64 0, .int .i64 0, .int .i64 0] 6 :: rowP b4 [.int .u64 0, .int .u64 0, .int .u64 0, .int .u64 0, .int .i64 0, .int .i64 0] 6 :: [was h0]))) h)
    (HC : ∀ {X h}, seps (X :: rowP b1 a.enc 6 :: rowP b2 b.enc 6 :: rowP b3 [.int .u64 0, .int .u64 0, .int .u64 0, .int .u64 0, .int .i64 0, .int .i64 0] 6 :: rowP b4 [.int .u64 0, .int .u64 0, .int .u64 0, .int .u64 0, .int .i64 0, .int .i64 0] 6 :: N) h → seps (X :: (C ++ (rowP b1 a.enc 6 :: rowP b2 b.enc 6 :: rowP b3 [.int .u64 0, .int .u64 0, .int .u64 0, .int .u64 0, .int .i64 0, .int .i64 0] 6 :: rowP b4 [.int .u64 0, .int .u64 0, .int .u64 0, .int .u64 0, .int .i64 0, .int .i64 0] 6 :: [was h0]))) h)
    (H : seps (rowP b8 [f, g] 2 :: rowP b1 a.enc 6 :: rowP b2 b.enc 6 :: rowP b3 [.int .u64 0, .int .u64 0, .int .u64 0, .int .u64 0, .int .i64 0, .int .i64 0] 6 :: rowP b4 [.int .u64 0, .int .u64 0, .int .u64 0, .int .u64 0, .int .i64 0, .int .i64 0] 6 :: N) h)
    (k : K (nmsV (if wide = false ∧ ((op = 96 ∨ op = 112 ∨ op = 192 ∨ op = 208) ∨ a.low 4 = false ∨ b.low 4 = false) then (a, b, true) else Pa.end a b ((if holds = true then F else G) ⟨a, b, false⟩))) h0) :
    pIf (!wide) (pCall Tryz.prog 60 [(.int .u8 op)] (fgt KP) (.one .bool) fun (r10 : Bool) => pIf r10
  (narrow_Way_j3 holds (fgt KP) (fgt K) b1 b2 b3 b4 b8 true)
  (pLdA 6 ⟨b1, 0, none⟩ fun x11 => pCall Tryz.prog 61 [(.agg x11.toArray), (.int .i64 4)] (fgt KP) (.one .bool) fun (r12 : Bool) => pIf (!r12)
  (narrow_Way_j3 holds (fgt KP) (fgt K) b1 b2 b3 b4 b8 true)
  (pLdA 6 ⟨b2, 0, none⟩ fun x13 => pCall Tryz.prog 61 [(.agg x13.toArray), (.int .i64 4)] (fgt KP) (.one .bool) fun (r14 : Bool) => narrow_Way_j3 holds (fgt KP) (fgt K) b1 b2 b3 b4 b8 (!r14)))) (narrow_Way_j3 holds (fgt KP) (fgt K) b1 b2 b3 b4 b8 false) h := by
  refine if_c (fun hw => ?_) (fun hw => ?_)
  · have hw : wide = false := by simpa using hw
    refine call_c (hasSign_s (one1 ?_))
    refine if_c (fun hs => ?_) (fun hs => ?_)
    · rw [if_pos ⟨hw, .inl (by simpa using hs)⟩] at k
      exact way_early (a := a) (b := b) (N := N) (sub H) k
    refine ldA_c H ?_
    refine call_c (nlow_s (one1 ?_))
    refine if_c (fun hl => ?_) (fun hl => ?_)
    · rw [if_pos ⟨hw, .inr (.inl (by simpa using hl))⟩] at k
      exact way_early (a := a) (b := b) (N := N) (sub H) k
    refine ldA_c H ?_
    refine call_c (nlow_s (one1 ?_))
    cases hb : b.low 4
    · rw [if_pos ⟨hw, .inr (.inr hb)⟩] at k
      exact way_early (a := a) (b := b) (N := N) (sub H) k
    · rw [if_neg (by intro e; rcases e.2 with e | e | e; exact hs (by simpa using e); (rw [hl] at e; cases e); (rw [hb] at e; cases e))] at k
      exact way_mid hf hg HB HC H k
  · rw [if_neg (by rw [hw]; simp)] at k
    exact way_mid hf hg HB HC H k
theorem way_s {wide holds : Bool} {la lb : List Value} {h0 : Heap} [i : NmIs la a] [j : NmIs lb b] (k : K (nmsV (wayF op wide a b holds)) h0) : WpCall Tryz.prog 36 #[.int .u8 op, .bool wide, .agg la.toArray, .agg lb.toArray, .bool holds] KP K h0 := by
  rw [i.eq, j.eq]
  refine narrow_Way_call op wide a.enc b.enc holds ?_
  have H := hstart h0
  unfold narrow_Way
  simp only [zc_eq]
  refine new_c (n := 6) H rfl fun b1 h H => new_c (n := 6) H rfl fun b2 h H => new_c (n := 6) H rfl fun b3 h H => new_c (n := 6) H rfl fun b4 h H => ?_
  refine call_c (ways_s H fun p q h H => one1 ?_)
  refine getS_c H rfl ?_
  simp only [GetAll]
  repeat' (first | (refine ⟨fun e => ⟨_, rfl, ?_⟩, fun e => ?_⟩) | (refine ⟨_, rfl, ?_⟩) | fail)
  all_goals (try subst op)
  · refine new_c (n := 2) H rfl fun b8 h H => ?_
    refine stA_c H (by rfl) fun h H => ?_
    refine join_c (pIf_f rfl ?_)
    refine way_found (a := a) (b := b) (h0 := h0) w_same w_unlike (N := rowP (q 0) [fnV 103] 1 :: rowP (q 1) [fnV 102] 1 :: rowP (q 2) [fnV 102] 1 :: rowP (q 3) [fnV 103] 1 :: rowP (q 4) [fnV 105] 1 :: rowP (q 5) [fnV 104] 1 :: rowP (q 6) [fnV 104] 1 :: rowP (q 7) [fnV 105] 1 :: [was h0]) (fun H => sub H) (fun H => sub H) (sub H) ?_
    simp only [wayF, wayO, Int.reduceEq, if_true, if_false] at k ⊢; exact k
  · refine new_c (n := 2) H rfl fun b8 h H => ?_
    refine stA_c H (by rfl) fun h H => ?_
    refine join_c (pIf_f rfl ?_)
    refine way_found (a := a) (b := b) (h0 := h0) w_unlike w_same (N := rowP (q 0) [fnV 103] 1 :: rowP (q 1) [fnV 102] 1 :: rowP (q 2) [fnV 102] 1 :: rowP (q 3) [fnV 103] 1 :: rowP (q 4) [fnV 105] 1 :: rowP (q 5) [fnV 104] 1 :: rowP (q 6) [fnV 104] 1 :: rowP (q 7) [fnV 105] 1 :: [was h0]) (fun H => sub H) (fun H => sub H) (sub H) ?_
    simp only [wayF, wayO, Int.reduceEq, if_true, if_false] at k ⊢; exact k
  · refine new_c (n := 2) H rfl fun b8 h H => ?_
    refine stA_c H (by rfl) fun h H => ?_
    refine join_c (pIf_f rfl ?_)
    refine way_found (a := a) (b := b) (h0 := h0) w_above (w_turned w_notBelow (q := q 0)) (N := rowP (q 0) [fnV 103] 1 :: rowP (q 1) [fnV 102] 1 :: rowP (q 2) [fnV 102] 1 :: rowP (q 3) [fnV 103] 1 :: rowP (q 4) [fnV 105] 1 :: rowP (q 5) [fnV 104] 1 :: rowP (q 6) [fnV 104] 1 :: rowP (q 7) [fnV 105] 1 :: [was h0]) (fun H => sub H) (fun H => sub H) (sub H) ?_
    simp only [wayF, wayO, Int.reduceEq, if_true, if_false] at k ⊢; exact k
  · refine new_c (n := 2) H rfl fun b8 h H => ?_
    refine stA_c H (by rfl) fun h H => ?_
    refine join_c (pIf_f rfl ?_)
    refine way_found (a := a) (b := b) (h0 := h0) w_notBelow (w_turned w_above (q := q 1)) (N := rowP (q 0) [fnV 103] 1 :: rowP (q 1) [fnV 102] 1 :: rowP (q 2) [fnV 102] 1 :: rowP (q 3) [fnV 103] 1 :: rowP (q 4) [fnV 105] 1 :: rowP (q 5) [fnV 104] 1 :: rowP (q 6) [fnV 104] 1 :: rowP (q 7) [fnV 105] 1 :: [was h0]) (fun H => sub H) (fun H => sub H) (sub H) ?_
    simp only [wayF, wayO, Int.reduceEq, if_true, if_false] at k ⊢; exact k
  · refine new_c (n := 2) H rfl fun b8 h H => ?_
    refine stA_c H (by rfl) fun h H => ?_
    refine join_c (pIf_f rfl ?_)
    refine way_found (a := a) (b := b) (h0 := h0) (w_turned w_above (q := q 2)) w_notBelow (N := rowP (q 0) [fnV 103] 1 :: rowP (q 1) [fnV 102] 1 :: rowP (q 2) [fnV 102] 1 :: rowP (q 3) [fnV 103] 1 :: rowP (q 4) [fnV 105] 1 :: rowP (q 5) [fnV 104] 1 :: rowP (q 6) [fnV 104] 1 :: rowP (q 7) [fnV 105] 1 :: [was h0]) (fun H => sub H) (fun H => sub H) (sub H) ?_
    simp only [wayF, wayO, Int.reduceEq, if_true, if_false] at k ⊢; exact k
  · refine new_c (n := 2) H rfl fun b8 h H => ?_
    refine stA_c H (by rfl) fun h H => ?_
    refine join_c (pIf_f rfl ?_)
    refine way_found (a := a) (b := b) (h0 := h0) (w_turned w_notBelow (q := q 3)) w_above (N := rowP (q 0) [fnV 103] 1 :: rowP (q 1) [fnV 102] 1 :: rowP (q 2) [fnV 102] 1 :: rowP (q 3) [fnV 103] 1 :: rowP (q 4) [fnV 105] 1 :: rowP (q 5) [fnV 104] 1 :: rowP (q 6) [fnV 104] 1 :: rowP (q 7) [fnV 105] 1 :: [was h0]) (fun H => sub H) (fun H => sub H) (sub H) ?_
    simp only [wayF, wayO, Int.reduceEq, if_true, if_false] at k ⊢; exact k
  · refine new_c (n := 2) H rfl fun b8 h H => ?_
    refine stA_c H (by rfl) fun h H => ?_
    refine join_c (pIf_f rfl ?_)
    refine way_found (a := a) (b := b) (h0 := h0) w_aboveSigned (w_turned w_notBelowSigned (q := q 4)) (N := rowP (q 0) [fnV 103] 1 :: rowP (q 1) [fnV 102] 1 :: rowP (q 2) [fnV 102] 1 :: rowP (q 3) [fnV 103] 1 :: rowP (q 4) [fnV 105] 1 :: rowP (q 5) [fnV 104] 1 :: rowP (q 6) [fnV 104] 1 :: rowP (q 7) [fnV 105] 1 :: [was h0]) (fun H => sub H) (fun H => sub H) (sub H) ?_
    simp only [wayF, wayO, Int.reduceEq, if_true, if_false] at k ⊢; exact k
  · refine new_c (n := 2) H rfl fun b8 h H => ?_
    refine stA_c H (by rfl) fun h H => ?_
    refine join_c (pIf_f rfl ?_)
    refine way_found (a := a) (b := b) (h0 := h0) w_notBelowSigned (w_turned w_aboveSigned (q := q 5)) (N := rowP (q 0) [fnV 103] 1 :: rowP (q 1) [fnV 102] 1 :: rowP (q 2) [fnV 102] 1 :: rowP (q 3) [fnV 103] 1 :: rowP (q 4) [fnV 105] 1 :: rowP (q 5) [fnV 104] 1 :: rowP (q 6) [fnV 104] 1 :: rowP (q 7) [fnV 105] 1 :: [was h0]) (fun H => sub H) (fun H => sub H) (sub H) ?_
    simp only [wayF, wayO, Int.reduceEq, if_true, if_false] at k ⊢; exact k
  · refine new_c (n := 2) H rfl fun b8 h H => ?_
    refine stA_c H (by rfl) fun h H => ?_
    refine join_c (pIf_f rfl ?_)
    refine way_found (a := a) (b := b) (h0 := h0) (w_turned w_aboveSigned (q := q 6)) w_notBelowSigned (N := rowP (q 0) [fnV 103] 1 :: rowP (q 1) [fnV 102] 1 :: rowP (q 2) [fnV 102] 1 :: rowP (q 3) [fnV 103] 1 :: rowP (q 4) [fnV 105] 1 :: rowP (q 5) [fnV 104] 1 :: rowP (q 6) [fnV 104] 1 :: rowP (q 7) [fnV 105] 1 :: [was h0]) (fun H => sub H) (fun H => sub H) (sub H) ?_
    simp only [wayF, wayO, Int.reduceEq, if_true, if_false] at k ⊢; exact k
  · refine new_c (n := 2) H rfl fun b8 h H => ?_
    refine stA_c H (by rfl) fun h H => ?_
    refine join_c (pIf_f rfl ?_)
    refine way_found (a := a) (b := b) (h0 := h0) (w_turned w_notBelowSigned (q := q 7)) w_aboveSigned (N := rowP (q 0) [fnV 103] 1 :: rowP (q 1) [fnV 102] 1 :: rowP (q 2) [fnV 102] 1 :: rowP (q 3) [fnV 103] 1 :: rowP (q 4) [fnV 105] 1 :: rowP (q 5) [fnV 104] 1 :: rowP (q 6) [fnV 104] 1 :: rowP (q 7) [fnV 105] 1 :: [was h0]) (fun H => sub H) (fun H => sub H) (sub H) ?_
    simp only [wayF, wayO, Int.reduceEq, if_true, if_false] at k ⊢; exact k
  · refine new_c (n := 2) H rfl fun b8 h H => ?_
    refine stA_c H (by rfl) fun h H => ?_
    refine join_c (pIf_f rfl ?_)
    refine way_found (a := a) (b := b) (h0 := h0) w_common w_apart (N := rowP (q 0) [fnV 103] 1 :: rowP (q 1) [fnV 102] 1 :: rowP (q 2) [fnV 102] 1 :: rowP (q 3) [fnV 103] 1 :: rowP (q 4) [fnV 105] 1 :: rowP (q 5) [fnV 104] 1 :: rowP (q 6) [fnV 104] 1 :: rowP (q 7) [fnV 105] 1 :: [was h0]) (fun H => sub H) (fun H => sub H) (sub H) ?_
    simp only [wayF, wayO, Int.reduceEq, if_true, if_false] at k ⊢; exact k
  · refine new_c (n := 2) H rfl fun b8 h H => ?_
    refine stA_c H (by rfl) fun h H => ?_
    refine join_c (pIf_t rfl ?_)
    refine way_early (a := a) (b := b) (N := [was h0]) (sub H) ?_
    unfold wayF wayO at k
    simp only [*, if_false] at k
    exact k
end
end Go.Proofs.YtpbhanglcophbaaGreat
