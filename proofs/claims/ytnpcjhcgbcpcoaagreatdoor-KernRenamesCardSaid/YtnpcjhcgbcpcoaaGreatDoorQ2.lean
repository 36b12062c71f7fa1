/- The evaluator's texts of this seat's functions. Written by a program of this session. -/
import Derived.Test.YtnpcjhcgbcpcoaaGreatDoorV
import Derived.Test.YtnpcjhcgbcpcoaaGreatDoorE2
set_option linter.unusedVariables false
set_option maxRecDepth 100000
namespace Go.Proofs.YtnpcjhcgbcpcoaaGreatDoor
open Go.Hl
/- (*strings.asciiSet).contains -/
def strings_asciiSet_contains_ea : Ann := .two (.none) (.two (.none) (.none))
noncomputable def strings_asciiSet_contains_e (C : Cal) (N : Nat) (a0 a1 : SV) (K : SV → ER) : ER :=
  eNilCk a0 fun x1 => eIndexAddrS Tryz.prog 248 x1 a1 fun x2 => eLoad Tryz.prog 4 x2 fun x3 => K x3
theorem strings_asciiSet_contains_ee (C : Cal) (N : Nat) (a0 a1 : SV) (K : SV → ER) : eBody Tryz.prog C N Tryz.f252 (Tryz.f252.body.getD .skip) strings_asciiSet_contains_ea [a0, a1] K = strings_asciiSet_contains_e C N a0 a1 K := by kernel_rfl
noncomputable def l252 : LeafT := fun C N args K => match args with
  | [a0, a1] => strings_asciiSet_contains_e C N a0 a1 K
  | _ => eF
theorem lok252 : LeafOk Tryz.prog 252 l252 := ⟨Tryz.f252, Tryz.f252.body.getD .skip, strings_asciiSet_contains_ea, Tryz.func252, by kernel_rfl, Tryz.call252, fun C N args K H e => by
  unfold l252 at e
  split at e
  · rw [strings_asciiSet_contains_ee]; exact e
  · exact eF_no e⟩

/- internal/bytealg.hashStr[string] -/
def internal_bytealg_hashStr_string_ea : Ann := .two (.none) (.two (.none) (.two (.two (.none) (.sub (.loop [(4, .any), (5, .any)] (.two (.two (.none) (.two (.none) (.none))) (.two (.sub (.none)) (.none)))))) (.two (.none) (.two (.two (.none) (.sub (.loop [(6, .any), (7, .any), (8, .any)] (.two (.two (.none) (.two (.none) (.none))) (.two (.sub (.join (.two (.none) (.two (.none) (.none))) (.none) [(6, .any)])) (.none)))))) (.two (.none) (.none))))))
noncomputable def internal_bytealg_hashStr_string_p0 (a0 : SV) (k1 : SV × SV × Unit → ER) (s2 : SV × SV × Unit) : ER :=
  eBin Tryz.prog .mul 229 false s2.1 (.int .u32 16777619) fun x5 => eIndexS Tryz.prog 9 a0 s2.2.1 fun x6 => eConvS Tryz.prog 5 229 x6 fun x7 => eBin Tryz.prog .add 229 false x5 x7 fun x8 => eBin Tryz.prog .add 3 false s2.2.1 (.int .i64 1) fun x9 => eHas .any x8 (eHas .any x9 (k1 (x8, x9, ())))
noncomputable def internal_bytealg_hashStr_string_p1 (k14 : SV × Unit → ER) (s12 : SV × SV × SV × Unit) : ER :=
  eBin Tryz.prog .and 3 false s12.2.2.1 (.int .i64 1) fun x16 => eBin Tryz.prog .neq 3 false x16 (.int .i64 0) fun x17 => eIfV x17
  (eBin Tryz.prog .mul 229 false s12.1 s12.2.1 fun x18 => eHas .any x18 (k14 (x18, ())))
  (eHas .any s12.1 (k14 (s12.1, ())))
noncomputable def internal_bytealg_hashStr_string_p2 (k11 : SV × SV × SV × Unit → ER) (s12 : SV × SV × SV × Unit) : ER :=
  eJoinC (σ := SV × Unit) (fun (k14 : SV × Unit → ER) =>
  internal_bytealg_hashStr_string_p1 k14 s12) fun (s15 : SV × Unit) =>
  eBin Tryz.prog .mul 229 false s12.2.1 s12.2.1 fun x19 => eBin Tryz.prog .shr 3 false s12.2.2.1 (.int .u64 1) fun x20 => eHas .any s15.1 (eHas .any x19 (eHas .any x20 (k11 (s15.1, x19, x20, ()))))
noncomputable def internal_bytealg_hashStr_string_p3 (K : SV → ER) (N : Nat) (a0 : SV) (s2 : SV × SV × Unit) : ER :=
  eLenS Tryz.prog [9] [a0] fun x10 => eHas .any (.int .u32 1) (eHas .any (.int .u32 16777619) (eHas .any x10 (eIter (σ := SV × SV × SV × Unit) (fun (s12 : SV × SV × SV × Unit) (k11 : SV × SV × SV × Unit → ER) =>
  eBin Tryz.prog .gtr 3 false s12.2.2.1 (.int .i64 0) fun x13 => eIfV x13
  (internal_bytealg_hashStr_string_p2 k11 s12)
  (K (.tup [s2.1, s12.1]))) N ((.int .u32 1), (.int .u32 16777619), x10, ()))))
noncomputable def internal_bytealg_hashStr_string_e (C : Cal) (N : Nat) (a0 : SV) (K : SV → ER) : ER :=
  eHas .any (.int .u32 0) (eHas .any (.int .i64 0) (eIter (σ := SV × SV × Unit) (fun (s2 : SV × SV × Unit) (k1 : SV × SV × Unit → ER) =>
  eLenS Tryz.prog [9] [a0] fun x3 => eBin Tryz.prog .lss 3 false s2.2.1 x3 fun x4 => eIfV x4
  (internal_bytealg_hashStr_string_p0 a0 k1 s2)
  (internal_bytealg_hashStr_string_p3 K N a0 s2)) N ((.int .u32 0), (.int .i64 0), ())))
theorem internal_bytealg_hashStr_string_ee (C : Cal) (N : Nat) (a0 : SV) (K : SV → ER) : eBody Tryz.prog C N Tryz.f256 (Tryz.f256.body.getD .skip) internal_bytealg_hashStr_string_ea [a0] K = internal_bytealg_hashStr_string_e C N a0 K := by kernel_rfl
noncomputable def l256 : LeafT := fun C N args K => match args with
  | [a0] => internal_bytealg_hashStr_string_e C N a0 K
  | _ => eF
theorem lok256 : LeafOk Tryz.prog 256 l256 := ⟨Tryz.f256, Tryz.f256.body.getD .skip, internal_bytealg_hashStr_string_ea, Tryz.func256, by kernel_rfl, Tryz.call256, fun C N args K H e => by
  unfold l256 at e
  split at e
  · rw [internal_bytealg_hashStr_string_ee]; exact e
  · exact eF_no e⟩

/- slices.Contains[[]int,int] -/
def slices_Contains_int_int_ea : Ann := .two (.none) (.two (.none) (.none))
noncomputable def slices_Contains_int_int_e (C : Cal) (N : Nat) (a0 a1 : SV) (K : SV → ER) : ER :=
  eCallR Tryz.prog C 271 [a0, a1] 3 fun x1 => eBin Tryz.prog .geq 3 false x1 (.int .i64 0) fun x2 => K x2
theorem slices_Contains_int_int_ee (C : Cal) (N : Nat) (a0 a1 : SV) (K : SV → ER) : eBody Tryz.prog C N Tryz.f261 (Tryz.f261.body.getD .skip) slices_Contains_int_int_ea [a0, a1] K = slices_Contains_int_int_e C N a0 a1 K := by kernel_rfl
noncomputable def l261 : LeafT := fun C N args K => match args with
  | [a0, a1] => slices_Contains_int_int_e C N a0 a1 K
  | _ => eF
theorem lok261 : LeafOk Tryz.prog 261 l261 := ⟨Tryz.f261, Tryz.f261.body.getD .skip, slices_Contains_int_int_ea, Tryz.func261, by kernel_rfl, Tryz.call261, fun C N args K H e => by
  unfold l261 at e
  split at e
  · rw [slices_Contains_int_int_ee]; exact e
  · exact eF_no e⟩

/- slices.IndexFunc[[]string,string] -/
def slices_IndexFunc_string_string_ea : Ann := .two (.none) (.two (.two (.none) (.sub (.loop [(8, .any)] (.two (.none) (.two (.two (.none) (.none)) (.two (.sub (.two (.none) (.two (.none) (.two (.two (.none) (.none)) (.none))))) (.none))))))) (.two (.none) (.none)))
noncomputable def slices_IndexFunc_string_string_p0 (C : Cal) (K : SV → ER) (a0 : SV) (a1 : SV) (k2 : SV × Unit → ER) (s3 : SV × Unit) : ER :=
  eIndexAddrS Tryz.prog 25 a0 s3.1 fun x5 => eLoad Tryz.prog 9 x5 fun x6 => eCallVR Tryz.prog C a1 [x6] 4 fun x7 => eIfV x7
  (K s3.1)
  (eBin Tryz.prog .add 3 false s3.1 (.int .i64 1) fun x8 => eHas .any x8 (k2 (x8, ())))
noncomputable def slices_IndexFunc_string_string_e (C : Cal) (N : Nat) (a0 a1 : SV) (K : SV → ER) : ER :=
  eLenS Tryz.prog [25] [a0] fun x1 => eHas .any (.int .i64 0) (eIter (σ := SV × Unit) (fun (s3 : SV × Unit) (k2 : SV × Unit → ER) =>
  eBin Tryz.prog .lss 3 false s3.1 x1 fun x4 => eIfV x4
  (slices_IndexFunc_string_string_p0 C K a0 a1 k2 s3)
  (K (.int .i64 (-1)))) N ((.int .i64 0), ()))
theorem slices_IndexFunc_string_string_ee (C : Cal) (N : Nat) (a0 a1 : SV) (K : SV → ER) : eBody Tryz.prog C N Tryz.f262 (Tryz.f262.body.getD .skip) slices_IndexFunc_string_string_ea [a0, a1] K = slices_IndexFunc_string_string_e C N a0 a1 K := by kernel_rfl
noncomputable def l262 : LeafT := fun C N args K => match args with
  | [a0, a1] => slices_IndexFunc_string_string_e C N a0 a1 K
  | _ => eF
theorem lok262 : LeafOk Tryz.prog 262 l262 := ⟨Tryz.f262, Tryz.f262.body.getD .skip, slices_IndexFunc_string_string_ea, Tryz.func262, by kernel_rfl, Tryz.call262, fun C N args K H e => by
  unfold l262 at e
  split at e
  · rw [slices_IndexFunc_string_string_ee]; exact e
  · exact eF_no e⟩

/- strings.genSplit -/
def strings_genSplit_ea : Ann := .two (.none) (.two (.two (.none) (.two (.two (.none) (.none)) (.none))) (.two (.two (.none) (.two (.two (.none) (.none)) (.none))) (.join (.two (.none) (.two (.none) (.none))) (.two (.none) (.two (.none) (.two (.none) (.two (.none) (.join (.sub (.loop [(0, .any), (10, .any)] (.two (.two (.none) (.two (.none) (.none))) (.sub (.two (.none) (.two (.two (.none) (.two (.none) (.none))) (.two (.none) (.two (.none) (.none))))))))) (.two (.none) (.two (.none) (.none))) [(0, .any), (10, .any)]))))) [(3, .any)])))
noncomputable def strings_genSplit_p0 (a1 : SV) (a2 : SV) (k16 : SV × SV × Unit → ER) (s17 : SV × SV × Unit) (x12 : SV) (x19 : SV) : ER :=
  eBin Tryz.prog .add 3 false x19 a2 fun x21 => eSliceS Tryz.prog 9 s17.1 none (some (.v x21)) none fun x22 => eIndexAddrS Tryz.prog 25 x12 s17.2.1 fun x23 => eStore Tryz.prog 9 x23 x22 <| eLenS Tryz.prog [9] [a1] fun x24 => eBin Tryz.prog .add 3 false x19 x24 fun x25 => eSliceS Tryz.prog 9 s17.1 (some (.v x25)) none none fun x26 => eBin Tryz.prog .add 3 false s17.2.1 (.int .i64 1) fun x27 => eHas .any x26 (eHas .any x27 (k16 (x26, x27, ())))
noncomputable def strings_genSplit_p1 (C : Cal) (a1 : SV) (a2 : SV) (k14 : SV × SV × Unit → ER) (k16 : SV × SV × Unit → ER) (s17 : SV × SV × Unit) (x12 : SV) : ER :=
  eCallR Tryz.prog C 176 [s17.1, a1] 3 fun x19 => eBin Tryz.prog .lss 3 false x19 (.int .i64 0) fun x20 => eIfV x20
  (eHas .any s17.1 (eHas .any s17.2.1 (k14 (s17.1, s17.2.1, ()))))
  (strings_genSplit_p0 a1 a2 k16 s17 x12 x19)
noncomputable def strings_genSplit_p2 (C : Cal) (N : Nat) (a0 : SV) (a1 : SV) (a2 : SV) (k14 : SV × SV × Unit → ER) (x12 : SV) (x13 : SV) : ER :=
  eHas .any a0 (eHas .any (.int .i64 0) (eIter (σ := SV × SV × Unit) (fun (s17 : SV × SV × Unit) (k16 : SV × SV × Unit → ER) =>
  eBin Tryz.prog .lss 3 false s17.2.1 x13 fun x18 => eIfV x18
  (strings_genSplit_p1 C a1 a2 k14 k16 s17 x12)
  (eHas .any s17.1 (eHas .any s17.2.1 (k14 (s17.1, s17.2.1, ()))))) N (a0, (.int .i64 0), ())))
noncomputable def strings_genSplit_p3 (K : SV → ER) (s15 : SV × SV × Unit) (x12 : SV) : ER :=
  eIndexAddrS Tryz.prog 25 x12 s15.2.1 fun x28 => eStore Tryz.prog 9 x28 s15.1 <| eBin Tryz.prog .add 3 false s15.2.1 (.int .i64 1) fun x29 => eSliceS Tryz.prog 25 x12 none (some (.v x29)) none fun x30 => K x30
noncomputable def strings_genSplit_p4 (C : Cal) (a0 : SV) (a1 : SV) (a3 : SV) (k4 : SV × Unit → ER) : ER :=
  eBin Tryz.prog .lss 3 false a3 (.int .i64 0) fun x6 => eIfV x6
  (eCallR Tryz.prog C 273 [a0, a1] 3 fun x7 => eBin Tryz.prog .add 3 false x7 (.int .i64 1) fun x8 => eHas .any x8 (k4 (x8, ())))
  (eHas .any a3 (k4 (a3, ())))
noncomputable def strings_genSplit_p5 (C : Cal) (K : SV → ER) (N : Nat) (a0 : SV) (a1 : SV) (a2 : SV) (s5 : SV × Unit) : ER :=
  eLenS Tryz.prog [9] [a0] fun x9 => eBin Tryz.prog .add 3 false x9 (.int .i64 1) fun x10 => eMinMaxS false [s5.1, x10] fun x11 => eMakeSliceS Tryz.prog 25 x11 x11 fun x12 => eBin Tryz.prog .sub 3 false x11 (.int .i64 1) fun x13 => eJoinC (σ := SV × SV × Unit) (fun (k14 : SV × SV × Unit → ER) =>
  strings_genSplit_p2 C N a0 a1 a2 k14 x12 x13) fun (s15 : SV × SV × Unit) =>
  strings_genSplit_p3 K s15 x12
noncomputable def strings_genSplit_p6 (C : Cal) (K : SV → ER) (N : Nat) (a0 : SV) (a1 : SV) (a2 : SV) (a3 : SV) : ER :=
  eBin Tryz.prog .eql 9 false a1 (.str []) fun x2 => eIfV x2
  (eCallR Tryz.prog C 272 [a0, a3] 25 fun x3 => K x3)
  (eJoinC (σ := SV × Unit) (fun (k4 : SV × Unit → ER) =>
  strings_genSplit_p4 C a0 a1 a3 k4) fun (s5 : SV × Unit) =>
  strings_genSplit_p5 C K N a0 a1 a2 s5)
noncomputable def strings_genSplit_e (C : Cal) (N : Nat) (a0 a1 a2 a3 : SV) (K : SV → ER) : ER :=
  eBin Tryz.prog .eql 3 false a3 (.int .i64 0) fun x1 => eIfV x1
  (K (.sl ⟨none, 0, .lit 0⟩))
  (strings_genSplit_p6 C K N a0 a1 a2 a3)
theorem strings_genSplit_ee (C : Cal) (N : Nat) (a0 a1 a2 a3 : SV) (K : SV → ER) : eBody Tryz.prog C N Tryz.f263 (Tryz.f263.body.getD .skip) strings_genSplit_ea [a0, a1, a2, a3] K = strings_genSplit_e C N a0 a1 a2 a3 K := by kernel_rfl
noncomputable def l263 : LeafT := fun C N args K => match args with
  | [a0, a1, a2, a3] => strings_genSplit_e C N a0 a1 a2 a3 K
  | _ => eF
theorem lok263 : LeafOk Tryz.prog 263 l263 := ⟨Tryz.f263, Tryz.f263.body.getD .skip, strings_genSplit_ea, Tryz.func263, by kernel_rfl, Tryz.call263, fun C N args K H e => by
  unfold l263 at e
  split at e
  · rw [strings_genSplit_ee]; exact e
  · exact eF_no e⟩

/- strings.IndexByte -/
def strings_IndexByte_ea : Ann := .two (.none) (.two (.none) (.none))
noncomputable def strings_IndexByte_e (C : Cal) (N : Nat) (a0 a1 : SV) (K : SV → ER) : ER :=
  eCallR Tryz.prog C 237 [a0, a1] 3 fun x1 => K x1
theorem strings_IndexByte_ee (C : Cal) (N : Nat) (a0 a1 : SV) (K : SV → ER) : eBody Tryz.prog C N Tryz.f264 (Tryz.f264.body.getD .skip) strings_IndexByte_ea [a0, a1] K = strings_IndexByte_e C N a0 a1 K := by kernel_rfl
noncomputable def l264 : LeafT := fun C N args K => match args with
  | [a0, a1] => strings_IndexByte_e C N a0 a1 K
  | _ => eF
theorem lok264 : LeafOk Tryz.prog 264 l264 := ⟨Tryz.f264, Tryz.f264.body.getD .skip, strings_IndexByte_ea, Tryz.func264, by kernel_rfl, Tryz.call264, fun C N args K H e => by
  unfold l264 at e
  split at e
  · rw [strings_IndexByte_ee]; exact e
  · exact eF_no e⟩

/- unicode/utf8.ValidRune -/
def unicode_utf8_ValidRune_ea : Ann := .two (.none) (.two (.sub (.join (.none) (.two (.two (.none) (.none)) (.join (.none) (.two (.two (.none) (.none)) (.none)) [(10, .any)])) [(3, .any)])) (.two (.none) (.none)))
noncomputable def unicode_utf8_ValidRune_p0 (a0 : SV) (k5 : SV × Unit → ER) : ER :=
  eBin Tryz.prog .lss 21 false (.int .i32 57343) a0 fun x7 => eIfV x7
  (eBin Tryz.prog .leq 21 false a0 (.int .i32 1114111) fun x8 => eHas .any x8 (k5 (x8, ())))
  (eHas .any (.bool false) (k5 ((.bool false), ())))
noncomputable def unicode_utf8_ValidRune_p1 (a0 : SV) (k1 : SV × Unit → ER) : ER :=
  eBin Tryz.prog .leq 21 false (.int .i32 0) a0 fun x3 => eIfV x3
  (eBin Tryz.prog .lss 21 false a0 (.int .i32 55296) fun x4 => eHas .any x4 (k1 (x4, ())))
  (eHas .any (.bool false) (k1 ((.bool false), ())))
noncomputable def unicode_utf8_ValidRune_e (C : Cal) (N : Nat) (a0 : SV) (K : SV → ER) : ER :=
  eJoinC (σ := SV × Unit) (fun (k1 : SV × Unit → ER) =>
  unicode_utf8_ValidRune_p1 a0 k1) fun (s2 : SV × Unit) =>
  eIfV s2.1
  (K (.bool true))
  (eJoinC (σ := SV × Unit) (fun (k5 : SV × Unit → ER) =>
  unicode_utf8_ValidRune_p0 a0 k5) fun (s6 : SV × Unit) =>
  eIfV s6.1
  (K (.bool true))
  (K (.bool false)))
theorem unicode_utf8_ValidRune_ee (C : Cal) (N : Nat) (a0 : SV) (K : SV → ER) : eBody Tryz.prog C N Tryz.f265 (Tryz.f265.body.getD .skip) unicode_utf8_ValidRune_ea [a0] K = unicode_utf8_ValidRune_e C N a0 K := by kernel_rfl
noncomputable def l265 : LeafT := fun C N args K => match args with
  | [a0] => unicode_utf8_ValidRune_e C N a0 K
  | _ => eF
theorem lok265 : LeafOk Tryz.prog 265 l265 := ⟨Tryz.f265, Tryz.f265.body.getD .skip, unicode_utf8_ValidRune_ea, Tryz.func265, by kernel_rfl, Tryz.call265, fun C N args K H e => by
  unfold l265 at e
  split at e
  · rw [unicode_utf8_ValidRune_ee]; exact e
  · exact eF_no e⟩

/- slices.Index[[]int,int] -/
def slices_Index_int_int_ea : Ann := .two (.none) (.two (.two (.none) (.sub (.loop [(8, .any)] (.two (.none) (.two (.two (.none) (.none)) (.two (.sub (.two (.none) (.two (.none) (.two (.two (.none) (.none)) (.none))))) (.none))))))) (.two (.none) (.none)))
noncomputable def slices_Index_int_int_p0 (K : SV → ER) (a0 : SV) (a1 : SV) (k2 : SV × Unit → ER) (s3 : SV × Unit) : ER :=
  eIndexAddrS Tryz.prog 38 a0 s3.1 fun x5 => eLoad Tryz.prog 3 x5 fun x6 => eBin Tryz.prog .eql 3 false a1 x6 fun x7 => eIfV x7
  (K s3.1)
  (eBin Tryz.prog .add 3 false s3.1 (.int .i64 1) fun x8 => eHas .any x8 (k2 (x8, ())))
noncomputable def slices_Index_int_int_e (C : Cal) (N : Nat) (a0 a1 : SV) (K : SV → ER) : ER :=
  eLenS Tryz.prog [38] [a0] fun x1 => eHas .any (.int .i64 0) (eIter (σ := SV × Unit) (fun (s3 : SV × Unit) (k2 : SV × Unit → ER) =>
  eBin Tryz.prog .lss 3 false s3.1 x1 fun x4 => eIfV x4
  (slices_Index_int_int_p0 K a0 a1 k2 s3)
  (K (.int .i64 (-1)))) N ((.int .i64 0), ()))
theorem slices_Index_int_int_ee (C : Cal) (N : Nat) (a0 a1 : SV) (K : SV → ER) : eBody Tryz.prog C N Tryz.f271 (Tryz.f271.body.getD .skip) slices_Index_int_int_ea [a0, a1] K = slices_Index_int_int_e C N a0 a1 K := by kernel_rfl
noncomputable def l271 : LeafT := fun C N args K => match args with
  | [a0, a1] => slices_Index_int_int_e C N a0 a1 K
  | _ => eF
theorem lok271 : LeafOk Tryz.prog 271 l271 := ⟨Tryz.f271, Tryz.f271.body.getD .skip, slices_Index_int_int_ea, Tryz.func271, by kernel_rfl, Tryz.call271, fun C N args K H e => by
  unfold l271 at e
  split at e
  · rw [slices_Index_int_int_ee]; exact e
  · exact eF_no e⟩

end Go.Proofs.YtnpcjhcgbcpcoaaGreatDoor

set_option linter.unusedVariables false
set_option maxRecDepth 100000
namespace Go.Proofs.YtnpcjhcgbcpcoaaGreatDoor
open Go.Hl
/- strings.explode -/
def strings_explode_ea : Ann := .two (.none) (.two (.none) (.join (.join (.none) (.two (.none) (.none)) [(18, .any)]) (.two (.none) (.two (.two (.none) (.sub (.loop [(0, .any), (7, .any)] (.two (.two (.none) (.two (.none) (.none))) (.two (.sub (.two (.none) (.two (.none) (.none)))) (.none)))))) (.join (.two (.none) (.two (.none) (.none))) (.two (.none) (.none)) []))) [(1, .any)]))
noncomputable def strings_explode_p0 (C : Cal) (k9 : SV × SV × Unit → ER) (x8 : SV) (s10 : SV × SV × Unit) : ER :=
  eCallR Tryz.prog C 277 [s10.1] 273 fun x13 => eExtract x13 0 fun x14 => eExtract x13 1 fun x15 => eSliceS Tryz.prog 9 s10.1 none (some (.v x15)) none fun x16 => eIndexAddrS Tryz.prog 25 x8 s10.2.1 fun x17 => eStore Tryz.prog 9 x17 x16 <| eSliceS Tryz.prog 9 s10.1 (some (.v x15)) none none fun x18 => eBin Tryz.prog .add 3 false s10.2.1 (.int .i64 1) fun x19 => eHas .any x18 (eHas .any x19 (k9 (x18, x19, ())))
noncomputable def strings_explode_p1 (s3 : SV × Unit) (x8 : SV) (k20 : Unit → ER) (s10 : SV × SV × Unit) : ER :=
  eBin Tryz.prog .gtr 3 false s3.1 (.int .i64 0) fun x22 => eIfV x22
  (eBin Tryz.prog .sub 3 false s3.1 (.int .i64 1) fun x23 => eIndexAddrS Tryz.prog 25 x8 x23 fun x24 => eStore Tryz.prog 9 x24 s10.1 <| k20 (()))
  (k20 (()))
noncomputable def strings_explode_p2 (C : Cal) (K : SV → ER) (k9 : SV × SV × Unit → ER) (s3 : SV × Unit) (x8 : SV) (s10 : SV × SV × Unit) : ER :=
  eBin Tryz.prog .sub 3 false s3.1 (.int .i64 1) fun x11 => eBin Tryz.prog .lss 3 false s10.2.1 x11 fun x12 => eIfV x12
  (strings_explode_p0 C k9 x8 s10)
  (eJoinC (σ := Unit) (fun (k20 : Unit → ER) =>
  strings_explode_p1 s3 x8 k20 s10) fun (s21 : Unit) =>
  K x8)
noncomputable def strings_explode_p3 (a1 : SV) (k2 : SV × Unit → ER) (x1 : SV) : ER :=
  eJoinC (σ := SV × Unit) (fun (k4 : SV × Unit → ER) =>
  eBin Tryz.prog .lss 3 false a1 (.int .i64 0) fun x6 => eIfV x6
  (eHas .any (.bool true) (k4 ((.bool true), ())))
  (eBin Tryz.prog .gtr 3 false a1 x1 fun x7 => eHas .any x7 (k4 (x7, ())))) fun (s5 : SV × Unit) =>
  eIfV s5.1
  (eHas .any x1 (k2 (x1, ())))
  (eHas .any a1 (k2 (a1, ())))
noncomputable def strings_explode_p4 (C : Cal) (K : SV → ER) (N : Nat) (a0 : SV) (s3 : SV × Unit) : ER :=
  eMakeSliceS Tryz.prog 25 s3.1 s3.1 fun x8 => eHas .any a0 (eHas .any (.int .i64 0) (eIter (σ := SV × SV × Unit) (fun (s10 : SV × SV × Unit) (k9 : SV × SV × Unit → ER) =>
  strings_explode_p2 C K k9 s3 x8 s10) N (a0, (.int .i64 0), ())))
noncomputable def strings_explode_e (C : Cal) (N : Nat) (a0 a1 : SV) (K : SV → ER) : ER :=
  eCallR Tryz.prog C 276 [a0] 3 fun x1 => eJoinC (σ := SV × Unit) (fun (k2 : SV × Unit → ER) =>
  strings_explode_p3 a1 k2 x1) fun (s3 : SV × Unit) =>
  strings_explode_p4 C K N a0 s3
theorem strings_explode_ee (C : Cal) (N : Nat) (a0 a1 : SV) (K : SV → ER) : eBody Tryz.prog C N Tryz.f272 (Tryz.f272.body.getD .skip) strings_explode_ea [a0, a1] K = strings_explode_e C N a0 a1 K := by kernel_rfl
noncomputable def l272 : LeafT := fun C N args K => match args with
  | [a0, a1] => strings_explode_e C N a0 a1 K
  | _ => eF
theorem lok272 : LeafOk Tryz.prog 272 l272 := ⟨Tryz.f272, Tryz.f272.body.getD .skip, strings_explode_ea, Tryz.func272, by kernel_rfl, Tryz.call272, fun C N args K H e => by
  unfold l272 at e
  split at e
  · rw [strings_explode_ee]; exact e
  · exact eF_no e⟩

/- strings.Count -/
def strings_Count_ea : Ann := .two (.none) (.two (.two (.none) (.two (.two (.none) (.none)) (.none))) (.two (.two (.none) (.two (.two (.none) (.none)) (.none))) (.two (.none) (.sub (.loop [(0, .any), (5, .any)] (.sub (.two (.none) (.two (.two (.none) (.two (.two (.none) (.none)) (.none))) (.two (.none) (.none))))))))))
noncomputable def strings_Count_p0 (a1 : SV) (k9 : SV × SV × Unit → ER) (s10 : SV × SV × Unit) (x11 : SV) : ER :=
  eBin Tryz.prog .add 3 false s10.2.1 (.int .i64 1) fun x13 => eLenS Tryz.prog [9] [a1] fun x14 => eBin Tryz.prog .add 3 false x11 x14 fun x15 => eSliceS Tryz.prog 9 s10.1 (some (.v x15)) none none fun x16 => eHas .any x16 (eHas .any x13 (k9 (x16, x13, ())))
noncomputable def strings_Count_p1 (C : Cal) (K : SV → ER) (N : Nat) (a0 : SV) (a1 : SV) : ER :=
  eHas .any a0 (eHas .any (.int .i64 0) (eIter (σ := SV × SV × Unit) (fun (s10 : SV × SV × Unit) (k9 : SV × SV × Unit → ER) =>
  eCallR Tryz.prog C 176 [s10.1, a1] 3 fun x11 => eBin Tryz.prog .eql 3 false x11 (.int .i64 (-1)) fun x12 => eIfV x12
  (K s10.2.1)
  (strings_Count_p0 a1 k9 s10 x11)) N (a0, (.int .i64 0), ())))
noncomputable def strings_Count_p2 (C : Cal) (K : SV → ER) (N : Nat) (a0 : SV) (a1 : SV) : ER :=
  eLenS Tryz.prog [9] [a1] fun x5 => eBin Tryz.prog .eql 3 false x5 (.int .i64 1) fun x6 => eIfV x6
  (eIndexS Tryz.prog 9 a1 (.int .i64 0) fun x7 => eCallR Tryz.prog C 278 [a0, x7] 3 fun x8 => K x8)
  (strings_Count_p1 C K N a0 a1)
noncomputable def strings_Count_e (C : Cal) (N : Nat) (a0 a1 : SV) (K : SV → ER) : ER :=
  eLenS Tryz.prog [9] [a1] fun x1 => eBin Tryz.prog .eql 3 false x1 (.int .i64 0) fun x2 => eIfV x2
  (eCallR Tryz.prog C 276 [a0] 3 fun x3 => eBin Tryz.prog .add 3 false x3 (.int .i64 1) fun x4 => K x4)
  (strings_Count_p2 C K N a0 a1)
theorem strings_Count_ee (C : Cal) (N : Nat) (a0 a1 : SV) (K : SV → ER) : eBody Tryz.prog C N Tryz.f273 (Tryz.f273.body.getD .skip) strings_Count_ea [a0, a1] K = strings_Count_e C N a0 a1 K := by kernel_rfl
noncomputable def l273 : LeafT := fun C N args K => match args with
  | [a0, a1] => strings_Count_e C N a0 a1 K
  | _ => eF
theorem lok273 : LeafOk Tryz.prog 273 l273 := ⟨Tryz.f273, Tryz.f273.body.getD .skip, strings_Count_ea, Tryz.func273, by kernel_rfl, Tryz.call273, fun C N args K H e => by
  unfold l273 at e
  split at e
  · rw [strings_Count_ee]; exact e
  · exact eF_no e⟩

/- unicode/utf8.RuneCountInString -/
def unicode_utf8_RuneCountInString_ea : Ann := .two (.none) (.two (.two (.none) (.sub (.loop [(2, .any)] (.two (.none) (.two (.two (.none) (.none)) (.sub (.none))))))) (.two (.none) (.none)))
noncomputable def unicode_utf8_RuneCountInString_e (C : Cal) (N : Nat) (a0 : SV) (K : SV → ER) : ER :=
  eRange Tryz.prog 9 a0 fun x1 => eHas .any (.int .i64 0) (eIter (σ := SV × Unit) (fun (s3 : SV × Unit) (k2 : SV × Unit → ER) =>
  eNextV x1 (fun a4 c5 => eBin Tryz.prog .add 3 false s3.1 (.int .i64 1) fun x6 => eHas .any x6 (k2 (x6, ())))
  (K s3.1)) N ((.int .i64 0), ()))
theorem unicode_utf8_RuneCountInString_ee (C : Cal) (N : Nat) (a0 : SV) (K : SV → ER) : eBody Tryz.prog C N Tryz.f276 (Tryz.f276.body.getD .skip) unicode_utf8_RuneCountInString_ea [a0] K = unicode_utf8_RuneCountInString_e C N a0 K := by kernel_rfl
noncomputable def l276 : LeafT := fun C N args K => match args with
  | [a0] => unicode_utf8_RuneCountInString_e C N a0 K
  | _ => eF
theorem lok276 : LeafOk Tryz.prog 276 l276 := ⟨Tryz.f276, Tryz.f276.body.getD .skip, unicode_utf8_RuneCountInString_ea, Tryz.func276, by kernel_rfl, Tryz.call276, fun C N args K H e => by
  unfold l276 at e
  split at e
  · rw [unicode_utf8_RuneCountInString_ee]; exact e
  · exact eF_no e⟩

/- unicode/utf8.DecodeRuneInString -/
def unicode_utf8_DecodeRuneInString_ea : Ann := .two (.none) (.two (.join (.none) (.two (.two (.none) (.none)) (.none)) [(10, .any)]) (.none))
noncomputable def unicode_utf8_DecodeRuneInString_p0 (a0 : SV) (k1 : SV × Unit → ER) : ER :=
  eBin Tryz.prog .neq 9 false a0 (.str []) fun x3 => eIfV x3
  (eIndexS Tryz.prog 9 a0 (.int .i64 0) fun x4 => eBin Tryz.prog .lss 5 false x4 (.int .u8 128) fun x5 => eHas .any x5 (k1 (x5, ())))
  (eHas .any (.bool false) (k1 ((.bool false), ())))
noncomputable def unicode_utf8_DecodeRuneInString_p1 (C : Cal) (K : SV → ER) (a0 : SV) (s2 : SV × Unit) : ER :=
  eIfV s2.1
  (eIndexS Tryz.prog 9 a0 (.int .i64 0) fun x6 => eConvS Tryz.prog 5 21 x6 fun x7 => K (.tup [x7, (.int .i64 1)]))
  (eCallR Tryz.prog C 279 [a0] 273 fun x8 => eExtract x8 0 fun x9 => eExtract x8 1 fun x10 => K (.tup [x9, x10]))
noncomputable def unicode_utf8_DecodeRuneInString_e (C : Cal) (N : Nat) (a0 : SV) (K : SV → ER) : ER :=
  eJoinC (σ := SV × Unit) (fun (k1 : SV × Unit → ER) =>
  unicode_utf8_DecodeRuneInString_p0 a0 k1) fun (s2 : SV × Unit) =>
  unicode_utf8_DecodeRuneInString_p1 C K a0 s2
theorem unicode_utf8_DecodeRuneInString_ee (C : Cal) (N : Nat) (a0 : SV) (K : SV → ER) : eBody Tryz.prog C N Tryz.f277 (Tryz.f277.body.getD .skip) unicode_utf8_DecodeRuneInString_ea [a0] K = unicode_utf8_DecodeRuneInString_e C N a0 K := by kernel_rfl
noncomputable def l277 : LeafT := fun C N args K => match args with
  | [a0] => unicode_utf8_DecodeRuneInString_e C N a0 K
  | _ => eF
theorem lok277 : LeafOk Tryz.prog 277 l277 := ⟨Tryz.f277, Tryz.f277.body.getD .skip, unicode_utf8_DecodeRuneInString_ea, Tryz.func277, by kernel_rfl, Tryz.call277, fun C N args K H e => by
  unfold l277 at e
  split at e
  · rw [unicode_utf8_DecodeRuneInString_ee]; exact e
  · exact eF_no e⟩

/- unicode/utf8.decodeRuneInStringSlow -/
def unicode_utf8_decodeRuneInStringSlow_ea : Ann := .two (.none) (.two (.none) (.two (.two (.none) (.two (.two (.none) (.none)) (.none))) (.two (.none) (.two (.none) (.two (.two (.none) (.two (.two (.none) (.two (.none) (.none))) (.none))) (.two (.none) (.two (.none) (.two (.two (.none) (.two (.two (.none) (.none)) (.none))) (.two (.none) (.two (.join (.none) (.two (.two (.none) (.none)) (.none)) [(57, .any)]) (.two (.two (.none) (.two (.two (.none) (.none)) (.none))) (.two (.none) (.two (.join (.none) (.two (.two (.none) (.none)) (.none)) [(75, .any)]) (.two (.two (.none) (.two (.two (.none) (.none)) (.none))) (.two (.none) (.two (.join (.none) (.two (.two (.none) (.none)) (.none)) [(98, .any)]) (.two (.none) (.none))))))))))))))))))
noncomputable def unicode_utf8_decodeRuneInStringSlow_e (C : Cal) (N : Nat) (a0 : SV) (K : SV → ER) : ER :=
  eLenS Tryz.prog [9] [a0] fun x1 => eBin Tryz.prog .lss 3 false x1 (.int .i64 1) fun x2 => eIfV x2
  (K (.tup [(.int .i32 65533), (.int .i64 0)]))
  (eIndexS Tryz.prog 9 a0 (.int .i64 0) fun x3 => eF)
theorem unicode_utf8_decodeRuneInStringSlow_ee (C : Cal) (N : Nat) (a0 : SV) (K : SV → ER) : eBody Tryz.prog C N Tryz.f279 (Tryz.f279.body.getD .skip) unicode_utf8_decodeRuneInStringSlow_ea [a0] K = unicode_utf8_decodeRuneInStringSlow_e C N a0 K := by kernel_rfl
noncomputable def l279 : LeafT := fun C N args K => match args with
  | [a0] => unicode_utf8_decodeRuneInStringSlow_e C N a0 K
  | _ => eF
theorem lok279 : LeafOk Tryz.prog 279 l279 := ⟨Tryz.f279, Tryz.f279.body.getD .skip, unicode_utf8_decodeRuneInStringSlow_ea, Tryz.func279, by kernel_rfl, Tryz.call279, fun C N args K H e => by
  unfold l279 at e
  split at e
  · rw [unicode_utf8_decodeRuneInStringSlow_ee]; exact e
  · exact eF_no e⟩

/- (halberd/inodes.free).Len -/
def inodes_free_Len_ea : Ann := .two (.none) (.two (.none) (.none))
noncomputable def inodes_free_Len_e (C : Cal) (N : Nat) (a0 : SV) (K : SV → ER) : ER :=
  eLenS Tryz.prog [62] [a0] fun x1 => K x1
theorem inodes_free_Len_ee (C : Cal) (N : Nat) (a0 : SV) (K : SV → ER) : eBody Tryz.prog C N Tryz.f296 (Tryz.f296.body.getD .skip) inodes_free_Len_ea [a0] K = inodes_free_Len_e C N a0 K := by kernel_rfl
noncomputable def l296 : LeafT := fun C N args K => match args with
  | [a0] => inodes_free_Len_e C N a0 K
  | _ => eF
theorem lok296 : LeafOk Tryz.prog 296 l296 := ⟨Tryz.f296, Tryz.f296.body.getD .skip, inodes_free_Len_ea, Tryz.func296, by kernel_rfl, Tryz.call296, fun C N args K H e => by
  unfold l296 at e
  split at e
  · rw [inodes_free_Len_ee]; exact e
  · exact eF_no e⟩

/- (halberd/inodes.free).Less -/
def inodes_free_Less_ea : Ann := .two (.none) (.two (.ord [0, 1, 2, 4, 5, 6, 3, 7, 8, 9]) (.none))
noncomputable def inodes_free_Less_e (C : Cal) (N : Nat) (a0 a1 a2 : SV) (K : SV → ER) : ER :=
  eIndexAddrS Tryz.prog 62 a0 a1 fun x1 => eIndexAddrS Tryz.prog 62 a0 a2 fun x2 => eLoad Tryz.prog 3 x1 fun x3 => eLoad Tryz.prog 3 x2 fun x4 => eBin Tryz.prog .lss 3 false x3 x4 fun x5 => K x5
theorem inodes_free_Less_ee (C : Cal) (N : Nat) (a0 a1 a2 : SV) (K : SV → ER) : eBody Tryz.prog C N Tryz.f297 (Tryz.f297.body.getD .skip) inodes_free_Less_ea [a0, a1, a2] K = inodes_free_Less_e C N a0 a1 a2 K := by kernel_rfl
noncomputable def l297 : LeafT := fun C N args K => match args with
  | [a0, a1, a2] => inodes_free_Less_e C N a0 a1 a2 K
  | _ => eF
theorem lok297 : LeafOk Tryz.prog 297 l297 := ⟨Tryz.f297, Tryz.f297.body.getD .skip, inodes_free_Less_ea, Tryz.func297, by kernel_rfl, Tryz.call297, fun C N args K H e => by
  unfold l297 at e
  split at e
  · rw [inodes_free_Less_ee]; exact e
  · exact eF_no e⟩

/- (halberd/inodes.free).Swap -/
def inodes_free_Swap_ea : Ann := .ord [0, 1, 2, 3, 4, 5, 6, 8, 9, 10, 7, 11, 12, 13, 14, 15]
noncomputable def inodes_free_Swap_e (C : Cal) (N : Nat) (a0 a1 a2 : SV) (K : SV → ER) : ER :=
  eIndexAddrS Tryz.prog 62 a0 a2 fun x1 => eIndexAddrS Tryz.prog 62 a0 a1 fun x2 => eLoad Tryz.prog 3 x1 fun x3 => eLoad Tryz.prog 3 x2 fun x4 => eIndexAddrS Tryz.prog 62 a0 a1 fun x5 => eStore Tryz.prog 3 x5 x3 <| eIndexAddrS Tryz.prog 62 a0 a2 fun x6 => eStore Tryz.prog 3 x6 x4 <| K (.tup [])
theorem inodes_free_Swap_ee (C : Cal) (N : Nat) (a0 a1 a2 : SV) (K : SV → ER) : eBody Tryz.prog C N Tryz.f298 (Tryz.f298.body.getD .skip) inodes_free_Swap_ea [a0, a1, a2] K = inodes_free_Swap_e C N a0 a1 a2 K := by kernel_rfl
noncomputable def l298 : LeafT := fun C N args K => match args with
  | [a0, a1, a2] => inodes_free_Swap_e C N a0 a1 a2 K
  | _ => eF
theorem lok298 : LeafOk Tryz.prog 298 l298 := ⟨Tryz.f298, Tryz.f298.body.getD .skip, inodes_free_Swap_ea, Tryz.func298, by kernel_rfl, Tryz.call298, fun C N args K H e => by
  unfold l298 at e
  split at e
  · rw [inodes_free_Swap_ee]; exact e
  · exact eF_no e⟩

end Go.Proofs.YtnpcjhcgbcpcoaaGreatDoor

set_option linter.unusedVariables false
set_option maxRecDepth 100000
namespace Go.Proofs.YtnpcjhcgbcpcoaaGreatDoor
open Go.Hl
/- (*halberd/inodes.free).Pop -/
def inodes_free_Pop_ea : Ann := .two (.none) (.two (.none) (.two (.none) (.two (.none) (.two (.none) (.none)))))
noncomputable def inodes_free_Pop_e (C : Cal) (N : Nat) (a0 : SV) (K : SV → ER) : ER :=
  eNilCk a0 fun x1 => eLoad Tryz.prog 62 x1 fun x2 => eLenS Tryz.prog [62] [x2] fun x3 => eBin Tryz.prog .sub 3 false x3 (.int .i64 1) fun x4 => eIndexAddrS Tryz.prog 62 x2 x4 fun x5 => eLoad Tryz.prog 3 x5 fun x6 => eLenS Tryz.prog [62] [x2] fun x7 => eBin Tryz.prog .sub 3 false x7 (.int .i64 1) fun x8 => eSliceS Tryz.prog 62 x2 none (some (.v x8)) none fun x9 => eNilCk a0 fun x10 => eStore Tryz.prog 62 x10 x9 <| eMakeIface Tryz.prog 3 x6 fun x11 => K x11
theorem inodes_free_Pop_ee (C : Cal) (N : Nat) (a0 : SV) (K : SV → ER) : eBody Tryz.prog C N Tryz.f299 (Tryz.f299.body.getD .skip) inodes_free_Pop_ea [a0] K = inodes_free_Pop_e C N a0 K := by kernel_rfl
noncomputable def l299 : LeafT := fun C N args K => match args with
  | [a0] => inodes_free_Pop_e C N a0 K
  | _ => eF
theorem lok299 : LeafOk Tryz.prog 299 l299 := ⟨Tryz.f299, Tryz.f299.body.getD .skip, inodes_free_Pop_ea, Tryz.func299, by kernel_rfl, Tryz.call299, fun C N args K H e => by
  unfold l299 at e
  split at e
  · rw [inodes_free_Pop_ee]; exact e
  · exact eF_no e⟩

/- (*halberd/inodes.free).Push -/
def inodes_free_Push_ea : Ann := .ord [0, 1, 2, 4, 5, 3, 6, 7, 8, 9]
noncomputable def inodes_free_Push_e (C : Cal) (N : Nat) (a0 a1 : SV) (K : SV → ER) : ER :=
  eNilCk a0 fun x1 => eTA Tryz.prog a1 3 false fun x2 => eLoad Tryz.prog 62 x1 fun x3 => eBuildSlice Tryz.prog 62 1 [(0, x2)] fun x4 => eApp Tryz.prog [62, 62] [x3, x4] fun x5 => eNilCk a0 fun x6 => eStore Tryz.prog 62 x6 x5 <| K (.tup [])
theorem inodes_free_Push_ee (C : Cal) (N : Nat) (a0 a1 : SV) (K : SV → ER) : eBody Tryz.prog C N Tryz.f300 (Tryz.f300.body.getD .skip) inodes_free_Push_ea [a0, a1] K = inodes_free_Push_e C N a0 a1 K := by kernel_rfl
noncomputable def l300 : LeafT := fun C N args K => match args with
  | [a0, a1] => inodes_free_Push_e C N a0 a1 K
  | _ => eF
theorem lok300 : LeafOk Tryz.prog 300 l300 := ⟨Tryz.f300, Tryz.f300.body.getD .skip, inodes_free_Push_ea, Tryz.func300, by kernel_rfl, Tryz.call300, fun C N args K H e => by
  unfold l300 at e
  split at e
  · rw [inodes_free_Push_ee]; exact e
  · exact eF_no e⟩

end Go.Proofs.YtnpcjhcgbcpcoaaGreatDoor
