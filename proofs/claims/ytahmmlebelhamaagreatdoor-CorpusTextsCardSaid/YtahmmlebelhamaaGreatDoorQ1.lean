/- The evaluator's texts of this seat's functions. Written by a program of this session. -/
import Derived.Test.YtahmmlebelhamaaGreatDoorV
import Derived.Test.YtahmmlebelhamaaGreatDoorE2
set_option linter.unusedVariables false
set_option maxRecDepth 100000
namespace Go.Proofs.YtahmmlebelhamaaGreatDoor
open Go.Hl
/- strconv.baseError -/
def strconv_baseError_ea : Ann := .two (.none) (.two (.none) (.none))
noncomputable def strconv_baseError_e (C : Cal) (N : Nat) (a0 a1 a2 : SV) (K : SV → ER) : ER :=
  eCallR Tryz.prog C 224 [a1] 9 fun x1 => eCallR Tryz.prog C 226 [a2] 9 fun x2 => eBin Tryz.prog .add 9 false (.str [105, 110, 118, 97, 108, 105, 100, 32, 98, 97, 115, 101, 32]) x2 fun x3 => eCallR Tryz.prog C 225 [x3] 126 fun x4 => eBuild Tryz.prog 286 [(0, a0), (1, x1), (2, x4)] fun x5 => eBox Tryz.prog 286 x5 fun x6 => K x6
theorem strconv_baseError_ee (C : Cal) (N : Nat) (a0 a1 a2 : SV) (K : SV → ER) : eBody Tryz.prog C N Tryz.f178 (Tryz.f178.body.getD .skip) strconv_baseError_ea [a0, a1, a2] K = strconv_baseError_e C N a0 a1 a2 K := by kernel_rfl
noncomputable def l178 : LeafT := fun C N args K => match args with
  | [a0, a1, a2] => strconv_baseError_e C N a0 a1 a2 K
  | _ => eF
theorem lok178 : LeafOk Tryz.prog 178 l178 := .inl ⟨Tryz.f178, Tryz.f178.body.getD .skip, strconv_baseError_ea, Tryz.func178, by kernel_rfl, Tryz.call178, fun C N args K H e => by
  unfold l178 at e
  split at e
  · rw [strconv_baseError_ee]; exact e
  · exact eF_no e⟩

/- strconv.bitSizeError -/
def strconv_bitSizeError_ea : Ann := .two (.none) (.two (.none) (.none))
noncomputable def strconv_bitSizeError_e (C : Cal) (N : Nat) (a0 a1 a2 : SV) (K : SV → ER) : ER :=
  eCallR Tryz.prog C 224 [a1] 9 fun x1 => eCallR Tryz.prog C 226 [a2] 9 fun x2 => eBin Tryz.prog .add 9 false (.str [105, 110, 118, 97, 108, 105, 100, 32, 98, 105, 116, 32, 115, 105, 122, 101, 32]) x2 fun x3 => eCallR Tryz.prog C 225 [x3] 126 fun x4 => eBuild Tryz.prog 286 [(0, a0), (1, x1), (2, x4)] fun x5 => eBox Tryz.prog 286 x5 fun x6 => K x6
theorem strconv_bitSizeError_ee (C : Cal) (N : Nat) (a0 a1 a2 : SV) (K : SV → ER) : eBody Tryz.prog C N Tryz.f179 (Tryz.f179.body.getD .skip) strconv_bitSizeError_ea [a0, a1, a2] K = strconv_bitSizeError_e C N a0 a1 a2 K := by kernel_rfl
noncomputable def l179 : LeafT := fun C N args K => match args with
  | [a0, a1, a2] => strconv_bitSizeError_e C N a0 a1 a2 K
  | _ => eF
theorem lok179 : LeafOk Tryz.prog 179 l179 := .inl ⟨Tryz.f179, Tryz.f179.body.getD .skip, strconv_bitSizeError_ea, Tryz.func179, by kernel_rfl, Tryz.call179, fun C N args K H e => by
  unfold l179 at e
  split at e
  · rw [strconv_bitSizeError_ee]; exact e
  · exact eF_no e⟩

/- internal/strconv.FormatInt -/
def internal_strconv_FormatInt_ea : Ann := .two (.none) (.two (.two (.none) (.two (.two (.join (.none) (.two (.two (.none) (.none)) (.none)) [(17, .any)]) (.two (.none) (.two (.none) (.join (.two (.none) (.two (.none) (.none))) (.two (.none) (.two (.none) (.two (.two (.none) (.two (.two (.none) (.two (.none) (.none))) (.none))) (.two (.none) (.none))))) [(6, .any)])))) (.none))) (.two (.none) (.two (.none) (.none))))
noncomputable def internal_strconv_FormatInt_p0 (K : SV → ER) (x7 : SV) (x13 : SV) : ER :=
  eIndexAddrS Tryz.prog 289 x7 (.int .i64 0) fun x18 => eStore Tryz.prog 5 x18 (.int .u8 45) <| eBin Tryz.prog .add 3 false (.int .i64 1) x13 fun x19 => eSliceS Tryz.prog 289 x7 none (some (.v x19)) none fun x20 => eConvS Tryz.prog 30 9 x20 fun x21 => K x21
noncomputable def internal_strconv_FormatInt_p1 (C : Cal) (K : SV → ER) (a0 : SV) (x7 : SV) (s10 : SV × Unit) : ER :=
  eCallR Tryz.prog C 228 [s10.1] 3 fun x13 => eBin Tryz.prog .add 3 false (.int .i64 1) x13 fun x14 => eSliceS Tryz.prog 289 x7 (some (.v (.int .i64 1))) (some (.v x14)) none fun x15 => eCallR Tryz.prog C 229 [x15, s10.1] 0 fun x16 => eBin Tryz.prog .lss 2 false a0 (.int .i64 0) fun x17 => eIfV x17
  (internal_strconv_FormatInt_p0 K x7 x13)
  (eBin Tryz.prog .add 3 false (.int .i64 1) x13 fun x22 => eSliceS Tryz.prog 289 x7 (some (.v (.int .i64 1))) (some (.v x22)) none fun x23 => eConvS Tryz.prog 30 9 x23 fun x24 => K x24)
noncomputable def internal_strconv_FormatInt_p2 (C : Cal) (K : SV → ER) (a0 : SV) : ER :=
  eAlloc Tryz.prog 289 fun x7 => eConvS Tryz.prog 2 53 a0 fun x8 => eJoinC (σ := SV × Unit) (fun (k9 : SV × Unit → ER) =>
  eBin Tryz.prog .lss 2 false a0 (.int .i64 0) fun x11 => eIfV x11
  (eUnS .neg x8 fun x12 => eHas .any x12 (k9 (x12, ())))
  (eHas .any x8 (k9 (x8, ())))) fun (s10 : SV × Unit) =>
  internal_strconv_FormatInt_p1 C K a0 x7 s10
noncomputable def internal_strconv_FormatInt_p3 (C : Cal) (K : SV → ER) (a0 : SV) : ER :=
  eJoinC (σ := SV × Unit) (fun (k2 : SV × Unit → ER) =>
  eBin Tryz.prog .leq 2 false (.int .i64 0) a0 fun x4 => eIfV x4
  (eBin Tryz.prog .lss 2 false a0 (.int .i64 100) fun x5 => eHas .any x5 (k2 (x5, ())))
  (eHas .any (.bool false) (k2 ((.bool false), ())))) fun (s3 : SV × Unit) =>
  eIfV s3.1
  (eCallR Tryz.prog C 227 [a0] 9 fun x6 => K x6)
  (internal_strconv_FormatInt_p2 C K a0)
noncomputable def internal_strconv_FormatInt_p4 (C : Cal) (K : SV → ER) (a0 : SV) (a1 : SV) : ER :=
  eConvS Tryz.prog 2 53 a0 fun x25 => eBin Tryz.prog .lss 2 false a0 (.int .i64 0) fun x26 => eCallR Tryz.prog C 230 [(.sl ⟨none, 0, .lit 0⟩), x25, a1, x26, (.bool false)] 292 fun x27 => eExtract x27 0 fun x28 => eExtract x27 1 fun x29 => K x29
noncomputable def internal_strconv_FormatInt_e (C : Cal) (N : Nat) (a0 a1 : SV) (K : SV → ER) : ER :=
  eBin Tryz.prog .eql 3 false a1 (.int .i64 10) fun x1 => eIfV x1
  (internal_strconv_FormatInt_p3 C K a0)
  (internal_strconv_FormatInt_p4 C K a0 a1)
theorem internal_strconv_FormatInt_ee (C : Cal) (N : Nat) (a0 a1 : SV) (K : SV → ER) : eBody Tryz.prog C N Tryz.f180 (Tryz.f180.body.getD .skip) internal_strconv_FormatInt_ea [a0, a1] K = internal_strconv_FormatInt_e C N a0 a1 K := by kernel_rfl
noncomputable def l180 : LeafT := fun C N args K => match args with
  | [a0, a1] => internal_strconv_FormatInt_e C N a0 a1 K
  | _ => eF
theorem lok180 : LeafOk Tryz.prog 180 l180 := .inl ⟨Tryz.f180, Tryz.f180.body.getD .skip, internal_strconv_FormatInt_ea, Tryz.func180, by kernel_rfl, Tryz.call180, fun C N args K H e => by
  unfold l180 at e
  split at e
  · rw [internal_strconv_FormatInt_ee]; exact e
  · exact eF_no e⟩

/- internal/stringslite.CutSuffix -/
def internal_stringslite_CutSuffix_ea : Ann := .two (.none) (.two (.two (.none) (.two (.two (.none) (.none)) (.none))) (.two (.none) (.none)))
noncomputable def internal_stringslite_CutSuffix_e (C : Cal) (N : Nat) (a0 a1 : SV) (K : SV → ER) : ER :=
  eCallR Tryz.prog C 97 [a0, a1] 4 fun x1 => eUnS .not x1 fun x2 => eIfV x2
  (K (.tup [a0, (.bool false)]))
  (eLenS Tryz.prog [9] [a0] fun x3 => eLenS Tryz.prog [9] [a1] fun x4 => eBin Tryz.prog .sub 3 false x3 x4 fun x5 => eSliceS Tryz.prog 9 a0 none (some (.v x5)) none fun x6 => K (.tup [x6, (.bool true)]))
theorem internal_stringslite_CutSuffix_ee (C : Cal) (N : Nat) (a0 a1 : SV) (K : SV → ER) : eBody Tryz.prog C N Tryz.f181 (Tryz.f181.body.getD .skip) internal_stringslite_CutSuffix_ea [a0, a1] K = internal_stringslite_CutSuffix_e C N a0 a1 K := by kernel_rfl
noncomputable def l181 : LeafT := fun C N args K => match args with
  | [a0, a1] => internal_stringslite_CutSuffix_e C N a0 a1 K
  | _ => eF
theorem lok181 : LeafOk Tryz.prog 181 l181 := .inl ⟨Tryz.f181, Tryz.f181.body.getD .skip, internal_stringslite_CutSuffix_ea, Tryz.func181, by kernel_rfl, Tryz.call181, fun C N args K H e => by
  unfold l181 at e
  split at e
  · rw [internal_stringslite_CutSuffix_ee]; exact e
  · exact eF_no e⟩

/- internal/stringslite.Clone -/
def internal_stringslite_Clone_ea : Ann := .two (.none) (.two (.two (.none) (.two (.two (.none) (.none)) (.none))) (.two (.none) (.two (.none) (.two (.none) (.none)))))
noncomputable def internal_stringslite_Clone_p0 (a0 : SV) : ER :=
  eLenS Tryz.prog [9] [a0] fun x3 => eMakeSliceS Tryz.prog 30 x3 x3 fun x4 => eCopy Tryz.prog [30, 9] [x4, a0] fun x5 => eIndexAddrS Tryz.prog 30 x4 (.int .i64 0) fun x6 => eLenS Tryz.prog [30] [x4] fun x7 => eF
noncomputable def internal_stringslite_Clone_e (C : Cal) (N : Nat) (a0 : SV) (K : SV → ER) : ER :=
  eLenS Tryz.prog [9] [a0] fun x1 => eBin Tryz.prog .eql 3 false x1 (.int .i64 0) fun x2 => eIfV x2
  (K (.str []))
  (internal_stringslite_Clone_p0 a0)
theorem internal_stringslite_Clone_ee (C : Cal) (N : Nat) (a0 : SV) (K : SV → ER) : eBody Tryz.prog C N Tryz.f224 (Tryz.f224.body.getD .skip) internal_stringslite_Clone_ea [a0] K = internal_stringslite_Clone_e C N a0 K := by kernel_rfl
noncomputable def l224 : LeafT := fun C N args K => match args with
  | [a0] => internal_stringslite_Clone_e C N a0 K
  | _ => eF
theorem lok224 : LeafOk Tryz.prog 224 l224 := .inl ⟨Tryz.f224, Tryz.f224.body.getD .skip, internal_stringslite_Clone_ea, Tryz.func224, by kernel_rfl, Tryz.call224, fun C N args K H e => by
  unfold l224 at e
  split at e
  · rw [internal_stringslite_Clone_ee]; exact e
  · exact eF_no e⟩

/- errors.New -/
def errors_New_ea : Ann := .two (.none) (.two (.none) (.none))
noncomputable def errors_New_e (C : Cal) (N : Nat) (a0 : SV) (K : SV → ER) : ER :=
  eBuild Tryz.prog 334 [(0, a0)] fun x1 => eBox Tryz.prog 334 x1 fun x2 => eMakeIface Tryz.prog 332 x2 fun x3 => K x3
theorem errors_New_ee (C : Cal) (N : Nat) (a0 : SV) (K : SV → ER) : eBody Tryz.prog C N Tryz.f225 (Tryz.f225.body.getD .skip) errors_New_ea [a0] K = errors_New_e C N a0 K := by kernel_rfl
noncomputable def l225 : LeafT := fun C N args K => match args with
  | [a0] => errors_New_e C N a0 K
  | _ => eF
theorem lok225 : LeafOk Tryz.prog 225 l225 := .inl ⟨Tryz.f225, Tryz.f225.body.getD .skip, errors_New_ea, Tryz.func225, by kernel_rfl, Tryz.call225, fun C N args K H e => by
  unfold l225 at e
  split at e
  · rw [errors_New_ee]; exact e
  · exact eF_no e⟩

/- strconv.Itoa -/
def strconv_Itoa_ea : Ann := .two (.none) (.two (.none) (.none))
noncomputable def strconv_Itoa_e (C : Cal) (N : Nat) (a0 : SV) (K : SV → ER) : ER :=
  eCallR Tryz.prog C 266 [a0] 9 fun x1 => K x1
theorem strconv_Itoa_ee (C : Cal) (N : Nat) (a0 : SV) (K : SV → ER) : eBody Tryz.prog C N Tryz.f226 (Tryz.f226.body.getD .skip) strconv_Itoa_ea [a0] K = strconv_Itoa_e C N a0 K := by kernel_rfl
noncomputable def l226 : LeafT := fun C N args K => match args with
  | [a0] => strconv_Itoa_e C N a0 K
  | _ => eF
theorem lok226 : LeafOk Tryz.prog 226 l226 := .inl ⟨Tryz.f226, Tryz.f226.body.getD .skip, strconv_Itoa_ea, Tryz.func226, by kernel_rfl, Tryz.call226, fun C N args K H e => by
  unfold l226 at e
  split at e
  · rw [strconv_Itoa_ee]; exact e
  · exact eF_no e⟩

/- internal/strconv.small -/
def internal_strconv_small_ea : Ann := .two (.none) (.two (.two (.none) (.two (.two (.none) (.none)) (.none))) (.two (.none) (.none)))
noncomputable def internal_strconv_small_p0 (K : SV → ER) (a0 : SV) : ER :=
  eBin Tryz.prog .add 3 false a0 (.int .i64 1) fun x2 => eSliceS Tryz.prog 9 (.str [48, 49, 50, 51, 52, 53, 54, 55, 56, 57, 97, 98, 99, 100, 101, 102, 103, 104, 105, 106, 107, 108, 109, 110, 111, 112, 113, 114, 115, 116, 117, 118, 119, 120, 121, 122]) (some (.v a0)) (some (.v x2)) none fun x3 => K x3
noncomputable def internal_strconv_small_p1 (K : SV → ER) (x4 : SV) (x6 : SV) : ER :=
  eSliceS Tryz.prog 9 (.str [48, 48, 48, 49, 48, 50, 48, 51, 48, 52, 48, 53, 48, 54, 48, 55, 48, 56, 48, 57, 49, 48, 49, 49, 49, 50, 49, 51, 49, 52, 49, 53, 49, 54, 49, 55, 49, 56, 49, 57, 50, 48, 50, 49, 50, 50, 50, 51, 50, 52, 50, 53, 50, 54, 50, 55, 50, 56, 50, 57, 51, 48, 51, 49, 51, 50, 51, 51, 51, 52, 51, 53, 51, 54, 51, 55, 51, 56, 51, 57, 52, 48, 52, 49, 52, 50, 52, 51, 52, 52, 52, 53, 52, 54, 52, 55, 52, 56, 52, 57, 53, 48, 53, 49, 53, 50, 53, 51, 53, 52, 53, 53, 53, 54, 53, 55, 53, 56, 53, 57, 54, 48, 54, 49, 54, 50, 54, 51, 54, 52, 54, 53, 54, 54, 54, 55, 54, 56, 54, 57, 55, 48, 55, 49, 55, 50, 55, 51, 55, 52, 55, 53, 55, 54, 55, 55, 55, 56, 55, 57, 56, 48, 56, 49, 56, 50, 56, 51, 56, 52, 56, 53, 56, 54, 56, 55, 56, 56, 56, 57, 57, 48, 57, 49, 57, 50, 57, 51, 57, 52, 57, 53, 57, 54, 57, 55, 57, 56, 57, 57]) (some (.v x4)) (some (.v x6)) none fun x7 => K x7
noncomputable def internal_strconv_small_e (C : Cal) (N : Nat) (a0 : SV) (K : SV → ER) : ER :=
  eBin Tryz.prog .lss 3 false a0 (.int .i64 10) fun x1 => eIfV x1
  (internal_strconv_small_p0 K a0)
  (eBin Tryz.prog .mul 3 false a0 (.int .i64 2) fun x4 => eBin Tryz.prog .mul 3 false a0 (.int .i64 2) fun x5 => eBin Tryz.prog .add 3 false x5 (.int .i64 2) fun x6 => internal_strconv_small_p1 K x4 x6)
theorem internal_strconv_small_ee (C : Cal) (N : Nat) (a0 : SV) (K : SV → ER) : eBody Tryz.prog C N Tryz.f227 (Tryz.f227.body.getD .skip) internal_strconv_small_ea [a0] K = internal_strconv_small_e C N a0 K := by kernel_rfl
noncomputable def l227 : LeafT := fun C N args K => match args with
  | [a0] => internal_strconv_small_e C N a0 K
  | _ => eF
theorem lok227 : LeafOk Tryz.prog 227 l227 := .inl ⟨Tryz.f227, Tryz.f227.body.getD .skip, internal_strconv_small_ea, Tryz.func227, by kernel_rfl, Tryz.call227, fun C N args K H e => by
  unfold l227 at e
  split at e
  · rw [internal_strconv_small_ee]; exact e
  · exact eF_no e⟩

end Go.Proofs.YtahmmlebelhamaaGreatDoor

set_option linter.unusedVariables false
set_option maxRecDepth 100000
namespace Go.Proofs.YtahmmlebelhamaaGreatDoor
open Go.Hl
/- internal/strconv.numDigits -/
def internal_strconv_numDigits_ea : Ann := .two (.none) (.two (.none) (.two (.none) (.none)))
noncomputable def internal_strconv_numDigits_e (C : Cal) (N : Nat) (a0 : SV) (K : SV → ER) : ER :=
  eCallR Tryz.prog C 268 [a0] 3 fun x1 => eCallR Tryz.prog C 267 [x1] 3 fun x2 => eF
theorem internal_strconv_numDigits_ee (C : Cal) (N : Nat) (a0 : SV) (K : SV → ER) : eBody Tryz.prog C N Tryz.f228 (Tryz.f228.body.getD .skip) internal_strconv_numDigits_ea [a0] K = internal_strconv_numDigits_e C N a0 K := by kernel_rfl
noncomputable def l228 : LeafT := fun C N args K => match args with
  | [a0] => internal_strconv_numDigits_e C N a0 K
  | _ => eF
theorem lok228 : LeafOk Tryz.prog 228 l228 := .inl ⟨Tryz.f228, Tryz.f228.body.getD .skip, internal_strconv_numDigits_ea, Tryz.func228, by kernel_rfl, Tryz.call228, fun C N args K H e => by
  unfold l228 at e
  split at e
  · rw [internal_strconv_numDigits_ee]; exact e
  · exact eF_no e⟩

/- internal/strconv.formatBase10 -/
def internal_strconv_formatBase10_ea : Ann := .two (.none) (.two (.sub (.loop [(1, .any), (4, .any)] (.two (.two (.none) (.two (.none) (.none))) (.sub (.two (.none) (.two (.none) (.two (.none) (.two (.none) (.two (.none) (.two (.ord [0, 1, 2, 3, 4, 5, 6, 7, 8, 9, 10, 11, 12, 13, 14]) (.two (.ord [0, 1, 2, 3, 4, 5, 6, 7, 8, 9, 10, 11, 12, 13, 14]) (.two (.ord [0, 1, 2, 3, 4, 5, 6, 7, 8, 9, 10, 11, 12, 13, 14]) (.two (.ord [0, 1, 2, 3, 4, 5, 6, 7, 8, 9, 10, 11, 12, 13, 14]) (.none)))))))))))))) (.two (.none) (.join (.two (.none) (.two (.two (.none) (.two (.none) (.two (.none) (.two (.ord [0, 1, 2, 3, 4, 5, 6, 7, 8, 9, 10, 11, 12, 13, 14]) (.two (.ord [0, 1, 2, 3, 4, 5, 6, 7, 8, 9, 10, 11, 12, 13, 14]) (.none)))))) (.none))) (.join (.two (.none) (.two (.two (.none) (.two (.none) (.two (.ord [0, 1, 2, 3, 4, 5, 6, 7, 8, 9, 10, 11, 12, 13, 14]) (.none)))) (.none))) (.two (.none) (.two (.none) (.none))) [(4, .any), (12, .any)]) [(4, .any), (12, .any)])))
noncomputable def internal_strconv_formatBase10_p0 (a0 : SV) (k2 : SV × SV × Unit → ER) (s3 : SV × SV × Unit) (x7 : SV) (x15 : SV) (x39 : SV) (x40 : SV) (x42 : SV) : ER :=
  eIndexS Tryz.prog 9 (.str [48, 48, 48, 49, 48, 50, 48, 51, 48, 52, 48, 53, 48, 54, 48, 55, 48, 56, 48, 57, 49, 48, 49, 49, 49, 50, 49, 51, 49, 52, 49, 53, 49, 54, 49, 55, 49, 56, 49, 57, 50, 48, 50, 49, 50, 50, 50, 51, 50, 52, 50, 53, 50, 54, 50, 55, 50, 56, 50, 57, 51, 48, 51, 49, 51, 50, 51, 51, 51, 52, 51, 53, 51, 54, 51, 55, 51, 56, 51, 57, 52, 48, 52, 49, 52, 50, 52, 51, 52, 52, 52, 53, 52, 54, 52, 55, 52, 56, 52, 57, 53, 48, 53, 49, 53, 50, 53, 51, 53, 52, 53, 53, 53, 54, 53, 55, 53, 56, 53, 57, 54, 48, 54, 49, 54, 50, 54, 51, 54, 52, 54, 53, 54, 54, 54, 55, 54, 56, 54, 57, 55, 48, 55, 49, 55, 50, 55, 51, 55, 52, 55, 53, 55, 54, 55, 55, 55, 56, 55, 57, 56, 48, 56, 49, 56, 50, 56, 51, 56, 52, 56, 53, 56, 54, 56, 55, 56, 56, 56, 57, 57, 48, 57, 49, 57, 50, 57, 51, 57, 52, 57, 53, 57, 54, 57, 55, 57, 56, 57, 57]) x15 fun x43 => eIndexAddrS Tryz.prog 30 a0 x39 fun x44 => eStore Tryz.prog 5 x44 x42 <| eIndexAddrS Tryz.prog 30 a0 x40 fun x45 => eStore Tryz.prog 5 x45 x43 <| eBin Tryz.prog .sub 3 false s3.2.1 (.int .i64 8) fun x46 => eHas .any x7 (eHas .any x46 (k2 (x7, x46, ())))
noncomputable def internal_strconv_formatBase10_p1 (a0 : SV) (k2 : SV × SV × Unit → ER) (s3 : SV × SV × Unit) (x7 : SV) (x15 : SV) (x39 : SV) (x40 : SV) (x41 : SV) : ER :=
  eIndexS Tryz.prog 9 (.str [48, 48, 48, 49, 48, 50, 48, 51, 48, 52, 48, 53, 48, 54, 48, 55, 48, 56, 48, 57, 49, 48, 49, 49, 49, 50, 49, 51, 49, 52, 49, 53, 49, 54, 49, 55, 49, 56, 49, 57, 50, 48, 50, 49, 50, 50, 50, 51, 50, 52, 50, 53, 50, 54, 50, 55, 50, 56, 50, 57, 51, 48, 51, 49, 51, 50, 51, 51, 51, 52, 51, 53, 51, 54, 51, 55, 51, 56, 51, 57, 52, 48, 52, 49, 52, 50, 52, 51, 52, 52, 52, 53, 52, 54, 52, 55, 52, 56, 52, 57, 53, 48, 53, 49, 53, 50, 53, 51, 53, 52, 53, 53, 53, 54, 53, 55, 53, 56, 53, 57, 54, 48, 54, 49, 54, 50, 54, 51, 54, 52, 54, 53, 54, 54, 54, 55, 54, 56, 54, 57, 55, 48, 55, 49, 55, 50, 55, 51, 55, 52, 55, 53, 55, 54, 55, 55, 55, 56, 55, 57, 56, 48, 56, 49, 56, 50, 56, 51, 56, 52, 56, 53, 56, 54, 56, 55, 56, 56, 56, 57, 57, 48, 57, 49, 57, 50, 57, 51, 57, 52, 57, 53, 57, 54, 57, 55, 57, 56, 57, 57]) x41 fun x42 => internal_strconv_formatBase10_p0 a0 k2 s3 x7 x15 x39 x40 x42
noncomputable def internal_strconv_formatBase10_p2 (a0 : SV) (k2 : SV × SV × Unit → ER) (s3 : SV × SV × Unit) (x7 : SV) (x15 : SV) (x17 : SV) (x32 : SV) (x33 : SV) (x35 : SV) : ER :=
  eIndexS Tryz.prog 9 (.str [48, 48, 48, 49, 48, 50, 48, 51, 48, 52, 48, 53, 48, 54, 48, 55, 48, 56, 48, 57, 49, 48, 49, 49, 49, 50, 49, 51, 49, 52, 49, 53, 49, 54, 49, 55, 49, 56, 49, 57, 50, 48, 50, 49, 50, 50, 50, 51, 50, 52, 50, 53, 50, 54, 50, 55, 50, 56, 50, 57, 51, 48, 51, 49, 51, 50, 51, 51, 51, 52, 51, 53, 51, 54, 51, 55, 51, 56, 51, 57, 52, 48, 52, 49, 52, 50, 52, 51, 52, 52, 52, 53, 52, 54, 52, 55, 52, 56, 52, 57, 53, 48, 53, 49, 53, 50, 53, 51, 53, 52, 53, 53, 53, 54, 53, 55, 53, 56, 53, 57, 54, 48, 54, 49, 54, 50, 54, 51, 54, 52, 54, 53, 54, 54, 54, 55, 54, 56, 54, 57, 55, 48, 55, 49, 55, 50, 55, 51, 55, 52, 55, 53, 55, 54, 55, 55, 55, 56, 55, 57, 56, 48, 56, 49, 56, 50, 56, 51, 56, 52, 56, 53, 56, 54, 56, 55, 56, 56, 56, 57, 57, 48, 57, 49, 57, 50, 57, 51, 57, 52, 57, 53, 57, 54, 57, 55, 57, 56, 57, 57]) x17 fun x36 => eIndexAddrS Tryz.prog 30 a0 x32 fun x37 => eStore Tryz.prog 5 x37 x35 <| eIndexAddrS Tryz.prog 30 a0 x33 fun x38 => eStore Tryz.prog 5 x38 x36 <| eBin Tryz.prog .sub 3 false s3.2.1 (.int .i64 7) fun x39 => eBin Tryz.prog .sub 3 false s3.2.1 (.int .i64 8) fun x40 => eBin Tryz.prog .add 147 false x15 (.int .u32 1) fun x41 => internal_strconv_formatBase10_p1 a0 k2 s3 x7 x15 x39 x40 x41
noncomputable def internal_strconv_formatBase10_p3 (a0 : SV) (k2 : SV × SV × Unit → ER) (s3 : SV × SV × Unit) (x7 : SV) (x15 : SV) (x17 : SV) (x32 : SV) (x33 : SV) (x34 : SV) : ER :=
  eIndexS Tryz.prog 9 (.str [48, 48, 48, 49, 48, 50, 48, 51, 48, 52, 48, 53, 48, 54, 48, 55, 48, 56, 48, 57, 49, 48, 49, 49, 49, 50, 49, 51, 49, 52, 49, 53, 49, 54, 49, 55, 49, 56, 49, 57, 50, 48, 50, 49, 50, 50, 50, 51, 50, 52, 50, 53, 50, 54, 50, 55, 50, 56, 50, 57, 51, 48, 51, 49, 51, 50, 51, 51, 51, 52, 51, 53, 51, 54, 51, 55, 51, 56, 51, 57, 52, 48, 52, 49, 52, 50, 52, 51, 52, 52, 52, 53, 52, 54, 52, 55, 52, 56, 52, 57, 53, 48, 53, 49, 53, 50, 53, 51, 53, 52, 53, 53, 53, 54, 53, 55, 53, 56, 53, 57, 54, 48, 54, 49, 54, 50, 54, 51, 54, 52, 54, 53, 54, 54, 54, 55, 54, 56, 54, 57, 55, 48, 55, 49, 55, 50, 55, 51, 55, 52, 55, 53, 55, 54, 55, 55, 55, 56, 55, 57, 56, 48, 56, 49, 56, 50, 56, 51, 56, 52, 56, 53, 56, 54, 56, 55, 56, 56, 56, 57, 57, 48, 57, 49, 57, 50, 57, 51, 57, 52, 57, 53, 57, 54, 57, 55, 57, 56, 57, 57]) x34 fun x35 => internal_strconv_formatBase10_p2 a0 k2 s3 x7 x15 x17 x32 x33 x35
noncomputable def internal_strconv_formatBase10_p4 (a0 : SV) (k2 : SV × SV × Unit → ER) (s3 : SV × SV × Unit) (x7 : SV) (x11 : SV) (x15 : SV) (x17 : SV) (x25 : SV) (x26 : SV) (x28 : SV) : ER :=
  eIndexS Tryz.prog 9 (.str [48, 48, 48, 49, 48, 50, 48, 51, 48, 52, 48, 53, 48, 54, 48, 55, 48, 56, 48, 57, 49, 48, 49, 49, 49, 50, 49, 51, 49, 52, 49, 53, 49, 54, 49, 55, 49, 56, 49, 57, 50, 48, 50, 49, 50, 50, 50, 51, 50, 52, 50, 53, 50, 54, 50, 55, 50, 56, 50, 57, 51, 48, 51, 49, 51, 50, 51, 51, 51, 52, 51, 53, 51, 54, 51, 55, 51, 56, 51, 57, 52, 48, 52, 49, 52, 50, 52, 51, 52, 52, 52, 53, 52, 54, 52, 55, 52, 56, 52, 57, 53, 48, 53, 49, 53, 50, 53, 51, 53, 52, 53, 53, 53, 54, 53, 55, 53, 56, 53, 57, 54, 48, 54, 49, 54, 50, 54, 51, 54, 52, 54, 53, 54, 54, 54, 55, 54, 56, 54, 57, 55, 48, 55, 49, 55, 50, 55, 51, 55, 52, 55, 53, 55, 54, 55, 55, 55, 56, 55, 57, 56, 48, 56, 49, 56, 50, 56, 51, 56, 52, 56, 53, 56, 54, 56, 55, 56, 56, 56, 57, 57, 48, 57, 49, 57, 50, 57, 51, 57, 52, 57, 53, 57, 54, 57, 55, 57, 56, 57, 57]) x11 fun x29 => eIndexAddrS Tryz.prog 30 a0 x25 fun x30 => eStore Tryz.prog 5 x30 x28 <| eIndexAddrS Tryz.prog 30 a0 x26 fun x31 => eStore Tryz.prog 5 x31 x29 <| eBin Tryz.prog .sub 3 false s3.2.1 (.int .i64 5) fun x32 => eBin Tryz.prog .sub 3 false s3.2.1 (.int .i64 6) fun x33 => eBin Tryz.prog .add 147 false x17 (.int .u32 1) fun x34 => internal_strconv_formatBase10_p3 a0 k2 s3 x7 x15 x17 x32 x33 x34
noncomputable def internal_strconv_formatBase10_p5 (a0 : SV) (k2 : SV × SV × Unit → ER) (s3 : SV × SV × Unit) (x7 : SV) (x11 : SV) (x15 : SV) (x17 : SV) (x25 : SV) (x26 : SV) (x27 : SV) : ER :=
  eIndexS Tryz.prog 9 (.str [48, 48, 48, 49, 48, 50, 48, 51, 48, 52, 48, 53, 48, 54, 48, 55, 48, 56, 48, 57, 49, 48, 49, 49, 49, 50, 49, 51, 49, 52, 49, 53, 49, 54, 49, 55, 49, 56, 49, 57, 50, 48, 50, 49, 50, 50, 50, 51, 50, 52, 50, 53, 50, 54, 50, 55, 50, 56, 50, 57, 51, 48, 51, 49, 51, 50, 51, 51, 51, 52, 51, 53, 51, 54, 51, 55, 51, 56, 51, 57, 52, 48, 52, 49, 52, 50, 52, 51, 52, 52, 52, 53, 52, 54, 52, 55, 52, 56, 52, 57, 53, 48, 53, 49, 53, 50, 53, 51, 53, 52, 53, 53, 53, 54, 53, 55, 53, 56, 53, 57, 54, 48, 54, 49, 54, 50, 54, 51, 54, 52, 54, 53, 54, 54, 54, 55, 54, 56, 54, 57, 55, 48, 55, 49, 55, 50, 55, 51, 55, 52, 55, 53, 55, 54, 55, 55, 55, 56, 55, 57, 56, 48, 56, 49, 56, 50, 56, 51, 56, 52, 56, 53, 56, 54, 56, 55, 56, 56, 56, 57, 57, 48, 57, 49, 57, 50, 57, 51, 57, 52, 57, 53, 57, 54, 57, 55, 57, 56, 57, 57]) x27 fun x28 => internal_strconv_formatBase10_p4 a0 k2 s3 x7 x11 x15 x17 x25 x26 x28
noncomputable def internal_strconv_formatBase10_p6 (a0 : SV) (k2 : SV × SV × Unit → ER) (s3 : SV × SV × Unit) (x7 : SV) (x11 : SV) (x13 : SV) (x15 : SV) (x17 : SV) (x18 : SV) (x19 : SV) (x21 : SV) : ER :=
  eIndexS Tryz.prog 9 (.str [48, 48, 48, 49, 48, 50, 48, 51, 48, 52, 48, 53, 48, 54, 48, 55, 48, 56, 48, 57, 49, 48, 49, 49, 49, 50, 49, 51, 49, 52, 49, 53, 49, 54, 49, 55, 49, 56, 49, 57, 50, 48, 50, 49, 50, 50, 50, 51, 50, 52, 50, 53, 50, 54, 50, 55, 50, 56, 50, 57, 51, 48, 51, 49, 51, 50, 51, 51, 51, 52, 51, 53, 51, 54, 51, 55, 51, 56, 51, 57, 52, 48, 52, 49, 52, 50, 52, 51, 52, 52, 52, 53, 52, 54, 52, 55, 52, 56, 52, 57, 53, 48, 53, 49, 53, 50, 53, 51, 53, 52, 53, 53, 53, 54, 53, 55, 53, 56, 53, 57, 54, 48, 54, 49, 54, 50, 54, 51, 54, 52, 54, 53, 54, 54, 54, 55, 54, 56, 54, 57, 55, 48, 55, 49, 55, 50, 55, 51, 55, 52, 55, 53, 55, 54, 55, 55, 55, 56, 55, 57, 56, 48, 56, 49, 56, 50, 56, 51, 56, 52, 56, 53, 56, 54, 56, 55, 56, 56, 56, 57, 57, 48, 57, 49, 57, 50, 57, 51, 57, 52, 57, 53, 57, 54, 57, 55, 57, 56, 57, 57]) x13 fun x22 => eIndexAddrS Tryz.prog 30 a0 x18 fun x23 => eStore Tryz.prog 5 x23 x21 <| eIndexAddrS Tryz.prog 30 a0 x19 fun x24 => eStore Tryz.prog 5 x24 x22 <| eBin Tryz.prog .sub 3 false s3.2.1 (.int .i64 3) fun x25 => eBin Tryz.prog .sub 3 false s3.2.1 (.int .i64 4) fun x26 => eBin Tryz.prog .add 147 false x11 (.int .u32 1) fun x27 => internal_strconv_formatBase10_p5 a0 k2 s3 x7 x11 x15 x17 x25 x26 x27
noncomputable def internal_strconv_formatBase10_p7 (a0 : SV) (k2 : SV × SV × Unit → ER) (s3 : SV × SV × Unit) (x7 : SV) (x11 : SV) (x13 : SV) (x15 : SV) (x17 : SV) (x18 : SV) (x19 : SV) (x20 : SV) : ER :=
  eIndexS Tryz.prog 9 (.str [48, 48, 48, 49, 48, 50, 48, 51, 48, 52, 48, 53, 48, 54, 48, 55, 48, 56, 48, 57, 49, 48, 49, 49, 49, 50, 49, 51, 49, 52, 49, 53, 49, 54, 49, 55, 49, 56, 49, 57, 50, 48, 50, 49, 50, 50, 50, 51, 50, 52, 50, 53, 50, 54, 50, 55, 50, 56, 50, 57, 51, 48, 51, 49, 51, 50, 51, 51, 51, 52, 51, 53, 51, 54, 51, 55, 51, 56, 51, 57, 52, 48, 52, 49, 52, 50, 52, 51, 52, 52, 52, 53, 52, 54, 52, 55, 52, 56, 52, 57, 53, 48, 53, 49, 53, 50, 53, 51, 53, 52, 53, 53, 53, 54, 53, 55, 53, 56, 53, 57, 54, 48, 54, 49, 54, 50, 54, 51, 54, 52, 54, 53, 54, 54, 54, 55, 54, 56, 54, 57, 55, 48, 55, 49, 55, 50, 55, 51, 55, 52, 55, 53, 55, 54, 55, 55, 55, 56, 55, 57, 56, 48, 56, 49, 56, 50, 56, 51, 56, 52, 56, 53, 56, 54, 56, 55, 56, 56, 56, 57, 57, 48, 57, 49, 57, 50, 57, 51, 57, 52, 57, 53, 57, 54, 57, 55, 57, 56, 57, 57]) x20 fun x21 => internal_strconv_formatBase10_p6 a0 k2 s3 x7 x11 x13 x15 x17 x18 x19 x21
noncomputable def internal_strconv_formatBase10_p8 (a0 : SV) (k2 : SV × SV × Unit → ER) (s3 : SV × SV × Unit) (x7 : SV) (x8 : SV) (x11 : SV) (x12 : SV) : ER :=
  eBin Tryz.prog .mul 147 false x12 (.int .u32 2) fun x13 => eBin Tryz.prog .quo 147 false x8 (.int .u32 100) fun x14 => eBin Tryz.prog .mul 147 false x14 (.int .u32 2) fun x15 => eBin Tryz.prog .rem 147 false x8 (.int .u32 100) fun x16 => eBin Tryz.prog .mul 147 false x16 (.int .u32 2) fun x17 => eBin Tryz.prog .sub 3 false s3.2.1 (.int .i64 1) fun x18 => eBin Tryz.prog .sub 3 false s3.2.1 (.int .i64 2) fun x19 => eBin Tryz.prog .add 147 false x13 (.int .u32 1) fun x20 => internal_strconv_formatBase10_p7 a0 k2 s3 x7 x11 x13 x15 x17 x18 x19 x20
noncomputable def internal_strconv_formatBase10_p9 (a0 : SV) (k2 : SV × SV × Unit → ER) (s3 : SV × SV × Unit) : ER :=
  eBin Tryz.prog .rem 53 false s3.1 (.int .u64 100000000) fun x5 => eConvS Tryz.prog 53 147 x5 fun x6 => eBin Tryz.prog .quo 53 false s3.1 (.int .u64 100000000) fun x7 => eBin Tryz.prog .quo 147 false x6 (.int .u32 10000) fun x8 => eBin Tryz.prog .rem 147 false x6 (.int .u32 10000) fun x9 => eBin Tryz.prog .quo 147 false x9 (.int .u32 100) fun x10 => eBin Tryz.prog .mul 147 false x10 (.int .u32 2) fun x11 => eBin Tryz.prog .rem 147 false x9 (.int .u32 100) fun x12 => internal_strconv_formatBase10_p8 a0 k2 s3 x7 x8 x11 x12
noncomputable def internal_strconv_formatBase10_p10 (a0 : SV) (s3 : SV × SV × Unit) (k48 : SV × SV × Unit → ER) (x52 : SV) (x54 : SV) (x64 : SV) (x65 : SV) (x67 : SV) : ER :=
  eIndexS Tryz.prog 9 (.str [48, 48, 48, 49, 48, 50, 48, 51, 48, 52, 48, 53, 48, 54, 48, 55, 48, 56, 48, 57, 49, 48, 49, 49, 49, 50, 49, 51, 49, 52, 49, 53, 49, 54, 49, 55, 49, 56, 49, 57, 50, 48, 50, 49, 50, 50, 50, 51, 50, 52, 50, 53, 50, 54, 50, 55, 50, 56, 50, 57, 51, 48, 51, 49, 51, 50, 51, 51, 51, 52, 51, 53, 51, 54, 51, 55, 51, 56, 51, 57, 52, 48, 52, 49, 52, 50, 52, 51, 52, 52, 52, 53, 52, 54, 52, 55, 52, 56, 52, 57, 53, 48, 53, 49, 53, 50, 53, 51, 53, 52, 53, 53, 53, 54, 53, 55, 53, 56, 53, 57, 54, 48, 54, 49, 54, 50, 54, 51, 54, 52, 54, 53, 54, 54, 54, 55, 54, 56, 54, 57, 55, 48, 55, 49, 55, 50, 55, 51, 55, 52, 55, 53, 55, 54, 55, 55, 55, 56, 55, 57, 56, 48, 56, 49, 56, 50, 56, 51, 56, 52, 56, 53, 56, 54, 56, 55, 56, 56, 56, 57, 57, 48, 57, 49, 57, 50, 57, 51, 57, 52, 57, 53, 57, 54, 57, 55, 57, 56, 57, 57]) x54 fun x68 => eIndexAddrS Tryz.prog 30 a0 x64 fun x69 => eStore Tryz.prog 5 x69 x67 <| eIndexAddrS Tryz.prog 30 a0 x65 fun x70 => eStore Tryz.prog 5 x70 x68 <| eBin Tryz.prog .sub 3 false s3.2.1 (.int .i64 4) fun x71 => eHas .any x71 (eHas .any x52 (k48 (x71, x52, ())))
noncomputable def internal_strconv_formatBase10_p11 (a0 : SV) (s3 : SV × SV × Unit) (k48 : SV × SV × Unit → ER) (x52 : SV) (x54 : SV) (x64 : SV) (x65 : SV) (x66 : SV) : ER :=
  eIndexS Tryz.prog 9 (.str [48, 48, 48, 49, 48, 50, 48, 51, 48, 52, 48, 53, 48, 54, 48, 55, 48, 56, 48, 57, 49, 48, 49, 49, 49, 50, 49, 51, 49, 52, 49, 53, 49, 54, 49, 55, 49, 56, 49, 57, 50, 48, 50, 49, 50, 50, 50, 51, 50, 52, 50, 53, 50, 54, 50, 55, 50, 56, 50, 57, 51, 48, 51, 49, 51, 50, 51, 51, 51, 52, 51, 53, 51, 54, 51, 55, 51, 56, 51, 57, 52, 48, 52, 49, 52, 50, 52, 51, 52, 52, 52, 53, 52, 54, 52, 55, 52, 56, 52, 57, 53, 48, 53, 49, 53, 50, 53, 51, 53, 52, 53, 53, 53, 54, 53, 55, 53, 56, 53, 57, 54, 48, 54, 49, 54, 50, 54, 51, 54, 52, 54, 53, 54, 54, 54, 55, 54, 56, 54, 57, 55, 48, 55, 49, 55, 50, 55, 51, 55, 52, 55, 53, 55, 54, 55, 55, 55, 56, 55, 57, 56, 48, 56, 49, 56, 50, 56, 51, 56, 52, 56, 53, 56, 54, 56, 55, 56, 56, 56, 57, 57, 48, 57, 49, 57, 50, 57, 51, 57, 52, 57, 53, 57, 54, 57, 55, 57, 56, 57, 57]) x66 fun x67 => internal_strconv_formatBase10_p10 a0 s3 k48 x52 x54 x64 x65 x67
noncomputable def internal_strconv_formatBase10_p12 (a0 : SV) (s3 : SV × SV × Unit) (k48 : SV × SV × Unit → ER) (x52 : SV) (x54 : SV) (x56 : SV) (x57 : SV) (x58 : SV) (x60 : SV) : ER :=
  eIndexS Tryz.prog 9 (.str [48, 48, 48, 49, 48, 50, 48, 51, 48, 52, 48, 53, 48, 54, 48, 55, 48, 56, 48, 57, 49, 48, 49, 49, 49, 50, 49, 51, 49, 52, 49, 53, 49, 54, 49, 55, 49, 56, 49, 57, 50, 48, 50, 49, 50, 50, 50, 51, 50, 52, 50, 53, 50, 54, 50, 55, 50, 56, 50, 57, 51, 48, 51, 49, 51, 50, 51, 51, 51, 52, 51, 53, 51, 54, 51, 55, 51, 56, 51, 57, 52, 48, 52, 49, 52, 50, 52, 51, 52, 52, 52, 53, 52, 54, 52, 55, 52, 56, 52, 57, 53, 48, 53, 49, 53, 50, 53, 51, 53, 52, 53, 53, 53, 54, 53, 55, 53, 56, 53, 57, 54, 48, 54, 49, 54, 50, 54, 51, 54, 52, 54, 53, 54, 54, 54, 55, 54, 56, 54, 57, 55, 48, 55, 49, 55, 50, 55, 51, 55, 52, 55, 53, 55, 54, 55, 55, 55, 56, 55, 57, 56, 48, 56, 49, 56, 50, 56, 51, 56, 52, 56, 53, 56, 54, 56, 55, 56, 56, 56, 57, 57, 48, 57, 49, 57, 50, 57, 51, 57, 52, 57, 53, 57, 54, 57, 55, 57, 56, 57, 57]) x56 fun x61 => eIndexAddrS Tryz.prog 30 a0 x57 fun x62 => eStore Tryz.prog 5 x62 x60 <| eIndexAddrS Tryz.prog 30 a0 x58 fun x63 => eStore Tryz.prog 5 x63 x61 <| eBin Tryz.prog .sub 3 false s3.2.1 (.int .i64 3) fun x64 => eBin Tryz.prog .sub 3 false s3.2.1 (.int .i64 4) fun x65 => eBin Tryz.prog .add 147 false x54 (.int .u32 1) fun x66 => internal_strconv_formatBase10_p11 a0 s3 k48 x52 x54 x64 x65 x66
noncomputable def internal_strconv_formatBase10_p13 (a0 : SV) (s3 : SV × SV × Unit) (k48 : SV × SV × Unit → ER) (x52 : SV) (x54 : SV) (x56 : SV) (x57 : SV) (x58 : SV) (x59 : SV) : ER :=
  eIndexS Tryz.prog 9 (.str [48, 48, 48, 49, 48, 50, 48, 51, 48, 52, 48, 53, 48, 54, 48, 55, 48, 56, 48, 57, 49, 48, 49, 49, 49, 50, 49, 51, 49, 52, 49, 53, 49, 54, 49, 55, 49, 56, 49, 57, 50, 48, 50, 49, 50, 50, 50, 51, 50, 52, 50, 53, 50, 54, 50, 55, 50, 56, 50, 57, 51, 48, 51, 49, 51, 50, 51, 51, 51, 52, 51, 53, 51, 54, 51, 55, 51, 56, 51, 57, 52, 48, 52, 49, 52, 50, 52, 51, 52, 52, 52, 53, 52, 54, 52, 55, 52, 56, 52, 57, 53, 48, 53, 49, 53, 50, 53, 51, 53, 52, 53, 53, 53, 54, 53, 55, 53, 56, 53, 57, 54, 48, 54, 49, 54, 50, 54, 51, 54, 52, 54, 53, 54, 54, 54, 55, 54, 56, 54, 57, 55, 48, 55, 49, 55, 50, 55, 51, 55, 52, 55, 53, 55, 54, 55, 55, 55, 56, 55, 57, 56, 48, 56, 49, 56, 50, 56, 51, 56, 52, 56, 53, 56, 54, 56, 55, 56, 56, 56, 57, 57, 48, 57, 49, 57, 50, 57, 51, 57, 52, 57, 53, 57, 54, 57, 55, 57, 56, 57, 57]) x59 fun x60 => internal_strconv_formatBase10_p12 a0 s3 k48 x52 x54 x56 x57 x58 x60
noncomputable def internal_strconv_formatBase10_p14 (a0 : SV) (s3 : SV × SV × Unit) (k48 : SV × SV × Unit → ER) (x47 : SV) (x51 : SV) : ER :=
  eBin Tryz.prog .quo 147 false x47 (.int .u32 10000) fun x52 => eBin Tryz.prog .quo 147 false x51 (.int .u32 100) fun x53 => eBin Tryz.prog .mul 147 false x53 (.int .u32 2) fun x54 => eBin Tryz.prog .rem 147 false x51 (.int .u32 100) fun x55 => eBin Tryz.prog .mul 147 false x55 (.int .u32 2) fun x56 => eBin Tryz.prog .sub 3 false s3.2.1 (.int .i64 1) fun x57 => eBin Tryz.prog .sub 3 false s3.2.1 (.int .i64 2) fun x58 => eBin Tryz.prog .add 147 false x56 (.int .u32 1) fun x59 => internal_strconv_formatBase10_p13 a0 s3 k48 x52 x54 x56 x57 x58 x59
noncomputable def internal_strconv_formatBase10_p15 (a0 : SV) (k72 : SV × SV × Unit → ER) (s49 : SV × SV × Unit) (x76 : SV) (x77 : SV) (x78 : SV) (x79 : SV) (x81 : SV) : ER :=
  eIndexS Tryz.prog 9 (.str [48, 48, 48, 49, 48, 50, 48, 51, 48, 52, 48, 53, 48, 54, 48, 55, 48, 56, 48, 57, 49, 48, 49, 49, 49, 50, 49, 51, 49, 52, 49, 53, 49, 54, 49, 55, 49, 56, 49, 57, 50, 48, 50, 49, 50, 50, 50, 51, 50, 52, 50, 53, 50, 54, 50, 55, 50, 56, 50, 57, 51, 48, 51, 49, 51, 50, 51, 51, 51, 52, 51, 53, 51, 54, 51, 55, 51, 56, 51, 57, 52, 48, 52, 49, 52, 50, 52, 51, 52, 52, 52, 53, 52, 54, 52, 55, 52, 56, 52, 57, 53, 48, 53, 49, 53, 50, 53, 51, 53, 52, 53, 53, 53, 54, 53, 55, 53, 56, 53, 57, 54, 48, 54, 49, 54, 50, 54, 51, 54, 52, 54, 53, 54, 54, 54, 55, 54, 56, 54, 57, 55, 48, 55, 49, 55, 50, 55, 51, 55, 52, 55, 53, 55, 54, 55, 55, 55, 56, 55, 57, 56, 48, 56, 49, 56, 50, 56, 51, 56, 52, 56, 53, 56, 54, 56, 55, 56, 56, 56, 57, 57, 48, 57, 49, 57, 50, 57, 51, 57, 52, 57, 53, 57, 54, 57, 55, 57, 56, 57, 57]) x76 fun x82 => eIndexAddrS Tryz.prog 30 a0 x78 fun x83 => eStore Tryz.prog 5 x83 x81 <| eIndexAddrS Tryz.prog 30 a0 x79 fun x84 => eStore Tryz.prog 5 x84 x82 <| eBin Tryz.prog .sub 3 false s49.1 (.int .i64 2) fun x85 => eHas .any x85 (eHas .any x77 (k72 (x85, x77, ())))
noncomputable def internal_strconv_formatBase10_p16 (a0 : SV) (k72 : SV × SV × Unit → ER) (s49 : SV × SV × Unit) (x76 : SV) (x77 : SV) (x78 : SV) (x79 : SV) (x80 : SV) : ER :=
  eIndexS Tryz.prog 9 (.str [48, 48, 48, 49, 48, 50, 48, 51, 48, 52, 48, 53, 48, 54, 48, 55, 48, 56, 48, 57, 49, 48, 49, 49, 49, 50, 49, 51, 49, 52, 49, 53, 49, 54, 49, 55, 49, 56, 49, 57, 50, 48, 50, 49, 50, 50, 50, 51, 50, 52, 50, 53, 50, 54, 50, 55, 50, 56, 50, 57, 51, 48, 51, 49, 51, 50, 51, 51, 51, 52, 51, 53, 51, 54, 51, 55, 51, 56, 51, 57, 52, 48, 52, 49, 52, 50, 52, 51, 52, 52, 52, 53, 52, 54, 52, 55, 52, 56, 52, 57, 53, 48, 53, 49, 53, 50, 53, 51, 53, 52, 53, 53, 53, 54, 53, 55, 53, 56, 53, 57, 54, 48, 54, 49, 54, 50, 54, 51, 54, 52, 54, 53, 54, 54, 54, 55, 54, 56, 54, 57, 55, 48, 55, 49, 55, 50, 55, 51, 55, 52, 55, 53, 55, 54, 55, 55, 55, 56, 55, 57, 56, 48, 56, 49, 56, 50, 56, 51, 56, 52, 56, 53, 56, 54, 56, 55, 56, 56, 56, 57, 57, 48, 57, 49, 57, 50, 57, 51, 57, 52, 57, 53, 57, 54, 57, 55, 57, 56, 57, 57]) x80 fun x81 => internal_strconv_formatBase10_p15 a0 k72 s49 x76 x77 x78 x79 x81
noncomputable def internal_strconv_formatBase10_p17 (a0 : SV) (k72 : SV × SV × Unit → ER) (s49 : SV × SV × Unit) : ER :=
  eBin Tryz.prog .rem 147 false s49.2.1 (.int .u32 100) fun x75 => eBin Tryz.prog .mul 147 false x75 (.int .u32 2) fun x76 => eBin Tryz.prog .quo 147 false s49.2.1 (.int .u32 100) fun x77 => eBin Tryz.prog .sub 3 false s49.1 (.int .i64 1) fun x78 => eBin Tryz.prog .sub 3 false s49.1 (.int .i64 2) fun x79 => eBin Tryz.prog .add 147 false x76 (.int .u32 1) fun x80 => internal_strconv_formatBase10_p16 a0 k72 s49 x76 x77 x78 x79 x80
noncomputable def internal_strconv_formatBase10_p18 (K : SV → ER) (a0 : SV) (s73 : SV × SV × Unit) : ER :=
  eBin Tryz.prog .gtr 3 false s73.1 (.int .i64 0) fun x86 => eIfV x86
  (eBin Tryz.prog .add 147 false (.int .u32 48) s73.2.1 fun x87 => eConvS Tryz.prog 147 5 x87 fun x88 => eIndexAddrS Tryz.prog 30 a0 (.int .i64 0) fun x89 => eStore Tryz.prog 5 x89 x88 <| K (.tup []))
  (K (.tup []))
noncomputable def internal_strconv_formatBase10_p19 (a0 : SV) (s3 : SV × SV × Unit) (k48 : SV × SV × Unit → ER) (x47 : SV) : ER :=
  eBin Tryz.prog .geq 3 false s3.2.1 (.int .i64 4) fun x50 => eIfV x50
  (eBin Tryz.prog .rem 147 false x47 (.int .u32 10000) fun x51 => internal_strconv_formatBase10_p14 a0 s3 k48 x47 x51)
  (eHas .any s3.2.1 (eHas .any x47 (k48 (s3.2.1, x47, ()))))
noncomputable def internal_strconv_formatBase10_p20 (K : SV → ER) (a0 : SV) (s49 : SV × SV × Unit) : ER :=
  eJoinC (σ := SV × SV × Unit) (fun (k72 : SV × SV × Unit → ER) =>
  eBin Tryz.prog .geq 3 false s49.1 (.int .i64 2) fun x74 => eIfV x74
  (internal_strconv_formatBase10_p17 a0 k72 s49)
  (eHas .any s49.1 (eHas .any s49.2.1 (k72 (s49.1, s49.2.1, ()))))) fun (s73 : SV × SV × Unit) =>
  internal_strconv_formatBase10_p18 K a0 s73
noncomputable def internal_strconv_formatBase10_p21 (K : SV → ER) (a0 : SV) (s3 : SV × SV × Unit) : ER :=
  eConvS Tryz.prog 53 147 s3.1 fun x47 => eJoinC (σ := SV × SV × Unit) (fun (k48 : SV × SV × Unit → ER) =>
  internal_strconv_formatBase10_p19 a0 s3 k48 x47) fun (s49 : SV × SV × Unit) =>
  internal_strconv_formatBase10_p20 K a0 s49
noncomputable def internal_strconv_formatBase10_e (C : Cal) (N : Nat) (a0 a1 : SV) (K : SV → ER) : ER :=
  eLenS Tryz.prog [30] [a0] fun x1 => eHas .any a1 (eHas .any x1 (eIter (σ := SV × SV × Unit) (fun (s3 : SV × SV × Unit) (k2 : SV × SV × Unit → ER) =>
  eBin Tryz.prog .geq 3 false s3.2.1 (.int .i64 8) fun x4 => eIfV x4
  (internal_strconv_formatBase10_p9 a0 k2 s3)
  (internal_strconv_formatBase10_p21 K a0 s3)) N (a1, x1, ())))
theorem internal_strconv_formatBase10_ee (C : Cal) (N : Nat) (a0 a1 : SV) (K : SV → ER) : eBody Tryz.prog C N Tryz.f229 (Tryz.f229.body.getD .skip) internal_strconv_formatBase10_ea [a0, a1] K = internal_strconv_formatBase10_e C N a0 a1 K := by kernel_rfl
noncomputable def l229 : LeafT := fun C N args K => match args with
  | [a0, a1] => internal_strconv_formatBase10_e C N a0 a1 K
  | _ => eF
theorem lok229 : LeafOk Tryz.prog 229 l229 := .inl ⟨Tryz.f229, Tryz.f229.body.getD .skip, internal_strconv_formatBase10_ea, Tryz.func229, by kernel_rfl, Tryz.call229, fun C N args K H e => by
  unfold l229 at e
  split at e
  · rw [internal_strconv_formatBase10_ee]; exact e
  · exact eF_no e⟩

/- internal/strconv.formatBits -/
def internal_strconv_formatBits_ea : Ann := .two (.none) (.join (.join (.none) (.two (.none) (.none)) [(28, .any)]) (.two (.none) (.two (.none) (.join (.two (.none) (.two (.none) (.none))) (.join (.two (.none) (.two (.two (.none) (.two (.none) (.two (.none) (.two (.sub (.loop [(1, .any), (13, .any)] (.two (.two (.none) (.two (.none) (.none))) (.sub (.two (.none) (.two (.none) (.none))))))) (.two (.none) (.none)))))) (.two (.none) (.two (.sub (.loop [(1, .any), (13, .any)] (.two (.two (.none) (.two (.none) (.none))) (.sub (.two (.none) (.two (.none) (.two (.none) (.none)))))))) (.two (.none) (.none)))))) (.join (.two (.none) (.two (.two (.none) (.none)) (.none))) (.two (.two (.none) (.two (.two (.none) (.none)) (.none))) (.two (.none) (.none))) [(13, .any)]) [(13, .any)]) [(1, .any)]))) [])
noncomputable def internal_strconv_formatBits_p0  : ER :=
  eMakeIface Tryz.prog 9 (.str [115, 116, 114, 99, 111, 110, 118, 58, 32, 105, 108, 108, 101, 103, 97, 108, 32, 65, 112, 112, 101, 110, 100, 73, 110, 116, 47, 70, 111, 114, 109, 97, 116, 73, 110, 116, 32, 98, 97, 115, 101]) fun x8 => eF
noncomputable def internal_strconv_formatBits_p1 (a2 : SV) (k3 : SV × Unit → ER) : ER :=
  eBin Tryz.prog .lss 3 false a2 (.int .i64 2) fun x5 => eIfV x5
  (eHas .any (.bool true) (k3 ((.bool true), ())))
  (eBin Tryz.prog .eql 3 false a2 (.int .i64 10) fun x6 => eIfV x6
  (eHas .any (.bool true) (k3 ((.bool true), ())))
  (eBin Tryz.prog .gtr 3 false a2 (.int .i64 36) fun x7 => eHas .any x7 (k3 (x7, ()))))
noncomputable def internal_strconv_formatBits_p2 (x9 : SV) (k22 : SV × SV × Unit → ER) (s23 : SV × SV × Unit) (x18 : SV) (x21 : SV) : ER :=
  eBin Tryz.prog .sub 3 false s23.2.1 (.int .i64 1) fun x25 => eBin Tryz.prog .and 87 false s23.1 x21 fun x26 => eIndexS Tryz.prog 9 (.str [48, 49, 50, 51, 52, 53, 54, 55, 56, 57, 97, 98, 99, 100, 101, 102, 103, 104, 105, 106, 107, 108, 109, 110, 111, 112, 113, 114, 115, 116, 117, 118, 119, 120, 121, 122]) x26 fun x27 => eIndexAddrS Tryz.prog 337 x9 x25 fun x28 => eStore Tryz.prog 5 x28 x27 <| eBin Tryz.prog .shr 53 false s23.1 x18 fun x29 => eHas .any x29 (eHas .any x25 (k22 (x29, x25, ())))
noncomputable def internal_strconv_formatBits_p3 (x9 : SV) (k13 : SV × Unit → ER) (s23 : SV × SV × Unit) : ER :=
  eBin Tryz.prog .sub 3 false s23.2.1 (.int .i64 1) fun x30 => eIndexS Tryz.prog 9 (.str [48, 49, 50, 51, 52, 53, 54, 55, 56, 57, 97, 98, 99, 100, 101, 102, 103, 104, 105, 106, 107, 108, 109, 110, 111, 112, 113, 114, 115, 116, 117, 118, 119, 120, 121, 122]) s23.1 fun x31 => eIndexAddrS Tryz.prog 337 x9 x30 fun x32 => eStore Tryz.prog 5 x32 x31 <| eHas .any x30 (k13 (x30, ()))
noncomputable def internal_strconv_formatBits_p4 (C : Cal) (N : Nat) (a2 : SV) (x9 : SV) (k13 : SV × Unit → ER) (s11 : SV × Unit) (x16 : SV) : ER :=
  eCallR Tryz.prog C 271 [x16] 3 fun x17 => eConvS Tryz.prog 3 87 x17 fun x18 => eConvS Tryz.prog 3 53 a2 fun x19 => eConvS Tryz.prog 3 87 a2 fun x20 => eBin Tryz.prog .sub 87 false x20 (.int .u64 1) fun x21 => eHas .any s11.1 (eHas .any (.int .i64 65) (eIter (σ := SV × SV × Unit) (fun (s23 : SV × SV × Unit) (k22 : SV × SV × Unit → ER) =>
  eBin Tryz.prog .geq 53 false s23.1 x19 fun x24 => eIfV x24
  (internal_strconv_formatBits_p2 x9 k22 s23 x18 x21)
  (internal_strconv_formatBits_p3 x9 k13 s23)) N (s11.1, (.int .i64 65), ())))
noncomputable def internal_strconv_formatBits_p5 (x9 : SV) (k34 : SV × SV × Unit → ER) (s35 : SV × SV × Unit) (x33 : SV) : ER :=
  eBin Tryz.prog .sub 3 false s35.2.1 (.int .i64 1) fun x37 => eBin Tryz.prog .quo 53 false s35.1 x33 fun x38 => eBin Tryz.prog .mul 53 false x38 x33 fun x39 => eBin Tryz.prog .sub 53 false s35.1 x39 fun x40 => eIndexS Tryz.prog 9 (.str [48, 49, 50, 51, 52, 53, 54, 55, 56, 57, 97, 98, 99, 100, 101, 102, 103, 104, 105, 106, 107, 108, 109, 110, 111, 112, 113, 114, 115, 116, 117, 118, 119, 120, 121, 122]) x40 fun x41 => eIndexAddrS Tryz.prog 337 x9 x37 fun x42 => eStore Tryz.prog 5 x42 x41 <| eHas .any x38 (eHas .any x37 (k34 (x38, x37, ())))
noncomputable def internal_strconv_formatBits_p6 (x9 : SV) (k13 : SV × Unit → ER) (s35 : SV × SV × Unit) : ER :=
  eBin Tryz.prog .sub 3 false s35.2.1 (.int .i64 1) fun x43 => eIndexS Tryz.prog 9 (.str [48, 49, 50, 51, 52, 53, 54, 55, 56, 57, 97, 98, 99, 100, 101, 102, 103, 104, 105, 106, 107, 108, 109, 110, 111, 112, 113, 114, 115, 116, 117, 118, 119, 120, 121, 122]) s35.1 fun x44 => eIndexAddrS Tryz.prog 337 x9 x43 fun x45 => eStore Tryz.prog 5 x45 x44 <| eHas .any x43 (k13 (x43, ()))
noncomputable def internal_strconv_formatBits_p7 (N : Nat) (a2 : SV) (x9 : SV) (k13 : SV × Unit → ER) (s11 : SV × Unit) : ER :=
  eConvS Tryz.prog 3 53 a2 fun x33 => eHas .any s11.1 (eHas .any (.int .i64 65) (eIter (σ := SV × SV × Unit) (fun (s35 : SV × SV × Unit) (k34 : SV × SV × Unit → ER) =>
  eBin Tryz.prog .geq 53 false s35.1 x33 fun x36 => eIfV x36
  (internal_strconv_formatBits_p5 x9 k34 s35 x33)
  (internal_strconv_formatBits_p6 x9 k13 s35)) N (s11.1, (.int .i64 65), ())))
noncomputable def internal_strconv_formatBits_p8 (a3 : SV) (x9 : SV) (k46 : SV × Unit → ER) (s14 : SV × Unit) : ER :=
  eIfV a3
  (eBin Tryz.prog .sub 3 false s14.1 (.int .i64 1) fun x48 => eIndexAddrS Tryz.prog 337 x9 x48 fun x49 => eStore Tryz.prog 5 x49 (.int .u8 45) <| eHas .any x48 (k46 (x48, ())))
  (eHas .any s14.1 (k46 (s14.1, ())))
noncomputable def internal_strconv_formatBits_p9 (K : SV → ER) (a0 : SV) (a4 : SV) (x9 : SV) (s47 : SV × Unit) : ER :=
  eIfV a4
  (eSliceS Tryz.prog 337 x9 (some (.v s47.1)) none none fun x50 => eApp Tryz.prog [30, 30] [a0, x50] fun x51 => K (.tup [x51, (.str [])]))
  (eSliceS Tryz.prog 337 x9 (some (.v s47.1)) none none fun x52 => eConvS Tryz.prog 30 9 x52 fun x53 => K (.tup [(.sl ⟨none, 0, .lit 0⟩), x53]))
noncomputable def internal_strconv_formatBits_p10 (C : Cal) (K : SV → ER) (N : Nat) (a0 : SV) (a2 : SV) (a3 : SV) (a4 : SV) (x9 : SV) (s11 : SV × Unit) : ER :=
  eJoinC (σ := SV × Unit) (fun (k13 : SV × Unit → ER) =>
  eCallR Tryz.prog C 270 [a2] 4 fun x15 => eIfV x15
  (eConvS Tryz.prog 3 87 a2 fun x16 => internal_strconv_formatBits_p4 C N a2 x9 k13 s11 x16)
  (internal_strconv_formatBits_p7 N a2 x9 k13 s11)) fun (s14 : SV × Unit) =>
  eJoinC (σ := SV × Unit) (fun (k46 : SV × Unit → ER) =>
  internal_strconv_formatBits_p8 a3 x9 k46 s14) fun (s47 : SV × Unit) =>
  internal_strconv_formatBits_p9 K a0 a4 x9 s47
noncomputable def internal_strconv_formatBits_p11 (C : Cal) (K : SV → ER) (N : Nat) (a0 : SV) (a1 : SV) (a2 : SV) (a3 : SV) (a4 : SV) : ER :=
  eAlloc Tryz.prog 337 fun x9 => eJoinC (σ := SV × Unit) (fun (k10 : SV × Unit → ER) =>
  eIfV a3
  (eUnS .neg a1 fun x12 => eHas .any x12 (k10 (x12, ())))
  (eHas .any a1 (k10 (a1, ())))) fun (s11 : SV × Unit) =>
  internal_strconv_formatBits_p10 C K N a0 a2 a3 a4 x9 s11
noncomputable def internal_strconv_formatBits_e (C : Cal) (N : Nat) (a0 a1 a2 a3 a4 : SV) (K : SV → ER) : ER :=
  eJoinC (σ := Unit) (fun (k1 : Unit → ER) =>
  eJoinC (σ := SV × Unit) (fun (k3 : SV × Unit → ER) =>
  internal_strconv_formatBits_p1 a2 k3) fun (s4 : SV × Unit) =>
  eIfV s4.1
  (internal_strconv_formatBits_p0)
  (k1 (()))) fun (s2 : Unit) =>
  internal_strconv_formatBits_p11 C K N a0 a1 a2 a3 a4
theorem internal_strconv_formatBits_ee (C : Cal) (N : Nat) (a0 a1 a2 a3 a4 : SV) (K : SV → ER) : eBody Tryz.prog C N Tryz.f230 (Tryz.f230.body.getD .skip) internal_strconv_formatBits_ea [a0, a1, a2, a3, a4] K = internal_strconv_formatBits_e C N a0 a1 a2 a3 a4 K := by kernel_rfl
noncomputable def l230 : LeafT := fun C N args K => match args with
  | [a0, a1, a2, a3, a4] => internal_strconv_formatBits_e C N a0 a1 a2 a3 a4 K
  | _ => eF
theorem lok230 : LeafOk Tryz.prog 230 l230 := .inl ⟨Tryz.f230, Tryz.f230.body.getD .skip, internal_strconv_formatBits_ea, Tryz.func230, by kernel_rfl, Tryz.call230, fun C N args K H e => by
  unfold l230 at e
  split at e
  · rw [internal_strconv_formatBits_ee]; exact e
  · exact eF_no e⟩

/- internal/strconv.Itoa -/
def internal_strconv_Itoa_ea : Ann := .two (.none) (.two (.none) (.none))
noncomputable def internal_strconv_Itoa_e (C : Cal) (N : Nat) (a0 : SV) (K : SV → ER) : ER :=
  eCallR Tryz.prog C 180 [a0, (.int .i64 10)] 9 fun x1 => K x1
theorem internal_strconv_Itoa_ee (C : Cal) (N : Nat) (a0 : SV) (K : SV → ER) : eBody Tryz.prog C N Tryz.f266 (Tryz.f266.body.getD .skip) internal_strconv_Itoa_ea [a0] K = internal_strconv_Itoa_e C N a0 K := by kernel_rfl
noncomputable def l266 : LeafT := fun C N args K => match args with
  | [a0] => internal_strconv_Itoa_e C N a0 K
  | _ => eF
theorem lok266 : LeafOk Tryz.prog 266 l266 := .inl ⟨Tryz.f266, Tryz.f266.body.getD .skip, internal_strconv_Itoa_ea, Tryz.func266, by kernel_rfl, Tryz.call266, fun C N args K H e => by
  unfold l266 at e
  split at e
  · rw [internal_strconv_Itoa_ee]; exact e
  · exact eF_no e⟩

/- internal/strconv.log10Pow2 -/
def internal_strconv_log10Pow2_ea : Ann := .two (.none) (.two (.none) (.none))
noncomputable def internal_strconv_log10Pow2_e (C : Cal) (N : Nat) (a0 : SV) (K : SV → ER) : ER :=
  eBin Tryz.prog .mul 3 false a0 (.int .i64 78913) fun x1 => eBin Tryz.prog .shr 3 false x1 (.int .u64 18) fun x2 => K x2
theorem internal_strconv_log10Pow2_ee (C : Cal) (N : Nat) (a0 : SV) (K : SV → ER) : eBody Tryz.prog C N Tryz.f267 (Tryz.f267.body.getD .skip) internal_strconv_log10Pow2_ea [a0] K = internal_strconv_log10Pow2_e C N a0 K := by kernel_rfl
noncomputable def l267 : LeafT := fun C N args K => match args with
  | [a0] => internal_strconv_log10Pow2_e C N a0 K
  | _ => eF
theorem lok267 : LeafOk Tryz.prog 267 l267 := .inl ⟨Tryz.f267, Tryz.f267.body.getD .skip, internal_strconv_log10Pow2_ea, Tryz.func267, by kernel_rfl, Tryz.call267, fun C N args K H e => by
  unfold l267 at e
  split at e
  · rw [internal_strconv_log10Pow2_ee]; exact e
  · exact eF_no e⟩

/- math/bits.Len64 -/
def math_bits_Len64_ea : Ann := .two (.none) (.join (.two (.none) (.two (.two (.none) (.none)) (.none))) (.join (.two (.none) (.two (.two (.none) (.none)) (.none))) (.join (.two (.none) (.two (.two (.none) (.none)) (.none))) (.two (.none) (.none)) [(0, .any), (2, .any)]) [(0, .any), (2, .any)]) [(0, .any), (2, .any)])
noncomputable def math_bits_Len64_p0 (K : SV → ER) (s11 : SV × SV × Unit) (x15 : SV) : ER :=
  eIndexS Tryz.prog 9 (.str [0, 1, 2, 2, 3, 3, 3, 3, 4, 4, 4, 4, 4, 4, 4, 4, 5, 5, 5, 5, 5, 5, 5, 5, 5, 5, 5, 5, 5, 5, 5, 5, 6, 6, 6, 6, 6, 6, 6, 6, 6, 6, 6, 6, 6, 6, 6, 6, 6, 6, 6, 6, 6, 6, 6, 6, 6, 6, 6, 6, 6, 6, 6, 6, 7, 7, 7, 7, 7, 7, 7, 7, 7, 7, 7, 7, 7, 7, 7, 7, 7, 7, 7, 7, 7, 7, 7, 7, 7, 7, 7, 7, 7, 7, 7, 7, 7, 7, 7, 7, 7, 7, 7, 7, 7, 7, 7, 7, 7, 7, 7, 7, 7, 7, 7, 7, 7, 7, 7, 7, 7, 7, 7, 7, 7, 7, 7, 7, 8, 8, 8, 8, 8, 8, 8, 8, 8, 8, 8, 8, 8, 8, 8, 8, 8, 8, 8, 8, 8, 8, 8, 8, 8, 8, 8, 8, 8, 8, 8, 8, 8, 8, 8, 8, 8, 8, 8, 8, 8, 8, 8, 8, 8, 8, 8, 8, 8, 8, 8, 8, 8, 8, 8, 8, 8, 8, 8, 8, 8, 8, 8, 8, 8, 8, 8, 8, 8, 8, 8, 8, 8, 8, 8, 8, 8, 8, 8, 8, 8, 8, 8, 8, 8, 8, 8, 8, 8, 8, 8, 8, 8, 8, 8, 8, 8, 8, 8, 8, 8, 8, 8, 8, 8, 8, 8, 8, 8, 8, 8, 8, 8, 8, 8, 8, 8, 8, 8, 8, 8, 8, 8, 8, 8, 8, 8, 8]) x15 fun x16 => eConvS Tryz.prog 5 3 x16 fun x17 => eBin Tryz.prog .add 3 false s11.2.1 x17 fun x18 => K x18
noncomputable def math_bits_Len64_p1 (s6 : SV × SV × Unit) (k10 : SV × SV × Unit → ER) : ER :=
  eBin Tryz.prog .geq 53 false s6.1 (.int .u64 256) fun x12 => eIfV x12
  (eBin Tryz.prog .shr 53 false s6.1 (.int .u64 8) fun x13 => eBin Tryz.prog .add 3 false s6.2.1 (.int .i64 8) fun x14 => eHas .any x13 (eHas .any x14 (k10 (x13, x14, ()))))
  (eHas .any s6.1 (eHas .any s6.2.1 (k10 (s6.1, s6.2.1, ()))))
noncomputable def math_bits_Len64_p2 (k5 : SV × SV × Unit → ER) (s2 : SV × SV × Unit) : ER :=
  eBin Tryz.prog .geq 53 false s2.1 (.int .u64 65536) fun x7 => eIfV x7
  (eBin Tryz.prog .shr 53 false s2.1 (.int .u64 16) fun x8 => eBin Tryz.prog .add 3 false s2.2.1 (.int .i64 16) fun x9 => eHas .any x8 (eHas .any x9 (k5 (x8, x9, ()))))
  (eHas .any s2.1 (eHas .any s2.2.1 (k5 (s2.1, s2.2.1, ()))))
noncomputable def math_bits_Len64_p3 (a0 : SV) (k1 : SV × SV × Unit → ER) : ER :=
  eBin Tryz.prog .geq 53 false a0 (.int .u64 4294967296) fun x3 => eIfV x3
  (eBin Tryz.prog .shr 53 false a0 (.int .u64 32) fun x4 => eHas .any x4 (eHas .any (.int .i64 32) (k1 (x4, (.int .i64 32), ()))))
  (eHas .any a0 (eHas .any (.int .i64 0) (k1 (a0, (.int .i64 0), ()))))
noncomputable def math_bits_Len64_p4 (K : SV → ER) (s2 : SV × SV × Unit) : ER :=
  eJoinC (σ := SV × SV × Unit) (fun (k5 : SV × SV × Unit → ER) =>
  math_bits_Len64_p2 k5 s2) fun (s6 : SV × SV × Unit) =>
  eJoinC (σ := SV × SV × Unit) (fun (k10 : SV × SV × Unit → ER) =>
  math_bits_Len64_p1 s6 k10) fun (s11 : SV × SV × Unit) =>
  eConvS Tryz.prog 53 5 s11.1 fun x15 => math_bits_Len64_p0 K s11 x15
noncomputable def math_bits_Len64_e (C : Cal) (N : Nat) (a0 : SV) (K : SV → ER) : ER :=
  eJoinC (σ := SV × SV × Unit) (fun (k1 : SV × SV × Unit → ER) =>
  math_bits_Len64_p3 a0 k1) fun (s2 : SV × SV × Unit) =>
  math_bits_Len64_p4 K s2
theorem math_bits_Len64_ee (C : Cal) (N : Nat) (a0 : SV) (K : SV → ER) : eBody Tryz.prog C N Tryz.f268 (Tryz.f268.body.getD .skip) math_bits_Len64_ea [a0] K = math_bits_Len64_e C N a0 K := by kernel_rfl
noncomputable def l268 : LeafT := fun C N args K => match args with
  | [a0] => math_bits_Len64_e C N a0 K
  | _ => eF
theorem lok268 : LeafOk Tryz.prog 268 l268 := .inl ⟨Tryz.f268, Tryz.f268.body.getD .skip, math_bits_Len64_ea, Tryz.func268, by kernel_rfl, Tryz.call268, fun C N args K H e => by
  unfold l268 at e
  split at e
  · rw [math_bits_Len64_ee]; exact e
  · exact eF_no e⟩

/- internal/strconv.bool2[int] -/
def internal_strconv_bool2_int_ea : Ann := .two (.none) (.two (.two (.none) (.two (.two (.none) (.none)) (.none))) (.two (.none) (.none)))
noncomputable def internal_strconv_bool2_int_e (C : Cal) (N : Nat) (a0 : SV) (K : SV → ER) : ER :=
  eIfV a0
  (K (.int .i64 1))
  (K (.int .i64 0))
theorem internal_strconv_bool2_int_ee (C : Cal) (N : Nat) (a0 : SV) (K : SV → ER) : eBody Tryz.prog C N Tryz.f269 (Tryz.f269.body.getD .skip) internal_strconv_bool2_int_ea [a0] K = internal_strconv_bool2_int_e C N a0 K := by kernel_rfl
noncomputable def l269 : LeafT := fun C N args K => match args with
  | [a0] => internal_strconv_bool2_int_e C N a0 K
  | _ => eF
theorem lok269 : LeafOk Tryz.prog 269 l269 := .inl ⟨Tryz.f269, Tryz.f269.body.getD .skip, internal_strconv_bool2_int_ea, Tryz.func269, by kernel_rfl, Tryz.call269, fun C N args K H e => by
  unfold l269 at e
  split at e
  · rw [internal_strconv_bool2_int_ee]; exact e
  · exact eF_no e⟩

/- internal/strconv.isPowerOfTwo -/
def internal_strconv_isPowerOfTwo_ea : Ann := .two (.none) (.two (.none) (.none))
noncomputable def internal_strconv_isPowerOfTwo_e (C : Cal) (N : Nat) (a0 : SV) (K : SV → ER) : ER :=
  eBin Tryz.prog .sub 3 false a0 (.int .i64 1) fun x1 => eBin Tryz.prog .and 3 false a0 x1 fun x2 => eBin Tryz.prog .eql 3 false x2 (.int .i64 0) fun x3 => K x3
theorem internal_strconv_isPowerOfTwo_ee (C : Cal) (N : Nat) (a0 : SV) (K : SV → ER) : eBody Tryz.prog C N Tryz.f270 (Tryz.f270.body.getD .skip) internal_strconv_isPowerOfTwo_ea [a0] K = internal_strconv_isPowerOfTwo_e C N a0 K := by kernel_rfl
noncomputable def l270 : LeafT := fun C N args K => match args with
  | [a0] => internal_strconv_isPowerOfTwo_e C N a0 K
  | _ => eF
theorem lok270 : LeafOk Tryz.prog 270 l270 := .inl ⟨Tryz.f270, Tryz.f270.body.getD .skip, internal_strconv_isPowerOfTwo_ea, Tryz.func270, by kernel_rfl, Tryz.call270, fun C N args K H e => by
  unfold l270 at e
  split at e
  · rw [internal_strconv_isPowerOfTwo_ee]; exact e
  · exact eF_no e⟩

end Go.Proofs.YtahmmlebelhamaaGreatDoor

set_option linter.unusedVariables false
set_option maxRecDepth 100000
namespace Go.Proofs.YtahmmlebelhamaaGreatDoor
open Go.Hl
/- math/bits.TrailingZeros -/
def math_bits_TrailingZeros_ea : Ann := .two (.none) (.two (.two (.two (.none) (.none)) (.none)) (.two (.none) (.none)))
noncomputable def math_bits_TrailingZeros_e (C : Cal) (N : Nat) (a0 : SV) (K : SV → ER) : ER :=
  eCallR Tryz.prog C 312 [a0] 3 fun x1 => K x1
theorem math_bits_TrailingZeros_ee (C : Cal) (N : Nat) (a0 : SV) (K : SV → ER) : eBody Tryz.prog C N Tryz.f271 (Tryz.f271.body.getD .skip) math_bits_TrailingZeros_ea [a0] K = math_bits_TrailingZeros_e C N a0 K := by kernel_rfl
noncomputable def l271 : LeafT := fun C N args K => match args with
  | [a0] => math_bits_TrailingZeros_e C N a0 K
  | _ => eF
theorem lok271 : LeafOk Tryz.prog 271 l271 := .inl ⟨Tryz.f271, Tryz.f271.body.getD .skip, math_bits_TrailingZeros_ea, Tryz.func271, by kernel_rfl, Tryz.call271, fun C N args K H e => by
  unfold l271 at e
  split at e
  · rw [math_bits_TrailingZeros_ee]; exact e
  · exact eF_no e⟩

/- math/bits.TrailingZeros32 -/
def math_bits_TrailingZeros32_ea : Ann := .two (.none) (.two (.two (.none) (.two (.two (.none) (.none)) (.none))) (.two (.none) (.none)))
noncomputable def math_bits_TrailingZeros32_e (C : Cal) (N : Nat) (a0 : SV) (K : SV → ER) : ER :=
  eBin Tryz.prog .eql 147 false a0 (.int .u32 0) fun x1 => eIfV x1
  (K (.int .i64 32))
  (eUnS .neg a0 fun x2 => eBin Tryz.prog .and 147 false a0 x2 fun x3 => eBin Tryz.prog .mul 147 false x3 (.int .u32 125613361) fun x4 => eBin Tryz.prog .shr 147 false x4 (.int .u64 27) fun x5 => eF)
theorem math_bits_TrailingZeros32_ee (C : Cal) (N : Nat) (a0 : SV) (K : SV → ER) : eBody Tryz.prog C N Tryz.f311 (Tryz.f311.body.getD .skip) math_bits_TrailingZeros32_ea [a0] K = math_bits_TrailingZeros32_e C N a0 K := by kernel_rfl
noncomputable def l311 : LeafT := fun C N args K => match args with
  | [a0] => math_bits_TrailingZeros32_e C N a0 K
  | _ => eF
theorem lok311 : LeafOk Tryz.prog 311 l311 := .inl ⟨Tryz.f311, Tryz.f311.body.getD .skip, math_bits_TrailingZeros32_ea, Tryz.func311, by kernel_rfl, Tryz.call311, fun C N args K H e => by
  unfold l311 at e
  split at e
  · rw [math_bits_TrailingZeros32_ee]; exact e
  · exact eF_no e⟩

/- math/bits.TrailingZeros64 -/
def math_bits_TrailingZeros64_ea : Ann := .two (.none) (.two (.two (.none) (.two (.two (.none) (.none)) (.none))) (.two (.none) (.none)))
noncomputable def math_bits_TrailingZeros64_p0 (a0 : SV) : ER :=
  eUnS .neg a0 fun x2 => eBin Tryz.prog .and 53 false a0 x2 fun x3 => eBin Tryz.prog .mul 53 false x3 (.int .u64 285870213051353865) fun x4 => eBin Tryz.prog .shr 53 false x4 (.int .u64 58) fun x5 => eF
noncomputable def math_bits_TrailingZeros64_e (C : Cal) (N : Nat) (a0 : SV) (K : SV → ER) : ER :=
  eBin Tryz.prog .eql 53 false a0 (.int .u64 0) fun x1 => eIfV x1
  (K (.int .i64 64))
  (math_bits_TrailingZeros64_p0 a0)
theorem math_bits_TrailingZeros64_ee (C : Cal) (N : Nat) (a0 : SV) (K : SV → ER) : eBody Tryz.prog C N Tryz.f312 (Tryz.f312.body.getD .skip) math_bits_TrailingZeros64_ea [a0] K = math_bits_TrailingZeros64_e C N a0 K := by kernel_rfl
noncomputable def l312 : LeafT := fun C N args K => match args with
  | [a0] => math_bits_TrailingZeros64_e C N a0 K
  | _ => eF
theorem lok312 : LeafOk Tryz.prog 312 l312 := .inl ⟨Tryz.f312, Tryz.f312.body.getD .skip, math_bits_TrailingZeros64_ea, Tryz.func312, by kernel_rfl, Tryz.call312, fun C N args K H e => by
  unfold l312 at e
  split at e
  · rw [math_bits_TrailingZeros64_ee]; exact e
  · exact eF_no e⟩

end Go.Proofs.YtahmmlebelhamaaGreatDoor
