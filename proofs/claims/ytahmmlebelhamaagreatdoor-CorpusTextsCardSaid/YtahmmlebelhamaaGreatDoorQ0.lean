/- The evaluator's texts of this seat's functions. Written by a program of this session. -/
import Derived.Test.YtahmmlebelhamaaGreatDoorV
import Derived.Test.YtahmmlebelhamaaGreatDoorE2
import Derived.WalkKit
set_option linter.unusedVariables false
set_option maxRecDepth 100000
namespace Go.Proofs.YtahmmlebelhamaaGreatDoor
open Go.Hl
/- halberd/halberdlaw28.CorpusTexts -/
def law28_CorpusTexts_ea : Ann := .two (.none) (.two (.two (.none) (.two (.two (.none) (.none)) (.none))) (.two (.none) (.two (.none) (.two (.none) (.two (.none) (.two (.two (.none) (.sub (.loop [(9, .any), (10, .any)] (.two (.two (.none) (.two (.none) (.none))) (.join (.sub (.two (.two (.ord [0, 1, 2, 4, 5, 6, 3, 7, 8, 9]) (.two (.two (.none) (.none)) (.none))) (.two (.two (.none) (.two (.none) (.none))) (.two (.none) (.two (.none) (.two (.none) (.join (.ord [0, 1, 2, 3, 4, 5, 6, 8, 9, 10, 7, 11, 12, 13, 14, 15, 16, 17, 18, 19, 20, 21, 22, 23, 24, 25, 26, 27, 28, 29, 30, 31]) (.two (.two (.none) (.none)) (.none)) [(91, .any)]))))))) (.none) [(9, .any)]))))) (.join (.none) (.none) [(2, .any)])))))))
noncomputable def law28_CorpusTexts_p0 (x4 : SV) (k33 : SV × Unit → ER) (s13 : SV × SV × Unit) (x31 : SV) (x32 : SV) : ER :=
  eUnS .not x32 fun x43 => eIfV x43
  (eHas .any (.bool true) (k33 ((.bool true), ())))
  (eIndexAddrS Tryz.prog 23 x4 s13.2.1 fun x44 => eFieldAddr Tryz.prog 27 x44 3 fun x45 => eLoad Tryz.prog 9 x45 fun x46 => eBin Tryz.prog .neq 9 false x31 x46 fun x47 => eHas .any x47 (k33 (x47, ())))
noncomputable def law28_CorpusTexts_p1 (C : Cal) (x4 : SV) (x8 : SV) (k33 : SV × Unit → ER) (s13 : SV × SV × Unit) (x29 : SV) (x31 : SV) (x32 : SV) : ER :=
  eIndexAddrS Tryz.prog 23 x4 s13.2.1 fun x37 => eLoad Tryz.prog 27 x8 fun x38 => eLoad Tryz.prog 27 x37 fun x39 => eCallR Tryz.prog C 10 [x38, x39] 4 fun x40 => eUnS .not x40 fun x41 => eIfV x41
  (eHas .any (.bool true) (k33 ((.bool true), ())))
  (eUnS .not x29 fun x42 => eIfV x42
  (eHas .any (.bool true) (k33 ((.bool true), ())))
  (law28_CorpusTexts_p0 x4 k33 s13 x31 x32))
noncomputable def law28_CorpusTexts_p2 (C : Cal) (x4 : SV) (x7 : SV) (x8 : SV) (k33 : SV × Unit → ER) (s13 : SV × SV × Unit) (x11 : SV) (x29 : SV) (x31 : SV) (x32 : SV) : ER :=
  eUnS .not x7 fun x35 => eIfV x35
  (eHas .any (.bool true) (k33 ((.bool true), ())))
  (eBin Tryz.prog .neq 31 false x11 (.int .i64 0) fun x36 => eIfV x36
  (eHas .any (.bool true) (k33 ((.bool true), ())))
  (law28_CorpusTexts_p1 C x4 x8 k33 s13 x29 x31 x32))
noncomputable def law28_CorpusTexts_p3 (C : Cal) (K : SV → ER) (x4 : SV) (x7 : SV) (x8 : SV) (k15 : SV × Unit → ER) (s13 : SV × SV × Unit) (x10 : SV) (x11 : SV) : ER :=
  eCallR Tryz.prog C 11 [x10] 36 fun x27 => eExtract x27 0 fun x28 => eExtract x27 1 fun x29 => eCallR Tryz.prog C 12 [x28] 38 fun x30 => eExtract x30 0 fun x31 => eExtract x30 1 fun x32 => eJoinC (σ := SV × Unit) (fun (k33 : SV × Unit → ER) =>
  law28_CorpusTexts_p2 C x4 x7 x8 k33 s13 x11 x29 x31 x32) fun (s34 : SV × Unit) =>
  eIfV s34.1
  (K (.bool false))
  (eHas .any (.bool true) (k15 ((.bool true), ())))
noncomputable def law28_CorpusTexts_p4 (C : Cal) (K : SV → ER) (a0 : SV) (x4 : SV) (x7 : SV) (x8 : SV) (k15 : SV × Unit → ER) (s13 : SV × SV × Unit) (x10 : SV) (x11 : SV) : ER :=
  eIndexAddrS Tryz.prog 23 x4 s13.2.1 fun x23 => eFieldAddr Tryz.prog 27 x23 0 fun x24 => eLoad Tryz.prog 9 x24 fun x25 => eBin Tryz.prog .neq 9 false x25 a0 fun x26 => eIfV x26
  (eHas .any s13.1 (k15 (s13.1, ())))
  (law28_CorpusTexts_p3 C K x4 x7 x8 k15 s13 x10 x11)
noncomputable def law28_CorpusTexts_p5 (C : Cal) (K : SV → ER) (a0 : SV) (x3 : SV) (x4 : SV) (x7 : SV) (x8 : SV) (k15 : SV × Unit → ER) (s13 : SV × SV × Unit) (x10 : SV) (x11 : SV) : ER :=
  eIndexAddrS Tryz.prog 23 x3 s13.2.1 fun x17 => eIndexAddrS Tryz.prog 23 x4 s13.2.1 fun x18 => eLoad Tryz.prog 27 x17 fun x19 => eLoad Tryz.prog 27 x18 fun x20 => eCallR Tryz.prog C 10 [x19, x20] 4 fun x21 => eUnS .not x21 fun x22 => eIfV x22
  (K (.bool false))
  (law28_CorpusTexts_p4 C K a0 x4 x7 x8 k15 s13 x10 x11)
noncomputable def law28_CorpusTexts_p6 (C : Cal) (K : SV → ER) (a0 : SV) (x3 : SV) (x4 : SV) (x7 : SV) (x8 : SV) (k12 : SV × SV × Unit → ER) (s13 : SV × SV × Unit) (x10 : SV) (x11 : SV) : ER :=
  eJoinC (σ := SV × Unit) (fun (k15 : SV × Unit → ER) =>
  law28_CorpusTexts_p5 C K a0 x3 x4 x7 x8 k15 s13 x10 x11) fun (s16 : SV × Unit) =>
  eBin Tryz.prog .add 3 false s13.2.1 (.int .i64 1) fun x48 => eHas .any s16.1 (eHas .any x48 (k12 (s16.1, x48, ())))
noncomputable def law28_CorpusTexts_p7 (C : Cal) (x8 : SV) (k49 : SV × Unit → ER) (x10 : SV) : ER :=
  eLenS Tryz.prog [30] [x10] fun x53 => eBin Tryz.prog .eql 3 false x53 (.int .i64 0) fun x54 => eIfV x54
  (eLoad Tryz.prog 27 x8 fun x55 => eBuild Tryz.prog 27 [] fun x56 => eCallR Tryz.prog C 10 [x55, x56] 4 fun x57 => eHas .any x57 (k49 (x57, ())))
  (eHas .any (.bool false) (k49 ((.bool false), ())))
noncomputable def law28_CorpusTexts_p8 (C : Cal) (x7 : SV) (x8 : SV) (k49 : SV × Unit → ER) (x10 : SV) (x11 : SV) : ER :=
  eUnS .not x7 fun x51 => eIfV x51
  (eBin Tryz.prog .eql 31 false x11 (.int .i64 2) fun x52 => eIfV x52
  (law28_CorpusTexts_p7 C x8 k49 x10)
  (eHas .any (.bool false) (k49 ((.bool false), ()))))
  (eHas .any (.bool false) (k49 ((.bool false), ())))
noncomputable def law28_CorpusTexts_p9 (C : Cal) (K : SV → ER) (a0 : SV) (x3 : SV) (x4 : SV) (x7 : SV) (x8 : SV) (k12 : SV × SV × Unit → ER) (s13 : SV × SV × Unit) (x10 : SV) (x11 : SV) : ER :=
  eBin Tryz.prog .lss 3 false s13.2.1 (.int .i64 12) fun x14 => eIfV x14
  (law28_CorpusTexts_p6 C K a0 x3 x4 x7 x8 k12 s13 x10 x11)
  (eJoinC (σ := SV × Unit) (fun (k49 : SV × Unit → ER) =>
  eIfV s13.1
  (eHas .any (.bool true) (k49 ((.bool true), ())))
  (law28_CorpusTexts_p8 C x7 x8 k49 x10 x11)) fun (s50 : SV × Unit) =>
  K s50.1)
noncomputable def law28_CorpusTexts_p10 (C : Cal) (K : SV → ER) (N : Nat) (a0 : SV) (x3 : SV) : ER :=
  eCallR Tryz.prog C 7 [] 23 fun x4 => eCallR Tryz.prog C 8 [a0] 28 fun x5 => eExtract x5 0 fun x6 => eExtract x5 1 fun x7 => eAlloc Tryz.prog 27 fun x8 => eStore Tryz.prog 27 x8 x6 <| eCallR Tryz.prog C 9 [a0] 32 fun x9 => eExtract x9 0 fun x10 => eExtract x9 1 fun x11 => eHas .any (.bool false) (eHas .any (.int .i64 0) (eIter (σ := SV × SV × Unit) (fun (s13 : SV × SV × Unit) (k12 : SV × SV × Unit → ER) =>
  law28_CorpusTexts_p9 C K a0 x3 x4 x7 x8 k12 s13 x10 x11) N ((.bool false), (.int .i64 0), ())))
noncomputable def law28_CorpusTexts_e (C : Cal) (N : Nat) (a0 : SV) (K : SV → ER) : ER :=
  eCallR Tryz.prog C 5 [] 4 fun x1 => eUnS .not x1 fun x2 => eIfV x2
  (K (.bool false))
  (eCallR Tryz.prog C 6 [] 23 fun x3 => law28_CorpusTexts_p10 C K N a0 x3)
theorem law28_CorpusTexts_ee (C : Cal) (N : Nat) (a0 : SV) (K : SV → ER) : eBody Tryz.prog C N Tryz.f3 (Tryz.f3.body.getD .skip) law28_CorpusTexts_ea [a0] K = law28_CorpusTexts_e C N a0 K := by kernel_rfl
noncomputable def l3 : LeafT := fun C N args K => match args with
  | [a0] => law28_CorpusTexts_e C N a0 K
  | _ => eF
theorem lok3 : LeafOk Tryz.prog 3 l3 := .inl ⟨Tryz.f3, Tryz.f3.body.getD .skip, law28_CorpusTexts_ea, Tryz.func3, by kernel_rfl, Tryz.call3, fun C N args K H e => by
  unfold l3 at e
  split at e
  · rw [law28_CorpusTexts_ee]; exact e
  · exact eF_no e⟩

/- halberd/halberdlaw28.alive -/
def law28_alive_ea : Ann := .two (.none) (.two (.none) (.two (.none) (.join (.none) (.none) [(0, .any)])))
noncomputable def law28_alive_p0 (C : Cal) (k8 : SV × Unit → ER) (x7 : SV) : ER :=
  eBin Tryz.prog .eql 31 false x7 (.int .i64 2) fun x13 => eIfV x13
  (eCallR Tryz.prog C 6 [] 23 fun x14 => eLenS Tryz.prog [23] [x14] fun x15 => eBin Tryz.prog .eql 3 false x15 (.int .i64 12) fun x16 => eHas .any x16 (k8 (x16, ())))
  (eHas .any (.bool false) (k8 ((.bool false), ())))
noncomputable def law28_alive_p1 (C : Cal) (k8 : SV × Unit → ER) (x4 : SV) (x7 : SV) : ER :=
  eFieldAddr Tryz.prog 27 x4 1 fun x10 => eLoad Tryz.prog 3 x10 fun x11 => eBin Tryz.prog .eql 3 false x11 (.int .i64 14) fun x12 => eIfV x12
  (law28_alive_p0 C k8 x7)
  (eHas .any (.bool false) (k8 ((.bool false), ())))
noncomputable def law28_alive_e (C : Cal) (N : Nat) (K : SV → ER) : ER :=
  eCallR Tryz.prog C 8 [(.str [110, 111, 45, 114, 111, 111, 116])] 28 fun x1 => eExtract x1 0 fun x2 => eExtract x1 1 fun x3 => eAlloc Tryz.prog 27 fun x4 => eStore Tryz.prog 27 x4 x2 <| eCallR Tryz.prog C 9 [(.str [110, 111, 116, 104, 105, 110, 103])] 32 fun x5 => eExtract x5 0 fun x6 => eExtract x5 1 fun x7 => eJoinC (σ := SV × Unit) (fun (k8 : SV × Unit → ER) =>
  eIfV x3
  (law28_alive_p1 C k8 x4 x7)
  (eHas .any (.bool false) (k8 ((.bool false), ())))) fun (s9 : SV × Unit) =>
  K s9.1
theorem law28_alive_ee (C : Cal) (N : Nat) (K : SV → ER) : eBody Tryz.prog C N Tryz.f5 (Tryz.f5.body.getD .skip) law28_alive_ea [] K = law28_alive_e C N  K := by kernel_rfl
noncomputable def l5 : LeafT := fun C N args K => match args with
  | [] => law28_alive_e C N  K
  | _ => eF
theorem lok5 : LeafOk Tryz.prog 5 l5 := .inl ⟨Tryz.f5, Tryz.f5.body.getD .skip, law28_alive_ea, Tryz.func5, by kernel_rfl, Tryz.call5, fun C N args K H e => by
  unfold l5 at e
  split at e
  · rw [law28_alive_ee]; exact e
  · exact eF_no e⟩

/- halberd/corpus.All -/
def corpus_All_ea : Ann := .two (.none) (.two (.none) (.none))
noncomputable def corpus_All_p0 (C : Cal) (K : SV → ER) (x3 : SV) (x6 : SV) (x9 : SV) (x12 : SV) (x17 : SV) (x22 : SV) (x27 : SV) (x30 : SV) (x35 : SV) (x40 : SV) (x43 : SV) : ER :=
  eBuildSlice Tryz.prog 64 9 [(0, (.str [108, 100, 56, 32, 114, 50, 44, 32, 91, 114, 49, 43, 48, 93])), (1, (.str [108, 100, 56, 32, 114, 50, 44, 32, 91, 114, 50, 43, 49, 54, 93])), (2, (.str [108, 100, 56, 32, 114, 51, 44, 32, 91, 114, 49, 43, 56, 93])), (3, (.str [108, 100, 56, 32, 114, 51, 44, 32, 91, 114, 51, 43, 48, 93])), (4, (.str [109, 111, 118, 32, 114, 48, 44, 32, 48])), (5, (.str [106, 110, 101, 32, 114, 51, 44, 32, 49, 44, 32, 43, 50])), (6, (.str [106, 101, 113, 32, 114, 50, 44, 32, 48, 44, 32, 43, 49])), (7, (.str [109, 111, 118, 32, 114, 48, 44, 32, 49])), (8, (.str [101, 120, 105, 116]))] fun x44 => eCallR Tryz.prog C 15 [x44] 9 fun x45 => eBuild Tryz.prog 27 [(0, (.str [107, 101, 101, 112, 45, 114, 111, 111, 116])), (1, (.int .i64 5)), (3, x45)] fun x46 => eBuildSlice Tryz.prog 23 12 [(0, x3), (1, x6), (2, x9), (3, x12), (4, x17), (5, x22), (6, x27), (7, x30), (8, x35), (9, x40), (10, x43), (11, x46)] fun x47 => K x47
noncomputable def corpus_All_p1 (C : Cal) (K : SV → ER) (x3 : SV) (x6 : SV) (x9 : SV) (x12 : SV) (x17 : SV) (x22 : SV) (x27 : SV) (x30 : SV) (x35 : SV) (x40 : SV) : ER :=
  eBuildSlice Tryz.prog 64 10 [(0, (.str [108, 100, 56, 32, 114, 50, 44, 32, 91, 114, 49, 43, 49, 54, 93])), (1, (.str [109, 111, 118, 32, 114, 48, 44, 32, 48])), (2, (.str [106, 110, 101, 32, 114, 50, 44, 32, 50, 44, 32, 43, 54])), (3, (.str [108, 100, 56, 32, 114, 51, 44, 32, 91, 114, 49, 43, 48, 93])), (4, (.str [108, 100, 56, 32, 114, 51, 44, 32, 91, 114, 51, 43, 49, 54, 93])), (5, (.str [108, 100, 56, 32, 114, 52, 44, 32, 91, 114, 49, 43, 56, 93])), (6, (.str [108, 100, 56, 32, 114, 52, 44, 32, 91, 114, 52, 43, 50, 52, 93])), (7, (.str [106, 101, 113, 32, 114, 51, 44, 32, 114, 52, 44, 32, 43, 49])), (8, (.str [109, 111, 118, 32, 114, 48, 44, 32, 49, 51])), (9, (.str [101, 120, 105, 116]))] fun x41 => eCallR Tryz.prog C 15 [x41] 9 fun x42 => eBuild Tryz.prog 27 [(0, (.str [111, 119, 110, 45, 108, 105, 110, 107, 115])), (1, (.int .i64 16)), (3, x42)] fun x43 => corpus_All_p0 C K x3 x6 x9 x12 x17 x22 x27 x30 x35 x40 x43
noncomputable def corpus_All_p2 (C : Cal) (K : SV → ER) (x3 : SV) (x6 : SV) (x9 : SV) (x12 : SV) (x17 : SV) (x22 : SV) (x27 : SV) (x30 : SV) (x35 : SV) (x37 : SV) : ER :=
  eBuildSlice Tryz.prog 64 14 [(0, (.str [115, 116, 52, 32, 91, 114, 49, 48, 45, 52, 93, 44, 32, 48])), (1, (.str [109, 97, 112, 32, 114, 49, 44, 32, 48])), (2, (.str [109, 111, 118, 32, 114, 50, 44, 32, 114, 49, 48])), (3, (.str [97, 100, 100, 32, 114, 50, 44, 32, 45, 52])), (4, (.str [99, 97, 108, 108, 32, 49])), (5, (.str [106, 101, 113, 32, 114, 48, 44, 32, 48, 44, 32, 43, 52])), (6, (.str [108, 100, 56, 32, 114, 54, 44, 32, 91, 114, 48, 43, 48, 93])), (7, (.str [106, 103, 101, 32, 114, 54, 44, 32, 52, 44, 32, 43, 52])), (8, (.str [97, 100, 100, 32, 114, 54, 44, 32, 49])), (9, (.str [115, 116, 56, 32, 91, 114, 48, 43, 48, 93, 44, 32, 114, 54])), (10, (.str [109, 111, 118, 32, 114, 48, 44, 32, 48])), (11, (.str [101, 120, 105, 116])), (12, (.str [109, 111, 118, 32, 114, 48, 44, 32, 49, 49])), (13, (.str [101, 120, 105, 116]))] fun x38 => eCallR Tryz.prog C 15 [x38] 9 fun x39 => eBuild Tryz.prog 27 [(0, (.str [102, 111, 114, 107, 45, 108, 105, 109, 105, 116])), (1, (.int .i64 11)), (2, x37), (3, x39)] fun x40 => corpus_All_p1 C K x3 x6 x9 x12 x17 x22 x27 x30 x35 x40
noncomputable def corpus_All_p3 (C : Cal) (K : SV → ER) (x3 : SV) (x6 : SV) (x9 : SV) (x12 : SV) (x17 : SV) (x22 : SV) (x27 : SV) (x30 : SV) (x32 : SV) : ER :=
  eBuildSlice Tryz.prog 64 23 [(0, (.str [108, 100, 56, 32, 114, 50, 44, 32, 91, 114, 49, 43, 48, 93])), (1, (.str [108, 100, 56, 32, 114, 54, 44, 32, 91, 114, 50, 43, 49, 54, 93])), (2, (.str [115, 116, 56, 32, 91, 114, 49, 48, 45, 56, 93, 44, 32, 114, 54])), (3, (.str [109, 97, 112, 32, 114, 49, 44, 32, 48])), (4, (.str [109, 111, 118, 32, 114, 50, 44, 32, 114, 49, 48])), (5, (.str [97, 100, 100, 32, 114, 50, 44, 32, 45, 56])), (6, (.str [99, 97, 108, 108, 32, 49])), (7, (.str [109, 111, 118, 32, 114, 55, 44, 32, 48])), (8, (.str [106, 101, 113, 32, 114, 48, 44, 32, 48, 44, 32, 43, 49])), (9, (.str [108, 100, 56, 32, 114, 55, 44, 32, 91, 114, 48, 43, 48, 93])), (10, (.str [109, 111, 118, 32, 114, 48, 44, 32, 50, 56])), (11, (.str [106, 103, 101, 32, 114, 55, 44, 32, 51, 44, 32, 43, 49, 49])), (12, (.str [97, 100, 100, 32, 114, 55, 44, 32, 49])), (13, (.str [115, 116, 56, 32, 91, 114, 49, 48, 45, 49, 54, 93, 44, 32, 114, 55])), (14, (.str [109, 97, 112, 32, 114, 49, 44, 32, 48])), (15, (.str [109, 111, 118, 32, 114, 50, 44, 32, 114, 49, 48])), (16, (.str [97, 100, 100, 32, 114, 50, 44, 32, 45, 56])), (17, (.str [109, 111, 118, 32, 114, 51, 44, 32, 114, 49, 48])), (18, (.str [97, 100, 100, 32, 114, 51, 44, 32, 45, 49, 54])), (19, (.str [109, 111, 118, 32, 114, 52, 44, 32, 48])), (20, (.str [99, 97, 108, 108, 32, 50])), (21, (.str [109, 111, 118, 32, 114, 48, 44, 32, 48])), (22, (.str [101, 120, 105, 116]))] fun x33 => eCallR Tryz.prog C 15 [x33] 9 fun x34 => eBuild Tryz.prog 27 [(0, (.str [99, 114, 101, 97, 116, 101, 45, 113, 117, 111, 116, 97])), (1, (.int .i64 3)), (2, x32), (3, x34)] fun x35 => eBuild Tryz.prog 46 [(0, (.int .i64 1)), (1, (.int .i64 4)), (2, (.int .i64 8)), (3, (.int .i64 1))] fun x36 => eBuildSlice Tryz.prog 25 1 [(0, x36)] fun x37 => corpus_All_p2 C K x3 x6 x9 x12 x17 x22 x27 x30 x35 x37
noncomputable def corpus_All_p4 (C : Cal) (K : SV → ER) (x3 : SV) (x6 : SV) (x9 : SV) (x12 : SV) (x17 : SV) (x22 : SV) (x27 : SV) : ER :=
  eBuildSlice Tryz.prog 64 7 [(0, (.str [108, 100, 56, 32, 114, 50, 44, 32, 91, 114, 49, 43, 56, 93])), (1, (.str [108, 100, 56, 32, 114, 51, 44, 32, 91, 114, 49, 43, 49, 54, 93])), (2, (.str [109, 111, 118, 32, 114, 48, 44, 32, 48])), (3, (.str [106, 110, 101, 32, 114, 50, 44, 32, 49, 44, 32, 43, 50])), (4, (.str [106, 110, 101, 32, 114, 51, 44, 32, 48, 44, 32, 43, 49])), (5, (.str [109, 111, 118, 32, 114, 48, 44, 32, 49])), (6, (.str [101, 120, 105, 116]))] fun x28 => eCallR Tryz.prog C 15 [x28] 9 fun x29 => eBuild Tryz.prog 27 [(0, (.str [110, 111, 45, 114, 111, 111, 116])), (1, (.int .i64 14)), (3, x29)] fun x30 => eBuild Tryz.prog 46 [(0, (.int .i64 2)), (1, (.int .i64 8)), (2, (.int .i64 8)), (3, (.int .i64 8))] fun x31 => eBuildSlice Tryz.prog 25 1 [(0, x31)] fun x32 => corpus_All_p3 C K x3 x6 x9 x12 x17 x22 x27 x30 x32
noncomputable def corpus_All_p5 (C : Cal) (K : SV → ER) (x3 : SV) (x6 : SV) (x9 : SV) (x12 : SV) (x17 : SV) (x22 : SV) (x24 : SV) : ER :=
  eBuildSlice Tryz.prog 64 15 [(0, (.str [109, 111, 118, 32, 114, 54, 44, 32, 114, 49])), (1, (.str [109, 97, 112, 32, 114, 49, 44, 32, 48])), (2, (.str [109, 111, 118, 32, 114, 50, 44, 32, 49, 54])), (3, (.str [99, 97, 108, 108, 32, 56])), (4, (.str [106, 101, 113, 32, 114, 48, 44, 32, 48, 44, 32, 43, 56])), (5, (.str [108, 100, 56, 32, 114, 55, 44, 32, 91, 114, 54, 43, 48, 93])), (6, (.str [108, 100, 56, 32, 114, 55, 44, 32, 91, 114, 55, 43, 48, 93])), (7, (.str [115, 116, 56, 32, 91, 114, 48, 43, 48, 93, 44, 32, 114, 55])), (8, (.str [108, 100, 56, 32, 114, 55, 44, 32, 91, 114, 54, 43, 56, 93])), (9, (.str [108, 100, 56, 32, 114, 55, 44, 32, 91, 114, 55, 43, 48, 93])), (10, (.str [115, 116, 56, 32, 91, 114, 48, 43, 56, 93, 44, 32, 114, 55])), (11, (.str [109, 111, 118, 32, 114, 49, 44, 32, 114, 48])), (12, (.str [99, 97, 108, 108, 32, 57])), (13, (.str [109, 111, 118, 32, 114, 48, 44, 32, 48])), (14, (.str [101, 120, 105, 116]))] fun x25 => eCallR Tryz.prog C 15 [x25] 9 fun x26 => eBuild Tryz.prog 27 [(0, (.str [101, 120, 101, 99, 45, 97, 117, 100, 105, 116])), (1, (.int .i64 8)), (2, x24), (3, x26)] fun x27 => corpus_All_p4 C K x3 x6 x9 x12 x17 x22 x27
noncomputable def corpus_All_p6 (C : Cal) (K : SV → ER) (x3 : SV) (x6 : SV) (x9 : SV) (x12 : SV) (x17 : SV) (x19 : SV) : ER :=
  eBuildSlice Tryz.prog 64 26 [(0, (.str [109, 111, 118, 32, 114, 54, 44, 32, 114, 49])), (1, (.str [108, 100, 56, 32, 114, 50, 44, 32, 91, 114, 54, 43, 49, 54, 93])), (2, (.str [97, 110, 100, 32, 114, 50, 44, 32, 50])), (3, (.str [109, 111, 118, 32, 114, 48, 44, 32, 48])), (4, (.str [106, 110, 101, 32, 114, 50, 44, 32, 48, 44, 32, 43, 49])), (5, (.str [101, 120, 105, 116])), (6, (.str [108, 100, 56, 32, 114, 49, 44, 32, 91, 114, 54, 43, 56, 93])), (7, (.str [109, 111, 118, 32, 114, 50, 44, 32, 114, 49, 48])), (8, (.str [97, 100, 100, 32, 114, 50, 44, 32, 45, 56])), (9, (.str [109, 111, 118, 32, 114, 51, 44, 32, 56])), (10, (.str [99, 97, 108, 108, 32, 49, 50])), (11, (.str [108, 100, 52, 32, 114, 50, 44, 32, 91, 114, 49, 48, 45, 56, 93])), (12, (.str [109, 111, 118, 32, 114, 48, 44, 32, 48])), (13, (.str [106, 101, 113, 51, 50, 32, 114, 50, 44, 32, 49, 54, 54, 56, 53, 55, 50, 52, 54, 51, 44, 32, 43, 49])), (14, (.str [101, 120, 105, 116])), (15, (.str [109, 97, 112, 32, 114, 49, 44, 32, 48])), (16, (.str [109, 111, 118, 32, 114, 50, 44, 32, 56])), (17, (.str [99, 97, 108, 108, 32, 56])), (18, (.str [106, 101, 113, 32, 114, 48, 44, 32, 48, 44, 32, 43, 53])), (19, (.str [108, 100, 56, 32, 114, 55, 44, 32, 91, 114, 54, 43, 56, 93])), (20, (.str [108, 100, 56, 32, 114, 55, 44, 32, 91, 114, 55, 43, 48, 93])), (21, (.str [115, 116, 56, 32, 91, 114, 48, 43, 48, 93, 44, 32, 114, 55])), (22, (.str [109, 111, 118, 32, 114, 49, 44, 32, 114, 48])), (23, (.str [99, 97, 108, 108, 32, 57])), (24, (.str [109, 111, 118, 32, 114, 48, 44, 32, 49, 51])), (25, (.str [101, 120, 105, 116]))] fun x20 => eCallR Tryz.prog C 15 [x20] 9 fun x21 => eBuild Tryz.prog 27 [(0, (.str [101, 116, 99, 45, 111, 112, 101, 110])), (1, (.int .i64 1)), (2, x19), (3, x21)] fun x22 => eBuild Tryz.prog 46 [(0, (.int .i64 5))] fun x23 => eBuildSlice Tryz.prog 25 1 [(0, x23)] fun x24 => corpus_All_p5 C K x3 x6 x9 x12 x17 x22 x24
noncomputable def corpus_All_p7 (C : Cal) (K : SV → ER) (x3 : SV) (x6 : SV) (x9 : SV) (x12 : SV) (x14 : SV) : ER :=
  eBuildSlice Tryz.prog 64 26 [(0, (.str [109, 111, 118, 32, 114, 54, 44, 32, 114, 49])), (1, (.str [108, 100, 56, 32, 114, 55, 44, 32, 91, 114, 54, 43, 48, 93])), (2, (.str [109, 97, 112, 32, 114, 49, 44, 32, 48])), (3, (.str [109, 111, 118, 32, 114, 50, 44, 32, 114, 55])), (4, (.str [109, 111, 118, 32, 114, 51, 44, 32, 49])), (5, (.str [99, 97, 108, 108, 32, 53])), (6, (.str [109, 111, 118, 32, 114, 56, 44, 32, 48])), (7, (.str [106, 101, 113, 32, 114, 48, 44, 32, 48, 44, 32, 43, 52])), (8, (.str [108, 100, 56, 32, 114, 56, 44, 32, 91, 114, 48, 43, 48, 93])), (9, (.str [106, 110, 101, 32, 114, 56, 44, 32, 48, 44, 32, 43, 50])), (10, (.str [108, 100, 56, 32, 114, 56, 44, 32, 91, 114, 55, 43, 49, 54, 93])), (11, (.str [115, 116, 56, 32, 91, 114, 48, 43, 48, 93, 44, 32, 114, 56])), (12, (.str [108, 100, 56, 32, 114, 55, 44, 32, 91, 114, 54, 43, 56, 93])), (13, (.str [109, 97, 112, 32, 114, 49, 44, 32, 48])), (14, (.str [109, 111, 118, 32, 114, 50, 44, 32, 114, 55])), (15, (.str [109, 111, 118, 32, 114, 51, 44, 32, 48])), (16, (.str [99, 97, 108, 108, 32, 53])), (17, (.str [109, 111, 118, 32, 114, 57, 44, 32, 48])), (18, (.str [106, 101, 113, 32, 114, 48, 44, 32, 48, 44, 32, 43, 49])), (19, (.str [108, 100, 56, 32, 114, 57, 44, 32, 91, 114, 48, 43, 48, 93])), (20, (.str [109, 111, 118, 32, 114, 48, 44, 32, 48])), (21, (.str [106, 101, 113, 32, 114, 56, 44, 32, 48, 44, 32, 43, 51])), (22, (.str [106, 101, 113, 32, 114, 57, 44, 32, 48, 44, 32, 43, 50])), (23, (.str [106, 101, 113, 32, 114, 56, 44, 32, 114, 57, 44, 32, 43, 49])), (24, (.str [109, 111, 118, 32, 114, 48, 44, 32, 49])), (25, (.str [101, 120, 105, 116]))] fun x15 => eCallR Tryz.prog C 15 [x15] 9 fun x16 => eBuild Tryz.prog 27 [(0, (.str [108, 97, 98, 101, 108, 45, 107, 105, 108, 108])), (1, (.int .i64 12)), (2, x14), (3, x16)] fun x17 => eBuild Tryz.prog 46 [(0, (.int .i64 5))] fun x18 => eBuildSlice Tryz.prog 25 1 [(0, x18)] fun x19 => corpus_All_p6 C K x3 x6 x9 x12 x17 x19
noncomputable def corpus_All_p8 (C : Cal) (K : SV → ER) (x3 : SV) (x6 : SV) (x9 : SV) : ER :=
  eBuildSlice Tryz.prog 64 10 [(0, (.str [108, 100, 56, 32, 114, 50, 44, 32, 91, 114, 49, 43, 48, 93])), (1, (.str [108, 100, 56, 32, 114, 51, 44, 32, 91, 114, 49, 43, 56, 93])), (2, (.str [108, 100, 56, 32, 114, 50, 44, 32, 91, 114, 50, 43, 48, 93])), (3, (.str [109, 111, 118, 32, 114, 49, 44, 32, 114, 51])), (4, (.str [99, 97, 108, 108, 32, 49, 51])), (5, (.str [109, 111, 118, 32, 114, 54, 44, 32, 114, 48])), (6, (.str [109, 111, 118, 32, 114, 48, 44, 32, 48])), (7, (.str [106, 110, 101, 32, 114, 54, 44, 32, 48, 44, 32, 43, 49])), (8, (.str [109, 111, 118, 32, 114, 48, 44, 32, 49])), (9, (.str [101, 120, 105, 116]))] fun x10 => eCallR Tryz.prog C 15 [x10] 9 fun x11 => eBuild Tryz.prog 27 [(0, (.str [116, 114, 97, 99, 101, 45, 98, 101, 108, 111, 119])), (1, (.int .i64 13)), (3, x11)] fun x12 => eBuild Tryz.prog 46 [(0, (.int .i64 4)), (2, (.int .i64 8)), (3, (.int .i64 16))] fun x13 => eBuildSlice Tryz.prog 25 1 [(0, x13)] fun x14 => corpus_All_p7 C K x3 x6 x9 x12 x14
noncomputable def corpus_All_p9 (C : Cal) (K : SV → ER) (x3 : SV) (x6 : SV) : ER :=
  eBuildSlice Tryz.prog 64 12 [(0, (.str [108, 100, 56, 32, 114, 50, 44, 32, 91, 114, 49, 43, 49, 54, 93])), (1, (.str [108, 100, 56, 32, 114, 51, 44, 32, 91, 114, 49, 43, 50, 52, 93])), (2, (.str [109, 111, 118, 32, 114, 48, 44, 32, 49, 51])), (3, (.str [109, 111, 118, 32, 114, 52, 44, 32, 114, 50])), (4, (.str [97, 110, 100, 32, 114, 52, 44, 32, 54])), (5, (.str [106, 101, 113, 32, 114, 52, 44, 32, 54, 44, 32, 43, 53])), (6, (.str [97, 110, 100, 32, 114, 51, 44, 32, 50])), (7, (.str [106, 101, 113, 32, 114, 51, 44, 32, 48, 44, 32, 43, 50])), (8, (.str [97, 110, 100, 32, 114, 50, 44, 32, 52])), (9, (.str [106, 110, 101, 32, 114, 50, 44, 32, 48, 44, 32, 43, 49])), (10, (.str [109, 111, 118, 32, 114, 48, 44, 32, 48])), (11, (.str [101, 120, 105, 116]))] fun x7 => eCallR Tryz.prog C 15 [x7] 9 fun x8 => eBuild Tryz.prog 27 [(0, (.str [119, 120, 45, 112, 114, 111, 116, 101, 99, 116])), (1, (.int .i64 10)), (3, x8)] fun x9 => corpus_All_p8 C K x3 x6 x9
noncomputable def corpus_All_p10 (C : Cal) (K : SV → ER) (x3 : SV) : ER :=
  eBuildSlice Tryz.prog 64 6 [(0, (.str [108, 100, 56, 32, 114, 50, 44, 32, 91, 114, 49, 43, 49, 54, 93])), (1, (.str [97, 110, 100, 32, 114, 50, 44, 32, 54])), (2, (.str [109, 111, 118, 32, 114, 48, 44, 32, 48])), (3, (.str [106, 110, 101, 32, 114, 50, 44, 32, 54, 44, 32, 43, 49])), (4, (.str [109, 111, 118, 32, 114, 48, 44, 32, 49, 51])), (5, (.str [101, 120, 105, 116]))] fun x4 => eCallR Tryz.prog C 15 [x4] 9 fun x5 => eBuild Tryz.prog 27 [(0, (.str [119, 120, 45, 109, 97, 112])), (1, (.int .i64 9)), (3, x5)] fun x6 => corpus_All_p9 C K x3 x6
noncomputable def corpus_All_e (C : Cal) (N : Nat) (K : SV → ER) : ER :=
  eBuildSlice Tryz.prog 64 7 [(0, (.str [108, 100, 56, 32, 114, 50, 44, 32, 91, 114, 49, 43, 56, 93])), (1, (.str [108, 100, 56, 32, 114, 50, 44, 32, 91, 114, 50, 43, 49, 54, 93])), (2, (.str [109, 111, 118, 32, 114, 48, 44, 32, 48])), (3, (.str [106, 115, 101, 116, 32, 114, 50, 44, 32, 49, 52, 54, 44, 32, 43, 49])), (4, (.str [101, 120, 105, 116])), (5, (.str [109, 111, 118, 32, 114, 48, 44, 32, 49, 51])), (6, (.str [101, 120, 105, 116]))] fun x1 => eCallR Tryz.prog C 15 [x1] 9 fun x2 => eBuild Tryz.prog 27 [(0, (.str [101, 120, 101, 99, 45, 119, 114, 105, 116, 97, 98, 108, 101])), (1, (.int .i64 8)), (3, x2)] fun x3 => corpus_All_p10 C K x3
theorem corpus_All_ee (C : Cal) (N : Nat) (K : SV → ER) : eBody Tryz.prog C N Tryz.f6 (Tryz.f6.body.getD .skip) corpus_All_ea [] K = corpus_All_e C N  K := by kernel_rfl
noncomputable def l6 : LeafT := fun C N args K => match args with
  | [] => corpus_All_e C N  K
  | _ => eF
theorem lok6 : LeafOk Tryz.prog 6 l6 := .inl ⟨Tryz.f6, Tryz.f6.body.getD .skip, corpus_All_ea, Tryz.func6, by kernel_rfl, Tryz.call6, fun C N args K H e => by
  unfold l6 at e
  split at e
  · rw [corpus_All_ee]; exact e
  · exact eF_no e⟩

/- halberd/halberdref28.All -/
def ref28_All_ea : Ann := .two (.none) (.two (.none) (.none))
noncomputable def ref28_All_p0 (K : SV → ER) (x1 : SV) (x2 : SV) (x3 : SV) (x4 : SV) (x7 : SV) (x10 : SV) (x13 : SV) (x14 : SV) (x17 : SV) (x20 : SV) (x21 : SV) : ER :=
  eBuild Tryz.prog 27 [(0, (.str [107, 101, 101, 112, 45, 114, 111, 111, 116])), (1, (.int .i64 5)), (3, (.str [108, 100, 56, 32, 114, 50, 44, 32, 91, 114, 49, 43, 48, 93, 10, 108, 100, 56, 32, 114, 50, 44, 32, 91, 114, 50, 43, 49, 54, 93, 10, 108, 100, 56, 32, 114, 51, 44, 32, 91, 114, 49, 43, 56, 93, 10, 108, 100, 56, 32, 114, 51, 44, 32, 91, 114, 51, 43, 48, 93, 10, 109, 111, 118, 32, 114, 48, 44, 32, 48, 10, 106, 110, 101, 32, 114, 51, 44, 32, 49, 44, 32, 43, 50, 10, 106, 101, 113, 32, 114, 50, 44, 32, 48, 44, 32, 43, 49, 10, 109, 111, 118, 32, 114, 48, 44, 32, 49, 10, 101, 120, 105, 116, 10]))] fun x22 => eBuildSlice Tryz.prog 23 12 [(0, x1), (1, x2), (2, x3), (3, x4), (4, x7), (5, x10), (6, x13), (7, x14), (8, x17), (9, x20), (10, x21), (11, x22)] fun x23 => K x23
noncomputable def ref28_All_p1 (K : SV → ER) (x1 : SV) (x2 : SV) (x3 : SV) (x4 : SV) (x7 : SV) (x10 : SV) (x13 : SV) (x14 : SV) (x17 : SV) (x20 : SV) : ER :=
  eBuild Tryz.prog 27 [(0, (.str [111, 119, 110, 45, 108, 105, 110, 107, 115])), (1, (.int .i64 16)), (3, (.str [108, 100, 56, 32, 114, 50, 44, 32, 91, 114, 49, 43, 49, 54, 93, 10, 109, 111, 118, 32, 114, 48, 44, 32, 48, 10, 106, 110, 101, 32, 114, 50, 44, 32, 50, 44, 32, 43, 54, 10, 108, 100, 56, 32, 114, 51, 44, 32, 91, 114, 49, 43, 48, 93, 10, 108, 100, 56, 32, 114, 51, 44, 32, 91, 114, 51, 43, 49, 54, 93, 10, 108, 100, 56, 32, 114, 52, 44, 32, 91, 114, 49, 43, 56, 93, 10, 108, 100, 56, 32, 114, 52, 44, 32, 91, 114, 52, 43, 50, 52, 93, 10, 106, 101, 113, 32, 114, 51, 44, 32, 114, 52, 44, 32, 43, 49, 10, 109, 111, 118, 32, 114, 48, 44, 32, 49, 51, 10, 101, 120, 105, 116, 10]))] fun x21 => ref28_All_p0 K x1 x2 x3 x4 x7 x10 x13 x14 x17 x20 x21
noncomputable def ref28_All_p2 (K : SV → ER) (x1 : SV) (x2 : SV) (x3 : SV) (x4 : SV) (x7 : SV) (x10 : SV) (x13 : SV) (x14 : SV) (x17 : SV) (x19 : SV) : ER :=
  eBuild Tryz.prog 27 [(0, (.str [102, 111, 114, 107, 45, 108, 105, 109, 105, 116])), (1, (.int .i64 11)), (2, x19), (3, (.str [115, 116, 52, 32, 91, 114, 49, 48, 45, 52, 93, 44, 32, 48, 10, 109, 97, 112, 32, 114, 49, 44, 32, 48, 10, 109, 111, 118, 32, 114, 50, 44, 32, 114, 49, 48, 10, 97, 100, 100, 32, 114, 50, 44, 32, 45, 52, 10, 99, 97, 108, 108, 32, 49, 10, 106, 101, 113, 32, 114, 48, 44, 32, 48, 44, 32, 43, 52, 10, 108, 100, 56, 32, 114, 54, 44, 32, 91, 114, 48, 43, 48, 93, 10, 106, 103, 101, 32, 114, 54, 44, 32, 52, 44, 32, 43, 52, 10, 97, 100, 100, 32, 114, 54, 44, 32, 49, 10, 115, 116, 56, 32, 91, 114, 48, 43, 48, 93, 44, 32, 114, 54, 10, 109, 111, 118, 32, 114, 48, 44, 32, 48, 10, 101, 120, 105, 116, 10, 109, 111, 118, 32, 114, 48, 44, 32, 49, 49, 10, 101, 120, 105, 116, 10]))] fun x20 => ref28_All_p1 K x1 x2 x3 x4 x7 x10 x13 x14 x17 x20
noncomputable def ref28_All_p3 (K : SV → ER) (x1 : SV) (x2 : SV) (x3 : SV) (x4 : SV) (x7 : SV) (x10 : SV) (x13 : SV) (x14 : SV) (x16 : SV) : ER :=
  eBuild Tryz.prog 27 [(0, (.str [99, 114, 101, 97, 116, 101, 45, 113, 117, 111, 116, 97])), (1, (.int .i64 3)), (2, x16), (3, (.str [108, 100, 56, 32, 114, 50, 44, 32, 91, 114, 49, 43, 48, 93, 10, 108, 100, 56, 32, 114, 54, 44, 32, 91, 114, 50, 43, 49, 54, 93, 10, 115, 116, 56, 32, 91, 114, 49, 48, 45, 56, 93, 44, 32, 114, 54, 10, 109, 97, 112, 32, 114, 49, 44, 32, 48, 10, 109, 111, 118, 32, 114, 50, 44, 32, 114, 49, 48, 10, 97, 100, 100, 32, 114, 50, 44, 32, 45, 56, 10, 99, 97, 108, 108, 32, 49, 10, 109, 111, 118, 32, 114, 55, 44, 32, 48, 10, 106, 101, 113, 32, 114, 48, 44, 32, 48, 44, 32, 43, 49, 10, 108, 100, 56, 32, 114, 55, 44, 32, 91, 114, 48, 43, 48, 93, 10, 109, 111, 118, 32, 114, 48, 44, 32, 50, 56, 10, 106, 103, 101, 32, 114, 55, 44, 32, 51, 44, 32, 43, 49, 49, 10, 97, 100, 100, 32, 114, 55, 44, 32, 49, 10, 115, 116, 56, 32, 91, 114, 49, 48, 45, 49, 54, 93, 44, 32, 114, 55, 10, 109, 97, 112, 32, 114, 49, 44, 32, 48, 10, 109, 111, 118, 32, 114, 50, 44, 32, 114, 49, 48, 10, 97, 100, 100, 32, 114, 50, 44, 32, 45, 56, 10, 109, 111, 118, 32, 114, 51, 44, 32, 114, 49, 48, 10, 97, 100, 100, 32, 114, 51, 44, 32, 45, 49, 54, 10, 109, 111, 118, 32, 114, 52, 44, 32, 48, 10, 99, 97, 108, 108, 32, 50, 10, 109, 111, 118, 32, 114, 48, 44, 32, 48, 10, 101, 120, 105, 116, 10]))] fun x17 => eBuild Tryz.prog 46 [(0, (.int .i64 1)), (1, (.int .i64 4)), (2, (.int .i64 8)), (3, (.int .i64 1))] fun x18 => eBuildSlice Tryz.prog 25 1 [(0, x18)] fun x19 => ref28_All_p2 K x1 x2 x3 x4 x7 x10 x13 x14 x17 x19
noncomputable def ref28_All_p4 (K : SV → ER) (x1 : SV) (x2 : SV) (x3 : SV) (x4 : SV) (x7 : SV) (x10 : SV) (x13 : SV) : ER :=
  eBuild Tryz.prog 27 [(0, (.str [110, 111, 45, 114, 111, 111, 116])), (1, (.int .i64 14)), (3, (.str [108, 100, 56, 32, 114, 50, 44, 32, 91, 114, 49, 43, 56, 93, 10, 108, 100, 56, 32, 114, 51, 44, 32, 91, 114, 49, 43, 49, 54, 93, 10, 109, 111, 118, 32, 114, 48, 44, 32, 48, 10, 106, 110, 101, 32, 114, 50, 44, 32, 49, 44, 32, 43, 50, 10, 106, 110, 101, 32, 114, 51, 44, 32, 48, 44, 32, 43, 49, 10, 109, 111, 118, 32, 114, 48, 44, 32, 49, 10, 101, 120, 105, 116, 10]))] fun x14 => eBuild Tryz.prog 46 [(0, (.int .i64 2)), (1, (.int .i64 8)), (2, (.int .i64 8)), (3, (.int .i64 8))] fun x15 => eBuildSlice Tryz.prog 25 1 [(0, x15)] fun x16 => ref28_All_p3 K x1 x2 x3 x4 x7 x10 x13 x14 x16
noncomputable def ref28_All_p5 (K : SV → ER) (x1 : SV) (x2 : SV) (x3 : SV) (x4 : SV) (x7 : SV) (x10 : SV) (x12 : SV) : ER :=
  eBuild Tryz.prog 27 [(0, (.str [101, 120, 101, 99, 45, 97, 117, 100, 105, 116])), (1, (.int .i64 8)), (2, x12), (3, (.str [109, 111, 118, 32, 114, 54, 44, 32, 114, 49, 10, 109, 97, 112, 32, 114, 49, 44, 32, 48, 10, 109, 111, 118, 32, 114, 50, 44, 32, 49, 54, 10, 99, 97, 108, 108, 32, 56, 10, 106, 101, 113, 32, 114, 48, 44, 32, 48, 44, 32, 43, 56, 10, 108, 100, 56, 32, 114, 55, 44, 32, 91, 114, 54, 43, 48, 93, 10, 108, 100, 56, 32, 114, 55, 44, 32, 91, 114, 55, 43, 48, 93, 10, 115, 116, 56, 32, 91, 114, 48, 43, 48, 93, 44, 32, 114, 55, 10, 108, 100, 56, 32, 114, 55, 44, 32, 91, 114, 54, 43, 56, 93, 10, 108, 100, 56, 32, 114, 55, 44, 32, 91, 114, 55, 43, 48, 93, 10, 115, 116, 56, 32, 91, 114, 48, 43, 56, 93, 44, 32, 114, 55, 10, 109, 111, 118, 32, 114, 49, 44, 32, 114, 48, 10, 99, 97, 108, 108, 32, 57, 10, 109, 111, 118, 32, 114, 48, 44, 32, 48, 10, 101, 120, 105, 116, 10]))] fun x13 => ref28_All_p4 K x1 x2 x3 x4 x7 x10 x13
noncomputable def ref28_All_p6 (K : SV → ER) (x1 : SV) (x2 : SV) (x3 : SV) (x4 : SV) (x7 : SV) (x9 : SV) : ER :=
  eBuild Tryz.prog 27 [(0, (.str [101, 116, 99, 45, 111, 112, 101, 110])), (1, (.int .i64 1)), (2, x9), (3, (.str [109, 111, 118, 32, 114, 54, 44, 32, 114, 49, 10, 108, 100, 56, 32, 114, 50, 44, 32, 91, 114, 54, 43, 49, 54, 93, 10, 97, 110, 100, 32, 114, 50, 44, 32, 50, 10, 109, 111, 118, 32, 114, 48, 44, 32, 48, 10, 106, 110, 101, 32, 114, 50, 44, 32, 48, 44, 32, 43, 49, 10, 101, 120, 105, 116, 10, 108, 100, 56, 32, 114, 49, 44, 32, 91, 114, 54, 43, 56, 93, 10, 109, 111, 118, 32, 114, 50, 44, 32, 114, 49, 48, 10, 97, 100, 100, 32, 114, 50, 44, 32, 45, 56, 10, 109, 111, 118, 32, 114, 51, 44, 32, 56, 10, 99, 97, 108, 108, 32, 49, 50, 10, 108, 100, 52, 32, 114, 50, 44, 32, 91, 114, 49, 48, 45, 56, 93, 10, 109, 111, 118, 32, 114, 48, 44, 32, 48, 10, 106, 101, 113, 51, 50, 32, 114, 50, 44, 32, 49, 54, 54, 56, 53, 55, 50, 52, 54, 51, 44, 32, 43, 49, 10, 101, 120, 105, 116, 10, 109, 97, 112, 32, 114, 49, 44, 32, 48, 10, 109, 111, 118, 32, 114, 50, 44, 32, 56, 10, 99, 97, 108, 108, 32, 56, 10, 106, 101, 113, 32, 114, 48, 44, 32, 48, 44, 32, 43, 53, 10, 108, 100, 56, 32, 114, 55, 44, 32, 91, 114, 54, 43, 56, 93, 10, 108, 100, 56, 32, 114, 55, 44, 32, 91, 114, 55, 43, 48, 93, 10, 115, 116, 56, 32, 91, 114, 48, 43, 48, 93, 44, 32, 114, 55, 10, 109, 111, 118, 32, 114, 49, 44, 32, 114, 48, 10, 99, 97, 108, 108, 32, 57, 10, 109, 111, 118, 32, 114, 48, 44, 32, 49, 51, 10, 101, 120, 105, 116, 10]))] fun x10 => eBuild Tryz.prog 46 [(0, (.int .i64 5))] fun x11 => eBuildSlice Tryz.prog 25 1 [(0, x11)] fun x12 => ref28_All_p5 K x1 x2 x3 x4 x7 x10 x12
noncomputable def ref28_All_p7 (K : SV → ER) (x1 : SV) (x2 : SV) (x3 : SV) (x4 : SV) (x6 : SV) : ER :=
  eBuild Tryz.prog 27 [(0, (.str [108, 97, 98, 101, 108, 45, 107, 105, 108, 108])), (1, (.int .i64 12)), (2, x6), (3, (.str [109, 111, 118, 32, 114, 54, 44, 32, 114, 49, 10, 108, 100, 56, 32, 114, 55, 44, 32, 91, 114, 54, 43, 48, 93, 10, 109, 97, 112, 32, 114, 49, 44, 32, 48, 10, 109, 111, 118, 32, 114, 50, 44, 32, 114, 55, 10, 109, 111, 118, 32, 114, 51, 44, 32, 49, 10, 99, 97, 108, 108, 32, 53, 10, 109, 111, 118, 32, 114, 56, 44, 32, 48, 10, 106, 101, 113, 32, 114, 48, 44, 32, 48, 44, 32, 43, 52, 10, 108, 100, 56, 32, 114, 56, 44, 32, 91, 114, 48, 43, 48, 93, 10, 106, 110, 101, 32, 114, 56, 44, 32, 48, 44, 32, 43, 50, 10, 108, 100, 56, 32, 114, 56, 44, 32, 91, 114, 55, 43, 49, 54, 93, 10, 115, 116, 56, 32, 91, 114, 48, 43, 48, 93, 44, 32, 114, 56, 10, 108, 100, 56, 32, 114, 55, 44, 32, 91, 114, 54, 43, 56, 93, 10, 109, 97, 112, 32, 114, 49, 44, 32, 48, 10, 109, 111, 118, 32, 114, 50, 44, 32, 114, 55, 10, 109, 111, 118, 32, 114, 51, 44, 32, 48, 10, 99, 97, 108, 108, 32, 53, 10, 109, 111, 118, 32, 114, 57, 44, 32, 48, 10, 106, 101, 113, 32, 114, 48, 44, 32, 48, 44, 32, 43, 49, 10, 108, 100, 56, 32, 114, 57, 44, 32, 91, 114, 48, 43, 48, 93, 10, 109, 111, 118, 32, 114, 48, 44, 32, 48, 10, 106, 101, 113, 32, 114, 56, 44, 32, 48, 44, 32, 43, 51, 10, 106, 101, 113, 32, 114, 57, 44, 32, 48, 44, 32, 43, 50, 10, 106, 101, 113, 32, 114, 56, 44, 32, 114, 57, 44, 32, 43, 49, 10, 109, 111, 118, 32, 114, 48, 44, 32, 49, 10, 101, 120, 105, 116, 10]))] fun x7 => eBuild Tryz.prog 46 [(0, (.int .i64 5))] fun x8 => eBuildSlice Tryz.prog 25 1 [(0, x8)] fun x9 => ref28_All_p6 K x1 x2 x3 x4 x7 x9
noncomputable def ref28_All_p8 (K : SV → ER) (x1 : SV) (x2 : SV) (x3 : SV) : ER :=
  eBuild Tryz.prog 27 [(0, (.str [116, 114, 97, 99, 101, 45, 98, 101, 108, 111, 119])), (1, (.int .i64 13)), (3, (.str [108, 100, 56, 32, 114, 50, 44, 32, 91, 114, 49, 43, 48, 93, 10, 108, 100, 56, 32, 114, 51, 44, 32, 91, 114, 49, 43, 56, 93, 10, 108, 100, 56, 32, 114, 50, 44, 32, 91, 114, 50, 43, 48, 93, 10, 109, 111, 118, 32, 114, 49, 44, 32, 114, 51, 10, 99, 97, 108, 108, 32, 49, 51, 10, 109, 111, 118, 32, 114, 54, 44, 32, 114, 48, 10, 109, 111, 118, 32, 114, 48, 44, 32, 48, 10, 106, 110, 101, 32, 114, 54, 44, 32, 48, 44, 32, 43, 49, 10, 109, 111, 118, 32, 114, 48, 44, 32, 49, 10, 101, 120, 105, 116, 10]))] fun x4 => eBuild Tryz.prog 46 [(0, (.int .i64 4)), (2, (.int .i64 8)), (3, (.int .i64 16))] fun x5 => eBuildSlice Tryz.prog 25 1 [(0, x5)] fun x6 => ref28_All_p7 K x1 x2 x3 x4 x6
noncomputable def ref28_All_p9 (K : SV → ER) (x1 : SV) (x2 : SV) : ER :=
  eBuild Tryz.prog 27 [(0, (.str [119, 120, 45, 112, 114, 111, 116, 101, 99, 116])), (1, (.int .i64 10)), (3, (.str [108, 100, 56, 32, 114, 50, 44, 32, 91, 114, 49, 43, 49, 54, 93, 10, 108, 100, 56, 32, 114, 51, 44, 32, 91, 114, 49, 43, 50, 52, 93, 10, 109, 111, 118, 32, 114, 48, 44, 32, 49, 51, 10, 109, 111, 118, 32, 114, 52, 44, 32, 114, 50, 10, 97, 110, 100, 32, 114, 52, 44, 32, 54, 10, 106, 101, 113, 32, 114, 52, 44, 32, 54, 44, 32, 43, 53, 10, 97, 110, 100, 32, 114, 51, 44, 32, 50, 10, 106, 101, 113, 32, 114, 51, 44, 32, 48, 44, 32, 43, 50, 10, 97, 110, 100, 32, 114, 50, 44, 32, 52, 10, 106, 110, 101, 32, 114, 50, 44, 32, 48, 44, 32, 43, 49, 10, 109, 111, 118, 32, 114, 48, 44, 32, 48, 10, 101, 120, 105, 116, 10]))] fun x3 => ref28_All_p8 K x1 x2 x3
noncomputable def ref28_All_e (C : Cal) (N : Nat) (K : SV → ER) : ER :=
  eBuild Tryz.prog 27 [(0, (.str [101, 120, 101, 99, 45, 119, 114, 105, 116, 97, 98, 108, 101])), (1, (.int .i64 8)), (3, (.str [108, 100, 56, 32, 114, 50, 44, 32, 91, 114, 49, 43, 56, 93, 10, 108, 100, 56, 32, 114, 50, 44, 32, 91, 114, 50, 43, 49, 54, 93, 10, 109, 111, 118, 32, 114, 48, 44, 32, 48, 10, 106, 115, 101, 116, 32, 114, 50, 44, 32, 49, 52, 54, 44, 32, 43, 49, 10, 101, 120, 105, 116, 10, 109, 111, 118, 32, 114, 48, 44, 32, 49, 51, 10, 101, 120, 105, 116, 10]))] fun x1 => eBuild Tryz.prog 27 [(0, (.str [119, 120, 45, 109, 97, 112])), (1, (.int .i64 9)), (3, (.str [108, 100, 56, 32, 114, 50, 44, 32, 91, 114, 49, 43, 49, 54, 93, 10, 97, 110, 100, 32, 114, 50, 44, 32, 54, 10, 109, 111, 118, 32, 114, 48, 44, 32, 48, 10, 106, 110, 101, 32, 114, 50, 44, 32, 54, 44, 32, 43, 49, 10, 109, 111, 118, 32, 114, 48, 44, 32, 49, 51, 10, 101, 120, 105, 116, 10]))] fun x2 => ref28_All_p9 K x1 x2
theorem ref28_All_ee (C : Cal) (N : Nat) (K : SV → ER) : eBody Tryz.prog C N Tryz.f7 (Tryz.f7.body.getD .skip) ref28_All_ea [] K = ref28_All_e C N  K := by kernel_rfl
noncomputable def l7 : LeafT := fun C N args K => match args with
  | [] => ref28_All_e C N  K
  | _ => eF
theorem lok7 : LeafOk Tryz.prog 7 l7 := .inl ⟨Tryz.f7, Tryz.f7.body.getD .skip, ref28_All_ea, Tryz.func7, by kernel_rfl, Tryz.call7, fun C N args K H e => by
  unfold l7 at e
  split at e
  · rw [ref28_All_ee]; exact e
  · exact eF_no e⟩

/- halberd/corpus.By -/
def corpus_By_ea : Ann := .two (.none) (.two (.none) (.two (.none) (.two (.two (.none) (.two (.two (.none) (.none)) (.none))) (.two (.none) (.none)))))
noncomputable def corpus_By_e (C : Cal) (N : Nat) (a0 : SV) (K : SV → ER) : ER :=
  eBox Tryz.prog 9 a0 fun x1 => eAlloc Tryz.prog 27 fun x2 => eCallR Tryz.prog C 6 [] 23 fun x3 => eCallR Tryz.prog C 16 [x3, (.fn 17 [] [x1])] 3 fun x4 => eBin Tryz.prog .lss 3 false x4 (.int .i64 0) fun x5 => eIfV x5
  (eBuild Tryz.prog 27 [] fun x6 => eStore Tryz.prog 27 x2 x6 <| eLoad Tryz.prog 27 x2 fun x7 => K (.tup [x7, (.bool false)]))
  (eIndexAddrS Tryz.prog 23 x3 x4 fun x8 => eLoad Tryz.prog 27 x8 fun x9 => eStore Tryz.prog 27 x2 x9 <| eLoad Tryz.prog 27 x2 fun x10 => K (.tup [x10, (.bool true)]))
theorem corpus_By_ee (C : Cal) (N : Nat) (a0 : SV) (K : SV → ER) : eBody Tryz.prog C N Tryz.f8 (Tryz.f8.body.getD .skip) corpus_By_ea [a0] K = corpus_By_e C N a0 K := by kernel_rfl
noncomputable def l8 : LeafT := fun C N args K => match args with
  | [a0] => corpus_By_e C N a0 K
  | _ => eF
theorem lok8 : LeafOk Tryz.prog 8 l8 := .inl ⟨Tryz.f8, Tryz.f8.body.getD .skip, corpus_By_ea, Tryz.func8, by kernel_rfl, Tryz.call8, fun C N args K H e => by
  unfold l8 at e
  split at e
  · rw [corpus_By_ee]; exact e
  · exact eF_no e⟩

/- halberd/corpus.Code -/
def corpus_Code_ea : Ann := .two (.none) (.two (.none) (.two (.two (.none) (.two (.two (.none) (.none)) (.none))) (.two (.none) (.two (.none) (.none)))))
noncomputable def corpus_Code_p0 (C : Cal) (K : SV → ER) (x4 : SV) : ER :=
  eFieldAddr Tryz.prog 27 x4 3 fun x6 => eLoad Tryz.prog 9 x6 fun x7 => eCallR Tryz.prog C 18 [x7] 49 fun x8 => eExtract x8 0 fun x9 => eExtract x8 1 fun x10 => eCallR Tryz.prog C 19 [x9] 30 fun x11 => K (.tup [x11, x10])
noncomputable def corpus_Code_e (C : Cal) (N : Nat) (a0 : SV) (K : SV → ER) : ER :=
  eCallR Tryz.prog C 8 [a0] 28 fun x1 => eExtract x1 0 fun x2 => eExtract x1 1 fun x3 => eAlloc Tryz.prog 27 fun x4 => eStore Tryz.prog 27 x4 x2 <| eUnS .not x3 fun x5 => eIfV x5
  (K (.tup [(.sl ⟨none, 0, .lit 0⟩), (.int .i64 2)]))
  (corpus_Code_p0 C K x4)
theorem corpus_Code_ee (C : Cal) (N : Nat) (a0 : SV) (K : SV → ER) : eBody Tryz.prog C N Tryz.f9 (Tryz.f9.body.getD .skip) corpus_Code_ea [a0] K = corpus_Code_e C N a0 K := by kernel_rfl
noncomputable def l9 : LeafT := fun C N args K => match args with
  | [a0] => corpus_Code_e C N a0 K
  | _ => eF
theorem lok9 : LeafOk Tryz.prog 9 l9 := .inl ⟨Tryz.f9, Tryz.f9.body.getD .skip, corpus_Code_ea, Tryz.func9, by kernel_rfl, Tryz.call9, fun C N args K H e => by
  unfold l9 at e
  split at e
  · rw [corpus_Code_ee]; exact e
  · exact eF_no e⟩

/- halberd/halberdref28.Same -/
def ref28_Same_ea : Ann := .two (.none) (.two (.join (.none) (.two (.two (.none) (.none)) (.none)) [(33, .any)]) (.two (.two (.none) (.sub (.loop [(5, .any)] (.two (.two (.none) (.two (.none) (.none))) (.two (.sub (.two (.ord [0, 2, 5, 7, 1, 3, 4, 6, 8, 9, 10]) (.two (.two (.none) (.none)) (.none)))) (.none)))))) (.two (.none) (.none))))
noncomputable def ref28_Same_p0 (k3 : SV × Unit → ER) (x1 : SV) (x2 : SV) : ER :=
  eFieldAddr Tryz.prog 27 x1 2 fun x20 => eLoad Tryz.prog 25 x20 fun x21 => eLenS Tryz.prog [25] [x21] fun x22 => eFieldAddr Tryz.prog 27 x2 2 fun x23 => eLoad Tryz.prog 25 x23 fun x24 => eLenS Tryz.prog [25] [x24] fun x25 => eBin Tryz.prog .neq 3 false x22 x25 fun x26 => eHas .any x26 (k3 (x26, ()))
noncomputable def ref28_Same_p1 (k3 : SV × Unit → ER) (x1 : SV) (x2 : SV) : ER :=
  eFieldAddr Tryz.prog 27 x1 3 fun x15 => eLoad Tryz.prog 9 x15 fun x16 => eFieldAddr Tryz.prog 27 x2 3 fun x17 => eLoad Tryz.prog 9 x17 fun x18 => eBin Tryz.prog .neq 9 false x16 x18 fun x19 => eIfV x19
  (eHas .any (.bool true) (k3 ((.bool true), ())))
  (ref28_Same_p0 k3 x1 x2)
noncomputable def ref28_Same_p2 (k3 : SV × Unit → ER) (x1 : SV) (x2 : SV) : ER :=
  eFieldAddr Tryz.prog 27 x1 1 fun x10 => eLoad Tryz.prog 3 x10 fun x11 => eFieldAddr Tryz.prog 27 x2 1 fun x12 => eLoad Tryz.prog 3 x12 fun x13 => eBin Tryz.prog .neq 3 false x11 x13 fun x14 => eIfV x14
  (eHas .any (.bool true) (k3 ((.bool true), ())))
  (ref28_Same_p1 k3 x1 x2)
noncomputable def ref28_Same_p3 (K : SV → ER) (x1 : SV) (x2 : SV) (k27 : SV × Unit → ER) (s28 : SV × Unit) : ER :=
  eFieldAddr Tryz.prog 27 x1 2 fun x33 => eFieldAddr Tryz.prog 27 x2 2 fun x34 => eLoad Tryz.prog 25 x33 fun x35 => eIndexAddrS Tryz.prog 25 x35 s28.1 fun x36 => eLoad Tryz.prog 46 x36 fun x37 => eLoad Tryz.prog 25 x34 fun x38 => eIndexAddrS Tryz.prog 25 x38 s28.1 fun x39 => eLoad Tryz.prog 46 x39 fun x40 => eBin Tryz.prog .neq 46 false x37 x40 fun x41 => eIfV x41
  (K (.bool false))
  (eBin Tryz.prog .add 3 false s28.1 (.int .i64 1) fun x42 => eHas .any x42 (k27 (x42, ())))
noncomputable def ref28_Same_p4 (K : SV → ER) (x1 : SV) (x2 : SV) (k27 : SV × Unit → ER) (s28 : SV × Unit) : ER :=
  eFieldAddr Tryz.prog 27 x1 2 fun x29 => eLoad Tryz.prog 25 x29 fun x30 => eLenS Tryz.prog [25] [x30] fun x31 => eBin Tryz.prog .lss 3 false s28.1 x31 fun x32 => eIfV x32
  (ref28_Same_p3 K x1 x2 k27 s28)
  (K (.bool true))
noncomputable def ref28_Same_p5 (k3 : SV × Unit → ER) (x1 : SV) (x2 : SV) : ER :=
  eFieldAddr Tryz.prog 27 x1 0 fun x5 => eLoad Tryz.prog 9 x5 fun x6 => eFieldAddr Tryz.prog 27 x2 0 fun x7 => eLoad Tryz.prog 9 x7 fun x8 => eBin Tryz.prog .neq 9 false x6 x8 fun x9 => eIfV x9
  (eHas .any (.bool true) (k3 ((.bool true), ())))
  (ref28_Same_p2 k3 x1 x2)
noncomputable def ref28_Same_e (C : Cal) (N : Nat) (a0 a1 : SV) (K : SV → ER) : ER :=
  eBox Tryz.prog 27 a0 fun x1 => eBox Tryz.prog 27 a1 fun x2 => eJoinC (σ := SV × Unit) (fun (k3 : SV × Unit → ER) =>
  ref28_Same_p5 k3 x1 x2) fun (s4 : SV × Unit) =>
  eIfV s4.1
  (K (.bool false))
  (eHas .any (.int .i64 0) (eIter (σ := SV × Unit) (fun (s28 : SV × Unit) (k27 : SV × Unit → ER) =>
  ref28_Same_p4 K x1 x2 k27 s28) N ((.int .i64 0), ())))
theorem ref28_Same_ee (C : Cal) (N : Nat) (a0 a1 : SV) (K : SV → ER) : eBody Tryz.prog C N Tryz.f10 (Tryz.f10.body.getD .skip) ref28_Same_ea [a0, a1] K = ref28_Same_e C N a0 a1 K := by kernel_rfl
noncomputable def l10 : LeafT := fun C N args K => match args with
  | [a0, a1] => ref28_Same_e C N a0 a1 K
  | _ => eF
theorem lok10 : LeafOk Tryz.prog 10 l10 := .inl ⟨Tryz.f10, Tryz.f10.body.getD .skip, ref28_Same_ea, Tryz.func10, by kernel_rfl, Tryz.call10, fun C N args K H e => by
  unfold l10 at e
  split at e
  · rw [ref28_Same_ee]; exact e
  · exact eF_no e⟩

/- halberd/halberdref02.Read -/
def ref02_Read_ea : Ann := .two (.none) (.two (.join (.none) (.two (.two (.none) (.none)) (.none)) [(19, .any)]) (.two (.none) (.two (.two (.none) (.sub (.loop [(4, .any), (5, .any)] (.two (.two (.none) (.two (.none) (.none))) (.two (.sub (.ord [0, 1, 2, 3, 5, 6, 7, 8, 11, 12, 13, 14, 17, 18, 19, 23, 24, 25, 4, 9, 10, 15, 16, 20, 21, 22, 26, 27, 28, 29, 30, 31, 32])) (.none)))))) (.two (.none) (.none)))))
noncomputable def ref02_Read_p0 (a0 : SV) (k1 : SV × Unit → ER) : ER :=
  eLenS Tryz.prog [30] [a0] fun x5 => eBin Tryz.prog .gtr 3 false x5 (.int .i64 512) fun x6 => eIfV x6
  (eHas .any (.bool true) (k1 ((.bool true), ())))
  (eLenS Tryz.prog [30] [a0] fun x7 => eBin Tryz.prog .rem 3 false x7 (.int .i64 8) fun x8 => eBin Tryz.prog .gtr 3 false x8 (.int .i64 0) fun x9 => eHas .any x9 (k1 (x9, ())))
noncomputable def ref02_Read_p1 (C : Cal) (k10 : SV × SV × Unit → ER) (s11 : SV × SV × Unit) (x14 : SV) (x16 : SV) (x18 : SV) (x21 : SV) (x22 : SV) (x23 : SV) (x24 : SV) (x25 : SV) (x28 : SV) (x29 : SV) : ER :=
  fun H => eLoadF Tryz.prog 5 x18 x24 H && (fun H => eLoadF Tryz.prog 5 x16 x22 H && (fun H => eLoadF Tryz.prog 5 x14 x21 H && (eCallR Tryz.prog C 20 [x29, (.int .i64 4)] 53 fun x30 => fun H => eLoadF Tryz.prog 5 x18 x24 H && (fun H => eLoadF Tryz.prog 5 x16 x22 H && (fun H => eLoadF Tryz.prog 5 x14 x21 H && (eConvS Tryz.prog 53 21 x30 fun x31 => eBuild Tryz.prog 57 [(0, x21), (1, x23), (2, x25), (3, x28), (4, x31)] fun x32 => eBuildSlice Tryz.prog 35 1 [(0, x32)] fun x33 => eApp Tryz.prog [35, 35] [s11.1, x33] fun x34 => eBin Tryz.prog .add 3 false s11.2.1 (.int .i64 8) fun x35 => eHas .any x34 (eHas .any x35 (k10 (x34, x35, ())))) H) H) H) H) H) H
noncomputable def ref02_Read_p2 (C : Cal) (a0 : SV) (k10 : SV × SV × Unit → ER) (s11 : SV × SV × Unit) (x14 : SV) (x16 : SV) (x18 : SV) (x19 : SV) (x20 : SV) (x21 : SV) (x22 : SV) (x23 : SV) (x24 : SV) (x25 : SV) : ER :=
  eCallR Tryz.prog C 21 [a0, x19, (.int .i64 2)] 53 fun x26 => fun H => eLoadF Tryz.prog 5 x18 x24 H && (fun H => eLoadF Tryz.prog 5 x16 x22 H && (fun H => eLoadF Tryz.prog 5 x14 x21 H && (eCallR Tryz.prog C 20 [x26, (.int .i64 2)] 53 fun x27 => fun H => eLoadF Tryz.prog 5 x18 x24 H && (fun H => eLoadF Tryz.prog 5 x16 x22 H && (fun H => eLoadF Tryz.prog 5 x14 x21 H && (eConvS Tryz.prog 53 52 x27 fun x28 => eCallR Tryz.prog C 21 [a0, x20, (.int .i64 4)] 53 fun x29 => ref02_Read_p1 C k10 s11 x14 x16 x18 x21 x22 x23 x24 x25 x28 x29) H) H) H) H) H) H
noncomputable def ref02_Read_p3 (C : Cal) (a0 : SV) (k10 : SV × SV × Unit → ER) (s11 : SV × SV × Unit) (x14 : SV) (x16 : SV) : ER :=
  eBin Tryz.prog .add 3 false s11.2.1 (.int .i64 1) fun x17 => eIndexAddrS Tryz.prog 30 a0 x17 fun x18 => eBin Tryz.prog .add 3 false s11.2.1 (.int .i64 2) fun x19 => eBin Tryz.prog .add 3 false s11.2.1 (.int .i64 4) fun x20 => eLoad Tryz.prog 5 x14 fun x21 => eLoad Tryz.prog 5 x16 fun x22 => eBin Tryz.prog .rem 5 false x22 (.int .u8 16) fun x23 => eLoad Tryz.prog 5 x18 fun x24 => eBin Tryz.prog .quo 5 false x24 (.int .u8 16) fun x25 => ref02_Read_p2 C a0 k10 s11 x14 x16 x18 x19 x20 x21 x22 x23 x24 x25
noncomputable def ref02_Read_p4 (C : Cal) (K : SV → ER) (a0 : SV) (k10 : SV × SV × Unit → ER) (s11 : SV × SV × Unit) : ER :=
  eLenS Tryz.prog [30] [a0] fun x12 => eBin Tryz.prog .lss 3 false s11.2.1 x12 fun x13 => eIfV x13
  (eIndexAddrS Tryz.prog 30 a0 s11.2.1 fun x14 => eBin Tryz.prog .add 3 false s11.2.1 (.int .i64 1) fun x15 => eIndexAddrS Tryz.prog 30 a0 x15 fun x16 => ref02_Read_p3 C a0 k10 s11 x14 x16)
  (K (.tup [s11.1, (.bool true)]))
noncomputable def ref02_Read_p5 (C : Cal) (K : SV → ER) (N : Nat) (a0 : SV) : ER :=
  eHas .any (.sl ⟨none, 0, .lit 0⟩) (eHas .any (.int .i64 0) (eIter (σ := SV × SV × Unit) (fun (s11 : SV × SV × Unit) (k10 : SV × SV × Unit → ER) =>
  ref02_Read_p4 C K a0 k10 s11) N ((.sl ⟨none, 0, .lit 0⟩), (.int .i64 0), ())))
noncomputable def ref02_Read_e (C : Cal) (N : Nat) (a0 : SV) (K : SV → ER) : ER :=
  eJoinC (σ := SV × Unit) (fun (k1 : SV × Unit → ER) =>
  eLenS Tryz.prog [30] [a0] fun x3 => eBin Tryz.prog .lss 3 false x3 (.int .i64 8) fun x4 => eIfV x4
  (eHas .any (.bool true) (k1 ((.bool true), ())))
  (ref02_Read_p0 a0 k1)) fun (s2 : SV × Unit) =>
  eIfV s2.1
  (K (.tup [(.sl ⟨none, 0, .lit 0⟩), (.bool false)]))
  (ref02_Read_p5 C K N a0)
theorem ref02_Read_ee (C : Cal) (N : Nat) (a0 : SV) (K : SV → ER) : eBody Tryz.prog C N Tryz.f11 (Tryz.f11.body.getD .skip) ref02_Read_ea [a0] K = ref02_Read_e C N a0 K := by kernel_rfl
noncomputable def l11 : LeafT := fun C N args K => match args with
  | [a0] => ref02_Read_e C N a0 K
  | _ => eF
theorem lok11 : LeafOk Tryz.prog 11 l11 := .inl ⟨Tryz.f11, Tryz.f11.body.getD .skip, ref02_Read_ea, Tryz.func11, by kernel_rfl, Tryz.call11, fun C N args K H e => by
  unfold l11 at e
  split at e
  · rw [ref02_Read_ee]; exact e
  · exact eF_no e⟩

end Go.Proofs.YtahmmlebelhamaaGreatDoor

set_option linter.unusedVariables false
set_option maxRecDepth 100000
namespace Go.Proofs.YtahmmlebelhamaaGreatDoor
open Go.Hl
/- halberd/halberdref05.Text -/
def ref05_Text_ea : Ann := .two (.none) (.two (.none) (.two (.two (.none) (.sub (.loop [(4, .any), (5, .any)] (.two (.two (.none) (.two (.none) (.none))) (.join (.sub (.two (.two (.none) (.two (.two (.none) (.none)) (.none))) (.two (.none) (.join (.two (.none) (.two (.none) (.none))) (.two (.ord [0, 1, 2, 5, 6, 7, 8, 9, 3, 4, 10, 11]) (.two (.two (.none) (.two (.two (.none) (.none)) (.none))) (.two (.none) (.two (.none) (.two (.none) (.none)))))) [])))) (.none) [(4, .any), (5, .any)]))))) (.two (.none) (.none))))
noncomputable def ref05_Text_p0 (a0 : SV) (k5 : SV × SV × Unit → ER) (s2 : SV × SV × Unit) (x27 : SV) : ER :=
  eBin Tryz.prog .add 9 false s2.1 x27 fun x29 => eBin Tryz.prog .add 9 false x29 (.str [10]) fun x30 => eIndexAddrS Tryz.prog 35 a0 s2.2.1 fun x31 => eFieldAddr Tryz.prog 57 x31 0 fun x32 => eLoad Tryz.prog 5 x32 fun x33 => eBin Tryz.prog .eql 5 false x33 (.int .u8 24) fun x34 => eIfV x34
  (eBin Tryz.prog .add 3 false s2.2.1 (.int .i64 1) fun x35 => eHas .any x30 (eHas .any x35 (k5 (x30, x35, ()))))
  (eHas .any x30 (eHas .any s2.2.1 (k5 (x30, s2.2.1, ()))))
noncomputable def ref05_Text_p1 (a0 : SV) (s2 : SV × SV × Unit) (k13 : Unit → ER) (x12 : SV) : ER :=
  eBin Tryz.prog .add 3 false s2.2.1 (.int .i64 1) fun x15 => eLenS Tryz.prog [35] [a0] fun x16 => eBin Tryz.prog .lss 3 false x15 x16 fun x17 => eIfV x17
  (eBin Tryz.prog .add 3 false s2.2.1 (.int .i64 1) fun x18 => eIndexAddrS Tryz.prog 35 a0 x18 fun x19 => eLoad Tryz.prog 57 x19 fun x20 => eStore Tryz.prog 57 x12 x20 <| k13 (()))
  (k13 (()))
noncomputable def ref05_Text_p2 (C : Cal) (K : SV → ER) (a0 : SV) (k5 : SV × SV × Unit → ER) (s2 : SV × SV × Unit) (x12 : SV) : ER :=
  eIndexAddrS Tryz.prog 35 a0 s2.2.1 fun x21 => eBin Tryz.prog .add 3 false s2.2.1 (.int .i64 1) fun x22 => eLenS Tryz.prog [35] [a0] fun x23 => eBin Tryz.prog .lss 3 false x22 x23 fun x24 => eLoad Tryz.prog 57 x21 fun x25 => eLoad Tryz.prog 57 x12 fun x26 => eCallR Tryz.prog C 23 [x25, x26, x24] 9 fun x27 => eBin Tryz.prog .eql 9 false x27 (.str []) fun x28 => eIfV x28
  (K (.tup [(.str []), (.bool false)]))
  (ref05_Text_p0 a0 k5 s2 x27)
noncomputable def ref05_Text_p3 (C : Cal) (K : SV → ER) (a0 : SV) (k5 : SV × SV × Unit → ER) (s2 : SV × SV × Unit) : ER :=
  eBuild Tryz.prog 57 [] fun x11 => eAlloc Tryz.prog 57 fun x12 => eStore Tryz.prog 57 x12 x11 <| eJoinC (σ := Unit) (fun (k13 : Unit → ER) =>
  ref05_Text_p1 a0 s2 k13 x12) fun (s14 : Unit) =>
  ref05_Text_p2 C K a0 k5 s2 x12
noncomputable def ref05_Text_p4 (C : Cal) (K : SV → ER) (a0 : SV) (k5 : SV × SV × Unit → ER) (s2 : SV × SV × Unit) : ER :=
  eIndexAddrS Tryz.prog 35 a0 s2.2.1 fun x7 => eLoad Tryz.prog 57 x7 fun x8 => eCallR Tryz.prog C 22 [x8] 4 fun x9 => eUnS .not x9 fun x10 => eIfV x10
  (K (.tup [(.str []), (.bool false)]))
  (ref05_Text_p3 C K a0 k5 s2)
noncomputable def ref05_Text_p5 (C : Cal) (K : SV → ER) (a0 : SV) (k1 : SV × SV × Unit → ER) (s2 : SV × SV × Unit) : ER :=
  eJoinC (σ := SV × SV × Unit) (fun (k5 : SV × SV × Unit → ER) =>
  ref05_Text_p4 C K a0 k5 s2) fun (s6 : SV × SV × Unit) =>
  eBin Tryz.prog .add 3 false s6.2.1 (.int .i64 1) fun x36 => eHas .any s6.1 (eHas .any x36 (k1 (s6.1, x36, ())))
noncomputable def ref05_Text_e (C : Cal) (N : Nat) (a0 : SV) (K : SV → ER) : ER :=
  eHas .any (.str []) (eHas .any (.int .i64 0) (eIter (σ := SV × SV × Unit) (fun (s2 : SV × SV × Unit) (k1 : SV × SV × Unit → ER) =>
  eLenS Tryz.prog [35] [a0] fun x3 => eBin Tryz.prog .lss 3 false s2.2.1 x3 fun x4 => eIfV x4
  (ref05_Text_p5 C K a0 k1 s2)
  (K (.tup [s2.1, (.bool true)]))) N ((.str []), (.int .i64 0), ())))
theorem ref05_Text_ee (C : Cal) (N : Nat) (a0 : SV) (K : SV → ER) : eBody Tryz.prog C N Tryz.f12 (Tryz.f12.body.getD .skip) ref05_Text_ea [a0] K = ref05_Text_e C N a0 K := by kernel_rfl
noncomputable def l12 : LeafT := fun C N args K => match args with
  | [a0] => ref05_Text_e C N a0 K
  | _ => eF
theorem lok12 : LeafOk Tryz.prog 12 l12 := .inl ⟨Tryz.f12, Tryz.f12.body.getD .skip, ref05_Text_ea, Tryz.func12, by kernel_rfl, Tryz.call12, fun C N args K H e => by
  unfold l12 at e
  split at e
  · rw [ref05_Text_ee]; exact e
  · exact eF_no e⟩

/- halberd/corpus.lines -/
def corpus_lines_ea : Ann := .two (.none) (.two (.none) (.none))
noncomputable def corpus_lines_e (C : Cal) (N : Nat) (a0 : SV) (K : SV → ER) : ER :=
  eCallR Tryz.prog C 27 [a0, (.str [10])] 9 fun x1 => eBin Tryz.prog .add 9 false x1 (.str [10]) fun x2 => K x2
theorem corpus_lines_ee (C : Cal) (N : Nat) (a0 : SV) (K : SV → ER) : eBody Tryz.prog C N Tryz.f15 (Tryz.f15.body.getD .skip) corpus_lines_ea [a0] K = corpus_lines_e C N a0 K := by kernel_rfl
noncomputable def l15 : LeafT := fun C N args K => match args with
  | [a0] => corpus_lines_e C N a0 K
  | _ => eF
theorem lok15 : LeafOk Tryz.prog 15 l15 := .inl ⟨Tryz.f15, Tryz.f15.body.getD .skip, corpus_lines_ea, Tryz.func15, by kernel_rfl, Tryz.call15, fun C N args K H e => by
  unfold l15 at e
  split at e
  · rw [corpus_lines_ee]; exact e
  · exact eF_no e⟩

/- slices.IndexFunc[[]halberd/api.Named,halberd/api.Named] -/
def slices_IndexFunc_api_Named_api_Named_ea : Ann := .two (.none) (.two (.two (.none) (.sub (.loop [(8, .any)] (.two (.none) (.two (.two (.none) (.none)) (.two (.sub (.two (.none) (.two (.none) (.two (.two (.none) (.none)) (.none))))) (.none))))))) (.two (.none) (.none)))
noncomputable def slices_IndexFunc_api_Named_api_Named_p0 (C : Cal) (K : SV → ER) (a0 : SV) (a1 : SV) (k2 : SV × Unit → ER) (s3 : SV × Unit) : ER :=
  eIndexAddrS Tryz.prog 23 a0 s3.1 fun x5 => eLoad Tryz.prog 27 x5 fun x6 => eCallVR Tryz.prog C a1 [x6] 4 fun x7 => eIfV x7
  (K s3.1)
  (eBin Tryz.prog .add 3 false s3.1 (.int .i64 1) fun x8 => eHas .any x8 (k2 (x8, ())))
noncomputable def slices_IndexFunc_api_Named_api_Named_e (C : Cal) (N : Nat) (a0 a1 : SV) (K : SV → ER) : ER :=
  eLenS Tryz.prog [23] [a0] fun x1 => eHas .any (.int .i64 0) (eIter (σ := SV × Unit) (fun (s3 : SV × Unit) (k2 : SV × Unit → ER) =>
  eBin Tryz.prog .lss 3 false s3.1 x1 fun x4 => eIfV x4
  (slices_IndexFunc_api_Named_api_Named_p0 C K a0 a1 k2 s3)
  (K (.int .i64 (-1)))) N ((.int .i64 0), ()))
theorem slices_IndexFunc_api_Named_api_Named_ee (C : Cal) (N : Nat) (a0 a1 : SV) (K : SV → ER) : eBody Tryz.prog C N Tryz.f16 (Tryz.f16.body.getD .skip) slices_IndexFunc_api_Named_api_Named_ea [a0, a1] K = slices_IndexFunc_api_Named_api_Named_e C N a0 a1 K := by kernel_rfl
noncomputable def l16 : LeafT := fun C N args K => match args with
  | [a0, a1] => slices_IndexFunc_api_Named_api_Named_e C N a0 a1 K
  | _ => eF
theorem lok16 : LeafOk Tryz.prog 16 l16 := .inl ⟨Tryz.f16, Tryz.f16.body.getD .skip, slices_IndexFunc_api_Named_api_Named_ea, Tryz.func16, by kernel_rfl, Tryz.call16, fun C N args K H e => by
  unfold l16 at e
  split at e
  · rw [slices_IndexFunc_api_Named_api_Named_ee]; exact e
  · exact eF_no e⟩

/- halberd/corpus.By$1 -/
def corpus_By_1_ea : Ann := .two (.none) (.two (.none) (.none))
noncomputable def corpus_By_1_e (C : Cal) (N : Nat) (a0 a1 : SV) (K : SV → ER) : ER :=
  eBox Tryz.prog 27 a0 fun x1 => eFieldAddr Tryz.prog 27 x1 0 fun x2 => eLoad Tryz.prog 9 x2 fun x3 => eLoad Tryz.prog 9 a1 fun x4 => eBin Tryz.prog .eql 9 false x3 x4 fun x5 => K x5
theorem corpus_By_1_ee (C : Cal) (N : Nat) (a0 a1 : SV) (K : SV → ER) : eBody Tryz.prog C N Tryz.f17 (Tryz.f17.body.getD .skip) corpus_By_1_ea [a0, a1] K = corpus_By_1_e C N a0 a1 K := by kernel_rfl
noncomputable def l17 : LeafT := fun C N args K => match args with
  | [a0, a1] => corpus_By_1_e C N a0 a1 K
  | _ => eF
theorem lok17 : LeafOk Tryz.prog 17 l17 := .inl ⟨Tryz.f17, Tryz.f17.body.getD .skip, corpus_By_1_ea, Tryz.func17, by kernel_rfl, Tryz.call17, fun C N args K H e => by
  unfold l17 at e
  split at e
  · rw [corpus_By_1_ee]; exact e
  · exact eF_no e⟩

/- halberd/asm.Read -/
noncomputable def asm_Read_c0 : Code := match Tryz.f18.body.getD .skip with | .seq a (.seq b c) => a | c => c
noncomputable def asm_Read_c1 : Code := match Tryz.f18.body.getD .skip with | .seq a (.seq b c) => b | c => c
noncomputable def asm_Read_c2 : Code := match Tryz.f18.body.getD .skip with | .seq a (.seq b c) => c | c => c
def asm_Read_ea0 : Ann := .none
def asm_Read_ea2 : Ann := .two (.none) (.two (.none) (.two (.two (.none) (.sub (.loop [(4, .any), (15, .any)] (.two (.none) (.two (.two (.none) (.none)) (.two (.sub (.two (.none) (.none))) (.none))))))) (.two (.none) (.none))))
theorem asm_Read_c1_eq : asm_Read_c1 = .region 1 #[{ dst := some 7, op := .makeFunc (.func 28) #[] #[.tmp 2, .tmp 3], type := 1, after := #[], guard := none, pos := "read.go:180" }, { dst := none, op := .defer { callee := .value (.tmp 7), args := #[], argTypes := #[] }, type := 0, after := #[⟨0, .data⟩], guard := none, pos := "read.go:180" }] false := by kernel_rfl
theorem asm_Read_closure (vi vj : Value) (w : World) : CallsD Tryz.prog 28 #[vi, vj] .returning w fun e u' w' => (∃ v, e = .returned v) ∧ u' = .returning ∧ w' = w := by
  refine callsD_of_wpS Tryz.func28 rfl fun c₀ cs hu => ?_
  apply wpS_seq
  apply wpS_region
  simp [wpOpsS, go_sem, recoverD, hu, Tryz.ntmps28, Exit.thenS]
  apply wpS_seq
  apply wpS_region
  simp [wpOpsS, go_sem, recoverD, Exit.thenS, Tryz.underlying20]
  refine wpS_cond (t := false) (by simp [Act.eval, Array.replicate]) ?_
  simp only [Bool.false_eq_true, if_false]
  refine wpS_of_wp (wp_skip ?_)
  simp [bodyPostS, results, Tryz.results28]
  rw [← hu]
noncomputable def asm_Read_p0 (C : Cal) (k8 : SV × SV × Unit → ER) (s9 : SV × SV × Unit) (x6 : SV) : ER :=
  eIndexAddrS Tryz.prog 64 x6 s9.2.1 fun x11 => eLoad Tryz.prog 9 x11 fun x12 => eCallR Tryz.prog C 32 [x12] 35 fun x13 => eApp Tryz.prog [35, 35] [s9.1, x13] fun x14 => eBin Tryz.prog .add 3 false s9.2.1 (.int .i64 1) fun x15 => eHas .any x14 (eHas .any x15 (k8 (x14, x15, ())))
noncomputable def asm_Read_p1 (C : Cal) (K : SV → ER) (k8 : SV × SV × Unit → ER) (s9 : SV × SV × Unit) (x1 : SV) (x2 : SV) (x6 : SV) (x7 : SV) : ER :=
  eBin Tryz.prog .lss 3 false s9.2.1 x7 fun x10 => eIfV x10
  (asm_Read_p0 C k8 s9 x6)
  (eStore Tryz.prog 35 x1 s9.1 <| eStore Tryz.prog 31 x2 (.int .i64 0) <| eLoad Tryz.prog 35 x1 fun x16 => eLoad Tryz.prog 31 x2 fun x17 => K (.tup [x16, x17]))
noncomputable def asm_Read_e (C : Cal) (N : Nat) (a0 : SV) (K : SV → ER) : ER :=
  eAlloc Tryz.prog 35 fun x1 => eAlloc Tryz.prog 31 fun x2 => eBin Tryz.prog .neq 9 false a0 (.str []) fun x3 => eCallR Tryz.prog C 29 [x3] 0 fun x4 => eCallR Tryz.prog C 31 [a0, (.str [10])] 9 fun x5 => eCallR Tryz.prog C 30 [x5, (.str [10])] 64 fun x6 => eLenS Tryz.prog [64] [x6] fun x7 => eHas .any (.sl ⟨none, 0, .lit 0⟩) (eHas .any (.int .i64 0) (eIter (σ := SV × SV × Unit) (fun (s9 : SV × SV × Unit) (k8 : SV × SV × Unit → ER) =>
  asm_Read_p1 C K k8 s9 x1 x2 x6 x7) N ((.sl ⟨none, 0, .lit 0⟩), (.int .i64 0), ())))
theorem asm_Read_ee (C : Cal) (N : Nat) (a0 : SV) (K : SV → ER) : eBody Tryz.prog C N Tryz.f18 (.seq asm_Read_c0 asm_Read_c2) (.two asm_Read_ea0 asm_Read_ea2) [a0] K = asm_Read_e C N a0 K := by kernel_rfl
noncomputable def l18 : LeafT := fun C N args K => match args with
  | [a0] => asm_Read_e C N a0 K
  | _ => eF
theorem lok18 : LeafOk Tryz.prog 18 l18 := .inr ⟨Tryz.f18, asm_Read_c0, asm_Read_c1, asm_Read_c2, 7, asm_Read_ea0, asm_Read_ea2, Tryz.func18, by kernel_rfl, Tryz.call18, by decide +kernel, by decide +kernel, by rw [asm_Read_c1_eq]; exact defersIdle_of Tryz.call28 asm_Read_closure, fun C N args K H e => by
  unfold l18 at e
  split at e
  · exact ⟨Nat.le_of_ble_eq_true rfl, by rw [asm_Read_ee]; exact e⟩
  · exact eF_no e⟩

/- halberd/inst.Bytes -/
def inst_Bytes_ea : Ann := .two (.none) (.two (.none) (.two (.two (.none) (.sub (.loop [(3, .any), (8, .any)] (.two (.none) (.two (.two (.none) (.none)) (.two (.sub (.two (.none) (.none))) (.none))))))) (.two (.none) (.none))))
noncomputable def inst_Bytes_p0 (C : Cal) (a0 : SV) (k2 : SV × SV × Unit → ER) (s3 : SV × SV × Unit) : ER :=
  eIndexAddrS Tryz.prog 35 a0 s3.2.1 fun x5 => eLoad Tryz.prog 57 x5 fun x6 => eAlloc Tryz.prog 57 fun x7 => eStore Tryz.prog 57 x7 x6 <| eLoad Tryz.prog 57 x7 fun x8 => eCallR Tryz.prog C 33 [x8] 30 fun x9 => eApp Tryz.prog [30, 30] [s3.1, x9] fun x10 => eBin Tryz.prog .add 3 false s3.2.1 (.int .i64 1) fun x11 => eHas .any x10 (eHas .any x11 (k2 (x10, x11, ())))
noncomputable def inst_Bytes_e (C : Cal) (N : Nat) (a0 : SV) (K : SV → ER) : ER :=
  eLenS Tryz.prog [35] [a0] fun x1 => eHas .any (.sl ⟨none, 0, .lit 0⟩) (eHas .any (.int .i64 0) (eIter (σ := SV × SV × Unit) (fun (s3 : SV × SV × Unit) (k2 : SV × SV × Unit → ER) =>
  eBin Tryz.prog .lss 3 false s3.2.1 x1 fun x4 => eIfV x4
  (inst_Bytes_p0 C a0 k2 s3)
  (K s3.1)) N ((.sl ⟨none, 0, .lit 0⟩), (.int .i64 0), ())))
theorem inst_Bytes_ee (C : Cal) (N : Nat) (a0 : SV) (K : SV → ER) : eBody Tryz.prog C N Tryz.f19 (Tryz.f19.body.getD .skip) inst_Bytes_ea [a0] K = inst_Bytes_e C N a0 K := by kernel_rfl
noncomputable def l19 : LeafT := fun C N args K => match args with
  | [a0] => inst_Bytes_e C N a0 K
  | _ => eF
theorem lok19 : LeafOk Tryz.prog 19 l19 := .inl ⟨Tryz.f19, Tryz.f19.body.getD .skip, inst_Bytes_ea, Tryz.func19, by kernel_rfl, Tryz.call19, fun C N args K H e => by
  unfold l19 at e
  split at e
  · rw [inst_Bytes_ee]; exact e
  · exact eF_no e⟩

/- halberd/halberdref01.Sext -/
def ref01_Sext_ea : Ann := .two (.none) (.two (.join (.none) (.two (.two (.none) (.none)) (.none)) [(12, .any)]) (.two (.none) (.two (.two (.none) (.two (.two (.none) (.none)) (.none))) (.two (.none) (.none)))))
noncomputable def ref01_Sext_p0 (C : Cal) (K : SV → ER) (a0 : SV) (a1 : SV) : ER :=
  eBin Tryz.prog .mul 3 false (.int .i64 8) a1 fun x6 => eCallR Tryz.prog C 35 [x6] 53 fun x7 => eBin Tryz.prog .rem 53 false a0 x7 fun x8 => eBin Tryz.prog .mul 3 false (.int .i64 8) a1 fun x9 => eBin Tryz.prog .sub 3 false x9 (.int .i64 1) fun x10 => eCallR Tryz.prog C 35 [x10] 53 fun x11 => eBin Tryz.prog .geq 53 false x8 x11 fun x12 => eIfV x12
  (eBin Tryz.prog .mul 3 false (.int .i64 8) a1 fun x13 => eCallR Tryz.prog C 35 [x13] 53 fun x14 => eBin Tryz.prog .sub 53 false x8 x14 fun x15 => K x15)
  (K x8)
noncomputable def ref01_Sext_p1 (C : Cal) (a1 : SV) (k1 : SV × Unit → ER) : ER :=
  eCallR Tryz.prog C 34 [a1] 4 fun x3 => eUnS .not x3 fun x4 => eIfV x4
  (eHas .any (.bool true) (k1 ((.bool true), ())))
  (eBin Tryz.prog .eql 3 false a1 (.int .i64 8) fun x5 => eHas .any x5 (k1 (x5, ())))
noncomputable def ref01_Sext_e (C : Cal) (N : Nat) (a0 a1 : SV) (K : SV → ER) : ER :=
  eJoinC (σ := SV × Unit) (fun (k1 : SV × Unit → ER) =>
  ref01_Sext_p1 C a1 k1) fun (s2 : SV × Unit) =>
  eIfV s2.1
  (K a0)
  (ref01_Sext_p0 C K a0 a1)
theorem ref01_Sext_ee (C : Cal) (N : Nat) (a0 a1 : SV) (K : SV → ER) : eBody Tryz.prog C N Tryz.f20 (Tryz.f20.body.getD .skip) ref01_Sext_ea [a0, a1] K = ref01_Sext_e C N a0 a1 K := by kernel_rfl
noncomputable def l20 : LeafT := fun C N args K => match args with
  | [a0, a1] => ref01_Sext_e C N a0 a1 K
  | _ => eF
theorem lok20 : LeafOk Tryz.prog 20 l20 := .inl ⟨Tryz.f20, Tryz.f20.body.getD .skip, ref01_Sext_ea, Tryz.func20, by kernel_rfl, Tryz.call20, fun C N args K H e => by
  unfold l20 at e
  split at e
  · rw [ref01_Sext_ee]; exact e
  · exact eF_no e⟩

/- halberd/halberdref01.Load -/
def ref01_Load_ea : Ann := .two (.none) (.two (.none) (.two (.two (.none) (.sub (.loop [(7, .any), (8, .any)] (.two (.two (.none) (.two (.none) (.none))) (.two (.sub (.none)) (.none)))))) (.two (.none) (.none))))
noncomputable def ref01_Load_p0 (a0 : SV) (a1 : SV) (k2 : SV × SV × Unit → ER) (s3 : SV × SV × Unit) : ER :=
  eBin Tryz.prog .mul 53 false (.int .u64 256) s3.1 fun x5 => eBin Tryz.prog .add 3 false a1 s3.2.1 fun x6 => eIndexAddrS Tryz.prog 30 a0 x6 fun x7 => eLoad Tryz.prog 5 x7 fun x8 => eConvS Tryz.prog 5 53 x8 fun x9 => eBin Tryz.prog .add 53 false x5 x9 fun x10 => eBin Tryz.prog .sub 3 false s3.2.1 (.int .i64 1) fun x11 => eHas .any x10 (eHas .any x11 (k2 (x10, x11, ())))
noncomputable def ref01_Load_e (C : Cal) (N : Nat) (a0 a1 a2 : SV) (K : SV → ER) : ER :=
  eBin Tryz.prog .sub 3 false a2 (.int .i64 1) fun x1 => eHas .any (.int .u64 0) (eHas .any x1 (eIter (σ := SV × SV × Unit) (fun (s3 : SV × SV × Unit) (k2 : SV × SV × Unit → ER) =>
  eBin Tryz.prog .geq 3 false s3.2.1 (.int .i64 0) fun x4 => eIfV x4
  (ref01_Load_p0 a0 a1 k2 s3)
  (K s3.1)) N ((.int .u64 0), x1, ())))
theorem ref01_Load_ee (C : Cal) (N : Nat) (a0 a1 a2 : SV) (K : SV → ER) : eBody Tryz.prog C N Tryz.f21 (Tryz.f21.body.getD .skip) ref01_Load_ea [a0, a1, a2] K = ref01_Load_e C N a0 a1 a2 K := by kernel_rfl
noncomputable def l21 : LeafT := fun C N args K => match args with
  | [a0, a1, a2] => ref01_Load_e C N a0 a1 a2 K
  | _ => eF
theorem lok21 : LeafOk Tryz.prog 21 l21 := .inl ⟨Tryz.f21, Tryz.f21.body.getD .skip, ref01_Load_ea, Tryz.func21, by kernel_rfl, Tryz.call21, fun C N args K H e => by
  unfold l21 at e
  split at e
  · rw [ref01_Load_ee]; exact e
  · exact eF_no e⟩

end Go.Proofs.YtahmmlebelhamaaGreatDoor

set_option linter.unusedVariables false
set_option maxRecDepth 100000
namespace Go.Proofs.YtahmmlebelhamaaGreatDoor
open Go.Hl
/- halberd/halberdref03.Right -/
def ref03_Right_ea : Ann := .two (.none) (.two (.none) (.two (.two (.none) (.two (.join (.none) (.none) [(2, .any)]) (.none))) (.two (.join (.none) (.two (.two (.none) (.two (.join (.none) (.two (.two (.none) (.none)) (.none)) [(50, .any)]) (.two (.two (.none) (.two (.join (.none) (.none) [(2, .any)]) (.none))) (.two (.two (.none) (.two (.join (.none) (.none) [(2, .any)]) (.none))) (.two (.none) (.none)))))) (.none)) [(35, .any)]) (.two (.two (.none) (.two (.two (.two (.none) (.two (.join (.none) (.none) [(2, .any)]) (.none))) (.join (.none) (.none) [(2, .any)])) (.none))) (.two (.two (.none) (.two (.join (.none) (.none) [(2, .any)]) (.none))) (.two (.two (.none) (.two (.join (.none) (.none) [(2, .any)]) (.none))) (.two (.two (.none) (.two (.two (.none) (.none)) (.none))) (.two (.two (.none) (.two (.two (.none) (.none)) (.none))) (.two (.two (.none) (.sub (.two (.none) (.two (.join (.none) (.none) [(2, .any)]) (.two (.none) (.two (.join (.none) (.none) [(2, .any)]) (.none))))))) (.join (.none) (.none) [(2, .any)]))))))))))
noncomputable def ref03_Right_p0 (x1 : SV) (k10 : SV × Unit → ER) : ER :=
  eFieldAddr Tryz.prog 57 x1 3 fun x15 => eLoad Tryz.prog 52 x15 fun x16 => eBin Tryz.prog .eql 52 false x16 (.int .i16 0) fun x17 => eIfV x17
  (eFieldAddr Tryz.prog 57 x1 2 fun x18 => eLoad Tryz.prog 5 x18 fun x19 => eBin Tryz.prog .leq 5 false x19 (.int .u8 1) fun x20 => eHas .any x20 (k10 (x20, ())))
  (eHas .any (.bool false) (k10 ((.bool false), ())))
noncomputable def ref03_Right_p1 (x1 : SV) (k10 : SV × Unit → ER) : ER :=
  eFieldAddr Tryz.prog 57 x1 1 fun x12 => eLoad Tryz.prog 5 x12 fun x13 => eBin Tryz.prog .leq 5 false x13 (.int .u8 9) fun x14 => eIfV x14
  (ref03_Right_p0 x1 k10)
  (eHas .any (.bool false) (k10 ((.bool false), ())))
noncomputable def ref03_Right_p2 (x1 : SV) (k21 : SV × Unit → ER) : ER :=
  eFieldAddr Tryz.prog 57 x1 0 fun x27 => eLoad Tryz.prog 5 x27 fun x28 => eBin Tryz.prog .rem 5 false x28 (.int .u8 8) fun x29 => eBin Tryz.prog .eql 5 false x29 (.int .u8 7) fun x30 => eHas .any x30 (k21 (x30, ()))
noncomputable def ref03_Right_p3 (x1 : SV) (k34 : SV × Unit → ER) : ER :=
  eFieldAddr Tryz.prog 57 x1 1 fun x37 => eLoad Tryz.prog 5 x37 fun x38 => eBin Tryz.prog .gtr 5 false x38 (.int .u8 9) fun x39 => eIfV x39
  (eHas .any (.bool true) (k34 ((.bool true), ())))
  (eFieldAddr Tryz.prog 57 x1 3 fun x40 => eLoad Tryz.prog 52 x40 fun x41 => eBin Tryz.prog .neq 52 false x41 (.int .i16 0) fun x42 => eHas .any x42 (k34 (x42, ())))
noncomputable def ref03_Right_p4 (x1 : SV) (k44 : SV × Unit → ER) : ER :=
  eFieldAddr Tryz.prog 57 x1 2 fun x47 => eLoad Tryz.prog 5 x47 fun x48 => eBin Tryz.prog .eql 5 false x48 (.int .u8 0) fun x49 => eIfV x49
  (eFieldAddr Tryz.prog 57 x1 4 fun x50 => eLoad Tryz.prog 21 x50 fun x51 => eBin Tryz.prog .eql 21 false x51 (.int .i32 0) fun x52 => eHas .any x52 (k44 (x52, ())))
  (eHas .any (.bool false) (k44 ((.bool false), ())))
noncomputable def ref03_Right_p5 (x1 : SV) (k53 : SV × Unit → ER) : ER :=
  eFieldAddr Tryz.prog 57 x1 2 fun x55 => eLoad Tryz.prog 5 x55 fun x56 => eBin Tryz.prog .leq 5 false x56 (.int .u8 10) fun x57 => eIfV x57
  (eFieldAddr Tryz.prog 57 x1 4 fun x58 => eLoad Tryz.prog 21 x58 fun x59 => eBin Tryz.prog .eql 21 false x59 (.int .i32 0) fun x60 => eHas .any x60 (k53 (x60, ())))
  (eHas .any (.bool false) (k53 ((.bool false), ())))
noncomputable def ref03_Right_p6 (K : SV → ER) (x1 : SV) (x6 : SV) : ER :=
  eIfV x6
  (eJoinC (σ := SV × Unit) (fun (k53 : SV × Unit → ER) =>
  ref03_Right_p5 x1 k53) fun (s54 : SV × Unit) =>
  K s54.1)
  (eFieldAddr Tryz.prog 57 x1 2 fun x61 => eLoad Tryz.prog 5 x61 fun x62 => eBin Tryz.prog .eql 5 false x62 (.int .u8 0) fun x63 => K x63)
noncomputable def ref03_Right_p7 (K : SV → ER) (x1 : SV) (x6 : SV) (x33 : SV) : ER :=
  eBin Tryz.prog .eql 5 false x33 (.int .u8 8) fun x43 => eIfV x43
  (eJoinC (σ := SV × Unit) (fun (k44 : SV × Unit → ER) =>
  eUnS .not x6 fun x46 => eIfV x46
  (ref03_Right_p4 x1 k44)
  (eHas .any (.bool false) (k44 ((.bool false), ())))) fun (s45 : SV × Unit) =>
  K s45.1)
  (ref03_Right_p6 K x1 x6)
noncomputable def ref03_Right_p8 (K : SV → ER) (x1 : SV) (x6 : SV) : ER :=
  eFieldAddr Tryz.prog 57 x1 0 fun x31 => eLoad Tryz.prog 5 x31 fun x32 => eBin Tryz.prog .quo 5 false x32 (.int .u8 16) fun x33 => eJoinC (σ := SV × Unit) (fun (k34 : SV × Unit → ER) =>
  eBin Tryz.prog .gtr 5 false x33 (.int .u8 12) fun x36 => eIfV x36
  (eHas .any (.bool true) (k34 ((.bool true), ())))
  (ref03_Right_p3 x1 k34)) fun (s35 : SV × Unit) =>
  eIfV s35.1
  (K (.bool false))
  (ref03_Right_p7 K x1 x6 x33)
noncomputable def ref03_Right_p9 (x1 : SV) (k67 : SV × Unit → ER) : ER :=
  eFieldAddr Tryz.prog 57 x1 2 fun x72 => eLoad Tryz.prog 5 x72 fun x73 => eBin Tryz.prog .leq 5 false x73 (.int .u8 10) fun x74 => eIfV x74
  (eFieldAddr Tryz.prog 57 x1 4 fun x75 => eLoad Tryz.prog 21 x75 fun x76 => eBin Tryz.prog .eql 21 false x76 (.int .i32 0) fun x77 => eHas .any x77 (k67 (x77, ())))
  (eHas .any (.bool false) (k67 ((.bool false), ())))
noncomputable def ref03_Right_p10 (x1 : SV) (k67 : SV × Unit → ER) : ER :=
  eFieldAddr Tryz.prog 57 x1 1 fun x69 => eLoad Tryz.prog 5 x69 fun x70 => eBin Tryz.prog .leq 5 false x70 (.int .u8 10) fun x71 => eIfV x71
  (ref03_Right_p9 x1 k67)
  (eHas .any (.bool false) (k67 ((.bool false), ())))
noncomputable def ref03_Right_p11 (x1 : SV) (k78 : SV × Unit → ER) : ER :=
  eFieldAddr Tryz.prog 57 x1 1 fun x80 => eLoad Tryz.prog 5 x80 fun x81 => eBin Tryz.prog .leq 5 false x81 (.int .u8 10) fun x82 => eIfV x82
  (eFieldAddr Tryz.prog 57 x1 2 fun x83 => eLoad Tryz.prog 5 x83 fun x84 => eBin Tryz.prog .eql 5 false x84 (.int .u8 0) fun x85 => eHas .any x85 (k78 (x85, ())))
  (eHas .any (.bool false) (k78 ((.bool false), ())))
noncomputable def ref03_Right_p12 (K : SV → ER) (x1 : SV) (x6 : SV) : ER :=
  eIfV x6
  (eJoinC (σ := SV × Unit) (fun (k67 : SV × Unit → ER) =>
  ref03_Right_p10 x1 k67) fun (s68 : SV × Unit) =>
  K s68.1)
  (eJoinC (σ := SV × Unit) (fun (k78 : SV × Unit → ER) =>
  ref03_Right_p11 x1 k78) fun (s79 : SV × Unit) =>
  K s79.1)
noncomputable def ref03_Right_p13 (x1 : SV) (k89 : SV × Unit → ER) : ER :=
  eFieldAddr Tryz.prog 57 x1 2 fun x94 => eLoad Tryz.prog 5 x94 fun x95 => eBin Tryz.prog .eql 5 false x95 (.int .u8 0) fun x96 => eIfV x96
  (eFieldAddr Tryz.prog 57 x1 4 fun x97 => eLoad Tryz.prog 21 x97 fun x98 => eBin Tryz.prog .eql 21 false x98 (.int .i32 0) fun x99 => eHas .any x99 (k89 (x99, ())))
  (eHas .any (.bool false) (k89 ((.bool false), ())))
noncomputable def ref03_Right_p14 (x1 : SV) (k89 : SV × Unit → ER) : ER :=
  eFieldAddr Tryz.prog 57 x1 1 fun x91 => eLoad Tryz.prog 5 x91 fun x92 => eBin Tryz.prog .eql 5 false x92 (.int .u8 0) fun x93 => eIfV x93
  (ref03_Right_p13 x1 k89)
  (eHas .any (.bool false) (k89 ((.bool false), ())))
noncomputable def ref03_Right_p15 (x1 : SV) (k103 : SV × Unit → ER) : ER :=
  eFieldAddr Tryz.prog 57 x1 2 fun x108 => eLoad Tryz.prog 5 x108 fun x109 => eBin Tryz.prog .eql 5 false x109 (.int .u8 0) fun x110 => eIfV x110
  (eFieldAddr Tryz.prog 57 x1 3 fun x111 => eLoad Tryz.prog 52 x111 fun x112 => eBin Tryz.prog .eql 52 false x112 (.int .i16 0) fun x113 => eHas .any x113 (k103 (x113, ())))
  (eHas .any (.bool false) (k103 ((.bool false), ())))
noncomputable def ref03_Right_p16 (x1 : SV) (k103 : SV × Unit → ER) : ER :=
  eFieldAddr Tryz.prog 57 x1 1 fun x105 => eLoad Tryz.prog 5 x105 fun x106 => eBin Tryz.prog .eql 5 false x106 (.int .u8 0) fun x107 => eIfV x107
  (ref03_Right_p15 x1 k103)
  (eHas .any (.bool false) (k103 ((.bool false), ())))
noncomputable def ref03_Right_p17 (x1 : SV) (k128 : SV × Unit → ER) : ER :=
  eFieldAddr Tryz.prog 57 x1 2 fun x133 => eLoad Tryz.prog 5 x133 fun x134 => eBin Tryz.prog .leq 5 false x134 (.int .u8 10) fun x135 => eIfV x135
  (eFieldAddr Tryz.prog 57 x1 4 fun x136 => eLoad Tryz.prog 21 x136 fun x137 => eBin Tryz.prog .eql 21 false x137 (.int .i32 0) fun x138 => eHas .any x138 (k128 (x138, ())))
  (eHas .any (.bool false) (k128 ((.bool false), ())))
noncomputable def ref03_Right_p18 (x1 : SV) (k128 : SV × Unit → ER) : ER :=
  eFieldAddr Tryz.prog 57 x1 1 fun x130 => eLoad Tryz.prog 5 x130 fun x131 => eBin Tryz.prog .leq 5 false x131 (.int .u8 9) fun x132 => eIfV x132
  (ref03_Right_p17 x1 k128)
  (eHas .any (.bool false) (k128 ((.bool false), ())))
noncomputable def ref03_Right_p19 (x1 : SV) (k140 : SV × Unit → ER) : ER :=
  eFieldAddr Tryz.prog 57 x1 1 fun x142 => eLoad Tryz.prog 5 x142 fun x143 => eBin Tryz.prog .leq 5 false x143 (.int .u8 10) fun x144 => eIfV x144
  (eFieldAddr Tryz.prog 57 x1 2 fun x145 => eLoad Tryz.prog 5 x145 fun x146 => eBin Tryz.prog .eql 5 false x146 (.int .u8 0) fun x147 => eHas .any x147 (k140 (x147, ())))
  (eHas .any (.bool false) (k140 ((.bool false), ())))
noncomputable def ref03_Right_p20 (x1 : SV) (k148 : SV × Unit → ER) : ER :=
  eFieldAddr Tryz.prog 57 x1 2 fun x153 => eLoad Tryz.prog 5 x153 fun x154 => eBin Tryz.prog .leq 5 false x154 (.int .u8 10) fun x155 => eIfV x155
  (eFieldAddr Tryz.prog 57 x1 4 fun x156 => eLoad Tryz.prog 21 x156 fun x157 => eBin Tryz.prog .eql 21 false x157 (.int .i32 0) fun x158 => eHas .any x158 (k148 (x158, ())))
  (eHas .any (.bool false) (k148 ((.bool false), ())))
noncomputable def ref03_Right_p21 (x1 : SV) (k148 : SV × Unit → ER) : ER :=
  eFieldAddr Tryz.prog 57 x1 1 fun x150 => eLoad Tryz.prog 5 x150 fun x151 => eBin Tryz.prog .leq 5 false x151 (.int .u8 10) fun x152 => eIfV x152
  (ref03_Right_p20 x1 k148)
  (eHas .any (.bool false) (k148 ((.bool false), ())))
noncomputable def ref03_Right_p22 (K : SV → ER) (x1 : SV) (x126 : SV) : ER :=
  eBin Tryz.prog .eql 5 false x126 (.int .u8 2) fun x139 => eIfV x139
  (eJoinC (σ := SV × Unit) (fun (k140 : SV × Unit → ER) =>
  ref03_Right_p19 x1 k140) fun (s141 : SV × Unit) =>
  K s141.1)
  (eJoinC (σ := SV × Unit) (fun (k148 : SV × Unit → ER) =>
  ref03_Right_p21 x1 k148) fun (s149 : SV × Unit) =>
  K s149.1)
noncomputable def ref03_Right_p23 (K : SV → ER) (x1 : SV) : ER :=
  eFieldAddr Tryz.prog 57 x1 0 fun x124 => eLoad Tryz.prog 5 x124 fun x125 => eBin Tryz.prog .rem 5 false x125 (.int .u8 8) fun x126 => eBin Tryz.prog .eql 5 false x126 (.int .u8 1) fun x127 => eIfV x127
  (eJoinC (σ := SV × Unit) (fun (k128 : SV × Unit → ER) =>
  ref03_Right_p18 x1 k128) fun (s129 : SV × Unit) =>
  K s129.1)
  (ref03_Right_p22 K x1 x126)
noncomputable def ref03_Right_p24 (C : Cal) (K : SV → ER) (x1 : SV) : ER :=
  eFieldAddr Tryz.prog 57 x1 0 fun x120 => eLoad Tryz.prog 5 x120 fun x121 => eCallR Tryz.prog C 37 [x121] 3 fun x122 => eBin Tryz.prog .eql 3 false x122 (.int .i64 0) fun x123 => eIfV x123
  (K (.bool false))
  (ref03_Right_p23 K x1)
noncomputable def ref03_Right_p25 (C : Cal) (K : SV → ER) (x1 : SV) : ER :=
  eFieldAddr Tryz.prog 57 x1 0 fun x114 => eLoad Tryz.prog 5 x114 fun x115 => eBin Tryz.prog .eql 5 false x115 (.int .u8 149) fun x116 => eIfV x116
  (eLoad Tryz.prog 57 x1 fun x117 => eBuild Tryz.prog 57 [(0, (.int .u8 149))] fun x118 => eBin Tryz.prog .eql 57 false x117 x118 fun x119 => K x119)
  (ref03_Right_p24 C K x1)
noncomputable def ref03_Right_p26 (C : Cal) (K : SV → ER) (x1 : SV) : ER :=
  eFieldAddr Tryz.prog 57 x1 0 fun x100 => eLoad Tryz.prog 5 x100 fun x101 => eBin Tryz.prog .eql 5 false x101 (.int .u8 133) fun x102 => eIfV x102
  (eJoinC (σ := SV × Unit) (fun (k103 : SV × Unit → ER) =>
  ref03_Right_p16 x1 k103) fun (s104 : SV × Unit) =>
  K s104.1)
  (ref03_Right_p25 C K x1)
noncomputable def ref03_Right_p27 (C : Cal) (K : SV → ER) (x1 : SV) : ER :=
  eFieldAddr Tryz.prog 57 x1 0 fun x86 => eLoad Tryz.prog 5 x86 fun x87 => eBin Tryz.prog .eql 5 false x87 (.int .u8 5) fun x88 => eIfV x88
  (eJoinC (σ := SV × Unit) (fun (k89 : SV × Unit → ER) =>
  ref03_Right_p14 x1 k89) fun (s90 : SV × Unit) =>
  K s90.1)
  (ref03_Right_p26 C K x1)
noncomputable def ref03_Right_p28 (x1 : SV) (k21 : SV × Unit → ER) : ER :=
  eFieldAddr Tryz.prog 57 x1 0 fun x23 => eLoad Tryz.prog 5 x23 fun x24 => eBin Tryz.prog .rem 5 false x24 (.int .u8 8) fun x25 => eBin Tryz.prog .eql 5 false x25 (.int .u8 4) fun x26 => eIfV x26
  (eHas .any (.bool true) (k21 ((.bool true), ())))
  (ref03_Right_p2 x1 k21)
noncomputable def ref03_Right_p29 (C : Cal) (K : SV → ER) (x1 : SV) (x6 : SV) (s22 : SV × Unit) : ER :=
  eIfV s22.1
  (ref03_Right_p8 K x1 x6)
  (eFieldAddr Tryz.prog 57 x1 0 fun x64 => eLoad Tryz.prog 5 x64 fun x65 => eCallR Tryz.prog C 36 [x65] 4 fun x66 => eIfV x66
  (ref03_Right_p12 K x1 x6)
  (ref03_Right_p27 C K x1))
noncomputable def ref03_Right_p30 (C : Cal) (K : SV → ER) (x1 : SV) (x3 : SV) : ER :=
  eBin Tryz.prog .quo 5 false x3 (.int .u8 8) fun x4 => eBin Tryz.prog .rem 5 false x4 (.int .u8 2) fun x5 => eBin Tryz.prog .eql 5 false x5 (.int .u8 1) fun x6 => eFieldAddr Tryz.prog 57 x1 0 fun x7 => eLoad Tryz.prog 5 x7 fun x8 => eBin Tryz.prog .eql 5 false x8 (.int .u8 24) fun x9 => eIfV x9
  (eJoinC (σ := SV × Unit) (fun (k10 : SV × Unit → ER) =>
  ref03_Right_p1 x1 k10) fun (s11 : SV × Unit) =>
  K s11.1)
  (eJoinC (σ := SV × Unit) (fun (k21 : SV × Unit → ER) =>
  ref03_Right_p28 x1 k21) fun (s22 : SV × Unit) =>
  ref03_Right_p29 C K x1 x6 s22)
noncomputable def ref03_Right_e (C : Cal) (N : Nat) (a0 : SV) (K : SV → ER) : ER :=
  eBox Tryz.prog 57 a0 fun x1 => eFieldAddr Tryz.prog 57 x1 0 fun x2 => eLoad Tryz.prog 5 x2 fun x3 => ref03_Right_p30 C K x1 x3
theorem ref03_Right_ee (C : Cal) (N : Nat) (a0 : SV) (K : SV → ER) : eBody Tryz.prog C N Tryz.f22 (Tryz.f22.body.getD .skip) ref03_Right_ea [a0] K = ref03_Right_e C N a0 K := by kernel_rfl
noncomputable def l22 : LeafT := fun C N args K => match args with
  | [a0] => ref03_Right_e C N a0 K
  | _ => eF
theorem lok22 : LeafOk Tryz.prog 22 l22 := .inl ⟨Tryz.f22, Tryz.f22.body.getD .skip, ref03_Right_ea, Tryz.func22, by kernel_rfl, Tryz.call22, fun C N args K H e => by
  unfold l22 at e
  split at e
  · rw [ref03_Right_ee]; exact e
  · exact eF_no e⟩

/- halberd/halberdref05.Line -/
def ref05_Line_ea : Ann := .two (.none) (.two (.none) (.two (.none) (.two (.none) (.join (.join (.none) (.two (.none) (.none)) [(23, .any)]) (.two (.none) (.two (.sub (.two (.none) (.two (.two (.none) (.two (.join (.none) (.two (.two (.none) (.none)) (.none)) [(66, .any)]) (.two (.two (.none) (.two (.two (.none) (.none)) (.none))) (.two (.none) (.none))))) (.two (.none) (.two (.two (.two (.none) (.two (.two (.none) (.none)) (.none))) (.two (.none) (.none))) (.two (.none) (.two (.two (.two (.none) (.two (.two (.none) (.none)) (.none))) (.two (.none) (.none))) (.two (.none) (.two (.two (.none) (.none)) (.two (.none) (.two (.two (.two (.none) (.two (.two (.none) (.none)) (.none))) (.two (.ord [0, 1, 6, 9, 18, 2, 3, 4, 5, 7, 8, 10, 14, 19, 20, 11, 12, 13, 15, 16, 17, 21, 22, 23]) (.none))) (.two (.none) (.two (.two (.ord [0, 1, 2, 3, 8, 10, 4, 9, 11, 5, 6, 7, 12, 13, 14]) (.none)) (.two (.none) (.two (.two (.ord [0, 1, 2, 3, 5, 10, 4, 6, 11, 12, 7, 8, 9, 13, 14, 15]) (.none)) (.two (.none) (.two (.two (.ord [0, 1, 2, 3, 5, 10, 4, 6, 11, 7, 8, 9, 12, 13, 14]) (.none)) (.two (.none) (.two (.two (.none) (.none)) (.none)))))))))))))))))))) (.two (.ord [0, 1, 6, 9, 2, 3, 4, 5, 7, 8, 10, 14, 11, 12, 13, 15, 16, 17]) (.none)))) [(9, .any)]))))
noncomputable def ref05_Line_p0 (k7 : SV × Unit → ER) (x1 : SV) : ER :=
  eFieldAddr Tryz.prog 57 x1 0 fun x13 => eLoad Tryz.prog 5 x13 fun x14 => eBin Tryz.prog .rem 5 false x14 (.int .u8 8) fun x15 => eBin Tryz.prog .eql 5 false x15 (.int .u8 6) fun x16 => eHas .any x16 (k7 (x16, ()))
noncomputable def ref05_Line_p1 (k7 : SV × Unit → ER) (x1 : SV) : ER :=
  eFieldAddr Tryz.prog 57 x1 0 fun x9 => eLoad Tryz.prog 5 x9 fun x10 => eBin Tryz.prog .rem 5 false x10 (.int .u8 8) fun x11 => eBin Tryz.prog .eql 5 false x11 (.int .u8 4) fun x12 => eIfV x12
  (eHas .any (.bool true) (k7 ((.bool true), ())))
  (ref05_Line_p0 k7 x1)
noncomputable def ref05_Line_p2 (x1 : SV) (k28 : SV × Unit → ER) (x27 : SV) : ER :=
  eFieldAddr Tryz.prog 57 x1 2 fun x43 => eLoad Tryz.prog 5 x43 fun x44 => eBin Tryz.prog .eql 5 false x44 (.int .u8 1) fun x45 => eIfV x45
  (eBin Tryz.prog .lss 2 false x27 (.int .i64 0) fun x46 => eHas .any x46 (k28 (x46, ())))
  (eHas .any (.bool false) (k28 ((.bool false), ())))
noncomputable def ref05_Line_p3 (x1 : SV) (x2 : SV) (k28 : SV × Unit → ER) (x27 : SV) : ER :=
  eFieldAddr Tryz.prog 57 x2 3 fun x40 => eLoad Tryz.prog 52 x40 fun x41 => eBin Tryz.prog .neq 52 false x41 (.int .i16 0) fun x42 => eIfV x42
  (eHas .any (.bool true) (k28 ((.bool true), ())))
  (ref05_Line_p2 x1 k28 x27)
noncomputable def ref05_Line_p4 (x1 : SV) (x2 : SV) (k28 : SV × Unit → ER) (x27 : SV) : ER :=
  eFieldAddr Tryz.prog 57 x2 2 fun x37 => eLoad Tryz.prog 5 x37 fun x38 => eBin Tryz.prog .gtr 5 false x38 (.int .u8 0) fun x39 => eIfV x39
  (eHas .any (.bool true) (k28 ((.bool true), ())))
  (ref05_Line_p3 x1 x2 k28 x27)
noncomputable def ref05_Line_p5 (x1 : SV) (x2 : SV) (k28 : SV × Unit → ER) (x27 : SV) : ER :=
  eFieldAddr Tryz.prog 57 x2 1 fun x34 => eLoad Tryz.prog 5 x34 fun x35 => eBin Tryz.prog .gtr 5 false x35 (.int .u8 0) fun x36 => eIfV x36
  (eHas .any (.bool true) (k28 ((.bool true), ())))
  (ref05_Line_p4 x1 x2 k28 x27)
noncomputable def ref05_Line_p6 (x1 : SV) (x2 : SV) (k28 : SV × Unit → ER) (x27 : SV) : ER :=
  eFieldAddr Tryz.prog 57 x2 0 fun x31 => eLoad Tryz.prog 5 x31 fun x32 => eBin Tryz.prog .gtr 5 false x32 (.int .u8 0) fun x33 => eIfV x33
  (eHas .any (.bool true) (k28 ((.bool true), ())))
  (ref05_Line_p5 x1 x2 k28 x27)
noncomputable def ref05_Line_p7 (C : Cal) (K : SV → ER) (x1 : SV) (x27 : SV) : ER :=
  eFieldAddr Tryz.prog 57 x1 1 fun x50 => eLoad Tryz.prog 5 x50 fun x51 => eCallR Tryz.prog C 40 [x51] 9 fun x52 => eBin Tryz.prog .add 9 false (.str [109, 97, 112, 32]) x52 fun x53 => eBin Tryz.prog .add 9 false x53 (.str [44, 32]) fun x54 => eCallR Tryz.prog C 38 [x27] 9 fun x55 => eBin Tryz.prog .add 9 false x54 x55 fun x56 => K x56
noncomputable def ref05_Line_p8 (C : Cal) (K : SV → ER) (x1 : SV) (x27 : SV) : ER :=
  eFieldAddr Tryz.prog 57 x1 1 fun x57 => eLoad Tryz.prog 5 x57 fun x58 => eCallR Tryz.prog C 40 [x58] 9 fun x59 => eBin Tryz.prog .add 9 false (.str [108, 100, 100, 119, 32]) x59 fun x60 => eBin Tryz.prog .add 9 false x60 (.str [44, 32]) fun x61 => eCallR Tryz.prog C 38 [x27] 9 fun x62 => eBin Tryz.prog .add 9 false x61 x62 fun x63 => K x63
noncomputable def ref05_Line_p9 (C : Cal) (K : SV → ER) (x1 : SV) (s29 : SV × Unit) (x27 : SV) : ER :=
  eIfV s29.1
  (K (.str []))
  (eFieldAddr Tryz.prog 57 x1 2 fun x47 => eLoad Tryz.prog 5 x47 fun x48 => eBin Tryz.prog .eql 5 false x48 (.int .u8 1) fun x49 => eIfV x49
  (ref05_Line_p7 C K x1 x27)
  (ref05_Line_p8 C K x1 x27))
noncomputable def ref05_Line_p10 (C : Cal) (K : SV → ER) (a2 : SV) (x1 : SV) (x2 : SV) : ER :=
  eLoad Tryz.prog 57 x1 fun x24 => eLoad Tryz.prog 57 x2 fun x25 => eCallR Tryz.prog C 39 [x24, x25] 53 fun x26 => eConvS Tryz.prog 53 2 x26 fun x27 => eJoinC (σ := SV × Unit) (fun (k28 : SV × Unit → ER) =>
  eUnS .not a2 fun x30 => eIfV x30
  (eHas .any (.bool true) (k28 ((.bool true), ())))
  (ref05_Line_p6 x1 x2 k28 x27)) fun (s29 : SV × Unit) =>
  ref05_Line_p9 C K x1 s29 x27
noncomputable def ref05_Line_p11 (C : Cal) (K : SV → ER) (x1 : SV) : ER :=
  eFieldAddr Tryz.prog 57 x1 3 fun x70 => eLoad Tryz.prog 52 x70 fun x71 => eConvS Tryz.prog 52 2 x71 fun x72 => eCallR Tryz.prog C 38 [x72] 9 fun x73 => eBin Tryz.prog .add 9 false (.str [106, 97, 32, 43]) x73 fun x74 => K x74
noncomputable def ref05_Line_p12 (C : Cal) (K : SV → ER) (x1 : SV) : ER :=
  eFieldAddr Tryz.prog 57 x1 4 fun x81 => eLoad Tryz.prog 21 x81 fun x82 => eConvS Tryz.prog 21 2 x82 fun x83 => eCallR Tryz.prog C 38 [x83] 9 fun x84 => eBin Tryz.prog .add 9 false (.str [99, 97, 108, 108, 32]) x84 fun x85 => K x85
noncomputable def ref05_Line_p13 (C : Cal) (K : SV → ER) (x95 : SV) (x97 : SV) (x98 : SV) (x100 : SV) (x101 : SV) (x105 : SV) (x106 : SV) (x107 : SV) (x109 : SV) : ER :=
  eBin Tryz.prog .add 9 false x109 (.str [44, 32]) fun x110 => eCallR Tryz.prog C 41 [x105] 9 fun x111 => fun H => eLoadF Tryz.prog 52 x97 x106 H && (fun H => eLoadF Tryz.prog 9 x100 x101 H && (fun H => eLoadF Tryz.prog 5 x95 x98 H && (eBin Tryz.prog .add 9 false x110 x111 fun x112 => eBin Tryz.prog .add 9 false x112 (.str [44, 32, 43]) fun x113 => eCallR Tryz.prog C 38 [x107] 9 fun x114 => fun H => eLoadF Tryz.prog 9 x100 x101 H && (fun H => eLoadF Tryz.prog 5 x95 x98 H && (eBin Tryz.prog .add 9 false x113 x114 fun x115 => K x115) H) H) H) H) H
noncomputable def ref05_Line_p14 (C : Cal) (K : SV → ER) (x1 : SV) (x95 : SV) (x96 : SV) (x97 : SV) (x98 : SV) (x100 : SV) (x101 : SV) (x102 : SV) : ER :=
  eBin Tryz.prog .add 9 false x102 (.str [32]) fun x103 => eLoad Tryz.prog 5 x96 fun x104 => eLoad Tryz.prog 57 x1 fun x105 => eLoad Tryz.prog 52 x97 fun x106 => eConvS Tryz.prog 52 2 x106 fun x107 => eCallR Tryz.prog C 40 [x104] 9 fun x108 => fun H => eLoadF Tryz.prog 52 x97 x106 H && (fun H => eLoadF Tryz.prog 57 x1 x105 H && (fun H => eLoadF Tryz.prog 9 x100 x101 H && (fun H => eLoadF Tryz.prog 5 x95 x98 H && (eBin Tryz.prog .add 9 false x103 x108 fun x109 => ref05_Line_p13 C K x95 x97 x98 x100 x101 x105 x106 x107 x109) H) H) H) H
noncomputable def ref05_Line_p15 (C : Cal) (K : SV → ER) (s6 : SV × Unit) (x1 : SV) (x4 : SV) : ER :=
  eFieldAddr Tryz.prog 57 x1 0 fun x95 => eFieldAddr Tryz.prog 57 x1 1 fun x96 => eFieldAddr Tryz.prog 57 x1 3 fun x97 => eLoad Tryz.prog 5 x95 fun x98 => eBin Tryz.prog .quo 5 false x98 (.int .u8 16) fun x99 => eIndexAddrS Tryz.prog 64 x4 x99 fun x100 => eLoad Tryz.prog 9 x100 fun x101 => eBin Tryz.prog .add 9 false x101 s6.1 fun x102 => ref05_Line_p14 C K x1 x95 x96 x97 x98 x100 x101 x102
noncomputable def ref05_Line_p16 (C : Cal) (K : SV → ER) (x1 : SV) (x121 : SV) (x122 : SV) (x123 : SV) : ER :=
  eFieldAddr Tryz.prog 57 x1 3 fun x124 => eLoad Tryz.prog 5 x122 fun x125 => eLoad Tryz.prog 5 x123 fun x126 => eLoad Tryz.prog 52 x124 fun x127 => eCallR Tryz.prog C 40 [x125] 9 fun x128 => fun H => eLoadF Tryz.prog 52 x124 x127 H && (fun H => eLoadF Tryz.prog 5 x123 x126 H && (eBin Tryz.prog .add 9 false x121 x128 fun x129 => eBin Tryz.prog .add 9 false x129 (.str [44, 32]) fun x130 => eCallR Tryz.prog C 42 [x126, x127] 9 fun x131 => eBin Tryz.prog .add 9 false x130 x131 fun x132 => K x132) H) H
noncomputable def ref05_Line_p17 (C : Cal) (K : SV → ER) (x1 : SV) (x20 : SV) : ER :=
  eBin Tryz.prog .add 9 false (.str [108, 100]) x20 fun x120 => eBin Tryz.prog .add 9 false x120 (.str [32]) fun x121 => eFieldAddr Tryz.prog 57 x1 1 fun x122 => eFieldAddr Tryz.prog 57 x1 2 fun x123 => ref05_Line_p16 C K x1 x121 x122 x123
noncomputable def ref05_Line_p18 (C : Cal) (K : SV → ER) (x1 : SV) (x138 : SV) (x139 : SV) : ER :=
  eFieldAddr Tryz.prog 57 x1 3 fun x140 => eFieldAddr Tryz.prog 57 x1 4 fun x141 => eLoad Tryz.prog 5 x139 fun x142 => eLoad Tryz.prog 52 x140 fun x143 => eLoad Tryz.prog 21 x141 fun x144 => eConvS Tryz.prog 21 2 x144 fun x145 => eCallR Tryz.prog C 42 [x142, x143] 9 fun x146 => fun H => eLoadF Tryz.prog 21 x141 x144 H && (eBin Tryz.prog .add 9 false x138 x146 fun x147 => eBin Tryz.prog .add 9 false x147 (.str [44, 32]) fun x148 => eCallR Tryz.prog C 38 [x145] 9 fun x149 => eBin Tryz.prog .add 9 false x148 x149 fun x150 => K x150) H
noncomputable def ref05_Line_p19 (C : Cal) (K : SV → ER) (x1 : SV) (x156 : SV) : ER :=
  eFieldAddr Tryz.prog 57 x1 1 fun x157 => eFieldAddr Tryz.prog 57 x1 3 fun x158 => eFieldAddr Tryz.prog 57 x1 2 fun x159 => eLoad Tryz.prog 5 x157 fun x160 => eLoad Tryz.prog 52 x158 fun x161 => eLoad Tryz.prog 5 x159 fun x162 => eCallR Tryz.prog C 42 [x160, x161] 9 fun x163 => fun H => eLoadF Tryz.prog 5 x159 x162 H && (eBin Tryz.prog .add 9 false x156 x163 fun x164 => eBin Tryz.prog .add 9 false x164 (.str [44, 32]) fun x165 => eCallR Tryz.prog C 40 [x162] 9 fun x166 => eBin Tryz.prog .add 9 false x165 x166 fun x167 => K x167) H
noncomputable def ref05_Line_p20 (C : Cal) (K : SV → ER) (s6 : SV × Unit) (x1 : SV) : ER :=
  eBin Tryz.prog .add 9 false (.str [110, 101, 103]) s6.1 fun x172 => eBin Tryz.prog .add 9 false x172 (.str [32]) fun x173 => eFieldAddr Tryz.prog 57 x1 1 fun x174 => eLoad Tryz.prog 5 x174 fun x175 => eCallR Tryz.prog C 40 [x175] 9 fun x176 => eBin Tryz.prog .add 9 false x173 x176 fun x177 => K x177
noncomputable def ref05_Line_p21 (C : Cal) (K : SV → ER) (x1 : SV) (x178 : SV) (x180 : SV) (x182 : SV) (x183 : SV) (x185 : SV) (x186 : SV) : ER :=
  eLoad Tryz.prog 57 x1 fun x187 => eCallR Tryz.prog C 40 [x186] 9 fun x188 => fun H => eLoadF Tryz.prog 57 x1 x187 H && (fun H => eLoadF Tryz.prog 9 x182 x183 H && (fun H => eLoadF Tryz.prog 5 x178 x180 H && (eBin Tryz.prog .add 9 false x185 x188 fun x189 => eBin Tryz.prog .add 9 false x189 (.str [44, 32]) fun x190 => eCallR Tryz.prog C 41 [x187] 9 fun x191 => fun H => eLoadF Tryz.prog 9 x182 x183 H && (fun H => eLoadF Tryz.prog 5 x178 x180 H && (eBin Tryz.prog .add 9 false x190 x191 fun x192 => K x192) H) H) H) H) H
noncomputable def ref05_Line_p22 (C : Cal) (K : SV → ER) (s6 : SV × Unit) (x1 : SV) (x3 : SV) : ER :=
  eFieldAddr Tryz.prog 57 x1 0 fun x178 => eFieldAddr Tryz.prog 57 x1 1 fun x179 => eLoad Tryz.prog 5 x178 fun x180 => eBin Tryz.prog .quo 5 false x180 (.int .u8 16) fun x181 => eIndexAddrS Tryz.prog 64 x3 x181 fun x182 => eLoad Tryz.prog 9 x182 fun x183 => eBin Tryz.prog .add 9 false x183 s6.1 fun x184 => eBin Tryz.prog .add 9 false x184 (.str [32]) fun x185 => eLoad Tryz.prog 5 x179 fun x186 => ref05_Line_p21 C K x1 x178 x180 x182 x183 x185 x186
noncomputable def ref05_Line_p23 (C : Cal) (K : SV → ER) (s6 : SV × Unit) (x1 : SV) (x3 : SV) : ER :=
  eFieldAddr Tryz.prog 57 x1 0 fun x168 => eLoad Tryz.prog 5 x168 fun x169 => eBin Tryz.prog .quo 5 false x169 (.int .u8 16) fun x170 => eBin Tryz.prog .eql 5 false x170 (.int .u8 8) fun x171 => eIfV x171
  (ref05_Line_p20 C K s6 x1)
  (ref05_Line_p22 C K s6 x1 x3)
noncomputable def ref05_Line_p24 (C : Cal) (K : SV → ER) (s6 : SV × Unit) (x1 : SV) (x3 : SV) (x20 : SV) : ER :=
  eFieldAddr Tryz.prog 57 x1 0 fun x151 => eLoad Tryz.prog 5 x151 fun x152 => eBin Tryz.prog .rem 5 false x152 (.int .u8 8) fun x153 => eBin Tryz.prog .eql 5 false x153 (.int .u8 3) fun x154 => eIfV x154
  (eBin Tryz.prog .add 9 false (.str [115, 116]) x20 fun x155 => eBin Tryz.prog .add 9 false x155 (.str [32]) fun x156 => ref05_Line_p19 C K x1 x156)
  (ref05_Line_p23 C K s6 x1 x3)
noncomputable def ref05_Line_p25 (C : Cal) (K : SV → ER) (s6 : SV × Unit) (x1 : SV) (x3 : SV) (x20 : SV) : ER :=
  eFieldAddr Tryz.prog 57 x1 0 fun x133 => eLoad Tryz.prog 5 x133 fun x134 => eBin Tryz.prog .rem 5 false x134 (.int .u8 8) fun x135 => eBin Tryz.prog .eql 5 false x135 (.int .u8 2) fun x136 => eIfV x136
  (eBin Tryz.prog .add 9 false (.str [115, 116]) x20 fun x137 => eBin Tryz.prog .add 9 false x137 (.str [32]) fun x138 => eFieldAddr Tryz.prog 57 x1 1 fun x139 => ref05_Line_p18 C K x1 x138 x139)
  (ref05_Line_p24 C K s6 x1 x3 x20)
noncomputable def ref05_Line_p26 (C : Cal) (K : SV → ER) (s6 : SV × Unit) (x1 : SV) (x3 : SV) (x20 : SV) : ER :=
  eFieldAddr Tryz.prog 57 x1 0 fun x116 => eLoad Tryz.prog 5 x116 fun x117 => eBin Tryz.prog .rem 5 false x117 (.int .u8 8) fun x118 => eBin Tryz.prog .eql 5 false x118 (.int .u8 1) fun x119 => eIfV x119
  (ref05_Line_p17 C K x1 x20)
  (ref05_Line_p25 C K s6 x1 x3 x20)
noncomputable def ref05_Line_p27 (C : Cal) (K : SV → ER) (s6 : SV × Unit) (x1 : SV) (x3 : SV) (x4 : SV) (x20 : SV) : ER :=
  eFieldAddr Tryz.prog 57 x1 0 fun x89 => eLoad Tryz.prog 5 x89 fun x90 => eCallR Tryz.prog C 36 [x90] 4 fun x91 => eIfV x91
  (eFieldAddr Tryz.prog 57 x1 3 fun x92 => eLoad Tryz.prog 52 x92 fun x93 => eBin Tryz.prog .lss 52 false x93 (.int .i16 0) fun x94 => eIfV x94
  (K (.str []))
  (ref05_Line_p15 C K s6 x1 x4))
  (ref05_Line_p26 C K s6 x1 x3 x20)
noncomputable def ref05_Line_p28 (C : Cal) (K : SV → ER) (s6 : SV × Unit) (x1 : SV) (x3 : SV) (x4 : SV) (x20 : SV) : ER :=
  eFieldAddr Tryz.prog 57 x1 0 fun x86 => eLoad Tryz.prog 5 x86 fun x87 => eBin Tryz.prog .eql 5 false x87 (.int .u8 149) fun x88 => eIfV x88
  (K (.str [101, 120, 105, 116]))
  (ref05_Line_p27 C K s6 x1 x3 x4 x20)
noncomputable def ref05_Line_p29 (C : Cal) (K : SV → ER) (s6 : SV × Unit) (x1 : SV) (x3 : SV) (x4 : SV) (x20 : SV) : ER :=
  eFieldAddr Tryz.prog 57 x1 0 fun x75 => eLoad Tryz.prog 5 x75 fun x76 => eBin Tryz.prog .eql 5 false x76 (.int .u8 133) fun x77 => eIfV x77
  (eFieldAddr Tryz.prog 57 x1 4 fun x78 => eLoad Tryz.prog 21 x78 fun x79 => eBin Tryz.prog .lss 21 false x79 (.int .i32 0) fun x80 => eIfV x80
  (K (.str []))
  (ref05_Line_p12 C K x1))
  (ref05_Line_p28 C K s6 x1 x3 x4 x20)
noncomputable def ref05_Line_p30 (C : Cal) (K : SV → ER) (s6 : SV × Unit) (x1 : SV) (x3 : SV) (x4 : SV) (x20 : SV) : ER :=
  eFieldAddr Tryz.prog 57 x1 0 fun x64 => eLoad Tryz.prog 5 x64 fun x65 => eBin Tryz.prog .eql 5 false x65 (.int .u8 5) fun x66 => eIfV x66
  (eFieldAddr Tryz.prog 57 x1 3 fun x67 => eLoad Tryz.prog 52 x67 fun x68 => eBin Tryz.prog .lss 52 false x68 (.int .i16 0) fun x69 => eIfV x69
  (K (.str []))
  (ref05_Line_p11 C K x1))
  (ref05_Line_p29 C K s6 x1 x3 x4 x20)
noncomputable def ref05_Line_p31 (k5 : SV × Unit → ER) (x1 : SV) : ER :=
  eJoinC (σ := SV × Unit) (fun (k7 : SV × Unit → ER) =>
  ref05_Line_p1 k7 x1) fun (s8 : SV × Unit) =>
  eIfV s8.1
  (eHas .any (.str [51, 50]) (k5 ((.str [51, 50]), ())))
  (eHas .any (.str []) (k5 ((.str []), ())))
noncomputable def ref05_Line_p32 (C : Cal) (K : SV → ER) (a2 : SV) (s6 : SV × Unit) (x1 : SV) (x2 : SV) (x3 : SV) (x4 : SV) : ER :=
  eFieldAddr Tryz.prog 57 x1 0 fun x17 => eLoad Tryz.prog 5 x17 fun x18 => eCallR Tryz.prog C 37 [x18] 3 fun x19 => eCallR Tryz.prog C 38 [x19] 9 fun x20 => eFieldAddr Tryz.prog 57 x1 0 fun x21 => eLoad Tryz.prog 5 x21 fun x22 => eBin Tryz.prog .eql 5 false x22 (.int .u8 24) fun x23 => eIfV x23
  (ref05_Line_p10 C K a2 x1 x2)
  (ref05_Line_p30 C K s6 x1 x3 x4 x20)
noncomputable def ref05_Line_p33 (C : Cal) (K : SV → ER) (a2 : SV) (x1 : SV) (x2 : SV) (x3 : SV) : ER :=
  eBuildSlice Tryz.prog 64 14 [(0, (.str [])), (1, (.str [106, 101, 113])), (2, (.str [106, 103, 116])), (3, (.str [106, 103, 101])), (4, (.str [106, 115, 101, 116])), (5, (.str [106, 110, 101])), (6, (.str [106, 115, 103, 116])), (7, (.str [106, 115, 103, 101])), (8, (.str [])), (9, (.str [])), (10, (.str [106, 108, 116])), (11, (.str [106, 108, 101])), (12, (.str [106, 115, 108, 116])), (13, (.str [106, 115, 108, 101]))] fun x4 => eJoinC (σ := SV × Unit) (fun (k5 : SV × Unit → ER) =>
  ref05_Line_p31 k5 x1) fun (s6 : SV × Unit) =>
  ref05_Line_p32 C K a2 s6 x1 x2 x3 x4
noncomputable def ref05_Line_e (C : Cal) (N : Nat) (a0 a1 a2 : SV) (K : SV → ER) : ER :=
  eBox Tryz.prog 57 a0 fun x1 => eBox Tryz.prog 57 a1 fun x2 => eBuildSlice Tryz.prog 64 13 [(0, (.str [97, 100, 100])), (1, (.str [115, 117, 98])), (2, (.str [109, 117, 108])), (3, (.str [100, 105, 118])), (4, (.str [111, 114])), (5, (.str [97, 110, 100])), (6, (.str [108, 115, 104])), (7, (.str [114, 115, 104])), (8, (.str [110, 101, 103])), (9, (.str [109, 111, 100])), (10, (.str [120, 111, 114])), (11, (.str [109, 111, 118])), (12, (.str [97, 114, 115, 104]))] fun x3 => ref05_Line_p33 C K a2 x1 x2 x3
theorem ref05_Line_ee (C : Cal) (N : Nat) (a0 a1 a2 : SV) (K : SV → ER) : eBody Tryz.prog C N Tryz.f23 (Tryz.f23.body.getD .skip) ref05_Line_ea [a0, a1, a2] K = ref05_Line_e C N a0 a1 a2 K := by kernel_rfl
noncomputable def l23 : LeafT := fun C N args K => match args with
  | [a0, a1, a2] => ref05_Line_e C N a0 a1 a2 K
  | _ => eF
theorem lok23 : LeafOk Tryz.prog 23 l23 := .inl ⟨Tryz.f23, Tryz.f23.body.getD .skip, ref05_Line_ea, Tryz.func23, by kernel_rfl, Tryz.call23, fun C N args K H e => by
  unfold l23 at e
  split at e
  · rw [ref05_Line_ee]; exact e
  · exact eF_no e⟩

/- halberd/asm.Read$1 -/
def asm_Read_1_ea : Ann := .two (.none) (.two (.none) (.two (.join (.two (.none) (.two (.none) (.two (.none) (.none)))) (.none) []) (.none)))
noncomputable def asm_Read_1_e (C : Cal) (N : Nat) (a0 a1 : SV) (K : SV → ER) : ER :=
  eF
theorem asm_Read_1_ee (C : Cal) (N : Nat) (a0 a1 : SV) (K : SV → ER) : eBody Tryz.prog C N Tryz.f28 (Tryz.f28.body.getD .skip) asm_Read_1_ea [a0, a1] K = asm_Read_1_e C N a0 a1 K := by kernel_rfl
noncomputable def l28 : LeafT := fun C N args K => match args with
  | [a0, a1] => asm_Read_1_e C N a0 a1 K
  | _ => eF
theorem lok28 : LeafOk Tryz.prog 28 l28 := .inl ⟨Tryz.f28, Tryz.f28.body.getD .skip, asm_Read_1_ea, Tryz.func28, by kernel_rfl, Tryz.call28, fun C N args K H e => by
  unfold l28 at e
  split at e
  · rw [asm_Read_1_ee]; exact e
  · exact eF_no e⟩

/- halberd/asm.need -/
def asm_need_ea : Ann := .two (.none) (.two (.none) (.none))
noncomputable def asm_need_e (C : Cal) (N : Nat) (a0 : SV) (K : SV → ER) : ER :=
  eUnS .not a0 fun x1 => eIfV x1
  (eBuild Tryz.prog 67 [] fun x2 => eMakeIface Tryz.prog 67 x2 fun x3 => eF)
  (K (.tup []))
theorem asm_need_ee (C : Cal) (N : Nat) (a0 : SV) (K : SV → ER) : eBody Tryz.prog C N Tryz.f29 (Tryz.f29.body.getD .skip) asm_need_ea [a0] K = asm_need_e C N a0 K := by kernel_rfl
noncomputable def l29 : LeafT := fun C N args K => match args with
  | [a0] => asm_need_e C N a0 K
  | _ => eF
theorem lok29 : LeafOk Tryz.prog 29 l29 := .inl ⟨Tryz.f29, Tryz.f29.body.getD .skip, asm_need_ea, Tryz.func29, by kernel_rfl, Tryz.call29, fun C N args K H e => by
  unfold l29 at e
  split at e
  · rw [asm_need_ee]; exact e
  · exact eF_no e⟩

/- strings.Split -/
def strings_Split_ea : Ann := .two (.none) (.two (.none) (.none))
noncomputable def strings_Split_e (C : Cal) (N : Nat) (a0 a1 : SV) (K : SV → ER) : ER :=
  eCallR Tryz.prog C 57 [a0, a1, (.int .i64 0), (.int .i64 (-1))] 64 fun x1 => K x1
theorem strings_Split_ee (C : Cal) (N : Nat) (a0 a1 : SV) (K : SV → ER) : eBody Tryz.prog C N Tryz.f30 (Tryz.f30.body.getD .skip) strings_Split_ea [a0, a1] K = strings_Split_e C N a0 a1 K := by kernel_rfl
noncomputable def l30 : LeafT := fun C N args K => match args with
  | [a0, a1] => strings_Split_e C N a0 a1 K
  | _ => eF
theorem lok30 : LeafOk Tryz.prog 30 l30 := .inl ⟨Tryz.f30, Tryz.f30.body.getD .skip, strings_Split_ea, Tryz.func30, by kernel_rfl, Tryz.call30, fun C N args K H e => by
  unfold l30 at e
  split at e
  · rw [strings_Split_ee]; exact e
  · exact eF_no e⟩

/- strings.TrimSuffix -/
def strings_TrimSuffix_ea : Ann := .two (.none) (.two (.none) (.none))
noncomputable def strings_TrimSuffix_e (C : Cal) (N : Nat) (a0 a1 : SV) (K : SV → ER) : ER :=
  eCallR Tryz.prog C 58 [a0, a1] 9 fun x1 => K x1
theorem strings_TrimSuffix_ee (C : Cal) (N : Nat) (a0 a1 : SV) (K : SV → ER) : eBody Tryz.prog C N Tryz.f31 (Tryz.f31.body.getD .skip) strings_TrimSuffix_ea [a0, a1] K = strings_TrimSuffix_e C N a0 a1 K := by kernel_rfl
noncomputable def l31 : LeafT := fun C N args K => match args with
  | [a0, a1] => strings_TrimSuffix_e C N a0 a1 K
  | _ => eF
theorem lok31 : LeafOk Tryz.prog 31 l31 := .inl ⟨Tryz.f31, Tryz.f31.body.getD .skip, strings_TrimSuffix_ea, Tryz.func31, by kernel_rfl, Tryz.call31, fun C N args K H e => by
  unfold l31 at e
  split at e
  · rw [strings_TrimSuffix_ee]; exact e
  · exact eF_no e⟩

/- halberd/asm.instOf -/
def asm_instOf_ea : Ann := .two (.none) (.two (.none) (.two (.none) (.join (.two (.none) (.two (.none) (.none))) (.two (.two (.none) (.sub (.two (.none) (.two (.two (.none) (.two (.none) (.none))) (.two (.none) (.two (.two (.none) (.two (.none) (.none))) (.two (.none) (.two (.two (.none) (.two (.none) (.none))) (.two (.none) (.two (.two (.none) (.none)) (.two (.none) (.two (.two (.none) (.none)) (.none))))))))))))) (.two (.two (.none) (.two (.none) (.two (.two (.none) (.none)) (.none)))) (.two (.two (.none) (.two (.none) (.two (.two (.none) (.none)) (.none)))) (.two (.none) (.two (.ord [1, 2, 0, 3, 4, 5, 6, 7, 8]) (.two (.none) (.two (.two (.none) (.two (.two (.none) (.none)) (.none))) (.two (.none) (.two (.none) (.none)))))))))) [(6, .any)])))
noncomputable def asm_instOf_p0 (C : Cal) (K : SV → ER) (s6 : SV × Unit) : ER :=
  eLenS Tryz.prog [64] [s6.1] fun x14 => eBin Tryz.prog .eql 3 false x14 (.int .i64 1) fun x15 => eCallR Tryz.prog C 29 [x15] 0 fun x16 => eIndexAddrS Tryz.prog 64 s6.1 (.int .i64 0) fun x17 => eLoad Tryz.prog 9 x17 fun x18 => eCallR Tryz.prog C 60 [x18] 52 fun x19 => eBuild Tryz.prog 57 [(0, (.int .u8 5)), (3, x19)] fun x20 => eBuildSlice Tryz.prog 35 1 [(0, x20)] fun x21 => K x21
noncomputable def asm_instOf_p1 (C : Cal) (K : SV → ER) (s6 : SV × Unit) : ER :=
  eLenS Tryz.prog [64] [s6.1] fun x23 => eBin Tryz.prog .eql 3 false x23 (.int .i64 1) fun x24 => eCallR Tryz.prog C 29 [x24] 0 fun x25 => eIndexAddrS Tryz.prog 64 s6.1 (.int .i64 0) fun x26 => eLoad Tryz.prog 9 x26 fun x27 => eCallR Tryz.prog C 61 [x27, (.int .i64 0), (.int .i64 2147483647)] 2 fun x28 => eConvS Tryz.prog 2 21 x28 fun x29 => eBuild Tryz.prog 57 [(0, (.int .u8 133)), (4, x29)] fun x30 => eBuildSlice Tryz.prog 35 1 [(0, x30)] fun x31 => K x31
noncomputable def asm_instOf_p2 (C : Cal) (K : SV → ER) (s6 : SV × Unit) (x2 : SV) (x56 : SV) : ER :=
  eSliceS Tryz.prog 9 x2 none (some (.v (.int .i64 2))) none fun x63 => eBin Tryz.prog .eql 9 false x63 (.str [115, 116]) fun x64 => eCallR Tryz.prog C 29 [x64] 0 fun x65 => eCallR Tryz.prog C 70 [x56, s6.1] 57 fun x66 => eBuildSlice Tryz.prog 35 1 [(0, x66)] fun x67 => K x67
noncomputable def asm_instOf_p3 (C : Cal) (K : SV → ER) (s6 : SV × Unit) (x2 : SV) : ER :=
  eSliceS Tryz.prog 9 x2 (some (.v (.int .i64 2))) none none fun x53 => eCallR Tryz.prog C 68 [] 142 fun x54 => eLookupS Tryz.prog 142 x54 x53 true fun x55 => eExtract x55 0 fun x56 => eExtract x55 1 fun x57 => eCallR Tryz.prog C 29 [x57] 0 fun x58 => eSliceS Tryz.prog 9 x2 none (some (.v (.int .i64 2))) none fun x59 => eBin Tryz.prog .eql 9 false x59 (.str [108, 100]) fun x60 => eIfV x60
  (eCallR Tryz.prog C 69 [x56, s6.1] 57 fun x61 => eBuildSlice Tryz.prog 35 1 [(0, x61)] fun x62 => K x62)
  (asm_instOf_p2 C K s6 x2 x56)
noncomputable def asm_instOf_p4 (C : Cal) (K : SV → ER) (s6 : SV × Unit) (x2 : SV) : ER :=
  eCallR Tryz.prog C 66 [] 138 fun x43 => eCallR Tryz.prog C 63 [x43, x2] 136 fun x44 => eExtract x44 0 fun x45 => eExtract x44 1 fun x46 => eExtract x44 2 fun x47 => eIfV x47
  (eCallR Tryz.prog C 67 [x45, x46, s6.1] 57 fun x48 => eBuildSlice Tryz.prog 35 1 [(0, x48)] fun x49 => K x49)
  (eLenS Tryz.prog [9] [x2] fun x50 => eBin Tryz.prog .eql 3 false x50 (.int .i64 3) fun x51 => eCallR Tryz.prog C 29 [x51] 0 fun x52 => asm_instOf_p3 C K s6 x2)
noncomputable def asm_instOf_p5 (C : Cal) (K : SV → ER) (s6 : SV × Unit) (x2 : SV) : ER :=
  eCallR Tryz.prog C 64 [] 138 fun x36 => eCallR Tryz.prog C 63 [x36, x2] 136 fun x37 => eExtract x37 0 fun x38 => eExtract x37 1 fun x39 => eExtract x37 2 fun x40 => eIfV x40
  (eCallR Tryz.prog C 65 [x38, x39, s6.1] 57 fun x41 => eBuildSlice Tryz.prog 35 1 [(0, x41)] fun x42 => K x42)
  (asm_instOf_p4 C K s6 x2)
noncomputable def asm_instOf_p6 (C : Cal) (K : SV → ER) (s6 : SV × Unit) (x2 : SV) : ER :=
  eBin Tryz.prog .eql 9 false x2 (.str [108, 100, 100, 119]) fun x32 => eIfV x32
  (eCallR Tryz.prog C 62 [(.int .u8 0), (.int .i64 (-9223372036854775808)), s6.1] 35 fun x33 => K x33)
  (eBin Tryz.prog .eql 9 false x2 (.str [109, 97, 112]) fun x34 => eIfV x34
  (eCallR Tryz.prog C 62 [(.int .u8 1), (.int .i64 0), s6.1] 35 fun x35 => K x35)
  (asm_instOf_p5 C K s6 x2))
noncomputable def asm_instOf_p7 (C : Cal) (K : SV → ER) (s6 : SV × Unit) (x2 : SV) : ER :=
  eBin Tryz.prog .eql 9 false x2 (.str [106, 97]) fun x13 => eIfV x13
  (asm_instOf_p0 C K s6)
  (eBin Tryz.prog .eql 9 false x2 (.str [99, 97, 108, 108]) fun x22 => eIfV x22
  (asm_instOf_p1 C K s6)
  (asm_instOf_p6 C K s6 x2))
noncomputable def asm_instOf_p8 (C : Cal) (K : SV → ER) (s6 : SV × Unit) (x2 : SV) (x4 : SV) : ER :=
  eBin Tryz.prog .eql 9 false x2 (.str [101, 120, 105, 116]) fun x8 => eIfV x8
  (eUnS .not x4 fun x9 => eCallR Tryz.prog C 29 [x9] 0 fun x10 => eBuild Tryz.prog 57 [(0, (.int .u8 149))] fun x11 => eBuildSlice Tryz.prog 35 1 [(0, x11)] fun x12 => K x12)
  (asm_instOf_p7 C K s6 x2)
noncomputable def asm_instOf_e (C : Cal) (N : Nat) (a0 : SV) (K : SV → ER) : ER :=
  eCallR Tryz.prog C 59 [a0, (.str [32])] 131 fun x1 => eExtract x1 0 fun x2 => eExtract x1 1 fun x3 => eExtract x1 2 fun x4 => eJoinC (σ := SV × Unit) (fun (k5 : SV × Unit → ER) =>
  eIfV x4
  (eCallR Tryz.prog C 30 [x3, (.str [44, 32])] 64 fun x7 => eHas .any x7 (k5 (x7, ())))
  (eHas .any (.sl ⟨none, 0, .lit 0⟩) (k5 ((.sl ⟨none, 0, .lit 0⟩), ())))) fun (s6 : SV × Unit) =>
  asm_instOf_p8 C K s6 x2 x4
theorem asm_instOf_ee (C : Cal) (N : Nat) (a0 : SV) (K : SV → ER) : eBody Tryz.prog C N Tryz.f32 (Tryz.f32.body.getD .skip) asm_instOf_ea [a0] K = asm_instOf_e C N a0 K := by kernel_rfl
noncomputable def l32 : LeafT := fun C N args K => match args with
  | [a0] => asm_instOf_e C N a0 K
  | _ => eF
theorem lok32 : LeafOk Tryz.prog 32 l32 := .inl ⟨Tryz.f32, Tryz.f32.body.getD .skip, asm_instOf_ea, Tryz.func32, by kernel_rfl, Tryz.call32, fun C N args K H e => by
  unfold l32 at e
  split at e
  · rw [asm_instOf_ee]; exact e
  · exact eF_no e⟩

/- halberd/inst.bytesOf -/
def inst_bytesOf_ea : Ann := .two (.none) (.two (.none) (.two (.ord [0, 1, 2, 4, 7, 3, 11, 5, 6, 8, 9, 10, 12, 13, 14]) (.two (.none) (.two (.none) (.two (.none) (.none))))))
noncomputable def inst_bytesOf_p0 (C : Cal) (K : SV → ER) (x1 : SV) (x2 : SV) (x4 : SV) (x5 : SV) (x8 : SV) (x10 : SV) (x12 : SV) : ER :=
  fun H => eLoadF Tryz.prog 5 x5 x10 H && (fun H => eLoadF Tryz.prog 5 x4 x8 H && (eIndexAddrS Tryz.prog 30 x2 (.int .i64 1) fun x13 => eStore Tryz.prog 5 x13 x12 <| eFieldAddr Tryz.prog 57 x1 3 fun x14 => eLoad Tryz.prog 52 x14 fun x15 => eConvS Tryz.prog 52 146 x15 fun x16 => eConvS Tryz.prog 146 53 x16 fun x17 => eCallR Tryz.prog C 71 [x2, (.int .i64 2), (.int .i64 2), x17] 4 fun x18 => eFieldAddr Tryz.prog 57 x1 4 fun x19 => eLoad Tryz.prog 21 x19 fun x20 => eConvS Tryz.prog 21 147 x20 fun x21 => eConvS Tryz.prog 147 53 x21 fun x22 => eCallR Tryz.prog C 71 [x2, (.int .i64 4), (.int .i64 4), x22] 4 fun x23 => K x2) H) H
noncomputable def inst_bytesOf_p1 (C : Cal) (K : SV → ER) (x1 : SV) : ER :=
  eMakeSliceS Tryz.prog 30 (.int .i64 8) (.int .i64 8) fun x2 => eFieldAddr Tryz.prog 57 x1 0 fun x3 => eFieldAddr Tryz.prog 57 x1 1 fun x4 => eFieldAddr Tryz.prog 57 x1 2 fun x5 => eLoad Tryz.prog 5 x3 fun x6 => eIndexAddrS Tryz.prog 30 x2 (.int .i64 0) fun x7 => eLoad Tryz.prog 5 x4 fun x8 => eBin Tryz.prog .and 5 false x8 (.int .u8 15) fun x9 => eLoad Tryz.prog 5 x5 fun x10 => eBin Tryz.prog .shl 5 false x10 (.int .u64 4) fun x11 => eBin Tryz.prog .or 5 false x9 x11 fun x12 => eStore Tryz.prog 5 x7 x6 <| inst_bytesOf_p0 C K x1 x2 x4 x5 x8 x10 x12
noncomputable def inst_bytesOf_e (C : Cal) (N : Nat) (a0 : SV) (K : SV → ER) : ER :=
  eBox Tryz.prog 57 a0 fun x1 => inst_bytesOf_p1 C K x1
theorem inst_bytesOf_ee (C : Cal) (N : Nat) (a0 : SV) (K : SV → ER) : eBody Tryz.prog C N Tryz.f33 (Tryz.f33.body.getD .skip) inst_bytesOf_ea [a0] K = inst_bytesOf_e C N a0 K := by kernel_rfl
noncomputable def l33 : LeafT := fun C N args K => match args with
  | [a0] => inst_bytesOf_e C N a0 K
  | _ => eF
theorem lok33 : LeafOk Tryz.prog 33 l33 := .inl ⟨Tryz.f33, Tryz.f33.body.getD .skip, inst_bytesOf_ea, Tryz.func33, by kernel_rfl, Tryz.call33, fun C N args K H e => by
  unfold l33 at e
  split at e
  · rw [inst_bytesOf_ee]; exact e
  · exact eF_no e⟩

end Go.Proofs.YtahmmlebelhamaaGreatDoor

set_option linter.unusedVariables false
set_option maxRecDepth 100000
namespace Go.Proofs.YtahmmlebelhamaaGreatDoor
open Go.Hl
/- halberd/halberdref01.Size -/
def ref01_Size_ea : Ann := .two (.none) (.join (.none) (.none) [(2, .any)])
noncomputable def ref01_Size_p0 (a0 : SV) (k1 : SV × Unit → ER) : ER :=
  eBin Tryz.prog .eql 3 false a0 (.int .i64 2) fun x4 => eIfV x4
  (eHas .any (.bool true) (k1 ((.bool true), ())))
  (eBin Tryz.prog .eql 3 false a0 (.int .i64 4) fun x5 => eIfV x5
  (eHas .any (.bool true) (k1 ((.bool true), ())))
  (eBin Tryz.prog .eql 3 false a0 (.int .i64 8) fun x6 => eHas .any x6 (k1 (x6, ()))))
noncomputable def ref01_Size_e (C : Cal) (N : Nat) (a0 : SV) (K : SV → ER) : ER :=
  eJoinC (σ := SV × Unit) (fun (k1 : SV × Unit → ER) =>
  eBin Tryz.prog .eql 3 false a0 (.int .i64 1) fun x3 => eIfV x3
  (eHas .any (.bool true) (k1 ((.bool true), ())))
  (ref01_Size_p0 a0 k1)) fun (s2 : SV × Unit) =>
  K s2.1
theorem ref01_Size_ee (C : Cal) (N : Nat) (a0 : SV) (K : SV → ER) : eBody Tryz.prog C N Tryz.f34 (Tryz.f34.body.getD .skip) ref01_Size_ea [a0] K = ref01_Size_e C N a0 K := by kernel_rfl
noncomputable def l34 : LeafT := fun C N args K => match args with
  | [a0] => ref01_Size_e C N a0 K
  | _ => eF
theorem lok34 : LeafOk Tryz.prog 34 l34 := .inl ⟨Tryz.f34, Tryz.f34.body.getD .skip, ref01_Size_ea, Tryz.func34, by kernel_rfl, Tryz.call34, fun C N args K H e => by
  unfold l34 at e
  split at e
  · rw [ref01_Size_ee]; exact e
  · exact eF_no e⟩

/- halberd/halberdref01.Power -/
def ref01_Power_ea : Ann := .two (.none) (.two (.none) (.two (.two (.none) (.sub (.loop [(3, .any), (4, .any)] (.two (.two (.none) (.two (.none) (.none))) (.two (.sub (.none)) (.none)))))) (.two (.none) (.none))))
noncomputable def ref01_Power_p0 (K : SV → ER) (a0 : SV) (k1 : SV × SV × Unit → ER) (s2 : SV × SV × Unit) : ER :=
  eBin Tryz.prog .lss 3 false s2.2.1 a0 fun x3 => eIfV x3
  (eBin Tryz.prog .mul 53 false s2.1 (.int .u64 2) fun x4 => eBin Tryz.prog .add 3 false s2.2.1 (.int .i64 1) fun x5 => eHas .any x4 (eHas .any x5 (k1 (x4, x5, ()))))
  (K s2.1)
noncomputable def ref01_Power_e (C : Cal) (N : Nat) (a0 : SV) (K : SV → ER) : ER :=
  eHas .any (.int .u64 1) (eHas .any (.int .i64 0) (eIter (σ := SV × SV × Unit) (fun (s2 : SV × SV × Unit) (k1 : SV × SV × Unit → ER) =>
  ref01_Power_p0 K a0 k1 s2) N ((.int .u64 1), (.int .i64 0), ())))
theorem ref01_Power_ee (C : Cal) (N : Nat) (a0 : SV) (K : SV → ER) : eBody Tryz.prog C N Tryz.f35 (Tryz.f35.body.getD .skip) ref01_Power_ea [a0] K = ref01_Power_e C N a0 K := by kernel_rfl
noncomputable def l35 : LeafT := fun C N args K => match args with
  | [a0] => ref01_Power_e C N a0 K
  | _ => eF
theorem lok35 : LeafOk Tryz.prog 35 l35 := .inl ⟨Tryz.f35, Tryz.f35.body.getD .skip, ref01_Power_ea, Tryz.func35, by kernel_rfl, Tryz.call35, fun C N args K H e => by
  unfold l35 at e
  split at e
  · rw [ref01_Power_ee]; exact e
  · exact eF_no e⟩

/- halberd/halberdref03.Conditional -/
def ref03_Conditional_ea : Ann := .two (.none) (.two (.none) (.join (.none) (.none) [(2, .any)]))
noncomputable def ref03_Conditional_p0 (k2 : SV × Unit → ER) (x1 : SV) : ER :=
  eBin Tryz.prog .leq 5 false x1 (.int .u8 7) fun x7 => eIfV x7
  (eHas .any (.bool true) (k2 ((.bool true), ())))
  (eBin Tryz.prog .geq 5 false x1 (.int .u8 10) fun x8 => eIfV x8
  (eBin Tryz.prog .leq 5 false x1 (.int .u8 13) fun x9 => eHas .any x9 (k2 (x9, ())))
  (eHas .any (.bool false) (k2 ((.bool false), ()))))
noncomputable def ref03_Conditional_p1 (k2 : SV × Unit → ER) (x1 : SV) : ER :=
  eBin Tryz.prog .geq 5 false x1 (.int .u8 10) fun x10 => eIfV x10
  (eBin Tryz.prog .leq 5 false x1 (.int .u8 13) fun x11 => eHas .any x11 (k2 (x11, ())))
  (eHas .any (.bool false) (k2 ((.bool false), ())))
noncomputable def ref03_Conditional_p2 (k2 : SV × Unit → ER) (x1 : SV) : ER :=
  eBin Tryz.prog .geq 5 false x1 (.int .u8 10) fun x16 => eIfV x16
  (eBin Tryz.prog .leq 5 false x1 (.int .u8 13) fun x17 => eHas .any x17 (k2 (x17, ())))
  (eHas .any (.bool false) (k2 ((.bool false), ())))
noncomputable def ref03_Conditional_p3 (k2 : SV × Unit → ER) (x1 : SV) : ER :=
  eBin Tryz.prog .geq 5 false x1 (.int .u8 10) fun x18 => eIfV x18
  (eBin Tryz.prog .leq 5 false x1 (.int .u8 13) fun x19 => eHas .any x19 (k2 (x19, ())))
  (eHas .any (.bool false) (k2 ((.bool false), ())))
noncomputable def ref03_Conditional_p4 (k2 : SV × Unit → ER) (x1 : SV) : ER :=
  eBin Tryz.prog .geq 5 false x1 (.int .u8 1) fun x14 => eIfV x14
  (eBin Tryz.prog .leq 5 false x1 (.int .u8 7) fun x15 => eIfV x15
  (eHas .any (.bool true) (k2 ((.bool true), ())))
  (ref03_Conditional_p2 k2 x1))
  (ref03_Conditional_p3 k2 x1)
noncomputable def ref03_Conditional_p5 (a0 : SV) (k2 : SV × Unit → ER) (x1 : SV) : ER :=
  eBin Tryz.prog .rem 5 false a0 (.int .u8 8) fun x4 => eBin Tryz.prog .eql 5 false x4 (.int .u8 5) fun x5 => eIfV x5
  (eBin Tryz.prog .geq 5 false x1 (.int .u8 1) fun x6 => eIfV x6
  (ref03_Conditional_p0 k2 x1)
  (ref03_Conditional_p1 k2 x1))
  (eBin Tryz.prog .rem 5 false a0 (.int .u8 8) fun x12 => eBin Tryz.prog .eql 5 false x12 (.int .u8 6) fun x13 => eIfV x13
  (ref03_Conditional_p4 k2 x1)
  (eHas .any (.bool false) (k2 ((.bool false), ()))))
noncomputable def ref03_Conditional_e (C : Cal) (N : Nat) (a0 : SV) (K : SV → ER) : ER :=
  eBin Tryz.prog .quo 5 false a0 (.int .u8 16) fun x1 => eJoinC (σ := SV × Unit) (fun (k2 : SV × Unit → ER) =>
  ref03_Conditional_p5 a0 k2 x1) fun (s3 : SV × Unit) =>
  K s3.1
theorem ref03_Conditional_ee (C : Cal) (N : Nat) (a0 : SV) (K : SV → ER) : eBody Tryz.prog C N Tryz.f36 (Tryz.f36.body.getD .skip) ref03_Conditional_ea [a0] K = ref03_Conditional_e C N a0 K := by kernel_rfl
noncomputable def l36 : LeafT := fun C N args K => match args with
  | [a0] => ref03_Conditional_e C N a0 K
  | _ => eF
theorem lok36 : LeafOk Tryz.prog 36 l36 := .inl ⟨Tryz.f36, Tryz.f36.body.getD .skip, ref03_Conditional_ea, Tryz.func36, by kernel_rfl, Tryz.call36, fun C N args K H e => by
  unfold l36 at e
  split at e
  · rw [ref03_Conditional_ee]; exact e
  · exact eF_no e⟩

/- halberd/halberdref03.Size -/
def ref03_Size_ea : Ann := .two (.none) (.two (.two (.none) (.sub (.join (.two (.none) (.two (.none) (.two (.none) (.two (.none) (.none))))) (.two (.two (.none) (.none)) (.join (.two (.none) (.two (.none) (.two (.none) (.two (.none) (.none))))) (.two (.two (.none) (.none)) (.join (.two (.none) (.two (.none) (.two (.none) (.two (.none) (.none))))) (.two (.two (.none) (.none)) (.join (.two (.none) (.two (.none) (.two (.none) (.two (.none) (.none))))) (.two (.two (.none) (.none)) (.none)) [(16, .any)])) [(12, .any)])) [(8, .any)])) [(4, .any)]))) (.two (.none) (.none)))
noncomputable def ref03_Size_p0 (a0 : SV) (k16 : SV × Unit → ER) : ER :=
  eBin Tryz.prog .eql 5 false a0 (.int .u8 121) fun x18 => eIfV x18
  (eHas .any x18 (k16 (x18, ())))
  (eBin Tryz.prog .eql 5 false a0 (.int .u8 122) fun x19 => eIfV x19
  (eHas .any x19 (k16 (x19, ())))
  (eBin Tryz.prog .eql 5 false a0 (.int .u8 123) fun x20 => eHas .any x20 (k16 (x20, ()))))
noncomputable def ref03_Size_p1 (a0 : SV) (k11 : SV × Unit → ER) : ER :=
  eBin Tryz.prog .eql 5 false a0 (.int .u8 113) fun x13 => eIfV x13
  (eHas .any x13 (k11 (x13, ())))
  (eBin Tryz.prog .eql 5 false a0 (.int .u8 114) fun x14 => eIfV x14
  (eHas .any x14 (k11 (x14, ())))
  (eBin Tryz.prog .eql 5 false a0 (.int .u8 115) fun x15 => eHas .any x15 (k11 (x15, ()))))
noncomputable def ref03_Size_p2 (K : SV → ER) (a0 : SV) : ER :=
  eJoinC (σ := SV × Unit) (fun (k11 : SV × Unit → ER) =>
  ref03_Size_p1 a0 k11) fun (s12 : SV × Unit) =>
  eIfV s12.1
  (K (.int .i64 1))
  (eJoinC (σ := SV × Unit) (fun (k16 : SV × Unit → ER) =>
  ref03_Size_p0 a0 k16) fun (s17 : SV × Unit) =>
  eIfV s17.1
  (K (.int .i64 8))
  (K (.int .i64 0)))
noncomputable def ref03_Size_p3 (a0 : SV) (k6 : SV × Unit → ER) : ER :=
  eBin Tryz.prog .eql 5 false a0 (.int .u8 105) fun x8 => eIfV x8
  (eHas .any x8 (k6 (x8, ())))
  (eBin Tryz.prog .eql 5 false a0 (.int .u8 106) fun x9 => eIfV x9
  (eHas .any x9 (k6 (x9, ())))
  (eBin Tryz.prog .eql 5 false a0 (.int .u8 107) fun x10 => eHas .any x10 (k6 (x10, ()))))
noncomputable def ref03_Size_p4 (a0 : SV) (k1 : SV × Unit → ER) : ER :=
  eBin Tryz.prog .eql 5 false a0 (.int .u8 97) fun x3 => eIfV x3
  (eHas .any x3 (k1 (x3, ())))
  (eBin Tryz.prog .eql 5 false a0 (.int .u8 98) fun x4 => eIfV x4
  (eHas .any x4 (k1 (x4, ())))
  (eBin Tryz.prog .eql 5 false a0 (.int .u8 99) fun x5 => eHas .any x5 (k1 (x5, ()))))
noncomputable def ref03_Size_e (C : Cal) (N : Nat) (a0 : SV) (K : SV → ER) : ER :=
  eJoinC (σ := SV × Unit) (fun (k1 : SV × Unit → ER) =>
  ref03_Size_p4 a0 k1) fun (s2 : SV × Unit) =>
  eIfV s2.1
  (K (.int .i64 4))
  (eJoinC (σ := SV × Unit) (fun (k6 : SV × Unit → ER) =>
  ref03_Size_p3 a0 k6) fun (s7 : SV × Unit) =>
  eIfV s7.1
  (K (.int .i64 2))
  (ref03_Size_p2 K a0))
theorem ref03_Size_ee (C : Cal) (N : Nat) (a0 : SV) (K : SV → ER) : eBody Tryz.prog C N Tryz.f37 (Tryz.f37.body.getD .skip) ref03_Size_ea [a0] K = ref03_Size_e C N a0 K := by kernel_rfl
noncomputable def l37 : LeafT := fun C N args K => match args with
  | [a0] => ref03_Size_e C N a0 K
  | _ => eF
theorem lok37 : LeafOk Tryz.prog 37 l37 := .inl ⟨Tryz.f37, Tryz.f37.body.getD .skip, ref03_Size_ea, Tryz.func37, by kernel_rfl, Tryz.call37, fun C N args K H e => by
  unfold l37 at e
  split at e
  · rw [ref03_Size_ee]; exact e
  · exact eF_no e⟩

/- halberd/halberdref02.Wide -/
def ref02_Wide_ea : Ann := .two (.none) (.two (.ord [0, 5, 1, 2, 3, 6, 7, 8, 4, 9, 10, 11, 12]) (.none))
noncomputable def ref02_Wide_p0 (C : Cal) (K : SV → ER) (x2 : SV) (x3 : SV) : ER :=
  eFieldAddr Tryz.prog 57 x2 4 fun x4 => eLoad Tryz.prog 21 x3 fun x5 => eConvS Tryz.prog 21 2 x5 fun x6 => eConvS Tryz.prog 2 53 x6 fun x7 => eLoad Tryz.prog 21 x4 fun x8 => eConvS Tryz.prog 21 2 x8 fun x9 => eConvS Tryz.prog 2 53 x9 fun x10 => eCallR Tryz.prog C 72 [x7, (.int .i64 4)] 53 fun x11 => fun H => eLoadF Tryz.prog 21 x4 x8 H && (eCallR Tryz.prog C 72 [x10, (.int .i64 4)] 53 fun x12 => eBin Tryz.prog .mul 53 false (.int .u64 4294967296) x12 fun x13 => eBin Tryz.prog .add 53 false x11 x13 fun x14 => K x14) H
noncomputable def ref02_Wide_e (C : Cal) (N : Nat) (a0 a1 : SV) (K : SV → ER) : ER :=
  eBox Tryz.prog 57 a0 fun x1 => eBox Tryz.prog 57 a1 fun x2 => eFieldAddr Tryz.prog 57 x1 4 fun x3 => ref02_Wide_p0 C K x2 x3
theorem ref02_Wide_ee (C : Cal) (N : Nat) (a0 a1 : SV) (K : SV → ER) : eBody Tryz.prog C N Tryz.f39 (Tryz.f39.body.getD .skip) ref02_Wide_ea [a0, a1] K = ref02_Wide_e C N a0 a1 K := by kernel_rfl
noncomputable def l39 : LeafT := fun C N args K => match args with
  | [a0, a1] => ref02_Wide_e C N a0 a1 K
  | _ => eF
theorem lok39 : LeafOk Tryz.prog 39 l39 := .inl ⟨Tryz.f39, Tryz.f39.body.getD .skip, ref02_Wide_ea, Tryz.func39, by kernel_rfl, Tryz.call39, fun C N args K H e => by
  unfold l39 at e
  split at e
  · rw [ref02_Wide_ee]; exact e
  · exact eF_no e⟩

/- halberd/halberdref05.reg -/
def ref05_reg_ea : Ann := .two (.none) (.two (.none) (.none))
noncomputable def ref05_reg_e (C : Cal) (N : Nat) (a0 : SV) (K : SV → ER) : ER :=
  eConvS Tryz.prog 5 2 a0 fun x1 => eCallR Tryz.prog C 38 [x1] 9 fun x2 => eBin Tryz.prog .add 9 false (.str [114]) x2 fun x3 => K x3
theorem ref05_reg_ee (C : Cal) (N : Nat) (a0 : SV) (K : SV → ER) : eBody Tryz.prog C N Tryz.f40 (Tryz.f40.body.getD .skip) ref05_reg_ea [a0] K = ref05_reg_e C N a0 K := by kernel_rfl
noncomputable def l40 : LeafT := fun C N args K => match args with
  | [a0] => ref05_reg_e C N a0 K
  | _ => eF
theorem lok40 : LeafOk Tryz.prog 40 l40 := .inl ⟨Tryz.f40, Tryz.f40.body.getD .skip, ref05_reg_ea, Tryz.func40, by kernel_rfl, Tryz.call40, fun C N args K H e => by
  unfold l40 at e
  split at e
  · rw [ref05_reg_ee]; exact e
  · exact eF_no e⟩

/- halberd/halberdref05.operand -/
def ref05_operand_ea : Ann := .two (.none) (.two (.two (.none) (.two (.two (.none) (.none)) (.none))) (.two (.none) (.none)))
noncomputable def ref05_operand_p0 (C : Cal) (K : SV → ER) (x1 : SV) : ER :=
  eFieldAddr Tryz.prog 57 x1 0 fun x2 => eLoad Tryz.prog 5 x2 fun x3 => eBin Tryz.prog .quo 5 false x3 (.int .u8 8) fun x4 => eBin Tryz.prog .rem 5 false x4 (.int .u8 2) fun x5 => eBin Tryz.prog .eql 5 false x5 (.int .u8 1) fun x6 => eIfV x6
  (eFieldAddr Tryz.prog 57 x1 2 fun x7 => eLoad Tryz.prog 5 x7 fun x8 => eCallR Tryz.prog C 40 [x8] 9 fun x9 => K x9)
  (eFieldAddr Tryz.prog 57 x1 4 fun x10 => eLoad Tryz.prog 21 x10 fun x11 => eConvS Tryz.prog 21 2 x11 fun x12 => eCallR Tryz.prog C 38 [x12] 9 fun x13 => K x13)
noncomputable def ref05_operand_e (C : Cal) (N : Nat) (a0 : SV) (K : SV → ER) : ER :=
  eBox Tryz.prog 57 a0 fun x1 => ref05_operand_p0 C K x1
theorem ref05_operand_ee (C : Cal) (N : Nat) (a0 : SV) (K : SV → ER) : eBody Tryz.prog C N Tryz.f41 (Tryz.f41.body.getD .skip) ref05_operand_ea [a0] K = ref05_operand_e C N a0 K := by kernel_rfl
noncomputable def l41 : LeafT := fun C N args K => match args with
  | [a0] => ref05_operand_e C N a0 K
  | _ => eF
theorem lok41 : LeafOk Tryz.prog 41 l41 := .inl ⟨Tryz.f41, Tryz.f41.body.getD .skip, ref05_operand_ea, Tryz.func41, by kernel_rfl, Tryz.call41, fun C N args K H e => by
  unfold l41 at e
  split at e
  · rw [ref05_operand_ee]; exact e
  · exact eF_no e⟩

/- halberd/halberdref05.place -/
def ref05_place_ea : Ann := .two (.none) (.two (.two (.none) (.two (.two (.none) (.none)) (.none))) (.two (.none) (.none)))
noncomputable def ref05_place_p0 (C : Cal) (K : SV → ER) (a0 : SV) (a1 : SV) : ER :=
  eCallR Tryz.prog C 40 [a0] 9 fun x2 => eBin Tryz.prog .add 9 false (.str [91]) x2 fun x3 => eConvS Tryz.prog 52 2 a1 fun x4 => eCallR Tryz.prog C 38 [x4] 9 fun x5 => eBin Tryz.prog .add 9 false x3 x5 fun x6 => eBin Tryz.prog .add 9 false x6 (.str [93]) fun x7 => K x7
noncomputable def ref05_place_p1 (C : Cal) (K : SV → ER) (a0 : SV) (a1 : SV) : ER :=
  eCallR Tryz.prog C 40 [a0] 9 fun x8 => eBin Tryz.prog .add 9 false (.str [91]) x8 fun x9 => eBin Tryz.prog .add 9 false x9 (.str [43]) fun x10 => eConvS Tryz.prog 52 2 a1 fun x11 => eCallR Tryz.prog C 38 [x11] 9 fun x12 => eBin Tryz.prog .add 9 false x10 x12 fun x13 => eBin Tryz.prog .add 9 false x13 (.str [93]) fun x14 => K x14
noncomputable def ref05_place_e (C : Cal) (N : Nat) (a0 a1 : SV) (K : SV → ER) : ER :=
  eBin Tryz.prog .lss 52 false a1 (.int .i16 0) fun x1 => eIfV x1
  (ref05_place_p0 C K a0 a1)
  (ref05_place_p1 C K a0 a1)
theorem ref05_place_ee (C : Cal) (N : Nat) (a0 a1 : SV) (K : SV → ER) : eBody Tryz.prog C N Tryz.f42 (Tryz.f42.body.getD .skip) ref05_place_ea [a0, a1] K = ref05_place_e C N a0 a1 K := by kernel_rfl
noncomputable def l42 : LeafT := fun C N args K => match args with
  | [a0, a1] => ref05_place_e C N a0 a1 K
  | _ => eF
theorem lok42 : LeafOk Tryz.prog 42 l42 := .inl ⟨Tryz.f42, Tryz.f42.body.getD .skip, ref05_place_ea, Tryz.func42, by kernel_rfl, Tryz.call42, fun C N args K H e => by
  unfold l42 at e
  split at e
  · rw [ref05_place_ee]; exact e
  · exact eF_no e⟩

end Go.Proofs.YtahmmlebelhamaaGreatDoor

set_option linter.unusedVariables false
set_option maxRecDepth 100000
namespace Go.Proofs.YtahmmlebelhamaaGreatDoor
open Go.Hl
/- strings.genSplit -/
def strings_genSplit_ea : Ann := .two (.none) (.two (.two (.none) (.two (.two (.none) (.none)) (.none))) (.two (.two (.none) (.two (.two (.none) (.none)) (.none))) (.join (.two (.none) (.two (.none) (.none))) (.two (.none) (.two (.none) (.two (.none) (.two (.none) (.join (.sub (.loop [(0, .any), (10, .any)] (.two (.two (.none) (.two (.none) (.none))) (.sub (.two (.none) (.two (.two (.none) (.two (.none) (.none))) (.two (.none) (.two (.none) (.none))))))))) (.two (.none) (.two (.none) (.none))) [(0, .any), (10, .any)]))))) [(3, .any)])))
noncomputable def strings_genSplit_p0 (a1 : SV) (a2 : SV) (k16 : SV × SV × Unit → ER) (s17 : SV × SV × Unit) (x12 : SV) (x19 : SV) : ER :=
  eBin Tryz.prog .add 3 false x19 a2 fun x21 => eSliceS Tryz.prog 9 s17.1 none (some (.v x21)) none fun x22 => eIndexAddrS Tryz.prog 64 x12 s17.2.1 fun x23 => eStore Tryz.prog 9 x23 x22 <| eLenS Tryz.prog [9] [a1] fun x24 => eBin Tryz.prog .add 3 false x19 x24 fun x25 => eSliceS Tryz.prog 9 s17.1 (some (.v x25)) none none fun x26 => eBin Tryz.prog .add 3 false s17.2.1 (.int .i64 1) fun x27 => eHas .any x26 (eHas .any x27 (k16 (x26, x27, ())))
noncomputable def strings_genSplit_p1 (C : Cal) (a1 : SV) (a2 : SV) (k14 : SV × SV × Unit → ER) (k16 : SV × SV × Unit → ER) (s17 : SV × SV × Unit) (x12 : SV) : ER :=
  eCallR Tryz.prog C 96 [s17.1, a1] 3 fun x19 => eBin Tryz.prog .lss 3 false x19 (.int .i64 0) fun x20 => eIfV x20
  (eHas .any s17.1 (eHas .any s17.2.1 (k14 (s17.1, s17.2.1, ()))))
  (strings_genSplit_p0 a1 a2 k16 s17 x12 x19)
noncomputable def strings_genSplit_p2 (C : Cal) (N : Nat) (a0 : SV) (a1 : SV) (a2 : SV) (k14 : SV × SV × Unit → ER) (x12 : SV) (x13 : SV) : ER :=
  eHas .any a0 (eHas .any (.int .i64 0) (eIter (σ := SV × SV × Unit) (fun (s17 : SV × SV × Unit) (k16 : SV × SV × Unit → ER) =>
  eBin Tryz.prog .lss 3 false s17.2.1 x13 fun x18 => eIfV x18
  (strings_genSplit_p1 C a1 a2 k14 k16 s17 x12)
  (eHas .any s17.1 (eHas .any s17.2.1 (k14 (s17.1, s17.2.1, ()))))) N (a0, (.int .i64 0), ())))
noncomputable def strings_genSplit_p3 (K : SV → ER) (s15 : SV × SV × Unit) (x12 : SV) : ER :=
  eIndexAddrS Tryz.prog 64 x12 s15.2.1 fun x28 => eStore Tryz.prog 9 x28 s15.1 <| eBin Tryz.prog .add 3 false s15.2.1 (.int .i64 1) fun x29 => eSliceS Tryz.prog 64 x12 none (some (.v x29)) none fun x30 => K x30
noncomputable def strings_genSplit_p4 (C : Cal) (a0 : SV) (a1 : SV) (a3 : SV) (k4 : SV × Unit → ER) : ER :=
  eBin Tryz.prog .lss 3 false a3 (.int .i64 0) fun x6 => eIfV x6
  (eCallR Tryz.prog C 95 [a0, a1] 3 fun x7 => eBin Tryz.prog .add 3 false x7 (.int .i64 1) fun x8 => eHas .any x8 (k4 (x8, ())))
  (eHas .any a3 (k4 (a3, ())))
noncomputable def strings_genSplit_p5 (C : Cal) (K : SV → ER) (N : Nat) (a0 : SV) (a1 : SV) (a2 : SV) (s5 : SV × Unit) : ER :=
  eLenS Tryz.prog [9] [a0] fun x9 => eBin Tryz.prog .add 3 false x9 (.int .i64 1) fun x10 => eMinMaxS false [s5.1, x10] fun x11 => eMakeSliceS Tryz.prog 64 x11 x11 fun x12 => eBin Tryz.prog .sub 3 false x11 (.int .i64 1) fun x13 => eJoinC (σ := SV × SV × Unit) (fun (k14 : SV × SV × Unit → ER) =>
  strings_genSplit_p2 C N a0 a1 a2 k14 x12 x13) fun (s15 : SV × SV × Unit) =>
  strings_genSplit_p3 K s15 x12
noncomputable def strings_genSplit_p6 (C : Cal) (K : SV → ER) (N : Nat) (a0 : SV) (a1 : SV) (a2 : SV) (a3 : SV) : ER :=
  eBin Tryz.prog .eql 9 false a1 (.str []) fun x2 => eIfV x2
  (eCallR Tryz.prog C 94 [a0, a3] 64 fun x3 => K x3)
  (eJoinC (σ := SV × Unit) (fun (k4 : SV × Unit → ER) =>
  strings_genSplit_p4 C a0 a1 a3 k4) fun (s5 : SV × Unit) =>
  strings_genSplit_p5 C K N a0 a1 a2 s5)
noncomputable def strings_genSplit_e (C : Cal) (N : Nat) (a0 a1 a2 a3 : SV) (K : SV → ER) : ER :=
  eBin Tryz.prog .eql 3 false a3 (.int .i64 0) fun x1 => eIfV x1
  (K (.sl ⟨none, 0, .lit 0⟩))
  (strings_genSplit_p6 C K N a0 a1 a2 a3)
theorem strings_genSplit_ee (C : Cal) (N : Nat) (a0 a1 a2 a3 : SV) (K : SV → ER) : eBody Tryz.prog C N Tryz.f57 (Tryz.f57.body.getD .skip) strings_genSplit_ea [a0, a1, a2, a3] K = strings_genSplit_e C N a0 a1 a2 a3 K := by kernel_rfl
noncomputable def l57 : LeafT := fun C N args K => match args with
  | [a0, a1, a2, a3] => strings_genSplit_e C N a0 a1 a2 a3 K
  | _ => eF
theorem lok57 : LeafOk Tryz.prog 57 l57 := .inl ⟨Tryz.f57, Tryz.f57.body.getD .skip, strings_genSplit_ea, Tryz.func57, by kernel_rfl, Tryz.call57, fun C N args K H e => by
  unfold l57 at e
  split at e
  · rw [strings_genSplit_ee]; exact e
  · exact eF_no e⟩

/- internal/stringslite.TrimSuffix -/
def internal_stringslite_TrimSuffix_ea : Ann := .two (.none) (.two (.two (.none) (.two (.two (.none) (.none)) (.none))) (.two (.none) (.none)))
noncomputable def internal_stringslite_TrimSuffix_e (C : Cal) (N : Nat) (a0 a1 : SV) (K : SV → ER) : ER :=
  eCallR Tryz.prog C 97 [a0, a1] 4 fun x1 => eIfV x1
  (eLenS Tryz.prog [9] [a0] fun x2 => eLenS Tryz.prog [9] [a1] fun x3 => eBin Tryz.prog .sub 3 false x2 x3 fun x4 => eSliceS Tryz.prog 9 a0 none (some (.v x4)) none fun x5 => K x5)
  (K a0)
theorem internal_stringslite_TrimSuffix_ee (C : Cal) (N : Nat) (a0 a1 : SV) (K : SV → ER) : eBody Tryz.prog C N Tryz.f58 (Tryz.f58.body.getD .skip) internal_stringslite_TrimSuffix_ea [a0, a1] K = internal_stringslite_TrimSuffix_e C N a0 a1 K := by kernel_rfl
noncomputable def l58 : LeafT := fun C N args K => match args with
  | [a0, a1] => internal_stringslite_TrimSuffix_e C N a0 a1 K
  | _ => eF
theorem lok58 : LeafOk Tryz.prog 58 l58 := .inl ⟨Tryz.f58, Tryz.f58.body.getD .skip, internal_stringslite_TrimSuffix_ea, Tryz.func58, by kernel_rfl, Tryz.call58, fun C N args K H e => by
  unfold l58 at e
  split at e
  · rw [internal_stringslite_TrimSuffix_ee]; exact e
  · exact eF_no e⟩

/- strings.Cut -/
def strings_Cut_ea : Ann := .two (.none) (.two (.none) (.none))
noncomputable def strings_Cut_e (C : Cal) (N : Nat) (a0 a1 : SV) (K : SV → ER) : ER :=
  eCallR Tryz.prog C 98 [a0, a1] 131 fun x1 => eExtract x1 0 fun x2 => eExtract x1 1 fun x3 => eExtract x1 2 fun x4 => K (.tup [x2, x3, x4])
theorem strings_Cut_ee (C : Cal) (N : Nat) (a0 a1 : SV) (K : SV → ER) : eBody Tryz.prog C N Tryz.f59 (Tryz.f59.body.getD .skip) strings_Cut_ea [a0, a1] K = strings_Cut_e C N a0 a1 K := by kernel_rfl
noncomputable def l59 : LeafT := fun C N args K => match args with
  | [a0, a1] => strings_Cut_e C N a0 a1 K
  | _ => eF
theorem lok59 : LeafOk Tryz.prog 59 l59 := .inl ⟨Tryz.f59, Tryz.f59.body.getD .skip, strings_Cut_ea, Tryz.func59, by kernel_rfl, Tryz.call59, fun C N args K H e => by
  unfold l59 at e
  split at e
  · rw [strings_Cut_ee]; exact e
  · exact eF_no e⟩

/- halberd/asm.offOf -/
def asm_offOf_ea : Ann := .two (.none) (.two (.none) (.two (.none) (.two (.none) (.none))))
noncomputable def asm_offOf_e (C : Cal) (N : Nat) (a0 : SV) (K : SV → ER) : ER :=
  eCallR Tryz.prog C 99 [a0, (.str [43])] 38 fun x1 => eExtract x1 0 fun x2 => eExtract x1 1 fun x3 => eCallR Tryz.prog C 29 [x3] 0 fun x4 => eCallR Tryz.prog C 61 [x2, (.int .i64 0), (.int .i64 32767)] 2 fun x5 => eConvS Tryz.prog 2 52 x5 fun x6 => K x6
theorem asm_offOf_ee (C : Cal) (N : Nat) (a0 : SV) (K : SV → ER) : eBody Tryz.prog C N Tryz.f60 (Tryz.f60.body.getD .skip) asm_offOf_ea [a0] K = asm_offOf_e C N a0 K := by kernel_rfl
noncomputable def l60 : LeafT := fun C N args K => match args with
  | [a0] => asm_offOf_e C N a0 K
  | _ => eF
theorem lok60 : LeafOk Tryz.prog 60 l60 := .inl ⟨Tryz.f60, Tryz.f60.body.getD .skip, asm_offOf_ea, Tryz.func60, by kernel_rfl, Tryz.call60, fun C N args K H e => by
  unfold l60 at e
  split at e
  · rw [asm_offOf_ee]; exact e
  · exact eF_no e⟩

/- halberd/asm.intOf -/
def asm_intOf_ea : Ann := .two (.none) (.two (.none) (.join (.none) (.two (.none) (.none)) []))
noncomputable def asm_intOf_p0 (C : Cal) (a1 : SV) (a2 : SV) (k4 : Unit → ER) (x2 : SV) : ER :=
  eBin Tryz.prog .geq 2 false x2 a1 fun x9 => eIfV x9
  (eBin Tryz.prog .leq 2 false x2 a2 fun x10 => eCallR Tryz.prog C 29 [x10] 0 fun x11 => k4 (()))
  (eCallR Tryz.prog C 29 [(.bool false)] 0 fun x12 => k4 (()))
noncomputable def asm_intOf_p1 (C : Cal) (a0 : SV) (a1 : SV) (a2 : SV) (k4 : Unit → ER) (x2 : SV) (x3 : SV) : ER :=
  eBin Tryz.prog .eql 126 true x3 .nifc fun x6 => eIfV x6
  (eCallR Tryz.prog C 101 [x2] 9 fun x7 => eBin Tryz.prog .eql 9 false x7 a0 fun x8 => eIfV x8
  (asm_intOf_p0 C a1 a2 k4 x2)
  (eCallR Tryz.prog C 29 [(.bool false)] 0 fun x13 => k4 (())))
  (eCallR Tryz.prog C 29 [(.bool false)] 0 fun x14 => k4 (()))
noncomputable def asm_intOf_e (C : Cal) (N : Nat) (a0 a1 a2 : SV) (K : SV → ER) : ER :=
  eCallR Tryz.prog C 100 [a0, (.int .i64 10), (.int .i64 64)] 175 fun x1 => eExtract x1 0 fun x2 => eExtract x1 1 fun x3 => eJoinC (σ := Unit) (fun (k4 : Unit → ER) =>
  asm_intOf_p1 C a0 a1 a2 k4 x2 x3) fun (s5 : Unit) =>
  K x2
theorem asm_intOf_ee (C : Cal) (N : Nat) (a0 a1 a2 : SV) (K : SV → ER) : eBody Tryz.prog C N Tryz.f61 (Tryz.f61.body.getD .skip) asm_intOf_ea [a0, a1, a2] K = asm_intOf_e C N a0 a1 a2 K := by kernel_rfl
noncomputable def l61 : LeafT := fun C N args K => match args with
  | [a0, a1, a2] => asm_intOf_e C N a0 a1 a2 K
  | _ => eF
theorem lok61 : LeafOk Tryz.prog 61 l61 := .inl ⟨Tryz.f61, Tryz.f61.body.getD .skip, asm_intOf_ea, Tryz.func61, by kernel_rfl, Tryz.call61, fun C N args K H e => by
  unfold l61 at e
  split at e
  · rw [asm_intOf_ee]; exact e
  · exact eF_no e⟩

/- halberd/asm.wide -/
def asm_wide_ea : Ann := .two (.none) (.two (.none) (.two (.none) (.two (.none) (.two (.none) (.two (.none) (.none))))))
noncomputable def asm_wide_p0 (C : Cal) (K : SV → ER) (a0 : SV) (x6 : SV) (x7 : SV) : ER :=
  eLoad Tryz.prog 9 x7 fun x8 => eCallR Tryz.prog C 103 [x8] 5 fun x9 => eConvS Tryz.prog 2 53 x6 fun x10 => eCallR Tryz.prog C 102 [(.int .u8 24), x9, a0, x10] 177 fun x11 => eAlloc Tryz.prog 177 fun x12 => eStore Tryz.prog 177 x12 x11 <| eIndexAddrS Tryz.prog 177 x12 (.int .i64 0) fun x13 => eFieldAddr Tryz.prog 57 x13 1 fun x14 => eLoad Tryz.prog 5 x14 fun x15 => eBin Tryz.prog .lss 5 false x15 (.int .u8 10) fun x16 => eCallR Tryz.prog C 29 [x16] 0 fun x17 => eSliceS Tryz.prog 177 x12 none none none fun x18 => K x18
noncomputable def asm_wide_e (C : Cal) (N : Nat) (a0 a1 a2 : SV) (K : SV → ER) : ER :=
  eLenS Tryz.prog [64] [a2] fun x1 => eBin Tryz.prog .eql 3 false x1 (.int .i64 2) fun x2 => eCallR Tryz.prog C 29 [x2] 0 fun x3 => eIndexAddrS Tryz.prog 64 a2 (.int .i64 1) fun x4 => eLoad Tryz.prog 9 x4 fun x5 => eCallR Tryz.prog C 61 [x5, a1, (.int .i64 9223372036854775807)] 2 fun x6 => eIndexAddrS Tryz.prog 64 a2 (.int .i64 0) fun x7 => asm_wide_p0 C K a0 x6 x7
theorem asm_wide_ee (C : Cal) (N : Nat) (a0 a1 a2 : SV) (K : SV → ER) : eBody Tryz.prog C N Tryz.f62 (Tryz.f62.body.getD .skip) asm_wide_ea [a0, a1, a2] K = asm_wide_e C N a0 a1 a2 K := by kernel_rfl
noncomputable def l62 : LeafT := fun C N args K => match args with
  | [a0, a1, a2] => asm_wide_e C N a0 a1 a2 K
  | _ => eF
theorem lok62 : LeafOk Tryz.prog 62 l62 := .inl ⟨Tryz.f62, Tryz.f62.body.getD .skip, asm_wide_ea, Tryz.func62, by kernel_rfl, Tryz.call62, fun C N args K H e => by
  unfold l62 at e
  split at e
  · rw [asm_wide_ee]; exact e
  · exact eF_no e⟩

/- halberd/asm.operations -/
def asm_operations_ea : Ann := .two (.none) (.two (.none) (.none))
noncomputable def asm_operations_p0 (K : SV → ER) (b1 : Nat) : ER :=
  ePutS Tryz.prog 138 (.map (some b1)) (.int .u8 112) (.str [114, 115, 104]) fun x9 => ePutS Tryz.prog 138 (.map (some b1)) (.int .u8 128) (.str [110, 101, 103]) fun x10 => ePutS Tryz.prog 138 (.map (some b1)) (.int .u8 144) (.str [109, 111, 100]) fun x11 => ePutS Tryz.prog 138 (.map (some b1)) (.int .u8 160) (.str [120, 111, 114]) fun x12 => ePutS Tryz.prog 138 (.map (some b1)) (.int .u8 176) (.str [109, 111, 118]) fun x13 => ePutS Tryz.prog 138 (.map (some b1)) (.int .u8 192) (.str [97, 114, 115, 104]) fun x14 => K (.map (some b1))
noncomputable def asm_operations_p1 (K : SV → ER) (b1 : Nat) : ER :=
  ePutS Tryz.prog 138 (.map (some b1)) (.int .u8 16) (.str [115, 117, 98]) fun x3 => ePutS Tryz.prog 138 (.map (some b1)) (.int .u8 32) (.str [109, 117, 108]) fun x4 => ePutS Tryz.prog 138 (.map (some b1)) (.int .u8 48) (.str [100, 105, 118]) fun x5 => ePutS Tryz.prog 138 (.map (some b1)) (.int .u8 64) (.str [111, 114]) fun x6 => ePutS Tryz.prog 138 (.map (some b1)) (.int .u8 80) (.str [97, 110, 100]) fun x7 => ePutS Tryz.prog 138 (.map (some b1)) (.int .u8 96) (.str [108, 115, 104]) fun x8 => asm_operations_p0 K b1
noncomputable def asm_operations_e (C : Cal) (N : Nat) (K : SV → ER) : ER :=
  eNewB (.map []) fun b1 => ePutS Tryz.prog 138 (.map (some b1)) (.int .u8 0) (.str [97, 100, 100]) fun x2 => asm_operations_p1 K b1
theorem asm_operations_ee (C : Cal) (N : Nat) (K : SV → ER) : eBody Tryz.prog C N Tryz.f64 (Tryz.f64.body.getD .skip) asm_operations_ea [] K = asm_operations_e C N  K := by kernel_rfl
noncomputable def l64 : LeafT := fun C N args K => match args with
  | [] => asm_operations_e C N  K
  | _ => eF
theorem lok64 : LeafOk Tryz.prog 64 l64 := .inl ⟨Tryz.f64, Tryz.f64.body.getD .skip, asm_operations_ea, Tryz.func64, by kernel_rfl, Tryz.call64, fun C N args K H e => by
  unfold l64 at e
  split at e
  · rw [asm_operations_ee]; exact e
  · exact eF_no e⟩

/- halberd/asm.numberOf -/
def asm_numberOf_ea : Ann := .two (.none) (.two (.none) (.join (.two (.none) (.two (.none) (.none))) (.join (.two (.none) (.two (.none) (.two (.none) (.none)))) (.two (.none) (.two (.none) (.two (.none) (.none)))) []) []))
noncomputable def asm_numberOf_p0 (C : Cal) (a2 : SV) (k9 : Unit → ER) (x4 : SV) : ER :=
  eLenS Tryz.prog [64] [a2] fun x15 => eBin Tryz.prog .eql 3 false x15 (.int .i64 2) fun x16 => eCallR Tryz.prog C 29 [x16] 0 fun x17 => eIndexAddrS Tryz.prog 64 a2 (.int .i64 1) fun x18 => eLoad Tryz.prog 9 x18 fun x19 => eCallR Tryz.prog C 104 [x4, x19] 0 fun x20 => k9 (())
noncomputable def asm_numberOf_p1 (C : Cal) (a0 : SV) (a2 : SV) (k9 : Unit → ER) (x4 : SV) : ER :=
  eBin Tryz.prog .eql 5 false a0 (.int .u8 128) fun x11 => eIfV x11
  (eLenS Tryz.prog [64] [a2] fun x12 => eBin Tryz.prog .eql 3 false x12 (.int .i64 1) fun x13 => eCallR Tryz.prog C 29 [x13] 0 fun x14 => k9 (()))
  (asm_numberOf_p0 C a2 k9 x4)
noncomputable def asm_numberOf_p2 (C : Cal) (K : SV → ER) (a2 : SV) (x1 : SV) (x4 : SV) : ER :=
  eIndexAddrS Tryz.prog 64 a2 (.int .i64 0) fun x21 => eLoad Tryz.prog 9 x21 fun x22 => eCallR Tryz.prog C 103 [x22] 5 fun x23 => eFieldAddr Tryz.prog 57 x4 1 fun x24 => eStore Tryz.prog 5 x24 x23 <| eFieldAddr Tryz.prog 57 x4 1 fun x25 => eLoad Tryz.prog 5 x25 fun x26 => eBin Tryz.prog .lss 5 false x26 (.int .u8 10) fun x27 => eCallR Tryz.prog C 29 [x27] 0 fun x28 => eLoad Tryz.prog 57 x4 fun x29 => eStore Tryz.prog 57 x1 x29 <| eLoad Tryz.prog 57 x1 fun x30 => K x30
noncomputable def asm_numberOf_e (C : Cal) (N : Nat) (a0 a1 a2 : SV) (K : SV → ER) : ER :=
  eAlloc Tryz.prog 57 fun x1 => eBin Tryz.prog .or 5 false (.int .u8 7) a0 fun x2 => eBuild Tryz.prog 57 [(0, x2)] fun x3 => eAlloc Tryz.prog 57 fun x4 => eStore Tryz.prog 57 x4 x3 <| eJoinC (σ := Unit) (fun (k5 : Unit → ER) =>
  eIfV a1
  (eBin Tryz.prog .or 5 false (.int .u8 4) a0 fun x7 => eFieldAddr Tryz.prog 57 x4 0 fun x8 => eStore Tryz.prog 5 x8 x7 <| k5 (()))
  (k5 (()))) fun (s6 : Unit) =>
  eJoinC (σ := Unit) (fun (k9 : Unit → ER) =>
  asm_numberOf_p1 C a0 a2 k9 x4) fun (s10 : Unit) =>
  asm_numberOf_p2 C K a2 x1 x4
theorem asm_numberOf_ee (C : Cal) (N : Nat) (a0 a1 a2 : SV) (K : SV → ER) : eBody Tryz.prog C N Tryz.f65 (Tryz.f65.body.getD .skip) asm_numberOf_ea [a0, a1, a2] K = asm_numberOf_e C N a0 a1 a2 K := by kernel_rfl
noncomputable def l65 : LeafT := fun C N args K => match args with
  | [a0, a1, a2] => asm_numberOf_e C N a0 a1 a2 K
  | _ => eF
theorem lok65 : LeafOk Tryz.prog 65 l65 := .inl ⟨Tryz.f65, Tryz.f65.body.getD .skip, asm_numberOf_ea, Tryz.func65, by kernel_rfl, Tryz.call65, fun C N args K H e => by
  unfold l65 at e
  split at e
  · rw [asm_numberOf_ee]; exact e
  · exact eF_no e⟩

end Go.Proofs.YtahmmlebelhamaaGreatDoor

set_option linter.unusedVariables false
set_option maxRecDepth 100000
namespace Go.Proofs.YtahmmlebelhamaaGreatDoor
open Go.Hl
/- halberd/asm.jumps -/
def asm_jumps_ea : Ann := .two (.none) (.two (.none) (.none))
noncomputable def asm_jumps_p0 (K : SV → ER) (b1 : Nat) : ER :=
  ePutS Tryz.prog 138 (.map (some b1)) (.int .u8 96) (.str [106, 115, 103, 116]) fun x7 => ePutS Tryz.prog 138 (.map (some b1)) (.int .u8 112) (.str [106, 115, 103, 101]) fun x8 => ePutS Tryz.prog 138 (.map (some b1)) (.int .u8 160) (.str [106, 108, 116]) fun x9 => ePutS Tryz.prog 138 (.map (some b1)) (.int .u8 176) (.str [106, 108, 101]) fun x10 => ePutS Tryz.prog 138 (.map (some b1)) (.int .u8 192) (.str [106, 115, 108, 116]) fun x11 => ePutS Tryz.prog 138 (.map (some b1)) (.int .u8 208) (.str [106, 115, 108, 101]) fun x12 => K (.map (some b1))
noncomputable def asm_jumps_e (C : Cal) (N : Nat) (K : SV → ER) : ER :=
  eNewB (.map []) fun b1 => ePutS Tryz.prog 138 (.map (some b1)) (.int .u8 16) (.str [106, 101, 113]) fun x2 => ePutS Tryz.prog 138 (.map (some b1)) (.int .u8 32) (.str [106, 103, 116]) fun x3 => ePutS Tryz.prog 138 (.map (some b1)) (.int .u8 48) (.str [106, 103, 101]) fun x4 => ePutS Tryz.prog 138 (.map (some b1)) (.int .u8 64) (.str [106, 115, 101, 116]) fun x5 => ePutS Tryz.prog 138 (.map (some b1)) (.int .u8 80) (.str [106, 110, 101]) fun x6 => asm_jumps_p0 K b1
theorem asm_jumps_ee (C : Cal) (N : Nat) (K : SV → ER) : eBody Tryz.prog C N Tryz.f66 (Tryz.f66.body.getD .skip) asm_jumps_ea [] K = asm_jumps_e C N  K := by kernel_rfl
noncomputable def l66 : LeafT := fun C N args K => match args with
  | [] => asm_jumps_e C N  K
  | _ => eF
theorem lok66 : LeafOk Tryz.prog 66 l66 := .inl ⟨Tryz.f66, Tryz.f66.body.getD .skip, asm_jumps_ea, Tryz.func66, by kernel_rfl, Tryz.call66, fun C N args K H e => by
  unfold l66 at e
  split at e
  · rw [asm_jumps_ee]; exact e
  · exact eF_no e⟩

/- halberd/asm.jumpOf -/
def asm_jumpOf_ea : Ann := .two (.none) (.two (.none) (.two (.ord [0, 1, 2, 3, 6, 7, 4, 8, 5, 9, 10, 11, 12]) (.join (.two (.none) (.two (.none) (.none))) (.two (.none) (.two (.none) (.none))) [])))
noncomputable def asm_jumpOf_p0 (C : Cal) (K : SV → ER) (a2 : SV) (x1 : SV) (x13 : SV) : ER :=
  eIndexAddrS Tryz.prog 64 a2 (.int .i64 1) fun x18 => eLoad Tryz.prog 9 x18 fun x19 => eCallR Tryz.prog C 104 [x13, x19] 0 fun x20 => eLoad Tryz.prog 57 x13 fun x21 => eStore Tryz.prog 57 x1 x21 <| eLoad Tryz.prog 57 x1 fun x22 => K x22
noncomputable def asm_jumpOf_p1 (C : Cal) (K : SV → ER) (a0 : SV) (a1 : SV) (a2 : SV) (x1 : SV) (x5 : SV) (x7 : SV) (x8 : SV) : ER :=
  eLoad Tryz.prog 9 x7 fun x9 => eCallR Tryz.prog C 103 [x8] 5 fun x10 => fun H => eLoadF Tryz.prog 9 x7 x9 H && (eCallR Tryz.prog C 60 [x9] 52 fun x11 => eBuild Tryz.prog 57 [(0, x5), (1, x10), (3, x11)] fun x12 => eAlloc Tryz.prog 57 fun x13 => eStore Tryz.prog 57 x13 x12 <| eJoinC (σ := Unit) (fun (k14 : Unit → ER) =>
  eIfV a1
  (eBin Tryz.prog .or 5 false (.int .u8 6) a0 fun x16 => eFieldAddr Tryz.prog 57 x13 0 fun x17 => eStore Tryz.prog 5 x17 x16 <| k14 (()))
  (k14 (()))) fun (s15 : Unit) =>
  asm_jumpOf_p0 C K a2 x1 x13) H
noncomputable def asm_jumpOf_e (C : Cal) (N : Nat) (a0 a1 a2 : SV) (K : SV → ER) : ER :=
  eAlloc Tryz.prog 57 fun x1 => eLenS Tryz.prog [64] [a2] fun x2 => eBin Tryz.prog .eql 3 false x2 (.int .i64 3) fun x3 => eCallR Tryz.prog C 29 [x3] 0 fun x4 => eBin Tryz.prog .or 5 false (.int .u8 5) a0 fun x5 => eIndexAddrS Tryz.prog 64 a2 (.int .i64 0) fun x6 => eIndexAddrS Tryz.prog 64 a2 (.int .i64 2) fun x7 => eLoad Tryz.prog 9 x6 fun x8 => asm_jumpOf_p1 C K a0 a1 a2 x1 x5 x7 x8
theorem asm_jumpOf_ee (C : Cal) (N : Nat) (a0 a1 a2 : SV) (K : SV → ER) : eBody Tryz.prog C N Tryz.f67 (Tryz.f67.body.getD .skip) asm_jumpOf_ea [a0, a1, a2] K = asm_jumpOf_e C N a0 a1 a2 K := by kernel_rfl
noncomputable def l67 : LeafT := fun C N args K => match args with
  | [a0, a1, a2] => asm_jumpOf_e C N a0 a1 a2 K
  | _ => eF
theorem lok67 : LeafOk Tryz.prog 67 l67 := .inl ⟨Tryz.f67, Tryz.f67.body.getD .skip, asm_jumpOf_ea, Tryz.func67, by kernel_rfl, Tryz.call67, fun C N args K H e => by
  unfold l67 at e
  split at e
  · rw [asm_jumpOf_ee]; exact e
  · exact eF_no e⟩

/- halberd/asm.modes -/
def asm_modes_ea : Ann := .two (.none) (.two (.none) (.none))
noncomputable def asm_modes_e (C : Cal) (N : Nat) (K : SV → ER) : ER :=
  eNewB (.map []) fun b1 => ePutS Tryz.prog 142 (.map (some b1)) (.str [52]) (.int .u8 96) fun x2 => ePutS Tryz.prog 142 (.map (some b1)) (.str [50]) (.int .u8 104) fun x3 => ePutS Tryz.prog 142 (.map (some b1)) (.str [49]) (.int .u8 112) fun x4 => ePutS Tryz.prog 142 (.map (some b1)) (.str [56]) (.int .u8 120) fun x5 => K (.map (some b1))
theorem asm_modes_ee (C : Cal) (N : Nat) (K : SV → ER) : eBody Tryz.prog C N Tryz.f68 (Tryz.f68.body.getD .skip) asm_modes_ea [] K = asm_modes_e C N  K := by kernel_rfl
noncomputable def l68 : LeafT := fun C N args K => match args with
  | [] => asm_modes_e C N  K
  | _ => eF
theorem lok68 : LeafOk Tryz.prog 68 l68 := .inl ⟨Tryz.f68, Tryz.f68.body.getD .skip, asm_modes_ea, Tryz.func68, by kernel_rfl, Tryz.call68, fun C N args K H e => by
  unfold l68 at e
  split at e
  · rw [asm_modes_ee]; exact e
  · exact eF_no e⟩

/- halberd/asm.load -/
def asm_load_ea : Ann := .two (.none) (.two (.none) (.two (.none) (.two (.none) (.two (.none) (.two (.none) (.none))))))
noncomputable def asm_load_p0 (C : Cal) (K : SV → ER) (x1 : SV) (x10 : SV) (x12 : SV) : ER :=
  eCallR Tryz.prog C 105 [x12] 182 fun x13 => eExtract x13 0 fun x14 => eExtract x13 1 fun x15 => eFieldAddr Tryz.prog 57 x10 2 fun x16 => eStore Tryz.prog 5 x16 x14 <| eFieldAddr Tryz.prog 57 x10 3 fun x17 => eStore Tryz.prog 52 x17 x15 <| eFieldAddr Tryz.prog 57 x10 1 fun x18 => eLoad Tryz.prog 5 x18 fun x19 => eBin Tryz.prog .lss 5 false x19 (.int .u8 10) fun x20 => eCallR Tryz.prog C 29 [x20] 0 fun x21 => eLoad Tryz.prog 57 x10 fun x22 => eStore Tryz.prog 57 x1 x22 <| eLoad Tryz.prog 57 x1 fun x23 => K x23
noncomputable def asm_load_p1 (C : Cal) (K : SV → ER) (a0 : SV) (a1 : SV) (x1 : SV) : ER :=
  eLenS Tryz.prog [64] [a1] fun x2 => eBin Tryz.prog .eql 3 false x2 (.int .i64 2) fun x3 => eCallR Tryz.prog C 29 [x3] 0 fun x4 => eBin Tryz.prog .or 5 false a0 (.int .u8 1) fun x5 => eIndexAddrS Tryz.prog 64 a1 (.int .i64 0) fun x6 => eLoad Tryz.prog 9 x6 fun x7 => eCallR Tryz.prog C 103 [x7] 5 fun x8 => eBuild Tryz.prog 57 [(0, x5), (1, x8)] fun x9 => eAlloc Tryz.prog 57 fun x10 => eStore Tryz.prog 57 x10 x9 <| eIndexAddrS Tryz.prog 64 a1 (.int .i64 1) fun x11 => eLoad Tryz.prog 9 x11 fun x12 => asm_load_p0 C K x1 x10 x12
noncomputable def asm_load_e (C : Cal) (N : Nat) (a0 a1 : SV) (K : SV → ER) : ER :=
  eAlloc Tryz.prog 57 fun x1 => asm_load_p1 C K a0 a1 x1
theorem asm_load_ee (C : Cal) (N : Nat) (a0 a1 : SV) (K : SV → ER) : eBody Tryz.prog C N Tryz.f69 (Tryz.f69.body.getD .skip) asm_load_ea [a0, a1] K = asm_load_e C N a0 a1 K := by kernel_rfl
noncomputable def l69 : LeafT := fun C N args K => match args with
  | [a0, a1] => asm_load_e C N a0 a1 K
  | _ => eF
theorem lok69 : LeafOk Tryz.prog 69 l69 := .inl ⟨Tryz.f69, Tryz.f69.body.getD .skip, asm_load_ea, Tryz.func69, by kernel_rfl, Tryz.call69, fun C N args K H e => by
  unfold l69 at e
  split at e
  · rw [asm_load_ee]; exact e
  · exact eF_no e⟩

/- halberd/asm.store -/
def asm_store_ea : Ann := .two (.none) (.two (.none) (.two (.none) (.two (.none) (.two (.two (.none) (.two (.two (.none) (.two (.none) (.none))) (.none))) (.two (.none) (.two (.none) (.none)))))))
noncomputable def asm_store_p0 (C : Cal) (K : SV → ER) (a0 : SV) (a1 : SV) (x1 : SV) (x7 : SV) : ER :=
  eBin Tryz.prog .or 5 false a0 (.int .u8 3) fun x18 => eIndexAddrS Tryz.prog 64 a1 (.int .i64 1) fun x19 => eLoad Tryz.prog 9 x19 fun x20 => eCallR Tryz.prog C 103 [x20] 5 fun x21 => eFieldAddr Tryz.prog 57 x7 0 fun x22 => eStore Tryz.prog 5 x22 x18 <| eFieldAddr Tryz.prog 57 x7 2 fun x23 => eStore Tryz.prog 5 x23 x21 <| eLoad Tryz.prog 57 x7 fun x24 => eStore Tryz.prog 57 x1 x24 <| eLoad Tryz.prog 57 x1 fun x25 => K x25
noncomputable def asm_store_p1 (C : Cal) (K : SV → ER) (a1 : SV) (x1 : SV) (x7 : SV) : ER :=
  eIndexAddrS Tryz.prog 64 a1 (.int .i64 1) fun x26 => eLoad Tryz.prog 9 x26 fun x27 => eCallR Tryz.prog C 61 [x27, (.int .i64 (-2147483648)), (.int .i64 2147483647)] 2 fun x28 => eConvS Tryz.prog 2 21 x28 fun x29 => eFieldAddr Tryz.prog 57 x7 4 fun x30 => eStore Tryz.prog 21 x30 x29 <| eLoad Tryz.prog 57 x7 fun x31 => eStore Tryz.prog 57 x1 x31 <| eLoad Tryz.prog 57 x1 fun x32 => K x32
noncomputable def asm_store_p2 (C : Cal) (K : SV → ER) (a0 : SV) (a1 : SV) (x1 : SV) (x7 : SV) : ER :=
  eIndexAddrS Tryz.prog 64 a1 (.int .i64 0) fun x8 => eLoad Tryz.prog 9 x8 fun x9 => eCallR Tryz.prog C 105 [x9] 182 fun x10 => eExtract x10 0 fun x11 => eExtract x10 1 fun x12 => eFieldAddr Tryz.prog 57 x7 1 fun x13 => eStore Tryz.prog 5 x13 x11 <| eFieldAddr Tryz.prog 57 x7 3 fun x14 => eStore Tryz.prog 52 x14 x12 <| eIndexAddrS Tryz.prog 64 a1 (.int .i64 1) fun x15 => eLoad Tryz.prog 9 x15 fun x16 => eCallR Tryz.prog C 106 [x16] 4 fun x17 => eIfV x17
  (asm_store_p0 C K a0 a1 x1 x7)
  (asm_store_p1 C K a1 x1 x7)
noncomputable def asm_store_e (C : Cal) (N : Nat) (a0 a1 : SV) (K : SV → ER) : ER :=
  eAlloc Tryz.prog 57 fun x1 => eLenS Tryz.prog [64] [a1] fun x2 => eBin Tryz.prog .eql 3 false x2 (.int .i64 2) fun x3 => eCallR Tryz.prog C 29 [x3] 0 fun x4 => eBin Tryz.prog .or 5 false a0 (.int .u8 2) fun x5 => eBuild Tryz.prog 57 [(0, x5)] fun x6 => eAlloc Tryz.prog 57 fun x7 => eStore Tryz.prog 57 x7 x6 <| asm_store_p2 C K a0 a1 x1 x7
theorem asm_store_ee (C : Cal) (N : Nat) (a0 a1 : SV) (K : SV → ER) : eBody Tryz.prog C N Tryz.f70 (Tryz.f70.body.getD .skip) asm_store_ea [a0, a1] K = asm_store_e C N a0 a1 K := by kernel_rfl
noncomputable def l70 : LeafT := fun C N args K => match args with
  | [a0, a1] => asm_store_e C N a0 a1 K
  | _ => eF
theorem lok70 : LeafOk Tryz.prog 70 l70 := .inl ⟨Tryz.f70, Tryz.f70.body.getD .skip, asm_store_ea, Tryz.func70, by kernel_rfl, Tryz.call70, fun C N args K H e => by
  unfold l70 at e
  split at e
  · rw [asm_store_ee]; exact e
  · exact eF_no e⟩

/- halberd/words.Store -/
def words_Store_ea : Ann := .two (.none) (.two (.two (.none) (.two (.two (.none) (.none)) (.none))) (.two (.two (.none) (.sub (.loop [(16, .any)] (.two (.none) (.two (.two (.none) (.none)) (.two (.sub (.two (.none) (.none))) (.none))))))) (.two (.none) (.none))))
noncomputable def words_Store_p0 (a0 : SV) (a1 : SV) (a3 : SV) (k3 : SV × Unit → ER) (s4 : SV × Unit) : ER :=
  eBin Tryz.prog .add 3 false a1 s4.1 fun x6 => eBin Tryz.prog .mul 3 false (.int .i64 8) s4.1 fun x7 => eBin Tryz.prog .shr 53 false a3 x7 fun x8 => eConvS Tryz.prog 53 5 x8 fun x9 => eIndexAddrS Tryz.prog 30 a0 x6 fun x10 => eStore Tryz.prog 5 x10 x9 <| eBin Tryz.prog .add 3 false s4.1 (.int .i64 1) fun x11 => eHas .any x11 (k3 (x11, ()))
noncomputable def words_Store_p1 (K : SV → ER) (N : Nat) (a0 : SV) (a1 : SV) (a2 : SV) (a3 : SV) : ER :=
  eHas .any (.int .i64 0) (eIter (σ := SV × Unit) (fun (s4 : SV × Unit) (k3 : SV × Unit → ER) =>
  eBin Tryz.prog .lss 3 false s4.1 a2 fun x5 => eIfV x5
  (words_Store_p0 a0 a1 a3 k3 s4)
  (K (.bool true))) N ((.int .i64 0), ()))
noncomputable def words_Store_e (C : Cal) (N : Nat) (a0 a1 a2 a3 : SV) (K : SV → ER) : ER :=
  eCallR Tryz.prog C 74 [a0, a1, a2] 4 fun x1 => eUnS .not x1 fun x2 => eIfV x2
  (K (.bool false))
  (words_Store_p1 K N a0 a1 a2 a3)
theorem words_Store_ee (C : Cal) (N : Nat) (a0 a1 a2 a3 : SV) (K : SV → ER) : eBody Tryz.prog C N Tryz.f71 (Tryz.f71.body.getD .skip) words_Store_ea [a0, a1, a2, a3] K = words_Store_e C N a0 a1 a2 a3 K := by kernel_rfl
noncomputable def l71 : LeafT := fun C N args K => match args with
  | [a0, a1, a2, a3] => words_Store_e C N a0 a1 a2 a3 K
  | _ => eF
theorem lok71 : LeafOk Tryz.prog 71 l71 := .inl ⟨Tryz.f71, Tryz.f71.body.getD .skip, words_Store_ea, Tryz.func71, by kernel_rfl, Tryz.call71, fun C N args K H e => by
  unfold l71 at e
  split at e
  · rw [words_Store_ee]; exact e
  · exact eF_no e⟩

/- halberd/halberdref01.Zext -/
def ref01_Zext_ea : Ann := .two (.none) (.two (.join (.none) (.two (.two (.none) (.none)) (.none)) [(11, .any)]) (.two (.none) (.none)))
noncomputable def ref01_Zext_p0 (C : Cal) (a1 : SV) (k1 : SV × Unit → ER) : ER :=
  eCallR Tryz.prog C 34 [a1] 4 fun x3 => eUnS .not x3 fun x4 => eIfV x4
  (eHas .any (.bool true) (k1 ((.bool true), ())))
  (eBin Tryz.prog .eql 3 false a1 (.int .i64 8) fun x5 => eHas .any x5 (k1 (x5, ())))
noncomputable def ref01_Zext_e (C : Cal) (N : Nat) (a0 a1 : SV) (K : SV → ER) : ER :=
  eJoinC (σ := SV × Unit) (fun (k1 : SV × Unit → ER) =>
  ref01_Zext_p0 C a1 k1) fun (s2 : SV × Unit) =>
  eIfV s2.1
  (K a0)
  (eBin Tryz.prog .mul 3 false (.int .i64 8) a1 fun x6 => eCallR Tryz.prog C 35 [x6] 53 fun x7 => eBin Tryz.prog .rem 53 false a0 x7 fun x8 => K x8)
theorem ref01_Zext_ee (C : Cal) (N : Nat) (a0 a1 : SV) (K : SV → ER) : eBody Tryz.prog C N Tryz.f72 (Tryz.f72.body.getD .skip) ref01_Zext_ea [a0, a1] K = ref01_Zext_e C N a0 a1 K := by kernel_rfl
noncomputable def l72 : LeafT := fun C N args K => match args with
  | [a0, a1] => ref01_Zext_e C N a0 a1 K
  | _ => eF
theorem lok72 : LeafOk Tryz.prog 72 l72 := .inl ⟨Tryz.f72, Tryz.f72.body.getD .skip, ref01_Zext_ea, Tryz.func72, by kernel_rfl, Tryz.call72, fun C N args K H e => by
  unfold l72 at e
  split at e
  · rw [ref01_Zext_ee]; exact e
  · exact eF_no e⟩

/- halberd/words.there -/
def words_there_ea : Ann := .two (.none) (.join (.none) (.none) [(6, .any)])
noncomputable def words_there_p0 (a0 : SV) (a1 : SV) (a2 : SV) (k1 : SV × Unit → ER) : ER :=
  eLenS Tryz.prog [30] [a0] fun x5 => eBin Tryz.prog .leq 3 false a2 x5 fun x6 => eIfV x6
  (eLenS Tryz.prog [30] [a0] fun x7 => eBin Tryz.prog .sub 3 false x7 a2 fun x8 => eBin Tryz.prog .leq 3 false a1 x8 fun x9 => eHas .any x9 (k1 (x9, ())))
  (eHas .any (.bool false) (k1 ((.bool false), ())))
noncomputable def words_there_p1 (C : Cal) (a0 : SV) (a1 : SV) (a2 : SV) (k1 : SV × Unit → ER) : ER :=
  eCallR Tryz.prog C 107 [a2] 4 fun x3 => eIfV x3
  (eBin Tryz.prog .geq 3 false a1 (.int .i64 0) fun x4 => eIfV x4
  (words_there_p0 a0 a1 a2 k1)
  (eHas .any (.bool false) (k1 ((.bool false), ()))))
  (eHas .any (.bool false) (k1 ((.bool false), ())))
noncomputable def words_there_e (C : Cal) (N : Nat) (a0 a1 a2 : SV) (K : SV → ER) : ER :=
  eJoinC (σ := SV × Unit) (fun (k1 : SV × Unit → ER) =>
  words_there_p1 C a0 a1 a2 k1) fun (s2 : SV × Unit) =>
  K s2.1
theorem words_there_ee (C : Cal) (N : Nat) (a0 a1 a2 : SV) (K : SV → ER) : eBody Tryz.prog C N Tryz.f74 (Tryz.f74.body.getD .skip) words_there_ea [a0, a1, a2] K = words_there_e C N a0 a1 a2 K := by kernel_rfl
noncomputable def l74 : LeafT := fun C N args K => match args with
  | [a0, a1, a2] => words_there_e C N a0 a1 a2 K
  | _ => eF
theorem lok74 : LeafOk Tryz.prog 74 l74 := .inl ⟨Tryz.f74, Tryz.f74.body.getD .skip, words_there_ea, Tryz.func74, by kernel_rfl, Tryz.call74, fun C N args K H e => by
  unfold l74 at e
  split at e
  · rw [words_there_ee]; exact e
  · exact eF_no e⟩

end Go.Proofs.YtahmmlebelhamaaGreatDoor

set_option linter.unusedVariables false
set_option maxRecDepth 100000
namespace Go.Proofs.YtahmmlebelhamaaGreatDoor
open Go.Hl
/- strings.explode -/
def strings_explode_ea : Ann := .two (.none) (.two (.none) (.join (.join (.none) (.two (.none) (.none)) [(18, .any)]) (.two (.none) (.two (.two (.none) (.sub (.loop [(0, .any), (7, .any)] (.two (.two (.none) (.two (.none) (.none))) (.two (.sub (.two (.none) (.two (.none) (.none)))) (.none)))))) (.join (.two (.none) (.two (.none) (.none))) (.two (.none) (.none)) []))) [(1, .any)]))
noncomputable def strings_explode_p0 (C : Cal) (k9 : SV × SV × Unit → ER) (x8 : SV) (s10 : SV × SV × Unit) : ER :=
  eCallR Tryz.prog C 143 [s10.1] 213 fun x13 => eExtract x13 0 fun x14 => eExtract x13 1 fun x15 => eSliceS Tryz.prog 9 s10.1 none (some (.v x15)) none fun x16 => eIndexAddrS Tryz.prog 64 x8 s10.2.1 fun x17 => eStore Tryz.prog 9 x17 x16 <| eSliceS Tryz.prog 9 s10.1 (some (.v x15)) none none fun x18 => eBin Tryz.prog .add 3 false s10.2.1 (.int .i64 1) fun x19 => eHas .any x18 (eHas .any x19 (k9 (x18, x19, ())))
noncomputable def strings_explode_p1 (s3 : SV × Unit) (x8 : SV) (k20 : Unit → ER) (s10 : SV × SV × Unit) : ER :=
  eBin Tryz.prog .gtr 3 false s3.1 (.int .i64 0) fun x22 => eIfV x22
  (eBin Tryz.prog .sub 3 false s3.1 (.int .i64 1) fun x23 => eIndexAddrS Tryz.prog 64 x8 x23 fun x24 => eStore Tryz.prog 9 x24 s10.1 <| k20 (()))
  (k20 (()))
noncomputable def strings_explode_p2 (C : Cal) (K : SV → ER) (k9 : SV × SV × Unit → ER) (s3 : SV × Unit) (x8 : SV) (s10 : SV × SV × Unit) : ER :=
  eBin Tryz.prog .sub 3 false s3.1 (.int .i64 1) fun x11 => eBin Tryz.prog .lss 3 false s10.2.1 x11 fun x12 => eIfV x12
  (strings_explode_p0 C k9 x8 s10)
  (eJoinC (σ := Unit) (fun (k20 : Unit → ER) =>
  strings_explode_p1 s3 x8 k20 s10) fun (s21 : Unit) =>
  K x8)
noncomputable def strings_explode_p3 (a1 : SV) (k2 : SV × Unit → ER) (x1 : SV) : ER :=
  eJoinC (σ := SV × Unit) (fun (k4 : SV × Unit → ER) =>
  eBin Tryz.prog .lss 3 false a1 (.int .i64 0) fun x6 => eIfV x6
  (eHas .any (.bool true) (k4 ((.bool true), ())))
  (eBin Tryz.prog .gtr 3 false a1 x1 fun x7 => eHas .any x7 (k4 (x7, ())))) fun (s5 : SV × Unit) =>
  eIfV s5.1
  (eHas .any x1 (k2 (x1, ())))
  (eHas .any a1 (k2 (a1, ())))
noncomputable def strings_explode_p4 (C : Cal) (K : SV → ER) (N : Nat) (a0 : SV) (s3 : SV × Unit) : ER :=
  eMakeSliceS Tryz.prog 64 s3.1 s3.1 fun x8 => eHas .any a0 (eHas .any (.int .i64 0) (eIter (σ := SV × SV × Unit) (fun (s10 : SV × SV × Unit) (k9 : SV × SV × Unit → ER) =>
  strings_explode_p2 C K k9 s3 x8 s10) N (a0, (.int .i64 0), ())))
noncomputable def strings_explode_e (C : Cal) (N : Nat) (a0 a1 : SV) (K : SV → ER) : ER :=
  eCallR Tryz.prog C 142 [a0] 3 fun x1 => eJoinC (σ := SV × Unit) (fun (k2 : SV × Unit → ER) =>
  strings_explode_p3 a1 k2 x1) fun (s3 : SV × Unit) =>
  strings_explode_p4 C K N a0 s3
theorem strings_explode_ee (C : Cal) (N : Nat) (a0 a1 : SV) (K : SV → ER) : eBody Tryz.prog C N Tryz.f94 (Tryz.f94.body.getD .skip) strings_explode_ea [a0, a1] K = strings_explode_e C N a0 a1 K := by kernel_rfl
noncomputable def l94 : LeafT := fun C N args K => match args with
  | [a0, a1] => strings_explode_e C N a0 a1 K
  | _ => eF
theorem lok94 : LeafOk Tryz.prog 94 l94 := .inl ⟨Tryz.f94, Tryz.f94.body.getD .skip, strings_explode_ea, Tryz.func94, by kernel_rfl, Tryz.call94, fun C N args K H e => by
  unfold l94 at e
  split at e
  · rw [strings_explode_ee]; exact e
  · exact eF_no e⟩

/- strings.Count -/
def strings_Count_ea : Ann := .two (.none) (.two (.two (.none) (.two (.two (.none) (.none)) (.none))) (.two (.two (.none) (.two (.two (.none) (.none)) (.none))) (.two (.none) (.sub (.loop [(0, .any), (5, .any)] (.sub (.two (.none) (.two (.two (.none) (.two (.two (.none) (.none)) (.none))) (.two (.none) (.none))))))))))
noncomputable def strings_Count_p0 (a1 : SV) (k9 : SV × SV × Unit → ER) (s10 : SV × SV × Unit) (x11 : SV) : ER :=
  eBin Tryz.prog .add 3 false s10.2.1 (.int .i64 1) fun x13 => eLenS Tryz.prog [9] [a1] fun x14 => eBin Tryz.prog .add 3 false x11 x14 fun x15 => eSliceS Tryz.prog 9 s10.1 (some (.v x15)) none none fun x16 => eHas .any x16 (eHas .any x13 (k9 (x16, x13, ())))
noncomputable def strings_Count_p1 (C : Cal) (K : SV → ER) (N : Nat) (a0 : SV) (a1 : SV) : ER :=
  eHas .any a0 (eHas .any (.int .i64 0) (eIter (σ := SV × SV × Unit) (fun (s10 : SV × SV × Unit) (k9 : SV × SV × Unit → ER) =>
  eCallR Tryz.prog C 96 [s10.1, a1] 3 fun x11 => eBin Tryz.prog .eql 3 false x11 (.int .i64 (-1)) fun x12 => eIfV x12
  (K s10.2.1)
  (strings_Count_p0 a1 k9 s10 x11)) N (a0, (.int .i64 0), ())))
noncomputable def strings_Count_p2 (C : Cal) (K : SV → ER) (N : Nat) (a0 : SV) (a1 : SV) : ER :=
  eLenS Tryz.prog [9] [a1] fun x5 => eBin Tryz.prog .eql 3 false x5 (.int .i64 1) fun x6 => eIfV x6
  (eIndexS Tryz.prog 9 a1 (.int .i64 0) fun x7 => eCallR Tryz.prog C 144 [a0, x7] 3 fun x8 => K x8)
  (strings_Count_p1 C K N a0 a1)
noncomputable def strings_Count_e (C : Cal) (N : Nat) (a0 a1 : SV) (K : SV → ER) : ER :=
  eLenS Tryz.prog [9] [a1] fun x1 => eBin Tryz.prog .eql 3 false x1 (.int .i64 0) fun x2 => eIfV x2
  (eCallR Tryz.prog C 142 [a0] 3 fun x3 => eBin Tryz.prog .add 3 false x3 (.int .i64 1) fun x4 => K x4)
  (strings_Count_p2 C K N a0 a1)
theorem strings_Count_ee (C : Cal) (N : Nat) (a0 a1 : SV) (K : SV → ER) : eBody Tryz.prog C N Tryz.f95 (Tryz.f95.body.getD .skip) strings_Count_ea [a0, a1] K = strings_Count_e C N a0 a1 K := by kernel_rfl
noncomputable def l95 : LeafT := fun C N args K => match args with
  | [a0, a1] => strings_Count_e C N a0 a1 K
  | _ => eF
theorem lok95 : LeafOk Tryz.prog 95 l95 := .inl ⟨Tryz.f95, Tryz.f95.body.getD .skip, strings_Count_ea, Tryz.func95, by kernel_rfl, Tryz.call95, fun C N args K H e => by
  unfold l95 at e
  split at e
  · rw [strings_Count_ee]; exact e
  · exact eF_no e⟩

/- strings.Index -/
def strings_Index_ea : Ann := .two (.none) (.two (.none) (.none))
noncomputable def strings_Index_e (C : Cal) (N : Nat) (a0 a1 : SV) (K : SV → ER) : ER :=
  eCallR Tryz.prog C 145 [a0, a1] 3 fun x1 => K x1
theorem strings_Index_ee (C : Cal) (N : Nat) (a0 a1 : SV) (K : SV → ER) : eBody Tryz.prog C N Tryz.f96 (Tryz.f96.body.getD .skip) strings_Index_ea [a0, a1] K = strings_Index_e C N a0 a1 K := by kernel_rfl
noncomputable def l96 : LeafT := fun C N args K => match args with
  | [a0, a1] => strings_Index_e C N a0 a1 K
  | _ => eF
theorem lok96 : LeafOk Tryz.prog 96 l96 := .inl ⟨Tryz.f96, Tryz.f96.body.getD .skip, strings_Index_ea, Tryz.func96, by kernel_rfl, Tryz.call96, fun C N args K H e => by
  unfold l96 at e
  split at e
  · rw [strings_Index_ee]; exact e
  · exact eF_no e⟩

/- internal/stringslite.HasSuffix -/
def internal_stringslite_HasSuffix_ea : Ann := .two (.none) (.join (.none) (.none) [(4, .any)])
noncomputable def internal_stringslite_HasSuffix_p0 (a0 : SV) (a1 : SV) (k1 : SV × Unit → ER) : ER :=
  eLenS Tryz.prog [9] [a0] fun x6 => eLenS Tryz.prog [9] [a1] fun x7 => eBin Tryz.prog .sub 3 false x6 x7 fun x8 => eSliceS Tryz.prog 9 a0 (some (.v x8)) none none fun x9 => eBin Tryz.prog .eql 9 false x9 a1 fun x10 => eHas .any x10 (k1 (x10, ()))
noncomputable def internal_stringslite_HasSuffix_p1 (a0 : SV) (a1 : SV) (k1 : SV × Unit → ER) : ER :=
  eLenS Tryz.prog [9] [a0] fun x3 => eLenS Tryz.prog [9] [a1] fun x4 => eBin Tryz.prog .geq 3 false x3 x4 fun x5 => eIfV x5
  (internal_stringslite_HasSuffix_p0 a0 a1 k1)
  (eHas .any (.bool false) (k1 ((.bool false), ())))
noncomputable def internal_stringslite_HasSuffix_e (C : Cal) (N : Nat) (a0 a1 : SV) (K : SV → ER) : ER :=
  eJoinC (σ := SV × Unit) (fun (k1 : SV × Unit → ER) =>
  internal_stringslite_HasSuffix_p1 a0 a1 k1) fun (s2 : SV × Unit) =>
  K s2.1
theorem internal_stringslite_HasSuffix_ee (C : Cal) (N : Nat) (a0 a1 : SV) (K : SV → ER) : eBody Tryz.prog C N Tryz.f97 (Tryz.f97.body.getD .skip) internal_stringslite_HasSuffix_ea [a0, a1] K = internal_stringslite_HasSuffix_e C N a0 a1 K := by kernel_rfl
noncomputable def l97 : LeafT := fun C N args K => match args with
  | [a0, a1] => internal_stringslite_HasSuffix_e C N a0 a1 K
  | _ => eF
theorem lok97 : LeafOk Tryz.prog 97 l97 := .inl ⟨Tryz.f97, Tryz.f97.body.getD .skip, internal_stringslite_HasSuffix_ea, Tryz.func97, by kernel_rfl, Tryz.call97, fun C N args K H e => by
  unfold l97 at e
  split at e
  · rw [internal_stringslite_HasSuffix_ee]; exact e
  · exact eF_no e⟩

/- internal/stringslite.Cut -/
def internal_stringslite_Cut_ea : Ann := .two (.none) (.two (.two (.none) (.two (.none) (.two (.two (.ord [0, 1, 2, 3, 4, 5, 6, 7, 8, 9, 10, 11]) (.none)) (.none)))) (.two (.none) (.none)))
noncomputable def internal_stringslite_Cut_p0 (K : SV → ER) (a0 : SV) (a1 : SV) (x1 : SV) : ER :=
  eSliceS Tryz.prog 9 a0 none (some (.v x1)) none fun x3 => eLenS Tryz.prog [9] [a1] fun x4 => eBin Tryz.prog .add 3 false x1 x4 fun x5 => eSliceS Tryz.prog 9 a0 (some (.v x5)) none none fun x6 => K (.tup [x3, x6, (.bool true)])
noncomputable def internal_stringslite_Cut_e (C : Cal) (N : Nat) (a0 a1 : SV) (K : SV → ER) : ER :=
  eCallR Tryz.prog C 145 [a0, a1] 3 fun x1 => eBin Tryz.prog .geq 3 false x1 (.int .i64 0) fun x2 => eIfV x2
  (internal_stringslite_Cut_p0 K a0 a1 x1)
  (K (.tup [a0, (.str []), (.bool false)]))
theorem internal_stringslite_Cut_ee (C : Cal) (N : Nat) (a0 a1 : SV) (K : SV → ER) : eBody Tryz.prog C N Tryz.f98 (Tryz.f98.body.getD .skip) internal_stringslite_Cut_ea [a0, a1] K = internal_stringslite_Cut_e C N a0 a1 K := by kernel_rfl
noncomputable def l98 : LeafT := fun C N args K => match args with
  | [a0, a1] => internal_stringslite_Cut_e C N a0 a1 K
  | _ => eF
theorem lok98 : LeafOk Tryz.prog 98 l98 := .inl ⟨Tryz.f98, Tryz.f98.body.getD .skip, internal_stringslite_Cut_ea, Tryz.func98, by kernel_rfl, Tryz.call98, fun C N args K H e => by
  unfold l98 at e
  split at e
  · rw [internal_stringslite_Cut_ee]; exact e
  · exact eF_no e⟩

/- strings.CutPrefix -/
def strings_CutPrefix_ea : Ann := .two (.none) (.two (.none) (.none))
noncomputable def strings_CutPrefix_e (C : Cal) (N : Nat) (a0 a1 : SV) (K : SV → ER) : ER :=
  eCallR Tryz.prog C 146 [a0, a1] 38 fun x1 => eExtract x1 0 fun x2 => eExtract x1 1 fun x3 => K (.tup [x2, x3])
theorem strings_CutPrefix_ee (C : Cal) (N : Nat) (a0 a1 : SV) (K : SV → ER) : eBody Tryz.prog C N Tryz.f99 (Tryz.f99.body.getD .skip) strings_CutPrefix_ea [a0, a1] K = strings_CutPrefix_e C N a0 a1 K := by kernel_rfl
noncomputable def l99 : LeafT := fun C N args K => match args with
  | [a0, a1] => strings_CutPrefix_e C N a0 a1 K
  | _ => eF
theorem lok99 : LeafOk Tryz.prog 99 l99 := .inl ⟨Tryz.f99, Tryz.f99.body.getD .skip, strings_CutPrefix_ea, Tryz.func99, by kernel_rfl, Tryz.call99, fun C N args K H e => by
  unfold l99 at e
  split at e
  · rw [strings_CutPrefix_ee]; exact e
  · exact eF_no e⟩

/- strconv.ParseInt -/
def strconv_ParseInt_ea : Ann := .two (.none) (.two (.none) (.two (.two (.none) (.two (.two (.none) (.none)) (.none))) (.two (.none) (.none))))
noncomputable def strconv_ParseInt_e (C : Cal) (N : Nat) (a0 a1 a2 : SV) (K : SV → ER) : ER :=
  eCallR Tryz.prog C 147 [a0, a1, a2] 175 fun x1 => eExtract x1 0 fun x2 => eExtract x1 1 fun x3 => eBin Tryz.prog .neq 126 true x3 .nifc fun x4 => eIfV x4
  (eCallR Tryz.prog C 148 [(.str [80, 97, 114, 115, 101, 73, 110, 116]), a0, a1, a2, x3] 126 fun x5 => K (.tup [x2, x5]))
  (K (.tup [x2, .nifc]))
theorem strconv_ParseInt_ee (C : Cal) (N : Nat) (a0 a1 a2 : SV) (K : SV → ER) : eBody Tryz.prog C N Tryz.f100 (Tryz.f100.body.getD .skip) strconv_ParseInt_ea [a0, a1, a2] K = strconv_ParseInt_e C N a0 a1 a2 K := by kernel_rfl
noncomputable def l100 : LeafT := fun C N args K => match args with
  | [a0, a1, a2] => strconv_ParseInt_e C N a0 a1 a2 K
  | _ => eF
theorem lok100 : LeafOk Tryz.prog 100 l100 := .inl ⟨Tryz.f100, Tryz.f100.body.getD .skip, strconv_ParseInt_ea, Tryz.func100, by kernel_rfl, Tryz.call100, fun C N args K H e => by
  unfold l100 at e
  split at e
  · rw [strconv_ParseInt_ee]; exact e
  · exact eF_no e⟩

/- halberd/asm.num -/
def asm_num_ea : Ann := .two (.none) (.two (.none) (.none))
noncomputable def asm_num_e (C : Cal) (N : Nat) (a0 : SV) (K : SV → ER) : ER :=
  eCallR Tryz.prog C 149 [a0, (.int .i64 10)] 9 fun x1 => K x1
theorem asm_num_ee (C : Cal) (N : Nat) (a0 : SV) (K : SV → ER) : eBody Tryz.prog C N Tryz.f101 (Tryz.f101.body.getD .skip) asm_num_ea [a0] K = asm_num_e C N a0 K := by kernel_rfl
noncomputable def l101 : LeafT := fun C N args K => match args with
  | [a0] => asm_num_e C N a0 K
  | _ => eF
theorem lok101 : LeafOk Tryz.prog 101 l101 := .inl ⟨Tryz.f101, Tryz.f101.body.getD .skip, asm_num_ea, Tryz.func101, by kernel_rfl, Tryz.call101, fun C N args K H e => by
  unfold l101 at e
  split at e
  · rw [asm_num_ee]; exact e
  · exact eF_no e⟩

end Go.Proofs.YtahmmlebelhamaaGreatDoor

set_option linter.unusedVariables false
set_option maxRecDepth 100000
namespace Go.Proofs.YtahmmlebelhamaaGreatDoor
open Go.Hl
/- halberd/inst.Pair -/
def inst_Pair_ea : Ann := .two (.none) (.two (.none) (.none))
noncomputable def inst_Pair_e (C : Cal) (N : Nat) (a0 a1 a2 a3 : SV) (K : SV → ER) : ER :=
  eAlloc Tryz.prog 177 fun x1 => eConvS Tryz.prog 53 21 a3 fun x2 => eBuild Tryz.prog 57 [(0, a0), (1, a1), (2, a2), (4, x2)] fun x3 => eBin Tryz.prog .shr 53 false a3 (.int .u64 32) fun x4 => eConvS Tryz.prog 53 21 x4 fun x5 => eBuild Tryz.prog 57 [(4, x5)] fun x6 => eBuild Tryz.prog 177 [(0, x3), (1, x6)] fun x7 => eStore Tryz.prog 177 x1 x7 <| eLoad Tryz.prog 177 x1 fun x8 => K x8
theorem inst_Pair_ee (C : Cal) (N : Nat) (a0 a1 a2 a3 : SV) (K : SV → ER) : eBody Tryz.prog C N Tryz.f102 (Tryz.f102.body.getD .skip) inst_Pair_ea [a0, a1, a2, a3] K = inst_Pair_e C N a0 a1 a2 a3 K := by kernel_rfl
noncomputable def l102 : LeafT := fun C N args K => match args with
  | [a0, a1, a2, a3] => inst_Pair_e C N a0 a1 a2 a3 K
  | _ => eF
theorem lok102 : LeafOk Tryz.prog 102 l102 := .inl ⟨Tryz.f102, Tryz.f102.body.getD .skip, inst_Pair_ea, Tryz.func102, by kernel_rfl, Tryz.call102, fun C N args K H e => by
  unfold l102 at e
  split at e
  · rw [inst_Pair_ee]; exact e
  · exact eF_no e⟩

/- halberd/asm.regOf -/
def asm_regOf_ea : Ann := .two (.none) (.two (.none) (.two (.none) (.two (.none) (.none))))
noncomputable def asm_regOf_e (C : Cal) (N : Nat) (a0 : SV) (K : SV → ER) : ER :=
  eCallR Tryz.prog C 99 [a0, (.str [114])] 38 fun x1 => eExtract x1 0 fun x2 => eExtract x1 1 fun x3 => eCallR Tryz.prog C 29 [x3] 0 fun x4 => eCallR Tryz.prog C 61 [x2, (.int .i64 0), (.int .i64 10)] 2 fun x5 => eConvS Tryz.prog 2 5 x5 fun x6 => K x6
theorem asm_regOf_ee (C : Cal) (N : Nat) (a0 : SV) (K : SV → ER) : eBody Tryz.prog C N Tryz.f103 (Tryz.f103.body.getD .skip) asm_regOf_ea [a0] K = asm_regOf_e C N a0 K := by kernel_rfl
noncomputable def l103 : LeafT := fun C N args K => match args with
  | [a0] => asm_regOf_e C N a0 K
  | _ => eF
theorem lok103 : LeafOk Tryz.prog 103 l103 := .inl ⟨Tryz.f103, Tryz.f103.body.getD .skip, asm_regOf_ea, Tryz.func103, by kernel_rfl, Tryz.call103, fun C N args K H e => by
  unfold l103 at e
  split at e
  · rw [asm_regOf_ee]; exact e
  · exact eF_no e⟩

/- halberd/asm.operand -/
def asm_operand_ea : Ann := .two (.two (.none) (.two (.two (.none) (.two (.none) (.none))) (.none))) (.none)
noncomputable def asm_operand_p0 (C : Cal) (K : SV → ER) (a0 : SV) (a1 : SV) : ER :=
  eNilCk a0 fun x2 => eFieldAddr Tryz.prog 57 x2 0 fun x3 => eLoad Tryz.prog 5 x3 fun x4 => eBin Tryz.prog .or 5 false x4 (.int .u8 8) fun x5 => eNilCk a0 fun x6 => eFieldAddr Tryz.prog 57 x6 0 fun x7 => eStore Tryz.prog 5 x7 x5 <| eCallR Tryz.prog C 103 [a1] 5 fun x8 => eNilCk a0 fun x9 => eFieldAddr Tryz.prog 57 x9 2 fun x10 => eStore Tryz.prog 5 x10 x8 <| K (.tup [])
noncomputable def asm_operand_p1 (C : Cal) (K : SV → ER) (a0 : SV) (a1 : SV) : ER :=
  eCallR Tryz.prog C 61 [a1, (.int .i64 (-2147483648)), (.int .i64 2147483647)] 2 fun x11 => eConvS Tryz.prog 2 21 x11 fun x12 => eNilCk a0 fun x13 => eFieldAddr Tryz.prog 57 x13 4 fun x14 => eStore Tryz.prog 21 x14 x12 <| K (.tup [])
noncomputable def asm_operand_e (C : Cal) (N : Nat) (a0 a1 : SV) (K : SV → ER) : ER :=
  eCallR Tryz.prog C 106 [a1] 4 fun x1 => eIfV x1
  (asm_operand_p0 C K a0 a1)
  (asm_operand_p1 C K a0 a1)
theorem asm_operand_ee (C : Cal) (N : Nat) (a0 a1 : SV) (K : SV → ER) : eBody Tryz.prog C N Tryz.f104 (Tryz.f104.body.getD .skip) asm_operand_ea [a0, a1] K = asm_operand_e C N a0 a1 K := by kernel_rfl
noncomputable def l104 : LeafT := fun C N args K => match args with
  | [a0, a1] => asm_operand_e C N a0 a1 K
  | _ => eF
theorem lok104 : LeafOk Tryz.prog 104 l104 := .inl ⟨Tryz.f104, Tryz.f104.body.getD .skip, asm_operand_ea, Tryz.func104, by kernel_rfl, Tryz.call104, fun C N args K H e => by
  unfold l104 at e
  split at e
  · rw [asm_operand_ee]; exact e
  · exact eF_no e⟩

/- halberd/asm.place -/
def asm_place_ea : Ann := .two (.none) (.two (.none) (.two (.none) (.join (.none) (.two (.two (.none) (.two (.none) (.two (.two (.none) (.none)) (.none)))) (.two (.none) (.two (.none) (.two (.ord [0, 1, 2, 4, 5, 6, 3, 7, 8, 9, 10]) (.none))))) [])))
noncomputable def asm_place_p0 (C : Cal) (K : SV → ER) (x5 : SV) : ER :=
  eCallR Tryz.prog C 96 [x5, (.str [45])] 3 fun x18 => eBin Tryz.prog .geq 3 false x18 (.int .i64 0) fun x19 => eCallR Tryz.prog C 29 [x19] 0 fun x20 => eSliceS Tryz.prog 9 x5 none (some (.v x18)) none fun x21 => eSliceS Tryz.prog 9 x5 (some (.v x18)) none none fun x22 => eCallR Tryz.prog C 103 [x21] 5 fun x23 => eCallR Tryz.prog C 61 [x22, (.int .i64 (-32768)), (.int .i64 (-1))] 2 fun x24 => eConvS Tryz.prog 2 52 x24 fun x25 => K (.tup [x23, x25])
noncomputable def asm_place_p1 (C : Cal) (K : SV → ER) (x5 : SV) : ER :=
  eCallR Tryz.prog C 59 [x5, (.str [43])] 131 fun x11 => eExtract x11 0 fun x12 => eExtract x11 1 fun x13 => eExtract x11 2 fun x14 => eIfV x14
  (eCallR Tryz.prog C 103 [x12] 5 fun x15 => eCallR Tryz.prog C 61 [x13, (.int .i64 0), (.int .i64 32767)] 2 fun x16 => eConvS Tryz.prog 2 52 x16 fun x17 => K (.tup [x15, x17]))
  (asm_place_p0 C K x5)
noncomputable def asm_place_e (C : Cal) (N : Nat) (a0 : SV) (K : SV → ER) : ER :=
  eCallR Tryz.prog C 99 [a0, (.str [91])] 38 fun x1 => eExtract x1 0 fun x2 => eExtract x1 1 fun x3 => eCallR Tryz.prog C 150 [x2, (.str [93])] 38 fun x4 => eExtract x4 0 fun x5 => eExtract x4 1 fun x6 => eJoinC (σ := Unit) (fun (k7 : Unit → ER) =>
  eIfV x3
  (eCallR Tryz.prog C 29 [x6] 0 fun x9 => k7 (()))
  (eCallR Tryz.prog C 29 [(.bool false)] 0 fun x10 => k7 (()))) fun (s8 : Unit) =>
  asm_place_p1 C K x5
theorem asm_place_ee (C : Cal) (N : Nat) (a0 : SV) (K : SV → ER) : eBody Tryz.prog C N Tryz.f105 (Tryz.f105.body.getD .skip) asm_place_ea [a0] K = asm_place_e C N a0 K := by kernel_rfl
noncomputable def l105 : LeafT := fun C N args K => match args with
  | [a0] => asm_place_e C N a0 K
  | _ => eF
theorem lok105 : LeafOk Tryz.prog 105 l105 := .inl ⟨Tryz.f105, Tryz.f105.body.getD .skip, asm_place_ea, Tryz.func105, by kernel_rfl, Tryz.call105, fun C N args K H e => by
  unfold l105 at e
  split at e
  · rw [asm_place_ee]; exact e
  · exact eF_no e⟩

/- halberd/asm.isReg -/
def asm_isReg_ea : Ann := .two (.none) (.two (.none) (.none))
noncomputable def asm_isReg_e (C : Cal) (N : Nat) (a0 : SV) (K : SV → ER) : ER :=
  eCallR Tryz.prog C 151 [a0, (.str [114])] 4 fun x1 => K x1
theorem asm_isReg_ee (C : Cal) (N : Nat) (a0 : SV) (K : SV → ER) : eBody Tryz.prog C N Tryz.f106 (Tryz.f106.body.getD .skip) asm_isReg_ea [a0] K = asm_isReg_e C N a0 K := by kernel_rfl
noncomputable def l106 : LeafT := fun C N args K => match args with
  | [a0] => asm_isReg_e C N a0 K
  | _ => eF
theorem lok106 : LeafOk Tryz.prog 106 l106 := .inl ⟨Tryz.f106, Tryz.f106.body.getD .skip, asm_isReg_ea, Tryz.func106, by kernel_rfl, Tryz.call106, fun C N args K H e => by
  unfold l106 at e
  split at e
  · rw [asm_isReg_ee]; exact e
  · exact eF_no e⟩

/- halberd/words.IsSize -/
def words_IsSize_ea : Ann := .two (.none) (.join (.none) (.none) [(2, .any)])
noncomputable def words_IsSize_p0 (a0 : SV) (k1 : SV × Unit → ER) : ER :=
  eBin Tryz.prog .eql 3 false a0 (.int .i64 2) fun x4 => eIfV x4
  (eHas .any (.bool true) (k1 ((.bool true), ())))
  (eBin Tryz.prog .eql 3 false a0 (.int .i64 4) fun x5 => eIfV x5
  (eHas .any (.bool true) (k1 ((.bool true), ())))
  (eBin Tryz.prog .eql 3 false a0 (.int .i64 8) fun x6 => eHas .any x6 (k1 (x6, ()))))
noncomputable def words_IsSize_e (C : Cal) (N : Nat) (a0 : SV) (K : SV → ER) : ER :=
  eJoinC (σ := SV × Unit) (fun (k1 : SV × Unit → ER) =>
  eBin Tryz.prog .eql 3 false a0 (.int .i64 1) fun x3 => eIfV x3
  (eHas .any (.bool true) (k1 ((.bool true), ())))
  (words_IsSize_p0 a0 k1)) fun (s2 : SV × Unit) =>
  K s2.1
theorem words_IsSize_ee (C : Cal) (N : Nat) (a0 : SV) (K : SV → ER) : eBody Tryz.prog C N Tryz.f107 (Tryz.f107.body.getD .skip) words_IsSize_ea [a0] K = words_IsSize_e C N a0 K := by kernel_rfl
noncomputable def l107 : LeafT := fun C N args K => match args with
  | [a0] => words_IsSize_e C N a0 K
  | _ => eF
theorem lok107 : LeafOk Tryz.prog 107 l107 := .inl ⟨Tryz.f107, Tryz.f107.body.getD .skip, words_IsSize_ea, Tryz.func107, by kernel_rfl, Tryz.call107, fun C N args K H e => by
  unfold l107 at e
  split at e
  · rw [words_IsSize_ee]; exact e
  · exact eF_no e⟩

/- unicode/utf8.RuneCountInString -/
def unicode_utf8_RuneCountInString_ea : Ann := .two (.none) (.two (.two (.none) (.sub (.loop [(2, .any)] (.two (.none) (.two (.two (.none) (.none)) (.sub (.none))))))) (.two (.none) (.none)))
noncomputable def unicode_utf8_RuneCountInString_e (C : Cal) (N : Nat) (a0 : SV) (K : SV → ER) : ER :=
  eRange Tryz.prog 9 a0 fun x1 => eHas .any (.int .i64 0) (eIter (σ := SV × Unit) (fun (s3 : SV × Unit) (k2 : SV × Unit → ER) =>
  eNextV x1 (fun a4 c5 => eBin Tryz.prog .add 3 false s3.1 (.int .i64 1) fun x6 => eHas .any x6 (k2 (x6, ())))
  (K s3.1)) N ((.int .i64 0), ()))
theorem unicode_utf8_RuneCountInString_ee (C : Cal) (N : Nat) (a0 : SV) (K : SV → ER) : eBody Tryz.prog C N Tryz.f142 (Tryz.f142.body.getD .skip) unicode_utf8_RuneCountInString_ea [a0] K = unicode_utf8_RuneCountInString_e C N a0 K := by kernel_rfl
noncomputable def l142 : LeafT := fun C N args K => match args with
  | [a0] => unicode_utf8_RuneCountInString_e C N a0 K
  | _ => eF
theorem lok142 : LeafOk Tryz.prog 142 l142 := .inl ⟨Tryz.f142, Tryz.f142.body.getD .skip, unicode_utf8_RuneCountInString_ea, Tryz.func142, by kernel_rfl, Tryz.call142, fun C N args K H e => by
  unfold l142 at e
  split at e
  · rw [unicode_utf8_RuneCountInString_ee]; exact e
  · exact eF_no e⟩

/- unicode/utf8.DecodeRuneInString -/
def unicode_utf8_DecodeRuneInString_ea : Ann := .two (.none) (.two (.join (.none) (.two (.two (.none) (.none)) (.none)) [(10, .any)]) (.none))
noncomputable def unicode_utf8_DecodeRuneInString_p0 (a0 : SV) (k1 : SV × Unit → ER) : ER :=
  eBin Tryz.prog .neq 9 false a0 (.str []) fun x3 => eIfV x3
  (eIndexS Tryz.prog 9 a0 (.int .i64 0) fun x4 => eBin Tryz.prog .lss 5 false x4 (.int .u8 128) fun x5 => eHas .any x5 (k1 (x5, ())))
  (eHas .any (.bool false) (k1 ((.bool false), ())))
noncomputable def unicode_utf8_DecodeRuneInString_p1 (C : Cal) (K : SV → ER) (a0 : SV) (s2 : SV × Unit) : ER :=
  eIfV s2.1
  (eIndexS Tryz.prog 9 a0 (.int .i64 0) fun x6 => eConvS Tryz.prog 5 21 x6 fun x7 => K (.tup [x7, (.int .i64 1)]))
  (eCallR Tryz.prog C 169 [a0] 213 fun x8 => eExtract x8 0 fun x9 => eExtract x8 1 fun x10 => K (.tup [x9, x10]))
noncomputable def unicode_utf8_DecodeRuneInString_e (C : Cal) (N : Nat) (a0 : SV) (K : SV → ER) : ER :=
  eJoinC (σ := SV × Unit) (fun (k1 : SV × Unit → ER) =>
  unicode_utf8_DecodeRuneInString_p0 a0 k1) fun (s2 : SV × Unit) =>
  unicode_utf8_DecodeRuneInString_p1 C K a0 s2
theorem unicode_utf8_DecodeRuneInString_ee (C : Cal) (N : Nat) (a0 : SV) (K : SV → ER) : eBody Tryz.prog C N Tryz.f143 (Tryz.f143.body.getD .skip) unicode_utf8_DecodeRuneInString_ea [a0] K = unicode_utf8_DecodeRuneInString_e C N a0 K := by kernel_rfl
noncomputable def l143 : LeafT := fun C N args K => match args with
  | [a0] => unicode_utf8_DecodeRuneInString_e C N a0 K
  | _ => eF
theorem lok143 : LeafOk Tryz.prog 143 l143 := .inl ⟨Tryz.f143, Tryz.f143.body.getD .skip, unicode_utf8_DecodeRuneInString_ea, Tryz.func143, by kernel_rfl, Tryz.call143, fun C N args K H e => by
  unfold l143 at e
  split at e
  · rw [unicode_utf8_DecodeRuneInString_ee]; exact e
  · exact eF_no e⟩

end Go.Proofs.YtahmmlebelhamaaGreatDoor

set_option linter.unusedVariables false
set_option maxRecDepth 100000
namespace Go.Proofs.YtahmmlebelhamaaGreatDoor
open Go.Hl
/- internal/stringslite.CutPrefix -/
def internal_stringslite_CutPrefix_ea : Ann := .two (.none) (.two (.two (.none) (.two (.two (.none) (.none)) (.none))) (.two (.none) (.none)))
noncomputable def internal_stringslite_CutPrefix_e (C : Cal) (N : Nat) (a0 a1 : SV) (K : SV → ER) : ER :=
  eCallR Tryz.prog C 174 [a0, a1] 4 fun x1 => eUnS .not x1 fun x2 => eIfV x2
  (K (.tup [a0, (.bool false)]))
  (eLenS Tryz.prog [9] [a1] fun x3 => eSliceS Tryz.prog 9 a0 (some (.v x3)) none none fun x4 => K (.tup [x4, (.bool true)]))
theorem internal_stringslite_CutPrefix_ee (C : Cal) (N : Nat) (a0 a1 : SV) (K : SV → ER) : eBody Tryz.prog C N Tryz.f146 (Tryz.f146.body.getD .skip) internal_stringslite_CutPrefix_ea [a0, a1] K = internal_stringslite_CutPrefix_e C N a0 a1 K := by kernel_rfl
noncomputable def l146 : LeafT := fun C N args K => match args with
  | [a0, a1] => internal_stringslite_CutPrefix_e C N a0 a1 K
  | _ => eF
theorem lok146 : LeafOk Tryz.prog 146 l146 := .inl ⟨Tryz.f146, Tryz.f146.body.getD .skip, internal_stringslite_CutPrefix_ea, Tryz.func146, by kernel_rfl, Tryz.call146, fun C N args K H e => by
  unfold l146 at e
  split at e
  · rw [internal_stringslite_CutPrefix_ee]; exact e
  · exact eF_no e⟩

/- strconv.toError -/
def strconv_toError_ea : Ann := .two (.none) (.two (.two (.none) (.sub (.two (.none) (.two (.two (.none) (.none)) (.two (.none) (.two (.two (.none) (.none)) (.two (.none) (.two (.two (.none) (.none)) (.two (.none) (.two (.two (.none) (.none)) (.none))))))))))) (.two (.none) (.none)))
noncomputable def strconv_toError_p0 (C : Cal) (K : SV → ER) (a0 : SV) (a1 : SV) (a3 : SV) (a4 : SV) : ER :=
  eMakeIface Tryz.prog 230 (.int .i64 4) fun x13 => eBin Tryz.prog .eql 126 false a4 x13 fun x14 => eIfV x14
  (eCallR Tryz.prog C 179 [a0, a1, a3] 233 fun x15 => eMakeIface Tryz.prog 233 x15 fun x16 => K x16)
  (K a4)
noncomputable def strconv_toError_p1 (C : Cal) (K : SV → ER) (a0 : SV) (a1 : SV) (a2 : SV) (a3 : SV) (a4 : SV) : ER :=
  eMakeIface Tryz.prog 230 (.int .i64 3) fun x9 => eBin Tryz.prog .eql 126 false a4 x9 fun x10 => eIfV x10
  (eCallR Tryz.prog C 178 [a0, a1, a2] 233 fun x11 => eMakeIface Tryz.prog 233 x11 fun x12 => K x12)
  (strconv_toError_p0 C K a0 a1 a3 a4)
noncomputable def strconv_toError_p2 (C : Cal) (K : SV → ER) (a0 : SV) (a1 : SV) (a2 : SV) (a3 : SV) (a4 : SV) : ER :=
  eMakeIface Tryz.prog 230 (.int .i64 1) fun x5 => eBin Tryz.prog .eql 126 false a4 x5 fun x6 => eIfV x6
  (eCallR Tryz.prog C 177 [a0, a1] 233 fun x7 => eMakeIface Tryz.prog 233 x7 fun x8 => K x8)
  (strconv_toError_p1 C K a0 a1 a2 a3 a4)
noncomputable def strconv_toError_e (C : Cal) (N : Nat) (a0 a1 a2 a3 a4 : SV) (K : SV → ER) : ER :=
  eMakeIface Tryz.prog 230 (.int .i64 2) fun x1 => eBin Tryz.prog .eql 126 false a4 x1 fun x2 => eIfV x2
  (eCallR Tryz.prog C 176 [a0, a1] 233 fun x3 => eMakeIface Tryz.prog 233 x3 fun x4 => K x4)
  (strconv_toError_p2 C K a0 a1 a2 a3 a4)
theorem strconv_toError_ee (C : Cal) (N : Nat) (a0 a1 a2 a3 a4 : SV) (K : SV → ER) : eBody Tryz.prog C N Tryz.f148 (Tryz.f148.body.getD .skip) strconv_toError_ea [a0, a1, a2, a3, a4] K = strconv_toError_e C N a0 a1 a2 a3 a4 K := by kernel_rfl
noncomputable def l148 : LeafT := fun C N args K => match args with
  | [a0, a1, a2, a3, a4] => strconv_toError_e C N a0 a1 a2 a3 a4 K
  | _ => eF
theorem lok148 : LeafOk Tryz.prog 148 l148 := .inl ⟨Tryz.f148, Tryz.f148.body.getD .skip, strconv_toError_ea, Tryz.func148, by kernel_rfl, Tryz.call148, fun C N args K H e => by
  unfold l148 at e
  split at e
  · rw [strconv_toError_ee]; exact e
  · exact eF_no e⟩

/- strings.CutSuffix -/
def strings_CutSuffix_ea : Ann := .two (.none) (.two (.none) (.none))
noncomputable def strings_CutSuffix_e (C : Cal) (N : Nat) (a0 a1 : SV) (K : SV → ER) : ER :=
  eCallR Tryz.prog C 181 [a0, a1] 38 fun x1 => eExtract x1 0 fun x2 => eExtract x1 1 fun x3 => K (.tup [x2, x3])
theorem strings_CutSuffix_ee (C : Cal) (N : Nat) (a0 a1 : SV) (K : SV → ER) : eBody Tryz.prog C N Tryz.f150 (Tryz.f150.body.getD .skip) strings_CutSuffix_ea [a0, a1] K = strings_CutSuffix_e C N a0 a1 K := by kernel_rfl
noncomputable def l150 : LeafT := fun C N args K => match args with
  | [a0, a1] => strings_CutSuffix_e C N a0 a1 K
  | _ => eF
theorem lok150 : LeafOk Tryz.prog 150 l150 := .inl ⟨Tryz.f150, Tryz.f150.body.getD .skip, strings_CutSuffix_ea, Tryz.func150, by kernel_rfl, Tryz.call150, fun C N args K H e => by
  unfold l150 at e
  split at e
  · rw [strings_CutSuffix_ee]; exact e
  · exact eF_no e⟩

/- strings.HasPrefix -/
def strings_HasPrefix_ea : Ann := .two (.none) (.two (.none) (.none))
noncomputable def strings_HasPrefix_e (C : Cal) (N : Nat) (a0 a1 : SV) (K : SV → ER) : ER :=
  eCallR Tryz.prog C 174 [a0, a1] 4 fun x1 => K x1
theorem strings_HasPrefix_ee (C : Cal) (N : Nat) (a0 a1 : SV) (K : SV → ER) : eBody Tryz.prog C N Tryz.f151 (Tryz.f151.body.getD .skip) strings_HasPrefix_ea [a0, a1] K = strings_HasPrefix_e C N a0 a1 K := by kernel_rfl
noncomputable def l151 : LeafT := fun C N args K => match args with
  | [a0, a1] => strings_HasPrefix_e C N a0 a1 K
  | _ => eF
theorem lok151 : LeafOk Tryz.prog 151 l151 := .inl ⟨Tryz.f151, Tryz.f151.body.getD .skip, strings_HasPrefix_ea, Tryz.func151, by kernel_rfl, Tryz.call151, fun C N args K H e => by
  unfold l151 at e
  split at e
  · rw [strings_HasPrefix_ee]; exact e
  · exact eF_no e⟩

/- unicode/utf8.decodeRuneInStringSlow -/
def unicode_utf8_decodeRuneInStringSlow_ea : Ann := .two (.none) (.two (.none) (.two (.two (.none) (.two (.two (.none) (.none)) (.none))) (.two (.none) (.two (.none) (.two (.two (.none) (.two (.two (.none) (.two (.none) (.none))) (.none))) (.two (.none) (.two (.none) (.two (.two (.none) (.two (.two (.none) (.none)) (.none))) (.two (.none) (.two (.join (.none) (.two (.two (.none) (.none)) (.none)) [(57, .any)]) (.two (.two (.none) (.two (.two (.none) (.none)) (.none))) (.two (.none) (.two (.join (.none) (.two (.two (.none) (.none)) (.none)) [(75, .any)]) (.two (.two (.none) (.two (.two (.none) (.none)) (.none))) (.two (.none) (.two (.join (.none) (.two (.two (.none) (.none)) (.none)) [(98, .any)]) (.two (.none) (.none))))))))))))))))))
noncomputable def unicode_utf8_decodeRuneInStringSlow_e (C : Cal) (N : Nat) (a0 : SV) (K : SV → ER) : ER :=
  eLenS Tryz.prog [9] [a0] fun x1 => eBin Tryz.prog .lss 3 false x1 (.int .i64 1) fun x2 => eIfV x2
  (K (.tup [(.int .i32 65533), (.int .i64 0)]))
  (eIndexS Tryz.prog 9 a0 (.int .i64 0) fun x3 => eF)
theorem unicode_utf8_decodeRuneInStringSlow_ee (C : Cal) (N : Nat) (a0 : SV) (K : SV → ER) : eBody Tryz.prog C N Tryz.f169 (Tryz.f169.body.getD .skip) unicode_utf8_decodeRuneInStringSlow_ea [a0] K = unicode_utf8_decodeRuneInStringSlow_e C N a0 K := by kernel_rfl
noncomputable def l169 : LeafT := fun C N args K => match args with
  | [a0] => unicode_utf8_decodeRuneInStringSlow_e C N a0 K
  | _ => eF
theorem lok169 : LeafOk Tryz.prog 169 l169 := .inl ⟨Tryz.f169, Tryz.f169.body.getD .skip, unicode_utf8_decodeRuneInStringSlow_ea, Tryz.func169, by kernel_rfl, Tryz.call169, fun C N args K H e => by
  unfold l169 at e
  split at e
  · rw [unicode_utf8_decodeRuneInStringSlow_ee]; exact e
  · exact eF_no e⟩

/- internal/stringslite.HasPrefix -/
def internal_stringslite_HasPrefix_ea : Ann := .two (.none) (.join (.none) (.none) [(4, .any)])
noncomputable def internal_stringslite_HasPrefix_p0 (a0 : SV) (a1 : SV) (k1 : SV × Unit → ER) : ER :=
  eLenS Tryz.prog [9] [a0] fun x3 => eLenS Tryz.prog [9] [a1] fun x4 => eBin Tryz.prog .geq 3 false x3 x4 fun x5 => eIfV x5
  (eLenS Tryz.prog [9] [a1] fun x6 => eSliceS Tryz.prog 9 a0 none (some (.v x6)) none fun x7 => eBin Tryz.prog .eql 9 false x7 a1 fun x8 => eHas .any x8 (k1 (x8, ())))
  (eHas .any (.bool false) (k1 ((.bool false), ())))
noncomputable def internal_stringslite_HasPrefix_e (C : Cal) (N : Nat) (a0 a1 : SV) (K : SV → ER) : ER :=
  eJoinC (σ := SV × Unit) (fun (k1 : SV × Unit → ER) =>
  internal_stringslite_HasPrefix_p0 a0 a1 k1) fun (s2 : SV × Unit) =>
  K s2.1
theorem internal_stringslite_HasPrefix_ee (C : Cal) (N : Nat) (a0 a1 : SV) (K : SV → ER) : eBody Tryz.prog C N Tryz.f174 (Tryz.f174.body.getD .skip) internal_stringslite_HasPrefix_ea [a0, a1] K = internal_stringslite_HasPrefix_e C N a0 a1 K := by kernel_rfl
noncomputable def l174 : LeafT := fun C N args K => match args with
  | [a0, a1] => internal_stringslite_HasPrefix_e C N a0 a1 K
  | _ => eF
theorem lok174 : LeafOk Tryz.prog 174 l174 := .inl ⟨Tryz.f174, Tryz.f174.body.getD .skip, internal_stringslite_HasPrefix_ea, Tryz.func174, by kernel_rfl, Tryz.call174, fun C N args K H e => by
  unfold l174 at e
  split at e
  · rw [internal_stringslite_HasPrefix_ee]; exact e
  · exact eF_no e⟩

/- strconv.syntaxError -/
def strconv_syntaxError_ea : Ann := .two (.none) (.two (.ord [0, 1, 3, 2, 4, 5, 6]) (.none))
noncomputable def strconv_syntaxError_e (C : Cal) (N : Nat) (a0 a1 : SV) (K : SV → ER) : ER :=
  eF
theorem strconv_syntaxError_ee (C : Cal) (N : Nat) (a0 a1 : SV) (K : SV → ER) : eBody Tryz.prog C N Tryz.f176 (Tryz.f176.body.getD .skip) strconv_syntaxError_ea [a0, a1] K = strconv_syntaxError_e C N a0 a1 K := by kernel_rfl
noncomputable def l176 : LeafT := fun C N args K => match args with
  | [a0, a1] => strconv_syntaxError_e C N a0 a1 K
  | _ => eF
theorem lok176 : LeafOk Tryz.prog 176 l176 := .inl ⟨Tryz.f176, Tryz.f176.body.getD .skip, strconv_syntaxError_ea, Tryz.func176, by kernel_rfl, Tryz.call176, fun C N args K H e => by
  unfold l176 at e
  split at e
  · rw [strconv_syntaxError_ee]; exact e
  · exact eF_no e⟩

/- strconv.rangeError -/
def strconv_rangeError_ea : Ann := .two (.none) (.two (.ord [0, 1, 3, 2, 4, 5, 6]) (.none))
noncomputable def strconv_rangeError_e (C : Cal) (N : Nat) (a0 a1 : SV) (K : SV → ER) : ER :=
  eF
theorem strconv_rangeError_ee (C : Cal) (N : Nat) (a0 a1 : SV) (K : SV → ER) : eBody Tryz.prog C N Tryz.f177 (Tryz.f177.body.getD .skip) strconv_rangeError_ea [a0, a1] K = strconv_rangeError_e C N a0 a1 K := by kernel_rfl
noncomputable def l177 : LeafT := fun C N args K => match args with
  | [a0, a1] => strconv_rangeError_e C N a0 a1 K
  | _ => eF
theorem lok177 : LeafOk Tryz.prog 177 l177 := .inl ⟨Tryz.f177, Tryz.f177.body.getD .skip, strconv_rangeError_ea, Tryz.func177, by kernel_rfl, Tryz.call177, fun C N args K H e => by
  unfold l177 at e
  split at e
  · rw [strconv_rangeError_ee]; exact e
  · exact eF_no e⟩

end Go.Proofs.YtahmmlebelhamaaGreatDoor
