/- Texts of this proof, part V1: parts of it in the order in which they build. -/
import Derived.Test.YtpbhanglcophbaaGreatV
set_option linter.unusedVariables false
namespace Go.Proofs.YtpbhanglcophbaaGreat
open Go.Hl
/- (*halberd/xfer.row).arsh -/
def xfer_row_arsh (r_0 : Option Addr) (KP K : Value → Pr) : Pr :=
  pSome r_0 fun a1 => pLd (.int .u64) (a1.add 14) fun (x2 : Int) => pIf ((x2 : Int) != 64)
  (K (.tuple [].toArray))
  (pSome r_0 fun a3 => pLd .bool (a3.add 13) fun (x4 : Bool) => pIf x4
  (pSome r_0 fun a5 => pSome r_0 fun a6 => pLd (.int .u64) (a5.add 12) fun (x7 : Int) => pLd (.int .u64) (a6.add 14) fun (x8 : Int) => pAssert ((x8 : Int) ≠ 0) <| pSome r_0 fun a9 => pLdA 2 ((a9.add 0).add 0) fun x10 => pCall Tryz.prog 126 [(.agg x10.toArray), (.int .u64 ((x7 : Int).tmod x8))] KP (.one .agg) fun (r11 : List Value) => pSome r_0 fun a12 => pStA 2 ((a12.add 15).add 0) r11 <| pSome r_0 fun a13 => pSome r_0 fun a14 => pLd (.int .i64) ((a13.add 0).add 4) fun (x15 : Int) => pAssert (0 ≤ (((x7 : Int).tmod x8) : Int)) <| pLd (.int .i64) ((a14.add 0).add 5) fun (x16 : Int) => pAssert (0 ≤ (((x7 : Int).tmod x8) : Int)) <| pCall Tryz.prog 118 [(.pointer r_0), (.int .i64 ((x15 : Int).fdiv (2 ^ (min (((x7 : Int).tmod x8) : Int).toNat (IntKind.i64).bits)))), (.int .i64 ((x16 : Int).fdiv (2 ^ (min (((x7 : Int).tmod x8) : Int).toNat (IntKind.i64).bits))))] KP (.many []) fun (r17 : Unit) => K (.tuple [].toArray))
  (pSome r_0 fun a18 => pSome r_0 fun a19 => pLd (.int .i64) ((a18.add 0).add 4) fun (x20 : Int) => pLd (.int .i64) ((a19.add 0).add 5) fun (x21 : Int) => pCall Tryz.prog 118 [(.pointer r_0), (.int .i64 (if 0 < x20 then 0 else x20)), (.int .i64 (if (-1) > x21 then (-1) else x21))] KP (.many []) fun (r22 : Unit) => K (.tuple [].toArray)))
def xfer_row_arsh_ann : Ann := .sub (.two (.none) (.two (.none) (.two (.none) (.two (.two (.ord [0, 1, 2, 4, 5, 6, 3, 7, 8, 9]) (.two (.none) (.ord [0, 1, 2, 3, 4, 6, 8, 9, 10, 11, 13, 5, 7, 12, 14, 15]))) (.ord [0, 1, 2, 3, 4, 7, 8, 9, 10, 5, 6, 11, 12, 13])))))
theorem xfer_row_arsh_eq (r_0 : Option Addr) (KP K : Value → Pr) : vcBody Tryz.prog Tryz.f83 (Tryz.f83.body.getD .skip) xfer_row_arsh_ann [(.pointer r_0)] KP K = xfer_row_arsh r_0 KP K := by kernel_rfl
theorem xfer_row_arsh_call (r_0 : Option Addr) {KP K : Value → Pr} {h : Heap} (s : xfer_row_arsh r_0 (fgt KP) (fgt K) h) : WpCall Tryz.prog 83 [(.pointer r_0)].toArray KP K h :=
  WpCall.of_vc Tryz.mixed Tryz.func83 (by kernel_rfl) Tryz.call83 xfer_row_arsh_ann (by rw [xfer_row_arsh_eq]; exact s)

/- (*halberd/xfer.row).neg -/
def xfer_row_neg (r_0 : Option Addr) (KP K : Value → Pr) : Pr :=
  pSome r_0 fun a1 => pLdA 6 (a1.add 0) fun x2 => pCall Tryz.prog 18 [(.int .u64 0)] KP (.one .agg) fun (r3 : List Value) => pKeep (loadF Tryz.prog 26 (.pointer (some (a1.add 0))) (.agg x2.toArray)) <| pSome r_0 fun a4 => pStA 6 (a4.add 6) x2 <| pSome r_0 fun a5 => pStA 6 (a5.add 0) r3 <| pCall Tryz.prog 74 [(.pointer r_0)] KP (.many []) fun (r6 : Unit) => K (.tuple [].toArray)
def xfer_row_neg_ann : Ann := .two (.ord [0, 1, 2, 3, 4, 5, 6, 7, 8, 9, 10, 11, 12]) (.none)
theorem xfer_row_neg_eq (r_0 : Option Addr) (KP K : Value → Pr) : vcBody Tryz.prog Tryz.f84 (Tryz.f84.body.getD .skip) xfer_row_neg_ann [(.pointer r_0)] KP K = xfer_row_neg r_0 KP K := by kernel_rfl
theorem xfer_row_neg_call (r_0 : Option Addr) {KP K : Value → Pr} {h : Heap} (s : xfer_row_neg r_0 (fgt KP) (fgt K) h) : WpCall Tryz.prog 84 [(.pointer r_0)].toArray KP K h :=
  WpCall.of_vc Tryz.mixed Tryz.func84 (by kernel_rfl) Tryz.call84 xfer_row_neg_ann (by rw [xfer_row_neg_eq]; exact s)

/- (*halberd/xfer.row).mov -/
def xfer_row_mov (r_0 : Option Addr) (KP K : Value → Pr) : Pr :=
  pSome r_0 fun a1 => pLdA 6 (a1.add 6) fun x2 => pSome r_0 fun a3 => pStA 6 (a3.add 15) x2 <| K (.tuple [].toArray)
def xfer_row_mov_ann : Ann := .none
theorem xfer_row_mov_eq (r_0 : Option Addr) (KP K : Value → Pr) : vcBody Tryz.prog Tryz.f85 (Tryz.f85.body.getD .skip) xfer_row_mov_ann [(.pointer r_0)] KP K = xfer_row_mov r_0 KP K := by kernel_rfl
theorem xfer_row_mov_call (r_0 : Option Addr) {KP K : Value → Pr} {h : Heap} (s : xfer_row_mov r_0 (fgt KP) (fgt K) h) : WpCall Tryz.prog 85 [(.pointer r_0)].toArray KP K h :=
  WpCall.of_vc Tryz.mixed Tryz.func85 (by kernel_rfl) Tryz.call85 xfer_row_mov_ann (by rw [xfer_row_mov_eq]; exact s)

/- halberd/tnum.All -/
def tnum_All  (KP K : Value → Pr) : Pr :=
  pNew (zc Tryz.prog 24) fun b1 => pStA 2 ⟨b1, 0, none⟩ (lay (zc Tryz.prog 24) [(1, (.int .u64 18446744073709551615))]) <| pLdA 2 ⟨b1, 0, none⟩ fun x2 => K (.agg x2.toArray)
def tnum_All_ann : Ann := .two (.none) (.two (.none) (.none))
theorem tnum_All_eq  (KP K : Value → Pr) : vcBody Tryz.prog Tryz.f86 (Tryz.f86.body.getD .skip) tnum_All_ann [] KP K = tnum_All  KP K := by kernel_rfl
theorem tnum_All_call  {KP K : Value → Pr} {h : Heap} (s : tnum_All  (fgt KP) (fgt K) h) : WpCall Tryz.prog 86 [].toArray KP K h :=
  WpCall.of_vc Tryz.mixed Tryz.func86 (by kernel_rfl) Tryz.call86 tnum_All_ann (by rw [tnum_All_eq]; exact s)

/- halberd/words.Zext -/
def words_Zext (x_0 : Int) (n_1 : Int) (KP K : Value → Pr) : Pr :=
  pCall Tryz.prog 90 [(.int .i64 n_1)] KP (.one .bool) fun (r1 : Bool) => pIf (!r1)
  (K (.int .u64 x_0))
  (pCall Tryz.prog 92 [(.int .i64 (IntKind.i64.wrap (8 * n_1)))] KP (.one (.int .u64)) fun (r2 : Int) => K (.int .u64 (bitsV .and .u64 x_0 r2)))
def words_Zext_ann : Ann := .two (.none) (.two (.two (.none) (.two (.two (.none) (.none)) (.none))) (.two (.none) (.none)))
theorem words_Zext_eq (x_0 : Int) (n_1 : Int) (KP K : Value → Pr) : vcBody Tryz.prog Tryz.f87 (Tryz.f87.body.getD .skip) words_Zext_ann [(.int .u64 x_0), (.int .i64 n_1)] KP K = words_Zext x_0 n_1 KP K := by kernel_rfl
theorem words_Zext_call (x_0 : Int) (n_1 : Int) {KP K : Value → Pr} {h : Heap} (s : words_Zext x_0 n_1 (fgt KP) (fgt K) h) : WpCall Tryz.prog 87 [(.int .u64 x_0), (.int .i64 n_1)].toArray KP K h :=
  WpCall.of_vc Tryz.mixed Tryz.func87 (by kernel_rfl) Tryz.call87 words_Zext_ann (by rw [words_Zext_eq]; exact s)

/- halberd/alu.shift -/
def alu_shift (op_0 : Int) (bits_1 : Int) (a_2 : Int) (b_3 : Int) (KP K : Value → Pr) : Pr :=
  pAssert ((bits_1 : Int) ≠ 0) <| pIf ((op_0 : Int) == 96)
  (pAssert (0 ≤ (((b_3 : Int).tmod bits_1) : Int)) <| K (.tuple [(.int .u64 (IntKind.u64.wrap (a_2 * 2 ^ (min (((b_3 : Int).tmod bits_1) : Int).toNat (IntKind.u64).bits)))), (.bool true)].toArray))
  (pIf ((op_0 : Int) == 112)
  (pAssert (0 ≤ (((b_3 : Int).tmod bits_1) : Int)) <| K (.tuple [(.int .u64 ((a_2 : Int).fdiv (2 ^ (min (((b_3 : Int).tmod bits_1) : Int).toNat (IntKind.u64).bits)))), (.bool true)].toArray))
  (pIf ((op_0 : Int) == 192)
  (pAssert ((8 : Int) ≠ 0) <| pCall Tryz.prog 127 [(.int .u64 a_2), (.int .i64 (IntKind.i64.wrap (((IntKind.i64.wrap bits_1) : Int).tdiv 8)))] KP (.one (.int .u64)) fun (r1 : Int) => pAssert (0 ≤ (((b_3 : Int).tmod bits_1) : Int)) <| K (.tuple [(.int .u64 (IntKind.u64.wrap (((IntKind.i64.wrap r1) : Int).fdiv (2 ^ (min (((b_3 : Int).tmod bits_1) : Int).toNat (IntKind.i64).bits))))), (.bool true)].toArray))
  (K (.tuple [(.int .u64 0), (.bool false)].toArray))))
def alu_shift_ann : Ann := .two (.none) (.two (.none) (.two (.two (.none) (.sub (.two (.none) (.two (.two (.none) (.none)) (.two (.none) (.two (.two (.none) (.none)) (.two (.none) (.two (.two (.none) (.none)) (.none))))))))) (.two (.none) (.none))))
theorem alu_shift_eq (op_0 : Int) (bits_1 : Int) (a_2 : Int) (b_3 : Int) (KP K : Value → Pr) : vcBody Tryz.prog Tryz.f88 (Tryz.f88.body.getD .skip) alu_shift_ann [(.int .u8 op_0), (.int .u64 bits_1), (.int .u64 a_2), (.int .u64 b_3)] KP K = alu_shift op_0 bits_1 a_2 b_3 KP K := by kernel_rfl
theorem alu_shift_call (op_0 : Int) (bits_1 : Int) (a_2 : Int) (b_3 : Int) {KP K : Value → Pr} {h : Heap} (s : alu_shift op_0 bits_1 a_2 b_3 (fgt KP) (fgt K) h) : WpCall Tryz.prog 88 [(.int .u8 op_0), (.int .u64 bits_1), (.int .u64 a_2), (.int .u64 b_3)].toArray KP K h :=
  WpCall.of_vc Tryz.mixed Tryz.func88 (by kernel_rfl) Tryz.call88 alu_shift_ann (by rw [alu_shift_eq]; exact s)

/- halberd/alu.plain -/
def alu_plain  (KP K : Value → Pr) : Pr :=
  pNewObj (.map []) fun b1 => pPut (.int .u8) (some b1) (.int .u8 0) (.func (.func 128) [].toArray [].toArray) <| pPut (.int .u8) (some b1) (.int .u8 16) (.func (.func 129) [].toArray [].toArray) <| pPut (.int .u8) (some b1) (.int .u8 32) (.func (.func 130) [].toArray [].toArray) <| pPut (.int .u8) (some b1) (.int .u8 48) (.func (.func 131) [].toArray [].toArray) <| pPut (.int .u8) (some b1) (.int .u8 144) (.func (.func 132) [].toArray [].toArray) <| pPut (.int .u8) (some b1) (.int .u8 64) (.func (.func 133) [].toArray [].toArray) <| pPut (.int .u8) (some b1) (.int .u8 80) (.func (.func 134) [].toArray [].toArray) <| pPut (.int .u8) (some b1) (.int .u8 160) (.func (.func 135) [].toArray [].toArray) <| pPut (.int .u8) (some b1) (.int .u8 176) (.func (.func 136) [].toArray [].toArray) <| pPut (.int .u8) (some b1) (.int .u8 128) (.func (.func 137) [].toArray [].toArray) <| K (.map (some b1))
def alu_plain_ann : Ann := .two (.none) (.two (.none) (.none))
theorem alu_plain_eq  (KP K : Value → Pr) : vcBody Tryz.prog Tryz.f89 (Tryz.f89.body.getD .skip) alu_plain_ann [] KP K = alu_plain  KP K := by kernel_rfl
theorem alu_plain_call  {KP K : Value → Pr} {h : Heap} (s : alu_plain  (fgt KP) (fgt K) h) : WpCall Tryz.prog 89 [].toArray KP K h :=
  WpCall.of_vc Tryz.mixed Tryz.func89 (by kernel_rfl) Tryz.call89 alu_plain_ann (by rw [alu_plain_eq]; exact s)

/- halberd/words.IsSize -/
def words_IsSize_j1 (K : Value → Pr) (x2 : Bool) : Pr :=
  K (.bool x2)
def words_IsSize (n_0 : Int) (KP K : Value → Pr) : Pr :=
  pJoin (σ := Bool × Unit)
  (fun k1 => pIf ((n_0 : Int) == 1)
  (k1 (true, ()))
  (pIf ((n_0 : Int) == 2)
  (k1 (true, ()))
  (pIf ((n_0 : Int) == 4)
  (k1 (true, ()))
  (k1 (((n_0 : Int) == 8), ())))))
  (fun s => words_IsSize_j1 K s.1)
def words_IsSize_ann : Ann := .two (.none) (.join (.none) (.none) [(2, .bool)])
theorem words_IsSize_eq (n_0 : Int) (KP K : Value → Pr) : vcBody Tryz.prog Tryz.f90 (Tryz.f90.body.getD .skip) words_IsSize_ann [(.int .i64 n_0)] KP K = words_IsSize n_0 KP K := by kernel_rfl
theorem words_IsSize_call (n_0 : Int) {KP K : Value → Pr} {h : Heap} (s : words_IsSize n_0 (fgt KP) (fgt K) h) : WpCall Tryz.prog 90 [(.int .i64 n_0)].toArray KP K h :=
  WpCall.of_vc Tryz.mixed Tryz.func90 (by kernel_rfl) Tryz.call90 words_IsSize_ann (by rw [words_IsSize_eq]; exact s)

end Go.Proofs.YtpbhanglcophbaaGreat

set_option linter.unusedVariables false
namespace Go.Proofs.YtpbhanglcophbaaGreat
open Go.Hl
/- halberd/tnum.Cut -/
def tnum_Cut (t_0 : List Value) (n_1 : Int) (KP K : Value → Pr) : Pr :=
  pNew t_0 fun b1 => pNew (zc Tryz.prog 24) fun b2 => pLdA 2 ⟨b1, 0, none⟩ fun x3 => pCall Tryz.prog 138 [(.agg x3.toArray)] KP (.one .agg) fun (r4 : List Value) => pStA 2 ⟨b1, 0, none⟩ r4 <| pLd (.int .u64) ((⟨b1, 0, none⟩ : Addr).add 0) fun (x5 : Int) => pLd (.int .u64) ((⟨b1, 0, none⟩ : Addr).add 1) fun (x6 : Int) => pCall Tryz.prog 87 [(.int .u64 x5), (.int .i64 n_1)] KP (.one (.int .u64)) fun (r7 : Int) => pKeep (loadF Tryz.prog 22 (.pointer (some ((⟨b1, 0, none⟩ : Addr).add 1))) (.int .u64 x6)) <| pCall Tryz.prog 87 [(.int .u64 x6), (.int .i64 n_1)] KP (.one (.int .u64)) fun (r8 : Int) => pStA 2 ⟨b2, 0, none⟩ (lay (zc Tryz.prog 24) [(0, (.int .u64 r7)), (1, (.int .u64 r8))]) <| pLdA 2 ⟨b2, 0, none⟩ fun x9 => K (.agg x9.toArray)
def tnum_Cut_ann : Ann := .two (.none) (.two (.none) (.two (.ord [0, 2, 4, 6, 1, 5, 3, 7, 8, 9]) (.none)))
theorem tnum_Cut_eq (t_0 : List Value) (n_1 : Int) (KP K : Value → Pr) : vcBody Tryz.prog Tryz.f91 (Tryz.f91.body.getD .skip) tnum_Cut_ann [(.agg t_0.toArray), (.int .i64 n_1)] KP K = tnum_Cut t_0 n_1 KP K := by kernel_rfl
theorem tnum_Cut_call (t_0 : List Value) (n_1 : Int) {KP K : Value → Pr} {h : Heap} (s : tnum_Cut t_0 n_1 (fgt KP) (fgt K) h) : WpCall Tryz.prog 91 [(.agg t_0.toArray), (.int .i64 n_1)].toArray KP K h :=
  WpCall.of_vc Tryz.mixed Tryz.func91 (by kernel_rfl) Tryz.call91 tnum_Cut_ann (by rw [tnum_Cut_eq]; exact s)

/- halberd/words.Low -/
def words_Low (n_0 : Int) (KP K : Value → Pr) : Pr :=
  pIf (decide ((n_0 : Int) < 1))
  (K (.int .u64 0))
  (pIf (decide ((n_0 : Int) > 63))
  (K (.int .u64 18446744073709551615))
  (pAssert (0 ≤ (n_0 : Int)) <| K (.int .u64 (IntKind.u64.wrap ((IntKind.u64.wrap (1 * 2 ^ (min (n_0 : Int).toNat (IntKind.u64).bits))) - 1)))))
def words_Low_ann : Ann := .two (.none) (.two (.sub (.two (.none) (.two (.two (.none) (.none)) (.two (.none) (.two (.two (.none) (.none)) (.none)))))) (.two (.none) (.none)))
theorem words_Low_eq (n_0 : Int) (KP K : Value → Pr) : vcBody Tryz.prog Tryz.f92 (Tryz.f92.body.getD .skip) words_Low_ann [(.int .i64 n_0)] KP K = words_Low n_0 KP K := by kernel_rfl
theorem words_Low_call (n_0 : Int) {KP K : Value → Pr} {h : Heap} (s : words_Low n_0 (fgt KP) (fgt K) h) : WpCall Tryz.prog 92 [(.int .i64 n_0)].toArray KP K h :=
  WpCall.of_vc Tryz.mixed Tryz.func92 (by kernel_rfl) Tryz.call92 words_Low_ann (by rw [words_Low_eq]; exact s)

/- halberd/num.orAll -/
def num_orAll (x_0 : List Value) (KP K : Value → Pr) : Pr :=
  pNew x_0 fun b1 => pNew (zc Tryz.prog 26) fun b2 => pLdA 6 ⟨b1, 0, none⟩ fun x3 => pCall Tryz.prog 48 [(.agg x3.toArray)] KP (.many [.agg, .bool]) fun (r4 : (List Value) × Bool × Unit) => pNew (zc Tryz.prog 26) fun b5 => pStA 6 ⟨b5, 0, none⟩ r4.1 <| pLdA 6 ⟨b5, 0, none⟩ fun x6 => pStA 6 ⟨b2, 0, none⟩ x6 <| pLdA 6 ⟨b2, 0, none⟩ fun x7 => K (.agg x7.toArray)
def num_orAll_ann : Ann := .two (.none) (.two (.none) (.two (.none) (.none)))
theorem num_orAll_eq (x_0 : List Value) (KP K : Value → Pr) : vcBody Tryz.prog Tryz.f93 (Tryz.f93.body.getD .skip) num_orAll_ann [(.agg x_0.toArray)] KP K = num_orAll x_0 KP K := by kernel_rfl
theorem num_orAll_call (x_0 : List Value) {KP K : Value → Pr} {h : Heap} (s : num_orAll x_0 (fgt KP) (fgt K) h) : WpCall Tryz.prog 93 [(.agg x_0.toArray)].toArray KP K h :=
  WpCall.of_vc Tryz.mixed Tryz.func93 (by kernel_rfl) Tryz.call93 num_orAll_ann (by rw [num_orAll_eq]; exact s)

/- (*halberd/num.known).round -/
def num_known_round_j1 (x_0 : Option Addr) (KP : Value → Pr) (K : Value → Pr) (x42 : Bool) : Pr :=
  pIf x42
  (K (.bool false))
  (pSome x_0 fun a43 => pSome x_0 fun a44 => pSome x_0 fun a45 => pLdA 2 ((a43.add 0).add 0) fun x46 => pLd (.int .u64) ((a44.add 0).add 2) fun (x47 : Int) => pLd (.int .u64) ((a45.add 0).add 3) fun (x48 : Int) => pCall Tryz.prog 142 [(.int .u64 x47), (.int .u64 x48)] KP (.one .agg) fun (r49 : List Value) => pKeep (loadF Tryz.prog 24 (.pointer (some ((a43.add 0).add 0))) (.agg x46.toArray)) <| pCall Tryz.prog 141 [(.agg x46.toArray), (.agg r49.toArray)] KP (.many [.agg, .bool]) fun (r50 : (List Value) × Bool × Unit) => pNew (zc Tryz.prog 24) fun b51 => pStA 2 ⟨b51, 0, none⟩ r50.1 <| pLdA 2 ⟨b51, 0, none⟩ fun x52 => pSome x_0 fun a53 => pStA 2 ((a53.add 0).add 0) x52 <| K (.bool r50.2.1))
def num_known_round_j2 (x_0 : Option Addr) (KP : Value → Pr) (K : Value → Pr) : Pr :=
  pJoin (σ := Bool × Unit)
  (fun k33 => pSome x_0 fun a34 => pSome x_0 fun a35 => pLd (.int .u64) ((a34.add 0).add 2) fun (x36 : Int) => pLd (.int .u64) ((a35.add 0).add 3) fun (x37 : Int) => pIf (decide ((x36 : Int) > x37))
  (k33 (true, ()))
  (pSome x_0 fun a38 => pSome x_0 fun a39 => pLd (.int .i64) ((a38.add 0).add 4) fun (x40 : Int) => pLd (.int .i64) ((a39.add 0).add 5) fun (x41 : Int) => k33 ((decide ((x40 : Int) > x41)), ())))
  (fun s => num_known_round_j1 x_0 KP K s.1)
def num_known_round_j3 (x_0 : Option Addr) (KP : Value → Pr) (K : Value → Pr) : Pr :=
  pJoin (σ := Unit)
  (fun k23 => pSome x_0 fun a24 => pSome x_0 fun a25 => pLd (.int .i64) ((a24.add 0).add 4) fun (x26 : Int) => pLd (.int .i64) ((a25.add 0).add 5) fun (x27 : Int) => pIf ((decide ((x26 : Int) < 0)) == (decide ((x27 : Int) < 0)))
  (pSome x_0 fun a28 => pSome x_0 fun a29 => pLd (.int .i64) ((a28.add 0).add 4) fun (x30 : Int) => pLd (.int .i64) ((a29.add 0).add 5) fun (x31 : Int) => pCall Tryz.prog 139 [(.pointer x_0), (.int .u64 (IntKind.u64.wrap x30)), (.int .u64 (IntKind.u64.wrap x31))] KP (.many []) fun (r32 : Unit) => k23 (()))
  (k23 (())))
  (fun s => num_known_round_j2 x_0 KP K)
def num_known_round (x_0 : Option Addr) (KP K : Value → Pr) : Pr :=
  pSome x_0 fun a1 => pSome x_0 fun a2 => pLd (.int .u64) (((a1.add 0).add 0).add 0) fun (x3 : Int) => pLd (.int .u64) (((a2.add 0).add 0).add 1) fun (x4 : Int) => pSome x_0 fun a5 => pLd (.int .u64) (((a5.add 0).add 0).add 1) fun (x6 : Int) => pCall Tryz.prog 139 [(.pointer x_0), (.int .u64 (bitsV .andNot .u64 x3 x4)), (.int .u64 (bitsV .or .u64 (bitsV .andNot .u64 x3 x4) x6))] KP (.many []) fun (r7 : Unit) => pSome x_0 fun a8 => pSome x_0 fun a9 => pLd (.int .u64) (((a8.add 0).add 0).add 1) fun (x10 : Int) => pLd (.int .u64) (((a9.add 0).add 0).add 1) fun (x11 : Int) => pCall Tryz.prog 140 [(.pointer x_0), (.int .i64 (IntKind.i64.wrap (bitsV .or .u64 (bitsV .andNot .u64 x3 x4) (bitsV .and .u64 x10 9223372036854775808)))), (.int .i64 (IntKind.i64.wrap (bitsV .or .u64 (bitsV .andNot .u64 x3 x4) (bitsV .andNot .u64 x11 9223372036854775808))))] KP (.many []) fun (r12 : Unit) => pJoin (σ := Unit)
  (fun k13 => pSome x_0 fun a14 => pSome x_0 fun a15 => pLd (.int .u64) ((a14.add 0).add 2) fun (x16 : Int) => pLd (.int .u64) ((a15.add 0).add 3) fun (x17 : Int) => pIf (((bitsV .and .u64 x16 9223372036854775808) : Int) == (bitsV .and .u64 x17 9223372036854775808))
  (pSome x_0 fun a18 => pSome x_0 fun a19 => pLd (.int .u64) ((a18.add 0).add 2) fun (x20 : Int) => pLd (.int .u64) ((a19.add 0).add 3) fun (x21 : Int) => pCall Tryz.prog 140 [(.pointer x_0), (.int .i64 (IntKind.i64.wrap x20)), (.int .i64 (IntKind.i64.wrap x21))] KP (.many []) fun (r22 : Unit) => k13 (()))
  (k13 (())))
  (fun s => num_known_round_j3 x_0 KP K)
def num_known_round_ann : Ann := .two (.none) (.two (.ord [0, 1, 2, 3, 4, 6, 7, 8, 9, 10, 5, 11, 12, 13]) (.two (.none) (.two (.none) (.two (.ord [0, 1, 2, 3, 4, 5, 6, 11, 12, 13, 14, 15, 16, 7, 8, 9, 10, 17, 18, 19, 20, 21]) (.join (.two (.ord [0, 1, 2, 3, 6, 7, 8, 9, 4, 5, 10, 11, 12]) (.two (.ord [0, 1, 2, 3, 4, 7, 8, 9, 10, 5, 6, 11, 12, 13]) (.none))) (.join (.two (.ord [0, 1, 2, 3, 6, 7, 8, 9, 4, 5, 10, 11, 12]) (.two (.ord [0, 1, 2, 3, 4, 7, 8, 9, 10, 5, 6, 11, 12, 13]) (.none))) (.two (.join (.ord [0, 1, 2, 3, 5, 6, 7, 8, 4, 9, 10, 11, 12, 13, 14, 15, 17, 18, 19, 20, 16, 21, 22, 23]) (.two (.two (.none) (.none)) (.none)) [(131, .bool)]) (.two (.ord [0, 1, 2, 3, 5, 6, 7, 8, 10, 11, 12, 13, 4, 9, 14, 15, 16, 17, 18, 19, 20, 21, 22]) (.two (.none) (.two (.none) (.none))))) []) [])))))
theorem num_known_round_eq (x_0 : Option Addr) (KP K : Value → Pr) : vcBody Tryz.prog Tryz.f94 (Tryz.f94.body.getD .skip) num_known_round_ann [(.pointer x_0)] KP K = num_known_round x_0 KP K := by kernel_rfl
theorem num_known_round_call (x_0 : Option Addr) {KP K : Value → Pr} {h : Heap} (s : num_known_round x_0 (fgt KP) (fgt K) h) : WpCall Tryz.prog 94 [(.pointer x_0)].toArray KP K h :=
  WpCall.of_vc Tryz.mixed Tryz.func94 (by kernel_rfl) Tryz.call94 num_known_round_ann (by rw [num_known_round_eq]; exact s)

/- halberd/isa.sizes -/
def isa_sizes  (KP K : Value → Pr) : Pr :=
  pNewObj (.map []) fun b1 => pPut (.int .u8) (some b1) (.int .u8 0) (.int .i64 4) <| pPut (.int .u8) (some b1) (.int .u8 8) (.int .i64 2) <| pPut (.int .u8) (some b1) (.int .u8 16) (.int .i64 1) <| pPut (.int .u8) (some b1) (.int .u8 24) (.int .i64 8) <| K (.map (some b1))
def isa_sizes_ann : Ann := .two (.none) (.two (.none) (.none))
theorem isa_sizes_eq  (KP K : Value → Pr) : vcBody Tryz.prog Tryz.f95 (Tryz.f95.body.getD .skip) isa_sizes_ann [] KP K = isa_sizes  KP K := by kernel_rfl
theorem isa_sizes_call  {KP K : Value → Pr} {h : Heap} (s : isa_sizes  (fgt KP) (fgt K) h) : WpCall Tryz.prog 95 [].toArray KP K h :=
  WpCall.of_vc Tryz.mixed Tryz.func95 (by kernel_rfl) Tryz.call95 isa_sizes_ann (by rw [isa_sizes_eq]; exact s)

/- halberd/num.Bounds -/
def num_Bounds (lo_0 : Int) (hi_1 : Int) (KP K : Value → Pr) : Pr :=
  pNew (zc Tryz.prog 26) fun b1 => pCall Tryz.prog 45 [] KP (.one .agg) fun (r2 : List Value) => pNew (zc Tryz.prog 26) fun b3 => pStA 6 ⟨b3, 0, none⟩ r2 <| pSt ((⟨b3, 0, none⟩ : Addr).add 2) (.int .u64 lo_0) <| pSt ((⟨b3, 0, none⟩ : Addr).add 3) (.int .u64 hi_1) <| pLdA 6 ⟨b3, 0, none⟩ fun x4 => pCall Tryz.prog 93 [(.agg x4.toArray)] KP (.one .agg) fun (r5 : List Value) => pStA 6 ⟨b1, 0, none⟩ r5 <| pLdA 6 ⟨b1, 0, none⟩ fun x6 => K (.agg x6.toArray)
def num_Bounds_ann : Ann := .two (.none) (.two (.none) (.two (.none) (.two (.none) (.none))))
theorem num_Bounds_eq (lo_0 : Int) (hi_1 : Int) (KP K : Value → Pr) : vcBody Tryz.prog Tryz.f96 (Tryz.f96.body.getD .skip) num_Bounds_ann [(.int .u64 lo_0), (.int .u64 hi_1)] KP K = num_Bounds lo_0 hi_1 KP K := by kernel_rfl
theorem num_Bounds_call (lo_0 : Int) (hi_1 : Int) {KP K : Value → Pr} {h : Heap} (s : num_Bounds lo_0 hi_1 (fgt KP) (fgt K) h) : WpCall Tryz.prog 96 [(.int .u64 lo_0), (.int .u64 hi_1)].toArray KP K h :=
  WpCall.of_vc Tryz.mixed Tryz.func96 (by kernel_rfl) Tryz.call96 num_Bounds_ann (by rw [num_Bounds_eq]; exact s)

/- halberd/hooks.Of -/
def hooks_Of_j1 (hook_0 : Int) (K : Value → Pr) (b1 : Nat) (b3 : Nat) (x5 : Bool) : Pr :=
  pIf x5
  (pStA 3 ⟨b1, 0, none⟩ (lay (zc Tryz.prog 158) []) <| pLdA 3 ⟨b1, 0, none⟩ fun x6 => K (.tuple [(.agg x6.toArray), (.bool false)].toArray))
  (pIdx hook_0 17 <| pLdA 3 ((⟨b3, 0, none⟩ : Addr).add ((hook_0 : Int).toNat * 3)) fun x7 => pStA 3 ⟨b1, 0, none⟩ x7 <| pLdA 3 ⟨b1, 0, none⟩ fun x8 => K (.tuple [(.agg x8.toArray), (.bool true)].toArray))
def hooks_Of (hook_0 : Int) (KP K : Value → Pr) : Pr :=
  pNew (zc Tryz.prog 158) fun b1 => pCall Tryz.prog 143 [] KP (.one .agg) fun (r2 : List Value) => pNew (zc Tryz.prog 175) fun b3 => pStA 51 ⟨b3, 0, none⟩ r2 <| pJoin (σ := Bool × Unit)
  (fun k4 => pIf (decide ((hook_0 : Int) < 1))
  (k4 (true, ()))
  (k4 ((decide ((hook_0 : Int) ≥ 17)), ())))
  (fun s => hooks_Of_j1 hook_0 K b1 b3 s.1)
def hooks_Of_ann : Ann := .two (.none) (.two (.none) (.two (.join (.none) (.two (.two (.none) (.none)) (.none)) [(11, .bool)]) (.two (.none) (.none))))
theorem hooks_Of_eq (hook_0 : Int) (KP K : Value → Pr) : vcBody Tryz.prog Tryz.f97 (Tryz.f97.body.getD .skip) hooks_Of_ann [(.int .i64 hook_0)] KP K = hooks_Of hook_0 KP K := by kernel_rfl
theorem hooks_Of_call (hook_0 : Int) {KP K : Value → Pr} {h : Heap} (s : hooks_Of hook_0 (fgt KP) (fgt K) h) : WpCall Tryz.prog 97 [(.int .i64 hook_0)].toArray KP K h :=
  WpCall.of_vc Tryz.mixed Tryz.func97 (by kernel_rfl) Tryz.call97 hooks_Of_ann (by rw [hooks_Of_eq]; exact s)

/- slices.Index[[]int,int] -/
def slices_Index_int_int_l1 (s_0 : Sl) (v_1 : Int) (K : Value → Pr) (k1 : Int × Unit → Pr) (x2 : Int) : Pr :=
  pIf (decide ((x2 : Int) < (s_0.len : Int)))
  (pIdx x2 s_0.len <| pSome s_0.base fun a3 => pLd (.int .i64) (a3.add ((x2 : Int).toNat * 1)) fun (x4 : Int) => pIf ((v_1 : Int) == x4)
  (K (.int .i64 x2))
  (k1 ((IntKind.i64.wrap (x2 + 1)), ())))
  (K (.int .i64 (-1)))
def slices_Index_int_int (s_0 : Sl) (v_1 : Int) (KP K : Value → Pr) : Pr :=
  pLoop (σ := Int × Unit) (fun s k1 => slices_Index_int_int_l1 s_0 v_1 K k1 s.1) (0, ())
def slices_Index_int_int_ann : Ann := .two (.none) (.two (.two (.none) (.sub (.loop [(8, (.int .i64))] (.two (.none) (.two (.two (.none) (.none)) (.two (.sub (.two (.none) (.two (.none) (.two (.two (.none) (.none)) (.none))))) (.none))))))) (.two (.none) (.none)))
theorem slices_Index_int_int_eq (s_0 : Sl) (v_1 : Int) (KP K : Value → Pr) : vcBody Tryz.prog Tryz.f98 (Tryz.f98.body.getD .skip) slices_Index_int_int_ann [(.slice s_0.base s_0.len s_0.cap), (.int .i64 v_1)] KP K = slices_Index_int_int s_0 v_1 KP K := by kernel_rfl
theorem slices_Index_int_int_call (s_0 : Sl) (v_1 : Int) {KP K : Value → Pr} {h : Heap} (s : slices_Index_int_int s_0 v_1 (fgt KP) (fgt K) h) : WpCall Tryz.prog 98 [(.slice s_0.base s_0.len s_0.cap), (.int .i64 v_1)].toArray KP K h :=
  WpCall.of_vc Tryz.mixed Tryz.func98 (by kernel_rfl) Tryz.call98 slices_Index_int_int_ann (by rw [slices_Index_int_int_eq]; exact s)

end Go.Proofs.YtpbhanglcophbaaGreat

set_option linter.unusedVariables false
namespace Go.Proofs.YtpbhanglcophbaaGreat
open Go.Hl
/- (*halberd/areg.work).each$1 -/
def areg_work_each_1_j1 (K : Value → Pr) (x7 : Bool) : Pr :=
  K (.bool x7)
def areg_work_each_1 (a_0 : List Value) (p_1 : Addr) (KP K : Value → Pr) : Pr :=
  pNew a_0 fun b1 => pJoin (σ := Bool × Unit)
  (fun k2 => pLd (.int .i64) ((⟨b1, 0, none⟩ : Addr).add 0) fun (x3 : Int) => pIf (decide ((x3 : Int) ≥ 4))
  (pLd (.int .i64) ((⟨b1, 0, none⟩ : Addr).add 0) fun (x4 : Int) => pIf (decide ((x4 : Int) ≤ 6))
  (pLd (.int .i64) ((⟨b1, 0, none⟩ : Addr).add 11) fun (x5 : Int) => pLd (.int .i64) p_1 fun (x6 : Int) => k2 (((x5 : Int) == x6), ()))
  (k2 (false, ())))
  (k2 (false, ())))
  (fun s => areg_work_each_1_j1 K s.1)
def areg_work_each_1_ann : Ann := .two (.none) (.join (.none) (.none) [(3, .bool)])
theorem areg_work_each_1_eq (a_0 : List Value) (p_1 : Addr) (KP K : Value → Pr) : vcBody Tryz.prog Tryz.f99 (Tryz.f99.body.getD .skip) areg_work_each_1_ann [(.agg a_0.toArray), (.pointer (some p_1))] KP K = areg_work_each_1 a_0 p_1 KP K := by kernel_rfl
theorem areg_work_each_1_call (a_0 : List Value) (p_1 : Addr) {KP K : Value → Pr} {h : Heap} (s : areg_work_each_1 a_0 p_1 (fgt KP) (fgt K) h) : WpCall Tryz.prog 99 [(.agg a_0.toArray), (.pointer (some p_1))].toArray KP K h :=
  WpCall.of_vc Tryz.mixed Tryz.func99 (by kernel_rfl) Tryz.call99 areg_work_each_1_ann (by rw [areg_work_each_1_eq]; exact s)

/- slices.DeleteFunc[[]int,int] -/
def slices_DeleteFunc_int_int_j1 (k2 : Int × Int × Unit → Pr) (x4 : Int) (x10 : Int) : Pr :=
  k2 (x10, (IntKind.i64.wrap (x4 + 1)), ())
def slices_DeleteFunc_int_int_l2 (s_0 : Sl) (del_1 : Value) (KP : Value → Pr) (K : Value → Pr) (k2 : Int × Int × Unit → Pr) (x3 : Int) (x4 : Int) : Pr :=
  pIf (decide ((x4 : Int) < (s_0.len : Int)))
  (pJoin (σ := Int × Unit)
  (fun k5 => pIdx x4 s_0.len <| pSome s_0.base fun a6 => pLd (.int .i64) (a6.add ((x4 : Int).toNat * 1)) fun (x7 : Int) => pCallV Tryz.prog del_1 [(.int .i64 x7)] KP (.one .bool) fun (r8 : Bool) => pIf (!r8)
  (pIdx x3 s_0.len <| pSome s_0.base fun a9 => pSt (a9.add ((x3 : Int).toNat * 1)) (.int .i64 x7) <| k5 ((IntKind.i64.wrap (x3 + 1)), ()))
  (k5 (x3, ())))
  (fun s => slices_DeleteFunc_int_int_j1 k2 x4 s.1))
  (pAssert (0 ≤ (x3 : Int) ∧ (x3 : Int) ≤ (s_0.len : Int) ∧ (s_0.len : Int) ≤ (s_0.cap : Int)) <| pClear 1 (zc Tryz.prog 3) ⟨(if s_0.cap = (x3 : Int).toNat then s_0.base else (s_0.base : Option Addr).map (·.add ((x3 : Int).toNat * 1))), (((s_0.len : Int) : Int).toNat - (x3 : Int).toNat), (s_0.cap - (x3 : Int).toNat)⟩ <| pAssert (0 ≤ (0 : Int) ∧ (0 : Int) ≤ x3 ∧ x3 ≤ (s_0.cap : Int)) <| K (.slice (if s_0.cap = (0 : Int).toNat then s_0.base else (s_0.base : Option Addr).map (·.add ((0 : Int).toNat * 1))) ((x3 : Int).toNat - (0 : Int).toNat) (s_0.cap - (0 : Int).toNat)))
def slices_DeleteFunc_int_int (s_0 : Sl) (del_1 : Value) (KP K : Value → Pr) : Pr :=
  pCall Tryz.prog 144 [(.slice s_0.base s_0.len s_0.cap), del_1] KP (.one (.int .i64)) fun (r1 : Int) => pIf ((r1 : Int) == (-1))
  (K (.slice s_0.base s_0.len s_0.cap))
  (pLoop (σ := Int × Int × Unit) (fun s k2 => slices_DeleteFunc_int_int_l2 s_0 del_1 KP K k2 s.1 s.2.1) (r1, (IntKind.i64.wrap (r1 + 1)), ()))
def slices_DeleteFunc_int_int_ann : Ann := .two (.none) (.two (.none) (.two (.two (.none) (.two (.two (.none) (.none)) (.none))) (.two (.two (.none) (.sub (.loop [(5, (.int .i64)), (6, (.int .i64))] (.two (.two (.none) (.two (.none) (.none))) (.join (.sub (.two (.none) (.two (.none) (.two (.two (.none) (.none)) (.none))))) (.none) [(5, (.int .i64))]))))) (.two (.none) (.two (.none) (.none))))))
theorem slices_DeleteFunc_int_int_eq (s_0 : Sl) (del_1 : Value) (KP K : Value → Pr) : vcBody Tryz.prog Tryz.f100 (Tryz.f100.body.getD .skip) slices_DeleteFunc_int_int_ann [(.slice s_0.base s_0.len s_0.cap), del_1] KP K = slices_DeleteFunc_int_int s_0 del_1 KP K := by kernel_rfl
theorem slices_DeleteFunc_int_int_call (s_0 : Sl) (del_1 : Value) {KP K : Value → Pr} {h : Heap} (s : slices_DeleteFunc_int_int s_0 del_1 (fgt KP) (fgt K) h) : WpCall Tryz.prog 100 [(.slice s_0.base s_0.len s_0.cap), del_1].toArray KP K h :=
  WpCall.of_vc Tryz.mixed Tryz.func100 (by kernel_rfl) Tryz.call100 slices_DeleteFunc_int_int_ann (by rw [slices_DeleteFunc_int_int_eq]; exact s)

/- (*halberd/areg.work).drop$1 -/
def areg_work_drop_1 (x_0 : Int) (p_1 : Addr) (KP K : Value → Pr) : Pr :=
  pLd (.int .i64) p_1 fun (x1 : Int) => K (.bool ((x_0 : Int) == x1))
def areg_work_drop_1_ann : Ann := .two (.none) (.two (.none) (.none))
theorem areg_work_drop_1_eq (x_0 : Int) (p_1 : Addr) (KP K : Value → Pr) : vcBody Tryz.prog Tryz.f101 (Tryz.f101.body.getD .skip) areg_work_drop_1_ann [(.int .i64 x_0), (.pointer (some p_1))] KP K = areg_work_drop_1 x_0 p_1 KP K := by kernel_rfl
theorem areg_work_drop_1_call (x_0 : Int) (p_1 : Addr) {KP K : Value → Pr} {h : Heap} (s : areg_work_drop_1 x_0 p_1 (fgt KP) (fgt K) h) : WpCall Tryz.prog 101 [(.int .i64 x_0), (.pointer (some p_1))].toArray KP K h :=
  WpCall.of_vc Tryz.mixed Tryz.func101 (by kernel_rfl) Tryz.call101 areg_work_drop_1_ann (by rw [areg_work_drop_1_eq]; exact s)

/- (*halberd/narrow.pair).above -/
def narrow_pair_above_j1 (p_0 : Option Addr) (K : Value → Pr) (x6 : Bool) : Pr :=
  pIf x6
  (pSome p_0 fun a7 => pSt (a7.add 12) (.bool true) <| K (.tuple [].toArray))
  (pSome p_0 fun a8 => pSome p_0 fun a9 => pSome p_0 fun a10 => pSome p_0 fun a11 => pLd (.int .u64) ((a8.add 0).add 2) fun (x12 : Int) => pLd (.int .u64) ((a9.add 6).add 2) fun (x13 : Int) => pLd (.int .u64) ((a10.add 6).add 3) fun (x14 : Int) => pLd (.int .u64) ((a11.add 0).add 3) fun (x15 : Int) => pSome p_0 fun a16 => pSt ((a16.add 0).add 2) (.int .u64 (if (IntKind.u64.wrap (x13 + 1)) > x12 then (IntKind.u64.wrap (x13 + 1)) else x12)) <| pSome p_0 fun a17 => pSt ((a17.add 6).add 3) (.int .u64 (if (IntKind.u64.wrap (x15 - 1)) < x14 then (IntKind.u64.wrap (x15 - 1)) else x14)) <| K (.tuple [].toArray))
def narrow_pair_above (p_0 : Option Addr) (KP K : Value → Pr) : Pr :=
  pJoin (σ := Bool × Unit)
  (fun k1 => pSome p_0 fun a2 => pLd (.int .u64) ((a2.add 6).add 2) fun (x3 : Int) => pIf ((x3 : Int) == 18446744073709551615)
  (k1 (true, ()))
  (pSome p_0 fun a4 => pLd (.int .u64) ((a4.add 0).add 3) fun (x5 : Int) => k1 (((x5 : Int) == 0), ())))
  (fun s => narrow_pair_above_j1 p_0 K s.1)
def narrow_pair_above_ann : Ann := .two (.join (.none) (.two (.two (.none) (.none)) (.none)) [(15, .bool)]) (.ord [0, 1, 2, 3, 4, 5, 7, 8, 9, 10, 14, 15, 16, 17, 19, 20, 21, 22, 6, 11, 12, 13, 18, 23, 24, 25, 26, 27, 28, 29, 30, 31, 32, 33])
theorem narrow_pair_above_eq (p_0 : Option Addr) (KP K : Value → Pr) : vcBody Tryz.prog Tryz.f102 (Tryz.f102.body.getD .skip) narrow_pair_above_ann [(.pointer p_0)] KP K = narrow_pair_above p_0 KP K := by kernel_rfl
theorem narrow_pair_above_call (p_0 : Option Addr) {KP K : Value → Pr} {h : Heap} (s : narrow_pair_above p_0 (fgt KP) (fgt K) h) : WpCall Tryz.prog 102 [(.pointer p_0)].toArray KP K h :=
  WpCall.of_vc Tryz.mixed Tryz.func102 (by kernel_rfl) Tryz.call102 narrow_pair_above_ann (by rw [narrow_pair_above_eq]; exact s)

/- (*halberd/narrow.pair).notBelow -/
def narrow_pair_notBelow (p_0 : Option Addr) (KP K : Value → Pr) : Pr :=
  pSome p_0 fun a1 => pSome p_0 fun a2 => pSome p_0 fun a3 => pSome p_0 fun a4 => pLd (.int .u64) ((a1.add 0).add 2) fun (x5 : Int) => pLd (.int .u64) ((a2.add 6).add 2) fun (x6 : Int) => pLd (.int .u64) ((a3.add 6).add 3) fun (x7 : Int) => pLd (.int .u64) ((a4.add 0).add 3) fun (x8 : Int) => pSome p_0 fun a9 => pSt ((a9.add 0).add 2) (.int .u64 (if x6 > x5 then x6 else x5)) <| pSome p_0 fun a10 => pSt ((a10.add 6).add 3) (.int .u64 (if x8 < x7 then x8 else x7)) <| K (.tuple [].toArray)
def narrow_pair_notBelow_ann : Ann := .ord [0, 1, 2, 3, 4, 5, 7, 8, 9, 10, 13, 14, 15, 16, 18, 19, 20, 21, 6, 11, 12, 17, 22, 23, 24, 25, 26, 27, 28, 29, 30, 31]
theorem narrow_pair_notBelow_eq (p_0 : Option Addr) (KP K : Value → Pr) : vcBody Tryz.prog Tryz.f103 (Tryz.f103.body.getD .skip) narrow_pair_notBelow_ann [(.pointer p_0)] KP K = narrow_pair_notBelow p_0 KP K := by kernel_rfl
theorem narrow_pair_notBelow_call (p_0 : Option Addr) {KP K : Value → Pr} {h : Heap} (s : narrow_pair_notBelow p_0 (fgt KP) (fgt K) h) : WpCall Tryz.prog 103 [(.pointer p_0)].toArray KP K h :=
  WpCall.of_vc Tryz.mixed Tryz.func103 (by kernel_rfl) Tryz.call103 narrow_pair_notBelow_ann (by rw [narrow_pair_notBelow_eq]; exact s)

/- (*halberd/narrow.pair).aboveSigned -/
def narrow_pair_aboveSigned_j1 (p_0 : Option Addr) (K : Value → Pr) (x6 : Bool) : Pr :=
  pIf x6
  (pSome p_0 fun a7 => pSt (a7.add 12) (.bool true) <| K (.tuple [].toArray))
  (pSome p_0 fun a8 => pSome p_0 fun a9 => pSome p_0 fun a10 => pSome p_0 fun a11 => pLd (.int .i64) ((a8.add 0).add 4) fun (x12 : Int) => pLd (.int .i64) ((a9.add 6).add 4) fun (x13 : Int) => pLd (.int .i64) ((a10.add 6).add 5) fun (x14 : Int) => pLd (.int .i64) ((a11.add 0).add 5) fun (x15 : Int) => pSome p_0 fun a16 => pSt ((a16.add 0).add 4) (.int .i64 (if (IntKind.i64.wrap (x13 + 1)) > x12 then (IntKind.i64.wrap (x13 + 1)) else x12)) <| pSome p_0 fun a17 => pSt ((a17.add 6).add 5) (.int .i64 (if (IntKind.i64.wrap (x15 - 1)) < x14 then (IntKind.i64.wrap (x15 - 1)) else x14)) <| K (.tuple [].toArray))
def narrow_pair_aboveSigned (p_0 : Option Addr) (KP K : Value → Pr) : Pr :=
  pJoin (σ := Bool × Unit)
  (fun k1 => pSome p_0 fun a2 => pLd (.int .i64) ((a2.add 6).add 4) fun (x3 : Int) => pIf ((x3 : Int) == 9223372036854775807)
  (k1 (true, ()))
  (pSome p_0 fun a4 => pLd (.int .i64) ((a4.add 0).add 5) fun (x5 : Int) => k1 (((x5 : Int) == (-9223372036854775808)), ())))
  (fun s => narrow_pair_aboveSigned_j1 p_0 K s.1)
def narrow_pair_aboveSigned_ann : Ann := .two (.join (.none) (.two (.two (.none) (.none)) (.none)) [(15, .bool)]) (.ord [0, 1, 2, 3, 4, 5, 7, 8, 9, 10, 14, 15, 16, 17, 19, 20, 21, 22, 6, 11, 12, 13, 18, 23, 24, 25, 26, 27, 28, 29, 30, 31, 32, 33])
theorem narrow_pair_aboveSigned_eq (p_0 : Option Addr) (KP K : Value → Pr) : vcBody Tryz.prog Tryz.f104 (Tryz.f104.body.getD .skip) narrow_pair_aboveSigned_ann [(.pointer p_0)] KP K = narrow_pair_aboveSigned p_0 KP K := by kernel_rfl
theorem narrow_pair_aboveSigned_call (p_0 : Option Addr) {KP K : Value → Pr} {h : Heap} (s : narrow_pair_aboveSigned p_0 (fgt KP) (fgt K) h) : WpCall Tryz.prog 104 [(.pointer p_0)].toArray KP K h :=
  WpCall.of_vc Tryz.mixed Tryz.func104 (by kernel_rfl) Tryz.call104 narrow_pair_aboveSigned_ann (by rw [narrow_pair_aboveSigned_eq]; exact s)

/- (*halberd/narrow.pair).notBelowSigned -/
def narrow_pair_notBelowSigned (p_0 : Option Addr) (KP K : Value → Pr) : Pr :=
  pSome p_0 fun a1 => pSome p_0 fun a2 => pSome p_0 fun a3 => pSome p_0 fun a4 => pLd (.int .i64) ((a1.add 0).add 4) fun (x5 : Int) => pLd (.int .i64) ((a2.add 6).add 4) fun (x6 : Int) => pLd (.int .i64) ((a3.add 6).add 5) fun (x7 : Int) => pLd (.int .i64) ((a4.add 0).add 5) fun (x8 : Int) => pSome p_0 fun a9 => pSt ((a9.add 0).add 4) (.int .i64 (if x6 > x5 then x6 else x5)) <| pSome p_0 fun a10 => pSt ((a10.add 6).add 5) (.int .i64 (if x8 < x7 then x8 else x7)) <| K (.tuple [].toArray)
def narrow_pair_notBelowSigned_ann : Ann := .ord [0, 1, 2, 3, 4, 5, 7, 8, 9, 10, 13, 14, 15, 16, 18, 19, 20, 21, 6, 11, 12, 17, 22, 23, 24, 25, 26, 27, 28, 29, 30, 31]
theorem narrow_pair_notBelowSigned_eq (p_0 : Option Addr) (KP K : Value → Pr) : vcBody Tryz.prog Tryz.f105 (Tryz.f105.body.getD .skip) narrow_pair_notBelowSigned_ann [(.pointer p_0)] KP K = narrow_pair_notBelowSigned p_0 KP K := by kernel_rfl
theorem narrow_pair_notBelowSigned_call (p_0 : Option Addr) {KP K : Value → Pr} {h : Heap} (s : narrow_pair_notBelowSigned p_0 (fgt KP) (fgt K) h) : WpCall Tryz.prog 105 [(.pointer p_0)].toArray KP K h :=
  WpCall.of_vc Tryz.mixed Tryz.func105 (by kernel_rfl) Tryz.call105 narrow_pair_notBelowSigned_ann (by rw [narrow_pair_notBelowSigned_eq]; exact s)

/- (*halberd/narrow.pair).same -/
def narrow_pair_same (p_0 : Option Addr) (KP K : Value → Pr) : Pr :=
  pSome p_0 fun a1 => pSome p_0 fun a2 => pLdA 6 (a1.add 0) fun x3 => pLdA 6 (a2.add 6) fun x4 => pCall Tryz.prog 145 [(.agg x3.toArray), (.agg x4.toArray)] KP (.many [.agg, .bool]) fun (r5 : (List Value) × Bool × Unit) => pNew (zc Tryz.prog 26) fun b6 => pStA 6 ⟨b6, 0, none⟩ r5.1 <| pLdA 6 ⟨b6, 0, none⟩ fun x7 => pSome p_0 fun a8 => pLdA 6 ⟨b6, 0, none⟩ fun x9 => pStA 6 (a8.add 0) x7 <| pKeep (loadF Tryz.prog 26 (.pointer (some ⟨b6, 0, none⟩)) (.agg x9.toArray)) <| pSome p_0 fun a10 => pStA 6 (a10.add 6) x9 <| pSome p_0 fun a11 => pSt (a11.add 12) (.bool (!r5.2.1)) <| K (.tuple [].toArray)
def narrow_pair_same_ann : Ann := .two (.ord [0, 1, 2, 4, 5, 6, 3, 7, 8, 9, 10, 11, 12, 13, 14]) (.ord [0, 1, 2, 5, 6, 3, 7, 8, 4, 9, 10, 11, 12, 13, 14, 15])
theorem narrow_pair_same_eq (p_0 : Option Addr) (KP K : Value → Pr) : vcBody Tryz.prog Tryz.f106 (Tryz.f106.body.getD .skip) narrow_pair_same_ann [(.pointer p_0)] KP K = narrow_pair_same p_0 KP K := by kernel_rfl
theorem narrow_pair_same_call (p_0 : Option Addr) {KP K : Value → Pr} {h : Heap} (s : narrow_pair_same p_0 (fgt KP) (fgt K) h) : WpCall Tryz.prog 106 [(.pointer p_0)].toArray KP K h :=
  WpCall.of_vc Tryz.mixed Tryz.func106 (by kernel_rfl) Tryz.call106 narrow_pair_same_ann (by rw [narrow_pair_same_eq]; exact s)

end Go.Proofs.YtpbhanglcophbaaGreat

set_option linter.unusedVariables false
namespace Go.Proofs.YtpbhanglcophbaaGreat
open Go.Hl
/- (*halberd/narrow.pair).unlike -/
def narrow_pair_unlike_j1 (p_0 : Option Addr) (K : Value → Pr) (b11 : Nat) (b12 : Nat) (x17 : Bool) (x22 : Bool) : Pr :=
  pIf (!x17)
  (pLdA 6 ⟨b11, 0, none⟩ fun x23 => pSome p_0 fun a24 => pLdA 6 ⟨b12, 0, none⟩ fun x25 => pStA 6 (a24.add 0) x23 <| pKeep (loadF Tryz.prog 26 (.pointer (some ⟨b12, 0, none⟩)) (.agg x25.toArray)) <| pSome p_0 fun a26 => pStA 6 (a26.add 6) x25 <| pSome p_0 fun a27 => pSt (a27.add 12) (.bool true) <| K (.tuple [].toArray))
  (pLdA 6 ⟨b11, 0, none⟩ fun x28 => pSome p_0 fun a29 => pLdA 6 ⟨b12, 0, none⟩ fun x30 => pStA 6 (a29.add 0) x28 <| pKeep (loadF Tryz.prog 26 (.pointer (some ⟨b12, 0, none⟩)) (.agg x30.toArray)) <| pSome p_0 fun a31 => pStA 6 (a31.add 6) x30 <| pSome p_0 fun a32 => pSt (a32.add 12) (.bool (!x22)) <| K (.tuple [].toArray))
def narrow_pair_unlike_j2 (p_0 : Option Addr) (KP : Value → Pr) (K : Value → Pr) (r3 : Int × Bool × Unit) (b11 : Nat) (b12 : Nat) (x17 : Bool) : Pr :=
  pJoin (σ := Bool × Unit)
  (fun k18 => pIf r3.2.1
  (pSome p_0 fun a19 => pLdA 6 (a19.add 6) fun x20 => pCall Tryz.prog 146 [(.agg x20.toArray), (.int .u64 r3.1)] KP (.many [.agg, .bool]) fun (r21 : (List Value) × Bool × Unit) => pStA 6 ⟨b12, 0, none⟩ r21.1 <| k18 (r21.2.1, ()))
  (k18 (true, ())))
  (fun s => narrow_pair_unlike_j1 p_0 K b11 b12 x17 s.1)
def narrow_pair_unlike (p_0 : Option Addr) (KP K : Value → Pr) : Pr :=
  pSome p_0 fun a1 => pLdA 6 (a1.add 0) fun x2 => pCall Tryz.prog 43 [(.agg x2.toArray)] KP (.many [(.int .u64), .bool]) fun (r3 : Int × Bool × Unit) => pSome p_0 fun a4 => pLdA 6 (a4.add 6) fun x5 => pCall Tryz.prog 43 [(.agg x5.toArray)] KP (.many [(.int .u64), .bool]) fun (r6 : Int × Bool × Unit) => pSome p_0 fun a7 => pSome p_0 fun a8 => pLdA 6 (a7.add 0) fun x9 => pLdA 6 (a8.add 6) fun x10 => pNew (zc Tryz.prog 26) fun b11 => pNew (zc Tryz.prog 26) fun b12 => pStA 6 ⟨b11, 0, none⟩ x9 <| pKeep (loadF Tryz.prog 26 (.pointer (some (a8.add 6))) (.agg x10.toArray)) <| pStA 6 ⟨b12, 0, none⟩ x10 <| pJoin (σ := Bool × Unit)
  (fun k13 => pIf r6.2.1
  (pSome p_0 fun a14 => pLdA 6 (a14.add 0) fun x15 => pCall Tryz.prog 146 [(.agg x15.toArray), (.int .u64 r6.1)] KP (.many [.agg, .bool]) fun (r16 : (List Value) × Bool × Unit) => pStA 6 ⟨b11, 0, none⟩ r16.1 <| k13 (r16.2.1, ()))
  (k13 (true, ())))
  (fun s => narrow_pair_unlike_j2 p_0 KP K r3 b11 b12 s.1)
def narrow_pair_unlike_ann : Ann := .two (.none) (.two (.none) (.two (.ord [0, 1, 2, 4, 5, 6, 3, 7, 8, 9, 10, 11, 12, 13]) (.join (.two (.none) (.two (.none) (.none))) (.join (.two (.none) (.two (.none) (.none))) (.ord [0, 1, 2, 5, 6, 7, 8, 9, 10, 3, 11, 12, 4, 13, 14, 15, 16, 17, 18, 19]) [(9, .bool)]) [(8, .bool)])))
theorem narrow_pair_unlike_eq (p_0 : Option Addr) (KP K : Value → Pr) : vcBody Tryz.prog Tryz.f107 (Tryz.f107.body.getD .skip) narrow_pair_unlike_ann [(.pointer p_0)] KP K = narrow_pair_unlike p_0 KP K := by kernel_rfl
theorem narrow_pair_unlike_call (p_0 : Option Addr) {KP K : Value → Pr} {h : Heap} (s : narrow_pair_unlike p_0 (fgt KP) (fgt K) h) : WpCall Tryz.prog 107 [(.pointer p_0)].toArray KP K h :=
  WpCall.of_vc Tryz.mixed Tryz.func107 (by kernel_rfl) Tryz.call107 narrow_pair_unlike_ann (by rw [narrow_pair_unlike_eq]; exact s)

/- halberd/narrow.turned -/
def narrow_turned (way_0 : Value) (KP K : Value → Pr) : Pr :=
  pAssert (way_0.oneCell' = true) <| pNew [way_0] fun b1 => K (.func (.func 147) [].toArray [(.pointer (some ⟨b1, 0, none⟩))].toArray)
def narrow_turned_ann : Ann := .two (.none) (.two (.none) (.none))
theorem narrow_turned_eq (way_0 : Value) (KP K : Value → Pr) : vcBody Tryz.prog Tryz.f108 (Tryz.f108.body.getD .skip) narrow_turned_ann [way_0] KP K = narrow_turned way_0 KP K := by kernel_rfl
theorem narrow_turned_call (way_0 : Value) {KP K : Value → Pr} {h : Heap} (s : narrow_turned way_0 (fgt KP) (fgt K) h) : WpCall Tryz.prog 108 [way_0].toArray KP K h :=
  WpCall.of_vc Tryz.mixed Tryz.func108 (by kernel_rfl) Tryz.call108 narrow_turned_ann (by rw [narrow_turned_eq]; exact s)

/- (*halberd/narrow.pair).common -/
def narrow_pair_common_j1 (p_0 : Option Addr) (KP : Value → Pr) (K : Value → Pr) (r3 : Int × Bool × Unit) (x6 : Bool) : Pr :=
  pIf x6
  (pCall Tryz.prog 149 [(.pointer p_0), (.agg (lay (zc Tryz.prog 24) [(0, (.int .u64 r3.1)), (1, (.int .u64 (bitsV .xor .u64 (if (IntKind.u64).signed then -1 else (IntKind.u64).max) r3.1)))]).toArray)] KP (.many []) fun (r7 : Unit) => K (.tuple [].toArray))
  (K (.tuple [].toArray))
def narrow_pair_common (p_0 : Option Addr) (KP K : Value → Pr) : Pr :=
  pSome p_0 fun a1 => pLdA 6 (a1.add 6) fun x2 => pCall Tryz.prog 43 [(.agg x2.toArray)] KP (.many [(.int .u64), .bool]) fun (r3 : Int × Bool × Unit) => pJoin (σ := Bool × Unit)
  (fun k4 => pIf r3.2.1
  (pCall Tryz.prog 148 [(.int .u64 r3.1)] KP (.one (.int .i64)) fun (r5 : Int) => k4 (((r5 : Int) == 1), ()))
  (k4 (false, ())))
  (fun s => narrow_pair_common_j1 p_0 KP K r3 s.1)
def narrow_pair_common_ann : Ann := .two (.none) (.join (.none) (.two (.none) (.none)) [(17, .bool)])
theorem narrow_pair_common_eq (p_0 : Option Addr) (KP K : Value → Pr) : vcBody Tryz.prog Tryz.f109 (Tryz.f109.body.getD .skip) narrow_pair_common_ann [(.pointer p_0)] KP K = narrow_pair_common p_0 KP K := by kernel_rfl
theorem narrow_pair_common_call (p_0 : Option Addr) {KP K : Value → Pr} {h : Heap} (s : narrow_pair_common p_0 (fgt KP) (fgt K) h) : WpCall Tryz.prog 109 [(.pointer p_0)].toArray KP K h :=
  WpCall.of_vc Tryz.mixed Tryz.func109 (by kernel_rfl) Tryz.call109 narrow_pair_common_ann (by rw [narrow_pair_common_eq]; exact s)

/- (*halberd/narrow.pair).apart -/
def narrow_pair_apart (p_0 : Option Addr) (KP K : Value → Pr) : Pr :=
  pSome p_0 fun a1 => pLdA 6 (a1.add 6) fun x2 => pCall Tryz.prog 43 [(.agg x2.toArray)] KP (.many [(.int .u64), .bool]) fun (r3 : Int × Bool × Unit) => pIf r3.2.1
  (pCall Tryz.prog 149 [(.pointer p_0), (.agg (lay (zc Tryz.prog 24) [(1, (.int .u64 (bitsV .xor .u64 (if (IntKind.u64).signed then -1 else (IntKind.u64).max) r3.1)))]).toArray)] KP (.many []) fun (r4 : Unit) => K (.tuple [].toArray))
  (K (.tuple [].toArray))
def narrow_pair_apart_ann : Ann := .two (.none) (.two (.none) (.two (.none) (.none)))
theorem narrow_pair_apart_eq (p_0 : Option Addr) (KP K : Value → Pr) : vcBody Tryz.prog Tryz.f110 (Tryz.f110.body.getD .skip) narrow_pair_apart_ann [(.pointer p_0)] KP K = narrow_pair_apart p_0 KP K := by kernel_rfl
theorem narrow_pair_apart_call (p_0 : Option Addr) {KP K : Value → Pr} {h : Heap} (s : narrow_pair_apart p_0 (fgt KP) (fgt K) h) : WpCall Tryz.prog 110 [(.pointer p_0)].toArray KP K h :=
  WpCall.of_vc Tryz.mixed Tryz.func110 (by kernel_rfl) Tryz.call110 narrow_pair_apart_ann (by rw [narrow_pair_apart_eq]; exact s)

/- slices.ContainsFunc[[]int,int] -/
def slices_ContainsFunc_int_int (s_0 : Sl) (f_1 : Value) (KP K : Value → Pr) : Pr :=
  pCall Tryz.prog 144 [(.slice s_0.base s_0.len s_0.cap), f_1] KP (.one (.int .i64)) fun (r1 : Int) => K (.bool (decide ((r1 : Int) ≥ 0)))
def slices_ContainsFunc_int_int_ann : Ann := .two (.none) (.two (.none) (.none))
theorem slices_ContainsFunc_int_int_eq (s_0 : Sl) (f_1 : Value) (KP K : Value → Pr) : vcBody Tryz.prog Tryz.f111 (Tryz.f111.body.getD .skip) slices_ContainsFunc_int_int_ann [(.slice s_0.base s_0.len s_0.cap), f_1] KP K = slices_ContainsFunc_int_int s_0 f_1 KP K := by kernel_rfl
theorem slices_ContainsFunc_int_int_call (s_0 : Sl) (f_1 : Value) {KP K : Value → Pr} {h : Heap} (s : slices_ContainsFunc_int_int s_0 f_1 (fgt KP) (fgt K) h) : WpCall Tryz.prog 111 [(.slice s_0.base s_0.len s_0.cap), f_1].toArray KP K h :=
  WpCall.of_vc Tryz.mixed Tryz.func111 (by kernel_rfl) Tryz.call111 slices_ContainsFunc_int_int_ann (by rw [slices_ContainsFunc_int_int_eq]; exact s)

/- halberd/helpers.Suits$1 -/
def helpers_Suits_1 (k_0 : Int) (p_1 : Addr) (KP K : Value → Pr) : Pr :=
  pLd (.int .i64) p_1 fun (x1 : Int) => K (.bool ((k_0 : Int) == x1))
def helpers_Suits_1_ann : Ann := .two (.none) (.two (.none) (.none))
theorem helpers_Suits_1_eq (k_0 : Int) (p_1 : Addr) (KP K : Value → Pr) : vcBody Tryz.prog Tryz.f112 (Tryz.f112.body.getD .skip) helpers_Suits_1_ann [(.int .i64 k_0), (.pointer (some p_1))] KP K = helpers_Suits_1 k_0 p_1 KP K := by kernel_rfl
theorem helpers_Suits_1_call (k_0 : Int) (p_1 : Addr) {KP K : Value → Pr} {h : Heap} (s : helpers_Suits_1 k_0 p_1 (fgt KP) (fgt K) h) : WpCall Tryz.prog 112 [(.int .i64 k_0), (.pointer (some p_1))].toArray KP K h :=
  WpCall.of_vc Tryz.mixed Tryz.func112 (by kernel_rfl) Tryz.call112 helpers_Suits_1_ann (by rw [helpers_Suits_1_eq]; exact s)

/- (*halberd/areg.call).fresh -/
def areg_call_fresh (c_0 : Option Addr) (kind_1 : Int) (what_2 : Int) (KP K : Value → Pr) : Pr :=
  pNew (zc Tryz.prog 28) fun b1 => pSome c_0 fun a2 => pLd .ptr (a2.add 0) fun (x3 : Option Addr) => pSome x3 fun a4 => pLd (.int .i64) ((a4.add 0).add 293) fun (x5 : Int) => pNew (zc Tryz.prog 28) fun b6 => pStA 12 ⟨b6, 0, none⟩ (lay (zc Tryz.prog 28) [(0, (.int .i64 kind_1)), (9, (.int .i64 what_2)), (10, (.bool true)), (11, (.int .i64 x5))]) <| pSome c_0 fun a7 => pLd .ptr (a7.add 0) fun (x8 : Option Addr) => pSome x8 fun a9 => pLd (.int .i64) ((a9.add 0).add 293) fun (x10 : Int) => pSome x8 fun a11 => pSt ((a11.add 0).add 293) (.int .i64 (IntKind.i64.wrap (x10 + 1))) <| pLdA 12 ⟨b6, 0, none⟩ fun x12 => pStA 12 ⟨b1, 0, none⟩ x12 <| pLdA 12 ⟨b1, 0, none⟩ fun x13 => K (.agg x13.toArray)
def areg_call_fresh_ann : Ann := .two (.none) (.two (.none) (.two (.none) (.two (.none) (.none))))
theorem areg_call_fresh_eq (c_0 : Option Addr) (kind_1 : Int) (what_2 : Int) (KP K : Value → Pr) : vcBody Tryz.prog Tryz.f113 (Tryz.f113.body.getD .skip) areg_call_fresh_ann [(.pointer c_0), (.int .i64 kind_1), (.int .i64 what_2)] KP K = areg_call_fresh c_0 kind_1 what_2 KP K := by kernel_rfl
theorem areg_call_fresh_call (c_0 : Option Addr) (kind_1 : Int) (what_2 : Int) {KP K : Value → Pr} {h : Heap} (s : areg_call_fresh c_0 kind_1 what_2 (fgt KP) (fgt K) h) : WpCall Tryz.prog 113 [(.pointer c_0), (.int .i64 kind_1), (.int .i64 what_2)].toArray KP K h :=
  WpCall.of_vc Tryz.mixed Tryz.func113 (by kernel_rfl) Tryz.call113 areg_call_fresh_ann (by rw [areg_call_fresh_eq]; exact s)

/- (*halberd/areg.call).end$1 -/
def areg_call_end_1 (x_0 : Option Addr) (p_1 : Option Addr) (KP K : Value → Pr) : Pr :=
  pSome x_0 fun a1 => pStA 12 a1 (lay (zc Tryz.prog 28) []) <| pIf (!p_1.isNone)
  (pSome p_1 fun a2 => pStA 8 (a2.add 12) (lay (zc Tryz.prog 30) []) <| K (.tuple [].toArray))
  (K (.tuple [].toArray))
def areg_call_end_1_ann : Ann := .two (.none) (.two (.none) (.two (.none) (.none)))
theorem areg_call_end_1_eq (x_0 : Option Addr) (p_1 : Option Addr) (KP K : Value → Pr) : vcBody Tryz.prog Tryz.f114 (Tryz.f114.body.getD .skip) areg_call_end_1_ann [(.pointer x_0), (.pointer p_1)] KP K = areg_call_end_1 x_0 p_1 KP K := by kernel_rfl
theorem areg_call_end_1_call (x_0 : Option Addr) (p_1 : Option Addr) {KP K : Value → Pr} {h : Heap} (s : areg_call_end_1 x_0 p_1 (fgt KP) (fgt K) h) : WpCall Tryz.prog 114 [(.pointer x_0), (.pointer p_1)].toArray KP K h :=
  WpCall.of_vc Tryz.mixed Tryz.func114 (by kernel_rfl) Tryz.call114 areg_call_end_1_ann (by rw [areg_call_end_1_eq]; exact s)

end Go.Proofs.YtpbhanglcophbaaGreat

set_option linter.unusedVariables false
namespace Go.Proofs.YtpbhanglcophbaaGreat
open Go.Hl
/- halberd/tnum.Add -/
def tnum_Add (a_0 : List Value) (b_1 : List Value) (KP K : Value → Pr) : Pr :=
  pNew a_0 fun b1 => pNew b_1 fun b2 => pNew (zc Tryz.prog 24) fun b3 => pLdA 2 ⟨b1, 0, none⟩ fun x4 => pLdA 2 ⟨b2, 0, none⟩ fun x5 => pCall Tryz.prog 138 [(.agg x4.toArray)] KP (.one .agg) fun (r6 : List Value) => pKeep (loadF Tryz.prog 24 (.pointer (some ⟨b2, 0, none⟩)) (.agg x5.toArray)) <| pCall Tryz.prog 138 [(.agg x5.toArray)] KP (.one .agg) fun (r7 : List Value) => pStA 2 ⟨b1, 0, none⟩ r6 <| pStA 2 ⟨b2, 0, none⟩ r7 <| pLd (.int .u64) ((⟨b1, 0, none⟩ : Addr).add 0) fun (x8 : Int) => pLd (.int .u64) ((⟨b2, 0, none⟩ : Addr).add 0) fun (x9 : Int) => pLd (.int .u64) ((⟨b1, 0, none⟩ : Addr).add 1) fun (x10 : Int) => pLd (.int .u64) ((⟨b2, 0, none⟩ : Addr).add 1) fun (x11 : Int) => pLd (.int .u64) ((⟨b1, 0, none⟩ : Addr).add 1) fun (x12 : Int) => pLd (.int .u64) ((⟨b2, 0, none⟩ : Addr).add 1) fun (x13 : Int) => pCall Tryz.prog 138 [(.agg (lay (zc Tryz.prog 24) [(0, (.int .u64 (IntKind.u64.wrap (x8 + x9)))), (1, (.int .u64 (bitsV .or .u64 (bitsV .or .u64 (bitsV .xor .u64 (IntKind.u64.wrap (x8 + x9)) (IntKind.u64.wrap ((IntKind.u64.wrap ((IntKind.u64.wrap (x8 + x9)) + x10)) + x11))) x12) x13)))]).toArray)] KP (.one .agg) fun (r14 : List Value) => pStA 2 ⟨b3, 0, none⟩ r14 <| pLdA 2 ⟨b3, 0, none⟩ fun x15 => K (.agg x15.toArray)
def tnum_Add_ann : Ann := .two (.none) (.two (.ord [0, 2, 1, 3, 4, 5]) (.two (.none) (.two (.none) (.two (.none) (.none)))))
theorem tnum_Add_eq (a_0 : List Value) (b_1 : List Value) (KP K : Value → Pr) : vcBody Tryz.prog Tryz.f115 (Tryz.f115.body.getD .skip) tnum_Add_ann [(.agg a_0.toArray), (.agg b_1.toArray)] KP K = tnum_Add a_0 b_1 KP K := by kernel_rfl
theorem tnum_Add_call (a_0 : List Value) (b_1 : List Value) {KP K : Value → Pr} {h : Heap} (s : tnum_Add a_0 b_1 (fgt KP) (fgt K) h) : WpCall Tryz.prog 115 [(.agg a_0.toArray), (.agg b_1.toArray)].toArray KP K h :=
  WpCall.of_vc Tryz.mixed Tryz.func115 (by kernel_rfl) Tryz.call115 tnum_Add_ann (by rw [tnum_Add_eq]; exact s)

/- (*halberd/xfer.row).unsigned -/
def xfer_row_unsigned (r_0 : Option Addr) (lo_1 : Int) (hi_2 : Int) (KP K : Value → Pr) : Pr :=
  pSome r_0 fun a1 => pSt ((a1.add 15).add 2) (.int .u64 lo_1) <| pSome r_0 fun a2 => pSt ((a2.add 15).add 3) (.int .u64 hi_2) <| K (.tuple [].toArray)
def xfer_row_unsigned_ann : Ann := .none
theorem xfer_row_unsigned_eq (r_0 : Option Addr) (lo_1 : Int) (hi_2 : Int) (KP K : Value → Pr) : vcBody Tryz.prog Tryz.f116 (Tryz.f116.body.getD .skip) xfer_row_unsigned_ann [(.pointer r_0), (.int .u64 lo_1), (.int .u64 hi_2)] KP K = xfer_row_unsigned r_0 lo_1 hi_2 KP K := by kernel_rfl
theorem xfer_row_unsigned_call (r_0 : Option Addr) (lo_1 : Int) (hi_2 : Int) {KP K : Value → Pr} {h : Heap} (s : xfer_row_unsigned r_0 lo_1 hi_2 (fgt KP) (fgt K) h) : WpCall Tryz.prog 116 [(.pointer r_0), (.int .u64 lo_1), (.int .u64 hi_2)].toArray KP K h :=
  WpCall.of_vc Tryz.mixed Tryz.func116 (by kernel_rfl) Tryz.call116 xfer_row_unsigned_ann (by rw [xfer_row_unsigned_eq]; exact s)

/- halberd/xfer.sum -/
def xfer_sum (x_0 : Int) (y_1 : Int) (KP K : Value → Pr) : Pr :=
  K (.tuple [(.int .i64 (IntKind.i64.wrap (x_0 + y_1))), (.bool ((decide (((IntKind.i64.wrap (x_0 + y_1)) : Int) < x_0)) == (decide ((y_1 : Int) < 0))))].toArray)
def xfer_sum_ann : Ann := .two (.none) (.two (.none) (.two (.none) (.none)))
theorem xfer_sum_eq (x_0 : Int) (y_1 : Int) (KP K : Value → Pr) : vcBody Tryz.prog Tryz.f117 (Tryz.f117.body.getD .skip) xfer_sum_ann [(.int .i64 x_0), (.int .i64 y_1)] KP K = xfer_sum x_0 y_1 KP K := by kernel_rfl
theorem xfer_sum_call (x_0 : Int) (y_1 : Int) {KP K : Value → Pr} {h : Heap} (s : xfer_sum x_0 y_1 (fgt KP) (fgt K) h) : WpCall Tryz.prog 117 [(.int .i64 x_0), (.int .i64 y_1)].toArray KP K h :=
  WpCall.of_vc Tryz.mixed Tryz.func117 (by kernel_rfl) Tryz.call117 xfer_sum_ann (by rw [xfer_sum_eq]; exact s)

/- (*halberd/xfer.row).signed -/
def xfer_row_signed (r_0 : Option Addr) (lo_1 : Int) (hi_2 : Int) (KP K : Value → Pr) : Pr :=
  pSome r_0 fun a1 => pSt ((a1.add 15).add 4) (.int .i64 lo_1) <| pSome r_0 fun a2 => pSt ((a2.add 15).add 5) (.int .i64 hi_2) <| K (.tuple [].toArray)
def xfer_row_signed_ann : Ann := .none
theorem xfer_row_signed_eq (r_0 : Option Addr) (lo_1 : Int) (hi_2 : Int) (KP K : Value → Pr) : vcBody Tryz.prog Tryz.f118 (Tryz.f118.body.getD .skip) xfer_row_signed_ann [(.pointer r_0), (.int .i64 lo_1), (.int .i64 hi_2)] KP K = xfer_row_signed r_0 lo_1 hi_2 KP K := by kernel_rfl
theorem xfer_row_signed_call (r_0 : Option Addr) (lo_1 : Int) (hi_2 : Int) {KP K : Value → Pr} {h : Heap} (s : xfer_row_signed r_0 lo_1 hi_2 (fgt KP) (fgt K) h) : WpCall Tryz.prog 118 [(.pointer r_0), (.int .i64 lo_1), (.int .i64 hi_2)].toArray KP K h :=
  WpCall.of_vc Tryz.mixed Tryz.func118 (by kernel_rfl) Tryz.call118 xfer_row_signed_ann (by rw [xfer_row_signed_eq]; exact s)

/- halberd/tnum.Sub -/
def tnum_Sub (a_0 : List Value) (b_1 : List Value) (KP K : Value → Pr) : Pr :=
  pNew a_0 fun b1 => pNew b_1 fun b2 => pNew (zc Tryz.prog 24) fun b3 => pLdA 2 ⟨b1, 0, none⟩ fun x4 => pLdA 2 ⟨b2, 0, none⟩ fun x5 => pCall Tryz.prog 138 [(.agg x4.toArray)] KP (.one .agg) fun (r6 : List Value) => pKeep (loadF Tryz.prog 24 (.pointer (some ⟨b2, 0, none⟩)) (.agg x5.toArray)) <| pCall Tryz.prog 138 [(.agg x5.toArray)] KP (.one .agg) fun (r7 : List Value) => pStA 2 ⟨b1, 0, none⟩ r6 <| pStA 2 ⟨b2, 0, none⟩ r7 <| pLd (.int .u64) ((⟨b1, 0, none⟩ : Addr).add 0) fun (x8 : Int) => pLd (.int .u64) ((⟨b2, 0, none⟩ : Addr).add 0) fun (x9 : Int) => pLd (.int .u64) ((⟨b1, 0, none⟩ : Addr).add 1) fun (x10 : Int) => pLd (.int .u64) ((⟨b2, 0, none⟩ : Addr).add 1) fun (x11 : Int) => pLd (.int .u64) ((⟨b1, 0, none⟩ : Addr).add 1) fun (x12 : Int) => pLd (.int .u64) ((⟨b2, 0, none⟩ : Addr).add 1) fun (x13 : Int) => pCall Tryz.prog 138 [(.agg (lay (zc Tryz.prog 24) [(0, (.int .u64 (IntKind.u64.wrap (x8 - x9)))), (1, (.int .u64 (bitsV .or .u64 (bitsV .or .u64 (bitsV .xor .u64 (IntKind.u64.wrap ((IntKind.u64.wrap (x8 - x9)) + x10)) (IntKind.u64.wrap ((IntKind.u64.wrap (x8 - x9)) - x11))) x12) x13)))]).toArray)] KP (.one .agg) fun (r14 : List Value) => pStA 2 ⟨b3, 0, none⟩ r14 <| pLdA 2 ⟨b3, 0, none⟩ fun x15 => K (.agg x15.toArray)
def tnum_Sub_ann : Ann := .two (.none) (.two (.ord [0, 2, 1, 3, 4, 5]) (.two (.none) (.two (.none) (.none))))
theorem tnum_Sub_eq (a_0 : List Value) (b_1 : List Value) (KP K : Value → Pr) : vcBody Tryz.prog Tryz.f119 (Tryz.f119.body.getD .skip) tnum_Sub_ann [(.agg a_0.toArray), (.agg b_1.toArray)] KP K = tnum_Sub a_0 b_1 KP K := by kernel_rfl
theorem tnum_Sub_call (a_0 : List Value) (b_1 : List Value) {KP K : Value → Pr} {h : Heap} (s : tnum_Sub a_0 b_1 (fgt KP) (fgt K) h) : WpCall Tryz.prog 119 [(.agg a_0.toArray), (.agg b_1.toArray)].toArray KP K h :=
  WpCall.of_vc Tryz.mixed Tryz.func119 (by kernel_rfl) Tryz.call119 tnum_Sub_ann (by rw [tnum_Sub_eq]; exact s)

/- halberd/xfer.less -/
def xfer_less (x_0 : Int) (y_1 : Int) (KP K : Value → Pr) : Pr :=
  K (.tuple [(.int .i64 (IntKind.i64.wrap (x_0 - y_1))), (.bool ((decide (((IntKind.i64.wrap (x_0 - y_1)) : Int) > x_0)) == (decide ((y_1 : Int) < 0))))].toArray)
def xfer_less_ann : Ann := .two (.none) (.two (.none) (.two (.none) (.none)))
theorem xfer_less_eq (x_0 : Int) (y_1 : Int) (KP K : Value → Pr) : vcBody Tryz.prog Tryz.f120 (Tryz.f120.body.getD .skip) xfer_less_ann [(.int .i64 x_0), (.int .i64 y_1)] KP K = xfer_less x_0 y_1 KP K := by kernel_rfl
theorem xfer_less_call (x_0 : Int) (y_1 : Int) {KP K : Value → Pr} {h : Heap} (s : xfer_less x_0 y_1 (fgt KP) (fgt K) h) : WpCall Tryz.prog 120 [(.int .i64 x_0), (.int .i64 y_1)].toArray KP K h :=
  WpCall.of_vc Tryz.mixed Tryz.func120 (by kernel_rfl) Tryz.call120 xfer_less_ann (by rw [xfer_less_eq]; exact s)

/- halberd/tnum.And -/
def tnum_And (a_0 : List Value) (b_1 : List Value) (KP K : Value → Pr) : Pr :=
  pNew a_0 fun b1 => pNew b_1 fun b2 => pNew (zc Tryz.prog 24) fun b3 => pLdA 2 ⟨b1, 0, none⟩ fun x4 => pLdA 2 ⟨b2, 0, none⟩ fun x5 => pCall Tryz.prog 138 [(.agg x4.toArray)] KP (.one .agg) fun (r6 : List Value) => pKeep (loadF Tryz.prog 24 (.pointer (some ⟨b2, 0, none⟩)) (.agg x5.toArray)) <| pCall Tryz.prog 138 [(.agg x5.toArray)] KP (.one .agg) fun (r7 : List Value) => pStA 2 ⟨b1, 0, none⟩ r6 <| pStA 2 ⟨b2, 0, none⟩ r7 <| pLd (.int .u64) ((⟨b1, 0, none⟩ : Addr).add 0) fun (x8 : Int) => pLd (.int .u64) ((⟨b2, 0, none⟩ : Addr).add 0) fun (x9 : Int) => pLd (.int .u64) ((⟨b1, 0, none⟩ : Addr).add 0) fun (x10 : Int) => pLd (.int .u64) ((⟨b1, 0, none⟩ : Addr).add 1) fun (x11 : Int) => pLd (.int .u64) ((⟨b2, 0, none⟩ : Addr).add 0) fun (x12 : Int) => pLd (.int .u64) ((⟨b2, 0, none⟩ : Addr).add 1) fun (x13 : Int) => pStA 2 ⟨b3, 0, none⟩ (lay (zc Tryz.prog 24) [(0, (.int .u64 (bitsV .and .u64 x8 x9))), (1, (.int .u64 (bitsV .andNot .u64 (bitsV .and .u64 (bitsV .or .u64 x10 x11) (bitsV .or .u64 x12 x13)) (bitsV .and .u64 x8 x9))))]) <| pLdA 2 ⟨b3, 0, none⟩ fun x14 => K (.agg x14.toArray)
def tnum_And_ann : Ann := .two (.none) (.two (.ord [0, 2, 1, 3, 4, 5]) (.two (.none) (.two (.none) (.none))))
theorem tnum_And_eq (a_0 : List Value) (b_1 : List Value) (KP K : Value → Pr) : vcBody Tryz.prog Tryz.f121 (Tryz.f121.body.getD .skip) tnum_And_ann [(.agg a_0.toArray), (.agg b_1.toArray)] KP K = tnum_And a_0 b_1 KP K := by kernel_rfl
theorem tnum_And_call (a_0 : List Value) (b_1 : List Value) {KP K : Value → Pr} {h : Heap} (s : tnum_And a_0 b_1 (fgt KP) (fgt K) h) : WpCall Tryz.prog 121 [(.agg a_0.toArray), (.agg b_1.toArray)].toArray KP K h :=
  WpCall.of_vc Tryz.mixed Tryz.func121 (by kernel_rfl) Tryz.call121 tnum_And_ann (by rw [tnum_And_eq]; exact s)

/- halberd/tnum.Or -/
def tnum_Or (a_0 : List Value) (b_1 : List Value) (KP K : Value → Pr) : Pr :=
  pNew a_0 fun b1 => pNew b_1 fun b2 => pNew (zc Tryz.prog 24) fun b3 => pLdA 2 ⟨b1, 0, none⟩ fun x4 => pLdA 2 ⟨b2, 0, none⟩ fun x5 => pCall Tryz.prog 138 [(.agg x4.toArray)] KP (.one .agg) fun (r6 : List Value) => pKeep (loadF Tryz.prog 24 (.pointer (some ⟨b2, 0, none⟩)) (.agg x5.toArray)) <| pCall Tryz.prog 138 [(.agg x5.toArray)] KP (.one .agg) fun (r7 : List Value) => pStA 2 ⟨b1, 0, none⟩ r6 <| pStA 2 ⟨b2, 0, none⟩ r7 <| pLd (.int .u64) ((⟨b1, 0, none⟩ : Addr).add 0) fun (x8 : Int) => pLd (.int .u64) ((⟨b2, 0, none⟩ : Addr).add 0) fun (x9 : Int) => pLd (.int .u64) ((⟨b1, 0, none⟩ : Addr).add 1) fun (x10 : Int) => pLd (.int .u64) ((⟨b2, 0, none⟩ : Addr).add 1) fun (x11 : Int) => pStA 2 ⟨b3, 0, none⟩ (lay (zc Tryz.prog 24) [(0, (.int .u64 (bitsV .or .u64 x8 x9))), (1, (.int .u64 (bitsV .andNot .u64 (bitsV .or .u64 x10 x11) (bitsV .or .u64 x8 x9))))]) <| pLdA 2 ⟨b3, 0, none⟩ fun x12 => K (.agg x12.toArray)
def tnum_Or_ann : Ann := .two (.none) (.two (.ord [0, 2, 1, 3, 4, 5]) (.two (.none) (.two (.none) (.none))))
theorem tnum_Or_eq (a_0 : List Value) (b_1 : List Value) (KP K : Value → Pr) : vcBody Tryz.prog Tryz.f122 (Tryz.f122.body.getD .skip) tnum_Or_ann [(.agg a_0.toArray), (.agg b_1.toArray)] KP K = tnum_Or a_0 b_1 KP K := by kernel_rfl
theorem tnum_Or_call (a_0 : List Value) (b_1 : List Value) {KP K : Value → Pr} {h : Heap} (s : tnum_Or a_0 b_1 (fgt KP) (fgt K) h) : WpCall Tryz.prog 122 [(.agg a_0.toArray), (.agg b_1.toArray)].toArray KP K h :=
  WpCall.of_vc Tryz.mixed Tryz.func122 (by kernel_rfl) Tryz.call122 tnum_Or_ann (by rw [tnum_Or_eq]; exact s)

end Go.Proofs.YtpbhanglcophbaaGreat

set_option linter.unusedVariables false
namespace Go.Proofs.YtpbhanglcophbaaGreat
open Go.Hl
/- halberd/tnum.Xor -/
def tnum_Xor (a_0 : List Value) (b_1 : List Value) (KP K : Value → Pr) : Pr :=
  pNew a_0 fun b1 => pNew b_1 fun b2 => pNew (zc Tryz.prog 24) fun b3 => pLdA 2 ⟨b1, 0, none⟩ fun x4 => pLdA 2 ⟨b2, 0, none⟩ fun x5 => pCall Tryz.prog 138 [(.agg x4.toArray)] KP (.one .agg) fun (r6 : List Value) => pKeep (loadF Tryz.prog 24 (.pointer (some ⟨b2, 0, none⟩)) (.agg x5.toArray)) <| pCall Tryz.prog 138 [(.agg x5.toArray)] KP (.one .agg) fun (r7 : List Value) => pStA 2 ⟨b1, 0, none⟩ r6 <| pStA 2 ⟨b2, 0, none⟩ r7 <| pLd (.int .u64) ((⟨b1, 0, none⟩ : Addr).add 0) fun (x8 : Int) => pLd (.int .u64) ((⟨b2, 0, none⟩ : Addr).add 0) fun (x9 : Int) => pLd (.int .u64) ((⟨b1, 0, none⟩ : Addr).add 1) fun (x10 : Int) => pLd (.int .u64) ((⟨b2, 0, none⟩ : Addr).add 1) fun (x11 : Int) => pCall Tryz.prog 138 [(.agg (lay (zc Tryz.prog 24) [(0, (.int .u64 (bitsV .xor .u64 x8 x9))), (1, (.int .u64 (bitsV .or .u64 x10 x11)))]).toArray)] KP (.one .agg) fun (r12 : List Value) => pStA 2 ⟨b3, 0, none⟩ r12 <| pLdA 2 ⟨b3, 0, none⟩ fun x13 => K (.agg x13.toArray)
def tnum_Xor_ann : Ann := .two (.none) (.two (.ord [0, 2, 1, 3, 4, 5]) (.two (.none) (.none)))
theorem tnum_Xor_eq (a_0 : List Value) (b_1 : List Value) (KP K : Value → Pr) : vcBody Tryz.prog Tryz.f123 (Tryz.f123.body.getD .skip) tnum_Xor_ann [(.agg a_0.toArray), (.agg b_1.toArray)] KP K = tnum_Xor a_0 b_1 KP K := by kernel_rfl
theorem tnum_Xor_call (a_0 : List Value) (b_1 : List Value) {KP K : Value → Pr} {h : Heap} (s : tnum_Xor a_0 b_1 (fgt KP) (fgt K) h) : WpCall Tryz.prog 123 [(.agg a_0.toArray), (.agg b_1.toArray)].toArray KP K h :=
  WpCall.of_vc Tryz.mixed Tryz.func123 (by kernel_rfl) Tryz.call123 tnum_Xor_ann (by rw [tnum_Xor_eq]; exact s)

/- halberd/tnum.Lsh -/
def tnum_Lsh (t_0 : List Value) (n_1 : Int) (KP K : Value → Pr) : Pr :=
  pNew t_0 fun b1 => pNew (zc Tryz.prog 24) fun b2 => pLdA 2 ⟨b1, 0, none⟩ fun x3 => pCall Tryz.prog 138 [(.agg x3.toArray)] KP (.one .agg) fun (r4 : List Value) => pStA 2 ⟨b1, 0, none⟩ r4 <| pLd (.int .u64) ((⟨b1, 0, none⟩ : Addr).add 0) fun (x5 : Int) => pAssert ((64 : Int) ≠ 0) <| pAssert (0 ≤ (((n_1 : Int).tmod 64) : Int)) <| pLd (.int .u64) ((⟨b1, 0, none⟩ : Addr).add 1) fun (x6 : Int) => pAssert ((64 : Int) ≠ 0) <| pAssert (0 ≤ (((n_1 : Int).tmod 64) : Int)) <| pStA 2 ⟨b2, 0, none⟩ (lay (zc Tryz.prog 24) [(0, (.int .u64 (IntKind.u64.wrap (x5 * 2 ^ (min (((n_1 : Int).tmod 64) : Int).toNat (IntKind.u64).bits))))), (1, (.int .u64 (IntKind.u64.wrap (x6 * 2 ^ (min (((n_1 : Int).tmod 64) : Int).toNat (IntKind.u64).bits)))))]) <| pLdA 2 ⟨b2, 0, none⟩ fun x7 => K (.agg x7.toArray)
def tnum_Lsh_ann : Ann := .two (.none) (.two (.none) (.two (.none) (.none)))
theorem tnum_Lsh_eq (t_0 : List Value) (n_1 : Int) (KP K : Value → Pr) : vcBody Tryz.prog Tryz.f124 (Tryz.f124.body.getD .skip) tnum_Lsh_ann [(.agg t_0.toArray), (.int .u64 n_1)] KP K = tnum_Lsh t_0 n_1 KP K := by kernel_rfl
theorem tnum_Lsh_call (t_0 : List Value) (n_1 : Int) {KP K : Value → Pr} {h : Heap} (s : tnum_Lsh t_0 n_1 (fgt KP) (fgt K) h) : WpCall Tryz.prog 124 [(.agg t_0.toArray), (.int .u64 n_1)].toArray KP K h :=
  WpCall.of_vc Tryz.mixed Tryz.func124 (by kernel_rfl) Tryz.call124 tnum_Lsh_ann (by rw [tnum_Lsh_eq]; exact s)

/- halberd/tnum.Rsh -/
def tnum_Rsh (t_0 : List Value) (n_1 : Int) (KP K : Value → Pr) : Pr :=
  pNew t_0 fun b1 => pNew (zc Tryz.prog 24) fun b2 => pLdA 2 ⟨b1, 0, none⟩ fun x3 => pCall Tryz.prog 138 [(.agg x3.toArray)] KP (.one .agg) fun (r4 : List Value) => pStA 2 ⟨b1, 0, none⟩ r4 <| pLd (.int .u64) ((⟨b1, 0, none⟩ : Addr).add 0) fun (x5 : Int) => pAssert ((64 : Int) ≠ 0) <| pAssert (0 ≤ (((n_1 : Int).tmod 64) : Int)) <| pLd (.int .u64) ((⟨b1, 0, none⟩ : Addr).add 1) fun (x6 : Int) => pAssert ((64 : Int) ≠ 0) <| pAssert (0 ≤ (((n_1 : Int).tmod 64) : Int)) <| pStA 2 ⟨b2, 0, none⟩ (lay (zc Tryz.prog 24) [(0, (.int .u64 ((x5 : Int).fdiv (2 ^ (min (((n_1 : Int).tmod 64) : Int).toNat (IntKind.u64).bits))))), (1, (.int .u64 ((x6 : Int).fdiv (2 ^ (min (((n_1 : Int).tmod 64) : Int).toNat (IntKind.u64).bits)))))]) <| pLdA 2 ⟨b2, 0, none⟩ fun x7 => K (.agg x7.toArray)
def tnum_Rsh_ann : Ann := .two (.none) (.two (.none) (.two (.none) (.none)))
theorem tnum_Rsh_eq (t_0 : List Value) (n_1 : Int) (KP K : Value → Pr) : vcBody Tryz.prog Tryz.f125 (Tryz.f125.body.getD .skip) tnum_Rsh_ann [(.agg t_0.toArray), (.int .u64 n_1)] KP K = tnum_Rsh t_0 n_1 KP K := by kernel_rfl
theorem tnum_Rsh_call (t_0 : List Value) (n_1 : Int) {KP K : Value → Pr} {h : Heap} (s : tnum_Rsh t_0 n_1 (fgt KP) (fgt K) h) : WpCall Tryz.prog 125 [(.agg t_0.toArray), (.int .u64 n_1)].toArray KP K h :=
  WpCall.of_vc Tryz.mixed Tryz.func125 (by kernel_rfl) Tryz.call125 tnum_Rsh_ann (by rw [tnum_Rsh_eq]; exact s)

/- halberd/tnum.Arsh -/
def tnum_Arsh (t_0 : List Value) (n_1 : Int) (KP K : Value → Pr) : Pr :=
  pNew t_0 fun b1 => pNew (zc Tryz.prog 24) fun b2 => pLdA 2 ⟨b1, 0, none⟩ fun x3 => pCall Tryz.prog 138 [(.agg x3.toArray)] KP (.one .agg) fun (r4 : List Value) => pStA 2 ⟨b1, 0, none⟩ r4 <| pLd (.int .u64) ((⟨b1, 0, none⟩ : Addr).add 0) fun (x5 : Int) => pAssert ((64 : Int) ≠ 0) <| pAssert (0 ≤ (((n_1 : Int).tmod 64) : Int)) <| pLd (.int .u64) ((⟨b1, 0, none⟩ : Addr).add 1) fun (x6 : Int) => pAssert ((64 : Int) ≠ 0) <| pAssert (0 ≤ (((n_1 : Int).tmod 64) : Int)) <| pStA 2 ⟨b2, 0, none⟩ (lay (zc Tryz.prog 24) [(0, (.int .u64 (IntKind.u64.wrap (((IntKind.i64.wrap x5) : Int).fdiv (2 ^ (min (((n_1 : Int).tmod 64) : Int).toNat (IntKind.i64).bits)))))), (1, (.int .u64 (IntKind.u64.wrap (((IntKind.i64.wrap x6) : Int).fdiv (2 ^ (min (((n_1 : Int).tmod 64) : Int).toNat (IntKind.i64).bits))))))]) <| pLdA 2 ⟨b2, 0, none⟩ fun x7 => K (.agg x7.toArray)
def tnum_Arsh_ann : Ann := .two (.none) (.two (.none) (.two (.none) (.none)))
theorem tnum_Arsh_eq (t_0 : List Value) (n_1 : Int) (KP K : Value → Pr) : vcBody Tryz.prog Tryz.f126 (Tryz.f126.body.getD .skip) tnum_Arsh_ann [(.agg t_0.toArray), (.int .u64 n_1)] KP K = tnum_Arsh t_0 n_1 KP K := by kernel_rfl
theorem tnum_Arsh_call (t_0 : List Value) (n_1 : Int) {KP K : Value → Pr} {h : Heap} (s : tnum_Arsh t_0 n_1 (fgt KP) (fgt K) h) : WpCall Tryz.prog 126 [(.agg t_0.toArray), (.int .u64 n_1)].toArray KP K h :=
  WpCall.of_vc Tryz.mixed Tryz.func126 (by kernel_rfl) Tryz.call126 tnum_Arsh_ann (by rw [tnum_Arsh_eq]; exact s)

/- halberd/words.Sext -/
def words_Sext (x_0 : Int) (n_1 : Int) (KP K : Value → Pr) : Pr :=
  pCall Tryz.prog 90 [(.int .i64 n_1)] KP (.one .bool) fun (r1 : Bool) => pIf (!r1)
  (K (.int .u64 x_0))
  (pAssert (0 ≤ ((IntKind.i64.wrap (64 - (IntKind.i64.wrap (8 * n_1)))) : Int)) <| pAssert (0 ≤ ((IntKind.i64.wrap (64 - (IntKind.i64.wrap (8 * n_1)))) : Int)) <| K (.int .u64 (IntKind.u64.wrap (((IntKind.i64.wrap (IntKind.u64.wrap (x_0 * 2 ^ (min ((IntKind.i64.wrap (64 - (IntKind.i64.wrap (8 * n_1)))) : Int).toNat (IntKind.u64).bits)))) : Int).fdiv (2 ^ (min ((IntKind.i64.wrap (64 - (IntKind.i64.wrap (8 * n_1)))) : Int).toNat (IntKind.i64).bits))))))
def words_Sext_ann : Ann := .two (.none) (.two (.two (.none) (.two (.two (.none) (.none)) (.none))) (.two (.none) (.two (.none) (.none))))
theorem words_Sext_eq (x_0 : Int) (n_1 : Int) (KP K : Value → Pr) : vcBody Tryz.prog Tryz.f127 (Tryz.f127.body.getD .skip) words_Sext_ann [(.int .u64 x_0), (.int .i64 n_1)] KP K = words_Sext x_0 n_1 KP K := by kernel_rfl
theorem words_Sext_call (x_0 : Int) (n_1 : Int) {KP K : Value → Pr} {h : Heap} (s : words_Sext x_0 n_1 (fgt KP) (fgt K) h) : WpCall Tryz.prog 127 [(.int .u64 x_0), (.int .i64 n_1)].toArray KP K h :=
  WpCall.of_vc Tryz.mixed Tryz.func127 (by kernel_rfl) Tryz.call127 words_Sext_ann (by rw [words_Sext_eq]; exact s)

/- halberd/alu.plain$1 -/
def alu_plain_1 (a_0 : Int) (b_1 : Int) (KP K : Value → Pr) : Pr :=
  K (.int .u64 (IntKind.u64.wrap (a_0 + b_1)))
def alu_plain_1_ann : Ann := .two (.none) (.two (.none) (.none))
theorem alu_plain_1_eq (a_0 : Int) (b_1 : Int) (KP K : Value → Pr) : vcBody Tryz.prog Tryz.f128 (Tryz.f128.body.getD .skip) alu_plain_1_ann [(.int .u64 a_0), (.int .u64 b_1)] KP K = alu_plain_1 a_0 b_1 KP K := by kernel_rfl
theorem alu_plain_1_call (a_0 : Int) (b_1 : Int) {KP K : Value → Pr} {h : Heap} (s : alu_plain_1 a_0 b_1 (fgt KP) (fgt K) h) : WpCall Tryz.prog 128 [(.int .u64 a_0), (.int .u64 b_1)].toArray KP K h :=
  WpCall.of_vc Tryz.mixed Tryz.func128 (by kernel_rfl) Tryz.call128 alu_plain_1_ann (by rw [alu_plain_1_eq]; exact s)

/- halberd/alu.plain$2 -/
def alu_plain_2 (a_0 : Int) (b_1 : Int) (KP K : Value → Pr) : Pr :=
  K (.int .u64 (IntKind.u64.wrap (a_0 - b_1)))
def alu_plain_2_ann : Ann := .two (.none) (.two (.none) (.none))
theorem alu_plain_2_eq (a_0 : Int) (b_1 : Int) (KP K : Value → Pr) : vcBody Tryz.prog Tryz.f129 (Tryz.f129.body.getD .skip) alu_plain_2_ann [(.int .u64 a_0), (.int .u64 b_1)] KP K = alu_plain_2 a_0 b_1 KP K := by kernel_rfl
theorem alu_plain_2_call (a_0 : Int) (b_1 : Int) {KP K : Value → Pr} {h : Heap} (s : alu_plain_2 a_0 b_1 (fgt KP) (fgt K) h) : WpCall Tryz.prog 129 [(.int .u64 a_0), (.int .u64 b_1)].toArray KP K h :=
  WpCall.of_vc Tryz.mixed Tryz.func129 (by kernel_rfl) Tryz.call129 alu_plain_2_ann (by rw [alu_plain_2_eq]; exact s)

/- halberd/alu.plain$3 -/
def alu_plain_3 (a_0 : Int) (b_1 : Int) (KP K : Value → Pr) : Pr :=
  K (.int .u64 (IntKind.u64.wrap (a_0 * b_1)))
def alu_plain_3_ann : Ann := .two (.none) (.two (.none) (.none))
theorem alu_plain_3_eq (a_0 : Int) (b_1 : Int) (KP K : Value → Pr) : vcBody Tryz.prog Tryz.f130 (Tryz.f130.body.getD .skip) alu_plain_3_ann [(.int .u64 a_0), (.int .u64 b_1)] KP K = alu_plain_3 a_0 b_1 KP K := by kernel_rfl
theorem alu_plain_3_call (a_0 : Int) (b_1 : Int) {KP K : Value → Pr} {h : Heap} (s : alu_plain_3 a_0 b_1 (fgt KP) (fgt K) h) : WpCall Tryz.prog 130 [(.int .u64 a_0), (.int .u64 b_1)].toArray KP K h :=
  WpCall.of_vc Tryz.mixed Tryz.func130 (by kernel_rfl) Tryz.call130 alu_plain_3_ann (by rw [alu_plain_3_eq]; exact s)

end Go.Proofs.YtpbhanglcophbaaGreat

set_option linter.unusedVariables false
namespace Go.Proofs.YtpbhanglcophbaaGreat
open Go.Hl
/- halberd/alu.div -/
def alu_div (a_0 : Int) (b_1 : Int) (KP K : Value → Pr) : Pr :=
  pIf ((b_1 : Int) == 0)
  (K (.int .u64 0))
  (pAssert ((b_1 : Int) ≠ 0) <| K (.int .u64 (IntKind.u64.wrap ((a_0 : Int).tdiv b_1))))
def alu_div_ann : Ann := .two (.none) (.two (.two (.none) (.two (.two (.none) (.none)) (.none))) (.two (.none) (.none)))
theorem alu_div_eq (a_0 : Int) (b_1 : Int) (KP K : Value → Pr) : vcBody Tryz.prog Tryz.f131 (Tryz.f131.body.getD .skip) alu_div_ann [(.int .u64 a_0), (.int .u64 b_1)] KP K = alu_div a_0 b_1 KP K := by kernel_rfl
theorem alu_div_call (a_0 : Int) (b_1 : Int) {KP K : Value → Pr} {h : Heap} (s : alu_div a_0 b_1 (fgt KP) (fgt K) h) : WpCall Tryz.prog 131 [(.int .u64 a_0), (.int .u64 b_1)].toArray KP K h :=
  WpCall.of_vc Tryz.mixed Tryz.func131 (by kernel_rfl) Tryz.call131 alu_div_ann (by rw [alu_div_eq]; exact s)

/- halberd/alu.mod -/
def alu_mod (a_0 : Int) (b_1 : Int) (KP K : Value → Pr) : Pr :=
  pIf ((b_1 : Int) == 0)
  (K (.int .u64 a_0))
  (pAssert ((b_1 : Int) ≠ 0) <| K (.int .u64 ((a_0 : Int).tmod b_1)))
def alu_mod_ann : Ann := .two (.none) (.two (.two (.none) (.two (.two (.none) (.none)) (.none))) (.two (.none) (.none)))
theorem alu_mod_eq (a_0 : Int) (b_1 : Int) (KP K : Value → Pr) : vcBody Tryz.prog Tryz.f132 (Tryz.f132.body.getD .skip) alu_mod_ann [(.int .u64 a_0), (.int .u64 b_1)] KP K = alu_mod a_0 b_1 KP K := by kernel_rfl
theorem alu_mod_call (a_0 : Int) (b_1 : Int) {KP K : Value → Pr} {h : Heap} (s : alu_mod a_0 b_1 (fgt KP) (fgt K) h) : WpCall Tryz.prog 132 [(.int .u64 a_0), (.int .u64 b_1)].toArray KP K h :=
  WpCall.of_vc Tryz.mixed Tryz.func132 (by kernel_rfl) Tryz.call132 alu_mod_ann (by rw [alu_mod_eq]; exact s)

/- halberd/alu.plain$4 -/
def alu_plain_4 (a_0 : Int) (b_1 : Int) (KP K : Value → Pr) : Pr :=
  K (.int .u64 (bitsV .or .u64 a_0 b_1))
def alu_plain_4_ann : Ann := .two (.none) (.two (.none) (.none))
theorem alu_plain_4_eq (a_0 : Int) (b_1 : Int) (KP K : Value → Pr) : vcBody Tryz.prog Tryz.f133 (Tryz.f133.body.getD .skip) alu_plain_4_ann [(.int .u64 a_0), (.int .u64 b_1)] KP K = alu_plain_4 a_0 b_1 KP K := by kernel_rfl
theorem alu_plain_4_call (a_0 : Int) (b_1 : Int) {KP K : Value → Pr} {h : Heap} (s : alu_plain_4 a_0 b_1 (fgt KP) (fgt K) h) : WpCall Tryz.prog 133 [(.int .u64 a_0), (.int .u64 b_1)].toArray KP K h :=
  WpCall.of_vc Tryz.mixed Tryz.func133 (by kernel_rfl) Tryz.call133 alu_plain_4_ann (by rw [alu_plain_4_eq]; exact s)

/- halberd/alu.plain$5 -/
def alu_plain_5 (a_0 : Int) (b_1 : Int) (KP K : Value → Pr) : Pr :=
  K (.int .u64 (bitsV .and .u64 a_0 b_1))
def alu_plain_5_ann : Ann := .two (.none) (.two (.none) (.none))
theorem alu_plain_5_eq (a_0 : Int) (b_1 : Int) (KP K : Value → Pr) : vcBody Tryz.prog Tryz.f134 (Tryz.f134.body.getD .skip) alu_plain_5_ann [(.int .u64 a_0), (.int .u64 b_1)] KP K = alu_plain_5 a_0 b_1 KP K := by kernel_rfl
theorem alu_plain_5_call (a_0 : Int) (b_1 : Int) {KP K : Value → Pr} {h : Heap} (s : alu_plain_5 a_0 b_1 (fgt KP) (fgt K) h) : WpCall Tryz.prog 134 [(.int .u64 a_0), (.int .u64 b_1)].toArray KP K h :=
  WpCall.of_vc Tryz.mixed Tryz.func134 (by kernel_rfl) Tryz.call134 alu_plain_5_ann (by rw [alu_plain_5_eq]; exact s)

/- halberd/alu.plain$6 -/
def alu_plain_6 (a_0 : Int) (b_1 : Int) (KP K : Value → Pr) : Pr :=
  K (.int .u64 (bitsV .xor .u64 a_0 b_1))
def alu_plain_6_ann : Ann := .two (.none) (.two (.none) (.none))
theorem alu_plain_6_eq (a_0 : Int) (b_1 : Int) (KP K : Value → Pr) : vcBody Tryz.prog Tryz.f135 (Tryz.f135.body.getD .skip) alu_plain_6_ann [(.int .u64 a_0), (.int .u64 b_1)] KP K = alu_plain_6 a_0 b_1 KP K := by kernel_rfl
theorem alu_plain_6_call (a_0 : Int) (b_1 : Int) {KP K : Value → Pr} {h : Heap} (s : alu_plain_6 a_0 b_1 (fgt KP) (fgt K) h) : WpCall Tryz.prog 135 [(.int .u64 a_0), (.int .u64 b_1)].toArray KP K h :=
  WpCall.of_vc Tryz.mixed Tryz.func135 (by kernel_rfl) Tryz.call135 alu_plain_6_ann (by rw [alu_plain_6_eq]; exact s)

/- halberd/alu.plain$7 -/
def alu_plain_7 (p_0 : Int) (b_1 : Int) (KP K : Value → Pr) : Pr :=
  K (.int .u64 b_1)
def alu_plain_7_ann : Ann := .two (.none) (.two (.none) (.none))
theorem alu_plain_7_eq (p_0 : Int) (b_1 : Int) (KP K : Value → Pr) : vcBody Tryz.prog Tryz.f136 (Tryz.f136.body.getD .skip) alu_plain_7_ann [(.int .u64 p_0), (.int .u64 b_1)] KP K = alu_plain_7 p_0 b_1 KP K := by kernel_rfl
theorem alu_plain_7_call (p_0 : Int) (b_1 : Int) {KP K : Value → Pr} {h : Heap} (s : alu_plain_7 p_0 b_1 (fgt KP) (fgt K) h) : WpCall Tryz.prog 136 [(.int .u64 p_0), (.int .u64 b_1)].toArray KP K h :=
  WpCall.of_vc Tryz.mixed Tryz.func136 (by kernel_rfl) Tryz.call136 alu_plain_7_ann (by rw [alu_plain_7_eq]; exact s)

/- halberd/alu.plain$8 -/
def alu_plain_8 (a_0 : Int) (p_1 : Int) (KP K : Value → Pr) : Pr :=
  K (.int .u64 (IntKind.u64.wrap (0 - a_0)))
def alu_plain_8_ann : Ann := .two (.none) (.two (.none) (.none))
theorem alu_plain_8_eq (a_0 : Int) (p_1 : Int) (KP K : Value → Pr) : vcBody Tryz.prog Tryz.f137 (Tryz.f137.body.getD .skip) alu_plain_8_ann [(.int .u64 a_0), (.int .u64 p_1)] KP K = alu_plain_8 a_0 p_1 KP K := by kernel_rfl
theorem alu_plain_8_call (a_0 : Int) (p_1 : Int) {KP K : Value → Pr} {h : Heap} (s : alu_plain_8 a_0 p_1 (fgt KP) (fgt K) h) : WpCall Tryz.prog 137 [(.int .u64 a_0), (.int .u64 p_1)].toArray KP K h :=
  WpCall.of_vc Tryz.mixed Tryz.func137 (by kernel_rfl) Tryz.call137 alu_plain_8_ann (by rw [alu_plain_8_eq]; exact s)

/- halberd/tnum.right -/
def tnum_right (t_0 : List Value) (KP K : Value → Pr) : Pr :=
  pNew t_0 fun b1 => pNew (zc Tryz.prog 24) fun b2 => pLd (.int .u64) ((⟨b1, 0, none⟩ : Addr).add 0) fun (x3 : Int) => pLd (.int .u64) ((⟨b1, 0, none⟩ : Addr).add 1) fun (x4 : Int) => pLd (.int .u64) ((⟨b1, 0, none⟩ : Addr).add 1) fun (x5 : Int) => pStA 2 ⟨b2, 0, none⟩ (lay (zc Tryz.prog 24) [(0, (.int .u64 (bitsV .andNot .u64 x3 x4))), (1, (.int .u64 x5))]) <| pLdA 2 ⟨b2, 0, none⟩ fun x6 => K (.agg x6.toArray)
def tnum_right_ann : Ann := .two (.none) (.two (.none) (.none))
theorem tnum_right_eq (t_0 : List Value) (KP K : Value → Pr) : vcBody Tryz.prog Tryz.f138 (Tryz.f138.body.getD .skip) tnum_right_ann [(.agg t_0.toArray)] KP K = tnum_right t_0 KP K := by kernel_rfl
theorem tnum_right_call (t_0 : List Value) {KP K : Value → Pr} {h : Heap} (s : tnum_right t_0 (fgt KP) (fgt K) h) : WpCall Tryz.prog 138 [(.agg t_0.toArray)].toArray KP K h :=
  WpCall.of_vc Tryz.mixed Tryz.func138 (by kernel_rfl) Tryz.call138 tnum_right_ann (by rw [tnum_right_eq]; exact s)

end Go.Proofs.YtpbhanglcophbaaGreat

set_option linter.unusedVariables false
namespace Go.Proofs.YtpbhanglcophbaaGreat
open Go.Hl
/- (*halberd/num.known).unsigned -/
def num_known_unsigned (x_0 : Option Addr) (lo_1 : Int) (hi_2 : Int) (KP K : Value → Pr) : Pr :=
  pSome x_0 fun a1 => pSome x_0 fun a2 => pLd (.int .u64) ((a1.add 0).add 2) fun (x3 : Int) => pLd (.int .u64) ((a2.add 0).add 3) fun (x4 : Int) => pSome x_0 fun a5 => pSt ((a5.add 0).add 2) (.int .u64 (if lo_1 > x3 then lo_1 else x3)) <| pSome x_0 fun a6 => pSt ((a6.add 0).add 3) (.int .u64 (if hi_2 < x4 then hi_2 else x4)) <| K (.tuple [].toArray)
def num_known_unsigned_ann : Ann := .ord [0, 1, 2, 3, 4, 5, 7, 9, 10, 11, 12, 14, 6, 8, 13, 15, 16, 17, 18, 19, 20, 21, 22, 23]
theorem num_known_unsigned_eq (x_0 : Option Addr) (lo_1 : Int) (hi_2 : Int) (KP K : Value → Pr) : vcBody Tryz.prog Tryz.f139 (Tryz.f139.body.getD .skip) num_known_unsigned_ann [(.pointer x_0), (.int .u64 lo_1), (.int .u64 hi_2)] KP K = num_known_unsigned x_0 lo_1 hi_2 KP K := by kernel_rfl
theorem num_known_unsigned_call (x_0 : Option Addr) (lo_1 : Int) (hi_2 : Int) {KP K : Value → Pr} {h : Heap} (s : num_known_unsigned x_0 lo_1 hi_2 (fgt KP) (fgt K) h) : WpCall Tryz.prog 139 [(.pointer x_0), (.int .u64 lo_1), (.int .u64 hi_2)].toArray KP K h :=
  WpCall.of_vc Tryz.mixed Tryz.func139 (by kernel_rfl) Tryz.call139 num_known_unsigned_ann (by rw [num_known_unsigned_eq]; exact s)

/- (*halberd/num.known).signed -/
def num_known_signed (x_0 : Option Addr) (lo_1 : Int) (hi_2 : Int) (KP K : Value → Pr) : Pr :=
  pSome x_0 fun a1 => pSome x_0 fun a2 => pLd (.int .i64) ((a1.add 0).add 4) fun (x3 : Int) => pLd (.int .i64) ((a2.add 0).add 5) fun (x4 : Int) => pSome x_0 fun a5 => pSt ((a5.add 0).add 4) (.int .i64 (if lo_1 > x3 then lo_1 else x3)) <| pSome x_0 fun a6 => pSt ((a6.add 0).add 5) (.int .i64 (if hi_2 < x4 then hi_2 else x4)) <| K (.tuple [].toArray)
def num_known_signed_ann : Ann := .ord [0, 1, 2, 3, 4, 5, 7, 9, 10, 11, 12, 14, 6, 8, 13, 15, 16, 17, 18, 19, 20, 21, 22, 23]
theorem num_known_signed_eq (x_0 : Option Addr) (lo_1 : Int) (hi_2 : Int) (KP K : Value → Pr) : vcBody Tryz.prog Tryz.f140 (Tryz.f140.body.getD .skip) num_known_signed_ann [(.pointer x_0), (.int .i64 lo_1), (.int .i64 hi_2)] KP K = num_known_signed x_0 lo_1 hi_2 KP K := by kernel_rfl
theorem num_known_signed_call (x_0 : Option Addr) (lo_1 : Int) (hi_2 : Int) {KP K : Value → Pr} {h : Heap} (s : num_known_signed x_0 lo_1 hi_2 (fgt KP) (fgt K) h) : WpCall Tryz.prog 140 [(.pointer x_0), (.int .i64 lo_1), (.int .i64 hi_2)].toArray KP K h :=
  WpCall.of_vc Tryz.mixed Tryz.func140 (by kernel_rfl) Tryz.call140 num_known_signed_ann (by rw [num_known_signed_eq]; exact s)

/- halberd/tnum.Meet -/
def tnum_Meet (a_0 : List Value) (b_1 : List Value) (KP K : Value → Pr) : Pr :=
  pNew a_0 fun b1 => pNew b_1 fun b2 => pNew (zc Tryz.prog 24) fun b3 => pLdA 2 ⟨b1, 0, none⟩ fun x4 => pLdA 2 ⟨b2, 0, none⟩ fun x5 => pCall Tryz.prog 138 [(.agg x4.toArray)] KP (.one .agg) fun (r6 : List Value) => pKeep (loadF Tryz.prog 24 (.pointer (some ⟨b2, 0, none⟩)) (.agg x5.toArray)) <| pCall Tryz.prog 138 [(.agg x5.toArray)] KP (.one .agg) fun (r7 : List Value) => pStA 2 ⟨b1, 0, none⟩ r6 <| pStA 2 ⟨b2, 0, none⟩ r7 <| pLd (.int .u64) ((⟨b1, 0, none⟩ : Addr).add 0) fun (x8 : Int) => pLd (.int .u64) ((⟨b2, 0, none⟩ : Addr).add 0) fun (x9 : Int) => pLd (.int .u64) ((⟨b1, 0, none⟩ : Addr).add 1) fun (x10 : Int) => pLd (.int .u64) ((⟨b2, 0, none⟩ : Addr).add 1) fun (x11 : Int) => pIf (((bitsV .andNot .u64 (bitsV .xor .u64 x8 x9) (bitsV .or .u64 x10 x11)) : Int) != 0)
  (pCall Tryz.prog 86 [] KP (.one .agg) fun (r12 : List Value) => pStA 2 ⟨b3, 0, none⟩ r12 <| pLdA 2 ⟨b3, 0, none⟩ fun x13 => K (.tuple [(.agg x13.toArray), (.bool false)].toArray))
  (pLd (.int .u64) ((⟨b1, 0, none⟩ : Addr).add 0) fun (x14 : Int) => pLd (.int .u64) ((⟨b2, 0, none⟩ : Addr).add 0) fun (x15 : Int) => pLd (.int .u64) ((⟨b1, 0, none⟩ : Addr).add 1) fun (x16 : Int) => pLd (.int .u64) ((⟨b2, 0, none⟩ : Addr).add 1) fun (x17 : Int) => pCall Tryz.prog 138 [(.agg (lay (zc Tryz.prog 24) [(0, (.int .u64 (bitsV .or .u64 x14 x15))), (1, (.int .u64 (bitsV .and .u64 x16 x17)))]).toArray)] KP (.one .agg) fun (r18 : List Value) => pStA 2 ⟨b3, 0, none⟩ r18 <| pLdA 2 ⟨b3, 0, none⟩ fun x19 => K (.tuple [(.agg x19.toArray), (.bool true)].toArray))
def tnum_Meet_ann : Ann := .two (.none) (.two (.ord [0, 2, 1, 3, 4, 5]) (.two (.two (.none) (.two (.two (.none) (.none)) (.none))) (.two (.none) (.none))))
theorem tnum_Meet_eq (a_0 : List Value) (b_1 : List Value) (KP K : Value → Pr) : vcBody Tryz.prog Tryz.f141 (Tryz.f141.body.getD .skip) tnum_Meet_ann [(.agg a_0.toArray), (.agg b_1.toArray)] KP K = tnum_Meet a_0 b_1 KP K := by kernel_rfl
theorem tnum_Meet_call (a_0 : List Value) (b_1 : List Value) {KP K : Value → Pr} {h : Heap} (s : tnum_Meet a_0 b_1 (fgt KP) (fgt K) h) : WpCall Tryz.prog 141 [(.agg a_0.toArray), (.agg b_1.toArray)].toArray KP K h :=
  WpCall.of_vc Tryz.mixed Tryz.func141 (by kernel_rfl) Tryz.call141 tnum_Meet_ann (by rw [tnum_Meet_eq]; exact s)

/- halberd/tnum.Range -/
def tnum_Range (lo_0 : Int) (hi_1 : Int) (KP K : Value → Pr) : Pr :=
  pNew (zc Tryz.prog 24) fun b1 => pIf (decide ((hi_1 : Int) < lo_0))
  (pCall Tryz.prog 86 [] KP (.one .agg) fun (r2 : List Value) => pStA 2 ⟨b1, 0, none⟩ r2 <| pLdA 2 ⟨b1, 0, none⟩ fun x3 => K (.agg x3.toArray))
  (pCall Tryz.prog 150 [(.int .u64 (bitsV .xor .u64 lo_0 hi_1))] KP (.one (.int .i64)) fun (r4 : Int) => pCall Tryz.prog 92 [(.int .i64 r4)] KP (.one (.int .u64)) fun (r5 : Int) => pCall Tryz.prog 138 [(.agg (lay (zc Tryz.prog 24) [(0, (.int .u64 lo_0)), (1, (.int .u64 r5))]).toArray)] KP (.one .agg) fun (r6 : List Value) => pStA 2 ⟨b1, 0, none⟩ r6 <| pLdA 2 ⟨b1, 0, none⟩ fun x7 => K (.agg x7.toArray))
def tnum_Range_ann : Ann := .two (.none) (.two (.two (.none) (.two (.two (.none) (.none)) (.none))) (.two (.none) (.none)))
theorem tnum_Range_eq (lo_0 : Int) (hi_1 : Int) (KP K : Value → Pr) : vcBody Tryz.prog Tryz.f142 (Tryz.f142.body.getD .skip) tnum_Range_ann [(.int .u64 lo_0), (.int .u64 hi_1)] KP K = tnum_Range lo_0 hi_1 KP K := by kernel_rfl
theorem tnum_Range_call (lo_0 : Int) (hi_1 : Int) {KP K : Value → Pr} {h : Heap} (s : tnum_Range lo_0 hi_1 (fgt KP) (fgt K) h) : WpCall Tryz.prog 142 [(.int .u64 lo_0), (.int .u64 hi_1)].toArray KP K h :=
  WpCall.of_vc Tryz.mixed Tryz.func142 (by kernel_rfl) Tryz.call142 tnum_Range_ann (by rw [tnum_Range_eq]; exact s)

/- halberd/hooks.table -/
def hooks_table  (KP K : Value → Pr) : Pr :=
  pNew (zc Tryz.prog 175) fun b1 => pNew (lay (reps 3 (zc Tryz.prog 5)) [(0, (.int .u8 1)), (1, (.int .u8 2)), (2, (.int .u8 0))]) fun b2 => pNew (lay (reps 3 (zc Tryz.prog 5)) [(0, (.int .u8 1)), (1, (.int .u8 2)), (2, (.int .u8 0))]) fun b3 => pNew (lay (reps 4 (zc Tryz.prog 5)) [(0, (.int .u8 1)), (1, (.int .u8 2)), (2, (.int .u8 0)), (3, (.int .u8 0))]) fun b4 => pNew (lay (reps 3 (zc Tryz.prog 5)) [(0, (.int .u8 1)), (1, (.int .u8 2)), (2, (.int .u8 2))]) fun b5 => pNew (lay (reps 4 (zc Tryz.prog 5)) [(0, (.int .u8 1)), (1, (.int .u8 2)), (2, (.int .u8 2)), (3, (.int .u8 0))]) fun b6 => pNew (lay (reps 5 (zc Tryz.prog 5)) [(0, (.int .u8 1)), (1, (.int .u8 2)), (2, (.int .u8 2)), (3, (.int .u8 2)), (4, (.int .u8 6))]) fun b7 => pNew (lay (reps 5 (zc Tryz.prog 5)) [(0, (.int .u8 1)), (1, (.int .u8 2)), (2, (.int .u8 0)), (3, (.int .u8 0)), (4, (.int .u8 0))]) fun b8 => pNew (lay (reps 3 (zc Tryz.prog 5)) [(0, (.int .u8 1)), (1, (.int .u8 2)), (2, (.int .u8 6))]) fun b9 => pNew (lay (reps 3 (zc Tryz.prog 5)) [(0, (.int .u8 1)), (1, (.int .u8 6)), (2, (.int .u8 0))]) fun b10 => pNew (lay (reps 4 (zc Tryz.prog 5)) [(0, (.int .u8 1)), (1, (.int .u8 6)), (2, (.int .u8 0)), (3, (.int .u8 0))]) fun b11 => pNew (lay (reps 2 (zc Tryz.prog 5)) [(0, (.int .u8 1)), (1, (.int .u8 0))]) fun b12 => pNew (lay (reps 3 (zc Tryz.prog 5)) [(0, (.int .u8 1)), (1, (.int .u8 1)), (2, (.int .u8 0))]) fun b13 => pNew (lay (reps 3 (zc Tryz.prog 5)) [(0, (.int .u8 1)), (1, (.int .u8 1)), (2, (.int .u8 0))]) fun b14 => pNew (lay (reps 3 (zc Tryz.prog 5)) [(0, (.int .u8 1)), (1, (.int .u8 0)), (2, (.int .u8 0))]) fun b15 => pNew (lay (reps 2 (zc Tryz.prog 5)) [(0, (.int .u8 1)), (1, (.int .u8 2))]) fun b16 => pNew (lay (reps 3 (zc Tryz.prog 5)) [(0, (.int .u8 1)), (1, (.int .u8 2)), (2, (.int .u8 0))]) fun b17 => pAssert ((lay (zc Tryz.prog 158) [(0, (.string (⟨#[111, 112, 101, 110]⟩ : ByteArray))), (1, (.slice (some ⟨b2, 0, none⟩) 3 3)), (2, (.int .u64 40))]).length = 3) <| pAssert ((lay (zc Tryz.prog 158) [(0, (.string (⟨#[97, 99, 99, 101, 115, 115]⟩ : ByteArray))), (1, (.slice (some ⟨b3, 0, none⟩) 3 3)), (2, (.int .u64 40))]).length = 3) <| pAssert ((lay (zc Tryz.prog 158) [(0, (.string (⟨#[99, 114, 101, 97, 116, 101]⟩ : ByteArray))), (1, (.slice (some ⟨b4, 0, none⟩) 4 4)), (2, (.int .u64 40))]).length = 3) <| pAssert ((lay (zc Tryz.prog 158) [(0, (.string (⟨#[108, 105, 110, 107]⟩ : ByteArray))), (1, (.slice (some ⟨b5, 0, none⟩) 3 3)), (2, (.int .u64 40))]).length = 3) <| pAssert ((lay (zc Tryz.prog 158) [(0, (.string (⟨#[117, 110, 108, 105, 110, 107]⟩ : ByteArray))), (1, (.slice (some ⟨b6, 0, none⟩) 4 4)), (2, (.int .u64 40))]).length = 3) <| pAssert ((lay (zc Tryz.prog 158) [(0, (.string (⟨#[114, 101, 110, 97, 109, 101]⟩ : ByteArray))), (1, (.slice (some ⟨b7, 0, none⟩) 5 5)), (2, (.int .u64 40))]).length = 3) <| pAssert ((lay (zc Tryz.prog 158) [(0, (.string (⟨#[115, 101, 116, 97, 116, 116, 114]⟩ : ByteArray))), (1, (.slice (some ⟨b8, 0, none⟩) 5 5)), (2, (.int .u64 40))]).length = 3) <| pAssert ((lay (zc Tryz.prog 158) [(0, (.string (⟨#[101, 120, 101, 99]⟩ : ByteArray))), (1, (.slice (some ⟨b9, 0, none⟩) 3 3)), (2, (.int .u64 40))]).length = 3) <| pAssert ((lay (zc Tryz.prog 158) [(0, (.string (⟨#[109, 109, 97, 112]⟩ : ByteArray))), (1, (.slice (some ⟨b10, 0, none⟩) 3 3)), (2, (.int .u64 40))]).length = 3) <| pAssert ((lay (zc Tryz.prog 158) [(0, (.string (⟨#[109, 112, 114, 111, 116, 101, 99, 116]⟩ : ByteArray))), (1, (.slice (some ⟨b11, 0, none⟩) 4 4)), (2, (.int .u64 40))]).length = 3) <| pAssert ((lay (zc Tryz.prog 158) [(0, (.string (⟨#[102, 111, 114, 107]⟩ : ByteArray))), (1, (.slice (some ⟨b12, 0, none⟩) 2 2)), (2, (.int .u64 12))]).length = 3) <| pAssert ((lay (zc Tryz.prog 158) [(0, (.string (⟨#[107, 105, 108, 108]⟩ : ByteArray))), (1, (.slice (some ⟨b13, 0, none⟩) 3 3)), (2, (.int .u64 1))]).length = 3) <| pAssert ((lay (zc Tryz.prog 158) [(0, (.string (⟨#[112, 116, 114, 97, 99, 101]⟩ : ByteArray))), (1, (.slice (some ⟨b14, 0, none⟩) 3 3)), (2, (.int .u64 1))]).length = 3) <| pAssert ((lay (zc Tryz.prog 158) [(0, (.string (⟨#[115, 101, 116, 105, 100]⟩ : ByteArray))), (1, (.slice (some ⟨b15, 0, none⟩) 3 3)), (2, (.int .u64 1))]).length = 3) <| pAssert ((lay (zc Tryz.prog 158) [(0, (.string (⟨#[99, 104, 100, 105, 114]⟩ : ByteArray))), (1, (.slice (some ⟨b16, 0, none⟩) 2 2)), (2, (.int .u64 40))]).length = 3) <| pAssert ((lay (zc Tryz.prog 158) [(0, (.string (⟨#[103, 101, 116, 97, 116, 116, 114]⟩ : ByteArray))), (1, (.slice (some ⟨b17, 0, none⟩) 3 3)), (2, (.int .u64 40))]).length = 3) <| pStA 51 ⟨b1, 0, none⟩ (lay (zc Tryz.prog 175) [(3, (.agg (lay (zc Tryz.prog 158) [(0, (.string (⟨#[111, 112, 101, 110]⟩ : ByteArray))), (1, (.slice (some ⟨b2, 0, none⟩) 3 3)), (2, (.int .u64 40))]).toArray)), (6, (.agg (lay (zc Tryz.prog 158) [(0, (.string (⟨#[97, 99, 99, 101, 115, 115]⟩ : ByteArray))), (1, (.slice (some ⟨b3, 0, none⟩) 3 3)), (2, (.int .u64 40))]).toArray)), (9, (.agg (lay (zc Tryz.prog 158) [(0, (.string (⟨#[99, 114, 101, 97, 116, 101]⟩ : ByteArray))), (1, (.slice (some ⟨b4, 0, none⟩) 4 4)), (2, (.int .u64 40))]).toArray)), (12, (.agg (lay (zc Tryz.prog 158) [(0, (.string (⟨#[108, 105, 110, 107]⟩ : ByteArray))), (1, (.slice (some ⟨b5, 0, none⟩) 3 3)), (2, (.int .u64 40))]).toArray)), (15, (.agg (lay (zc Tryz.prog 158) [(0, (.string (⟨#[117, 110, 108, 105, 110, 107]⟩ : ByteArray))), (1, (.slice (some ⟨b6, 0, none⟩) 4 4)), (2, (.int .u64 40))]).toArray)), (18, (.agg (lay (zc Tryz.prog 158) [(0, (.string (⟨#[114, 101, 110, 97, 109, 101]⟩ : ByteArray))), (1, (.slice (some ⟨b7, 0, none⟩) 5 5)), (2, (.int .u64 40))]).toArray)), (21, (.agg (lay (zc Tryz.prog 158) [(0, (.string (⟨#[115, 101, 116, 97, 116, 116, 114]⟩ : ByteArray))), (1, (.slice (some ⟨b8, 0, none⟩) 5 5)), (2, (.int .u64 40))]).toArray)), (24, (.agg (lay (zc Tryz.prog 158) [(0, (.string (⟨#[101, 120, 101, 99]⟩ : ByteArray))), (1, (.slice (some ⟨b9, 0, none⟩) 3 3)), (2, (.int .u64 40))]).toArray)), (27, (.agg (lay (zc Tryz.prog 158) [(0, (.string (⟨#[109, 109, 97, 112]⟩ : ByteArray))), (1, (.slice (some ⟨b10, 0, none⟩) 3 3)), (2, (.int .u64 40))]).toArray)), (30, (.agg (lay (zc Tryz.prog 158) [(0, (.string (⟨#[109, 112, 114, 111, 116, 101, 99, 116]⟩ : ByteArray))), (1, (.slice (some ⟨b11, 0, none⟩) 4 4)), (2, (.int .u64 40))]).toArray)), (33, (.agg (lay (zc Tryz.prog 158) [(0, (.string (⟨#[102, 111, 114, 107]⟩ : ByteArray))), (1, (.slice (some ⟨b12, 0, none⟩) 2 2)), (2, (.int .u64 12))]).toArray)), (36, (.agg (lay (zc Tryz.prog 158) [(0, (.string (⟨#[107, 105, 108, 108]⟩ : ByteArray))), (1, (.slice (some ⟨b13, 0, none⟩) 3 3)), (2, (.int .u64 1))]).toArray)), (39, (.agg (lay (zc Tryz.prog 158) [(0, (.string (⟨#[112, 116, 114, 97, 99, 101]⟩ : ByteArray))), (1, (.slice (some ⟨b14, 0, none⟩) 3 3)), (2, (.int .u64 1))]).toArray)), (42, (.agg (lay (zc Tryz.prog 158) [(0, (.string (⟨#[115, 101, 116, 105, 100]⟩ : ByteArray))), (1, (.slice (some ⟨b15, 0, none⟩) 3 3)), (2, (.int .u64 1))]).toArray)), (45, (.agg (lay (zc Tryz.prog 158) [(0, (.string (⟨#[99, 104, 100, 105, 114]⟩ : ByteArray))), (1, (.slice (some ⟨b16, 0, none⟩) 2 2)), (2, (.int .u64 40))]).toArray)), (48, (.agg (lay (zc Tryz.prog 158) [(0, (.string (⟨#[103, 101, 116, 97, 116, 116, 114]⟩ : ByteArray))), (1, (.slice (some ⟨b17, 0, none⟩) 3 3)), (2, (.int .u64 40))]).toArray))]) <| pLdA 51 ⟨b1, 0, none⟩ fun x18 => K (.agg x18.toArray)
def hooks_table_ann : Ann := .two (.none) (.two (.none) (.none))
theorem hooks_table_eq  (KP K : Value → Pr) : vcBody Tryz.prog Tryz.f143 (Tryz.f143.body.getD .skip) hooks_table_ann [] KP K = hooks_table  KP K := by kernel_rfl
theorem hooks_table_call  {KP K : Value → Pr} {h : Heap} (s : hooks_table  (fgt KP) (fgt K) h) : WpCall Tryz.prog 143 [].toArray KP K h :=
  WpCall.of_vc Tryz.mixed Tryz.func143 (by kernel_rfl) Tryz.call143 hooks_table_ann (by rw [hooks_table_eq]; exact s)

/- slices.IndexFunc[[]int,int] -/
def slices_IndexFunc_int_int_l1 (s_0 : Sl) (f_1 : Value) (KP : Value → Pr) (K : Value → Pr) (k1 : Int × Unit → Pr) (x2 : Int) : Pr :=
  pIf (decide ((x2 : Int) < (s_0.len : Int)))
  (pIdx x2 s_0.len <| pSome s_0.base fun a3 => pLd (.int .i64) (a3.add ((x2 : Int).toNat * 1)) fun (x4 : Int) => pCallV Tryz.prog f_1 [(.int .i64 x4)] KP (.one .bool) fun (r5 : Bool) => pIf r5
  (K (.int .i64 x2))
  (k1 ((IntKind.i64.wrap (x2 + 1)), ())))
  (K (.int .i64 (-1)))
def slices_IndexFunc_int_int (s_0 : Sl) (f_1 : Value) (KP K : Value → Pr) : Pr :=
  pLoop (σ := Int × Unit) (fun s k1 => slices_IndexFunc_int_int_l1 s_0 f_1 KP K k1 s.1) (0, ())
def slices_IndexFunc_int_int_ann : Ann := .two (.none) (.two (.two (.none) (.sub (.loop [(8, (.int .i64))] (.two (.none) (.two (.two (.none) (.none)) (.two (.sub (.two (.none) (.two (.none) (.two (.two (.none) (.none)) (.none))))) (.none))))))) (.two (.none) (.none)))
theorem slices_IndexFunc_int_int_eq (s_0 : Sl) (f_1 : Value) (KP K : Value → Pr) : vcBody Tryz.prog Tryz.f144 (Tryz.f144.body.getD .skip) slices_IndexFunc_int_int_ann [(.slice s_0.base s_0.len s_0.cap), f_1] KP K = slices_IndexFunc_int_int s_0 f_1 KP K := by kernel_rfl
theorem slices_IndexFunc_int_int_call (s_0 : Sl) (f_1 : Value) {KP K : Value → Pr} {h : Heap} (s : slices_IndexFunc_int_int s_0 f_1 (fgt KP) (fgt K) h) : WpCall Tryz.prog 144 [(.slice s_0.base s_0.len s_0.cap), f_1].toArray KP K h :=
  WpCall.of_vc Tryz.mixed Tryz.func144 (by kernel_rfl) Tryz.call144 slices_IndexFunc_int_int_ann (by rw [slices_IndexFunc_int_int_eq]; exact s)

/- halberd/num.Meet -/
def num_Meet (a_0 : List Value) (b_1 : List Value) (KP K : Value → Pr) : Pr :=
  pNew a_0 fun b1 => pNew b_1 fun b2 => pNew (zc Tryz.prog 26) fun b3 => pLdA 6 ⟨b1, 0, none⟩ fun x4 => pAssert (x4.length = 6) <| pNew (lay (zc Tryz.prog 153) [(0, (.agg x4.toArray))]) fun b5 => pLd (.int .u64) ((⟨b2, 0, none⟩ : Addr).add 2) fun (x6 : Int) => pLd (.int .u64) ((⟨b2, 0, none⟩ : Addr).add 3) fun (x7 : Int) => pCall Tryz.prog 139 [(.pointer (some ⟨b5, 0, none⟩)), (.int .u64 x6), (.int .u64 x7)] KP (.many []) fun (r8 : Unit) => pLd (.int .i64) ((⟨b2, 0, none⟩ : Addr).add 4) fun (x9 : Int) => pLd (.int .i64) ((⟨b2, 0, none⟩ : Addr).add 5) fun (x10 : Int) => pCall Tryz.prog 140 [(.pointer (some ⟨b5, 0, none⟩)), (.int .i64 x9), (.int .i64 x10)] KP (.many []) fun (r11 : Unit) => pLdA 2 ((⟨b1, 0, none⟩ : Addr).add 0) fun x12 => pLdA 2 ((⟨b2, 0, none⟩ : Addr).add 0) fun x13 => pCall Tryz.prog 141 [(.agg x12.toArray), (.agg x13.toArray)] KP (.many [.agg, .bool]) fun (r14 : (List Value) × Bool × Unit) => pNew (zc Tryz.prog 24) fun b15 => pStA 2 ⟨b15, 0, none⟩ r14.1 <| pIf (!r14.2.1)
  (pCall Tryz.prog 45 [] KP (.one .agg) fun (r16 : List Value) => pStA 6 ⟨b3, 0, none⟩ r16 <| pLdA 6 ⟨b3, 0, none⟩ fun x17 => K (.tuple [(.agg x17.toArray), (.bool false)].toArray))
  (pLdA 2 ⟨b15, 0, none⟩ fun x18 => pSome (some ⟨b5, 0, none⟩) fun a19 => pStA 2 ((a19.add 0).add 0) x18 <| pSome (some ⟨b5, 0, none⟩) fun a20 => pLdA 6 (a20.add 0) fun x21 => pCall Tryz.prog 48 [(.agg x21.toArray)] KP (.many [.agg, .bool]) fun (r22 : (List Value) × Bool × Unit) => pStA 6 ⟨b3, 0, none⟩ r22.1 <| pLdA 6 ⟨b3, 0, none⟩ fun x23 => K (.tuple [(.agg x23.toArray), (.bool r22.2.1)].toArray))
def num_Meet_ann : Ann := .two (.none) (.two (.none) (.two (.none) (.two (.none) (.two (.none) (.two (.two (.none) (.two (.two (.none) (.none)) (.none))) (.two (.none) (.two (.none) (.none))))))))
theorem num_Meet_eq (a_0 : List Value) (b_1 : List Value) (KP K : Value → Pr) : vcBody Tryz.prog Tryz.f145 (Tryz.f145.body.getD .skip) num_Meet_ann [(.agg a_0.toArray), (.agg b_1.toArray)] KP K = num_Meet a_0 b_1 KP K := by kernel_rfl
theorem num_Meet_call (a_0 : List Value) (b_1 : List Value) {KP K : Value → Pr} {h : Heap} (s : num_Meet a_0 b_1 (fgt KP) (fgt K) h) : WpCall Tryz.prog 145 [(.agg a_0.toArray), (.agg b_1.toArray)].toArray KP K h :=
  WpCall.of_vc Tryz.mixed Tryz.func145 (by kernel_rfl) Tryz.call145 num_Meet_ann (by rw [num_Meet_eq]; exact s)

/- halberd/narrow.without -/
def narrow_without_j1 (b10 : Nat) (k11 : Unit → Pr) (x14 : Bool) : Pr :=
  pIf x14
  (pLd (.int .u64) ((⟨b10, 0, none⟩ : Addr).add 2) fun (x15 : Int) => pSt ((⟨b10, 0, none⟩ : Addr).add 2) (.int .u64 (IntKind.u64.wrap (x15 + 1))) <| k11 (()))
  (k11 (()))
def narrow_without_j2 (b10 : Nat) (k16 : Unit → Pr) (x19 : Bool) : Pr :=
  pIf x19
  (pLd (.int .u64) ((⟨b10, 0, none⟩ : Addr).add 3) fun (x20 : Int) => pSt ((⟨b10, 0, none⟩ : Addr).add 3) (.int .u64 (IntKind.u64.wrap (x20 - 1))) <| k16 (()))
  (k16 (()))
def narrow_without_j3 (b10 : Nat) (k21 : Unit → Pr) (x24 : Bool) : Pr :=
  pIf x24
  (pLd (.int .i64) ((⟨b10, 0, none⟩ : Addr).add 4) fun (x25 : Int) => pSt ((⟨b10, 0, none⟩ : Addr).add 4) (.int .i64 (IntKind.i64.wrap (x25 + 1))) <| k21 (()))
  (k21 (()))
def narrow_without_j4 (b10 : Nat) (k26 : Unit → Pr) (x29 : Bool) : Pr :=
  pIf x29
  (pLd (.int .i64) ((⟨b10, 0, none⟩ : Addr).add 5) fun (x30 : Int) => pSt ((⟨b10, 0, none⟩ : Addr).add 5) (.int .i64 (IntKind.i64.wrap (x30 - 1))) <| k26 (()))
  (k26 (()))
def narrow_without_j5 (K : Value → Pr) (b2 : Nat) (b10 : Nat) : Pr :=
  pLdA 6 ⟨b10, 0, none⟩ fun x31 => pStA 6 ⟨b2, 0, none⟩ x31 <| pLdA 6 ⟨b2, 0, none⟩ fun x32 => K (.tuple [(.agg x32.toArray), (.bool true)].toArray)
def narrow_without_j6 (c_1 : Int) (K : Value → Pr) (b1 : Nat) (b2 : Nat) (b10 : Nat) : Pr :=
  pJoin (σ := Unit)
  (fun k26 => pJoin (σ := Bool × Unit)
  (fun k27 => pLd (.int .i64) ((⟨b1, 0, none⟩ : Addr).add 5) fun (x28 : Int) => pIf ((x28 : Int) == (IntKind.i64.wrap c_1))
  (k27 ((decide (((IntKind.i64.wrap c_1) : Int) > (-9223372036854775808))), ()))
  (k27 (false, ())))
  (fun s => narrow_without_j4 b10 k26 s.1))
  (fun s => narrow_without_j5 K b2 b10)
def narrow_without_j7 (c_1 : Int) (K : Value → Pr) (b1 : Nat) (b2 : Nat) (b10 : Nat) : Pr :=
  pJoin (σ := Unit)
  (fun k21 => pJoin (σ := Bool × Unit)
  (fun k22 => pLd (.int .i64) ((⟨b1, 0, none⟩ : Addr).add 4) fun (x23 : Int) => pIf ((x23 : Int) == (IntKind.i64.wrap c_1))
  (k22 ((decide (((IntKind.i64.wrap c_1) : Int) < 9223372036854775807)), ()))
  (k22 (false, ())))
  (fun s => narrow_without_j3 b10 k21 s.1))
  (fun s => narrow_without_j6 c_1 K b1 b2 b10)
def narrow_without_j8 (c_1 : Int) (K : Value → Pr) (b1 : Nat) (b2 : Nat) (b10 : Nat) : Pr :=
  pJoin (σ := Unit)
  (fun k16 => pJoin (σ := Bool × Unit)
  (fun k17 => pLd (.int .u64) ((⟨b1, 0, none⟩ : Addr).add 3) fun (x18 : Int) => pIf ((x18 : Int) == c_1)
  (k17 ((decide ((c_1 : Int) > 0)), ()))
  (k17 (false, ())))
  (fun s => narrow_without_j2 b10 k16 s.1))
  (fun s => narrow_without_j7 c_1 K b1 b2 b10)
def narrow_without_j9 (c_1 : Int) (K : Value → Pr) (b1 : Nat) (b2 : Nat) (x6 : Bool) : Pr :=
  pIf x6
  (pLdA 6 ⟨b1, 0, none⟩ fun x7 => pStA 6 ⟨b2, 0, none⟩ x7 <| pLdA 6 ⟨b2, 0, none⟩ fun x8 => K (.tuple [(.agg x8.toArray), (.bool false)].toArray))
  (pLdA 6 ⟨b1, 0, none⟩ fun x9 => pNew (zc Tryz.prog 26) fun b10 => pStA 6 ⟨b10, 0, none⟩ x9 <| pJoin (σ := Unit)
  (fun k11 => pJoin (σ := Bool × Unit)
  (fun k12 => pLd (.int .u64) ((⟨b1, 0, none⟩ : Addr).add 2) fun (x13 : Int) => pIf ((x13 : Int) == c_1)
  (k12 ((decide ((c_1 : Int) < 18446744073709551615)), ()))
  (k12 (false, ())))
  (fun s => narrow_without_j1 b10 k11 s.1))
  (fun s => narrow_without_j8 c_1 K b1 b2 b10))
def narrow_without (x_0 : List Value) (c_1 : Int) (KP K : Value → Pr) : Pr :=
  pNew x_0 fun b1 => pNew (zc Tryz.prog 26) fun b2 => pJoin (σ := Bool × Unit)
  (fun k3 => pLd (.int .u64) ((⟨b1, 0, none⟩ : Addr).add 2) fun (x4 : Int) => pIf ((x4 : Int) == c_1)
  (pLd (.int .u64) ((⟨b1, 0, none⟩ : Addr).add 3) fun (x5 : Int) => k3 (((x5 : Int) == c_1), ()))
  (k3 (false, ())))
  (fun s => narrow_without_j9 c_1 K b1 b2 s.1)
def narrow_without_ann : Ann := .two (.none) (.two (.none) (.two (.join (.none) (.two (.two (.none) (.none)) (.none)) [(19, .bool)]) (.two (.none) (.join (.join (.none) (.two (.none) (.none)) [(29, .bool)]) (.join (.join (.none) (.two (.none) (.none)) [(41, .bool)]) (.join (.join (.none) (.two (.none) (.none)) [(53, .bool)]) (.join (.join (.none) (.two (.none) (.none)) [(65, .bool)]) (.two (.none) (.none)) []) []) []) []))))
theorem narrow_without_eq (x_0 : List Value) (c_1 : Int) (KP K : Value → Pr) : vcBody Tryz.prog Tryz.f146 (Tryz.f146.body.getD .skip) narrow_without_ann [(.agg x_0.toArray), (.int .u64 c_1)] KP K = narrow_without x_0 c_1 KP K := by kernel_rfl
theorem narrow_without_call (x_0 : List Value) (c_1 : Int) {KP K : Value → Pr} {h : Heap} (s : narrow_without x_0 c_1 (fgt KP) (fgt K) h) : WpCall Tryz.prog 146 [(.agg x_0.toArray), (.int .u64 c_1)].toArray KP K h :=
  WpCall.of_vc Tryz.mixed Tryz.func146 (by kernel_rfl) Tryz.call146 narrow_without_ann (by rw [narrow_without_eq]; exact s)

end Go.Proofs.YtpbhanglcophbaaGreat

set_option linter.unusedVariables false
namespace Go.Proofs.YtpbhanglcophbaaGreat
open Go.Hl
/- halberd/narrow.turned$1 -/
def narrow_turned_1 (p_0 : Option Addr) (p_1 : Addr) (KP K : Value → Pr) : Pr :=
  pSome p_0 fun a1 => pSome p_0 fun a2 => pLdA 6 (a1.add 6) fun x3 => pLdA 6 (a2.add 0) fun x4 => pSome p_0 fun a5 => pStA 6 (a5.add 0) x3 <| pSome p_0 fun a6 => pStA 6 (a6.add 6) x4 <| pLd .any p_1 fun (x7 : Value) => pCallV Tryz.prog x7 [(.pointer p_0)] KP (.many []) fun (r8 : Unit) => pSome p_0 fun a9 => pSome p_0 fun a10 => pLdA 6 (a9.add 6) fun x11 => pLdA 6 (a10.add 0) fun x12 => pSome p_0 fun a13 => pStA 6 (a13.add 0) x11 <| pSome p_0 fun a14 => pStA 6 (a14.add 6) x12 <| K (.tuple [].toArray)
def narrow_turned_1_ann : Ann := .two (.ord [0, 1, 2, 3, 4, 6, 7, 8, 5, 9, 10, 11, 12, 13, 14, 15]) (.two (.none) (.ord [0, 1, 2, 3, 4, 6, 7, 8, 5, 9, 10, 11, 12, 13, 14, 15]))
theorem narrow_turned_1_eq (p_0 : Option Addr) (p_1 : Addr) (KP K : Value → Pr) : vcBody Tryz.prog Tryz.f147 (Tryz.f147.body.getD .skip) narrow_turned_1_ann [(.pointer p_0), (.pointer (some p_1))] KP K = narrow_turned_1 p_0 p_1 KP K := by kernel_rfl
theorem narrow_turned_1_call (p_0 : Option Addr) (p_1 : Addr) {KP K : Value → Pr} {h : Heap} (s : narrow_turned_1 p_0 p_1 (fgt KP) (fgt K) h) : WpCall Tryz.prog 147 [(.pointer p_0), (.pointer (some p_1))].toArray KP K h :=
  WpCall.of_vc Tryz.mixed Tryz.func147 (by kernel_rfl) Tryz.call147 narrow_turned_1_ann (by rw [narrow_turned_1_eq]; exact s)

/- math/bits.OnesCount64 -/
def math_bits_OnesCount64 (x_0 : Int) (KP K : Value → Pr) : Pr :=
  pAssert (0 ≤ (1 : Int)) <| pAssert (0 ≤ (2 : Int)) <| pAssert (0 ≤ (4 : Int)) <| pAssert (0 ≤ (8 : Int)) <| pAssert (0 ≤ (16 : Int)) <| pAssert (0 ≤ (32 : Int)) <| K (.int .i64 (bitsV .and .i64 (IntKind.i64.wrap (IntKind.u64.wrap ((IntKind.u64.wrap ((IntKind.u64.wrap ((bitsV .and .u64 (IntKind.u64.wrap ((((IntKind.u64.wrap ((bitsV .and .u64 (((IntKind.u64.wrap ((bitsV .and .u64 ((x_0 : Int).fdiv (2 ^ (min (1 : Int).toNat (IntKind.u64).bits))) 6148914691236517205) + (bitsV .and .u64 x_0 6148914691236517205))) : Int).fdiv (2 ^ (min (2 : Int).toNat (IntKind.u64).bits))) 3689348814741910323) + (bitsV .and .u64 (IntKind.u64.wrap ((bitsV .and .u64 ((x_0 : Int).fdiv (2 ^ (min (1 : Int).toNat (IntKind.u64).bits))) 6148914691236517205) + (bitsV .and .u64 x_0 6148914691236517205))) 3689348814741910323))) : Int).fdiv (2 ^ (min (4 : Int).toNat (IntKind.u64).bits))) + (IntKind.u64.wrap ((bitsV .and .u64 (((IntKind.u64.wrap ((bitsV .and .u64 ((x_0 : Int).fdiv (2 ^ (min (1 : Int).toNat (IntKind.u64).bits))) 6148914691236517205) + (bitsV .and .u64 x_0 6148914691236517205))) : Int).fdiv (2 ^ (min (2 : Int).toNat (IntKind.u64).bits))) 3689348814741910323) + (bitsV .and .u64 (IntKind.u64.wrap ((bitsV .and .u64 ((x_0 : Int).fdiv (2 ^ (min (1 : Int).toNat (IntKind.u64).bits))) 6148914691236517205) + (bitsV .and .u64 x_0 6148914691236517205))) 3689348814741910323))))) 1085102592571150095) + (((bitsV .and .u64 (IntKind.u64.wrap ((((IntKind.u64.wrap ((bitsV .and .u64 (((IntKind.u64.wrap ((bitsV .and .u64 ((x_0 : Int).fdiv (2 ^ (min (1 : Int).toNat (IntKind.u64).bits))) 6148914691236517205) + (bitsV .and .u64 x_0 6148914691236517205))) : Int).fdiv (2 ^ (min (2 : Int).toNat (IntKind.u64).bits))) 3689348814741910323) + (bitsV .and .u64 (IntKind.u64.wrap ((bitsV .and .u64 ((x_0 : Int).fdiv (2 ^ (min (1 : Int).toNat (IntKind.u64).bits))) 6148914691236517205) + (bitsV .and .u64 x_0 6148914691236517205))) 3689348814741910323))) : Int).fdiv (2 ^ (min (4 : Int).toNat (IntKind.u64).bits))) + (IntKind.u64.wrap ((bitsV .and .u64 (((IntKind.u64.wrap ((bitsV .and .u64 ((x_0 : Int).fdiv (2 ^ (min (1 : Int).toNat (IntKind.u64).bits))) 6148914691236517205) + (bitsV .and .u64 x_0 6148914691236517205))) : Int).fdiv (2 ^ (min (2 : Int).toNat (IntKind.u64).bits))) 3689348814741910323) + (bitsV .and .u64 (IntKind.u64.wrap ((bitsV .and .u64 ((x_0 : Int).fdiv (2 ^ (min (1 : Int).toNat (IntKind.u64).bits))) 6148914691236517205) + (bitsV .and .u64 x_0 6148914691236517205))) 3689348814741910323))))) 1085102592571150095) : Int).fdiv (2 ^ (min (8 : Int).toNat (IntKind.u64).bits))))) + (((IntKind.u64.wrap ((bitsV .and .u64 (IntKind.u64.wrap ((((IntKind.u64.wrap ((bitsV .and .u64 (((IntKind.u64.wrap ((bitsV .and .u64 ((x_0 : Int).fdiv (2 ^ (min (1 : Int).toNat (IntKind.u64).bits))) 6148914691236517205) + (bitsV .and .u64 x_0 6148914691236517205))) : Int).fdiv (2 ^ (min (2 : Int).toNat (IntKind.u64).bits))) 3689348814741910323) + (bitsV .and .u64 (IntKind.u64.wrap ((bitsV .and .u64 ((x_0 : Int).fdiv (2 ^ (min (1 : Int).toNat (IntKind.u64).bits))) 6148914691236517205) + (bitsV .and .u64 x_0 6148914691236517205))) 3689348814741910323))) : Int).fdiv (2 ^ (min (4 : Int).toNat (IntKind.u64).bits))) + (IntKind.u64.wrap ((bitsV .and .u64 (((IntKind.u64.wrap ((bitsV .and .u64 ((x_0 : Int).fdiv (2 ^ (min (1 : Int).toNat (IntKind.u64).bits))) 6148914691236517205) + (bitsV .and .u64 x_0 6148914691236517205))) : Int).fdiv (2 ^ (min (2 : Int).toNat (IntKind.u64).bits))) 3689348814741910323) + (bitsV .and .u64 (IntKind.u64.wrap ((bitsV .and .u64 ((x_0 : Int).fdiv (2 ^ (min (1 : Int).toNat (IntKind.u64).bits))) 6148914691236517205) + (bitsV .and .u64 x_0 6148914691236517205))) 3689348814741910323))))) 1085102592571150095) + (((bitsV .and .u64 (IntKind.u64.wrap ((((IntKind.u64.wrap ((bitsV .and .u64 (((IntKind.u64.wrap ((bitsV .and .u64 ((x_0 : Int).fdiv (2 ^ (min (1 : Int).toNat (IntKind.u64).bits))) 6148914691236517205) + (bitsV .and .u64 x_0 6148914691236517205))) : Int).fdiv (2 ^ (min (2 : Int).toNat (IntKind.u64).bits))) 3689348814741910323) + (bitsV .and .u64 (IntKind.u64.wrap ((bitsV .and .u64 ((x_0 : Int).fdiv (2 ^ (min (1 : Int).toNat (IntKind.u64).bits))) 6148914691236517205) + (bitsV .and .u64 x_0 6148914691236517205))) 3689348814741910323))) : Int).fdiv (2 ^ (min (4 : Int).toNat (IntKind.u64).bits))) + (IntKind.u64.wrap ((bitsV .and .u64 (((IntKind.u64.wrap ((bitsV .and .u64 ((x_0 : Int).fdiv (2 ^ (min (1 : Int).toNat (IntKind.u64).bits))) 6148914691236517205) + (bitsV .and .u64 x_0 6148914691236517205))) : Int).fdiv (2 ^ (min (2 : Int).toNat (IntKind.u64).bits))) 3689348814741910323) + (bitsV .and .u64 (IntKind.u64.wrap ((bitsV .and .u64 ((x_0 : Int).fdiv (2 ^ (min (1 : Int).toNat (IntKind.u64).bits))) 6148914691236517205) + (bitsV .and .u64 x_0 6148914691236517205))) 3689348814741910323))))) 1085102592571150095) : Int).fdiv (2 ^ (min (8 : Int).toNat (IntKind.u64).bits))))) : Int).fdiv (2 ^ (min (16 : Int).toNat (IntKind.u64).bits))))) + (((IntKind.u64.wrap ((IntKind.u64.wrap ((bitsV .and .u64 (IntKind.u64.wrap ((((IntKind.u64.wrap ((bitsV .and .u64 (((IntKind.u64.wrap ((bitsV .and .u64 ((x_0 : Int).fdiv (2 ^ (min (1 : Int).toNat (IntKind.u64).bits))) 6148914691236517205) + (bitsV .and .u64 x_0 6148914691236517205))) : Int).fdiv (2 ^ (min (2 : Int).toNat (IntKind.u64).bits))) 3689348814741910323) + (bitsV .and .u64 (IntKind.u64.wrap ((bitsV .and .u64 ((x_0 : Int).fdiv (2 ^ (min (1 : Int).toNat (IntKind.u64).bits))) 6148914691236517205) + (bitsV .and .u64 x_0 6148914691236517205))) 3689348814741910323))) : Int).fdiv (2 ^ (min (4 : Int).toNat (IntKind.u64).bits))) + (IntKind.u64.wrap ((bitsV .and .u64 (((IntKind.u64.wrap ((bitsV .and .u64 ((x_0 : Int).fdiv (2 ^ (min (1 : Int).toNat (IntKind.u64).bits))) 6148914691236517205) + (bitsV .and .u64 x_0 6148914691236517205))) : Int).fdiv (2 ^ (min (2 : Int).toNat (IntKind.u64).bits))) 3689348814741910323) + (bitsV .and .u64 (IntKind.u64.wrap ((bitsV .and .u64 ((x_0 : Int).fdiv (2 ^ (min (1 : Int).toNat (IntKind.u64).bits))) 6148914691236517205) + (bitsV .and .u64 x_0 6148914691236517205))) 3689348814741910323))))) 1085102592571150095) + (((bitsV .and .u64 (IntKind.u64.wrap ((((IntKind.u64.wrap ((bitsV .and .u64 (((IntKind.u64.wrap ((bitsV .and .u64 ((x_0 : Int).fdiv (2 ^ (min (1 : Int).toNat (IntKind.u64).bits))) 6148914691236517205) + (bitsV .and .u64 x_0 6148914691236517205))) : Int).fdiv (2 ^ (min (2 : Int).toNat (IntKind.u64).bits))) 3689348814741910323) + (bitsV .and .u64 (IntKind.u64.wrap ((bitsV .and .u64 ((x_0 : Int).fdiv (2 ^ (min (1 : Int).toNat (IntKind.u64).bits))) 6148914691236517205) + (bitsV .and .u64 x_0 6148914691236517205))) 3689348814741910323))) : Int).fdiv (2 ^ (min (4 : Int).toNat (IntKind.u64).bits))) + (IntKind.u64.wrap ((bitsV .and .u64 (((IntKind.u64.wrap ((bitsV .and .u64 ((x_0 : Int).fdiv (2 ^ (min (1 : Int).toNat (IntKind.u64).bits))) 6148914691236517205) + (bitsV .and .u64 x_0 6148914691236517205))) : Int).fdiv (2 ^ (min (2 : Int).toNat (IntKind.u64).bits))) 3689348814741910323) + (bitsV .and .u64 (IntKind.u64.wrap ((bitsV .and .u64 ((x_0 : Int).fdiv (2 ^ (min (1 : Int).toNat (IntKind.u64).bits))) 6148914691236517205) + (bitsV .and .u64 x_0 6148914691236517205))) 3689348814741910323))))) 1085102592571150095) : Int).fdiv (2 ^ (min (8 : Int).toNat (IntKind.u64).bits))))) + (((IntKind.u64.wrap ((bitsV .and .u64 (IntKind.u64.wrap ((((IntKind.u64.wrap ((bitsV .and .u64 (((IntKind.u64.wrap ((bitsV .and .u64 ((x_0 : Int).fdiv (2 ^ (min (1 : Int).toNat (IntKind.u64).bits))) 6148914691236517205) + (bitsV .and .u64 x_0 6148914691236517205))) : Int).fdiv (2 ^ (min (2 : Int).toNat (IntKind.u64).bits))) 3689348814741910323) + (bitsV .and .u64 (IntKind.u64.wrap ((bitsV .and .u64 ((x_0 : Int).fdiv (2 ^ (min (1 : Int).toNat (IntKind.u64).bits))) 6148914691236517205) + (bitsV .and .u64 x_0 6148914691236517205))) 3689348814741910323))) : Int).fdiv (2 ^ (min (4 : Int).toNat (IntKind.u64).bits))) + (IntKind.u64.wrap ((bitsV .and .u64 (((IntKind.u64.wrap ((bitsV .and .u64 ((x_0 : Int).fdiv (2 ^ (min (1 : Int).toNat (IntKind.u64).bits))) 6148914691236517205) + (bitsV .and .u64 x_0 6148914691236517205))) : Int).fdiv (2 ^ (min (2 : Int).toNat (IntKind.u64).bits))) 3689348814741910323) + (bitsV .and .u64 (IntKind.u64.wrap ((bitsV .and .u64 ((x_0 : Int).fdiv (2 ^ (min (1 : Int).toNat (IntKind.u64).bits))) 6148914691236517205) + (bitsV .and .u64 x_0 6148914691236517205))) 3689348814741910323))))) 1085102592571150095) + (((bitsV .and .u64 (IntKind.u64.wrap ((((IntKind.u64.wrap ((bitsV .and .u64 (((IntKind.u64.wrap ((bitsV .and .u64 ((x_0 : Int).fdiv (2 ^ (min (1 : Int).toNat (IntKind.u64).bits))) 6148914691236517205) + (bitsV .and .u64 x_0 6148914691236517205))) : Int).fdiv (2 ^ (min (2 : Int).toNat (IntKind.u64).bits))) 3689348814741910323) + (bitsV .and .u64 (IntKind.u64.wrap ((bitsV .and .u64 ((x_0 : Int).fdiv (2 ^ (min (1 : Int).toNat (IntKind.u64).bits))) 6148914691236517205) + (bitsV .and .u64 x_0 6148914691236517205))) 3689348814741910323))) : Int).fdiv (2 ^ (min (4 : Int).toNat (IntKind.u64).bits))) + (IntKind.u64.wrap ((bitsV .and .u64 (((IntKind.u64.wrap ((bitsV .and .u64 ((x_0 : Int).fdiv (2 ^ (min (1 : Int).toNat (IntKind.u64).bits))) 6148914691236517205) + (bitsV .and .u64 x_0 6148914691236517205))) : Int).fdiv (2 ^ (min (2 : Int).toNat (IntKind.u64).bits))) 3689348814741910323) + (bitsV .and .u64 (IntKind.u64.wrap ((bitsV .and .u64 ((x_0 : Int).fdiv (2 ^ (min (1 : Int).toNat (IntKind.u64).bits))) 6148914691236517205) + (bitsV .and .u64 x_0 6148914691236517205))) 3689348814741910323))))) 1085102592571150095) : Int).fdiv (2 ^ (min (8 : Int).toNat (IntKind.u64).bits))))) : Int).fdiv (2 ^ (min (16 : Int).toNat (IntKind.u64).bits))))) : Int).fdiv (2 ^ (min (32 : Int).toNat (IntKind.u64).bits)))))) 127))
def math_bits_OnesCount64_ann : Ann := .two (.none) (.two (.none) (.two (.none) (.two (.none) (.two (.none) (.two (.none) (.two (.none) (.two (.none) (.none))))))))
theorem math_bits_OnesCount64_eq (x_0 : Int) (KP K : Value → Pr) : vcBody Tryz.prog Tryz.f148 (Tryz.f148.body.getD .skip) math_bits_OnesCount64_ann [(.int .u64 x_0)] KP K = math_bits_OnesCount64 x_0 KP K := by kernel_rfl
theorem math_bits_OnesCount64_call (x_0 : Int) {KP K : Value → Pr} {h : Heap} (s : math_bits_OnesCount64 x_0 (fgt KP) (fgt K) h) : WpCall Tryz.prog 148 [(.int .u64 x_0)].toArray KP K h :=
  WpCall.of_vc Tryz.mixed Tryz.func148 (by kernel_rfl) Tryz.call148 math_bits_OnesCount64_ann (by rw [math_bits_OnesCount64_eq]; exact s)

/- (*halberd/narrow.pair).meet -/
def narrow_pair_meet (p_0 : Option Addr) (t_1 : List Value) (KP K : Value → Pr) : Pr :=
  pNew t_1 fun b1 => pSome p_0 fun a2 => pLdA 2 ((a2.add 0).add 0) fun x3 => pLdA 2 ⟨b1, 0, none⟩ fun x4 => pCall Tryz.prog 141 [(.agg x3.toArray), (.agg x4.toArray)] KP (.many [.agg, .bool]) fun (r5 : (List Value) × Bool × Unit) => pNew (zc Tryz.prog 24) fun b6 => pStA 2 ⟨b6, 0, none⟩ r5.1 <| pLdA 2 ⟨b6, 0, none⟩ fun x7 => pSome p_0 fun a8 => pStA 2 ((a8.add 0).add 0) x7 <| pSome p_0 fun a9 => pSt (a9.add 12) (.bool (!r5.2.1)) <| K (.tuple [].toArray)
def narrow_pair_meet_ann : Ann := .two (.none) (.two (.ord [0, 1, 2, 3, 4, 5, 6, 7, 8, 9, 10, 11, 12]) (.none))
theorem narrow_pair_meet_eq (p_0 : Option Addr) (t_1 : List Value) (KP K : Value → Pr) : vcBody Tryz.prog Tryz.f149 (Tryz.f149.body.getD .skip) narrow_pair_meet_ann [(.pointer p_0), (.agg t_1.toArray)] KP K = narrow_pair_meet p_0 t_1 KP K := by kernel_rfl
theorem narrow_pair_meet_call (p_0 : Option Addr) (t_1 : List Value) {KP K : Value → Pr} {h : Heap} (s : narrow_pair_meet p_0 t_1 (fgt KP) (fgt K) h) : WpCall Tryz.prog 149 [(.pointer p_0), (.agg t_1.toArray)].toArray KP K h :=
  WpCall.of_vc Tryz.mixed Tryz.func149 (by kernel_rfl) Tryz.call149 narrow_pair_meet_ann (by rw [narrow_pair_meet_eq]; exact s)

/- math/bits.Len64 -/
def math_bits_Len64_j1 (K : Value → Pr) (x8 : Int) (x9 : Int) : Pr :=
  pIdx (IntKind.u8.wrap x8) (⟨#[0, 1, 2, 2, 3, 3, 3, 3, 4, 4, 4, 4, 4, 4, 4, 4, 5, 5, 5, 5, 5, 5, 5, 5, 5, 5, 5, 5, 5, 5, 5, 5, 6, 6, 6, 6, 6, 6, 6, 6, 6, 6, 6, 6, 6, 6, 6, 6, 6, 6, 6, 6, 6, 6, 6, 6, 6, 6, 6, 6, 6, 6, 6, 6, 7, 7, 7, 7, 7, 7, 7, 7, 7, 7, 7, 7, 7, 7, 7, 7, 7, 7, 7, 7, 7, 7, 7, 7, 7, 7, 7, 7, 7, 7, 7, 7, 7, 7, 7, 7, 7, 7, 7, 7, 7, 7, 7, 7, 7, 7, 7, 7, 7, 7, 7, 7, 7, 7, 7, 7, 7, 7, 7, 7, 7, 7, 7, 7, 8, 8, 8, 8, 8, 8, 8, 8, 8, 8, 8, 8, 8, 8, 8, 8, 8, 8, 8, 8, 8, 8, 8, 8, 8, 8, 8, 8, 8, 8, 8, 8, 8, 8, 8, 8, 8, 8, 8, 8, 8, 8, 8, 8, 8, 8, 8, 8, 8, 8, 8, 8, 8, 8, 8, 8, 8, 8, 8, 8, 8, 8, 8, 8, 8, 8, 8, 8, 8, 8, 8, 8, 8, 8, 8, 8, 8, 8, 8, 8, 8, 8, 8, 8, 8, 8, 8, 8, 8, 8, 8, 8, 8, 8, 8, 8, 8, 8, 8, 8, 8, 8, 8, 8, 8, 8, 8, 8, 8, 8, 8, 8, 8, 8, 8, 8, 8, 8, 8, 8, 8, 8, 8, 8, 8, 8, 8, 8]⟩ : ByteArray).size <| K (.int .i64 (IntKind.i64.wrap (x9 + (IntKind.i64.wrap (byteAt (⟨#[0, 1, 2, 2, 3, 3, 3, 3, 4, 4, 4, 4, 4, 4, 4, 4, 5, 5, 5, 5, 5, 5, 5, 5, 5, 5, 5, 5, 5, 5, 5, 5, 6, 6, 6, 6, 6, 6, 6, 6, 6, 6, 6, 6, 6, 6, 6, 6, 6, 6, 6, 6, 6, 6, 6, 6, 6, 6, 6, 6, 6, 6, 6, 6, 7, 7, 7, 7, 7, 7, 7, 7, 7, 7, 7, 7, 7, 7, 7, 7, 7, 7, 7, 7, 7, 7, 7, 7, 7, 7, 7, 7, 7, 7, 7, 7, 7, 7, 7, 7, 7, 7, 7, 7, 7, 7, 7, 7, 7, 7, 7, 7, 7, 7, 7, 7, 7, 7, 7, 7, 7, 7, 7, 7, 7, 7, 7, 7, 8, 8, 8, 8, 8, 8, 8, 8, 8, 8, 8, 8, 8, 8, 8, 8, 8, 8, 8, 8, 8, 8, 8, 8, 8, 8, 8, 8, 8, 8, 8, 8, 8, 8, 8, 8, 8, 8, 8, 8, 8, 8, 8, 8, 8, 8, 8, 8, 8, 8, 8, 8, 8, 8, 8, 8, 8, 8, 8, 8, 8, 8, 8, 8, 8, 8, 8, 8, 8, 8, 8, 8, 8, 8, 8, 8, 8, 8, 8, 8, 8, 8, 8, 8, 8, 8, 8, 8, 8, 8, 8, 8, 8, 8, 8, 8, 8, 8, 8, 8, 8, 8, 8, 8, 8, 8, 8, 8, 8, 8, 8, 8, 8, 8, 8, 8, 8, 8, 8, 8, 8, 8, 8, 8, 8, 8, 8, 8]⟩ : ByteArray) (IntKind.u8.wrap x8))))))
def math_bits_Len64_j2 (K : Value → Pr) (x5 : Int) (x6 : Int) : Pr :=
  pJoin (σ := Int × Int × Unit)
  (fun k7 => pIf (decide ((x5 : Int) ≥ 256))
  (pAssert (0 ≤ (8 : Int)) <| k7 (((x5 : Int).fdiv (2 ^ (min (8 : Int).toNat (IntKind.u64).bits))), (IntKind.i64.wrap (x6 + 8)), ()))
  (k7 (x5, x6, ())))
  (fun s => math_bits_Len64_j1 K s.1 s.2.1)
def math_bits_Len64_j3 (K : Value → Pr) (x2 : Int) (x3 : Int) : Pr :=
  pJoin (σ := Int × Int × Unit)
  (fun k4 => pIf (decide ((x2 : Int) ≥ 65536))
  (pAssert (0 ≤ (16 : Int)) <| k4 (((x2 : Int).fdiv (2 ^ (min (16 : Int).toNat (IntKind.u64).bits))), (IntKind.i64.wrap (x3 + 16)), ()))
  (k4 (x2, x3, ())))
  (fun s => math_bits_Len64_j2 K s.1 s.2.1)
def math_bits_Len64 (x_0 : Int) (KP K : Value → Pr) : Pr :=
  pJoin (σ := Int × Int × Unit)
  (fun k1 => pIf (decide ((x_0 : Int) ≥ 4294967296))
  (pAssert (0 ≤ (32 : Int)) <| k1 (((x_0 : Int).fdiv (2 ^ (min (32 : Int).toNat (IntKind.u64).bits))), 32, ()))
  (k1 (x_0, 0, ())))
  (fun s => math_bits_Len64_j3 K s.1 s.2.1)
def math_bits_Len64_ann : Ann := .two (.none) (.join (.two (.none) (.two (.two (.none) (.none)) (.none))) (.join (.two (.none) (.two (.two (.none) (.none)) (.none))) (.join (.two (.none) (.two (.two (.none) (.none)) (.none))) (.two (.none) (.none)) [(0, (.int .u64)), (2, (.int .i64))]) [(0, (.int .u64)), (2, (.int .i64))]) [(0, (.int .u64)), (2, (.int .i64))])
theorem math_bits_Len64_eq (x_0 : Int) (KP K : Value → Pr) : vcBody Tryz.prog Tryz.f150 (Tryz.f150.body.getD .skip) math_bits_Len64_ann [(.int .u64 x_0)] KP K = math_bits_Len64 x_0 KP K := by kernel_rfl
theorem math_bits_Len64_call (x_0 : Int) {KP K : Value → Pr} {h : Heap} (s : math_bits_Len64 x_0 (fgt KP) (fgt K) h) : WpCall Tryz.prog 150 [(.int .u64 x_0)].toArray KP K h :=
  WpCall.of_vc Tryz.mixed Tryz.func150 (by kernel_rfl) Tryz.call150 math_bits_Len64_ann (by rw [math_bits_Len64_eq]; exact s)

end Go.Proofs.YtpbhanglcophbaaGreat
