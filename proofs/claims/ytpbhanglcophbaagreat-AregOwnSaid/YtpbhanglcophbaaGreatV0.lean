/- Texts of this proof, part V0: parts of it in the order in which they build. -/
import Derived.Test.YtpbhanglcophbaaGreatV
set_option linter.unusedVariables false
namespace Go.Proofs.YtpbhanglcophbaaGreat
open Go.Hl
/- halberd/halberdlaw19.AregOwn -/
def law19_AregOwn_j1 (K : Value → Pr) (x33 : Bool) : Pr :=
  K (.bool x33)
def law19_AregOwn (s_0 : List Value) (i_1 : List Value) (id_2 : Int) (hook_3 : Int) (defs_4 : Sl) (KP K : Value → Pr) : Pr :=
  pNew s_0 fun b1 => pNew i_1 fun b2 => pCall Tryz.prog 4 [] KP (.one .bool) fun (r3 : Bool) => pIf (!r3)
  (K (.bool false))
  (pLdA 294 ⟨b1, 0, none⟩ fun x4 => pCall Tryz.prog 5 [(.agg x4.toArray), (.slice defs_4.base defs_4.len defs_4.cap)] KP (.one .bool) fun (r5 : Bool) => pIf r5
  (K (.bool true))
  (pLdA 294 ⟨b1, 0, none⟩ fun x6 => pCall Tryz.prog 6 [(.agg x6.toArray)] KP (.one .agg) fun (r7 : List Value) => pNew (zc Tryz.prog 36) fun b8 => pStA 294 ⟨b8, 0, none⟩ r7 <| pLdA 294 ⟨b1, 0, none⟩ fun x9 => pLdA 5 ⟨b2, 0, none⟩ fun x10 => pCall Tryz.prog 7 [(.agg x9.toArray), (.agg x10.toArray)] KP (.many [.agg, .bool]) fun (r11 : (List Value) × Bool × Unit) => pLdA 294 ⟨b1, 0, none⟩ fun x12 => pLdA 5 ⟨b2, 0, none⟩ fun x13 => pCall Tryz.prog 8 [(.agg x12.toArray), (.agg x13.toArray), (.int .i64 hook_3), (.slice defs_4.base defs_4.len defs_4.cap)] KP (.many [.agg, .bool]) fun (r14 : (List Value) × Bool × Unit) => pLdA 294 ⟨b1, 0, none⟩ fun x15 => pLdA 5 ⟨b2, 0, none⟩ fun x16 => pCall Tryz.prog 9 [(.agg x15.toArray), (.agg x16.toArray), (.slice defs_4.base defs_4.len defs_4.cap)] KP (.many [.agg, .bool]) fun (r17 : (List Value) × Bool × Unit) => pLdA 294 ⟨b1, 0, none⟩ fun x18 => pLdA 5 ⟨b2, 0, none⟩ fun x19 => pCall Tryz.prog 10 [(.agg x18.toArray), (.agg x19.toArray), (.bool true)] KP (.many [.agg, .bool, .bool]) fun (r20 : (List Value) × Bool × Bool × Unit) => pLdA 294 ⟨b1, 0, none⟩ fun x21 => pCall Tryz.prog 11 [(.agg x21.toArray), (.int .i64 id_2), (.slice defs_4.base defs_4.len defs_4.cap)] KP (.many [.agg, .bool]) fun (r22 : (List Value) × Bool × Unit) => pCall Tryz.prog 12 [] KP (.one .agg) fun (r23 : List Value) => pNew (zc Tryz.prog 36) fun b24 => pStA 294 ⟨b24, 0, none⟩ r23 <| pNew (zc Tryz.prog 36) fun b25 => pStA 294 ⟨b25, 0, none⟩ (lay (zc Tryz.prog 36) [(293, (.int .i64 1))]) <| pIdx 1 11 <| pSt ((((⟨b25, 0, none⟩ : Addr).add 0).add ((1 : Int).toNat * 12)).add 0) (.int .i64 3) <| pIdx 10 11 <| pSt ((((⟨b25, 0, none⟩ : Addr).add 0).add ((10 : Int).toNat * 12)).add 0) (.int .i64 2) <| pJoin (σ := Bool × Unit)
  (fun k26 => pLdA 294 ⟨b1, 0, none⟩ fun x27 => pLdA 294 ⟨b8, 0, none⟩ fun x28 => pCall Tryz.prog 13 [(.agg x27.toArray), (.agg x28.toArray)] KP (.one .bool) fun (r29 : Bool) => pIf r29
  (pLdA 294 ⟨b24, 0, none⟩ fun x30 => pLdA 294 ⟨b25, 0, none⟩ fun x31 => pCall Tryz.prog 13 [(.agg x30.toArray), (.agg x31.toArray)] KP (.one .bool) fun (r32 : Bool) => k26 (r32, ()))
  (k26 (false, ())))
  (fun s => law19_AregOwn_j1 K s.1)))
def law19_AregOwn_ann : Ann := .two (.none) (.two (.two (.none) (.two (.two (.none) (.none)) (.none))) (.two (.two (.none) (.two (.two (.none) (.none)) (.none))) (.two (.none) (.two (.none) (.two (.none) (.two (.none) (.two (.none) (.two (.none) (.two (.none) (.two (.none) (.two (.none) (.two (.none) (.join (.none) (.none) [(10, .bool)])))))))))))))
theorem law19_AregOwn_eq (s_0 : List Value) (i_1 : List Value) (id_2 : Int) (hook_3 : Int) (defs_4 : Sl) (KP K : Value → Pr) : vcBody Tryz.prog Tryz.f3 (Tryz.f3.body.getD .skip) law19_AregOwn_ann [(.agg s_0.toArray), (.agg i_1.toArray), (.int .i64 id_2), (.int .i64 hook_3), (.slice defs_4.base defs_4.len defs_4.cap)] KP K = law19_AregOwn s_0 i_1 id_2 hook_3 defs_4 KP K := by kernel_rfl
theorem law19_AregOwn_call (s_0 : List Value) (i_1 : List Value) (id_2 : Int) (hook_3 : Int) (defs_4 : Sl) {KP K : Value → Pr} {h : Heap} (s : law19_AregOwn s_0 i_1 id_2 hook_3 defs_4 (fgt KP) (fgt K) h) : WpCall Tryz.prog 3 [(.agg s_0.toArray), (.agg i_1.toArray), (.int .i64 id_2), (.int .i64 hook_3), (.slice defs_4.base defs_4.len defs_4.cap)].toArray KP K h :=
  WpCall.of_vc Tryz.mixed Tryz.func3 (by kernel_rfl) Tryz.call3 law19_AregOwn_ann (by rw [law19_AregOwn_eq]; exact s)

/- halberd/halberdlaw19.alive -/
def law19_alive_j1 (K : Value → Pr) (x31 : Bool) : Pr :=
  K (.bool x31)
def law19_alive_j2 (KP : Value → Pr) (K : Value → Pr) (b1 : Nat) (b3 : Nat) (x17 : Bool) : Pr :=
  pIf x17
  (K (.bool false))
  (pNew (zc Tryz.prog 39) fun b18 => pStA 5 ⟨b18, 0, none⟩ (lay (zc Tryz.prog 39) [(0, (.int .u8 121)), (1, (.int .u8 3))]) <| pLdA 294 ⟨b3, 0, none⟩ fun x19 => pLdA 5 ⟨b18, 0, none⟩ fun x20 => pCall Tryz.prog 8 [(.agg x19.toArray), (.agg x20.toArray), (.int .i64 1), (.slice (some ⟨b1, 0, none⟩) 1 1)] KP (.many [.agg, .bool]) fun (r21 : (List Value) × Bool × Unit) => pNew (zc Tryz.prog 36) fun b22 => pStA 294 ⟨b22, 0, none⟩ r21.1 <| pLdA 294 ⟨b3, 0, none⟩ fun x23 => pCall Tryz.prog 10 [(.agg x23.toArray), (.agg (lay (zc Tryz.prog 39) [(0, (.int .u8 21))]).toArray), (.bool false)] KP (.many [.agg, .bool, .bool]) fun (r24 : (List Value) × Bool × Bool × Unit) => pNew (zc Tryz.prog 36) fun b25 => pStA 294 ⟨b25, 0, none⟩ r24.1 <| pLdA 294 ⟨b25, 0, none⟩ fun x26 => pLdA 5 ⟨b18, 0, none⟩ fun x27 => pCall Tryz.prog 8 [(.agg x26.toArray), (.agg x27.toArray), (.int .i64 1), (.slice (some ⟨b1, 0, none⟩) 1 1)] KP (.many [.agg, .bool]) fun (r28 : (List Value) × Bool × Unit) => pNew (zc Tryz.prog 36) fun b29 => pStA 294 ⟨b29, 0, none⟩ r28.1 <| pJoin (σ := Bool × Unit)
  (fun k30 => pIf (!r21.2.1)
  (pIf r24.2.1
  (pIf r24.2.2.1
  (k30 (r28.2.1, ()))
  (k30 (false, ())))
  (k30 (false, ())))
  (k30 (false, ())))
  (fun s => law19_alive_j1 K s.1))
def law19_alive  (KP K : Value → Pr) : Pr :=
  pAssert ((lay (zc Tryz.prog 55) [(0, (.int .i64 1)), (1, (.int .i64 4)), (2, (.int .i64 8)), (3, (.int .i64 1))]).length = 4) <| pNew (lay (reps 1 (zc Tryz.prog 55)) [(0, (.agg (lay (zc Tryz.prog 55) [(0, (.int .i64 1)), (1, (.int .i64 4)), (2, (.int .i64 8)), (3, (.int .i64 1))]).toArray))]) fun b1 => pCall Tryz.prog 12 [] KP (.one .agg) fun (r2 : List Value) => pNew (zc Tryz.prog 36) fun b3 => pStA 294 ⟨b3, 0, none⟩ r2 <| pLdA 294 ⟨b3, 0, none⟩ fun x4 => pCall Tryz.prog 9 [(.agg x4.toArray), (.agg (lay (zc Tryz.prog 39) [(0, (.int .u8 98)), (1, (.int .u8 10)), (3, (.int .i16 (-4)))]).toArray), (.slice (some ⟨b1, 0, none⟩) 1 1)] KP (.many [.agg, .bool]) fun (r5 : (List Value) × Bool × Unit) => pStA 294 ⟨b3, 0, none⟩ r5.1 <| pLdA 294 ⟨b3, 0, none⟩ fun x6 => pCall Tryz.prog 14 [(.agg x6.toArray), (.agg (lay (zc Tryz.prog 39) [(0, (.int .u8 24)), (1, (.int .u8 1)), (2, (.int .u8 1))]).toArray), (.agg (lay (zc Tryz.prog 39) []).toArray)] KP (.one .agg) fun (r7 : List Value) => pStA 294 ⟨b3, 0, none⟩ r7 <| pLdA 294 ⟨b3, 0, none⟩ fun x8 => pCall Tryz.prog 7 [(.agg x8.toArray), (.agg (lay (zc Tryz.prog 39) [(0, (.int .u8 191)), (1, (.int .u8 2)), (2, (.int .u8 10))]).toArray)] KP (.many [.agg, .bool]) fun (r9 : (List Value) × Bool × Unit) => pStA 294 ⟨b3, 0, none⟩ r9.1 <| pLdA 294 ⟨b3, 0, none⟩ fun x10 => pCall Tryz.prog 7 [(.agg x10.toArray), (.agg (lay (zc Tryz.prog 39) [(0, (.int .u8 7)), (1, (.int .u8 2)), (4, (.int .i32 (-4)))]).toArray)] KP (.many [.agg, .bool]) fun (r11 : (List Value) × Bool × Unit) => pStA 294 ⟨b3, 0, none⟩ r11.1 <| pLdA 294 ⟨b3, 0, none⟩ fun x12 => pCall Tryz.prog 11 [(.agg x12.toArray), (.int .i64 1), (.slice (some ⟨b1, 0, none⟩) 1 1)] KP (.many [.agg, .bool]) fun (r13 : (List Value) × Bool × Unit) => pStA 294 ⟨b3, 0, none⟩ r13.1 <| pJoin (σ := Bool × Unit)
  (fun k14 => pIf (!r5.2.1)
  (k14 (true, ()))
  (pIf (!r9.2.1)
  (k14 (true, ()))
  (pIf (!r11.2.1)
  (k14 (true, ()))
  (pIf (!r13.2.1)
  (k14 (true, ()))
  (pIdx 0 11 <| pLd (.int .i64) ((((⟨b3, 0, none⟩ : Addr).add 0).add ((0 : Int).toNat * 12)).add 0) fun (x15 : Int) => pIf ((x15 : Int) != 5)
  (k14 (true, ()))
  (pIdx 0 11 <| pLd .bool ((((⟨b3, 0, none⟩ : Addr).add 0).add ((0 : Int).toNat * 12)).add 10) fun (x16 : Bool) => k14 ((!x16), ())))))))
  (fun s => law19_alive_j2 KP K b1 b3 s.1)
def law19_alive_ann : Ann := .two (.none) (.two (.none) (.two (.none) (.two (.none) (.two (.none) (.two (.none) (.two (.none) (.two (.none) (.two (.join (.none) (.two (.two (.none) (.none)) (.none)) [(74, .bool)]) (.two (.none) (.two (.none) (.two (.none) (.two (.none) (.join (.none) (.none) [(0, .bool)])))))))))))))
theorem law19_alive_eq  (KP K : Value → Pr) : vcBody Tryz.prog Tryz.f4 (Tryz.f4.body.getD .skip) law19_alive_ann [] KP K = law19_alive  KP K := by kernel_rfl
theorem law19_alive_call  {KP K : Value → Pr} {h : Heap} (s : law19_alive  (fgt KP) (fgt K) h) : WpCall Tryz.prog 4 [].toArray KP K h :=
  WpCall.of_vc Tryz.mixed Tryz.func4 (by kernel_rfl) Tryz.call4 law19_alive_ann (by rw [law19_alive_eq]; exact s)

/- halberd/halberdlaw19.great -/
def law19_great_l1 (KP : Value → Pr) (K : Value → Pr) (b1 : Nat) (k5 : Int × Unit → Pr) (x6 : Int) : Pr :=
  pIf (decide ((x6 : Int) < 11))
  (pIdx x6 11 <| pLdA 12 (((⟨b1, 0, none⟩ : Addr).add 0).add ((x6 : Int).toNat * 12)) fun x7 => pCall Tryz.prog 15 [(.agg x7.toArray)] KP (.one .bool) fun (r8 : Bool) => pIf r8
  (K (.bool true))
  (k5 ((IntKind.i64.wrap (x6 + 1)), ())))
  (K (.bool false))
def law19_great_j2 (KP : Value → Pr) (K : Value → Pr) (b1 : Nat) (x4 : Bool) : Pr :=
  pIf x4
  (K (.bool true))
  (pLoop (σ := Int × Unit) (fun s k5 => law19_great_l1 KP K b1 k5 s.1) (0, ()))
def law19_great (s_0 : List Value) (defs_1 : Sl) (KP K : Value → Pr) : Pr :=
  pNew s_0 fun b1 => pJoin (σ := Bool × Unit)
  (fun k2 => pLd .slice ((⟨b1, 0, none⟩ : Addr).add 292) fun (x3 : Sl) => pIf (decide (((x3.len : Int) : Int) > 60))
  (k2 (true, ()))
  (k2 ((decide (((defs_1.len : Int) : Int) > 60)), ())))
  (fun s => law19_great_j2 KP K b1 s.1)
def law19_great_ann : Ann := .two (.none) (.two (.join (.none) (.two (.two (.none) (.none)) (.none)) [(14, .bool)]) (.two (.two (.none) (.sub (.loop [(5, (.int .i64))] (.two (.two (.none) (.two (.none) (.none))) (.two (.sub (.two (.none) (.two (.two (.none) (.none)) (.none)))) (.none)))))) (.two (.none) (.none))))
theorem law19_great_eq (s_0 : List Value) (defs_1 : Sl) (KP K : Value → Pr) : vcBody Tryz.prog Tryz.f5 (Tryz.f5.body.getD .skip) law19_great_ann [(.agg s_0.toArray), (.slice defs_1.base defs_1.len defs_1.cap)] KP K = law19_great s_0 defs_1 KP K := by kernel_rfl
theorem law19_great_call (s_0 : List Value) (defs_1 : Sl) {KP K : Value → Pr} {h : Heap} (s : law19_great s_0 defs_1 (fgt KP) (fgt K) h) : WpCall Tryz.prog 5 [(.agg s_0.toArray), (.slice defs_1.base defs_1.len defs_1.cap)].toArray KP K h :=
  WpCall.of_vc Tryz.mixed Tryz.func5 (by kernel_rfl) Tryz.call5 law19_great_ann (by rw [law19_great_eq]; exact s)

/- halberd/halberdref19.Copy -/
def ref19_Copy (s_0 : List Value) (KP K : Value → Pr) : Pr :=
  pNew s_0 fun b1 => pNew (zc Tryz.prog 36) fun b2 => pNew (lay (reps 0 (zc Tryz.prog 3)) []) fun b3 => pLd .slice ((⟨b1, 0, none⟩ : Addr).add 292) fun (x4 : Sl) => pAppend 1 8 ⟨(some ⟨b3, 0, none⟩), 0, 0⟩ x4 fun s5 => pSt ((⟨b1, 0, none⟩ : Addr).add 292) (.slice s5.base s5.len s5.cap) <| pLdA 294 ⟨b1, 0, none⟩ fun x6 => pStA 294 ⟨b2, 0, none⟩ x6 <| pLdA 294 ⟨b2, 0, none⟩ fun x7 => K (.agg x7.toArray)
def ref19_Copy_ann : Ann := .two (.none) (.two (.none) (.two (.none) (.none)))
theorem ref19_Copy_eq (s_0 : List Value) (KP K : Value → Pr) : vcBody Tryz.prog Tryz.f6 (Tryz.f6.body.getD .skip) ref19_Copy_ann [(.agg s_0.toArray)] KP K = ref19_Copy s_0 KP K := by kernel_rfl
theorem ref19_Copy_call (s_0 : List Value) {KP K : Value → Pr} {h : Heap} (s : ref19_Copy s_0 (fgt KP) (fgt K) h) : WpCall Tryz.prog 6 [(.agg s_0.toArray)].toArray KP K h :=
  WpCall.of_vc Tryz.mixed Tryz.func6 (by kernel_rfl) Tryz.call6 ref19_Copy_ann (by rw [ref19_Copy_eq]; exact s)

/- halberd/areg.Op -/
def areg_Op_j1 (KP : Value → Pr) (b2 : Nat) (r5 : Option Addr) (x6 : Int) (x7 : Int) (b10 : Nat) (b16 : Nat) (k20 : Unit → Pr) (x43 : Bool) : Pr :=
  pIf x43
  (pLdA 6 ((⟨b10, 0, none⟩ : Addr).add 1) fun x44 => pLdA 6 ((⟨b16, 0, none⟩ : Addr).add 1) fun x45 => pCall Tryz.prog 25 [(.int .u8 (bitsV .and .u8 x6 240)), (.bool (((bitsV .and .u8 x7 7) : Int) == 7)), (.agg x44.toArray), (.agg x45.toArray)] KP (.many [.agg, .bool]) fun (r46 : (List Value) × Bool × Unit) => pNew (zc Tryz.prog 26) fun b47 => pStA 6 ⟨b47, 0, none⟩ r46.1 <| pLd (.int .u8) ((⟨b2, 0, none⟩ : Addr).add 1) fun (x48 : Int) => pLdA 6 ⟨b47, 0, none⟩ fun x49 => pCall Tryz.prog 17 [(.agg x49.toArray)] KP (.one .agg) fun (r50 : List Value) => pKeep (loadF Tryz.prog 5 (.pointer (some ((⟨b2, 0, none⟩ : Addr).add 1))) (.int .u8 x48)) <| pCall Tryz.prog 21 [(.pointer r5), (.int .u8 x48), (.agg r50.toArray)] KP (.many []) fun (r51 : Unit) => k20 (()))
  (k20 (()))
def areg_Op_j2 (KP : Value → Pr) (b2 : Nat) (r5 : Option Addr) (x6 : Int) (x7 : Int) (b10 : Nat) (b16 : Nat) (k20 : Unit → Pr) (x32 : Bool) : Pr :=
  pIf x32
  (pLd (.int .u8) ((⟨b2, 0, none⟩ : Addr).add 1) fun (x33 : Int) => pLdA 12 ⟨b10, 0, none⟩ fun x34 => pLdA 6 ((⟨b16, 0, none⟩ : Addr).add 1) fun x35 => pCall Tryz.prog 23 [(.pointer r5), (.int .u8 (bitsV .and .u8 x6 240)), (.agg x34.toArray), (.agg x35.toArray)] KP (.one .agg) fun (r36 : List Value) => pKeep (loadF Tryz.prog 5 (.pointer (some ((⟨b2, 0, none⟩ : Addr).add 1))) (.int .u8 x33)) <| pCall Tryz.prog 21 [(.pointer r5), (.int .u8 x33), (.agg r36.toArray)] KP (.many []) fun (r37 : Unit) => k20 (()))
  (pJoin (σ := Bool × Unit)
  (fun k38 => pLd (.int .i64) ((⟨b10, 0, none⟩ : Addr).add 0) fun (x39 : Int) => pIf ((x39 : Int) == 1)
  (pLd (.int .i64) ((⟨b16, 0, none⟩ : Addr).add 0) fun (x40 : Int) => pCall Tryz.prog 24 [(.pointer r5), (.bool ((x40 : Int) == 1))] KP (.one .bool) fun (r41 : Bool) => k38 (r41, ()))
  (pCall Tryz.prog 24 [(.pointer r5), (.bool false)] KP (.one .bool) fun (r42 : Bool) => k38 (r42, ())))
  (fun s => areg_Op_j1 KP b2 r5 x6 x7 b10 b16 k20 s.1))
def areg_Op_j3 (KP : Value → Pr) (b2 : Nat) (r5 : Option Addr) (x6 : Int) (x7 : Int) (b10 : Nat) (b16 : Nat) (k20 : Unit → Pr) (x24 : Bool) : Pr :=
  pIf x24
  (pLd (.int .u8) ((⟨b2, 0, none⟩ : Addr).add 1) fun (x25 : Int) => pLdA 12 ⟨b16, 0, none⟩ fun x26 => pCall Tryz.prog 21 [(.pointer r5), (.int .u8 x25), (.agg x26.toArray)] KP (.many []) fun (r27 : Unit) => k20 (()))
  (pJoin (σ := Bool × Unit)
  (fun k28 => pIf (((bitsV .and .u8 x7 7) : Int) == 7)
  (pLdA 12 ⟨b10, 0, none⟩ fun x29 => pCall Tryz.prog 22 [(.agg x29.toArray)] KP (.one .bool) fun (r30 : Bool) => pIf r30
  (pLd (.int .i64) ((⟨b16, 0, none⟩ : Addr).add 0) fun (x31 : Int) => pIf ((x31 : Int) == 1)
  (pIf (((bitsV .and .u8 x6 240) : Int) == 0)
  (k28 (true, ()))
  (k28 ((((bitsV .and .u8 x6 240) : Int) == 16), ())))
  (k28 (false, ())))
  (k28 (false, ())))
  (k28 (false, ())))
  (fun s => areg_Op_j2 KP b2 r5 x6 x7 b10 b16 k20 s.1))
def areg_Op_j4 (KP : Value → Pr) (K : Value → Pr) (b3 : Nat) (r5 : Option Addr) : Pr :=
  pCall Tryz.prog 26 [(.pointer r5)] KP (.many [.agg, .bool]) fun (r52 : (List Value) × Bool × Unit) => pStA 294 ⟨b3, 0, none⟩ r52.1 <| pLdA 294 ⟨b3, 0, none⟩ fun x53 => K (.tuple [(.agg x53.toArray), (.bool r52.2.1)].toArray)
def areg_Op_j5 (KP : Value → Pr) (K : Value → Pr) (b2 : Nat) (b3 : Nat) (r5 : Option Addr) (x6 : Int) (x7 : Int) (b10 : Nat) (b16 : Nat) : Pr :=
  pJoin (σ := Unit)
  (fun k20 => pSome r5 fun a21 => pLd .bool (a21.add 294) fun (x22 : Bool) => pIf x22
  (k20 (()))
  (pJoin (σ := Bool × Unit)
  (fun k23 => pIf (((bitsV .and .u8 x6 240) : Int) == 176)
  (k23 ((((bitsV .and .u8 x7 7) : Int) == 7), ()))
  (k23 (false, ())))
  (fun s => areg_Op_j3 KP b2 r5 x6 x7 b10 b16 k20 s.1)))
  (fun s => areg_Op_j4 KP K b3 r5)
def areg_Op_j6 (KP : Value → Pr) (K : Value → Pr) (b2 : Nat) (b3 : Nat) (r5 : Option Addr) (x6 : Int) (x7 : Int) (b10 : Nat) : Pr :=
  pCall Tryz.prog 18 [(.int .u64 0)] KP (.one .agg) fun (r14 : List Value) => pCall Tryz.prog 17 [(.agg r14.toArray)] KP (.one .agg) fun (r15 : List Value) => pNew (zc Tryz.prog 28) fun b16 => pStA 12 ⟨b16, 0, none⟩ r15 <| pJoin (σ := Unit)
  (fun k17 => pIf (((bitsV .and .u8 x6 240) : Int) != 128)
  (pLdA 5 ⟨b2, 0, none⟩ fun x18 => pCall Tryz.prog 20 [(.pointer r5), (.agg x18.toArray)] KP (.one .agg) fun (r19 : List Value) => pStA 12 ⟨b16, 0, none⟩ r19 <| k17 (()))
  (k17 (())))
  (fun s => areg_Op_j5 KP K b2 b3 r5 x6 x7 b10 b16)
def areg_Op (s_0 : List Value) (i_1 : List Value) (KP K : Value → Pr) : Pr :=
  pNew s_0 fun b1 => pNew i_1 fun b2 => pNew (zc Tryz.prog 36) fun b3 => pLdA 294 ⟨b1, 0, none⟩ fun x4 => pCall Tryz.prog 16 [(.agg x4.toArray)] KP (.one .ptr) fun (r5 : Option Addr) => pLd (.int .u8) ((⟨b2, 0, none⟩ : Addr).add 0) fun (x6 : Int) => pLd (.int .u8) ((⟨b2, 0, none⟩ : Addr).add 0) fun (x7 : Int) => pCall Tryz.prog 18 [(.int .u64 0)] KP (.one .agg) fun (r8 : List Value) => pCall Tryz.prog 17 [(.agg r8.toArray)] KP (.one .agg) fun (r9 : List Value) => pNew (zc Tryz.prog 28) fun b10 => pStA 12 ⟨b10, 0, none⟩ r9 <| pJoin (σ := Unit)
  (fun k11 => pIf (((bitsV .and .u8 x6 240) : Int) != 176)
  (pLd (.int .u8) ((⟨b2, 0, none⟩ : Addr).add 1) fun (x12 : Int) => pCall Tryz.prog 19 [(.pointer r5), (.int .u8 x12)] KP (.one .agg) fun (r13 : List Value) => pStA 12 ⟨b10, 0, none⟩ r13 <| k11 (()))
  (k11 (())))
  (fun s => areg_Op_j6 KP K b2 b3 r5 x6 x7 b10)
def areg_Op_ann : Ann := .two (.none) (.two (.none) (.two (.ord [0, 3, 1, 2, 7, 4, 5, 6, 8]) (.two (.none) (.join (.two (.none) (.two (.none) (.none))) (.two (.none) (.join (.two (.none) (.two (.none) (.none))) (.join (.sub (.two (.none) (.two (.none) (.join (.none) (.two (.none) (.join (.none) (.two (.ord [0, 1, 3, 4, 6, 2, 5, 7, 8, 9]) (.join (.none) (.two (.two (.none) (.ord [0, 1, 2, 3, 4, 5])) (.none)) [(82, .bool)])) [(53, .bool)])) [(42, .bool)])))) (.two (.none) (.none)) []) [])) []))))
theorem areg_Op_eq (s_0 : List Value) (i_1 : List Value) (KP K : Value → Pr) : vcBody Tryz.prog Tryz.f7 (Tryz.f7.body.getD .skip) areg_Op_ann [(.agg s_0.toArray), (.agg i_1.toArray)] KP K = areg_Op s_0 i_1 KP K := by kernel_rfl
theorem areg_Op_call (s_0 : List Value) (i_1 : List Value) {KP K : Value → Pr} {h : Heap} (s : areg_Op s_0 i_1 (fgt KP) (fgt K) h) : WpCall Tryz.prog 7 [(.agg s_0.toArray), (.agg i_1.toArray)].toArray KP K h :=
  WpCall.of_vc Tryz.mixed Tryz.func7 (by kernel_rfl) Tryz.call7 areg_Op_ann (by rw [areg_Op_eq]; exact s)

/- halberd/areg.Load -/
def areg_Load_j1 (KP : Value → Pr) (K : Value → Pr) (b2 : Nat) (b3 : Nat) (r5 : Option Addr) (b28 : Nat) : Pr :=
  pLd (.int .u8) ((⟨b2, 0, none⟩ : Addr).add 1) fun (x37 : Int) => pLdA 12 ⟨b28, 0, none⟩ fun x38 => pCall Tryz.prog 21 [(.pointer r5), (.int .u8 x37), (.agg x38.toArray)] KP (.many []) fun (r39 : Unit) => pCall Tryz.prog 26 [(.pointer r5)] KP (.many [.agg, .bool]) fun (r40 : (List Value) × Bool × Unit) => pStA 294 ⟨b3, 0, none⟩ r40.1 <| pLdA 294 ⟨b3, 0, none⟩ fun x41 => K (.tuple [(.agg x41.toArray), (.bool r40.2.1)].toArray)
def areg_Load_j2 (hook_2 : Int) (defs_3 : Sl) (KP : Value → Pr) (K : Value → Pr) (b2 : Nat) (b3 : Nat) (r5 : Option Addr) (x8 : Int) (r10 : Int) (b11 : Nat) (x24 : Bool) : Pr :=
  pIf x24
  (pCall Tryz.prog 26 [(.pointer r5)] KP (.many [.agg, .bool]) fun (r25 : (List Value) × Bool × Unit) => pStA 294 ⟨b3, 0, none⟩ r25.1 <| pLdA 294 ⟨b3, 0, none⟩ fun x26 => K (.tuple [(.agg x26.toArray), (.bool r25.2.1)].toArray))
  (pCall Tryz.prog 29 [(.int .i64 r10)] KP (.one .agg) fun (r27 : List Value) => pNew (zc Tryz.prog 28) fun b28 => pStA 12 ⟨b28, 0, none⟩ r27 <| pJoin (σ := Unit)
  (fun k29 => pLd (.int .i64) ((⟨b11, 0, none⟩ : Addr).add 0) fun (x30 : Int) => pIf ((x30 : Int) == 2)
  (pLd (.int .i64) ((⟨b11, 0, none⟩ : Addr).add 7) fun (x31 : Int) => pCall Tryz.prog 30 [(.pointer r5), (.int .i64 (IntKind.i64.wrap (x31 + (IntKind.i64.wrap x8)))), (.int .i64 r10)] KP (.one .agg) fun (r32 : List Value) => pStA 12 ⟨b28, 0, none⟩ r32 <| k29 (()))
  (pIf ((x30 : Int) == 3)
  (pLd (.int .i64) ((⟨b11, 0, none⟩ : Addr).add 7) fun (x33 : Int) => pCall Tryz.prog 31 [(.pointer r5), (.int .i64 (IntKind.i64.wrap (x33 + (IntKind.i64.wrap x8)))), (.int .i64 r10), (.int .i64 hook_2)] KP (.one .agg) fun (r34 : List Value) => pStA 12 ⟨b28, 0, none⟩ r34 <| k29 (()))
  (pLdA 12 ⟨b11, 0, none⟩ fun x35 => pCall Tryz.prog 32 [(.pointer r5), (.agg x35.toArray), (.int .i64 (IntKind.i64.wrap x8)), (.int .i64 r10), (.slice defs_3.base defs_3.len defs_3.cap)] KP (.many []) fun (r36 : Unit) => k29 (()))))
  (fun s => areg_Load_j1 KP K b2 b3 r5 b28))
def areg_Load (s_0 : List Value) (i_1 : List Value) (hook_2 : Int) (defs_3 : Sl) (KP K : Value → Pr) : Pr :=
  pNew s_0 fun b1 => pNew i_1 fun b2 => pNew (zc Tryz.prog 36) fun b3 => pLdA 294 ⟨b1, 0, none⟩ fun x4 => pCall Tryz.prog 16 [(.agg x4.toArray)] KP (.one .ptr) fun (r5 : Option Addr) => pLd (.int .u8) ((⟨b2, 0, none⟩ : Addr).add 2) fun (x6 : Int) => pLdA 5 ⟨b2, 0, none⟩ fun x7 => pLd (.int .i16) ((⟨b2, 0, none⟩ : Addr).add 3) fun (x8 : Int) => pCall Tryz.prog 19 [(.pointer r5), (.int .u8 x6)] KP (.one .agg) fun (r9 : List Value) => pKeep (loadF Tryz.prog 37 (.pointer (some ((⟨b2, 0, none⟩ : Addr).add 3))) (.int .i16 x8)) <| pKeep (loadF Tryz.prog 39 (.pointer (some ⟨b2, 0, none⟩)) (.agg x7.toArray)) <| pCall Tryz.prog 27 [(.agg x7.toArray)] KP (.one (.int .i64)) fun (r10 : Int) => pKeep (loadF Tryz.prog 37 (.pointer (some ((⟨b2, 0, none⟩ : Addr).add 3))) (.int .i16 x8)) <| pNew (zc Tryz.prog 28) fun b11 => pStA 12 ⟨b11, 0, none⟩ r9 <| pKeep (loadF Tryz.prog 37 (.pointer (some ((⟨b2, 0, none⟩ : Addr).add 3))) (.int .i16 x8)) <| pJoin (σ := Bool × Unit)
  (fun k12 => pLdA 12 ⟨b11, 0, none⟩ fun x13 => pCall Tryz.prog 22 [(.agg x13.toArray)] KP (.one .bool) fun (r14 : Bool) => pIf r14
  (pLd .bool ((⟨b11, 0, none⟩ : Addr).add 10) fun (x15 : Bool) => pIf (!x15)
  (pLd (.int .i64) ((⟨b11, 0, none⟩ : Addr).add 7) fun (x16 : Int) => pCall Tryz.prog 28 [(.int .i64 x16)] KP (.one .bool) fun (r17 : Bool) => pIf r17
  (pLd (.int .i64) ((⟨b11, 0, none⟩ : Addr).add 8) fun (x18 : Int) => pCall Tryz.prog 28 [(.int .i64 x18)] KP (.one .bool) fun (r19 : Bool) => pCall Tryz.prog 24 [(.pointer r5), (.bool r19)] KP (.one .bool) fun (r20 : Bool) => k12 ((!r20), ()))
  (pCall Tryz.prog 24 [(.pointer r5), (.bool false)] KP (.one .bool) fun (r21 : Bool) => k12 ((!r21), ())))
  (pCall Tryz.prog 24 [(.pointer r5), (.bool false)] KP (.one .bool) fun (r22 : Bool) => k12 ((!r22), ())))
  (pCall Tryz.prog 24 [(.pointer r5), (.bool false)] KP (.one .bool) fun (r23 : Bool) => k12 ((!r23), ())))
  (fun s => areg_Load_j2 hook_2 defs_3 KP K b2 b3 r5 x8 r10 b11 s.1)
def areg_Load_ann : Ann := .two (.none) (.two (.none) (.two (.ord [0, 1, 6, 2, 4, 7, 8, 3, 5, 9, 10, 11, 12]) (.two (.join (.none) (.two (.two (.none) (.none)) (.none)) [(45, .bool)]) (.two (.none) (.join (.two (.none) (.sub (.two (.none) (.two (.none) (.two (.none) (.two (.none) (.none))))))) (.two (.none) (.two (.none) (.none))) [])))))
theorem areg_Load_eq (s_0 : List Value) (i_1 : List Value) (hook_2 : Int) (defs_3 : Sl) (KP K : Value → Pr) : vcBody Tryz.prog Tryz.f8 (Tryz.f8.body.getD .skip) areg_Load_ann [(.agg s_0.toArray), (.agg i_1.toArray), (.int .i64 hook_2), (.slice defs_3.base defs_3.len defs_3.cap)] KP K = areg_Load s_0 i_1 hook_2 defs_3 KP K := by kernel_rfl
theorem areg_Load_call (s_0 : List Value) (i_1 : List Value) (hook_2 : Int) (defs_3 : Sl) {KP K : Value → Pr} {h : Heap} (s : areg_Load s_0 i_1 hook_2 defs_3 (fgt KP) (fgt K) h) : WpCall Tryz.prog 8 [(.agg s_0.toArray), (.agg i_1.toArray), (.int .i64 hook_2), (.slice defs_3.base defs_3.len defs_3.cap)].toArray KP K h :=
  WpCall.of_vc Tryz.mixed Tryz.func8 (by kernel_rfl) Tryz.call8 areg_Load_ann (by rw [areg_Load_eq]; exact s)

/- halberd/areg.Store -/
def areg_Store_j1 (defs_2 : Sl) (KP : Value → Pr) (r5 : Option Addr) (x8 : Int) (r10 : Int) (b11 : Nat) (b14 : Nat) (k42 : Unit → Pr) (x48 : Bool) : Pr :=
  pIf x48
  (pLd (.int .i64) ((⟨b14, 0, none⟩ : Addr).add 0) fun (x49 : Int) => pCall Tryz.prog 24 [(.pointer r5), (.bool ((x49 : Int) == 1))] KP (.one .bool) fun (r50 : Bool) => pLdA 12 ⟨b11, 0, none⟩ fun x51 => pCall Tryz.prog 32 [(.pointer r5), (.agg x51.toArray), (.int .i64 (IntKind.i64.wrap x8)), (.int .i64 r10), (.slice defs_2.base defs_2.len defs_2.cap)] KP (.many []) fun (r52 : Unit) => k42 (()))
  (pSome r5 fun a53 => pSt (a53.add 294) (.bool true) <| k42 (()))
def areg_Store_j2 (KP : Value → Pr) (K : Value → Pr) (b3 : Nat) (r5 : Option Addr) : Pr :=
  pCall Tryz.prog 26 [(.pointer r5)] KP (.many [.agg, .bool]) fun (r54 : (List Value) × Bool × Unit) => pStA 294 ⟨b3, 0, none⟩ r54.1 <| pLdA 294 ⟨b3, 0, none⟩ fun x55 => K (.tuple [(.agg x55.toArray), (.bool r54.2.1)].toArray)
def areg_Store_j3 (defs_2 : Sl) (KP : Value → Pr) (K : Value → Pr) (b3 : Nat) (r5 : Option Addr) (x8 : Int) (r10 : Int) (b11 : Nat) (b14 : Nat) (x39 : Bool) : Pr :=
  pIf x39
  (pCall Tryz.prog 26 [(.pointer r5)] KP (.many [.agg, .bool]) fun (r40 : (List Value) × Bool × Unit) => pStA 294 ⟨b3, 0, none⟩ r40.1 <| pLdA 294 ⟨b3, 0, none⟩ fun x41 => K (.tuple [(.agg x41.toArray), (.bool r40.2.1)].toArray))
  (pJoin (σ := Unit)
  (fun k42 => pLd (.int .i64) ((⟨b11, 0, none⟩ : Addr).add 0) fun (x43 : Int) => pIf ((x43 : Int) == 2)
  (pLd (.int .i64) ((⟨b11, 0, none⟩ : Addr).add 7) fun (x44 : Int) => pLdA 12 ⟨b14, 0, none⟩ fun x45 => pCall Tryz.prog 34 [(.pointer r5), (.int .i64 (IntKind.i64.wrap (x44 + (IntKind.i64.wrap x8)))), (.int .i64 r10), (.agg x45.toArray)] KP (.many []) fun (r46 : Unit) => k42 (()))
  (pJoin (σ := Bool × Unit)
  (fun k47 => pIf ((x43 : Int) == 5)
  (k47 (((x43 : Int) == 5), ()))
  (k47 (((x43 : Int) == 6), ())))
  (fun s => areg_Store_j1 defs_2 KP r5 x8 r10 b11 b14 k42 s.1)))
  (fun s => areg_Store_j2 KP K b3 r5))
def areg_Store_j4 (defs_2 : Sl) (KP : Value → Pr) (K : Value → Pr) (b3 : Nat) (r5 : Option Addr) (x8 : Int) (r10 : Int) (b11 : Nat) (b14 : Nat) : Pr :=
  pJoin (σ := Bool × Unit)
  (fun k19 => pLdA 12 ⟨b11, 0, none⟩ fun x20 => pCall Tryz.prog 22 [(.agg x20.toArray)] KP (.one .bool) fun (r21 : Bool) => pIf r21
  (pLd .bool ((⟨b11, 0, none⟩ : Addr).add 10) fun (x22 : Bool) => pIf (!x22)
  (pLd (.int .i64) ((⟨b11, 0, none⟩ : Addr).add 7) fun (x23 : Int) => pCall Tryz.prog 28 [(.int .i64 x23)] KP (.one .bool) fun (r24 : Bool) => pIf r24
  (pLd (.int .i64) ((⟨b11, 0, none⟩ : Addr).add 8) fun (x25 : Int) => pCall Tryz.prog 28 [(.int .i64 x25)] KP (.one .bool) fun (r26 : Bool) => pCall Tryz.prog 24 [(.pointer r5), (.bool r26)] KP (.one .bool) fun (r27 : Bool) => pIf (!r27)
  (k19 (true, ()))
  (pSome r5 fun a28 => pLd .bool (a28.add 294) fun (x29 : Bool) => k19 (x29, ())))
  (pCall Tryz.prog 24 [(.pointer r5), (.bool false)] KP (.one .bool) fun (r30 : Bool) => pIf (!r30)
  (k19 (true, ()))
  (pSome r5 fun a31 => pLd .bool (a31.add 294) fun (x32 : Bool) => k19 (x32, ()))))
  (pCall Tryz.prog 24 [(.pointer r5), (.bool false)] KP (.one .bool) fun (r33 : Bool) => pIf (!r33)
  (k19 (true, ()))
  (pSome r5 fun a34 => pLd .bool (a34.add 294) fun (x35 : Bool) => k19 (x35, ()))))
  (pCall Tryz.prog 24 [(.pointer r5), (.bool false)] KP (.one .bool) fun (r36 : Bool) => pIf (!r36)
  (k19 (true, ()))
  (pSome r5 fun a37 => pLd .bool (a37.add 294) fun (x38 : Bool) => k19 (x38, ()))))
  (fun s => areg_Store_j3 defs_2 KP K b3 r5 x8 r10 b11 b14 s.1)
def areg_Store (s_0 : List Value) (i_1 : List Value) (defs_2 : Sl) (KP K : Value → Pr) : Pr :=
  pNew s_0 fun b1 => pNew i_1 fun b2 => pNew (zc Tryz.prog 36) fun b3 => pLdA 294 ⟨b1, 0, none⟩ fun x4 => pCall Tryz.prog 16 [(.agg x4.toArray)] KP (.one .ptr) fun (r5 : Option Addr) => pLd (.int .u8) ((⟨b2, 0, none⟩ : Addr).add 1) fun (x6 : Int) => pLdA 5 ⟨b2, 0, none⟩ fun x7 => pLd (.int .i16) ((⟨b2, 0, none⟩ : Addr).add 3) fun (x8 : Int) => pCall Tryz.prog 19 [(.pointer r5), (.int .u8 x6)] KP (.one .agg) fun (r9 : List Value) => pKeep (loadF Tryz.prog 37 (.pointer (some ((⟨b2, 0, none⟩ : Addr).add 3))) (.int .i16 x8)) <| pKeep (loadF Tryz.prog 39 (.pointer (some ⟨b2, 0, none⟩)) (.agg x7.toArray)) <| pCall Tryz.prog 27 [(.agg x7.toArray)] KP (.one (.int .i64)) fun (r10 : Int) => pKeep (loadF Tryz.prog 37 (.pointer (some ((⟨b2, 0, none⟩ : Addr).add 3))) (.int .i16 x8)) <| pNew (zc Tryz.prog 28) fun b11 => pStA 12 ⟨b11, 0, none⟩ r9 <| pKeep (loadF Tryz.prog 37 (.pointer (some ((⟨b2, 0, none⟩ : Addr).add 3))) (.int .i16 x8)) <| pLdA 5 ⟨b2, 0, none⟩ fun x12 => pCall Tryz.prog 33 [(.agg x12.toArray)] KP (.one .agg) fun (r13 : List Value) => pNew (zc Tryz.prog 28) fun b14 => pStA 12 ⟨b14, 0, none⟩ r13 <| pJoin (σ := Unit)
  (fun k15 => pLd (.int .u8) ((⟨b2, 0, none⟩ : Addr).add 0) fun (x16 : Int) => pIf (((bitsV .and .u8 x16 7) : Int) == 3)
  (pLd (.int .u8) ((⟨b2, 0, none⟩ : Addr).add 2) fun (x17 : Int) => pCall Tryz.prog 19 [(.pointer r5), (.int .u8 x17)] KP (.one .agg) fun (r18 : List Value) => pStA 12 ⟨b14, 0, none⟩ r18 <| k15 (()))
  (k15 (())))
  (fun s => areg_Store_j4 defs_2 KP K b3 r5 x8 r10 b11 b14)
def areg_Store_ann : Ann := .two (.none) (.two (.none) (.two (.ord [0, 1, 6, 2, 4, 7, 8, 3, 5, 9, 10, 11, 12]) (.two (.none) (.join (.two (.none) (.two (.none) (.none))) (.two (.join (.none) (.two (.two (.none) (.none)) (.none)) [(59, .bool)]) (.join (.two (.none) (.sub (.two (.none) (.two (.none) (.join (.two (.none) (.two (.none) (.none))) (.two (.two (.none) (.none)) (.none)) [(79, .bool)]))))) (.two (.none) (.none)) [])) []))))
theorem areg_Store_eq (s_0 : List Value) (i_1 : List Value) (defs_2 : Sl) (KP K : Value → Pr) : vcBody Tryz.prog Tryz.f9 (Tryz.f9.body.getD .skip) areg_Store_ann [(.agg s_0.toArray), (.agg i_1.toArray), (.slice defs_2.base defs_2.len defs_2.cap)] KP K = areg_Store s_0 i_1 defs_2 KP K := by kernel_rfl
theorem areg_Store_call (s_0 : List Value) (i_1 : List Value) (defs_2 : Sl) {KP K : Value → Pr} {h : Heap} (s : areg_Store s_0 i_1 defs_2 (fgt KP) (fgt K) h) : WpCall Tryz.prog 9 [(.agg s_0.toArray), (.agg i_1.toArray), (.slice defs_2.base defs_2.len defs_2.cap)].toArray KP K h :=
  WpCall.of_vc Tryz.mixed Tryz.func9 (by kernel_rfl) Tryz.call9 areg_Store_ann (by rw [areg_Store_eq]; exact s)

/- halberd/areg.Jump -/
def areg_Jump_j1 (taken_2 : Bool) (KP : Value → Pr) (b2 : Nat) (r5 : Option Addr) (x6 : Int) (x7 : Int) (x8 : Int) (b13 : Nat) (b14 : Nat) (k15 : Bool × Unit → Pr) (x30 : Bool) : Pr :=
  pIf x30
  (pLdA 6 ((⟨b13, 0, none⟩ : Addr).add 1) fun x31 => pLdA 6 ((⟨b14, 0, none⟩ : Addr).add 1) fun x32 => pCall Tryz.prog 36 [(.int .u8 (bitsV .and .u8 x6 240)), (.bool (((bitsV .and .u8 x7 7) : Int) == 5)), (.agg x31.toArray), (.agg x32.toArray), (.bool taken_2)] KP (.many [.agg, .agg, .bool]) fun (r33 : (List Value) × (List Value) × Bool × Unit) => pNew (zc Tryz.prog 26) fun b34 => pNew (zc Tryz.prog 26) fun b35 => pStA 6 ⟨b34, 0, none⟩ r33.1 <| pStA 6 ⟨b35, 0, none⟩ r33.2.1 <| pLd (.int .u8) ((⟨b2, 0, none⟩ : Addr).add 1) fun (x36 : Int) => pLdA 6 ⟨b34, 0, none⟩ fun x37 => pCall Tryz.prog 17 [(.agg x37.toArray)] KP (.one .agg) fun (r38 : List Value) => pKeep (loadF Tryz.prog 5 (.pointer (some ((⟨b2, 0, none⟩ : Addr).add 1))) (.int .u8 x36)) <| pCall Tryz.prog 21 [(.pointer r5), (.int .u8 x36), (.agg r38.toArray)] KP (.many []) fun (r39 : Unit) => pIf (((bitsV .and .u8 x8 8) : Int) != 0)
  (pLd (.int .u8) ((⟨b2, 0, none⟩ : Addr).add 2) fun (x40 : Int) => pLdA 6 ⟨b35, 0, none⟩ fun x41 => pCall Tryz.prog 17 [(.agg x41.toArray)] KP (.one .agg) fun (r42 : List Value) => pKeep (loadF Tryz.prog 5 (.pointer (some ((⟨b2, 0, none⟩ : Addr).add 2))) (.int .u8 x40)) <| pCall Tryz.prog 21 [(.pointer r5), (.int .u8 x40), (.agg r42.toArray)] KP (.many []) fun (r43 : Unit) => k15 (r33.2.2.1, ()))
  (k15 (r33.2.2.1, ())))
  (k15 (true, ()))
def areg_Jump_j2 (taken_2 : Bool) (KP : Value → Pr) (b2 : Nat) (r5 : Option Addr) (x6 : Int) (x7 : Int) (x8 : Int) (b13 : Nat) (b14 : Nat) (k15 : Bool × Unit → Pr) (x22 : Bool) : Pr :=
  pIf x22
  (pLdA 12 ⟨b13, 0, none⟩ fun x23 => pCall Tryz.prog 35 [(.pointer r5), (.agg x23.toArray), (.bool ((((bitsV .and .u8 x6 240) : Int) == 16) == taken_2))] KP (.one .bool) fun (r24 : Bool) => k15 (r24, ()))
  (pJoin (σ := Bool × Unit)
  (fun k25 => pLd (.int .i64) ((⟨b13, 0, none⟩ : Addr).add 0) fun (x26 : Int) => pIf ((x26 : Int) == 1)
  (pLd (.int .i64) ((⟨b14, 0, none⟩ : Addr).add 0) fun (x27 : Int) => pCall Tryz.prog 24 [(.pointer r5), (.bool ((x27 : Int) == 1))] KP (.one .bool) fun (r28 : Bool) => k25 (r28, ()))
  (pCall Tryz.prog 24 [(.pointer r5), (.bool false)] KP (.one .bool) fun (r29 : Bool) => k25 (r29, ())))
  (fun s => areg_Jump_j1 taken_2 KP b2 r5 x6 x7 x8 b13 b14 k15 s.1))
def areg_Jump_j3 (K : Value → Pr) (b3 : Nat) (r5 : Option Addr) (x44 : Bool) : Pr :=
  pSome r5 fun a45 => pLd .bool (a45.add 294) fun (x46 : Bool) => pIf x46
  (pStA 294 ⟨b3, 0, none⟩ (lay (zc Tryz.prog 36) []) <| pLdA 294 ⟨b3, 0, none⟩ fun x47 => K (.tuple [(.agg x47.toArray), (.bool false), (.bool false)].toArray))
  (pIf (!x44)
  (pStA 294 ⟨b3, 0, none⟩ (lay (zc Tryz.prog 36) []) <| pLdA 294 ⟨b3, 0, none⟩ fun x48 => K (.tuple [(.agg x48.toArray), (.bool false), (.bool true)].toArray))
  (pSome r5 fun a49 => pLdA 294 (a49.add 0) fun x50 => pStA 294 ⟨b3, 0, none⟩ x50 <| pLdA 294 ⟨b3, 0, none⟩ fun x51 => K (.tuple [(.agg x51.toArray), (.bool true), (.bool true)].toArray)))
def areg_Jump (s_0 : List Value) (i_1 : List Value) (taken_2 : Bool) (KP K : Value → Pr) : Pr :=
  pNew s_0 fun b1 => pNew i_1 fun b2 => pNew (zc Tryz.prog 36) fun b3 => pLdA 294 ⟨b1, 0, none⟩ fun x4 => pCall Tryz.prog 16 [(.agg x4.toArray)] KP (.one .ptr) fun (r5 : Option Addr) => pLd (.int .u8) ((⟨b2, 0, none⟩ : Addr).add 0) fun (x6 : Int) => pLd (.int .u8) ((⟨b2, 0, none⟩ : Addr).add 0) fun (x7 : Int) => pLd (.int .u8) ((⟨b2, 0, none⟩ : Addr).add 0) fun (x8 : Int) => pLd (.int .u8) ((⟨b2, 0, none⟩ : Addr).add 1) fun (x9 : Int) => pLdA 5 ⟨b2, 0, none⟩ fun x10 => pCall Tryz.prog 19 [(.pointer r5), (.int .u8 x9)] KP (.one .agg) fun (r11 : List Value) => pKeep (loadF Tryz.prog 39 (.pointer (some ⟨b2, 0, none⟩)) (.agg x10.toArray)) <| pCall Tryz.prog 20 [(.pointer r5), (.agg x10.toArray)] KP (.one .agg) fun (r12 : List Value) => pNew (zc Tryz.prog 28) fun b13 => pNew (zc Tryz.prog 28) fun b14 => pStA 12 ⟨b13, 0, none⟩ r11 <| pStA 12 ⟨b14, 0, none⟩ r12 <| pJoin (σ := Bool × Unit)
  (fun k15 => pSome r5 fun a16 => pLd .bool (a16.add 294) fun (x17 : Bool) => pIf x17
  (k15 (true, ()))
  (pJoin (σ := Bool × Unit)
  (fun k18 => pIf (((bitsV .and .u8 x7 7) : Int) == 5)
  (pLdA 12 ⟨b13, 0, none⟩ fun x19 => pCall Tryz.prog 22 [(.agg x19.toArray)] KP (.one .bool) fun (r20 : Bool) => pIf r20
  (pIf (!(((bitsV .and .u8 x8 8) : Int) != 0))
  (pLd (.int .i32) ((⟨b2, 0, none⟩ : Addr).add 4) fun (x21 : Int) => pIf ((x21 : Int) == 0)
  (pIf (((bitsV .and .u8 x6 240) : Int) == 16)
  (k18 (true, ()))
  (k18 ((((bitsV .and .u8 x6 240) : Int) == 80), ())))
  (k18 (false, ())))
  (k18 (false, ())))
  (k18 (false, ())))
  (k18 (false, ())))
  (fun s => areg_Jump_j2 taken_2 KP b2 r5 x6 x7 x8 b13 b14 k15 s.1)))
  (fun s => areg_Jump_j3 K b3 r5 s.1)
def areg_Jump_ann : Ann := .two (.none) (.two (.none) (.two (.ord [0, 3, 7, 1, 2, 11, 4, 5, 6, 12, 8, 9, 10, 13]) (.two (.ord [0, 1, 4, 2, 5, 3, 6, 7, 8, 9, 10]) (.two (.none) (.join (.sub (.two (.none) (.two (.none) (.join (.none) (.two (.none) (.join (.none) (.two (.two (.none) (.two (.none) (.two (.ord [0, 1, 2, 3, 4, 5]) (.two (.none) (.two (.ord [0, 1, 2, 3, 4, 5]) (.none)))))) (.none)) [(74, .bool)])) [(44, .bool)])))) (.two (.two (.none) (.two (.two (.none) (.none)) (.none))) (.two (.two (.none) (.two (.two (.none) (.none)) (.none))) (.two (.none) (.none)))) [(15, .bool)])))))
theorem areg_Jump_eq (s_0 : List Value) (i_1 : List Value) (taken_2 : Bool) (KP K : Value → Pr) : vcBody Tryz.prog Tryz.f10 (Tryz.f10.body.getD .skip) areg_Jump_ann [(.agg s_0.toArray), (.agg i_1.toArray), (.bool taken_2)] KP K = areg_Jump s_0 i_1 taken_2 KP K := by kernel_rfl
theorem areg_Jump_call (s_0 : List Value) (i_1 : List Value) (taken_2 : Bool) {KP K : Value → Pr} {h : Heap} (s : areg_Jump s_0 i_1 taken_2 (fgt KP) (fgt K) h) : WpCall Tryz.prog 10 [(.agg s_0.toArray), (.agg i_1.toArray), (.bool taken_2)].toArray KP K h :=
  WpCall.of_vc Tryz.mixed Tryz.func10 (by kernel_rfl) Tryz.call10 areg_Jump_ann (by rw [areg_Jump_eq]; exact s)

end Go.Proofs.YtpbhanglcophbaaGreat

set_option linter.unusedVariables false
namespace Go.Proofs.YtpbhanglcophbaaGreat
open Go.Hl
/- halberd/areg.Call -/
def areg_Call_j1 (KP : Value → Pr) (K : Value → Pr) (b2 : Nat) (r4 : Option Addr) (k12 : Int × Unit → Pr) (x13 : Int) : Pr :=
  pSome r4 fun a25 => pLd .bool (a25.add 294) fun (x26 : Bool) => pIf x26
  (pCall Tryz.prog 26 [(.pointer r4)] KP (.many [.agg, .bool]) fun (r27 : (List Value) × Bool × Unit) => pStA 294 ⟨b2, 0, none⟩ r27.1 <| pLdA 294 ⟨b2, 0, none⟩ fun x28 => K (.tuple [(.agg x28.toArray), (.bool r27.2.1)].toArray))
  (k12 ((IntKind.i64.wrap (x13 + 1)), ()))
def areg_Call_l2 (KP : Value → Pr) (K : Value → Pr) (b2 : Nat) (r4 : Option Addr) (b33 : Nat) (k34 : Int × Unit → Pr) (x35 : Int) : Pr :=
  pIf (decide ((x35 : Int) ≤ 5))
  (pSome r4 fun a36 => pIdx x35 11 <| pStA 12 (((a36.add 0).add 0).add ((x35 : Int).toNat * 12)) (lay (zc Tryz.prog 28) []) <| k34 ((IntKind.i64.wrap (x35 + 1)), ()))
  (pSome r4 fun a37 => pLdA 12 ⟨b33, 0, none⟩ fun x38 => pIdx 0 11 <| pStA 12 (((a37.add 0).add 0).add ((0 : Int).toNat * 12)) x38 <| pCall Tryz.prog 26 [(.pointer r4)] KP (.many [.agg, .bool]) fun (r39 : (List Value) × Bool × Unit) => pStA 294 ⟨b2, 0, none⟩ r39.1 <| pLdA 294 ⟨b2, 0, none⟩ fun x40 => K (.tuple [(.agg x40.toArray), (.bool r39.2.1)].toArray))
def areg_Call_l3 (id_1 : Int) (KP : Value → Pr) (K : Value → Pr) (b2 : Nat) (r4 : Option Addr) (b10 : Nat) (x11 : Sl) (k12 : Int × Unit → Pr) (x13 : Int) : Pr :=
  pIf (decide ((x13 : Int) < (x11.len : Int)))
  (pIdx x13 x11.len <| pSome x11.base fun a14 => pLd (.int .u8) (a14.add ((x13 : Int).toNat * 1)) fun (x15 : Int) => pCall Tryz.prog 19 [(.pointer r4), (.int .u8 (IntKind.u8.wrap (IntKind.i64.wrap (x13 + 1))))] KP (.one .agg) fun (r16 : List Value) => pNew (zc Tryz.prog 28) fun b17 => pStA 12 ⟨b17, 0, none⟩ r16 <| pJoin (σ := Unit)
  (fun k18 => pSome r4 fun a19 => pLd .bool (a19.add 294) fun (x20 : Bool) => pIf (!x20)
  (pSome r4 fun a21 => pIdx (IntKind.i64.wrap (x13 + 2)) 11 <| pLdA 12 ⟨b17, 0, none⟩ fun x22 => pLdA 12 (((a21.add 0).add 0).add (((IntKind.i64.wrap (x13 + 2)) : Int).toNat * 12)) fun x23 => pCall Tryz.prog 38 [(.pointer (some ⟨b10, 0, none⟩)), (.int .u8 x15), (.agg x22.toArray), (.agg x23.toArray)] KP (.many []) fun (r24 : Unit) => k18 (()))
  (k18 (())))
  (fun s => areg_Call_j1 KP K b2 r4 k12 x13))
  (pCall Tryz.prog 39 [] KP (.one .map) fun (r29 : Option Nat) => pGetS (.int .i64) r29 (.int .i64 id_1) .any .nilFunc fun (x30 : Value) (b31 : Bool) => pCallV Tryz.prog x30 [(.pointer (some ⟨b10, 0, none⟩))] KP (.one .agg) fun (r32 : List Value) => pNew (zc Tryz.prog 28) fun b33 => pStA 12 ⟨b33, 0, none⟩ r32 <| pLoop (σ := Int × Unit) (fun s k34 => areg_Call_l2 KP K b2 r4 b33 k34 s.1) (1, ()))
def areg_Call (s_0 : List Value) (id_1 : Int) (defs_2 : Sl) (KP K : Value → Pr) : Pr :=
  pNew s_0 fun b1 => pNew (zc Tryz.prog 36) fun b2 => pLdA 294 ⟨b1, 0, none⟩ fun x3 => pCall Tryz.prog 16 [(.agg x3.toArray)] KP (.one .ptr) fun (r4 : Option Addr) => pCall Tryz.prog 37 [(.int .i64 id_1)] KP (.many [.agg, .bool]) fun (r5 : (List Value) × Bool × Unit) => pNew (zc Tryz.prog 84) fun b6 => pStA 4 ⟨b6, 0, none⟩ r5.1 <| pCall Tryz.prog 24 [(.pointer r4), (.bool r5.2.1)] KP (.one .bool) fun (r7 : Bool) => pIf (!r7)
  (pCall Tryz.prog 26 [(.pointer r4)] KP (.many [.agg, .bool]) fun (r8 : (List Value) × Bool × Unit) => pStA 294 ⟨b2, 0, none⟩ r8.1 <| pLdA 294 ⟨b2, 0, none⟩ fun x9 => K (.tuple [(.agg x9.toArray), (.bool r8.2.1)].toArray))
  (pNew (lay (zc Tryz.prog 89) [(0, (.pointer r4)), (1, (.int .i64 id_1)), (2, (.slice defs_2.base defs_2.len defs_2.cap))]) fun b10 => pLd .slice ((⟨b6, 0, none⟩ : Addr).add 1) fun (x11 : Sl) => pLoop (σ := Int × Unit) (fun s k12 => areg_Call_l3 id_1 KP K b2 r4 b10 x11 k12 s.1) (0, ()))
def areg_Call_ann : Ann := .two (.none) (.two (.none) (.two (.none) (.two (.two (.none) (.two (.two (.none) (.none)) (.none))) (.two (.none) (.two (.two (.none) (.sub (.loop [(40, (.int .i64))] (.two (.none) (.two (.two (.none) (.none)) (.two (.sub (.two (.none) (.two (.none) (.join (.two (.none) (.two (.ord [0, 1, 3, 4, 5, 6, 7, 8, 9, 2, 10, 11]) (.none))) (.two (.none) (.two (.two (.none) (.none)) (.none))) [])))) (.none))))))) (.two (.none) (.two (.two (.none) (.sub (.loop [(16, (.int .i64))] (.two (.two (.none) (.two (.none) (.none))) (.two (.sub (.none)) (.none)))))) (.two (.ord [0, 2, 3, 4, 1, 5, 6]) (.two (.none) (.none))))))))))
theorem areg_Call_eq (s_0 : List Value) (id_1 : Int) (defs_2 : Sl) (KP K : Value → Pr) : vcBody Tryz.prog Tryz.f11 (Tryz.f11.body.getD .skip) areg_Call_ann [(.agg s_0.toArray), (.int .i64 id_1), (.slice defs_2.base defs_2.len defs_2.cap)] KP K = areg_Call s_0 id_1 defs_2 KP K := by kernel_rfl
theorem areg_Call_call (s_0 : List Value) (id_1 : Int) (defs_2 : Sl) {KP K : Value → Pr} {h : Heap} (s : areg_Call s_0 id_1 defs_2 (fgt KP) (fgt K) h) : WpCall Tryz.prog 11 [(.agg s_0.toArray), (.int .i64 id_1), (.slice defs_2.base defs_2.len defs_2.cap)].toArray KP K h :=
  WpCall.of_vc Tryz.mixed Tryz.func11 (by kernel_rfl) Tryz.call11 areg_Call_ann (by rw [areg_Call_eq]; exact s)

/- halberd/areg.Begin -/
def areg_Begin  (KP K : Value → Pr) : Pr :=
  pNew (zc Tryz.prog 36) fun b1 => pNew (zc Tryz.prog 36) fun b2 => pStA 294 ⟨b2, 0, none⟩ (lay (zc Tryz.prog 36) [(293, (.int .i64 1))]) <| pIdx 1 11 <| pSt ((((⟨b2, 0, none⟩ : Addr).add 0).add ((1 : Int).toNat * 12)).add 0) (.int .i64 3) <| pIdx 10 11 <| pSt ((((⟨b2, 0, none⟩ : Addr).add 0).add ((10 : Int).toNat * 12)).add 0) (.int .i64 2) <| pLdA 294 ⟨b2, 0, none⟩ fun x3 => pStA 294 ⟨b1, 0, none⟩ x3 <| pLdA 294 ⟨b1, 0, none⟩ fun x4 => K (.agg x4.toArray)
def areg_Begin_ann : Ann := .two (.none) (.two (.none) (.two (.none) (.two (.none) (.none))))
theorem areg_Begin_eq  (KP K : Value → Pr) : vcBody Tryz.prog Tryz.f12 (Tryz.f12.body.getD .skip) areg_Begin_ann [] KP K = areg_Begin  KP K := by kernel_rfl
theorem areg_Begin_call  {KP K : Value → Pr} {h : Heap} (s : areg_Begin  (fgt KP) (fgt K) h) : WpCall Tryz.prog 12 [].toArray KP K h :=
  WpCall.of_vc Tryz.mixed Tryz.func12 (by kernel_rfl) Tryz.call12 areg_Begin_ann (by rw [areg_Begin_eq]; exact s)

/- halberd/halberdref19.Same -/
def ref19_Same_j1 (K : Value → Pr) (x21 : Bool) : Pr :=
  K (.bool x21)
def ref19_Same_l2 (K : Value → Pr) (b1 : Nat) (b2 : Nat) (k5 : Int × Unit → Pr) (x6 : Int) : Pr :=
  pLd .slice ((⟨b1, 0, none⟩ : Addr).add 292) fun (x7 : Sl) => pIf (decide ((x6 : Int) < (x7.len : Int)))
  (pLd .slice ((⟨b1, 0, none⟩ : Addr).add 292) fun (x8 : Sl) => pIdx x6 x8.len <| pSome x8.base fun a9 => pLd (.int .i64) (a9.add ((x6 : Int).toNat * 1)) fun (x10 : Int) => pLd .slice ((⟨b2, 0, none⟩ : Addr).add 292) fun (x11 : Sl) => pIdx x6 x11.len <| pSome x11.base fun a12 => pLd (.int .i64) (a12.add ((x6 : Int).toNat * 1)) fun (x13 : Int) => pIf ((x10 : Int) != x13)
  (K (.bool false))
  (k5 ((IntKind.i64.wrap (x6 + 1)), ())))
  (pJoin (σ := Bool × Unit)
  (fun k14 => pLdA 132 ((⟨b1, 0, none⟩ : Addr).add 0) fun x15 => pLdA 132 ((⟨b2, 0, none⟩ : Addr).add 0) fun x16 => pAssert (okCells [.int .i64, .int .u64, .int .u64, .int .u64, .int .u64, .int .i64, .int .i64, .int .i64, .int .i64, .int .i64, .bool, .int .i64, .int .i64, .int .u64, .int .u64, .int .u64, .int .u64, .int .i64, .int .i64, .int .i64, .int .i64, .int .i64, .bool, .int .i64, .int .i64, .int .u64, .int .u64, .int .u64, .int .u64, .int .i64, .int .i64, .int .i64, .int .i64, .int .i64, .bool, .int .i64, .int .i64, .int .u64, .int .u64, .int .u64, .int .u64, .int .i64, .int .i64, .int .i64, .int .i64, .int .i64, .bool, .int .i64, .int .i64, .int .u64, .int .u64, .int .u64, .int .u64, .int .i64, .int .i64, .int .i64, .int .i64, .int .i64, .bool, .int .i64, .int .i64, .int .u64, .int .u64, .int .u64, .int .u64, .int .i64, .int .i64, .int .i64, .int .i64, .int .i64, .bool, .int .i64, .int .i64, .int .u64, .int .u64, .int .u64, .int .u64, .int .i64, .int .i64, .int .i64, .int .i64, .int .i64, .bool, .int .i64, .int .i64, .int .u64, .int .u64, .int .u64, .int .u64, .int .i64, .int .i64, .int .i64, .int .i64, .int .i64, .bool, .int .i64, .int .i64, .int .u64, .int .u64, .int .u64, .int .u64, .int .i64, .int .i64, .int .i64, .int .i64, .int .i64, .bool, .int .i64, .int .i64, .int .u64, .int .u64, .int .u64, .int .u64, .int .i64, .int .i64, .int .i64, .int .i64, .int .i64, .bool, .int .i64, .int .i64, .int .u64, .int .u64, .int .u64, .int .u64, .int .i64, .int .i64, .int .i64, .int .i64, .int .i64, .bool, .int .i64] x15 = true ∧ okCells [.int .i64, .int .u64, .int .u64, .int .u64, .int .u64, .int .i64, .int .i64, .int .i64, .int .i64, .int .i64, .bool, .int .i64, .int .i64, .int .u64, .int .u64, .int .u64, .int .u64, .int .i64, .int .i64, .int .i64, .int .i64, .int .i64, .bool, .int .i64, .int .i64, .int .u64, .int .u64, .int .u64, .int .u64, .int .i64, .int .i64, .int .i64, .int .i64, .int .i64, .bool, .int .i64, .int .i64, .int .u64, .int .u64, .int .u64, .int .u64, .int .i64, .int .i64, .int .i64, .int .i64, .int .i64, .bool, .int .i64, .int .i64, .int .u64, .int .u64, .int .u64, .int .u64, .int .i64, .int .i64, .int .i64, .int .i64, .int .i64, .bool, .int .i64, .int .i64, .int .u64, .int .u64, .int .u64, .int .u64, .int .i64, .int .i64, .int .i64, .int .i64, .int .i64, .bool, .int .i64, .int .i64, .int .u64, .int .u64, .int .u64, .int .u64, .int .i64, .int .i64, .int .i64, .int .i64, .int .i64, .bool, .int .i64, .int .i64, .int .u64, .int .u64, .int .u64, .int .u64, .int .i64, .int .i64, .int .i64, .int .i64, .int .i64, .bool, .int .i64, .int .i64, .int .u64, .int .u64, .int .u64, .int .u64, .int .i64, .int .i64, .int .i64, .int .i64, .int .i64, .bool, .int .i64, .int .i64, .int .u64, .int .u64, .int .u64, .int .u64, .int .i64, .int .i64, .int .i64, .int .i64, .int .i64, .bool, .int .i64, .int .i64, .int .u64, .int .u64, .int .u64, .int .u64, .int .i64, .int .i64, .int .i64, .int .i64, .int .i64, .bool, .int .i64] x16 = true) <| pIf (eqCells x15 x16)
  (pLdA 160 ((⟨b1, 0, none⟩ : Addr).add 132) fun x17 => pLdA 160 ((⟨b2, 0, none⟩ : Addr).add 132) fun x18 => pAssert (okCells [.int .i64, .int .u64, .int .u64, .int .u64, .int .u64, .int .i64, .int .i64, .int .i64, .int .i64, .int .i64, .bool, .int .i64, .bool, .bool, .bool, .bool, .bool, .bool, .bool, .bool, .int .i64, .int .u64, .int .u64, .int .u64, .int .u64, .int .i64, .int .i64, .int .i64, .int .i64, .int .i64, .bool, .int .i64, .bool, .bool, .bool, .bool, .bool, .bool, .bool, .bool, .int .i64, .int .u64, .int .u64, .int .u64, .int .u64, .int .i64, .int .i64, .int .i64, .int .i64, .int .i64, .bool, .int .i64, .bool, .bool, .bool, .bool, .bool, .bool, .bool, .bool, .int .i64, .int .u64, .int .u64, .int .u64, .int .u64, .int .i64, .int .i64, .int .i64, .int .i64, .int .i64, .bool, .int .i64, .bool, .bool, .bool, .bool, .bool, .bool, .bool, .bool, .int .i64, .int .u64, .int .u64, .int .u64, .int .u64, .int .i64, .int .i64, .int .i64, .int .i64, .int .i64, .bool, .int .i64, .bool, .bool, .bool, .bool, .bool, .bool, .bool, .bool, .int .i64, .int .u64, .int .u64, .int .u64, .int .u64, .int .i64, .int .i64, .int .i64, .int .i64, .int .i64, .bool, .int .i64, .bool, .bool, .bool, .bool, .bool, .bool, .bool, .bool, .int .i64, .int .u64, .int .u64, .int .u64, .int .u64, .int .i64, .int .i64, .int .i64, .int .i64, .int .i64, .bool, .int .i64, .bool, .bool, .bool, .bool, .bool, .bool, .bool, .bool, .int .i64, .int .u64, .int .u64, .int .u64, .int .u64, .int .i64, .int .i64, .int .i64, .int .i64, .int .i64, .bool, .int .i64, .bool, .bool, .bool, .bool, .bool, .bool, .bool, .bool] x17 = true ∧ okCells [.int .i64, .int .u64, .int .u64, .int .u64, .int .u64, .int .i64, .int .i64, .int .i64, .int .i64, .int .i64, .bool, .int .i64, .bool, .bool, .bool, .bool, .bool, .bool, .bool, .bool, .int .i64, .int .u64, .int .u64, .int .u64, .int .u64, .int .i64, .int .i64, .int .i64, .int .i64, .int .i64, .bool, .int .i64, .bool, .bool, .bool, .bool, .bool, .bool, .bool, .bool, .int .i64, .int .u64, .int .u64, .int .u64, .int .u64, .int .i64, .int .i64, .int .i64, .int .i64, .int .i64, .bool, .int .i64, .bool, .bool, .bool, .bool, .bool, .bool, .bool, .bool, .int .i64, .int .u64, .int .u64, .int .u64, .int .u64, .int .i64, .int .i64, .int .i64, .int .i64, .int .i64, .bool, .int .i64, .bool, .bool, .bool, .bool, .bool, .bool, .bool, .bool, .int .i64, .int .u64, .int .u64, .int .u64, .int .u64, .int .i64, .int .i64, .int .i64, .int .i64, .int .i64, .bool, .int .i64, .bool, .bool, .bool, .bool, .bool, .bool, .bool, .bool, .int .i64, .int .u64, .int .u64, .int .u64, .int .u64, .int .i64, .int .i64, .int .i64, .int .i64, .int .i64, .bool, .int .i64, .bool, .bool, .bool, .bool, .bool, .bool, .bool, .bool, .int .i64, .int .u64, .int .u64, .int .u64, .int .u64, .int .i64, .int .i64, .int .i64, .int .i64, .int .i64, .bool, .int .i64, .bool, .bool, .bool, .bool, .bool, .bool, .bool, .bool, .int .i64, .int .u64, .int .u64, .int .u64, .int .u64, .int .i64, .int .i64, .int .i64, .int .i64, .int .i64, .bool, .int .i64, .bool, .bool, .bool, .bool, .bool, .bool, .bool, .bool] x18 = true) <| pIf (eqCells x17 x18)
  (pLd (.int .i64) ((⟨b1, 0, none⟩ : Addr).add 293) fun (x19 : Int) => pLd (.int .i64) ((⟨b2, 0, none⟩ : Addr).add 293) fun (x20 : Int) => k14 (((x19 : Int) == x20), ()))
  (k14 (false, ())))
  (k14 (false, ())))
  (fun s => ref19_Same_j1 K s.1))
def ref19_Same (a_0 : List Value) (b_1 : List Value) (KP K : Value → Pr) : Pr :=
  pNew a_0 fun b1 => pNew b_1 fun b2 => pLd .slice ((⟨b1, 0, none⟩ : Addr).add 292) fun (x3 : Sl) => pLd .slice ((⟨b2, 0, none⟩ : Addr).add 292) fun (x4 : Sl) => pIf (((x3.len : Int) : Int) != (x4.len : Int))
  (K (.bool false))
  (pLoop (σ := Int × Unit) (fun s k5 => ref19_Same_l2 K b1 b2 k5 s.1) (0, ()))
def ref19_Same_ann : Ann := .two (.none) (.two (.two (.none) (.two (.two (.none) (.none)) (.none))) (.two (.two (.none) (.sub (.loop [(5, (.int .i64))] (.two (.two (.none) (.two (.none) (.none))) (.two (.sub (.two (.ord [0, 2, 5, 7, 1, 3, 4, 6, 8, 9, 10]) (.two (.two (.none) (.none)) (.none)))) (.none)))))) (.join (.none) (.none) [(4, .bool)])))
theorem ref19_Same_eq (a_0 : List Value) (b_1 : List Value) (KP K : Value → Pr) : vcBody Tryz.prog Tryz.f13 (Tryz.f13.body.getD .skip) ref19_Same_ann [(.agg a_0.toArray), (.agg b_1.toArray)] KP K = ref19_Same a_0 b_1 KP K := by kernel_rfl
theorem ref19_Same_call (a_0 : List Value) (b_1 : List Value) {KP K : Value → Pr} {h : Heap} (s : ref19_Same a_0 b_1 (fgt KP) (fgt K) h) : WpCall Tryz.prog 13 [(.agg a_0.toArray), (.agg b_1.toArray)].toArray KP K h :=
  WpCall.of_vc Tryz.mixed Tryz.func13 (by kernel_rfl) Tryz.call13 ref19_Same_ann (by rw [ref19_Same_eq]; exact s)

/- halberd/areg.Wide -/
def areg_Wide_j1 (K : Value → Pr) (b4 : Nat) (r6 : Option Addr) : Pr :=
  pSome r6 fun a18 => pLdA 294 (a18.add 0) fun x19 => pStA 294 ⟨b4, 0, none⟩ x19 <| pLdA 294 ⟨b4, 0, none⟩ fun x20 => K (.agg x20.toArray)
def areg_Wide (s_0 : List Value) (i_1 : List Value) (j_2 : List Value) (KP K : Value → Pr) : Pr :=
  pNew s_0 fun b1 => pNew i_1 fun b2 => pNew j_2 fun b3 => pNew (zc Tryz.prog 36) fun b4 => pLdA 294 ⟨b1, 0, none⟩ fun x5 => pCall Tryz.prog 16 [(.agg x5.toArray)] KP (.one .ptr) fun (r6 : Option Addr) => pLdA 5 ⟨b2, 0, none⟩ fun x7 => pLdA 5 ⟨b3, 0, none⟩ fun x8 => pCall Tryz.prog 40 [(.agg x7.toArray), (.agg x8.toArray)] KP (.one (.int .u64)) fun (r9 : Int) => pJoin (σ := Unit)
  (fun k10 => pLd (.int .u8) ((⟨b2, 0, none⟩ : Addr).add 2) fun (x11 : Int) => pIf ((x11 : Int) == 1)
  (pLd (.int .u8) ((⟨b2, 0, none⟩ : Addr).add 1) fun (x12 : Int) => pCall Tryz.prog 21 [(.pointer r6), (.int .u8 x12), (.agg (lay (zc Tryz.prog 28) [(0, (.int .i64 7)), (9, (.int .i64 (IntKind.i64.wrap r9)))]).toArray)] KP (.many []) fun (r13 : Unit) => k10 (()))
  (pLd (.int .u8) ((⟨b2, 0, none⟩ : Addr).add 1) fun (x14 : Int) => pCall Tryz.prog 18 [(.int .u64 r9)] KP (.one .agg) fun (r15 : List Value) => pKeep (loadF Tryz.prog 5 (.pointer (some ((⟨b2, 0, none⟩ : Addr).add 1))) (.int .u8 x14)) <| pCall Tryz.prog 17 [(.agg r15.toArray)] KP (.one .agg) fun (r16 : List Value) => pKeep (loadF Tryz.prog 5 (.pointer (some ((⟨b2, 0, none⟩ : Addr).add 1))) (.int .u8 x14)) <| pCall Tryz.prog 21 [(.pointer r6), (.int .u8 x14), (.agg r16.toArray)] KP (.many []) fun (r17 : Unit) => k10 (())))
  (fun s => areg_Wide_j1 K b4 r6)
def areg_Wide_ann : Ann := .two (.none) (.two (.none) (.two (.none) (.join (.two (.none) (.two (.none) (.ord [0, 1, 3, 2, 4, 5, 6]))) (.two (.none) (.none)) [])))
theorem areg_Wide_eq (s_0 : List Value) (i_1 : List Value) (j_2 : List Value) (KP K : Value → Pr) : vcBody Tryz.prog Tryz.f14 (Tryz.f14.body.getD .skip) areg_Wide_ann [(.agg s_0.toArray), (.agg i_1.toArray), (.agg j_2.toArray)] KP K = areg_Wide s_0 i_1 j_2 KP K := by kernel_rfl
theorem areg_Wide_call (s_0 : List Value) (i_1 : List Value) (j_2 : List Value) {KP K : Value → Pr} {h : Heap} (s : areg_Wide s_0 i_1 j_2 (fgt KP) (fgt K) h) : WpCall Tryz.prog 14 [(.agg s_0.toArray), (.agg i_1.toArray), (.agg j_2.toArray)].toArray KP K h :=
  WpCall.of_vc Tryz.mixed Tryz.func14 (by kernel_rfl) Tryz.call14 areg_Wide_ann (by rw [areg_Wide_eq]; exact s)

/- halberd/halberdlaw19.far -/
def law19_far_j1 (K : Value → Pr) (x7 : Bool) : Pr :=
  K (.bool x7)
def law19_far (a_0 : List Value) (KP K : Value → Pr) : Pr :=
  pNew a_0 fun b1 => pJoin (σ := Bool × Unit)
  (fun k2 => pLd (.int .i64) ((⟨b1, 0, none⟩ : Addr).add 7) fun (x3 : Int) => pIf (decide ((x3 : Int) < (-1000000)))
  (k2 (true, ()))
  (pLd (.int .i64) ((⟨b1, 0, none⟩ : Addr).add 7) fun (x4 : Int) => pIf (decide ((x4 : Int) > 1000000))
  (k2 (true, ()))
  (pLd (.int .i64) ((⟨b1, 0, none⟩ : Addr).add 8) fun (x5 : Int) => pIf (decide ((x5 : Int) < (-1000000)))
  (k2 (true, ()))
  (pLd (.int .i64) ((⟨b1, 0, none⟩ : Addr).add 8) fun (x6 : Int) => k2 ((decide ((x6 : Int) > 1000000)), ())))))
  (fun s => law19_far_j1 K s.1)
def law19_far_ann : Ann := .two (.none) (.join (.none) (.none) [(2, .bool)])
theorem law19_far_eq (a_0 : List Value) (KP K : Value → Pr) : vcBody Tryz.prog Tryz.f15 (Tryz.f15.body.getD .skip) law19_far_ann [(.agg a_0.toArray)] KP K = law19_far a_0 KP K := by kernel_rfl
theorem law19_far_call (a_0 : List Value) {KP K : Value → Pr} {h : Heap} (s : law19_far a_0 (fgt KP) (fgt K) h) : WpCall Tryz.prog 15 [(.agg a_0.toArray)].toArray KP K h :=
  WpCall.of_vc Tryz.mixed Tryz.func15 (by kernel_rfl) Tryz.call15 law19_far_ann (by rw [law19_far_eq]; exact s)

/- halberd/areg.on -/
def areg_on (s_0 : List Value) (KP K : Value → Pr) : Pr :=
  pNew s_0 fun b1 => pLd .slice ((⟨b1, 0, none⟩ : Addr).add 292) fun (x2 : Sl) => pCall Tryz.prog 41 [(.slice x2.base x2.len x2.cap)] KP (.one .slice) fun (r3 : Sl) => pSt ((⟨b1, 0, none⟩ : Addr).add 292) (.slice r3.base r3.len r3.cap) <| pLdA 294 ⟨b1, 0, none⟩ fun x4 => pAssert (x4.length = 294) <| pNew (lay (zc Tryz.prog 65) [(0, (.agg x4.toArray))]) fun b5 => K (.pointer (some ⟨b5, 0, none⟩))
def areg_on_ann : Ann := .two (.none) (.two (.none) (.two (.none) (.none)))
theorem areg_on_eq (s_0 : List Value) (KP K : Value → Pr) : vcBody Tryz.prog Tryz.f16 (Tryz.f16.body.getD .skip) areg_on_ann [(.agg s_0.toArray)] KP K = areg_on s_0 KP K := by kernel_rfl
theorem areg_on_call (s_0 : List Value) {KP K : Value → Pr} {h : Heap} (s : areg_on s_0 (fgt KP) (fgt K) h) : WpCall Tryz.prog 16 [(.agg s_0.toArray)].toArray KP K h :=
  WpCall.of_vc Tryz.mixed Tryz.func16 (by kernel_rfl) Tryz.call16 areg_on_ann (by rw [areg_on_eq]; exact s)

/- halberd/areg.number -/
def areg_number (x_0 : List Value) (KP K : Value → Pr) : Pr :=
  pNew x_0 fun b1 => pNew (zc Tryz.prog 28) fun b2 => pLdA 6 ⟨b1, 0, none⟩ fun x3 => pAssert (x3.length = 6) <| pStA 12 ⟨b2, 0, none⟩ (lay (zc Tryz.prog 28) [(0, (.int .i64 1)), (1, (.agg x3.toArray))]) <| pLdA 12 ⟨b2, 0, none⟩ fun x4 => K (.agg x4.toArray)
def areg_number_ann : Ann := .two (.none) (.two (.none) (.none))
theorem areg_number_eq (x_0 : List Value) (KP K : Value → Pr) : vcBody Tryz.prog Tryz.f17 (Tryz.f17.body.getD .skip) areg_number_ann [(.agg x_0.toArray)] KP K = areg_number x_0 KP K := by kernel_rfl
theorem areg_number_call (x_0 : List Value) {KP K : Value → Pr} {h : Heap} (s : areg_number x_0 (fgt KP) (fgt K) h) : WpCall Tryz.prog 17 [(.agg x_0.toArray)].toArray KP K h :=
  WpCall.of_vc Tryz.mixed Tryz.func17 (by kernel_rfl) Tryz.call17 areg_number_ann (by rw [areg_number_eq]; exact s)

/- halberd/num.Const -/
def num_Const (c_0 : Int) (KP K : Value → Pr) : Pr :=
  pNew (zc Tryz.prog 26) fun b1 => pCall Tryz.prog 42 [(.int .u64 c_0)] KP (.one .agg) fun (r2 : List Value) => pAssert (r2.length = 2) <| pStA 6 ⟨b1, 0, none⟩ (lay (zc Tryz.prog 26) [(0, (.agg r2.toArray)), (2, (.int .u64 c_0)), (3, (.int .u64 c_0)), (4, (.int .i64 (IntKind.i64.wrap c_0))), (5, (.int .i64 (IntKind.i64.wrap c_0)))]) <| pLdA 6 ⟨b1, 0, none⟩ fun x3 => K (.agg x3.toArray)
def num_Const_ann : Ann := .two (.none) (.two (.none) (.none))
theorem num_Const_eq (c_0 : Int) (KP K : Value → Pr) : vcBody Tryz.prog Tryz.f18 (Tryz.f18.body.getD .skip) num_Const_ann [(.int .u64 c_0)] KP K = num_Const c_0 KP K := by kernel_rfl
theorem num_Const_call (c_0 : Int) {KP K : Value → Pr} {h : Heap} (s : num_Const c_0 (fgt KP) (fgt K) h) : WpCall Tryz.prog 18 [(.int .u64 c_0)].toArray KP K h :=
  WpCall.of_vc Tryz.mixed Tryz.func18 (by kernel_rfl) Tryz.call18 num_Const_ann (by rw [num_Const_eq]; exact s)

end Go.Proofs.YtpbhanglcophbaaGreat

set_option linter.unusedVariables false
namespace Go.Proofs.YtpbhanglcophbaaGreat
open Go.Hl
/- (*halberd/areg.work).reg -/
def areg_work_reg (w_0 : Option Addr) (n_1 : Int) (KP K : Value → Pr) : Pr :=
  pNew (zc Tryz.prog 28) fun b1 => pIf (decide (((IntKind.i64.wrap n_1) : Int) ≥ 11))
  (pSome w_0 fun a2 => pSt (a2.add 294) (.bool true) <| pStA 12 ⟨b1, 0, none⟩ (lay (zc Tryz.prog 28) []) <| pLdA 12 ⟨b1, 0, none⟩ fun x3 => K (.agg x3.toArray))
  (pSome w_0 fun a4 => pIdx n_1 11 <| pLdA 12 (((a4.add 0).add 0).add ((n_1 : Int).toNat * 12)) fun x5 => pNew (zc Tryz.prog 28) fun b6 => pStA 12 ⟨b6, 0, none⟩ x5 <| pLd (.int .i64) ((⟨b6, 0, none⟩ : Addr).add 0) fun (x7 : Int) => pCall Tryz.prog 24 [(.pointer w_0), (.bool ((x7 : Int) != 0))] KP (.one .bool) fun (r8 : Bool) => pLdA 12 ⟨b6, 0, none⟩ fun x9 => pStA 12 ⟨b1, 0, none⟩ x9 <| pLdA 12 ⟨b1, 0, none⟩ fun x10 => K (.agg x10.toArray))
def areg_work_reg_ann : Ann := .two (.none) (.two (.two (.none) (.two (.two (.none) (.two (.none) (.none))) (.none))) (.two (.none) (.two (.none) (.two (.none) (.none)))))
theorem areg_work_reg_eq (w_0 : Option Addr) (n_1 : Int) (KP K : Value → Pr) : vcBody Tryz.prog Tryz.f19 (Tryz.f19.body.getD .skip) areg_work_reg_ann [(.pointer w_0), (.int .u8 n_1)] KP K = areg_work_reg w_0 n_1 KP K := by kernel_rfl
theorem areg_work_reg_call (w_0 : Option Addr) (n_1 : Int) {KP K : Value → Pr} {h : Heap} (s : areg_work_reg w_0 n_1 (fgt KP) (fgt K) h) : WpCall Tryz.prog 19 [(.pointer w_0), (.int .u8 n_1)].toArray KP K h :=
  WpCall.of_vc Tryz.mixed Tryz.func19 (by kernel_rfl) Tryz.call19 areg_work_reg_ann (by rw [areg_work_reg_eq]; exact s)

/- (*halberd/areg.work).second -/
def areg_work_second (w_0 : Option Addr) (i_1 : List Value) (KP K : Value → Pr) : Pr :=
  pNew i_1 fun b1 => pNew (zc Tryz.prog 28) fun b2 => pLd (.int .u8) ((⟨b1, 0, none⟩ : Addr).add 0) fun (x3 : Int) => pIf (((bitsV .and .u8 x3 8) : Int) != 0)
  (pLd (.int .u8) ((⟨b1, 0, none⟩ : Addr).add 2) fun (x4 : Int) => pCall Tryz.prog 19 [(.pointer w_0), (.int .u8 x4)] KP (.one .agg) fun (r5 : List Value) => pStA 12 ⟨b2, 0, none⟩ r5 <| pLdA 12 ⟨b2, 0, none⟩ fun x6 => K (.agg x6.toArray))
  (pLd (.int .i32) ((⟨b1, 0, none⟩ : Addr).add 4) fun (x7 : Int) => pCall Tryz.prog 18 [(.int .u64 (IntKind.u64.wrap (IntKind.i64.wrap x7)))] KP (.one .agg) fun (r8 : List Value) => pCall Tryz.prog 17 [(.agg r8.toArray)] KP (.one .agg) fun (r9 : List Value) => pStA 12 ⟨b2, 0, none⟩ r9 <| pLdA 12 ⟨b2, 0, none⟩ fun x10 => K (.agg x10.toArray))
def areg_work_second_ann : Ann := .two (.none) (.two (.two (.none) (.two (.two (.none) (.none)) (.none))) (.two (.none) (.none)))
theorem areg_work_second_eq (w_0 : Option Addr) (i_1 : List Value) (KP K : Value → Pr) : vcBody Tryz.prog Tryz.f20 (Tryz.f20.body.getD .skip) areg_work_second_ann [(.pointer w_0), (.agg i_1.toArray)] KP K = areg_work_second w_0 i_1 KP K := by kernel_rfl
theorem areg_work_second_call (w_0 : Option Addr) (i_1 : List Value) {KP K : Value → Pr} {h : Heap} (s : areg_work_second w_0 i_1 (fgt KP) (fgt K) h) : WpCall Tryz.prog 20 [(.pointer w_0), (.agg i_1.toArray)].toArray KP K h :=
  WpCall.of_vc Tryz.mixed Tryz.func20 (by kernel_rfl) Tryz.call20 areg_work_second_ann (by rw [areg_work_second_eq]; exact s)

/- (*halberd/areg.work).set -/
def areg_work_set (w_0 : Option Addr) (n_1 : Int) (a_2 : List Value) (KP K : Value → Pr) : Pr :=
  pNew a_2 fun b1 => pCall Tryz.prog 24 [(.pointer w_0), (.bool (decide (((IntKind.i64.wrap n_1) : Int) < 11)))] KP (.one .bool) fun (r2 : Bool) => pIf r2
  (pSome w_0 fun a3 => pLdA 12 ⟨b1, 0, none⟩ fun x4 => pIdx n_1 11 <| pStA 12 (((a3.add 0).add 0).add ((n_1 : Int).toNat * 12)) x4 <| K (.tuple [].toArray))
  (K (.tuple [].toArray))
def areg_work_set_ann : Ann := .two (.none) (.two (.none) (.two (.ord [0, 1, 3, 4, 5, 2, 6, 7]) (.none)))
theorem areg_work_set_eq (w_0 : Option Addr) (n_1 : Int) (a_2 : List Value) (KP K : Value → Pr) : vcBody Tryz.prog Tryz.f21 (Tryz.f21.body.getD .skip) areg_work_set_ann [(.pointer w_0), (.int .u8 n_1), (.agg a_2.toArray)] KP K = areg_work_set w_0 n_1 a_2 KP K := by kernel_rfl
theorem areg_work_set_call (w_0 : Option Addr) (n_1 : Int) (a_2 : List Value) {KP K : Value → Pr} {h : Heap} (s : areg_work_set w_0 n_1 a_2 (fgt KP) (fgt K) h) : WpCall Tryz.prog 21 [(.pointer w_0), (.int .u8 n_1), (.agg a_2.toArray)].toArray KP K h :=
  WpCall.of_vc Tryz.mixed Tryz.func21 (by kernel_rfl) Tryz.call21 areg_work_set_ann (by rw [areg_work_set_eq]; exact s)

/- halberd/areg.isPointer -/
def areg_isPointer_j1 (K : Value → Pr) (x5 : Bool) : Pr :=
  K (.bool x5)
def areg_isPointer (a_0 : List Value) (KP K : Value → Pr) : Pr :=
  pNew a_0 fun b1 => pJoin (σ := Bool × Unit)
  (fun k2 => pLd (.int .i64) ((⟨b1, 0, none⟩ : Addr).add 0) fun (x3 : Int) => pIf (decide ((x3 : Int) ≥ 2))
  (pLd (.int .i64) ((⟨b1, 0, none⟩ : Addr).add 0) fun (x4 : Int) => k2 ((decide ((x4 : Int) ≤ 6)), ()))
  (k2 (false, ())))
  (fun s => areg_isPointer_j1 K s.1)
def areg_isPointer_ann : Ann := .two (.none) (.join (.none) (.none) [(2, .bool)])
theorem areg_isPointer_eq (a_0 : List Value) (KP K : Value → Pr) : vcBody Tryz.prog Tryz.f22 (Tryz.f22.body.getD .skip) areg_isPointer_ann [(.agg a_0.toArray)] KP K = areg_isPointer a_0 KP K := by kernel_rfl
theorem areg_isPointer_call (a_0 : List Value) {KP K : Value → Pr} {h : Heap} (s : areg_isPointer a_0 (fgt KP) (fgt K) h) : WpCall Tryz.prog 22 [(.agg a_0.toArray)].toArray KP K h :=
  WpCall.of_vc Tryz.mixed Tryz.func22 (by kernel_rfl) Tryz.call22 areg_isPointer_ann (by rw [areg_isPointer_eq]; exact s)

/- (*halberd/areg.work).moved -/
def areg_work_moved_j1 (b1 : Nat) (k10 : Unit → Pr) (x14 : Int) : Pr :=
  pLd (.int .i64) ((⟨b1, 0, none⟩ : Addr).add 7) fun (x15 : Int) => pLd (.int .i64) ((⟨b1, 0, none⟩ : Addr).add 8) fun (x16 : Int) => pSt ((⟨b1, 0, none⟩ : Addr).add 7) (.int .i64 (IntKind.i64.wrap (x15 + x14))) <| pSt ((⟨b1, 0, none⟩ : Addr).add 8) (.int .i64 (IntKind.i64.wrap (x16 + x14))) <| k10 (())
def areg_work_moved_j2 (w_0 : Option Addr) (b1 : Nat) (b2 : Nat) (k10 : Unit → Pr) (x21 : Bool) : Pr :=
  pIf x21
  (pLd (.int .i64) ((⟨b1, 0, none⟩ : Addr).add 7) fun (x22 : Int) => pLd (.int .u64) ((⟨b2, 0, none⟩ : Addr).add 2) fun (x23 : Int) => pLd (.int .i64) ((⟨b1, 0, none⟩ : Addr).add 8) fun (x24 : Int) => pLd (.int .u64) ((⟨b2, 0, none⟩ : Addr).add 3) fun (x25 : Int) => pSt ((⟨b1, 0, none⟩ : Addr).add 7) (.int .i64 (IntKind.i64.wrap (x22 + (IntKind.i64.wrap x23)))) <| pKeep (loadF Tryz.prog 22 (.pointer (some ((⟨b2, 0, none⟩ : Addr).add 3))) (.int .u64 x25)) <| pSt ((⟨b1, 0, none⟩ : Addr).add 8) (.int .i64 (IntKind.i64.wrap (x24 + (IntKind.i64.wrap x25)))) <| k10 (()))
  (pSome w_0 fun a26 => pSt (a26.add 294) (.bool true) <| k10 (()))
def areg_work_moved_j3 (w_0 : Option Addr) (op_1 : Int) (b1 : Nat) (b2 : Nat) (r9 : Int × Bool × Unit) (k10 : Unit → Pr) (x12 : Bool) : Pr :=
  pIf x12
  (pJoin (σ := Int × Unit)
  (fun k13 => pIf ((op_1 : Int) == 16)
  (k13 ((IntKind.i64.wrap (0 - (IntKind.i64.wrap r9.1))), ()))
  (k13 ((IntKind.i64.wrap r9.1), ())))
  (fun s => areg_work_moved_j1 b1 k10 s.1))
  (pJoin (σ := Bool × Unit)
  (fun k17 => pIf (!r9.2.1)
  (pIf ((op_1 : Int) == 0)
  (pLd (.int .i64) ((⟨b1, 0, none⟩ : Addr).add 0) fun (x18 : Int) => pIf (decide ((x18 : Int) ≥ 5))
  (pLd (.int .u64) ((⟨b2, 0, none⟩ : Addr).add 3) fun (x19 : Int) => pIf (decide ((x19 : Int) ≤ 4096))
  (pLd (.int .u64) ((⟨b2, 0, none⟩ : Addr).add 2) fun (x20 : Int) => k17 ((decide ((x20 : Int) ≤ 8192)), ()))
  (k17 (false, ())))
  (k17 (false, ())))
  (k17 (false, ())))
  (k17 (false, ())))
  (fun s => areg_work_moved_j2 w_0 b1 b2 k10 s.1))
def areg_work_moved_j4 (K : Value → Pr) (b1 : Nat) (b3 : Nat) : Pr :=
  pLdA 12 ⟨b1, 0, none⟩ fun x34 => pStA 12 ⟨b3, 0, none⟩ x34 <| pLdA 12 ⟨b3, 0, none⟩ fun x35 => K (.agg x35.toArray)
def areg_work_moved_j5 (w_0 : Option Addr) (KP : Value → Pr) (K : Value → Pr) (b1 : Nat) (b3 : Nat) : Pr :=
  pJoin (σ := Unit)
  (fun k27 => pLd (.int .i64) ((⟨b1, 0, none⟩ : Addr).add 7) fun (x28 : Int) => pCall Tryz.prog 28 [(.int .i64 x28)] KP (.one .bool) fun (r29 : Bool) => pIf r29
  (pLd (.int .i64) ((⟨b1, 0, none⟩ : Addr).add 8) fun (x30 : Int) => pCall Tryz.prog 28 [(.int .i64 x30)] KP (.one .bool) fun (r31 : Bool) => pCall Tryz.prog 24 [(.pointer w_0), (.bool r31)] KP (.one .bool) fun (r32 : Bool) => k27 (()))
  (pCall Tryz.prog 24 [(.pointer w_0), (.bool false)] KP (.one .bool) fun (r33 : Bool) => k27 (())))
  (fun s => areg_work_moved_j4 K b1 b3)
def areg_work_moved (w_0 : Option Addr) (op_1 : Int) (a_2 : List Value) (b_3 : List Value) (KP K : Value → Pr) : Pr :=
  pNew a_2 fun b1 => pNew b_3 fun b2 => pNew (zc Tryz.prog 28) fun b3 => pLd .bool ((⟨b1, 0, none⟩ : Addr).add 10) fun (x4 : Bool) => pCall Tryz.prog 24 [(.pointer w_0), (.bool (!x4))] KP (.one .bool) fun (r5 : Bool) => pIf (!r5)
  (pLdA 12 ⟨b1, 0, none⟩ fun x6 => pStA 12 ⟨b3, 0, none⟩ x6 <| pLdA 12 ⟨b3, 0, none⟩ fun x7 => K (.agg x7.toArray))
  (pLdA 6 ⟨b2, 0, none⟩ fun x8 => pCall Tryz.prog 43 [(.agg x8.toArray)] KP (.many [(.int .u64), .bool]) fun (r9 : Int × Bool × Unit) => pJoin (σ := Unit)
  (fun k10 => pJoin (σ := Bool × Unit)
  (fun k11 => pIf r9.2.1
  (pIf (decide (((IntKind.i64.wrap r9.1) : Int) ≥ (-4096)))
  (k11 ((decide (((IntKind.i64.wrap r9.1) : Int) ≤ 4096)), ()))
  (k11 (false, ())))
  (k11 (false, ())))
  (fun s => areg_work_moved_j3 w_0 op_1 b1 b2 r9 k10 s.1))
  (fun s => areg_work_moved_j5 w_0 KP K b1 b3))
def areg_work_moved_ann : Ann := .two (.none) (.two (.two (.none) (.two (.two (.none) (.none)) (.none))) (.two (.none) (.join (.two (.none) (.sub (.join (.none) (.two (.join (.two (.none) (.two (.none) (.none))) (.none) [(11, (.int .i64))]) (.join (.none) (.two (.ord [0, 2, 6, 8, 1, 3, 4, 5, 7, 12, 9, 10, 11, 13, 14, 15]) (.none)) [(53, .bool)])) [(29, .bool)]))) (.join (.none) (.two (.none) (.none)) []) [])))
theorem areg_work_moved_eq (w_0 : Option Addr) (op_1 : Int) (a_2 : List Value) (b_3 : List Value) (KP K : Value → Pr) : vcBody Tryz.prog Tryz.f23 (Tryz.f23.body.getD .skip) areg_work_moved_ann [(.pointer w_0), (.int .u8 op_1), (.agg a_2.toArray), (.agg b_3.toArray)] KP K = areg_work_moved w_0 op_1 a_2 b_3 KP K := by kernel_rfl
theorem areg_work_moved_call (w_0 : Option Addr) (op_1 : Int) (a_2 : List Value) (b_3 : List Value) {KP K : Value → Pr} {h : Heap} (s : areg_work_moved w_0 op_1 a_2 b_3 (fgt KP) (fgt K) h) : WpCall Tryz.prog 23 [(.pointer w_0), (.int .u8 op_1), (.agg a_2.toArray), (.agg b_3.toArray)].toArray KP K h :=
  WpCall.of_vc Tryz.mixed Tryz.func23 (by kernel_rfl) Tryz.call23 areg_work_moved_ann (by rw [areg_work_moved_eq]; exact s)

/- (*halberd/areg.work).need -/
def areg_work_need_j1 (ok_1 : Bool) (K : Value → Pr) : Pr :=
  K (.bool ok_1)
def areg_work_need (w_0 : Option Addr) (ok_1 : Bool) (KP K : Value → Pr) : Pr :=
  pJoin (σ := Unit)
  (fun k1 => pSome w_0 fun a2 => pLd .bool (a2.add 294) fun (x3 : Bool) => pIf x3
  (pSome w_0 fun a4 => pSt (a4.add 294) (.bool true) <| k1 (()))
  (pSome w_0 fun a5 => pSt (a5.add 294) (.bool (!ok_1)) <| k1 (())))
  (fun s => areg_work_need_j1 ok_1 K)
def areg_work_need_ann : Ann := .two (.none) (.join (.none) (.two (.none) (.none)) [])
theorem areg_work_need_eq (w_0 : Option Addr) (ok_1 : Bool) (KP K : Value → Pr) : vcBody Tryz.prog Tryz.f24 (Tryz.f24.body.getD .skip) areg_work_need_ann [(.pointer w_0), (.bool ok_1)] KP K = areg_work_need w_0 ok_1 KP K := by kernel_rfl
theorem areg_work_need_call (w_0 : Option Addr) (ok_1 : Bool) {KP K : Value → Pr} {h : Heap} (s : areg_work_need w_0 ok_1 (fgt KP) (fgt K) h) : WpCall Tryz.prog 24 [(.pointer w_0), (.bool ok_1)].toArray KP K h :=
  WpCall.of_vc Tryz.mixed Tryz.func24 (by kernel_rfl) Tryz.call24 areg_work_need_ann (by rw [areg_work_need_eq]; exact s)

/- halberd/xfer.Do -/
def xfer_Do_j1 (K : Value → Pr) (b3 : Nat) (b39 : Nat) : Pr :=
  pLdA 6 ⟨b39, 0, none⟩ fun x43 => pStA 6 ⟨b3, 0, none⟩ x43 <| pLdA 6 ⟨b3, 0, none⟩ fun x44 => K (.tuple [(.agg x44.toArray), (.bool true)].toArray)
def xfer_Do_j2 (wide_1 : Bool) (KP : Value → Pr) (K : Value → Pr) (b3 : Nat) (x5 : Value) (b21 : Nat) : Pr :=
  pCallV Tryz.prog x5 [(.pointer (some ⟨b21, 0, none⟩))] KP (.many []) fun (r35 : Unit) => pSome (some ⟨b21, 0, none⟩) fun a36 => pLdA 6 (a36.add 15) fun x37 => pCall Tryz.prog 48 [(.agg x37.toArray)] KP (.many [.agg, .bool]) fun (r38 : (List Value) × Bool × Unit) => pNew (zc Tryz.prog 26) fun b39 => pStA 6 ⟨b39, 0, none⟩ r38.1 <| pJoin (σ := Unit)
  (fun k40 => pIf (!wide_1)
  (pLdA 6 ⟨b39, 0, none⟩ fun x41 => pCall Tryz.prog 47 [(.agg x41.toArray), (.int .i64 4)] KP (.one .agg) fun (r42 : List Value) => pStA 6 ⟨b39, 0, none⟩ r42 <| k40 (()))
  (k40 (())))
  (fun s => xfer_Do_j1 K b3 b39)
def xfer_Do_j3 (op_0 : Int) (wide_1 : Bool) (KP : Value → Pr) (K : Value → Pr) (b1 : Nat) (b2 : Nat) (b3 : Nat) (x5 : Value) (r10 : Int × Bool × Unit) (r12 : Int × Bool × Unit) (x14 : Bool) : Pr :=
  pIf x14
  (pCall Tryz.prog 46 [(.int .u8 op_0), (.bool wide_1), (.int .u64 r10.1), (.int .u64 r12.1)] KP (.many [(.int .u64), .bool]) fun (r15 : Int × Bool × Unit) => pCall Tryz.prog 18 [(.int .u64 r15.1)] KP (.one .agg) fun (r16 : List Value) => pStA 6 ⟨b3, 0, none⟩ r16 <| pLdA 6 ⟨b3, 0, none⟩ fun x17 => K (.tuple [(.agg x17.toArray), (.bool true)].toArray))
  (pLdA 6 ⟨b1, 0, none⟩ fun x18 => pLdA 6 ⟨b2, 0, none⟩ fun x19 => pCall Tryz.prog 45 [] KP (.one .agg) fun (r20 : List Value) => pKeep (loadF Tryz.prog 26 (.pointer (some ⟨b2, 0, none⟩)) (.agg x19.toArray)) <| pKeep (loadF Tryz.prog 26 (.pointer (some ⟨b1, 0, none⟩)) (.agg x18.toArray)) <| pAssert (x18.length = 6) <| pAssert (x19.length = 6) <| pAssert (r20.length = 6) <| pNew (lay (zc Tryz.prog 107) [(0, (.agg x18.toArray)), (6, (.agg x19.toArray)), (12, (.int .u64 r12.1)), (13, (.bool r12.2.1)), (14, (.int .u64 64)), (15, (.agg r20.toArray))]) fun b21 => pJoin (σ := Unit)
  (fun k22 => pIf (!wide_1)
  (pLdA 6 ⟨b1, 0, none⟩ fun x23 => pLdA 6 ⟨b2, 0, none⟩ fun x24 => pCall Tryz.prog 47 [(.agg x23.toArray), (.int .i64 4)] KP (.one .agg) fun (r25 : List Value) => pKeep (loadF Tryz.prog 26 (.pointer (some ⟨b2, 0, none⟩)) (.agg x24.toArray)) <| pCall Tryz.prog 47 [(.agg x24.toArray), (.int .i64 4)] KP (.one .agg) fun (r26 : List Value) => pSome (some ⟨b21, 0, none⟩) fun a27 => pStA 6 (a27.add 0) r25 <| pSome (some ⟨b21, 0, none⟩) fun a28 => pStA 6 (a28.add 6) r26 <| pSome (some ⟨b21, 0, none⟩) fun a29 => pSt (a29.add 14) (.int .u64 32) <| pSome (some ⟨b21, 0, none⟩) fun a30 => pLdA 6 (a30.add 6) fun x31 => pCall Tryz.prog 43 [(.agg x31.toArray)] KP (.many [(.int .u64), .bool]) fun (r32 : Int × Bool × Unit) => pSome (some ⟨b21, 0, none⟩) fun a33 => pSt (a33.add 12) (.int .u64 r32.1) <| pSome (some ⟨b21, 0, none⟩) fun a34 => pSt (a34.add 13) (.bool r32.2.1) <| k22 (()))
  (k22 (())))
  (fun s => xfer_Do_j2 wide_1 KP K b3 x5 b21))
def xfer_Do (op_0 : Int) (wide_1 : Bool) (a_2 : List Value) (b_3 : List Value) (KP K : Value → Pr) : Pr :=
  pNew a_2 fun b1 => pNew b_3 fun b2 => pNew (zc Tryz.prog 26) fun b3 => pCall Tryz.prog 44 [] KP (.one .map) fun (r4 : Option Nat) => pGetS (.int .u8) r4 (.int .u8 op_0) .any .nilFunc fun (x5 : Value) (b6 : Bool) => pIf (!b6)
  (pCall Tryz.prog 45 [] KP (.one .agg) fun (r7 : List Value) => pStA 6 ⟨b3, 0, none⟩ r7 <| pLdA 6 ⟨b3, 0, none⟩ fun x8 => K (.tuple [(.agg x8.toArray), (.bool false)].toArray))
  (pLdA 6 ⟨b1, 0, none⟩ fun x9 => pCall Tryz.prog 43 [(.agg x9.toArray)] KP (.many [(.int .u64), .bool]) fun (r10 : Int × Bool × Unit) => pLdA 6 ⟨b2, 0, none⟩ fun x11 => pCall Tryz.prog 43 [(.agg x11.toArray)] KP (.many [(.int .u64), .bool]) fun (r12 : Int × Bool × Unit) => pJoin (σ := Bool × Unit)
  (fun k13 => pIf r10.2.1
  (k13 (r12.2.1, ()))
  (k13 (false, ())))
  (fun s => xfer_Do_j3 op_0 wide_1 KP K b1 b2 b3 x5 r10 r12 s.1))
def xfer_Do_ann : Ann := .two (.none) (.two (.none) (.two (.two (.none) (.two (.two (.none) (.none)) (.none))) (.two (.none) (.two (.none) (.two (.join (.none) (.two (.two (.none) (.two (.none) (.none))) (.none)) [(43, .bool)]) (.two (.ord [2, 3, 0, 1, 4, 5, 6, 7]) (.join (.two (.none) (.two (.two (.ord [0, 1, 2, 3, 5, 4, 6, 7, 8, 9, 10, 11, 12, 13, 14, 15]) (.none)) (.none))) (.two (.none) (.two (.none) (.join (.two (.none) (.two (.none) (.none))) (.two (.none) (.none)) []))) [])))))))
theorem xfer_Do_eq (op_0 : Int) (wide_1 : Bool) (a_2 : List Value) (b_3 : List Value) (KP K : Value → Pr) : vcBody Tryz.prog Tryz.f25 (Tryz.f25.body.getD .skip) xfer_Do_ann [(.int .u8 op_0), (.bool wide_1), (.agg a_2.toArray), (.agg b_3.toArray)] KP K = xfer_Do op_0 wide_1 a_2 b_3 KP K := by kernel_rfl
theorem xfer_Do_call (op_0 : Int) (wide_1 : Bool) (a_2 : List Value) (b_3 : List Value) {KP K : Value → Pr} {h : Heap} (s : xfer_Do op_0 wide_1 a_2 b_3 (fgt KP) (fgt K) h) : WpCall Tryz.prog 25 [(.int .u8 op_0), (.bool wide_1), (.agg a_2.toArray), (.agg b_3.toArray)].toArray KP K h :=
  WpCall.of_vc Tryz.mixed Tryz.func25 (by kernel_rfl) Tryz.call25 xfer_Do_ann (by rw [xfer_Do_eq]; exact s)

/- (*halberd/areg.work).told -/
def areg_work_told (w_0 : Option Addr) (KP K : Value → Pr) : Pr :=
  pNew (zc Tryz.prog 36) fun b1 => pSome w_0 fun a2 => pLd .bool (a2.add 294) fun (x3 : Bool) => pIf x3
  (pStA 294 ⟨b1, 0, none⟩ (lay (zc Tryz.prog 36) []) <| pLdA 294 ⟨b1, 0, none⟩ fun x4 => K (.tuple [(.agg x4.toArray), (.bool false)].toArray))
  (pSome w_0 fun a5 => pLdA 294 (a5.add 0) fun x6 => pStA 294 ⟨b1, 0, none⟩ x6 <| pLdA 294 ⟨b1, 0, none⟩ fun x7 => K (.tuple [(.agg x7.toArray), (.bool true)].toArray))
def areg_work_told_ann : Ann := .two (.none) (.two (.two (.none) (.two (.two (.none) (.none)) (.none))) (.two (.none) (.none)))
theorem areg_work_told_eq (w_0 : Option Addr) (KP K : Value → Pr) : vcBody Tryz.prog Tryz.f26 (Tryz.f26.body.getD .skip) areg_work_told_ann [(.pointer w_0)] KP K = areg_work_told w_0 KP K := by kernel_rfl
theorem areg_work_told_call (w_0 : Option Addr) {KP K : Value → Pr} {h : Heap} (s : areg_work_told w_0 (fgt KP) (fgt K) h) : WpCall Tryz.prog 26 [(.pointer w_0)].toArray KP K h :=
  WpCall.of_vc Tryz.mixed Tryz.func26 (by kernel_rfl) Tryz.call26 areg_work_told_ann (by rw [areg_work_told_eq]; exact s)

end Go.Proofs.YtpbhanglcophbaaGreat

set_option linter.unusedVariables false
namespace Go.Proofs.YtpbhanglcophbaaGreat
open Go.Hl
/- halberd/areg.size -/
def areg_size (i_0 : List Value) (KP K : Value → Pr) : Pr :=
  pNew i_0 fun b1 => pLd (.int .u8) ((⟨b1, 0, none⟩ : Addr).add 0) fun (x2 : Int) => pCall Tryz.prog 49 [(.int .u8 x2)] KP (.one (.int .i64)) fun (r3 : Int) => K (.int .i64 r3)
def areg_size_ann : Ann := .two (.none) (.two (.none) (.none))
theorem areg_size_eq (i_0 : List Value) (KP K : Value → Pr) : vcBody Tryz.prog Tryz.f27 (Tryz.f27.body.getD .skip) areg_size_ann [(.agg i_0.toArray)] KP K = areg_size i_0 KP K := by kernel_rfl
theorem areg_size_call (i_0 : List Value) {KP K : Value → Pr} {h : Heap} (s : areg_size i_0 (fgt KP) (fgt K) h) : WpCall Tryz.prog 27 [(.agg i_0.toArray)].toArray KP K h :=
  WpCall.of_vc Tryz.mixed Tryz.func27 (by kernel_rfl) Tryz.call27 areg_size_ann (by rw [areg_size_eq]; exact s)

/- halberd/areg.inBounds -/
def areg_inBounds_j1 (K : Value → Pr) (x2 : Bool) : Pr :=
  K (.bool x2)
def areg_inBounds (n_0 : Int) (KP K : Value → Pr) : Pr :=
  pJoin (σ := Bool × Unit)
  (fun k1 => pIf (decide ((n_0 : Int) ≥ (-4096)))
  (k1 ((decide ((n_0 : Int) ≤ 4096)), ()))
  (k1 (false, ())))
  (fun s => areg_inBounds_j1 K s.1)
def areg_inBounds_ann : Ann := .two (.none) (.join (.none) (.none) [(2, .bool)])
theorem areg_inBounds_eq (n_0 : Int) (KP K : Value → Pr) : vcBody Tryz.prog Tryz.f28 (Tryz.f28.body.getD .skip) areg_inBounds_ann [(.int .i64 n_0)] KP K = areg_inBounds n_0 KP K := by kernel_rfl
theorem areg_inBounds_call (n_0 : Int) {KP K : Value → Pr} {h : Heap} (s : areg_inBounds n_0 (fgt KP) (fgt K) h) : WpCall Tryz.prog 28 [(.int .i64 n_0)].toArray KP K h :=
  WpCall.of_vc Tryz.mixed Tryz.func28 (by kernel_rfl) Tryz.call28 areg_inBounds_ann (by rw [areg_inBounds_eq]; exact s)

/- halberd/areg.ofBytes -/
def areg_ofBytes (n_0 : Int) (KP K : Value → Pr) : Pr :=
  pNew (zc Tryz.prog 28) fun b1 => pIf (decide ((n_0 : Int) ≥ 8))
  (pCall Tryz.prog 45 [] KP (.one .agg) fun (r2 : List Value) => pCall Tryz.prog 17 [(.agg r2.toArray)] KP (.one .agg) fun (r3 : List Value) => pStA 12 ⟨b1, 0, none⟩ r3 <| pLdA 12 ⟨b1, 0, none⟩ fun x4 => K (.agg x4.toArray))
  (pAssert (0 ≤ ((IntKind.i64.wrap (8 * n_0)) : Int)) <| pCall Tryz.prog 50 [(.int .u64 (IntKind.u64.wrap ((IntKind.u64.wrap (1 * 2 ^ (min ((IntKind.i64.wrap (8 * n_0)) : Int).toNat (IntKind.u64).bits))) - 1)))] KP (.one .agg) fun (r5 : List Value) => pStA 12 ⟨b1, 0, none⟩ r5 <| pLdA 12 ⟨b1, 0, none⟩ fun x6 => K (.agg x6.toArray))
def areg_ofBytes_ann : Ann := .two (.none) (.two (.two (.none) (.two (.two (.none) (.none)) (.none))) (.two (.none) (.none)))
theorem areg_ofBytes_eq (n_0 : Int) (KP K : Value → Pr) : vcBody Tryz.prog Tryz.f29 (Tryz.f29.body.getD .skip) areg_ofBytes_ann [(.int .i64 n_0)] KP K = areg_ofBytes n_0 KP K := by kernel_rfl
theorem areg_ofBytes_call (n_0 : Int) {KP K : Value → Pr} {h : Heap} (s : areg_ofBytes n_0 (fgt KP) (fgt K) h) : WpCall Tryz.prog 29 [(.int .i64 n_0)].toArray KP K h :=
  WpCall.of_vc Tryz.mixed Tryz.func29 (by kernel_rfl) Tryz.call29 areg_ofBytes_ann (by rw [areg_ofBytes_eq]; exact s)

/- (*halberd/areg.work).loadStack -/
def areg_work_loadStack_j1 (w_0 : Option Addr) (n_2 : Int) (KP : Value → Pr) (K : Value → Pr) (b1 : Nat) (r2 : Int) (b8 : Nat) (x11 : Bool) : Pr :=
  pIf x11
  (pLdA 12 ((⟨b8, 0, none⟩ : Addr).add 0) fun x12 => pStA 12 ⟨b1, 0, none⟩ x12 <| pLdA 12 ⟨b1, 0, none⟩ fun x13 => K (.agg x13.toArray))
  (pCall Tryz.prog 52 [(.pointer w_0), (.int .i64 r2), (.int .i64 n_2)] KP (.one .bool) fun (r14 : Bool) => pCall Tryz.prog 24 [(.pointer w_0), (.bool r14)] KP (.one .bool) fun (r15 : Bool) => pCall Tryz.prog 29 [(.int .i64 n_2)] KP (.one .agg) fun (r16 : List Value) => pStA 12 ⟨b1, 0, none⟩ r16 <| pLdA 12 ⟨b1, 0, none⟩ fun x17 => K (.agg x17.toArray))
def areg_work_loadStack (w_0 : Option Addr) (off_1 : Int) (n_2 : Int) (KP K : Value → Pr) : Pr :=
  pNew (zc Tryz.prog 28) fun b1 => pCall Tryz.prog 51 [(.pointer w_0), (.int .i64 off_1), (.int .i64 n_2)] KP (.one (.int .i64)) fun (r2 : Int) => pSome w_0 fun a3 => pLd .bool (a3.add 294) fun (x4 : Bool) => pIf x4
  (pStA 12 ⟨b1, 0, none⟩ (lay (zc Tryz.prog 28) []) <| pLdA 12 ⟨b1, 0, none⟩ fun x5 => K (.agg x5.toArray))
  (pAssert ((8 : Int) ≠ 0) <| pSome w_0 fun a6 => pIdx (IntKind.i64.wrap ((r2 : Int).tdiv 8)) 8 <| pLdA 20 (((a6.add 0).add 132).add (((IntKind.i64.wrap ((r2 : Int).tdiv 8)) : Int).toNat * 20)) fun x7 => pNew (zc Tryz.prog 32) fun b8 => pStA 20 ⟨b8, 0, none⟩ x7 <| pJoin (σ := Bool × Unit)
  (fun k9 => pIf ((n_2 : Int) == 8)
  (pAssert ((8 : Int) ≠ 0) <| pIf ((((r2 : Int).tmod 8) : Int) == 0)
  (pLd (.int .i64) (((⟨b8, 0, none⟩ : Addr).add 0).add 0) fun (x10 : Int) => k9 (((x10 : Int) != 0), ()))
  (k9 (false, ())))
  (k9 (false, ())))
  (fun s => areg_work_loadStack_j1 w_0 n_2 KP K b1 r2 b8 s.1))
def areg_work_loadStack_ann : Ann := .two (.none) (.two (.none) (.two (.two (.none) (.two (.two (.none) (.none)) (.none))) (.two (.two (.none) (.join (.none) (.two (.two (.none) (.none)) (.none)) [(38, .bool)])) (.two (.none) (.two (.none) (.none))))))
theorem areg_work_loadStack_eq (w_0 : Option Addr) (off_1 : Int) (n_2 : Int) (KP K : Value → Pr) : vcBody Tryz.prog Tryz.f30 (Tryz.f30.body.getD .skip) areg_work_loadStack_ann [(.pointer w_0), (.int .i64 off_1), (.int .i64 n_2)] KP K = areg_work_loadStack w_0 off_1 n_2 KP K := by kernel_rfl
theorem areg_work_loadStack_call (w_0 : Option Addr) (off_1 : Int) (n_2 : Int) {KP K : Value → Pr} {h : Heap} (s : areg_work_loadStack w_0 off_1 n_2 (fgt KP) (fgt K) h) : WpCall Tryz.prog 30 [(.pointer w_0), (.int .i64 off_1), (.int .i64 n_2)].toArray KP K h :=
  WpCall.of_vc Tryz.mixed Tryz.func30 (by kernel_rfl) Tryz.call30 areg_work_loadStack_ann (by rw [areg_work_loadStack_eq]; exact s)

/- (*halberd/areg.work).word -/
def areg_work_word_j1 (w_0 : Option Addr) (K : Value → Pr) (b1 : Nat) (b14 : Nat) : Pr :=
  pSome w_0 fun a16 => pLd (.int .i64) ((a16.add 0).add 293) fun (x17 : Int) => pSome w_0 fun a18 => pSt ((a18.add 0).add 293) (.int .i64 (IntKind.i64.wrap (x17 + 1))) <| pLdA 12 ⟨b14, 0, none⟩ fun x19 => pStA 12 ⟨b1, 0, none⟩ x19 <| pLdA 12 ⟨b1, 0, none⟩ fun x20 => K (.agg x20.toArray)
def areg_work_word_j2 (w_0 : Option Addr) (KP : Value → Pr) (K : Value → Pr) (b1 : Nat) (r2 : Int × Bool × Unit) (x8 : Bool) : Pr :=
  pIf x8
  (pStA 12 ⟨b1, 0, none⟩ (lay (zc Tryz.prog 28) []) <| pLdA 12 ⟨b1, 0, none⟩ fun x9 => K (.agg x9.toArray))
  (pIf ((r2.1 : Int) == 0)
  (pCall Tryz.prog 29 [(.int .i64 8)] KP (.one .agg) fun (r10 : List Value) => pStA 12 ⟨b1, 0, none⟩ r10 <| pLdA 12 ⟨b1, 0, none⟩ fun x11 => K (.agg x11.toArray))
  (pSome w_0 fun a12 => pLd (.int .i64) ((a12.add 0).add 293) fun (x13 : Int) => pNew (zc Tryz.prog 28) fun b14 => pStA 12 ⟨b14, 0, none⟩ (lay (zc Tryz.prog 28) [(0, (.int .i64 4)), (9, (.int .i64 1)), (10, (.bool (((bitsV .and .u8 r2.1 4) : Int) != 0))), (11, (.int .i64 x13))]) <| pJoin (σ := Unit)
  (fun k15 => pIf (((bitsV .andNot .u8 r2.1 4) : Int) == 2)
  (pSt ((⟨b14, 0, none⟩ : Addr).add 9) (.int .i64 2) <| k15 (()))
  (k15 (())))
  (fun s => areg_work_word_j1 w_0 K b1 b14)))
def areg_work_word (w_0 : Option Addr) (off_1 : Int) (n_2 : Int) (hook_3 : Int) (KP K : Value → Pr) : Pr :=
  pNew (zc Tryz.prog 28) fun b1 => pAssert ((8 : Int) ≠ 0) <| pCall Tryz.prog 53 [(.int .i64 hook_3), (.int .i64 (IntKind.i64.wrap ((off_1 : Int).tdiv 8)))] KP (.many [(.int .u8), .bool]) fun (r2 : Int × Bool × Unit) => pJoin (σ := Bool × Unit)
  (fun k3 => pIf r2.2.1
  (pIf ((n_2 : Int) == 8)
  (pIf (decide ((off_1 : Int) ≥ 0))
  (pAssert ((8 : Int) ≠ 0) <| pCall Tryz.prog 24 [(.pointer w_0), (.bool ((((off_1 : Int).tmod 8) : Int) == 0))] KP (.one .bool) fun (r4 : Bool) => k3 ((!r4), ()))
  (pCall Tryz.prog 24 [(.pointer w_0), (.bool false)] KP (.one .bool) fun (r5 : Bool) => k3 ((!r5), ())))
  (pCall Tryz.prog 24 [(.pointer w_0), (.bool false)] KP (.one .bool) fun (r6 : Bool) => k3 ((!r6), ())))
  (pCall Tryz.prog 24 [(.pointer w_0), (.bool false)] KP (.one .bool) fun (r7 : Bool) => k3 ((!r7), ())))
  (fun s => areg_work_word_j2 w_0 KP K b1 r2 s.1)
def areg_work_word_ann : Ann := .two (.none) (.two (.none) (.two (.join (.none) (.two (.two (.none) (.none)) (.none)) [(35, .bool)]) (.two (.two (.none) (.two (.two (.none) (.none)) (.none))) (.two (.none) (.join (.two (.none) (.two (.none) (.none))) (.two (.none) (.two (.none) (.none))) [])))))
theorem areg_work_word_eq (w_0 : Option Addr) (off_1 : Int) (n_2 : Int) (hook_3 : Int) (KP K : Value → Pr) : vcBody Tryz.prog Tryz.f31 (Tryz.f31.body.getD .skip) areg_work_word_ann [(.pointer w_0), (.int .i64 off_1), (.int .i64 n_2), (.int .i64 hook_3)] KP K = areg_work_word w_0 off_1 n_2 hook_3 KP K := by kernel_rfl
theorem areg_work_word_call (w_0 : Option Addr) (off_1 : Int) (n_2 : Int) (hook_3 : Int) {KP K : Value → Pr} {h : Heap} (s : areg_work_word w_0 off_1 n_2 hook_3 (fgt KP) (fgt K) h) : WpCall Tryz.prog 31 [(.pointer w_0), (.int .i64 off_1), (.int .i64 n_2), (.int .i64 hook_3)].toArray KP K h :=
  WpCall.of_vc Tryz.mixed Tryz.func31 (by kernel_rfl) Tryz.call31 areg_work_word_ann (by rw [areg_work_word_eq]; exact s)

/- (*halberd/areg.work).bytes -/
def areg_work_bytes_j1 (defs_4 : Sl) (K : Value → Pr) (b1 : Nat) (k2 : Int × Unit → Pr) (x9 : Bool) : Pr :=
  pIf x9
  (K (.tuple [].toArray))
  (pLd (.int .i64) ((⟨b1, 0, none⟩ : Addr).add 9) fun (x10 : Int) => pIdx x10 defs_4.len <| pSome defs_4.base fun a11 => pLd (.int .i64) ((a11.add ((x10 : Int).toNat * 4)).add 2) fun (x12 : Int) => k2 (x12, ()))
def areg_work_bytes_j2 (w_0 : Option Addr) (off_2 : Int) (n_3 : Int) (KP : Value → Pr) (K : Value → Pr) (b1 : Nat) (x19 : Int) : Pr :=
  pIf (decide ((n_3 : Int) > 0))
  (pLd (.int .i64) ((⟨b1, 0, none⟩ : Addr).add 7) fun (x20 : Int) => pIf (decide (((IntKind.i64.wrap (x20 + off_2)) : Int) ≥ 0))
  (pLd (.int .i64) ((⟨b1, 0, none⟩ : Addr).add 8) fun (x21 : Int) => pCall Tryz.prog 24 [(.pointer w_0), (.bool (decide (((IntKind.i64.wrap ((IntKind.i64.wrap (x21 + off_2)) + n_3)) : Int) ≤ x19)))] KP (.one .bool) fun (r22 : Bool) => K (.tuple [].toArray))
  (pCall Tryz.prog 24 [(.pointer w_0), (.bool false)] KP (.one .bool) fun (r23 : Bool) => K (.tuple [].toArray)))
  (pCall Tryz.prog 24 [(.pointer w_0), (.bool false)] KP (.one .bool) fun (r24 : Bool) => K (.tuple [].toArray))
def areg_work_bytes (w_0 : Option Addr) (a_1 : List Value) (off_2 : Int) (n_3 : Int) (defs_4 : Sl) (KP K : Value → Pr) : Pr :=
  pNew a_1 fun b1 => pJoin (σ := Int × Unit)
  (fun k2 => pLd (.int .i64) ((⟨b1, 0, none⟩ : Addr).add 0) fun (x3 : Int) => pIf ((x3 : Int) == 5)
  (pJoin (σ := Bool × Unit)
  (fun k4 => pLd (.int .i64) ((⟨b1, 0, none⟩ : Addr).add 9) fun (x5 : Int) => pIf (decide ((x5 : Int) ≥ 0))
  (pLd (.int .i64) ((⟨b1, 0, none⟩ : Addr).add 9) fun (x6 : Int) => pCall Tryz.prog 24 [(.pointer w_0), (.bool (decide ((x6 : Int) < (defs_4.len : Int))))] KP (.one .bool) fun (r7 : Bool) => k4 ((!r7), ()))
  (pCall Tryz.prog 24 [(.pointer w_0), (.bool false)] KP (.one .bool) fun (r8 : Bool) => k4 ((!r8), ())))
  (fun s => areg_work_bytes_j1 defs_4 K b1 k2 s.1))
  (pIf ((x3 : Int) == 6)
  (pSome w_0 fun a13 => pLd .slice ((a13.add 0).add 292) fun (x14 : Sl) => pLd (.int .i64) ((⟨b1, 0, none⟩ : Addr).add 11) fun (x15 : Int) => pCall Tryz.prog 54 [(.slice x14.base x14.len x14.cap), (.int .i64 x15)] KP (.one .bool) fun (r16 : Bool) => pCall Tryz.prog 24 [(.pointer w_0), (.bool r16)] KP (.one .bool) fun (r17 : Bool) => pLd (.int .i64) ((⟨b1, 0, none⟩ : Addr).add 9) fun (x18 : Int) => k2 (x18, ()))
  (k2 (64, ()))))
  (fun s => areg_work_bytes_j2 w_0 off_2 n_3 KP K b1 s.1)
def areg_work_bytes_ann : Ann := .two (.none) (.two (.none) (.join (.two (.none) (.sub (.two (.none) (.two (.two (.join (.none) (.two (.none) (.none)) [(27, .bool)]) (.none)) (.two (.none) (.two (.two (.ord [0, 1, 2, 3, 4, 6, 5, 7, 8, 9]) (.none)) (.none))))))) (.none) [(10, (.int .i64))]))
theorem areg_work_bytes_eq (w_0 : Option Addr) (a_1 : List Value) (off_2 : Int) (n_3 : Int) (defs_4 : Sl) (KP K : Value → Pr) : vcBody Tryz.prog Tryz.f32 (Tryz.f32.body.getD .skip) areg_work_bytes_ann [(.pointer w_0), (.agg a_1.toArray), (.int .i64 off_2), (.int .i64 n_3), (.slice defs_4.base defs_4.len defs_4.cap)] KP K = areg_work_bytes w_0 a_1 off_2 n_3 defs_4 KP K := by kernel_rfl
theorem areg_work_bytes_call (w_0 : Option Addr) (a_1 : List Value) (off_2 : Int) (n_3 : Int) (defs_4 : Sl) {KP K : Value → Pr} {h : Heap} (s : areg_work_bytes w_0 a_1 off_2 n_3 defs_4 (fgt KP) (fgt K) h) : WpCall Tryz.prog 32 [(.pointer w_0), (.agg a_1.toArray), (.int .i64 off_2), (.int .i64 n_3), (.slice defs_4.base defs_4.len defs_4.cap)].toArray KP K h :=
  WpCall.of_vc Tryz.mixed Tryz.func32 (by kernel_rfl) Tryz.call32 areg_work_bytes_ann (by rw [areg_work_bytes_eq]; exact s)

/- halberd/areg.ofImm -/
def areg_ofImm (i_0 : List Value) (KP K : Value → Pr) : Pr :=
  pNew i_0 fun b1 => pNew (zc Tryz.prog 28) fun b2 => pLd (.int .i32) ((⟨b1, 0, none⟩ : Addr).add 4) fun (x3 : Int) => pCall Tryz.prog 18 [(.int .u64 (IntKind.u64.wrap (IntKind.i64.wrap x3)))] KP (.one .agg) fun (r4 : List Value) => pCall Tryz.prog 17 [(.agg r4.toArray)] KP (.one .agg) fun (r5 : List Value) => pStA 12 ⟨b2, 0, none⟩ r5 <| pLdA 12 ⟨b2, 0, none⟩ fun x6 => K (.agg x6.toArray)
def areg_ofImm_ann : Ann := .two (.none) (.two (.none) (.none))
theorem areg_ofImm_eq (i_0 : List Value) (KP K : Value → Pr) : vcBody Tryz.prog Tryz.f33 (Tryz.f33.body.getD .skip) areg_ofImm_ann [(.agg i_0.toArray)] KP K = areg_ofImm i_0 KP K := by kernel_rfl
theorem areg_ofImm_call (i_0 : List Value) {KP K : Value → Pr} {h : Heap} (s : areg_ofImm i_0 (fgt KP) (fgt K) h) : WpCall Tryz.prog 33 [(.agg i_0.toArray)].toArray KP K h :=
  WpCall.of_vc Tryz.mixed Tryz.func33 (by kernel_rfl) Tryz.call33 areg_ofImm_ann (by rw [areg_ofImm_eq]; exact s)

/- (*halberd/areg.work).storeStack -/
def areg_work_storeStack_j1 (w_0 : Option Addr) (K : Value → Pr) (b1 : Nat) (r2 : Int) (x4 : Bool) : Pr :=
  pIf x4
  (pAssert ((8 : Int) ≠ 0) <| pSome w_0 fun a17 => pIdx (IntKind.i64.wrap ((r2 : Int).tdiv 8)) 8 <| pLdA 12 ⟨b1, 0, none⟩ fun x18 => pSome (some (((a17.add 0).add 132).add (((IntKind.i64.wrap ((r2 : Int).tdiv 8)) : Int).toNat * 20))) fun a19 => pStA 12 (a19.add 0) x18 <| pLd (.int .i64) ((⟨b1, 0, none⟩ : Addr).add 0) fun (x20 : Int) => pIf ((x20 : Int) != 1)
  (pSome (some (((a17.add 0).add 132).add (((IntKind.i64.wrap ((r2 : Int).tdiv 8)) : Int).toNat * 20))) fun a21 => pStA 8 (a21.add 12) (lay (zc Tryz.prog 30) []) <| K (.tuple [].toArray))
  (K (.tuple [].toArray)))
  (K (.tuple [].toArray))
def areg_work_storeStack_j2 (w_0 : Option Addr) (n_2 : Int) (KP : Value → Pr) (K : Value → Pr) (b1 : Nat) (r2 : Int) (x4 : Bool) (x13 : Bool) : Pr :=
  pIf x13
  (K (.tuple [].toArray))
  (pJoin (σ := Unit)
  (fun k14 => pLd (.int .i64) ((⟨b1, 0, none⟩ : Addr).add 0) fun (x15 : Int) => pIf ((x15 : Int) == 1)
  (pCall Tryz.prog 55 [(.pointer w_0), (.int .i64 r2), (.int .i64 n_2)] KP (.many []) fun (r16 : Unit) => k14 (()))
  (k14 (())))
  (fun s => areg_work_storeStack_j1 w_0 K b1 r2 x4))
def areg_work_storeStack_j3 (w_0 : Option Addr) (n_2 : Int) (KP : Value → Pr) (K : Value → Pr) (b1 : Nat) (r2 : Int) (x4 : Bool) : Pr :=
  pJoin (σ := Bool × Unit)
  (fun k5 => pLd (.int .i64) ((⟨b1, 0, none⟩ : Addr).add 0) fun (x6 : Int) => pIf ((x6 : Int) == 1)
  (pCall Tryz.prog 24 [(.pointer w_0), (.bool true)] KP (.one .bool) fun (r7 : Bool) => pIf (!r7)
  (k5 (true, ()))
  (pSome w_0 fun a8 => pLd .bool (a8.add 294) fun (x9 : Bool) => k5 (x9, ())))
  (pCall Tryz.prog 24 [(.pointer w_0), (.bool x4)] KP (.one .bool) fun (r10 : Bool) => pIf (!r10)
  (k5 (true, ()))
  (pSome w_0 fun a11 => pLd .bool (a11.add 294) fun (x12 : Bool) => k5 (x12, ()))))
  (fun s => areg_work_storeStack_j2 w_0 n_2 KP K b1 r2 x4 s.1)
def areg_work_storeStack (w_0 : Option Addr) (off_1 : Int) (n_2 : Int) (v_3 : List Value) (KP K : Value → Pr) : Pr :=
  pNew v_3 fun b1 => pCall Tryz.prog 51 [(.pointer w_0), (.int .i64 off_1), (.int .i64 n_2)] KP (.one (.int .i64)) fun (r2 : Int) => pJoin (σ := Bool × Unit)
  (fun k3 => pIf ((n_2 : Int) == 8)
  (pAssert ((8 : Int) ≠ 0) <| k3 (((((r2 : Int).tmod 8) : Int) == 0), ()))
  (k3 (false, ())))
  (fun s => areg_work_storeStack_j3 w_0 n_2 KP K b1 r2 s.1)
def areg_work_storeStack_ann : Ann := .two (.none) (.two (.none) (.join (.none) (.two (.join (.none) (.two (.none) (.none)) [(36, .bool)]) (.join (.two (.none) (.two (.none) (.none))) (.two (.none) (.two (.two (.none) (.two (.none) (.two (.none) (.two (.none) (.none))))) (.none))) [])) [(9, .bool)]))
theorem areg_work_storeStack_eq (w_0 : Option Addr) (off_1 : Int) (n_2 : Int) (v_3 : List Value) (KP K : Value → Pr) : vcBody Tryz.prog Tryz.f34 (Tryz.f34.body.getD .skip) areg_work_storeStack_ann [(.pointer w_0), (.int .i64 off_1), (.int .i64 n_2), (.agg v_3.toArray)] KP K = areg_work_storeStack w_0 off_1 n_2 v_3 KP K := by kernel_rfl
theorem areg_work_storeStack_call (w_0 : Option Addr) (off_1 : Int) (n_2 : Int) (v_3 : List Value) {KP K : Value → Pr} {h : Heap} (s : areg_work_storeStack w_0 off_1 n_2 v_3 (fgt KP) (fgt K) h) : WpCall Tryz.prog 34 [(.pointer w_0), (.int .i64 off_1), (.int .i64 n_2), (.agg v_3.toArray)].toArray KP K h :=
  WpCall.of_vc Tryz.mixed Tryz.func34 (by kernel_rfl) Tryz.call34 areg_work_storeStack_ann (by rw [areg_work_storeStack_eq]; exact s)

end Go.Proofs.YtpbhanglcophbaaGreat

set_option linter.unusedVariables false
namespace Go.Proofs.YtpbhanglcophbaaGreat
open Go.Hl
/- (*halberd/areg.work).same -/
def areg_work_same_j1 (K : Value → Pr) : Pr :=
  K (.bool true)
def areg_work_same (w_0 : Option Addr) (a_1 : List Value) (same_2 : Bool) (KP K : Value → Pr) : Pr :=
  pNew a_1 fun b1 => pNew [(.bool same_2)] fun b2 => pLd .bool ((⟨b1, 0, none⟩ : Addr).add 10) fun (x3 : Bool) => pIf (!x3)
  (pLd .bool ⟨b2, 0, none⟩ fun (x4 : Bool) => K (.bool (!x4)))
  (pLd (.int .i64) ((⟨b1, 0, none⟩ : Addr).add 11) fun (x5 : Int) => pCall Tryz.prog 56 [(.pointer w_0), (.int .i64 x5), (.func (.func 57) [].toArray [(.pointer (some ⟨b2, 0, none⟩))].toArray)] KP (.many []) fun (r6 : Unit) => pJoin (σ := Unit)
  (fun k7 => pLd .bool ⟨b2, 0, none⟩ fun (x8 : Bool) => pIf x8
  (pLd (.int .i64) ((⟨b1, 0, none⟩ : Addr).add 11) fun (x9 : Int) => pCall Tryz.prog 58 [(.pointer w_0), (.int .i64 x9)] KP (.many []) fun (r10 : Unit) => k7 (()))
  (k7 (())))
  (fun s => areg_work_same_j1 K))
def areg_work_same_ann : Ann := .two (.none) (.two (.two (.none) (.two (.two (.none) (.none)) (.none))) (.two (.none) (.join (.two (.none) (.two (.none) (.none))) (.two (.none) (.none)) [])))
theorem areg_work_same_eq (w_0 : Option Addr) (a_1 : List Value) (same_2 : Bool) (KP K : Value → Pr) : vcBody Tryz.prog Tryz.f35 (Tryz.f35.body.getD .skip) areg_work_same_ann [(.pointer w_0), (.agg a_1.toArray), (.bool same_2)] KP K = areg_work_same w_0 a_1 same_2 KP K := by kernel_rfl
theorem areg_work_same_call (w_0 : Option Addr) (a_1 : List Value) (same_2 : Bool) {KP K : Value → Pr} {h : Heap} (s : areg_work_same w_0 a_1 same_2 (fgt KP) (fgt K) h) : WpCall Tryz.prog 35 [(.pointer w_0), (.agg a_1.toArray), (.bool same_2)].toArray KP K h :=
  WpCall.of_vc Tryz.mixed Tryz.func35 (by kernel_rfl) Tryz.call35 areg_work_same_ann (by rw [areg_work_same_eq]; exact s)

/- halberd/narrow.Way -/
def narrow_Way_j1 (K : Value → Pr) (b1 : Nat) (b2 : Nat) (b3 : Nat) (b4 : Nat) (b31 : Nat) (b35 : Nat) (x39 : Bool) : Pr :=
  pIf x39
  (pLdA 6 ⟨b1, 0, none⟩ fun x40 => pLdA 6 ⟨b2, 0, none⟩ fun x41 => pStA 6 ⟨b3, 0, none⟩ x40 <| pKeep (loadF Tryz.prog 26 (.pointer (some ⟨b2, 0, none⟩)) (.agg x41.toArray)) <| pStA 6 ⟨b4, 0, none⟩ x41 <| pLdA 6 ⟨b3, 0, none⟩ fun x42 => pLdA 6 ⟨b4, 0, none⟩ fun x43 => K (.tuple [(.agg x42.toArray), (.agg x43.toArray), (.bool false)].toArray))
  (pLdA 6 ⟨b31, 0, none⟩ fun x44 => pLdA 6 ⟨b35, 0, none⟩ fun x45 => pStA 6 ⟨b3, 0, none⟩ x44 <| pKeep (loadF Tryz.prog 26 (.pointer (some ⟨b35, 0, none⟩)) (.agg x45.toArray)) <| pStA 6 ⟨b4, 0, none⟩ x45 <| pLdA 6 ⟨b3, 0, none⟩ fun x46 => pLdA 6 ⟨b4, 0, none⟩ fun x47 => K (.tuple [(.agg x46.toArray), (.agg x47.toArray), (.bool true)].toArray))
def narrow_Way_j2 (KP : Value → Pr) (K : Value → Pr) (b1 : Nat) (b2 : Nat) (b3 : Nat) (b4 : Nat) (b22 : Nat) (x26 : Value) : Pr :=
  pCallV Tryz.prog x26 [(.pointer (some ⟨b22, 0, none⟩))] KP (.many []) fun (r27 : Unit) => pSome (some ⟨b22, 0, none⟩) fun a28 => pLdA 6 (a28.add 0) fun x29 => pCall Tryz.prog 48 [(.agg x29.toArray)] KP (.many [.agg, .bool]) fun (r30 : (List Value) × Bool × Unit) => pNew (zc Tryz.prog 26) fun b31 => pStA 6 ⟨b31, 0, none⟩ r30.1 <| pSome (some ⟨b22, 0, none⟩) fun a32 => pLdA 6 (a32.add 6) fun x33 => pCall Tryz.prog 48 [(.agg x33.toArray)] KP (.many [.agg, .bool]) fun (r34 : (List Value) × Bool × Unit) => pNew (zc Tryz.prog 26) fun b35 => pStA 6 ⟨b35, 0, none⟩ r34.1 <| pJoin (σ := Bool × Unit)
  (fun k36 => pSome (some ⟨b22, 0, none⟩) fun a37 => pLd .bool (a37.add 12) fun (x38 : Bool) => pIf x38
  (k36 (true, ()))
  (pIf (!r30.2.1)
  (k36 (true, ()))
  (k36 ((!r34.2.1), ()))))
  (fun s => narrow_Way_j1 K b1 b2 b3 b4 b31 b35 s.1)
def narrow_Way_j3 (holds_4 : Bool) (KP : Value → Pr) (K : Value → Pr) (b1 : Nat) (b2 : Nat) (b3 : Nat) (b4 : Nat) (b8 : Nat) (x15 : Bool) : Pr :=
  pIf x15
  (pLdA 6 ⟨b1, 0, none⟩ fun x16 => pLdA 6 ⟨b2, 0, none⟩ fun x17 => pStA 6 ⟨b3, 0, none⟩ x16 <| pKeep (loadF Tryz.prog 26 (.pointer (some ⟨b2, 0, none⟩)) (.agg x17.toArray)) <| pStA 6 ⟨b4, 0, none⟩ x17 <| pLdA 6 ⟨b3, 0, none⟩ fun x18 => pLdA 6 ⟨b4, 0, none⟩ fun x19 => K (.tuple [(.agg x18.toArray), (.agg x19.toArray), (.bool true)].toArray))
  (pLdA 6 ⟨b1, 0, none⟩ fun x20 => pLdA 6 ⟨b2, 0, none⟩ fun x21 => pAssert (x20.length = 6) <| pAssert (x21.length = 6) <| pNew (lay (zc Tryz.prog 132) [(0, (.agg x20.toArray)), (6, (.agg x21.toArray))]) fun b22 => pIdx 0 2 <| pLd .any ((⟨b8, 0, none⟩ : Addr).add ((0 : Int).toNat * 1)) fun (x23 : Value) => pJoin (σ := Value × Unit)
  (fun k24 => pIf (!holds_4)
  (pIdx 1 2 <| pLd .any ((⟨b8, 0, none⟩ : Addr).add ((1 : Int).toNat * 1)) fun (x25 : Value) => k24 (x25, ()))
  (k24 (x23, ())))
  (fun s => narrow_Way_j2 KP K b1 b2 b3 b4 b22 s.1))
def narrow_Way (op_0 : Int) (wide_1 : Bool) (a_2 : List Value) (b_3 : List Value) (holds_4 : Bool) (KP K : Value → Pr) : Pr :=
  pNew a_2 fun b1 => pNew b_3 fun b2 => pNew (zc Tryz.prog 26) fun b3 => pNew (zc Tryz.prog 26) fun b4 => pCall Tryz.prog 59 [] KP (.one .map) fun (r5 : Option Nat) => pGetS (.int .u8) r5 (.int .u8 op_0) .agg (.agg (zc Tryz.prog 124).toArray) fun (x6 : List Value) (b7 : Bool) => pNew (zc Tryz.prog 124) fun b8 => pStA 2 ⟨b8, 0, none⟩ x6 <| pJoin (σ := Bool × Unit)
  (fun k9 => pIf (!b7)
  (k9 (true, ()))
  (pIf (!wide_1)
  (pCall Tryz.prog 60 [(.int .u8 op_0)] KP (.one .bool) fun (r10 : Bool) => pIf r10
  (k9 (true, ()))
  (pLdA 6 ⟨b1, 0, none⟩ fun x11 => pCall Tryz.prog 61 [(.agg x11.toArray), (.int .i64 4)] KP (.one .bool) fun (r12 : Bool) => pIf (!r12)
  (k9 (true, ()))
  (pLdA 6 ⟨b2, 0, none⟩ fun x13 => pCall Tryz.prog 61 [(.agg x13.toArray), (.int .i64 4)] KP (.one .bool) fun (r14 : Bool) => k9 ((!r14), ()))))
  (k9 (false, ()))))
  (fun s => narrow_Way_j3 holds_4 KP K b1 b2 b3 b4 b8 s.1)
def narrow_Way_ann : Ann := .two (.none) (.two (.none) (.two (.join (.none) (.two (.two (.ord [0, 1, 2, 3, 4]) (.none)) (.none)) [(46, .bool)]) (.two (.none) (.two (.none) (.join (.two (.none) (.two (.none) (.none))) (.two (.none) (.two (.none) (.two (.none) (.two (.join (.none) (.two (.two (.ord [0, 1, 2, 3, 4]) (.none)) (.none)) [(89, .bool)]) (.two (.ord [0, 1, 2, 3, 4]) (.none)))))) [(16, .any)])))))
theorem narrow_Way_eq (op_0 : Int) (wide_1 : Bool) (a_2 : List Value) (b_3 : List Value) (holds_4 : Bool) (KP K : Value → Pr) : vcBody Tryz.prog Tryz.f36 (Tryz.f36.body.getD .skip) narrow_Way_ann [(.int .u8 op_0), (.bool wide_1), (.agg a_2.toArray), (.agg b_3.toArray), (.bool holds_4)] KP K = narrow_Way op_0 wide_1 a_2 b_3 holds_4 KP K := by kernel_rfl
theorem narrow_Way_call (op_0 : Int) (wide_1 : Bool) (a_2 : List Value) (b_3 : List Value) (holds_4 : Bool) {KP K : Value → Pr} {h : Heap} (s : narrow_Way op_0 wide_1 a_2 b_3 holds_4 (fgt KP) (fgt K) h) : WpCall Tryz.prog 36 [(.int .u8 op_0), (.bool wide_1), (.agg a_2.toArray), (.agg b_3.toArray), (.bool holds_4)].toArray KP K h :=
  WpCall.of_vc Tryz.mixed Tryz.func36 (by kernel_rfl) Tryz.call36 narrow_Way_ann (by rw [narrow_Way_eq]; exact s)

/- halberd/helpers.Of -/
def helpers_Of (n_0 : Int) (KP K : Value → Pr) : Pr :=
  pNew (zc Tryz.prog 84) fun b1 => pCall Tryz.prog 62 [] KP (.one .map) fun (r2 : Option Nat) => pGetS (.int .i64) r2 (.int .i64 n_0) .agg (.agg (zc Tryz.prog 84).toArray) fun (x3 : List Value) (b4 : Bool) => pNew (zc Tryz.prog 84) fun b5 => pStA 4 ⟨b5, 0, none⟩ x3 <| pLdA 4 ⟨b5, 0, none⟩ fun x6 => pStA 4 ⟨b1, 0, none⟩ x6 <| pLdA 4 ⟨b1, 0, none⟩ fun x7 => K (.tuple [(.agg x7.toArray), (.bool b4)].toArray)
def helpers_Of_ann : Ann := .two (.none) (.two (.none) (.two (.none) (.none)))
theorem helpers_Of_eq (n_0 : Int) (KP K : Value → Pr) : vcBody Tryz.prog Tryz.f37 (Tryz.f37.body.getD .skip) helpers_Of_ann [(.int .i64 n_0)] KP K = helpers_Of n_0 KP K := by kernel_rfl
theorem helpers_Of_call (n_0 : Int) {KP K : Value → Pr} {h : Heap} (s : helpers_Of n_0 (fgt KP) (fgt K) h) : WpCall Tryz.prog 37 [(.int .i64 n_0)].toArray KP K h :=
  WpCall.of_vc Tryz.mixed Tryz.func37 (by kernel_rfl) Tryz.call37 helpers_Of_ann (by rw [helpers_Of_eq]; exact s)

/- (*halberd/areg.call).take -/
def areg_call_take_j1 (c_0 : Option Addr) (KP : Value → Pr) (K : Value → Pr) (b1 : Nat) (x14 : Bool) : Pr :=
  pIf x14
  (pSome c_0 fun a15 => pLd (.int .i64) ((⟨b1, 0, none⟩ : Addr).add 9) fun (x16 : Int) => pLd .slice (a15.add 2) fun (x17 : Sl) => pLd (.int .i64) ((⟨b1, 0, none⟩ : Addr).add 9) fun (x18 : Int) => pIdx x18 x17.len <| pSome x17.base fun a19 => pLdA 4 (a19.add ((x18 : Int).toNat * 4)) fun x20 => pSome c_0 fun a21 => pSt (a21.add 7) (.int .i64 x16) <| pSome c_0 fun a22 => pStA 4 (a22.add 3) x20 <| pSome c_0 fun a23 => pSome c_0 fun a24 => pSome c_0 fun a25 => pLd .ptr (a23.add 0) fun (x26 : Option Addr) => pLd (.int .i64) (a24.add 1) fun (x27 : Int) => pLd (.int .i64) ((a25.add 3).add 0) fun (x28 : Int) => pCall Tryz.prog 63 [(.int .i64 x27), (.int .i64 x28)] KP (.one .bool) fun (r29 : Bool) => pKeep (loadF Tryz.prog 58 (.pointer (some (a23.add 0))) (.pointer x26)) <| pCall Tryz.prog 24 [(.pointer x26), (.bool r29)] KP (.one .bool) fun (r30 : Bool) => K (.tuple [].toArray))
  (K (.tuple [].toArray))
def areg_call_take_j2 (c_0 : Option Addr) (KP : Value → Pr) (K : Value → Pr) (b1 : Nat) (r66 : Int) (x76 : Bool) : Pr :=
  pIf x76
  (pSome c_0 fun a77 => pLd .ptr (a77.add 0) fun (x78 : Option Addr) => pLd (.int .i64) ((⟨b1, 0, none⟩ : Addr).add 7) fun (x79 : Int) => pCall Tryz.prog 51 [(.pointer x78), (.int .i64 x79), (.int .i64 r66)] KP (.one (.int .i64)) fun (r80 : Int) => pSome c_0 fun a81 => pSt (a81.add 9) (.int .i64 r80) <| K (.tuple [].toArray))
  (K (.tuple [].toArray))
def areg_call_take_j3 (k86 : Bool × Int × Unit → Pr) (x88 : Int) (x93 : Bool) : Pr :=
  k86 (x93, (IntKind.i64.wrap (x88 + 1)), ())
def areg_call_take_j4 (c_0 : Option Addr) (K : Value → Pr) (b1 : Nat) : Pr :=
  pLd (.int .i64) ((⟨b1, 0, none⟩ : Addr).add 11) fun (x101 : Int) => pSome c_0 fun a102 => pSt (a102.add 10) (.int .i64 x101) <| K (.tuple [].toArray)
def areg_call_take_l5 (c_0 : Option Addr) (KP : Value → Pr) (K : Value → Pr) (b1 : Nat) (x85 : Sl) (k86 : Bool × Int × Unit → Pr) (x87 : Bool) (x88 : Int) : Pr :=
  pIf (decide ((x88 : Int) < (x85.len : Int)))
  (pJoin (σ := Bool × Unit)
  (fun k89 => pIdx x88 x85.len <| pSome x85.base fun a90 => pLd (.int .i64) (a90.add ((x88 : Int).toNat * 1)) fun (x91 : Int) => pIf x87
  (k89 (true, ()))
  (pLd (.int .i64) ((⟨b1, 0, none⟩ : Addr).add 11) fun (x92 : Int) => k89 (((x91 : Int) == x92), ())))
  (fun s => areg_call_take_j3 k86 x88 s.1))
  (pJoin (σ := Unit)
  (fun k94 => pSome c_0 fun a95 => pLd .ptr (a95.add 0) fun (x96 : Option Addr) => pLdA 12 ⟨b1, 0, none⟩ fun x97 => pCall Tryz.prog 65 [(.agg x97.toArray), (.int .i64 6)] KP (.one .bool) fun (r98 : Bool) => pKeep (loadF Tryz.prog 58 (.pointer (some (a95.add 0))) (.pointer x96)) <| pIf r98
  (pCall Tryz.prog 24 [(.pointer x96), (.bool x87)] KP (.one .bool) fun (r99 : Bool) => k94 (()))
  (pCall Tryz.prog 24 [(.pointer x96), (.bool false)] KP (.one .bool) fun (r100 : Bool) => k94 (())))
  (fun s => areg_call_take_j4 c_0 K b1))
def areg_call_take (c_0 : Option Addr) (kind_1 : Int) (a_2 : List Value) (next_3 : List Value) (KP K : Value → Pr) : Pr :=
  pNew a_2 fun b1 => pNew next_3 fun b2 => pIf ((kind_1 : Int) == 1)
  (pJoin (σ := Bool × Unit)
  (fun k3 => pSome c_0 fun a4 => pLd .ptr (a4.add 0) fun (x5 : Option Addr) => pLd (.int .i64) ((⟨b1, 0, none⟩ : Addr).add 0) fun (x6 : Int) => pIf ((x6 : Int) == 7)
  (pLd (.int .i64) ((⟨b1, 0, none⟩ : Addr).add 9) fun (x7 : Int) => pIf (decide ((x7 : Int) ≥ 0))
  (pSome c_0 fun a8 => pLd (.int .i64) ((⟨b1, 0, none⟩ : Addr).add 9) fun (x9 : Int) => pLd .slice (a8.add 2) fun (x10 : Sl) => pCall Tryz.prog 24 [(.pointer x5), (.bool (decide ((x9 : Int) < (x10.len : Int))))] KP (.one .bool) fun (r11 : Bool) => k3 (r11, ()))
  (pCall Tryz.prog 24 [(.pointer x5), (.bool false)] KP (.one .bool) fun (r12 : Bool) => k3 (r12, ())))
  (pCall Tryz.prog 24 [(.pointer x5), (.bool false)] KP (.one .bool) fun (r13 : Bool) => k3 (r13, ())))
  (fun s => areg_call_take_j1 c_0 KP K b1 s.1))
  (pIf ((kind_1 : Int) == 2)
  (pSome c_0 fun a31 => pLdA 12 ⟨b1, 0, none⟩ fun x32 => pLd (.int .i64) ((a31.add 3).add 1) fun (x33 : Int) => pCall Tryz.prog 64 [(.pointer c_0), (.agg x32.toArray), (.int .i64 x33)] KP (.many []) fun (r34 : Unit) => K (.tuple [].toArray))
  (pIf ((kind_1 : Int) == 3)
  (pSome c_0 fun a35 => pLdA 12 ⟨b1, 0, none⟩ fun x36 => pLd (.int .i64) ((a35.add 3).add 2) fun (x37 : Int) => pCall Tryz.prog 64 [(.pointer c_0), (.agg x36.toArray), (.int .i64 x37)] KP (.many []) fun (r38 : Unit) => K (.tuple [].toArray))
  (pIf ((kind_1 : Int) == 4)
  (pSome c_0 fun a39 => pLd .ptr (a39.add 0) fun (x40 : Option Addr) => pLd (.int .i64) ((⟨b1, 0, none⟩ : Addr).add 0) fun (x41 : Int) => pCall Tryz.prog 24 [(.pointer x40), (.bool ((x41 : Int) == 1))] KP (.one .bool) fun (r42 : Bool) => K (.tuple [].toArray))
  (pIf ((kind_1 : Int) == 5)
  (pSome c_0 fun a43 => pLd .ptr (a43.add 0) fun (x44 : Option Addr) => pLdA 12 ⟨b1, 0, none⟩ fun x45 => pCall Tryz.prog 65 [(.agg x45.toArray), (.int .i64 4)] KP (.one .bool) fun (r46 : Bool) => pKeep (loadF Tryz.prog 58 (.pointer (some (a43.add 0))) (.pointer x44)) <| pIf r46
  (pLd (.int .i64) ((⟨b1, 0, none⟩ : Addr).add 9) fun (x47 : Int) => pCall Tryz.prog 24 [(.pointer x44), (.bool ((x47 : Int) == 2))] KP (.one .bool) fun (r48 : Bool) => K (.tuple [].toArray))
  (pCall Tryz.prog 24 [(.pointer x44), (.bool false)] KP (.one .bool) fun (r49 : Bool) => K (.tuple [].toArray)))
  (pIf ((kind_1 : Int) == 6)
  (pSome c_0 fun a50 => pLd .ptr (a50.add 0) fun (x51 : Option Addr) => pLdA 12 ⟨b1, 0, none⟩ fun x52 => pCall Tryz.prog 65 [(.agg x52.toArray), (.int .i64 4)] KP (.one .bool) fun (r53 : Bool) => pKeep (loadF Tryz.prog 58 (.pointer (some (a50.add 0))) (.pointer x51)) <| pIf r53
  (pLd (.int .i64) ((⟨b1, 0, none⟩ : Addr).add 9) fun (x54 : Int) => pCall Tryz.prog 24 [(.pointer x51), (.bool ((x54 : Int) == 1))] KP (.one .bool) fun (r55 : Bool) => K (.tuple [].toArray))
  (pCall Tryz.prog 24 [(.pointer x51), (.bool false)] KP (.one .bool) fun (r56 : Bool) => K (.tuple [].toArray)))
  (pIf ((kind_1 : Int) == 7)
  (pLdA 12 ⟨b1, 0, none⟩ fun x57 => pCall Tryz.prog 66 [(.agg x57.toArray)] KP (.one (.int .i64)) fun (r58 : Int) => pSome c_0 fun a59 => pSt (a59.add 8) (.int .i64 r58) <| pSome c_0 fun a60 => pSome c_0 fun a61 => pLd .ptr (a60.add 0) fun (x62 : Option Addr) => pLd (.int .i64) (a61.add 8) fun (x63 : Int) => pCall Tryz.prog 24 [(.pointer x62), (.bool (decide ((x63 : Int) > 0)))] KP (.one .bool) fun (r64 : Bool) => K (.tuple [].toArray))
  (pIf ((kind_1 : Int) == 8)
  (pLdA 12 ⟨b2, 0, none⟩ fun x65 => pCall Tryz.prog 66 [(.agg x65.toArray)] KP (.one (.int .i64)) fun (r66 : Int) => pJoin (σ := Bool × Unit)
  (fun k67 => pSome c_0 fun a68 => pLd .ptr (a68.add 0) fun (x69 : Option Addr) => pLd (.int .i64) ((⟨b1, 0, none⟩ : Addr).add 0) fun (x70 : Int) => pIf ((x70 : Int) == 2)
  (pIf (decide ((r66 : Int) > 0))
  (pLd (.int .i64) ((⟨b1, 0, none⟩ : Addr).add 7) fun (x71 : Int) => pCall Tryz.prog 28 [(.int .i64 x71)] KP (.one .bool) fun (r72 : Bool) => pKeep (loadF Tryz.prog 58 (.pointer (some (a68.add 0))) (.pointer x69)) <| pCall Tryz.prog 24 [(.pointer x69), (.bool r72)] KP (.one .bool) fun (r73 : Bool) => k67 (r73, ()))
  (pCall Tryz.prog 24 [(.pointer x69), (.bool false)] KP (.one .bool) fun (r74 : Bool) => k67 (r74, ())))
  (pCall Tryz.prog 24 [(.pointer x69), (.bool false)] KP (.one .bool) fun (r75 : Bool) => k67 (r75, ())))
  (fun s => areg_call_take_j2 c_0 KP K b1 r66 s.1))
  (pIf ((kind_1 : Int) == 9)
  (pSome c_0 fun a82 => pLd .ptr (a82.add 0) fun (x83 : Option Addr) => pSome x83 fun a84 => pLd .slice ((a84.add 0).add 292) fun (x85 : Sl) => pLoop (σ := Bool × Int × Unit) (fun s k86 => areg_call_take_l5 c_0 KP K b1 x85 k86 s.1 s.2.1) (false, 0, ()))
  (K (.tuple [].toArray))))))))))
def areg_call_take_ann : Ann := .two (.none) (.two (.none) (.sub (.two (.none) (.two (.join (.ord [0, 1, 2, 4, 3, 5, 6, 7, 8, 9, 10, 11, 12, 13, 15, 16, 17, 14, 18, 19, 20, 21, 22]) (.two (.two (.ord [0, 1, 2, 4, 5, 6, 8, 3, 7, 9, 10, 11, 12, 13, 14, 15, 16, 17]) (.ord [0, 1, 2, 4, 5, 6, 8, 9, 10, 11, 3, 7, 12, 13, 14])) (.none)) [(37, .bool)]) (.two (.none) (.two (.ord [0, 2, 3, 4, 5, 1, 6, 7]) (.two (.none) (.two (.ord [0, 2, 3, 4, 5, 1, 6, 7]) (.two (.none) (.two (.ord [0, 1, 2, 4, 3, 5, 6, 7]) (.two (.none) (.two (.ord [0, 1, 2, 3, 4, 5, 6, 7, 8, 9, 10, 11]) (.two (.none) (.two (.ord [0, 1, 2, 3, 4, 5, 6, 7, 8, 9, 10, 11]) (.two (.none) (.two (.two (.none) (.ord [0, 1, 2, 4, 5, 6, 3, 7, 8, 9])) (.two (.none) (.two (.two (.none) (.join (.ord [0, 1, 2, 4, 3, 5, 6, 7, 8, 9, 10, 11, 12, 13, 14, 15, 16]) (.two (.ord [0, 1, 2, 3, 5, 7, 4, 6, 8, 9, 10, 11]) (.none)) [(164, .bool)])) (.two (.none) (.two (.two (.none) (.two (.two (.none) (.sub (.loop [(9, .bool), (187, (.int .i64))] (.two (.none) (.two (.two (.none) (.none)) (.join (.sub (.two (.none) (.none))) (.none) [(9, .bool)])))))) (.join (.ord [0, 1, 2, 3, 4, 5, 6, 7, 8, 9]) (.none) []))) (.none)))))))))))))))))))))
theorem areg_call_take_eq (c_0 : Option Addr) (kind_1 : Int) (a_2 : List Value) (next_3 : List Value) (KP K : Value → Pr) : vcBody Tryz.prog Tryz.f38 (Tryz.f38.body.getD .skip) areg_call_take_ann [(.pointer c_0), (.int .u8 kind_1), (.agg a_2.toArray), (.agg next_3.toArray)] KP K = areg_call_take c_0 kind_1 a_2 next_3 KP K := by kernel_rfl
theorem areg_call_take_call (c_0 : Option Addr) (kind_1 : Int) (a_2 : List Value) (next_3 : List Value) {KP K : Value → Pr} {h : Heap} (s : areg_call_take c_0 kind_1 a_2 next_3 (fgt KP) (fgt K) h) : WpCall Tryz.prog 38 [(.pointer c_0), (.int .u8 kind_1), (.agg a_2.toArray), (.agg next_3.toArray)].toArray KP K h :=
  WpCall.of_vc Tryz.mixed Tryz.func38 (by kernel_rfl) Tryz.call38 areg_call_take_ann (by rw [areg_call_take_eq]; exact s)

/- halberd/areg.does -/
def areg_does  (KP K : Value → Pr) : Pr :=
  pNewObj (.map []) fun b1 => pPut (.int .i64) (some b1) (.int .i64 1) (.func (.func 67) [].toArray [].toArray) <| pPut (.int .i64) (some b1) (.int .i64 2) (.func (.func 68) [].toArray [].toArray) <| pPut (.int .i64) (some b1) (.int .i64 3) (.func (.func 68) [].toArray [].toArray) <| pPut (.int .i64) (some b1) (.int .i64 4) (.func (.func 67) [].toArray [].toArray) <| pPut (.int .i64) (some b1) (.int .i64 5) (.func (.func 67) [].toArray [].toArray) <| pPut (.int .i64) (some b1) (.int .i64 6) (.func (.func 68) [].toArray [].toArray) <| pPut (.int .i64) (some b1) (.int .i64 7) (.func (.func 68) [].toArray [].toArray) <| pPut (.int .i64) (some b1) (.int .i64 8) (.func (.func 69) [].toArray [].toArray) <| pPut (.int .i64) (some b1) (.int .i64 9) (.func (.func 70) [].toArray [].toArray) <| pPut (.int .i64) (some b1) (.int .i64 10) (.func (.func 70) [].toArray [].toArray) <| pPut (.int .i64) (some b1) (.int .i64 11) (.func (.func 68) [].toArray [].toArray) <| pPut (.int .i64) (some b1) (.int .i64 12) (.func (.func 71) [].toArray [].toArray) <| pPut (.int .i64) (some b1) (.int .i64 13) (.func (.func 72) [].toArray [].toArray) <| K (.map (some b1))
def areg_does_ann : Ann := .two (.none) (.two (.none) (.none))
theorem areg_does_eq  (KP K : Value → Pr) : vcBody Tryz.prog Tryz.f39 (Tryz.f39.body.getD .skip) areg_does_ann [] KP K = areg_does  KP K := by kernel_rfl
theorem areg_does_call  {KP K : Value → Pr} {h : Heap} (s : areg_does  (fgt KP) (fgt K) h) : WpCall Tryz.prog 39 [].toArray KP K h :=
  WpCall.of_vc Tryz.mixed Tryz.func39 (by kernel_rfl) Tryz.call39 areg_does_ann (by rw [areg_does_eq]; exact s)

/- halberd/inst.Wide -/
def inst_Wide (a_0 : List Value) (b_1 : List Value) (KP K : Value → Pr) : Pr :=
  pNew a_0 fun b1 => pNew b_1 fun b2 => pLd (.int .i32) ((⟨b1, 0, none⟩ : Addr).add 4) fun (x3 : Int) => pLd (.int .i32) ((⟨b2, 0, none⟩ : Addr).add 4) fun (x4 : Int) => pAssert (0 ≤ (32 : Int)) <| K (.int .u64 (bitsV .or .u64 (IntKind.u64.wrap (IntKind.u32.wrap x3)) (IntKind.u64.wrap ((IntKind.u64.wrap (IntKind.u32.wrap x4)) * 2 ^ (min (32 : Int).toNat (IntKind.u64).bits)))))
def inst_Wide_ann : Ann := .two (.none) (.two (.none) (.none))
theorem inst_Wide_eq (a_0 : List Value) (b_1 : List Value) (KP K : Value → Pr) : vcBody Tryz.prog Tryz.f40 (Tryz.f40.body.getD .skip) inst_Wide_ann [(.agg a_0.toArray), (.agg b_1.toArray)] KP K = inst_Wide a_0 b_1 KP K := by kernel_rfl
theorem inst_Wide_call (a_0 : List Value) (b_1 : List Value) {KP K : Value → Pr} {h : Heap} (s : inst_Wide a_0 b_1 (fgt KP) (fgt K) h) : WpCall Tryz.prog 40 [(.agg a_0.toArray), (.agg b_1.toArray)].toArray KP K h :=
  WpCall.of_vc Tryz.mixed Tryz.func40 (by kernel_rfl) Tryz.call40 inst_Wide_ann (by rw [inst_Wide_eq]; exact s)

/- slices.Clone[[]int,int] -/
def slices_Clone_int_int (s_0 : Sl) (KP K : Value → Pr) : Pr :=
  pIf (s_0.base.isNone)
  (K (.slice none 0 0))
  (pNew (lay (reps 0 (zc Tryz.prog 3)) []) fun b1 => pAppend 1 8 ⟨(some ⟨b1, 0, none⟩), 0, 0⟩ s_0 fun s2 => K (.slice s2.base s2.len s2.cap))
def slices_Clone_int_int_ann : Ann := .two (.none) (.two (.two (.none) (.two (.two (.none) (.none)) (.none))) (.two (.none) (.none)))
theorem slices_Clone_int_int_eq (s_0 : Sl) (KP K : Value → Pr) : vcBody Tryz.prog Tryz.f41 (Tryz.f41.body.getD .skip) slices_Clone_int_int_ann [(.slice s_0.base s_0.len s_0.cap)] KP K = slices_Clone_int_int s_0 KP K := by kernel_rfl
theorem slices_Clone_int_int_call (s_0 : Sl) {KP K : Value → Pr} {h : Heap} (s : slices_Clone_int_int s_0 (fgt KP) (fgt K) h) : WpCall Tryz.prog 41 [(.slice s_0.base s_0.len s_0.cap)].toArray KP K h :=
  WpCall.of_vc Tryz.mixed Tryz.func41 (by kernel_rfl) Tryz.call41 slices_Clone_int_int_ann (by rw [slices_Clone_int_int_eq]; exact s)

/- halberd/tnum.Const -/
def tnum_Const (x_0 : Int) (KP K : Value → Pr) : Pr :=
  pNew (zc Tryz.prog 24) fun b1 => pStA 2 ⟨b1, 0, none⟩ (lay (zc Tryz.prog 24) [(0, (.int .u64 x_0))]) <| pLdA 2 ⟨b1, 0, none⟩ fun x2 => K (.agg x2.toArray)
def tnum_Const_ann : Ann := .two (.none) (.two (.none) (.none))
theorem tnum_Const_eq (x_0 : Int) (KP K : Value → Pr) : vcBody Tryz.prog Tryz.f42 (Tryz.f42.body.getD .skip) tnum_Const_ann [(.int .u64 x_0)] KP K = tnum_Const x_0 KP K := by kernel_rfl
theorem tnum_Const_call (x_0 : Int) {KP K : Value → Pr} {h : Heap} (s : tnum_Const x_0 (fgt KP) (fgt K) h) : WpCall Tryz.prog 42 [(.int .u64 x_0)].toArray KP K h :=
  WpCall.of_vc Tryz.mixed Tryz.func42 (by kernel_rfl) Tryz.call42 tnum_Const_ann (by rw [tnum_Const_eq]; exact s)

end Go.Proofs.YtpbhanglcophbaaGreat

set_option linter.unusedVariables false
namespace Go.Proofs.YtpbhanglcophbaaGreat
open Go.Hl
/- halberd/num.IsConst -/
def num_IsConst (x_0 : List Value) (KP K : Value → Pr) : Pr :=
  pNew x_0 fun b1 => pLd (.int .u64) (((⟨b1, 0, none⟩ : Addr).add 0).add 1) fun (x2 : Int) => pIf ((x2 : Int) != 0)
  (K (.tuple [(.int .u64 0), (.bool false)].toArray))
  (pLd (.int .u64) (((⟨b1, 0, none⟩ : Addr).add 0).add 0) fun (x3 : Int) => K (.tuple [(.int .u64 x3), (.bool true)].toArray))
def num_IsConst_ann : Ann := .two (.none) (.two (.two (.none) (.two (.two (.none) (.none)) (.none))) (.two (.none) (.none)))
theorem num_IsConst_eq (x_0 : List Value) (KP K : Value → Pr) : vcBody Tryz.prog Tryz.f43 (Tryz.f43.body.getD .skip) num_IsConst_ann [(.agg x_0.toArray)] KP K = num_IsConst x_0 KP K := by kernel_rfl
theorem num_IsConst_call (x_0 : List Value) {KP K : Value → Pr} {h : Heap} (s : num_IsConst x_0 (fgt KP) (fgt K) h) : WpCall Tryz.prog 43 [(.agg x_0.toArray)].toArray KP K h :=
  WpCall.of_vc Tryz.mixed Tryz.func43 (by kernel_rfl) Tryz.call43 num_IsConst_ann (by rw [num_IsConst_eq]; exact s)

/- halberd/xfer.rows -/
def xfer_rows  (KP K : Value → Pr) : Pr :=
  pNewObj (.map []) fun b1 => pPut (.int .u8) (some b1) (.int .u8 0) (.func (.func 73) [].toArray [].toArray) <| pPut (.int .u8) (some b1) (.int .u8 16) (.func (.func 74) [].toArray [].toArray) <| pPut (.int .u8) (some b1) (.int .u8 32) (.func (.func 75) [].toArray [].toArray) <| pPut (.int .u8) (some b1) (.int .u8 48) (.func (.func 76) [].toArray [].toArray) <| pPut (.int .u8) (some b1) (.int .u8 144) (.func (.func 77) [].toArray [].toArray) <| pPut (.int .u8) (some b1) (.int .u8 80) (.func (.func 78) [].toArray [].toArray) <| pPut (.int .u8) (some b1) (.int .u8 64) (.func (.func 79) [].toArray [].toArray) <| pPut (.int .u8) (some b1) (.int .u8 160) (.func (.func 80) [].toArray [].toArray) <| pPut (.int .u8) (some b1) (.int .u8 96) (.func (.func 81) [].toArray [].toArray) <| pPut (.int .u8) (some b1) (.int .u8 112) (.func (.func 82) [].toArray [].toArray) <| pPut (.int .u8) (some b1) (.int .u8 192) (.func (.func 83) [].toArray [].toArray) <| pPut (.int .u8) (some b1) (.int .u8 128) (.func (.func 84) [].toArray [].toArray) <| pPut (.int .u8) (some b1) (.int .u8 176) (.func (.func 85) [].toArray [].toArray) <| K (.map (some b1))
def xfer_rows_ann : Ann := .two (.none) (.two (.none) (.none))
theorem xfer_rows_eq  (KP K : Value → Pr) : vcBody Tryz.prog Tryz.f44 (Tryz.f44.body.getD .skip) xfer_rows_ann [] KP K = xfer_rows  KP K := by kernel_rfl
theorem xfer_rows_call  {KP K : Value → Pr} {h : Heap} (s : xfer_rows  (fgt KP) (fgt K) h) : WpCall Tryz.prog 44 [].toArray KP K h :=
  WpCall.of_vc Tryz.mixed Tryz.func44 (by kernel_rfl) Tryz.call44 xfer_rows_ann (by rw [xfer_rows_eq]; exact s)

/- halberd/num.All -/
def num_All  (KP K : Value → Pr) : Pr :=
  pNew (zc Tryz.prog 26) fun b1 => pCall Tryz.prog 86 [] KP (.one .agg) fun (r2 : List Value) => pAssert (r2.length = 2) <| pStA 6 ⟨b1, 0, none⟩ (lay (zc Tryz.prog 26) [(0, (.agg r2.toArray)), (3, (.int .u64 18446744073709551615)), (4, (.int .i64 (-9223372036854775808))), (5, (.int .i64 9223372036854775807))]) <| pLdA 6 ⟨b1, 0, none⟩ fun x3 => K (.agg x3.toArray)
def num_All_ann : Ann := .two (.none) (.two (.none) (.none))
theorem num_All_eq  (KP K : Value → Pr) : vcBody Tryz.prog Tryz.f45 (Tryz.f45.body.getD .skip) num_All_ann [] KP K = num_All  KP K := by kernel_rfl
theorem num_All_call  {KP K : Value → Pr} {h : Heap} (s : num_All  (fgt KP) (fgt K) h) : WpCall Tryz.prog 45 [].toArray KP K h :=
  WpCall.of_vc Tryz.mixed Tryz.func45 (by kernel_rfl) Tryz.call45 num_All_ann (by rw [num_All_eq]; exact s)

/- halberd/alu.Do -/
def alu_Do_j1 (op_0 : Int) (a_2 : Int) (b_3 : Int) (KP : Value → Pr) (K : Value → Pr) (x2 : Int) (x3 : Int) : Pr :=
  pCall Tryz.prog 87 [(.int .u64 a_2), (.int .i64 x3)] KP (.one (.int .u64)) fun (r4 : Int) => pCall Tryz.prog 87 [(.int .u64 b_3), (.int .i64 x3)] KP (.one (.int .u64)) fun (r5 : Int) => pCall Tryz.prog 88 [(.int .u8 op_0), (.int .u64 x2), (.int .u64 r4), (.int .u64 r5)] KP (.many [(.int .u64), .bool]) fun (r6 : Int × Bool × Unit) => pIf r6.2.1
  (pCall Tryz.prog 87 [(.int .u64 r6.1), (.int .i64 x3)] KP (.one (.int .u64)) fun (r7 : Int) => K (.tuple [(.int .u64 r7), (.bool true)].toArray))
  (pCall Tryz.prog 89 [] KP (.one .map) fun (r8 : Option Nat) => pGetS (.int .u8) r8 (.int .u8 op_0) .any .nilFunc fun (x9 : Value) (b10 : Bool) => pIf (!b10)
  (K (.tuple [(.int .u64 0), (.bool false)].toArray))
  (pCallV Tryz.prog x9 [(.int .u64 r4), (.int .u64 r5)] KP (.one (.int .u64)) fun (r11 : Int) => pCall Tryz.prog 87 [(.int .u64 r11), (.int .i64 x3)] KP (.one (.int .u64)) fun (r12 : Int) => K (.tuple [(.int .u64 r12), (.bool true)].toArray)))
def alu_Do (op_0 : Int) (wide_1 : Bool) (a_2 : Int) (b_3 : Int) (KP K : Value → Pr) : Pr :=
  pJoin (σ := Int × Int × Unit)
  (fun k1 => pIf (!wide_1)
  (k1 (32, 4, ()))
  (k1 (64, 8, ())))
  (fun s => alu_Do_j1 op_0 a_2 b_3 KP K s.1 s.2.1)
def alu_Do_ann : Ann := .two (.none) (.two (.none) (.join (.two (.none) (.two (.none) (.none))) (.two (.none) (.two (.two (.none) (.two (.none) (.two (.two (.none) (.none)) (.none)))) (.two (.none) (.two (.two (.none) (.two (.two (.none) (.none)) (.none))) (.two (.none) (.none)))))) [(10, (.int .u64)), (11, (.int .i64))]))
theorem alu_Do_eq (op_0 : Int) (wide_1 : Bool) (a_2 : Int) (b_3 : Int) (KP K : Value → Pr) : vcBody Tryz.prog Tryz.f46 (Tryz.f46.body.getD .skip) alu_Do_ann [(.int .u8 op_0), (.bool wide_1), (.int .u64 a_2), (.int .u64 b_3)] KP K = alu_Do op_0 wide_1 a_2 b_3 KP K := by kernel_rfl
theorem alu_Do_call (op_0 : Int) (wide_1 : Bool) (a_2 : Int) (b_3 : Int) {KP K : Value → Pr} {h : Heap} (s : alu_Do op_0 wide_1 a_2 b_3 (fgt KP) (fgt K) h) : WpCall Tryz.prog 46 [(.int .u8 op_0), (.bool wide_1), (.int .u64 a_2), (.int .u64 b_3)].toArray KP K h :=
  WpCall.of_vc Tryz.mixed Tryz.func46 (by kernel_rfl) Tryz.call46 alu_Do_ann (by rw [alu_Do_eq]; exact s)

/- halberd/num.Cut -/
def num_Cut_j1 (KP : Value → Pr) (K : Value → Pr) (b2 : Nat) (b9 : Nat) : Pr :=
  pLdA 6 ⟨b9, 0, none⟩ fun x18 => pCall Tryz.prog 93 [(.agg x18.toArray)] KP (.one .agg) fun (r19 : List Value) => pStA 6 ⟨b2, 0, none⟩ r19 <| pLdA 6 ⟨b2, 0, none⟩ fun x20 => K (.agg x20.toArray)
def num_Cut_j2 (n_1 : Int) (KP : Value → Pr) (K : Value → Pr) (b1 : Nat) (b2 : Nat) (x5 : Bool) : Pr :=
  pIf x5
  (pLdA 6 ⟨b1, 0, none⟩ fun x6 => pStA 6 ⟨b2, 0, none⟩ x6 <| pLdA 6 ⟨b2, 0, none⟩ fun x7 => K (.agg x7.toArray))
  (pCall Tryz.prog 45 [] KP (.one .agg) fun (r8 : List Value) => pNew (zc Tryz.prog 26) fun b9 => pStA 6 ⟨b9, 0, none⟩ r8 <| pLdA 2 ((⟨b1, 0, none⟩ : Addr).add 0) fun x10 => pCall Tryz.prog 91 [(.agg x10.toArray), (.int .i64 n_1)] KP (.one .agg) fun (r11 : List Value) => pCall Tryz.prog 92 [(.int .i64 (IntKind.i64.wrap (8 * n_1)))] KP (.one (.int .u64)) fun (r12 : Int) => pStA 2 ((⟨b9, 0, none⟩ : Addr).add 0) r11 <| pSt ((⟨b9, 0, none⟩ : Addr).add 3) (.int .u64 r12) <| pJoin (σ := Unit)
  (fun k13 => pLdA 6 ⟨b1, 0, none⟩ fun x14 => pCall Tryz.prog 61 [(.agg x14.toArray), (.int .i64 n_1)] KP (.one .bool) fun (r15 : Bool) => pIf r15
  (pLd (.int .u64) ((⟨b1, 0, none⟩ : Addr).add 2) fun (x16 : Int) => pLd (.int .u64) ((⟨b1, 0, none⟩ : Addr).add 3) fun (x17 : Int) => pSt ((⟨b9, 0, none⟩ : Addr).add 2) (.int .u64 x16) <| pKeep (loadF Tryz.prog 22 (.pointer (some ((⟨b1, 0, none⟩ : Addr).add 3))) (.int .u64 x17)) <| pSt ((⟨b9, 0, none⟩ : Addr).add 3) (.int .u64 x17) <| k13 (()))
  (k13 (())))
  (fun s => num_Cut_j1 KP K b2 b9))
def num_Cut (x_0 : List Value) (n_1 : Int) (KP K : Value → Pr) : Pr :=
  pNew x_0 fun b1 => pNew (zc Tryz.prog 26) fun b2 => pJoin (σ := Bool × Unit)
  (fun k3 => pIf ((n_1 : Int) == 8)
  (k3 (true, ()))
  (pCall Tryz.prog 90 [(.int .i64 n_1)] KP (.one .bool) fun (r4 : Bool) => k3 ((!r4), ())))
  (fun s => num_Cut_j2 n_1 KP K b1 b2 s.1)
def num_Cut_ann : Ann := .two (.none) (.two (.join (.none) (.two (.two (.none) (.none)) (.none)) [(12, .bool)]) (.two (.none) (.two (.none) (.join (.two (.none) (.two (.ord [0, 2, 1, 4, 3, 5, 6, 7]) (.none))) (.two (.none) (.none)) []))))
theorem num_Cut_eq (x_0 : List Value) (n_1 : Int) (KP K : Value → Pr) : vcBody Tryz.prog Tryz.f47 (Tryz.f47.body.getD .skip) num_Cut_ann [(.agg x_0.toArray), (.int .i64 n_1)] KP K = num_Cut x_0 n_1 KP K := by kernel_rfl
theorem num_Cut_call (x_0 : List Value) (n_1 : Int) {KP K : Value → Pr} {h : Heap} (s : num_Cut x_0 n_1 (fgt KP) (fgt K) h) : WpCall Tryz.prog 47 [(.agg x_0.toArray), (.int .i64 n_1)].toArray KP K h :=
  WpCall.of_vc Tryz.mixed Tryz.func47 (by kernel_rfl) Tryz.call47 num_Cut_ann (by rw [num_Cut_eq]; exact s)

/- halberd/num.Refine -/
def num_Refine_l1 (KP : Value → Pr) (K : Value → Pr) (b2 : Nat) (b4 : Nat) (k5 : Int × Unit → Pr) (x6 : Int) : Pr :=
  pIf (decide ((x6 : Int) < 2))
  (pCall Tryz.prog 94 [(.pointer (some ⟨b4, 0, none⟩))] KP (.one .bool) fun (r7 : Bool) => pIf (!r7)
  (pCall Tryz.prog 45 [] KP (.one .agg) fun (r8 : List Value) => pStA 6 ⟨b2, 0, none⟩ r8 <| pLdA 6 ⟨b2, 0, none⟩ fun x9 => K (.tuple [(.agg x9.toArray), (.bool false)].toArray))
  (k5 ((IntKind.i64.wrap (x6 + 1)), ())))
  (pSome (some ⟨b4, 0, none⟩) fun a10 => pLdA 6 (a10.add 0) fun x11 => pStA 6 ⟨b2, 0, none⟩ x11 <| pLdA 6 ⟨b2, 0, none⟩ fun x12 => K (.tuple [(.agg x12.toArray), (.bool true)].toArray))
def num_Refine (x_0 : List Value) (KP K : Value → Pr) : Pr :=
  pNew x_0 fun b1 => pNew (zc Tryz.prog 26) fun b2 => pLdA 6 ⟨b1, 0, none⟩ fun x3 => pAssert (x3.length = 6) <| pNew (lay (zc Tryz.prog 153) [(0, (.agg x3.toArray))]) fun b4 => pLoop (σ := Int × Unit) (fun s k5 => num_Refine_l1 KP K b2 b4 k5 s.1) (0, ())
def num_Refine_ann : Ann := .two (.none) (.two (.none) (.two (.two (.none) (.sub (.loop [(8, (.int .i64))] (.two (.none) (.two (.two (.none) (.none)) (.two (.sub (.two (.none) (.two (.two (.none) (.none)) (.none)))) (.none))))))) (.two (.none) (.none))))
theorem num_Refine_eq (x_0 : List Value) (KP K : Value → Pr) : vcBody Tryz.prog Tryz.f48 (Tryz.f48.body.getD .skip) num_Refine_ann [(.agg x_0.toArray)] KP K = num_Refine x_0 KP K := by kernel_rfl
theorem num_Refine_call (x_0 : List Value) {KP K : Value → Pr} {h : Heap} (s : num_Refine x_0 (fgt KP) (fgt K) h) : WpCall Tryz.prog 48 [(.agg x_0.toArray)].toArray KP K h :=
  WpCall.of_vc Tryz.mixed Tryz.func48 (by kernel_rfl) Tryz.call48 num_Refine_ann (by rw [num_Refine_eq]; exact s)

/- halberd/isa.Size -/
def isa_Size_j1 (op_0 : Int) (KP : Value → Pr) (K : Value → Pr) (x2 : Bool) : Pr :=
  pIf x2
  (K (.int .i64 0))
  (pCall Tryz.prog 95 [] KP (.one .map) fun (r3 : Option Nat) => pGetS (.int .u8) r3 (.int .u8 (bitsV .and .u8 op_0 24)) (.int .i64) (.int .i64 0) fun (x4 : Int) (b5 : Bool) => K (.int .i64 x4))
def isa_Size (op_0 : Int) (KP K : Value → Pr) : Pr :=
  pJoin (σ := Bool × Unit)
  (fun k1 => pIf (((bitsV .and .u8 op_0 224) : Int) != 96)
  (k1 (true, ()))
  (pIf (decide (((bitsV .and .u8 op_0 7) : Int) < 1))
  (k1 (true, ()))
  (k1 ((decide (((bitsV .and .u8 op_0 7) : Int) > 3)), ()))))
  (fun s => isa_Size_j1 op_0 KP K s.1)
def isa_Size_ann : Ann := .two (.none) (.two (.none) (.two (.join (.none) (.two (.two (.none) (.none)) (.none)) [(16, .bool)]) (.two (.none) (.none))))
theorem isa_Size_eq (op_0 : Int) (KP K : Value → Pr) : vcBody Tryz.prog Tryz.f49 (Tryz.f49.body.getD .skip) isa_Size_ann [(.int .u8 op_0)] KP K = isa_Size op_0 KP K := by kernel_rfl
theorem isa_Size_call (op_0 : Int) {KP K : Value → Pr} {h : Heap} (s : isa_Size op_0 (fgt KP) (fgt K) h) : WpCall Tryz.prog 49 [(.int .u8 op_0)].toArray KP K h :=
  WpCall.of_vc Tryz.mixed Tryz.func49 (by kernel_rfl) Tryz.call49 isa_Size_ann (by rw [isa_Size_eq]; exact s)

/- halberd/areg.upTo -/
def areg_upTo (n_0 : Int) (KP K : Value → Pr) : Pr :=
  pNew (zc Tryz.prog 28) fun b1 => pCall Tryz.prog 96 [(.int .u64 0), (.int .u64 n_0)] KP (.one .agg) fun (r2 : List Value) => pCall Tryz.prog 17 [(.agg r2.toArray)] KP (.one .agg) fun (r3 : List Value) => pStA 12 ⟨b1, 0, none⟩ r3 <| pLdA 12 ⟨b1, 0, none⟩ fun x4 => K (.agg x4.toArray)
def areg_upTo_ann : Ann := .two (.none) (.two (.none) (.none))
theorem areg_upTo_eq (n_0 : Int) (KP K : Value → Pr) : vcBody Tryz.prog Tryz.f50 (Tryz.f50.body.getD .skip) areg_upTo_ann [(.int .u64 n_0)] KP K = areg_upTo n_0 KP K := by kernel_rfl
theorem areg_upTo_call (n_0 : Int) {KP K : Value → Pr} {h : Heap} (s : areg_upTo n_0 (fgt KP) (fgt K) h) : WpCall Tryz.prog 50 [(.int .u64 n_0)].toArray KP K h :=
  WpCall.of_vc Tryz.mixed Tryz.func50 (by kernel_rfl) Tryz.call50 areg_upTo_ann (by rw [areg_upTo_eq]; exact s)

end Go.Proofs.YtpbhanglcophbaaGreat

set_option linter.unusedVariables false
namespace Go.Proofs.YtpbhanglcophbaaGreat
open Go.Hl
/- (*halberd/areg.work).stackAt -/
def areg_work_stackAt_j1 (off_1 : Int) (K : Value → Pr) (x5 : Bool) : Pr :=
  pIf x5
  (K (.int .i64 0))
  (K (.int .i64 (IntKind.i64.wrap (off_1 + 64))))
def areg_work_stackAt (w_0 : Option Addr) (off_1 : Int) (n_2 : Int) (KP K : Value → Pr) : Pr :=
  pJoin (σ := Bool × Unit)
  (fun k1 => pIf (decide ((off_1 : Int) ≥ (-64)))
  (pIf (decide ((n_2 : Int) > 0))
  (pCall Tryz.prog 24 [(.pointer w_0), (.bool (decide ((off_1 : Int) ≤ (IntKind.i64.wrap (0 - n_2)))))] KP (.one .bool) fun (r2 : Bool) => k1 ((!r2), ()))
  (pCall Tryz.prog 24 [(.pointer w_0), (.bool false)] KP (.one .bool) fun (r3 : Bool) => k1 ((!r3), ())))
  (pCall Tryz.prog 24 [(.pointer w_0), (.bool false)] KP (.one .bool) fun (r4 : Bool) => k1 ((!r4), ())))
  (fun s => areg_work_stackAt_j1 off_1 K s.1)
def areg_work_stackAt_ann : Ann := .two (.none) (.two (.join (.none) (.two (.two (.none) (.none)) (.none)) [(21, .bool)]) (.two (.none) (.none)))
theorem areg_work_stackAt_eq (w_0 : Option Addr) (off_1 : Int) (n_2 : Int) (KP K : Value → Pr) : vcBody Tryz.prog Tryz.f51 (Tryz.f51.body.getD .skip) areg_work_stackAt_ann [(.pointer w_0), (.int .i64 off_1), (.int .i64 n_2)] KP K = areg_work_stackAt w_0 off_1 n_2 KP K := by kernel_rfl
theorem areg_work_stackAt_call (w_0 : Option Addr) (off_1 : Int) (n_2 : Int) {KP K : Value → Pr} {h : Heap} (s : areg_work_stackAt w_0 off_1 n_2 (fgt KP) (fgt K) h) : WpCall Tryz.prog 51 [(.pointer w_0), (.int .i64 off_1), (.int .i64 n_2)].toArray KP K h :=
  WpCall.of_vc Tryz.mixed Tryz.func51 (by kernel_rfl) Tryz.call51 areg_work_stackAt_ann (by rw [areg_work_stackAt_eq]; exact s)

/- (*halberd/areg.work).solid -/
def areg_work_solid_j1 (K : Value → Pr) (k1 : Int × Unit → Pr) (x2 : Int) (x9 : Bool) : Pr :=
  pIf x9
  (K (.bool false))
  (k1 ((IntKind.i64.wrap (x2 + 1)), ()))
def areg_work_solid_l2 (w_0 : Option Addr) (at_1 : Int) (n_2 : Int) (K : Value → Pr) (k1 : Int × Unit → Pr) (x2 : Int) : Pr :=
  pIf (decide ((x2 : Int) < (IntKind.i64.wrap (at_1 + n_2))))
  (pAssert ((8 : Int) ≠ 0) <| pSome w_0 fun a3 => pIdx (IntKind.i64.wrap ((x2 : Int).tdiv 8)) 8 <| pLdA 20 (((a3.add 0).add 132).add (((IntKind.i64.wrap ((x2 : Int).tdiv 8)) : Int).toNat * 20)) fun x4 => pNew (zc Tryz.prog 32) fun b5 => pStA 20 ⟨b5, 0, none⟩ x4 <| pJoin (σ := Bool × Unit)
  (fun k6 => pLd (.int .i64) (((⟨b5, 0, none⟩ : Addr).add 0).add 0) fun (x7 : Int) => pIf (decide ((x7 : Int) > 1))
  (k6 (true, ()))
  (pAssert ((8 : Int) ≠ 0) <| pIdx ((x2 : Int).tmod 8) 8 <| pLd .bool (((⟨b5, 0, none⟩ : Addr).add 12).add ((((x2 : Int).tmod 8) : Int).toNat * 1)) fun (x8 : Bool) => k6 ((!x8), ())))
  (fun s => areg_work_solid_j1 K k1 x2 s.1))
  (K (.bool true))
def areg_work_solid (w_0 : Option Addr) (at_1 : Int) (n_2 : Int) (KP K : Value → Pr) : Pr :=
  pLoop (σ := Int × Unit) (fun s k1 => areg_work_solid_l2 w_0 at_1 n_2 K k1 s.1) (at_1, ())
def areg_work_solid_ann : Ann := .two (.none) (.two (.two (.none) (.sub (.loop [(7, (.int .i64))] (.two (.two (.none) (.two (.none) (.none))) (.two (.sub (.two (.none) (.join (.none) (.two (.two (.none) (.none)) (.none)) [(36, .bool)]))) (.none)))))) (.two (.none) (.none)))
theorem areg_work_solid_eq (w_0 : Option Addr) (at_1 : Int) (n_2 : Int) (KP K : Value → Pr) : vcBody Tryz.prog Tryz.f52 (Tryz.f52.body.getD .skip) areg_work_solid_ann [(.pointer w_0), (.int .i64 at_1), (.int .i64 n_2)] KP K = areg_work_solid w_0 at_1 n_2 KP K := by kernel_rfl
theorem areg_work_solid_call (w_0 : Option Addr) (at_1 : Int) (n_2 : Int) {KP K : Value → Pr} {h : Heap} (s : areg_work_solid w_0 at_1 n_2 (fgt KP) (fgt K) h) : WpCall Tryz.prog 52 [(.pointer w_0), (.int .i64 at_1), (.int .i64 n_2)].toArray KP K h :=
  WpCall.of_vc Tryz.mixed Tryz.func52 (by kernel_rfl) Tryz.call52 areg_work_solid_ann (by rw [areg_work_solid_eq]; exact s)

/- halberd/hooks.Kind -/
def hooks_Kind_j1 (word_1 : Int) (K : Value → Pr) (b2 : Nat) (x5 : Bool) : Pr :=
  pIf x5
  (K (.tuple [(.int .u8 0), (.bool false)].toArray))
  (pLd .slice ((⟨b2, 0, none⟩ : Addr).add 1) fun (x6 : Sl) => pIdx word_1 x6.len <| pSome x6.base fun a7 => pLd (.int .u8) (a7.add ((word_1 : Int).toNat * 1)) fun (x8 : Int) => K (.tuple [(.int .u8 x8), (.bool true)].toArray))
def hooks_Kind (hook_0 : Int) (word_1 : Int) (KP K : Value → Pr) : Pr :=
  pCall Tryz.prog 97 [(.int .i64 hook_0)] KP (.many [.agg, .bool]) fun (r1 : (List Value) × Bool × Unit) => pNew (zc Tryz.prog 158) fun b2 => pStA 3 ⟨b2, 0, none⟩ r1.1 <| pJoin (σ := Bool × Unit)
  (fun k3 => pIf (!r1.2.1)
  (k3 (true, ()))
  (pIf (decide ((word_1 : Int) < 0))
  (k3 (true, ()))
  (pLd .slice ((⟨b2, 0, none⟩ : Addr).add 1) fun (x4 : Sl) => k3 ((decide ((word_1 : Int) ≥ (x4.len : Int))), ()))))
  (fun s => hooks_Kind_j1 word_1 K b2 s.1)
def hooks_Kind_ann : Ann := .two (.none) (.two (.none) (.two (.join (.none) (.two (.two (.none) (.none)) (.none)) [(25, .bool)]) (.two (.none) (.none))))
theorem hooks_Kind_eq (hook_0 : Int) (word_1 : Int) (KP K : Value → Pr) : vcBody Tryz.prog Tryz.f53 (Tryz.f53.body.getD .skip) hooks_Kind_ann [(.int .i64 hook_0), (.int .i64 word_1)] KP K = hooks_Kind hook_0 word_1 KP K := by kernel_rfl
theorem hooks_Kind_call (hook_0 : Int) (word_1 : Int) {KP K : Value → Pr} {h : Heap} (s : hooks_Kind hook_0 word_1 (fgt KP) (fgt K) h) : WpCall Tryz.prog 53 [(.int .i64 hook_0), (.int .i64 word_1)].toArray KP K h :=
  WpCall.of_vc Tryz.mixed Tryz.func53 (by kernel_rfl) Tryz.call53 hooks_Kind_ann (by rw [hooks_Kind_eq]; exact s)

/- slices.Contains[[]int,int] -/
def slices_Contains_int_int (s_0 : Sl) (v_1 : Int) (KP K : Value → Pr) : Pr :=
  pCall Tryz.prog 98 [(.slice s_0.base s_0.len s_0.cap), (.int .i64 v_1)] KP (.one (.int .i64)) fun (r1 : Int) => K (.bool (decide ((r1 : Int) ≥ 0)))
def slices_Contains_int_int_ann : Ann := .two (.none) (.two (.none) (.none))
theorem slices_Contains_int_int_eq (s_0 : Sl) (v_1 : Int) (KP K : Value → Pr) : vcBody Tryz.prog Tryz.f54 (Tryz.f54.body.getD .skip) slices_Contains_int_int_ann [(.slice s_0.base s_0.len s_0.cap), (.int .i64 v_1)] KP K = slices_Contains_int_int s_0 v_1 KP K := by kernel_rfl
theorem slices_Contains_int_int_call (s_0 : Sl) (v_1 : Int) {KP K : Value → Pr} {h : Heap} (s : slices_Contains_int_int s_0 v_1 (fgt KP) (fgt K) h) : WpCall Tryz.prog 54 [(.slice s_0.base s_0.len s_0.cap), (.int .i64 v_1)].toArray KP K h :=
  WpCall.of_vc Tryz.mixed Tryz.func54 (by kernel_rfl) Tryz.call54 slices_Contains_int_int_ann (by rw [slices_Contains_int_int_eq]; exact s)

/- (*halberd/areg.work).touch -/
def areg_work_touch_j1 (k1 : Int × Unit → Pr) (x2 : Int) (a3 : Addr) : Pr :=
  pSome (some (((a3.add 0).add 132).add (((IntKind.i64.wrap ((x2 : Int).tdiv 8)) : Int).toNat * 20))) fun a8 => pStA 12 (a8.add 0) (lay (zc Tryz.prog 28) []) <| pAssert ((8 : Int) ≠ 0) <| pSome (some (((a3.add 0).add 132).add (((IntKind.i64.wrap ((x2 : Int).tdiv 8)) : Int).toNat * 20))) fun a9 => pIdx ((x2 : Int).tmod 8) 8 <| pSt ((a9.add 12).add ((((x2 : Int).tmod 8) : Int).toNat * 1)) (.bool true) <| k1 ((IntKind.i64.wrap (x2 + 1)), ())
def areg_work_touch_l2 (w_0 : Option Addr) (at_1 : Int) (n_2 : Int) (K : Value → Pr) (k1 : Int × Unit → Pr) (x2 : Int) : Pr :=
  pIf (decide ((x2 : Int) < (IntKind.i64.wrap (at_1 + n_2))))
  (pAssert ((8 : Int) ≠ 0) <| pSome w_0 fun a3 => pIdx (IntKind.i64.wrap ((x2 : Int).tdiv 8)) 8 <| pJoin (σ := Unit)
  (fun k4 => pSome (some (((a3.add 0).add 132).add (((IntKind.i64.wrap ((x2 : Int).tdiv 8)) : Int).toNat * 20))) fun a5 => pLd (.int .i64) ((a5.add 0).add 0) fun (x6 : Int) => pIf (decide ((x6 : Int) > 1))
  (pSome (some (((a3.add 0).add 132).add (((IntKind.i64.wrap ((x2 : Int).tdiv 8)) : Int).toNat * 20))) fun a7 => pStA 8 (a7.add 12) (lay (zc Tryz.prog 30) []) <| k4 (()))
  (k4 (())))
  (fun s => areg_work_touch_j1 k1 x2 a3))
  (K (.tuple [].toArray))
def areg_work_touch (w_0 : Option Addr) (at_1 : Int) (n_2 : Int) (KP K : Value → Pr) : Pr :=
  pLoop (σ := Int × Unit) (fun s k1 => areg_work_touch_l2 w_0 at_1 n_2 K k1 s.1) (at_1, ())
def areg_work_touch_ann : Ann := .two (.none) (.sub (.loop [(6, (.int .i64))] (.two (.two (.none) (.two (.none) (.none))) (.two (.sub (.two (.none) (.join (.two (.none) (.two (.none) (.none))) (.two (.none) (.none)) []))) (.none)))))
theorem areg_work_touch_eq (w_0 : Option Addr) (at_1 : Int) (n_2 : Int) (KP K : Value → Pr) : vcBody Tryz.prog Tryz.f55 (Tryz.f55.body.getD .skip) areg_work_touch_ann [(.pointer w_0), (.int .i64 at_1), (.int .i64 n_2)] KP K = areg_work_touch w_0 at_1 n_2 KP K := by kernel_rfl
theorem areg_work_touch_call (w_0 : Option Addr) (at_1 : Int) (n_2 : Int) {KP K : Value → Pr} {h : Heap} (s : areg_work_touch w_0 at_1 n_2 (fgt KP) (fgt K) h) : WpCall Tryz.prog 55 [(.pointer w_0), (.int .i64 at_1), (.int .i64 n_2)].toArray KP K h :=
  WpCall.of_vc Tryz.mixed Tryz.func55 (by kernel_rfl) Tryz.call55 areg_work_touch_ann (by rw [areg_work_touch_eq]; exact s)

/- (*halberd/areg.work).each -/
def areg_work_each_j1 (k2 : Int × Unit → Pr) (x3 : Int) : Pr :=
  k2 ((IntKind.i64.wrap (x3 + 1)), ())
def areg_work_each_j2 (k10 : Int × Unit → Pr) (x11 : Int) : Pr :=
  k10 ((IntKind.i64.wrap (x11 + 1)), ())
def areg_work_each_l3 (w_0 : Option Addr) (do_2 : Value) (KP : Value → Pr) (K : Value → Pr) (b1 : Nat) (k10 : Int × Unit → Pr) (x11 : Int) : Pr :=
  pIf (decide ((x11 : Int) < 8))
  (pJoin (σ := Unit)
  (fun k12 => pSome w_0 fun a13 => pIdx x11 8 <| pLdA 12 ((((a13.add 0).add 132).add ((x11 : Int).toNat * 20)).add 0) fun x14 => pCallV Tryz.prog (.func (.func 99) [].toArray [(.pointer (some ⟨b1, 0, none⟩))].toArray) [(.agg x14.toArray)] KP (.one .bool) fun (r15 : Bool) => pIf r15
  (pSome w_0 fun a16 => pIdx x11 8 <| pSome w_0 fun a17 => pIdx x11 8 <| pCallV Tryz.prog do_2 [(.pointer (some ((((a16.add 0).add 132).add ((x11 : Int).toNat * 20)).add 0))), (.pointer (some (((a17.add 0).add 132).add ((x11 : Int).toNat * 20))))] KP (.many []) fun (r18 : Unit) => k12 (()))
  (k12 (())))
  (fun s => areg_work_each_j2 k10 x11))
  (K (.tuple [].toArray))
def areg_work_each_l4 (w_0 : Option Addr) (do_2 : Value) (KP : Value → Pr) (K : Value → Pr) (b1 : Nat) (k2 : Int × Unit → Pr) (x3 : Int) : Pr :=
  pIf (decide ((x3 : Int) < 11))
  (pJoin (σ := Unit)
  (fun k4 => pSome w_0 fun a5 => pIdx x3 11 <| pLdA 12 (((a5.add 0).add 0).add ((x3 : Int).toNat * 12)) fun x6 => pCallV Tryz.prog (.func (.func 99) [].toArray [(.pointer (some ⟨b1, 0, none⟩))].toArray) [(.agg x6.toArray)] KP (.one .bool) fun (r7 : Bool) => pIf r7
  (pSome w_0 fun a8 => pIdx x3 11 <| pCallV Tryz.prog do_2 [(.pointer (some (((a8.add 0).add 0).add ((x3 : Int).toNat * 12)))), (.pointer none)] KP (.many []) fun (r9 : Unit) => k4 (()))
  (k4 (())))
  (fun s => areg_work_each_j1 k2 x3))
  (pLoop (σ := Int × Unit) (fun s k10 => areg_work_each_l3 w_0 do_2 KP K b1 k10 s.1) (0, ()))
def areg_work_each (w_0 : Option Addr) (id_1 : Int) (do_2 : Value) (KP K : Value → Pr) : Pr :=
  pNew [(.int .i64 id_1)] fun b1 => pLoop (σ := Int × Unit) (fun s k2 => areg_work_each_l4 w_0 do_2 KP K b1 k2 s.1) (0, ())
def areg_work_each_ann : Ann := .two (.none) (.two (.none) (.two (.two (.none) (.sub (.loop [(10, (.int .i64))] (.two (.none) (.two (.two (.none) (.none)) (.join (.sub (.two (.none) (.two (.none) (.two (.none) (.none))))) (.none) [])))))) (.two (.none) (.sub (.loop [(31, (.int .i64))] (.two (.none) (.two (.two (.none) (.none)) (.join (.sub (.two (.none) (.two (.none) (.two (.ord [0, 1, 2, 3, 4, 5, 6, 7, 8, 9, 10, 11, 12, 13, 14]) (.none))))) (.none) []))))))))
theorem areg_work_each_eq (w_0 : Option Addr) (id_1 : Int) (do_2 : Value) (KP K : Value → Pr) : vcBody Tryz.prog Tryz.f56 (Tryz.f56.body.getD .skip) areg_work_each_ann [(.pointer w_0), (.int .i64 id_1), do_2] KP K = areg_work_each w_0 id_1 do_2 KP K := by kernel_rfl
theorem areg_work_each_call (w_0 : Option Addr) (id_1 : Int) (do_2 : Value) {KP K : Value → Pr} {h : Heap} (s : areg_work_each w_0 id_1 do_2 (fgt KP) (fgt K) h) : WpCall Tryz.prog 56 [(.pointer w_0), (.int .i64 id_1), do_2].toArray KP K h :=
  WpCall.of_vc Tryz.mixed Tryz.func56 (by kernel_rfl) Tryz.call56 areg_work_each_ann (by rw [areg_work_each_eq]; exact s)

/- (*halberd/areg.work).same$1 -/
def areg_work_same_1 (x_0 : Option Addr) (p_1 : Option Addr) (p_2 : Addr) (KP K : Value → Pr) : Pr :=
  pLd .bool p_2 fun (x1 : Bool) => pIf (!x1)
  (pSome x_0 fun a2 => pSt (a2.add 10) (.bool false) <| K (.tuple [].toArray))
  (pCall Tryz.prog 18 [(.int .u64 0)] KP (.one .agg) fun (r3 : List Value) => pCall Tryz.prog 17 [(.agg r3.toArray)] KP (.one .agg) fun (r4 : List Value) => pSome x_0 fun a5 => pStA 12 a5 r4 <| pIf (!p_1.isNone)
  (pSome p_1 fun a6 => pStA 8 (a6.add 12) (lay (zc Tryz.prog 30) [(0, (.bool true)), (1, (.bool true)), (2, (.bool true)), (3, (.bool true)), (4, (.bool true)), (5, (.bool true)), (6, (.bool true)), (7, (.bool true))]) <| K (.tuple [].toArray))
  (K (.tuple [].toArray)))
def areg_work_same_1_ann : Ann := .two (.two (.none) (.two (.two (.none) (.none)) (.none))) (.two (.none) (.two (.none) (.two (.none) (.none))))
theorem areg_work_same_1_eq (x_0 : Option Addr) (p_1 : Option Addr) (p_2 : Addr) (KP K : Value → Pr) : vcBody Tryz.prog Tryz.f57 (Tryz.f57.body.getD .skip) areg_work_same_1_ann [(.pointer x_0), (.pointer p_1), (.pointer (some p_2))] KP K = areg_work_same_1 x_0 p_1 p_2 KP K := by kernel_rfl
theorem areg_work_same_1_call (x_0 : Option Addr) (p_1 : Option Addr) (p_2 : Addr) {KP K : Value → Pr} {h : Heap} (s : areg_work_same_1 x_0 p_1 p_2 (fgt KP) (fgt K) h) : WpCall Tryz.prog 57 [(.pointer x_0), (.pointer p_1), (.pointer (some p_2))].toArray KP K h :=
  WpCall.of_vc Tryz.mixed Tryz.func57 (by kernel_rfl) Tryz.call57 areg_work_same_1_ann (by rw [areg_work_same_1_eq]; exact s)

/- (*halberd/areg.work).drop -/
def areg_work_drop (w_0 : Option Addr) (id_1 : Int) (KP K : Value → Pr) : Pr :=
  pNew [(.int .i64 id_1)] fun b1 => pSome w_0 fun a2 => pLd .slice ((a2.add 0).add 292) fun (x3 : Sl) => pCall Tryz.prog 100 [(.slice x3.base x3.len x3.cap), (.func (.func 101) [].toArray [(.pointer (some ⟨b1, 0, none⟩))].toArray)] KP (.one .slice) fun (r4 : Sl) => pSome w_0 fun a5 => pSt ((a5.add 0).add 292) (.slice r4.base r4.len r4.cap) <| K (.tuple [].toArray)
def areg_work_drop_ann : Ann := .two (.none) (.none)
theorem areg_work_drop_eq (w_0 : Option Addr) (id_1 : Int) (KP K : Value → Pr) : vcBody Tryz.prog Tryz.f58 (Tryz.f58.body.getD .skip) areg_work_drop_ann [(.pointer w_0), (.int .i64 id_1)] KP K = areg_work_drop w_0 id_1 KP K := by kernel_rfl
theorem areg_work_drop_call (w_0 : Option Addr) (id_1 : Int) {KP K : Value → Pr} {h : Heap} (s : areg_work_drop w_0 id_1 (fgt KP) (fgt K) h) : WpCall Tryz.prog 58 [(.pointer w_0), (.int .i64 id_1)].toArray KP K h :=
  WpCall.of_vc Tryz.mixed Tryz.func58 (by kernel_rfl) Tryz.call58 areg_work_drop_ann (by rw [areg_work_drop_eq]; exact s)

end Go.Proofs.YtpbhanglcophbaaGreat

set_option linter.unusedVariables false
namespace Go.Proofs.YtpbhanglcophbaaGreat
open Go.Hl
/- halberd/narrow.ways -/
def narrow_ways  (KP K : Value → Pr) : Pr :=
  pNewObj (.map []) fun b1 => pPut (.int .u8) (some b1) (.int .u8 16) (.agg (lay (zc Tryz.prog 124) [(0, (.func (.func 106) [].toArray [].toArray)), (1, (.func (.func 107) [].toArray [].toArray))]).toArray) <| pPut (.int .u8) (some b1) (.int .u8 80) (.agg (lay (zc Tryz.prog 124) [(0, (.func (.func 107) [].toArray [].toArray)), (1, (.func (.func 106) [].toArray [].toArray))]).toArray) <| pCall Tryz.prog 108 [(.func (.func 103) [].toArray [].toArray)] KP (.one .any) fun (r2 : Value) => pFits [(1, (.func (.func 102) [].toArray [].toArray)), (1, r2)] <| pPut (.int .u8) (some b1) (.int .u8 32) (.agg (lay (zc Tryz.prog 124) [(0, (.func (.func 102) [].toArray [].toArray)), (1, r2)]).toArray) <| pCall Tryz.prog 108 [(.func (.func 102) [].toArray [].toArray)] KP (.one .any) fun (r3 : Value) => pFits [(1, (.func (.func 103) [].toArray [].toArray)), (1, r3)] <| pPut (.int .u8) (some b1) (.int .u8 48) (.agg (lay (zc Tryz.prog 124) [(0, (.func (.func 103) [].toArray [].toArray)), (1, r3)]).toArray) <| pCall Tryz.prog 108 [(.func (.func 102) [].toArray [].toArray)] KP (.one .any) fun (r4 : Value) => pFits [(1, r4), (1, (.func (.func 103) [].toArray [].toArray))] <| pPut (.int .u8) (some b1) (.int .u8 160) (.agg (lay (zc Tryz.prog 124) [(0, r4), (1, (.func (.func 103) [].toArray [].toArray))]).toArray) <| pCall Tryz.prog 108 [(.func (.func 103) [].toArray [].toArray)] KP (.one .any) fun (r5 : Value) => pFits [(1, r5), (1, (.func (.func 102) [].toArray [].toArray))] <| pPut (.int .u8) (some b1) (.int .u8 176) (.agg (lay (zc Tryz.prog 124) [(0, r5), (1, (.func (.func 102) [].toArray [].toArray))]).toArray) <| pCall Tryz.prog 108 [(.func (.func 105) [].toArray [].toArray)] KP (.one .any) fun (r6 : Value) => pFits [(1, (.func (.func 104) [].toArray [].toArray)), (1, r6)] <| pPut (.int .u8) (some b1) (.int .u8 96) (.agg (lay (zc Tryz.prog 124) [(0, (.func (.func 104) [].toArray [].toArray)), (1, r6)]).toArray) <| pCall Tryz.prog 108 [(.func (.func 104) [].toArray [].toArray)] KP (.one .any) fun (r7 : Value) => pFits [(1, (.func (.func 105) [].toArray [].toArray)), (1, r7)] <| pPut (.int .u8) (some b1) (.int .u8 112) (.agg (lay (zc Tryz.prog 124) [(0, (.func (.func 105) [].toArray [].toArray)), (1, r7)]).toArray) <| pCall Tryz.prog 108 [(.func (.func 104) [].toArray [].toArray)] KP (.one .any) fun (r8 : Value) => pFits [(1, r8), (1, (.func (.func 105) [].toArray [].toArray))] <| pPut (.int .u8) (some b1) (.int .u8 192) (.agg (lay (zc Tryz.prog 124) [(0, r8), (1, (.func (.func 105) [].toArray [].toArray))]).toArray) <| pCall Tryz.prog 108 [(.func (.func 105) [].toArray [].toArray)] KP (.one .any) fun (r9 : Value) => pFits [(1, r9), (1, (.func (.func 104) [].toArray [].toArray))] <| pPut (.int .u8) (some b1) (.int .u8 208) (.agg (lay (zc Tryz.prog 124) [(0, r9), (1, (.func (.func 104) [].toArray [].toArray))]).toArray) <| pPut (.int .u8) (some b1) (.int .u8 64) (.agg (lay (zc Tryz.prog 124) [(0, (.func (.func 109) [].toArray [].toArray)), (1, (.func (.func 110) [].toArray [].toArray))]).toArray) <| K (.map (some b1))
def narrow_ways_ann : Ann := .two (.none) (.two (.none) (.two (.none) (.two (.none) (.none))))
theorem narrow_ways_eq  (KP K : Value → Pr) : vcBody Tryz.prog Tryz.f59 (Tryz.f59.body.getD .skip) narrow_ways_ann [] KP K = narrow_ways  KP K := by kernel_rfl
theorem narrow_ways_call  {KP K : Value → Pr} {h : Heap} (s : narrow_ways  (fgt KP) (fgt K) h) : WpCall Tryz.prog 59 [].toArray KP K h :=
  WpCall.of_vc Tryz.mixed Tryz.func59 (by kernel_rfl) Tryz.call59 narrow_ways_ann (by rw [narrow_ways_eq]; exact s)

/- halberd/narrow.hasSign -/
def narrow_hasSign_j1 (K : Value → Pr) (x2 : Bool) : Pr :=
  K (.bool x2)
def narrow_hasSign (op_0 : Int) (KP K : Value → Pr) : Pr :=
  pJoin (σ := Bool × Unit)
  (fun k1 => pIf ((op_0 : Int) == 96)
  (k1 (true, ()))
  (pIf ((op_0 : Int) == 112)
  (k1 (true, ()))
  (pIf ((op_0 : Int) == 192)
  (k1 (true, ()))
  (k1 (((op_0 : Int) == 208), ())))))
  (fun s => narrow_hasSign_j1 K s.1)
def narrow_hasSign_ann : Ann := .two (.none) (.join (.none) (.none) [(2, .bool)])
theorem narrow_hasSign_eq (op_0 : Int) (KP K : Value → Pr) : vcBody Tryz.prog Tryz.f60 (Tryz.f60.body.getD .skip) narrow_hasSign_ann [(.int .u8 op_0)] KP K = narrow_hasSign op_0 KP K := by kernel_rfl
theorem narrow_hasSign_call (op_0 : Int) {KP K : Value → Pr} {h : Heap} (s : narrow_hasSign op_0 (fgt KP) (fgt K) h) : WpCall Tryz.prog 60 [(.int .u8 op_0)].toArray KP K h :=
  WpCall.of_vc Tryz.mixed Tryz.func60 (by kernel_rfl) Tryz.call60 narrow_hasSign_ann (by rw [narrow_hasSign_eq]; exact s)

/- halberd/num.Low -/
def num_Low (x_0 : List Value) (n_1 : Int) (KP K : Value → Pr) : Pr :=
  pNew x_0 fun b1 => pLd (.int .u64) ((⟨b1, 0, none⟩ : Addr).add 3) fun (x2 : Int) => pLd (.int .u64) ((⟨b1, 0, none⟩ : Addr).add 3) fun (x3 : Int) => pCall Tryz.prog 87 [(.int .u64 x3), (.int .i64 n_1)] KP (.one (.int .u64)) fun (r4 : Int) => pKeep (loadF Tryz.prog 22 (.pointer (some ((⟨b1, 0, none⟩ : Addr).add 3))) (.int .u64 x2)) <| K (.bool ((x2 : Int) == r4))
def num_Low_ann : Ann := .two (.none) (.two (.ord [0, 2, 4, 1, 3, 5, 6, 7]) (.none))
theorem num_Low_eq (x_0 : List Value) (n_1 : Int) (KP K : Value → Pr) : vcBody Tryz.prog Tryz.f61 (Tryz.f61.body.getD .skip) num_Low_ann [(.agg x_0.toArray), (.int .i64 n_1)] KP K = num_Low x_0 n_1 KP K := by kernel_rfl
theorem num_Low_call (x_0 : List Value) (n_1 : Int) {KP K : Value → Pr} {h : Heap} (s : num_Low x_0 n_1 (fgt KP) (fgt K) h) : WpCall Tryz.prog 61 [(.agg x_0.toArray), (.int .i64 n_1)].toArray KP K h :=
  WpCall.of_vc Tryz.mixed Tryz.func61 (by kernel_rfl) Tryz.call61 num_Low_ann (by rw [num_Low_eq]; exact s)

/- halberd/helpers.table -/
def helpers_table  (KP K : Value → Pr) : Pr :=
  pNew (lay (reps 2 (zc Tryz.prog 3)) [(0, (.int .i64 1)), (1, (.int .i64 2))]) fun b1 => pNewObj (.map []) fun b2 => pNew (lay (reps 2 (zc Tryz.prog 5)) [(0, (.int .u8 1)), (1, (.int .u8 2))]) fun b3 => pPut (.int .i64) (some b2) (.int .i64 1) (.agg (lay (zc Tryz.prog 84) [(0, (.string (⟨#[108, 111, 111, 107, 117, 112]⟩ : ByteArray))), (1, (.slice (some ⟨b3, 0, none⟩) 2 2)), (2, (.slice (some ⟨b1, 0, none⟩) 2 2)), (3, (.int .u8 2))]).toArray) <| pNew (lay (reps 4 (zc Tryz.prog 5)) [(0, (.int .u8 1)), (1, (.int .u8 2)), (2, (.int .u8 3)), (3, (.int .u8 4))]) fun b4 => pPut (.int .i64) (some b2) (.int .i64 2) (.agg (lay (zc Tryz.prog 84) [(0, (.string (⟨#[117, 112, 100, 97, 116, 101]⟩ : ByteArray))), (1, (.slice (some ⟨b4, 0, none⟩) 4 4)), (2, (.slice (some ⟨b1, 0, none⟩) 2 2)), (3, (.int .u8 1))]).toArray) <| pNew (lay (reps 2 (zc Tryz.prog 5)) [(0, (.int .u8 1)), (1, (.int .u8 2))]) fun b5 => pNew (lay (reps 1 (zc Tryz.prog 3)) [(0, (.int .i64 2))]) fun b6 => pPut (.int .i64) (some b2) (.int .i64 3) (.agg (lay (zc Tryz.prog 84) [(0, (.string (⟨#[100, 101, 108, 101, 116, 101]⟩ : ByteArray))), (1, (.slice (some ⟨b5, 0, none⟩) 2 2)), (2, (.slice (some ⟨b6, 0, none⟩) 1 1)), (3, (.int .u8 1))]).toArray) <| pNew (lay (reps 3 (zc Tryz.prog 5)) [(0, (.int .u8 1)), (1, (.int .u8 5)), (2, (.int .u8 4))]) fun b7 => pNew (lay (reps 1 (zc Tryz.prog 3)) [(0, (.int .i64 3))]) fun b8 => pPut (.int .i64) (some b2) (.int .i64 4) (.agg (lay (zc Tryz.prog 84) [(0, (.string (⟨#[105, 110, 111, 100, 101, 95, 103, 101, 116]⟩ : ByteArray))), (1, (.slice (some ⟨b7, 0, none⟩) 3 3)), (2, (.slice (some ⟨b8, 0, none⟩) 1 1)), (3, (.int .u8 2))]).toArray) <| pNew (lay (reps 3 (zc Tryz.prog 5)) [(0, (.int .u8 1)), (1, (.int .u8 6)), (2, (.int .u8 4))]) fun b9 => pNew (lay (reps 1 (zc Tryz.prog 3)) [(0, (.int .i64 4))]) fun b10 => pPut (.int .i64) (some b2) (.int .i64 5) (.agg (lay (zc Tryz.prog 84) [(0, (.string (⟨#[116, 97, 115, 107, 95, 103, 101, 116]⟩ : ByteArray))), (1, (.slice (some ⟨b9, 0, none⟩) 3 3)), (2, (.slice (some ⟨b10, 0, none⟩) 1 1)), (3, (.int .u8 2))]).toArray) <| pNew (lay (reps 2 (zc Tryz.prog 5)) [(0, (.int .u8 1)), (1, (.int .u8 5))]) fun b11 => pNew (lay (reps 1 (zc Tryz.prog 3)) [(0, (.int .i64 3))]) fun b12 => pPut (.int .i64) (some b2) (.int .i64 6) (.agg (lay (zc Tryz.prog 84) [(0, (.string (⟨#[105, 110, 111, 100, 101, 95, 100, 101, 108]⟩ : ByteArray))), (1, (.slice (some ⟨b11, 0, none⟩) 2 2)), (2, (.slice (some ⟨b12, 0, none⟩) 1 1)), (3, (.int .u8 1))]).toArray) <| pNew (lay (reps 2 (zc Tryz.prog 5)) [(0, (.int .u8 1)), (1, (.int .u8 6))]) fun b13 => pNew (lay (reps 1 (zc Tryz.prog 3)) [(0, (.int .i64 4))]) fun b14 => pPut (.int .i64) (some b2) (.int .i64 7) (.agg (lay (zc Tryz.prog 84) [(0, (.string (⟨#[116, 97, 115, 107, 95, 100, 101, 108]⟩ : ByteArray))), (1, (.slice (some ⟨b13, 0, none⟩) 2 2)), (2, (.slice (some ⟨b14, 0, none⟩) 1 1)), (3, (.int .u8 1))]).toArray) <| pNew (lay (reps 2 (zc Tryz.prog 5)) [(0, (.int .u8 1)), (1, (.int .u8 7))]) fun b15 => pNew (lay (reps 1 (zc Tryz.prog 3)) [(0, (.int .i64 5))]) fun b16 => pPut (.int .i64) (some b2) (.int .i64 8) (.agg (lay (zc Tryz.prog 84) [(0, (.string (⟨#[114, 101, 115, 101, 114, 118, 101]⟩ : ByteArray))), (1, (.slice (some ⟨b15, 0, none⟩) 2 2)), (2, (.slice (some ⟨b16, 0, none⟩) 1 1)), (3, (.int .u8 3))]).toArray) <| pNew (lay (reps 1 (zc Tryz.prog 5)) [(0, (.int .u8 9))]) fun b17 => pPut (.int .i64) (some b2) (.int .i64 9) (.agg (lay (zc Tryz.prog 84) [(0, (.string (⟨#[115, 117, 98, 109, 105, 116]⟩ : ByteArray))), (1, (.slice (some ⟨b17, 0, none⟩) 1 1)), (3, (.int .u8 1))]).toArray) <| pNew (lay (reps 1 (zc Tryz.prog 5)) [(0, (.int .u8 9))]) fun b18 => pPut (.int .i64) (some b2) (.int .i64 10) (.agg (lay (zc Tryz.prog 84) [(0, (.string (⟨#[100, 105, 115, 99, 97, 114, 100]⟩ : ByteArray))), (1, (.slice (some ⟨b18, 0, none⟩) 1 1)), (3, (.int .u8 1))]).toArray) <| pPut (.int .i64) (some b2) (.int .i64 11) (.agg (lay (zc Tryz.prog 84) [(0, (.string (⟨#[110, 111, 119]⟩ : ByteArray))), (3, (.int .u8 1))]).toArray) <| pNew (lay (reps 3 (zc Tryz.prog 5)) [(0, (.int .u8 5)), (1, (.int .u8 8)), (2, (.int .u8 7))]) fun b19 => pPut (.int .i64) (some b2) (.int .i64 12) (.agg (lay (zc Tryz.prog 84) [(0, (.string (⟨#[112, 97, 116, 104]⟩ : ByteArray))), (1, (.slice (some ⟨b19, 0, none⟩) 3 3)), (3, (.int .u8 1))]).toArray) <| pNew (lay (reps 2 (zc Tryz.prog 5)) [(0, (.int .u8 6)), (1, (.int .u8 4))]) fun b20 => pPut (.int .i64) (some b2) (.int .i64 13) (.agg (lay (zc Tryz.prog 84) [(0, (.string (⟨#[105, 110, 115, 105, 100, 101]⟩ : ByteArray))), (1, (.slice (some ⟨b20, 0, none⟩) 2 2)), (3, (.int .u8 1))]).toArray) <| K (.map (some b2))
def helpers_table_ann : Ann := .two (.none) (.two (.none) (.two (.none) (.none)))
theorem helpers_table_eq  (KP K : Value → Pr) : vcBody Tryz.prog Tryz.f62 (Tryz.f62.body.getD .skip) helpers_table_ann [] KP K = helpers_table  KP K := by kernel_rfl
theorem helpers_table_call  {KP K : Value → Pr} {h : Heap} (s : helpers_table  (fgt KP) (fgt K) h) : WpCall Tryz.prog 62 [].toArray KP K h :=
  WpCall.of_vc Tryz.mixed Tryz.func62 (by kernel_rfl) Tryz.call62 helpers_table_ann (by rw [helpers_table_eq]; exact s)

/- halberd/helpers.Suits -/
def helpers_Suits_j1 (K : Value → Pr) (x7 : Bool) : Pr :=
  K (.bool x7)
def helpers_Suits (n_0 : Int) (kind_1 : Int) (KP K : Value → Pr) : Pr :=
  pNew [(.int .i64 kind_1)] fun b1 => pCall Tryz.prog 37 [(.int .i64 n_0)] KP (.many [.agg, .bool]) fun (r2 : (List Value) × Bool × Unit) => pNew (zc Tryz.prog 84) fun b3 => pStA 4 ⟨b3, 0, none⟩ r2.1 <| pJoin (σ := Bool × Unit)
  (fun k4 => pIf r2.2.1
  (pLd .slice ((⟨b3, 0, none⟩ : Addr).add 2) fun (x5 : Sl) => pCall Tryz.prog 111 [(.slice x5.base x5.len x5.cap), (.func (.func 112) [].toArray [(.pointer (some ⟨b1, 0, none⟩))].toArray)] KP (.one .bool) fun (r6 : Bool) => k4 (r6, ()))
  (k4 (false, ())))
  (fun s => helpers_Suits_j1 K s.1)
def helpers_Suits_ann : Ann := .two (.none) (.two (.none) (.join (.none) (.none) [(4, .bool)]))
theorem helpers_Suits_eq (n_0 : Int) (kind_1 : Int) (KP K : Value → Pr) : vcBody Tryz.prog Tryz.f63 (Tryz.f63.body.getD .skip) helpers_Suits_ann [(.int .i64 n_0), (.int .i64 kind_1)] KP K = helpers_Suits n_0 kind_1 KP K := by kernel_rfl
theorem helpers_Suits_call (n_0 : Int) (kind_1 : Int) {KP K : Value → Pr} {h : Heap} (s : helpers_Suits n_0 kind_1 (fgt KP) (fgt K) h) : WpCall Tryz.prog 63 [(.int .i64 n_0), (.int .i64 kind_1)].toArray KP K h :=
  WpCall.of_vc Tryz.mixed Tryz.func63 (by kernel_rfl) Tryz.call63 helpers_Suits_ann (by rw [helpers_Suits_eq]; exact s)

/- (*halberd/areg.call).stackBytes -/
def areg_call_stackBytes_j1 (c_0 : Option Addr) (n_2 : Int) (KP : Value → Pr) (K : Value → Pr) (b1 : Nat) (x10 : Bool) : Pr :=
  pIf x10
  (K (.tuple [].toArray))
  (pSome c_0 fun a11 => pLd .ptr (a11.add 0) fun (x12 : Option Addr) => pLd (.int .i64) ((⟨b1, 0, none⟩ : Addr).add 7) fun (x13 : Int) => pCall Tryz.prog 51 [(.pointer x12), (.int .i64 x13), (.int .i64 n_2)] KP (.one (.int .i64)) fun (r14 : Int) => pSome c_0 fun a15 => pSome c_0 fun a16 => pLd .ptr (a15.add 0) fun (x17 : Option Addr) => pLd .ptr (a16.add 0) fun (x18 : Option Addr) => pSome x18 fun a19 => pLd .bool (a19.add 294) fun (x20 : Bool) => pIf x20
  (pCall Tryz.prog 24 [(.pointer x17), (.bool true)] KP (.one .bool) fun (r21 : Bool) => K (.tuple [].toArray))
  (pSome c_0 fun a22 => pLd .ptr (a22.add 0) fun (x23 : Option Addr) => pCall Tryz.prog 52 [(.pointer x23), (.int .i64 r14), (.int .i64 n_2)] KP (.one .bool) fun (r24 : Bool) => pKeep (loadF Tryz.prog 58 (.pointer (some (a15.add 0))) (.pointer x17)) <| pCall Tryz.prog 24 [(.pointer x17), (.bool r24)] KP (.one .bool) fun (r25 : Bool) => K (.tuple [].toArray)))
def areg_call_stackBytes (c_0 : Option Addr) (a_1 : List Value) (n_2 : Int) (KP K : Value → Pr) : Pr :=
  pNew a_1 fun b1 => pJoin (σ := Bool × Unit)
  (fun k2 => pSome c_0 fun a3 => pLd .ptr (a3.add 0) fun (x4 : Option Addr) => pLd (.int .i64) ((⟨b1, 0, none⟩ : Addr).add 0) fun (x5 : Int) => pIf ((x5 : Int) == 2)
  (pLd (.int .i64) ((⟨b1, 0, none⟩ : Addr).add 7) fun (x6 : Int) => pCall Tryz.prog 28 [(.int .i64 x6)] KP (.one .bool) fun (r7 : Bool) => pKeep (loadF Tryz.prog 58 (.pointer (some (a3.add 0))) (.pointer x4)) <| pCall Tryz.prog 24 [(.pointer x4), (.bool r7)] KP (.one .bool) fun (r8 : Bool) => k2 ((!r8), ()))
  (pCall Tryz.prog 24 [(.pointer x4), (.bool false)] KP (.one .bool) fun (r9 : Bool) => k2 ((!r9), ())))
  (fun s => areg_call_stackBytes_j1 c_0 n_2 KP K b1 s.1)
def areg_call_stackBytes_ann : Ann := .two (.none) (.two (.join (.ord [0, 1, 2, 4, 3, 5, 6, 7, 8, 9, 10, 11, 12, 13]) (.two (.none) (.none)) [(20, .bool)]) (.two (.ord [0, 1, 2, 4, 6, 3, 5, 7, 8]) (.ord [0, 1, 2, 4, 5, 6, 3, 7, 8, 9, 10, 11, 12, 13, 14, 16, 17, 15, 18, 19, 20])))
theorem areg_call_stackBytes_eq (c_0 : Option Addr) (a_1 : List Value) (n_2 : Int) (KP K : Value → Pr) : vcBody Tryz.prog Tryz.f64 (Tryz.f64.body.getD .skip) areg_call_stackBytes_ann [(.pointer c_0), (.agg a_1.toArray), (.int .i64 n_2)] KP K = areg_call_stackBytes c_0 a_1 n_2 KP K := by kernel_rfl
theorem areg_call_stackBytes_call (c_0 : Option Addr) (a_1 : List Value) (n_2 : Int) {KP K : Value → Pr} {h : Heap} (s : areg_call_stackBytes c_0 a_1 n_2 (fgt KP) (fgt K) h) : WpCall Tryz.prog 64 [(.pointer c_0), (.agg a_1.toArray), (.int .i64 n_2)].toArray KP K h :=
  WpCall.of_vc Tryz.mixed Tryz.func64 (by kernel_rfl) Tryz.call64 areg_call_stackBytes_ann (by rw [areg_call_stackBytes_eq]; exact s)

/- halberd/areg.plain -/
def areg_plain_j1 (K : Value → Pr) (x7 : Bool) : Pr :=
  K (.bool x7)
def areg_plain (a_0 : List Value) (kind_1 : Int) (KP K : Value → Pr) : Pr :=
  pNew a_0 fun b1 => pJoin (σ := Bool × Unit)
  (fun k2 => pLd (.int .i64) ((⟨b1, 0, none⟩ : Addr).add 0) fun (x3 : Int) => pIf ((x3 : Int) == kind_1)
  (pLd .bool ((⟨b1, 0, none⟩ : Addr).add 10) fun (x4 : Bool) => pIf (!x4)
  (pLd (.int .i64) ((⟨b1, 0, none⟩ : Addr).add 7) fun (x5 : Int) => pIf ((x5 : Int) == 0)
  (pLd (.int .i64) ((⟨b1, 0, none⟩ : Addr).add 8) fun (x6 : Int) => k2 (((x6 : Int) == 0), ()))
  (k2 (false, ())))
  (k2 (false, ())))
  (k2 (false, ())))
  (fun s => areg_plain_j1 K s.1)
def areg_plain_ann : Ann := .two (.none) (.join (.none) (.none) [(4, .bool)])
theorem areg_plain_eq (a_0 : List Value) (kind_1 : Int) (KP K : Value → Pr) : vcBody Tryz.prog Tryz.f65 (Tryz.f65.body.getD .skip) areg_plain_ann [(.agg a_0.toArray), (.int .i64 kind_1)] KP K = areg_plain a_0 kind_1 KP K := by kernel_rfl
theorem areg_plain_call (a_0 : List Value) (kind_1 : Int) {KP K : Value → Pr} {h : Heap} (s : areg_plain a_0 kind_1 (fgt KP) (fgt K) h) : WpCall Tryz.prog 65 [(.agg a_0.toArray), (.int .i64 kind_1)].toArray KP K h :=
  WpCall.of_vc Tryz.mixed Tryz.func65 (by kernel_rfl) Tryz.call65 areg_plain_ann (by rw [areg_plain_eq]; exact s)

/- halberd/areg.constant -/
def areg_constant_j1 (K : Value → Pr) (r3 : Int × Bool × Unit) (x6 : Bool) : Pr :=
  pIf x6
  (K (.int .i64 0))
  (K (.int .i64 (IntKind.i64.wrap r3.1)))
def areg_constant (a_0 : List Value) (KP K : Value → Pr) : Pr :=
  pNew a_0 fun b1 => pLdA 6 ((⟨b1, 0, none⟩ : Addr).add 1) fun x2 => pCall Tryz.prog 43 [(.agg x2.toArray)] KP (.many [(.int .u64), .bool]) fun (r3 : Int × Bool × Unit) => pJoin (σ := Bool × Unit)
  (fun k4 => pLd (.int .i64) ((⟨b1, 0, none⟩ : Addr).add 0) fun (x5 : Int) => pIf ((x5 : Int) != 1)
  (k4 (true, ()))
  (pIf (!r3.2.1)
  (k4 (true, ()))
  (pIf (decide ((r3.1 : Int) < 1))
  (k4 (true, ()))
  (k4 ((decide ((r3.1 : Int) > 32)), ())))))
  (fun s => areg_constant_j1 K r3 s.1)
def areg_constant_ann : Ann := .two (.none) (.two (.none) (.two (.join (.none) (.two (.two (.none) (.none)) (.none)) [(25, .bool)]) (.two (.none) (.none))))
theorem areg_constant_eq (a_0 : List Value) (KP K : Value → Pr) : vcBody Tryz.prog Tryz.f66 (Tryz.f66.body.getD .skip) areg_constant_ann [(.agg a_0.toArray)] KP K = areg_constant a_0 KP K := by kernel_rfl
theorem areg_constant_call (a_0 : List Value) {KP K : Value → Pr} {h : Heap} (s : areg_constant a_0 (fgt KP) (fgt K) h) : WpCall Tryz.prog 66 [(.agg a_0.toArray)].toArray KP K h :=
  WpCall.of_vc Tryz.mixed Tryz.func66 (by kernel_rfl) Tryz.call66 areg_constant_ann (by rw [areg_constant_eq]; exact s)

end Go.Proofs.YtpbhanglcophbaaGreat

set_option linter.unusedVariables false
namespace Go.Proofs.YtpbhanglcophbaaGreat
open Go.Hl
/- (*halberd/areg.call).slot -/
def areg_call_slot (c_0 : Option Addr) (KP K : Value → Pr) : Pr :=
  pNew (zc Tryz.prog 28) fun b1 => pSome c_0 fun a2 => pLd (.int .i64) (a2.add 7) fun (x3 : Int) => pCall Tryz.prog 113 [(.pointer c_0), (.int .i64 5), (.int .i64 x3)] KP (.one .agg) fun (r4 : List Value) => pStA 12 ⟨b1, 0, none⟩ r4 <| pLdA 12 ⟨b1, 0, none⟩ fun x5 => K (.agg x5.toArray)
def areg_call_slot_ann : Ann := .two (.none) (.two (.none) (.none))
theorem areg_call_slot_eq (c_0 : Option Addr) (KP K : Value → Pr) : vcBody Tryz.prog Tryz.f67 (Tryz.f67.body.getD .skip) areg_call_slot_ann [(.pointer c_0)] KP K = areg_call_slot c_0 KP K := by kernel_rfl
theorem areg_call_slot_call (c_0 : Option Addr) {KP K : Value → Pr} {h : Heap} (s : areg_call_slot c_0 (fgt KP) (fgt K) h) : WpCall Tryz.prog 67 [(.pointer c_0)].toArray KP K h :=
  WpCall.of_vc Tryz.mixed Tryz.func67 (by kernel_rfl) Tryz.call67 areg_call_slot_ann (by rw [areg_call_slot_eq]; exact s)

/- (*halberd/areg.call).any -/
def areg_call_any (c_0 : Option Addr) (KP K : Value → Pr) : Pr :=
  pNew (zc Tryz.prog 28) fun b1 => pCall Tryz.prog 45 [] KP (.one .agg) fun (r2 : List Value) => pCall Tryz.prog 17 [(.agg r2.toArray)] KP (.one .agg) fun (r3 : List Value) => pStA 12 ⟨b1, 0, none⟩ r3 <| pLdA 12 ⟨b1, 0, none⟩ fun x4 => K (.agg x4.toArray)
def areg_call_any_ann : Ann := .two (.none) (.two (.none) (.none))
theorem areg_call_any_eq (c_0 : Option Addr) (KP K : Value → Pr) : vcBody Tryz.prog Tryz.f68 (Tryz.f68.body.getD .skip) areg_call_any_ann [(.pointer c_0)] KP K = areg_call_any c_0 KP K := by kernel_rfl
theorem areg_call_any_call (c_0 : Option Addr) {KP K : Value → Pr} {h : Heap} (s : areg_call_any c_0 (fgt KP) (fgt K) h) : WpCall Tryz.prog 68 [(.pointer c_0)].toArray KP K h :=
  WpCall.of_vc Tryz.mixed Tryz.func68 (by kernel_rfl) Tryz.call68 areg_call_any_ann (by rw [areg_call_any_eq]; exact s)

/- (*halberd/areg.call).reserve -/
def areg_call_reserve (c_0 : Option Addr) (KP K : Value → Pr) : Pr :=
  pNew (zc Tryz.prog 28) fun b1 => pSome c_0 fun a2 => pLd (.int .i64) (a2.add 8) fun (x3 : Int) => pCall Tryz.prog 113 [(.pointer c_0), (.int .i64 6), (.int .i64 x3)] KP (.one .agg) fun (r4 : List Value) => pNew (zc Tryz.prog 28) fun b5 => pStA 12 ⟨b5, 0, none⟩ r4 <| pSome c_0 fun a6 => pSome c_0 fun a7 => pLd .ptr (a6.add 0) fun (x8 : Option Addr) => pLd .ptr (a7.add 0) fun (x9 : Option Addr) => pSome x9 fun a10 => pLd .slice ((a10.add 0).add 292) fun (x11 : Sl) => pLd (.int .i64) ((⟨b5, 0, none⟩ : Addr).add 11) fun (x12 : Int) => pNew (lay (reps 1 (zc Tryz.prog 3)) [(0, (.int .i64 x12))]) fun b13 => pAppend 1 8 x11 ⟨(some ⟨b13, 0, none⟩), 1, 1⟩ fun s14 => pKeep (loadF Tryz.prog 58 (.pointer (some (a6.add 0))) (.pointer x8)) <| pSome x8 fun a15 => pSt ((a15.add 0).add 292) (.slice s14.base s14.len s14.cap) <| pLdA 12 ⟨b5, 0, none⟩ fun x16 => pStA 12 ⟨b1, 0, none⟩ x16 <| pLdA 12 ⟨b1, 0, none⟩ fun x17 => K (.agg x17.toArray)
def areg_call_reserve_ann : Ann := .two (.none) (.two (.none) (.two (.ord [0, 1, 2, 4, 5, 6, 12, 3, 7, 8, 9, 10, 11, 13, 14, 15, 16, 17, 18, 19]) (.two (.none) (.none))))
theorem areg_call_reserve_eq (c_0 : Option Addr) (KP K : Value → Pr) : vcBody Tryz.prog Tryz.f69 (Tryz.f69.body.getD .skip) areg_call_reserve_ann [(.pointer c_0)] KP K = areg_call_reserve c_0 KP K := by kernel_rfl
theorem areg_call_reserve_call (c_0 : Option Addr) {KP K : Value → Pr} {h : Heap} (s : areg_call_reserve c_0 (fgt KP) (fgt K) h) : WpCall Tryz.prog 69 [(.pointer c_0)].toArray KP K h :=
  WpCall.of_vc Tryz.mixed Tryz.func69 (by kernel_rfl) Tryz.call69 areg_call_reserve_ann (by rw [areg_call_reserve_eq]; exact s)

/- (*halberd/areg.call).end -/
def areg_call_end (c_0 : Option Addr) (KP K : Value → Pr) : Pr :=
  pNew (zc Tryz.prog 28) fun b1 => pSome c_0 fun a2 => pSome c_0 fun a3 => pLd .ptr (a2.add 0) fun (x4 : Option Addr) => pLd (.int .i64) (a3.add 10) fun (x5 : Int) => pCall Tryz.prog 56 [(.pointer x4), (.int .i64 x5), (.func (.func 114) [].toArray [].toArray)] KP (.many []) fun (r6 : Unit) => pSome c_0 fun a7 => pSome c_0 fun a8 => pLd .ptr (a7.add 0) fun (x9 : Option Addr) => pLd (.int .i64) (a8.add 10) fun (x10 : Int) => pCall Tryz.prog 58 [(.pointer x9), (.int .i64 x10)] KP (.many []) fun (r11 : Unit) => pCall Tryz.prog 18 [(.int .u64 0)] KP (.one .agg) fun (r12 : List Value) => pCall Tryz.prog 17 [(.agg r12.toArray)] KP (.one .agg) fun (r13 : List Value) => pStA 12 ⟨b1, 0, none⟩ r13 <| pLdA 12 ⟨b1, 0, none⟩ fun x14 => K (.agg x14.toArray)
def areg_call_end_ann : Ann := .two (.none) (.two (.ord [0, 1, 2, 4, 5, 6, 3, 7, 8]) (.two (.ord [0, 1, 2, 4, 5, 6, 3, 7, 8]) (.two (.none) (.none))))
theorem areg_call_end_eq (c_0 : Option Addr) (KP K : Value → Pr) : vcBody Tryz.prog Tryz.f70 (Tryz.f70.body.getD .skip) areg_call_end_ann [(.pointer c_0)] KP K = areg_call_end c_0 KP K := by kernel_rfl
theorem areg_call_end_call (c_0 : Option Addr) {KP K : Value → Pr} {h : Heap} (s : areg_call_end c_0 (fgt KP) (fgt K) h) : WpCall Tryz.prog 70 [(.pointer c_0)].toArray KP K h :=
  WpCall.of_vc Tryz.mixed Tryz.func70 (by kernel_rfl) Tryz.call70 areg_call_end_ann (by rw [areg_call_end_eq]; exact s)

/- (*halberd/areg.call).path -/
def areg_call_path (c_0 : Option Addr) (KP K : Value → Pr) : Pr :=
  pNew (zc Tryz.prog 28) fun b1 => pSome c_0 fun a2 => pSome c_0 fun a3 => pSome c_0 fun a4 => pLd .ptr (a2.add 0) fun (x5 : Option Addr) => pLd (.int .i64) (a3.add 9) fun (x6 : Int) => pLd (.int .i64) (a4.add 8) fun (x7 : Int) => pCall Tryz.prog 55 [(.pointer x5), (.int .i64 x6), (.int .i64 x7)] KP (.many []) fun (r8 : Unit) => pSome c_0 fun a9 => pLd (.int .i64) (a9.add 8) fun (x10 : Int) => pCall Tryz.prog 50 [(.int .u64 (IntKind.u64.wrap x10))] KP (.one .agg) fun (r11 : List Value) => pStA 12 ⟨b1, 0, none⟩ r11 <| pLdA 12 ⟨b1, 0, none⟩ fun x12 => K (.agg x12.toArray)
def areg_call_path_ann : Ann := .two (.none) (.two (.ord [0, 1, 2, 4, 5, 6, 8, 9, 10, 3, 7, 11, 12]) (.two (.none) (.none)))
theorem areg_call_path_eq (c_0 : Option Addr) (KP K : Value → Pr) : vcBody Tryz.prog Tryz.f71 (Tryz.f71.body.getD .skip) areg_call_path_ann [(.pointer c_0)] KP K = areg_call_path c_0 KP K := by kernel_rfl
theorem areg_call_path_call (c_0 : Option Addr) {KP K : Value → Pr} {h : Heap} (s : areg_call_path c_0 (fgt KP) (fgt K) h) : WpCall Tryz.prog 71 [(.pointer c_0)].toArray KP K h :=
  WpCall.of_vc Tryz.mixed Tryz.func71 (by kernel_rfl) Tryz.call71 areg_call_path_ann (by rw [areg_call_path_eq]; exact s)

/- (*halberd/areg.call).inside -/
def areg_call_inside (c_0 : Option Addr) (KP K : Value → Pr) : Pr :=
  pNew (zc Tryz.prog 28) fun b1 => pCall Tryz.prog 50 [(.int .u64 1)] KP (.one .agg) fun (r2 : List Value) => pStA 12 ⟨b1, 0, none⟩ r2 <| pLdA 12 ⟨b1, 0, none⟩ fun x3 => K (.agg x3.toArray)
def areg_call_inside_ann : Ann := .two (.none) (.two (.none) (.none))
theorem areg_call_inside_eq (c_0 : Option Addr) (KP K : Value → Pr) : vcBody Tryz.prog Tryz.f72 (Tryz.f72.body.getD .skip) areg_call_inside_ann [(.pointer c_0)] KP K = areg_call_inside c_0 KP K := by kernel_rfl
theorem areg_call_inside_call (c_0 : Option Addr) {KP K : Value → Pr} {h : Heap} (s : areg_call_inside c_0 (fgt KP) (fgt K) h) : WpCall Tryz.prog 72 [(.pointer c_0)].toArray KP K h :=
  WpCall.of_vc Tryz.mixed Tryz.func72 (by kernel_rfl) Tryz.call72 areg_call_inside_ann (by rw [areg_call_inside_eq]; exact s)

/- (*halberd/xfer.row).add -/
def xfer_row_add_j1 (r_0 : Option Addr) (KP : Value → Pr) (K : Value → Pr) (r23 : Int × Bool × Unit) (r28 : Int × Bool × Unit) (x30 : Bool) : Pr :=
  pIf x30
  (pCall Tryz.prog 118 [(.pointer r_0), (.int .i64 r23.1), (.int .i64 r28.1)] KP (.many []) fun (r31 : Unit) => K (.tuple [].toArray))
  (K (.tuple [].toArray))
def xfer_row_add_j2 (r_0 : Option Addr) (KP : Value → Pr) (K : Value → Pr) : Pr :=
  pSome r_0 fun a19 => pSome r_0 fun a20 => pLd (.int .i64) ((a19.add 0).add 4) fun (x21 : Int) => pLd (.int .i64) ((a20.add 6).add 4) fun (x22 : Int) => pCall Tryz.prog 117 [(.int .i64 x21), (.int .i64 x22)] KP (.many [(.int .i64), .bool]) fun (r23 : Int × Bool × Unit) => pSome r_0 fun a24 => pSome r_0 fun a25 => pLd (.int .i64) ((a24.add 0).add 5) fun (x26 : Int) => pLd (.int .i64) ((a25.add 6).add 5) fun (x27 : Int) => pCall Tryz.prog 117 [(.int .i64 x26), (.int .i64 x27)] KP (.many [(.int .i64), .bool]) fun (r28 : Int × Bool × Unit) => pJoin (σ := Bool × Unit)
  (fun k29 => pIf r23.2.1
  (k29 (r28.2.1, ()))
  (k29 (false, ())))
  (fun s => xfer_row_add_j1 r_0 KP K r23 r28 s.1)
def xfer_row_add (r_0 : Option Addr) (KP K : Value → Pr) : Pr :=
  pSome r_0 fun a1 => pSome r_0 fun a2 => pLdA 2 ((a1.add 0).add 0) fun x3 => pLdA 2 ((a2.add 6).add 0) fun x4 => pCall Tryz.prog 115 [(.agg x3.toArray), (.agg x4.toArray)] KP (.one .agg) fun (r5 : List Value) => pSome r_0 fun a6 => pStA 2 ((a6.add 15).add 0) r5 <| pJoin (σ := Unit)
  (fun k7 => pSome r_0 fun a8 => pSome r_0 fun a9 => pLd (.int .u64) ((a8.add 0).add 3) fun (x10 : Int) => pLd (.int .u64) ((a9.add 6).add 3) fun (x11 : Int) => pSome r_0 fun a12 => pLd (.int .u64) ((a12.add 0).add 3) fun (x13 : Int) => pIf (decide (((IntKind.u64.wrap (x10 + x11)) : Int) ≥ x13))
  (pSome r_0 fun a14 => pSome r_0 fun a15 => pLd (.int .u64) ((a14.add 0).add 2) fun (x16 : Int) => pLd (.int .u64) ((a15.add 6).add 2) fun (x17 : Int) => pCall Tryz.prog 116 [(.pointer r_0), (.int .u64 (IntKind.u64.wrap (x16 + x17))), (.int .u64 (IntKind.u64.wrap (x10 + x11)))] KP (.many []) fun (r18 : Unit) => k7 (()))
  (k7 (())))
  (fun s => xfer_row_add_j2 r_0 KP K)
def xfer_row_add_ann : Ann := .two (.ord [0, 1, 2, 3, 4, 6, 7, 8, 9, 5, 10, 11, 12, 13, 14, 15]) (.join (.two (.ord [0, 1, 2, 3, 5, 6, 7, 8, 4, 9, 10, 11]) (.two (.none) (.two (.ord [0, 1, 2, 3, 4, 6, 7, 8, 9, 12, 5, 10, 11, 13]) (.none)))) (.two (.ord [0, 1, 2, 3, 5, 6, 7, 8, 4, 9, 10, 11, 12, 13, 14, 15]) (.two (.ord [0, 1, 2, 3, 5, 6, 7, 8, 4, 9, 10, 11, 12, 13, 14, 15]) (.join (.none) (.two (.none) (.none)) [(85, .bool)]))) [])
theorem xfer_row_add_eq (r_0 : Option Addr) (KP K : Value → Pr) : vcBody Tryz.prog Tryz.f73 (Tryz.f73.body.getD .skip) xfer_row_add_ann [(.pointer r_0)] KP K = xfer_row_add r_0 KP K := by kernel_rfl
theorem xfer_row_add_call (r_0 : Option Addr) {KP K : Value → Pr} {h : Heap} (s : xfer_row_add r_0 (fgt KP) (fgt K) h) : WpCall Tryz.prog 73 [(.pointer r_0)].toArray KP K h :=
  WpCall.of_vc Tryz.mixed Tryz.func73 (by kernel_rfl) Tryz.call73 xfer_row_add_ann (by rw [xfer_row_add_eq]; exact s)

/- (*halberd/xfer.row).sub -/
def xfer_row_sub_j1 (r_0 : Option Addr) (KP : Value → Pr) (K : Value → Pr) (r25 : Int × Bool × Unit) (r30 : Int × Bool × Unit) (x32 : Bool) : Pr :=
  pIf x32
  (pCall Tryz.prog 118 [(.pointer r_0), (.int .i64 r25.1), (.int .i64 r30.1)] KP (.many []) fun (r33 : Unit) => K (.tuple [].toArray))
  (K (.tuple [].toArray))
def xfer_row_sub_j2 (r_0 : Option Addr) (KP : Value → Pr) (K : Value → Pr) : Pr :=
  pSome r_0 fun a21 => pSome r_0 fun a22 => pLd (.int .i64) ((a21.add 0).add 4) fun (x23 : Int) => pLd (.int .i64) ((a22.add 6).add 5) fun (x24 : Int) => pCall Tryz.prog 120 [(.int .i64 x23), (.int .i64 x24)] KP (.many [(.int .i64), .bool]) fun (r25 : Int × Bool × Unit) => pSome r_0 fun a26 => pSome r_0 fun a27 => pLd (.int .i64) ((a26.add 0).add 5) fun (x28 : Int) => pLd (.int .i64) ((a27.add 6).add 4) fun (x29 : Int) => pCall Tryz.prog 120 [(.int .i64 x28), (.int .i64 x29)] KP (.many [(.int .i64), .bool]) fun (r30 : Int × Bool × Unit) => pJoin (σ := Bool × Unit)
  (fun k31 => pIf r25.2.1
  (k31 (r30.2.1, ()))
  (k31 (false, ())))
  (fun s => xfer_row_sub_j1 r_0 KP K r25 r30 s.1)
def xfer_row_sub (r_0 : Option Addr) (KP K : Value → Pr) : Pr :=
  pSome r_0 fun a1 => pSome r_0 fun a2 => pLdA 2 ((a1.add 0).add 0) fun x3 => pLdA 2 ((a2.add 6).add 0) fun x4 => pCall Tryz.prog 119 [(.agg x3.toArray), (.agg x4.toArray)] KP (.one .agg) fun (r5 : List Value) => pSome r_0 fun a6 => pStA 2 ((a6.add 15).add 0) r5 <| pJoin (σ := Unit)
  (fun k7 => pSome r_0 fun a8 => pSome r_0 fun a9 => pLd (.int .u64) ((a8.add 0).add 2) fun (x10 : Int) => pLd (.int .u64) ((a9.add 6).add 3) fun (x11 : Int) => pIf (decide ((x10 : Int) ≥ x11))
  (pSome r_0 fun a12 => pSome r_0 fun a13 => pSome r_0 fun a14 => pSome r_0 fun a15 => pLd (.int .u64) ((a12.add 0).add 2) fun (x16 : Int) => pLd (.int .u64) ((a13.add 6).add 3) fun (x17 : Int) => pLd (.int .u64) ((a14.add 0).add 3) fun (x18 : Int) => pLd (.int .u64) ((a15.add 6).add 2) fun (x19 : Int) => pCall Tryz.prog 116 [(.pointer r_0), (.int .u64 (IntKind.u64.wrap (x16 - x17))), (.int .u64 (IntKind.u64.wrap (x18 - x19)))] KP (.many []) fun (r20 : Unit) => k7 (()))
  (k7 (())))
  (fun s => xfer_row_sub_j2 r_0 KP K)
def xfer_row_sub_ann : Ann := .two (.ord [0, 1, 2, 3, 4, 6, 7, 8, 9, 5, 10, 11, 12, 13, 14, 15]) (.join (.two (.ord [0, 1, 2, 3, 5, 6, 7, 8, 4, 9, 10]) (.two (.ord [0, 1, 2, 3, 4, 6, 7, 8, 9, 12, 13, 14, 15, 17, 18, 19, 20, 5, 10, 11, 16, 21, 22, 23]) (.none))) (.two (.ord [0, 1, 2, 3, 5, 6, 7, 8, 4, 9, 10, 11, 12, 13, 14, 15]) (.two (.ord [0, 1, 2, 3, 5, 6, 7, 8, 4, 9, 10, 11, 12, 13, 14, 15]) (.join (.none) (.two (.none) (.none)) [(87, .bool)]))) [])
theorem xfer_row_sub_eq (r_0 : Option Addr) (KP K : Value → Pr) : vcBody Tryz.prog Tryz.f74 (Tryz.f74.body.getD .skip) xfer_row_sub_ann [(.pointer r_0)] KP K = xfer_row_sub r_0 KP K := by kernel_rfl
theorem xfer_row_sub_call (r_0 : Option Addr) {KP K : Value → Pr} {h : Heap} (s : xfer_row_sub r_0 (fgt KP) (fgt K) h) : WpCall Tryz.prog 74 [(.pointer r_0)].toArray KP K h :=
  WpCall.of_vc Tryz.mixed Tryz.func74 (by kernel_rfl) Tryz.call74 xfer_row_sub_ann (by rw [xfer_row_sub_eq]; exact s)

end Go.Proofs.YtpbhanglcophbaaGreat

set_option linter.unusedVariables false
namespace Go.Proofs.YtpbhanglcophbaaGreat
open Go.Hl
/- (*halberd/xfer.row).mul -/
def xfer_row_mul_j1 (r_0 : Option Addr) (KP : Value → Pr) (K : Value → Pr) (x6 : Bool) : Pr :=
  pIf x6
  (pSome r_0 fun a7 => pSome r_0 fun a8 => pSome r_0 fun a9 => pSome r_0 fun a10 => pLd (.int .u64) ((a7.add 0).add 2) fun (x11 : Int) => pLd (.int .u64) ((a8.add 6).add 2) fun (x12 : Int) => pLd (.int .u64) ((a9.add 0).add 3) fun (x13 : Int) => pLd (.int .u64) ((a10.add 6).add 3) fun (x14 : Int) => pCall Tryz.prog 116 [(.pointer r_0), (.int .u64 (IntKind.u64.wrap (x11 * x12))), (.int .u64 (IntKind.u64.wrap (x13 * x14)))] KP (.many []) fun (r15 : Unit) => K (.tuple [].toArray))
  (K (.tuple [].toArray))
def xfer_row_mul (r_0 : Option Addr) (KP K : Value → Pr) : Pr :=
  pJoin (σ := Bool × Unit)
  (fun k1 => pSome r_0 fun a2 => pLd (.int .u64) ((a2.add 0).add 3) fun (x3 : Int) => pIf (decide ((x3 : Int) ≤ 4294967295))
  (pSome r_0 fun a4 => pLd (.int .u64) ((a4.add 6).add 3) fun (x5 : Int) => k1 ((decide ((x5 : Int) ≤ 4294967295)), ()))
  (k1 (false, ())))
  (fun s => xfer_row_mul_j1 r_0 KP K s.1)
def xfer_row_mul_ann : Ann := .join (.none) (.two (.ord [0, 1, 2, 3, 4, 6, 7, 8, 9, 12, 13, 14, 15, 17, 18, 19, 20, 5, 10, 11, 16, 21, 22, 23]) (.none)) [(15, .bool)]
theorem xfer_row_mul_eq (r_0 : Option Addr) (KP K : Value → Pr) : vcBody Tryz.prog Tryz.f75 (Tryz.f75.body.getD .skip) xfer_row_mul_ann [(.pointer r_0)] KP K = xfer_row_mul r_0 KP K := by kernel_rfl
theorem xfer_row_mul_call (r_0 : Option Addr) {KP K : Value → Pr} {h : Heap} (s : xfer_row_mul r_0 (fgt KP) (fgt K) h) : WpCall Tryz.prog 75 [(.pointer r_0)].toArray KP K h :=
  WpCall.of_vc Tryz.mixed Tryz.func75 (by kernel_rfl) Tryz.call75 xfer_row_mul_ann (by rw [xfer_row_mul_eq]; exact s)

/- (*halberd/xfer.row).div -/
def xfer_row_div_j1 (r_0 : Option Addr) (KP : Value → Pr) (K : Value → Pr) (x6 : Bool) : Pr :=
  pIf x6
  (pSome r_0 fun a7 => pSome r_0 fun a8 => pSome r_0 fun a9 => pSome r_0 fun a10 => pLd (.int .u64) ((a7.add 0).add 2) fun (x11 : Int) => pLd (.int .u64) (a8.add 12) fun (x12 : Int) => pAssert ((x12 : Int) ≠ 0) <| pLd (.int .u64) ((a9.add 0).add 3) fun (x13 : Int) => pLd (.int .u64) (a10.add 12) fun (x14 : Int) => pAssert ((x14 : Int) ≠ 0) <| pCall Tryz.prog 116 [(.pointer r_0), (.int .u64 (IntKind.u64.wrap ((x11 : Int).tdiv x12))), (.int .u64 (IntKind.u64.wrap ((x13 : Int).tdiv x14)))] KP (.many []) fun (r15 : Unit) => K (.tuple [].toArray))
  (pSome r_0 fun a16 => pLd (.int .u64) ((a16.add 0).add 3) fun (x17 : Int) => pCall Tryz.prog 116 [(.pointer r_0), (.int .u64 0), (.int .u64 x17)] KP (.many []) fun (r18 : Unit) => K (.tuple [].toArray))
def xfer_row_div (r_0 : Option Addr) (KP K : Value → Pr) : Pr :=
  pJoin (σ := Bool × Unit)
  (fun k1 => pSome r_0 fun a2 => pLd .bool (a2.add 13) fun (x3 : Bool) => pIf x3
  (pSome r_0 fun a4 => pLd (.int .u64) (a4.add 12) fun (x5 : Int) => k1 ((decide ((x5 : Int) > 0)), ()))
  (k1 (false, ())))
  (fun s => xfer_row_div_j1 r_0 KP K s.1)
def xfer_row_div_ann : Ann := .two (.join (.none) (.two (.two (.ord [0, 1, 2, 3, 4, 6, 7, 8, 11, 12, 13, 14, 16, 17, 18, 5, 9, 10, 15, 19, 20, 21]) (.none)) (.none)) [(12, .bool)]) (.none)
theorem xfer_row_div_eq (r_0 : Option Addr) (KP K : Value → Pr) : vcBody Tryz.prog Tryz.f76 (Tryz.f76.body.getD .skip) xfer_row_div_ann [(.pointer r_0)] KP K = xfer_row_div r_0 KP K := by kernel_rfl
theorem xfer_row_div_call (r_0 : Option Addr) {KP K : Value → Pr} {h : Heap} (s : xfer_row_div r_0 (fgt KP) (fgt K) h) : WpCall Tryz.prog 76 [(.pointer r_0)].toArray KP K h :=
  WpCall.of_vc Tryz.mixed Tryz.func76 (by kernel_rfl) Tryz.call76 xfer_row_div_ann (by rw [xfer_row_div_eq]; exact s)

/- (*halberd/xfer.row).mod -/
def xfer_row_mod_j1 (r_0 : Option Addr) (K : Value → Pr) (x9 : Bool) : Pr :=
  pIf x9
  (pSome r_0 fun a10 => pSome r_0 fun a11 => pLd (.int .u64) ((a10.add 15).add 3) fun (x12 : Int) => pLd (.int .u64) (a11.add 12) fun (x13 : Int) => pSome r_0 fun a14 => pSt ((a14.add 15).add 3) (.int .u64 (if (IntKind.u64.wrap (x13 - 1)) < x12 then (IntKind.u64.wrap (x13 - 1)) else x12)) <| K (.tuple [].toArray))
  (K (.tuple [].toArray))
def xfer_row_mod (r_0 : Option Addr) (KP K : Value → Pr) : Pr :=
  pSome r_0 fun a1 => pLd (.int .u64) ((a1.add 0).add 3) fun (x2 : Int) => pCall Tryz.prog 116 [(.pointer r_0), (.int .u64 0), (.int .u64 x2)] KP (.many []) fun (r3 : Unit) => pJoin (σ := Bool × Unit)
  (fun k4 => pSome r_0 fun a5 => pLd .bool (a5.add 13) fun (x6 : Bool) => pIf x6
  (pSome r_0 fun a7 => pLd (.int .u64) (a7.add 12) fun (x8 : Int) => k4 ((decide ((x8 : Int) > 0)), ()))
  (k4 (false, ())))
  (fun s => xfer_row_mod_j1 r_0 K s.1)
def xfer_row_mod_ann : Ann := .two (.none) (.join (.none) (.two (.ord [0, 1, 2, 3, 4, 6, 7, 8, 5, 9, 10, 11, 12, 13, 14, 15]) (.none)) [(19, .bool)])
theorem xfer_row_mod_eq (r_0 : Option Addr) (KP K : Value → Pr) : vcBody Tryz.prog Tryz.f77 (Tryz.f77.body.getD .skip) xfer_row_mod_ann [(.pointer r_0)] KP K = xfer_row_mod r_0 KP K := by kernel_rfl
theorem xfer_row_mod_call (r_0 : Option Addr) {KP K : Value → Pr} {h : Heap} (s : xfer_row_mod r_0 (fgt KP) (fgt K) h) : WpCall Tryz.prog 77 [(.pointer r_0)].toArray KP K h :=
  WpCall.of_vc Tryz.mixed Tryz.func77 (by kernel_rfl) Tryz.call77 xfer_row_mod_ann (by rw [xfer_row_mod_eq]; exact s)

/- (*halberd/xfer.row).and -/
def xfer_row_and (r_0 : Option Addr) (KP K : Value → Pr) : Pr :=
  pSome r_0 fun a1 => pSome r_0 fun a2 => pLdA 2 ((a1.add 0).add 0) fun x3 => pLdA 2 ((a2.add 6).add 0) fun x4 => pCall Tryz.prog 121 [(.agg x3.toArray), (.agg x4.toArray)] KP (.one .agg) fun (r5 : List Value) => pSome r_0 fun a6 => pStA 2 ((a6.add 15).add 0) r5 <| pSome r_0 fun a7 => pSome r_0 fun a8 => pLd (.int .u64) ((a7.add 0).add 3) fun (x9 : Int) => pLd (.int .u64) ((a8.add 6).add 3) fun (x10 : Int) => pCall Tryz.prog 116 [(.pointer r_0), (.int .u64 0), (.int .u64 (if x10 < x9 then x10 else x9))] KP (.many []) fun (r11 : Unit) => K (.tuple [].toArray)
def xfer_row_and_ann : Ann := .two (.ord [0, 1, 2, 3, 4, 6, 7, 8, 9, 5, 10, 11, 12, 13, 14, 15]) (.ord [0, 1, 2, 3, 4, 6, 7, 8, 9, 5, 10, 11, 12])
theorem xfer_row_and_eq (r_0 : Option Addr) (KP K : Value → Pr) : vcBody Tryz.prog Tryz.f78 (Tryz.f78.body.getD .skip) xfer_row_and_ann [(.pointer r_0)] KP K = xfer_row_and r_0 KP K := by kernel_rfl
theorem xfer_row_and_call (r_0 : Option Addr) {KP K : Value → Pr} {h : Heap} (s : xfer_row_and r_0 (fgt KP) (fgt K) h) : WpCall Tryz.prog 78 [(.pointer r_0)].toArray KP K h :=
  WpCall.of_vc Tryz.mixed Tryz.func78 (by kernel_rfl) Tryz.call78 xfer_row_and_ann (by rw [xfer_row_and_eq]; exact s)

/- (*halberd/xfer.row).or -/
def xfer_row_or (r_0 : Option Addr) (KP K : Value → Pr) : Pr :=
  pSome r_0 fun a1 => pSome r_0 fun a2 => pLdA 2 ((a1.add 0).add 0) fun x3 => pLdA 2 ((a2.add 6).add 0) fun x4 => pCall Tryz.prog 122 [(.agg x3.toArray), (.agg x4.toArray)] KP (.one .agg) fun (r5 : List Value) => pSome r_0 fun a6 => pStA 2 ((a6.add 15).add 0) r5 <| pSome r_0 fun a7 => pSome r_0 fun a8 => pLd (.int .u64) ((a7.add 0).add 2) fun (x9 : Int) => pLd (.int .u64) ((a8.add 6).add 2) fun (x10 : Int) => pCall Tryz.prog 116 [(.pointer r_0), (.int .u64 (if x10 > x9 then x10 else x9)), (.int .u64 18446744073709551615)] KP (.many []) fun (r11 : Unit) => K (.tuple [].toArray)
def xfer_row_or_ann : Ann := .two (.ord [0, 1, 2, 3, 4, 6, 7, 8, 9, 5, 10, 11, 12, 13, 14, 15]) (.ord [0, 1, 2, 3, 4, 6, 7, 8, 9, 5, 10, 11, 12])
theorem xfer_row_or_eq (r_0 : Option Addr) (KP K : Value → Pr) : vcBody Tryz.prog Tryz.f79 (Tryz.f79.body.getD .skip) xfer_row_or_ann [(.pointer r_0)] KP K = xfer_row_or r_0 KP K := by kernel_rfl
theorem xfer_row_or_call (r_0 : Option Addr) {KP K : Value → Pr} {h : Heap} (s : xfer_row_or r_0 (fgt KP) (fgt K) h) : WpCall Tryz.prog 79 [(.pointer r_0)].toArray KP K h :=
  WpCall.of_vc Tryz.mixed Tryz.func79 (by kernel_rfl) Tryz.call79 xfer_row_or_ann (by rw [xfer_row_or_eq]; exact s)

/- (*halberd/xfer.row).xor -/
def xfer_row_xor (r_0 : Option Addr) (KP K : Value → Pr) : Pr :=
  pSome r_0 fun a1 => pSome r_0 fun a2 => pLdA 2 ((a1.add 0).add 0) fun x3 => pLdA 2 ((a2.add 6).add 0) fun x4 => pCall Tryz.prog 123 [(.agg x3.toArray), (.agg x4.toArray)] KP (.one .agg) fun (r5 : List Value) => pSome r_0 fun a6 => pStA 2 ((a6.add 15).add 0) r5 <| K (.tuple [].toArray)
def xfer_row_xor_ann : Ann := .ord [0, 1, 2, 3, 4, 6, 7, 8, 9, 5, 10, 11, 12, 13, 14, 15]
theorem xfer_row_xor_eq (r_0 : Option Addr) (KP K : Value → Pr) : vcBody Tryz.prog Tryz.f80 (Tryz.f80.body.getD .skip) xfer_row_xor_ann [(.pointer r_0)] KP K = xfer_row_xor r_0 KP K := by kernel_rfl
theorem xfer_row_xor_call (r_0 : Option Addr) {KP K : Value → Pr} {h : Heap} (s : xfer_row_xor r_0 (fgt KP) (fgt K) h) : WpCall Tryz.prog 80 [(.pointer r_0)].toArray KP K h :=
  WpCall.of_vc Tryz.mixed Tryz.func80 (by kernel_rfl) Tryz.call80 xfer_row_xor_ann (by rw [xfer_row_xor_eq]; exact s)

/- (*halberd/xfer.row).lsh -/
def xfer_row_lsh (r_0 : Option Addr) (KP K : Value → Pr) : Pr :=
  pSome r_0 fun a1 => pLd .bool (a1.add 13) fun (x2 : Bool) => pIf (!x2)
  (K (.tuple [].toArray))
  (pSome r_0 fun a3 => pSome r_0 fun a4 => pLd (.int .u64) (a3.add 12) fun (x5 : Int) => pLd (.int .u64) (a4.add 14) fun (x6 : Int) => pAssert ((x6 : Int) ≠ 0) <| pSome r_0 fun a7 => pLdA 2 ((a7.add 0).add 0) fun x8 => pCall Tryz.prog 124 [(.agg x8.toArray), (.int .u64 ((x5 : Int).tmod x6))] KP (.one .agg) fun (r9 : List Value) => pSome r_0 fun a10 => pStA 2 ((a10.add 15).add 0) r9 <| pSome r_0 fun a11 => pSome r_0 fun a12 => pLd (.int .u64) ((a11.add 0).add 3) fun (x13 : Int) => pAssert (0 ≤ (((x5 : Int).tmod x6) : Int)) <| pAssert (0 ≤ (((x5 : Int).tmod x6) : Int)) <| pLd (.int .u64) ((a12.add 0).add 3) fun (x14 : Int) => pIf (((((IntKind.u64.wrap (x13 * 2 ^ (min (((x5 : Int).tmod x6) : Int).toNat (IntKind.u64).bits))) : Int).fdiv (2 ^ (min (((x5 : Int).tmod x6) : Int).toNat (IntKind.u64).bits))) : Int) == x14)
  (pSome r_0 fun a15 => pSome r_0 fun a16 => pLd (.int .u64) ((a15.add 0).add 2) fun (x17 : Int) => pAssert (0 ≤ (((x5 : Int).tmod x6) : Int)) <| pLd (.int .u64) ((a16.add 0).add 3) fun (x18 : Int) => pAssert (0 ≤ (((x5 : Int).tmod x6) : Int)) <| pCall Tryz.prog 116 [(.pointer r_0), (.int .u64 (IntKind.u64.wrap (x17 * 2 ^ (min (((x5 : Int).tmod x6) : Int).toNat (IntKind.u64).bits)))), (.int .u64 (IntKind.u64.wrap (x18 * 2 ^ (min (((x5 : Int).tmod x6) : Int).toNat (IntKind.u64).bits))))] KP (.many []) fun (r19 : Unit) => K (.tuple [].toArray))
  (K (.tuple [].toArray)))
def xfer_row_lsh_ann : Ann := .two (.two (.none) (.two (.none) (.none))) (.two (.ord [0, 1, 2, 4, 5, 6, 3, 7, 8, 9]) (.two (.none) (.two (.ord [0, 1, 2, 3, 5, 7, 9, 10, 11, 12, 4, 6, 8, 13, 14]) (.two (.ord [0, 1, 2, 3, 4, 6, 8, 9, 10, 11, 13, 5, 7, 12, 14, 15]) (.none)))))
theorem xfer_row_lsh_eq (r_0 : Option Addr) (KP K : Value → Pr) : vcBody Tryz.prog Tryz.f81 (Tryz.f81.body.getD .skip) xfer_row_lsh_ann [(.pointer r_0)] KP K = xfer_row_lsh r_0 KP K := by kernel_rfl
theorem xfer_row_lsh_call (r_0 : Option Addr) {KP K : Value → Pr} {h : Heap} (s : xfer_row_lsh r_0 (fgt KP) (fgt K) h) : WpCall Tryz.prog 81 [(.pointer r_0)].toArray KP K h :=
  WpCall.of_vc Tryz.mixed Tryz.func81 (by kernel_rfl) Tryz.call81 xfer_row_lsh_ann (by rw [xfer_row_lsh_eq]; exact s)

/- (*halberd/xfer.row).rsh -/
def xfer_row_rsh (r_0 : Option Addr) (KP K : Value → Pr) : Pr :=
  pSome r_0 fun a1 => pLd .bool (a1.add 13) fun (x2 : Bool) => pIf (!x2)
  (pSome r_0 fun a3 => pLd (.int .u64) ((a3.add 0).add 3) fun (x4 : Int) => pCall Tryz.prog 116 [(.pointer r_0), (.int .u64 0), (.int .u64 x4)] KP (.many []) fun (r5 : Unit) => K (.tuple [].toArray))
  (pSome r_0 fun a6 => pSome r_0 fun a7 => pLd (.int .u64) (a6.add 12) fun (x8 : Int) => pLd (.int .u64) (a7.add 14) fun (x9 : Int) => pAssert ((x9 : Int) ≠ 0) <| pSome r_0 fun a10 => pLdA 2 ((a10.add 0).add 0) fun x11 => pCall Tryz.prog 125 [(.agg x11.toArray), (.int .u64 ((x8 : Int).tmod x9))] KP (.one .agg) fun (r12 : List Value) => pSome r_0 fun a13 => pStA 2 ((a13.add 15).add 0) r12 <| pSome r_0 fun a14 => pSome r_0 fun a15 => pLd (.int .u64) ((a14.add 0).add 2) fun (x16 : Int) => pAssert (0 ≤ (((x8 : Int).tmod x9) : Int)) <| pLd (.int .u64) ((a15.add 0).add 3) fun (x17 : Int) => pAssert (0 ≤ (((x8 : Int).tmod x9) : Int)) <| pCall Tryz.prog 116 [(.pointer r_0), (.int .u64 ((x16 : Int).fdiv (2 ^ (min (((x8 : Int).tmod x9) : Int).toNat (IntKind.u64).bits)))), (.int .u64 ((x17 : Int).fdiv (2 ^ (min (((x8 : Int).tmod x9) : Int).toNat (IntKind.u64).bits))))] KP (.many []) fun (r18 : Unit) => K (.tuple [].toArray))
def xfer_row_rsh_ann : Ann := .two (.two (.none) (.two (.two (.none) (.none)) (.none))) (.two (.ord [0, 1, 2, 4, 5, 6, 3, 7, 8, 9]) (.two (.none) (.ord [0, 1, 2, 3, 4, 6, 8, 9, 10, 11, 13, 5, 7, 12, 14, 15])))
theorem xfer_row_rsh_eq (r_0 : Option Addr) (KP K : Value → Pr) : vcBody Tryz.prog Tryz.f82 (Tryz.f82.body.getD .skip) xfer_row_rsh_ann [(.pointer r_0)] KP K = xfer_row_rsh r_0 KP K := by kernel_rfl
theorem xfer_row_rsh_call (r_0 : Option Addr) {KP K : Value → Pr} {h : Heap} (s : xfer_row_rsh r_0 (fgt KP) (fgt K) h) : WpCall Tryz.prog 82 [(.pointer r_0)].toArray KP K h :=
  WpCall.of_vc Tryz.mixed Tryz.func82 (by kernel_rfl) Tryz.call82 xfer_row_rsh_ann (by rw [xfer_row_rsh_eq]; exact s)

end Go.Proofs.YtpbhanglcophbaaGreat
