import Derived.Test.YtgheplpbffanoaaV
set_option linter.unusedVariables false
namespace Go.Proofs.Ytgheplpbffanoaa
open Go.Hl
/- (*halberd/tasks.Table).Wait -/
def tasks_Table_Wait_j1 (t_0 : Option Addr) (K : Value → Pr) (x4 : Int) (k6 : Int × Unit → Pr) (b9 : Nat) (x13 : Bool) : Pr :=
  pIf x13
  (k6 (x4, ()))
  (pLd .bool ((⟨b9, 0, none⟩ : Addr).add 8) fun (x14 : Bool) => pIf x14
  (pSome t_0 fun a15 => pLd (.int .i64) ((⟨b9, 0, none⟩ : Addr).add 0) fun (x16 : Int) => pLd (.int .i64) ((⟨b9, 0, none⟩ : Addr).add 1) fun (x17 : Int) => pIdx x16 9 <| pStA 49 ((a15.add 0).add ((x16 : Int).toNat * 49)) (lay (zc Try.prog 39) [(1, (.int .i64 x17))]) <| pLd (.int .i64) ((⟨b9, 0, none⟩ : Addr).add 0) fun (x18 : Int) => pLd (.int .i64) ((⟨b9, 0, none⟩ : Addr).add 9) fun (x19 : Int) => K (.tuple [(.int .i64 x18), (.int .i64 x19), (.int .i64 0)].toArray))
  (k6 (11, ())))
def tasks_Table_Wait_j2 (k3 : Int × Int × Unit → Pr) (x5 : Int) (x20 : Int) : Pr :=
  k3 (x20, (IntKind.i64.wrap (x5 + 1)), ())
def tasks_Table_Wait_l3 (t_0 : Option Addr) (pid_1 : Int) (K : Value → Pr) (r2 : Sl) (k3 : Int × Int × Unit → Pr) (x4 : Int) (x5 : Int) : Pr :=
  pIf (decide ((x5 : Int) < (r2.len : Int)))
  (pJoin (σ := Int × Unit)
  (fun k6 => pIdx x5 r2.len <| pSome r2.base fun a7 => pLdA 49 (a7.add ((x5 : Int).toNat * 49)) fun x8 => pNew (zc Try.prog 39) fun b9 => pStA 49 ⟨b9, 0, none⟩ x8 <| pJoin (σ := Bool × Unit)
  (fun k10 => pLd (.int .i64) ((⟨b9, 0, none⟩ : Addr).add 2) fun (x11 : Int) => pIf ((x11 : Int) != pid_1)
  (k10 (true, ()))
  (pLd (.int .i64) ((⟨b9, 0, none⟩ : Addr).add 0) fun (x12 : Int) => k10 (((x12 : Int) == pid_1), ())))
  (fun s => tasks_Table_Wait_j1 t_0 K x4 k6 b9 s.1))
  (fun s => tasks_Table_Wait_j2 k3 x5 s.1))
  (K (.tuple [(.int .i64 0), (.int .i64 0), (.int .i64 x4)].toArray))
def tasks_Table_Wait (t_0 : Option Addr) (pid_1 : Int) (KP K : Value → Pr) : Pr :=
  pCall Try.prog 23 [(.pointer t_0), (.int .i64 pid_1)] KP (.one .ptr) fun (r1 : Option Addr) => pIf (r1.isNone)
  (K (.tuple [(.int .i64 0), (.int .i64 0), (.int .i64 3)].toArray))
  (pCall Try.prog 16 [(.pointer t_0)] KP (.one .slice) fun (r2 : Sl) => pLoop (σ := Int × Int × Unit) (fun s k3 => tasks_Table_Wait_l3 t_0 pid_1 K r2 k3 s.1 s.2.1) (10, 0, ()))
def tasks_Table_Wait_ann : Ann := .two (.none) (.two (.two (.none) (.two (.two (.none) (.none)) (.none))) (.two (.none) (.two (.two (.none) (.sub (.loop [(7, (.int .i64)), (17, (.int .i64))] (.two (.none) (.two (.two (.none) (.none)) (.join (.sub (.two (.none) (.two (.join (.none) (.two (.none) (.none)) [(30, .bool)]) (.two (.two (.none) (.two (.two (.ord [0, 1, 3, 6, 7, 2, 4, 5, 8, 9]) (.two (.ord [0, 2, 1, 4, 3, 5, 6]) (.none))) (.none))) (.none))))) (.none) [(7, (.int .i64))])))))) (.two (.none) (.none)))))
theorem tasks_Table_Wait_eq (t_0 : Option Addr) (pid_1 : Int) (KP K : Value → Pr) : vcBody Try.prog Try.f11 (Try.f11.body.getD .skip) tasks_Table_Wait_ann [(.pointer t_0), (.int .i64 pid_1)] KP K = tasks_Table_Wait t_0 pid_1 KP K := by kernel_rfl
theorem tasks_Table_Wait_call (t_0 : Option Addr) (pid_1 : Int) {KP K : Value → Pr} {h : Heap} (s : tasks_Table_Wait t_0 pid_1 (fgt KP) (fgt K) h) : WpCall Try.prog 11 [(.pointer t_0), (.int .i64 pid_1)].toArray KP K h :=
  WpCall.of_vc Try.mixed Try.func11 (by kernel_rfl) Try.call11 tasks_Table_Wait_ann (by rw [tasks_Table_Wait_eq]; exact s)

/- (*halberd/tasks.Table).Get -/
def tasks_Table_Get (t_0 : Option Addr) (pid_1 : Int) (KP K : Value → Pr) : Pr :=
  pNew (zc Try.prog 39) fun b1 => pCall Try.prog 26 [(.pointer t_0), (.int .i64 pid_1)] KP (.one .ptr) fun (r2 : Option Addr) => pIf (!r2.isNone)
  (pSome r2 fun a3 => pLdA 49 a3 fun x4 => pStA 49 ⟨b1, 0, none⟩ x4 <| pLdA 49 ⟨b1, 0, none⟩ fun x5 => K (.tuple [(.agg x5.toArray), (.bool true)].toArray))
  (pStA 49 ⟨b1, 0, none⟩ (lay (zc Try.prog 39) []) <| pLdA 49 ⟨b1, 0, none⟩ fun x6 => K (.tuple [(.agg x6.toArray), (.bool false)].toArray))
def tasks_Table_Get_ann : Ann := .two (.none) (.two (.two (.none) (.two (.none) (.two (.two (.none) (.none)) (.none)))) (.two (.none) (.none)))
theorem tasks_Table_Get_eq (t_0 : Option Addr) (pid_1 : Int) (KP K : Value → Pr) : vcBody Try.prog Try.f12 (Try.f12.body.getD .skip) tasks_Table_Get_ann [(.pointer t_0), (.int .i64 pid_1)] KP K = tasks_Table_Get t_0 pid_1 KP K := by kernel_rfl
theorem tasks_Table_Get_call (t_0 : Option Addr) (pid_1 : Int) {KP K : Value → Pr} {h : Heap} (s : tasks_Table_Get t_0 pid_1 (fgt KP) (fgt K) h) : WpCall Try.prog 12 [(.pointer t_0), (.int .i64 pid_1)].toArray KP K h :=
  WpCall.of_vc Try.mixed Try.func12 (by kernel_rfl) Try.call12 tasks_Table_Get_ann (by rw [tasks_Table_Get_eq]; exact s)

/- halberd/halberdref24.New -/
def ref24_New  (KP K : Value → Pr) : Pr :=
  pNew (lay (zc Try.prog 70) []) fun b1 => pSome (some ⟨b1, 0, none⟩) fun a2 => pIdx 1 9 <| pStA 49 ((a2.add 0).add ((1 : Int).toNat * 49)) (lay (zc Try.prog 39) [(0, (.int .i64 1)), (1, (.int .i64 1)), (2, (.int .i64 1)), (5, (.int .i64 1))]) <| K (.pointer (some ⟨b1, 0, none⟩))
def ref24_New_ann : Ann := .two (.none) (.two (.none) (.two (.none) (.two (.none) (.none))))
theorem ref24_New_eq  (KP K : Value → Pr) : vcBody Try.prog Try.f13 (Try.f13.body.getD .skip) ref24_New_ann [] KP K = ref24_New  KP K := by kernel_rfl
theorem ref24_New_call  {KP K : Value → Pr} {h : Heap} (s : ref24_New  (fgt KP) (fgt K) h) : WpCall Try.prog 13 [].toArray KP K h :=
  WpCall.of_vc Try.mixed Try.func13 (by kernel_rfl) Try.call13 ref24_New_ann (by rw [ref24_New_eq]; exact s)

/- halberd/halberdlaw24.Do -/
def law24_Do_j1 (K : Value → Pr) (x8 : Bool) : Pr :=
  K (.bool x8)
def law24_Do_j2 (K : Value → Pr) (x20 : Bool) : Pr :=
  K (.bool x20)
def law24_Do_j3 (K : Value → Pr) (x30 : Bool) : Pr :=
  K (.bool x30)
def law24_Do_j4 (K : Value → Pr) (x52 : Bool) : Pr :=
  K (.bool x52)
def law24_Do_j5 (K : Value → Pr) (x60 : Bool) : Pr :=
  K (.bool x60)
def law24_Do_j6 (b1 : Nat) (b80 : Nat) (k87 : Int × Unit → Pr) (r105 : Int) (x115 : Bool) : Pr :=
  pIf x115
  (pLd (.int .u64) ((⟨b80, 0, none⟩ : Addr).add 10) fun (x116 : Int) => pLd (.int .i64) ((⟨b1, 0, none⟩ : Addr).add 2) fun (x117 : Int) => pAssert (0 ≤ ((IntKind.u64.wrap x117) : Int)) <| pSt ((⟨b80, 0, none⟩ : Addr).add 10) (.int .u64 (bitsV .or .u64 x116 (IntKind.u64.wrap (1 * 2 ^ (min ((IntKind.u64.wrap x117) : Int).toNat (IntKind.u64).bits))))) <| k87 (r105, ()))
  (k87 (r105, ()))
def law24_Do_j7 (K : Value → Pr) (b1 : Nat) (b80 : Nat) (k87 : Int × Unit → Pr) (r105 : Int) (x111 : Bool) : Pr :=
  pIf x111
  (K (.bool ((r105 : Int) == 22)))
  (pJoin (σ := Bool × Unit)
  (fun k112 => pLd (.int .i64) ((⟨b1, 0, none⟩ : Addr).add 2) fun (x113 : Int) => pIf (decide ((x113 : Int) ≥ 0))
  (pLd (.int .i64) ((⟨b1, 0, none⟩ : Addr).add 2) fun (x114 : Int) => k112 ((decide ((x114 : Int) ≤ 63)), ()))
  (k112 (false, ())))
  (fun s => law24_Do_j6 b1 b80 k87 r105 s.1))
def law24_Do_j8 (w_1 : Option Addr) (KP : Value → Pr) (K : Value → Pr) (b1 : Nat) (b80 : Nat) (x122 : Int) : Pr :=
  pLd (.int .i64) ((⟨b1, 0, none⟩ : Addr).add 1) fun (x123 : Int) => pCall Try.prog 43 [(.pointer w_1), (.int .i64 x123)] KP (.one .bool) fun (r124 : Bool) => pIf (!r124)
  (K (.bool ((x122 : Int) == 3)))
  (pSome w_1 fun a125 => pLd (.int .i64) ((⟨b1, 0, none⟩ : Addr).add 1) fun (x126 : Int) => pLdA 49 ⟨b80, 0, none⟩ fun x127 => pIdx x126 9 <| pStA 49 ((a125.add 0).add ((x126 : Int).toNat * 49)) x127 <| K (.bool ((x122 : Int) == 0)))
def law24_Do_j9 (t_0 : Option Addr) (w_1 : Option Addr) (KP : Value → Pr) (K : Value → Pr) (b1 : Nat) (b80 : Nat) : Pr :=
  pJoin (σ := Int × Unit)
  (fun k87 => pLd (.int .u8) ((⟨b1, 0, none⟩ : Addr).add 0) fun (x88 : Int) => pAssert ((15 : Int) ≠ 0) <| pIf ((((x88 : Int).tmod 15) : Int) == 10)
  (pLd (.int .i64) ((⟨b1, 0, none⟩ : Addr).add 1) fun (x89 : Int) => pLd (.int .i64) ((⟨b1, 0, none⟩ : Addr).add 2) fun (x90 : Int) => pLd (.int .i64) ((⟨b1, 0, none⟩ : Addr).add 3) fun (x91 : Int) => pCall Try.prog 44 [(.pointer t_0), (.int .i64 x89), (.int .i64 x90), (.int .i64 x91)] KP (.one (.int .i64)) fun (r92 : Int) => pLd (.int .i64) ((⟨b1, 0, none⟩ : Addr).add 2) fun (x93 : Int) => pSt ((⟨b80, 0, none⟩ : Addr).add 3) (.int .i64 x93) <| pLd (.int .i64) ((⟨b1, 0, none⟩ : Addr).add 3) fun (x94 : Int) => pSt ((⟨b80, 0, none⟩ : Addr).add 4) (.int .i64 x94) <| k87 (r92, ()))
  (pIf ((((x88 : Int).tmod 15) : Int) == 11)
  (pLd (.int .i64) ((⟨b1, 0, none⟩ : Addr).add 1) fun (x95 : Int) => pLd (.int .i64) ((⟨b1, 0, none⟩ : Addr).add 2) fun (x96 : Int) => pCall Try.prog 45 [(.pointer t_0), (.int .i64 x95), (.int .i64 x96)] KP (.one (.int .i64)) fun (r97 : Int) => pLd (.int .i64) ((⟨b1, 0, none⟩ : Addr).add 2) fun (x98 : Int) => pSt ((⟨b80, 0, none⟩ : Addr).add 5) (.int .i64 x98) <| k87 (r97, ()))
  (pIf ((((x88 : Int).tmod 15) : Int) == 12)
  (pLd (.int .i64) ((⟨b1, 0, none⟩ : Addr).add 1) fun (x99 : Int) => pLd (.int .i64) ((⟨b1, 0, none⟩ : Addr).add 2) fun (x100 : Int) => pCall Try.prog 46 [(.pointer t_0), (.int .i64 x99), (.int .i64 x100)] KP (.one (.int .i64)) fun (r101 : Int) => pLd (.int .i64) ((⟨b1, 0, none⟩ : Addr).add 2) fun (x102 : Int) => pSt ((⟨b80, 0, none⟩ : Addr).add 6) (.int .i64 x102) <| pStA 20 ((⟨b80, 0, none⟩ : Addr).add 29) (lay (zc Try.prog 37) []) <| k87 (r101, ()))
  (pIf ((((x88 : Int).tmod 15) : Int) == 13)
  (pLd (.int .i64) ((⟨b1, 0, none⟩ : Addr).add 1) fun (x103 : Int) => pLd (.int .i64) ((⟨b1, 0, none⟩ : Addr).add 2) fun (x104 : Int) => pCall Try.prog 47 [(.pointer t_0), (.int .i64 x103), (.int .i64 x104)] KP (.one (.int .i64)) fun (r105 : Int) => pJoin (σ := Bool × Unit)
  (fun k106 => pLd (.int .i64) ((⟨b1, 0, none⟩ : Addr).add 1) fun (x107 : Int) => pCall Try.prog 43 [(.pointer w_1), (.int .i64 x107)] KP (.one .bool) fun (r108 : Bool) => pIf r108
  (pLd (.int .i64) ((⟨b1, 0, none⟩ : Addr).add 2) fun (x109 : Int) => pIf (decide ((x109 : Int) < 0))
  (k106 (true, ()))
  (pLd (.int .i64) ((⟨b1, 0, none⟩ : Addr).add 2) fun (x110 : Int) => k106 ((decide ((x110 : Int) > 63)), ())))
  (k106 (false, ())))
  (fun s => law24_Do_j7 K b1 b80 k87 r105 s.1))
  (pLd (.int .i64) ((⟨b1, 0, none⟩ : Addr).add 1) fun (x118 : Int) => pLd (.int .i64) ((⟨b1, 0, none⟩ : Addr).add 2) fun (x119 : Int) => pCall Try.prog 48 [(.pointer t_0), (.int .i64 x118), (.int .i64 x119)] KP (.one (.int .i64)) fun (r120 : Int) => pLd (.int .i64) ((⟨b1, 0, none⟩ : Addr).add 2) fun (x121 : Int) => pSt ((⟨b80, 0, none⟩ : Addr).add 7) (.int .i64 x121) <| k87 (r120, ()))))))
  (fun s => law24_Do_j8 w_1 KP K b1 b80 s.1)
def law24_Do (t_0 : Option Addr) (w_1 : Option Addr) (o_2 : List Value) (KP K : Value → Pr) : Pr :=
  pNew o_2 fun b1 => pLd (.int .u8) ((⟨b1, 0, none⟩ : Addr).add 0) fun (x2 : Int) => pAssert ((15 : Int) ≠ 0) <| pIf ((((x2 : Int).tmod 15) : Int) == 0)
  (pLd (.int .i64) ((⟨b1, 0, none⟩ : Addr).add 1) fun (x3 : Int) => pCall Try.prog 9 [(.pointer t_0), (.int .i64 x3)] KP (.many [(.int .i64), (.int .i64)]) fun (r4 : Int × Int × Unit) => pLd (.int .i64) ((⟨b1, 0, none⟩ : Addr).add 1) fun (x5 : Int) => pCall Try.prog 15 [(.pointer w_1), (.int .i64 x5)] KP (.many [(.int .i64), (.int .i64)]) fun (r6 : Int × Int × Unit) => pJoin (σ := Bool × Unit)
  (fun k7 => pIf ((r4.1 : Int) == r6.1)
  (k7 (((r4.2.1 : Int) == r6.2.1), ()))
  (k7 (false, ())))
  (fun s => law24_Do_j1 K s.1))
  (pIf ((((x2 : Int).tmod 15) : Int) == 1)
  (pLd (.int .i64) ((⟨b1, 0, none⟩ : Addr).add 1) fun (x9 : Int) => pLd (.int .i64) ((⟨b1, 0, none⟩ : Addr).add 2) fun (x10 : Int) => pLd (.int .i64) ((⟨b1, 0, none⟩ : Addr).add 1) fun (x11 : Int) => pLd (.int .i64) ((⟨b1, 0, none⟩ : Addr).add 2) fun (x12 : Int) => pCall Try.prog 10 [(.pointer t_0), (.int .i64 x9), (.int .i64 x10)] KP (.one (.int .i64)) fun (r13 : Int) => pKeep (loadF Try.prog 3 (.pointer (some ((⟨b1, 0, none⟩ : Addr).add 2))) (.int .i64 x12)) <| pKeep (loadF Try.prog 3 (.pointer (some ((⟨b1, 0, none⟩ : Addr).add 1))) (.int .i64 x11)) <| pCall Try.prog 27 [(.pointer w_1), (.int .i64 x11), (.int .i64 x12)] KP (.one (.int .i64)) fun (r14 : Int) => K (.bool ((r13 : Int) == r14)))
  (pIf ((((x2 : Int).tmod 15) : Int) == 2)
  (pLd (.int .i64) ((⟨b1, 0, none⟩ : Addr).add 1) fun (x15 : Int) => pCall Try.prog 11 [(.pointer t_0), (.int .i64 x15)] KP (.many [(.int .i64), (.int .i64), (.int .i64)]) fun (r16 : Int × Int × Int × Unit) => pLd (.int .i64) ((⟨b1, 0, none⟩ : Addr).add 1) fun (x17 : Int) => pCall Try.prog 28 [(.pointer w_1), (.int .i64 x17)] KP (.many [(.int .i64), (.int .i64), (.int .i64)]) fun (r18 : Int × Int × Int × Unit) => pJoin (σ := Bool × Unit)
  (fun k19 => pIf ((r16.1 : Int) == r18.1)
  (pIf ((r16.2.1 : Int) == r18.2.1)
  (k19 (((r16.2.2.1 : Int) == r18.2.2.1), ()))
  (k19 (false, ())))
  (k19 (false, ())))
  (fun s => law24_Do_j2 K s.1))
  (pIf ((((x2 : Int).tmod 15) : Int) == 3)
  (pLd (.int .i64) ((⟨b1, 0, none⟩ : Addr).add 1) fun (x21 : Int) => pLd (.int .i64) ((⟨b1, 0, none⟩ : Addr).add 2) fun (x22 : Int) => pLd (.int .i64) ((⟨b1, 0, none⟩ : Addr).add 3) fun (x23 : Int) => pCall Try.prog 29 [(.pointer t_0), (.int .i64 x21), (.int .i64 x22), (.int .i64 x23)] KP (.many [(.int .i64), (.int .i64)]) fun (r24 : Int × Int × Unit) => pLd (.int .i64) ((⟨b1, 0, none⟩ : Addr).add 1) fun (x25 : Int) => pLd (.int .i64) ((⟨b1, 0, none⟩ : Addr).add 2) fun (x26 : Int) => pLd (.int .i64) ((⟨b1, 0, none⟩ : Addr).add 3) fun (x27 : Int) => pCall Try.prog 30 [(.pointer w_1), (.int .i64 x25), (.agg (lay (zc Try.prog 33) [(0, (.int .i64 x26)), (1, (.int .i64 x27))]).toArray)] KP (.many [(.int .i64), (.int .i64)]) fun (r28 : Int × Int × Unit) => pJoin (σ := Bool × Unit)
  (fun k29 => pIf ((r24.1 : Int) == r28.1)
  (k29 (((r24.2.1 : Int) == r28.2.1), ()))
  (k29 (false, ())))
  (fun s => law24_Do_j3 K s.1))
  (pIf ((((x2 : Int).tmod 15) : Int) == 4)
  (pLd (.int .i64) ((⟨b1, 0, none⟩ : Addr).add 1) fun (x31 : Int) => pLd (.int .i64) ((⟨b1, 0, none⟩ : Addr).add 2) fun (x32 : Int) => pLd (.int .i64) ((⟨b1, 0, none⟩ : Addr).add 1) fun (x33 : Int) => pLd (.int .i64) ((⟨b1, 0, none⟩ : Addr).add 2) fun (x34 : Int) => pCall Try.prog 31 [(.pointer t_0), (.int .i64 x31), (.int .i64 x32)] KP (.one (.int .i64)) fun (r35 : Int) => pKeep (loadF Try.prog 3 (.pointer (some ((⟨b1, 0, none⟩ : Addr).add 2))) (.int .i64 x34)) <| pKeep (loadF Try.prog 3 (.pointer (some ((⟨b1, 0, none⟩ : Addr).add 1))) (.int .i64 x33)) <| pCall Try.prog 32 [(.pointer w_1), (.int .i64 x33), (.int .i64 x34)] KP (.one (.int .i64)) fun (r36 : Int) => K (.bool ((r35 : Int) == r36)))
  (pIf ((((x2 : Int).tmod 15) : Int) == 5)
  (pLd (.int .i64) ((⟨b1, 0, none⟩ : Addr).add 1) fun (x37 : Int) => pLd (.int .i64) ((⟨b1, 0, none⟩ : Addr).add 2) fun (x38 : Int) => pLd (.int .i64) ((⟨b1, 0, none⟩ : Addr).add 3) fun (x39 : Int) => pLd (.int .i64) ((⟨b1, 0, none⟩ : Addr).add 1) fun (x40 : Int) => pLd (.int .i64) ((⟨b1, 0, none⟩ : Addr).add 2) fun (x41 : Int) => pLd (.int .i64) ((⟨b1, 0, none⟩ : Addr).add 3) fun (x42 : Int) => pCall Try.prog 33 [(.pointer t_0), (.int .i64 x37), (.int .i64 x38), (.int .i64 x39)] KP (.one (.int .i64)) fun (r43 : Int) => pKeep (loadF Try.prog 3 (.pointer (some ((⟨b1, 0, none⟩ : Addr).add 3))) (.int .i64 x42)) <| pKeep (loadF Try.prog 3 (.pointer (some ((⟨b1, 0, none⟩ : Addr).add 2))) (.int .i64 x41)) <| pKeep (loadF Try.prog 3 (.pointer (some ((⟨b1, 0, none⟩ : Addr).add 1))) (.int .i64 x40)) <| pCall Try.prog 34 [(.pointer w_1), (.int .i64 x40), (.int .i64 x41), (.int .i64 x42)] KP (.one (.int .i64)) fun (r44 : Int) => K (.bool ((r43 : Int) == r44)))
  (pIf ((((x2 : Int).tmod 15) : Int) == 6)
  (pLd (.int .i64) ((⟨b1, 0, none⟩ : Addr).add 1) fun (x45 : Int) => pLd (.int .i64) ((⟨b1, 0, none⟩ : Addr).add 2) fun (x46 : Int) => pCall Try.prog 35 [(.pointer t_0), (.int .i64 x45), (.int .i64 x46)] KP (.many [(.int .i64), (.int .i64)]) fun (r47 : Int × Int × Unit) => pLd (.int .i64) ((⟨b1, 0, none⟩ : Addr).add 1) fun (x48 : Int) => pLd (.int .i64) ((⟨b1, 0, none⟩ : Addr).add 2) fun (x49 : Int) => pCall Try.prog 36 [(.pointer w_1), (.int .i64 x48), (.int .i64 x49)] KP (.many [(.int .i64), (.int .i64)]) fun (r50 : Int × Int × Unit) => pJoin (σ := Bool × Unit)
  (fun k51 => pIf ((r47.1 : Int) == r50.1)
  (k51 (((r47.2.1 : Int) == r50.2.1), ()))
  (k51 (false, ())))
  (fun s => law24_Do_j4 K s.1))
  (pIf ((((x2 : Int).tmod 15) : Int) == 7)
  (pLd (.int .i64) ((⟨b1, 0, none⟩ : Addr).add 1) fun (x53 : Int) => pLdA 5 ((⟨b1, 0, none⟩ : Addr).add 4) fun x54 => pCall Try.prog 37 [(.pointer t_0), (.int .i64 x53), (.agg x54.toArray)] KP (.many [(.int .i64), (.int .i64)]) fun (r55 : Int × Int × Unit) => pLd (.int .i64) ((⟨b1, 0, none⟩ : Addr).add 1) fun (x56 : Int) => pLdA 5 ((⟨b1, 0, none⟩ : Addr).add 4) fun x57 => pCall Try.prog 38 [(.pointer w_1), (.int .i64 x56), (.agg x57.toArray)] KP (.many [(.int .i64), (.int .i64)]) fun (r58 : Int × Int × Unit) => pJoin (σ := Bool × Unit)
  (fun k59 => pIf ((r55.1 : Int) == r58.1)
  (k59 (((r55.2.1 : Int) == r58.2.1), ()))
  (k59 (false, ())))
  (fun s => law24_Do_j5 K s.1))
  (pIf ((((x2 : Int).tmod 15) : Int) == 8)
  (pLd (.int .i64) ((⟨b1, 0, none⟩ : Addr).add 1) fun (x61 : Int) => pLd (.int .i64) ((⟨b1, 0, none⟩ : Addr).add 2) fun (x62 : Int) => pCall Try.prog 39 [(.pointer w_1), (.int .i64 x61), (.int .i64 x62)] KP (.many [.agg, (.int .i64)]) fun (r63 : (List Value) × Int × Unit) => pNew (zc Try.prog 36) fun b64 => pStA 5 ⟨b64, 0, none⟩ r63.1 <| pLd (.int .i64) ((⟨b1, 0, none⟩ : Addr).add 3) fun (x65 : Int) => pSt ((⟨b64, 0, none⟩ : Addr).add 2) (.int .i64 x65) <| pLd (.int .i64) ((⟨b1, 0, none⟩ : Addr).add 1) fun (x66 : Int) => pLd (.int .i64) ((⟨b1, 0, none⟩ : Addr).add 2) fun (x67 : Int) => pLd (.int .i64) ((⟨b1, 0, none⟩ : Addr).add 3) fun (x68 : Int) => pLd (.int .i64) ((⟨b1, 0, none⟩ : Addr).add 1) fun (x69 : Int) => pLd (.int .i64) ((⟨b1, 0, none⟩ : Addr).add 2) fun (x70 : Int) => pLdA 5 ⟨b64, 0, none⟩ fun x71 => pCall Try.prog 40 [(.pointer t_0), (.int .i64 x66), (.int .i64 x67), (.int .i64 x68)] KP (.one (.int .i64)) fun (r72 : Int) => pKeep (loadF Try.prog 36 (.pointer (some ⟨b64, 0, none⟩)) (.agg x71.toArray)) <| pKeep (loadF Try.prog 3 (.pointer (some ((⟨b1, 0, none⟩ : Addr).add 2))) (.int .i64 x70)) <| pKeep (loadF Try.prog 3 (.pointer (some ((⟨b1, 0, none⟩ : Addr).add 1))) (.int .i64 x69)) <| pCall Try.prog 41 [(.pointer w_1), (.int .i64 x69), (.int .i64 x70), (.agg x71.toArray)] KP (.one (.int .i64)) fun (r73 : Int) => K (.bool ((r72 : Int) == r73)))
  (pIf ((((x2 : Int).tmod 15) : Int) == 9)
  (pLd (.int .i64) ((⟨b1, 0, none⟩ : Addr).add 1) fun (x74 : Int) => pLd (.int .i64) ((⟨b1, 0, none⟩ : Addr).add 2) fun (x75 : Int) => pLd (.int .i64) ((⟨b1, 0, none⟩ : Addr).add 1) fun (x76 : Int) => pLd (.int .i64) ((⟨b1, 0, none⟩ : Addr).add 2) fun (x77 : Int) => pCall Try.prog 42 [(.pointer t_0), (.int .i64 x74), (.int .i64 x75)] KP (.one (.int .i64)) fun (r78 : Int) => pKeep (loadF Try.prog 3 (.pointer (some ((⟨b1, 0, none⟩ : Addr).add 2))) (.int .i64 x77)) <| pKeep (loadF Try.prog 3 (.pointer (some ((⟨b1, 0, none⟩ : Addr).add 1))) (.int .i64 x76)) <| pCall Try.prog 41 [(.pointer w_1), (.int .i64 x76), (.int .i64 x77), (.agg (lay (zc Try.prog 36) []).toArray)] KP (.one (.int .i64)) fun (r79 : Int) => K (.bool ((r78 : Int) == r79)))
  (pNew (zc Try.prog 39) fun b80 => pStA 49 ⟨b80, 0, none⟩ (lay (zc Try.prog 39) []) <| pJoin (σ := Unit)
  (fun k81 => pLd (.int .i64) ((⟨b1, 0, none⟩ : Addr).add 1) fun (x82 : Int) => pCall Try.prog 43 [(.pointer w_1), (.int .i64 x82)] KP (.one .bool) fun (r83 : Bool) => pIf r83
  (pSome w_1 fun a84 => pLd (.int .i64) ((⟨b1, 0, none⟩ : Addr).add 1) fun (x85 : Int) => pIdx x85 9 <| pLdA 49 ((a84.add 0).add ((x85 : Int).toNat * 49)) fun x86 => pStA 49 ⟨b80, 0, none⟩ x86 <| k81 (()))
  (k81 (())))
  (fun s => law24_Do_j9 t_0 w_1 KP K b1 b80)))))))))))
def law24_Do_ann : Ann := .two (.none) (.two (.two (.none) (.sub (.two (.none) (.two (.two (.none) (.two (.none) (.join (.none) (.none) [(6, .bool)]))) (.two (.none) (.two (.two (.ord [0, 1, 3, 6, 7, 9, 2, 4, 8, 10, 5, 11, 12, 13]) (.none)) (.two (.none) (.two (.two (.none) (.two (.none) (.join (.none) (.none) [(6, .bool)]))) (.two (.none) (.two (.two (.none) (.two (.none) (.join (.none) (.none) [(6, .bool)]))) (.two (.none) (.two (.two (.ord [0, 1, 3, 6, 7, 9, 2, 4, 8, 10, 5, 11, 12, 13]) (.none)) (.two (.none) (.two (.two (.ord [0, 1, 3, 5, 8, 9, 11, 13, 2, 4, 6, 10, 12, 14, 7, 15, 16, 17]) (.none)) (.two (.none) (.two (.two (.none) (.two (.none) (.join (.none) (.none) [(6, .bool)]))) (.two (.none) (.two (.two (.none) (.two (.none) (.join (.none) (.none) [(6, .bool)]))) (.two (.none) (.two (.two (.none) (.two (.none) (.two (.ord [0, 1, 3, 5, 8, 9, 11, 2, 4, 6, 10, 12, 13, 7, 14, 15, 16]) (.none)))) (.two (.none) (.two (.two (.ord [0, 1, 3, 6, 7, 9, 11, 2, 4, 8, 10, 5, 12, 13, 14]) (.none)) (.none))))))))))))))))))))))) (.two (.none) (.two (.none) (.join (.two (.none) (.two (.ord [0, 1, 3, 4, 2, 5, 6, 7]) (.none))) (.join (.two (.none) (.sub (.two (.none) (.two (.two (.none) (.two (.none) (.none))) (.two (.none) (.two (.two (.none) (.none)) (.two (.none) (.two (.two (.none) (.two (.none) (.none))) (.two (.none) (.two (.two (.none) (.two (.join (.none) (.two (.two (.none) (.none)) (.none)) [(360, .bool)]) (.join (.none) (.two (.none) (.none)) [(370, .bool)]))) (.two (.none) (.none)))))))))))) (.two (.two (.none) (.two (.two (.none) (.none)) (.none))) (.two (.ord [0, 1, 4, 5, 2, 3, 6, 7]) (.two (.none) (.none)))) [(31, (.int .i64))]) []))))
theorem law24_Do_eq (t_0 : Option Addr) (w_1 : Option Addr) (o_2 : List Value) (KP K : Value → Pr) : vcBody Try.prog Try.f14 (Try.f14.body.getD .skip) law24_Do_ann [(.pointer t_0), (.pointer w_1), (.agg o_2.toArray)] KP K = law24_Do t_0 w_1 o_2 KP K := by kernel_rfl
theorem law24_Do_call (t_0 : Option Addr) (w_1 : Option Addr) (o_2 : List Value) {KP K : Value → Pr} {h : Heap} (s : law24_Do t_0 w_1 o_2 (fgt KP) (fgt K) h) : WpCall Try.prog 14 [(.pointer t_0), (.pointer w_1), (.agg o_2.toArray)].toArray KP K h :=
  WpCall.of_vc Try.mixed Try.func14 (by kernel_rfl) Try.call14 law24_Do_ann (by rw [law24_Do_eq]; exact s)

/- (*halberd/halberdref24.Table).Fork -/
def ref24_Table_Fork (t_0 : Option Addr) (pid_1 : Int) (KP K : Value → Pr) : Pr :=
  pCall Try.prog 43 [(.pointer t_0), (.int .i64 pid_1)] KP (.one .bool) fun (r1 : Bool) => pIf (!r1)
  (K (.tuple [(.int .i64 0), (.int .i64 3)].toArray))
  (pCall Try.prog 49 [(.pointer t_0)] KP (.one (.int .i64)) fun (r2 : Int) => pIf ((r2 : Int) == 0)
  (K (.tuple [(.int .i64 0), (.int .i64 11)].toArray))
  (pSome t_0 fun a3 => pIdx pid_1 9 <| pLdA 49 ((a3.add 0).add ((pid_1 : Int).toNat * 49)) fun x4 => pCall Try.prog 50 [(.pointer t_0)] KP (.one (.int .i64)) fun (r5 : Int) => pKeep (loadF Try.prog 39 (.pointer (some ((a3.add 0).add ((pid_1 : Int).toNat * 49)))) (.agg x4.toArray)) <| pCall Try.prog 51 [(.agg x4.toArray)] KP (.one (.int .i64)) fun (r6 : Int) => pIf (decide (((IntKind.i64.wrap (r5 + r6)) : Int) > 16))
  (K (.tuple [(.int .i64 0), (.int .i64 23)].toArray))
  (pSome t_0 fun a7 => pIdx r2 9 <| pLd (.int .i64) (((a7.add 0).add ((r2 : Int).toNat * 49)).add 1) fun (x8 : Int) => pSome t_0 fun a9 => pIdx pid_1 9 <| pSome t_0 fun a10 => pLdA 49 ((a9.add 0).add ((pid_1 : Int).toNat * 49)) fun x11 => pIdx r2 9 <| pStA 49 ((a10.add 0).add ((r2 : Int).toNat * 49)) x11 <| pSome t_0 fun a12 => pIdx r2 9 <| pSt (((a12.add 0).add ((r2 : Int).toNat * 49)).add 0) (.int .i64 r2) <| pSome t_0 fun a13 => pIdx r2 9 <| pSt (((a13.add 0).add ((r2 : Int).toNat * 49)).add 1) (.int .i64 (IntKind.i64.wrap (x8 + 1))) <| pSome t_0 fun a14 => pIdx r2 9 <| pSt (((a14.add 0).add ((r2 : Int).toNat * 49)).add 2) (.int .i64 pid_1) <| pSome t_0 fun a15 => pIdx r2 9 <| pSt (((a15.add 0).add ((r2 : Int).toNat * 49)).add 10) (.int .u64 0) <| pSome t_0 fun a16 => pIdx r2 9 <| pSt (((a16.add 0).add ((r2 : Int).toNat * 49)).add 7) (.int .i64 0) <| K (.tuple [(.int .i64 r2), (.int .i64 0)].toArray))))
def ref24_Table_Fork_ann : Ann := .two (.none) (.two (.two (.none) (.two (.two (.none) (.none)) (.none))) (.two (.none) (.two (.two (.none) (.two (.two (.none) (.none)) (.none))) (.two (.two (.ord [0, 2, 3, 4, 5, 6, 7, 1, 8, 9, 10]) (.two (.two (.none) (.none)) (.none))) (.two (.none) (.two (.ord [0, 1, 2, 3, 4, 5, 6, 8, 9, 7, 10, 11]) (.two (.none) (.two (.none) (.two (.none) (.two (.none) (.two (.none) (.two (.none) (.none)))))))))))))
theorem ref24_Table_Fork_eq (t_0 : Option Addr) (pid_1 : Int) (KP K : Value → Pr) : vcBody Try.prog Try.f15 (Try.f15.body.getD .skip) ref24_Table_Fork_ann [(.pointer t_0), (.int .i64 pid_1)] KP K = ref24_Table_Fork t_0 pid_1 KP K := by kernel_rfl
theorem ref24_Table_Fork_call (t_0 : Option Addr) (pid_1 : Int) {KP K : Value → Pr} {h : Heap} (s : ref24_Table_Fork t_0 pid_1 (fgt KP) (fgt K) h) : WpCall Try.prog 15 [(.pointer t_0), (.int .i64 pid_1)].toArray KP K h :=
  WpCall.of_vc Try.mixed Try.func15 (by kernel_rfl) Try.call15 ref24_Table_Fork_ann (by rw [ref24_Table_Fork_eq]; exact s)

/- (*halberd/tasks.Table).All -/
def tasks_Table_All_j1 (k1 : Sl × Int × Unit → Pr) (x3 : Int) (x10 : Sl) : Pr :=
  k1 (x10, (IntKind.i64.wrap (x3 + 1)), ())
def tasks_Table_All_l2 (t_0 : Option Addr) (KP : Value → Pr) (K : Value → Pr) (k1 : Sl × Int × Unit → Pr) (x2 : Sl) (x3 : Int) : Pr :=
  pIf (decide ((x3 : Int) ≤ 8))
  (pJoin (σ := Sl × Unit)
  (fun k4 => pCall Try.prog 12 [(.pointer t_0), (.int .i64 x3)] KP (.many [.agg, .bool]) fun (r5 : (List Value) × Bool × Unit) => pNew (zc Try.prog 39) fun b6 => pStA 49 ⟨b6, 0, none⟩ r5.1 <| pIf r5.2.1
  (pLdA 49 ⟨b6, 0, none⟩ fun x7 => pAssert (x7.length = 49) <| pNew (lay (reps 1 (zc Try.prog 39)) [(0, (.agg x7.toArray))]) fun b8 => pAppend 49 392 x2 ⟨(some ⟨b8, 0, none⟩), 1, 1⟩ fun s9 => k4 (s9, ()))
  (k4 (x2, ())))
  (fun s => tasks_Table_All_j1 k1 x3 s.1))
  (K (.slice x2.base x2.len x2.cap))
def tasks_Table_All (t_0 : Option Addr) (KP K : Value → Pr) : Pr :=
  pLoop (σ := Sl × Int × Unit) (fun s k1 => tasks_Table_All_l2 t_0 KP K k1 s.1 s.2.1) (⟨none, 0, 0⟩, 1, ())
def tasks_Table_All_ann : Ann := .two (.none) (.two (.none) (.two (.two (.none) (.sub (.loop [(3, .slice), (4, (.int .i64))] (.two (.two (.none) (.two (.none) (.none))) (.join (.sub (.two (.none) (.two (.none) (.two (.none) (.none))))) (.none) [(3, .slice)]))))) (.two (.none) (.none))))
theorem tasks_Table_All_eq (t_0 : Option Addr) (KP K : Value → Pr) : vcBody Try.prog Try.f16 (Try.f16.body.getD .skip) tasks_Table_All_ann [(.pointer t_0)] KP K = tasks_Table_All t_0 KP K := by kernel_rfl
theorem tasks_Table_All_call (t_0 : Option Addr) {KP K : Value → Pr} {h : Heap} (s : tasks_Table_All t_0 (fgt KP) (fgt K) h) : WpCall Try.prog 16 [(.pointer t_0)].toArray KP K h :=
  WpCall.of_vc Try.mixed Try.func16 (by kernel_rfl) Try.call16 tasks_Table_All_ann (by rw [tasks_Table_All_eq]; exact s)

/- (*halberd/tasks.Table).Open -/
def tasks_Table_Open_l1 (KP : Value → Pr) (K : Value → Pr) (r1 : Sl) (k2 : Int × Int × Unit → Pr) (x3 : Int) (x4 : Int) : Pr :=
  pIf (decide ((x4 : Int) < (r1.len : Int)))
  (pIdx x4 r1.len <| pSome r1.base fun a5 => pLdA 49 (a5.add ((x4 : Int).toNat * 49)) fun x6 => pNew (zc Try.prog 39) fun b7 => pStA 49 ⟨b7, 0, none⟩ x6 <| pLdA 49 ⟨b7, 0, none⟩ fun x8 => pCall Try.prog 25 [(.agg x8.toArray)] KP (.one (.int .i64)) fun (r9 : Int) => k2 ((IntKind.i64.wrap (x3 + r9)), (IntKind.i64.wrap (x4 + 1)), ()))
  (K (.int .i64 x3))
def tasks_Table_Open (t_0 : Option Addr) (KP K : Value → Pr) : Pr :=
  pCall Try.prog 16 [(.pointer t_0)] KP (.one .slice) fun (r1 : Sl) => pLoop (σ := Int × Int × Unit) (fun s k2 => tasks_Table_Open_l1 KP K r1 k2 s.1 s.2.1) (0, 0, ())
def tasks_Table_Open_ann : Ann := .two (.none) (.two (.none) (.two (.two (.none) (.sub (.loop [(3, (.int .i64)), (9, (.int .i64))] (.two (.none) (.two (.two (.none) (.none)) (.two (.sub (.two (.none) (.none))) (.none))))))) (.two (.none) (.none))))
theorem tasks_Table_Open_eq (t_0 : Option Addr) (KP K : Value → Pr) : vcBody Try.prog Try.f17 (Try.f17.body.getD .skip) tasks_Table_Open_ann [(.pointer t_0)] KP K = tasks_Table_Open t_0 KP K := by kernel_rfl
theorem tasks_Table_Open_call (t_0 : Option Addr) {KP K : Value → Pr} {h : Heap} (s : tasks_Table_Open t_0 (fgt KP) (fgt K) h) : WpCall Try.prog 17 [(.pointer t_0)].toArray KP K h :=
  WpCall.of_vc Try.mixed Try.func17 (by kernel_rfl) Try.call17 tasks_Table_Open_ann (by rw [tasks_Table_Open_eq]; exact s)

/- (*halberd/tasks.Table).Up -/
def tasks_Table_Up_j1 (t_0 : Option Addr) (KP : Value → Pr) (K : Value → Pr) (k2 : Sl × (Option Addr) × Unit → Pr) (x3 : Sl) (x4 : Option Addr) (x9 : Bool) : Pr :=
  pIf x9
  (pSome x4 fun a10 => pLd (.int .i64) (a10.add 0) fun (x11 : Int) => pNew (lay (reps 1 (zc Try.prog 3)) [(0, (.int .i64 x11))]) fun b12 => pAppend 1 8 x3 ⟨(some ⟨b12, 0, none⟩), 1, 1⟩ fun s13 => pSome x4 fun a14 => pLd (.int .i64) (a14.add 2) fun (x15 : Int) => pCall Try.prog 26 [(.pointer t_0), (.int .i64 x15)] KP (.one .ptr) fun (r16 : Option Addr) => k2 (s13, r16, ()))
  (K (.slice x3.base x3.len x3.cap))
def tasks_Table_Up_l2 (t_0 : Option Addr) (KP : Value → Pr) (K : Value → Pr) (k2 : Sl × (Option Addr) × Unit → Pr) (x3 : Sl) (x4 : Option Addr) : Pr :=
  pJoin (σ := Bool × Unit)
  (fun k5 => pIf (!x4.isNone)
  (pSome x4 fun a6 => pLd (.int .i64) (a6.add 0) fun (x7 : Int) => pCall Try.prog 52 [(.slice x3.base x3.len x3.cap), (.int .i64 x7)] KP (.one .bool) fun (r8 : Bool) => k5 ((!r8), ()))
  (k5 (false, ())))
  (fun s => tasks_Table_Up_j1 t_0 KP K k2 x3 x4 s.1)
def tasks_Table_Up (t_0 : Option Addr) (pid_1 : Int) (KP K : Value → Pr) : Pr :=
  pCall Try.prog 26 [(.pointer t_0), (.int .i64 pid_1)] KP (.one .ptr) fun (r1 : Option Addr) => pLoop (σ := Sl × (Option Addr) × Unit) (fun s k2 => tasks_Table_Up_l2 t_0 KP K k2 s.1 s.2.1) (⟨none, 0, 0⟩, r1, ())
def tasks_Table_Up_ann : Ann := .two (.none) (.two (.none) (.two (.two (.none) (.sub (.loop [(5, .slice), (6, .ptr)] (.two (.join (.none) (.two (.none) (.none)) [(20, .bool)]) (.two (.sub (.none)) (.none)))))) (.two (.none) (.none))))
theorem tasks_Table_Up_eq (t_0 : Option Addr) (pid_1 : Int) (KP K : Value → Pr) : vcBody Try.prog Try.f18 (Try.f18.body.getD .skip) tasks_Table_Up_ann [(.pointer t_0), (.int .i64 pid_1)] KP K = tasks_Table_Up t_0 pid_1 KP K := by kernel_rfl
theorem tasks_Table_Up_call (t_0 : Option Addr) (pid_1 : Int) {KP K : Value → Pr} {h : Heap} (s : tasks_Table_Up t_0 pid_1 (fgt KP) (fgt K) h) : WpCall Try.prog 18 [(.pointer t_0), (.int .i64 pid_1)].toArray KP K h :=
  WpCall.of_vc Try.mixed Try.func18 (by kernel_rfl) Try.call18 tasks_Table_Up_ann (by rw [tasks_Table_Up_eq]; exact s)

end Go.Proofs.Ytgheplpbffanoaa
