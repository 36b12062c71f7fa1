import Derived.Test.YtgheplpbffanoaaV
set_option linter.unusedVariables false
namespace Go.Proofs.Ytgheplpbffanoaa
open Go.Hl
/- (*halberd/halberdref24.Table).Exit -/
def ref24_Table_Exit_j1 (t_0 : Option Addr) (pid_1 : Int) (x15 : Int) (k16 : Unit → Pr) : Pr :=
  pSome t_0 fun a21 => pIdx x15 9 <| pLd (.int .i64) (((a21.add 0).add ((x15 : Int).toNat * 49)).add 7) fun (x22 : Int) => pIf ((x22 : Int) == pid_1)
  (pSome t_0 fun a23 => pIdx x15 9 <| pSt (((a23.add 0).add ((x15 : Int).toNat * 49)).add 7) (.int .i64 0) <| k16 (()))
  (k16 (()))
def ref24_Table_Exit_j2 (k14 : Int × Unit → Pr) (x15 : Int) : Pr :=
  k14 ((IntKind.i64.wrap (x15 + 1)), ())
def ref24_Table_Exit_l3 (t_0 : Option Addr) (pid_1 : Int) (K : Value → Pr) (k14 : Int × Unit → Pr) (x15 : Int) : Pr :=
  pIf (decide ((x15 : Int) < 9))
  (pJoin (σ := Unit)
  (fun k16 => pJoin (σ := Unit)
  (fun k17 => pSome t_0 fun a18 => pIdx x15 9 <| pLd (.int .i64) (((a18.add 0).add ((x15 : Int).toNat * 49)).add 2) fun (x19 : Int) => pIf ((x19 : Int) == pid_1)
  (pSome t_0 fun a20 => pIdx x15 9 <| pSt (((a20.add 0).add ((x15 : Int).toNat * 49)).add 2) (.int .i64 1) <| k17 (()))
  (k17 (())))
  (fun s => ref24_Table_Exit_j1 t_0 pid_1 x15 k16))
  (fun s => ref24_Table_Exit_j2 k14 x15))
  (K (.int .i64 0))
def ref24_Table_Exit_j4 (t_0 : Option Addr) (pid_1 : Int) (K : Value → Pr) (b4 : Nat) (x6 : Int) : Pr :=
  pSome t_0 fun a7 => pLd (.int .i64) ((⟨b4, 0, none⟩ : Addr).add 1) fun (x8 : Int) => pLd (.int .i64) ((⟨b4, 0, none⟩ : Addr).add 2) fun (x9 : Int) => pLd (.int .i64) ((⟨b4, 0, none⟩ : Addr).add 3) fun (x10 : Int) => pLd (.int .i64) ((⟨b4, 0, none⟩ : Addr).add 4) fun (x11 : Int) => pLd (.int .i64) ((⟨b4, 0, none⟩ : Addr).add 5) fun (x12 : Int) => pLd (.int .i64) ((⟨b4, 0, none⟩ : Addr).add 6) fun (x13 : Int) => pIdx pid_1 9 <| pStA 49 ((a7.add 0).add ((pid_1 : Int).toNat * 49)) (lay (zc Try.prog 39) [(0, (.int .i64 pid_1)), (1, (.int .i64 x8)), (2, (.int .i64 x9)), (3, (.int .i64 x10)), (4, (.int .i64 x11)), (5, (.int .i64 x12)), (6, (.int .i64 x13)), (8, (.bool true)), (9, (.int .i64 x6))]) <| pLoop (σ := Int × Unit) (fun s k14 => ref24_Table_Exit_l3 t_0 pid_1 K k14 s.1) (1, ())
def ref24_Table_Exit (t_0 : Option Addr) (pid_1 : Int) (code_2 : Int) (KP K : Value → Pr) : Pr :=
  pCall Try.prog 43 [(.pointer t_0), (.int .i64 pid_1)] KP (.one .bool) fun (r1 : Bool) => pIf (!r1)
  (K (.int .i64 3))
  (pIf ((pid_1 : Int) == 1)
  (K (.int .i64 1))
  (pSome t_0 fun a2 => pIdx pid_1 9 <| pLdA 49 ((a2.add 0).add ((pid_1 : Int).toNat * 49)) fun x3 => pNew (zc Try.prog 39) fun b4 => pStA 49 ⟨b4, 0, none⟩ x3 <| pAssert ((256 : Int) ≠ 0) <| pJoin (σ := Int × Unit)
  (fun k5 => pIf (decide ((((code_2 : Int).tmod 256) : Int) < 0))
  (k5 ((IntKind.i64.wrap (((code_2 : Int).tmod 256) + 256)), ()))
  (k5 (((code_2 : Int).tmod 256), ())))
  (fun s => ref24_Table_Exit_j4 t_0 pid_1 K b4 s.1)))
def ref24_Table_Exit_ann : Ann := .two (.none) (.two (.two (.none) (.two (.two (.none) (.none)) (.none))) (.two (.two (.none) (.two (.two (.none) (.none)) (.none))) (.two (.none) (.two (.none) (.join (.two (.none) (.two (.none) (.none))) (.two (.ord [0, 1, 2, 3, 5, 7, 9, 11, 13, 15, 17, 18, 4, 6, 8, 10, 12, 14, 16, 19, 20]) (.two (.two (.none) (.sub (.loop [(8, (.int .i64))] (.two (.two (.none) (.two (.none) (.none))) (.join (.sub (.join (.two (.none) (.two (.none) (.none))) (.two (.none) (.two (.none) (.none))) [])) (.none) []))))) (.two (.none) (.none)))) [(2, (.int .i64))])))))
theorem ref24_Table_Exit_eq (t_0 : Option Addr) (pid_1 : Int) (code_2 : Int) (KP K : Value → Pr) : vcBody Try.prog Try.f27 (Try.f27.body.getD .skip) ref24_Table_Exit_ann [(.pointer t_0), (.int .i64 pid_1), (.int .i64 code_2)] KP K = ref24_Table_Exit t_0 pid_1 code_2 KP K := by kernel_rfl
theorem ref24_Table_Exit_call (t_0 : Option Addr) (pid_1 : Int) (code_2 : Int) {KP K : Value → Pr} {h : Heap} (s : ref24_Table_Exit t_0 pid_1 code_2 (fgt KP) (fgt K) h) : WpCall Try.prog 27 [(.pointer t_0), (.int .i64 pid_1), (.int .i64 code_2)].toArray KP K h :=
  WpCall.of_vc Try.mixed Try.func27 (by kernel_rfl) Try.call27 ref24_Table_Exit_ann (by rw [ref24_Table_Exit_eq]; exact s)

/- (*halberd/halberdref24.Table).Wait -/
def ref24_Table_Wait_j1 (t_0 : Option Addr) (K : Value → Pr) (x3 : Int) (x4 : Int) (k5 : Int × Unit → Pr) (x10 : Bool) : Pr :=
  pIf x10
  (k5 (x3, ()))
  (pSome t_0 fun a11 => pIdx x4 9 <| pLd .bool (((a11.add 0).add ((x4 : Int).toNat * 49)).add 8) fun (x12 : Bool) => pIf x12
  (pSome t_0 fun a13 => pIdx x4 9 <| pLd (.int .i64) (((a13.add 0).add ((x4 : Int).toNat * 49)).add 9) fun (x14 : Int) => pSome t_0 fun a15 => pIdx x4 9 <| pSome t_0 fun a16 => pLd (.int .i64) (((a15.add 0).add ((x4 : Int).toNat * 49)).add 1) fun (x17 : Int) => pIdx x4 9 <| pStA 49 ((a16.add 0).add ((x4 : Int).toNat * 49)) (lay (zc Try.prog 39) [(1, (.int .i64 x17))]) <| K (.tuple [(.int .i64 x4), (.int .i64 x14), (.int .i64 0)].toArray))
  (k5 ((IntKind.i64.wrap (x3 + 1)), ())))
def ref24_Table_Wait_j2 (k2 : Int × Int × Unit → Pr) (x4 : Int) (x18 : Int) : Pr :=
  k2 (x18, (IntKind.i64.wrap (x4 + 1)), ())
def ref24_Table_Wait_l3 (t_0 : Option Addr) (pid_1 : Int) (KP : Value → Pr) (K : Value → Pr) (k2 : Int × Int × Unit → Pr) (x3 : Int) (x4 : Int) : Pr :=
  pIf (decide ((x4 : Int) < 9))
  (pJoin (σ := Int × Unit)
  (fun k5 => pJoin (σ := Bool × Unit)
  (fun k6 => pCall Try.prog 60 [(.pointer t_0), (.int .i64 x4)] KP (.one .bool) fun (r7 : Bool) => pIf (!r7)
  (k6 (true, ()))
  (pIf ((x4 : Int) == pid_1)
  (k6 (true, ()))
  (pSome t_0 fun a8 => pIdx x4 9 <| pLd (.int .i64) (((a8.add 0).add ((x4 : Int).toNat * 49)).add 2) fun (x9 : Int) => k6 (((x9 : Int) != pid_1), ()))))
  (fun s => ref24_Table_Wait_j1 t_0 K x3 x4 k5 s.1))
  (fun s => ref24_Table_Wait_j2 k2 x4 s.1))
  (pIf ((x3 : Int) == 0)
  (K (.tuple [(.int .i64 0), (.int .i64 0), (.int .i64 10)].toArray))
  (K (.tuple [(.int .i64 0), (.int .i64 0), (.int .i64 11)].toArray)))
def ref24_Table_Wait (t_0 : Option Addr) (pid_1 : Int) (KP K : Value → Pr) : Pr :=
  pCall Try.prog 43 [(.pointer t_0), (.int .i64 pid_1)] KP (.one .bool) fun (r1 : Bool) => pIf (!r1)
  (K (.tuple [(.int .i64 0), (.int .i64 0), (.int .i64 3)].toArray))
  (pLoop (σ := Int × Int × Unit) (fun s k2 => ref24_Table_Wait_l3 t_0 pid_1 KP K k2 s.1 s.2.1) (0, 1, ()))
def ref24_Table_Wait_ann : Ann := .two (.none) (.two (.two (.none) (.two (.two (.none) (.none)) (.none))) (.two (.none) (.two (.two (.none) (.sub (.loop [(7, (.int .i64)), (8, (.int .i64))] (.two (.two (.none) (.two (.none) (.none))) (.join (.sub (.two (.join (.none) (.two (.none) (.none)) [(37, .bool)]) (.two (.none) (.two (.none) (.two (.two (.none) (.two (.ord [0, 1, 2, 3, 4, 5, 6, 7, 10, 11, 8, 9, 12, 13]) (.two (.none) (.none)))) (.none)))))) (.none) [(7, (.int .i64))]))))) (.two (.two (.none) (.two (.two (.none) (.none)) (.none))) (.two (.none) (.none))))))
theorem ref24_Table_Wait_eq (t_0 : Option Addr) (pid_1 : Int) (KP K : Value → Pr) : vcBody Try.prog Try.f28 (Try.f28.body.getD .skip) ref24_Table_Wait_ann [(.pointer t_0), (.int .i64 pid_1)] KP K = ref24_Table_Wait t_0 pid_1 KP K := by kernel_rfl
theorem ref24_Table_Wait_call (t_0 : Option Addr) (pid_1 : Int) {KP K : Value → Pr} {h : Heap} (s : ref24_Table_Wait t_0 pid_1 (fgt KP) (fgt K) h) : WpCall Try.prog 28 [(.pointer t_0), (.int .i64 pid_1)].toArray KP K h :=
  WpCall.of_vc Try.mixed Try.func28 (by kernel_rfl) Try.call28 ref24_Table_Wait_ann (by rw [ref24_Table_Wait_eq]; exact s)

/- (*halberd/tasks.Table).Add -/
def tasks_Table_Add (t_0 : Option Addr) (pid_1 : Int) (ino_2 : Int) (flags_3 : Int) (KP K : Value → Pr) : Pr :=
  pCall Try.prog 61 [(.pointer t_0), (.int .i64 pid_1), (.agg (lay (zc Try.prog 33) [(0, (.int .i64 ino_2)), (1, (.int .i64 flags_3))]).toArray)] KP (.many [(.int .i64), (.int .i64)]) fun (r1 : Int × Int × Unit) => K (.tuple [(.int .i64 r1.1), (.int .i64 r1.2.1)].toArray)
def tasks_Table_Add_ann : Ann := .two (.none) (.two (.none) (.none))
theorem tasks_Table_Add_eq (t_0 : Option Addr) (pid_1 : Int) (ino_2 : Int) (flags_3 : Int) (KP K : Value → Pr) : vcBody Try.prog Try.f29 (Try.f29.body.getD .skip) tasks_Table_Add_ann [(.pointer t_0), (.int .i64 pid_1), (.int .i64 ino_2), (.int .i64 flags_3)] KP K = tasks_Table_Add t_0 pid_1 ino_2 flags_3 KP K := by kernel_rfl
theorem tasks_Table_Add_call (t_0 : Option Addr) (pid_1 : Int) (ino_2 : Int) (flags_3 : Int) {KP K : Value → Pr} {h : Heap} (s : tasks_Table_Add t_0 pid_1 ino_2 flags_3 (fgt KP) (fgt K) h) : WpCall Try.prog 29 [(.pointer t_0), (.int .i64 pid_1), (.int .i64 ino_2), (.int .i64 flags_3)].toArray KP K h :=
  WpCall.of_vc Try.mixed Try.func29 (by kernel_rfl) Try.call29 tasks_Table_Add_ann (by rw [tasks_Table_Add_eq]; exact s)

/- (*halberd/halberdref24.Table).Put -/
def ref24_Table_Put_l1 (t_0 : Option Addr) (pid_1 : Int) (KP : Value → Pr) (K : Value → Pr) (b1 : Nat) (k3 : Int × Unit → Pr) (x4 : Int) : Pr :=
  pIf (decide ((x4 : Int) < 6))
  (pSome t_0 fun a5 => pIdx pid_1 9 <| pIdx x4 6 <| pLdA 3 ((((a5.add 0).add ((pid_1 : Int).toNat * 49)).add 11).add ((x4 : Int).toNat * 3)) fun x6 => pAssert (okCells [.int .i64, .int .i64, .int .i64] x6 = true ∧ okCells [.int .i64, .int .i64, .int .i64] (lay (zc Try.prog 33) []) = true) <| pIf (eqCells x6 (lay (zc Try.prog 33) []))
  (pCall Try.prog 50 [(.pointer t_0)] KP (.one (.int .i64)) fun (r7 : Int) => pIf (decide ((r7 : Int) ≥ 16))
  (K (.tuple [(.int .i64 0), (.int .i64 23)].toArray))
  (pSome t_0 fun a8 => pIdx pid_1 9 <| pLdA 3 ⟨b1, 0, none⟩ fun x9 => pIdx x4 6 <| pStA 3 ((((a8.add 0).add ((pid_1 : Int).toNat * 49)).add 11).add ((x4 : Int).toNat * 3)) x9 <| K (.tuple [(.int .i64 x4), (.int .i64 0)].toArray)))
  (k3 ((IntKind.i64.wrap (x4 + 1)), ())))
  (K (.tuple [(.int .i64 0), (.int .i64 24)].toArray))
def ref24_Table_Put (t_0 : Option Addr) (pid_1 : Int) (f_2 : List Value) (KP K : Value → Pr) : Pr :=
  pNew f_2 fun b1 => pCall Try.prog 43 [(.pointer t_0), (.int .i64 pid_1)] KP (.one .bool) fun (r2 : Bool) => pIf (!r2)
  (K (.tuple [(.int .i64 0), (.int .i64 3)].toArray))
  (pLoop (σ := Int × Unit) (fun s k3 => ref24_Table_Put_l1 t_0 pid_1 KP K b1 k3 s.1) (0, ()))
def ref24_Table_Put_ann : Ann := .two (.none) (.two (.two (.none) (.two (.two (.none) (.none)) (.none))) (.two (.two (.none) (.sub (.loop [(8, (.int .i64))] (.two (.two (.none) (.two (.none) (.none))) (.two (.sub (.two (.none) (.two (.two (.two (.none) (.two (.two (.none) (.none)) (.none))) (.two (.ord [0, 1, 2, 4, 5, 6, 7, 3, 8, 9]) (.two (.none) (.none)))) (.none)))) (.none)))))) (.two (.none) (.none))))
theorem ref24_Table_Put_eq (t_0 : Option Addr) (pid_1 : Int) (f_2 : List Value) (KP K : Value → Pr) : vcBody Try.prog Try.f30 (Try.f30.body.getD .skip) ref24_Table_Put_ann [(.pointer t_0), (.int .i64 pid_1), (.agg f_2.toArray)] KP K = ref24_Table_Put t_0 pid_1 f_2 KP K := by kernel_rfl
theorem ref24_Table_Put_call (t_0 : Option Addr) (pid_1 : Int) (f_2 : List Value) {KP K : Value → Pr} {h : Heap} (s : ref24_Table_Put t_0 pid_1 f_2 (fgt KP) (fgt K) h) : WpCall Try.prog 30 [(.pointer t_0), (.int .i64 pid_1), (.agg f_2.toArray)].toArray KP K h :=
  WpCall.of_vc Try.mixed Try.func30 (by kernel_rfl) Try.call30 ref24_Table_Put_ann (by rw [ref24_Table_Put_eq]; exact s)

/- (*halberd/tasks.Table).Close -/
def tasks_Table_Close (t_0 : Option Addr) (pid_1 : Int) (fd_2 : Int) (KP K : Value → Pr) : Pr :=
  pCall Try.prog 62 [(.pointer t_0), (.int .i64 pid_1), (.int .i64 fd_2), (.func (.func 63) [].toArray [].toArray)] KP (.one (.int .i64)) fun (r1 : Int) => K (.int .i64 r1)
def tasks_Table_Close_ann : Ann := .two (.none) (.two (.none) (.none))
theorem tasks_Table_Close_eq (t_0 : Option Addr) (pid_1 : Int) (fd_2 : Int) (KP K : Value → Pr) : vcBody Try.prog Try.f31 (Try.f31.body.getD .skip) tasks_Table_Close_ann [(.pointer t_0), (.int .i64 pid_1), (.int .i64 fd_2)] KP K = tasks_Table_Close t_0 pid_1 fd_2 KP K := by kernel_rfl
theorem tasks_Table_Close_call (t_0 : Option Addr) (pid_1 : Int) (fd_2 : Int) {KP K : Value → Pr} {h : Heap} (s : tasks_Table_Close t_0 pid_1 fd_2 (fgt KP) (fgt K) h) : WpCall Try.prog 31 [(.pointer t_0), (.int .i64 pid_1), (.int .i64 fd_2)].toArray KP K h :=
  WpCall.of_vc Try.mixed Try.func31 (by kernel_rfl) Try.call31 tasks_Table_Close_ann (by rw [tasks_Table_Close_eq]; exact s)

/- (*halberd/halberdref24.Table).Close -/
def ref24_Table_Close_j1 (K : Value → Pr) (r1 : Int) : Pr :=
  K (.int .i64 r1)
def ref24_Table_Close (t_0 : Option Addr) (pid_1 : Int) (k_2 : Int) (KP K : Value → Pr) : Pr :=
  pCall Try.prog 64 [(.pointer t_0), (.int .i64 pid_1), (.int .i64 k_2)] KP (.one (.int .i64)) fun (r1 : Int) => pJoin (σ := Unit)
  (fun k2 => pIf ((r1 : Int) == 0)
  (pSome t_0 fun a3 => pIdx pid_1 9 <| pIdx k_2 6 <| pStA 3 ((((a3.add 0).add ((pid_1 : Int).toNat * 49)).add 11).add ((k_2 : Int).toNat * 3)) (lay (zc Try.prog 33) []) <| k2 (()))
  (k2 (())))
  (fun s => ref24_Table_Close_j1 K r1)
def ref24_Table_Close_ann : Ann := .two (.none) (.two (.none) (.join (.two (.none) (.two (.none) (.none))) (.two (.none) (.none)) []))
theorem ref24_Table_Close_eq (t_0 : Option Addr) (pid_1 : Int) (k_2 : Int) (KP K : Value → Pr) : vcBody Try.prog Try.f32 (Try.f32.body.getD .skip) ref24_Table_Close_ann [(.pointer t_0), (.int .i64 pid_1), (.int .i64 k_2)] KP K = ref24_Table_Close t_0 pid_1 k_2 KP K := by kernel_rfl
theorem ref24_Table_Close_call (t_0 : Option Addr) (pid_1 : Int) (k_2 : Int) {KP K : Value → Pr} {h : Heap} (s : ref24_Table_Close t_0 pid_1 k_2 (fgt KP) (fgt K) h) : WpCall Try.prog 32 [(.pointer t_0), (.int .i64 pid_1), (.int .i64 k_2)].toArray KP K h :=
  WpCall.of_vc Try.mixed Try.func32 (by kernel_rfl) Try.call32 ref24_Table_Close_ann (by rw [ref24_Table_Close_eq]; exact s)

/- (*halberd/tasks.Table).Seek -/
def tasks_Table_Seek (t_0 : Option Addr) (pid_1 : Int) (fd_2 : Int) (off_3 : Int) (KP K : Value → Pr) : Pr :=
  pNew [(.int .i64 off_3)] fun b1 => pCall Try.prog 62 [(.pointer t_0), (.int .i64 pid_1), (.int .i64 fd_2), (.func (.func 65) [].toArray [(.pointer (some ⟨b1, 0, none⟩))].toArray)] KP (.one (.int .i64)) fun (r2 : Int) => K (.int .i64 r2)
def tasks_Table_Seek_ann : Ann := .two (.none) (.two (.none) (.none))
theorem tasks_Table_Seek_eq (t_0 : Option Addr) (pid_1 : Int) (fd_2 : Int) (off_3 : Int) (KP K : Value → Pr) : vcBody Try.prog Try.f33 (Try.f33.body.getD .skip) tasks_Table_Seek_ann [(.pointer t_0), (.int .i64 pid_1), (.int .i64 fd_2), (.int .i64 off_3)] KP K = tasks_Table_Seek t_0 pid_1 fd_2 off_3 KP K := by kernel_rfl
theorem tasks_Table_Seek_call (t_0 : Option Addr) (pid_1 : Int) (fd_2 : Int) (off_3 : Int) {KP K : Value → Pr} {h : Heap} (s : tasks_Table_Seek t_0 pid_1 fd_2 off_3 (fgt KP) (fgt K) h) : WpCall Try.prog 33 [(.pointer t_0), (.int .i64 pid_1), (.int .i64 fd_2), (.int .i64 off_3)].toArray KP K h :=
  WpCall.of_vc Try.mixed Try.func33 (by kernel_rfl) Try.call33 tasks_Table_Seek_ann (by rw [tasks_Table_Seek_eq]; exact s)

/- (*halberd/halberdref24.Table).Seek -/
def ref24_Table_Seek_j1 (K : Value → Pr) (r1 : Int) : Pr :=
  K (.int .i64 r1)
def ref24_Table_Seek (t_0 : Option Addr) (pid_1 : Int) (k_2 : Int) (off_3 : Int) (KP K : Value → Pr) : Pr :=
  pCall Try.prog 64 [(.pointer t_0), (.int .i64 pid_1), (.int .i64 k_2)] KP (.one (.int .i64)) fun (r1 : Int) => pJoin (σ := Unit)
  (fun k2 => pIf ((r1 : Int) == 0)
  (pSome t_0 fun a3 => pIdx pid_1 9 <| pIdx k_2 6 <| pSt (((((a3.add 0).add ((pid_1 : Int).toNat * 49)).add 11).add ((k_2 : Int).toNat * 3)).add 2) (.int .i64 off_3) <| k2 (()))
  (k2 (())))
  (fun s => ref24_Table_Seek_j1 K r1)
def ref24_Table_Seek_ann : Ann := .two (.none) (.two (.none) (.join (.two (.none) (.two (.none) (.none))) (.two (.none) (.none)) []))
theorem ref24_Table_Seek_eq (t_0 : Option Addr) (pid_1 : Int) (k_2 : Int) (off_3 : Int) (KP K : Value → Pr) : vcBody Try.prog Try.f34 (Try.f34.body.getD .skip) ref24_Table_Seek_ann [(.pointer t_0), (.int .i64 pid_1), (.int .i64 k_2), (.int .i64 off_3)] KP K = ref24_Table_Seek t_0 pid_1 k_2 off_3 KP K := by kernel_rfl
theorem ref24_Table_Seek_call (t_0 : Option Addr) (pid_1 : Int) (k_2 : Int) (off_3 : Int) {KP K : Value → Pr} {h : Heap} (s : ref24_Table_Seek t_0 pid_1 k_2 off_3 (fgt KP) (fgt K) h) : WpCall Try.prog 34 [(.pointer t_0), (.int .i64 pid_1), (.int .i64 k_2), (.int .i64 off_3)].toArray KP K h :=
  WpCall.of_vc Try.mixed Try.func34 (by kernel_rfl) Try.call34 ref24_Table_Seek_ann (by rw [ref24_Table_Seek_eq]; exact s)

end Go.Proofs.Ytgheplpbffanoaa
