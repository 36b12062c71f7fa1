import Derived.Test.YtgheplpbffanoaaV
set_option linter.unusedVariables false
namespace Go.Proofs.Ytgheplpbffanoaa
open Go.Hl
/- halberd/halberdref24.Count -/
def ref24_Count_j1 (x3 : Int) (k5 : Int × Unit → Pr) (x10 : Bool) : Pr :=
  pIf x10
  (k5 ((IntKind.i64.wrap (x3 + 1)), ()))
  (k5 (x3, ()))
def ref24_Count_j2 (k2 : Int × Int × Unit → Pr) (x4 : Int) (x11 : Int) : Pr :=
  k2 (x11, (IntKind.i64.wrap (x4 + 1)), ())
def ref24_Count_l3 (K : Value → Pr) (b1 : Nat) (k2 : Int × Int × Unit → Pr) (x3 : Int) (x4 : Int) : Pr :=
  pIf (decide ((x4 : Int) < 6))
  (pJoin (σ := Int × Unit)
  (fun k5 => pJoin (σ := Bool × Unit)
  (fun k6 => pIdx x4 6 <| pLd (.int .i64) ((((⟨b1, 0, none⟩ : Addr).add 11).add ((x4 : Int).toNat * 3)).add 0) fun (x7 : Int) => pIf ((x7 : Int) != 0)
  (k6 (true, ()))
  (pIdx x4 6 <| pLd (.int .i64) ((((⟨b1, 0, none⟩ : Addr).add 11).add ((x4 : Int).toNat * 3)).add 1) fun (x8 : Int) => pIf ((x8 : Int) != 0)
  (k6 (true, ()))
  (pIdx x4 6 <| pLd (.int .i64) ((((⟨b1, 0, none⟩ : Addr).add 11).add ((x4 : Int).toNat * 3)).add 2) fun (x9 : Int) => k6 (((x9 : Int) != 0), ()))))
  (fun s => ref24_Count_j1 x3 k5 s.1))
  (fun s => ref24_Count_j2 k2 x4 s.1))
  (K (.int .i64 x3))
def ref24_Count (x_0 : List Value) (KP K : Value → Pr) : Pr :=
  pNew x_0 fun b1 => pLoop (σ := Int × Int × Unit) (fun s k2 => ref24_Count_l3 K b1 k2 s.1 s.2.1) (0, 0, ())
def ref24_Count_ann : Ann := .two (.none) (.two (.none) (.two (.two (.none) (.sub (.loop [(3, (.int .i64)), (4, (.int .i64))] (.two (.two (.none) (.two (.none) (.none))) (.join (.sub (.join (.none) (.two (.none) (.none)) [(30, .bool)])) (.none) [(3, (.int .i64))]))))) (.two (.none) (.none))))
theorem ref24_Count_eq (x_0 : List Value) (KP K : Value → Pr) : vcBody Try.prog Try.f51 (Try.f51.body.getD .skip) ref24_Count_ann [(.agg x_0.toArray)] KP K = ref24_Count x_0 KP K := by kernel_rfl
theorem ref24_Count_call (x_0 : List Value) {KP K : Value → Pr} {h : Heap} (s : ref24_Count x_0 (fgt KP) (fgt K) h) : WpCall Try.prog 51 [(.agg x_0.toArray)].toArray KP K h :=
  WpCall.of_vc Try.mixed Try.func51 (by kernel_rfl) Try.call51 ref24_Count_ann (by rw [ref24_Count_eq]; exact s)

/- slices.Contains[[]int,int] -/
def slices_Contains_int_int (s_0 : Sl) (v_1 : Int) (KP K : Value → Pr) : Pr :=
  pCall Try.prog 78 [(.slice s_0.base s_0.len s_0.cap), (.int .i64 v_1)] KP (.one (.int .i64)) fun (r1 : Int) => K (.bool (decide ((r1 : Int) ≥ 0)))
def slices_Contains_int_int_ann : Ann := .two (.none) (.two (.none) (.none))
theorem slices_Contains_int_int_eq (s_0 : Sl) (v_1 : Int) (KP K : Value → Pr) : vcBody Try.prog Try.f52 (Try.f52.body.getD .skip) slices_Contains_int_int_ann [(.slice s_0.base s_0.len s_0.cap), (.int .i64 v_1)] KP K = slices_Contains_int_int s_0 v_1 KP K := by kernel_rfl
theorem slices_Contains_int_int_call (s_0 : Sl) (v_1 : Int) {KP K : Value → Pr} {h : Heap} (s : slices_Contains_int_int s_0 v_1 (fgt KP) (fgt K) h) : WpCall Try.prog 52 [(.slice s_0.base s_0.len s_0.cap), (.int .i64 v_1)].toArray KP K h :=
  WpCall.of_vc Try.mixed Try.func52 (by kernel_rfl) Try.call52 slices_Contains_int_int_ann (by rw [slices_Contains_int_int_eq]; exact s)

/- (*halberd/halberdref24.Table).All -/
def ref24_Table_All_j1 (k1 : Sl × Int × Unit → Pr) (x3 : Int) (x10 : Sl) : Pr :=
  k1 (x10, (IntKind.i64.wrap (x3 + 1)), ())
def ref24_Table_All_l2 (t_0 : Option Addr) (KP : Value → Pr) (K : Value → Pr) (k1 : Sl × Int × Unit → Pr) (x2 : Sl) (x3 : Int) : Pr :=
  pIf (decide ((x3 : Int) < 9))
  (pJoin (σ := Sl × Unit)
  (fun k4 => pCall Try.prog 60 [(.pointer t_0), (.int .i64 x3)] KP (.one .bool) fun (r5 : Bool) => pIf r5
  (pSome t_0 fun a6 => pIdx x3 9 <| pLdA 49 ((a6.add 0).add ((x3 : Int).toNat * 49)) fun x7 => pAssert (x7.length = 49) <| pNew (lay (reps 1 (zc Try.prog 39)) [(0, (.agg x7.toArray))]) fun b8 => pAppend 49 392 x2 ⟨(some ⟨b8, 0, none⟩), 1, 1⟩ fun s9 => k4 (s9, ()))
  (k4 (x2, ())))
  (fun s => ref24_Table_All_j1 k1 x3 s.1))
  (K (.slice x2.base x2.len x2.cap))
def ref24_Table_All (t_0 : Option Addr) (KP K : Value → Pr) : Pr :=
  pLoop (σ := Sl × Int × Unit) (fun s k1 => ref24_Table_All_l2 t_0 KP K k1 s.1 s.2.1) (⟨none, 0, 0⟩, 1, ())
def ref24_Table_All_ann : Ann := .two (.none) (.two (.none) (.two (.two (.none) (.sub (.loop [(3, .slice), (4, (.int .i64))] (.two (.two (.none) (.two (.none) (.none))) (.join (.sub (.two (.none) (.two (.none) (.none)))) (.none) [(3, .slice)]))))) (.two (.none) (.none))))
theorem ref24_Table_All_eq (t_0 : Option Addr) (KP K : Value → Pr) : vcBody Try.prog Try.f53 (Try.f53.body.getD .skip) ref24_Table_All_ann [(.pointer t_0)] KP K = ref24_Table_All t_0 KP K := by kernel_rfl
theorem ref24_Table_All_call (t_0 : Option Addr) {KP K : Value → Pr} {h : Heap} (s : ref24_Table_All t_0 (fgt KP) (fgt K) h) : WpCall Try.prog 53 [(.pointer t_0)].toArray KP K h :=
  WpCall.of_vc Try.mixed Try.func53 (by kernel_rfl) Try.call53 ref24_Table_All_ann (by rw [ref24_Table_All_eq]; exact s)

/- (*halberd/tasks.Table).Uses -/
def tasks_Table_Uses (t_0 : Option Addr) (ino_1 : Int) (KP K : Value → Pr) : Pr :=
  pNew [(.int .i64 ino_1)] fun b1 => pCall Try.prog 16 [(.pointer t_0)] KP (.one .slice) fun (r2 : Sl) => pCall Try.prog 79 [(.slice r2.base r2.len r2.cap), (.func (.func 80) [].toArray [(.pointer (some ⟨b1, 0, none⟩))].toArray)] KP (.one .bool) fun (r3 : Bool) => K (.bool r3)
def tasks_Table_Uses_ann : Ann := .two (.none) (.two (.none) (.none))
theorem tasks_Table_Uses_eq (t_0 : Option Addr) (ino_1 : Int) (KP K : Value → Pr) : vcBody Try.prog Try.f54 (Try.f54.body.getD .skip) tasks_Table_Uses_ann [(.pointer t_0), (.int .i64 ino_1)] KP K = tasks_Table_Uses t_0 ino_1 KP K := by kernel_rfl
theorem tasks_Table_Uses_call (t_0 : Option Addr) (ino_1 : Int) {KP K : Value → Pr} {h : Heap} (s : tasks_Table_Uses t_0 ino_1 (fgt KP) (fgt K) h) : WpCall Try.prog 54 [(.pointer t_0), (.int .i64 ino_1)].toArray KP K h :=
  WpCall.of_vc Try.mixed Try.func54 (by kernel_rfl) Try.call54 tasks_Table_Uses_ann (by rw [tasks_Table_Uses_eq]; exact s)

/- (*halberd/halberdref24.Table).Uses -/
def ref24_Table_Uses_j1 (K : Value → Pr) (k13 : Int × Unit → Pr) (x14 : Int) (x19 : Bool) : Pr :=
  pIf x19
  (K (.bool true))
  (k13 ((IntKind.i64.wrap (x14 + 1)), ()))
def ref24_Table_Uses_j2 (K : Value → Pr) (k20 : Int × Unit → Pr) (x21 : Int) (x25 : Bool) : Pr :=
  pIf x25
  (K (.bool true))
  (k20 ((IntKind.i64.wrap (x21 + 1)), ()))
def ref24_Table_Uses_l3 (ino_1 : Int) (K : Value → Pr) (k3 : Unit → Pr) (b6 : Nat) (k20 : Int × Unit → Pr) (x21 : Int) : Pr :=
  pIf (decide ((x21 : Int) < 4))
  (pJoin (σ := Bool × Unit)
  (fun k22 => pIdx x21 4 <| pLd .bool ((((⟨b6, 0, none⟩ : Addr).add 29).add ((x21 : Int).toNat * 5)).add 0) fun (x23 : Bool) => pIf x23
  (pIf ((ino_1 : Int) != 0)
  (pIdx x21 4 <| pLd (.int .i64) ((((⟨b6, 0, none⟩ : Addr).add 29).add ((x21 : Int).toNat * 5)).add 1) fun (x24 : Int) => k22 (((x24 : Int) == ino_1), ()))
  (k22 (false, ())))
  (k22 (false, ())))
  (fun s => ref24_Table_Uses_j2 K k20 x21 s.1))
  (k3 (()))
def ref24_Table_Uses_l4 (ino_1 : Int) (K : Value → Pr) (k3 : Unit → Pr) (b6 : Nat) (k13 : Int × Unit → Pr) (x14 : Int) : Pr :=
  pIf (decide ((x14 : Int) < 6))
  (pJoin (σ := Bool × Unit)
  (fun k15 => pIdx x14 6 <| pLd (.int .i64) ((((⟨b6, 0, none⟩ : Addr).add 11).add ((x14 : Int).toNat * 3)).add 0) fun (x16 : Int) => pIf ((x16 : Int) == ino_1)
  (pIf ((ino_1 : Int) != 0)
  (k15 (true, ()))
  (pIdx x14 6 <| pLd (.int .i64) ((((⟨b6, 0, none⟩ : Addr).add 11).add ((x14 : Int).toNat * 3)).add 1) fun (x17 : Int) => pIf ((x17 : Int) != 0)
  (k15 (true, ()))
  (pIdx x14 6 <| pLd (.int .i64) ((((⟨b6, 0, none⟩ : Addr).add 11).add ((x14 : Int).toNat * 3)).add 2) fun (x18 : Int) => k15 (((x18 : Int) != 0), ()))))
  (k15 (false, ())))
  (fun s => ref24_Table_Uses_j1 K k13 x14 s.1))
  (pLoop (σ := Int × Unit) (fun s k20 => ref24_Table_Uses_l3 ino_1 K k3 b6 k20 s.1) (0, ()))
def ref24_Table_Uses_j5 (ino_1 : Int) (K : Value → Pr) (k3 : Unit → Pr) (b6 : Nat) (x12 : Bool) : Pr :=
  pIf x12
  (K (.bool true))
  (pLoop (σ := Int × Unit) (fun s k13 => ref24_Table_Uses_l4 ino_1 K k3 b6 k13 s.1) (0, ()))
def ref24_Table_Uses_j6 (k1 : Int × Unit → Pr) (x2 : Int) : Pr :=
  k1 ((IntKind.i64.wrap (x2 + 1)), ())
def ref24_Table_Uses_l7 (t_0 : Option Addr) (ino_1 : Int) (KP : Value → Pr) (K : Value → Pr) (k1 : Int × Unit → Pr) (x2 : Int) : Pr :=
  pIf (decide ((x2 : Int) < 9))
  (pJoin (σ := Unit)
  (fun k3 => pSome t_0 fun a4 => pIdx x2 9 <| pLdA 49 ((a4.add 0).add ((x2 : Int).toNat * 49)) fun x5 => pNew (zc Try.prog 39) fun b6 => pStA 49 ⟨b6, 0, none⟩ x5 <| pCall Try.prog 60 [(.pointer t_0), (.int .i64 x2)] KP (.one .bool) fun (r7 : Bool) => pIf (!r7)
  (k3 (()))
  (pJoin (σ := Bool × Unit)
  (fun k8 => pLd .bool ((⟨b6, 0, none⟩ : Addr).add 8) fun (x9 : Bool) => pIf (!x9)
  (pLd (.int .i64) ((⟨b6, 0, none⟩ : Addr).add 5) fun (x10 : Int) => pIf ((x10 : Int) == ino_1)
  (k8 (true, ()))
  (pIf ((ino_1 : Int) != 0)
  (pLd (.int .i64) ((⟨b6, 0, none⟩ : Addr).add 6) fun (x11 : Int) => k8 (((x11 : Int) == ino_1), ()))
  (k8 (false, ()))))
  (k8 (false, ())))
  (fun s => ref24_Table_Uses_j5 ino_1 K k3 b6 s.1)))
  (fun s => ref24_Table_Uses_j6 k1 x2))
  (K (.bool false))
def ref24_Table_Uses (t_0 : Option Addr) (ino_1 : Int) (KP K : Value → Pr) : Pr :=
  pLoop (σ := Int × Unit) (fun s k1 => ref24_Table_Uses_l7 t_0 ino_1 KP K k1 s.1) (1, ())
def ref24_Table_Uses_ann : Ann := .two (.none) (.two (.two (.none) (.sub (.loop [(5, (.int .i64))] (.two (.two (.none) (.two (.none) (.none))) (.join (.sub (.two (.none) (.two (.two (.none) (.two (.none) (.none))) (.two (.join (.none) (.two (.two (.none) (.none)) (.none)) [(41, .bool)]) (.two (.two (.none) (.sub (.loop [(7, (.int .i64))] (.two (.two (.none) (.two (.none) (.none))) (.two (.sub (.join (.none) (.two (.two (.none) (.none)) (.none)) [(72, .bool)])) (.none)))))) (.two (.none) (.sub (.loop [(8, (.int .i64))] (.two (.two (.none) (.two (.none) (.none))) (.two (.sub (.join (.none) (.two (.two (.none) (.none)) (.none)) [(94, .bool)])) (.none))))))))))) (.none) []))))) (.two (.none) (.none)))
theorem ref24_Table_Uses_eq (t_0 : Option Addr) (ino_1 : Int) (KP K : Value → Pr) : vcBody Try.prog Try.f55 (Try.f55.body.getD .skip) ref24_Table_Uses_ann [(.pointer t_0), (.int .i64 ino_1)] KP K = ref24_Table_Uses t_0 ino_1 KP K := by kernel_rfl
theorem ref24_Table_Uses_call (t_0 : Option Addr) (ino_1 : Int) {KP K : Value → Pr} {h : Heap} (s : ref24_Table_Uses t_0 ino_1 (fgt KP) (fgt K) h) : WpCall Try.prog 55 [(.pointer t_0), (.int .i64 ino_1)].toArray KP K h :=
  WpCall.of_vc Try.mixed Try.func55 (by kernel_rfl) Try.call55 ref24_Table_Uses_ann (by rw [ref24_Table_Uses_eq]; exact s)

/- (*halberd/tasks.Table).File -/
def tasks_Table_File (t_0 : Option Addr) (pid_1 : Int) (fd_2 : Int) (KP K : Value → Pr) : Pr :=
  pNew (zc Try.prog 33) fun b1 => pNew (zc Try.prog 33) fun b2 => pCall Try.prog 62 [(.pointer t_0), (.int .i64 pid_1), (.int .i64 fd_2), (.func (.func 85) [].toArray [(.pointer (some ⟨b2, 0, none⟩))].toArray)] KP (.one (.int .i64)) fun (r3 : Int) => pLdA 3 ⟨b2, 0, none⟩ fun x4 => pStA 3 ⟨b1, 0, none⟩ x4 <| pLdA 3 ⟨b1, 0, none⟩ fun x5 => K (.tuple [(.agg x5.toArray), (.int .i64 r3)].toArray)
def tasks_Table_File_ann : Ann := .two (.none) (.two (.none) (.two (.none) (.two (.none) (.none))))
theorem tasks_Table_File_eq (t_0 : Option Addr) (pid_1 : Int) (fd_2 : Int) (KP K : Value → Pr) : vcBody Try.prog Try.f56 (Try.f56.body.getD .skip) tasks_Table_File_ann [(.pointer t_0), (.int .i64 pid_1), (.int .i64 fd_2)] KP K = tasks_Table_File t_0 pid_1 fd_2 KP K := by kernel_rfl
theorem tasks_Table_File_call (t_0 : Option Addr) (pid_1 : Int) (fd_2 : Int) {KP K : Value → Pr} {h : Heap} (s : tasks_Table_File t_0 pid_1 fd_2 (fgt KP) (fgt K) h) : WpCall Try.prog 56 [(.pointer t_0), (.int .i64 pid_1), (.int .i64 fd_2)].toArray KP K h :=
  WpCall.of_vc Try.mixed Try.func56 (by kernel_rfl) Try.call56 tasks_Table_File_ann (by rw [tasks_Table_File_eq]; exact s)

/- (*halberd/halberdref24.Table).File -/
def ref24_Table_File (t_0 : Option Addr) (pid_1 : Int) (k_2 : Int) (KP K : Value → Pr) : Pr :=
  pNew (zc Try.prog 33) fun b1 => pCall Try.prog 64 [(.pointer t_0), (.int .i64 pid_1), (.int .i64 k_2)] KP (.one (.int .i64)) fun (r2 : Int) => pIf ((r2 : Int) != 0)
  (pStA 3 ⟨b1, 0, none⟩ (lay (zc Try.prog 33) []) <| pLdA 3 ⟨b1, 0, none⟩ fun x3 => K (.tuple [(.agg x3.toArray), (.int .i64 r2)].toArray))
  (pSome t_0 fun a4 => pIdx pid_1 9 <| pIdx k_2 6 <| pLdA 3 ((((a4.add 0).add ((pid_1 : Int).toNat * 49)).add 11).add ((k_2 : Int).toNat * 3)) fun x5 => pStA 3 ⟨b1, 0, none⟩ x5 <| pLdA 3 ⟨b1, 0, none⟩ fun x6 => K (.tuple [(.agg x6.toArray), (.int .i64 0)].toArray))
def ref24_Table_File_ann : Ann := .two (.none) (.two (.none) (.two (.two (.none) (.two (.two (.none) (.none)) (.none))) (.two (.none) (.none))))
theorem ref24_Table_File_eq (t_0 : Option Addr) (pid_1 : Int) (k_2 : Int) (KP K : Value → Pr) : vcBody Try.prog Try.f57 (Try.f57.body.getD .skip) ref24_Table_File_ann [(.pointer t_0), (.int .i64 pid_1), (.int .i64 k_2)] KP K = ref24_Table_File t_0 pid_1 k_2 KP K := by kernel_rfl
theorem ref24_Table_File_call (t_0 : Option Addr) (pid_1 : Int) (k_2 : Int) {KP K : Value → Pr} {h : Heap} (s : ref24_Table_File t_0 pid_1 k_2 (fgt KP) (fgt K) h) : WpCall Try.prog 57 [(.pointer t_0), (.int .i64 pid_1), (.int .i64 k_2)].toArray KP K h :=
  WpCall.of_vc Try.mixed Try.func57 (by kernel_rfl) Try.call57 ref24_Table_File_ann (by rw [ref24_Table_File_eq]; exact s)

/- (*halberd/tasks.Table).Area -/
def tasks_Table_Area (t_0 : Option Addr) (pid_1 : Int) (k_2 : Int) (KP K : Value → Pr) : Pr :=
  pNew (zc Try.prog 36) fun b1 => pNew (zc Try.prog 36) fun b2 => pCall Try.prog 70 [(.pointer t_0), (.int .i64 pid_1), (.int .i64 k_2), (.func (.func 86) [].toArray [(.pointer (some ⟨b2, 0, none⟩))].toArray)] KP (.one (.int .i64)) fun (r3 : Int) => pLdA 5 ⟨b2, 0, none⟩ fun x4 => pStA 5 ⟨b1, 0, none⟩ x4 <| pLdA 5 ⟨b1, 0, none⟩ fun x5 => K (.tuple [(.agg x5.toArray), (.int .i64 r3)].toArray)
def tasks_Table_Area_ann : Ann := .two (.none) (.two (.none) (.two (.none) (.two (.none) (.none))))
theorem tasks_Table_Area_eq (t_0 : Option Addr) (pid_1 : Int) (k_2 : Int) (KP K : Value → Pr) : vcBody Try.prog Try.f58 (Try.f58.body.getD .skip) tasks_Table_Area_ann [(.pointer t_0), (.int .i64 pid_1), (.int .i64 k_2)] KP K = tasks_Table_Area t_0 pid_1 k_2 KP K := by kernel_rfl
theorem tasks_Table_Area_call (t_0 : Option Addr) (pid_1 : Int) (k_2 : Int) {KP K : Value → Pr} {h : Heap} (s : tasks_Table_Area t_0 pid_1 k_2 (fgt KP) (fgt K) h) : WpCall Try.prog 58 [(.pointer t_0), (.int .i64 pid_1), (.int .i64 k_2)].toArray KP K h :=
  WpCall.of_vc Try.mixed Try.func58 (by kernel_rfl) Try.call58 tasks_Table_Area_ann (by rw [tasks_Table_Area_eq]; exact s)

end Go.Proofs.Ytgheplpbffanoaa
