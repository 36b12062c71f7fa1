import Derived.Test.YtgheplpbffanoaaV
set_option linter.unusedVariables false
namespace Go.Proofs.Ytgheplpbffanoaa
open Go.Hl
/- (*halberd/halberdref24.Table).Up -/
def ref24_Table_Up_l1 (t_0 : Option Addr) (K : Value → Pr) (k1 : Int × Sl × Int × Unit → Pr) (x2 : Int) (x3 : Sl) (x4 : Int) (k8 : Int × Unit → Pr) (x9 : Int) : Pr :=
  pIf (decide ((x9 : Int) < (x3.len : Int)))
  (pIdx x9 x3.len <| pSome x3.base fun a10 => pLd (.int .i64) (a10.add ((x9 : Int).toNat * 1)) fun (x11 : Int) => pIf ((x11 : Int) == x2)
  (K (.slice x3.base x3.len x3.cap))
  (k8 ((IntKind.i64.wrap (x9 + 1)), ())))
  (pNew (lay (reps 1 (zc Try.prog 3)) [(0, (.int .i64 x2))]) fun b12 => pAppend 1 8 x3 ⟨(some ⟨b12, 0, none⟩), 1, 1⟩ fun s13 => pSome t_0 fun a14 => pIdx x2 9 <| pLd (.int .i64) (((a14.add 0).add ((x2 : Int).toNat * 49)).add 2) fun (x15 : Int) => k1 (x15, s13, (IntKind.i64.wrap (x4 + 1)), ()))
def ref24_Table_Up_j2 (t_0 : Option Addr) (K : Value → Pr) (k1 : Int × Sl × Int × Unit → Pr) (x2 : Int) (x3 : Sl) (x4 : Int) (x7 : Bool) : Pr :=
  pIf x7
  (pLoop (σ := Int × Unit) (fun s k8 => ref24_Table_Up_l1 t_0 K k1 x2 x3 x4 k8 s.1) (0, ()))
  (K (.slice x3.base x3.len x3.cap))
def ref24_Table_Up_l3 (t_0 : Option Addr) (KP : Value → Pr) (K : Value → Pr) (k1 : Int × Sl × Int × Unit → Pr) (x2 : Int) (x3 : Sl) (x4 : Int) : Pr :=
  pJoin (σ := Bool × Unit)
  (fun k5 => pIf (decide ((x4 : Int) < 9))
  (pCall Try.prog 60 [(.pointer t_0), (.int .i64 x2)] KP (.one .bool) fun (r6 : Bool) => k5 (r6, ()))
  (k5 (false, ())))
  (fun s => ref24_Table_Up_j2 t_0 K k1 x2 x3 x4 s.1)
def ref24_Table_Up (t_0 : Option Addr) (pid_1 : Int) (KP K : Value → Pr) : Pr :=
  pLoop (σ := Int × Sl × Int × Unit) (fun s k1 => ref24_Table_Up_l3 t_0 KP K k1 s.1 s.2.1 s.2.2.1) (pid_1, ⟨none, 0, 0⟩, 0, ())
def ref24_Table_Up_ann : Ann := .two (.none) (.two (.none) (.two (.two (.none) (.sub (.loop [(1, (.int .i64)), (5, .slice), (6, (.int .i64))] (.two (.join (.none) (.two (.none) (.none)) [(14, .bool)]) (.two (.sub (.two (.two (.none) (.sub (.loop [(7, (.int .i64))] (.two (.two (.none) (.two (.none) (.none))) (.two (.sub (.two (.none) (.two (.two (.none) (.none)) (.none)))) (.none)))))) (.two (.none) (.none)))) (.none)))))) (.two (.none) (.none))))
theorem ref24_Table_Up_eq (t_0 : Option Addr) (pid_1 : Int) (KP K : Value → Pr) : vcBody Try.prog Try.f59 (Try.f59.body.getD .skip) ref24_Table_Up_ann [(.pointer t_0), (.int .i64 pid_1)] KP K = ref24_Table_Up t_0 pid_1 KP K := by kernel_rfl
theorem ref24_Table_Up_call (t_0 : Option Addr) (pid_1 : Int) {KP K : Value → Pr} {h : Heap} (s : ref24_Table_Up t_0 pid_1 (fgt KP) (fgt K) h) : WpCall Try.prog 59 [(.pointer t_0), (.int .i64 pid_1)].toArray KP K h :=
  WpCall.of_vc Try.mixed Try.func59 (by kernel_rfl) Try.call59 ref24_Table_Up_ann (by rw [ref24_Table_Up_eq]; exact s)

/- (*halberd/halberdref24.Table).Has -/
def ref24_Table_Has_j1 (K : Value → Pr) (x4 : Bool) : Pr :=
  K (.bool x4)
def ref24_Table_Has (t_0 : Option Addr) (pid_1 : Int) (KP K : Value → Pr) : Pr :=
  pJoin (σ := Bool × Unit)
  (fun k1 => pIf (decide ((pid_1 : Int) ≥ 1))
  (pIf (decide ((pid_1 : Int) ≤ 8))
  (pSome t_0 fun a2 => pIdx pid_1 9 <| pLd (.int .i64) (((a2.add 0).add ((pid_1 : Int).toNat * 49)).add 0) fun (x3 : Int) => k1 ((decide ((x3 : Int) > 0)), ()))
  (k1 (false, ())))
  (k1 (false, ())))
  (fun s => ref24_Table_Has_j1 K s.1)
def ref24_Table_Has_ann : Ann := .two (.none) (.join (.none) (.none) [(4, .bool)])
theorem ref24_Table_Has_eq (t_0 : Option Addr) (pid_1 : Int) (KP K : Value → Pr) : vcBody Try.prog Try.f60 (Try.f60.body.getD .skip) ref24_Table_Has_ann [(.pointer t_0), (.int .i64 pid_1)] KP K = ref24_Table_Has t_0 pid_1 KP K := by kernel_rfl
theorem ref24_Table_Has_call (t_0 : Option Addr) (pid_1 : Int) {KP K : Value → Pr} {h : Heap} (s : ref24_Table_Has t_0 pid_1 (fgt KP) (fgt K) h) : WpCall Try.prog 60 [(.pointer t_0), (.int .i64 pid_1)].toArray KP K h :=
  WpCall.of_vc Try.mixed Try.func60 (by kernel_rfl) Try.call60 ref24_Table_Has_ann (by rw [ref24_Table_Has_eq]; exact s)

/- (*halberd/tasks.Table).put -/
def tasks_Table_put (t_0 : Option Addr) (pid_1 : Int) (f_2 : List Value) (KP K : Value → Pr) : Pr :=
  pNew [(.pointer t_0)] fun b1 => pNew f_2 fun b2 => pNew (zc Try.prog 3) fun b3 => pSt ⟨b3, 0, none⟩ (.int .i64 (-1)) <| pLd .ptr ⟨b1, 0, none⟩ fun (x4 : Option Addr) => pCall Try.prog 66 [(.pointer x4), (.int .i64 pid_1), (.func (.func 87) [].toArray [(.pointer (some ⟨b3, 0, none⟩)), (.pointer (some ⟨b1, 0, none⟩)), (.pointer (some ⟨b2, 0, none⟩))].toArray)] KP (.one (.int .i64)) fun (r5 : Int) => pIf ((r5 : Int) != 0)
  (K (.tuple [(.int .i64 0), (.int .i64 r5)].toArray))
  (pLd (.int .i64) ⟨b3, 0, none⟩ fun (x6 : Int) => K (.tuple [(.int .i64 x6), (.int .i64 0)].toArray))
def tasks_Table_put_ann : Ann := .two (.none) (.two (.none) (.two (.none) (.two (.two (.none) (.two (.two (.none) (.none)) (.none))) (.two (.none) (.none)))))
theorem tasks_Table_put_eq (t_0 : Option Addr) (pid_1 : Int) (f_2 : List Value) (KP K : Value → Pr) : vcBody Try.prog Try.f61 (Try.f61.body.getD .skip) tasks_Table_put_ann [(.pointer t_0), (.int .i64 pid_1), (.agg f_2.toArray)] KP K = tasks_Table_put t_0 pid_1 f_2 KP K := by kernel_rfl
theorem tasks_Table_put_call (t_0 : Option Addr) (pid_1 : Int) (f_2 : List Value) {KP K : Value → Pr} {h : Heap} (s : tasks_Table_put t_0 pid_1 f_2 (fgt KP) (fgt K) h) : WpCall Try.prog 61 [(.pointer t_0), (.int .i64 pid_1), (.agg f_2.toArray)].toArray KP K h :=
  WpCall.of_vc Try.mixed Try.func61 (by kernel_rfl) Try.call61 tasks_Table_put_ann (by rw [tasks_Table_put_eq]; exact s)

/- (*halberd/tasks.Table).file -/
def tasks_Table_file (t_0 : Option Addr) (pid_1 : Int) (fd_2 : Int) (do_3 : Value) (KP K : Value → Pr) : Pr :=
  pNew [(.int .i64 fd_2)] fun b1 => pAssert (do_3.oneCell' = true) <| pNew [do_3] fun b2 => pCall Try.prog 66 [(.pointer t_0), (.int .i64 pid_1), (.func (.func 89) [].toArray [(.pointer (some ⟨b1, 0, none⟩)), (.pointer (some ⟨b2, 0, none⟩))].toArray)] KP (.one (.int .i64)) fun (r3 : Int) => K (.int .i64 r3)
def tasks_Table_file_ann : Ann := .two (.none) (.two (.none) (.none))
theorem tasks_Table_file_eq (t_0 : Option Addr) (pid_1 : Int) (fd_2 : Int) (do_3 : Value) (KP K : Value → Pr) : vcBody Try.prog Try.f62 (Try.f62.body.getD .skip) tasks_Table_file_ann [(.pointer t_0), (.int .i64 pid_1), (.int .i64 fd_2), do_3] KP K = tasks_Table_file t_0 pid_1 fd_2 do_3 KP K := by kernel_rfl
theorem tasks_Table_file_call (t_0 : Option Addr) (pid_1 : Int) (fd_2 : Int) (do_3 : Value) {KP K : Value → Pr} {h : Heap} (s : tasks_Table_file t_0 pid_1 fd_2 do_3 (fgt KP) (fgt K) h) : WpCall Try.prog 62 [(.pointer t_0), (.int .i64 pid_1), (.int .i64 fd_2), do_3].toArray KP K h :=
  WpCall.of_vc Try.mixed Try.func62 (by kernel_rfl) Try.call62 tasks_Table_file_ann (by rw [tasks_Table_file_eq]; exact s)

/- (*halberd/tasks.Table).Close$1 -/
def tasks_Table_Close_1 (f_0 : Option Addr) (KP K : Value → Pr) : Pr :=
  pSome f_0 fun a1 => pStA 3 a1 (lay (zc Try.prog 33) []) <| K (.tuple [].toArray)
def tasks_Table_Close_1_ann : Ann := .none
theorem tasks_Table_Close_1_eq (f_0 : Option Addr) (KP K : Value → Pr) : vcBody Try.prog Try.f63 (Try.f63.body.getD .skip) tasks_Table_Close_1_ann [(.pointer f_0)] KP K = tasks_Table_Close_1 f_0 KP K := by kernel_rfl
theorem tasks_Table_Close_1_call (f_0 : Option Addr) {KP K : Value → Pr} {h : Heap} (s : tasks_Table_Close_1 f_0 (fgt KP) (fgt K) h) : WpCall Try.prog 63 [(.pointer f_0)].toArray KP K h :=
  WpCall.of_vc Try.mixed Try.func63 (by kernel_rfl) Try.call63 tasks_Table_Close_1_ann (by rw [tasks_Table_Close_1_eq]; exact s)

/- (*halberd/halberdref24.Table).fd -/
def ref24_Table_fd_j1 (K : Value → Pr) (x5 : Bool) : Pr :=
  pIf x5
  (K (.int .i64 9))
  (K (.int .i64 0))
def ref24_Table_fd (t_0 : Option Addr) (pid_1 : Int) (k_2 : Int) (KP K : Value → Pr) : Pr :=
  pCall Try.prog 43 [(.pointer t_0), (.int .i64 pid_1)] KP (.one .bool) fun (r1 : Bool) => pIf (!r1)
  (K (.int .i64 3))
  (pJoin (σ := Bool × Unit)
  (fun k2 => pIf (decide ((k_2 : Int) < 0))
  (k2 (true, ()))
  (pIf (decide ((k_2 : Int) > 5))
  (k2 (true, ()))
  (pSome t_0 fun a3 => pIdx pid_1 9 <| pIdx k_2 6 <| pLdA 3 ((((a3.add 0).add ((pid_1 : Int).toNat * 49)).add 11).add ((k_2 : Int).toNat * 3)) fun x4 => pAssert (okCells [.int .i64, .int .i64, .int .i64] x4 = true ∧ okCells [.int .i64, .int .i64, .int .i64] (lay (zc Try.prog 33) []) = true) <| k2 ((eqCells x4 (lay (zc Try.prog 33) [])), ()))))
  (fun s => ref24_Table_fd_j1 K s.1))
def ref24_Table_fd_ann : Ann := .two (.none) (.two (.two (.none) (.two (.two (.none) (.none)) (.none))) (.two (.join (.none) (.two (.two (.none) (.none)) (.none)) [(29, .bool)]) (.two (.none) (.none))))
theorem ref24_Table_fd_eq (t_0 : Option Addr) (pid_1 : Int) (k_2 : Int) (KP K : Value → Pr) : vcBody Try.prog Try.f64 (Try.f64.body.getD .skip) ref24_Table_fd_ann [(.pointer t_0), (.int .i64 pid_1), (.int .i64 k_2)] KP K = ref24_Table_fd t_0 pid_1 k_2 KP K := by kernel_rfl
theorem ref24_Table_fd_call (t_0 : Option Addr) (pid_1 : Int) (k_2 : Int) {KP K : Value → Pr} {h : Heap} (s : ref24_Table_fd t_0 pid_1 k_2 (fgt KP) (fgt K) h) : WpCall Try.prog 64 [(.pointer t_0), (.int .i64 pid_1), (.int .i64 k_2)].toArray KP K h :=
  WpCall.of_vc Try.mixed Try.func64 (by kernel_rfl) Try.call64 ref24_Table_fd_ann (by rw [ref24_Table_fd_eq]; exact s)

/- (*halberd/tasks.Table).Seek$1 -/
def tasks_Table_Seek_1 (f_0 : Option Addr) (p_1 : Addr) (KP K : Value → Pr) : Pr :=
  pLd (.int .i64) p_1 fun (x1 : Int) => pSome f_0 fun a2 => pSt (a2.add 2) (.int .i64 x1) <| K (.tuple [].toArray)
def tasks_Table_Seek_1_ann : Ann := .none
theorem tasks_Table_Seek_1_eq (f_0 : Option Addr) (p_1 : Addr) (KP K : Value → Pr) : vcBody Try.prog Try.f65 (Try.f65.body.getD .skip) tasks_Table_Seek_1_ann [(.pointer f_0), (.pointer (some p_1))] KP K = tasks_Table_Seek_1 f_0 p_1 KP K := by kernel_rfl
theorem tasks_Table_Seek_1_call (f_0 : Option Addr) (p_1 : Addr) {KP K : Value → Pr} {h : Heap} (s : tasks_Table_Seek_1 f_0 p_1 (fgt KP) (fgt K) h) : WpCall Try.prog 65 [(.pointer f_0), (.pointer (some p_1))].toArray KP K h :=
  WpCall.of_vc Try.mixed Try.func65 (by kernel_rfl) Try.call65 tasks_Table_Seek_1_ann (by rw [tasks_Table_Seek_1_eq]; exact s)

/- (*halberd/tasks.Table).on -/
def tasks_Table_on (t_0 : Option Addr) (pid_1 : Int) (do_2 : Value) (KP K : Value → Pr) : Pr :=
  pCall Try.prog 23 [(.pointer t_0), (.int .i64 pid_1)] KP (.one .ptr) fun (r1 : Option Addr) => pIf (r1.isNone)
  (K (.int .i64 3))
  (pCallV Try.prog do_2 [(.pointer r1)] KP (.one (.int .i64)) fun (r2 : Int) => K (.int .i64 r2))
def tasks_Table_on_ann : Ann := .two (.none) (.two (.none) (.two (.two (.none) (.two (.two (.none) (.none)) (.none))) (.two (.none) (.none))))
theorem tasks_Table_on_eq (t_0 : Option Addr) (pid_1 : Int) (do_2 : Value) (KP K : Value → Pr) : vcBody Try.prog Try.f66 (Try.f66.body.getD .skip) tasks_Table_on_ann [(.pointer t_0), (.int .i64 pid_1), do_2] KP K = tasks_Table_on t_0 pid_1 do_2 KP K := by kernel_rfl
theorem tasks_Table_on_call (t_0 : Option Addr) (pid_1 : Int) (do_2 : Value) {KP K : Value → Pr} {h : Heap} (s : tasks_Table_on t_0 pid_1 do_2 (fgt KP) (fgt K) h) : WpCall Try.prog 66 [(.pointer t_0), (.int .i64 pid_1), do_2].toArray KP K h :=
  WpCall.of_vc Try.mixed Try.func66 (by kernel_rfl) Try.call66 tasks_Table_on_ann (by rw [tasks_Table_on_eq]; exact s)

end Go.Proofs.Ytgheplpbffanoaa
