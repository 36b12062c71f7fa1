import Derived.Test.YtgheplpbffanoaaV
set_option linter.unusedVariables false
namespace Go.Proofs.Ytgheplpbffanoaa
open Go.Hl
/- (*halberd/halberdref24.Table).Alive -/
def ref24_Table_Alive_j1 (K : Value → Pr) (x5 : Bool) : Pr :=
  K (.bool x5)
def ref24_Table_Alive (t_0 : Option Addr) (pid_1 : Int) (KP K : Value → Pr) : Pr :=
  pJoin (σ := Bool × Unit)
  (fun k1 => pCall Try.prog 60 [(.pointer t_0), (.int .i64 pid_1)] KP (.one .bool) fun (r2 : Bool) => pIf r2
  (pSome t_0 fun a3 => pIdx pid_1 9 <| pLd .bool (((a3.add 0).add ((pid_1 : Int).toNat * 49)).add 8) fun (x4 : Bool) => k1 ((!x4), ()))
  (k1 (false, ())))
  (fun s => ref24_Table_Alive_j1 K s.1)
def ref24_Table_Alive_ann : Ann := .two (.none) (.join (.none) (.none) [(4, .bool)])
theorem ref24_Table_Alive_eq (t_0 : Option Addr) (pid_1 : Int) (KP K : Value → Pr) : vcBody Try.prog Try.f43 (Try.f43.body.getD .skip) ref24_Table_Alive_ann [(.pointer t_0), (.int .i64 pid_1)] KP K = ref24_Table_Alive t_0 pid_1 KP K := by kernel_rfl
theorem ref24_Table_Alive_call (t_0 : Option Addr) (pid_1 : Int) {KP K : Value → Pr} {h : Heap} (s : ref24_Table_Alive t_0 pid_1 (fgt KP) (fgt K) h) : WpCall Try.prog 43 [(.pointer t_0), (.int .i64 pid_1)].toArray KP K h :=
  WpCall.of_vc Try.mixed Try.func43 (by kernel_rfl) Try.call43 ref24_Table_Alive_ann (by rw [ref24_Table_Alive_eq]; exact s)

/- (*halberd/tasks.Table).Own -/
def tasks_Table_Own (t_0 : Option Addr) (pid_1 : Int) (uid_2 : Int) (gid_3 : Int) (KP K : Value → Pr) : Pr :=
  pNew [(.int .i64 uid_2)] fun b1 => pNew [(.int .i64 gid_3)] fun b2 => pCall Try.prog 66 [(.pointer t_0), (.int .i64 pid_1), (.func (.func 73) [].toArray [(.pointer (some ⟨b1, 0, none⟩)), (.pointer (some ⟨b2, 0, none⟩))].toArray)] KP (.one (.int .i64)) fun (r3 : Int) => K (.int .i64 r3)
def tasks_Table_Own_ann : Ann := .two (.none) (.two (.none) (.none))
theorem tasks_Table_Own_eq (t_0 : Option Addr) (pid_1 : Int) (uid_2 : Int) (gid_3 : Int) (KP K : Value → Pr) : vcBody Try.prog Try.f44 (Try.f44.body.getD .skip) tasks_Table_Own_ann [(.pointer t_0), (.int .i64 pid_1), (.int .i64 uid_2), (.int .i64 gid_3)] KP K = tasks_Table_Own t_0 pid_1 uid_2 gid_3 KP K := by kernel_rfl
theorem tasks_Table_Own_call (t_0 : Option Addr) (pid_1 : Int) (uid_2 : Int) (gid_3 : Int) {KP K : Value → Pr} {h : Heap} (s : tasks_Table_Own t_0 pid_1 uid_2 gid_3 (fgt KP) (fgt K) h) : WpCall Try.prog 44 [(.pointer t_0), (.int .i64 pid_1), (.int .i64 uid_2), (.int .i64 gid_3)].toArray KP K h :=
  WpCall.of_vc Try.mixed Try.func44 (by kernel_rfl) Try.call44 tasks_Table_Own_ann (by rw [tasks_Table_Own_eq]; exact s)

/- (*halberd/tasks.Table).Chdir -/
def tasks_Table_Chdir (t_0 : Option Addr) (pid_1 : Int) (ino_2 : Int) (KP K : Value → Pr) : Pr :=
  pNew [(.int .i64 ino_2)] fun b1 => pCall Try.prog 66 [(.pointer t_0), (.int .i64 pid_1), (.func (.func 74) [].toArray [(.pointer (some ⟨b1, 0, none⟩))].toArray)] KP (.one (.int .i64)) fun (r2 : Int) => K (.int .i64 r2)
def tasks_Table_Chdir_ann : Ann := .two (.none) (.two (.none) (.none))
theorem tasks_Table_Chdir_eq (t_0 : Option Addr) (pid_1 : Int) (ino_2 : Int) (KP K : Value → Pr) : vcBody Try.prog Try.f45 (Try.f45.body.getD .skip) tasks_Table_Chdir_ann [(.pointer t_0), (.int .i64 pid_1), (.int .i64 ino_2)] KP K = tasks_Table_Chdir t_0 pid_1 ino_2 KP K := by kernel_rfl
theorem tasks_Table_Chdir_call (t_0 : Option Addr) (pid_1 : Int) (ino_2 : Int) {KP K : Value → Pr} {h : Heap} (s : tasks_Table_Chdir t_0 pid_1 ino_2 (fgt KP) (fgt K) h) : WpCall Try.prog 45 [(.pointer t_0), (.int .i64 pid_1), (.int .i64 ino_2)].toArray KP K h :=
  WpCall.of_vc Try.mixed Try.func45 (by kernel_rfl) Try.call45 tasks_Table_Chdir_ann (by rw [tasks_Table_Chdir_eq]; exact s)

/- (*halberd/tasks.Table).Exec -/
def tasks_Table_Exec (t_0 : Option Addr) (pid_1 : Int) (ino_2 : Int) (KP K : Value → Pr) : Pr :=
  pNew [(.int .i64 ino_2)] fun b1 => pCall Try.prog 66 [(.pointer t_0), (.int .i64 pid_1), (.func (.func 75) [].toArray [(.pointer (some ⟨b1, 0, none⟩))].toArray)] KP (.one (.int .i64)) fun (r2 : Int) => K (.int .i64 r2)
def tasks_Table_Exec_ann : Ann := .two (.none) (.two (.none) (.none))
theorem tasks_Table_Exec_eq (t_0 : Option Addr) (pid_1 : Int) (ino_2 : Int) (KP K : Value → Pr) : vcBody Try.prog Try.f46 (Try.f46.body.getD .skip) tasks_Table_Exec_ann [(.pointer t_0), (.int .i64 pid_1), (.int .i64 ino_2)] KP K = tasks_Table_Exec t_0 pid_1 ino_2 KP K := by kernel_rfl
theorem tasks_Table_Exec_call (t_0 : Option Addr) (pid_1 : Int) (ino_2 : Int) {KP K : Value → Pr} {h : Heap} (s : tasks_Table_Exec t_0 pid_1 ino_2 (fgt KP) (fgt K) h) : WpCall Try.prog 46 [(.pointer t_0), (.int .i64 pid_1), (.int .i64 ino_2)].toArray KP K h :=
  WpCall.of_vc Try.mixed Try.func46 (by kernel_rfl) Try.call46 tasks_Table_Exec_ann (by rw [tasks_Table_Exec_eq]; exact s)

/- (*halberd/tasks.Table).Signal -/
def tasks_Table_Signal (t_0 : Option Addr) (pid_1 : Int) (sig_2 : Int) (KP K : Value → Pr) : Pr :=
  pNew [(.int .i64 sig_2)] fun b1 => pCall Try.prog 66 [(.pointer t_0), (.int .i64 pid_1), (.func (.func 76) [].toArray [(.pointer (some ⟨b1, 0, none⟩))].toArray)] KP (.one (.int .i64)) fun (r2 : Int) => K (.int .i64 r2)
def tasks_Table_Signal_ann : Ann := .two (.none) (.two (.none) (.none))
theorem tasks_Table_Signal_eq (t_0 : Option Addr) (pid_1 : Int) (sig_2 : Int) (KP K : Value → Pr) : vcBody Try.prog Try.f47 (Try.f47.body.getD .skip) tasks_Table_Signal_ann [(.pointer t_0), (.int .i64 pid_1), (.int .i64 sig_2)] KP K = tasks_Table_Signal t_0 pid_1 sig_2 KP K := by kernel_rfl
theorem tasks_Table_Signal_call (t_0 : Option Addr) (pid_1 : Int) (sig_2 : Int) {KP K : Value → Pr} {h : Heap} (s : tasks_Table_Signal t_0 pid_1 sig_2 (fgt KP) (fgt K) h) : WpCall Try.prog 47 [(.pointer t_0), (.int .i64 pid_1), (.int .i64 sig_2)].toArray KP K h :=
  WpCall.of_vc Try.mixed Try.func47 (by kernel_rfl) Try.call47 tasks_Table_Signal_ann (by rw [tasks_Table_Signal_eq]; exact s)

/- (*halberd/tasks.Table).Trace -/
def tasks_Table_Trace (t_0 : Option Addr) (pid_1 : Int) (tracer_2 : Int) (KP K : Value → Pr) : Pr :=
  pNew [(.int .i64 tracer_2)] fun b1 => pCall Try.prog 66 [(.pointer t_0), (.int .i64 pid_1), (.func (.func 77) [].toArray [(.pointer (some ⟨b1, 0, none⟩))].toArray)] KP (.one (.int .i64)) fun (r2 : Int) => K (.int .i64 r2)
def tasks_Table_Trace_ann : Ann := .two (.none) (.two (.none) (.none))
theorem tasks_Table_Trace_eq (t_0 : Option Addr) (pid_1 : Int) (tracer_2 : Int) (KP K : Value → Pr) : vcBody Try.prog Try.f48 (Try.f48.body.getD .skip) tasks_Table_Trace_ann [(.pointer t_0), (.int .i64 pid_1), (.int .i64 tracer_2)] KP K = tasks_Table_Trace t_0 pid_1 tracer_2 KP K := by kernel_rfl
theorem tasks_Table_Trace_call (t_0 : Option Addr) (pid_1 : Int) (tracer_2 : Int) {KP K : Value → Pr} {h : Heap} (s : tasks_Table_Trace t_0 pid_1 tracer_2 (fgt KP) (fgt K) h) : WpCall Try.prog 48 [(.pointer t_0), (.int .i64 pid_1), (.int .i64 tracer_2)].toArray KP K h :=
  WpCall.of_vc Try.mixed Try.func48 (by kernel_rfl) Try.call48 tasks_Table_Trace_ann (by rw [tasks_Table_Trace_eq]; exact s)

/- (*halberd/halberdref24.Table).Next -/
def ref24_Table_Next_l1 (t_0 : Option Addr) (K : Value → Pr) (k1 : Int × Unit → Pr) (x2 : Int) : Pr :=
  pIf (decide ((x2 : Int) < 9))
  (pSome t_0 fun a3 => pIdx x2 9 <| pLd (.int .i64) (((a3.add 0).add ((x2 : Int).toNat * 49)).add 0) fun (x4 : Int) => pIf ((x4 : Int) == 0)
  (K (.int .i64 x2))
  (k1 ((IntKind.i64.wrap (x2 + 1)), ())))
  (K (.int .i64 0))
def ref24_Table_Next (t_0 : Option Addr) (KP K : Value → Pr) : Pr :=
  pLoop (σ := Int × Unit) (fun s k1 => ref24_Table_Next_l1 t_0 K k1 s.1) (1, ())
def ref24_Table_Next_ann : Ann := .two (.none) (.two (.two (.none) (.sub (.loop [(3, (.int .i64))] (.two (.two (.none) (.two (.none) (.none))) (.two (.sub (.two (.none) (.two (.two (.none) (.none)) (.none)))) (.none)))))) (.two (.none) (.none)))
theorem ref24_Table_Next_eq (t_0 : Option Addr) (KP K : Value → Pr) : vcBody Try.prog Try.f49 (Try.f49.body.getD .skip) ref24_Table_Next_ann [(.pointer t_0)] KP K = ref24_Table_Next t_0 KP K := by kernel_rfl
theorem ref24_Table_Next_call (t_0 : Option Addr) {KP K : Value → Pr} {h : Heap} (s : ref24_Table_Next t_0 (fgt KP) (fgt K) h) : WpCall Try.prog 49 [(.pointer t_0)].toArray KP K h :=
  WpCall.of_vc Try.mixed Try.func49 (by kernel_rfl) Try.call49 ref24_Table_Next_ann (by rw [ref24_Table_Next_eq]; exact s)

/- (*halberd/halberdref24.Table).Open -/
def ref24_Table_Open_l1 (t_0 : Option Addr) (KP : Value → Pr) (K : Value → Pr) (k1 : Int × Int × Unit → Pr) (x2 : Int) (x3 : Int) : Pr :=
  pIf (decide ((x3 : Int) < 9))
  (pSome t_0 fun a4 => pIdx x3 9 <| pLdA 49 ((a4.add 0).add ((x3 : Int).toNat * 49)) fun x5 => pCall Try.prog 51 [(.agg x5.toArray)] KP (.one (.int .i64)) fun (r6 : Int) => k1 ((IntKind.i64.wrap (x2 + r6)), (IntKind.i64.wrap (x3 + 1)), ()))
  (K (.int .i64 x2))
def ref24_Table_Open (t_0 : Option Addr) (KP K : Value → Pr) : Pr :=
  pLoop (σ := Int × Int × Unit) (fun s k1 => ref24_Table_Open_l1 t_0 KP K k1 s.1 s.2.1) (0, 1, ())
def ref24_Table_Open_ann : Ann := .two (.none) (.two (.none) (.two (.two (.none) (.sub (.loop [(3, (.int .i64)), (4, (.int .i64))] (.two (.two (.none) (.two (.none) (.none))) (.two (.sub (.none)) (.none)))))) (.two (.none) (.none))))
theorem ref24_Table_Open_eq (t_0 : Option Addr) (KP K : Value → Pr) : vcBody Try.prog Try.f50 (Try.f50.body.getD .skip) ref24_Table_Open_ann [(.pointer t_0)] KP K = ref24_Table_Open t_0 KP K := by kernel_rfl
theorem ref24_Table_Open_call (t_0 : Option Addr) {KP K : Value → Pr} {h : Heap} (s : ref24_Table_Open t_0 (fgt KP) (fgt K) h) : WpCall Try.prog 50 [(.pointer t_0)].toArray KP K h :=
  WpCall.of_vc Try.mixed Try.func50 (by kernel_rfl) Try.call50 ref24_Table_Open_ann (by rw [ref24_Table_Open_eq]; exact s)

end Go.Proofs.Ytgheplpbffanoaa
