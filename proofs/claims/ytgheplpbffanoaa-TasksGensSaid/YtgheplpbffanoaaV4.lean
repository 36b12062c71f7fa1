import Derived.Test.YtgheplpbffanoaaV
set_option linter.unusedVariables false
namespace Go.Proofs.Ytgheplpbffanoaa
open Go.Hl
/- (*halberd/tasks.Table).Dup -/
def tasks_Table_Dup (t_0 : Option Addr) (pid_1 : Int) (fd_2 : Int) (KP K : Value → Pr) : Pr :=
  pCall Try.prog 56 [(.pointer t_0), (.int .i64 pid_1), (.int .i64 fd_2)] KP (.many [.agg, (.int .i64)]) fun (r1 : (List Value) × Int × Unit) => pNew (zc Try.prog 33) fun b2 => pStA 3 ⟨b2, 0, none⟩ r1.1 <| pIf ((r1.2.1 : Int) != 0)
  (K (.tuple [(.int .i64 0), (.int .i64 r1.2.1)].toArray))
  (pLdA 3 ⟨b2, 0, none⟩ fun x3 => pCall Try.prog 61 [(.pointer t_0), (.int .i64 pid_1), (.agg x3.toArray)] KP (.many [(.int .i64), (.int .i64)]) fun (r4 : Int × Int × Unit) => K (.tuple [(.int .i64 r4.1), (.int .i64 r4.2.1)].toArray))
def tasks_Table_Dup_ann : Ann := .two (.none) (.two (.none) (.two (.two (.none) (.two (.two (.none) (.none)) (.none))) (.two (.none) (.none))))
theorem tasks_Table_Dup_eq (t_0 : Option Addr) (pid_1 : Int) (fd_2 : Int) (KP K : Value → Pr) : vcBody Try.prog Try.f35 (Try.f35.body.getD .skip) tasks_Table_Dup_ann [(.pointer t_0), (.int .i64 pid_1), (.int .i64 fd_2)] KP K = tasks_Table_Dup t_0 pid_1 fd_2 KP K := by kernel_rfl
theorem tasks_Table_Dup_call (t_0 : Option Addr) (pid_1 : Int) (fd_2 : Int) {KP K : Value → Pr} {h : Heap} (s : tasks_Table_Dup t_0 pid_1 fd_2 (fgt KP) (fgt K) h) : WpCall Try.prog 35 [(.pointer t_0), (.int .i64 pid_1), (.int .i64 fd_2)].toArray KP K h :=
  WpCall.of_vc Try.mixed Try.func35 (by kernel_rfl) Try.call35 tasks_Table_Dup_ann (by rw [tasks_Table_Dup_eq]; exact s)

/- (*halberd/halberdref24.Table).Dup -/
def ref24_Table_Dup (t_0 : Option Addr) (pid_1 : Int) (k_2 : Int) (KP K : Value → Pr) : Pr :=
  pCall Try.prog 57 [(.pointer t_0), (.int .i64 pid_1), (.int .i64 k_2)] KP (.many [.agg, (.int .i64)]) fun (r1 : (List Value) × Int × Unit) => pNew (zc Try.prog 33) fun b2 => pStA 3 ⟨b2, 0, none⟩ r1.1 <| pIf ((r1.2.1 : Int) != 0)
  (K (.tuple [(.int .i64 0), (.int .i64 r1.2.1)].toArray))
  (pLdA 3 ⟨b2, 0, none⟩ fun x3 => pCall Try.prog 30 [(.pointer t_0), (.int .i64 pid_1), (.agg x3.toArray)] KP (.many [(.int .i64), (.int .i64)]) fun (r4 : Int × Int × Unit) => K (.tuple [(.int .i64 r4.1), (.int .i64 r4.2.1)].toArray))
def ref24_Table_Dup_ann : Ann := .two (.none) (.two (.none) (.two (.two (.none) (.two (.two (.none) (.none)) (.none))) (.two (.none) (.none))))
theorem ref24_Table_Dup_eq (t_0 : Option Addr) (pid_1 : Int) (k_2 : Int) (KP K : Value → Pr) : vcBody Try.prog Try.f36 (Try.f36.body.getD .skip) ref24_Table_Dup_ann [(.pointer t_0), (.int .i64 pid_1), (.int .i64 k_2)] KP K = ref24_Table_Dup t_0 pid_1 k_2 KP K := by kernel_rfl
theorem ref24_Table_Dup_call (t_0 : Option Addr) (pid_1 : Int) (k_2 : Int) {KP K : Value → Pr} {h : Heap} (s : ref24_Table_Dup t_0 pid_1 k_2 (fgt KP) (fgt K) h) : WpCall Try.prog 36 [(.pointer t_0), (.int .i64 pid_1), (.int .i64 k_2)].toArray KP K h :=
  WpCall.of_vc Try.mixed Try.func36 (by kernel_rfl) Try.call36 ref24_Table_Dup_ann (by rw [ref24_Table_Dup_eq]; exact s)

/- (*halberd/tasks.Table).Map -/
def tasks_Table_Map (t_0 : Option Addr) (pid_1 : Int) (a_2 : List Value) (KP K : Value → Pr) : Pr :=
  pNew a_2 fun b1 => pNew (zc Try.prog 3) fun b2 => pSt ⟨b2, 0, none⟩ (.int .i64 (-1)) <| pSt ((⟨b1, 0, none⟩ : Addr).add 0) (.bool true) <| pCall Try.prog 66 [(.pointer t_0), (.int .i64 pid_1), (.func (.func 67) [].toArray [(.pointer (some ⟨b2, 0, none⟩)), (.pointer (some ⟨b1, 0, none⟩))].toArray)] KP (.one (.int .i64)) fun (r3 : Int) => pIf ((r3 : Int) != 0)
  (K (.tuple [(.int .i64 0), (.int .i64 r3)].toArray))
  (pLd (.int .i64) ⟨b2, 0, none⟩ fun (x4 : Int) => K (.tuple [(.int .i64 x4), (.int .i64 0)].toArray))
def tasks_Table_Map_ann : Ann := .two (.none) (.two (.none) (.two (.none) (.two (.none) (.two (.two (.none) (.two (.two (.none) (.none)) (.none))) (.two (.none) (.none))))))
theorem tasks_Table_Map_eq (t_0 : Option Addr) (pid_1 : Int) (a_2 : List Value) (KP K : Value → Pr) : vcBody Try.prog Try.f37 (Try.f37.body.getD .skip) tasks_Table_Map_ann [(.pointer t_0), (.int .i64 pid_1), (.agg a_2.toArray)] KP K = tasks_Table_Map t_0 pid_1 a_2 KP K := by kernel_rfl
theorem tasks_Table_Map_call (t_0 : Option Addr) (pid_1 : Int) (a_2 : List Value) {KP K : Value → Pr} {h : Heap} (s : tasks_Table_Map t_0 pid_1 a_2 (fgt KP) (fgt K) h) : WpCall Try.prog 37 [(.pointer t_0), (.int .i64 pid_1), (.agg a_2.toArray)].toArray KP K h :=
  WpCall.of_vc Try.mixed Try.func37 (by kernel_rfl) Try.call37 tasks_Table_Map_ann (by rw [tasks_Table_Map_eq]; exact s)

/- (*halberd/halberdref24.Table).Map -/
def ref24_Table_Map_l1 (t_0 : Option Addr) (pid_1 : Int) (K : Value → Pr) (b1 : Nat) (k3 : Int × Unit → Pr) (x4 : Int) : Pr :=
  pIf (decide ((x4 : Int) < 4))
  (pSome t_0 fun a5 => pIdx pid_1 9 <| pIdx x4 4 <| pLd .bool (((((a5.add 0).add ((pid_1 : Int).toNat * 49)).add 29).add ((x4 : Int).toNat * 5)).add 0) fun (x6 : Bool) => pIf (!x6)
  (pSt ((⟨b1, 0, none⟩ : Addr).add 0) (.bool true) <| pSome t_0 fun a7 => pIdx pid_1 9 <| pLdA 5 ⟨b1, 0, none⟩ fun x8 => pIdx x4 4 <| pStA 5 ((((a7.add 0).add ((pid_1 : Int).toNat * 49)).add 29).add ((x4 : Int).toNat * 5)) x8 <| K (.tuple [(.int .i64 x4), (.int .i64 0)].toArray))
  (k3 ((IntKind.i64.wrap (x4 + 1)), ())))
  (K (.tuple [(.int .i64 0), (.int .i64 12)].toArray))
def ref24_Table_Map (t_0 : Option Addr) (pid_1 : Int) (a_2 : List Value) (KP K : Value → Pr) : Pr :=
  pNew a_2 fun b1 => pCall Try.prog 43 [(.pointer t_0), (.int .i64 pid_1)] KP (.one .bool) fun (r2 : Bool) => pIf (!r2)
  (K (.tuple [(.int .i64 0), (.int .i64 3)].toArray))
  (pLoop (σ := Int × Unit) (fun s k3 => ref24_Table_Map_l1 t_0 pid_1 K b1 k3 s.1) (0, ()))
def ref24_Table_Map_ann : Ann := .two (.none) (.two (.two (.none) (.two (.two (.none) (.none)) (.none))) (.two (.two (.none) (.sub (.loop [(8, (.int .i64))] (.two (.two (.none) (.two (.none) (.none))) (.two (.sub (.two (.none) (.two (.two (.none) (.two (.ord [0, 1, 2, 4, 5, 6, 7, 3, 8, 9]) (.two (.none) (.none)))) (.none)))) (.none)))))) (.two (.none) (.none))))
theorem ref24_Table_Map_eq (t_0 : Option Addr) (pid_1 : Int) (a_2 : List Value) (KP K : Value → Pr) : vcBody Try.prog Try.f38 (Try.f38.body.getD .skip) ref24_Table_Map_ann [(.pointer t_0), (.int .i64 pid_1), (.agg a_2.toArray)] KP K = ref24_Table_Map t_0 pid_1 a_2 KP K := by kernel_rfl
theorem ref24_Table_Map_call (t_0 : Option Addr) (pid_1 : Int) (a_2 : List Value) {KP K : Value → Pr} {h : Heap} (s : ref24_Table_Map t_0 pid_1 a_2 (fgt KP) (fgt K) h) : WpCall Try.prog 38 [(.pointer t_0), (.int .i64 pid_1), (.agg a_2.toArray)].toArray KP K h :=
  WpCall.of_vc Try.mixed Try.func38 (by kernel_rfl) Try.call38 ref24_Table_Map_ann (by rw [ref24_Table_Map_eq]; exact s)

/- (*halberd/halberdref24.Table).Area -/
def ref24_Table_Area_j1 (t_0 : Option Addr) (pid_1 : Int) (k_2 : Int) (K : Value → Pr) (b1 : Nat) (x7 : Bool) : Pr :=
  pIf x7
  (pStA 5 ⟨b1, 0, none⟩ (lay (zc Try.prog 36) []) <| pLdA 5 ⟨b1, 0, none⟩ fun x8 => K (.tuple [(.agg x8.toArray), (.int .i64 22)].toArray))
  (pSome t_0 fun a9 => pIdx pid_1 9 <| pIdx k_2 4 <| pLdA 5 ((((a9.add 0).add ((pid_1 : Int).toNat * 49)).add 29).add ((k_2 : Int).toNat * 5)) fun x10 => pStA 5 ⟨b1, 0, none⟩ x10 <| pLdA 5 ⟨b1, 0, none⟩ fun x11 => K (.tuple [(.agg x11.toArray), (.int .i64 0)].toArray))
def ref24_Table_Area (t_0 : Option Addr) (pid_1 : Int) (k_2 : Int) (KP K : Value → Pr) : Pr :=
  pNew (zc Try.prog 36) fun b1 => pCall Try.prog 43 [(.pointer t_0), (.int .i64 pid_1)] KP (.one .bool) fun (r2 : Bool) => pIf (!r2)
  (pStA 5 ⟨b1, 0, none⟩ (lay (zc Try.prog 36) []) <| pLdA 5 ⟨b1, 0, none⟩ fun x3 => K (.tuple [(.agg x3.toArray), (.int .i64 3)].toArray))
  (pJoin (σ := Bool × Unit)
  (fun k4 => pIf (decide ((k_2 : Int) < 0))
  (k4 (true, ()))
  (pIf (decide ((k_2 : Int) > 3))
  (k4 (true, ()))
  (pSome t_0 fun a5 => pIdx pid_1 9 <| pIdx k_2 4 <| pLd .bool (((((a5.add 0).add ((pid_1 : Int).toNat * 49)).add 29).add ((k_2 : Int).toNat * 5)).add 0) fun (x6 : Bool) => k4 ((!x6), ()))))
  (fun s => ref24_Table_Area_j1 t_0 pid_1 k_2 K b1 s.1))
def ref24_Table_Area_ann : Ann := .two (.none) (.two (.two (.none) (.two (.two (.none) (.none)) (.none))) (.two (.join (.none) (.two (.two (.none) (.none)) (.none)) [(31, .bool)]) (.two (.none) (.none))))
theorem ref24_Table_Area_eq (t_0 : Option Addr) (pid_1 : Int) (k_2 : Int) (KP K : Value → Pr) : vcBody Try.prog Try.f39 (Try.f39.body.getD .skip) ref24_Table_Area_ann [(.pointer t_0), (.int .i64 pid_1), (.int .i64 k_2)] KP K = ref24_Table_Area t_0 pid_1 k_2 KP K := by kernel_rfl
theorem ref24_Table_Area_call (t_0 : Option Addr) (pid_1 : Int) (k_2 : Int) {KP K : Value → Pr} {h : Heap} (s : ref24_Table_Area t_0 pid_1 k_2 (fgt KP) (fgt K) h) : WpCall Try.prog 39 [(.pointer t_0), (.int .i64 pid_1), (.int .i64 k_2)].toArray KP K h :=
  WpCall.of_vc Try.mixed Try.func39 (by kernel_rfl) Try.call39 ref24_Table_Area_ann (by rw [ref24_Table_Area_eq]; exact s)

/- (*halberd/tasks.Table).Protect -/
def tasks_Table_Protect (t_0 : Option Addr) (pid_1 : Int) (k_2 : Int) (prot_3 : Int) (KP K : Value → Pr) : Pr :=
  pNew [(.int .i64 prot_3)] fun b1 => pCall Try.prog 70 [(.pointer t_0), (.int .i64 pid_1), (.int .i64 k_2), (.func (.func 71) [].toArray [(.pointer (some ⟨b1, 0, none⟩))].toArray)] KP (.one (.int .i64)) fun (r2 : Int) => K (.int .i64 r2)
def tasks_Table_Protect_ann : Ann := .two (.none) (.two (.none) (.none))
theorem tasks_Table_Protect_eq (t_0 : Option Addr) (pid_1 : Int) (k_2 : Int) (prot_3 : Int) (KP K : Value → Pr) : vcBody Try.prog Try.f40 (Try.f40.body.getD .skip) tasks_Table_Protect_ann [(.pointer t_0), (.int .i64 pid_1), (.int .i64 k_2), (.int .i64 prot_3)] KP K = tasks_Table_Protect t_0 pid_1 k_2 prot_3 KP K := by kernel_rfl
theorem tasks_Table_Protect_call (t_0 : Option Addr) (pid_1 : Int) (k_2 : Int) (prot_3 : Int) {KP K : Value → Pr} {h : Heap} (s : tasks_Table_Protect t_0 pid_1 k_2 prot_3 (fgt KP) (fgt K) h) : WpCall Try.prog 40 [(.pointer t_0), (.int .i64 pid_1), (.int .i64 k_2), (.int .i64 prot_3)].toArray KP K h :=
  WpCall.of_vc Try.mixed Try.func40 (by kernel_rfl) Try.call40 tasks_Table_Protect_ann (by rw [tasks_Table_Protect_eq]; exact s)

/- (*halberd/halberdref24.Table).SetArea -/
def ref24_Table_SetArea_j1 (K : Value → Pr) (r2 : (List Value) × Int × Unit) : Pr :=
  K (.int .i64 r2.2.1)
def ref24_Table_SetArea (t_0 : Option Addr) (pid_1 : Int) (k_2 : Int) (a_3 : List Value) (KP K : Value → Pr) : Pr :=
  pNew a_3 fun b1 => pCall Try.prog 39 [(.pointer t_0), (.int .i64 pid_1), (.int .i64 k_2)] KP (.many [.agg, (.int .i64)]) fun (r2 : (List Value) × Int × Unit) => pNew (zc Try.prog 36) fun b3 => pStA 5 ⟨b3, 0, none⟩ r2.1 <| pJoin (σ := Unit)
  (fun k4 => pIf ((r2.2.1 : Int) == 0)
  (pSome t_0 fun a5 => pIdx pid_1 9 <| pLdA 5 ⟨b1, 0, none⟩ fun x6 => pIdx k_2 4 <| pStA 5 ((((a5.add 0).add ((pid_1 : Int).toNat * 49)).add 29).add ((k_2 : Int).toNat * 5)) x6 <| k4 (()))
  (k4 (())))
  (fun s => ref24_Table_SetArea_j1 K r2)
def ref24_Table_SetArea_ann : Ann := .two (.none) (.two (.none) (.join (.two (.none) (.two (.ord [0, 1, 2, 4, 5, 6, 7, 3, 8, 9]) (.none))) (.two (.none) (.none)) []))
theorem ref24_Table_SetArea_eq (t_0 : Option Addr) (pid_1 : Int) (k_2 : Int) (a_3 : List Value) (KP K : Value → Pr) : vcBody Try.prog Try.f41 (Try.f41.body.getD .skip) ref24_Table_SetArea_ann [(.pointer t_0), (.int .i64 pid_1), (.int .i64 k_2), (.agg a_3.toArray)] KP K = ref24_Table_SetArea t_0 pid_1 k_2 a_3 KP K := by kernel_rfl
theorem ref24_Table_SetArea_call (t_0 : Option Addr) (pid_1 : Int) (k_2 : Int) (a_3 : List Value) {KP K : Value → Pr} {h : Heap} (s : ref24_Table_SetArea t_0 pid_1 k_2 a_3 (fgt KP) (fgt K) h) : WpCall Try.prog 41 [(.pointer t_0), (.int .i64 pid_1), (.int .i64 k_2), (.agg a_3.toArray)].toArray KP K h :=
  WpCall.of_vc Try.mixed Try.func41 (by kernel_rfl) Try.call41 ref24_Table_SetArea_ann (by rw [ref24_Table_SetArea_eq]; exact s)

/- (*halberd/tasks.Table).Unmap -/
def tasks_Table_Unmap (t_0 : Option Addr) (pid_1 : Int) (k_2 : Int) (KP K : Value → Pr) : Pr :=
  pCall Try.prog 70 [(.pointer t_0), (.int .i64 pid_1), (.int .i64 k_2), (.func (.func 72) [].toArray [].toArray)] KP (.one (.int .i64)) fun (r1 : Int) => K (.int .i64 r1)
def tasks_Table_Unmap_ann : Ann := .two (.none) (.two (.none) (.none))
theorem tasks_Table_Unmap_eq (t_0 : Option Addr) (pid_1 : Int) (k_2 : Int) (KP K : Value → Pr) : vcBody Try.prog Try.f42 (Try.f42.body.getD .skip) tasks_Table_Unmap_ann [(.pointer t_0), (.int .i64 pid_1), (.int .i64 k_2)] KP K = tasks_Table_Unmap t_0 pid_1 k_2 KP K := by kernel_rfl
theorem tasks_Table_Unmap_call (t_0 : Option Addr) (pid_1 : Int) (k_2 : Int) {KP K : Value → Pr} {h : Heap} (s : tasks_Table_Unmap t_0 pid_1 k_2 (fgt KP) (fgt K) h) : WpCall Try.prog 42 [(.pointer t_0), (.int .i64 pid_1), (.int .i64 k_2)].toArray KP K h :=
  WpCall.of_vc Try.mixed Try.func42 (by kernel_rfl) Try.call42 tasks_Table_Unmap_ann (by rw [tasks_Table_Unmap_eq]; exact s)

end Go.Proofs.Ytgheplpbffanoaa
