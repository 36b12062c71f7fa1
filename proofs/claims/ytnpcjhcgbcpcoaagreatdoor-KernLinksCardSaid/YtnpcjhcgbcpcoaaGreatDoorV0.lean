/- Texts of this proof, part V0: parts of it in the order in which they build. -/
import Derived.Test.YtnpcjhcgbcpcoaaGreatDoorV
import Derived.Test.YtnpcjhcgbcpcoaaGreatDoorH2
set_option linter.unusedVariables false
namespace Go.Proofs.YtnpcjhcgbcpcoaaGreatDoor
open Go.Hl
/- slices.Clone[[]string,string] -/
def slices_Clone_string_string (s_0 : Sl) (KP K : Value → Pr) : Pr :=
  pIf (s_0.base.isNone)
  (K (.slice none 0 0))
  (pNew (lay (reps 0 (zc Tryz.prog 9)) []) fun b1 => pAppend 1 16 ⟨(some ⟨b1, 0, none⟩), 0, 0⟩ s_0 fun s2 => K (.slice s2.base s2.len s2.cap))
def slices_Clone_string_string_ann : Ann := .two (.none) (.two (.two (.none) (.two (.two (.none) (.none)) (.none))) (.two (.none) (.none)))
theorem slices_Clone_string_string_eq (s_0 : Sl) (KP K : Value → Pr) : vcBody Tryz.prog Tryz.f65 (Tryz.f65.body.getD .skip) slices_Clone_string_string_ann [(.slice s_0.base s_0.len s_0.cap)] KP K = slices_Clone_string_string s_0 KP K := by kernel_rfl
theorem slices_Clone_string_string_call (s_0 : Sl) {KP K : Value → Pr} {h : Heap} (s : slices_Clone_string_string s_0 (fgt KP) (fgt K) h) : WpCall Tryz.prog 65 [(.slice s_0.base s_0.len s_0.cap)].toArray KP K h :=
  WpCall.of_vc Tryz.mixed Tryz.func65 (by kernel_rfl) Tryz.call65 slices_Clone_string_string_ann (by rw [slices_Clone_string_string_eq]; exact s)

/- slices.Clone[[]int,int] -/
def slices_Clone_int_int (s_0 : Sl) (KP K : Value → Pr) : Pr :=
  pIf (s_0.base.isNone)
  (K (.slice none 0 0))
  (pNew (lay (reps 0 (zc Tryz.prog 3)) []) fun b1 => pAppend 1 8 ⟨(some ⟨b1, 0, none⟩), 0, 0⟩ s_0 fun s2 => K (.slice s2.base s2.len s2.cap))
def slices_Clone_int_int_ann : Ann := .two (.none) (.two (.two (.none) (.two (.two (.none) (.none)) (.none))) (.two (.none) (.none)))
theorem slices_Clone_int_int_eq (s_0 : Sl) (KP K : Value → Pr) : vcBody Tryz.prog Tryz.f66 (Tryz.f66.body.getD .skip) slices_Clone_int_int_ann [(.slice s_0.base s_0.len s_0.cap)] KP K = slices_Clone_int_int s_0 KP K := by kernel_rfl
theorem slices_Clone_int_int_call (s_0 : Sl) {KP K : Value → Pr} {h : Heap} (s : slices_Clone_int_int s_0 (fgt KP) (fgt K) h) : WpCall Tryz.prog 66 [(.slice s_0.base s_0.len s_0.cap)].toArray KP K h :=
  WpCall.of_vc Tryz.mixed Tryz.func66 (by kernel_rfl) Tryz.call66 slices_Clone_int_int_ann (by rw [slices_Clone_int_int_eq]; exact s)

/- slices.Delete[[]string,string] -/
def slices_Delete_string_string (s_0 : Sl) (i_1 : Int) (j_2 : Int) (KP K : Value → Pr) : Pr :=
  pAssert (0 ≤ (i_1 : Int) ∧ (i_1 : Int) ≤ j_2 ∧ j_2 ≤ ((s_0.len : Int) : Int) ∧ ((s_0.len : Int) : Int) ≤ (s_0.cap : Int)) <| pIf ((i_1 : Int) == j_2)
  (K (.slice s_0.base s_0.len s_0.cap))
  (pAssert (0 ≤ (0 : Int) ∧ (0 : Int) ≤ i_1 ∧ i_1 ≤ (s_0.cap : Int)) <| pAssert (0 ≤ (j_2 : Int) ∧ (j_2 : Int) ≤ (s_0.len : Int) ∧ (s_0.len : Int) ≤ (s_0.cap : Int)) <| pAppend 1 16 ⟨(if s_0.cap = (0 : Int).toNat then s_0.base else (s_0.base : Option Addr).map (·.add ((0 : Int).toNat * 1))), ((i_1 : Int).toNat - (0 : Int).toNat), (s_0.cap - (0 : Int).toNat)⟩ ⟨(if s_0.cap = (j_2 : Int).toNat then s_0.base else (s_0.base : Option Addr).map (·.add ((j_2 : Int).toNat * 1))), (((s_0.len : Int) : Int).toNat - (j_2 : Int).toNat), (s_0.cap - (j_2 : Int).toNat)⟩ fun s1 => pAssert (0 ≤ ((s1.len : Int) : Int) ∧ ((s1.len : Int) : Int) ≤ (s_0.len : Int) ∧ (s_0.len : Int) ≤ (s1.cap : Int)) <| pClear 1 (zc Tryz.prog 9) ⟨(if s1.cap = ((s1.len : Int) : Int).toNat then s1.base else (s1.base : Option Addr).map (·.add (((s1.len : Int) : Int).toNat * 1))), (((s_0.len : Int) : Int).toNat - ((s1.len : Int) : Int).toNat), (s1.cap - ((s1.len : Int) : Int).toNat)⟩ <| K (.slice s1.base s1.len s1.cap))
def slices_Delete_string_string_ann : Ann := .two (.none) (.two (.none) (.two (.two (.none) (.two (.two (.none) (.none)) (.none))) (.two (.none) (.two (.ord [0, 1, 2, 3, 4, 5, 6, 7]) (.two (.none) (.two (.none) (.none)))))))
theorem slices_Delete_string_string_eq (s_0 : Sl) (i_1 : Int) (j_2 : Int) (KP K : Value → Pr) : vcBody Tryz.prog Tryz.f171 (Tryz.f171.body.getD .skip) slices_Delete_string_string_ann [(.slice s_0.base s_0.len s_0.cap), (.int .i64 i_1), (.int .i64 j_2)] KP K = slices_Delete_string_string s_0 i_1 j_2 KP K := by kernel_rfl
theorem slices_Delete_string_string_call (s_0 : Sl) (i_1 : Int) (j_2 : Int) {KP K : Value → Pr} {h : Heap} (s : slices_Delete_string_string s_0 i_1 j_2 (fgt KP) (fgt K) h) : WpCall Tryz.prog 171 [(.slice s_0.base s_0.len s_0.cap), (.int .i64 i_1), (.int .i64 j_2)].toArray KP K h :=
  WpCall.of_vc Tryz.mixed Tryz.func171 (by kernel_rfl) Tryz.call171 slices_Delete_string_string_ann (by rw [slices_Delete_string_string_eq]; exact s)

/- slices.Delete[[]int,int] -/
def slices_Delete_int_int (s_0 : Sl) (i_1 : Int) (j_2 : Int) (KP K : Value → Pr) : Pr :=
  pAssert (0 ≤ (i_1 : Int) ∧ (i_1 : Int) ≤ j_2 ∧ j_2 ≤ ((s_0.len : Int) : Int) ∧ ((s_0.len : Int) : Int) ≤ (s_0.cap : Int)) <| pIf ((i_1 : Int) == j_2)
  (K (.slice s_0.base s_0.len s_0.cap))
  (pAssert (0 ≤ (0 : Int) ∧ (0 : Int) ≤ i_1 ∧ i_1 ≤ (s_0.cap : Int)) <| pAssert (0 ≤ (j_2 : Int) ∧ (j_2 : Int) ≤ (s_0.len : Int) ∧ (s_0.len : Int) ≤ (s_0.cap : Int)) <| pAppend 1 8 ⟨(if s_0.cap = (0 : Int).toNat then s_0.base else (s_0.base : Option Addr).map (·.add ((0 : Int).toNat * 1))), ((i_1 : Int).toNat - (0 : Int).toNat), (s_0.cap - (0 : Int).toNat)⟩ ⟨(if s_0.cap = (j_2 : Int).toNat then s_0.base else (s_0.base : Option Addr).map (·.add ((j_2 : Int).toNat * 1))), (((s_0.len : Int) : Int).toNat - (j_2 : Int).toNat), (s_0.cap - (j_2 : Int).toNat)⟩ fun s1 => pAssert (0 ≤ ((s1.len : Int) : Int) ∧ ((s1.len : Int) : Int) ≤ (s_0.len : Int) ∧ (s_0.len : Int) ≤ (s1.cap : Int)) <| pClear 1 (zc Tryz.prog 3) ⟨(if s1.cap = ((s1.len : Int) : Int).toNat then s1.base else (s1.base : Option Addr).map (·.add (((s1.len : Int) : Int).toNat * 1))), (((s_0.len : Int) : Int).toNat - ((s1.len : Int) : Int).toNat), (s1.cap - ((s1.len : Int) : Int).toNat)⟩ <| K (.slice s1.base s1.len s1.cap))
def slices_Delete_int_int_ann : Ann := .two (.none) (.two (.none) (.two (.two (.none) (.two (.two (.none) (.none)) (.none))) (.two (.none) (.two (.ord [0, 1, 2, 3, 4, 5, 6, 7]) (.two (.none) (.two (.none) (.none)))))))
theorem slices_Delete_int_int_eq (s_0 : Sl) (i_1 : Int) (j_2 : Int) (KP K : Value → Pr) : vcBody Tryz.prog Tryz.f172 (Tryz.f172.body.getD .skip) slices_Delete_int_int_ann [(.slice s_0.base s_0.len s_0.cap), (.int .i64 i_1), (.int .i64 j_2)] KP K = slices_Delete_int_int s_0 i_1 j_2 KP K := by kernel_rfl
theorem slices_Delete_int_int_call (s_0 : Sl) (i_1 : Int) (j_2 : Int) {KP K : Value → Pr} {h : Heap} (s : slices_Delete_int_int s_0 i_1 j_2 (fgt KP) (fgt K) h) : WpCall Tryz.prog 172 [(.slice s_0.base s_0.len s_0.cap), (.int .i64 i_1), (.int .i64 j_2)].toArray KP K h :=
  WpCall.of_vc Tryz.mixed Tryz.func172 (by kernel_rfl) Tryz.call172 slices_Delete_int_int_ann (by rw [slices_Delete_int_int_eq]; exact s)

/- slices.Insert[[]string,string] -/
def slices_Insert_string_string (s_0 : Sl) (i_1 : Int) (v_2 : Sl) (KP K : Value → Pr) : Pr :=
  pAssert (0 ≤ (i_1 : Int) ∧ (i_1 : Int) ≤ (s_0.len : Int) ∧ (s_0.len : Int) ≤ (s_0.cap : Int)) <| pIf (((v_2.len : Int) : Int) == 0)
  (K (.slice s_0.base s_0.len s_0.cap))
  (pIf ((i_1 : Int) == (s_0.len : Int))
  (pAppend 1 16 s_0 v_2 fun s1 => K (.slice s1.base s1.len s1.cap))
  (pIf (decide (((IntKind.i64.wrap ((s_0.len : Int) + (v_2.len : Int))) : Int) > (s_0.cap : Int)))
  (pAssert (0 ≤ (0 : Int) ∧ (0 : Int) ≤ i_1 ∧ i_1 ≤ (s_0.cap : Int)) <| pExtend 1 16 (zc Tryz.prog 9) ⟨(if s_0.cap = (0 : Int).toNat then s_0.base else (s_0.base : Option Addr).map (·.add ((0 : Int).toNat * 1))), ((i_1 : Int).toNat - (0 : Int).toNat), (s_0.cap - (0 : Int).toNat)⟩ (IntKind.i64.wrap ((IntKind.i64.wrap ((s_0.len : Int) + (v_2.len : Int))) - i_1)) fun s2 => pAssert (0 ≤ (i_1 : Int) ∧ (i_1 : Int) ≤ (s2.len : Int) ∧ (s2.len : Int) ≤ (s2.cap : Int)) <| pCopy 1 ⟨(if s2.cap = (i_1 : Int).toNat then s2.base else (s2.base : Option Addr).map (·.add ((i_1 : Int).toNat * 1))), (((s2.len : Int) : Int).toNat - (i_1 : Int).toNat), (s2.cap - (i_1 : Int).toNat)⟩ v_2 fun (n3 : Int) => pAssert (0 ≤ ((IntKind.i64.wrap (i_1 + (v_2.len : Int))) : Int) ∧ ((IntKind.i64.wrap (i_1 + (v_2.len : Int))) : Int) ≤ (s2.len : Int) ∧ (s2.len : Int) ≤ (s2.cap : Int)) <| pAssert (0 ≤ (i_1 : Int) ∧ (i_1 : Int) ≤ (s_0.len : Int) ∧ (s_0.len : Int) ≤ (s_0.cap : Int)) <| pCopy 1 ⟨(if s2.cap = ((IntKind.i64.wrap (i_1 + (v_2.len : Int))) : Int).toNat then s2.base else (s2.base : Option Addr).map (·.add (((IntKind.i64.wrap (i_1 + (v_2.len : Int))) : Int).toNat * 1))), (((s2.len : Int) : Int).toNat - ((IntKind.i64.wrap (i_1 + (v_2.len : Int))) : Int).toNat), (s2.cap - ((IntKind.i64.wrap (i_1 + (v_2.len : Int))) : Int).toNat)⟩ ⟨(if s_0.cap = (i_1 : Int).toNat then s_0.base else (s_0.base : Option Addr).map (·.add ((i_1 : Int).toNat * 1))), (((s_0.len : Int) : Int).toNat - (i_1 : Int).toNat), (s_0.cap - (i_1 : Int).toNat)⟩ fun (n4 : Int) => K (.slice s2.base s2.len s2.cap))
  (pAssert (0 ≤ (0 : Int) ∧ (0 : Int) ≤ (IntKind.i64.wrap ((s_0.len : Int) + (v_2.len : Int))) ∧ (IntKind.i64.wrap ((s_0.len : Int) + (v_2.len : Int))) ≤ (s_0.cap : Int)) <| pAssert (0 ≤ ((IntKind.i64.wrap (i_1 + (v_2.len : Int))) : Int) ∧ ((IntKind.i64.wrap (i_1 + (v_2.len : Int))) : Int) ≤ ((((IntKind.i64.wrap ((s_0.len : Int) + (v_2.len : Int))) : Int).toNat - (0 : Int).toNat) : Int) ∧ ((((IntKind.i64.wrap ((s_0.len : Int) + (v_2.len : Int))) : Int).toNat - (0 : Int).toNat) : Int) ≤ ((s_0.cap - (0 : Int).toNat) : Int)) <| pCall Tryz.prog 212 [(.slice v_2.base v_2.len v_2.cap), (.slice (if (s_0.cap - (0 : Int).toNat) = ((IntKind.i64.wrap (i_1 + (v_2.len : Int))) : Int).toNat then (if s_0.cap = (0 : Int).toNat then s_0.base else (s_0.base : Option Addr).map (·.add ((0 : Int).toNat * 1))) else ((if s_0.cap = (0 : Int).toNat then s_0.base else (s_0.base : Option Addr).map (·.add ((0 : Int).toNat * 1))) : Option Addr).map (·.add (((IntKind.i64.wrap (i_1 + (v_2.len : Int))) : Int).toNat * 1))) ((((((IntKind.i64.wrap ((s_0.len : Int) + (v_2.len : Int))) : Int).toNat - (0 : Int).toNat) : Int) : Int).toNat - ((IntKind.i64.wrap (i_1 + (v_2.len : Int))) : Int).toNat) ((s_0.cap - (0 : Int).toNat) - ((IntKind.i64.wrap (i_1 + (v_2.len : Int))) : Int).toNat))] KP (.one .bool) fun (r5 : Bool) => pIf (!r5)
  (pAssert (0 ≤ ((IntKind.i64.wrap (i_1 + (v_2.len : Int))) : Int) ∧ ((IntKind.i64.wrap (i_1 + (v_2.len : Int))) : Int) ≤ ((((IntKind.i64.wrap ((s_0.len : Int) + (v_2.len : Int))) : Int).toNat - (0 : Int).toNat) : Int) ∧ ((((IntKind.i64.wrap ((s_0.len : Int) + (v_2.len : Int))) : Int).toNat - (0 : Int).toNat) : Int) ≤ ((s_0.cap - (0 : Int).toNat) : Int)) <| pAssert (0 ≤ (i_1 : Int) ∧ (i_1 : Int) ≤ ((((IntKind.i64.wrap ((s_0.len : Int) + (v_2.len : Int))) : Int).toNat - (0 : Int).toNat) : Int) ∧ ((((IntKind.i64.wrap ((s_0.len : Int) + (v_2.len : Int))) : Int).toNat - (0 : Int).toNat) : Int) ≤ ((s_0.cap - (0 : Int).toNat) : Int)) <| pCopy 1 ⟨(if (s_0.cap - (0 : Int).toNat) = ((IntKind.i64.wrap (i_1 + (v_2.len : Int))) : Int).toNat then (if s_0.cap = (0 : Int).toNat then s_0.base else (s_0.base : Option Addr).map (·.add ((0 : Int).toNat * 1))) else ((if s_0.cap = (0 : Int).toNat then s_0.base else (s_0.base : Option Addr).map (·.add ((0 : Int).toNat * 1))) : Option Addr).map (·.add (((IntKind.i64.wrap (i_1 + (v_2.len : Int))) : Int).toNat * 1))), ((((((IntKind.i64.wrap ((s_0.len : Int) + (v_2.len : Int))) : Int).toNat - (0 : Int).toNat) : Int) : Int).toNat - ((IntKind.i64.wrap (i_1 + (v_2.len : Int))) : Int).toNat), ((s_0.cap - (0 : Int).toNat) - ((IntKind.i64.wrap (i_1 + (v_2.len : Int))) : Int).toNat)⟩ ⟨(if (s_0.cap - (0 : Int).toNat) = (i_1 : Int).toNat then (if s_0.cap = (0 : Int).toNat then s_0.base else (s_0.base : Option Addr).map (·.add ((0 : Int).toNat * 1))) else ((if s_0.cap = (0 : Int).toNat then s_0.base else (s_0.base : Option Addr).map (·.add ((0 : Int).toNat * 1))) : Option Addr).map (·.add ((i_1 : Int).toNat * 1))), ((((((IntKind.i64.wrap ((s_0.len : Int) + (v_2.len : Int))) : Int).toNat - (0 : Int).toNat) : Int) : Int).toNat - (i_1 : Int).toNat), ((s_0.cap - (0 : Int).toNat) - (i_1 : Int).toNat)⟩ fun (n6 : Int) => pAssert (0 ≤ (i_1 : Int) ∧ (i_1 : Int) ≤ ((((IntKind.i64.wrap ((s_0.len : Int) + (v_2.len : Int))) : Int).toNat - (0 : Int).toNat) : Int) ∧ ((((IntKind.i64.wrap ((s_0.len : Int) + (v_2.len : Int))) : Int).toNat - (0 : Int).toNat) : Int) ≤ ((s_0.cap - (0 : Int).toNat) : Int)) <| pCopy 1 ⟨(if (s_0.cap - (0 : Int).toNat) = (i_1 : Int).toNat then (if s_0.cap = (0 : Int).toNat then s_0.base else (s_0.base : Option Addr).map (·.add ((0 : Int).toNat * 1))) else ((if s_0.cap = (0 : Int).toNat then s_0.base else (s_0.base : Option Addr).map (·.add ((0 : Int).toNat * 1))) : Option Addr).map (·.add ((i_1 : Int).toNat * 1))), ((((((IntKind.i64.wrap ((s_0.len : Int) + (v_2.len : Int))) : Int).toNat - (0 : Int).toNat) : Int) : Int).toNat - (i_1 : Int).toNat), ((s_0.cap - (0 : Int).toNat) - (i_1 : Int).toNat)⟩ v_2 fun (n7 : Int) => K (.slice (if s_0.cap = (0 : Int).toNat then s_0.base else (s_0.base : Option Addr).map (·.add ((0 : Int).toNat * 1))) (((IntKind.i64.wrap ((s_0.len : Int) + (v_2.len : Int))) : Int).toNat - (0 : Int).toNat) (s_0.cap - (0 : Int).toNat)))
  (pAssert (0 ≤ ((s_0.len : Int) : Int) ∧ ((s_0.len : Int) : Int) ≤ ((((IntKind.i64.wrap ((s_0.len : Int) + (v_2.len : Int))) : Int).toNat - (0 : Int).toNat) : Int) ∧ ((((IntKind.i64.wrap ((s_0.len : Int) + (v_2.len : Int))) : Int).toNat - (0 : Int).toNat) : Int) ≤ ((s_0.cap - (0 : Int).toNat) : Int)) <| pCopy 1 ⟨(if (s_0.cap - (0 : Int).toNat) = ((s_0.len : Int) : Int).toNat then (if s_0.cap = (0 : Int).toNat then s_0.base else (s_0.base : Option Addr).map (·.add ((0 : Int).toNat * 1))) else ((if s_0.cap = (0 : Int).toNat then s_0.base else (s_0.base : Option Addr).map (·.add ((0 : Int).toNat * 1))) : Option Addr).map (·.add (((s_0.len : Int) : Int).toNat * 1))), ((((((IntKind.i64.wrap ((s_0.len : Int) + (v_2.len : Int))) : Int).toNat - (0 : Int).toNat) : Int) : Int).toNat - ((s_0.len : Int) : Int).toNat), ((s_0.cap - (0 : Int).toNat) - ((s_0.len : Int) : Int).toNat)⟩ v_2 fun (n8 : Int) => pAssert (0 ≤ (i_1 : Int) ∧ (i_1 : Int) ≤ ((((IntKind.i64.wrap ((s_0.len : Int) + (v_2.len : Int))) : Int).toNat - (0 : Int).toNat) : Int) ∧ ((((IntKind.i64.wrap ((s_0.len : Int) + (v_2.len : Int))) : Int).toNat - (0 : Int).toNat) : Int) ≤ ((s_0.cap - (0 : Int).toNat) : Int)) <| pCall Tryz.prog 213 [(.slice (if (s_0.cap - (0 : Int).toNat) = (i_1 : Int).toNat then (if s_0.cap = (0 : Int).toNat then s_0.base else (s_0.base : Option Addr).map (·.add ((0 : Int).toNat * 1))) else ((if s_0.cap = (0 : Int).toNat then s_0.base else (s_0.base : Option Addr).map (·.add ((0 : Int).toNat * 1))) : Option Addr).map (·.add ((i_1 : Int).toNat * 1))) ((((((IntKind.i64.wrap ((s_0.len : Int) + (v_2.len : Int))) : Int).toNat - (0 : Int).toNat) : Int) : Int).toNat - (i_1 : Int).toNat) ((s_0.cap - (0 : Int).toNat) - (i_1 : Int).toNat)), (.int .i64 (v_2.len : Int))] KP (.many []) fun (r9 : Unit) => K (.slice (if s_0.cap = (0 : Int).toNat then s_0.base else (s_0.base : Option Addr).map (·.add ((0 : Int).toNat * 1))) (((IntKind.i64.wrap ((s_0.len : Int) + (v_2.len : Int))) : Int).toNat - (0 : Int).toNat) (s_0.cap - (0 : Int).toNat))))))
def slices_Insert_string_string_ann : Ann := .two (.none) (.two (.none) (.two (.none) (.two (.two (.none) (.two (.two (.none) (.none)) (.none))) (.two (.none) (.two (.two (.none) (.two (.two (.none) (.none)) (.none))) (.two (.two (.none) (.two (.two (.none) (.two (.none) (.two (.ord [0, 1, 2, 3, 4, 5, 6, 7, 8]) (.two (.none) (.none))))) (.none))) (.two (.none) (.two (.two (.none) (.two (.two (.ord [0, 1, 2, 3, 4, 5, 6, 7, 8]) (.two (.none) (.two (.none) (.none)))) (.none))) (.two (.none) (.two (.none) (.two (.none) (.none))))))))))))
theorem slices_Insert_string_string_eq (s_0 : Sl) (i_1 : Int) (v_2 : Sl) (KP K : Value → Pr) : vcBody Tryz.prog Tryz.f174 (Tryz.f174.body.getD .skip) slices_Insert_string_string_ann [(.slice s_0.base s_0.len s_0.cap), (.int .i64 i_1), (.slice v_2.base v_2.len v_2.cap)] KP K = slices_Insert_string_string s_0 i_1 v_2 KP K := by kernel_rfl
theorem slices_Insert_string_string_call (s_0 : Sl) (i_1 : Int) (v_2 : Sl) {KP K : Value → Pr} {h : Heap} (s : slices_Insert_string_string s_0 i_1 v_2 (fgt KP) (fgt K) h) : WpCall Tryz.prog 174 [(.slice s_0.base s_0.len s_0.cap), (.int .i64 i_1), (.slice v_2.base v_2.len v_2.cap)].toArray KP K h :=
  WpCall.of_vc Tryz.mixed Tryz.func174 (by kernel_rfl) Tryz.call174 slices_Insert_string_string_ann (by rw [slices_Insert_string_string_eq]; exact s)

/- slices.Insert[[]int,int] -/
def slices_Insert_int_int (s_0 : Sl) (i_1 : Int) (v_2 : Sl) (KP K : Value → Pr) : Pr :=
  pAssert (0 ≤ (i_1 : Int) ∧ (i_1 : Int) ≤ (s_0.len : Int) ∧ (s_0.len : Int) ≤ (s_0.cap : Int)) <| pIf (((v_2.len : Int) : Int) == 0)
  (K (.slice s_0.base s_0.len s_0.cap))
  (pIf ((i_1 : Int) == (s_0.len : Int))
  (pAppend 1 8 s_0 v_2 fun s1 => K (.slice s1.base s1.len s1.cap))
  (pIf (decide (((IntKind.i64.wrap ((s_0.len : Int) + (v_2.len : Int))) : Int) > (s_0.cap : Int)))
  (pAssert (0 ≤ (0 : Int) ∧ (0 : Int) ≤ i_1 ∧ i_1 ≤ (s_0.cap : Int)) <| pExtend 1 8 (zc Tryz.prog 3) ⟨(if s_0.cap = (0 : Int).toNat then s_0.base else (s_0.base : Option Addr).map (·.add ((0 : Int).toNat * 1))), ((i_1 : Int).toNat - (0 : Int).toNat), (s_0.cap - (0 : Int).toNat)⟩ (IntKind.i64.wrap ((IntKind.i64.wrap ((s_0.len : Int) + (v_2.len : Int))) - i_1)) fun s2 => pAssert (0 ≤ (i_1 : Int) ∧ (i_1 : Int) ≤ (s2.len : Int) ∧ (s2.len : Int) ≤ (s2.cap : Int)) <| pCopy 1 ⟨(if s2.cap = (i_1 : Int).toNat then s2.base else (s2.base : Option Addr).map (·.add ((i_1 : Int).toNat * 1))), (((s2.len : Int) : Int).toNat - (i_1 : Int).toNat), (s2.cap - (i_1 : Int).toNat)⟩ v_2 fun (n3 : Int) => pAssert (0 ≤ ((IntKind.i64.wrap (i_1 + (v_2.len : Int))) : Int) ∧ ((IntKind.i64.wrap (i_1 + (v_2.len : Int))) : Int) ≤ (s2.len : Int) ∧ (s2.len : Int) ≤ (s2.cap : Int)) <| pAssert (0 ≤ (i_1 : Int) ∧ (i_1 : Int) ≤ (s_0.len : Int) ∧ (s_0.len : Int) ≤ (s_0.cap : Int)) <| pCopy 1 ⟨(if s2.cap = ((IntKind.i64.wrap (i_1 + (v_2.len : Int))) : Int).toNat then s2.base else (s2.base : Option Addr).map (·.add (((IntKind.i64.wrap (i_1 + (v_2.len : Int))) : Int).toNat * 1))), (((s2.len : Int) : Int).toNat - ((IntKind.i64.wrap (i_1 + (v_2.len : Int))) : Int).toNat), (s2.cap - ((IntKind.i64.wrap (i_1 + (v_2.len : Int))) : Int).toNat)⟩ ⟨(if s_0.cap = (i_1 : Int).toNat then s_0.base else (s_0.base : Option Addr).map (·.add ((i_1 : Int).toNat * 1))), (((s_0.len : Int) : Int).toNat - (i_1 : Int).toNat), (s_0.cap - (i_1 : Int).toNat)⟩ fun (n4 : Int) => K (.slice s2.base s2.len s2.cap))
  (pAssert (0 ≤ (0 : Int) ∧ (0 : Int) ≤ (IntKind.i64.wrap ((s_0.len : Int) + (v_2.len : Int))) ∧ (IntKind.i64.wrap ((s_0.len : Int) + (v_2.len : Int))) ≤ (s_0.cap : Int)) <| pAssert (0 ≤ ((IntKind.i64.wrap (i_1 + (v_2.len : Int))) : Int) ∧ ((IntKind.i64.wrap (i_1 + (v_2.len : Int))) : Int) ≤ ((((IntKind.i64.wrap ((s_0.len : Int) + (v_2.len : Int))) : Int).toNat - (0 : Int).toNat) : Int) ∧ ((((IntKind.i64.wrap ((s_0.len : Int) + (v_2.len : Int))) : Int).toNat - (0 : Int).toNat) : Int) ≤ ((s_0.cap - (0 : Int).toNat) : Int)) <| pCall Tryz.prog 214 [(.slice v_2.base v_2.len v_2.cap), (.slice (if (s_0.cap - (0 : Int).toNat) = ((IntKind.i64.wrap (i_1 + (v_2.len : Int))) : Int).toNat then (if s_0.cap = (0 : Int).toNat then s_0.base else (s_0.base : Option Addr).map (·.add ((0 : Int).toNat * 1))) else ((if s_0.cap = (0 : Int).toNat then s_0.base else (s_0.base : Option Addr).map (·.add ((0 : Int).toNat * 1))) : Option Addr).map (·.add (((IntKind.i64.wrap (i_1 + (v_2.len : Int))) : Int).toNat * 1))) ((((((IntKind.i64.wrap ((s_0.len : Int) + (v_2.len : Int))) : Int).toNat - (0 : Int).toNat) : Int) : Int).toNat - ((IntKind.i64.wrap (i_1 + (v_2.len : Int))) : Int).toNat) ((s_0.cap - (0 : Int).toNat) - ((IntKind.i64.wrap (i_1 + (v_2.len : Int))) : Int).toNat))] KP (.one .bool) fun (r5 : Bool) => pIf (!r5)
  (pAssert (0 ≤ ((IntKind.i64.wrap (i_1 + (v_2.len : Int))) : Int) ∧ ((IntKind.i64.wrap (i_1 + (v_2.len : Int))) : Int) ≤ ((((IntKind.i64.wrap ((s_0.len : Int) + (v_2.len : Int))) : Int).toNat - (0 : Int).toNat) : Int) ∧ ((((IntKind.i64.wrap ((s_0.len : Int) + (v_2.len : Int))) : Int).toNat - (0 : Int).toNat) : Int) ≤ ((s_0.cap - (0 : Int).toNat) : Int)) <| pAssert (0 ≤ (i_1 : Int) ∧ (i_1 : Int) ≤ ((((IntKind.i64.wrap ((s_0.len : Int) + (v_2.len : Int))) : Int).toNat - (0 : Int).toNat) : Int) ∧ ((((IntKind.i64.wrap ((s_0.len : Int) + (v_2.len : Int))) : Int).toNat - (0 : Int).toNat) : Int) ≤ ((s_0.cap - (0 : Int).toNat) : Int)) <| pCopy 1 ⟨(if (s_0.cap - (0 : Int).toNat) = ((IntKind.i64.wrap (i_1 + (v_2.len : Int))) : Int).toNat then (if s_0.cap = (0 : Int).toNat then s_0.base else (s_0.base : Option Addr).map (·.add ((0 : Int).toNat * 1))) else ((if s_0.cap = (0 : Int).toNat then s_0.base else (s_0.base : Option Addr).map (·.add ((0 : Int).toNat * 1))) : Option Addr).map (·.add (((IntKind.i64.wrap (i_1 + (v_2.len : Int))) : Int).toNat * 1))), ((((((IntKind.i64.wrap ((s_0.len : Int) + (v_2.len : Int))) : Int).toNat - (0 : Int).toNat) : Int) : Int).toNat - ((IntKind.i64.wrap (i_1 + (v_2.len : Int))) : Int).toNat), ((s_0.cap - (0 : Int).toNat) - ((IntKind.i64.wrap (i_1 + (v_2.len : Int))) : Int).toNat)⟩ ⟨(if (s_0.cap - (0 : Int).toNat) = (i_1 : Int).toNat then (if s_0.cap = (0 : Int).toNat then s_0.base else (s_0.base : Option Addr).map (·.add ((0 : Int).toNat * 1))) else ((if s_0.cap = (0 : Int).toNat then s_0.base else (s_0.base : Option Addr).map (·.add ((0 : Int).toNat * 1))) : Option Addr).map (·.add ((i_1 : Int).toNat * 1))), ((((((IntKind.i64.wrap ((s_0.len : Int) + (v_2.len : Int))) : Int).toNat - (0 : Int).toNat) : Int) : Int).toNat - (i_1 : Int).toNat), ((s_0.cap - (0 : Int).toNat) - (i_1 : Int).toNat)⟩ fun (n6 : Int) => pAssert (0 ≤ (i_1 : Int) ∧ (i_1 : Int) ≤ ((((IntKind.i64.wrap ((s_0.len : Int) + (v_2.len : Int))) : Int).toNat - (0 : Int).toNat) : Int) ∧ ((((IntKind.i64.wrap ((s_0.len : Int) + (v_2.len : Int))) : Int).toNat - (0 : Int).toNat) : Int) ≤ ((s_0.cap - (0 : Int).toNat) : Int)) <| pCopy 1 ⟨(if (s_0.cap - (0 : Int).toNat) = (i_1 : Int).toNat then (if s_0.cap = (0 : Int).toNat then s_0.base else (s_0.base : Option Addr).map (·.add ((0 : Int).toNat * 1))) else ((if s_0.cap = (0 : Int).toNat then s_0.base else (s_0.base : Option Addr).map (·.add ((0 : Int).toNat * 1))) : Option Addr).map (·.add ((i_1 : Int).toNat * 1))), ((((((IntKind.i64.wrap ((s_0.len : Int) + (v_2.len : Int))) : Int).toNat - (0 : Int).toNat) : Int) : Int).toNat - (i_1 : Int).toNat), ((s_0.cap - (0 : Int).toNat) - (i_1 : Int).toNat)⟩ v_2 fun (n7 : Int) => K (.slice (if s_0.cap = (0 : Int).toNat then s_0.base else (s_0.base : Option Addr).map (·.add ((0 : Int).toNat * 1))) (((IntKind.i64.wrap ((s_0.len : Int) + (v_2.len : Int))) : Int).toNat - (0 : Int).toNat) (s_0.cap - (0 : Int).toNat)))
  (pAssert (0 ≤ ((s_0.len : Int) : Int) ∧ ((s_0.len : Int) : Int) ≤ ((((IntKind.i64.wrap ((s_0.len : Int) + (v_2.len : Int))) : Int).toNat - (0 : Int).toNat) : Int) ∧ ((((IntKind.i64.wrap ((s_0.len : Int) + (v_2.len : Int))) : Int).toNat - (0 : Int).toNat) : Int) ≤ ((s_0.cap - (0 : Int).toNat) : Int)) <| pCopy 1 ⟨(if (s_0.cap - (0 : Int).toNat) = ((s_0.len : Int) : Int).toNat then (if s_0.cap = (0 : Int).toNat then s_0.base else (s_0.base : Option Addr).map (·.add ((0 : Int).toNat * 1))) else ((if s_0.cap = (0 : Int).toNat then s_0.base else (s_0.base : Option Addr).map (·.add ((0 : Int).toNat * 1))) : Option Addr).map (·.add (((s_0.len : Int) : Int).toNat * 1))), ((((((IntKind.i64.wrap ((s_0.len : Int) + (v_2.len : Int))) : Int).toNat - (0 : Int).toNat) : Int) : Int).toNat - ((s_0.len : Int) : Int).toNat), ((s_0.cap - (0 : Int).toNat) - ((s_0.len : Int) : Int).toNat)⟩ v_2 fun (n8 : Int) => pAssert (0 ≤ (i_1 : Int) ∧ (i_1 : Int) ≤ ((((IntKind.i64.wrap ((s_0.len : Int) + (v_2.len : Int))) : Int).toNat - (0 : Int).toNat) : Int) ∧ ((((IntKind.i64.wrap ((s_0.len : Int) + (v_2.len : Int))) : Int).toNat - (0 : Int).toNat) : Int) ≤ ((s_0.cap - (0 : Int).toNat) : Int)) <| pCall Tryz.prog 215 [(.slice (if (s_0.cap - (0 : Int).toNat) = (i_1 : Int).toNat then (if s_0.cap = (0 : Int).toNat then s_0.base else (s_0.base : Option Addr).map (·.add ((0 : Int).toNat * 1))) else ((if s_0.cap = (0 : Int).toNat then s_0.base else (s_0.base : Option Addr).map (·.add ((0 : Int).toNat * 1))) : Option Addr).map (·.add ((i_1 : Int).toNat * 1))) ((((((IntKind.i64.wrap ((s_0.len : Int) + (v_2.len : Int))) : Int).toNat - (0 : Int).toNat) : Int) : Int).toNat - (i_1 : Int).toNat) ((s_0.cap - (0 : Int).toNat) - (i_1 : Int).toNat)), (.int .i64 (v_2.len : Int))] KP (.many []) fun (r9 : Unit) => K (.slice (if s_0.cap = (0 : Int).toNat then s_0.base else (s_0.base : Option Addr).map (·.add ((0 : Int).toNat * 1))) (((IntKind.i64.wrap ((s_0.len : Int) + (v_2.len : Int))) : Int).toNat - (0 : Int).toNat) (s_0.cap - (0 : Int).toNat))))))
def slices_Insert_int_int_ann : Ann := .two (.none) (.two (.none) (.two (.none) (.two (.two (.none) (.two (.two (.none) (.none)) (.none))) (.two (.none) (.two (.two (.none) (.two (.two (.none) (.none)) (.none))) (.two (.two (.none) (.two (.two (.none) (.two (.none) (.two (.ord [0, 1, 2, 3, 4, 5, 6, 7, 8]) (.two (.none) (.none))))) (.none))) (.two (.none) (.two (.two (.none) (.two (.two (.ord [0, 1, 2, 3, 4, 5, 6, 7, 8]) (.two (.none) (.two (.none) (.none)))) (.none))) (.two (.none) (.two (.none) (.two (.none) (.none))))))))))))
theorem slices_Insert_int_int_eq (s_0 : Sl) (i_1 : Int) (v_2 : Sl) (KP K : Value → Pr) : vcBody Tryz.prog Tryz.f175 (Tryz.f175.body.getD .skip) slices_Insert_int_int_ann [(.slice s_0.base s_0.len s_0.cap), (.int .i64 i_1), (.slice v_2.base v_2.len v_2.cap)] KP K = slices_Insert_int_int s_0 i_1 v_2 KP K := by kernel_rfl
theorem slices_Insert_int_int_call (s_0 : Sl) (i_1 : Int) (v_2 : Sl) {KP K : Value → Pr} {h : Heap} (s : slices_Insert_int_int s_0 i_1 v_2 (fgt KP) (fgt K) h) : WpCall Tryz.prog 175 [(.slice s_0.base s_0.len s_0.cap), (.int .i64 i_1), (.slice v_2.base v_2.len v_2.cap)].toArray KP K h :=
  WpCall.of_vc Tryz.mixed Tryz.func175 (by kernel_rfl) Tryz.call175 slices_Insert_int_int_ann (by rw [slices_Insert_int_int_eq]; exact s)

end Go.Proofs.YtnpcjhcgbcpcoaaGreatDoor



set_option linter.unusedVariables false
set_option linter.unusedSimpArgs false
namespace Go.Proofs.YtnpcjhcgbcpcoaaGreatDoor
open Go.Hl
attribute [local irreducible] loadF zc sizeP bytesP vcBody

theorem zc_str : zc Tryz.prog 9 = [.string ⟨#[]⟩] := by kernel_rfl
theorem zc_int : zc Tryz.prog 3 = [.int .i64 0] := by kernel_rfl

theorem ext_str : IsExtern Tryz.prog 212 (Extern.SlicesOverlaps.overlaps #[25, 25] #[4]) :=
  ⟨fun args w => run_callFunc_extern Tryz.func212 (by kernel_rfl) (by kernel_rfl) (by kernel_rfl) (by kernel_rfl) args w⟩
theorem ov_str_5 : Tryz.prog.underlying 25 = some (.slice 9) := by kernel_rfl
theorem ov_str_6 (w : World) : (Go.sizeOf 9).run Tryz.prog w = .ok 1 w := by kernel_rfl
theorem overlaps_str {h : Heap} {a b : Addr} {la ca lb cb : Nat} {ra rb : List Value} {ta tb : Nat} (ha : h a.block = some (.row ra ta)) (hb : h b.block = some (.row rb tb)) (hne : a.block ≠ b.block) (h0 : tb ≠ 0) {KP K : Value → Pr} (k : K (.bool false) h) :
    WpCall Tryz.prog 212 #[.slice (some a) la ca, .slice (some b) lb cb] KP K h := by
  refine ext_str.call (fun w r => ?_) k
  obtain ⟨t1, s1⟩ := r.shape ha
  obtain ⟨t2, s2⟩ := r.shape hb
  exact Go.Lib.run_overlaps_apart (P := Tryz.prog) w 25 4 9 ov_str_5 1 ov_str_6 a b la ca lb cb hne t1 t2 ta tb s1 s2 h0 (r.frozen ha rfl) (r.frozen ha rfl)
theorem ext_int : IsExtern Tryz.prog 214 (Extern.SlicesOverlaps.overlaps #[38, 38] #[4]) :=
  ⟨fun args w => run_callFunc_extern Tryz.func214 (by kernel_rfl) (by kernel_rfl) (by kernel_rfl) (by kernel_rfl) args w⟩
theorem ov_int_5 : Tryz.prog.underlying 38 = some (.slice 3) := by kernel_rfl
theorem ov_int_6 (w : World) : (Go.sizeOf 3).run Tryz.prog w = .ok 1 w := by kernel_rfl
theorem overlaps_int {h : Heap} {a b : Addr} {la ca lb cb : Nat} {ra rb : List Value} {ta tb : Nat} (ha : h a.block = some (.row ra ta)) (hb : h b.block = some (.row rb tb)) (hne : a.block ≠ b.block) (h0 : tb ≠ 0) {KP K : Value → Pr} (k : K (.bool false) h) :
    WpCall Tryz.prog 214 #[.slice (some a) la ca, .slice (some b) lb cb] KP K h := by
  refine ext_int.call (fun w r => ?_) k
  obtain ⟨t1, s1⟩ := r.shape ha
  obtain ⟨t2, s2⟩ := r.shape hb
  exact Go.Lib.run_overlaps_apart (P := Tryz.prog) w 38 4 3 ov_int_5 1 ov_int_6 a b la ca lb cb hne t1 t2 ta tb s1 s2 h0 (r.frozen ha rfl) (r.frozen ha rfl)
end Go.Proofs.YtnpcjhcgbcpcoaaGreatDoor

set_option linter.unusedVariables false
set_option linter.unusedSimpArgs false
namespace Go.Proofs.YtnpcjhcgbcpcoaaGreatDoor
open Go.Hl
attribute [local irreducible] loadF zc sizeP bytesP vcBody

theorem splice_mid {a b c vs : List Value} {o : Nat} (ha : a.length = o) (hb : b.length = vs.length) : splice (a ++ (b ++ c)) o vs = a ++ (vs ++ c) := by
  subst ha
  unfold splice
  rw [List.take_left, List.drop_append, List.drop_append]
  simp only [Nat.add_sub_cancel_left]
  rw [List.drop_of_length_le (l := a) (by omega), List.drop_of_length_le (l := b) (by omega), hb]
  simp
theorem splice_tail {a b vs : List Value} {o : Nat} (ha : a.length = o) (hb : b.length ≤ vs.length) : splice (a ++ b) o vs = a ++ vs := by
  subst ha
  unfold splice
  rw [List.take_left, List.drop_of_length_le (by simp; omega)]
  simp
theorem ins_move (xs rest : List Value) (x : Value) (i : Nat) (hi : i < xs.length) :
    splice (splice (xs ++ rest) (i + 1) (xs.drop i)) i [x] = (xs.take i ++ x :: xs.drop i) ++ rest.drop 1 := by
  have h0 : xs ++ rest = xs.take (i + 1) ++ (xs.drop (i + 1) ++ rest) := by rw [← List.append_assoc, List.take_append_drop]
  have h1 : (xs.take (i + 1)).length = i + 1 := by simp; omega
  have h2 : splice (xs ++ rest) (i + 1) (xs.drop i) = xs.take (i + 1) ++ (xs.drop i ++ rest.drop 1) := by
    rw [h0]
    cases rest with
    | nil => rw [splice_tail h1 (by simp; omega)]; simp
    | cons r rest =>
      rw [show xs.drop (i + 1) ++ r :: rest = (xs.drop (i + 1) ++ [r]) ++ rest by simp, splice_mid h1 (by simp; omega)]
      simp
  have h3 : xs.take (i + 1) = xs.take i ++ [xs[i]] := by rw [List.take_add_one, List.getElem?_eq_getElem hi]; rfl
  have h4 : (xs.take i).length = i := by simp; omega
  rw [h2, h3, List.append_assoc, splice_mid (b := [xs[i]]) (vs := [x]) h4 rfl]
  simp
theorem ins_new (xs zs : List Value) (x : Value) (i : Nat) (hi : i < xs.length) (hz : zs.length = xs.length + 1 - i) :
    splice (splice (xs.take i ++ zs) i [x]) (i + 1) (xs.drop i) = xs.take i ++ x :: xs.drop i := by
  have h1 : (xs.take i).length = i := by simp; omega
  cases zs with
  | nil => simp at hz; omega
  | cons z zs =>
    rw [show xs.take i ++ z :: zs = xs.take i ++ ([z] ++ zs) by rfl, splice_mid (b := [z]) (vs := [x]) h1 rfl, ← List.append_assoc]
    rw [splice_tail (by simp; omega) (by simp at hz ⊢; omega)]
    simp
theorem oneCells_take {xs : List Value} (h : oneCells xs) (i : Nat) : oneCells (xs.take i) := fun v hv => h v (List.mem_of_mem_take hv)
theorem oneCells_drop {xs : List Value} (h : oneCells xs) (i : Nat) : oneCells (xs.drop i) := fun v hv => h v (List.mem_of_mem_drop hv)
theorem cut_drop (xs rest : List Value) (i : Nat) (hi : i ≤ xs.length) : cut (xs ++ rest) i (xs.length - i) = some (xs.drop i) := by
  unfold cut
  rw [if_pos (by simp; omega), List.drop_append_of_le_length hi, List.take_append_of_le_length (by simp), List.take_of_length_le (by simp)]
theorem cut_take (xs rest : List Value) (i : Nat) (hi : i ≤ xs.length) : cut (xs ++ rest) 0 i = some (xs.take i) := by
  unfold cut
  rw [if_pos (by simp; omega), List.drop_zero, List.take_append_of_le_length hi]

theorem insert_str {h : Heap} {s : Sl} {xs : List Value} {x : Value} {i bv : Nat} (o : Has 1 h s xs) (hi : i ≤ xs.length) (hv : h bv = some (.row [x] 1)) (hne : ¬ blk s bv) (h1 : oneCells xs) (hx : x.oneCell' = true) (hl : xs.length < 1000000000) {KP K : Value → Pr}
    (k : ∀ s' h', Upd (blk s) h h' → Has 1 h' s' (xs.take i ++ x :: xs.drop i) → (∀ b, blk s' b → blk s b ∨ h b = none) → K (.slice s'.base s'.len s'.cap) h') :
    WpCall Tryz.prog 174 #[.slice s.base s.len s.cap, .int .i64 i, .slice (some ⟨bv, 0, none⟩) 1 1] KP K h := by
  have hlen := o.len
  have hvx : Sl.vals 1 ⟨some ⟨bv, 0, none⟩, 1, 1⟩ h [x] := by unfold Sl.vals; simp only; rw [vals_row hv]; rfl
  have hox : oneCells [x] := fun v hv => by simp at hv; subst hv; exact hx
  have wr : ∀ n : Nat, n < 2000000000 → IntKind.i64.wrap (n : Int) = n := fun n hn => wrap_small (by omega) (by omega)
  refine slices_Insert_string_string_call s i ⟨some ⟨bv, 0, none⟩, 1, 1⟩ ?_
  unfold slices_Insert_string_string
  refine pAssert_i ⟨by omega, by omega, by have := o.2.1; omega⟩ (pIf_f rfl ?_)
  refine pIf_i (fun e => ?_) (fun e => ?_)
  · have e : i = xs.length := by simp at e; omega
    subst e
    refine append_has (bytes := 16) o hvx (show (s.len + 1) * 16 ≤ 140737488355328 by omega) hox fun s' h' u o' hs hl' => ?_
    refine fgt_mk (k s' h' u ?_ hs)
    simpa using o'
  · have e : i < xs.length := by simp at e; omega
    have hi1 : (i : Int) + ((1 : Nat) : Int) = ((i + 1 : Nat) : Int) := by omega
    have hn1 : (s.len : Int) + ((1 : Nat) : Int) = ((s.len + 1 : Nat) : Int) := by omega
    simp only [hi1, hn1, wr (i + 1) (by omega), wr (s.len + 1) (by omega), Int.toNat_zero, Int.toNat_natCast, Nat.sub_zero]
    obtain ⟨_, hc, ⟨_, e2, _⟩ | ⟨b, rest, tot, e1, e3, e4⟩⟩ := o
    · omega
    have hbv : b ≠ bv := fun hh => hne ⟨_, e1, hh⟩
    have had : ∀ (c j : Nat), (if j = 0 then (⟨c, 0, none⟩ : Addr) else ⟨c, j, none⟩) = ⟨c, j, none⟩ := fun c j => by
      by_cases hh : j = 0
      · rw [if_pos hh, hh]
      · rw [if_neg hh]
    simp only [e1, ite_self, Option.map_some, Addr.add, Nat.zero_add, Nat.mul_one, Nat.add_zero, had, Int.natCast_zero, Int.sub_zero, Int.toNat_natCast]
    refine pIf_i (fun e5 => ?_) (fun e5 => ?_)
    · have e5 : s.cap < s.len + 1 := by simp at e5; omega
      have hni : IntKind.i64.wrap (((s.len + 1 : Nat) : Int) - (i : Int)) = ((s.len + 1 - i : Nat) : Int) := by rw [wrap_small (by omega) (by omega)]; omega
      rw [hni]
      refine pAssert_i ⟨by omega, by omega, by omega⟩ ?_
      refine extend_new e3 (cut_take xs rest (i * 1) (by omega)) (show (i + (s.len + 1 - i)) * 16 ≤ 140737488355328 by omega) (by rw [zc_str]; intro v hv; rw [List.mem_singleton.1 hv]; rfl) (by omega) fun b' cap' hb' hc' => ?_
      have hnb : b ≠ b' := fun hh => by subst hh; rw [e3] at hb'; cases hb'
      have hnv : bv ≠ b' := fun hh => by subst hh; rw [hv] at hb'; cases hb'
      rw [zc_str]
      simp only [Option.map_some, Nat.zero_add, had, Nat.mul_one]
      have hci : ¬ cap' = i := by omega
      have hci1 : ¬ cap' = i + 1 := by omega
      have hsi : ¬ s.cap = i := by omega
      simp only [if_neg hci, if_neg hci1, if_neg hsi]
      refine pAssert_i ⟨by omega, by omega, by omega⟩ ?_
      refine copy_b (m := 1) (by simp only [Nat.min_def]; split <;> omega) (by omega) (Heap.look_ne hnv hv) (xs := [x]) rfl (Heap.set_same _ _ _) (by simp; omega) (by omega) hox ?_
      refine pAssert_i ⟨by omega, by omega, by omega⟩ (pAssert_i ⟨by omega, by omega, by omega⟩ ?_)
      rw [Heap.set_set]
      refine copy_b (m := s.len - i) (by simp only [Nat.min_def]; split <;> omega) (by omega) (Heap.look_ne hnb e3) (by rw [Nat.mul_one, hlen]; exact cut_drop xs rest i hi) (Heap.set_same _ _ _) (by simp [splice]; omega) (by omega) (oneCells_drop h1 i) ?_
      rw [Heap.set_set]
      rw [ins_new xs _ x i e (by simp; omega)]
      refine fgt_mk (k ⟨some ⟨b', 0, none⟩, i + (s.len + 1 - i), cap'⟩ _ (Upd.set (.inr hb')) ⟨by simp; omega, show i + (s.len + 1 - i) ≤ cap' by omega, .inr ⟨b', [], cap' * 1, rfl, by simp, Nat.le_refl _⟩⟩ ?_)
      intro b'' hb''
      simp at hb''
      subst hb''
      exact .inr hb'
    · have e5 : s.len + 1 ≤ s.cap := by simp at e5; omega
      have hsi : ¬ s.cap = i := by omega
      have hsi1 : ¬ s.cap = i + 1 := by omega
      simp only [if_neg hsi, if_neg hsi1]
      refine pAssert_i ⟨by omega, by omega, by omega⟩ (pAssert_i ⟨by omega, by omega, by omega⟩ ?_)
      refine overlaps_str (a := ⟨bv, 0, none⟩) (b := ⟨b, i + 1, none⟩) hv e3 (Ne.symm hbv) (by omega) ⟨false, rfl, ?_⟩
      refine pIf_t rfl (pAssert_i ⟨by omega, by omega, by omega⟩ (pAssert_i ⟨by omega, by omega, by omega⟩ ?_))
      refine copy_b (m := s.len - i) (by simp only [Nat.min_def]; split <;> omega) (by omega) e3 (by rw [Nat.mul_one, hlen]; exact cut_drop xs rest i hi) e3 (by simp; omega) (by omega) (oneCells_drop h1 i) ?_
      refine pAssert_i ⟨by omega, by omega, by omega⟩ ?_
      refine copy_b (m := 1) (by simp only [Nat.min_def]; split <;> omega) (by omega) (Heap.look_ne (Ne.symm hbv) hv) (xs := [x]) rfl (Heap.set_same _ _ _) (by simp [splice]; omega) (by omega) hox ?_
      rw [Heap.set_set, ins_move xs rest x i e]
      refine fgt_mk (k ⟨some ⟨b, 0, none⟩, s.len + 1, s.cap⟩ _ (Upd.set (.inl ⟨_, e1, rfl⟩)) ⟨by simp; omega, by omega, .inr ⟨b, _, tot, rfl, Heap.set_same _ _ _, e4⟩⟩ ?_)
      intro b'' hb''
      simp at hb''
      subst hb''
      exact .inl ⟨_, e1, rfl⟩
theorem insert_int {h : Heap} {s : Sl} {xs : List Value} {x : Value} {i bv : Nat} (o : Has 1 h s xs) (hi : i ≤ xs.length) (hv : h bv = some (.row [x] 1)) (hne : ¬ blk s bv) (h1 : oneCells xs) (hx : x.oneCell' = true) (hl : xs.length < 1000000000) {KP K : Value → Pr}
    (k : ∀ s' h', Upd (blk s) h h' → Has 1 h' s' (xs.take i ++ x :: xs.drop i) → (∀ b, blk s' b → blk s b ∨ h b = none) → K (.slice s'.base s'.len s'.cap) h') :
    WpCall Tryz.prog 175 #[.slice s.base s.len s.cap, .int .i64 i, .slice (some ⟨bv, 0, none⟩) 1 1] KP K h := by
  have hlen := o.len
  have hvx : Sl.vals 1 ⟨some ⟨bv, 0, none⟩, 1, 1⟩ h [x] := by unfold Sl.vals; simp only; rw [vals_row hv]; rfl
  have hox : oneCells [x] := fun v hv => by simp at hv; subst hv; exact hx
  have wr : ∀ n : Nat, n < 2000000000 → IntKind.i64.wrap (n : Int) = n := fun n hn => wrap_small (by omega) (by omega)
  refine slices_Insert_int_int_call s i ⟨some ⟨bv, 0, none⟩, 1, 1⟩ ?_
  unfold slices_Insert_int_int
  refine pAssert_i ⟨by omega, by omega, by have := o.2.1; omega⟩ (pIf_f rfl ?_)
  refine pIf_i (fun e => ?_) (fun e => ?_)
  · have e : i = xs.length := by simp at e; omega
    subst e
    refine append_has (bytes := 8) o hvx (show (s.len + 1) * 8 ≤ 140737488355328 by omega) hox fun s' h' u o' hs hl' => ?_
    refine fgt_mk (k s' h' u ?_ hs)
    simpa using o'
  · have e : i < xs.length := by simp at e; omega
    have hi1 : (i : Int) + ((1 : Nat) : Int) = ((i + 1 : Nat) : Int) := by omega
    have hn1 : (s.len : Int) + ((1 : Nat) : Int) = ((s.len + 1 : Nat) : Int) := by omega
    simp only [hi1, hn1, wr (i + 1) (by omega), wr (s.len + 1) (by omega), Int.toNat_zero, Int.toNat_natCast, Nat.sub_zero]
    obtain ⟨_, hc, ⟨_, e2, _⟩ | ⟨b, rest, tot, e1, e3, e4⟩⟩ := o
    · omega
    have hbv : b ≠ bv := fun hh => hne ⟨_, e1, hh⟩
    have had : ∀ (c j : Nat), (if j = 0 then (⟨c, 0, none⟩ : Addr) else ⟨c, j, none⟩) = ⟨c, j, none⟩ := fun c j => by
      by_cases hh : j = 0
      · rw [if_pos hh, hh]
      · rw [if_neg hh]
    simp only [e1, ite_self, Option.map_some, Addr.add, Nat.zero_add, Nat.mul_one, Nat.add_zero, had, Int.natCast_zero, Int.sub_zero, Int.toNat_natCast]
    refine pIf_i (fun e5 => ?_) (fun e5 => ?_)
    · have e5 : s.cap < s.len + 1 := by simp at e5; omega
      have hni : IntKind.i64.wrap (((s.len + 1 : Nat) : Int) - (i : Int)) = ((s.len + 1 - i : Nat) : Int) := by rw [wrap_small (by omega) (by omega)]; omega
      rw [hni]
      refine pAssert_i ⟨by omega, by omega, by omega⟩ ?_
      refine extend_new e3 (cut_take xs rest (i * 1) (by omega)) (show (i + (s.len + 1 - i)) * 8 ≤ 140737488355328 by omega) (by rw [zc_int]; intro v hv; rw [List.mem_singleton.1 hv]; rfl) (by omega) fun b' cap' hb' hc' => ?_
      have hnb : b ≠ b' := fun hh => by subst hh; rw [e3] at hb'; cases hb'
      have hnv : bv ≠ b' := fun hh => by subst hh; rw [hv] at hb'; cases hb'
      rw [zc_int]
      simp only [Option.map_some, Nat.zero_add, had, Nat.mul_one]
      have hci : ¬ cap' = i := by omega
      have hci1 : ¬ cap' = i + 1 := by omega
      have hsi : ¬ s.cap = i := by omega
      simp only [if_neg hci, if_neg hci1, if_neg hsi]
      refine pAssert_i ⟨by omega, by omega, by omega⟩ ?_
      refine copy_b (m := 1) (by simp only [Nat.min_def]; split <;> omega) (by omega) (Heap.look_ne hnv hv) (xs := [x]) rfl (Heap.set_same _ _ _) (by simp; omega) (by omega) hox ?_
      refine pAssert_i ⟨by omega, by omega, by omega⟩ (pAssert_i ⟨by omega, by omega, by omega⟩ ?_)
      rw [Heap.set_set]
      refine copy_b (m := s.len - i) (by simp only [Nat.min_def]; split <;> omega) (by omega) (Heap.look_ne hnb e3) (by rw [Nat.mul_one, hlen]; exact cut_drop xs rest i hi) (Heap.set_same _ _ _) (by simp [splice]; omega) (by omega) (oneCells_drop h1 i) ?_
      rw [Heap.set_set]
      rw [ins_new xs _ x i e (by simp; omega)]
      refine fgt_mk (k ⟨some ⟨b', 0, none⟩, i + (s.len + 1 - i), cap'⟩ _ (Upd.set (.inr hb')) ⟨by simp; omega, show i + (s.len + 1 - i) ≤ cap' by omega, .inr ⟨b', [], cap' * 1, rfl, by simp, Nat.le_refl _⟩⟩ ?_)
      intro b'' hb''
      simp at hb''
      subst hb''
      exact .inr hb'
    · have e5 : s.len + 1 ≤ s.cap := by simp at e5; omega
      have hsi : ¬ s.cap = i := by omega
      have hsi1 : ¬ s.cap = i + 1 := by omega
      simp only [if_neg hsi, if_neg hsi1]
      refine pAssert_i ⟨by omega, by omega, by omega⟩ (pAssert_i ⟨by omega, by omega, by omega⟩ ?_)
      refine overlaps_int (a := ⟨bv, 0, none⟩) (b := ⟨b, i + 1, none⟩) hv e3 (Ne.symm hbv) (by omega) ⟨false, rfl, ?_⟩
      refine pIf_t rfl (pAssert_i ⟨by omega, by omega, by omega⟩ (pAssert_i ⟨by omega, by omega, by omega⟩ ?_))
      refine copy_b (m := s.len - i) (by simp only [Nat.min_def]; split <;> omega) (by omega) e3 (by rw [Nat.mul_one, hlen]; exact cut_drop xs rest i hi) e3 (by simp; omega) (by omega) (oneCells_drop h1 i) ?_
      refine pAssert_i ⟨by omega, by omega, by omega⟩ ?_
      refine copy_b (m := 1) (by simp only [Nat.min_def]; split <;> omega) (by omega) (Heap.look_ne (Ne.symm hbv) hv) (xs := [x]) rfl (Heap.set_same _ _ _) (by simp [splice]; omega) (by omega) hox ?_
      rw [Heap.set_set, ins_move xs rest x i e]
      refine fgt_mk (k ⟨some ⟨b, 0, none⟩, s.len + 1, s.cap⟩ _ (Upd.set (.inl ⟨_, e1, rfl⟩)) ⟨by simp; omega, by omega, .inr ⟨b, _, tot, rfl, Heap.set_same _ _ _, e4⟩⟩ ?_)
      intro b'' hb''
      simp at hb''
      subst hb''
      exact .inl ⟨_, e1, rfl⟩
end Go.Proofs.YtnpcjhcgbcpcoaaGreatDoor
