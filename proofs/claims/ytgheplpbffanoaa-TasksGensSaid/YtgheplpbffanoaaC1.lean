import Derived.Test.YtgheplpbffanoaaHl14
import Derived.Test.YtgheplpbffanoaaV0
import Derived.Test.YtgheplpbffanoaaV1
import Derived.Test.YtgheplpbffanoaaV2
import Derived.Test.YtgheplpbffanoaaV3
import Derived.Test.YtgheplpbffanoaaV4
import Derived.Test.YtgheplpbffanoaaV5
import Derived.Test.YtgheplpbffanoaaV6
import Derived.Test.YtgheplpbffanoaaV7
import Derived.Test.YtgheplpbffanoaaV8
import Derived.Test.YtgheplpbffanoaaV9
import Derived.Test.YtgheplpbffanoaaV10
import Derived.Test.YtgheplpbffanoaaV11
set_option linter.unusedVariables false
namespace Go.Proofs.Ytgheplpbffanoaa
open Go.Hl
attribute [local irreducible] loadF zc sizeP bytesP vcBody

structure File where
  ino : Int
  flags : Int
  off : Int
  deriving DecidableEq
structure Area where
  used : Bool
  ino : Int
  prot : Int
  size : Int
  mbw : Bool
  deriving DecidableEq
structure Task where
  pid : Int
  gen : Int
  ppid : Int
  uid : Int
  gid : Int
  cwd : Int
  exe : Int
  tracer : Int
  dead : Bool
  code : Int
  sigs : Int
  f0 : File
  f1 : File
  f2 : File
  f3 : File
  f4 : File
  f5 : File
  a0 : Area
  a1 : Area
  a2 : Area
  a3 : Area
  deriving DecidableEq

def File.enc (f : File) : List Value := [.int .i64 f.ino, .int .i64 f.flags, .int .i64 f.off]
def Area.enc (a : Area) : List Value := [.bool a.used, .int .i64 a.ino, .int .i64 a.prot, .int .i64 a.size, .bool a.mbw]
def Task.encF (t : Task) : List Value := [t.f0, t.f1, t.f2, t.f3, t.f4, t.f5].flatMap File.enc
def Task.encA (t : Task) : List Value := [t.a0, t.a1, t.a2, t.a3].flatMap Area.enc
def Task.enc (t : Task) : List Value :=
  [.int .i64 t.pid, .int .i64 t.gen, .int .i64 t.ppid, .int .i64 t.uid, .int .i64 t.gid, .int .i64 t.cwd, .int .i64 t.exe, .int .i64 t.tracer, .bool t.dead, .int .i64 t.code, .int .u64 t.sigs] ++ (t.encF ++ t.encA)
theorem Task.len (t : Task) : t.enc.length = 49 := rfl
def File.z : File := ⟨0, 0, 0⟩
def Area.z : Area := ⟨false, 0, 0, 0, false⟩
def Task.z : Task := ⟨0, 0, 0, 0, 0, 0, 0, 0, false, 0, 0, .z, .z, .z, .z, .z, .z, .z, .z, .z, .z⟩
theorem zc_task : zc Try.prog 39 = Task.z.enc := by kernel_rfl
theorem zc_task0 : lay (zc Try.prog 39) [] = Task.z.enc := by rw [lay_nil, zc_task]
theorem zc_tlen : (zc Try.prog 39).length = 49 := by rw [zc_task]; rfl
theorem zc_file : zc Try.prog 33 = File.z.enc := by kernel_rfl
theorem zc_file0 : lay (zc Try.prog 33) [] = File.z.enc := by rw [lay_nil, zc_file]
theorem zc_flen : (zc Try.prog 33).length = 3 := by rw [zc_file]; rfl

def tk (T : List Task) (pid : Int) : Task := T.getD pid.toNat .z
def hasB (T : List Task) (pid : Int) : Bool := decide (1 ≤ pid) && decide (pid < 9) && ((tk T pid).pid != 0)
def aliveB (T : List Task) (pid : Int) : Bool := hasB T pid && !(tk T pid).dead
abbrev encT (T : List Task) : List Value := T.flatMap Task.enc
/-- There is a table. -/
structure Tab (h : Heap) (b : Nat) (T : List Task) : Prop where
  blk : h b = some (.row (encT T) 441)
  len : T.length = 9

theorem tab_cell {h : Heap} {b : Nat} {T : List Task} (t : Tab h b T) {pid : Int} (h0 : 0 ≤ pid) (h1 : pid < 9) {k : Nat} (hk : k < 49) : h.cell ⟨b, pid.toNat * 49 + k, none⟩ = (tk T pid).enc[k]? := by
  have hlt : pid.toNat < T.length := by rw [t.len]; omega
  rw [cell_row t.blk, flat_get Task.enc 49 Task.len T pid.toNat k hlt hk]
  simp [tk, List.getD_eq_getElem?_getD, hlt]

theorem at_ok {h : Heap} {b : Nat} {T : List Task} (t : Tab h b T) (pid : Int) {KP K : Value → Pr}
    (k : K (.pointer (if hasB T pid then some ⟨b, pid.toNat * 49, none⟩ else none)) h) : WpCall Try.prog 26 #[.pointer (some ⟨b, 0, none⟩), .int .i64 pid] KP K h := by
  refine tasks_Table_at_call _ _ ?_
  have hret : ∀ v, v = (if hasB T pid then some (⟨b, pid.toNat * 49, none⟩ : Addr) else none) → fgt K (.pointer v) h := fun v e => fgt_here (Heap.le_refl _) (by rw [e]; exact k)
  simp only [tasks_Table_at, tasks_Table_at_j1, pJoin, pIf, pSome, pIdx, pLd]
  by_cases hr : 1 ≤ pid ∧ pid < 9
  · have hc0 : h.cell ⟨b, pid.toNat * 49, none⟩ = some (.int .i64 (tk T pid).pid) := tab_cell t (pid := pid) (by omega) hr.2 (k := 0) (by omega)
    simp [hc0, Shape.inj]
    grind [hasB]
  · simp
    grind [hasB]

theorem alive_ok {h : Heap} {b : Nat} {T : List Task} (t : Tab h b T) (pid : Int) {KP K : Value → Pr}
    (k : K (.pointer (if aliveB T pid then some ⟨b, pid.toNat * 49, none⟩ else none)) h) : WpCall Try.prog 23 #[.pointer (some ⟨b, 0, none⟩), .int .i64 pid] KP K h := by
  refine tasks_Table_alive_call _ _ ?_
  have hret : ∀ v, v = (if aliveB T pid then some (⟨b, pid.toNat * 49, none⟩ : Addr) else none) → fgt K (.pointer v) h := fun v e => fgt_here (Heap.le_refl _) (by rw [e]; exact k)
  refine at_ok t pid ⟨_, rfl, ?_⟩
  simp only [tasks_Table_alive_j1, pJoin, pIf, pSome, pLd]
  by_cases hr : hasB T pid = true
  · have hr1 : 1 ≤ pid ∧ pid < 9 := by simp [hasB] at hr; omega
    have hc0 : h.cell ⟨b, pid.toNat * 49 + 8, none⟩ = some (.bool (tk T pid).dead) := tab_cell t (pid := pid) (by omega) hr1.2 (k := 8) (by omega)
    simp [hc0, Shape.inj, hr]
    grind [aliveB]
  · simp [hr]
    grind [aliveB]

theorem tab_vals {h : Heap} {b : Nat} {T : List Task} (t : Tab h b T) {pid : Int} (h0 : 0 ≤ pid) (h1 : pid < 9) : h.vals ⟨b, pid.toNat * 49, none⟩ 49 = some (tk T pid).enc := by
  have hlt : pid.toNat < T.length := by rw [t.len]; omega
  have := flat_cut Task.enc 49 Task.len T pid.toNat 0 49 hlt (by omega)
  rw [Nat.add_zero] at this
  rw [vals_row t.blk, this]
  simp [tk, List.getD_eq_getElem?_getD, hlt]
  exact cut_all' (Task.len _)

theorem Tab.new {h : Heap} {b b' : Nat} {T : List Task} {x : Blk} (t : Tab h b T) (hb : h b' = none) : Tab (h.set b' x) b T := ⟨set_new_ne hb t.blk, t.len⟩
theorem Tab.le {h h' : Heap} {b : Nat} {T : List Task} (t : Tab h b T) (l : Heap.le h h') : Tab h' b T := ⟨l _ _ t.blk, t.len⟩

theorem task_one (t : Task) : oneCells t.enc := by
  intro v hv
  simp [Task.enc, Task.encF, Task.encA, File.enc, Area.enc] at hv
  rcases hv with h | h | h | h | h | h | h | h | h | h | h | h | h | h | h | h | h | h | h | h | h | h | h | h | h | h | h | h | h | h | h | h | h | h | h | h | h | h | h | h | h | h | h | h | h | h | h | h | h <;> subst h <;> rfl

theorem get_ok {h : Heap} {b : Nat} {T : List Task} (t : Tab h b T) (pid : Int) {KP K : Value → Pr}
    (k : K (.tuple #[.agg (if hasB T pid then (tk T pid) else Task.z).enc.toArray, .bool (hasB T pid)]) h) : WpCall Try.prog 12 #[.pointer (some ⟨b, 0, none⟩), .int .i64 pid] KP K h := by
  refine tasks_Table_Get_call _ _ ?_
  unfold tasks_Table_Get
  intro b1 hb1
  have t1 := t.new (x := .row (zc Try.prog 39) (zc Try.prog 39).length) hb1
  refine at_ok t1 pid ⟨_, rfl, ?_⟩
  have fin : ∀ y, fgt K (.tuple #[.agg (if hasB T pid then (tk T pid) else Task.z).enc.toArray, .bool (hasB T pid)]) (h.set b1 y) := fun y => fgt_here (Heap.le_set_new (Heap.le_refl _) hb1 _) k
  by_cases hr : hasB T pid = true
  · have hr1 : 1 ≤ pid ∧ pid < 9 := by simp [hasB] at hr; omega
    simp only [hr, if_true] at fin ⊢
    refine pIf_t rfl (pSome_i rfl (pLdA_i (tab_vals t1 (by omega) hr1.2) (pStA_new zc_tlen (Task.len _) (task_one _) (pLdA_i (vals_whole (Heap.set_same _ _ _) (Task.len _)) ?_))))
    exact fin _
  · have hr' : hasB T pid = false := by simpa using hr
    simp only [hr', if_false, Bool.false_eq_true] at fin ⊢
    rw [zc_task0]
    refine pIf_f rfl (pStA_new zc_tlen (Task.len .z) (task_one .z) (pLdA_i (vals_whole (Heap.set_same _ _ _) (Task.len .z)) ?_))
    exact fin _

def nextFrom (T : List Task) : Nat → Int → Int
  | 0, _ => 0
  | n + 1, p => if (tk T p).pid = 0 then p else nextFrom T n (p + 1)
def next (T : List Task) : Int := nextFrom T 8 1

theorem next_ok {h : Heap} {b : Nat} {T : List Task} (t : Tab h b T) {KP K : Value → Pr} (k : K (.int .i64 (next T)) h) : WpCall Try.prog 24 #[.pointer (some ⟨b, 0, none⟩)] KP K h := by
  refine tasks_Table_Next_call _ ?_
  unfold tasks_Table_Next
  refine pLoop_rule (fun s h' => h' = h ∧ 1 ≤ s.1 ∧ s.1 ≤ 9 ∧ nextFrom T (9 - s.1).toNat s.1 = next T) (fun s => (9 - s.1).toNat) ?_ ⟨rfl, by omega, by omega, rfl⟩
  rintro ⟨p, ⟨⟩⟩ h' kk ⟨rfl, h1, h2, h3⟩ hk
  simp only at h1 h2 h3 hk ⊢
  unfold tasks_Table_Next_l2 tasks_Table_Next_j1 pJoin
  by_cases hp : p ≤ 8
  · have hc : h'.cell ⟨b, p.toNat * 49, none⟩ = some (.int .i64 (tk T p).pid) := tab_cell t (pid := p) (by omega) (by omega) (k := 0) (by omega)
    have e : (9 - p).toNat = (8 - p).toNat + 1 := by omega
    rw [e, nextFrom] at h3
    refine pIf_t rfl (pIf_t (by simpa using hp) (pSome_i rfl (pIdx_i (by omega) (by omega) (pLd_i (tk T p).pid (by simpa [Shape.inj] using hc) (pIf_i (fun hz => ?_) (fun hz => ?_))))))
    · have hz' : (tk T p).pid = 0 := by simpa using hz
      rw [if_pos hz'] at h3
      rw [h3]; exact fgt_here (Heap.le_refl _) k
    · have hz' : (tk T p).pid ≠ 0 := by simpa using hz
      rw [if_neg hz'] at h3
      rw [wrap_small (by omega) (by omega)]
      refine hk _ _ ⟨rfl, by simp only; omega, by simp only; omega, ?_⟩ (by simp only; omega)
      rw [← h3]
      congr 1; simp only; omega
  · refine pIf_t rfl (pIf_f (by simpa using hp) ?_)
    have : p = 9 := by omega
    subst this
    have h3' : next T = 0 := by rw [← h3]; rfl
    exact fgt_here (Heap.le_refl _) (by rw [← h3']; exact k)

end Go.Proofs.Ytgheplpbffanoaa
