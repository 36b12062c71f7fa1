/-
  No cell of these rows narrows 'for every input' (looked for: loops, veiled, ifaces, maps, wideKeys, modest, calm, conditions, laid).
  DERIVED. THE GIVEN ROWS OF THIS SEAT. 4 by the template 'for every input the law returns true; each argument reads behind the call as it read before'; 0 by the template 'total and deterministic' (their statements: YtgheplpbffanoaaTotals.lean).
  GIVEN WITH THE SEED: the statements are not yours to turn. If you find one false, say at which input.
  Laid BY PROGRAM, IN A SANDBOX (cutbox-rows.mjs): the forced cells as the released guide's own fill.sh prints them over the translation cde4690133e4477d… (all of the seat's roots in one cut). By AI agents, Wed Nov 11 2026. No macro, syntax, notation, axiom, sorry.
-/
import Derived.Test.YtgheplpbffanoaaChecked
import GoSem.Claim
import GoSem.ClaimJoined
import GoSem.ClaimMapViews
import Derived.JoinedTies
import Derived.KernelRfl
namespace Go.Proofs.Ytgheplpbffanoaa
/- THE CELL 'sum', in the pinned program and in every row, IS THE sha256 OF THE DUMP (.gsa) THAT YtgheplpbffanoaaProg.lean LOADS. Nothing in Lean hashes anything: it is a label: what it is worth is what the hold of that sum in a sandbox is worth. -/
noncomputable def Try.pinned : Pinned := { name := "ytgheplpbffanoaa", sum := "cde4690133e4477d7a86aa24822890ca54d27cc92e11b7bce3600c9370e52ca4", checked := Try.checked }
namespace Rows
def none {H : Type} : Left H := { results := [], args := [] }

/-- 'halberdlaw24.TasksFull': WHATEVER THE INPUT: true; the input reads as it did. -/
def tasksFullSpec : ChangeSpec := { name := "tasksFull", fn := fun _ => fun
  | [d1, d2] => { results := [.lit (.bool true)], args := [d1, d2] }
  | _ => none }
def tasksFullRow : OpenClaim := { program := "ytgheplpbffanoaa", sum := "cde4690133e4477d7a86aa24822890ca54d27cc92e11b7bce3600c9370e52ca4", func := "halberd/halberdlaw24.TasksFull", spec := "tasksFull", apart := false }
def TasksFullSaid : Prop := tasksFullRow.holds Try.pinned (OpenSpec.ofChange tasksFullSpec)

/-- ITS FALSE NEIGHBOUR: 'it returns false'. Refute it at one input. -/
def tasksFullWrong : ChangeSpec := { name := "tasksFull", fn := fun _ => fun
  | [d1, d2] => { results := [.lit (.bool false)], args := [d1, d2] }
  | _ => none }
def TasksFullWrongFalsely : Prop := tasksFullRow.holds Try.pinned (OpenSpec.ofChange tasksFullWrong)

/-- 'halberdlaw24.TasksGens': WHATEVER THE INPUT: true; the input reads as it did. -/
def tasksGensSpec : ChangeSpec := { name := "tasksGens", fn := fun _ => fun
  | [d] => { results := [.lit (.bool true)], args := [d] }
  | _ => none }
def tasksGensRow : OpenClaim := { program := "ytgheplpbffanoaa", sum := "cde4690133e4477d7a86aa24822890ca54d27cc92e11b7bce3600c9370e52ca4", func := "halberd/halberdlaw24.TasksGens", spec := "tasksGens", unfollowed := true, recurses := true, apart := false }
def TasksGensSaid : Prop := tasksGensRow.holds Try.pinned (OpenSpec.ofChange tasksGensSpec)

/-- ITS FALSE NEIGHBOUR: 'it returns false'. Refute it at one input. -/
def tasksGensWrong : ChangeSpec := { name := "tasksGens", fn := fun _ => fun
  | [d] => { results := [.lit (.bool false)], args := [d] }
  | _ => none }
def TasksGensWrongFalsely : Prop := tasksGensRow.holds Try.pinned (OpenSpec.ofChange tasksGensWrong)

/-- 'halberdlaw24.TasksTree': WHATEVER THE INPUT: true; the input reads as it did. -/
def tasksTreeSpec : ChangeSpec := { name := "tasksTree", fn := fun _ => fun
  | [d] => { results := [.lit (.bool true)], args := [d] }
  | _ => none }
def tasksTreeRow : OpenClaim := { program := "ytgheplpbffanoaa", sum := "cde4690133e4477d7a86aa24822890ca54d27cc92e11b7bce3600c9370e52ca4", func := "halberd/halberdlaw24.TasksTree", spec := "tasksTree", unfollowed := true, recurses := true, apart := false }
def TasksTreeSaid : Prop := tasksTreeRow.holds Try.pinned (OpenSpec.ofChange tasksTreeSpec)

/-- ITS FALSE NEIGHBOUR: 'it returns false'. Refute it at one input. -/
def tasksTreeWrong : ChangeSpec := { name := "tasksTree", fn := fun _ => fun
  | [d] => { results := [.lit (.bool false)], args := [d] }
  | _ => none }
def TasksTreeWrongFalsely : Prop := tasksTreeRow.holds Try.pinned (OpenSpec.ofChange tasksTreeWrong)

/-- 'halberdlaw24.TasksPlays': WHATEVER THE INPUT: true; the input reads as it did. -/
def tasksPlaysSpec : ChangeSpec := { name := "tasksPlays", fn := fun _ => fun
  | [d1, d2] => { results := [.lit (.bool true)], args := [d1, d2] }
  | _ => none }
def tasksPlaysRow : OpenClaim := { program := "ytgheplpbffanoaa", sum := "cde4690133e4477d7a86aa24822890ca54d27cc92e11b7bce3600c9370e52ca4", func := "halberd/halberdlaw24.TasksPlays", spec := "tasksPlays", unfollowed := true, recurses := true, apart := false }
def TasksPlaysSaid : Prop := tasksPlaysRow.holds Try.pinned (OpenSpec.ofChange tasksPlaysSpec)

/-- ITS FALSE NEIGHBOUR: 'it returns false'. Refute it at one input. -/
def tasksPlaysWrong : ChangeSpec := { name := "tasksPlays", fn := fun _ => fun
  | [d1, d2] => { results := [.lit (.bool false)], args := [d1, d2] }
  | _ => none }
def TasksPlaysWrongFalsely : Prop := tasksPlaysRow.holds Try.pinned (OpenSpec.ofChange tasksPlaysWrong)

/- THE SECOND FORM. 'bulk': how many values and letters a reading holds, each counted each time it is reached (what is shared counts as often as it is met; a slice's spare places count too). A statement '..UptoSaid' is the law's where the arguments, and the package variables that the reading takes, are together of bulk at most 1048576: NARROWER than '..Said'. Prove '..Said' where nothing that the law and all that it calls make is longer than what came in: it says more and counts as full. Else prove '..UptoSaid'. A law counts once. -/
mutual
def uptoBulk {H : Type} : DataW H → Nat
  | .lit (.string bytes) => bytes.length + 1
  | .lit _ => 1
  | .nil => 1
  | .ptr d => uptoBulk d + 1
  | .slice elems spare => uptoBulkAll elems + uptoBulkAll spare + 1
  | .agg parts => uptoBulkAll parts + 1
  | .iface _ d => uptoBulk d + 1
  | .map entries => uptoBulkEntries entries + 1
  | .held _ => 1
def uptoBulkAll {H : Type} : List (DataW H) → Nat
  | [] => 0
  | d :: r => uptoBulk d + uptoBulkAll r
def uptoBulkEntries {H : Type} : List (Lit × DataW H) → Nat
  | [] => 0
  | x :: r => uptoBulkEntry x + uptoBulkEntries r
def uptoBulkEntry {H : Type} : Lit × DataW H → Nat
  | (.string bytes, d) => bytes.length + uptoBulk d + 1
  | (_, d) => uptoBulk d + 1
 end
def uptoSmall : (H : Type) → List (DataW H) → Bool := fun _ ds => decide (uptoBulkAll ds ≤ 1048576)
def OpenSpec.upto (s : _root_.Go.ChangeSpec) : _root_.Go.OpenSpec := { _root_.Go.OpenSpec.ofChange s with cond := some uptoSmall }

/-- 'halberdlaw24.TasksFull', WHERE WHAT IT READS IS OF BULK AT MOST 1048576: true; the input reads as it did. -/
def tasksFullUptoRow : OpenClaim := { program := "ytgheplpbffanoaa", sum := "cde4690133e4477d7a86aa24822890ca54d27cc92e11b7bce3600c9370e52ca4", func := "halberd/halberdlaw24.TasksFull", spec := "tasksFull", apart := false, narrowed := true }
def TasksFullUptoSaid : Prop := tasksFullUptoRow.holds Try.pinned (OpenSpec.upto tasksFullSpec)

/-- 'halberdlaw24.TasksGens', WHERE WHAT IT READS IS OF BULK AT MOST 1048576: true; the input reads as it did. -/
def tasksGensUptoRow : OpenClaim := { program := "ytgheplpbffanoaa", sum := "cde4690133e4477d7a86aa24822890ca54d27cc92e11b7bce3600c9370e52ca4", func := "halberd/halberdlaw24.TasksGens", spec := "tasksGens", unfollowed := true, recurses := true, apart := false, narrowed := true }
def TasksGensUptoSaid : Prop := tasksGensUptoRow.holds Try.pinned (OpenSpec.upto tasksGensSpec)

/-- 'halberdlaw24.TasksTree', WHERE WHAT IT READS IS OF BULK AT MOST 1048576: true; the input reads as it did. -/
def tasksTreeUptoRow : OpenClaim := { program := "ytgheplpbffanoaa", sum := "cde4690133e4477d7a86aa24822890ca54d27cc92e11b7bce3600c9370e52ca4", func := "halberd/halberdlaw24.TasksTree", spec := "tasksTree", unfollowed := true, recurses := true, apart := false, narrowed := true }
def TasksTreeUptoSaid : Prop := tasksTreeUptoRow.holds Try.pinned (OpenSpec.upto tasksTreeSpec)

/-- 'halberdlaw24.TasksPlays', WHERE WHAT IT READS IS OF BULK AT MOST 1048576: true; the input reads as it did. -/
def tasksPlaysUptoRow : OpenClaim := { program := "ytgheplpbffanoaa", sum := "cde4690133e4477d7a86aa24822890ca54d27cc92e11b7bce3600c9370e52ca4", func := "halberd/halberdlaw24.TasksPlays", spec := "tasksPlays", unfollowed := true, recurses := true, apart := false, narrowed := true }
def TasksPlaysUptoSaid : Prop := tasksPlaysUptoRow.holds Try.pinned (OpenSpec.upto tasksPlaysSpec)

end Rows
end Go.Proofs.Ytgheplpbffanoaa
