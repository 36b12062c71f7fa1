/-
  No cell of these rows narrows 'for every input' (looked for: loops, veiled, ifaces, maps, wideKeys, modest, calm, conditions, laid).
  DERIVED. THE GIVEN ROWS OF THIS SEAT. 5 by the template 'for every input the law returns true; each argument reads behind the call as it read before'; 0 by the template 'total and deterministic' (their statements: YtkbcneomjkfheaaTotals.lean).
  GIVEN WITH THE SEED: the statements are not yours to turn. If you find one false, say at which input.
  Laid BY PROGRAM, IN A SANDBOX (cutbox-rows.mjs): the forced cells as the released guide's own fill.sh prints them over the translation 6d19725f55737316… (all of the seat's roots in one cut). By AI agents, Wed Nov 11 2026. No macro, syntax, notation, axiom, sorry.
-/
import Derived.Test.YtkbcneomjkfheaaChecked
import GoSem.Claim
import GoSem.ClaimJoined
import GoSem.ClaimMapViews
import Derived.JoinedTies
import Derived.KernelRfl
namespace Go.Proofs.Ytkbcneomjkfheaa
/- THE CELL 'sum', in the pinned program and in every row, IS THE sha256 OF THE DUMP (.gsa) THAT YtkbcneomjkfheaaProg.lean LOADS. Nothing in Lean hashes anything: it is a label: what it is worth is what the hold of that sum in a sandbox is worth. -/
noncomputable def Try.pinned : Pinned := { name := "ytkbcneomjkfheaa", sum := "6d19725f55737316a03ff93d4076a988df01b52342074a53387dc0cf7f1fd261", checked := Try.checked }
namespace Rows
def none {H : Type} : Left H := { results := [], args := [] }

/-- 'halberdlaw21.InodesNames': WHATEVER THE INPUT: true; the input reads as it did. -/
def inodesNamesSpec : ChangeSpec := { name := "inodesNames", fn := fun _ => fun
  | [d] => { results := [.lit (.bool true)], args := [d] }
  | _ => none }
def inodesNamesRow : OpenClaim := { program := "ytkbcneomjkfheaa", sum := "6d19725f55737316a03ff93d4076a988df01b52342074a53387dc0cf7f1fd261", func := "halberd/halberdlaw21.InodesNames", spec := "inodesNames", inPlace := ["internal/bytealg.IndexByteString", "internal/bytealg.IndexString", "slices.overlaps[string]", "slices.overlaps[int]"], unfollowed := true, recurses := true, named := ["internal/bytealg.MaxLen"], apart := false }
def InodesNamesSaid : Prop := inodesNamesRow.holds Try.pinned (OpenSpec.ofChange inodesNamesSpec)

/-- ITS FALSE NEIGHBOUR: 'it returns false'. Refute it at one input. -/
def inodesNamesWrong : ChangeSpec := { name := "inodesNames", fn := fun _ => fun
  | [d] => { results := [.lit (.bool false)], args := [d] }
  | _ => none }
def InodesNamesWrongFalsely : Prop := inodesNamesRow.holds Try.pinned (OpenSpec.ofChange inodesNamesWrong)

/-- 'halberdlaw21.InodesFull': WHATEVER THE INPUT: true; the input reads as it did. -/
def inodesFullSpec : ChangeSpec := { name := "inodesFull", fn := fun _ => fun
  | [d1, d2] => { results := [.lit (.bool true)], args := [d1, d2] }
  | _ => none }
def inodesFullRow : OpenClaim := { program := "ytkbcneomjkfheaa", sum := "6d19725f55737316a03ff93d4076a988df01b52342074a53387dc0cf7f1fd261", func := "halberd/halberdlaw21.InodesFull", spec := "inodesFull", inPlace := ["internal/bytealg.IndexByteString", "internal/bytealg.IndexString", "slices.overlaps[string]", "slices.overlaps[int]"], unfollowed := true, recurses := true, named := ["internal/bytealg.MaxLen"], apart := false }
def InodesFullSaid : Prop := inodesFullRow.holds Try.pinned (OpenSpec.ofChange inodesFullSpec)

/-- ITS FALSE NEIGHBOUR: 'it returns false'. Refute it at one input. -/
def inodesFullWrong : ChangeSpec := { name := "inodesFull", fn := fun _ => fun
  | [d1, d2] => { results := [.lit (.bool false)], args := [d1, d2] }
  | _ => none }
def InodesFullWrongFalsely : Prop := inodesFullRow.holds Try.pinned (OpenSpec.ofChange inodesFullWrong)

/-- 'halberdlaw21.InodesLinks': WHATEVER THE INPUT: true; the input reads as it did. -/
def inodesLinksSpec : ChangeSpec := { name := "inodesLinks", fn := fun _ => fun
  | [d] => { results := [.lit (.bool true)], args := [d] }
  | _ => none }
def inodesLinksRow : OpenClaim := { program := "ytkbcneomjkfheaa", sum := "6d19725f55737316a03ff93d4076a988df01b52342074a53387dc0cf7f1fd261", func := "halberd/halberdlaw21.InodesLinks", spec := "inodesLinks", inPlace := ["internal/bytealg.IndexByteString", "internal/bytealg.IndexString", "slices.overlaps[string]", "slices.overlaps[int]"], unfollowed := true, recurses := true, named := ["internal/bytealg.MaxLen"], apart := false }
def InodesLinksSaid : Prop := inodesLinksRow.holds Try.pinned (OpenSpec.ofChange inodesLinksSpec)

/-- ITS FALSE NEIGHBOUR: 'it returns false'. Refute it at one input. -/
def inodesLinksWrong : ChangeSpec := { name := "inodesLinks", fn := fun _ => fun
  | [d] => { results := [.lit (.bool false)], args := [d] }
  | _ => none }
def InodesLinksWrongFalsely : Prop := inodesLinksRow.holds Try.pinned (OpenSpec.ofChange inodesLinksWrong)

/-- 'halberdlaw21.InodesOwn': WHATEVER THE INPUT: true; the input reads as it did. -/
def inodesOwnSpec : ChangeSpec := { name := "inodesOwn", fn := fun _ => fun
  | [d1, d2] => { results := [.lit (.bool true)], args := [d1, d2] }
  | _ => none }
def inodesOwnRow : OpenClaim := { program := "ytkbcneomjkfheaa", sum := "6d19725f55737316a03ff93d4076a988df01b52342074a53387dc0cf7f1fd261", func := "halberd/halberdlaw21.InodesOwn", spec := "inodesOwn", inPlace := ["internal/bytealg.IndexByteString", "internal/bytealg.IndexString", "slices.overlaps[string]", "slices.overlaps[int]"], unfollowed := true, recurses := true, named := ["internal/bytealg.MaxLen"], apart := false }
def InodesOwnSaid : Prop := inodesOwnRow.holds Try.pinned (OpenSpec.ofChange inodesOwnSpec)

/-- ITS FALSE NEIGHBOUR: 'it returns false'. Refute it at one input. -/
def inodesOwnWrong : ChangeSpec := { name := "inodesOwn", fn := fun _ => fun
  | [d1, d2] => { results := [.lit (.bool false)], args := [d1, d2] }
  | _ => none }
def InodesOwnWrongFalsely : Prop := inodesOwnRow.holds Try.pinned (OpenSpec.ofChange inodesOwnWrong)

/-- 'halberdlaw21.InodesPlays': WHATEVER THE INPUT: true; the input reads as it did. -/
def inodesPlaysSpec : ChangeSpec := { name := "inodesPlays", fn := fun _ => fun
  | [d1, d2] => { results := [.lit (.bool true)], args := [d1, d2] }
  | _ => none }
def inodesPlaysRow : OpenClaim := { program := "ytkbcneomjkfheaa", sum := "6d19725f55737316a03ff93d4076a988df01b52342074a53387dc0cf7f1fd261", func := "halberd/halberdlaw21.InodesPlays", spec := "inodesPlays", inPlace := ["internal/bytealg.IndexByteString", "internal/bytealg.IndexString", "slices.overlaps[string]", "slices.overlaps[int]"], unfollowed := true, recurses := true, named := ["internal/bytealg.MaxLen"], apart := false }
def InodesPlaysSaid : Prop := inodesPlaysRow.holds Try.pinned (OpenSpec.ofChange inodesPlaysSpec)

/-- ITS FALSE NEIGHBOUR: 'it returns false'. Refute it at one input. -/
def inodesPlaysWrong : ChangeSpec := { name := "inodesPlays", fn := fun _ => fun
  | [d1, d2] => { results := [.lit (.bool false)], args := [d1, d2] }
  | _ => none }
def InodesPlaysWrongFalsely : Prop := inodesPlaysRow.holds Try.pinned (OpenSpec.ofChange inodesPlaysWrong)

/- THE SECOND FORM. 'bulk': how many values and letters a reading holds, each counted each time it is reached (what is shared counts as often as it is met; a slice's spare places count too). A statement '..UptoSaid' is the law's where the arguments, and the package variables that the reading takes, are together of bulk at most 1048576: NARROWER than '..Said'. Prove '..Said' where nothing that the law and all that it calls make is longer than what came in: it says more and counts as full. Else prove '..UptoSaid'. A law counts once. -/
mutual
def uptoBulk {H : Type} : DataW H → Nat
  | .lit (.string bytes) => bytes.length + 1
  | .lit _ => 1
  | .nil => 1
  | .ptr d => uptoBulk d + 1
  | .slice elems spare => uptoBulkAll elems + uptoBulkAll spare + 1
  | .agg parts => uptoBulkAll parts + 1
  | .iface _ d => uptoBulk d + 1
  | .map entries => uptoBulkEntries entries + 1
  | .held _ => 1
def uptoBulkAll {H : Type} : List (DataW H) → Nat
  | [] => 0
  | d :: r => uptoBulk d + uptoBulkAll r
def uptoBulkEntries {H : Type} : List (Lit × DataW H) → Nat
  | [] => 0
  | x :: r => uptoBulkEntry x + uptoBulkEntries r
def uptoBulkEntry {H : Type} : Lit × DataW H → Nat
  | (.string bytes, d) => bytes.length + uptoBulk d + 1
  | (_, d) => uptoBulk d + 1
 end
def uptoSmall : (H : Type) → List (DataW H) → Bool := fun _ ds => decide (uptoBulkAll ds ≤ 1048576)
def OpenSpec.upto (s : _root_.Go.ChangeSpec) : _root_.Go.OpenSpec := { _root_.Go.OpenSpec.ofChange s with cond := some uptoSmall }

/-- 'halberdlaw21.InodesNames', WHERE WHAT IT READS IS OF BULK AT MOST 1048576: true; the input reads as it did. -/
def inodesNamesUptoRow : OpenClaim := { program := "ytkbcneomjkfheaa", sum := "6d19725f55737316a03ff93d4076a988df01b52342074a53387dc0cf7f1fd261", func := "halberd/halberdlaw21.InodesNames", spec := "inodesNames", inPlace := ["internal/bytealg.IndexByteString", "internal/bytealg.IndexString", "slices.overlaps[string]", "slices.overlaps[int]"], unfollowed := true, recurses := true, named := ["internal/bytealg.MaxLen"], apart := false, narrowed := true }
def InodesNamesUptoSaid : Prop := inodesNamesUptoRow.holds Try.pinned (OpenSpec.upto inodesNamesSpec)

/-- 'halberdlaw21.InodesFull', WHERE WHAT IT READS IS OF BULK AT MOST 1048576: true; the input reads as it did. -/
def inodesFullUptoRow : OpenClaim := { program := "ytkbcneomjkfheaa", sum := "6d19725f55737316a03ff93d4076a988df01b52342074a53387dc0cf7f1fd261", func := "halberd/halberdlaw21.InodesFull", spec := "inodesFull", inPlace := ["internal/bytealg.IndexByteString", "internal/bytealg.IndexString", "slices.overlaps[string]", "slices.overlaps[int]"], unfollowed := true, recurses := true, named := ["internal/bytealg.MaxLen"], apart := false, narrowed := true }
def InodesFullUptoSaid : Prop := inodesFullUptoRow.holds Try.pinned (OpenSpec.upto inodesFullSpec)

/-- 'halberdlaw21.InodesLinks', WHERE WHAT IT READS IS OF BULK AT MOST 1048576: true; the input reads as it did. -/
def inodesLinksUptoRow : OpenClaim := { program := "ytkbcneomjkfheaa", sum := "6d19725f55737316a03ff93d4076a988df01b52342074a53387dc0cf7f1fd261", func := "halberd/halberdlaw21.InodesLinks", spec := "inodesLinks", inPlace := ["internal/bytealg.IndexByteString", "internal/bytealg.IndexString", "slices.overlaps[string]", "slices.overlaps[int]"], unfollowed := true, recurses := true, named := ["internal/bytealg.MaxLen"], apart := false, narrowed := true }
def InodesLinksUptoSaid : Prop := inodesLinksUptoRow.holds Try.pinned (OpenSpec.upto inodesLinksSpec)

/-- 'halberdlaw21.InodesOwn', WHERE WHAT IT READS IS OF BULK AT MOST 1048576: true; the input reads as it did. -/
def inodesOwnUptoRow : OpenClaim := { program := "ytkbcneomjkfheaa", sum := "6d19725f55737316a03ff93d4076a988df01b52342074a53387dc0cf7f1fd261", func := "halberd/halberdlaw21.InodesOwn", spec := "inodesOwn", inPlace := ["internal/bytealg.IndexByteString", "internal/bytealg.IndexString", "slices.overlaps[string]", "slices.overlaps[int]"], unfollowed := true, recurses := true, named := ["internal/bytealg.MaxLen"], apart := false, narrowed := true }
def InodesOwnUptoSaid : Prop := inodesOwnUptoRow.holds Try.pinned (OpenSpec.upto inodesOwnSpec)

/-- 'halberdlaw21.InodesPlays', WHERE WHAT IT READS IS OF BULK AT MOST 1048576: true; the input reads as it did. -/
def inodesPlaysUptoRow : OpenClaim := { program := "ytkbcneomjkfheaa", sum := "6d19725f55737316a03ff93d4076a988df01b52342074a53387dc0cf7f1fd261", func := "halberd/halberdlaw21.InodesPlays", spec := "inodesPlays", inPlace := ["internal/bytealg.IndexByteString", "internal/bytealg.IndexString", "slices.overlaps[string]", "slices.overlaps[int]"], unfollowed := true, recurses := true, named := ["internal/bytealg.MaxLen"], apart := false, narrowed := true }
def InodesPlaysUptoSaid : Prop := inodesPlaysUptoRow.holds Try.pinned (OpenSpec.upto inodesPlaysSpec)

end Rows
end Go.Proofs.Ytkbcneomjkfheaa
