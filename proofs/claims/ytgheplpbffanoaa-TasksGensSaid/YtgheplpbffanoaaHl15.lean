/- The heap logic: from a law's contract to the row. -/
import Derived.Test.YtgheplpbffanoaaHl14
import Derived.ChangeSame
import Derived.ProofKit
namespace Go.Hl
open Go.ChangeShapes Go.WideShapes Go.RowKit

/-- Nothing is known: nothing that was there turns. -/
theorem Fr.below {h h' : Heap} {w w' : World} (f : Fr h w h' w') (q : ∀ b, Quiet (h b)) : Below w.heap.size w w' :=
  ⟨f.os, f.tape, f.output, f.size, fun b hb => (f.stay b hb (q b)).1⟩

/-- A law's triple over a view that asks for nothing to be written: the call returns, and nothing that was there has turned. -/
theorem WpCall.law {P : Program} {f : FuncId} {args : Array Value} {h : Heap} {v : Value} (c : WpCall P f args (fun _ _ => False) (fun u _ => u = v) h) (q : ∀ b, Quiet (h b)) {w : World} (r : R h w) :
    Calls P f args w fun e w' => e = .returned v ∧ Below w.heap.size w w' :=
  (c.2 w r).mono fun e w' he => by
    cases e with
    | returned u => obtain ⟨h', hu, _, fr⟩ := he; exact ⟨by rw [hu], fr.below q⟩
    | panicked ch => cases ch with
      | nil => exact he.elim
      | cons p t => cases t with
        | nil => obtain ⟨_, _, _, hf, _⟩ := he; exact hf.elim
        | cons _ _ => exact he.elim
    | outgrown => exact he.elim

def none' : Heap := fun _ => Option.none
theorem none'_R (w : World) : R none' w := fun _ _ h => by cases h
theorem none'_quiet (b : Nat) : Quiet (none' b) := .inl rfl

/-- The row's last step, where of the world behind the call no more is known than that what was there is as it was. -/
theorem post_below {H : Type} {enc : TypeId × Value → H} {P : Program} {f : Func} {s : ChangeSpec} {apart fresh handsOn again : Bool} {W W' : World} {args : Array Value} {v : Value} {ds gs : List (DataW H)} {before pa pv : List MemPlace}
    (hW : DataW.Whole enc P f.params.toList s.vars apart W args.toList ds gs before) (hb : Below W.heap.size W W') (hps : before = pa ++ pv)
    (hres : ∀ (b : Nat) (sp : Nat → Bool) (hd : Bool), DataW.TrodAll enc P W' b sp hd f.resultTypes.toList (v.resultList f.resultTypes.size) (s.fn H (ds ++ gs)).results [])
    (hargs : ∀ sp : Nat → Bool, (∀ p ∈ before, sp p.block = true) → DataW.TrodAll enc P W' 0 sp true f.params.toList args.toList (s.fn H (ds ++ gs)).args pa)
    (hvars : ∀ sp : Nat → Bool, (∀ p ∈ before, sp p.block = true) → DataW.TrodVars enc P W' sp s.vars (s.fn H (ds ++ gs)).vars pv)
    (hok : ∀ (j : Nat) (t : TypeId) (r : Value), f.resultTypes[j]? = some t → (v.resultList f.resultTypes.size)[j]? = some r → Value.okWide P W' .any 0 t r) :
    s.post enc P f apart fresh handsOn again W args v W' := by
  have lt : ∀ p ∈ before, p.block < W.heap.size := fun p hp => hW.lt p hp
  have all : ∀ p ∈ before, (fun _ => true : Nat → Bool) p.block = true := fun _ _ => rfl
  have old : ∀ p ∈ before, (fun b => decide (b < W.heap.size)) p.block = true := fun p hp => by simpa using lt p hp
  have hin : ∀ p, p ∈ pa ++ pv → p ∈ before := fun p hp => by rw [hps]; exact hp
  refine ⟨ds, gs, before, [], pa, pv, hW, hres _ _ _, hargs _ old, hvars _ old, World.keptBut_mono (fun p hp => ⟨hp, .inr ?_⟩) (hb.frame (· ∈ before)), fun _ => ?_⟩
  · rw [hps, List.mem_append] at hp; exact hp
  · obtain ⟨_, _, _, _, _, hz, hn⟩ := hW
    refine ⟨hok, _, _, ([] ++ pa) ++ pv, ⟨[] ++ pa, pv, trodAll_append (hargs _ all) (hres _ _ _), hvars _ all, rfl, fun b off hp => ?_, fun ha => ?_⟩, ?_⟩
    · have hm := hin (.cell b off) (by simpa using hp)
      rw [hb.frozen (lt _ hm)]
      exact hz b off hm
    · have := hn ha
      rw [hps] at this
      simpa using this
    · intro p hp _
      rw [hps]; simpa using hp
end Go.Hl
