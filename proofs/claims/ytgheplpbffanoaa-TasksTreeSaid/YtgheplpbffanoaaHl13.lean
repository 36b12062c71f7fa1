/- The heap logic: words for the user. -/
import Derived.Test.YtgheplpbffanoaaHl12
namespace Go.Hl

def pKeep (f p : Pr) : Pr := fun h => f h ∧ p h
/-- With less known. -/
def fgt (K : Value → Pr) : Value → Pr := fun v h' => ∃ g, Heap.le g h' ∧ K v g

end Go.Hl
