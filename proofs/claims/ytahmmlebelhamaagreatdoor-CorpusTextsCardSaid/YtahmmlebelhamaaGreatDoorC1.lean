/- CorpusTexts: a run. -/
import Derived.Test.YtahmmlebelhamaaGreatDoorSA
import Derived.Test.YtahmmlebelhamaaGreatDoorX6
set_option maxRecDepth 100000
namespace Go.Proofs.YtahmmlebelhamaaGreatDoor
open Go.Hl
theorem texts_1 : sFun tre extW 1000 50 3 [.str [119, 120, 45, 109, 97, 112]] isTrue (((⟨.e, 0⟩ : CH).push (.pow10 powG)).push (.pow10 (1000 + maxG))) = true := by kernel_rfl
end Go.Proofs.YtahmmlebelhamaaGreatDoor
