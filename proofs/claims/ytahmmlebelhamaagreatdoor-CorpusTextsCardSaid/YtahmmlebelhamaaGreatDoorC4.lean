/- CorpusTexts: a run. -/
import Derived.Test.YtahmmlebelhamaaGreatDoorSA
import Derived.Test.YtahmmlebelhamaaGreatDoorX6
set_option maxRecDepth 100000
namespace Go.Proofs.YtahmmlebelhamaaGreatDoor
open Go.Hl
theorem texts_4 : sFun tre extW 1000 50 3 [.str [108, 97, 98, 101, 108, 45, 107, 105, 108, 108]] isTrue (((⟨.e, 0⟩ : CH).push (.pow10 powG)).push (.pow10 (1000 + maxG))) = true := by kernel_rfl
end Go.Proofs.YtahmmlebelhamaaGreatDoor
