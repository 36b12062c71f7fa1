/- CorpusTexts: a run. -/
import Derived.Test.YtahmmlebelhamaaGreatDoorSA
import Derived.Test.YtahmmlebelhamaaGreatDoorX6
set_option maxRecDepth 100000
namespace Go.Proofs.YtahmmlebelhamaaGreatDoor
open Go.Hl
theorem texts_11 : sFun tre extW 1000 50 3 [.str [107, 101, 101, 112, 45, 114, 111, 111, 116]] isTrue (((⟨.e, 0⟩ : CH).push (.pow10 powG)).push (.pow10 (1000 + maxG))) = true := by kernel_rfl
end Go.Proofs.YtahmmlebelhamaaGreatDoor
