/- CorpusTexts: a run. -/
import Derived.Test.YtahmmlebelhamaaGreatDoorSA
import Derived.Test.YtahmmlebelhamaaGreatDoorX6
set_option maxRecDepth 100000
namespace Go.Proofs.YtahmmlebelhamaaGreatDoor
open Go.Hl
theorem texts_12 : sFun tre extW 1000 50 3 [.ostr 2] isTrue ((((⟨.e, 0⟩ : CH).push (.pow10 powG)).push (.pow10 (1000 + maxG))).push (.num 0 9223372036854775807 1 0 (.tx none [[101, 120, 101, 99, 45, 119, 114, 105, 116, 97, 98, 108, 101], [119, 120, 45, 109, 97, 112], [119, 120, 45, 112, 114, 111, 116, 101, 99, 116], [116, 114, 97, 99, 101, 45, 98, 101, 108, 111, 119], [108, 97, 98, 101, 108, 45, 107, 105, 108, 108], [101, 116, 99, 45, 111, 112, 101, 110], [101, 120, 101, 99, 45, 97, 117, 100, 105, 116], [110, 111, 45, 114, 111, 111, 116], [99, 114, 101, 97, 116, 101, 45, 113, 117, 111, 116, 97], [102, 111, 114, 107, 45, 108, 105, 109, 105, 116], [111, 119, 110, 45, 108, 105, 110, 107, 115], [107, 101, 101, 112, 45, 114, 111, 111, 116]]))) = true := by kernel_rfl
end Go.Proofs.YtahmmlebelhamaaGreatDoor
