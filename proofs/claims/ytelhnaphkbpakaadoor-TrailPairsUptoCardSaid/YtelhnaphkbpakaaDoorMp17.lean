/- Part 17 of the proof of TpP: lemmas. -/
import Derived.Test.YtelhnaphkbpakaaDoorMp16
namespace Go.Proofs.YtelhnaphkbpakaaDoor
open Go.RowKit
set_option linter.unusedVariables false
set_option maxRecDepth 100000
def nm2 : ByteArray := ⟨#[49, 97]⟩
end Go.Proofs.YtelhnaphkbpakaaDoor
