/- Part 15 of the proof of TpP: lemmas. -/
import Derived.Test.YtelhnaphkbpakaaDoorMp14
namespace Go.Proofs.YtelhnaphkbpakaaDoor
open Go.RowKit
set_option linter.unusedVariables false
set_option maxRecDepth 100000
end Go.Proofs.YtelhnaphkbpakaaDoor
