/- Part 14 of the proof of TpP: lemmas. -/
import Derived.Test.YtelhnaphkbpakaaDoorMp13
namespace Go.Proofs.YtelhnaphkbpakaaDoor
open Go.RowKit
set_option linter.unusedVariables false
end Go.Proofs.YtelhnaphkbpakaaDoor
namespace Go.Proofs.YtelhnaphkbpakaaDoor
open Go.RowKit
set_option linter.unusedVariables false
set_option maxRecDepth 100000
section
variable {w0 : World} {N : Nd} {a1 : Option Addr} {c1 : Nat} {wr wr' w5 w6 : World} {i : Nat} {K : List LA} {A : Option Addr} {C : Nat}
end
end Go.Proofs.YtelhnaphkbpakaaDoor
