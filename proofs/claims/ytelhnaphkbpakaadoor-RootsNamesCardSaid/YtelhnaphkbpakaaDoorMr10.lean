/- Part 10 of the proof of RoP: lemmas. -/
import Derived.Sort.CutIn
import Derived.Sort.QuietIn
import Derived.Test.YtelhnaphkbpakaaDoorMr9
namespace Go.Proofs.YtelhnaphkbpakaaDoor
open Go.RowKit Go.Shelf
attribute [local go_sem] Oper.semAt_some
set_option linter.unusedVariables false
set_option maxRecDepth 100000
def Pair (us : List Nat) (i : Nat) : Prop := 55296 ≤ us.getD i 0 ∧ us.getD i 0 < 56320 ∧ i + 1 < us.length ∧ 56320 ≤ us.getD (i + 1) 0 ∧ us.getD (i + 1) 0 < 57344
instance (us : List Nat) (i : Nat) : Decidable (Pair us i) := by unfold Pair; infer_instance
end Go.Proofs.YtelhnaphkbpakaaDoor
