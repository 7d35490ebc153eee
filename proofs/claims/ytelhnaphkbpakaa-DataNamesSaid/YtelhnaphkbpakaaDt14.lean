/- DataNames walked. -/
import Derived.Test.YtelhnaphkbpakaaDt13
namespace Go.Proofs.Ytelhnaphkbpakaa
open Go.RowKit
set_option linter.unusedVariables false
set_option maxRecDepth 100000

theorem names_walk (w : World) : Calls Try.prog 4 #[] w fun e w' => e = .returned (.bool true) ∧ Below w.heap.size w w' := by
  have ha := awake_true w
  go_enter Try.func4, Try.ntmps4
  go_wp2_with (go_at_call 11; refine ha.mono ?_; rintro e w1 ⟨rfl, b1⟩)
  go_ret
  exact ⟨rfl, b1⟩
end Go.Proofs.Ytelhnaphkbpakaa
