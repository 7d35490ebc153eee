/- The document's Compare and Same; units lent with some behind them; kept. -/
import Derived.Test.YtelhnaphkbpakaaWd1
import Derived.Deep.RegionWith
import Derived.StillTailTactics
namespace Go.Proofs.Ytelhnaphkbpakaa
open Go.RowKit
set_option linter.unusedVariables false
set_option maxRecDepth 100000

theorem Sl16.drewN {w : World} {a : Option Addr} {us : List Nat} (h : Sl16 w a us) (k : Nat) : Sl16 (w.drewN k) a us := ⟨h.at_, h.len⟩

theorem cmp16_zero {a b : List Nat} : cmp16 a b = 0 ↔ a = b := by
  induction a generalizing b with
  | nil => cases b <;> simp [cmp16]
  | cons x xs ih =>
    cases b with
    | nil => simp [cmp16]
    | cons y ys =>
      simp only [cmp16, List.cons.injEq]
      by_cases h : x = y
      · simp [h, ih]
      · simp only [h, if_false, false_and, iff_false]
        split <;> omega

end Go.Proofs.Ytelhnaphkbpakaa
