/- The law's 'used': walked. -/
import Derived.Test.YtohmmkkbfiembaaFe3
namespace Go.Proofs.Ytohmmkkbfiembaa
open Go.RowKit Go.Shelf
attribute [local go_sem] Oper.semAt_some
set_option linter.unusedVariables false
set_option maxRecDepth 100000

theorem usedL_calls (x : Nat) (h64 : x < 18446744073709551616) : ∃ y, Sv y (sv (usedD x)) ∧ ∀ w, Calls Try.prog 13 #[fl x] w fun e w' => e = .returned (fl y) ∧ w = w' := by
  by_cases hn : Num x
  · obtain ⟨m, r, h1, h2, h3⟩ := usedL_runs h64 hn
    refine ⟨r, h3, fun w => ?_⟩
    have hneq := hn.neq
    have a1 := h1 Try.prog
    have a2 := h2 Try.prog
    clear h1 h2 h3 hn h64
    go_enter Try.func13, Try.ntmps13
    go_wp2
    trace_state
    go_ret
    exact ⟨rfl, rfl⟩
  · have hnan := nan_of hn h64
    refine ⟨0, ?_, fun w => ?_⟩
    · have e : usedD x = 0 := by
        unfold usedD od
        rw [nan_cmp hnan]
        rfl
      rw [e]
      exact zero_sv
    · have ho := nan_cmp (y := x) hnan
      clear hn hnan h64
      go_enter Try.func13, Try.ntmps13
      go_wp2
      go_ret
      exact ⟨rfl, rfl⟩
theorem fe4_end : True := trivial
end Go.Proofs.Ytohmmkkbfiembaa
