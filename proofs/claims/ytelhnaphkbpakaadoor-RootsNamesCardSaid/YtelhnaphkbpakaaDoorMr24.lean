/- Part 24 of the proof of RoP: lemmas. -/
import Derived.Test.YtelhnaphkbpakaaDoorMr23
namespace Go.Proofs.YtelhnaphkbpakaaDoor
open Go.RowKit Go.Shelf
attribute [local go_sem] Oper.semAt_some
set_option linter.unusedVariables false
set_option maxRecDepth 100000
theorem under53 : Tryd.prog.underlying 53 = some (.func #[98] #[] false) := Tryd.underlying53
theorem eql_func53 (fn : Fn) (x y : Array Value) (w : World) : (binOp .eql 53 (.func fn x y) .nilFunc).run Tryd.prog w = .ok (.bool false) w := by
  have h : ∀ d : Nat, (Op.equalIn (d + 1) 53 (.func fn x y) .nilFunc).run Tryd.prog w = .ok false w := fun d => by
    simp [Op.equalIn, run_underlying under53]
  simp only [binOp]
  simp [Op.equal, Op.maxDepth, h 9999]
theorem store_func (P : Program) (w : World) (a : Addr) (fn : Fn) (x y : Array Value) (m : Mode) : (store a (.func fn x y) m).run P w = stored P w a (.func fn x y) m := run_store P w a _ m rfl
attribute [local go_sem] eql_func53 store_func
section
variable {V W : World} {C m : Nat}
end
theorem pre_at {pre L : List Nat} {x : Nat} (h : pre ++ [x] <+: L) : L[pre.length]? = some x ∧ pre.length + 1 ≤ L.length := by
  obtain ⟨t, rfl⟩ := h
  simp
section
variable {B : Nat} {Q : Nat → Prop} {w : World} {fb : Nat} {F : For} {R : List RN} {rv : Value}
end
end Go.Proofs.YtelhnaphkbpakaaDoor
