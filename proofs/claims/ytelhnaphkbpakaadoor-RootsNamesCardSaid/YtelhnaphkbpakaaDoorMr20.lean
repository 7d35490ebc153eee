/- Part 20 of the proof of RoP: lemmas. -/
import Derived.Test.YtelhnaphkbpakaaDoorMr19
namespace Go.Proofs.YtelhnaphkbpakaaDoor
open Go.RowKit
set_option linter.unusedVariables false
set_option maxRecDepth 100000
theorem alloc3_at (w : World) (a b c : Obj) : (((w.alloc a).alloc b).alloc c).heap[w.heap.size]? = some a ∧ (((w.alloc a).alloc b).alloc c).heap[w.heap.size + 1]? = some b ∧ (((w.alloc a).alloc b).alloc c).heap[w.heap.size + 2]? = some c := by
  refine ⟨alloc_blk (alloc_blk (Go.heap_alloc_new w a) b) c, alloc_blk (alloc2_blk w a b) c, ?_⟩
  have := Go.heap_alloc_new ((w.alloc a).alloc b) c
  simpa using this
theorem alloc3_lo (w : World) (a b c : Obj) : Below w.heap.size w (((w.alloc a).alloc b).alloc c) := (((Below.refl _ w).alloc (Nat.le_refl _) a).alloc (by simp) b).alloc (by simp; omega) c
section
variable {B : Nat} {Q : Nat → Prop} {w w' : World} {tb : Nat} {X : TX}
end
end Go.Proofs.YtelhnaphkbpakaaDoor
