/- Part 47 of the proof of TpP: lemmas. -/
import Derived.Test.YtelhnaphkbpakaaDoorMp46
namespace Go.Proofs.YtelhnaphkbpakaaDoor
open Go.RowKit
set_option linter.unusedVariables false
set_option maxRecDepth 100000
def GrPost (w : World) (L : List MkV) (tb fb : Nat) (w' : World) : Prop := ∃ Q X R rv i, Both w.heap.size Q w' tb fb X R rv ∧ fgt X.F = runS ((L.map MkV.m).take i) ∧ (L.length ≤ i ∨ 200 ≤ X.F.length) ∧ Below w.heap.size w w'
theorem take_next {L : List MkV} {i : Nat} {x : MkV} (h : L[i]? = some x) : (L.map MkV.m).take (i + 1) = (L.map MkV.m).take i ++ [x.m] := by
  rw [List.take_add_one, List.getElem?_map, h]; rfl
end Go.Proofs.YtelhnaphkbpakaaDoor
