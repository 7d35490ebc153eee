/- The program's piece: how many bytes the piece has that begins a text. -/
import Derived.Test.YtelhnaphkbpakaaWd8
namespace Go.Proofs.Ytelhnaphkbpakaa
open Go.RowKit
set_option linter.unusedVariables false
set_option maxRecDepth 100000

/-- What the loop has come to behind k bytes: the k-th one is within its bounds. -/
def inPiece (s : ByteArray) (p many lo hi k : Nat) : Bool := decide (k < many) && (if k = 1 then within s (p + 1) lo hi else within s (p + k) 128 191)
theorem pieceLen_step (s : ByteArray) (p many lo hi k : Nat) (hm : many ≤ 4) (h1 : 1 ≤ k) (hk : k ≤ pieceLen s p many lo hi) : (inPiece s p many lo hi k = true ↔ k < pieceLen s p many lo hi) := by
  have e1 : k = 1 ∨ k = 2 ∨ k = 3 ∨ k = 4 := by have := (pieceLen_bnd s p many lo hi).2.1; omega
  unfold inPiece
  unfold pieceLen at hk ⊢
  rcases e1 with rfl | rfl | rfl | rfl
  all_goals
    simp only [Bool.and_eq_true, decide_eq_true_eq]
    by_cases a1 : 1 < many ∧ within s (p + 1) lo hi = true
    all_goals by_cases a2 : 2 < many ∧ within s (p + 2) 128 191 = true
    all_goals by_cases a3 : 3 < many ∧ within s (p + 3) 128 191 = true
    all_goals simp only [a1, a2, a3, if_true, if_false, and_self] at hk ⊢
    all_goals first
      | omega
      | (simp; done)
      | (simp at *; omega)
end Go.Proofs.Ytelhnaphkbpakaa
