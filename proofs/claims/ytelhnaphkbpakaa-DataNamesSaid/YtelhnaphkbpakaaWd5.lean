/- The tables of sequences, by both hands; how many bytes a code point has. -/
import Derived.Test.YtelhnaphkbpakaaGk
import Derived.Test.YtelhnaphkbpakaaProg
import Derived.OwnWalk
namespace Go.Proofs.Ytelhnaphkbpakaa
open Go.RowKit
set_option linter.unusedVariables false
set_option maxRecDepth 100000

/-- Of the sequences that a byte begins: how many bytes they have (0: none); between which the second one lies. -/
def rowOf (c : Nat) : Nat × Nat × Nat :=
  if c < 128 then (1, 0, 0) else if 194 ≤ c ∧ c ≤ 223 then (2, 128, 191) else if c = 224 then (3, 160, 191) else if c = 237 then (3, 128, 159)
  else if 225 ≤ c ∧ c ≤ 239 then (3, 128, 191) else if c = 240 then (4, 144, 191) else if 241 ≤ c ∧ c ≤ 243 then (4, 128, 191) else if c = 244 then (4, 128, 143) else (0, 0, 0)

/-- A byte's class. -/
theorem row_cases (c : Nat) : (c < 128 ∧ rowOf c = (1, 0, 0)) ∨ (194 ≤ c ∧ c ≤ 223 ∧ rowOf c = (2, 128, 191)) ∨ (c = 224 ∧ rowOf c = (3, 160, 191)) ∨ (c = 237 ∧ rowOf c = (3, 128, 159)) ∨
    (225 ≤ c ∧ c ≤ 239 ∧ c ≠ 237 ∧ rowOf c = (3, 128, 191)) ∨ (c = 240 ∧ rowOf c = (4, 144, 191)) ∨ (241 ≤ c ∧ c ≤ 243 ∧ rowOf c = (4, 128, 191)) ∨ (c = 244 ∧ rowOf c = (4, 128, 143)) ∨
    (((128 ≤ c ∧ c < 194) ∨ 244 < c) ∧ rowOf c = (0, 0, 0)) := by
  unfold rowOf
  by_cases h1 : c < 128
  · left; exact ⟨h1, by rw [if_pos h1]⟩
  rw [if_neg h1]; right
  by_cases h2 : 194 ≤ c ∧ c ≤ 223
  · left; exact ⟨h2.1, h2.2, by rw [if_pos h2]⟩
  rw [if_neg h2]; right
  by_cases h3 : c = 224
  · left; exact ⟨h3, by rw [if_pos h3]⟩
  rw [if_neg h3]; right
  by_cases h4 : c = 237
  · left; exact ⟨h4, by rw [if_pos h4]⟩
  rw [if_neg h4]; right
  by_cases h5 : 225 ≤ c ∧ c ≤ 239
  · left; exact ⟨h5.1, h5.2, h4, by rw [if_pos h5]⟩
  rw [if_neg h5]; right
  by_cases h6 : c = 240
  · left; exact ⟨h6, by rw [if_pos h6]⟩
  rw [if_neg h6]; right
  by_cases h7 : 241 ≤ c ∧ c ≤ 243
  · left; exact ⟨h7.1, h7.2, by rw [if_pos h7]⟩
  rw [if_neg h7]; right
  by_cases h8 : c = 244
  · left; exact ⟨h8, by rw [if_pos h8]⟩
  rw [if_neg h8]; right
  exact ⟨by omega, rfl⟩

end Go.Proofs.Ytelhnaphkbpakaa
