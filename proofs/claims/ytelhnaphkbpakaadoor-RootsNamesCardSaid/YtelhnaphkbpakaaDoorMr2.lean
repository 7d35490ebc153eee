/- Part 2 of the proof of RoP: lemmas. -/
import GoSem.Core.Utf8
import Derived.Test.YtelhnaphkbpakaaDoorMr1
namespace Go.Proofs.YtelhnaphkbpakaaDoor
open Go.RowKit
set_option linter.unusedVariables false
def pieceLen (s : ByteArray) (p many lo hi : Nat) : Nat :=
  if 1 < many ∧ within s (p + 1) lo hi = true then
    if 2 < many ∧ within s (p + 2) 128 191 = true then
      if 3 < many ∧ within s (p + 3) 128 191 = true then 4 else 3
    else 2
  else 1
def pointOf (s : ByteArray) (p many : Nat) : Nat :=
  match many with
  | 1 => byteAt s p
  | 2 => byteAt s p % 32 * 64 + byteAt s (p + 1) % 64
  | 3 => byteAt s p % 16 * 4096 + byteAt s (p + 1) % 64 * 64 + byteAt s (p + 2) % 64
  | _ => byteAt s p % 8 * 262144 + byteAt s (p + 1) % 64 * 4096 + byteAt s (p + 2) % 64 * 64 + byteAt s (p + 3) % 64
structure Pc where
  p : Nat
  n : Nat
  ok : Bool
  c : Nat
def pcAt (s : ByteArray) (p : Nat) : Pc :=
  let r := rowOf (byteAt s p)
  let n := pieceLen s p r.1 r.2.1 r.2.2
  if r.1 = 0 then ⟨p, 1, false, 65533⟩ else if n < r.1 then ⟨p, n, false, 65533⟩ else ⟨p, r.1, true, pointOf s p r.1⟩
theorem within_iff (s : ByteArray) (i lo hi : Nat) : within s i lo hi = true ↔ i < s.size ∧ lo ≤ byteAt s i ∧ byteAt s i ≤ hi := by
  simp [within, and_assoc]
theorem pieceLen_bnd (s : ByteArray) (p many lo hi : Nat) : 1 ≤ pieceLen s p many lo hi ∧ pieceLen s p many lo hi ≤ 4 ∧ (1 ≤ many → pieceLen s p many lo hi ≤ many) := by
  unfold pieceLen
  split
  · split
    · split <;> omega
    · omega
  · omega
set_option maxHeartbeats 4000000 in
theorem decode_pc (s : ByteArray) (p : Nat) (h : p < s.size) : Utf8.decode s p = if (pcAt s p).ok then ((pcAt s p).c, (pcAt s p).n) else (65533, 1) := by
  have e (i : Nat) : (s.get! i).toNat = byteAt s i := rfl
  have b0 := byteAt_le s p
  have b1 := byteAt_le s (p + 1)
  have b2 := byteAt_le s (p + 2)
  have b3 := byteAt_le s (p + 3)
  unfold Utf8.decode pcAt
  simp only [e, Nat.add_zero, Utf8.valid, Utf8.runeError]
  rcases row_cases (byteAt s p) with ⟨q, r⟩ | ⟨q, q', r⟩ | ⟨q, r⟩ | ⟨q, r⟩ | ⟨q, q', q'', r⟩ | ⟨q, r⟩ | ⟨q, q', r⟩ | ⟨q, r⟩ | ⟨q, r⟩
  · rw [r]
    simp [q, pieceLen, pointOf]
  all_goals
    rw [r]
    simp only [pieceLen, pointOf, within_iff, Bool.and_eq_true, beq_iff_eq, decide_eq_true_eq, Bool.or_eq_true, ge_iff_le]
    repeat' split
    all_goals first
      | with_reducible rfl
      | (simp only [Prod.mk.injEq, reduceCtorEq] at *; omega)
      | (simp at *; done)
      | (simp at *; omega)
end Go.Proofs.YtelhnaphkbpakaaDoor
