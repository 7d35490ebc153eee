/- Rows of units joined in the call's own memory. -/
import Derived.Test.YtlmbpbijhhnhpaaWd14
import Derived.Test.YtlmbpbijhhnhpaaWd24
import Derived.Test.YtlmbpbijhhnhpaaApn
namespace Go.Proofs.Ytlmbpbijhhnhpaa
open Go.RowKit Go.Shelf
set_option linter.unusedVariables false

/-- A row of units of the call's own. -/
structure R16 (B : Nat) (w0 w : World) (a : Option Addr) (n c : Nat) (us : List Nat) : Prop where
  row : w.ownsRow B 79 1 (.slice a n c) n (enc16 us)
  len : us.length = n
  bnd : ∀ u ∈ us, u ≤ 65535
  bel : Below B w0 w
  le : B ≤ w.heap.size
theorem R16.below {B n c : Nat} {w0 w w' : World} {a : Option Addr} {us : List Nat} (h : R16 B w0 w a n c us) (b : Below w.heap.size w w') : R16 B w0 w' a n c us :=
  ⟨(FrT.of_below (T := []) (B := 0) b).row h.row (by simp), h.len, h.bnd, h.bel.trans (b.mono h.le), Nat.le_trans h.le b.size⟩
theorem R16.zero {B : Nat} {w0 w : World} (b : Below B w0 w) (le : B ≤ w.heap.size) : R16 B w0 (w.alloc (.cells #[] 79)) (some ⟨w.heap.size, 0, none⟩) 0 0 [] :=
  ⟨World.ownsRow_lit w #[] 0 le (by decide) rfl, rfl, by simp, b.alloc le _, by simp; omega⟩
theorem R16.push {B n c c' m : Nat} {w0 w w3 : World} {a a' : Option Addr} {us vs : List Nat} (h : R16 B w0 w a n c us) (hb : ∀ u ∈ vs, u ≤ 65535) (hm : vs.length = m)
    (hown : w3.ownsRow B 79 1 (.slice a' (n + m) c') (n + m) (enc16 us ++ enc16 vs)) (hg : w.grownBy w3 (Value.slice a n c).ownBlock) : R16 B w0 w3 a' (n + m) c' (us ++ vs) := by
  have f : FrT [79] B w w3 := (FrT.refl _ _ _).append h.row (Nat.le_refl _) (by simp) hg
  refine ⟨?_, by rw [List.length_append, h.len, hm], ?_, h.bel.trans (f.below h.le), Nat.le_trans h.le f.size⟩
  · rw [show enc16 (us ++ vs) = enc16 us ++ enc16 vs by simp [enc16]]; exact hown
  · intro u hu
    rcases List.mem_append.1 hu with h1 | h1
    · exact h.bnd u h1
    · exact hb u h1
theorem R16.sl {B n c : Nat} {w0 w : World} {a : Option Addr} {us : List Nat} (h : R16 B w0 w a n c us) (hn : n ≤ 9223372036854775807) : Sl16 w a us := by
  have h1 := h.len
  subst h1
  exact sl16_of_row (more := []) (n := 0) (by simpa using h.row) (Nat.le_refl _) h.bnd hn
end Go.Proofs.Ytlmbpbijhhnhpaa
