/- Rows that a call owns: which blocks they are, what a store elsewhere leaves. No program. -/
import Derived.Test.YtohmmkkbfiembaaGk
import Derived.Deep.AppendLies
namespace Go.Proofs.Ytohmmkkbfiembaa
open Go.RowKit
set_option linter.unusedVariables false

section
variable {w : World} {base : Nat} {e : TypeId} {size : Nat} {v : Value} {n : Nat} {xs : List Value}
theorem rwNe (h : w.ownsRow base e size v n xs) {b : Nat} {c : Array Value} {e' : TypeId} {fz : Nat × Nat} (hb : w.heap[b]? = some (.cells c e' fz)) (he : e ≠ e') : some b ≠ v.ownBlock := by
  rcases h.2 with ⟨rfl, _⟩ | ⟨g, cap, cur, rfl, _, hg, _⟩
  · simp [Value.ownBlock]
  · simp only [Value.ownBlock, ne_eq, Option.some.injEq]
    exact fun hh => ne_blk hg hb he hh.symm
theorem rwRowNe (h : w.ownsRow base e size v n xs) {base' : Nat} {e' : TypeId} {size' : Nat} {v' : Value} {n' : Nat} {xs' : List Value} (h' : w.ownsRow base' e' size' v' n' xs') (he : e ≠ e') : v.ownBlock = none ∨ v.ownBlock ≠ v'.ownBlock := by
  rcases h.2 with ⟨rfl, _⟩ | ⟨g, cap, cur, rfl, _, hg, _⟩
  · exact .inl rfl
  · exact .inr (rwNe h' hg (Ne.symm he))
/-- A store into another block. -/
theorem rwSet (h : w.ownsRow base e size v n xs) (a : Addr) (hb : v.ownBlock ≠ some a.block) (u : Value) : (w.setCell a u).ownsRow base e size v n xs := by
  refine ⟨h.1, ?_⟩
  rcases h.2 with h' | ⟨g, cap, cur, rfl, hbg, hg, rest⟩
  · exact .inl h'
  · exact .inr ⟨g, cap, cur, rfl, hbg, set_other hg (by intro e1; exact hb (by rw [e1]; rfl)) u, rest⟩
theorem rwOther (h : w.ownsRow base e size v n xs) {b : Nat} {c : Array Value} {e' : TypeId} {fz : Nat × Nat} (hb : w.heap[b]? = some (.cells c e' fz)) (he : e ≠ e') (o : Nat) (u : Value) :
    (w.setCell ⟨b, o, none⟩ u).ownsRow base e size v n xs := rwSet h _ (fun hh => rwNe h hb he hh.symm) u
theorem rwBlk {g cap : Nat} (h : w.ownsRow base e size (.slice (some ⟨g, 0, none⟩) n cap) n xs) : ∃ cur, w.heap[g]? = some (.cells cur e (0, 0)) ∧ base ≤ g := by
  rcases h.2 with ⟨h', _⟩ | ⟨g', cap', cur, h', hb, hg, _⟩
  · cases h'
  · cases h'; exact ⟨cur, hg, hb⟩
theorem rwSlice (h : w.ownsRow base e size v n xs) : ∃ a cap, v = .slice a n cap := by
  rcases h.2 with ⟨rfl, hn⟩ | ⟨g, cap, cur, rfl, _⟩
  · exact ⟨none, 0, by rw [hn]⟩
  · exact ⟨some ⟨g, 0, none⟩, cap, rfl⟩
/-- Behind an append that lies in a new block first: a block of another type stands. -/
theorem rwApp {o : Obj} {w3 : World} (h : w.ownsRow base e size v n xs) (hg : (w.alloc o).grownBy w3 v.ownBlock) {b : Nat} {c : Array Value} {e' : TypeId} {fz : Nat × Nat} (hb : w.heap[b]? = some (.cells c e' fz)) (he : e ≠ e') : w3.heap[b]? = some (.cells c e' fz) :=
  (hg.block b (by simp; have := lt_of_some hb; omega) (rwNe (h.alloc o) (alloc_blk hb o) he)).trans (alloc_blk hb o)
end
end Go.Proofs.Ytohmmkkbfiembaa
