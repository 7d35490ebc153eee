/- From: its closure: a code point's units are put behind those that are there. -/
import Derived.Test.YtelhnaphkbpakaaWd12
import Derived.Test.YtelhnaphkbpakaaWd3
import Derived.Test.YtelhnaphkbpakaaRw
namespace Go.Proofs.Ytelhnaphkbpakaa
open Go.RowKit Go.Shelf
set_option linter.unusedVariables false
set_option maxRecDepth 100000

/-- A code point's units. -/
def unitsOf (c : Nat) : List Nat := if 65535 < c then [55296 + (c - 65536) / 1024, 56320 + (c - 65536) % 1024] else [c]
def fromPc (l : List Pc) : List Nat := l.flatMap fun x => unitsOf x.c

/-- A box, and the units in the row that it holds. -/
structure Box16 (B bx : Nat) (us : List Nat) (w0 w : World) : Prop where
  row : ∃ a cap, w.heap[bx]? = some (.cells #[.slice a us.length cap] 24 (0, 0)) ∧ w.ownsRow B 45 1 (.slice a us.length cap) us.length (enc16 us)
  bnd : ∀ u ∈ us, u ≤ 65535
  bel : Below B w0 w
  le : B ≤ w.heap.size
  bx : B ≤ bx

theorem wraps_i32 (n : Int) (h0 : 0 ≤ n) (h1 : n < 2 ^ 31) : IntKind.i32.wrap n = n := IntWalk.i32_in _ (by simp at h1; omega)
theorem i32_and1023 {x : Int} (h₀ : 0 ≤ x) (h₁ : x < 2147483648) : bits .and .i32 x 1023 = x % 1024 := bits_mask .i32 31 (by decide) wraps_i32 10 (by decide) x h₀ h₁

theorem Box16.push {B bx : Nat} {us vs : List Nat} {w0 w w3 : World} {a : Option Addr} {n cap g c3 m : Nat} {o : Obj} {news : List Value} (h : Box16 B bx us w0 w) (hbx : w.heap[bx]? = some (.cells #[.slice a n cap] 24 (0, 0))) (hrow : w.ownsRow B 45 1 (.slice a n cap) n (enc16 us)) (hn : n = us.length)
    (hown : w3.ownsRow B 45 1 (.slice (some ⟨g, 0, none⟩) (n + m) c3) (n + m) (enc16 us ++ news)) (hgrow : (w.alloc o).grownBy w3 (Value.slice a n cap).ownBlock) (hnews : news = enc16 vs) (hb : ∀ u ∈ vs, u ≤ 65535) (hm : m = vs.length) :
    Box16 B bx (us ++ vs) w0 (w3.setCell ⟨bx, 0, none⟩ (.slice (some ⟨g, 0, none⟩) (n + m) c3)) ∧ KeepsWalks w (w3.setCell ⟨bx, 0, none⟩ (.slice (some ⟨g, 0, none⟩) (n + m) c3)) := by
  subst hn hnews hm
  have hb3 := rwApp hrow hgrow hbx (by decide)
  have f : FrT [45] B w w3 := ((FrT.refl _ _ _).alloc o).append (hrow.alloc o) (Nat.le_refl _) (by simp) hgrow
  have f2 : FrT [45, 24] B w (w3.setCell ⟨bx, 0, none⟩ (.slice (some ⟨g, 0, none⟩) (us.length + vs.length) c3)) := (f.mono (by simp) (Nat.le_refl _)).set h.bx hb3 (by simp) _
  have e : (us ++ vs).length = us.length + vs.length := by simp
  refine ⟨⟨⟨_, _, by rw [e]; exact set_blk hb3 0 _, ?_⟩, ?_, h.bel.trans (f2.below h.le), Nat.le_trans h.le f2.size, h.bx⟩, ?_⟩
  · rw [e, show enc16 (us ++ vs) = enc16 us ++ enc16 vs by simp [enc16]]
    exact rwOther hown hb3 (by decide) 0 _
  · intro u hu
    rcases List.mem_append.1 hu with hu | hu
    · exact h.bnd u hu
    · exact hb u hu
  · refine ((KeepsWalks.alloc w o).trans (KeepsWalks.of_grownBy hgrow ?_)).trans (KeepsWalks.setCell _ _ _)
    intro j x hj hx
    rcases (hrow.alloc o).2 with ⟨hv, _⟩ | ⟨g', cap', cur, hv, _, hg, _⟩
    · rw [hv] at hj; cases hj
    · rw [hv] at hj; cases hj; rw [hg] at hx; cases hx; rfl

end Go.Proofs.Ytelhnaphkbpakaa
