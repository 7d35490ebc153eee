/- An arena in memory: behind an append to one of its two lists. No program. -/
import Derived.Test.YtlmbpbijhhnhpaaArRaw
import Derived.Deep.AppendLies
namespace Go.Proofs.Ytlmbpbijhhnhpaa
open Go.RowKit
set_option linter.unusedVariables false

theorem row_ne {w : World} {base : Nat} {e : TypeId} {size : Nat} {v : Value} {n : Nat} {xs : List Value} (h : w.ownsRow base e size v n xs) {b : Nat} {c : Array Value} {e' : TypeId} {fz : Nat × Nat} (hb : w.heap[b]? = some (.cells c e' fz)) (he : e ≠ e') : some b ≠ v.ownBlock := by
  rcases h.2 with ⟨rfl, _⟩ | ⟨g, cap, cur, rfl, _, hg, _⟩
  · simp [Value.ownBlock]
  · simp only [Value.ownBlock, ne_eq, Option.some.injEq]
    exact fun hh => ne_blk hg hb he hh.symm

theorem row_row_ne {w : World} {base : Nat} {e : TypeId} {size : Nat} {v : Value} {n : Nat} {xs : List Value} (h : w.ownsRow base e size v n xs) {base' : Nat} {e' : TypeId} {size' : Nat} {v' : Value} {n' : Nat} {xs' : List Value} (h' : w.ownsRow base' e' size' v' n' xs') (he : e ≠ e') : v.ownBlock = none ∨ v.ownBlock ≠ v'.ownBlock := by
  rcases h.2 with ⟨rfl, _⟩ | ⟨g, cap, cur, rfl, _, hg, _⟩
  · exact .inl rfl
  · exact .inr (row_ne h' hg (Ne.symm he))

section
variable {tA tS tF m B : Nat} {w0 w w1 : World} {ab : Nat} {av fv : Value} {S G c r : Int} {all : List (Nat × Bool × List Value)} {free : List Nat}

theorem ArRaw.growF (hd : tA ≠ tS ∧ tS ≠ tF ∧ tA ≠ tF) (h : ArRaw tA tS tF m B w0 w ab S G all free c r av fv) (hgrow : w.grownBy w1 fv.ownBlock) :
    w1.heap[ab]? = some (.cells #[.int .i64 S, .int .i64 G, av, fv, .int .i64 c, .int .i64 r] tA (0, 0)) ∧ w1.ownsRow B tS (m + 2) av all.length (scells all) ∧ FrT [tA, tS, tF] B w0 w1 :=
  ⟨(hgrow.block ab (lt_of_some h.blk) (row_ne h.rowF h.blk (Ne.symm hd.2.2))).trans h.blk, h.rowA.kept hgrow (row_row_ne h.rowA h.rowF hd.2.1), h.fr.append h.rowF (Nat.le_refl _) (by simp) hgrow⟩

theorem ArRaw.pushF (hd : tA ≠ tS ∧ tS ≠ tF ∧ tA ≠ tF) (h : ArRaw tA tS tF m B w0 w ab S G all free c r av fv) (hgrow : w.grownBy w1 fv.ownBlock) {k g cap : Nat}
    (hown : w1.ownsRow B tF 1 (.slice (some ⟨g, 0, none⟩) (free.length + 1) cap) (free.length + 1) (fcells free ++ [.int .u32 (k : Int)])) :
    ArRaw tA tS tF m B w0 (w1.setCell ⟨ab, 3, none⟩ (.slice (some ⟨g, 0, none⟩) (free.length + 1) cap)) ab S G all (free ++ [k]) c r av (.slice (some ⟨g, 0, none⟩) (free.length + 1) cap) := by
  obtain ⟨h1, h2, h3⟩ := h.growF hd hgrow
  refine ⟨h.thing, h.base, by rw [set_blk h1]; rfl, ownsRow_other h2 h1 (Ne.symm hd.1) _ _, ?_, h3.set h.base h1 (by simp) _⟩
  have : w1.ownsRow B tF 1 (.slice (some ⟨g, 0, none⟩) (free.length + 1) cap) (free ++ [k]).length (fcells (free ++ [k])) := by simpa [fcells] using hown
  exact ownsRow_other this h1 (Ne.symm hd.2.2) _ _

theorem ArRaw.growA (hd : tA ≠ tS ∧ tS ≠ tF ∧ tA ≠ tF) (h : ArRaw tA tS tF m B w0 w ab S G all free c r av fv) (hgrow : w.grownBy w1 av.ownBlock) :
    w1.heap[ab]? = some (.cells #[.int .i64 S, .int .i64 G, av, fv, .int .i64 c, .int .i64 r] tA (0, 0)) ∧ w1.ownsRow B tF 1 fv free.length (fcells free) ∧ FrT [tA, tS, tF] B w0 w1 :=
  ⟨(hgrow.block ab (lt_of_some h.blk) (row_ne h.rowA h.blk (Ne.symm hd.1))).trans h.blk, h.rowF.kept hgrow (row_row_ne h.rowF h.rowA (Ne.symm hd.2.1)), h.fr.append h.rowA (Nat.le_refl _) (by simp) hgrow⟩

theorem ArRaw.pushA (hd : tA ≠ tS ∧ tS ≠ tF ∧ tA ≠ tF) (h : ArRaw tA tS tF m B w0 w ab S G all free c r av fv) (hgrow : w.grownBy w1 av.ownBlock) {s : Nat × Bool × List Value} {g cap : Nat} (hs : s.2.2.length = m)
    (hown : w1.ownsRow B tS (m + 2) (.slice (some ⟨g, 0, none⟩) (all.length + 1) cap) (all.length + 1) (scells all ++ (Value.int .u32 (s.1 : Int) :: .bool s.2.1 :: s.2.2))) :
    ArRaw tA tS tF m B w0 (w1.setCell ⟨ab, 2, none⟩ (.slice (some ⟨g, 0, none⟩) (all.length + 1) cap)) ab S G (all ++ [s]) free c r (.slice (some ⟨g, 0, none⟩) (all.length + 1) cap) fv := by
  obtain ⟨h1, h2, h3⟩ := h.growA hd hgrow
  refine ⟨fun x hx => ?_, h.base, by rw [set_blk h1]; rfl, ?_, ownsRow_other h2 h1 (Ne.symm hd.2.2) _ _, h3.set h.base h1 (by simp) _⟩
  · rcases List.mem_append.1 hx with hx | hx
    · exact h.thing x hx
    · simp at hx; subst hx; exact hs
  · have : w1.ownsRow B tS (m + 2) (.slice (some ⟨g, 0, none⟩) (all.length + 1) cap) (all ++ [s]).length (scells (all ++ [s])) := by
      rw [scells_append, List.length_append]; simpa [scells] using hown
    exact ownsRow_other this h1 (Ne.symm hd.1) _ _

theorem FrT.setNew {T : List TypeId} {B : Nat} {w w' : World} (h : FrT T B w w') {a : Addr} (ha : w.heap.size ≤ a.block) (u : Value) : FrT T B w (w'.setCell a u) :=
  ⟨h.os, h.tape, h.output, by simpa using h.size, fun k o hk ho => by
    have := lt_of_some hk
    rw [heap_setCell_other _ _ _ _ (by omega)]; exact h.block k o hk ho⟩

/-- A store into a block of the call's own, of another type. -/
theorem ArRaw.setNew (h : ArRaw tA tS tF m B w0 w ab S G all free c r av fv) {b : Nat} {cs : Array Value} {e' : TypeId} {fz : Nat × Nat} (hb : w.heap[b]? = some (.cells cs e' fz)) (he : tA ≠ e' ∧ tS ≠ e' ∧ tF ≠ e') (hn : w0.heap.size ≤ b) (o : Nat) (u : Value) :
    ArRaw tA tS tF m B w0 (w.setCell ⟨b, o, none⟩ u) ab S G all free c r av fv :=
  ⟨h.thing, h.base, set_other h.blk (ne_blk h.blk hb he.1) u, ownsRow_other h.rowA hb he.2.1 _ _, ownsRow_other h.rowF hb he.2.2 _ _, h.fr.setNew hn u⟩
end
end Go.Proofs.Ytlmbpbijhhnhpaa
