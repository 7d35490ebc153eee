/- A box (a variable that a loop over an iterator writes) that holds a row of the call's own. No program. -/
import Derived.Test.YtelhnaphkbpakaaRw
import Derived.RangeFuncNested
import Derived.RangeFuncBound
import Derived.Laws.BytesArg
import Derived.Laws.IdiomStrings
namespace Go.Proofs.Ytelhnaphkbpakaa
open Go.RowKit
set_option linter.unusedVariables false

theorem rowGrow {w w' : World} {base : Nat} {e : TypeId} {size : Nat} {v : Value} {n : Nat} {xs : List Value} (h : w.ownsRow base e size v n xs) {row : Option Nat} (hg : w.grownBy w' row) (hr : ∀ r, row = some r → ∃ o : Obj, w.heap[r]? = some o ∧ o.isCells = false) : w'.ownsRow base e size v n xs := by
  refine h.kept hg ?_
  rcases h.2 with ⟨rfl, _⟩ | ⟨g, cap, cur, rfl, _, hg', _⟩
  · exact .inl rfl
  · right
    intro e1
    obtain ⟨o, ho, hc⟩ := hr g e1.symm
    rw [hg'] at ho
    cases ho
    cases hc
theorem blkGrow {w w' : World} {b : Nat} {c : Array Value} {e : TypeId} {fz : Nat × Nat} (h : w.heap[b]? = some (.cells c e fz)) {row : Option Nat} (hg : w.grownBy w' row) (hr : ∀ r, row = some r → ∃ o : Obj, w.heap[r]? = some o ∧ o.isCells = false) : w'.heap[b]? = some (.cells c e fz) := by
  refine (hg.block b (lt_of_some h) ?_).trans h
  intro e1
  obtain ⟨o, ho, hc⟩ := hr b e1.symm
  rw [h] at ho
  cases ho
  cases hc

/-- What a round keeps: all that lay below n0, and a block that the iterator has captured. -/
structure KpX (n0 Bn : Nat) (W W' : World) : Prop where
  below : Below n0 W W'
  cap : ∀ o, W.heap[Bn]? = some o → W'.heap[Bn]? = some o
theorem KpX.trans {n0 Bn : Nat} {A B C : World} (h : KpX n0 Bn A B) (k : KpX n0 Bn B C) : KpX n0 Bn A C := ⟨h.below.trans k.below, fun o e => k.cap o (h.cap o e)⟩
theorem kpX_b {n0 Bn : Nat} {w : World} (hn : n0 ≤ w.heap.size) (hb : Bn < w.heap.size) (W : World) (l : Nat) (o o' : Obj) (hl : w.heap.size ≤ l) (h : W.heap[l]? = some o) (h1 : o.isCells = false) (h2 : o.isWalk = false) : KpX n0 Bn W (W.putObj l o') :=
  ⟨belowK_b hn W l o o' hl h h1 h2, fun x e => (World.putObj_heap_other (by omega)).trans e⟩

/-- A box at bx holds a slice over a row (elements of one cell) that the call owns. -/
structure BoxRow (tS tE : TypeId) (B bx : Nat) (xs : List Value) (w0 w : World) : Prop where
  row : ∃ a cap, w.heap[bx]? = some (.cells #[.slice a xs.length cap] tS (0, 0)) ∧ w.ownsRow B tE 1 (.slice a xs.length cap) xs.length xs
  bel : Below B w0 w
  le : B ≤ w.heap.size
  bx : B ≤ bx

section
variable {tS tE : TypeId} {B bx : Nat} {xs news : List Value} {w0 w w' w3 : World}
theorem BoxRow.grow (h : BoxRow tS tE B bx xs w0 w) {row : Option Nat} (hg : w.grownBy w' row) (hr : ∀ r, row = some r → B ≤ r ∧ ∃ o : Obj, w.heap[r]? = some o ∧ o.isCells = false) : BoxRow tS tE B bx xs w0 w' := by
  obtain ⟨a, cap, h1, h2⟩ := h.row
  exact ⟨⟨a, cap, blkGrow h1 hg (fun r e => (hr r e).2), rowGrow h2 hg (fun r e => (hr r e).2)⟩, h.bel.grown hg h.le (fun r e => (hr r e).1), Nat.le_trans h.le hg.size, h.bx⟩
theorem BoxRow.push (h : BoxRow tS tE B bx xs w0 w) (he : tE ≠ tS) {a : Option Addr} {n cap g c3 m : Nat} {o : Obj} (hbx : w.heap[bx]? = some (.cells #[.slice a n cap] tS (0, 0))) (hrow : w.ownsRow B tE 1 (.slice a n cap) n xs) (hn : n = xs.length)
    (hown : w3.ownsRow B tE 1 (.slice (some ⟨g, 0, none⟩) (n + m) c3) (n + m) (xs ++ news)) (hgrow : (w.alloc o).grownBy w3 (Value.slice a n cap).ownBlock) (hm : m = news.length) :
    BoxRow tS tE B bx (xs ++ news) w0 (w3.setCell ⟨bx, 0, none⟩ (.slice (some ⟨g, 0, none⟩) (n + m) c3)) ∧ KeepsOthers w (w3.setCell ⟨bx, 0, none⟩ (.slice (some ⟨g, 0, none⟩) (n + m) c3)) ∧ Below B w (w3.setCell ⟨bx, 0, none⟩ (.slice (some ⟨g, 0, none⟩) (n + m) c3)) := by
  subst hn hm
  have hb3 := rwApp hrow hgrow hbx he
  have f : FrT [tE] B w w3 := ((FrT.refl _ _ _).alloc o).append (hrow.alloc o) (Nat.le_refl _) (by simp) hgrow
  have f2 : FrT [tE, tS] B w (w3.setCell ⟨bx, 0, none⟩ (.slice (some ⟨g, 0, none⟩) (xs.length + news.length) c3)) := (f.mono (by simp) (Nat.le_refl _)).set h.bx hb3 (by simp) _
  have e : (xs ++ news).length = xs.length + news.length := by simp
  refine ⟨⟨⟨_, _, by rw [e]; exact set_blk hb3 0 _, ?_⟩, h.bel.trans (f2.below h.le), Nat.le_trans h.le f2.size, h.bx⟩, ?_, f2.below h.le⟩
  · rw [e]
    exact rwOther hown hb3 he 0 _
  · refine ((KeepsOthers.alloc w o).trans (KeepsOthers.of_grownBy hgrow ?_)).trans (KeepsOthers.setCell _ _ _)
    intro j x hj hx
    rcases (hrow.alloc o).2 with ⟨hv, _⟩ | ⟨g', cap', cur, hv, _, hg, _⟩
    · rw [hv] at hj; cases hj
    · rw [hv] at hj; cases hj; rw [hg] at hx; cases hx; rfl
/-- A block that is neither the box nor a row of that type stands behind a push. -/
theorem push_keeps {v : Value} {n : Nat} {o : Obj} (hrow : w.ownsRow B tE 1 v n xs) (hgrow : (w.alloc o).grownBy w3 v.ownBlock) {b : Nat} {c : Array Value} {e : TypeId} {fz : Nat × Nat} (hb : w.heap[b]? = some (.cells c e fz)) (he : tE ≠ e) (hne : b ≠ bx) (u : Value) :
    (w3.setCell ⟨bx, 0, none⟩ u).heap[b]? = some (.cells c e fz) := set_other (rwApp hrow hgrow hb he) hne u
end

theorem boxRow_own {β : Type} (tS tE : TypeId) (B bx D : Nat) (f : β → List Value) (w0 : World) (hD : B ≤ D) : OwnFrom D (fun s W => BoxRow tS tE B bx (f s) w0 W) :=
  fun s X Y row hs hg hr => hs.grow hg (fun r e => ⟨Nat.le_trans hD (hr r e).1, (hr r e).2⟩)
theorem blk_ownFrom {β : Type} (D b : Nat) (c : Array Value) (e : TypeId) (fz : Nat × Nat) : OwnFrom D (fun (_ : β) W => W.heap[b]? = some (.cells c e fz)) :=
  fun s X Y row hs hg hr => blkGrow hs hg (fun r e => (hr r e).2)

/-- Bytes as a text. -/
def strB (l : List Nat) : ByteArray := ⟨(l.map UInt8.ofNat).toArray⟩
theorem strB_size (l : List Nat) : (strB l).size = l.length := by simp [strB, ByteArray.size]
/-- A row of bytes, as a text. -/
theorem run_string_row {P : Program} {w : World} {B tE src dst : Nat} {v : Value} {n : Nat} {l : List Nat} (hs : P.underlying src = some (.slice tE)) (he : P.underlying tE = some (.int .u8)) (hd : P.underlying dst = some .string)
    (h : w.ownsRow B tE 1 v n (l.map fun (b : Nat) => Value.int .u8 (b : Int))) (hb : ∀ b ∈ l, b ≤ 255) : (convert src dst v).run P w = .ok (.string (strB l)) w := by
  have hl : l.length = n := by have := h.1; simpa using this
  rcases h.2 with ⟨rfl, hn⟩ | ⟨g, cap, cur, rfl, _⟩
  · have : l = [] := by cases l with | nil => rfl | cons x l => simp at hl; omega
    subst this
    exact run_convert_bytes_nil w src tE hs he 0 0 dst hd
  · have hcell := run_convert_bytes_back (P := P) w src dst tE ⟨g, 0, none⟩ cap (l.map UInt8.ofNat) hs he hd (fun j hj => by
      simp at hj
      have h1 := h.cellAt j (by omega)
      have h2 : (⟨g, 0, none⟩ : Addr).add j = ⟨g, j, none⟩ := by unfold Addr.add; split <;> simp_all
      rw [h2, h1]
      simp only [List.getElem?_map, List.getElem_map]
      rw [List.getElem?_eq_getElem hj]
      simp only [Option.map_some, Option.some.injEq, Value.int.injEq, true_and]
      have := hb _ (List.getElem_mem hj)
      rw [UInt8.toNat_ofNat']
      omega)
    simp only [List.length_map, hl] at hcell
    exact hcell
end Go.Proofs.Ytelhnaphkbpakaa
