/- The loop over a text's bad pieces: what it keeps in memory. -/
import Derived.Test.YtlmbpbijhhnhpaaWk5
import Derived.Lib.AppendStr
namespace Go.Proofs.Ytlmbpbijhhnhpaa
open Go.RowKit Go.Shelf Go.Lib
set_option linter.unusedVariables false

theorem strCells_extract (s : ByteArray) (i j : Nat) (hij : i ≤ j) (hj : j ≤ s.size) : strCells (s.extract i j) = encB (bytesOf s i j) := by
  unfold strCells encB bytesOf
  rw [List.map_map]
  apply List.ext_getElem
  · rw [List.length_map, List.length_map, List.length_range, Array.length_toList]
    have h1 : (s.extract i j).data.size = (s.extract i j).size := rfl
    rw [h1, ByteArray.size_extract]
    omega
  · intro k h1 h2
    simp at h1 h2
    have hk : i + k < s.size := by omega
    simp only [List.getElem_map, List.getElem_range, Function.comp]
    congr 2
    rw [← byteAt_get s (i + k) hk]
    simp [ByteArray.getElem_eq_getElem_data]
theorem KpY.of {B : Nat} {w w3 : World} (hb : Below B w w3) (ko : KeepsOthers w w3) (hk : ∀ (k : Nat) (c : Array Value) (fz : Nat × Nat), w.heap[k]? = some (.cells c 146 fz) → w3.heap[k]? = some (.cells c 146 fz)) : KpY 146 B w w3 := ⟨hb, ko.walks, hk⟩
/-- The box is given a new row. -/
theorem BoxRow.put {B bx : Nat} {xs ys : List Value} {w0 w w3 : World} (h : BoxRow 100 5 B bx xs w0 w) (f : FrT [5] B w w3) (ko : KeepsOthers w w3) {c : Array Value} (hbx : w.heap[bx]? = some (.cells c 100 (0, 0))) (hc : c.size = 1)
    {a3 : Option Addr} {n3 c3 : Nat} (hown : w3.ownsRow B 5 1 (.slice a3 n3 c3) n3 ys) (hn : n3 = ys.length) :
    BoxRow 100 5 B bx ys w0 (w3.setCell ⟨bx, 0, none⟩ (.slice a3 n3 c3)) ∧ KeepsOthers w (w3.setCell ⟨bx, 0, none⟩ (.slice a3 n3 c3)) ∧ KpY 146 B w (w3.setCell ⟨bx, 0, none⟩ (.slice a3 n3 c3)) ∧
    ∀ (b : Nat) (cs : Array Value) (e : TypeId) (fz : Nat × Nat), w.heap[b]? = some (.cells cs e fz) → e ≠ 5 → b ≠ bx → (w3.setCell ⟨bx, 0, none⟩ (.slice a3 n3 c3)).heap[b]? = some (.cells cs e fz) := by
  subst hn
  have hb3 : w3.heap[bx]? = some (.cells c 100 (0, 0)) := f.blk hbx (by simp)
  have hle := h.le
  have hbel : Below B w (w3.setCell ⟨bx, 0, none⟩ (.slice a3 ys.length c3)) := (f.below hle).setCell h.bx _
  have hks : KeepsOthers w (w3.setCell ⟨bx, 0, none⟩ (.slice a3 ys.length c3)) := ko.trans (KeepsOthers.setCell _ _ _)
  have hoth : ∀ (b : Nat) (cs : Array Value) (e : TypeId) (fz : Nat × Nat), w.heap[b]? = some (.cells cs e fz) → e ≠ 5 → b ≠ bx → (w3.setCell ⟨bx, 0, none⟩ (.slice a3 ys.length c3)).heap[b]? = some (.cells cs e fz) := fun b cs e fz hb he hne => set_other (f.blk hb (by simpa using he)) hne _
  refine ⟨⟨⟨a3, c3, ?_, rwOther hown hb3 (by decide) 0 _⟩, h.bel.trans hbel, by have := hbel.size; omega, h.bx⟩, hks, KpY.of hbel hks (fun k cs fz hk => hoth k cs 146 fz hk (by decide) (fun e => by subst e; rw [hbx] at hk; cases hk)), hoth⟩
  have hx : c = #[c[0]'(by omega)] := by
    apply Array.ext
    · simpa using hc
    · intro i h1 h2
      have : i = 0 := by simp at h2; omega
      subst this
      rfl
  rw [hx] at hb3
  exact set_blk hb3 0 _
theorem BoxRow.other {B bx b : Nat} {xs : List Value} {w0 w : World} (h : BoxRow 100 5 B bx xs w0 w) {c : Array Value} {e : TypeId} {fz : Nat × Nat} (hb : w.heap[b]? = some (.cells c e fz)) (he : 5 ≠ e) (hne : bx ≠ b) (hB : B ≤ b) (v : Value) : BoxRow 100 5 B bx xs w0 (w.setCell ⟨b, 0, none⟩ v) := by
  obtain ⟨a, cap, h1, h2⟩ := h.row
  have hbel : Below B w (w.setCell ⟨b, 0, none⟩ v) := (Below.refl _ w).setCell hB v
  exact ⟨⟨a, cap, set_other h1 hne v, rwOther h2 hb he 0 v⟩, h.bel.trans hbel, by have := hbel.size; have := h.le; omega, h.bx⟩
end Go.Proofs.Ytlmbpbijhhnhpaa
