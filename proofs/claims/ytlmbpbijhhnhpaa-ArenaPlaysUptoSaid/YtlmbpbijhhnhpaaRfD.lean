/- The document's arena (package galleyref05) in memory, over the same data as the program's. No program. -/
import Derived.Test.YtlmbpbijhhnhpaaArTA
import Derived.Test.YtlmbpbijhhnhpaaFl
import Derived.Test.YtlmbpbijhhnhpaaArITop
namespace Go.Proofs.Ytlmbpbijhhnhpaa
open Go.RowKit
set_option linter.unusedVariables false

def rsl (s : Nat × Bool × Int) : List Value := [.int .i64 (s.1 : Int), .bool s.2.1, .int .i64 s.2.2]
theorem rsl_length (s : Nat × Bool × Int) : (rsl s).length = 3 := rfl
def rfree (l : List Nat) : List Value := l.map fun (k : Nat) => Value.int .i64 (k : Int)

structure RefAt (B : Nat) (w : World) (rb : Nat) (T : TA Int) (av fv : Value) : Prop where
  ok : (T.ar encI).Ok 1
  base : B ≤ rb
  blk : w.heap[rb]? = some (.cells #[.int .i64 (T.S : Int), .int .i64 (T.G : Int), av, fv] 126 (0, 0))
  rowA : w.ownsRow B 151 3 av T.all.length (T.all.flatMap rsl)
  rowF : w.ownsRow B 3 1 fv T.free.length (rfree T.free)

section
variable {B : Nat} {w w' : World} {rb : Nat} {T : TA Int} {av fv : Value}
theorem RefAt.kept (h : RefAt B w rb T av fv) {L : List TypeId} {B' : Nat} (hf : FrT L B' w w') (h1 : 126 ∉ L) (h2 : 151 ∉ L) (h3 : 3 ∉ L) : RefAt B w' rb T av fv :=
  ⟨h.ok, h.base, hf.blk h.blk h1, hf.row h.rowA h2, hf.row h.rowF h3⟩
theorem RefAt.below (h : RefAt B w rb T av fv) (hf : Below w.heap.size w w') : RefAt B w' rb T av fv :=
  h.kept (FrT.of_below (T := []) (B := 0) hf) (by simp) (by simp) (by simp)

theorem RefAt.slots (h : RefAt B w rb T av fv) : ∃ a cap, av = .slice a T.all.length cap := by
  rcases h.rowA.2 with ⟨rfl, hn⟩ | ⟨g, cap, cur, rfl, _⟩
  · exact ⟨none, 0, by rw [hn]⟩
  · exact ⟨_, cap, rfl⟩
theorem RefAt.frees (h : RefAt B w rb T av fv) : ∃ a cap, fv = .slice a T.free.length cap := by
  rcases h.rowF.2 with ⟨rfl, hn⟩ | ⟨g, cap, cur, rfl, _⟩
  · exact ⟨none, 0, by rw [hn]⟩
  · exact ⟨_, cap, rfl⟩

/-- The cells of slot k. -/
theorem RefAt.slot (h : RefAt B w rb T av fv) {k : Nat} {s : Nat × Bool × Int} (hk : T.all[k]? = some s) :
    ∃ g cap, av = .slice (some ⟨g, 0, none⟩) T.all.length cap ∧ g < w.heap.size ∧ w.cell? ⟨g, k * 3, none⟩ = some (.int .i64 (s.1 : Int)) ∧ w.cell? ⟨g, k * 3 + 1, none⟩ = some (.bool s.2.1) ∧ w.cell? ⟨g, k * 3 + 2, none⟩ = some (.int .i64 s.2.2) := by
  have hl : k < T.all.length := (List.getElem?_eq_some_iff.1 hk).1
  obtain ⟨g, cap, rfl, _⟩ := h.rowA.form (by omega)
  have c (j : Nat) (hj : j < 3) := (h.rowA.cellAt (k * 3 + j) (fl_lt hl hj)).trans (fl_at rsl_length hk j hj)
  have c0 := c 0 (by omega)
  have c1 := c 1 (by omega)
  have c2 := c 2 (by omega)
  simp [rsl] at c0 c1 c2
  exact ⟨g, cap, rfl, block_lt_of_cell c0, c0, c1, c2⟩

theorem RefAt.gen (h : RefAt B w rb T av fv) {k : Nat} {s : Nat × Bool × Int} (hk : T.all[k]? = some s) : 1 ≤ s.1 ∧ s.1 ≤ 4294967295 := by
  have h4 := h.ok.gen _ (List.mem_of_getElem? (TA.ar_get (enc := encI) (k := k) (g := s.1) (u := s.2.1) (x := s.2.2) hk))
  have h5 := h.ok.G2
  simp [TA.ar] at h4 h5
  omega
theorem RefAt.len (h : RefAt B w rb T av fv) : T.all.length ≤ 2147483647 ∧ T.free.length ≤ T.all.length ∧ T.count + T.ret + T.free.length = T.all.length ∧ T.S ≤ 2147483647 ∧ T.all.length ≤ T.S := by
  have h1 := h.ok.len
  have h2 := h.ok.S2
  have h3 := h.ok.sum
  simp [TA.ar] at h1 h2 h3
  omega
end
end Go.Proofs.Ytlmbpbijhhnhpaa
