/- Rows that a call owns: which blocks they are, what a store elsewhere leaves. No program. A box (a variable that a loop over an iterator writes) that holds a row of the call's own. No program. A frame by blocks and element types: only such blocks may have changed as one may own, and of these only those of some types. No program. A range over a function whose closure writes into boxes of its own: what the loop asks of the closure is said with a frame by blocks and types. A range over a function whose closure writes into boxes of its own: told of its record, or within a round of another loop. Ranges over a function whose closure writes boxes of its own, where the loop's variable lies in a box: told of the record; within a round. A region that draws its order, within a round of a range over a function: what only reads is walked once, in the order of the text; then its last operations, one by one. No program. A region that draws its order, within a round of a range over a function: len and a nil check are calm too. No program. An arena as data (no program): what its slots hold, which are free; what its operations do to that. Handles compared: '==' and '!=' of two structs of two uint32. -/
import Derived.Deep.AppendLies
import Derived.RangeFuncNested
import Derived.RangeFuncBound
import Derived.Laws.BytesArg
import Derived.Laws.IdiomStrings
import Derived.Conc.MuLone
import Derived.RangeFuncLeaves
import Derived.StillTail
import Derived.StillTactics
import Derived.OrdersIn
import Derived.TacticsIn
import Derived.Lib.Hide
import Derived.Test.YtelhnaphkbpakaaDoorProg
import Derived.Laws.StructEq
import Derived.Test.YtelhnaphkbpakaaDoorMw4
namespace Go.Proofs.YtelhnaphkbpakaaDoor
open Go.RowKit
set_option linter.unusedVariables false

section
variable {w : World} {base : Nat} {e : TypeId} {size : Nat} {v : Value} {n : Nat} {xs : List Value}
theorem rwNe (h : w.ownsRow base e size v n xs) {b : Nat} {c : Array Value} {e' : TypeId} {fz : Nat × Nat} (hb : w.heap[b]? = some (.cells c e' fz)) (he : e ≠ e') : some b ≠ v.ownBlock := by
  rcases h.2 with ⟨rfl, _⟩ | ⟨g, cap, cur, rfl, _, hg, _⟩
  · simp [Value.ownBlock]
  · simp only [Value.ownBlock, ne_eq, Option.some.injEq]
    exact fun hh => ne_blk hg hb he hh.symm
theorem rwRowNe (h : w.ownsRow base e size v n xs) {base' : Nat} {e' : TypeId} {size' : Nat} {v' : Value} {n' : Nat} {xs' : List Value} (h' : w.ownsRow base' e' size' v' n' xs') (he : e ≠ e') : v.ownBlock = none ∨ v.ownBlock ≠ v'.ownBlock := by
  rcases h.2 with ⟨rfl, _⟩ | ⟨g, cap, cur, rfl, _, hg, _⟩
  · exact .inl rfl
  · exact .inr (rwNe h' hg (Ne.symm he))
/-- A store into another block. -/
theorem rwSet (h : w.ownsRow base e size v n xs) (a : Addr) (hb : v.ownBlock ≠ some a.block) (u : Value) : (w.setCell a u).ownsRow base e size v n xs := by
  refine ⟨h.1, ?_⟩
  rcases h.2 with h' | ⟨g, cap, cur, rfl, hbg, hg, rest⟩
  · exact .inl h'
  · exact .inr ⟨g, cap, cur, rfl, hbg, set_other hg (by intro e1; exact hb (by rw [e1]; rfl)) u, rest⟩
theorem rwOther (h : w.ownsRow base e size v n xs) {b : Nat} {c : Array Value} {e' : TypeId} {fz : Nat × Nat} (hb : w.heap[b]? = some (.cells c e' fz)) (he : e ≠ e') (o : Nat) (u : Value) :
    (w.setCell ⟨b, o, none⟩ u).ownsRow base e size v n xs := rwSet h _ (fun hh => rwNe h hb he hh.symm) u
theorem rwBlk {g cap : Nat} (h : w.ownsRow base e size (.slice (some ⟨g, 0, none⟩) n cap) n xs) : ∃ cur, w.heap[g]? = some (.cells cur e (0, 0)) ∧ base ≤ g := by
  rcases h.2 with ⟨h', _⟩ | ⟨g', cap', cur, h', hb, hg, _⟩
  · cases h'
  · cases h'; exact ⟨cur, hg, hb⟩
theorem rwSlice (h : w.ownsRow base e size v n xs) : ∃ a cap, v = .slice a n cap := by
  rcases h.2 with ⟨rfl, hn⟩ | ⟨g, cap, cur, rfl, _⟩
  · exact ⟨none, 0, by rw [hn]⟩
  · exact ⟨some ⟨g, 0, none⟩, cap, rfl⟩
/-- Behind an append that lies in a new block first: a block of another type stands. -/
theorem rwApp {o : Obj} {w3 : World} (h : w.ownsRow base e size v n xs) (hg : (w.alloc o).grownBy w3 v.ownBlock) {b : Nat} {c : Array Value} {e' : TypeId} {fz : Nat × Nat} (hb : w.heap[b]? = some (.cells c e' fz)) (he : e ≠ e') : w3.heap[b]? = some (.cells c e' fz) :=
  (hg.block b (by simp; have := lt_of_some hb; omega) (rwNe (h.alloc o) (alloc_blk hb o) he)).trans (alloc_blk hb o)
end
end Go.Proofs.YtelhnaphkbpakaaDoor

namespace Go.Proofs.YtelhnaphkbpakaaDoor
open Go.RowKit
set_option linter.unusedVariables false

theorem rowGrow {w w' : World} {base : Nat} {e : TypeId} {size : Nat} {v : Value} {n : Nat} {xs : List Value} (h : w.ownsRow base e size v n xs) {row : Option Nat} (hg : w.grownBy w' row) (hr : ∀ r, row = some r → ∃ o : Obj, w.heap[r]? = some o ∧ o.isCells = false) : w'.ownsRow base e size v n xs := by
  refine h.kept hg ?_
  rcases h.2 with ⟨rfl, _⟩ | ⟨g, cap, cur, rfl, _, hg', _⟩
  · exact .inl rfl
  · right
    intro e1
    obtain ⟨o, ho, hc⟩ := hr g e1.symm
    rw [hg'] at ho
    cases ho
    cases hc
theorem blkGrow {w w' : World} {b : Nat} {c : Array Value} {e : TypeId} {fz : Nat × Nat} (h : w.heap[b]? = some (.cells c e fz)) {row : Option Nat} (hg : w.grownBy w' row) (hr : ∀ r, row = some r → ∃ o : Obj, w.heap[r]? = some o ∧ o.isCells = false) : w'.heap[b]? = some (.cells c e fz) := by
  refine (hg.block b (lt_of_some h) ?_).trans h
  intro e1
  obtain ⟨o, ho, hc⟩ := hr b e1.symm
  rw [h] at ho
  cases ho
  cases hc

/-- What a round keeps: all that lay below n0, and a block that the iterator has captured. -/
structure KpX (n0 Bn : Nat) (W W' : World) : Prop where
  below : Below n0 W W'
  cap : ∀ o, W.heap[Bn]? = some o → W'.heap[Bn]? = some o
theorem KpX.trans {n0 Bn : Nat} {A B C : World} (h : KpX n0 Bn A B) (k : KpX n0 Bn B C) : KpX n0 Bn A C := ⟨h.below.trans k.below, fun o e => k.cap o (h.cap o e)⟩
theorem kpX_b {n0 Bn : Nat} {w : World} (hn : n0 ≤ w.heap.size) (hb : Bn < w.heap.size) (W : World) (l : Nat) (o o' : Obj) (hl : w.heap.size ≤ l) (h : W.heap[l]? = some o) (h1 : o.isCells = false) (h2 : o.isWalk = false) : KpX n0 Bn W (W.putObj l o') :=
  ⟨belowK_b hn W l o o' hl h h1 h2, fun x e => (World.putObj_heap_other (by omega)).trans e⟩

/-- A box at bx holds a slice over a row (elements of one cell) that the call owns. -/
structure BoxRow (tS tE : TypeId) (B bx : Nat) (xs : List Value) (w0 w : World) : Prop where
  row : ∃ a cap, w.heap[bx]? = some (.cells #[.slice a xs.length cap] tS (0, 0)) ∧ w.ownsRow B tE 1 (.slice a xs.length cap) xs.length xs
  bel : Below B w0 w
  le : B ≤ w.heap.size
  bx : B ≤ bx

section
variable {tS tE : TypeId} {B bx : Nat} {xs news : List Value} {w0 w w' w3 : World}
theorem BoxRow.grow (h : BoxRow tS tE B bx xs w0 w) {row : Option Nat} (hg : w.grownBy w' row) (hr : ∀ r, row = some r → B ≤ r ∧ ∃ o : Obj, w.heap[r]? = some o ∧ o.isCells = false) : BoxRow tS tE B bx xs w0 w' := by
  obtain ⟨a, cap, h1, h2⟩ := h.row
  exact ⟨⟨a, cap, blkGrow h1 hg (fun r e => (hr r e).2), rowGrow h2 hg (fun r e => (hr r e).2)⟩, h.bel.grown hg h.le (fun r e => (hr r e).1), Nat.le_trans h.le hg.size, h.bx⟩
theorem BoxRow.push (h : BoxRow tS tE B bx xs w0 w) (he : tE ≠ tS) {a : Option Addr} {n cap g c3 m : Nat} {o : Obj} (hbx : w.heap[bx]? = some (.cells #[.slice a n cap] tS (0, 0))) (hrow : w.ownsRow B tE 1 (.slice a n cap) n xs) (hn : n = xs.length)
    (hown : w3.ownsRow B tE 1 (.slice (some ⟨g, 0, none⟩) (n + m) c3) (n + m) (xs ++ news)) (hgrow : (w.alloc o).grownBy w3 (Value.slice a n cap).ownBlock) (hm : m = news.length) :
    BoxRow tS tE B bx (xs ++ news) w0 (w3.setCell ⟨bx, 0, none⟩ (.slice (some ⟨g, 0, none⟩) (n + m) c3)) ∧ KeepsOthers w (w3.setCell ⟨bx, 0, none⟩ (.slice (some ⟨g, 0, none⟩) (n + m) c3)) ∧ Below B w (w3.setCell ⟨bx, 0, none⟩ (.slice (some ⟨g, 0, none⟩) (n + m) c3)) := by
  subst hn hm
  have hb3 := rwApp hrow hgrow hbx he
  have f : FrT [tE] B w w3 := ((FrT.refl _ _ _).alloc o).append (hrow.alloc o) (Nat.le_refl _) (by simp) hgrow
  have f2 : FrT [tE, tS] B w (w3.setCell ⟨bx, 0, none⟩ (.slice (some ⟨g, 0, none⟩) (xs.length + news.length) c3)) := (f.mono (by simp) (Nat.le_refl _)).set h.bx hb3 (by simp) _
  have e : (xs ++ news).length = xs.length + news.length := by simp
  refine ⟨⟨⟨_, _, by rw [e]; exact set_blk hb3 0 _, ?_⟩, h.bel.trans (f2.below h.le), Nat.le_trans h.le f2.size, h.bx⟩, ?_, f2.below h.le⟩
  · rw [e]
    exact rwOther hown hb3 he 0 _
  · refine ((KeepsOthers.alloc w o).trans (KeepsOthers.of_grownBy hgrow ?_)).trans (KeepsOthers.setCell _ _ _)
    intro j x hj hx
    rcases (hrow.alloc o).2 with ⟨hv, _⟩ | ⟨g', cap', cur, hv, _, hg, _⟩
    · rw [hv] at hj; cases hj
    · rw [hv] at hj; cases hj; rw [hg] at hx; cases hx; rfl
/-- A block that is neither the box nor a row of that type stands behind a push. -/
theorem push_keeps {v : Value} {n : Nat} {o : Obj} (hrow : w.ownsRow B tE 1 v n xs) (hgrow : (w.alloc o).grownBy w3 v.ownBlock) {b : Nat} {c : Array Value} {e : TypeId} {fz : Nat × Nat} (hb : w.heap[b]? = some (.cells c e fz)) (he : tE ≠ e) (hne : b ≠ bx) (u : Value) :
    (w3.setCell ⟨bx, 0, none⟩ u).heap[b]? = some (.cells c e fz) := set_other (rwApp hrow hgrow hb he) hne u
end

theorem boxRow_own {β : Type} (tS tE : TypeId) (B bx D : Nat) (f : β → List Value) (w0 : World) (hD : B ≤ D) : OwnFrom D (fun s W => BoxRow tS tE B bx (f s) w0 W) :=
  fun s X Y row hs hg hr => hs.grow hg (fun r e => ⟨Nat.le_trans hD (hr r e).1, (hr r e).2⟩)
theorem blk_ownFrom {β : Type} (D b : Nat) (c : Array Value) (e : TypeId) (fz : Nat × Nat) : OwnFrom D (fun (_ : β) W => W.heap[b]? = some (.cells c e fz)) :=
  fun s X Y row hs hg hr => blkGrow hs hg (fun r e => (hr r e).2)

/-- Bytes as a text. -/
def strB (l : List Nat) : ByteArray := ⟨(l.map UInt8.ofNat).toArray⟩
theorem strB_size (l : List Nat) : (strB l).size = l.length := by simp [strB, ByteArray.size]
/-- A row of bytes, as a text. -/
theorem run_string_row {P : Program} {w : World} {B tE src dst : Nat} {v : Value} {n : Nat} {l : List Nat} (hs : P.underlying src = some (.slice tE)) (he : P.underlying tE = some (.int .u8)) (hd : P.underlying dst = some .string)
    (h : w.ownsRow B tE 1 v n (l.map fun (b : Nat) => Value.int .u8 (b : Int))) (hb : ∀ b ∈ l, b ≤ 255) : (convert src dst v).run P w = .ok (.string (strB l)) w := by
  have hl : l.length = n := by have := h.1; simpa using this
  rcases h.2 with ⟨rfl, hn⟩ | ⟨g, cap, cur, rfl, _⟩
  · have : l = [] := by cases l with | nil => rfl | cons x l => simp at hl; omega
    subst this
    exact run_convert_bytes_nil w src tE hs he 0 0 dst hd
  · have hcell := run_convert_bytes_back (P := P) w src dst tE ⟨g, 0, none⟩ cap (l.map UInt8.ofNat) hs he hd (fun j hj => by
      simp at hj
      have h1 := h.cellAt j (by omega)
      have h2 : (⟨g, 0, none⟩ : Addr).add j = ⟨g, j, none⟩ := by unfold Addr.add; split <;> simp_all
      rw [h2, h1]
      simp only [List.getElem?_map, List.getElem_map]
      rw [List.getElem?_eq_getElem hj]
      simp only [Option.map_some, Option.some.injEq, Value.int.injEq, true_and]
      have := hb _ (List.getElem_mem hj)
      rw [UInt8.toNat_ofNat']
      omega)
    simp only [List.length_map, hl] at hcell
    exact hcell
end Go.Proofs.YtelhnaphkbpakaaDoor

namespace Go.Proofs.YtelhnaphkbpakaaDoor
open Go.RowKit
set_option linter.unusedVariables false

/-- w' is w but for new blocks and for blocks of Q whose element type is one of T. -/
structure FrG (T : List TypeId) (Q : Nat → Prop) (w w' : World) : Prop where
  os : w'.os = w.os
  tape : w'.tape = w.tape
  output : w'.output = w.output
  size : w.heap.size ≤ w'.heap.size
  block : ∀ (k : Nat) o, w.heap[k]? = some o → (¬ Q k ∨ ∀ e, oty o = some e → e ∉ T) → w'.heap[k]? = some o

section
variable {T : List TypeId} {Q : Nat → Prop} {w w' w'' : World}
theorem FrG.refl (T : List TypeId) (Q : Nat → Prop) (w : World) : FrG T Q w w := ⟨rfl, rfl, rfl, Nat.le_refl _, fun _ _ h _ => h⟩
theorem FrG.trans {Q' : Nat → Prop} (h : FrG T Q w w') (k : FrG T Q' w' w'') (hQ : ∀ k, Q' k → Q k ∨ w.heap.size ≤ k) : FrG T Q w w'' :=
  ⟨k.os.trans h.os, k.tape.trans h.tape, k.output.trans h.output, Nat.le_trans h.size k.size, fun i o hi ho => k.block i o (h.block i o hi ho) (ho.imp (fun hn hq => by
    rcases hQ i hq with h1 | h1
    · exact hn h1
    · have := lt_of_some hi; omega) id)⟩
theorem FrG.mono {T' : List TypeId} {Q' : Nat → Prop} (h : FrG T Q w w') (hT : ∀ e ∈ T, e ∈ T') (hQ : ∀ k, Q k → Q' k) : FrG T' Q' w w' :=
  ⟨h.os, h.tape, h.output, h.size, fun k o hk ho => h.block k o hk (ho.imp (fun x hq => x (hQ k hq)) (fun f e he hm => f e he (hT e hm)))⟩
theorem FrG.of_below (h : Below w.heap.size w w') : FrG T Q w w' := ⟨h.os, h.tape, h.output, h.size, fun k o hk _ => (h.block k (lt_of_some hk)).trans hk⟩
theorem FrG.andBelow (h : FrG T Q w w') (k : Below w'.heap.size w' w'') : FrG T Q w w'' := h.trans (Q' := fun _ => False) (.of_below k) (fun _ hq => hq.elim)
/-- Where nothing of what stood below B may have been changed. -/
theorem FrG.below (h : FrG T Q w w') {B : Nat} (hB : B ≤ w.heap.size) (hQ : ∀ k, k < B → ¬ Q k) : Below B w w' :=
  ⟨h.os, h.tape, h.output, h.size, fun k hk => by
    have hl : k < w.heap.size := Nat.lt_of_lt_of_le hk hB
    have e : w.heap[k]? = some w.heap[k] := Array.getElem?_eq_getElem hl
    rw [e]; exact h.block k _ e (.inl (hQ k hk))⟩
theorem FrG.alloc (h : FrG T Q w w') (o : Obj) : FrG T Q w (w'.alloc o) := h.andBelow ((Below.refl _ _).alloc (Nat.le_refl _) o)
theorem FrG.drew (h : FrG T Q w w') : FrG T Q w w'.drew := ⟨h.os, h.tape, h.output, h.size, h.block⟩
theorem FrG.drewN (h : FrG T Q w w') (n : Nat) : FrG T Q w (w'.drewN n) := ⟨h.os, h.tape, h.output, h.size, h.block⟩
/-- A store into a block that may be changed, or into a new one. -/
theorem FrG.set (h : FrG T Q w w') {a : Addr} (hQ : Q a.block ∨ w.heap.size ≤ a.block) {c : Array Value} {e : TypeId} {fz : Nat × Nat} (hb : w'.heap[a.block]? = some (.cells c e fz)) (he : e ∈ T) (u : Value) : FrG T Q w (w'.setCell a u) := by
  refine ⟨h.os, h.tape, h.output, by simpa using h.size, fun k o hk ho => ?_⟩
  have h1 := h.block k o hk ho
  by_cases hka : k = a.block
  · subst hka
    rw [hb] at h1
    cases h1
    rcases hQ with hQ | hQ
    · rcases ho with ho | ho
      · exact absurd hQ ho
      · exact absurd he (ho e rfl)
    · have := lt_of_some hk; omega
  · rw [heap_setCell_other _ _ _ _ hka]; exact h1
theorem FrG.setNew (h : FrG T Q w w') {a : Addr} (ha : w.heap.size ≤ a.block) (u : Value) : FrG T Q w (w'.setCell a u) :=
  ⟨h.os, h.tape, h.output, by simpa using h.size, fun k o hk ho => by
    have := lt_of_some hk
    rw [heap_setCell_other _ _ _ _ (by omega)]; exact h.block k o hk ho⟩
/-- Behind an append onto an owned row of a type of T. -/
theorem FrG.append (h : FrG T Q w w') {base : Nat} {e : TypeId} {size : Nat} {v : Value} {n : Nat} {xs : List Value} (ho : w'.ownsRow base e size v n xs) (hQ : ∀ k, v.ownBlock = some k → Q k ∨ w.heap.size ≤ k) (he : e ∈ T) (hg : w'.grownBy w'' v.ownBlock) : FrG T Q w w'' := by
  refine ⟨hg.os.trans h.os, hg.tape.trans h.tape, hg.output.trans h.output, Nat.le_trans h.size hg.size, fun k o hk hp => ?_⟩
  have h1 := h.block k o hk hp
  by_cases hkr : some k = v.ownBlock
  · rcases ho.2 with ⟨rfl, _⟩ | ⟨g, cap, cur, rfl, hb, hgg, _⟩
    · cases hkr
    · cases hkr
      rw [hgg] at h1; cases h1
      rcases hQ g rfl with hQ | hQ
      · rcases hp with hp | hp
        · exact absurd hQ hp
        · exact absurd he (hp e rfl)
      · exact absurd hQ (Nat.not_le.2 (lt_of_some hk))
  · exact (hg.block k (lt_of_some h1) hkr).trans h1
theorem FrG.blk (h : FrG T Q w w') {b : Nat} {c : Array Value} {e : TypeId} {fz : Nat × Nat} (hb : w.heap[b]? = some (.cells c e fz)) (he : e ∉ T) : w'.heap[b]? = some (.cells c e fz) :=
  h.block b _ hb (.inr fun e' h' => by cases h'; exact he)
theorem FrG.blkQ (h : FrG T Q w w') {b : Nat} {o : Obj} (hb : w.heap[b]? = some o) (hq : ¬ Q b) : w'.heap[b]? = some o := h.block b _ hb (.inl hq)
theorem FrG.row (h : FrG T Q w w') {base : Nat} {e : TypeId} {size : Nat} {v : Value} {n : Nat} {xs : List Value} (ho : w.ownsRow base e size v n xs) (he : e ∉ T) : w'.ownsRow base e size v n xs := by
  refine ⟨ho.1, ?_⟩
  rcases ho.2 with hn | ⟨g, cap, cur, rfl, hb, hgg, rest⟩
  · exact .inl hn
  · exact .inr ⟨g, cap, cur, rfl, hb, h.blk hgg he, rest⟩
theorem FrG.rowQ (h : FrG T Q w w') {base : Nat} {e : TypeId} {size : Nat} {v : Value} {n : Nat} {xs : List Value} (ho : w.ownsRow base e size v n xs) (hq : ∀ k, v.ownBlock = some k → ¬ Q k) : w'.ownsRow base e size v n xs := by
  refine ⟨ho.1, ?_⟩
  rcases ho.2 with hn | ⟨g, cap, cur, rfl, hb, hgg, rest⟩
  · exact .inl hn
  · exact .inr ⟨g, cap, cur, rfl, hb, h.blkQ hgg (hq g rfl), rest⟩
/-- A frame by types alone, as one by blocks. -/
theorem FrG.of_frt {B : Nat} (h : FrT T B w w') : FrG T (fun k => B ≤ k) w w' := ⟨h.os, h.tape, h.output, h.size, fun k o hk ho => h.block k o hk (ho.imp (fun x => Nat.lt_of_not_le x) id)⟩
theorem FrG.frt (h : FrG T Q w w') {B : Nat} (hQ : ∀ k, Q k → B ≤ k) : FrT T B w w' := ⟨h.os, h.tape, h.output, h.size, fun k o hk ho => h.block k o hk (ho.imp (fun x hq => by have := hQ k hq; omega) id)⟩
end
end Go.Proofs.YtelhnaphkbpakaaDoor

namespace Go.Proofs.YtelhnaphkbpakaaDoor
open Go.RowKit
set_option linter.unusedVariables false

/-- What is said of a world stands where only blocks from B on, of some types, were changed. -/
def AbideT {β : Type} (T : List TypeId) (B : Nat) (J : β → World → Prop) : Prop := ∀ s A C, J s A → FrT T B A C → J s C
/-- What a closure promises that is ranged over: it tells the elements of a list, one by one; its own boxes are of types of T. -/
def SeqT {α : Type} (T : List TypeId) (F : Fence) (n : Nat) (P : Program) (g : Nat) (lb : Array Value) (encs : α → Array Value) (Kp : World → World → Prop) (L : List α) (w : World) : Prop :=
  ∀ (l : Nat) (J Jx : List α → World → Prop) (W : World), Below w.heap.size w W → AbideT T W.heap.size J → AbideT T W.heap.size Jx →
    (∀ pre x W1, J pre W1 → pre ++ [x] <+: L → YieldAt F (n - 1) P l (encs x) W1 fun e W' => (e = .returned (.bool true) ∧ J (pre ++ [x]) W' ∧ Kp W1 W') ∨ (e = .returned (.bool false) ∧ Jx (pre ++ [x]) W')) →
    J [] W → CallsIn F n P g (#[.func (.yield l) #[] #[]] ++ lb) W fun e W' => (∃ v, e = .returned v) ∧ (J L W' ∨ ∃ pre, pre <+: L ∧ Jx pre W')

/-- The loop's two blocks. -/
structure LoopAt (k : Nat) (r : Loop) (W : World) : Prop where
  d : W.heap[k]? = some (.deferred (some []))
  r : W.heap[k + 1]? = some (.loop r)
theorem LoopAt.lt {k : Nat} {r : Loop} {W : World} (h : LoopAt k r W) : k + 1 < W.heap.size := lt_of_some h.r
theorem LoopAt.frt {k B : Nat} {r : Loop} {T : List TypeId} {A C : World} (h : LoopAt k r A) (f : FrT T B A C) : LoopAt k r C :=
  ⟨f.block _ _ h.d (.inr (fun e he => by cases he)), f.block _ _ h.r (.inr (fun e he => by cases he))⟩
theorem LoopAt.from {k B : Nat} {r : Loop} {A C : World} (h : LoopAt k r A) (f : KeepsFrom B A C) (hB : B ≤ k) : LoopAt k r C :=
  ⟨f.same _ _ hB h.d rfl, f.same _ _ (Nat.le_succ_of_le hB) h.r rfl⟩
theorem LoopAt.put {k : Nat} {r : Loop} {A : World} (h : LoopAt k r A) (r' : Loop) : LoopAt k r' (A.putObj (k + 1) (.loop r')) :=
  ⟨(World.putObj_heap_other (by omega)).trans h.d, World.putObj_heap_same h.lt⟩

theorem range_T {F : Fence} {n : Nat} {P : Program} {α : Type} {g : Operand} {ps : Array Tmp} {assign body : Code} {Q : Exit → Act → World → Prop} {a : Act} {w : World} {T : List TypeId}
    (hro : F.round = none) (h1 : 1 ≤ n) {gf : Nat} {lb : Array Value} (hg : a.eval g = .func (.func gf) #[] lb) (hFg : F.fn gf) (eg : ∀ args w, (callFunc gf args).run P w = .ok (.enter gf args) w)
    {encs : α → Array Value} {Kp : World → World → Prop} {L : List α} {w0 : World} (hseq : SeqT T F (n - 1) P gf lb encs Kp L w0)
    (hKt : ∀ {A B C : World}, Kp A B → Kp B C → Kp A C) (hKb : ∀ (W : World) (k : Nat) (o o' : Obj), w.heap.size ≤ k → W.heap[k]? = some o → o.isCells = false → o.isWalk = false → Kp W (W.putObj k o')) (hb0 : Below w0.heap.size w0 w) (hps : ∀ x, (encs x).size = ps.size)
    (I : List α → World → Prop) (Ix : Code → List α → World → Prop) (hI : OwnFrom w.heap.size I) (hIx : ∀ c, OwnFrom w.heap.size (Ix c)) (hIT : AbideT T w.heap.size I) (hIxT : ∀ c, AbideT T w.heap.size (Ix c)) (h0 : I [] w) (a₁ : α → Act)
    (hassign : ∀ (l : Nat) (x : α) (W : World) (K : Act → World → Prop), K (a₁ x) W →
      assign.wpIn (F.inRound l) (n - 1 - 1) P (Exit.then K (fun _ _ _ => False)) { tmps := (ps.zip (encs x)).foldl (fun t (p, v) => t.setIfInBounds p v) a.tmps, defers := [] } W)
    (hbody : ∀ (l : Nat) (pre : List α) (x : α) (W : World), I pre W → pre ++ [x] <+: L → body.wpIn (F.inRound l) (n - 1 - 1) P (ownPostG w.heap.size Kp I Ix (pre ++ [x]) W) (a₁ x) W)
    (hdone : ∀ (D : Nat) (W : World), w.heap.size ≤ D → I L W → W.heap[D]? = some (.deferred (some [])) → Q .normal { a with defers := { target := .collected D, args := #[] } :: a.defers } W)
    (hstop : ∀ (D : Nat) (c : Code) (pre : List α) (W : World), w.heap.size ≤ D → pre <+: L → Ix c pre W → W.heap[D]? = some (.deferred (some [])) → c.wpIn F n P Q { a with defers := { target := .collected D, args := #[] } :: a.defers } W) :
    (Code.rangeFunc g ps assign body).wpIn F n P Q a w := by
  refine wpIn_rangeFunc (fun fn hfn => ?_)
  rw [hro]
  obtain ⟨mk, hmk⟩ : ∃ mk : LoopState → Option Code → Loop, mk = fun st pe => { state := st, pending := pe, fn, tmps := a.tmps, params := ps, assign, body, defers := w.heap.size } := ⟨_, rfl⟩
  have hms : ∀ st pe, (mk st pe).state = st ∧ (mk st pe).params = ps ∧ (mk st pe).pending = pe := fun st pe => by rw [hmk]; exact ⟨rfl, rfl, rfl⟩
  obtain ⟨k, hk⟩ : ∃ k, k = w.heap.size := ⟨_, rfl⟩
  obtain ⟨W1, hW1⟩ : ∃ W1, W1 = (w.alloc (.deferred (some []))).alloc (.loop (mk .ready none)) := ⟨_, rfl⟩
  have hL1 : LoopAt k (mk .ready none) W1 := by
    rw [hW1, hk]
    refine ⟨alloc_blk (World.alloc_heap_new w _) _, ?_⟩
    have := World.alloc_heap_new (w.alloc (.deferred (some []))) (.loop (mk .ready none))
    simpa using this
  have hs1 : W1.heap.size = k + 1 + 1 := by rw [hW1, hk]; simp
  have hI1 : I [] W1 := by rw [hW1]; exact hI.alloc _ (hI.alloc _ h0)
  have hb1 : Below w0.heap.size w0 W1 := by
    rw [hW1]
    exact hb0.trans ((((Below.refl _ w).alloc (Nat.le_refl _) _).alloc (by simp) _).mono hb0.size)
  have wide : ∀ {β : Type} {J : β → World → Prop}, AbideT T w.heap.size J → AbideT T W1.heap.size J := fun hJ s A C hs f => hJ s A C hs ⟨f.os, f.tape, f.output, f.size, fun b o hb ho => f.block b o hb (ho.imp (fun x => by omega) id)⟩
  have hputI : ∀ {s : List α} {A : World} {r r' : Loop}, I s A → LoopAt k r A → I s (A.putObj (k + 1) (.loop r')) := fun hs hl => hI.putObj _ hs (by omega) hl.r rfl
  have hputX : ∀ {c : Code} {s : List α} {A : World} {r r' : Loop}, Ix c s A → LoopAt k r A → Ix c s (A.putObj (k + 1) (.loop r')) := fun hs hl => (hIx _).putObj _ hs (by omega) hl.r rfl
  refine ⟨k + 1, [{ target := .collected k, args := #[] }], W1, { target := .fn (.func gf) lb, args := #[.func (.yield (k + 1)) #[] #[]] }, W1, gf, #[.func (.yield (k + 1)) #[] #[]] ++ lb, W1, ?_, ?_, ?_, ?_, fun _ => h1, ?_⟩
  · rw [hW1, hmk, hk]; exact run_enterLoop_outer _ _ _ _ _
  · simp only [resolve, hg]
    simp [go_sem]
  · intro f' hf'
    simp [Target.leads] at hf'
    subst hf'
    exact hFg
  · simp [invoke, go_sem, eg]
  refine (hseq (k + 1) (fun pre W => I pre W ∧ LoopAt k (mk .ready none) W) (fun pre W => ∃ c, Ix c pre W ∧ LoopAt k (mk .done (some c)) W) W1 hb1
    (fun s A C hs f => ⟨wide hIT s A C hs.1 f, hs.2.frt f⟩) (fun s A C hs f => let ⟨c, h, hl⟩ := hs; ⟨c, wide (hIxT c) s A C h f, hl.frt f⟩) ?_ ⟨hI1, hL1⟩).mono ?_
  · rintro pre x W ⟨hi, hl⟩ hpre
    have hy := run_yield (P := P) (args := encs x) hl.r (by rw [(hms _ _).2.1]; exact hps x)
    rw [hmk] at hy
    refine ⟨fn, _, assign, body, hy, roundIn_of_wpIn hfn (hassign _ x W _ ⟨_, run_beginRound hl.r (hms _ _).1, ?_⟩)⟩
    have e1 : ({ mk .ready none with state := .busy } : Loop) = mk .busy none := by rw [hmk]
    rw [e1]
    have hl2 := hl.put (mk .busy none)
    have hk2 : Kp W (W.putObj (k + 1) (.loop (mk .busy none))) := hKb _ _ _ _ (by omega) hl.r rfl rfl
    refine wpIn_mono (hbody _ pre x _ (hputI hi hl) hpre) ?_
    have away : ∀ (c : Code) (W3 : World), KeepsFrom w.heap.size (W.putObj (k + 1) (.loop (mk .busy none))) W3 → Ix c (pre ++ [x]) W3 →
        ∃ v w', (Instr.endRound (k + 1) (some c)).run P W3 = .ok v w' ∧ ((Ending.returned v = .returned (.bool true) ∧ (I (pre ++ [x]) w' ∧ LoopAt k (mk .ready none) w') ∧ Kp W w') ∨ (Ending.returned v = .returned (.bool false) ∧ ∃ c, Ix c (pre ++ [x]) w' ∧ LoopAt k (mk .done (some c)) w')) := fun c W3 hkf hx3 => by
      have hl3 := hl2.from hkf (by omega)
      have hr : (Instr.endRound (k + 1) (some c)).run P W3 = .ok (.bool false) (W3.putObj (k + 1) (.loop (mk .done (some c)))) := by
        rw [run_endRound (P := P) (some c) hl3.r, hmk]; rfl
      exact ⟨_, _, hr, .inr ⟨rfl, c, hputX hx3 hl3, hl3.put _⟩⟩
    rintro e a3 W3 hp
    cases e with
    | normal =>
      obtain ⟨hkf, hkp, hi3⟩ := hp
      have hl3 := hl2.from hkf (by omega)
      have hr : (Instr.endRound (k + 1) none).run P W3 = .ok (.bool true) (W3.putObj (k + 1) (.loop (mk .ready none))) := by
        rw [run_endRound (P := P) none hl3.r, hmk]; rfl
      exact ⟨_, _, hr, .inl ⟨rfl, ⟨hputI hi3 hl3, hl3.put _⟩, hKt (hKt hk2 hkp) (hKb _ _ _ _ (by omega) hl3.r rfl rfl)⟩⟩
    | ret => exact away _ W3 hp.1 hp.2
    | exit id => exact away _ W3 hp.1 hp.2
    | goto t => exact away _ W3 hp.1 hp.2
    | panic ch => exact hp.elim
    | outgrown => exact hp.elim
  · rintro e W2 ⟨⟨v, rfl⟩, (⟨hi, hl⟩ | ⟨pre, hpre, c, hx, hl⟩)⟩
    · have hr := run_endLoop (P := P) hl.r (by rw [(hms _ _).1]; simp)
      rw [(hms _ _).2.2] at hr
      exact ⟨none, _, hr, hdone k _ (by omega) (hputI hi hl) (hl.put _).d⟩
    · have hr := run_endLoop (P := P) hl.r (by rw [(hms _ _).1]; simp)
      rw [(hms _ _).2.2] at hr
      exact ⟨some c, _, hr, hstop k c pre _ (by omega) hpre (hputX hx hl) (hl.put _).d⟩
end Go.Proofs.YtelhnaphkbpakaaDoor

namespace Go.Proofs.YtelhnaphkbpakaaDoor
open Go.RowKit
set_option linter.unusedVariables false

/-- The loop's one block, within a round. -/
structure LoopOn (k : Nat) (r : Loop) (W : World) : Prop where
  r : W.heap[k]? = some (.loop r)
theorem LoopOn.lt {k : Nat} {r : Loop} {W : World} (h : LoopOn k r W) : k < W.heap.size := lt_of_some h.r
theorem LoopOn.frt {k B : Nat} {r : Loop} {T : List TypeId} {A C : World} (h : LoopOn k r A) (f : FrT T B A C) : LoopOn k r C :=
  ⟨f.block _ _ h.r (.inr (fun e he => by cases he))⟩
theorem LoopOn.from {k B : Nat} {r : Loop} {A C : World} (h : LoopOn k r A) (f : KeepsFrom B A C) (hB : B ≤ k) : LoopOn k r C := ⟨f.same _ _ hB h.r rfl⟩
theorem LoopOn.put {k : Nat} {r : Loop} {A : World} (h : LoopOn k r A) (r' : Loop) : LoopOn k r' (A.putObj k (.loop r')) := ⟨World.putObj_heap_same h.lt⟩

/-- The law where the body is told of its own record, and the assign code may lay blocks. -/
theorem range_TH {F : Fence} {n : Nat} {P : Program} {α : Type} {g : Operand} {ps : Array Tmp} {assign body : Code} {Q : Exit → Act → World → Prop} {a : Act} {w : World} {T : List TypeId}
    (hro : F.round = none) (h1 : 1 ≤ n) {gf : Nat} {lb : Array Value} (hg : a.eval g = .func (.func gf) #[] lb) (hFg : F.fn gf) (eg : ∀ args w, (callFunc gf args).run P w = .ok (.enter gf args) w)
    {encs : α → Array Value} {Kp : World → World → Prop} {L : List α} {w0 : World} (hseq : SeqT T F (n - 1) P gf lb encs Kp L w0)
    (hKt : ∀ {A B C : World}, Kp A B → Kp B C → Kp A C) (hKb : ∀ (W : World) (k : Nat) (o o' : Obj), w.heap.size ≤ k → W.heap[k]? = some o → o.isCells = false → o.isWalk = false → Kp W (W.putObj k o')) (hb0 : Below w0.heap.size w0 w) (hps : ∀ x, (encs x).size = ps.size)
    (I : List α → World → Prop) (Ix : Code → List α → World → Prop) (hI : OwnFrom w.heap.size I) (hIx : ∀ c, OwnFrom w.heap.size (Ix c)) (hIT : AbideT T w.heap.size I) (hIxT : ∀ c, AbideT T w.heap.size (Ix c)) (h0 : I [] w) (Ax : α → Act → World → Prop) (hAx : ∀ x a', OwnFrom w.heap.size (fun (_ : Unit) W => Ax x a' W))
    (hassign : ∀ (l : Nat) (pre : List α) (x : α) (W : World) (K : Act → World → Prop), I pre W → (∀ a' W', KeepsFrom w.heap.size W W' → Kp W W' → I pre W' → Ax x a' W' → K a' W') →
      assign.wpIn (F.inRound l) (n - 1 - 1) P (Exit.then K (fun _ _ _ => False)) { tmps := (ps.zip (encs x)).foldl (fun t (p, v) => t.setIfInBounds p v) a.tmps, defers := [] } W)
    (hbody : ∀ (l : Nat) (pre : List α) (x : α) (a' : Act) (W : World), w.heap.size ≤ l → (∃ r, W.heap[l]? = some (.loop r)) → I pre W → Ax x a' W → pre ++ [x] <+: L → body.wpIn (F.inRound l) (n - 1 - 1) P (ownPostG w.heap.size Kp I Ix (pre ++ [x]) W) a' W)
    (hdone : ∀ (D : Nat) (W : World), w.heap.size ≤ D → I L W → W.heap[D]? = some (.deferred (some [])) → Q .normal { a with defers := { target := .collected D, args := #[] } :: a.defers } W)
    (hstop : ∀ (D : Nat) (c : Code) (pre : List α) (W : World), w.heap.size ≤ D → pre <+: L → Ix c pre W → W.heap[D]? = some (.deferred (some [])) → c.wpIn F n P Q { a with defers := { target := .collected D, args := #[] } :: a.defers } W) :
    (Code.rangeFunc g ps assign body).wpIn F n P Q a w := by
  refine wpIn_rangeFunc (fun fn hfn => ?_)
  rw [hro]
  obtain ⟨mk, hmk⟩ : ∃ mk : LoopState → Option Code → Loop, mk = fun st pe => { state := st, pending := pe, fn, tmps := a.tmps, params := ps, assign, body, defers := w.heap.size } := ⟨_, rfl⟩
  have hms : ∀ st pe, (mk st pe).state = st ∧ (mk st pe).params = ps ∧ (mk st pe).pending = pe := fun st pe => by rw [hmk]; exact ⟨rfl, rfl, rfl⟩
  obtain ⟨k, hk⟩ : ∃ k, k = w.heap.size := ⟨_, rfl⟩
  obtain ⟨W1, hW1⟩ : ∃ W1, W1 = (w.alloc (.deferred (some []))).alloc (.loop (mk .ready none)) := ⟨_, rfl⟩
  have hL1 : LoopAt k (mk .ready none) W1 := by
    rw [hW1, hk]
    refine ⟨alloc_blk (World.alloc_heap_new w _) _, ?_⟩
    have := World.alloc_heap_new (w.alloc (.deferred (some []))) (.loop (mk .ready none))
    simpa using this
  have hs1 : W1.heap.size = k + 1 + 1 := by rw [hW1, hk]; simp
  have hI1 : I [] W1 := by rw [hW1]; exact hI.alloc _ (hI.alloc _ h0)
  have hb1 : Below w0.heap.size w0 W1 := by
    rw [hW1]
    exact hb0.trans ((((Below.refl _ w).alloc (Nat.le_refl _) _).alloc (by simp) _).mono hb0.size)
  have wide : ∀ {β : Type} {J : β → World → Prop}, AbideT T w.heap.size J → AbideT T W1.heap.size J := fun hJ s A C hs f => hJ s A C hs ⟨f.os, f.tape, f.output, f.size, fun b o hb ho => f.block b o hb (ho.imp (fun x => by omega) id)⟩
  have hputI : ∀ {s : List α} {A : World} {r r' : Loop}, I s A → LoopAt k r A → I s (A.putObj (k + 1) (.loop r')) := fun hs hl => hI.putObj _ hs (by omega) hl.r rfl
  have hputX : ∀ {c : Code} {s : List α} {A : World} {r r' : Loop}, Ix c s A → LoopAt k r A → Ix c s (A.putObj (k + 1) (.loop r')) := fun hs hl => (hIx _).putObj _ hs (by omega) hl.r rfl
  refine ⟨k + 1, [{ target := .collected k, args := #[] }], W1, { target := .fn (.func gf) lb, args := #[.func (.yield (k + 1)) #[] #[]] }, W1, gf, #[.func (.yield (k + 1)) #[] #[]] ++ lb, W1, ?_, ?_, ?_, ?_, fun _ => h1, ?_⟩
  · rw [hW1, hmk, hk]; exact run_enterLoop_outer _ _ _ _ _
  · simp only [resolve, hg]
    simp [go_sem]
  · intro f' hf'
    simp [Target.leads] at hf'
    subst hf'
    exact hFg
  · simp [invoke, go_sem, eg]
  refine (hseq (k + 1) (fun pre W => I pre W ∧ LoopAt k (mk .ready none) W) (fun pre W => ∃ c, Ix c pre W ∧ LoopAt k (mk .done (some c)) W) W1 hb1
    (fun s A C hs f => ⟨wide hIT s A C hs.1 f, hs.2.frt f⟩) (fun s A C hs f => let ⟨c, h, hl⟩ := hs; ⟨c, wide (hIxT c) s A C h f, hl.frt f⟩) ?_ ⟨hI1, hL1⟩).mono ?_
  · rintro pre x W ⟨hi, hl⟩ hpre
    have hy := run_yield (P := P) (args := encs x) hl.r (by rw [(hms _ _).2.1]; exact hps x)
    rw [hmk] at hy
    refine ⟨fn, _, assign, body, hy, roundIn_of_wpIn hfn (hassign _ pre x W _ hi ?_)⟩
    clear hy
    intro a' Wa hkfa hkpa hia hax
    have hla := hl.from hkfa (by omega)
    refine ⟨_, run_beginRound hla.r (hms _ _).1, ?_⟩
    have e1 : ({ mk .ready none with state := .busy } : Loop) = mk .busy none := by rw [hmk]
    rw [e1]
    have hl2 := hla.put (mk .busy none)
    have hk2 : Kp Wa (Wa.putObj (k + 1) (.loop (mk .busy none))) := hKb _ _ _ _ (by omega) hla.r rfl rfl
    refine wpIn_mono (hbody _ pre x a' _ (by omega) ⟨_, hl2.r⟩ (hputI hia hla) ((hAx x a').putObj (s := ()) _ hax (by omega) hla.r rfl) hpre) ?_
    have away : ∀ (c : Code) (W3 : World), KeepsFrom w.heap.size (Wa.putObj (k + 1) (.loop (mk .busy none))) W3 → Ix c (pre ++ [x]) W3 →
        ∃ v w', (Instr.endRound (k + 1) (some c)).run P W3 = .ok v w' ∧ ((Ending.returned v = .returned (.bool true) ∧ (I (pre ++ [x]) w' ∧ LoopAt k (mk .ready none) w') ∧ Kp W w') ∨ (Ending.returned v = .returned (.bool false) ∧ ∃ c, Ix c (pre ++ [x]) w' ∧ LoopAt k (mk .done (some c)) w')) := fun c W3 hkf hx3 => by
      have hl3 := hl2.from hkf (by omega)
      have hr : (Instr.endRound (k + 1) (some c)).run P W3 = .ok (.bool false) (W3.putObj (k + 1) (.loop (mk .done (some c)))) := by
        rw [run_endRound (P := P) (some c) hl3.r, hmk]; rfl
      exact ⟨_, _, hr, .inr ⟨rfl, c, hputX hx3 hl3, hl3.put _⟩⟩
    rintro e a3 W3 hp
    cases e with
    | normal =>
      obtain ⟨hkf, hkp, hi3⟩ := hp
      have hl3 := hl2.from hkf (by omega)
      have hr : (Instr.endRound (k + 1) none).run P W3 = .ok (.bool true) (W3.putObj (k + 1) (.loop (mk .ready none))) := by
        rw [run_endRound (P := P) none hl3.r, hmk]; rfl
      exact ⟨_, _, hr, .inl ⟨rfl, ⟨hputI hi3 hl3, hl3.put _⟩, hKt hkpa (hKt (hKt hk2 hkp) (hKb _ _ _ _ (by omega) hl3.r rfl rfl))⟩⟩
    | ret => exact away _ W3 hp.1 hp.2
    | exit id => exact away _ W3 hp.1 hp.2
    | goto t => exact away _ W3 hp.1 hp.2
    | panic ch => exact hp.elim
    | outgrown => exact hp.elim
  · rintro e W2 ⟨⟨v, rfl⟩, (⟨hi, hl⟩ | ⟨pre, hpre, c, hx, hl⟩)⟩
    · have hr := run_endLoop (P := P) hl.r (by rw [(hms _ _).1]; simp)
      rw [(hms _ _).2.2] at hr
      exact ⟨none, _, hr, hdone k _ (by omega) (hputI hi hl) (hl.put _).d⟩
    · have hr := run_endLoop (P := P) hl.r (by rw [(hms _ _).1]; simp)
      rw [(hms _ _).2.2] at hr
      exact ⟨some c, _, hr, hstop k c pre _ (by omega) hpre (hputX hx hl) (hl.put _).d⟩
/-- The law within a round of another loop. -/
theorem range_TN {F : Fence} {n : Nat} {P : Program} {α : Type} {g : Operand} {ps : Array Tmp} {assign body : Code} {Q : Exit → Act → World → Prop} {a : Act} {w : World} {T : List TypeId}
    {l₀ : Nat} {r₀ : Loop} (hro : F.round = some l₀) (hl₀ : w.heap[l₀]? = some (.loop r₀)) (h1 : 1 ≤ n) {gf : Nat} {lb : Array Value} (hg : a.eval g = .func (.func gf) #[] lb) (hFg : F.fn gf) (eg : ∀ args w, (callFunc gf args).run P w = .ok (.enter gf args) w)
    {encs : α → Array Value} {Kp : World → World → Prop} {L : List α} {w0 : World} (hseq : SeqT T F (n - 1) P gf lb encs Kp L w0)
    (hKt : ∀ {A B C : World}, Kp A B → Kp B C → Kp A C) (hKb : ∀ (W : World) (k : Nat) (o o' : Obj), w.heap.size ≤ k → W.heap[k]? = some o → o.isCells = false → o.isWalk = false → Kp W (W.putObj k o')) (hb0 : Below w0.heap.size w0 w) (hps : ∀ x, (encs x).size = ps.size)
    (I : List α → World → Prop) (Ix : Code → List α → World → Prop) (hI : OwnFrom w.heap.size I) (hIx : ∀ c, OwnFrom w.heap.size (Ix c)) (hIT : AbideT T w.heap.size I) (hIxT : ∀ c, AbideT T w.heap.size (Ix c)) (h0 : I [] w) (Ax : α → Act → World → Prop) (hAx : ∀ x a', OwnFrom w.heap.size (fun (_ : Unit) W => Ax x a' W))
    (hassign : ∀ (l : Nat) (pre : List α) (x : α) (W : World) (K : Act → World → Prop), I pre W → (∀ a' W', KeepsFrom w.heap.size W W' → Kp W W' → I pre W' → Ax x a' W' → K a' W') →
      assign.wpIn (F.inRound l) (n - 1 - 1) P (Exit.then K (fun _ _ _ => False)) { tmps := (ps.zip (encs x)).foldl (fun t (p, v) => t.setIfInBounds p v) a.tmps, defers := [] } W)
    (hbody : ∀ (l : Nat) (pre : List α) (x : α) (a' : Act) (W : World), w.heap.size ≤ l → (∃ r, W.heap[l]? = some (.loop r)) → I pre W → Ax x a' W → pre ++ [x] <+: L → body.wpIn (F.inRound l) (n - 1 - 1) P (ownPostG w.heap.size Kp I Ix (pre ++ [x]) W) a' W)
    (hdone : ∀ (W : World), I L W → Q .normal a W)
    (hstop : ∀ (c : Code) (pre : List α) (W : World), pre <+: L → Ix c pre W → c.wpIn F n P Q a W) :
    (Code.rangeFunc g ps assign body).wpIn F n P Q a w := by
  refine wpIn_rangeFunc (fun fn hfn => ?_)
  rw [hro]
  obtain ⟨mk, hmk⟩ : ∃ mk : LoopState → Option Code → Loop, mk = fun st pe => { state := st, pending := pe, fn, tmps := a.tmps, params := ps, assign, body, defers := r₀.defers } := ⟨_, rfl⟩
  have hms : ∀ st pe, (mk st pe).state = st ∧ (mk st pe).params = ps ∧ (mk st pe).pending = pe := fun st pe => by rw [hmk]; exact ⟨rfl, rfl, rfl⟩
  obtain ⟨k, hk⟩ : ∃ k, k = w.heap.size := ⟨_, rfl⟩
  obtain ⟨W1, hW1⟩ : ∃ W1, W1 = w.alloc (.loop (mk .ready none)) := ⟨_, rfl⟩
  have hL1 : LoopOn k (mk .ready none) W1 := by
    rw [hW1, hk]
    exact ⟨World.alloc_heap_new w _⟩
  have hs1 : W1.heap.size = k + 1 := by rw [hW1, hk]; simp
  have hI1 : I [] W1 := by rw [hW1]; exact hI.alloc _ h0
  have hb1 : Below w0.heap.size w0 W1 := by
    rw [hW1]
    exact hb0.trans (((Below.refl _ w).alloc (Nat.le_refl _) _).mono hb0.size)
  have wide : ∀ {β : Type} {J : β → World → Prop}, AbideT T w.heap.size J → AbideT T W1.heap.size J := fun hJ s A C hs f => hJ s A C hs ⟨f.os, f.tape, f.output, f.size, fun b o hb ho => f.block b o hb (ho.imp (fun x => by omega) id)⟩
  have hputI : ∀ {s : List α} {A : World} {r r' : Loop}, I s A → LoopOn k r A → I s (A.putObj k (.loop r')) := fun hs hl => hI.putObj _ hs (by omega) hl.r rfl
  have hputX : ∀ {c : Code} {s : List α} {A : World} {r r' : Loop}, Ix c s A → LoopOn k r A → Ix c s (A.putObj k (.loop r')) := fun hs hl => (hIx _).putObj _ hs (by omega) hl.r rfl
  refine ⟨k, [], W1, { target := .fn (.func gf) lb, args := #[.func (.yield k) #[] #[]] }, W1, gf, #[.func (.yield k) #[] #[]] ++ lb, W1, ?_, ?_, ?_, ?_, fun _ => h1, ?_⟩
  · rw [hW1, hmk, hk]; exact run_enterLoop_inner hl₀ _ _ _ _ _
  · simp only [resolve, hg]
    simp [go_sem]
  · intro f' hf'
    simp [Target.leads] at hf'
    subst hf'
    exact hFg
  · simp [invoke, go_sem, eg]
  refine (hseq k (fun pre W => I pre W ∧ LoopOn k (mk .ready none) W) (fun pre W => ∃ c, Ix c pre W ∧ LoopOn k (mk .done (some c)) W) W1 hb1
    (fun s A C hs f => ⟨wide hIT s A C hs.1 f, hs.2.frt f⟩) (fun s A C hs f => let ⟨c, h, hl⟩ := hs; ⟨c, wide (hIxT c) s A C h f, hl.frt f⟩) ?_ ⟨hI1, hL1⟩).mono ?_
  · rintro pre x W ⟨hi, hl⟩ hpre
    have hy := run_yield (P := P) (args := encs x) hl.r (by rw [(hms _ _).2.1]; exact hps x)
    rw [hmk] at hy
    refine ⟨fn, _, assign, body, hy, roundIn_of_wpIn hfn (hassign _ pre x W _ hi ?_)⟩
    clear hy
    intro a' Wa hkfa hkpa hia hax
    have hla := hl.from hkfa (by omega)
    refine ⟨_, run_beginRound hla.r (hms _ _).1, ?_⟩
    have e1 : ({ mk .ready none with state := .busy } : Loop) = mk .busy none := by rw [hmk]
    rw [e1]
    have hl2 := hla.put (mk .busy none)
    have hk2 : Kp Wa (Wa.putObj k (.loop (mk .busy none))) := hKb _ _ _ _ (by omega) hla.r rfl rfl
    refine wpIn_mono (hbody _ pre x a' _ (by omega) ⟨_, hl2.r⟩ (hputI hia hla) ((hAx x a').putObj (s := ()) _ hax (by omega) hla.r rfl) hpre) ?_
    have away : ∀ (c : Code) (W3 : World), KeepsFrom w.heap.size (Wa.putObj k (.loop (mk .busy none))) W3 → Ix c (pre ++ [x]) W3 →
        ∃ v w', (Instr.endRound k (some c)).run P W3 = .ok v w' ∧ ((Ending.returned v = .returned (.bool true) ∧ (I (pre ++ [x]) w' ∧ LoopOn k (mk .ready none) w') ∧ Kp W w') ∨ (Ending.returned v = .returned (.bool false) ∧ ∃ c, Ix c (pre ++ [x]) w' ∧ LoopOn k (mk .done (some c)) w')) := fun c W3 hkf hx3 => by
      have hl3 := hl2.from hkf (by omega)
      have hr : (Instr.endRound k (some c)).run P W3 = .ok (.bool false) (W3.putObj k (.loop (mk .done (some c)))) := by
        rw [run_endRound (P := P) (some c) hl3.r, hmk]; rfl
      exact ⟨_, _, hr, .inr ⟨rfl, c, hputX hx3 hl3, hl3.put _⟩⟩
    rintro e a3 W3 hp
    cases e with
    | normal =>
      obtain ⟨hkf, hkp, hi3⟩ := hp
      have hl3 := hl2.from hkf (by omega)
      have hr : (Instr.endRound k none).run P W3 = .ok (.bool true) (W3.putObj k (.loop (mk .ready none))) := by
        rw [run_endRound (P := P) none hl3.r, hmk]; rfl
      exact ⟨_, _, hr, .inl ⟨rfl, ⟨hputI hi3 hl3, hl3.put _⟩, hKt hkpa (hKt (hKt hk2 hkp) (hKb _ _ _ _ (by omega) hl3.r rfl rfl))⟩⟩
    | ret => exact away _ W3 hp.1 hp.2
    | exit id => exact away _ W3 hp.1 hp.2
    | goto t => exact away _ W3 hp.1 hp.2
    | panic ch => exact hp.elim
    | outgrown => exact hp.elim
  · rintro e W2 ⟨⟨v, rfl⟩, (⟨hi, hl⟩ | ⟨pre, hpre, c, hx, hl⟩)⟩
    · have hr := run_endLoop (P := P) hl.r (by rw [(hms _ _).1]; simp)
      rw [(hms _ _).2.2] at hr
      exact ⟨none, _, hr, hdone _ (hputI hi hl)⟩
    · have hr := run_endLoop (P := P) hl.r (by rw [(hms _ _).1]; simp)
      rw [(hms _ _).2.2] at hr
      exact ⟨some c, _, hr, hstop c pre _ hpre (hputX hx hl)⟩
end Go.Proofs.YtelhnaphkbpakaaDoor

namespace Go.Proofs.YtelhnaphkbpakaaDoor
open Go.RowKit
set_option linter.unusedVariables false

theorem boxAx_own {α : Type} {B : Nat} {cs : α → Array Value} {tB : TypeId} {f : α → Nat → Act} (x : α) (a' : Act) : OwnFrom B (fun (_ : Unit) W => ∃ xb, W.heap[xb]? = some (.cells (cs x) tB (0, 0)) ∧ a' = f x xb) := fun _ A C row hs hg' hr => by
  obtain ⟨xb, h1, h2⟩ := hs
  refine ⟨xb, (hg'.block _ (lt_of_some h1) (fun e => ?_)).trans h1, h2⟩
  obtain ⟨_, o, ho, hc⟩ := hr _ e.symm
  rw [h1] at ho
  cases ho
  cases hc
/-- The frame behind assign code that lays the loop's variable into a box. -/
def boxAct (tm : Array Value) (ps : Array Tmp) (xs : Array Value) (slot : Tmp) (xb : Nat) : Act := { tmps := ((ps.zip xs).foldl (fun t (p, v) => t.setIfInBounds p v) tm).setIfInBounds slot (.pointer (some ⟨xb, 0, none⟩)), defers := [] }

theorem range_TH1 {F : Fence} {n : Nat} {P : Program} {α : Type} {g : Operand} {ps : Array Tmp} {assign body : Code} {Q : Exit → Act → World → Prop} {a : Act} {w : World} {T : List TypeId}
    (hro : F.round = none) (h1 : 1 ≤ n) {gf : Nat} {lb : Array Value} (hg : a.eval g = .func (.func gf) #[] lb) (hFg : F.fn gf) (eg : ∀ args w, (callFunc gf args).run P w = .ok (.enter gf args) w)
    {encs : α → Array Value} {Kp : World → World → Prop} {L : List α} {w0 : World} (hseq : SeqT T F (n - 1) P gf lb encs Kp L w0)
    (hKt : ∀ {A B C : World}, Kp A B → Kp B C → Kp A C) (hKb : ∀ (W : World) (k : Nat) (o o' : Obj), w.heap.size ≤ k → W.heap[k]? = some o → o.isCells = false → o.isWalk = false → Kp W (W.putObj k o')) (hb0 : Below w0.heap.size w0 w) (hps : ∀ x, (encs x).size = ps.size)
    (I : List α → World → Prop) (Ix : Code → List α → World → Prop) (hI : OwnFrom w.heap.size I) (hIx : ∀ c, OwnFrom w.heap.size (Ix c)) (hIT : AbideT T w.heap.size I) (hIxT : ∀ c, AbideT T w.heap.size (Ix c)) (h0 : I [] w) (slot : Tmp) (cs : α → Array Value) (tB : TypeId)
    (hassign : ∀ (l : Nat) (pre : List α) (x : α) (W : World) (K : Act → World → Prop), I pre W → (∀ xb W', KeepsFrom w.heap.size W W' → Kp W W' → I pre W' → W'.heap[xb]? = some (.cells (cs x) tB (0, 0)) → K (boxAct a.tmps ps (encs x) slot xb) W') →
      assign.wpIn (F.inRound l) (n - 1 - 1) P (Exit.then K (fun _ _ _ => False)) { tmps := (ps.zip (encs x)).foldl (fun t (p, v) => t.setIfInBounds p v) a.tmps, defers := [] } W)
    (hbody : ∀ (l : Nat) (pre : List α) (x : α) (xb : Nat) (W : World), w.heap.size ≤ l → (∃ r, W.heap[l]? = some (.loop r)) → I pre W → W.heap[xb]? = some (.cells (cs x) tB (0, 0)) → pre ++ [x] <+: L → body.wpIn (F.inRound l) (n - 1 - 1) P (ownPostG w.heap.size Kp I Ix (pre ++ [x]) W) (boxAct a.tmps ps (encs x) slot xb) W)
    (hdone : ∀ (D : Nat) (W : World), w.heap.size ≤ D → I L W → W.heap[D]? = some (.deferred (some [])) → Q .normal { a with defers := { target := .collected D, args := #[] } :: a.defers } W)
    (hstop : ∀ (D : Nat) (c : Code) (pre : List α) (W : World), w.heap.size ≤ D → pre <+: L → Ix c pre W → W.heap[D]? = some (.deferred (some [])) → c.wpIn F n P Q { a with defers := { target := .collected D, args := #[] } :: a.defers } W) :
    (Code.rangeFunc g ps assign body).wpIn F n P Q a w :=
  range_TH hro h1 hg hFg eg hseq hKt hKb hb0 hps I Ix hI hIx hIT hIxT h0
    (fun x a' W => ∃ xb, W.heap[xb]? = some (.cells (cs x) tB (0, 0)) ∧ a' = boxAct a.tmps ps (encs x) slot xb) (fun x a' => boxAx_own (cs := cs) (tB := tB) (f := fun x xb => boxAct a.tmps ps (encs x) slot xb) x a')
    (fun l pre x W K hi hK => hassign l pre x W K hi (fun xb W' k1 k2 k3 k4 => hK _ _ k1 k2 k3 ⟨xb, k4, rfl⟩))
    (fun l pre x a' W hl hr hi hax hp => by obtain ⟨xb, h3, rfl⟩ := hax; exact hbody l pre x xb W hl hr hi h3 hp)
    hdone hstop

theorem range_TN1 {F : Fence} {n : Nat} {P : Program} {α : Type} {g : Operand} {ps : Array Tmp} {assign body : Code} {Q : Exit → Act → World → Prop} {a : Act} {w : World} {T : List TypeId}
    {l₀ : Nat} {r₀ : Loop} (hro : F.round = some l₀) (hl₀ : w.heap[l₀]? = some (.loop r₀)) (h1 : 1 ≤ n) {gf : Nat} {lb : Array Value} (hg : a.eval g = .func (.func gf) #[] lb) (hFg : F.fn gf) (eg : ∀ args w, (callFunc gf args).run P w = .ok (.enter gf args) w)
    {encs : α → Array Value} {Kp : World → World → Prop} {L : List α} {w0 : World} (hseq : SeqT T F (n - 1) P gf lb encs Kp L w0)
    (hKt : ∀ {A B C : World}, Kp A B → Kp B C → Kp A C) (hKb : ∀ (W : World) (k : Nat) (o o' : Obj), w.heap.size ≤ k → W.heap[k]? = some o → o.isCells = false → o.isWalk = false → Kp W (W.putObj k o')) (hb0 : Below w0.heap.size w0 w) (hps : ∀ x, (encs x).size = ps.size)
    (I : List α → World → Prop) (Ix : Code → List α → World → Prop) (hI : OwnFrom w.heap.size I) (hIx : ∀ c, OwnFrom w.heap.size (Ix c)) (hIT : AbideT T w.heap.size I) (hIxT : ∀ c, AbideT T w.heap.size (Ix c)) (h0 : I [] w) (slot : Tmp) (cs : α → Array Value) (tB : TypeId)
    (hassign : ∀ (l : Nat) (pre : List α) (x : α) (W : World) (K : Act → World → Prop), I pre W → (∀ xb W', KeepsFrom w.heap.size W W' → Kp W W' → I pre W' → W'.heap[xb]? = some (.cells (cs x) tB (0, 0)) → K (boxAct a.tmps ps (encs x) slot xb) W') →
      assign.wpIn (F.inRound l) (n - 1 - 1) P (Exit.then K (fun _ _ _ => False)) { tmps := (ps.zip (encs x)).foldl (fun t (p, v) => t.setIfInBounds p v) a.tmps, defers := [] } W)
    (hbody : ∀ (l : Nat) (pre : List α) (x : α) (xb : Nat) (W : World), w.heap.size ≤ l → (∃ r, W.heap[l]? = some (.loop r)) → I pre W → W.heap[xb]? = some (.cells (cs x) tB (0, 0)) → pre ++ [x] <+: L → body.wpIn (F.inRound l) (n - 1 - 1) P (ownPostG w.heap.size Kp I Ix (pre ++ [x]) W) (boxAct a.tmps ps (encs x) slot xb) W)
    (hdone : ∀ (W : World), I L W → Q .normal a W)
    (hstop : ∀ (c : Code) (pre : List α) (W : World), pre <+: L → Ix c pre W → c.wpIn F n P Q a W) :
    (Code.rangeFunc g ps assign body).wpIn F n P Q a w :=
  range_TN hro hl₀ h1 hg hFg eg hseq hKt hKb hb0 hps I Ix hI hIx hIT hIxT h0
    (fun x a' W => ∃ xb, W.heap[xb]? = some (.cells (cs x) tB (0, 0)) ∧ a' = boxAct a.tmps ps (encs x) slot xb) (fun x a' => boxAx_own (cs := cs) (tB := tB) (f := fun x xb => boxAct a.tmps ps (encs x) slot xb) x a')
    (fun l pre x W K hi hK => hassign l pre x W K hi (fun xb W' k1 k2 k3 k4 => hK _ _ k1 k2 k3 ⟨xb, k4, rfl⟩))
    (fun l pre x a' W hl hr hi hax hp => by obtain ⟨xb, h3, rfl⟩ := hax; exact hbody l pre x xb W hl hr hi h3 hp)
    hdone hstop
theorem SeqT.inRound {α : Type} {T : List TypeId} {F : Fence} {n : Nat} {P : Program} {g : Nat} {lb : Array Value} {encs : α → Array Value} {Kp : World → World → Prop} {L : List α} {w : World} (l : Nat) (h : SeqT T F n P g lb encs Kp L w) : SeqT T (F.inRound l) n P g lb encs Kp L w := h
end Go.Proofs.YtelhnaphkbpakaaDoor

namespace Go.Proofs.YtelhnaphkbpakaaDoor
open Go
set_option linter.unusedVariables false

/-- An operation that enters no Go function: and about none; and it defers nothing. -/
structure Calm (P : Program) (o : Oper) : Prop where
  noEnter : ∀ (ρ : Operand → Value) (w : World) (f : FuncId) (args : Array Value) (w' : World), (execOp ρ o).run P w ≠ .ok (.enter f args) w'
  about : ∀ w ρ, o.about P w ρ = none
  defers : ∀ c, o.op ≠ .defer c

theorem noEnter_value {P : Program} {o : Oper} {ρ : Operand → Value} (h : ∃ s : Sem Value, execOp ρ o = (s >>= fun v => pure (Next.value v))) (w : World) (f : FuncId) (args : Array Value) (w' : World) : (execOp ρ o).run P w ≠ .ok (.enter f args) w' := by
  obtain ⟨s, hs⟩ := h
  rw [hs, Sem.run_bind]
  cases s.run P w with
  | ok v w2 => simp [Result.andThen, Sem.run_pure]
  | halt h' w2 => simp [Result.andThen]
theorem calm_value {P : Program} {o : Oper} (h : ∀ ρ, ∃ s : Sem Value, execOp ρ o = (s >>= fun v => pure (Next.value v))) (ha : ∀ w ρ, o.about P w ρ = none) (hd : ∀ c, o.op ≠ .defer c) : Calm P o := ⟨fun ρ => noEnter_value (h ρ), ha, hd⟩
theorem calm_move {P : Program} {d : Option Tmp} {x : Operand} {t : TypeId} {p : String} {a : Array Edge} {g : Option (Nat × Bool)} : Calm P ⟨d, .move x, t, p, a, g⟩ :=
  ⟨fun ρ w f args w' => by simp [execOp, Sem.run_pure], fun _ _ => rfl, fun _ h => by cases h⟩
theorem calm_pick {P : Program} {d : Option Tmp} {c x y : Operand} {t : TypeId} {p : String} {a : Array Edge} {g : Option (Nat × Bool)} : Calm P ⟨d, .pick c x y, t, p, a, g⟩ :=
  ⟨fun ρ w f args w' => by
    simp only [execOp, Sem.run_bind]
    cases (asBool (ρ c)).run P w with
    | ok v w2 => simp [Result.andThen, Sem.run_pure]
    | halt h' w2 => simp [Result.andThen], fun _ _ => rfl, fun _ h => by cases h⟩

def allCalm (P : Program) : List Oper → Prop
  | [] => True
  | o :: l => Calm P o ∧ allCalm P l
theorem allCalm_get {P : Program} : ∀ {l : List Oper}, allCalm P l → ∀ {i : Nat} {o : Oper}, l[i]? = some o → Calm P o
  | [], _, i, o, h => by simp at h
  | x :: l, h, 0, o, e => by simp at e; subst e; exact h.1
  | x :: l, h, i + 1, o, e => allCalm_get h.2 (by simpa using e)

variable {F : Fence} {n : Nat} {P : Program} {ops : Array Oper} {md : Region.Mode} {w : World} {Q : Exit → Act → World → Prop}

theorem wpIn_of_still {o : Oper} {a : Act} {K : Act → Prop} {K' : Act → World → Prop} (hc : Calm P o) (h : ∀ a, K a → K' a w) (hh : o.still P a w K) : o.wpIn F n P a w K' Q := by
  refine ⟨fun f hf => (by rw [hc.about] at hf; cases hf), ?_⟩
  have e : o.semAt F.round a.eval = execOp a.eval o := by
    cases F.round with
    | none => exact Oper.semAt_none ..
    | some l => exact Oper.semAt_some l _ _ hc.defers
  rw [e]
  unfold Oper.still at hh
  have hno := hc.noEnter a.eval w
  generalize (execOp a.eval o).run P w = r at hh hno ⊢
  cases r with
  | halt x w' => exact hh.elim
  | ok x w' =>
    cases x with
    | value v => obtain ⟨rfl, hk⟩ := hh; exact h _ hk
    | skip => obtain ⟨rfl, hk⟩ := hh; exact h _ hk
    | enter f args => exact absurd rfl (hno f args w')
    | _ => exact hh.elim

theorem opIn_of_still {i : Nat} {a : Act} {K : Act → Prop} {K' : Act → World → Prop} (hc : ∀ o, ops[i]? = some o → Calm P o) (h : ∀ a, K a → K' a w) (hh : stOp P ops w i K a) : wpOpIn F n P ops Q i K' a w := by
  unfold stOp at hh
  unfold wpOpIn
  cases ho : ops[i]? with
  | none => simp only [ho] at hh ⊢; exact h _ hh
  | some o =>
    simp only [ho] at hh ⊢
    have hco := hc o ho
    by_cases hw : Region.wanted o (yielded ops a.tmps) = true
    · simp only [hw, if_true] at hh ⊢; exact wpIn_of_still hco h hh
    · simp only [hw] at hh ⊢; exact ⟨fun f hf => (by rw [hco.about] at hf; cases hf), h _ hh⟩

theorem anyIn_of_head {m g : Nat} {L : Array Bool → Act → Prop} (hc : ∀ i o, i < m → ops[i]? = some o → Calm P o) (hL : ∀ listed a, L listed a → wpAnyIn F n P md ops Q g listed a w) :
    ∀ (f : Nat) (listed : Array Bool) (a : Act), wpAnyL P md ops w m L f listed a → wpAnyIn F n P md ops Q (f + g) listed a w := by
  intro f
  induction f with
  | zero => intro listed a h; rw [Nat.zero_add]; exact hL _ _ h
  | succ f ih =>
    intro listed a h
    rw [show f + 1 + g = (f + g) + 1 by omega]
    refine ⟨fun e => absurd e h.1, fun i hi => ?_⟩
    obtain ⟨hlt, hs⟩ := h.2 i hi
    exact opIn_of_still (fun o ho => hc i o hlt ho) (fun a' h' => ih _ a' h') hs

theorem anyIn_of_seq : ∀ (l : List Oper) (k : Nat) (listed : Array Bool) (a : Act) (w : World), (∀ j, l[j]? = ops[k + j]?) → Region.seqB md ops l.length k listed = true → wpListIn F n P ops Q l a w → wpAnyIn F n P md ops Q l.length listed a w := by
  intro l
  induction l with
  | nil => intro k listed a w _ hB h; exact ⟨by simpa [Region.seqB] using hB, h⟩
  | cons o l ih =>
    intro k listed a w hl hB h
    have h0 : ops[k]? = some o := by simpa using (hl 0).symm
    simp only [List.length_cons, Region.seqB, Bool.and_eq_true, decide_eq_true_eq] at hB
    obtain ⟨hr, hB⟩ := hB
    refine ⟨fun e => (by rw [hr] at e; cases e), fun i hi => ?_⟩
    obtain rfl : i = k := by rw [hr] at hi; simpa using hi
    have hw : wpOpIn F n P ops Q i (wpListIn F n P ops Q l) a w := by unfold wpOpIn; simp only [h0]; exact h
    exact wpOpIn_mono (fun a' w' h' => ih (i + 1) _ a' w' (fun j => by have := hl (j + 1); rw [show i + 1 + j = i + (j + 1) by omega]; simpa using this) hB h') hw

/-- The first m operations only read: they are walked in the order of the text; the rest follows one by one. -/
theorem regionIn_still_tail {id : Nat} {a : Act} {l : List Oper} (m : Nat) (hm : P.follows .mixedOrders = true) (hB : Region.lexTailB .any l.toArray m = true) (hc : allCalm P (l.take m))
    (h : wpStill P l.toArray { w with drawn := w.drawn + 1 } (fun a' => wpListIn F n P l.toArray Q (l.drop m) a' { w with drawn := w.drawn + 1 }) (l.take m) a) : (Code.region id l.toArray true).wpIn F n P Q a w := by
  simp only [Region.lexTailB, Bool.and_eq_true, decide_eq_true_eq] at hB
  obtain ⟨⟨⟨⟨hsel, hn⟩, hs⟩, hch⟩, hlex⟩ := hB
  have hn' : m < l.length := by simpa using hn
  have htl : (l.take m).length = m := by simp; omega
  have hdl : (l.drop m).length = l.toArray.size - m := by simp
  have inv0 : HeadInv .any l.toArray m (Array.replicate l.toArray.size false) :=
    ⟨by simp, fun j oj _ hl => (by rw [getD_replicate_false] at hl; cases hl), fun t _ ht => getD_in (by simpa using ht) (getD_replicate_false _ _)⟩
  have H := wpAnyL_lex (md := .any) (g := l.toArray.size - m) hsel hs hch hn (l.take m) 0 _ a (fun j hj => by
    rw [htl] at hj
    simp [hj]) (by simpa using htl) inv0 (by rw [htl]; exact hlex) h
  refine wpIn_region_any hm ?_
  have R := anyIn_of_head (Q := Q) (F := F) (n := n) (g := l.toArray.size - m) (fun i o hi ho => allCalm_get hc (i := i) (by simpa [hi] using ho)) (fun listed a' hL => by
    have := anyIn_of_seq (md := .any) (Q := Q) (F := F) (n := n) (P := P) (l.drop m) m listed a' { w with drawn := w.drawn + 1 } (fun j => by simp) (by rw [hdl]; exact hL.1) hL.2
    rwa [hdl] at this) _ _ _ H
  rw [htl, show m + (l.toArray.size - m) = l.toArray.size by omega] at R
  exact R
/-- An operation whose guard passes it over. -/
theorem still_skip {Q : Act → Prop} {a : Act} {o : Oper} {rest : List Oper} (hw : Region.wanted o (yielded ops a.tmps) = false) (h : ∀ K : Act → Prop, (∀ a, wpStill P ops w Q rest a → K a) → K (a.put o.dst undef)) : wpStill P ops w Q (o :: rest) a := by
  refine wpStill_step fun K hK => ?_
  rw [hw]
  exact h K hK
/-- One operation that only reads; what stands behind it is out of sight meanwhile. -/
theorem still_one {Q : Act → Prop} {a : Act} {o : Oper} {rest : List Oper} (h : ∃ a', (∀ K : Act → Prop, RowKit.Hid (K a') → if Region.wanted o (yielded ops a.tmps) then o.still P a w K else K (a.put o.dst undef)) ∧ wpStill P ops w Q rest a') : wpStill P ops w Q (o :: rest) a := by
  obtain ⟨a', h1, h2⟩ := h
  exact wpStill_step fun K hK => h1 K (Lib.hid (hK _ h2))
theorem still_next {Q : Act → Prop} {a : Act} {o : Oper} {rest : List Oper} (h : ∀ K : Act → Prop, RowKit.Hid (∀ a, wpStill P ops w Q rest a → K a) → if Region.wanted o (yielded ops a.tmps) then o.still P a w K else K (a.put o.dst undef)) : wpStill P ops w Q (o :: rest) a :=
  wpStill_step fun K hK => h K (Lib.hid hK)
/-- The walk of what only reads, as a word of its own: Lean does not reckon it out whenever it meets it. -/
structure StillG (P : Program) (ops : Array Oper) (w : World) (Q : Act → Prop) (l : List Oper) (a : Act) : Prop where
  out : wpStill P ops w Q l a
theorem StillG.next {Q : Act → Prop} {a : Act} {o : Oper} {rest : List Oper} (h : ∀ K : Act → Prop, RowKit.Hid (∀ a, StillG P ops w Q rest a → K a) → if Region.wanted o (yielded ops a.tmps) then o.still P a w K else K (a.put o.dst undef)) : StillG P ops w Q (o :: rest) a :=
  ⟨wpStill_step fun K hK => h K (Lib.hid fun a ha => hK a ha.out)⟩
theorem StillG.done {Q : Act → Prop} {a : Act} (h : Q a) : StillG P ops w Q [] a := ⟨h⟩
theorem regionIn_still {id : Nat} {a : Act} {l : List Oper} (m : Nat) (hm : P.follows .mixedOrders = true) (hB : Region.lexTailB .any l.toArray m = true) (hc : allCalm P (l.take m))
    (h : StillG P l.toArray { w with drawn := w.drawn + 1 } (fun a' => wpListIn F n P l.toArray Q (l.drop m) a' { w with drawn := w.drawn + 1 }) (l.take m) a) : (Code.region id l.toArray true).wpIn F n P Q a w :=
  regionIn_still_tail m hm hB hc h.out
end Go.Proofs.YtelhnaphkbpakaaDoor

namespace Go.Proofs.YtelhnaphkbpakaaDoor
open Go
set_option linter.unusedVariables false
theorem calm_len {P : Program} {d : Option Tmp} {c : Call} {t : TypeId} {p : String} {a : Array Edge} {g : Option (Nat × Bool)} (hc : c.callee = .builtin .len) : Calm P ⟨d, .call c, t, p, a, g⟩ := by
  obtain ⟨cl, args, ty⟩ := c
  simp only at hc
  subst hc
  refine ⟨fun ρ => noEnter_value ⟨Builtin.len_ ty t (args.map ρ), ?_⟩, fun w ρ => ?_, fun _ h => by cases h⟩
  · simp [execOp, resolve, invoke, builtin]
  · simp [Oper.about, resolve, Target.leads, Sem.run_pure]
theorem ne_bind {P : Program} {α : Type} {s : Sem α} {k : α → Sem Next} {f : FuncId} {args : Array Value} {w' : World} (h : ∀ v w1, (k v).run P w1 ≠ .ok (.enter f args) w') (w : World) : (s >>= k).run P w ≠ .ok (.enter f args) w' := by
  rw [Sem.run_bind]
  cases s.run P w with
  | ok v w2 => exact h v w2
  | halt x w2 => simp [Result.andThen]
theorem calm_nilCheck {P : Program} {d : Option Tmp} {x : Operand} {t : TypeId} {p : String} {a : Array Edge} {g : Option (Nat × Bool)} : Calm P ⟨d, .nilCheck x, t, p, a, g⟩ := by
  refine ⟨fun ρ w f args w' => ?_, fun _ _ => rfl, fun _ h => by cases h⟩
  simp only [execOp]
  split
  · simp [runtimePanic, Sem.run_bind, Result.andThen, go_sem]
  · simp [runtimePanic, Sem.run_bind, Result.andThen, go_sem]
  · simp [runtimePanic, Sem.run_bind, Result.andThen, go_sem]
  · split
    · simp [runtimePanic, Sem.run_bind, Result.andThen, go_sem]
    · refine ne_bind (fun p w1 => ne_bind (fun q w2 => ?_) w1) w
      split
      · exact ne_bind (fun _ w3 => by simp [Sem.run_pure]) w2
      · simp [Sem.run_pure]
    · simp [Sem.run_pure]
  · simp [Sem.run_pure]
end Go.Proofs.YtelhnaphkbpakaaDoor

namespace Go.Proofs.YtelhnaphkbpakaaDoor
open Go.RowKit
set_option linter.unusedVariables false

structure Ar where
  S : Nat
  G : Nat
  all : List (Nat × Bool × List Value)
  free : List Nat
  count : Nat
  ret : Nat

def scells (l : List (Nat × Bool × List Value)) : List Value := l.flatMap fun s => .int .u32 (s.1 : Int) :: .bool s.2.1 :: s.2.2
def fcells (l : List Nat) : List Value := l.map fun (k : Nat) => Value.int .u32 (k : Int)

/-- The shape of each slot's thing: m cells. -/
structure Ar.Ok (A : Ar) (m : Nat) : Prop where
  S1 : 1 ≤ A.S
  S2 : A.S ≤ 2147483647
  G1 : 1 ≤ A.G
  G2 : A.G ≤ 4294967295
  len : A.all.length ≤ A.S
  gen : ∀ s ∈ A.all, 1 ≤ s.1 ∧ s.1 ≤ A.G
  thing : ∀ s ∈ A.all, s.2.2.length = m
  free : ∀ f ∈ A.free, ∃ g t, A.all[f]? = some (g, false, t) ∧ g < A.G
  nodup : A.free.Nodup
  cnt : A.count = A.all.countP (fun s => s.2.1)
  sum : A.count + A.ret + A.free.length = A.all.length

theorem scells_length {m : Nat} : ∀ {l : List (Nat × Bool × List Value)}, (∀ s ∈ l, s.2.2.length = m) → (scells l).length = l.length * (m + 2)
  | [], _ => by simp [scells]
  | s :: l, h => by
    have ih := scells_length (l := l) fun s hs => h s (List.mem_cons_of_mem _ hs)
    have h1 := h s (List.mem_cons_self ..)
    simp only [scells, List.flatMap_cons, List.length_append, List.length_cons] at ih ⊢
    rw [ih, h1]; simp only [Nat.add_mul]; omega

theorem scells_append (a b : List (Nat × Bool × List Value)) : scells (a ++ b) = scells a ++ scells b := by simp [scells]

/-- The cells of slot k. -/
theorem scells_at {m : Nat} {l : List (Nat × Bool × List Value)} (h : ∀ s ∈ l, s.2.2.length = m) {k : Nat} {s : Nat × Bool × List Value} (hk : l[k]? = some s) (i : Nat) (hi : i < m + 2) :
    (scells l)[k * (m + 2) + i]? = (Value.int .u32 (s.1 : Int) :: .bool s.2.1 :: s.2.2)[i]? := by
  induction l generalizing k with
  | nil => simp at hk
  | cons x l ih =>
    have hx := h x (List.mem_cons_self ..)
    have e : scells (x :: l) = (Value.int .u32 (x.1 : Int) :: .bool x.2.1 :: x.2.2) ++ scells l := by simp [scells]
    rw [e]
    cases k with
    | zero =>
      simp at hk; subst hk
      rw [List.getElem?_append_left (by simp; omega)]; simp
    | succ k =>
      rw [List.getElem?_append_right (by simp [Nat.add_mul]; omega)]
      have := ih (fun s hs => h s (List.mem_cons_of_mem _ hs)) (by simpa using hk)
      rw [← this]
      congr 1
      simp [Nat.add_mul]; omega

/-- Slot k written anew, as a list of cells. -/
theorem scells_set {m : Nat} {l : List (Nat × Bool × List Value)} (h : ∀ s ∈ l, s.2.2.length = m) {k : Nat} (s : Nat × Bool × List Value) (hk : k < l.length) (hs : s.2.2.length = m) :
    scells (l.set k s) = (scells l).take (k * (m + 2)) ++ (Value.int .u32 (s.1 : Int) :: .bool s.2.1 :: s.2.2) ++ (scells l).drop (k * (m + 2) + (m + 2)) := by
  induction l generalizing k with
  | nil => simp at hk
  | cons x l ih =>
    have hx := h x (List.mem_cons_self ..)
    have e : scells (x :: l) = (Value.int .u32 (x.1 : Int) :: .bool x.2.1 :: x.2.2) ++ scells l := by simp [scells]
    have hl : (Value.int .u32 (x.1 : Int) :: .bool x.2.1 :: x.2.2).length = m + 2 := by simp [hx]
    cases k with
    | zero =>
      rw [e, List.drop_append_of_le_length (by rw [hl]; omega)]
      rw [List.drop_of_length_le (by rw [hl]; omega)]
      simp [scells]
    | succ k =>
      have ih' := ih (fun s hs => h s (List.mem_cons_of_mem _ hs)) (by simpa using hk)
      have e2 : scells (x :: l.set k s) = (Value.int .u32 (x.1 : Int) :: .bool x.2.1 :: x.2.2) ++ scells (l.set k s) := by simp [scells]
      rw [List.set_cons_succ, e2, e, ih']
      have e3 : (k + 1) * (m + 2) = (Value.int .u32 (x.1 : Int) :: .bool x.2.1 :: x.2.2).length + k * (m + 2) := by rw [hl, Nat.add_mul]; omega
      rw [e3, List.take_length_add_append, Nat.add_assoc, List.drop_length_add_append]
      simp

def Ar.live (A : Ar) (s g : Nat) : Bool := decide (1 ≤ s) && (match A.all[s - 1]? with | some x => x.2.1 && x.1 == g | none => false)

def Ar.alloc (A : Ar) (z x : List Value) : Ar × Nat × Nat × Nat :=
  match A.free.getLast? with
  | some k =>
    let g := (A.all.getD k (0, false, z)).1 + 1
    ({ A with all := A.all.set k (g, true, x), free := A.free.dropLast, count := A.count + 1 }, k + 1, g, 0)
  | none =>
    if A.all.length < A.S then ({ A with all := A.all ++ [(1, true, x)], count := A.count + 1 }, A.all.length + 1, 1, 0)
    else (A, 0, 0, 52)

def Ar.drop (A : Ar) (z : List Value) (s g : Nat) : Ar × Nat :=
  if A.live s g then
    if g < A.G then ({ A with all := A.all.set (s - 1) (g, false, z), free := A.free ++ [s - 1], count := A.count - 1 }, 0)
    else ({ A with all := A.all.set (s - 1) (g, false, z), count := A.count - 1, ret := A.ret + 1 }, 0)
  else (A, 51)

def Ar.get (A : Ar) (z : List Value) (s g : Nat) : List Value × Nat := if A.live s g then ((A.all.getD (s - 1) (0, false, z)).2.2, 0) else (z, 51)
def Ar.put (A : Ar) (x : List Value) (s g : Nat) : Ar × Nat := if A.live s g then ({ A with all := A.all.set (s - 1) (g, true, x) }, 0) else (A, 51)

theorem Ar.live_iff {A : Ar} {s g : Nat} : A.live s g = true ↔ 1 ≤ s ∧ ∃ t, A.all[s - 1]? = some (g, true, t) := by
  unfold Ar.live
  simp only [Bool.and_eq_true, decide_eq_true_eq]
  refine and_congr Iff.rfl ?_
  cases h : A.all[s - 1]? with
  | none => simp
  | some x => obtain ⟨a, b, c⟩ := x; simp; constructor <;> (rintro ⟨rfl, rfl⟩; exact ⟨rfl, rfl⟩)

/-- An arena in memory: its struct in block ab, its slots and its list of free ones in rows of their own. tA, tS, tF: the three types; m: a thing's cells. -/
structure ArAt (tA tS tF m B : Nat) (w : World) (ab : Nat) (A : Ar) (av fv : Value) : Prop where
  ok : A.Ok m
  base : B ≤ ab
  blk : w.heap[ab]? = some (.cells #[.int .i64 (A.S : Int), .int .i64 (A.G : Int), av, fv, .int .i64 (A.count : Int), .int .i64 (A.ret : Int)] tA (0, 0))
  rowA : w.ownsRow B tS (m + 2) av A.all.length (scells A.all)
  rowF : w.ownsRow B tF 1 fv A.free.length (fcells A.free)

theorem ArAt.kept {tA tS tF m B : Nat} {w w' : World} {ab : Nat} {A : Ar} {av fv : Value} (h : ArAt tA tS tF m B w ab A av fv) {T : List TypeId} {B' : Nat} (hf : FrT T B' w w') (h1 : tA ∉ T) (h2 : tS ∉ T) (h3 : tF ∉ T) : ArAt tA tS tF m B w' ab A av fv :=
  ⟨h.ok, h.base, hf.blk h.blk h1, hf.row h.rowA h2, hf.row h.rowF h3⟩

theorem ArAt.below {tA tS tF m B : Nat} {w w' : World} {ab : Nat} {A : Ar} {av fv : Value} (h : ArAt tA tS tF m B w ab A av fv) (hf : Below w.heap.size w w') : ArAt tA tS tF m B w' ab A av fv :=
  h.kept (FrT.of_below (T := []) (B := 0) hf) (by simp) (by simp) (by simp)
end Go.Proofs.YtelhnaphkbpakaaDoor

namespace Go.Proofs.YtelhnaphkbpakaaDoor
open Go.RowKit
set_option linter.unusedVariables false

theorem under31 : Tryd.prog.underlying 31 = some (.struct (Tryd.prog.fieldsOf 31)) := by kernel_rfl
theorem fields31 : (Tryd.prog.fieldsOf 31).toList.map (fun f => (f.name, f.type, f.offset)) = [("Slot", 29, 0), ("Gen", 29, 1)] := by kernel_rfl
theorem stood31 : Tryd.prog.stoodInHeld 31 = false := by kernel_rfl
theorem guard31 : Tryd.prog.eqGuardType Tryd.prog.depth 31 = false := by kernel_rfl

/-- Are two handles one? -/
def hEq (a b c e : Int) : Bool := a == c && b == e
theorem hEq_true {a b c e : Int} (h1 : a = c) (h2 : b = e) : hEq a b c e = true := by simp [hEq, h1, h2]
theorem hEq_false {a b c e : Int} (h : a ≠ c ∨ b ≠ e) : hEq a b c e = false := by
  unfold hEq
  rcases h with h | h <;> simp [h]
theorem hEq_iff {a b c e : Int} : hEq a b c e = true ↔ a = c ∧ b = e := by simp [hEq]

theorem equalIn_handle (d : Nat) (a b c e : Int) (w : World) : (Op.equalIn (d + 1 + 1) 31 (.agg #[.int .u32 a, .int .u32 b]) (.agg #[.int .u32 c, .int .u32 e])).run Tryd.prog w = .ok (a == c && b == e) w := by
  rw [run_equalIn_struct w (d + 1) 31 _ _ under31 stood31]
  have hf := fields31
  generalize (Tryd.prog.fieldsOf 31).toList = fs at hf
  obtain ⟨f0, f1, rfl⟩ : ∃ f0 f1, fs = [f0, f1] := by
    have hl := congrArg List.length hf
    simp at hl
    match fs, hl with
    | [f0, f1], _ => exact ⟨f0, f1, rfl⟩
  simp only [List.map_cons, List.map_nil, List.cons.injEq, Prod.mk.injEq, and_true] at hf
  obtain ⟨⟨n0, t0, o0⟩, ⟨n1, t1, o1⟩⟩ := hf
  have hu := Tryd.underlying29
  simp [Op.eqFields, n0, n1, t0, t1, o0, o1, go_sem, hu]
  by_cases h : a = c
  · by_cases h2 : b = e <;> simp [h, h2]
  · simp [h]

@[go_sem ↓ high] theorem eql_handle (a b c e : Int) (w : World) : (binOp .eql 31 (.agg #[.int .u32 a, .int .u32 b]) (.agg #[.int .u32 c, .int .u32 e])).run Tryd.prog w = .ok (.bool (hEq a b c e)) w := by
  rw [run_eql_struct, show (10000 : Nat) = 9998 + 1 + 1 from rfl, equalIn_handle]; rfl
@[go_sem ↓ high] theorem neq_handle (a b c e : Int) (w : World) : (binOp .neq 31 (.agg #[.int .u32 a, .int .u32 b]) (.agg #[.int .u32 c, .int .u32 e])).run Tryd.prog w = .ok (.bool (!hEq a b c e)) w := by
  rw [run_neq_struct, show (10000 : Nat) = 9998 + 1 + 1 from rfl, equalIn_handle]; rfl
@[go_sem ↓ high] theorem guard_handle (op : BinOp) (x y : Operand) (xs ys : Array Value) (w : World) : (eqGuard op 31 x y (.agg xs) (.agg ys)).run Tryd.prog w = .ok () w := run_eqGuard_agg w op 31 x y xs ys guard31
end Go.Proofs.YtelhnaphkbpakaaDoor

