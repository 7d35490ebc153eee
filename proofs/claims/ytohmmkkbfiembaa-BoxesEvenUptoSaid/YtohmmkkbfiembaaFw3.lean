/- The program's closure that is told a target: the size between its bounds, what it is over. -/
import Derived.Test.YtohmmkkbfiembaaFw2
import Derived.Deep.RegionHeld3
namespace Go.Proofs.Ytohmmkkbfiembaa
open Go.RowKit Go.Shelf
attribute [local go_sem] Oper.semAt_some
attribute [local go_sem] run_store_float
set_option linter.unusedVariables false
set_option maxRecDepth 100000

/-- w' is w but for new blocks and for those of P. -/
structure Onl (P : Nat → Prop) (w w' : World) : Prop where
  os : w'.os = w.os
  tape : w'.tape = w.tape
  output : w'.output = w.output
  size : w.heap.size ≤ w'.heap.size
  block : ∀ (k : Nat) o, ¬ P k → w.heap[k]? = some o → w'.heap[k]? = some o
section
variable {P : Nat → Prop} {w w' w'' : World}
theorem Onl.refl (P : Nat → Prop) (w : World) : Onl P w w := ⟨rfl, rfl, rfl, Nat.le_refl _, fun _ _ _ h => h⟩
theorem Onl.trans (h : Onl P w w') (k : Onl P w' w'') : Onl P w w'' := ⟨k.os.trans h.os, k.tape.trans h.tape, k.output.trans h.output, Nat.le_trans h.size k.size, fun i o hi ho => k.block i o hi (h.block i o hi ho)⟩
theorem Onl.drew (h : Onl P w w') : Onl P w w'.drew := ⟨h.os, h.tape, h.output, h.size, h.block⟩
theorem Onl.drewN (h : Onl P w w') (n : Nat) : Onl P w (w'.drewN n) := ⟨h.os, h.tape, h.output, h.size, h.block⟩
theorem Onl.set (h : Onl P w w') {a : Addr} (ha : P a.block) (v : Value) : Onl P w (w'.setCell a v) := h.trans ⟨rfl, rfl, rfl, by simp, fun k o hk ho => (heap_setCell_other _ _ _ _ (fun e => hk (by rw [e]; exact ha))).trans ho⟩
theorem Onl.of_below (h : Below w.heap.size w w') : Onl P w w' := ⟨h.os, h.tape, h.output, h.size, fun k o _ hk => (h.block k (lt_of_some hk)).trans hk⟩
theorem Onl.low (h : Onl P w w') {B : Nat} (hB : B ≤ w.heap.size) (hP : ∀ k, P k → B ≤ k) : Below B w w' := ⟨h.os, h.tape, h.output, h.size, fun k hk => by
  have hl : k < w.heap.size := Nat.lt_of_lt_of_le hk hB
  have e : w.heap[k]? = some w.heap[k] := Array.getElem?_eq_getElem hl
  rw [e]; exact h.block k _ (fun hp => by have := hP k hp; omega) e⟩
theorem Onl.mono {P' : Nat → Prop} (h : Onl P w w') (hP : ∀ k, P k → P' k) : Onl P' w w' := ⟨h.os, h.tape, h.output, h.size, fun k o hk ho => h.block k o (fun hp => hk (hP k hp)) ho⟩
end
theorem fl_drew {w : World} {b n : Nat} {f : Nat → Nat} (h : Fl w b n f) : Fl w.drew b n f := h
theorem bl_drew {w : World} {b n : Nat} {f : Nat → Bool} (h : Bl w b n f) : Bl w.drew b n f := h
theorem fl_other {w : World} {b n : Nat} {f : Nat → Nat} (h : Fl w b n f) {a : Addr} (hb : b ≠ a.block) (v : Value) : Fl (w.setCell a v) b n f := (heap_setCell_other _ _ _ _ hb).trans h
theorem bl_other {w : World} {b n : Nat} {f : Nat → Bool} (h : Bl w b n f) {a : Addr} (hb : b ≠ a.block) (v : Value) : Bl (w.setCell a v) b n f := (heap_setCell_other _ _ _ _ hb).trans h

set_option maxHeartbeats 2000000 in
theorem tell_calls (w : World) {lb hb sb ob lo hi sz ov n i t o : Nat} {L H S O : Nat → Nat} (hi' : i < n) (hl : Bd 1074 (2 ^ 25) (L i)) (hh : Bd 1074 (2 ^ 25) (H i)) (ht : Num t) (ho : Ieee.double.sub (btwD (L i) t (H i)) t = some o)
    (c0 : w.cell? ⟨lb, 0, none⟩ = some (.slice (some ⟨lo, 0, none⟩) n n)) (c1 : w.cell? ⟨hb, 0, none⟩ = some (.slice (some ⟨hi, 0, none⟩) n n)) (c2 : w.cell? ⟨sb, 0, none⟩ = some (.slice (some ⟨sz, 0, none⟩) n n)) (c3 : w.cell? ⟨ob, 0, none⟩ = some (.slice (some ⟨ov, 0, none⟩) n n))
    (h0 : Fl w lo n L) (h1 : Fl w hi n H) (h2 : Fl w sz n S) (h3 : Fl w ov n O)
    (d1 : sz ≠ lb ∧ sz ≠ hb ∧ sz ≠ sb ∧ sz ≠ ob ∧ sz ≠ lo ∧ sz ≠ hi ∧ sz ≠ ov) (d2 : ov ≠ lb ∧ ov ≠ hb ∧ ov ≠ sb ∧ ov ≠ ob ∧ ov ≠ lo ∧ ov ≠ hi) :
    Calls Try.prog 28 #[.int .i64 (i : Int), fl t, .pointer (some ⟨lb, 0, none⟩), .pointer (some ⟨hb, 0, none⟩), .pointer (some ⟨sb, 0, none⟩), .pointer (some ⟨ob, 0, none⟩)] w
      fun e w' => e = .returned (.tuple #[]) ∧ Fl w' sz n (fun j => if j = i then btwD (L i) t (H i) else S j) ∧ Fl w' ov n (fun j => if j = i then o else O j) ∧ Onl (fun k => k = sz ∨ k = ov) w w' := by
  have x0 : w.drew.cell? ⟨lo, i, none⟩ = some (fl (L i)) := h0.cell hi'
  have x1 : w.drew.cell? ⟨hi, i, none⟩ = some (fl (H i)) := h1.cell hi'
  have HC := Lib.hid (fun W => btwB_calls W (L i) t (H i) hl.num ht hh.num)
  obtain ⟨v, hv⟩ : ∃ v, v = btwD (L i) t (H i) := ⟨_, rfl⟩
  rw [← hv] at HC ho ⊢
  clear hv
  have hop := hsub ho
  have ne := fun (b k : Nat) (u v : Value) (hb : b ≠ sz) (hc : w.cell? ⟨b, k, none⟩ = some u) => (set_cell_ne (w := w) (a := ⟨sz, i, none⟩) (p := ⟨b, k, none⟩) v hb).trans hc
  have y0 : (w.setCell ⟨sz, i, none⟩ (fl v)).drew.cell? ⟨lb, 0, none⟩ = _ := ne _ _ _ _ (Ne.symm d1.1) c0
  have y1 : (w.setCell ⟨sz, i, none⟩ (fl v)).drew.cell? ⟨hb, 0, none⟩ = _ := ne _ _ _ _ (Ne.symm d1.2.1) c1
  have y2 : (w.setCell ⟨sz, i, none⟩ (fl v)).drew.cell? ⟨sb, 0, none⟩ = _ := ne _ _ _ _ (Ne.symm d1.2.2.1) c2
  have z0 : (w.setCell ⟨sz, i, none⟩ (fl v)).drew.cell? ⟨lo, i, none⟩ = _ := ne _ _ _ _ (Ne.symm d1.2.2.2.2.1) x0
  have z1 : (w.setCell ⟨sz, i, none⟩ (fl v)).drew.cell? ⟨hi, i, none⟩ = _ := ne _ _ _ _ (Ne.symm d1.2.2.2.2.2.1) x1
  have x2 : w.drew.cell? ⟨sz, i, none⟩ = some (fl (S i)) := h2.cell hi'
  have f2 : w.drew.frozen? ⟨sz, i, none⟩ = false := free_blk h2 i
  go_enter Try.func28, Try.ntmps28
  go_wp2
  go_region_held3 (fun W => W.cell? ⟨lb, 0, none⟩ = some (.slice (some ⟨lo, 0, none⟩) n n) ∧ W.cell? ⟨hb, 0, none⟩ = some (.slice (some ⟨hi, 0, none⟩) n n) ∧ W.cell? ⟨sb, 0, none⟩ = some (.slice (some ⟨sz, 0, none⟩) n n) ∧ W.cell? ⟨lo, i, none⟩ = some (fl (L i)) ∧ W.cell? ⟨hi, i, none⟩ = some (fl (H i))) (first | exact ⟨c0, c1, c2, x0, x1⟩ | exact ⟨y0, y1, y2, z0, z1⟩) (first | (go_at_call 25; refine (HC.out _).mono ?_; rintro e w1 ⟨rfl, rfl⟩))
  obtain ⟨W, hW⟩ : ∃ W, W = (w.setCell ⟨sz, i, none⟩ (fl v)).drew := ⟨_, rfl⟩
  have g2 : Fl W sz n (fun j => if j = i then v else S j) := by rw [hW]; exact h2.set i v
  have g3 : Fl W ov n O := by rw [hW]; exact fl_other h3 d1.2.2.2.2.2.2.symm _
  have gl : Onl (fun k => k = sz ∨ k = ov) w W := by rw [hW]; exact ((Onl.refl _ _).set (.inl rfl) _).drew
  have b2 : W.drew.cell? ⟨sb, 0, none⟩ = some (.slice (some ⟨sz, 0, none⟩) n n) := by rw [hW]; exact y2
  have b3 : W.drew.cell? ⟨ob, 0, none⟩ = some (.slice (some ⟨ov, 0, none⟩) n n) := by rw [hW]; exact ne _ _ _ _ (Ne.symm d1.2.2.2.1) c3
  have k2 : W.drew.cell? ⟨sz, i, none⟩ = some (fl v) := by have := g2.cell hi'; rwa [if_pos rfl] at this
  have k3 : W.drew.cell? ⟨ov, i, none⟩ = some (fl (O i)) := g3.cell hi'
  have kf : W.drew.frozen? ⟨ov, i, none⟩ = false := free_blk g3 i
  have ne2 := fun (b k : Nat) (u v : Value) (hb : b ≠ ov) (hc : W.cell? ⟨b, k, none⟩ = some u) => (set_cell_ne (w := W) (a := ⟨ov, i, none⟩) (p := ⟨b, k, none⟩) v hb).trans hc
  have m2 : (W.setCell ⟨ov, i, none⟩ (fl o)).drew.cell? ⟨sb, 0, none⟩ = _ := ne2 _ _ _ _ d2.2.2.1.symm b2
  have m3 : (W.setCell ⟨ov, i, none⟩ (fl o)).drew.cell? ⟨ob, 0, none⟩ = _ := ne2 _ _ _ _ d2.2.2.2.1.symm b3
  have n2 : (W.setCell ⟨ov, i, none⟩ (fl o)).drew.cell? ⟨sz, i, none⟩ = _ := ne2 _ _ _ _ d1.2.2.2.2.2.2 k2
  have d3 := d1.2.2.2.2.2.2
  have HG := Lib.hid (And.intro g2 (And.intro g3 gl))
  clear c0 c1 c2 c3 h0 h1 h2 h3 x0 x1 x2 f2 y0 y1 y2 z0 z1 ne ne2 hl hh ht ho d1 d2 g2 g3 gl
  rw [show (w.setCell ⟨sz, i, none⟩ (Value.float FloatKind.f64 v)).drew = W from hW.symm]
  clear hW
  go_wp2_with fail
  go_region_held3 (fun Wx => Wx.cell? ⟨sb, 0, none⟩ = some (.slice (some ⟨sz, 0, none⟩) n n) ∧ Wx.cell? ⟨ob, 0, none⟩ = some (.slice (some ⟨ov, 0, none⟩) n n) ∧ Wx.cell? ⟨sz, i, none⟩ = some (fl v)) (first | exact ⟨b2, b3, k2⟩ | exact ⟨m2, m3, n2⟩) (simp only [hop])
  go_wp2_with fail
  go_end0
  exact ⟨rfl, fl_other (fl_drew HG.out.1) d3 _, HG.out.2.1.set i o, ((HG.out.2.2).set (.inr rfl) _).drew⟩
end Go.Proofs.Ytohmmkkbfiembaa
