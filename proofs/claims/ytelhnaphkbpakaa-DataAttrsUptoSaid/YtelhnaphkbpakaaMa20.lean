/- What DataUnits is given; small laws. No program. What DataUnits' loops ask of a row that a call told; the boxes. No program. The document's reading of a code point: what it is by the table of sequences. No program. The document's code, first and Named walked. -/
import Derived.Test.YtelhnaphkbpakaaMa19
namespace Go.Proofs.Ytelhnaphkbpakaa
open Go.RowKit
set_option linter.unusedVariables false
set_option maxRecDepth 100000

def cutCells (N : Nd) (off cnt : Int) (ba : Option Addr) (ul bc : Nat) : Array Value :=
  #[.int .i64 N.kind, .string N.name, .slice N.da N.data.length N.dc, .slice N.aa N.L.length N.ac, .int .u32 N.slot, .int .u32 N.gen, .int .i64 off, .int .i64 cnt, .slice ba ul bc]
theorem cut_cells {w : World} {b : Nat} {N : Nd} {off cnt : Int} {ba : Option Addr} {ul bc : Nat} (h : w.heap[b]? = some (.cells (cutCells N off cnt ba ul bc) 40 (0, 0))) :
    w.cell? ⟨b, 0, none⟩ = some (.int .i64 N.kind) ∧ w.cell? ⟨b, 1, none⟩ = some (.string N.name) ∧ w.cell? ⟨b, 2, none⟩ = some (.slice N.da N.data.length N.dc) ∧ w.cell? ⟨b, 3, none⟩ = some (.slice N.aa N.L.length N.ac) ∧ w.cell? ⟨b, 4, none⟩ = some (.int .u32 N.slot) ∧ w.cell? ⟨b, 5, none⟩ = some (.int .u32 N.gen) ∧
    w.cell? ⟨b, 6, none⟩ = some (.int .i64 off) ∧ w.cell? ⟨b, 7, none⟩ = some (.int .i64 cnt) ∧ w.cell? ⟨b, 8, none⟩ = some (.slice ba ul bc) ∧ b < w.heap.size :=
  ⟨cell_blk h 0 rfl, cell_blk h 1 rfl, cell_blk h 2 rfl, cell_blk h 3 rfl, cell_blk h 4 rfl, cell_blk h 5 rfl, cell_blk h 6 rfl, cell_blk h 7 rfl, cell_blk h 8 rfl, lt_of_some h⟩
theorem six_other {w : World} {k g : Nat} {o : Obj} (h : w.heap[k]? = some o) (hne : k ≠ g) (v0 v1 v2 v3 v4 v5 : Value) :
    ((((((w.setCell ⟨g, 0, none⟩ v0).setCell ⟨g, 1, none⟩ v1).setCell ⟨g, 2, none⟩ v2).setCell ⟨g, 3, none⟩ v3).setCell ⟨g, 4, none⟩ v4).setCell ⟨g, 5, none⟩ v5).heap[k]? = some o :=
  set_other (set_other (set_other (set_other (set_other (set_other h hne _) hne _) hne _) hne _) hne _) hne _
theorem Nd.Bd.mono {N : Nd} {b b' : Nat} (h : N.Bd b) (hb : b ≤ b') : N.Bd b' := ⟨Nat.le_trans h.data hb, Nat.le_trans h.attrs hb, fun x hx => Nat.le_trans (h.val x hx) hb⟩

/-- A bound of what a node has, wherever it lies. -/
structure NC.Bd (c : NC) (b : Nat) : Prop where
  data : c.data.length ≤ b
  attrs : c.attrs.length ≤ b
  val : ∀ x ∈ c.attrs, x.2.length ≤ b
theorem Nd.Bd.c {N : Nd} {b : Nat} (h : N.Bd b) : N.c.Bd b := ⟨h.data, by unfold Nd.c; simp; exact h.attrs, fun x hx => by
  unfold Nd.c at hx
  obtain ⟨y, hy, rfl⟩ := List.mem_map.1 hx
  exact h.val y hy⟩
theorem NC.Bd.nd {N : Nd} {b : Nat} (h : N.c.Bd b) : N.Bd b := ⟨h.data, by have := h.attrs; unfold Nd.c at this; simpa using this, fun x hx => h.val (attrOf x) (List.mem_map.2 ⟨x, hx, rfl⟩)⟩
theorem NC.Bd.zero (b : Nat) : NC.zero.Bd b := ⟨Nat.zero_le _, Nat.zero_le _, (fun _ hx => absurd hx (List.not_mem_nil))⟩
theorem replD_bd {c : NC} {b : Nat} (h : c.Bd b) (off cnt : Int) (us : List Nat) {b' : Nat} (hb : b ≤ b') (hs : b + us.length + b ≤ b') : (replD c off cnt us).1.Bd b' := by
  unfold replD
  split
  · refine ⟨?_, Nat.le_trans h.attrs hb, fun x hx => Nat.le_trans (h.val x hx) hb⟩
    have := h.data
    simp only [List.length_append, List.length_take, List.length_drop]
    omega
  · exact NC.Bd.zero _
/-- What Sub tells, if it tells anything. -/
def subX (k off cnt : Int) (data : List Nat) : List Nat := if (partD k off cnt data.length).2 = 0 then subD k off cnt data else []
theorem subX_len (k off cnt : Int) (data : List Nat) : (subX k off cnt data).length ≤ data.length := by
  unfold subX
  split
  · unfold subD; rw [List.length_take, List.length_drop]; omega
  · simp
theorem sub_u (w : World) (N : Nd) (h : NdIn w N) (hB : N.Bd 1099511627776) (off cnt : Int) {k : Int} {xs : List Nat} (e1 : (partD N.kind off cnt N.data.length).2 = k) (e2 : subX N.kind off cnt N.data = xs) :
    Calls Try.prog 23 #[N.v, .int .i64 off, .int .i64 cnt] w fun e w' => ∃ a, e = .returned (.tuple #[.slice a xs.length xs.length, .int .i64 k]) ∧ Clip16 w.heap.size w' a xs ∧ Below w.heap.size w w' := by
  refine (sub_calls w N h hB off cnt).mono ?_
  rintro e w' ⟨hb, hc⟩
  unfold subX at e2
  rcases hc with ⟨h1, h2⟩ | ⟨h1, a, h2, h3⟩
  · rw [if_neg h1] at e2
    subst e2
    exact ⟨none, by rw [h2, e1]; rfl, Clip16.nil _ _, hb⟩
  · rw [if_pos h1] at e2
    subst e2
    rw [h1] at e1
    subst e1
    exact ⟨a, h2, h3, hb⟩
theorem subR_u (w : World) (N : Nd) (h : NdIn w N) (hB : N.Bd 1099511627776) (off cnt : Int) {k : Int} {xs : List Nat} (e1 : (partD N.kind off cnt N.data.length).2 = k) (e2 : subX N.kind off cnt N.data = xs) :
    Calls Try.prog 24 #[N.v, .int .i64 off, .int .i64 cnt] w fun e w' => ∃ a c, e = .returned (.tuple #[.slice a xs.length c, .int .i64 k]) ∧ Clip16 w.heap.size w' a xs ∧ Below w.heap.size w w' := by
  refine (subR_calls w N h hB off cnt).mono ?_
  rintro e w' ⟨hb, hc⟩
  unfold subX at e2
  rcases hc with ⟨h1, h2⟩ | ⟨h1, a, c, h2, h3⟩
  · rw [if_neg h1] at e2
    subst e2
    exact ⟨none, 0, by rw [h2, e1]; rfl, Clip16.nil _ _, hb⟩
  · rw [if_pos h1] at e2
    subst e2
    rw [h1] at e1
    subst e1
    exact ⟨a, c, h2, h3, hb⟩

theorem OutW.grown {lo hi : Nat} {V w w' : World} (h : OutW lo hi V w) {row : Option Nat} (hg : w.grownBy w' row) (hr : ∀ k, row = some k → V.heap.size ≤ k ∨ (lo ≤ k ∧ k < hi)) : OutW lo hi V w' :=
  ⟨Nat.le_trans h.size hg.size, hg.os.trans h.os, hg.tape.trans h.tape, hg.output.trans h.output, fun k o hk ho => by
    have h1 := h.block k o hk ho
    refine (hg.block k (lt_of_some h1) (fun e => ?_)).trans h1
    have h2 := lt_of_some hk
    rcases hr k e.symm with h3 | h3 <;> omega⟩
theorem OutW.set {lo hi : Nat} {V w : World} (h : OutW lo hi V w) {a : Addr} (h1 : lo ≤ a.block) (h2 : a.block < hi) (v : Value) : OutW lo hi V (w.setCell a v) :=
  ⟨by rw [World.size_setCell]; exact h.size, h.os, h.tape, h.output, fun k o hk ho => set_other (h.block k o hk ho) (by rintro rfl; omega) v⟩
theorem OutW.drewN {lo hi : Nat} {V w : World} (h : OutW lo hi V w) (k : Nat) : OutW lo hi V (w.drewN k) := ⟨h.size, h.os, h.tape, h.output, h.block⟩

/-- What the law has in hand after its first steps: the box of what it was given, the node and the units lent. -/
structure CutSt (w : World) (N : Nd) (off cnt : Int) (ba : Option Addr) (bc : Nat) (us : List Nat) (b4 : Nat) (M : Nd) (a5 : Option Addr) (c5 : Nat) (W : World) : Prop where
  bx : W.heap[w.heap.size]? = some (.cells (cutCells N off cnt ba us.length bc) 40 (0, 0))
  x : W.heap[b4]? = some (.cells M.cells 30 (0, 0))
  m : LentNd w.heap.size W M
  by_ : LentU w.heap.size W a5 c5 us
  same : M.Same N
  low : Below w.heap.size w W
theorem CutSt.below {w : World} {N : Nd} {off cnt : Int} {ba : Option Addr} {bc : Nat} {us : List Nat} {b4 : Nat} {M : Nd} {a5 : Option Addr} {c5 : Nat} {W W' : World} (h : CutSt w N off cnt ba bc us b4 M a5 c5 W) (b : Below W.heap.size W W') : CutSt w N off cnt ba bc us b4 M a5 c5 W' :=
  ⟨(b.block _ (lt_of_some h.bx)).trans h.bx, (b.block _ (lt_of_some h.x)).trans h.x, h.m.below b, h.by_.below b, h.same, h.low.trans (b.mono h.low.size)⟩
end Go.Proofs.Ytelhnaphkbpakaa

namespace Go.Proofs.Ytelhnaphkbpakaa
open Go.RowKit
set_option linter.unusedVariables false
set_option maxRecDepth 100000

theorem row_store {B hi : Nat} {V wr : World} {a : Option Addr} {n cap i : Nat} {ys : List Value} (ho : OutW B hi V wr) (hr : wr.ownsRow B 45 1 (.slice a n cap) n ys) (hg : ∀ g, (Value.slice a n cap).ownBlock = some g → g < hi) (hi' : i < n) :
    ∃ g u, a = some ⟨g, 0, none⟩ ∧ g < wr.heap.size ∧ wr.cell? ⟨g, i, none⟩ = some u ∧ wr.frozen? ⟨g, i, none⟩ = false ∧ ∀ v, OutW B hi V (wr.setCell ⟨g, i, none⟩ v) ∧ ∃ ys', (wr.setCell ⟨g, i, none⟩ v).ownsRow B 45 1 (.slice a n cap) n ys' := by
  have hlen := hr.1
  obtain ⟨u, hu⟩ : ∃ u, ys[i]? = some u := ⟨_, List.getElem?_eq_getElem (by omega)⟩
  obtain ⟨b, rfl, hb, hc⟩ := row_src hr hu
  rw [Nat.zero_add] at hc
  obtain ⟨cur, hblk, hB⟩ := rwBlk hr
  exact ⟨b, u, rfl, hb, hc, free_blk hblk i, fun v => ⟨ho.set (a := ⟨b, i, none⟩) hB (hg b rfl) v, _, (hr.stored i v).1⟩⟩
theorem row_olds {B : Nat} {wr w2 : World} {a : Option Addr} {n cap : Nat} {ys : List Value} (hr : wr.ownsRow B 45 1 (.slice a n cap) n ys) (h2 : Below wr.heap.size wr w2) :
    ys.length = n * 1 ∧ (∀ (j : Nat) (u : Value), ys[j]? = some u → ∃ b, a = some b ∧ w2.cell? (b.add j) = some u) ∧ (a = none → n = 0) := by
  refine ⟨hr.1, fun j u hu => ?_, fun h => ?_⟩
  · obtain ⟨b, rfl, hb, hc⟩ := row_src hr hu
    refine ⟨_, rfl, ?_⟩
    rw [show (⟨b, 0, none⟩ : Addr).add j = ⟨b, 0 + j, none⟩ by unfold Addr.add; split <;> simp_all]
    exact (h2.cell (p := ⟨b, 0 + j, none⟩) hb).trans hc
  · subst h
    rcases hr.2 with ⟨h1, h2⟩ | ⟨g, cap', cur, h1, _⟩
    · exact h2
    · cases h1
theorem row_lt {w : World} {B : Nat} {a : Option Addr} {n cap : Nat} {ys : List Value} (hr : w.ownsRow B 45 1 (.slice a n cap) n ys) : ∀ g, (Value.slice a n cap).ownBlock = some g → g < w.heap.size := fun g hg => (hr.lt g hg).2

theorem row_drewN {w : World} {B : Nat} {e : TypeId} {size : Nat} {v : Value} {n : Nat} {ys : List Value} (h : w.ownsRow B e size v n ys) (k : Nat) : (w.drewN k).ownsRow B e size v n ys := row_below h (((FrT.refl [] w.heap.size w).drewN k).below (Nat.le_refl _))
/-- The box of a node, made and filled. -/
theorem box_made {w : World} {B : Nat} (M : Nd) (hB : B ≤ w.heap.size) :
    ∃ W, ((((((((w.alloc (.cells Nd.zero.cells 30)).setCell ⟨w.heap.size, 0, none⟩ (.int .i64 M.kind)).setCell ⟨w.heap.size, 1, none⟩ (.string M.name)).setCell ⟨w.heap.size, 2, none⟩ (.slice M.da M.data.length M.dc)).setCell ⟨w.heap.size, 3, none⟩ (.slice M.aa M.L.length M.ac)).setCell ⟨w.heap.size, 4, none⟩ (.int .u32 M.slot)).setCell ⟨w.heap.size, 5, none⟩ (.int .u32 M.gen))) = W ∧ W.heap[w.heap.size]? = some (.cells M.cells 30 (0, 0)) ∧ Below w.heap.size w W ∧ W.heap.size = w.heap.size + 1 := by
  obtain ⟨h1, h2⟩ := six_cells (Go.heap_alloc_new w (.cells Nd.zero.cells 30)) (.int .i64 M.kind) (.string M.name) (.slice M.da M.data.length M.dc) (.slice M.aa M.L.length M.ac) (.int .u32 M.slot) (.int .u32 M.gen)
  exact ⟨_, rfl, h1, ((Below.refl _ w).alloc (Nat.le_refl _) _).trans (h2.below (by simp)), by simp⟩
end Go.Proofs.Ytelhnaphkbpakaa

namespace Go.Proofs.Ytelhnaphkbpakaa
open Go.RowKit
set_option linter.unusedVariables false
set_option maxRecDepth 100000

/-- The code point that a text begins with, and its bytes; none. -/
def codeR (t : ByteArray) : Nat × Nat := if (pcAt t 0).ok = true then ((pcAt t 0).c, (pcAt t 0).n) else (0, 0)
/-- As the document reckons it. -/
def accR (t : ByteArray) (base : Nat) : Nat → Nat
  | 0 => byteAt t 0 - base
  | i + 1 => 64 * accR t base i + byteAt t (i + 1) - 128
theorem codeR_none {t : ByteArray} (h : (rowOf (byteAt t 0)).1 = 0) : codeR t = (0, 0) := by
  unfold codeR pcAt
  simp [h]
theorem codeR_one {t : ByteArray} (h : byteAt t 0 < 128) : codeR t = (byteAt t 0, 1) := by
  have r : rowOf (byteAt t 0) = (1, 0, 0) := by
    rcases row_cases (byteAt t 0) with ⟨q, r⟩ | ⟨q, q', r⟩ | ⟨q, r⟩ | ⟨q, r⟩ | ⟨q, q', q'', r⟩ | ⟨q, r⟩ | ⟨q, q', r⟩ | ⟨q, r⟩ | ⟨q, r⟩ <;> first | exact r | omega
  unfold codeR pcAt
  simp [r, pieceLen, pointOf]
theorem codeR_zero {t : ByteArray} (h : (128 ≤ byteAt t 0 ∧ byteAt t 0 < 194) ∨ 244 < byteAt t 0) : codeR t = (0, 0) := by
  refine codeR_none ?_
  rcases row_cases (byteAt t 0) with ⟨q, r⟩ | ⟨q, q', r⟩ | ⟨q, r⟩ | ⟨q, r⟩ | ⟨q, q', q'', r⟩ | ⟨q, r⟩ | ⟨q, q', r⟩ | ⟨q, r⟩ | ⟨q, r⟩ <;> first | (rw [r]; done) | omega
theorem codeR_some {t : ByteArray} {m lo hi : Nat} (r : rowOf (byteAt t 0) = (m, lo, hi)) (hm : m ≠ 0) : codeR t = if pieceLen t 0 m lo hi < m then (0, 0) else (pointOf t 0 m, m) := by
  unfold codeR pcAt
  simp only [r, if_neg hm]
  split <;> simp
/-- Good, by the document's tests. -/
def Good2 (t : ByteArray) (m base low : Nat) : Prop := m ≤ t.size ∧ (∀ i, i + 1 < m → 128 ≤ byteAt t (i + 1) ∧ byteAt t (i + 1) < 192) ∧ low ≤ accR t base (m - 1) ∧ accR t base (m - 1) ≤ 1114111 ∧ ¬ (55296 ≤ accR t base (m - 1) ∧ accR t base (m - 1) ≤ 57343)

theorem code_two {t : ByteArray} (h1 : 192 ≤ byteAt t 0) (h2 : byteAt t 0 < 224) : (Good2 t 2 192 128 → codeR t = (accR t 192 1, 2)) ∧ (¬ Good2 t 2 192 128 → codeR t = (0, 0)) := by
  obtain ⟨b0, e0⟩ : ∃ b, byteAt t 0 = b := ⟨_, rfl⟩
  obtain ⟨b1, e1⟩ : ∃ b, byteAt t 1 = b := ⟨_, rfl⟩
  have hg : Good2 t 2 192 128 ↔ 2 ≤ t.size ∧ (128 ≤ b1 ∧ b1 < 192) ∧ 128 ≤ 64 * (b0 - 192) + b1 - 128 := by
    unfold Good2
    simp only [accR, e0, e1]
    constructor
    · rintro ⟨g1, g2, g3, g4, g5⟩
      have := g2 0 (by omega)
      rw [Nat.zero_add, e1] at this
      exact ⟨g1, this, g3⟩
    · rintro ⟨g1, g2, g3⟩
      refine ⟨g1, fun i hi => ?_, g3, by omega, by omega⟩
      obtain rfl : i = 0 := by omega
      rw [Nat.zero_add, e1]; exact g2
  rw [hg]
  by_cases h3 : b0 < 194
  · have := codeR_zero (t := t) (.inl (by omega))
    exact ⟨fun g => by omega, fun _ => this⟩
  · have r : rowOf (byteAt t 0) = (2, 128, 191) := by
      rcases row_cases (byteAt t 0) with ⟨q, r⟩ | ⟨q, q', r⟩ | ⟨q, r⟩ | ⟨q, r⟩ | ⟨q, q', q'', r⟩ | ⟨q, r⟩ | ⟨q, q', r⟩ | ⟨q, r⟩ | ⟨q, r⟩ <;> first | exact r | omega
    rw [codeR_some r (by decide)]
    have hw : within t (0 + 1) 128 191 = decide (2 ≤ t.size ∧ (128 ≤ b1 ∧ b1 < 192)) := by
      rw [Bool.eq_iff_iff, within_iff, decide_eq_true_iff, Nat.zero_add, e1]; omega
    refine ⟨fun g => ?_, fun g => ?_⟩
    · have : ¬ pieceLen t 0 2 128 191 < 2 := by unfold pieceLen; rw [hw, decide_eq_true ⟨g.1, g.2.1⟩]; simp
      rw [if_neg this]
      simp only [pointOf, accR, e0, e1, Nat.zero_add]
      exact Prod.ext (by simp only; omega) rfl
    · have : pieceLen t 0 2 128 191 < 2 := by unfold pieceLen; rw [hw, decide_eq_false (by omega)]; simp
      rw [if_pos this]

theorem code_three {t : ByteArray} (h1 : 224 ≤ byteAt t 0) (h2 : byteAt t 0 < 240) : (Good2 t 3 224 2048 → codeR t = (accR t 224 2, 3)) ∧ (¬ Good2 t 3 224 2048 → codeR t = (0, 0)) := by
  obtain ⟨b0, e0⟩ : ∃ b, byteAt t 0 = b := ⟨_, rfl⟩
  obtain ⟨b1, e1⟩ : ∃ b, byteAt t 1 = b := ⟨_, rfl⟩
  obtain ⟨b2, e2⟩ : ∃ b, byteAt t 2 = b := ⟨_, rfl⟩
  have hg : Good2 t 3 224 2048 ↔ 3 ≤ t.size ∧ (128 ≤ b1 ∧ b1 < 192) ∧ (128 ≤ b2 ∧ b2 < 192) ∧ 2048 ≤ 64 * (64 * (b0 - 224) + b1 - 128) + b2 - 128 ∧ ¬ (55296 ≤ 64 * (64 * (b0 - 224) + b1 - 128) + b2 - 128 ∧ 64 * (64 * (b0 - 224) + b1 - 128) + b2 - 128 ≤ 57343) := by
    unfold Good2
    simp only [accR, e0, e1, e2]
    constructor
    · rintro ⟨g1, g2, g3, g4, g5⟩
      have k0 := g2 0 (by omega)
      have k1 := g2 1 (by omega)
      rw [Nat.zero_add, e1] at k0
      rw [show 1 + 1 = 2 from rfl, e2] at k1
      exact ⟨g1, k0, k1, g3, g5⟩
    · rintro ⟨g1, g2, g3, g4, g5⟩
      refine ⟨g1, fun i hi => ?_, g4, by omega, g5⟩
      have : i = 0 ∨ i = 1 := by omega
      rcases this with rfl | rfl
      · rw [Nat.zero_add, e1]; exact g2
      · rw [show 1 + 1 = 2 from rfl, e2]; exact g3
  rw [hg]
  obtain ⟨lo, hi, r, hlh⟩ : ∃ lo hi, rowOf (byteAt t 0) = (3, lo, hi) ∧ ((b0 = 224 ∧ lo = 160 ∧ hi = 191) ∨ (b0 = 237 ∧ lo = 128 ∧ hi = 159) ∨ (b0 ≠ 224 ∧ b0 ≠ 237 ∧ lo = 128 ∧ hi = 191)) := by
    rcases row_cases (byteAt t 0) with ⟨q, r⟩ | ⟨q, q', r⟩ | ⟨q, r⟩ | ⟨q, r⟩ | ⟨q, q', q'', r⟩ | ⟨q, r⟩ | ⟨q, q', r⟩ | ⟨q, r⟩ | ⟨q, r⟩
    all_goals first | (exfalso; omega) | exact ⟨_, _, r, by omega⟩
  rw [codeR_some r (by decide)]
  have hw : within t (0 + 1) lo hi = decide (2 ≤ t.size ∧ (lo ≤ b1 ∧ b1 ≤ hi)) := by
    rw [Bool.eq_iff_iff, within_iff, decide_eq_true_iff, Nat.zero_add, e1]; omega
  have hw2 : within t (0 + 2) 128 191 = decide (3 ≤ t.size ∧ (128 ≤ b2 ∧ b2 < 192)) := by
    rw [Bool.eq_iff_iff, within_iff, decide_eq_true_iff, Nat.zero_add, e2]; omega
  have hpl : pieceLen t 0 3 lo hi < 3 ↔ ¬ (3 ≤ t.size ∧ (lo ≤ b1 ∧ b1 ≤ hi) ∧ (128 ≤ b2 ∧ b2 < 192)) := by
    unfold pieceLen
    rw [hw, hw2]
    simp only [decide_eq_true_eq]
    split
    · split
      · split <;> omega
      · omega
    · omega
  refine ⟨fun g => ?_, fun g => ?_⟩
  · rw [if_neg (by rw [hpl]; omega)]
    simp only [pointOf, accR, e0, e1, e2, Nat.zero_add]
    exact Prod.ext (by simp only; omega) rfl
  · rw [if_pos (by rw [hpl]; omega)]

theorem code_four {t : ByteArray} (h1 : 240 ≤ byteAt t 0) (h2 : byteAt t 0 < 248) : (Good2 t 4 240 65536 → codeR t = (accR t 240 3, 4)) ∧ (¬ Good2 t 4 240 65536 → codeR t = (0, 0)) := by
  obtain ⟨b0, e0⟩ : ∃ b, byteAt t 0 = b := ⟨_, rfl⟩
  obtain ⟨b1, e1⟩ : ∃ b, byteAt t 1 = b := ⟨_, rfl⟩
  obtain ⟨b2, e2⟩ : ∃ b, byteAt t 2 = b := ⟨_, rfl⟩
  obtain ⟨b3, e3⟩ : ∃ b, byteAt t 3 = b := ⟨_, rfl⟩
  have hg : Good2 t 4 240 65536 ↔ 4 ≤ t.size ∧ (128 ≤ b1 ∧ b1 < 192) ∧ (128 ≤ b2 ∧ b2 < 192) ∧ (128 ≤ b3 ∧ b3 < 192) ∧ 65536 ≤ 64 * (64 * (64 * (b0 - 240) + b1 - 128) + b2 - 128) + b3 - 128 ∧ 64 * (64 * (64 * (b0 - 240) + b1 - 128) + b2 - 128) + b3 - 128 ≤ 1114111 := by
    unfold Good2
    simp only [accR, e0, e1, e2, e3]
    constructor
    · rintro ⟨g1, g2, g3, g4, g5⟩
      have k0 := g2 0 (by omega)
      have k1 := g2 1 (by omega)
      have k2 := g2 2 (by omega)
      rw [Nat.zero_add, e1] at k0
      rw [show 1 + 1 = 2 from rfl, e2] at k1
      rw [show 2 + 1 = 3 from rfl, e3] at k2
      exact ⟨g1, k0, k1, k2, g3, g4⟩
    · rintro ⟨g1, g2, g3, g3', g4, g5⟩
      refine ⟨g1, fun i hi => ?_, g4, g5, by omega⟩
      have : i = 0 ∨ i = 1 ∨ i = 2 := by omega
      rcases this with rfl | rfl | rfl
      · rw [Nat.zero_add, e1]; exact g2
      · rw [show 1 + 1 = 2 from rfl, e2]; exact g3
      · rw [show 2 + 1 = 3 from rfl, e3]; exact g3'
  rw [hg]
  by_cases h3 : 244 < b0
  · have := codeR_zero (t := t) (.inr (by omega))
    exact ⟨fun g => by omega, fun _ => this⟩
  obtain ⟨lo, hi, r, hlh⟩ : ∃ lo hi, rowOf (byteAt t 0) = (4, lo, hi) ∧ ((b0 = 240 ∧ lo = 144 ∧ hi = 191) ∨ (b0 = 244 ∧ lo = 128 ∧ hi = 143) ∨ (b0 ≠ 240 ∧ b0 ≠ 244 ∧ lo = 128 ∧ hi = 191)) := by
    rcases row_cases (byteAt t 0) with ⟨q, r⟩ | ⟨q, q', r⟩ | ⟨q, r⟩ | ⟨q, r⟩ | ⟨q, q', q'', r⟩ | ⟨q, r⟩ | ⟨q, q', r⟩ | ⟨q, r⟩ | ⟨q, r⟩
    all_goals first | (exfalso; omega) | exact ⟨_, _, r, by omega⟩
  rw [codeR_some r (by decide)]
  have hw : within t (0 + 1) lo hi = decide (2 ≤ t.size ∧ (lo ≤ b1 ∧ b1 ≤ hi)) := by
    rw [Bool.eq_iff_iff, within_iff, decide_eq_true_iff, Nat.zero_add, e1]; omega
  have hw2 : within t (0 + 2) 128 191 = decide (3 ≤ t.size ∧ (128 ≤ b2 ∧ b2 < 192)) := by
    rw [Bool.eq_iff_iff, within_iff, decide_eq_true_iff, Nat.zero_add, e2]; omega
  have hw3 : within t (0 + 3) 128 191 = decide (4 ≤ t.size ∧ (128 ≤ b3 ∧ b3 < 192)) := by
    rw [Bool.eq_iff_iff, within_iff, decide_eq_true_iff, Nat.zero_add, e3]; omega
  have hpl : pieceLen t 0 4 lo hi < 4 ↔ ¬ (4 ≤ t.size ∧ (lo ≤ b1 ∧ b1 ≤ hi) ∧ (128 ≤ b2 ∧ b2 < 192) ∧ (128 ≤ b3 ∧ b3 < 192)) := by
    unfold pieceLen
    rw [hw, hw2, hw3]
    simp only [decide_eq_true_eq]
    split
    · split
      · split <;> omega
      · omega
    · omega
  refine ⟨fun g => ?_, fun g => ?_⟩
  · rw [if_neg (by rw [hpl]; omega)]
    simp only [pointOf, accR, e0, e1, e2, e3, Nat.zero_add]
    exact Prod.ext (by simp only; omega) rfl
  · rw [if_pos (by rw [hpl]; omega)]

theorem accR_lt (t : ByteArray) (base : Nat) (h : byteAt t 0 - base < 32) (i : Nat) (hi : i ≤ 3) : accR t base i < 16777216 ∧ (i ≤ 2 → accR t base i < 262144) := by
  have k1 := byteAt_le t 1
  have k2 := byteAt_le t 2
  have k3 := byteAt_le t 3
  have e : i = 0 ∨ i = 1 ∨ i = 2 ∨ i = 3 := by omega
  rcases e with rfl | rfl | rfl | rfl <;> simp only [accR, Nat.zero_add, Nat.reduceAdd] <;> omega
/-- A text read from a place on. -/
theorem codeR_extract (s : ByteArray) (q : Nat) (h : q < s.size) : codeR (s.extract q s.size) = if (pcAt s q).ok = true then ((pcAt s q).c, (pcAt s q).n) else (0, 0) := by
  have e0 : byteAt (s.extract q s.size) 0 = byteAt s q := by rw [byteAt_extract s q 0 (by omega), Nat.add_zero]
  have e1 : ∀ m, pointOf (s.extract q s.size) 0 m = pointOf s q m := fun m => by
    unfold pointOf
    simp only [byteAt_extract s q _ (Nat.le_of_lt h), Nat.zero_add, Nat.add_zero]
  unfold codeR pcAt
  simp only [e0, e1, pieceLen_extract s q _ _ _ (Nat.le_of_lt h)]
  by_cases a : (rowOf (byteAt s q)).1 = 0
  · simp [a]
  · simp only [if_neg a]
    by_cases b : pieceLen s q (rowOf (byteAt s q)).1 (rowOf (byteAt s q)).2.1 (rowOf (byteAt s q)).2.2 < (rowOf (byteAt s q)).1
    · simp [b]
    · simp [b]
end Go.Proofs.Ytelhnaphkbpakaa

namespace Go.Proofs.Ytelhnaphkbpakaa
open Go.RowKit
set_option linter.unusedVariables false
set_option maxRecDepth 100000

set_option maxHeartbeats 4000000 in
theorem code_c2 (t : ByteArray) (h0 : 0 < t.size) (hs : t.size ≤ 9223372036854775807) (h1 : 192 ≤ byteAt t 0) (h2 : byteAt t 0 < 224) (w : World) :
    Calls Try.prog 47 #[.string t] w fun e w' => e = .returned (.tuple #[.int .i64 ((codeR t).1 : Int), .int .i64 ((codeR t).2 : Int)]) ∧ w = w' := by
  have HC := Lib.hid (code_two h1 h2)
  have HL := Lib.hid (accR_lt t 192 (by omega))
  have hb := byteAt_get t 0 h0
  have ha0 : accR t 192 0 = byteAt t 0 - 192 := rfl
  obtain ⟨c, hc⟩ : ∃ c, c = byteAt t 0 := ⟨_, rfl⟩
  rw [← hc] at h1 h2 hb ha0
  have p0 : (0 : Int) < (t.size : Int) := by omega
  have hA0 : (c : Int) - 192 = ((accR t 192 0 : Nat) : Int) := by rw [ha0]; omega
  have HA0 := Lib.hid hA0
  have s0 : ¬ (c : Int) < 128 := by omega
  have s1 : (192 : Int) ≤ (c : Int) := by omega
  have s2 : (c : Int) < 224 := by omega
  have q0 : IntKind.i64.wrap ((c : Int) - 192) = ((accR t 192 0 : Nat) : Int) := by rw [IntWalk.i64_in _ (by omega), hA0]
  clear hc ha0 hA0
  by_cases hsz : t.size < 2
  · have p1 : (t.size : Int) < 2 := by omega
    have e := HC.out.2 (fun g => by have := g.1; omega)
    have HE := Lib.hid e
    clear e hsz
    go_enter Try.func47, Try.ntmps47
    go_wp2_with fail
    exact bodyPost_ret (v := .tuple #[.int .i64 0, .int .i64 0]) (by simp [results, Try.results47, go_sem]) rfl ⟨by simp [HE.out], rfl⟩
  · have p1 : ¬ (t.size : Int) < 2 := by omega
    go_enter Try.func47, Try.ntmps47
    go_wp2_with fail
    go_loopw [4, 7] (fun v4 v7 wr => ∃ i : Nat, v4 = .int .i64 ((accR t 192 i : Nat) : Int) ∧ v7 = .int .i64 ((i : Int) + 1) ∧ i + 1 ≤ 2 ∧ (∀ j, j < i → 128 ≤ byteAt t (j + 1) ∧ byteAt t (j + 1) < 192) ∧ wr = w) (fun _ v _ => 2 - (intOf v).toNat)
    case atStart => exact ⟨0, rfl, by simp, by omega, fun j hj => absurd hj (Nat.not_lt_zero _), rfl⟩
    case round =>
      obtain ⟨i, rfl, rfl, hi, hall, rfl⟩ := hrel
      have hA := (HL.out i (by omega))
      have hstep : accR t 192 (i + 1) = 64 * accR t 192 i + byteAt t (i + 1) - 128 := rfl
      have HALL := Lib.hid hall
      clear hall
      by_cases hlt : i + 1 < 2
      · have p2 : (i : Int) + 1 < 2 := by omega
        have hpi : i + 1 < t.size := by omega
        have hbi := byteAt_get t (i + 1) hpi
        have hbl := byteAt_le t (i + 1)
        obtain ⟨A, hAA⟩ : ∃ A, A = accR t 192 i := ⟨_, rfl⟩
        obtain ⟨B, hBB⟩ : ∃ B, B = byteAt t (i + 1) := ⟨_, rfl⟩
        rw [← hAA] at hA hstep ⊢
        rw [← hBB] at hbi hbl hstep
        have hA2 := hA.2 (by omega)
        have HBB := Lib.hid hBB
        have ei : ((i : Int) + 1).toNat = i + 1 := by omega
        have p3 : (0 : Int) ≤ (i : Int) + 1 := by omega
        have p4 : (i : Int) + 1 < (t.size : Int) := by omega
        by_cases b1 : B < 128
        · have p5 : (B : Int) < 128 := by omega
          have e := HC.out.2 (fun g => by have := g.2.1 i hlt; rw [← HBB.out] at this; omega)
          have HE := Lib.hid e
          clear e hAA hBB hA hA2 hstep
          go_wp2_with fail
          exact bodyPost_ret (v := .tuple #[.int .i64 0, .int .i64 0]) (by simp [results, Try.results47, go_sem]) rfl ⟨by simp [HE.out], rfl⟩
        · by_cases b2 : 192 ≤ B
          · have p5 : ¬ (B : Int) < 128 := by omega
            have p6 : (192 : Int) ≤ (B : Int) := by omega
            have e := HC.out.2 (fun g => by have := g.2.1 i hlt; rw [← HBB.out] at this; omega)
            have HE := Lib.hid e
            clear e hAA hBB hA hA2 hstep
            go_wp2_with fail
            exact bodyPost_ret (v := .tuple #[.int .i64 0, .int .i64 0]) (by simp [results, Try.results47, go_sem]) rfl ⟨by simp [HE.out], rfl⟩
          · have p5 : ¬ (B : Int) < 128 := by omega
            have p6 : ¬ (192 : Int) ≤ (B : Int) := by omega
            have q1 : IntKind.i64.wrap (64 * (A : Int)) = 64 * (A : Int) := IntWalk.i64_in _ (by omega)
            have q2 : IntKind.i64.wrap (64 * (A : Int) + (B : Int)) = 64 * (A : Int) + (B : Int) := IntWalk.i64_in _ (by omega)
            have q3 : IntKind.i64.wrap (64 * (A : Int) + (B : Int) - 128) = 64 * (A : Int) + (B : Int) - 128 := IntWalk.i64_in _ (by omega)
            have q4 : IntKind.i64.wrap ((i : Int) + 1 + 1) = (i : Int) + 1 + 1 := IntWalk.i64_in _ (by omega)
            have HST := Lib.hid hstep
            clear hAA hBB hstep
            go_wp2_with fail
            go_roundw
            case rel =>
              have hs1 := HST.out
              refine ⟨i + 1, by first | (rw [hs1]; go_num; done) | (rw [hs1]; congr 1; omega), by first | (go_num; done) | (congr 1; omega), by omega, fun j hj => ?_, by first | rfl | trivial⟩
              rcases Nat.lt_or_ge j i with h | h
              · exact HALL.out j h
              · obtain rfl : j = i := by omega
                rw [← HBB.out]; omega
            case measure => simp [intOf]; omega
      · obtain rfl : i = 1 := by omega
        have p2 : ¬ ((1 : Nat) : Int) + 1 < 2 := by omega
        have hcont : ∀ i, i + 1 < 2 → 128 ≤ byteAt t (i + 1) ∧ byteAt t (i + 1) < 192 := fun i hi => HALL.out i (by omega)
        have HG : Hid (∀ A, A = accR t 192 1 → (128 ≤ A ∧ A ≤ 1114111 ∧ ¬ (55296 ≤ A ∧ A ≤ 57343) → codeR t = (A, 2)) ∧ (¬ (128 ≤ A ∧ A ≤ 1114111 ∧ ¬ (55296 ≤ A ∧ A ≤ 57343)) → codeR t = (0, 0))) := Lib.hid (fun A hA => by
          subst hA
          exact ⟨fun g => HC.out.1 ⟨by omega, hcont, g.1, g.2.1, g.2.2⟩, fun g => HC.out.2 (fun k => g ⟨k.2.2.1, k.2.2.2.1, k.2.2.2.2⟩)⟩)
        clear hstep hcont
        obtain ⟨A, hAA⟩ : ∃ A, A = accR t 192 1 := ⟨_, rfl⟩
        rw [← hAA] at hA ⊢
        have HGA := Lib.hid (HG.out A hAA)
        clear hAA HG hlt hi
        by_cases a1 : A < 128
        · have p3 : (A : Int) < 128 := by omega
          have HE := Lib.hid (HGA.out.2 (by omega))
          go_wp2_with fail
          exact bodyPost_ret (v := .tuple #[.int .i64 0, .int .i64 0]) (by simp [results, Try.results47, go_sem]) rfl ⟨by simp [HE.out], rfl⟩
        · have p3 : ¬ (A : Int) < 128 := by omega
          by_cases a2 : 1114111 < A
          · have p4 : (1114111 : Int) < (A : Int) := by omega
            have HE := Lib.hid (HGA.out.2 (by omega))
            go_wp2_with fail
            exact bodyPost_ret (v := .tuple #[.int .i64 0, .int .i64 0]) (by simp [results, Try.results47, go_sem]) rfl ⟨by simp [HE.out], rfl⟩
          · have p4 : ¬ (1114111 : Int) < (A : Int) := by omega
            by_cases a3 : 55296 ≤ A
            · have p5 : (55296 : Int) ≤ (A : Int) := by omega
              by_cases a4 : A ≤ 57343
              · have p6 : (A : Int) ≤ 57343 := by omega
                have HE := Lib.hid (HGA.out.2 (by omega))
                go_wp2_with fail
                exact bodyPost_ret (v := .tuple #[.int .i64 0, .int .i64 0]) (by simp [results, Try.results47, go_sem]) rfl ⟨by simp [HE.out], rfl⟩
              · have p6 : ¬ (A : Int) ≤ 57343 := by omega
                have HE := Lib.hid (HGA.out.1 (by omega))
                go_wp2_with fail
                exact bodyPost_ret (v := .tuple #[.int .i64 (A : Int), .int .i64 2]) (by simp [results, Try.results47, go_sem]) rfl ⟨by simp [HE.out], rfl⟩
            · have p5 : ¬ (55296 : Int) ≤ (A : Int) := by omega
              have HE := Lib.hid (HGA.out.1 (by omega))
              go_wp2_with fail
              exact bodyPost_ret (v := .tuple #[.int .i64 (A : Int), .int .i64 2]) (by simp [results, Try.results47, go_sem]) rfl ⟨by simp [HE.out], rfl⟩

set_option maxHeartbeats 4000000 in
theorem code_c3 (t : ByteArray) (h0 : 0 < t.size) (hs : t.size ≤ 9223372036854775807) (h1 : 224 ≤ byteAt t 0) (h2 : byteAt t 0 < 240) (w : World) :
    Calls Try.prog 47 #[.string t] w fun e w' => e = .returned (.tuple #[.int .i64 ((codeR t).1 : Int), .int .i64 ((codeR t).2 : Int)]) ∧ w = w' := by
  have HC := Lib.hid (code_three h1 h2)
  have HL := Lib.hid (accR_lt t 224 (by omega))
  have hb := byteAt_get t 0 h0
  have ha0 : accR t 224 0 = byteAt t 0 - 224 := rfl
  obtain ⟨c, hc⟩ : ∃ c, c = byteAt t 0 := ⟨_, rfl⟩
  rw [← hc] at h1 h2 hb ha0
  have p0 : (0 : Int) < (t.size : Int) := by omega
  have hA0 : (c : Int) - 224 = ((accR t 224 0 : Nat) : Int) := by rw [ha0]; omega
  have HA0 := Lib.hid hA0
  have s0 : ¬ (c : Int) < 128 := by omega
  have s1 : (192 : Int) ≤ (c : Int) := by omega
  have s2 : ¬ (c : Int) < 224 := by omega
  have s3 : (224 : Int) ≤ (c : Int) := by omega
  have s4 : (c : Int) < 240 := by omega
  have q0 : IntKind.i64.wrap ((c : Int) - 224) = ((accR t 224 0 : Nat) : Int) := by rw [IntWalk.i64_in _ (by omega), hA0]
  clear hc ha0 hA0
  by_cases hsz : t.size < 3
  · have p1 : (t.size : Int) < 3 := by omega
    have e := HC.out.2 (fun g => by have := g.1; omega)
    have HE := Lib.hid e
    clear e hsz
    go_enter Try.func47, Try.ntmps47
    go_wp2_with fail
    exact bodyPost_ret (v := .tuple #[.int .i64 0, .int .i64 0]) (by simp [results, Try.results47, go_sem]) rfl ⟨by simp [HE.out], rfl⟩
  · have p1 : ¬ (t.size : Int) < 3 := by omega
    go_enter Try.func47, Try.ntmps47
    go_wp2_with fail
    go_loopw [4, 7] (fun v4 v7 wr => ∃ i : Nat, v4 = .int .i64 ((accR t 224 i : Nat) : Int) ∧ v7 = .int .i64 ((i : Int) + 1) ∧ i + 1 ≤ 3 ∧ (∀ j, j < i → 128 ≤ byteAt t (j + 1) ∧ byteAt t (j + 1) < 192) ∧ wr = w) (fun _ v _ => 3 - (intOf v).toNat)
    case atStart => exact ⟨0, rfl, by simp, by omega, fun j hj => absurd hj (Nat.not_lt_zero _), rfl⟩
    case round =>
      obtain ⟨i, rfl, rfl, hi, hall, rfl⟩ := hrel
      have hA := (HL.out i (by omega))
      have hstep : accR t 224 (i + 1) = 64 * accR t 224 i + byteAt t (i + 1) - 128 := rfl
      have HALL := Lib.hid hall
      clear hall
      by_cases hlt : i + 1 < 3
      · have p2 : (i : Int) + 1 < 3 := by omega
        have hpi : i + 1 < t.size := by omega
        have hbi := byteAt_get t (i + 1) hpi
        have hbl := byteAt_le t (i + 1)
        obtain ⟨A, hAA⟩ : ∃ A, A = accR t 224 i := ⟨_, rfl⟩
        obtain ⟨B, hBB⟩ : ∃ B, B = byteAt t (i + 1) := ⟨_, rfl⟩
        rw [← hAA] at hA hstep ⊢
        rw [← hBB] at hbi hbl hstep
        have hA2 := hA.2 (by omega)
        have HBB := Lib.hid hBB
        have ei : ((i : Int) + 1).toNat = i + 1 := by omega
        have p3 : (0 : Int) ≤ (i : Int) + 1 := by omega
        have p4 : (i : Int) + 1 < (t.size : Int) := by omega
        by_cases b1 : B < 128
        · have p5 : (B : Int) < 128 := by omega
          have e := HC.out.2 (fun g => by have := g.2.1 i hlt; rw [← HBB.out] at this; omega)
          have HE := Lib.hid e
          clear e hAA hBB hA hA2 hstep
          go_wp2_with fail
          exact bodyPost_ret (v := .tuple #[.int .i64 0, .int .i64 0]) (by simp [results, Try.results47, go_sem]) rfl ⟨by simp [HE.out], rfl⟩
        · by_cases b2 : 192 ≤ B
          · have p5 : ¬ (B : Int) < 128 := by omega
            have p6 : (192 : Int) ≤ (B : Int) := by omega
            have e := HC.out.2 (fun g => by have := g.2.1 i hlt; rw [← HBB.out] at this; omega)
            have HE := Lib.hid e
            clear e hAA hBB hA hA2 hstep
            go_wp2_with fail
            exact bodyPost_ret (v := .tuple #[.int .i64 0, .int .i64 0]) (by simp [results, Try.results47, go_sem]) rfl ⟨by simp [HE.out], rfl⟩
          · have p5 : ¬ (B : Int) < 128 := by omega
            have p6 : ¬ (192 : Int) ≤ (B : Int) := by omega
            have q1 : IntKind.i64.wrap (64 * (A : Int)) = 64 * (A : Int) := IntWalk.i64_in _ (by omega)
            have q2 : IntKind.i64.wrap (64 * (A : Int) + (B : Int)) = 64 * (A : Int) + (B : Int) := IntWalk.i64_in _ (by omega)
            have q3 : IntKind.i64.wrap (64 * (A : Int) + (B : Int) - 128) = 64 * (A : Int) + (B : Int) - 128 := IntWalk.i64_in _ (by omega)
            have q4 : IntKind.i64.wrap ((i : Int) + 1 + 1) = (i : Int) + 1 + 1 := IntWalk.i64_in _ (by omega)
            have HST := Lib.hid hstep
            clear hAA hBB hstep
            go_wp2_with fail
            go_roundw
            case rel =>
              have hs1 := HST.out
              refine ⟨i + 1, by first | (rw [hs1]; go_num; done) | (rw [hs1]; congr 1; omega), by first | (go_num; done) | (congr 1; omega), by omega, fun j hj => ?_, by first | rfl | trivial⟩
              rcases Nat.lt_or_ge j i with h | h
              · exact HALL.out j h
              · obtain rfl : j = i := by omega
                rw [← HBB.out]; omega
            case measure => simp [intOf]; omega
      · obtain rfl : i = 2 := by omega
        have p2 : ¬ ((2 : Nat) : Int) + 1 < 3 := by omega
        have hcont : ∀ i, i + 1 < 3 → 128 ≤ byteAt t (i + 1) ∧ byteAt t (i + 1) < 192 := fun i hi => HALL.out i (by omega)
        have HG : Hid (∀ A, A = accR t 224 2 → (2048 ≤ A ∧ A ≤ 1114111 ∧ ¬ (55296 ≤ A ∧ A ≤ 57343) → codeR t = (A, 3)) ∧ (¬ (2048 ≤ A ∧ A ≤ 1114111 ∧ ¬ (55296 ≤ A ∧ A ≤ 57343)) → codeR t = (0, 0))) := Lib.hid (fun A hA => by
          subst hA
          exact ⟨fun g => HC.out.1 ⟨by omega, hcont, g.1, g.2.1, g.2.2⟩, fun g => HC.out.2 (fun k => g ⟨k.2.2.1, k.2.2.2.1, k.2.2.2.2⟩)⟩)
        clear hstep hcont
        obtain ⟨A, hAA⟩ : ∃ A, A = accR t 224 2 := ⟨_, rfl⟩
        rw [← hAA] at hA ⊢
        have HGA := Lib.hid (HG.out A hAA)
        clear hAA HG hlt hi
        by_cases a1 : A < 2048
        · have p3 : (A : Int) < 2048 := by omega
          have HE := Lib.hid (HGA.out.2 (by omega))
          go_wp2_with fail
          exact bodyPost_ret (v := .tuple #[.int .i64 0, .int .i64 0]) (by simp [results, Try.results47, go_sem]) rfl ⟨by simp [HE.out], rfl⟩
        · have p3 : ¬ (A : Int) < 2048 := by omega
          by_cases a2 : 1114111 < A
          · have p4 : (1114111 : Int) < (A : Int) := by omega
            have HE := Lib.hid (HGA.out.2 (by omega))
            go_wp2_with fail
            exact bodyPost_ret (v := .tuple #[.int .i64 0, .int .i64 0]) (by simp [results, Try.results47, go_sem]) rfl ⟨by simp [HE.out], rfl⟩
          · have p4 : ¬ (1114111 : Int) < (A : Int) := by omega
            by_cases a3 : 55296 ≤ A
            · have p5 : (55296 : Int) ≤ (A : Int) := by omega
              by_cases a4 : A ≤ 57343
              · have p6 : (A : Int) ≤ 57343 := by omega
                have HE := Lib.hid (HGA.out.2 (by omega))
                go_wp2_with fail
                exact bodyPost_ret (v := .tuple #[.int .i64 0, .int .i64 0]) (by simp [results, Try.results47, go_sem]) rfl ⟨by simp [HE.out], rfl⟩
              · have p6 : ¬ (A : Int) ≤ 57343 := by omega
                have HE := Lib.hid (HGA.out.1 (by omega))
                go_wp2_with fail
                exact bodyPost_ret (v := .tuple #[.int .i64 (A : Int), .int .i64 3]) (by simp [results, Try.results47, go_sem]) rfl ⟨by simp [HE.out], rfl⟩
            · have p5 : ¬ (55296 : Int) ≤ (A : Int) := by omega
              have HE := Lib.hid (HGA.out.1 (by omega))
              go_wp2_with fail
              exact bodyPost_ret (v := .tuple #[.int .i64 (A : Int), .int .i64 3]) (by simp [results, Try.results47, go_sem]) rfl ⟨by simp [HE.out], rfl⟩

set_option maxHeartbeats 4000000 in
theorem code_c4 (t : ByteArray) (h0 : 0 < t.size) (hs : t.size ≤ 9223372036854775807) (h1 : 240 ≤ byteAt t 0) (h2 : byteAt t 0 < 248) (w : World) :
    Calls Try.prog 47 #[.string t] w fun e w' => e = .returned (.tuple #[.int .i64 ((codeR t).1 : Int), .int .i64 ((codeR t).2 : Int)]) ∧ w = w' := by
  have HC := Lib.hid (code_four h1 h2)
  have HL := Lib.hid (accR_lt t 240 (by omega))
  have hb := byteAt_get t 0 h0
  have ha0 : accR t 240 0 = byteAt t 0 - 240 := rfl
  obtain ⟨c, hc⟩ : ∃ c, c = byteAt t 0 := ⟨_, rfl⟩
  rw [← hc] at h1 h2 hb ha0
  have p0 : (0 : Int) < (t.size : Int) := by omega
  have hA0 : (c : Int) - 240 = ((accR t 240 0 : Nat) : Int) := by rw [ha0]; omega
  have HA0 := Lib.hid hA0
  have s0 : ¬ (c : Int) < 128 := by omega
  have s1 : (192 : Int) ≤ (c : Int) := by omega
  have s2 : ¬ (c : Int) < 224 := by omega
  have s3 : (224 : Int) ≤ (c : Int) := by omega
  have s4 : ¬ (c : Int) < 240 := by omega
  have s5 : (240 : Int) ≤ (c : Int) := by omega
  have s6 : (c : Int) < 248 := by omega
  have q0 : IntKind.i64.wrap ((c : Int) - 240) = ((accR t 240 0 : Nat) : Int) := by rw [IntWalk.i64_in _ (by omega), hA0]
  clear hc ha0 hA0
  by_cases hsz : t.size < 4
  · have p1 : (t.size : Int) < 4 := by omega
    have e := HC.out.2 (fun g => by have := g.1; omega)
    have HE := Lib.hid e
    clear e hsz
    go_enter Try.func47, Try.ntmps47
    go_wp2_with fail
    exact bodyPost_ret (v := .tuple #[.int .i64 0, .int .i64 0]) (by simp [results, Try.results47, go_sem]) rfl ⟨by simp [HE.out], rfl⟩
  · have p1 : ¬ (t.size : Int) < 4 := by omega
    go_enter Try.func47, Try.ntmps47
    go_wp2_with fail
    go_loopw [4, 7] (fun v4 v7 wr => ∃ i : Nat, v4 = .int .i64 ((accR t 240 i : Nat) : Int) ∧ v7 = .int .i64 ((i : Int) + 1) ∧ i + 1 ≤ 4 ∧ (∀ j, j < i → 128 ≤ byteAt t (j + 1) ∧ byteAt t (j + 1) < 192) ∧ wr = w) (fun _ v _ => 4 - (intOf v).toNat)
    case atStart => exact ⟨0, rfl, by simp, by omega, fun j hj => absurd hj (Nat.not_lt_zero _), rfl⟩
    case round =>
      obtain ⟨i, rfl, rfl, hi, hall, rfl⟩ := hrel
      have hA := (HL.out i (by omega))
      have hstep : accR t 240 (i + 1) = 64 * accR t 240 i + byteAt t (i + 1) - 128 := rfl
      have HALL := Lib.hid hall
      clear hall
      by_cases hlt : i + 1 < 4
      · have p2 : (i : Int) + 1 < 4 := by omega
        have hpi : i + 1 < t.size := by omega
        have hbi := byteAt_get t (i + 1) hpi
        have hbl := byteAt_le t (i + 1)
        obtain ⟨A, hAA⟩ : ∃ A, A = accR t 240 i := ⟨_, rfl⟩
        obtain ⟨B, hBB⟩ : ∃ B, B = byteAt t (i + 1) := ⟨_, rfl⟩
        rw [← hAA] at hA hstep ⊢
        rw [← hBB] at hbi hbl hstep
        have hA2 := hA.2 (by omega)
        have HBB := Lib.hid hBB
        have ei : ((i : Int) + 1).toNat = i + 1 := by omega
        have p3 : (0 : Int) ≤ (i : Int) + 1 := by omega
        have p4 : (i : Int) + 1 < (t.size : Int) := by omega
        by_cases b1 : B < 128
        · have p5 : (B : Int) < 128 := by omega
          have e := HC.out.2 (fun g => by have := g.2.1 i hlt; rw [← HBB.out] at this; omega)
          have HE := Lib.hid e
          clear e hAA hBB hA hA2 hstep
          go_wp2_with fail
          exact bodyPost_ret (v := .tuple #[.int .i64 0, .int .i64 0]) (by simp [results, Try.results47, go_sem]) rfl ⟨by simp [HE.out], rfl⟩
        · by_cases b2 : 192 ≤ B
          · have p5 : ¬ (B : Int) < 128 := by omega
            have p6 : (192 : Int) ≤ (B : Int) := by omega
            have e := HC.out.2 (fun g => by have := g.2.1 i hlt; rw [← HBB.out] at this; omega)
            have HE := Lib.hid e
            clear e hAA hBB hA hA2 hstep
            go_wp2_with fail
            exact bodyPost_ret (v := .tuple #[.int .i64 0, .int .i64 0]) (by simp [results, Try.results47, go_sem]) rfl ⟨by simp [HE.out], rfl⟩
          · have p5 : ¬ (B : Int) < 128 := by omega
            have p6 : ¬ (192 : Int) ≤ (B : Int) := by omega
            have q1 : IntKind.i64.wrap (64 * (A : Int)) = 64 * (A : Int) := IntWalk.i64_in _ (by omega)
            have q2 : IntKind.i64.wrap (64 * (A : Int) + (B : Int)) = 64 * (A : Int) + (B : Int) := IntWalk.i64_in _ (by omega)
            have q3 : IntKind.i64.wrap (64 * (A : Int) + (B : Int) - 128) = 64 * (A : Int) + (B : Int) - 128 := IntWalk.i64_in _ (by omega)
            have q4 : IntKind.i64.wrap ((i : Int) + 1 + 1) = (i : Int) + 1 + 1 := IntWalk.i64_in _ (by omega)
            have HST := Lib.hid hstep
            clear hAA hBB hstep
            go_wp2_with fail
            go_roundw
            case rel =>
              have hs1 := HST.out
              refine ⟨i + 1, by first | (rw [hs1]; go_num; done) | (rw [hs1]; congr 1; omega), by first | (go_num; done) | (congr 1; omega), by omega, fun j hj => ?_, by first | rfl | trivial⟩
              rcases Nat.lt_or_ge j i with h | h
              · exact HALL.out j h
              · obtain rfl : j = i := by omega
                rw [← HBB.out]; omega
            case measure => simp [intOf]; omega
      · obtain rfl : i = 3 := by omega
        have p2 : ¬ ((3 : Nat) : Int) + 1 < 4 := by omega
        have hcont : ∀ i, i + 1 < 4 → 128 ≤ byteAt t (i + 1) ∧ byteAt t (i + 1) < 192 := fun i hi => HALL.out i (by omega)
        have HG : Hid (∀ A, A = accR t 240 3 → (65536 ≤ A ∧ A ≤ 1114111 ∧ ¬ (55296 ≤ A ∧ A ≤ 57343) → codeR t = (A, 4)) ∧ (¬ (65536 ≤ A ∧ A ≤ 1114111 ∧ ¬ (55296 ≤ A ∧ A ≤ 57343)) → codeR t = (0, 0))) := Lib.hid (fun A hA => by
          subst hA
          exact ⟨fun g => HC.out.1 ⟨by omega, hcont, g.1, g.2.1, g.2.2⟩, fun g => HC.out.2 (fun k => g ⟨k.2.2.1, k.2.2.2.1, k.2.2.2.2⟩)⟩)
        clear hstep hcont
        obtain ⟨A, hAA⟩ : ∃ A, A = accR t 240 3 := ⟨_, rfl⟩
        rw [← hAA] at hA ⊢
        have HGA := Lib.hid (HG.out A hAA)
        clear hAA HG hlt hi
        by_cases a1 : A < 65536
        · have p3 : (A : Int) < 65536 := by omega
          have HE := Lib.hid (HGA.out.2 (by omega))
          go_wp2_with fail
          exact bodyPost_ret (v := .tuple #[.int .i64 0, .int .i64 0]) (by simp [results, Try.results47, go_sem]) rfl ⟨by simp [HE.out], rfl⟩
        · have p3 : ¬ (A : Int) < 65536 := by omega
          by_cases a2 : 1114111 < A
          · have p4 : (1114111 : Int) < (A : Int) := by omega
            have HE := Lib.hid (HGA.out.2 (by omega))
            go_wp2_with fail
            exact bodyPost_ret (v := .tuple #[.int .i64 0, .int .i64 0]) (by simp [results, Try.results47, go_sem]) rfl ⟨by simp [HE.out], rfl⟩
          · have p4 : ¬ (1114111 : Int) < (A : Int) := by omega
            by_cases a3 : 55296 ≤ A
            · have p5 : (55296 : Int) ≤ (A : Int) := by omega
              by_cases a4 : A ≤ 57343
              · have p6 : (A : Int) ≤ 57343 := by omega
                have HE := Lib.hid (HGA.out.2 (by omega))
                go_wp2_with fail
                exact bodyPost_ret (v := .tuple #[.int .i64 0, .int .i64 0]) (by simp [results, Try.results47, go_sem]) rfl ⟨by simp [HE.out], rfl⟩
              · have p6 : ¬ (A : Int) ≤ 57343 := by omega
                have HE := Lib.hid (HGA.out.1 (by omega))
                go_wp2_with fail
                exact bodyPost_ret (v := .tuple #[.int .i64 (A : Int), .int .i64 4]) (by simp [results, Try.results47, go_sem]) rfl ⟨by simp [HE.out], rfl⟩
            · have p5 : ¬ (55296 : Int) ≤ (A : Int) := by omega
              have HE := Lib.hid (HGA.out.1 (by omega))
              go_wp2_with fail
              exact bodyPost_ret (v := .tuple #[.int .i64 (A : Int), .int .i64 4]) (by simp [results, Try.results47, go_sem]) rfl ⟨by simp [HE.out], rfl⟩

set_option maxHeartbeats 1000000 in
theorem code_low (t : ByteArray) (h0 : 0 < t.size) (hs : t.size ≤ 9223372036854775807) (h : byteAt t 0 < 192 ∨ 248 ≤ byteAt t 0) (w : World) :
    Calls Try.prog 47 #[.string t] w fun e w' => e = .returned (.tuple #[.int .i64 ((codeR t).1 : Int), .int .i64 ((codeR t).2 : Int)]) ∧ w = w' := by
  have hb := byteAt_get t 0 h0
  have hbl := byteAt_le t 0
  have p0 : (0 : Int) < (t.size : Int) := by omega
  by_cases h1 : byteAt t 0 < 128
  · have HE := Lib.hid (codeR_one h1)
    obtain ⟨c, hc⟩ : ∃ c, c = byteAt t 0 := ⟨_, rfl⟩
    rw [← hc] at h1 hb hbl HE
    have p1 : (c : Int) < 128 := by omega
    clear hc h
    go_enter Try.func47, Try.ntmps47
    go_wp2_with fail
    exact bodyPost_ret (v := .tuple #[.int .i64 (c : Int), .int .i64 1]) (by simp [results, Try.results47, go_sem]) rfl ⟨by simp [HE.out], rfl⟩
  · have HE := Lib.hid (codeR_zero (t := t) (by omega))
    obtain ⟨c, hc⟩ : ∃ c, c = byteAt t 0 := ⟨_, rfl⟩
    rw [← hc] at h1 hb hbl h
    have p1 : ¬ (c : Int) < 128 := by omega
    rcases h with h | h
    · have s1 : ¬ (192 : Int) ≤ (c : Int) := by omega
      have s2 : ¬ (224 : Int) ≤ (c : Int) := by omega
      have s3 : ¬ (240 : Int) ≤ (c : Int) := by omega
      clear hc
      go_enter Try.func47, Try.ntmps47
      go_wp2_with fail
      exact bodyPost_ret (v := .tuple #[.int .i64 0, .int .i64 0]) (by simp [results, Try.results47, go_sem]) rfl ⟨by simp [HE.out], rfl⟩
    · have s1 : (192 : Int) ≤ (c : Int) := by omega
      have s2 : (224 : Int) ≤ (c : Int) := by omega
      have s3 : (240 : Int) ≤ (c : Int) := by omega
      have s4 : ¬ (c : Int) < 224 := by omega
      have s5 : ¬ (c : Int) < 240 := by omega
      have s6 : ¬ (c : Int) < 248 := by omega
      clear hc
      go_enter Try.func47, Try.ntmps47
      go_wp2_with fail
      exact bodyPost_ret (v := .tuple #[.int .i64 0, .int .i64 0]) (by simp [results, Try.results47, go_sem]) rfl ⟨by simp [HE.out], rfl⟩
theorem code_calls (t : ByteArray) (h0 : 0 < t.size) (hs : t.size ≤ 9223372036854775807) (w : World) :
    Calls Try.prog 47 #[.string t] w fun e w' => e = .returned (.tuple #[.int .i64 ((codeR t).1 : Int), .int .i64 ((codeR t).2 : Int)]) ∧ w = w' := by
  by_cases h1 : byteAt t 0 < 192
  · exact code_low t h0 hs (.inl h1) w
  by_cases h2 : byteAt t 0 < 224
  · exact code_c2 t h0 hs (by omega) h2 w
  by_cases h3 : byteAt t 0 < 240
  · exact code_c3 t h0 hs (by omega) h3 w
  by_cases h4 : byteAt t 0 < 248
  · exact code_c4 t h0 hs (by omega) h4 w
  · exact code_low t h0 hs (.inr (by omega)) w

def FirstOk (c : Nat) : Prop := (97 ≤ c ∧ c ≤ 122) ∨ (65 ≤ c ∧ c ≤ 90) ∨ c = 95 ∨ c = 58 ∨ 127 < c
instance (c : Nat) : Decidable (FirstOk c) := by unfold FirstOk; exact inferInstance
set_option maxHeartbeats 1000000 in
theorem first_calls (c : Nat) (w : World) : Calls Try.prog 48 #[.int .i64 (c : Int)] w fun e w' => e = .returned (.bool (decide (FirstOk c))) ∧ w = w' := by
  by_cases h : FirstOk c
  · rw [decide_eq_true h]
    unfold FirstOk at h
    by_cases a1 : 97 ≤ c
    · have p1 : (97 : Int) ≤ (c : Int) := by omega
      by_cases a2 : c ≤ 122
      · have p2 : (c : Int) ≤ 122 := by omega
        go_enter Try.func48, Try.ntmps48
        go_wp2_with fail
        go_ret
        exact ⟨rfl, rfl⟩
      · have p2 : ¬ (c : Int) ≤ 122 := by omega
        have p3 : (65 : Int) ≤ (c : Int) := by omega
        have p4 : ¬ (c : Int) ≤ 90 := by omega
        have p5 : ((c : Int) == 95) = false := by simp; omega
        have p6 : ((c : Int) == 58) = false := by simp; omega
        have p7 : (127 : Int) < (c : Int) := by omega
        clear h
        go_enter Try.func48, Try.ntmps48
        go_wp2_with fail
        go_ret
        exact ⟨rfl, rfl⟩
    · have p1 : ¬ (97 : Int) ≤ (c : Int) := by omega
      by_cases a3 : 65 ≤ c
      · have p3 : (65 : Int) ≤ (c : Int) := by omega
        by_cases a4 : c ≤ 90
        · have p4 : (c : Int) ≤ 90 := by omega
          clear h
          go_enter Try.func48, Try.ntmps48
          go_wp2_with fail
          go_ret
          exact ⟨rfl, rfl⟩
        · have p4 : ¬ (c : Int) ≤ 90 := by omega
          obtain rfl : c = 95 := by omega
          clear h
          go_enter Try.func48, Try.ntmps48
          go_wp2_with fail
          go_ret
          exact ⟨rfl, rfl⟩
      · obtain rfl : c = 58 := by omega
        clear h
        go_enter Try.func48, Try.ntmps48
        go_wp2_with fail
        go_ret
        exact ⟨rfl, rfl⟩
  · rw [decide_eq_false h]
    unfold FirstOk at h
    have p5 : ((c : Int) == 95) = false := by simp; omega
    have p6 : ((c : Int) == 58) = false := by simp; omega
    have p7 : ¬ (127 : Int) < (c : Int) := by omega
    by_cases a1 : 97 ≤ c
    · have p1 : (97 : Int) ≤ (c : Int) := by omega
      have p2 : ¬ (c : Int) ≤ 122 := by omega
      have p3 : (65 : Int) ≤ (c : Int) := by omega
      have p4 : ¬ (c : Int) ≤ 90 := by omega
      clear h
      go_enter Try.func48, Try.ntmps48
      go_wp2_with fail
      go_ret
      exact ⟨rfl, rfl⟩
    · have p1 : ¬ (97 : Int) ≤ (c : Int) := by omega
      by_cases a3 : 65 ≤ c
      · have p3 : (65 : Int) ≤ (c : Int) := by omega
        have p4 : ¬ (c : Int) ≤ 90 := by omega
        clear h
        go_enter Try.func48, Try.ntmps48
        go_wp2_with fail
        go_ret
        exact ⟨rfl, rfl⟩
      · have p3 : ¬ (65 : Int) ≤ (c : Int) := by omega
        clear h
        go_enter Try.func48, Try.ntmps48
        go_wp2_with fail
        go_ret
        exact ⟨rfl, rfl⟩
end Go.Proofs.Ytelhnaphkbpakaa

