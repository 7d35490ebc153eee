/- What DataUnits is given; small laws. No program. What DataUnits' loops ask of a row that a call told; the boxes. No program. -/
import Derived.Test.YtelhnaphkbpakaaMu19
namespace Go.Proofs.Ytelhnaphkbpakaa
open Go.RowKit
set_option linter.unusedVariables false
set_option maxRecDepth 100000

def cutCells (N : Nd) (off cnt : Int) (ba : Option Addr) (ul bc : Nat) : Array Value :=
  #[.int .i64 N.kind, .string N.name, .slice N.da N.data.length N.dc, .slice N.aa N.L.length N.ac, .int .u32 N.slot, .int .u32 N.gen, .int .i64 off, .int .i64 cnt, .slice ba ul bc]
theorem cut_cells {w : World} {b : Nat} {N : Nd} {off cnt : Int} {ba : Option Addr} {ul bc : Nat} (h : w.heap[b]? = some (.cells (cutCells N off cnt ba ul bc) 40 (0, 0))) :
    w.cell? ⟨b, 0, none⟩ = some (.int .i64 N.kind) ∧ w.cell? ⟨b, 1, none⟩ = some (.string N.name) ∧ w.cell? ⟨b, 2, none⟩ = some (.slice N.da N.data.length N.dc) ∧ w.cell? ⟨b, 3, none⟩ = some (.slice N.aa N.L.length N.ac) ∧ w.cell? ⟨b, 4, none⟩ = some (.int .u32 N.slot) ∧ w.cell? ⟨b, 5, none⟩ = some (.int .u32 N.gen) ∧
    w.cell? ⟨b, 6, none⟩ = some (.int .i64 off) ∧ w.cell? ⟨b, 7, none⟩ = some (.int .i64 cnt) ∧ w.cell? ⟨b, 8, none⟩ = some (.slice ba ul bc) ∧ b < w.heap.size :=
  ⟨cell_blk h 0 rfl, cell_blk h 1 rfl, cell_blk h 2 rfl, cell_blk h 3 rfl, cell_blk h 4 rfl, cell_blk h 5 rfl, cell_blk h 6 rfl, cell_blk h 7 rfl, cell_blk h 8 rfl, lt_of_some h⟩
theorem six_other {w : World} {k g : Nat} {o : Obj} (h : w.heap[k]? = some o) (hne : k ≠ g) (v0 v1 v2 v3 v4 v5 : Value) :
    ((((((w.setCell ⟨g, 0, none⟩ v0).setCell ⟨g, 1, none⟩ v1).setCell ⟨g, 2, none⟩ v2).setCell ⟨g, 3, none⟩ v3).setCell ⟨g, 4, none⟩ v4).setCell ⟨g, 5, none⟩ v5).heap[k]? = some o :=
  set_other (set_other (set_other (set_other (set_other (set_other h hne _) hne _) hne _) hne _) hne _) hne _
theorem Nd.Bd.mono {N : Nd} {b b' : Nat} (h : N.Bd b) (hb : b ≤ b') : N.Bd b' := ⟨Nat.le_trans h.data hb, Nat.le_trans h.attrs hb, fun x hx => Nat.le_trans (h.val x hx) hb⟩

/-- A bound of what a node has, wherever it lies. -/
structure NC.Bd (c : NC) (b : Nat) : Prop where
  data : c.data.length ≤ b
  attrs : c.attrs.length ≤ b
  val : ∀ x ∈ c.attrs, x.2.length ≤ b
theorem Nd.Bd.c {N : Nd} {b : Nat} (h : N.Bd b) : N.c.Bd b := ⟨h.data, by unfold Nd.c; simp; exact h.attrs, fun x hx => by
  unfold Nd.c at hx
  obtain ⟨y, hy, rfl⟩ := List.mem_map.1 hx
  exact h.val y hy⟩
theorem NC.Bd.nd {N : Nd} {b : Nat} (h : N.c.Bd b) : N.Bd b := ⟨h.data, by have := h.attrs; unfold Nd.c at this; simpa using this, fun x hx => h.val (attrOf x) (List.mem_map.2 ⟨x, hx, rfl⟩)⟩
theorem NC.Bd.zero (b : Nat) : NC.zero.Bd b := ⟨Nat.zero_le _, Nat.zero_le _, (fun _ hx => absurd hx (List.not_mem_nil))⟩
theorem replD_bd {c : NC} {b : Nat} (h : c.Bd b) (off cnt : Int) (us : List Nat) {b' : Nat} (hb : b ≤ b') (hs : b + us.length + b ≤ b') : (replD c off cnt us).1.Bd b' := by
  unfold replD
  split
  · refine ⟨?_, Nat.le_trans h.attrs hb, fun x hx => Nat.le_trans (h.val x hx) hb⟩
    have := h.data
    simp only [List.length_append, List.length_take, List.length_drop]
    omega
  · exact NC.Bd.zero _
/-- What Sub tells, if it tells anything. -/
def subX (k off cnt : Int) (data : List Nat) : List Nat := if (partD k off cnt data.length).2 = 0 then subD k off cnt data else []
theorem subX_len (k off cnt : Int) (data : List Nat) : (subX k off cnt data).length ≤ data.length := by
  unfold subX
  split
  · unfold subD; rw [List.length_take, List.length_drop]; omega
  · simp
theorem sub_u (w : World) (N : Nd) (h : NdIn w N) (hB : N.Bd 1099511627776) (off cnt : Int) {k : Int} {xs : List Nat} (e1 : (partD N.kind off cnt N.data.length).2 = k) (e2 : subX N.kind off cnt N.data = xs) :
    Calls Try.prog 23 #[N.v, .int .i64 off, .int .i64 cnt] w fun e w' => ∃ a, e = .returned (.tuple #[.slice a xs.length xs.length, .int .i64 k]) ∧ Clip16 w.heap.size w' a xs ∧ Below w.heap.size w w' := by
  refine (sub_calls w N h hB off cnt).mono ?_
  rintro e w' ⟨hb, hc⟩
  unfold subX at e2
  rcases hc with ⟨h1, h2⟩ | ⟨h1, a, h2, h3⟩
  · rw [if_neg h1] at e2
    subst e2
    exact ⟨none, by rw [h2, e1]; rfl, Clip16.nil _ _, hb⟩
  · rw [if_pos h1] at e2
    subst e2
    rw [h1] at e1
    subst e1
    exact ⟨a, h2, h3, hb⟩
theorem subR_u (w : World) (N : Nd) (h : NdIn w N) (hB : N.Bd 1099511627776) (off cnt : Int) {k : Int} {xs : List Nat} (e1 : (partD N.kind off cnt N.data.length).2 = k) (e2 : subX N.kind off cnt N.data = xs) :
    Calls Try.prog 24 #[N.v, .int .i64 off, .int .i64 cnt] w fun e w' => ∃ a c, e = .returned (.tuple #[.slice a xs.length c, .int .i64 k]) ∧ Clip16 w.heap.size w' a xs ∧ Below w.heap.size w w' := by
  refine (subR_calls w N h hB off cnt).mono ?_
  rintro e w' ⟨hb, hc⟩
  unfold subX at e2
  rcases hc with ⟨h1, h2⟩ | ⟨h1, a, c, h2, h3⟩
  · rw [if_neg h1] at e2
    subst e2
    exact ⟨none, 0, by rw [h2, e1]; rfl, Clip16.nil _ _, hb⟩
  · rw [if_pos h1] at e2
    subst e2
    rw [h1] at e1
    subst e1
    exact ⟨a, c, h2, h3, hb⟩

theorem OutW.grown {lo hi : Nat} {V w w' : World} (h : OutW lo hi V w) {row : Option Nat} (hg : w.grownBy w' row) (hr : ∀ k, row = some k → V.heap.size ≤ k ∨ (lo ≤ k ∧ k < hi)) : OutW lo hi V w' :=
  ⟨Nat.le_trans h.size hg.size, hg.os.trans h.os, hg.tape.trans h.tape, hg.output.trans h.output, fun k o hk ho => by
    have h1 := h.block k o hk ho
    refine (hg.block k (lt_of_some h1) (fun e => ?_)).trans h1
    have h2 := lt_of_some hk
    rcases hr k e.symm with h3 | h3 <;> omega⟩
theorem OutW.set {lo hi : Nat} {V w : World} (h : OutW lo hi V w) {a : Addr} (h1 : lo ≤ a.block) (h2 : a.block < hi) (v : Value) : OutW lo hi V (w.setCell a v) :=
  ⟨by rw [World.size_setCell]; exact h.size, h.os, h.tape, h.output, fun k o hk ho => set_other (h.block k o hk ho) (by rintro rfl; omega) v⟩
theorem OutW.drewN {lo hi : Nat} {V w : World} (h : OutW lo hi V w) (k : Nat) : OutW lo hi V (w.drewN k) := ⟨h.size, h.os, h.tape, h.output, h.block⟩

/-- What the law has in hand after its first steps: the box of what it was given, the node and the units lent. -/
structure CutSt (w : World) (N : Nd) (off cnt : Int) (ba : Option Addr) (bc : Nat) (us : List Nat) (b4 : Nat) (M : Nd) (a5 : Option Addr) (c5 : Nat) (W : World) : Prop where
  bx : W.heap[w.heap.size]? = some (.cells (cutCells N off cnt ba us.length bc) 40 (0, 0))
  x : W.heap[b4]? = some (.cells M.cells 30 (0, 0))
  m : LentNd w.heap.size W M
  by_ : LentU w.heap.size W a5 c5 us
  same : M.Same N
  low : Below w.heap.size w W
theorem CutSt.below {w : World} {N : Nd} {off cnt : Int} {ba : Option Addr} {bc : Nat} {us : List Nat} {b4 : Nat} {M : Nd} {a5 : Option Addr} {c5 : Nat} {W W' : World} (h : CutSt w N off cnt ba bc us b4 M a5 c5 W) (b : Below W.heap.size W W') : CutSt w N off cnt ba bc us b4 M a5 c5 W' :=
  ⟨(b.block _ (lt_of_some h.bx)).trans h.bx, (b.block _ (lt_of_some h.x)).trans h.x, h.m.below b, h.by_.below b, h.same, h.low.trans (b.mono h.low.size)⟩
end Go.Proofs.Ytelhnaphkbpakaa

namespace Go.Proofs.Ytelhnaphkbpakaa
open Go.RowKit
set_option linter.unusedVariables false
set_option maxRecDepth 100000

theorem row_store {B hi : Nat} {V wr : World} {a : Option Addr} {n cap i : Nat} {ys : List Value} (ho : OutW B hi V wr) (hr : wr.ownsRow B 45 1 (.slice a n cap) n ys) (hg : ∀ g, (Value.slice a n cap).ownBlock = some g → g < hi) (hi' : i < n) :
    ∃ g u, a = some ⟨g, 0, none⟩ ∧ g < wr.heap.size ∧ wr.cell? ⟨g, i, none⟩ = some u ∧ wr.frozen? ⟨g, i, none⟩ = false ∧ ∀ v, OutW B hi V (wr.setCell ⟨g, i, none⟩ v) ∧ ∃ ys', (wr.setCell ⟨g, i, none⟩ v).ownsRow B 45 1 (.slice a n cap) n ys' := by
  have hlen := hr.1
  obtain ⟨u, hu⟩ : ∃ u, ys[i]? = some u := ⟨_, List.getElem?_eq_getElem (by omega)⟩
  obtain ⟨b, rfl, hb, hc⟩ := row_src hr hu
  rw [Nat.zero_add] at hc
  obtain ⟨cur, hblk, hB⟩ := rwBlk hr
  exact ⟨b, u, rfl, hb, hc, free_blk hblk i, fun v => ⟨ho.set (a := ⟨b, i, none⟩) hB (hg b rfl) v, _, (hr.stored i v).1⟩⟩
theorem row_olds {B : Nat} {wr w2 : World} {a : Option Addr} {n cap : Nat} {ys : List Value} (hr : wr.ownsRow B 45 1 (.slice a n cap) n ys) (h2 : Below wr.heap.size wr w2) :
    ys.length = n * 1 ∧ (∀ (j : Nat) (u : Value), ys[j]? = some u → ∃ b, a = some b ∧ w2.cell? (b.add j) = some u) ∧ (a = none → n = 0) := by
  refine ⟨hr.1, fun j u hu => ?_, fun h => ?_⟩
  · obtain ⟨b, rfl, hb, hc⟩ := row_src hr hu
    refine ⟨_, rfl, ?_⟩
    rw [show (⟨b, 0, none⟩ : Addr).add j = ⟨b, 0 + j, none⟩ by unfold Addr.add; split <;> simp_all]
    exact (h2.cell (p := ⟨b, 0 + j, none⟩) hb).trans hc
  · subst h
    rcases hr.2 with ⟨h1, h2⟩ | ⟨g, cap', cur, h1, _⟩
    · exact h2
    · cases h1
theorem row_lt {w : World} {B : Nat} {a : Option Addr} {n cap : Nat} {ys : List Value} (hr : w.ownsRow B 45 1 (.slice a n cap) n ys) : ∀ g, (Value.slice a n cap).ownBlock = some g → g < w.heap.size := fun g hg => (hr.lt g hg).2

theorem row_drewN {w : World} {B : Nat} {e : TypeId} {size : Nat} {v : Value} {n : Nat} {ys : List Value} (h : w.ownsRow B e size v n ys) (k : Nat) : (w.drewN k).ownsRow B e size v n ys := row_below h (((FrT.refl [] w.heap.size w).drewN k).below (Nat.le_refl _))
/-- The box of a node, made and filled. -/
theorem box_made {w : World} {B : Nat} (M : Nd) (hB : B ≤ w.heap.size) :
    ∃ W, ((((((((w.alloc (.cells Nd.zero.cells 30)).setCell ⟨w.heap.size, 0, none⟩ (.int .i64 M.kind)).setCell ⟨w.heap.size, 1, none⟩ (.string M.name)).setCell ⟨w.heap.size, 2, none⟩ (.slice M.da M.data.length M.dc)).setCell ⟨w.heap.size, 3, none⟩ (.slice M.aa M.L.length M.ac)).setCell ⟨w.heap.size, 4, none⟩ (.int .u32 M.slot)).setCell ⟨w.heap.size, 5, none⟩ (.int .u32 M.gen))) = W ∧ W.heap[w.heap.size]? = some (.cells M.cells 30 (0, 0)) ∧ Below w.heap.size w W ∧ W.heap.size = w.heap.size + 1 := by
  obtain ⟨h1, h2⟩ := six_cells (Go.heap_alloc_new w (.cells Nd.zero.cells 30)) (.int .i64 M.kind) (.string M.name) (.slice M.da M.data.length M.dc) (.slice M.aa M.L.length M.ac) (.int .u32 M.slot) (.int .u32 M.gen)
  exact ⟨_, rfl, h1, ((Below.refl _ w).alloc (Nat.le_refl _) _).trans (h2.below (by simp)), by simp⟩
end Go.Proofs.Ytelhnaphkbpakaa

