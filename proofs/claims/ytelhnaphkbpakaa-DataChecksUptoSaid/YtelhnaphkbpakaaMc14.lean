/- The document's Clone: the same node in memory of the call's own, with whatever room. -/
import Derived.Test.YtelhnaphkbpakaaMc13
namespace Go.Proofs.Ytelhnaphkbpakaa
open Go.RowKit
set_option linter.unusedVariables false
set_option maxRecDepth 100000

/-- A node in memory of the call's own, with whatever room behind its lists. -/
structure OwnNd (B : Nat) (w : World) (N : Nd) : Prop where
  data : w.ownsRow B 45 1 (.slice N.da N.data.length N.dc) N.data.length (enc16 N.data)
  bnd : ∀ u ∈ N.data, u ≤ 65535
  attrs : w.ownsRow B 72 2 (.slice N.aa N.L.length N.ac) N.L.length (cellsA N.L)
  val : ∀ x ∈ N.L, Clip16 B w x.va x.val
  nams : ∀ x ∈ N.L, x.name.size ≤ 9223372036854775807
  nam : N.name.size ≤ 9223372036854775807
  bd : N.Bd 1099511627776
theorem OwnNd.nd {B : Nat} {w : World} {N : Nd} (h : OwnNd B w N) : NdIn w N := by
  have h1 := row_cap h.data
  have h2 := row_cap h.attrs
  have h3 := h.bd.data
  have h4 := h.bd.attrs
  exact ⟨(Clip16.sl ⟨⟨_, h.data⟩, h.bnd, by omega⟩), ⟨fun j u hu => by obtain ⟨b, e1, e2, e3⟩ := row_src h.attrs hu; exact ⟨b, 0, e1, e2, e3⟩, by omega, fun x hx => (h.val x hx).sl, h.nams⟩, h.nam, by omega⟩
theorem OwnNd.out {lo hi B : Nat} {w w' : World} {N : Nd} (o : OutW lo hi w w') (h : OwnNd B w N) (hb : hi ≤ B) : OwnNd B w' N :=
  ⟨o.row h.data hb, h.bnd, o.row h.attrs hb, fun x hx => o.clip (h.val x hx) hb, h.nams, h.nam, h.bd⟩
theorem OwnNd.below {B : Nat} {w w' : World} {N : Nd} (h : OwnNd B w N) (b : Below w.heap.size w w') : OwnNd B w' N :=
  ⟨row_below h.data b, h.bnd, row_below h.attrs b, fun x hx => (h.val x hx).below b, h.nams, h.nam, h.bd⟩
theorem OwnNd.mono {B B' : Nat} {w : World} {N : Nd} (h : OwnNd B w N) (b : B' ≤ B) : OwnNd B' w N :=
  ⟨h.data.mono b, h.bnd, h.attrs.mono b, fun x hx => (h.val x hx).mono b, h.nams, h.nam, h.bd⟩

/-- Where the loop of the document's Clone stands. -/
structure CR (w0 : World) (N : Nd) (a1 : Option Addr) (c1 : Nat) (wr : World) (i : Nat) (K : List LA) (A : Option Addr) (C : Nat) : Prop where
  box : wr.heap[w0.heap.size]? = some (.cells N.cells 30 (0, 0))
  res : wr.heap[w0.heap.size + 1]? = some (.cells Nd.zero.cells 30 (0, 0))
  out : wr.heap[w0.heap.size + 2]? = some (.cells #[.int .i64 N.kind, .string N.name, .slice a1 N.data.length c1, .slice A i C, .int .u32 N.slot, .int .u32 N.gen] 30 (0, 0))
  data : wr.ownsRow w0.heap.size 45 1 (.slice a1 N.data.length c1) N.data.length (enc16 N.data)
  row : wr.ownsRow w0.heap.size 72 2 (.slice A i C) i (cellsA K)
  val : ∀ x ∈ K, Clip16 w0.heap.size wr x.va x.val
  low : Below w0.heap.size w0 wr
theorem CR.below {w0 : World} {N : Nd} {a1 : Option Addr} {c1 : Nat} {wr wr' : World} {i : Nat} {K : List LA} {A : Option Addr} {C : Nat} (h : CR w0 N a1 c1 wr i K A C) (b : Below wr.heap.size wr wr') : CR w0 N a1 c1 wr' i K A C :=
  ⟨(b.block _ (lt_of_some h.box)).trans h.box, (b.block _ (lt_of_some h.res)).trans h.res, (b.block _ (lt_of_some h.out)).trans h.out, row_below h.data b, row_below h.row b, fun x hx => (h.val x hx).below b, h.low.trans (b.mono h.low.size)⟩
theorem CR.mid {w0 : World} {N : Nd} {a1 : Option Addr} {c1 : Nat} {w5 w6 : World} {i : Nat} {K : List LA} {A : Option Addr} {C : Nat} (h : CR w0 N a1 c1 w5 i K A C) (o : Obj) (hg : (w5.alloc o).grownBy w6 (Value.slice A i C).ownBlock) :
    FrT [72] w0.heap.size w5 w6 := ((FrT.refl _ _ _).alloc _).append (h.row.alloc _) (Nat.le_refl _) (by simp) hg
theorem CR.push {w0 : World} {N : Nd} {a1 : Option Addr} {c1 : Nat} {w5 w6 : World} {i : Nat} {K : List LA} {A : Option Addr} {C : Nat} (h : CR w0 N a1 c1 w5 i K A C) (o : Obj) (x : LA) (hx : Clip16 w0.heap.size w5 x.va x.val) {A' : Option Addr} {C' : Nat}
    (hown : w6.ownsRow w0.heap.size 72 2 (.slice A' (i + 1) C') (i + 1) (cellsA K ++ x.cells)) (hg : (w5.alloc o).grownBy w6 (Value.slice A i C).ownBlock) :
    CR w0 N a1 c1 (w6.setCell ⟨w0.heap.size + 2, 3, none⟩ (.slice A' (i + 1) C')) (i + 1) (K ++ [x]) A' C' := by
  have f := h.mid o hg
  have hs := h.low.size
  have o6 := f.blk h.out (by decide)
  have hset := set_blk o6 3 (.slice A' (i + 1) C')
  refine ⟨set_other (f.blk h.box (by decide)) (by simp) _, set_other (f.blk h.res (by decide)) (by simp) _, hset, rwOther (f.row h.data (by decide)) o6 (by decide) _ _, ?_, ?_, (h.low.trans (f.below hs)).setCell (by simp) _⟩
  · rw [cellsA_append, show cellsA [x] = x.cells by simp [cellsA]]
    exact rwOther hown o6 (by decide) _ _
  · intro y hy
    have hc : Clip16 w0.heap.size w5 y.va y.val := by
      rcases List.mem_append.1 hy with hy | hy
      · exact h.val y hy
      · obtain rfl := by simpa using hy
        exact hx
    obtain ⟨cap, hr⟩ := hc.row
    exact ⟨⟨cap, rwOther (f.row hr (by decide)) o6 (by decide) _ _⟩, hc.bnd, hc.len⟩
end Go.Proofs.Ytelhnaphkbpakaa

