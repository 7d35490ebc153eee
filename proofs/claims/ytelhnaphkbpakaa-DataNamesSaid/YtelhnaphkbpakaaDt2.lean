/- A node and its attributes as they lie in memory. -/
import Derived.Test.YtelhnaphkbpakaaDt1
namespace Go.Proofs.Ytelhnaphkbpakaa
open Go.RowKit
set_option linter.unusedVariables false
set_option maxRecDepth 100000

/-- An attribute: its name, its value, and where the value lies. -/
structure LA where
  name : ByteArray
  va : Option Addr
  vc : Nat
  val : List Nat
def LA.cells (x : LA) : List Value := [.string x.name, .slice x.va x.val.length x.vc]
def LA.v (x : LA) : Value := .agg #[.string x.name, .slice x.va x.val.length x.vc]
def cellsA (L : List LA) : List Value := L.flatMap LA.cells
theorem cellsA_append (L M : List LA) : cellsA (L ++ M) = cellsA L ++ cellsA M := by simp [cellsA]
theorem cellsA_len (L : List LA) : (cellsA L).length = L.length * 2 := by
  induction L with
  | nil => rfl
  | cons x l ih =>
    have : cellsA (x :: l) = x.cells ++ cellsA l := rfl
    rw [this, List.length_append, ih]
    simp [LA.cells]
    omega
theorem cellsA_at {L : List LA} {i : Nat} {x : LA} (h : L[i]? = some x) : (cellsA L)[i * 2]? = some (.string x.name) ∧ (cellsA L)[i * 2 + 1]? = some (.slice x.va x.val.length x.vc) := by
  induction L generalizing i with
  | nil => simp at h
  | cons y l ih =>
    have e : cellsA (y :: l) = .string y.name :: .slice y.va y.val.length y.vc :: cellsA l := rfl
    cases i with
    | zero =>
      obtain rfl : y = x := by simpa using h
      rw [e]
      exact ⟨rfl, rfl⟩
    | succ i =>
      have h2 : l[i]? = some x := by simpa using h
      have h3 := ih h2
      rw [e, show (i + 1) * 2 = i * 2 + 1 + 1 by omega, show i * 2 + 1 + 1 + 1 = (i * 2 + 1) + 1 + 1 by omega]
      simpa using h3
theorem cellsA_one (L : List LA) : ∀ u ∈ cellsA L, u.oneCell' = true := by
  intro u hu
  obtain ⟨x, _, hx⟩ := List.mem_flatMap.1 hu
  rcases List.mem_cons.1 hx with rfl | hx
  · rfl
  · obtain rfl := by simpa using hx
    rfl

/-- A slice of attributes as they lie in memory; of none: whatever its address. -/
structure SlA (w : World) (a : Option Addr) (L : List LA) : Prop where
  at_ : ∀ (j : Nat) (u : Value), (cellsA L)[j]? = some u → ∃ b off, a = some ⟨b, off, none⟩ ∧ b < w.heap.size ∧ w.cell? ⟨b, off + j, none⟩ = some u
  len : L.length ≤ 4611686018427387903
  val : ∀ x ∈ L, Sl16 w x.va x.val
  nam : ∀ x ∈ L, x.name.size ≤ 9223372036854775807
theorem SlA.below {w w' : World} {a : Option Addr} {L : List LA} (h : SlA w a L) (hb : Below w.heap.size w w') : SlA w' a L :=
  ⟨fun j u hu => by
    obtain ⟨b, off, h2, h3, h4⟩ := h.at_ j u hu
    exact ⟨b, off, h2, Nat.lt_of_lt_of_le h3 hb.size, (hb.cell (p := ⟨b, off + j, none⟩) h3).trans h4⟩, h.len, fun x hx => (h.val x hx).below hb, h.nam⟩
theorem SlA.nil (w : World) (a : Option Addr) : SlA w a [] := ⟨fun i u hu => by simp [cellsA] at hu, by simp, by simp, by simp⟩
/-- What the walk wants of the attribute numbered i. -/
theorem SlA.get {w : World} {a : Option Addr} {L : List LA} (h : SlA w a L) {i : Nat} {x : LA} (hx : L[i]? = some x) :
    ∃ b off, a = some ⟨b, off, none⟩ ∧ b < w.heap.size ∧ w.cell? ⟨b, off + i * 2, none⟩ = some (.string x.name) ∧ w.cell? ⟨b, off + i * 2 + 1, none⟩ = some (.slice x.va x.val.length x.vc) := by
  obtain ⟨h1, h2⟩ := cellsA_at hx
  obtain ⟨b, off, e1, e2, e3⟩ := h.at_ _ _ h1
  obtain ⟨b', off', f1, f2, f3⟩ := h.at_ _ _ h2
  rw [e1] at f1
  cases f1
  exact ⟨b, off, e1, e2, e3, by rw [Nat.add_assoc]; exact f3⟩

/-- A node. -/
structure Nd where
  kind : Int
  name : ByteArray
  da : Option Addr
  dc : Nat
  data : List Nat
  aa : Option Addr
  ac : Nat
  L : List LA
  slot : Int
  gen : Int
def Nd.cells (N : Nd) : Array Value := #[.int .i64 N.kind, .string N.name, .slice N.da N.data.length N.dc, .slice N.aa N.L.length N.ac, .int .u32 N.slot, .int .u32 N.gen]
def Nd.v (N : Nd) : Value := .agg N.cells
structure NdIn (w : World) (N : Nd) : Prop where
  data : Sl16 w N.da N.data
  attrs : SlA w N.aa N.L
  nam : N.name.size ≤ 9223372036854775807
  cap : N.data.length ≤ N.dc ∧ N.dc ≤ 9223372036854775807 ∧ N.L.length ≤ N.ac ∧ N.ac ≤ 9223372036854775807
theorem NdIn.below {w w' : World} {N : Nd} (h : NdIn w N) (hb : Below w.heap.size w w') : NdIn w' N := ⟨h.data.below hb, h.attrs.below hb, h.nam, h.cap⟩
/-- A bound of what a node has. -/
structure Nd.Bd (N : Nd) (b : Nat) : Prop where
  data : N.data.length ≤ b
  attrs : N.L.length ≤ b
  val : ∀ x ∈ N.L, x.val.length ≤ b

/-- What a node has, wherever it lies. -/
def attrOf (x : LA) : ByteArray × List Nat := (x.name, x.val)
structure Nd.Same (M N : Nd) : Prop where
  kind : M.kind = N.kind
  name : M.name = N.name
  data : M.data = N.data
  attrs : M.L.map attrOf = N.L.map attrOf
  slot : M.slot = N.slot
  gen : M.gen = N.gen
theorem Nd.Same.len {M N : Nd} (h : M.Same N) : M.L.length = N.L.length := by have := congrArg List.length h.attrs; simpa using this

/-- Attributes in memory of the call's own, without room. -/
structure ClipA (B : Nat) (w : World) (a : Option Addr) (L : List LA) : Prop where
  row : ∃ cap, w.ownsRow B 72 2 (.slice a L.length cap) L.length (cellsA L)
  val : ∀ x ∈ L, Clip16 B w x.va x.val ∧ x.vc = x.val.length
  nam : ∀ x ∈ L, x.name.size ≤ 9223372036854775807
theorem ClipA.below {B : Nat} {w w' : World} {a : Option Addr} {L : List LA} (h : ClipA B w a L) (b : Below w.heap.size w w') : ClipA B w' a L :=
  ⟨by obtain ⟨cap, hr⟩ := h.row; exact ⟨cap, row_below hr b⟩, fun x hx => ⟨(h.val x hx).1.below b, (h.val x hx).2⟩, h.nam⟩
theorem row_src {w : World} {base : Nat} {e : TypeId} {size : Nat} {a : Option Addr} {n cap m : Nat} {xs : List Value} (h : w.ownsRow base e size (.slice a n cap) m xs) {j : Nat} {u : Value} (hu : xs[j]? = some u) :
    ∃ b, a = some ⟨b, 0, none⟩ ∧ b < w.heap.size ∧ w.cell? ⟨b, 0 + j, none⟩ = some u := by
  have hj : j < xs.length := (List.getElem?_eq_some_iff.1 hu).1
  have hx := h.1
  have hm : 0 < m := by rcases Nat.eq_zero_or_pos m with h0 | h0
                        · rw [h0, Nat.zero_mul] at hx; omega
                        · exact h0
  obtain ⟨g, c, hv, hb, hl⟩ := h.form hm
  obtain ⟨h1, h2, h3⟩ : a = some ⟨g, 0, none⟩ ∧ n = m ∧ cap = c := by simpa using hv
  subst h1 h2 h3
  refine ⟨g, rfl, (h.lt g rfl).2, ?_⟩
  rw [Nat.zero_add]
  exact (h.cellAt j (by rw [← hx]; exact hj)).trans hu
theorem ClipA.sl {B : Nat} {w : World} {a : Option Addr} {L : List LA} (h : ClipA B w a L) (hl : L.length ≤ 4611686018427387903) : SlA w a L := by
  obtain ⟨cap, hr⟩ := h.row
  exact ⟨fun j u hu => by obtain ⟨b, h1, h2, h3⟩ := row_src hr hu; exact ⟨b, 0, h1, h2, h3⟩, hl, fun x hx => (h.val x hx).1.sl, h.nam⟩
/-- A node in memory of the call's own. -/
structure Fresh (B : Nat) (w : World) (N : Nd) : Prop where
  data : Clip16 B w N.da N.data
  dc : N.dc = N.data.length
  attrs : ClipA B w N.aa N.L
  ac : N.ac = N.L.length
  nam : N.name.size ≤ 9223372036854775807
  len : N.L.length ≤ 4611686018427387903
theorem Fresh.below {B : Nat} {w w' : World} {N : Nd} (h : Fresh B w N) (b : Below w.heap.size w w') : Fresh B w' N := ⟨h.data.below b, h.dc, h.attrs.below b, h.ac, h.nam, h.len⟩
theorem Fresh.nd {B : Nat} {w : World} {N : Nd} (h : Fresh B w N) : NdIn w N := ⟨h.data.sl, h.attrs.sl h.len, h.nam, by have h1 := h.dc; have h2 := h.ac; have h3 := h.data.len; have h4 := h.len; omega⟩
end Go.Proofs.Ytelhnaphkbpakaa
