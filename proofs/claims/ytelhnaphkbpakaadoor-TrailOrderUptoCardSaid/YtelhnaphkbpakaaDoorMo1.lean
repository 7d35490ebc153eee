/- General lemmas on worlds: a frame by element types, blocks of cells, owned rows. No statement of the program. An arena as data (no program): what its slots hold, which are free; what its operations do to that. Handles compared: '==' and '!=' of two structs of two uint32. -/
import Derived.WalkKit
import Derived.WalkLawsBesides
import Derived.BigQuiet
import Derived.Deep.QuietTactic
import Derived.Lib.Hide
import Derived.Laws.Rows
import Derived.Test.YtelhnaphkbpakaaDoorProg
import Derived.Laws.StructEq
namespace Go.Proofs.YtelhnaphkbpakaaDoor
open Go.RowKit
set_option linter.unusedVariables false

/-- The element type of a block of cells. -/
def oty : Obj → Option TypeId
  | .cells _ e _ => some e
  | _ => none

/-- w' is w but for new blocks and for blocks from B on whose element type is one of T. -/
structure FrT (T : List TypeId) (B : Nat) (w w' : World) : Prop where
  os : w'.os = w.os
  tape : w'.tape = w.tape
  output : w'.output = w.output
  size : w.heap.size ≤ w'.heap.size
  block : ∀ (k : Nat) o, w.heap[k]? = some o → (k < B ∨ ∀ e, oty o = some e → e ∉ T) → w'.heap[k]? = some o

section
variable {T : List TypeId} {B : Nat} {w w' w'' : World}

theorem FrT.refl (T : List TypeId) (B : Nat) (w : World) : FrT T B w w :=
  ⟨rfl, rfl, rfl, Nat.le_refl _, fun _ _ h _ => h⟩

theorem FrT.trans (h : FrT T B w w') (k : FrT T B w' w'') : FrT T B w w'' :=
  ⟨k.os.trans h.os, k.tape.trans h.tape, k.output.trans h.output, Nat.le_trans h.size k.size, fun i o hi ho => k.block i o (h.block i o hi ho) ho⟩

theorem FrT.mono {T' : List TypeId} {B' : Nat} (h : FrT T B w w') (hT : ∀ e ∈ T, e ∈ T') (hB : B' ≤ B) : FrT T' B' w w' :=
  ⟨h.os, h.tape, h.output, h.size, fun k o hk ho => h.block k o hk (ho.imp (fun x => Nat.lt_of_lt_of_le x hB) (fun f e he hm => f e he (hT e hm)))⟩

theorem lt_of_some {w : World} {k : Nat} {o : Obj} (h : w.heap[k]? = some o) : k < w.heap.size := (Array.getElem?_eq_some_iff.1 h).1

theorem FrT.of_below (h : Below w.heap.size w w') : FrT T B w w' :=
  ⟨h.os, h.tape, h.output, h.size, fun k o hk _ => (h.block k (lt_of_some hk)).trans hk⟩

theorem FrT.below (h : FrT T B w w') (hB : B ≤ w.heap.size) : Below B w w' :=
  ⟨h.os, h.tape, h.output, h.size, fun k hk => by
    have hl : k < w.heap.size := Nat.lt_of_lt_of_le hk hB
    have e : w.heap[k]? = some w.heap[k] := Array.getElem?_eq_getElem hl
    rw [e]; exact h.block k _ e (.inl hk)⟩

theorem FrT.alloc (h : FrT T B w w') (o : Obj) : FrT T B w (w'.alloc o) :=
  h.trans (.of_below ((Below.refl _ _).alloc (Nat.le_refl _) o))

theorem FrT.drew (h : FrT T B w w') : FrT T B w w'.drew := ⟨h.os, h.tape, h.output, h.size, h.block⟩
theorem FrT.drewN (h : FrT T B w w') (n : Nat) : FrT T B w (w'.drewN n) := ⟨h.os, h.tape, h.output, h.size, h.block⟩

/-- A store into a block whose type is one of T. -/
theorem FrT.set (h : FrT T B w w') {a : Addr} (hB : B ≤ a.block) {c : Array Value} {e : TypeId} {fz : Nat × Nat} (hb : w'.heap[a.block]? = some (.cells c e fz)) (he : e ∈ T) (u : Value) : FrT T B w (w'.setCell a u) := by
  refine h.trans ⟨rfl, rfl, rfl, by simp, fun k o hk ho => ?_⟩
  by_cases hka : k = a.block
  · subst hka
    rw [hb] at hk
    cases hk
    rcases ho with ho | ho
    · omega
    · exact absurd he (ho e rfl)
  · rw [heap_setCell_other _ _ _ _ hka]; exact hk

/-- Behind a law that ends in 'grownBy', whose row (if it is one) is of a type of T. -/
theorem FrT.grown (h : FrT T B w w') {row : Option Nat} (hg : w'.grownBy w'' row) (hr : ∀ k, row = some k → B ≤ k ∧ ∃ c e fz, w'.heap[k]? = some (Obj.cells c e fz) ∧ e ∈ T) : FrT T B w w'' := by
  refine h.trans ⟨hg.os, hg.tape, hg.output, hg.size, fun k o hk ho => ?_⟩
  by_cases hkr : some k = row
  · obtain ⟨h1, c, e, fz, h2, h3⟩ := hr k hkr.symm
    rw [h2] at hk; cases hk
    rcases ho with ho | ho
    · omega
    · exact absurd h3 (ho e rfl)
  · exact (hg.block k (lt_of_some hk) hkr).trans hk

/-- Behind an append onto an owned row of a type of T. -/
theorem FrT.append (h : FrT T B w w') {base : Nat} {e : TypeId} {size : Nat} {v : Value} {n : Nat} {xs : List Value} (ho : w'.ownsRow base e size v n xs) (hB : B ≤ base) (he : e ∈ T) (hg : w'.grownBy w'' v.ownBlock) : FrT T B w w'' := by
  refine h.grown hg fun k hk => ?_
  rcases ho.2 with ⟨rfl, _⟩ | ⟨g, cap, cur, rfl, hb, hgg, _⟩
  · cases hk
  · cases hk; exact ⟨Nat.le_trans hB hb, cur, e, _, hgg, he⟩

/-- A block of another type stands as it stood. -/
theorem FrT.blk (h : FrT T B w w') {b : Nat} {c : Array Value} {e : TypeId} {fz : Nat × Nat} (hb : w.heap[b]? = some (.cells c e fz)) (he : e ∉ T) : w'.heap[b]? = some (.cells c e fz) :=
  h.block b _ hb (.inr fun e' h' => by cases h'; exact he)

/-- An owned row of another type is owned as it was. -/
theorem FrT.row (h : FrT T B w w') {base : Nat} {e : TypeId} {size : Nat} {v : Value} {n : Nat} {xs : List Value} (ho : w.ownsRow base e size v n xs) (he : e ∉ T) : w'.ownsRow base e size v n xs := by
  refine ⟨ho.1, ?_⟩
  rcases ho.2 with hn | ⟨g, cap, cur, rfl, hb, hgg, rest⟩
  · exact .inl hn
  · exact .inr ⟨g, cap, cur, rfl, hb, h.blk hgg he, rest⟩
end

theorem bl_trans {w w1 w2 : World} {B b : Nat} (h2 : Below b w1 w2) (hb : B ≤ b) (h1 : Below B w w1) : Below B w w2 := h1.trans (h2.mono hb)

/-! ### blocks -/
section
variable {w : World} {b : Nat} {c : Array Value} {e : TypeId} {fz : Nat × Nat}
theorem cell_blk (h : w.heap[b]? = some (.cells c e fz)) (o : Nat) {v : Value} (hv : c[o]? = some v) : w.cell? ⟨b, o, none⟩ = some v := (cell_of_row w b o c e fz h).trans hv
theorem free_blk (h : w.heap[b]? = some (.cells c e (0, 0))) (o : Nat) : w.frozen? ⟨b, o, none⟩ = false := frozen_of_row w b o c e h
theorem set_blk (h : w.heap[b]? = some (.cells c e (0, 0))) (o : Nat) (v : Value) : (w.setCell ⟨b, o, none⟩ v).heap[b]? = some (.cells (c.setIfInBounds o v) e (0, 0)) := heap_setCell_same w b o c e v h
theorem set_other {k : Nat} {o : Obj} (h : w.heap[k]? = some o) {a : Addr} (hk : k ≠ a.block) (v : Value) : (w.setCell a v).heap[k]? = some o := (heap_setCell_other w a k v hk).trans h
theorem alloc_blk {k : Nat} {o : Obj} (h : w.heap[k]? = some o) (x : Obj) : (w.alloc x).heap[k]? = some o := (Below.heap_alloc w x k (lt_of_some h)).trans h
/-- Two blocks of different types are two. -/
theorem ne_blk {b' : Nat} {c' : Array Value} {e' : TypeId} {fz' : Nat × Nat} (h : w.heap[b]? = some (.cells c e fz)) (h' : w.heap[b']? = some (.cells c' e' fz')) (he : e ≠ e') : b ≠ b' := by
  intro hb; subst hb; rw [h] at h'; cases h'; exact he rfl
theorem set_cell_ne {w : World} {a p : Addr} (v : Value) (h : p.block ≠ a.block) : (w.setCell a v).cell? p = w.cell? p := World.cell?_of_block (heap_setCell_other w a p.block v h)
theorem set_free_ne {w : World} {a p : Addr} (v : Value) (h : p.block ≠ a.block) : (w.setCell a v).frozen? p = w.frozen? p := World.frozen?_of_block (heap_setCell_other w a p.block v h)
theorem cells_arr {l : List Value} {i : Nat} {v : Value} (h : l[i]? = some v) : l.toArray[i]? = some v := by simpa using h
end
end Go.Proofs.YtelhnaphkbpakaaDoor

namespace Go.Proofs.YtelhnaphkbpakaaDoor
open Go.RowKit
set_option linter.unusedVariables false

structure Ar where
  S : Nat
  G : Nat
  all : List (Nat × Bool × List Value)
  free : List Nat
  count : Nat
  ret : Nat

def scells (l : List (Nat × Bool × List Value)) : List Value := l.flatMap fun s => .int .u32 (s.1 : Int) :: .bool s.2.1 :: s.2.2
def fcells (l : List Nat) : List Value := l.map fun (k : Nat) => Value.int .u32 (k : Int)

/-- The shape of each slot's thing: m cells. -/
structure Ar.Ok (A : Ar) (m : Nat) : Prop where
  S1 : 1 ≤ A.S
  S2 : A.S ≤ 2147483647
  G1 : 1 ≤ A.G
  G2 : A.G ≤ 4294967295
  len : A.all.length ≤ A.S
  gen : ∀ s ∈ A.all, 1 ≤ s.1 ∧ s.1 ≤ A.G
  thing : ∀ s ∈ A.all, s.2.2.length = m
  free : ∀ f ∈ A.free, ∃ g t, A.all[f]? = some (g, false, t) ∧ g < A.G
  nodup : A.free.Nodup
  cnt : A.count = A.all.countP (fun s => s.2.1)
  sum : A.count + A.ret + A.free.length = A.all.length

theorem scells_length {m : Nat} : ∀ {l : List (Nat × Bool × List Value)}, (∀ s ∈ l, s.2.2.length = m) → (scells l).length = l.length * (m + 2)
  | [], _ => by simp [scells]
  | s :: l, h => by
    have ih := scells_length (l := l) fun s hs => h s (List.mem_cons_of_mem _ hs)
    have h1 := h s (List.mem_cons_self ..)
    simp only [scells, List.flatMap_cons, List.length_append, List.length_cons] at ih ⊢
    rw [ih, h1]; simp only [Nat.add_mul]; omega

theorem scells_append (a b : List (Nat × Bool × List Value)) : scells (a ++ b) = scells a ++ scells b := by simp [scells]

/-- The cells of slot k. -/
theorem scells_at {m : Nat} {l : List (Nat × Bool × List Value)} (h : ∀ s ∈ l, s.2.2.length = m) {k : Nat} {s : Nat × Bool × List Value} (hk : l[k]? = some s) (i : Nat) (hi : i < m + 2) :
    (scells l)[k * (m + 2) + i]? = (Value.int .u32 (s.1 : Int) :: .bool s.2.1 :: s.2.2)[i]? := by
  induction l generalizing k with
  | nil => simp at hk
  | cons x l ih =>
    have hx := h x (List.mem_cons_self ..)
    have e : scells (x :: l) = (Value.int .u32 (x.1 : Int) :: .bool x.2.1 :: x.2.2) ++ scells l := by simp [scells]
    rw [e]
    cases k with
    | zero =>
      simp at hk; subst hk
      rw [List.getElem?_append_left (by simp; omega)]; simp
    | succ k =>
      rw [List.getElem?_append_right (by simp [Nat.add_mul]; omega)]
      have := ih (fun s hs => h s (List.mem_cons_of_mem _ hs)) (by simpa using hk)
      rw [← this]
      congr 1
      simp [Nat.add_mul]; omega

/-- Slot k written anew, as a list of cells. -/
theorem scells_set {m : Nat} {l : List (Nat × Bool × List Value)} (h : ∀ s ∈ l, s.2.2.length = m) {k : Nat} (s : Nat × Bool × List Value) (hk : k < l.length) (hs : s.2.2.length = m) :
    scells (l.set k s) = (scells l).take (k * (m + 2)) ++ (Value.int .u32 (s.1 : Int) :: .bool s.2.1 :: s.2.2) ++ (scells l).drop (k * (m + 2) + (m + 2)) := by
  induction l generalizing k with
  | nil => simp at hk
  | cons x l ih =>
    have hx := h x (List.mem_cons_self ..)
    have e : scells (x :: l) = (Value.int .u32 (x.1 : Int) :: .bool x.2.1 :: x.2.2) ++ scells l := by simp [scells]
    have hl : (Value.int .u32 (x.1 : Int) :: .bool x.2.1 :: x.2.2).length = m + 2 := by simp [hx]
    cases k with
    | zero =>
      rw [e, List.drop_append_of_le_length (by rw [hl]; omega)]
      rw [List.drop_of_length_le (by rw [hl]; omega)]
      simp [scells]
    | succ k =>
      have ih' := ih (fun s hs => h s (List.mem_cons_of_mem _ hs)) (by simpa using hk)
      have e2 : scells (x :: l.set k s) = (Value.int .u32 (x.1 : Int) :: .bool x.2.1 :: x.2.2) ++ scells (l.set k s) := by simp [scells]
      rw [List.set_cons_succ, e2, e, ih']
      have e3 : (k + 1) * (m + 2) = (Value.int .u32 (x.1 : Int) :: .bool x.2.1 :: x.2.2).length + k * (m + 2) := by rw [hl, Nat.add_mul]; omega
      rw [e3, List.take_length_add_append, Nat.add_assoc, List.drop_length_add_append]
      simp

def Ar.live (A : Ar) (s g : Nat) : Bool := decide (1 ≤ s) && (match A.all[s - 1]? with | some x => x.2.1 && x.1 == g | none => false)

def Ar.alloc (A : Ar) (z x : List Value) : Ar × Nat × Nat × Nat :=
  match A.free.getLast? with
  | some k =>
    let g := (A.all.getD k (0, false, z)).1 + 1
    ({ A with all := A.all.set k (g, true, x), free := A.free.dropLast, count := A.count + 1 }, k + 1, g, 0)
  | none =>
    if A.all.length < A.S then ({ A with all := A.all ++ [(1, true, x)], count := A.count + 1 }, A.all.length + 1, 1, 0)
    else (A, 0, 0, 52)

def Ar.drop (A : Ar) (z : List Value) (s g : Nat) : Ar × Nat :=
  if A.live s g then
    if g < A.G then ({ A with all := A.all.set (s - 1) (g, false, z), free := A.free ++ [s - 1], count := A.count - 1 }, 0)
    else ({ A with all := A.all.set (s - 1) (g, false, z), count := A.count - 1, ret := A.ret + 1 }, 0)
  else (A, 51)

def Ar.get (A : Ar) (z : List Value) (s g : Nat) : List Value × Nat := if A.live s g then ((A.all.getD (s - 1) (0, false, z)).2.2, 0) else (z, 51)
def Ar.put (A : Ar) (x : List Value) (s g : Nat) : Ar × Nat := if A.live s g then ({ A with all := A.all.set (s - 1) (g, true, x) }, 0) else (A, 51)

theorem Ar.live_iff {A : Ar} {s g : Nat} : A.live s g = true ↔ 1 ≤ s ∧ ∃ t, A.all[s - 1]? = some (g, true, t) := by
  unfold Ar.live
  simp only [Bool.and_eq_true, decide_eq_true_eq]
  refine and_congr Iff.rfl ?_
  cases h : A.all[s - 1]? with
  | none => simp
  | some x => obtain ⟨a, b, c⟩ := x; simp; constructor <;> (rintro ⟨rfl, rfl⟩; exact ⟨rfl, rfl⟩)

/-- An arena in memory: its struct in block ab, its slots and its list of free ones in rows of their own. tA, tS, tF: the three types; m: a thing's cells. -/
structure ArAt (tA tS tF m B : Nat) (w : World) (ab : Nat) (A : Ar) (av fv : Value) : Prop where
  ok : A.Ok m
  base : B ≤ ab
  blk : w.heap[ab]? = some (.cells #[.int .i64 (A.S : Int), .int .i64 (A.G : Int), av, fv, .int .i64 (A.count : Int), .int .i64 (A.ret : Int)] tA (0, 0))
  rowA : w.ownsRow B tS (m + 2) av A.all.length (scells A.all)
  rowF : w.ownsRow B tF 1 fv A.free.length (fcells A.free)

theorem ArAt.kept {tA tS tF m B : Nat} {w w' : World} {ab : Nat} {A : Ar} {av fv : Value} (h : ArAt tA tS tF m B w ab A av fv) {T : List TypeId} {B' : Nat} (hf : FrT T B' w w') (h1 : tA ∉ T) (h2 : tS ∉ T) (h3 : tF ∉ T) : ArAt tA tS tF m B w' ab A av fv :=
  ⟨h.ok, h.base, hf.blk h.blk h1, hf.row h.rowA h2, hf.row h.rowF h3⟩

theorem ArAt.below {tA tS tF m B : Nat} {w w' : World} {ab : Nat} {A : Ar} {av fv : Value} (h : ArAt tA tS tF m B w ab A av fv) (hf : Below w.heap.size w w') : ArAt tA tS tF m B w' ab A av fv :=
  h.kept (FrT.of_below (T := []) (B := 0) hf) (by simp) (by simp) (by simp)
end Go.Proofs.YtelhnaphkbpakaaDoor

namespace Go.Proofs.YtelhnaphkbpakaaDoor
open Go.RowKit
set_option linter.unusedVariables false

theorem under31 : Tryd.prog.underlying 31 = some (.struct (Tryd.prog.fieldsOf 31)) := by kernel_rfl
theorem fields31 : (Tryd.prog.fieldsOf 31).toList.map (fun f => (f.name, f.type, f.offset)) = [("Slot", 29, 0), ("Gen", 29, 1)] := by kernel_rfl
theorem stood31 : Tryd.prog.stoodInHeld 31 = false := by kernel_rfl
theorem guard31 : Tryd.prog.eqGuardType Tryd.prog.depth 31 = false := by kernel_rfl

/-- Are two handles one? -/
def hEq (a b c e : Int) : Bool := a == c && b == e
theorem hEq_true {a b c e : Int} (h1 : a = c) (h2 : b = e) : hEq a b c e = true := by simp [hEq, h1, h2]
theorem hEq_false {a b c e : Int} (h : a ≠ c ∨ b ≠ e) : hEq a b c e = false := by
  unfold hEq
  rcases h with h | h <;> simp [h]
theorem hEq_iff {a b c e : Int} : hEq a b c e = true ↔ a = c ∧ b = e := by simp [hEq]

theorem equalIn_handle (d : Nat) (a b c e : Int) (w : World) : (Op.equalIn (d + 1 + 1) 31 (.agg #[.int .u32 a, .int .u32 b]) (.agg #[.int .u32 c, .int .u32 e])).run Tryd.prog w = .ok (a == c && b == e) w := by
  rw [run_equalIn_struct w (d + 1) 31 _ _ under31 stood31]
  have hf := fields31
  generalize (Tryd.prog.fieldsOf 31).toList = fs at hf
  obtain ⟨f0, f1, rfl⟩ : ∃ f0 f1, fs = [f0, f1] := by
    have hl := congrArg List.length hf
    simp at hl
    match fs, hl with
    | [f0, f1], _ => exact ⟨f0, f1, rfl⟩
  simp only [List.map_cons, List.map_nil, List.cons.injEq, Prod.mk.injEq, and_true] at hf
  obtain ⟨⟨n0, t0, o0⟩, ⟨n1, t1, o1⟩⟩ := hf
  have hu := Tryd.underlying29
  simp [Op.eqFields, n0, n1, t0, t1, o0, o1, go_sem, hu]
  by_cases h : a = c
  · by_cases h2 : b = e <;> simp [h, h2]
  · simp [h]

@[go_sem ↓ high] theorem eql_handle (a b c e : Int) (w : World) : (binOp .eql 31 (.agg #[.int .u32 a, .int .u32 b]) (.agg #[.int .u32 c, .int .u32 e])).run Tryd.prog w = .ok (.bool (hEq a b c e)) w := by
  rw [run_eql_struct, show (10000 : Nat) = 9998 + 1 + 1 from rfl, equalIn_handle]; rfl
@[go_sem ↓ high] theorem neq_handle (a b c e : Int) (w : World) : (binOp .neq 31 (.agg #[.int .u32 a, .int .u32 b]) (.agg #[.int .u32 c, .int .u32 e])).run Tryd.prog w = .ok (.bool (!hEq a b c e)) w := by
  rw [run_neq_struct, show (10000 : Nat) = 9998 + 1 + 1 from rfl, equalIn_handle]; rfl
@[go_sem ↓ high] theorem guard_handle (op : BinOp) (x y : Operand) (xs ys : Array Value) (w : World) : (eqGuard op 31 x y (.agg xs) (.agg ys)).run Tryd.prog w = .ok () w := run_eqGuard_agg w op 31 x y xs ys guard31
end Go.Proofs.YtelhnaphkbpakaaDoor

