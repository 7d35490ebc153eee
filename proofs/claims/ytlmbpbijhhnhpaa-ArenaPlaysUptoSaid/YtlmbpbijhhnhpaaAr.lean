/- An arena as data (no program): what its slots hold, which are free; what its operations do to that. -/
import Derived.Test.YtlmbpbijhhnhpaaGk
namespace Go.Proofs.Ytlmbpbijhhnhpaa
open Go.RowKit
set_option linter.unusedVariables false

structure Ar where
  S : Nat
  G : Nat
  all : List (Nat × Bool × List Value)
  free : List Nat
  count : Nat
  ret : Nat

def scells (l : List (Nat × Bool × List Value)) : List Value := l.flatMap fun s => .int .u32 (s.1 : Int) :: .bool s.2.1 :: s.2.2
def fcells (l : List Nat) : List Value := l.map fun (k : Nat) => Value.int .u32 (k : Int)

/-- The shape of each slot's thing: m cells. -/
structure Ar.Ok (A : Ar) (m : Nat) : Prop where
  S1 : 1 ≤ A.S
  S2 : A.S ≤ 2147483647
  G1 : 1 ≤ A.G
  G2 : A.G ≤ 4294967295
  len : A.all.length ≤ A.S
  gen : ∀ s ∈ A.all, 1 ≤ s.1 ∧ s.1 ≤ A.G
  thing : ∀ s ∈ A.all, s.2.2.length = m
  free : ∀ f ∈ A.free, ∃ g t, A.all[f]? = some (g, false, t) ∧ g < A.G
  nodup : A.free.Nodup
  cnt : A.count = A.all.countP (fun s => s.2.1)
  sum : A.count + A.ret + A.free.length = A.all.length

theorem scells_length {m : Nat} : ∀ {l : List (Nat × Bool × List Value)}, (∀ s ∈ l, s.2.2.length = m) → (scells l).length = l.length * (m + 2)
  | [], _ => by simp [scells]
  | s :: l, h => by
    have ih := scells_length (l := l) fun s hs => h s (List.mem_cons_of_mem _ hs)
    have h1 := h s (List.mem_cons_self ..)
    simp only [scells, List.flatMap_cons, List.length_append, List.length_cons] at ih ⊢
    rw [ih, h1]; simp only [Nat.add_mul]; omega

theorem scells_append (a b : List (Nat × Bool × List Value)) : scells (a ++ b) = scells a ++ scells b := by simp [scells]

/-- The cells of slot k. -/
theorem scells_at {m : Nat} {l : List (Nat × Bool × List Value)} (h : ∀ s ∈ l, s.2.2.length = m) {k : Nat} {s : Nat × Bool × List Value} (hk : l[k]? = some s) (i : Nat) (hi : i < m + 2) :
    (scells l)[k * (m + 2) + i]? = (Value.int .u32 (s.1 : Int) :: .bool s.2.1 :: s.2.2)[i]? := by
  induction l generalizing k with
  | nil => simp at hk
  | cons x l ih =>
    have hx := h x (List.mem_cons_self ..)
    have e : scells (x :: l) = (Value.int .u32 (x.1 : Int) :: .bool x.2.1 :: x.2.2) ++ scells l := by simp [scells]
    rw [e]
    cases k with
    | zero =>
      simp at hk; subst hk
      rw [List.getElem?_append_left (by simp; omega)]; simp
    | succ k =>
      rw [List.getElem?_append_right (by simp [Nat.add_mul]; omega)]
      have := ih (fun s hs => h s (List.mem_cons_of_mem _ hs)) (by simpa using hk)
      rw [← this]
      congr 1
      simp [Nat.add_mul]; omega

/-- Slot k written anew, as a list of cells. -/
theorem scells_set {m : Nat} {l : List (Nat × Bool × List Value)} (h : ∀ s ∈ l, s.2.2.length = m) {k : Nat} (s : Nat × Bool × List Value) (hk : k < l.length) (hs : s.2.2.length = m) :
    scells (l.set k s) = (scells l).take (k * (m + 2)) ++ (Value.int .u32 (s.1 : Int) :: .bool s.2.1 :: s.2.2) ++ (scells l).drop (k * (m + 2) + (m + 2)) := by
  induction l generalizing k with
  | nil => simp at hk
  | cons x l ih =>
    have hx := h x (List.mem_cons_self ..)
    have e : scells (x :: l) = (Value.int .u32 (x.1 : Int) :: .bool x.2.1 :: x.2.2) ++ scells l := by simp [scells]
    have hl : (Value.int .u32 (x.1 : Int) :: .bool x.2.1 :: x.2.2).length = m + 2 := by simp [hx]
    cases k with
    | zero =>
      rw [e, List.drop_append_of_le_length (by rw [hl]; omega)]
      rw [List.drop_of_length_le (by rw [hl]; omega)]
      simp [scells]
    | succ k =>
      have ih' := ih (fun s hs => h s (List.mem_cons_of_mem _ hs)) (by simpa using hk)
      have e2 : scells (x :: l.set k s) = (Value.int .u32 (x.1 : Int) :: .bool x.2.1 :: x.2.2) ++ scells (l.set k s) := by simp [scells]
      rw [List.set_cons_succ, e2, e, ih']
      have e3 : (k + 1) * (m + 2) = (Value.int .u32 (x.1 : Int) :: .bool x.2.1 :: x.2.2).length + k * (m + 2) := by rw [hl, Nat.add_mul]; omega
      rw [e3, List.take_length_add_append, Nat.add_assoc, List.drop_length_add_append]
      simp

def Ar.live (A : Ar) (s g : Nat) : Bool := decide (1 ≤ s) && (match A.all[s - 1]? with | some x => x.2.1 && x.1 == g | none => false)

def Ar.alloc (A : Ar) (z x : List Value) : Ar × Nat × Nat × Nat :=
  match A.free.getLast? with
  | some k =>
    let g := (A.all.getD k (0, false, z)).1 + 1
    ({ A with all := A.all.set k (g, true, x), free := A.free.dropLast, count := A.count + 1 }, k + 1, g, 0)
  | none =>
    if A.all.length < A.S then ({ A with all := A.all ++ [(1, true, x)], count := A.count + 1 }, A.all.length + 1, 1, 0)
    else (A, 0, 0, 52)

def Ar.drop (A : Ar) (z : List Value) (s g : Nat) : Ar × Nat :=
  if A.live s g then
    if g < A.G then ({ A with all := A.all.set (s - 1) (g, false, z), free := A.free ++ [s - 1], count := A.count - 1 }, 0)
    else ({ A with all := A.all.set (s - 1) (g, false, z), count := A.count - 1, ret := A.ret + 1 }, 0)
  else (A, 51)

def Ar.get (A : Ar) (z : List Value) (s g : Nat) : List Value × Nat := if A.live s g then ((A.all.getD (s - 1) (0, false, z)).2.2, 0) else (z, 51)
def Ar.put (A : Ar) (x : List Value) (s g : Nat) : Ar × Nat := if A.live s g then ({ A with all := A.all.set (s - 1) (g, true, x) }, 0) else (A, 51)

theorem Ar.live_iff {A : Ar} {s g : Nat} : A.live s g = true ↔ 1 ≤ s ∧ ∃ t, A.all[s - 1]? = some (g, true, t) := by
  unfold Ar.live
  simp only [Bool.and_eq_true, decide_eq_true_eq]
  refine and_congr Iff.rfl ?_
  cases h : A.all[s - 1]? with
  | none => simp
  | some x => obtain ⟨a, b, c⟩ := x; simp; constructor <;> (rintro ⟨rfl, rfl⟩; exact ⟨rfl, rfl⟩)

/-- An arena in memory: its struct in block ab, its slots and its list of free ones in rows of their own. tA, tS, tF: the three types; m: a thing's cells. -/
structure ArAt (tA tS tF m B : Nat) (w : World) (ab : Nat) (A : Ar) (av fv : Value) : Prop where
  ok : A.Ok m
  base : B ≤ ab
  blk : w.heap[ab]? = some (.cells #[.int .i64 (A.S : Int), .int .i64 (A.G : Int), av, fv, .int .i64 (A.count : Int), .int .i64 (A.ret : Int)] tA (0, 0))
  rowA : w.ownsRow B tS (m + 2) av A.all.length (scells A.all)
  rowF : w.ownsRow B tF 1 fv A.free.length (fcells A.free)

theorem ArAt.kept {tA tS tF m B : Nat} {w w' : World} {ab : Nat} {A : Ar} {av fv : Value} (h : ArAt tA tS tF m B w ab A av fv) {T : List TypeId} {B' : Nat} (hf : FrT T B' w w') (h1 : tA ∉ T) (h2 : tS ∉ T) (h3 : tF ∉ T) : ArAt tA tS tF m B w' ab A av fv :=
  ⟨h.ok, h.base, hf.blk h.blk h1, hf.row h.rowA h2, hf.row h.rowF h3⟩

theorem ArAt.below {tA tS tF m B : Nat} {w w' : World} {ab : Nat} {A : Ar} {av fv : Value} (h : ArAt tA tS tF m B w ab A av fv) (hf : Below w.heap.size w w') : ArAt tA tS tF m B w' ab A av fv :=
  h.kept (FrT.of_below (T := []) (B := 0) hf) (by simp) (by simp) (by simp)
end Go.Proofs.Ytlmbpbijhhnhpaa
