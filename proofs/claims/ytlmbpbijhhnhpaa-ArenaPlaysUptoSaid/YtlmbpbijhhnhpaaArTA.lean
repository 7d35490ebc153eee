/- An arena of things of a type, as data: what New, Alloc, Free, Get, Set do. No program. -/
import Derived.Test.YtlmbpbijhhnhpaaArPush
namespace Go.Proofs.Ytlmbpbijhhnhpaa
open Go.RowKit
set_option linter.unusedVariables false

structure TA (α : Type) where
  S : Nat
  G : Nat
  all : List (Nat × Bool × α)
  free : List Nat
  count : Nat
  ret : Nat

def TA.ar {α : Type} (enc : α → List Value) (T : TA α) : Ar := { S := T.S, G := T.G, all := T.all.map fun s => (s.1, s.2.1, enc s.2.2), free := T.free, count := T.count, ret := T.ret }

def TA.new {α : Type} (S G : Nat) : TA α := { S, G, all := [], free := [], count := 0, ret := 0 }

/-- Who lives in a slot, under a number. -/
def slotWho {α : Type} (o : Option (Nat × Bool × α)) (g : Nat) : Option α :=
  match o with
  | some (g', true, x) => if g' = g then some x else none
  | _ => none
@[simp] theorem slotWho_true {α : Type} (g' g : Nat) (x : α) : slotWho (some (g', true, x)) g = if g' = g then some x else none := rfl
@[simp] theorem slotWho_false {α : Type} (g' g : Nat) (x : α) : slotWho (some (g', false, x)) g = none := rfl
@[simp] theorem slotWho_none {α : Type} (g : Nat) : slotWho (none : Option (Nat × Bool × α)) g = none := rfl

/-- The slot of a handle that lives. -/
def TA.at {α : Type} (T : TA α) (s g : Nat) : Option α := if s = 0 then none else slotWho T.all[s - 1]? g
theorem TA.at_eq {α : Type} (T : TA α) {s g : Nat} (h : 1 ≤ s) : T.at s g = slotWho T.all[s - 1]? g := by unfold TA.at; rw [if_neg (by omega)]
theorem TA.at_zero {α : Type} (T : TA α) (g : Nat) : T.at 0 g = none := by simp [TA.at]

def TA.alloc {α : Type} (T : TA α) (x : α) : TA α × Nat × Nat × Nat :=
  match T.free.getLast? with
  | some k =>
    match T.all[k]? with
    | some (g, _, _) => ({ T with all := T.all.set k (g + 1, true, x), free := T.free.dropLast, count := T.count + 1 }, k + 1, g + 1, 0)
    | none => (T, 0, 0, 52)
  | none => if T.all.length < T.S then ({ T with all := T.all ++ [(1, true, x)], count := T.count + 1 }, T.all.length + 1, 1, 0) else (T, 0, 0, 52)

def TA.drop {α : Type} (T : TA α) (z : α) (s g : Nat) : TA α × Nat :=
  match T.at s g with
  | some _ =>
    if g < T.G then ({ T with all := T.all.set (s - 1) (g, false, z), free := T.free ++ [s - 1], count := T.count - 1 }, 0)
    else ({ T with all := T.all.set (s - 1) (g, false, z), count := T.count - 1, ret := T.ret + 1 }, 0)
  | none => (T, 51)

def TA.get {α : Type} (T : TA α) (z : α) (s g : Nat) : α × Nat := match T.at s g with | some x => (x, 0) | none => (z, 51)
def TA.put {α : Type} (T : TA α) (x : α) (s g : Nat) : TA α × Nat := match T.at s g with | some _ => ({ T with all := T.all.set (s - 1) (g, true, x) }, 0) | none => (T, 51)

theorem TA.at_some {α : Type} {T : TA α} {s g : Nat} {x : α} (h : T.at s g = some x) : 1 ≤ s ∧ T.all[s - 1]? = some (g, true, x) := by
  unfold TA.at at h
  split at h
  · cases h
  · refine ⟨by omega, ?_⟩
    cases hk : T.all[s - 1]? with
    | none => rw [hk] at h; cases h
    | some y =>
      obtain ⟨g', u, y⟩ := y
      rw [hk] at h
      cases u
      · cases h
      · simp only [slotWho_true] at h
        split at h
        · rename_i he; cases h; rw [he]
        · cases h

theorem TA.at_none {α : Type} {enc : α → List Value} {T : TA α} {s g : Nat} (h : T.at s g = none) : (T.ar enc).live s g = false := by
  cases hl : (T.ar enc).live s g with
  | false => rfl
  | true =>
    obtain ⟨h1, t, ht⟩ := Ar.live_iff.1 hl
    simp only [TA.ar, List.getElem?_map, Option.map_eq_some_iff] at ht
    obtain ⟨⟨g', u, x⟩, h2, h3⟩ := ht
    simp only [Prod.mk.injEq] at h3
    obtain ⟨rfl, rfl, _⟩ := h3
    rw [TA.at_eq _ h1, h2] at h
    simp at h

theorem TA.ar_set {α : Type} (enc : α → List Value) (T : TA α) (k : Nat) (g : Nat) (u : Bool) (x : α) (free : List Nat) (c r : Nat) :
    TA.ar enc { T with all := T.all.set k (g, u, x), free := free, count := c, ret := r } = { T.ar enc with all := (T.ar enc).all.set k (g, u, enc x), free := free, count := c, ret := r } := by
  simp [TA.ar, List.map_set]

theorem TA.ar_get {α : Type} {enc : α → List Value} {T : TA α} {k g : Nat} {u : Bool} {x : α} (h : T.all[k]? = some (g, u, x)) : (T.ar enc).all[k]? = some (g, u, enc x) := by simp [TA.ar, h]

/-- It stands in memory, its lists wherever. -/
def ArOf {α : Type} (enc : α → List Value) (tA tS tF m B : Nat) (w : World) (ab : Nat) (T : TA α) : Prop := ∃ av fv, ArAt tA tS tF m B w ab (T.ar enc) av fv

theorem ArOf.kept {α : Type} {enc : α → List Value} {tA tS tF m B : Nat} {w w' : World} {ab : Nat} {T : TA α} (h : ArOf enc tA tS tF m B w ab T) {L : List TypeId} {B' : Nat} (hf : FrT L B' w w') (h1 : tA ∉ L) (h2 : tS ∉ L) (h3 : tF ∉ L) : ArOf enc tA tS tF m B w' ab T :=
  let ⟨av, fv, h⟩ := h; ⟨av, fv, h.kept hf h1 h2 h3⟩
theorem ArOf.below {α : Type} {enc : α → List Value} {tA tS tF m B : Nat} {w w' : World} {ab : Nat} {T : TA α} (h : ArOf enc tA tS tF m B w ab T) (hf : Below w.heap.size w w') : ArOf enc tA tS tF m B w' ab T :=
  let ⟨av, fv, h⟩ := h; ⟨av, fv, h.below hf⟩
theorem ArOf.lt {α : Type} {enc : α → List Value} {tA tS tF m B : Nat} {w : World} {ab : Nat} {T : TA α} (h : ArOf enc tA tS tF m B w ab T) : ab < w.heap.size := let ⟨_, _, h⟩ := h; lt_of_some h.blk
theorem ArOf.ok {α : Type} {enc : α → List Value} {tA tS tF m B : Nat} {w : World} {ab : Nat} {T : TA α} (h : ArOf enc tA tS tF m B w ab T) : (T.ar enc).Ok m := let ⟨_, _, h⟩ := h; h.ok

/-- The slots' row has a head where there is a slot. -/
theorem ArAt.head {tA tS tF m B : Nat} {w : World} {ab : Nat} {A : Ar} {av fv : Value} (h : ArAt tA tS tF m B w ab A av fv) {k : Nat} {s : Nat × Bool × List Value} (hk : A.all[k]? = some s) : ∃ gb cap, av = .slice (some ⟨gb, 0, none⟩) A.all.length cap := by
  have hl : k < A.all.length := (List.getElem?_eq_some_iff.1 hk).1
  rcases h.rowA.2 with ⟨_, hn⟩ | ⟨gb, cap, cur, rfl, _⟩
  · omega
  · exact ⟨gb, cap, rfl⟩
end Go.Proofs.Ytlmbpbijhhnhpaa
