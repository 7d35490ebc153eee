/- An arena of things of a type, as data: what New, Alloc, Free, Get, Set do. No program. An arena's exported functions, told over plain data, at one type of elements. A forest as data: nodes in the order of their making, each with its parent and its children; chains upwards. No program. The five links of a node of a forest, and what hanging a node does to them. No program. Units of 16 bits in memory, read; Compare, by both hands. The document's Compare and Same; units lent with some behind them; kept. append onto a slice that the call owns, of whatever slice: nil, empty, or of some elements. No program. Units lent with some behind them; kept. From: its closure: a code point's units are put behind those that are there. From, whole: a text's units, in a row of the call's own; its slice has no room behind it. -/
import Derived.Test.YtelhnaphkbpakaaDoorProg
import Derived.Deep.RegionWith
import Derived.StillTailTactics
import Derived.Deep.Upon
import Derived.Deep.AppendLies
import Derived.Lib.AppendZeros
import Derived.Conc.MuLone
import Derived.Test.YtelhnaphkbpakaaDoorMw8
namespace Go.Proofs.YtelhnaphkbpakaaDoor
open Go.RowKit
set_option linter.unusedVariables false

structure TA (α : Type) where
  S : Nat
  G : Nat
  all : List (Nat × Bool × α)
  free : List Nat
  count : Nat
  ret : Nat

def TA.ar {α : Type} (enc : α → List Value) (T : TA α) : Ar := { S := T.S, G := T.G, all := T.all.map fun s => (s.1, s.2.1, enc s.2.2), free := T.free, count := T.count, ret := T.ret }

def TA.new {α : Type} (S G : Nat) : TA α := { S, G, all := [], free := [], count := 0, ret := 0 }

/-- Who lives in a slot, under a number. -/
def slotWho {α : Type} (o : Option (Nat × Bool × α)) (g : Nat) : Option α :=
  match o with
  | some (g', true, x) => if g' = g then some x else none
  | _ => none
@[simp] theorem slotWho_true {α : Type} (g' g : Nat) (x : α) : slotWho (some (g', true, x)) g = if g' = g then some x else none := rfl
@[simp] theorem slotWho_false {α : Type} (g' g : Nat) (x : α) : slotWho (some (g', false, x)) g = none := rfl
@[simp] theorem slotWho_none {α : Type} (g : Nat) : slotWho (none : Option (Nat × Bool × α)) g = none := rfl

/-- The slot of a handle that lives. -/
def TA.at {α : Type} (T : TA α) (s g : Nat) : Option α := if s = 0 then none else slotWho T.all[s - 1]? g
theorem TA.at_eq {α : Type} (T : TA α) {s g : Nat} (h : 1 ≤ s) : T.at s g = slotWho T.all[s - 1]? g := by unfold TA.at; rw [if_neg (by omega)]
theorem TA.at_zero {α : Type} (T : TA α) (g : Nat) : T.at 0 g = none := by simp [TA.at]

def TA.alloc {α : Type} (T : TA α) (x : α) : TA α × Nat × Nat × Nat :=
  match T.free.getLast? with
  | some k =>
    match T.all[k]? with
    | some (g, _, _) => ({ T with all := T.all.set k (g + 1, true, x), free := T.free.dropLast, count := T.count + 1 }, k + 1, g + 1, 0)
    | none => (T, 0, 0, 52)
  | none => if T.all.length < T.S then ({ T with all := T.all ++ [(1, true, x)], count := T.count + 1 }, T.all.length + 1, 1, 0) else (T, 0, 0, 52)

def TA.drop {α : Type} (T : TA α) (z : α) (s g : Nat) : TA α × Nat :=
  match T.at s g with
  | some _ =>
    if g < T.G then ({ T with all := T.all.set (s - 1) (g, false, z), free := T.free ++ [s - 1], count := T.count - 1 }, 0)
    else ({ T with all := T.all.set (s - 1) (g, false, z), count := T.count - 1, ret := T.ret + 1 }, 0)
  | none => (T, 51)

def TA.get {α : Type} (T : TA α) (z : α) (s g : Nat) : α × Nat := match T.at s g with | some x => (x, 0) | none => (z, 51)
def TA.put {α : Type} (T : TA α) (x : α) (s g : Nat) : TA α × Nat := match T.at s g with | some _ => ({ T with all := T.all.set (s - 1) (g, true, x) }, 0) | none => (T, 51)

theorem TA.at_some {α : Type} {T : TA α} {s g : Nat} {x : α} (h : T.at s g = some x) : 1 ≤ s ∧ T.all[s - 1]? = some (g, true, x) := by
  unfold TA.at at h
  split at h
  · cases h
  · refine ⟨by omega, ?_⟩
    cases hk : T.all[s - 1]? with
    | none => rw [hk] at h; cases h
    | some y =>
      obtain ⟨g', u, y⟩ := y
      rw [hk] at h
      cases u
      · cases h
      · simp only [slotWho_true] at h
        split at h
        · rename_i he; cases h; rw [he]
        · cases h

theorem TA.at_none {α : Type} {enc : α → List Value} {T : TA α} {s g : Nat} (h : T.at s g = none) : (T.ar enc).live s g = false := by
  cases hl : (T.ar enc).live s g with
  | false => rfl
  | true =>
    obtain ⟨h1, t, ht⟩ := Ar.live_iff.1 hl
    simp only [TA.ar, List.getElem?_map, Option.map_eq_some_iff] at ht
    obtain ⟨⟨g', u, x⟩, h2, h3⟩ := ht
    simp only [Prod.mk.injEq] at h3
    obtain ⟨rfl, rfl, _⟩ := h3
    rw [TA.at_eq _ h1, h2] at h
    simp at h

theorem TA.ar_set {α : Type} (enc : α → List Value) (T : TA α) (k : Nat) (g : Nat) (u : Bool) (x : α) (free : List Nat) (c r : Nat) :
    TA.ar enc { T with all := T.all.set k (g, u, x), free := free, count := c, ret := r } = { T.ar enc with all := (T.ar enc).all.set k (g, u, enc x), free := free, count := c, ret := r } := by
  simp [TA.ar, List.map_set]

theorem TA.ar_get {α : Type} {enc : α → List Value} {T : TA α} {k g : Nat} {u : Bool} {x : α} (h : T.all[k]? = some (g, u, x)) : (T.ar enc).all[k]? = some (g, u, enc x) := by simp [TA.ar, h]

/-- It stands in memory, its lists wherever. -/
def ArOf {α : Type} (enc : α → List Value) (tA tS tF m B : Nat) (Q : Nat → Prop) (w : World) (ab : Nat) (T : TA α) : Prop := ∃ av fv, ArAt tA tS tF m B w ab (T.ar enc) av fv ∧ ∀ k, arQ ab av fv k → Q k

theorem ArOf.kept {α : Type} {enc : α → List Value} {tA tS tF m B : Nat} {Q : Nat → Prop} {w w' : World} {ab : Nat} {T : TA α} (h : ArOf enc tA tS tF m B Q w ab T) {L : List TypeId} {Q' : Nat → Prop} (hf : FrG L Q' w w') (h1 : tA ∉ L) (h2 : tS ∉ L) (h3 : tF ∉ L) : ArOf enc tA tS tF m B Q w' ab T :=
  let ⟨av, fv, h, q⟩ := h; ⟨av, fv, ⟨h.ok, h.base, hf.blk h.blk h1, hf.row h.rowA h2, hf.row h.rowF h3⟩, q⟩
/-- What another one may have changed, who owns other blocks. -/
theorem ArOf.keptQ {α : Type} {enc : α → List Value} {tA tS tF m B : Nat} {Q : Nat → Prop} {w w' : World} {ab : Nat} {T : TA α} (h : ArOf enc tA tS tF m B Q w ab T) {L : List TypeId} {Q' : Nat → Prop} (hf : FrG L Q' w w') (hq : ∀ k, Q k → ¬ Q' k) : ArOf enc tA tS tF m B Q w' ab T :=
  let ⟨av, fv, h, q⟩ := h; ⟨av, fv, ⟨h.ok, h.base, hf.blkQ h.blk (hq _ (q _ (.inl rfl))), hf.rowQ h.rowA (fun k hk => hq _ (q _ (.inr (.inl hk)))), hf.rowQ h.rowF (fun k hk => hq _ (q _ (.inr (.inr hk))))⟩, q⟩
theorem ArOf.mono {α : Type} {enc : α → List Value} {tA tS tF m B : Nat} {Q Q' : Nat → Prop} {w : World} {ab : Nat} {T : TA α} (h : ArOf enc tA tS tF m B Q w ab T) (hq : ∀ k, Q k → Q' k) : ArOf enc tA tS tF m B Q' w ab T :=
  let ⟨av, fv, h, q⟩ := h; ⟨av, fv, h, fun k hk => hq k (q k hk)⟩
theorem ArOf.below {α : Type} {enc : α → List Value} {tA tS tF m B : Nat} {Q : Nat → Prop} {w w' : World} {ab : Nat} {T : TA α} (h : ArOf enc tA tS tF m B Q w ab T) (hf : Below w.heap.size w w') : ArOf enc tA tS tF m B Q w' ab T :=
  let ⟨av, fv, h, q⟩ := h; ⟨av, fv, h.below hf, q⟩
theorem ArOf.lt {α : Type} {enc : α → List Value} {tA tS tF m B : Nat} {Q : Nat → Prop} {w : World} {ab : Nat} {T : TA α} (h : ArOf enc tA tS tF m B Q w ab T) : ab < w.heap.size := let ⟨_, _, h, _⟩ := h; lt_of_some h.blk
theorem ArOf.ok {α : Type} {enc : α → List Value} {tA tS tF m B : Nat} {Q : Nat → Prop} {w : World} {ab : Nat} {T : TA α} (h : ArOf enc tA tS tF m B Q w ab T) : (T.ar enc).Ok m := let ⟨_, _, h, _⟩ := h; h.ok
/-- Behind what an arena did: it owns what it owned, and new blocks. -/
theorem ArOf.after {α : Type} {enc : α → List Value} {tA tS tF m B : Nat} {Q : Nat → Prop} {w w' : World} {ab : Nat} {T' : TA α} {av fv av' fv' : Value} (hQ : ∀ k, arQ ab av fv k → Q k) (h : ArAt tA tS tF m B w' ab (T'.ar enc) av' fv') (f : ArFr tA tS tF (arQ ab av fv) w w' av' fv') :
    ArOf enc tA tS tF m B (fun k => Q k ∨ w.heap.size ≤ k ∧ k < w'.heap.size) w' ab T' ∧ FrG [tA, tS, tF] Q w w' := by
  refine ⟨⟨av', fv', h, fun k hk => ?_⟩, f.fr.mono (fun _ h => h) hQ⟩
  rcases hk with rfl | hk | hk
  · exact .inl (hQ _ (.inl rfl))
  · rcases f.qA k hk with h1 | h1
    · exact .inl (hQ _ h1)
    · exact .inr ⟨h1, h.rowA.lt k hk |>.2⟩
  · rcases f.qF k hk with h1 | h1
    · exact .inl (hQ _ h1)
    · exact .inr ⟨h1, h.rowF.lt k hk |>.2⟩

/-- The slots' row has a head where there is a slot. -/
theorem ArAt.head {tA tS tF m B : Nat} {w : World} {ab : Nat} {A : Ar} {av fv : Value} (h : ArAt tA tS tF m B w ab A av fv) {k : Nat} {s : Nat × Bool × List Value} (hk : A.all[k]? = some s) : ∃ gb cap, av = .slice (some ⟨gb, 0, none⟩) A.all.length cap := by
  have hl : k < A.all.length := (List.getElem?_eq_some_iff.1 hk).1
  rcases h.rowA.2 with ⟨_, hn⟩ | ⟨gb, cap, cur, rfl, _⟩
  · omega
  · exact ⟨gb, cap, rfl⟩
end Go.Proofs.YtelhnaphkbpakaaDoor

namespace Go.Proofs.YtelhnaphkbpakaaDoor
open Go.RowKit
set_option linter.unusedVariables false

def encN : (Option Addr) → List Value := fun x => [(.pointer x)]
abbrev ArNOf (B : Nat) (Q : Nat → Prop) (w : World) (ab : Nat) (T : TA (Option Addr)) : Prop := ArOf encN 145 150 29 1 B Q w ab T

theorem arNTop_new (S G : Nat) (B : Nat) (w : World) (hB : B ≤ w.heap.size) (h1 : 1 ≤ S) (h2 : S ≤ 2147483647) (h3 : 1 ≤ G) (h4 : G ≤ 4294967295) :
    Calls Tryd.prog 66 #[.int .i64 (S : Int), .int .i64 (G : Int)] w fun e w' => e = .returned (.tuple #[.pointer (some ⟨w.heap.size, 0, none⟩), .int .i64 0]) ∧
      ArNOf B (fun k => w.heap.size ≤ k ∧ k < w'.heap.size) w' w.heap.size (TA.new S G) ∧ Below w.heap.size w w' :=
  (arN_new S G B w hB h1 h2 h3 h4).mono fun e w' ⟨he, ha, hb⟩ => ⟨he, ⟨_, _, ha, fun k hk => by rcases hk with rfl | hk | hk; exact ⟨Nat.le_refl _, lt_of_some ha.blk⟩; cases hk; cases hk⟩, hb⟩

theorem arNTop_count {B : Nat} {Q : Nat → Prop} {w : World} {ab : Nat} {T : TA (Option Addr)} (h : ArNOf B Q w ab T) : Calls Tryd.prog 97 #[.pointer (some ⟨ab, 0, none⟩)] w fun e w' => e = .returned (.int .i64 (T.count : Int)) ∧ Below w.heap.size w w' :=
  let ⟨_, _, h, _⟩ := h; arN_count h
theorem arNTop_get {B : Nat} {Q : Nat → Prop} {w : World} {ab : Nat} {T : TA (Option Addr)} (h : ArNOf B Q w ab T) (s g : Nat) (hs : s ≤ 4294967295) (hg : g ≤ 4294967295) :
    Calls Tryd.prog 76 #[.pointer (some ⟨ab, 0, none⟩), .agg #[.int .u32 (s : Int), .int .u32 (g : Int)]] w fun e w' => (∀ x, x = (T.get (none : Option Addr) s g).1 → e = .returned (.tuple #[(.pointer x), .int .i64 ((T.get (none : Option Addr) s g).2 : Int)])) ∧ Below w.heap.size w w' := by
  obtain ⟨av, fv, h, hq⟩ := h
  cases ha : T.at s g with
  | none =>
    refine (arN_get_dead h s g hs hg (TA.at_none ha)).mono ?_
    rintro e w' ⟨rfl, hb⟩
    exact ⟨by rintro x rfl; simp [TA.get, ha], hb⟩
  | some x =>
    obtain ⟨h1, h2⟩ := TA.at_some ha
    obtain ⟨k, rfl⟩ : ∃ k, s = k + 1 := ⟨s - 1, by omega⟩
    rw [Nat.add_sub_cancel] at h2
    have h3 := TA.ar_get (enc := encN) h2
    obtain ⟨gb, cap, rfl⟩ := h.head h3
    rw [show ((k + 1 : Nat) : Int) = (k : Int) + 1 by omega]
    refine (arN_get_live h k g _ h3).mono ?_
    rintro e w' ⟨rfl, hb⟩
    exact ⟨by rintro y rfl; simp [TA.get, ha], hb⟩

theorem arNTop_free {B : Nat} {Q : Nat → Prop} {w : World} {ab : Nat} {T : TA (Option Addr)} (h : ArNOf B Q w ab T) (s g : Nat) (hs : s ≤ 4294967295) (hg : g ≤ 4294967295) :
    Calls Tryd.prog 103 #[.pointer (some ⟨ab, 0, none⟩), .agg #[.int .u32 (s : Int), .int .u32 (g : Int)]] w fun e w' => e = .returned (.int .i64 ((T.drop (none : Option Addr) s g).2 : Int)) ∧ ArNOf B (fun k => Q k ∨ w.heap.size ≤ k ∧ k < w'.heap.size) w' ab (T.drop (none : Option Addr) s g).1 ∧ FrG [145, 150, 29] Q w w' := by
  obtain ⟨av, fv, h, hq⟩ := h
  cases ha : T.at s g with
  | none =>
    refine (arN_free_dead h s g hs hg (TA.at_none ha)).mono ?_
    rintro e w' ⟨rfl, hb⟩
    simp only [TA.drop, ha]
    exact ⟨rfl, ⟨_, _, h.below hb, fun k hk => .inl (hq k hk)⟩, FrG.of_below hb⟩
  | some y =>
    obtain ⟨h1, h2⟩ := TA.at_some ha
    obtain ⟨k, rfl⟩ : ∃ k, s = k + 1 := ⟨s - 1, by omega⟩
    rw [Nat.add_sub_cancel] at h2
    have h3 := TA.ar_get (enc := encN) h2
    obtain ⟨gb, cap, rfl⟩ := h.head h3
    rw [show ((k + 1 : Nat) : Int) = (k : Int) + 1 by omega]
    by_cases hr : g < T.G
    · refine (arN_free_room h k g _ h3 hr).mono ?_
      rintro e w' ⟨fv', rfl, hb, hf⟩
      simp only [TA.drop, ha, Nat.add_sub_cancel, hr, if_true]
      exact ⟨rfl, ArOf.after hq (by have e := TA.ar_set encN T k g false (none : Option Addr) (T.free ++ [k]) (T.count - 1) T.ret; rw [e]; exact hb) hf⟩
    · refine (arN_free_last h k g _ h3 (Nat.le_of_not_lt hr)).mono ?_
      rintro e w' ⟨rfl, hb, hf⟩
      simp only [TA.drop, ha, Nat.add_sub_cancel, hr, if_false]
      exact ⟨rfl, ArOf.after hq (by have e := TA.ar_set encN T k g false (none : Option Addr) T.free (T.count - 1) (T.ret + 1); rw [e]; exact hb) hf⟩

theorem arNTop_alloc {B : Nat} {Q : Nat → Prop} {w : World} {ab : Nat} {T : TA (Option Addr)} (h : ArNOf B Q w ab T) (x : Option Addr) :
    Calls Tryd.prog 68 #[.pointer (some ⟨ab, 0, none⟩), (.pointer x)] w fun e w' => e = .returned (.tuple #[.agg #[.int .u32 ((T.alloc x).2.1 : Int), .int .u32 ((T.alloc x).2.2.1 : Int)], .int .i64 ((T.alloc x).2.2.2 : Int)]) ∧ ArNOf B (fun k => Q k ∨ w.heap.size ≤ k ∧ k < w'.heap.size) w' ab (T.alloc x).1 ∧ FrG [145, 150, 29] Q w w' := by
  obtain ⟨av, fv, h, hq⟩ := h
  cases hg : T.free.getLast? with
  | none =>
    have hf : T.free = [] := by simpa using hg
    by_cases hl : T.all.length < T.S
    · refine (arN_alloc_grow h x hf (by simpa [TA.ar] using hl)).mono ?_
      rintro e w' ⟨av', rfl, hb, hfr⟩
      simp only [TA.alloc, hg, hl, if_true]
      refine ⟨by simp [TA.ar], ArOf.after hq ?_ hfr⟩
      have e : TA.ar encN { T with all := T.all ++ [(1, true, x)], count := T.count + 1 } = { TA.ar encN T with all := (TA.ar encN T).all ++ [(1, true, encN x)], count := T.count + 1 } := by simp [TA.ar]
      rw [e]; exact hb
    · refine (arN_alloc_full h x hf (by simpa [TA.ar] using hl)).mono ?_
      rintro e w' ⟨rfl, hb⟩
      simp only [TA.alloc, hg, hl, if_false]
      exact ⟨rfl, ⟨_, _, h.below hb, fun k hk => .inl (hq k hk)⟩, FrG.of_below hb⟩
  | some k =>
    obtain ⟨l, hf⟩ : ∃ l, T.free = l ++ [k] := by
      obtain ⟨hne, he⟩ := List.getLast?_eq_some_iff.1 hg
      exact ⟨_, he⟩
    have hkf : k ∈ T.free := by rw [hf]; simp
    obtain ⟨g, t, h1, h2⟩ := h.ok.free k hkf
    have h1' := h1
    simp only [TA.ar, List.getElem?_map, Option.map_eq_some_iff] at h1
    obtain ⟨⟨g', u, y⟩, h3, h4⟩ := h1
    simp only [Prod.mk.injEq] at h4
    obtain ⟨rfl, rfl, rfl⟩ := h4
    obtain ⟨gb, cap, rfl⟩ := h.head h1'
    refine (arN_alloc_reuse h x (l := l) hf h1' h2).mono ?_
    rintro e w' ⟨fv', rfl, hb, hfr⟩
    simp only [TA.alloc, hg, h3]
    refine ⟨rfl, ArOf.after hq ?_ hfr⟩
    have hd : T.free.dropLast = l := by rw [hf]; simp
    have e := TA.ar_set encN T k (g' + 1) true x T.free.dropLast (T.count + 1) T.ret
    rw [e, hd]; exact hb
end Go.Proofs.YtelhnaphkbpakaaDoor

namespace Go.Proofs.YtelhnaphkbpakaaDoor
set_option linter.unusedVariables false

structure FN where
  sl : Nat
  gn : Nat
  up : Option Nat
  down : List Nat
  live : Bool

abbrev For := List FN

/-- The way up from a node, it first, the root last. -/
inductive Chain (F : For) : Nat → List Nat → Prop
  | root {k : Nat} {x : FN} : F[k]? = some x → x.up = none → Chain F k [k]
  | up {k u : Nat} {x : FN} {l : List Nat} : F[k]? = some x → x.up = some u → Chain F u l → Chain F k (k :: l)

structure FOk (F : For) : Prop where
  upd : ∀ (k : Nat) (x : FN) (u : Nat), F[k]? = some x → x.up = some u → ∃ y : FN, F[u]? = some y ∧ y.live = true ∧ k ∈ y.down
  dn : ∀ (u : Nat) (y : FN), F[u]? = some y → ∀ c ∈ y.down, ∃ x : FN, F[c]? = some x ∧ x.up = some u ∧ x.live = true
  nd : ∀ (u : Nat) (y : FN), F[u]? = some y → y.down.Nodup
  dead : ∀ (k : Nat) (x : FN), F[k]? = some x → x.live = false → x.up = none ∧ x.down = []
  acyc : ∀ (k : Nat) (x : FN), F[k]? = some x → ∃ l, Chain F k l

theorem Chain.det {F : For} {k : Nat} {l : List Nat} (h : Chain F k l) : ∀ {m : List Nat}, Chain F k m → l = m := by
  induction h with
  | root hx hu =>
    intro m hm
    cases hm with
    | root _ _ => rfl
    | up hx' hu' _ => rw [hx] at hx'; cases hx'; rw [hu] at hu'; cases hu'
  | up hx hu _ ih =>
    intro m hm
    cases hm with
    | root hx' hu' => rw [hx] at hx'; cases hx'; rw [hu] at hu'; cases hu'
    | up hx' hu' hc => rw [hx] at hx'; cases hx'; rw [hu] at hu'; cases hu'; rw [ih hc]
theorem Chain.ne_nil {F : For} {k : Nat} {l : List Nat} (h : Chain F k l) : ∃ t, l = k :: t := by cases h <;> exact ⟨_, rfl⟩
theorem Chain.mem_lt {F : For} {k : Nat} {l : List Nat} (h : Chain F k l) : ∀ m ∈ l, m < F.length := by
  induction h with
  | root hx hu => intro m hm; simp at hm; subst hm; exact (List.getElem?_eq_some_iff.1 hx).1
  | up hx hu _ ih =>
    intro m hm
    rcases List.mem_cons.1 hm with rfl | hm
    · exact (List.getElem?_eq_some_iff.1 hx).1
    · exact ih m hm
/-- Each node on the way has the rest of it as its own. -/
theorem Chain.at {F : For} {k : Nat} {l : List Nat} (h : Chain F k l) : ∀ {a : List Nat} {m : Nat} {b : List Nat}, l = a ++ m :: b → Chain F m (m :: b) := by
  induction h with
  | root hx hu =>
    intro a m b e
    cases a with
    | nil => simp at e; obtain ⟨rfl, rfl⟩ := e; exact .root hx hu
    | cons y a => simp at e
  | up hx hu hc ih =>
    intro a m b e
    cases a with
    | nil => simp at e; obtain ⟨rfl, rfl⟩ := e; exact .up hx hu hc
    | cons y a => simp at e; exact ih e.2
theorem Chain.nodup {F : For} {k : Nat} {l : List Nat} (h : Chain F k l) : l.Nodup := by
  induction h with
  | root hx hu => simp
  | @up k u x l hx hu hc ih =>
    refine List.nodup_cons.2 ⟨fun hm => ?_, ih⟩
    obtain ⟨a, b, e⟩ := List.append_of_mem hm
    have h1 := hc.at e
    have h2 := h1.det (.up hx hu hc)
    have := congrArg List.length h2
    rw [e] at this
    simp at this
    omega
theorem nodup_bound : ∀ (n : Nat) (l : List Nat), l.Nodup → (∀ m ∈ l, m < n) → l.length ≤ n := by
  intro n
  induction n with
  | zero => intro l _ h; cases l with
    | nil => simp
    | cons x l => exact absurd (h x (by simp)) (by omega)
  | succ n ih =>
    intro l hn h
    have h1 := ih (l.filter (· ≠ n)) (hn.sublist List.filter_sublist) (fun m hm => by
      have := List.mem_filter.1 hm
      have h2 := h m this.1
      have h3 : m ≠ n := by simpa using this.2
      omega)
    have h2 : l.length ≤ (l.filter (· ≠ n)).length + 1 := by
      by_cases hm : n ∈ l
      · have h3 : l.erase n = l.filter (· ≠ n) := by
          rw [List.Nodup.erase_eq_filter hn]; congr 1; funext x; simp [bne, BEq.beq]
        rw [← h3, List.length_erase_of_mem hm]
        omega
      · have : l.filter (· ≠ n) = l := List.filter_eq_self.2 (fun a ha => by simp; rintro rfl; exact hm ha)
        rw [this]; omega
    omega
theorem Chain.len {F : For} {k : Nat} {l : List Nat} (h : Chain F k l) : l.length ≤ F.length := nodup_bound _ _ h.nodup h.mem_lt


/-- A chain stands where what it goes along stands. -/
theorem Chain.keep {F G : For} {k : Nat} {l : List Nat} (h : Chain F k l) (hk : ∀ m ∈ l, (G[m]?).map FN.up = (F[m]?).map FN.up) : Chain G k l := by
  induction h with
  | @root k x hx hu =>
    have := hk k (by simp)
    rw [hx] at this
    obtain ⟨y, hy, e⟩ := Option.map_eq_some_iff.1 this
    exact .root hy (e.trans hu)
  | @up k u x l hx hu hc ih =>
    have := hk k (by simp)
    rw [hx] at this
    obtain ⟨y, hy, e⟩ := Option.map_eq_some_iff.1 this
    exact .up hy (e.trans hu) (ih (fun m hm => hk m (List.mem_cons_of_mem _ hm)))
theorem Chain.last {F : For} {k : Nat} {l : List Nat} (h : Chain F k l) : ∃ (a : List Nat) (r : Nat) (x : FN), l = a ++ [r] ∧ F[r]? = some x ∧ x.up = none := by
  induction h with
  | root hx hu => exact ⟨[], _, _, rfl, hx, hu⟩
  | up hx hu hc ih => obtain ⟨a, r, x, e, h1, h2⟩ := ih; exact ⟨_ :: a, r, x, by rw [e]; rfl, h1, h2⟩
theorem Chain.root_last {F : For} {k i : Nat} {l : List Nat} {x : FN} (h : Chain F k l) (hm : i ∈ l) (hx : F[i]? = some x) (hu : x.up = none) : ∃ a, l = a ++ [i] := by
  obtain ⟨a, b, e⟩ := List.append_of_mem hm
  have h1 := h.at e
  have h2 := h1.det (.root hx hu)
  obtain rfl : b = [] := by simpa using h2
  exact ⟨a, e⟩
/-- A way that went to a root goes on, where that root hangs beneath another node. -/
theorem Chain.onto {F G : For} {i u : Nat} {k : Nat} {l : List Nat} (h : Chain F k l) : ∀ {a c : List Nat}, l = a ++ [i] → (∀ m ∈ a, (G[m]?).map FN.up = (F[m]?).map FN.up) → (∀ c, Chain G u c → Chain G i (i :: c)) → Chain G u c → Chain G k (a ++ i :: c) := by
  induction h with
  | @root k x hx hu =>
    intro a c e hk hi hc
    cases a with
    | nil => simp at e; subst e; exact hi c hc
    | cons y a => simp at e
  | @up k v x l hx hu hc ih =>
    intro a c e hk hi hc'
    cases a with
    | nil => simp at e; obtain ⟨rfl, rfl⟩ := e; exact hi c hc'
    | cons y a =>
      obtain ⟨rfl, e2⟩ : k = y ∧ l = a ++ [i] := by simpa using e
      clear e
      have := hk k (by simp)
      rw [hx] at this
      obtain ⟨z, hz, ez⟩ := Option.map_eq_some_iff.1 this
      exact .up hz (ez.trans hu) (ih e2 (fun m hm => hk m (List.mem_cons_of_mem _ hm)) hi hc')

/-- Node i beneath u, at place p of its children. -/
def ins (l : List Nat) (p i : Nat) : List Nat := l.take p ++ i :: l.drop p
def hng (F : For) (i u p : Nat) : For := (F.modify u (fun y => { y with down := ins y.down p i })).modify i (fun x => { x with up := some u })
theorem hng_len (F : For) (i u p : Nat) : (hng F i u p).length = F.length := by simp [hng]
theorem hng_at {F : For} {i u p k : Nat} (hne : i ≠ u) : (hng F i u p)[k]? = if k = i then (F[i]?).map (fun x => { x with up := some u }) else if k = u then (F[u]?).map (fun y => { y with down := ins y.down p i }) else F[k]? := by
  unfold hng
  rw [List.getElem?_modify, List.getElem?_modify]
  by_cases h1 : k = i
  · subst h1
    simp [Ne.symm hne]
  · have h1' : ¬ i = k := fun e => h1 e.symm
    by_cases h2 : k = u
    · subst h2; simp [h1, h1']
    · have h2' : ¬ u = k := fun e => h2 e.symm
      simp [h1, h1', h2, h2']
theorem mem_ins {l : List Nat} {p i c : Nat} : c ∈ ins l p i ↔ c = i ∨ c ∈ l := by
  unfold ins
  rw [List.mem_append, List.mem_cons]
  constructor
  · rintro (h | h | h)
    · exact .inr (List.mem_of_mem_take h)
    · exact .inl h
    · exact .inr (List.mem_of_mem_drop h)
  · rintro (h | h)
    · exact .inr (.inl h)
    · rw [← List.take_append_drop p l] at h
      rcases List.mem_append.1 h with h | h
      · exact .inl h
      · exact .inr (.inr h)
theorem nodup_ins {l : List Nat} {p i : Nat} (h : l.Nodup) (hi : i ∉ l) : (ins l p i).Nodup := by
  have h1 : (ins l p i).Perm (i :: l) := by
    unfold ins
    refine List.perm_middle.trans ?_
    rw [List.take_append_drop]
  exact h1.nodup_iff.2 (List.nodup_cons.2 ⟨hi, h⟩)
/-- Where a root is hung beneath a node that is not beneath it, a forest stays. -/
theorem FOk.hang {F : For} (h : FOk F) {i u p : Nat} {x y : FN} (hx : F[i]? = some x) (hy : F[u]? = some y) (hxl : x.live = true) (hyl : y.live = true) (hxu : x.up = none) {c : List Nat} (hc : Chain F u c) (hni : i ∉ c) : FOk (hng F i u p) := by
  have hne : i ≠ u := by
    rintro rfl
    obtain ⟨t, ht⟩ := hc.ne_nil
    exact hni (by rw [ht]; simp)
  have eU : ∀ m, m ≠ i → ((hng F i u p)[m]?).map FN.up = (F[m]?).map FN.up := by
    intro m hm
    rw [hng_at hne, if_neg hm]
    split
    · rename_i e; subst e; rw [Option.map_map]; rfl
    · rfl
  have gi : (hng F i u p)[i]? = some { x with up := some u } := by rw [hng_at hne, if_pos rfl, hx]; rfl
  have gu : (hng F i u p)[u]? = some { y with down := ins y.down p i } := by rw [hng_at hne, if_neg (Ne.symm hne), if_pos rfl, hy]; rfl
  have go : ∀ m, m ≠ i → m ≠ u → (hng F i u p)[m]? = F[m]? := fun m h1 h2 => by rw [hng_at hne, if_neg h1, if_neg h2]
  have hid : i ∉ y.down := fun hm => by
    obtain ⟨x', hx', e, _⟩ := h.dn u y hy i hm
    rw [hx] at hx'; cases hx'; rw [hxu] at e; cases e
  have hnu : ∀ (m : Nat) (z : FN), F[m]? = some z → i ∉ z.down := fun m z hz hm => by
    obtain ⟨x', hx', e, _⟩ := h.dn m z hz i hm
    rw [hx] at hx'; cases hx'; rw [hxu] at e; cases e
  have hcu : Chain (hng F i u p) u c := hc.keep (fun m hm => eU m (by rintro rfl; exact hni hm))
  refine ⟨?_, ?_, ?_, ?_, ?_⟩
  · intro k z v hz hv
    by_cases hk : k = i
    · subst hk
      rw [gi] at hz; cases hz
      obtain rfl : u = v := by simpa using hv
      exact ⟨_, gu, hyl, by rw [mem_ins]; exact .inl rfl⟩
    · have hup : ∃ z', F[k]? = some z' ∧ z'.up = some v := by
        have := eU k hk
        rw [hz] at this
        obtain ⟨z', h1, h2⟩ := Option.map_eq_some_iff.1 this.symm
        exact ⟨z', h1, h2.trans hv⟩
      obtain ⟨z', h1, h2⟩ := hup
      obtain ⟨w, h3, h4, h5⟩ := h.upd k z' v h1 h2
      by_cases hvu : v = u
      · subst hvu
        rw [hy] at h3; cases h3
        exact ⟨_, gu, hyl, by rw [mem_ins]; exact .inr h5⟩
      · by_cases hvi : v = i
        · subst hvi
          rw [hx] at h3; cases h3
          exact ⟨_, gi, hxl, h5⟩
        · exact ⟨w, by rw [go v hvi hvu]; exact h3, h4, h5⟩
  · intro v z hz k hk
    have main : ∀ z', F[v]? = some z' → k ∈ z'.down → ∃ x : FN, (hng F i u p)[k]? = some x ∧ x.up = some v ∧ x.live = true := by
      intro z' hz' hk'
      obtain ⟨a, h1, h2, h3⟩ := h.dn v z' hz' k hk'
      have hki : k ≠ i := by rintro rfl; exact hnu v z' hz' hk'
      by_cases hku : k = u
      · subst hku; rw [hy] at h1; cases h1; exact ⟨_, gu, h2, h3⟩
      · exact ⟨a, by rw [go k hki hku]; exact h1, h2, h3⟩
    by_cases hv : v = i
    · subst hv
      rw [gi] at hz; cases hz
      exact main x hx hk
    · by_cases hvu : v = u
      · subst hvu
        rw [gu] at hz; cases hz
        rcases mem_ins.1 hk with rfl | hk
        · exact ⟨_, gi, rfl, hxl⟩
        · exact main y hy hk
      · rw [go v hv hvu] at hz
        exact main z hz hk
  · intro v z hz
    by_cases hv : v = i
    · subst hv; rw [gi] at hz; cases hz; exact h.nd _ x hx
    · by_cases hvu : v = u
      · subst hvu; rw [gu] at hz; cases hz; exact nodup_ins (h.nd _ y hy) hid
      · rw [go v hv hvu] at hz; exact h.nd v z hz
  · intro v z hz hl
    by_cases hv : v = i
    · subst hv; rw [gi] at hz; cases hz; rw [hxl] at hl; cases hl
    · by_cases hvu : v = u
      · subst hvu; rw [gu] at hz; cases hz; rw [hyl] at hl; cases hl
      · rw [go v hv hvu] at hz; exact h.dead v z hz hl
  · intro k z hz
    have hkl : k < F.length := by have := (List.getElem?_eq_some_iff.1 hz).1; rwa [hng_len] at this
    obtain ⟨l, hl⟩ := h.acyc k _ (List.getElem?_eq_getElem hkl)
    by_cases hm : i ∈ l
    · obtain ⟨a, e⟩ := hl.root_last hm hx hxu
      have hnd := hl.nodup
      rw [e] at hnd
      exact ⟨_, hl.onto e (fun m hma => eU m (by rintro rfl; exact (List.nodup_append.1 hnd).2.2 m hma m (by simp) rfl)) (fun c hc => .up gi rfl hc) hcu⟩
    · exact ⟨l, hl.keep (fun m hml => eU m (by rintro rfl; exact hm hml))⟩

/-! ### a node more; a node taken from its parent; a node gone -/
def Made (F : For) (s g : Nat) : For := F ++ [⟨s, g, none, [], true⟩]
theorem FOk.made {F : For} (h : FOk F) (s g : Nat) : FOk (Made F s g) := by
  have hl : ∀ m (z : FN), F[m]? = some z → (Made F s g)[m]? = some z := fun m z hz => by
    unfold Made; rw [List.getElem?_append_left (List.getElem?_eq_some_iff.1 hz).1]; exact hz
  have hr : ∀ m (z : FN), (Made F s g)[m]? = some z → F[m]? = some z ∨ (m = F.length ∧ z = ⟨s, g, none, [], true⟩) := fun m z hz => by
    unfold Made at hz
    rcases Nat.lt_or_ge m F.length with h1 | h1
    · rw [List.getElem?_append_left h1] at hz; exact .inl hz
    · rw [List.getElem?_append_right h1] at hz
      obtain ⟨h2, h3⟩ := List.getElem?_eq_some_iff.1 hz
      simp at h2 h3
      exact .inr ⟨by omega, h3.symm⟩
  refine ⟨?_, ?_, ?_, ?_, ?_⟩
  · intro k x u hx hu
    rcases hr k x hx with h1 | ⟨_, rfl⟩
    · obtain ⟨y, h2, h3⟩ := h.upd k x u h1 hu; exact ⟨y, hl _ _ h2, h3⟩
    · cases hu
  · intro u y hy c hc
    rcases hr u y hy with h1 | ⟨_, rfl⟩
    · obtain ⟨x, h2, h3⟩ := h.dn u y h1 c hc; exact ⟨x, hl _ _ h2, h3⟩
    · simp at hc
  · intro u y hy
    rcases hr u y hy with h1 | ⟨_, rfl⟩
    · exact h.nd u y h1
    · simp
  · intro u y hy hd
    rcases hr u y hy with h1 | ⟨_, rfl⟩
    · exact h.dead u y h1 hd
    · cases hd
  · intro u y hy
    rcases hr u y hy with h1 | ⟨e, rfl⟩
    · obtain ⟨l, hc⟩ := h.acyc u y h1
      exact ⟨l, hc.keep (fun m hm => by
        have h2 := hc.mem_lt m hm
        rw [hl m _ (List.getElem?_eq_getElem h2), List.getElem?_eq_getElem h2])⟩
    · exact ⟨_, .root hy rfl⟩

def cutF (F : For) (i u : Nat) : For := (F.modify u (fun y => { y with down := y.down.filter (fun c => c != i) })).modify i (fun x => { x with up := none })
theorem cutF_len (F : For) (i u : Nat) : (cutF F i u).length = F.length := by simp [cutF]
theorem cutF_at {F : For} {i u k : Nat} (hne : i ≠ u) : (cutF F i u)[k]? = if k = i then (F[i]?).map (fun x => { x with up := none }) else if k = u then (F[u]?).map (fun y => { y with down := y.down.filter (fun c => c != i) }) else F[k]? := by
  unfold cutF
  rw [List.getElem?_modify, List.getElem?_modify]
  by_cases h1 : k = i
  · subst h1
    simp [Ne.symm hne]
  · have h1' : ¬ i = k := fun e => h1 e.symm
    by_cases h2 : k = u
    · subst h2; simp [h1, h1']
    · have h2' : ¬ u = k := fun e => h2 e.symm
      simp [h1, h1', h2, h2']
theorem FOk.up_ne {F : For} (h : FOk F) {i u : Nat} {x : FN} (hx : F[i]? = some x) (hu : x.up = some u) : i ≠ u := by
  rintro rfl
  obtain ⟨l, hl⟩ := h.acyc i x hx
  cases hl with
  | root hx' hu' => rw [hx] at hx'; cases hx'; rw [hu] at hu'; cases hu'
  | up hx' hu' hc =>
    rw [hx] at hx'; cases hx'; rw [hu] at hu'; cases hu'
    have := hc.det (.up hx hu hc)
    have := congrArg List.length this
    simp at this
/-- A way, as it is behind a cut: to the node that is a root now, or as it was. -/
theorem Chain.cut {F G : For} {i : Nat} {xi : FN} (gi : G[i]? = some xi) (hiu : xi.up = none) (hk : ∀ m, m ≠ i → (G[m]?).map FN.up = (F[m]?).map FN.up) {k : Nat} {l : List Nat} (h : Chain F k l) : ∃ l', Chain G k l' := by
  induction h with
  | @root k x hx hu =>
    by_cases e : k = i
    · subst e; exact ⟨_, .root gi hiu⟩
    · have := hk k e
      rw [hx] at this
      obtain ⟨y, hy, e⟩ := Option.map_eq_some_iff.1 this
      exact ⟨_, .root hy (e.trans hu)⟩
  | @up k u x l hx hu hc ih =>
    by_cases e : k = i
    · subst e; exact ⟨_, .root gi hiu⟩
    · have := hk k e
      rw [hx] at this
      obtain ⟨y, hy, e⟩ := Option.map_eq_some_iff.1 this
      obtain ⟨l', hl'⟩ := ih
      exact ⟨_, .up hy (e.trans hu) hl'⟩
theorem FOk.cut {F : For} (h : FOk F) {i u : Nat} {x : FN} (hx : F[i]? = some x) (hu : x.up = some u) : FOk (cutF F i u) := by
  have hne := h.up_ne hx hu
  obtain ⟨y, hy, hyl, hmem⟩ := h.upd i x u hx hu
  have hxl : x.live = true := by
    cases e : x.live with
    | true => rfl
    | false => have := (h.dead i x hx e).1; rw [hu] at this; cases this
  have eU : ∀ m, m ≠ i → ((cutF F i u)[m]?).map FN.up = (F[m]?).map FN.up := by
    intro m hm
    rw [cutF_at hne, if_neg hm]
    split
    · rename_i e; subst e; rw [Option.map_map]; rfl
    · rfl
  have gi : (cutF F i u)[i]? = some { x with up := none } := by rw [cutF_at hne, if_pos rfl, hx]; rfl
  have gu : (cutF F i u)[u]? = some { y with down := y.down.filter (fun c => c != i) } := by rw [cutF_at hne, if_neg (Ne.symm hne), if_pos rfl, hy]; rfl
  have go : ∀ m, m ≠ i → m ≠ u → (cutF F i u)[m]? = F[m]? := fun m h1 h2 => by rw [cutF_at hne, if_neg h1, if_neg h2]
  have hnu : ∀ (m : Nat) (z : FN), F[m]? = some z → m ≠ u → i ∉ z.down := fun m z hz hm hmi => by
    obtain ⟨x', hx', e, _⟩ := h.dn m z hz i hmi
    rw [hx] at hx'; cases hx'; rw [hu] at e; cases e; exact hm rfl
  have hfil : ∀ c, c ∈ y.down.filter (fun c => c != i) ↔ c ∈ y.down ∧ c ≠ i := fun c => by rw [List.mem_filter]; simp
  refine ⟨?_, ?_, ?_, ?_, ?_⟩
  · intro k z v hz hv
    have hk : k ≠ i := by rintro rfl; rw [gi] at hz; cases hz; cases hv
    obtain ⟨z', h1, h2⟩ : ∃ z', F[k]? = some z' ∧ z'.up = some v := by
      have := eU k hk
      rw [hz] at this
      obtain ⟨z', h1, h2⟩ := Option.map_eq_some_iff.1 this.symm
      exact ⟨z', h1, h2.trans hv⟩
    obtain ⟨w, h3, h4, h5⟩ := h.upd k z' v h1 h2
    by_cases hvu : v = u
    · subst hvu
      rw [hy] at h3; cases h3
      exact ⟨_, gu, hyl, (hfil k).2 ⟨h5, hk⟩⟩
    · by_cases hvi : v = i
      · subst hvi
        rw [hx] at h3; cases h3
        exact ⟨_, gi, hxl, h5⟩
      · exact ⟨w, by rw [go v hvi hvu]; exact h3, h4, h5⟩
  · intro v z hz k hk
    have main : ∀ z', F[v]? = some z' → k ∈ z'.down → k ≠ i → ∃ x : FN, (cutF F i u)[k]? = some x ∧ x.up = some v ∧ x.live = true := by
      intro z' hz' hk' hki
      obtain ⟨a, h1, h2, h3⟩ := h.dn v z' hz' k hk'
      by_cases hku : k = u
      · subst hku; rw [hy] at h1; cases h1; exact ⟨_, gu, h2, h3⟩
      · exact ⟨a, by rw [go k hki hku]; exact h1, h2, h3⟩
    by_cases hv : v = i
    · subst hv
      rw [gi] at hz; cases hz
      exact main x hx hk (by rintro rfl; exact hnu k x hx hne hk)
    · by_cases hvu : v = u
      · subst hvu
        rw [gu] at hz; cases hz
        obtain ⟨h1, h2⟩ := (hfil k).1 hk
        exact main y hy h1 h2
      · rw [go v hv hvu] at hz
        exact main z hz hk (by rintro rfl; exact hnu v z hz hvu hk)
  · intro v z hz
    by_cases hv : v = i
    · subst hv; rw [gi] at hz; cases hz; exact h.nd _ x hx
    · by_cases hvu : v = u
      · subst hvu; rw [gu] at hz; cases hz; exact (h.nd _ y hy).sublist List.filter_sublist
      · rw [go v hv hvu] at hz; exact h.nd v z hz
  · intro v z hz hl
    by_cases hv : v = i
    · subst hv; rw [gi] at hz; cases hz; rw [hxl] at hl; cases hl
    · by_cases hvu : v = u
      · subst hvu; rw [gu] at hz; cases hz; rw [hyl] at hl; cases hl
      · rw [go v hv hvu] at hz; exact h.dead v z hz hl
  · intro k z hz
    have hkl : k < F.length := by have := (List.getElem?_eq_some_iff.1 hz).1; rwa [cutF_len] at this
    obtain ⟨l, hl⟩ := h.acyc k _ (List.getElem?_eq_getElem hkl)
    exact hl.cut gi rfl eU

def Kill (F : For) (i : Nat) : For := F.modify i (fun x => { x with live := false })
theorem kill_len (F : For) (i : Nat) : (Kill F i).length = F.length := by simp [Kill]
theorem kill_at {F : For} {i k : Nat} : (Kill F i)[k]? = if k = i then (F[i]?).map (fun x => { x with live := false }) else F[k]? := by
  unfold Kill
  rw [List.getElem?_modify]
  by_cases h1 : k = i
  · subst h1; simp
  · have h1' : ¬ i = k := fun e => h1 e.symm
    simp [h1, h1']
theorem FOk.kill {F : For} (h : FOk F) {i : Nat} {x : FN} (hx : F[i]? = some x) (hu : x.up = none) (hd : x.down = []) : FOk (Kill F i) := by
  have gi : (Kill F i)[i]? = some { x with live := false } := by rw [kill_at, if_pos rfl, hx]; rfl
  have go : ∀ m, m ≠ i → (Kill F i)[m]? = F[m]? := fun m h1 => by rw [kill_at, if_neg h1]
  have eU : ∀ m : Nat, ((Kill F i)[m]?).map FN.up = (F[m]?).map FN.up := by
    intro m
    by_cases hm : m = i
    · subst hm; rw [gi, hx]; rfl
    · rw [go m hm]
  refine ⟨?_, ?_, ?_, ?_, ?_⟩
  · intro k z v hz hv
    have hk : k ≠ i := by rintro rfl; rw [gi] at hz; cases hz; rw [hu] at hv; cases hv
    rw [go k hk] at hz
    obtain ⟨w, h3, h4, h5⟩ := h.upd k z v hz hv
    have hvi : v ≠ i := by rintro rfl; rw [hx] at h3; cases h3; rw [hd] at h5; cases h5
    exact ⟨w, by rw [go v hvi]; exact h3, h4, h5⟩
  · intro v z hz k hk
    have hv : v ≠ i := by rintro rfl; rw [gi] at hz; cases hz; rw [hd] at hk; cases hk
    rw [go v hv] at hz
    obtain ⟨a, h1, h2, h3⟩ := h.dn v z hz k hk
    have hki : k ≠ i := by rintro rfl; rw [hx] at h1; cases h1; rw [hu] at h2; cases h2
    exact ⟨a, by rw [go k hki]; exact h1, h2, h3⟩
  · intro v z hz
    by_cases hv : v = i
    · subst hv; rw [gi] at hz; cases hz; exact h.nd _ x hx
    · rw [go v hv] at hz; exact h.nd v z hz
  · intro v z hz hl
    by_cases hv : v = i
    · subst hv; rw [gi] at hz; cases hz; exact ⟨hu, hd⟩
    · rw [go v hv] at hz; exact h.dead v z hz hl
  · intro k z hz
    have hkl : k < F.length := by have := (List.getElem?_eq_some_iff.1 hz).1; rwa [kill_len] at this
    obtain ⟨l, hl⟩ := h.acyc k _ (List.getElem?_eq_getElem hkl)
    exact ⟨l, hl.keep (fun m _ => eU m)⟩

end Go.Proofs.YtelhnaphkbpakaaDoor

namespace Go.Proofs.YtelhnaphkbpakaaDoor
set_option linter.unusedVariables false

/-! ### the five links of a node -/
def hd (F : For) (o : Option Nat) : Nat × Nat := match o.bind (fun k => F[k]?) with | some x => (x.sl, x.gn) | none => (0, 0)
def dnOf (F : For) (o : Option Nat) : List Nat := match o.bind (fun k => F[k]?) with | some x => x.down | none => []
def upOf (F : For) (k : Nat) : Option Nat := (F[k]?).bind FN.up
def prevOf (l : List Nat) (k : Nat) : Option Nat := if l.idxOf k = 0 then none else l[l.idxOf k - 1]?
def nextOf (l : List Nat) (k : Nat) : Option Nat := l[l.idxOf k + 1]?
def lkO (F : For) (k : Nat) : Nat → Option Nat
  | 0 => upOf F k
  | 1 => (dnOf F (some k)).head?
  | 2 => (dnOf F (some k)).getLast?
  | 3 => prevOf (dnOf F (upOf F k)) k
  | 4 => nextOf (dnOf F (upOf F k)) k
  | _ => none
theorem idx_split {a b : List Nat} {k : Nat} (h : k ∉ a) : (a ++ k :: b).idxOf k = a.length := by
  rw [List.idxOf_append]
  simp [h]
theorem prev_split {a b : List Nat} {k : Nat} (h : k ∉ a) : prevOf (a ++ k :: b) k = a.getLast? := by
  unfold prevOf
  rw [idx_split h]
  cases a with
  | nil => rfl
  | cons x a =>
    rw [if_neg (by simp), List.getElem?_append_left (by simp), List.getLast?_eq_getElem?]
theorem next_split {a b : List Nat} {k : Nat} (h : k ∉ a) : nextOf (a ++ k :: b) k = b.head? := by
  unfold nextOf
  rw [idx_split h, List.getElem?_append_right (by omega), show a.length + 1 - a.length = 1 by omega]
  cases b <;> rfl
theorem prev_nil (k : Nat) : prevOf [] k = none := rfl
theorem next_nil (k : Nat) : nextOf [] k = none := rfl
def updO (L : Nat → Nat → Option Nat) (k j : Nat) (o : Option Nat) : Nat → Nat → Option Nat := fun k' j' => if k' = k ∧ j' = j then o else L k' j'
theorem updO_eq (L : Nat → Nat → Option Nat) (k j : Nat) (o : Option Nat) : updO L k j o k j = o := by simp [updO]
theorem updO_ne {L : Nat → Nat → Option Nat} {k j k' j' : Nat} (o : Option Nat) (h : k' ≠ k ∨ j' ≠ j) : updO L k j o k' j' = L k' j' := by
  unfold updO
  rw [if_neg]
  rintro ⟨rfl, rfl⟩
  rcases h with h | h <;> exact h rfl
/-- What Link does to the links. -/
def linkL (L : Nat → Nat → Option Nat) (i u : Nat) (f b : Option Nat) : Nat → Nat → Option Nat :=
  let L3 := updO (updO (updO L i 0 (some u)) i 3 f) i 4 b
  let L4 := match f with | none => updO L3 u 1 (some i) | some f => updO L3 f 4 (some i)
  match b with | none => updO L4 u 2 (some i) | some b => updO L4 b 3 (some i)
theorem hd_hng {F : For} {i u p : Nat} (hne : i ≠ u) (o : Option Nat) : hd (hng F i u p) o = hd F o := by
  cases o with
  | none => rfl
  | some k =>
    unfold hd
    show (match (hng F i u p)[k]? with | some x => (x.sl, x.gn) | none => (0, 0)) = (match F[k]? with | some x => (x.sl, x.gn) | none => (0, 0))
    rw [hng_at hne]
    by_cases h1 : k = i
    · subst h1; rw [if_pos rfl]; cases F[k]? <;> rfl
    · rw [if_neg h1]
      by_cases h2 : k = u
      · subst h2; rw [if_pos rfl]; cases F[k]? <;> rfl
      · rw [if_neg h2]
theorem up_hng {F : For} {i u p : Nat} {x : FN} (hx : F[i]? = some x) (hne : i ≠ u) (k : Nat) : upOf (hng F i u p) k = if k = i then some u else upOf F k := by
  unfold upOf
  rw [hng_at hne]
  by_cases h1 : k = i
  · subst h1; rw [if_pos rfl, if_pos rfl, hx]; rfl
  · rw [if_neg h1, if_neg h1]
    by_cases h2 : k = u
    · subst h2; rw [if_pos rfl]; cases F[k]? <;> rfl
    · rw [if_neg h2]
theorem dn_hng {F : For} {i u p : Nat} {y : FN} (hy : F[u]? = some y) (hne : i ≠ u) (k : Nat) : dnOf (hng F i u p) (some k) = if k = u then ins y.down p i else dnOf F (some k) := by
  unfold dnOf
  show (match (hng F i u p)[k]? with | some x => x.down | none => []) = if k = u then ins y.down p i else (match F[k]? with | some x => x.down | none => [])
  rw [hng_at hne]
  by_cases h1 : k = i
  · subst h1; rw [if_pos rfl, if_neg hne]; cases F[k]? <;> rfl
  · rw [if_neg h1]
    by_cases h2 : k = u
    · subst h2; rw [if_pos rfl, if_pos rfl, hy]; rfl
    · rw [if_neg h2, if_neg h2]
theorem lk_hng {F : For} (ok : FOk F) {i u : Nat} {x y : FN} {l1 l2 : List Nat} (hx : F[i]? = some x) (hy : F[u]? = some y) (hxu : x.up = none) (hne : i ≠ u) (hl : y.down = l1 ++ l2) (k j : Nat) (hj : j < 5) :
    lkO (hng F i u l1.length) k j = linkL (lkO F) i u l1.getLast? l2.head? k j := by
  have hid : i ∉ y.down := fun hm => by
    obtain ⟨x', hx', e, _⟩ := ok.dn u y hy i hm
    rw [hx] at hx'; cases hx'; rw [hxu] at e; cases e
  have hnd := ok.nd u y hy
  have hins : ins y.down l1.length i = l1 ++ i :: l2 := by unfold ins; rw [hl]; simp
  have hf : ∀ f, l1.getLast? = some f → f ∈ y.down ∧ f ≠ i ∧ f ≠ u := by
    intro f hf
    have hm : f ∈ y.down := by rw [hl]; exact List.mem_append_left _ (List.mem_of_getLast? hf)
    refine ⟨hm, by rintro rfl; exact hid hm, ?_⟩
    obtain ⟨z, hz, e, _⟩ := ok.dn u y hy f hm
    exact ok.up_ne hz e
  have hb : ∀ b, l2.head? = some b → b ∈ y.down ∧ b ≠ i ∧ b ≠ u := by
    intro b hb
    have hm : b ∈ y.down := by rw [hl]; exact List.mem_append_right _ (List.mem_of_head? hb)
    refine ⟨hm, by rintro rfl; exact hid hm, ?_⟩
    obtain ⟨z, hz, e, _⟩ := ok.dn u y hy b hm
    exact ok.up_ne hz e
  have hfb : ∀ f b, l1.getLast? = some f → l2.head? = some b → f ≠ b := by
    rintro f b h1 h2 rfl
    rw [hl] at hnd
    exact (List.nodup_append.1 hnd).2.2 f (List.mem_of_getLast? h1) f (List.mem_of_head? h2) rfl
  have hup := fun k => up_hng (p := l1.length) hx hne k
  have hdn := fun k => dn_hng (p := l1.length) hy hne k
  rw [hins] at hdn
  have hdu : dnOf F (some u) = l1 ++ l2 := by unfold dnOf; show (match F[u]? with | some x => x.down | none => []) = _; rw [hy]; exact hl
  have hui : upOf F i = none := by unfold upOf; rw [hx]; exact hxu
  -- where k hangs
  by_cases hki : k = i
  · subst hki
    have e1 : ∀ L : Nat → Nat → Option Nat, ∀ f, l1.getLast? = some f → updO L f 4 (some k) k j = L k j := fun L f h => updO_ne _ (.inl (Ne.symm (hf f h).2.1))
    have e2 : ∀ L : Nat → Nat → Option Nat, ∀ b, l2.head? = some b → updO L b 3 (some k) k j = L k j := fun L b h => updO_ne _ (.inl (Ne.symm (hb b h).2.1))
    have e3 : ∀ (L : Nat → Nat → Option Nat) (m : Nat), updO L u m (some k) k j = L k j := fun L m => updO_ne _ (.inl hne)
    have hL : linkL (lkO F) k u l1.getLast? l2.head? k j = updO (updO (updO (lkO F) k 0 (some u)) k 3 l1.getLast?) k 4 l2.head? k j := by
      unfold linkL
      cases hc : l1.getLast? with
      | none => cases hd : l2.head? with
        | none => simp only [e3]
        | some b => simp only [e2 _ b hd, e3]
      | some f => cases hd : l2.head? with
        | none => simp only [e1 _ f hc, e3]
        | some b => simp only [e2 _ b hd, e1 _ f hc]
    rw [hL]
    have hk1 : k ∉ l1 := fun h => hid (by rw [hl]; exact List.mem_append_left _ h)
    match j, hj with
    | 0, _ => simp [updO, lkO, hup]
    | 1, _ => simp [updO, lkO, hdn, hne]
    | 2, _ => simp [updO, lkO, hdn, hne]
    | 3, _ => simp only [lkO, hup, if_pos, hdn]; rw [prev_split hk1]; simp [updO]
    | 4, _ => simp only [lkO, hup, if_pos, hdn]; rw [next_split hk1]; simp [updO]
  · have hL3 : ∀ (L : Nat → Nat → Option Nat) (m : Nat) (o : Option Nat), updO L i m o k j = L k j := fun L m o => updO_ne _ (.inl hki)
    by_cases hku : k = u
    · subst hku
      have e1 : ∀ L : Nat → Nat → Option Nat, ∀ f, l1.getLast? = some f → updO L f 4 (some i) k j = L k j := fun L f h => updO_ne _ (.inl (Ne.symm (hf f h).2.2))
      have e2 : ∀ L : Nat → Nat → Option Nat, ∀ b, l2.head? = some b → updO L b 3 (some i) k j = L k j := fun L b h => updO_ne _ (.inl (Ne.symm (hb b h).2.2))
      have hL : linkL (lkO F) i k l1.getLast? l2.head? k j = if j = 1 ∧ l1 = [] then some i else if j = 2 ∧ l2 = [] then some i else lkO F k j := by
        unfold linkL
        cases hc : l1.getLast? with
        | none =>
          have h1 : l1 = [] := List.getLast?_eq_none_iff.1 hc
          cases hd : l2.head? with
          | none =>
            have h2 : l2 = [] := List.head?_eq_none_iff.1 hd
            simp only [h1, h2, and_true]
            unfold updO
            simp only [true_and]
            by_cases j1 : j = 1
            · subst j1; simp
            · by_cases j2 : j = 2
              · subst j2; simp
              · simp [j1, j2, hki]
          | some b =>
            have h2 : l2 ≠ [] := fun e => by rw [e] at hd; cases hd
            simp only [e2 _ b hd, h1, h2, and_true, and_false, if_false]
            unfold updO
            simp only [true_and]
            by_cases j1 : j = 1
            · subst j1; simp
            · simp [j1, hki]
        | some f =>
          have h1 : l1 ≠ [] := fun e => by rw [e] at hc; cases hc
          cases hd : l2.head? with
          | none =>
            have h2 : l2 = [] := List.head?_eq_none_iff.1 hd
            simp only [h1, h2, and_true, and_false, if_false]
            rw [show ∀ L : Nat → Nat → Option Nat, updO (updO L f 4 (some i)) k 2 (some i) k j = updO L k 2 (some i) k j from fun L => by unfold updO; simp only [true_and]; split; rfl; rw [if_neg]; rintro ⟨e, _⟩; exact (hf f hc).2.2 e.symm]
            unfold updO
            simp only [true_and]
            by_cases j2 : j = 2
            · subst j2; simp
            · simp [j2, hki]
          | some b =>
            have h2 : l2 ≠ [] := fun e => by rw [e] at hd; cases hd
            simp only [e2 _ b hd, e1 _ f hc, h1, h2, and_false, if_false]
            simp [hL3]
      rw [hL]
      have hpu : upOf F k ≠ some k := fun e => by
        have : y.up = some k := by unfold upOf at e; rw [hy] at e; exact e
        exact ok.up_ne hy this rfl
      have hsib : dnOf (hng F i k l1.length) (upOf F k) = dnOf F (upOf F k) := by
        cases e : upOf F k with
        | none => rfl
        | some v => rw [hdn, if_neg (by rintro rfl; exact hpu e)]
      match j, hj with
      | 0, _ => simp [lkO, hup, hki]
      | 1, _ => simp only [lkO, hdn, if_pos, hdu]; cases l1 <;> simp
      | 2, _ => simp only [lkO, hdn, if_pos, hdu]; cases l2 <;> simp [List.getLast?_append]
      | 3, _ => simp only [lkO, hup, if_neg hki, hsib]; simp
      | 4, _ => simp only [lkO, hup, if_neg hki, hsib]; simp
    · have hL : linkL (lkO F) i u l1.getLast? l2.head? k j = if l1.getLast? = some k ∧ j = 4 then some i else if l2.head? = some k ∧ j = 3 then some i else lkO F k j := by
        have e3 : ∀ (L : Nat → Nat → Option Nat) (m : Nat), updO L u m (some i) k j = L k j := fun L m => updO_ne _ (.inl hku)
        unfold linkL
        cases hc : l1.getLast? with
        | none =>
          cases hd : l2.head? with
          | none => simp [e3, hL3]
          | some b =>
            simp only [reduceCtorEq, false_and, if_false, Option.some.injEq]
            rw [show ∀ L : Nat → Nat → Option Nat, updO L b 3 (some i) k j = if b = k ∧ j = 3 then some i else L k j from fun L => by unfold updO; simp only [eq_comm]]
            simp only [e3, hL3]
        | some f =>
          cases hd : l2.head? with
          | none =>
            simp only [e3]
            simp only [reduceCtorEq, false_and, if_false, Option.some.injEq]
            rw [show ∀ L : Nat → Nat → Option Nat, updO L f 4 (some i) k j = if f = k ∧ j = 4 then some i else L k j from fun L => by unfold updO; simp only [eq_comm]]
            simp only [hL3]
          | some b =>
            simp only [Option.some.injEq]
            rw [show ∀ L : Nat → Nat → Option Nat, updO (updO L f 4 (some i)) b 3 (some i) k j = if b = k ∧ j = 3 then some i else if f = k ∧ j = 4 then some i else L k j from fun L => by unfold updO; simp only [eq_comm]]
            simp only [hL3]
            by_cases c1 : b = k ∧ j = 3
            · rw [if_pos c1, if_neg (by omega), if_pos c1]
            · rw [if_neg c1, if_neg c1]
      rw [hL]
      have hdk : dnOf (hng F i u l1.length) (some k) = dnOf F (some k) := by rw [hdn, if_neg hku]
      by_cases hk : upOf F k = some u
      · have hm : k ∈ y.down := by
          unfold upOf at hk
          obtain ⟨z, hz, e⟩ := Option.bind_eq_some_iff.1 hk
          obtain ⟨y', hy', _, h3⟩ := ok.upd k z u hz e
          rw [hy] at hy'; cases hy'; exact h3
        rw [hl] at hm hnd
        rcases List.mem_append.1 hm with h1 | h1
        · obtain ⟨a, c, e⟩ := List.append_of_mem h1
          have hnb : l2.head? ≠ some k := fun e => (List.nodup_append.1 hnd).2.2 k h1 k (List.mem_of_head? e) rfl
          have hka : k ∉ a := fun ha => by
            have := (List.nodup_append.1 hnd).1
            rw [e] at this
            exact (List.nodup_append.1 this).2.2 k ha k (by simp) rfl
          have q1 : l1 ++ i :: l2 = a ++ k :: (c ++ i :: l2) := by rw [e]; simp
          have q2 : l1 ++ l2 = a ++ k :: (c ++ l2) := by rw [e]; simp
          have hlast : l1.getLast? = some k ↔ c = [] := by
            rw [e]
            cases hc2 : c.getLast? with
            | none => have := List.getLast?_eq_none_iff.1 hc2; subst this; simp
            | some z =>
              have hcne : c ≠ [] := by rintro rfl; cases hc2
              rw [List.getLast?_append, List.getLast?_cons, hc2]
              simp only [Option.getD_some, Option.some_or, Option.some.injEq, hcne, iff_false]
              rintro rfl
              have := (List.nodup_append.1 hnd).1
              rw [e] at this
              exact (List.nodup_cons.1 (List.nodup_append.1 this).2.1).1 (List.mem_of_getLast? hc2)
          simp only [hnb, false_and, if_false, hlast]
          match j, hj with
          | 0, _ => simp [lkO, hup, hki]
          | 1, _ => simp [lkO, hdk]
          | 2, _ => simp [lkO, hdk]
          | 3, _ =>
            simp only [lkO, hup, if_neg hki, hk, hdn, if_pos, hdu]
            rw [q1, q2, prev_split hka, prev_split hka]
            simp
          | 4, _ =>
            simp only [lkO, hup, if_neg hki, hk, hdn, if_pos, hdu]
            rw [q1, q2, next_split hka, next_split hka]
            cases c <;> simp
        · obtain ⟨c, b, e⟩ := List.append_of_mem h1
          have hnb : l1.getLast? ≠ some k := fun e => (List.nodup_append.1 hnd).2.2 k (List.mem_of_getLast? e) k h1 rfl
          have hk1 : k ∉ l1 := fun h => (List.nodup_append.1 hnd).2.2 k h k h1 rfl
          have hkc : k ∉ c := fun ha => by
            have := (List.nodup_append.1 hnd).2.1
            rw [e] at this
            exact (List.nodup_append.1 this).2.2 k ha k (by simp) rfl
          have q1 : l1 ++ i :: l2 = (l1 ++ i :: c) ++ k :: b := by rw [e]; simp
          have q2 : l1 ++ l2 = (l1 ++ c) ++ k :: b := by rw [e]; simp
          have hhead : l2.head? = some k ↔ c = [] := by
            rw [e]
            cases c with
            | nil => simp
            | cons z c => simp; rintro rfl; exact hkc (by simp)
          simp only [hnb, false_and, if_false, hhead]
          have n1 : k ∉ l1 ++ i :: c := by simp; exact ⟨hk1, hki, hkc⟩
          have n2 : k ∉ l1 ++ c := by simp; exact ⟨hk1, hkc⟩
          match j, hj with
          | 0, _ => simp [lkO, hup, hki]
          | 1, _ => simp [lkO, hdk]
          | 2, _ => simp [lkO, hdk]
          | 3, _ =>
            simp only [lkO, hup, if_neg hki, hk, hdn, if_pos, hdu]
            rw [q1, q2, prev_split n1, prev_split n2]
            cases c with
            | nil => simp
            | cons z c => simp [List.getLast?_append, List.getLast?_cons]
          | 4, _ =>
            simp only [lkO, hup, if_neg hki, hk, hdn, if_pos, hdu]
            rw [q1, q2, next_split n1, next_split n2]
            simp
      · have hsib : dnOf (hng F i u l1.length) (upOf F k) = dnOf F (upOf F k) := by
          cases e : upOf F k with
          | none => rfl
          | some v => rw [hdn, if_neg (by rintro rfl; exact hk e)]
        have hnm : ∀ c, c ∈ y.down → c ≠ k := by
          rintro c hc rfl
          obtain ⟨z, hz, e, _⟩ := ok.dn u y hy c hc
          exact hk (by unfold upOf; rw [hz]; exact e)
        rw [if_neg (by rintro ⟨e, _⟩; exact hnm k (hf k e).1 rfl), if_neg (by rintro ⟨e, _⟩; exact hnm k (hb k e).1 rfl)]
        match j, hj with
        | 0, _ => simp [lkO, hup, hki]
        | 1, _ => simp [lkO, hdk]
        | 2, _ => simp [lkO, hdk]
        | 3, _ => simp only [lkO, hup, if_neg hki, hsib]
        | 4, _ => simp only [lkO, hup, if_neg hki, hsib]
end Go.Proofs.YtelhnaphkbpakaaDoor

namespace Go.Proofs.YtelhnaphkbpakaaDoor
open Go.RowKit
set_option linter.unusedVariables false
set_option maxRecDepth 100000

/-- The value is a slice of these units, as they lie in memory; none: whatever its address. -/
structure Sl16 (w : World) (a : Option Addr) (us : List Nat) : Prop where
  at_ : ∀ (i u : Nat), us[i]? = some u → u ≤ 65535 ∧ ∃ b off, a = some ⟨b, off, none⟩ ∧ b < w.heap.size ∧ w.cell? ⟨b, off + i, none⟩ = some (.int .u16 (u : Int))
  len : us.length ≤ 9223372036854775807

theorem Sl16.below {w w' : World} {a : Option Addr} {us : List Nat} (h : Sl16 w a us) (hb : Below w.heap.size w w') : Sl16 w' a us :=
  ⟨fun i u hu => by
    obtain ⟨h1, b, off, h2, h3, h4⟩ := h.at_ i u hu
    exact ⟨h1, b, off, h2, Nat.lt_of_lt_of_le h3 hb.size, (hb.cell (p := ⟨b, off + i, none⟩) h3).trans h4⟩, h.len⟩
theorem Sl16.nil (w : World) (a : Option Addr) : Sl16 w a [] := ⟨fun i u hu => by simp at hu, by simp⟩

def cmp16 : List Nat → List Nat → Int
  | [], [] => 0
  | [], _ :: _ => -1
  | _ :: _, [] => 1
  | x :: xs, y :: ys => if x = y then cmp16 xs ys else if x < y then -1 else 1

theorem cmp16_drop {a b : List Nat} {i : Nat} (h : ∀ j, j < i → a[j]? = b[j]?) (ha : i ≤ a.length) (hb : i ≤ b.length) : cmp16 a b = cmp16 (a.drop i) (b.drop i) := by
  induction i generalizing a b with
  | zero => rfl
  | succ i ih =>
    cases a with
    | nil => simp at ha
    | cons x xs =>
      cases b with
      | nil => simp at hb
      | cons y ys =>
        have h0 := h 0 (by omega)
        simp at h0
        subst h0
        simp only [List.drop_succ_cons, List.length_cons] at *
        simp only [cmp16, if_true]
        exact ih (fun j hj => by have := h (j + 1) (by omega); simpa using this) (by omega) (by omega)
theorem drop_at {a : List Nat} {i u : Nat} (h : a[i]? = some u) : a.drop i = u :: a.drop (i + 1) := by
  obtain ⟨hi, rfl⟩ := List.getElem?_eq_some_iff.1 h
  exact List.drop_eq_getElem_cons hi
/-- Two differ at a place: that decides. -/
theorem cmp16_at {a b : List Nat} {i x y : Nat} (h : ∀ j, j < i → a[j]? = b[j]?) (hx : a[i]? = some x) (hy : b[i]? = some y) (hne : x ≠ y) : cmp16 a b = if x < y then -1 else 1 := by
  have h1 := (List.getElem?_eq_some_iff.1 hx).1
  have h2 := (List.getElem?_eq_some_iff.1 hy).1
  rw [cmp16_drop h (by omega) (by omega), drop_at hx, drop_at hy]
  simp only [cmp16, hne, if_false]
/-- One is at its end. -/
theorem cmp16_end {a b : List Nat} {i : Nat} (h : ∀ j, j < i → a[j]? = b[j]?) (ha : i ≤ a.length) (hb : i ≤ b.length) (he : i = a.length ∨ i = b.length) : cmp16 a b = if a.length < b.length then -1 else if b.length < a.length then 1 else 0 := by
  rw [cmp16_drop h ha hb]
  rcases he with rfl | rfl
  · rw [List.drop_length]
    by_cases h1 : a.length < b.length
    · obtain ⟨u, hu⟩ : ∃ u, b[a.length]? = some u := ⟨_, List.getElem?_eq_getElem h1⟩
      rw [drop_at hu, if_pos h1]; rfl
    · have : b.length = a.length := by omega
      rw [List.drop_of_length_le (by omega), if_neg h1, if_neg (by omega)]; rfl
  · rw [List.drop_length]
    by_cases h1 : b.length < a.length
    · obtain ⟨u, hu⟩ : ∃ u, a[b.length]? = some u := ⟨_, List.getElem?_eq_getElem h1⟩
      rw [drop_at hu, if_neg (by omega), if_pos h1]; rfl
    · have : b.length = a.length := by omega
      rw [List.drop_of_length_le (by omega), if_neg (by omega), if_neg h1]; rfl

theorem nan_false (x : Int) (w : World) : Calls Tryd.prog 121 #[.int .u16 x] w fun e w' => e = .returned (.bool false) ∧ w = w' := by
  go_enter Tryd.func121, Tryd.ntmps121
  go_wp2
  go_ret
  exact ⟨by first | rfl | simp, rfl⟩

/-- cmp.Compare of two units. -/
def cmpI (x y : Int) : Int := if x < y then -1 else if y < x then 1 else 0
theorem cmp_unit (x y : Int) (w : World) : Calls Tryd.prog 115 #[.int .u16 x, .int .u16 y] w fun e w' => e = .returned (.int .i64 (cmpI x y)) ∧ w = w' := by
  by_cases h1 : x < y
  · rw [show cmpI x y = -1 by simp [cmpI, h1]]
    go_enter Tryd.func115, Tryd.ntmps115
    go_wp2_with (go_at_call 121; refine (nan_false _ _).mono ?_; rintro e w2 ⟨rfl, rfl⟩)
    go_ret
    exact ⟨rfl, rfl⟩
  · by_cases h2 : y < x
    · rw [show cmpI x y = 1 by simp [cmpI, h1, h2]]
      go_enter Tryd.func115, Tryd.ntmps115
      go_wp2_with (go_at_call 121; refine (nan_false _ _).mono ?_; rintro e w2 ⟨rfl, rfl⟩)
      go_ret
      exact ⟨rfl, rfl⟩
    · rw [show cmpI x y = 0 by simp [cmpI, h1, h2]]
      go_enter Tryd.func115, Tryd.ntmps115
      go_wp2_with (go_at_call 121; refine (nan_false _ _).mono ?_; rintro e w2 ⟨rfl, rfl⟩)
      go_ret
      exact ⟨rfl, rfl⟩

set_option maxHeartbeats 2000000 in
/-- slices.Compare. -/
theorem slices_compare {w : World} {a b : Option Addr} {us vs : List Nat} (ca cb : Nat) (ha : Sl16 w a us) (hb : Sl16 w b vs) :
    Calls Tryd.prog 107 #[.slice a us.length ca, .slice b vs.length cb] w fun e w' => e = .returned (.int .i64 (cmp16 us vs)) ∧ w = w' := by
  have HA := Lib.hid ha
  have HB := Lib.hid hb
  have l1 := ha.len
  have l2 := hb.len
  clear ha hb
  obtain ⟨n, hn⟩ : ∃ n, n = us.length := ⟨_, rfl⟩
  obtain ⟨m, hm⟩ : ∃ m, m = vs.length := ⟨_, rfl⟩
  rw [← hn] at l1 ⊢
  rw [← hm] at l2 ⊢
  have HN := Lib.hid hn
  have HM := Lib.hid hm
  clear hn hm
  go_enter Tryd.func107, Tryd.ntmps107
  go_wp2_with fail
  go_loopw [11] (fun v wr => ∃ i : Nat, v = .int .i64 (i : Nat) ∧ i ≤ n ∧ i ≤ m ∧ (∀ j, j < i → us[j]? = vs[j]?) ∧ wr = w) (fun v _ => n - (intOf v).toNat)
  case atStart => exact ⟨0, rfl, Nat.zero_le _, Nat.zero_le _, fun j hj => absurd hj (by omega), rfl⟩
  case round =>
    obtain ⟨i, rfl, hi1, hi2, heq, rfl⟩ := hrel
    have HE := Lib.hid heq
    clear heq
    by_cases h1 : i < n
    · obtain ⟨u, hu⟩ : ∃ u, us[i]? = some u := ⟨_, List.getElem?_eq_getElem (by rw [← HN.out]; exact h1)⟩
      obtain ⟨hu1, b1, o1, rfl, hb1, c1⟩ := HA.out.at_ i u hu
      have HU := Lib.hid hu
      clear hu
      have p1 : (i : Int) < (n : Int) := by omega
      by_cases h2 : i < m
      · obtain ⟨v, hv⟩ : ∃ v, vs[i]? = some v := ⟨_, List.getElem?_eq_getElem (by rw [← HM.out]; exact h2)⟩
        obtain ⟨hv1, b2, o2, rfl, hb2, c2⟩ := HB.out.at_ i v hv
        have HV := Lib.hid hv
        clear hv
        have p2 : ¬ ((m : Int) ≤ (i : Int)) := by omega
        by_cases hne : u = v
        · subst hne
          have q : cmpI (u : Int) (u : Int) = 0 := by simp [cmpI]
          go_wp2_with (go_at_call 115; refine (cmp_unit _ _ _).mono ?_; rw [q]; rintro e w2 ⟨rfl, rfl⟩)
          go_roundw
          case rel => exact ⟨i + 1, by go_num, h1, h2, fun j hj => by
            rcases Nat.lt_or_ge j i with h | h
            · exact HE.out j h
            · obtain rfl : j = i := by omega
              rw [HU.out, HV.out], trivial⟩
          case measure => simp [intOf]; omega
        · have hc := cmp16_at HE.out HU.out HV.out hne
          have q : cmpI (u : Int) (v : Int) = cmp16 us vs := by
            rw [hc]; unfold cmpI
            by_cases h3 : u < v
            · rw [if_pos (by omega), if_pos h3]
            · rw [if_neg (by omega), if_pos (by omega), if_neg h3]
          have q0 : cmp16 us vs = -1 ∨ cmp16 us vs = 1 := by rw [hc]; by_cases h3 : u < v <;> simp [h3]
          clear hc hne
          rcases q0 with q0 | q0
          all_goals
            rw [q0] at q
            have Q0 := Lib.hid q0
            clear q0
            go_wp2_with (go_at_call 115; refine (cmp_unit _ _ _).mono ?_; rw [q]; rintro e w2 ⟨rfl, rfl⟩)
            go_ret
            exact ⟨by rw [Q0.out]; rfl, rfl⟩
      · have p2 : ((m : Int) ≤ (i : Int)) := by omega
        have hc := cmp16_end HE.out (by rw [← HN.out]; omega) (by rw [← HM.out]; omega) (.inr (by rw [← HM.out]; omega))
        rw [if_neg (by rw [← HN.out, ← HM.out]; omega), if_pos (by rw [← HN.out, ← HM.out]; omega)] at hc
        have HC := Lib.hid hc
        clear hc
        go_wp2
        go_ret
        exact ⟨by rw [HC.out]; rfl, rfl⟩
    · have p1 : ¬ ((i : Int) < (n : Int)) := by omega
      have hc := cmp16_end HE.out (by rw [← HN.out]; omega) (by rw [← HM.out]; omega) (.inl (by rw [← HN.out]; omega))
      rw [← HN.out, ← HM.out] at hc
      by_cases h3 : n < m
      · have p3 : (n : Int) < (m : Int) := by omega
        rw [if_pos h3] at hc
        have HC := Lib.hid hc
        clear hc h3
        go_wp2
        go_ret
        exact ⟨by rw [HC.out]; rfl, rfl⟩
      · have p3 : ¬ (n : Int) < (m : Int) := by omega
        rw [if_neg h3, if_neg (by omega)] at hc
        have HC := Lib.hid hc
        clear hc h3
        go_wp2
        go_ret
        exact ⟨by rw [HC.out]; rfl, rfl⟩

theorem wide_compare {w : World} {a b : Option Addr} {us vs : List Nat} (ca cb : Nat) (ha : Sl16 w a us) (hb : Sl16 w b vs) :
    Calls Tryd.prog 84 #[.slice a us.length ca, .slice b vs.length cb] w fun e w' => e = .returned (.int .i64 (cmp16 us vs)) ∧ w = w' := by
  go_enter Tryd.func84, Tryd.ntmps84
  go_wp2_with (go_at_call 107; refine (slices_compare ca cb ha hb).mono ?_; rintro e w2 ⟨rfl, rfl⟩)
  go_ret
  exact ⟨rfl, rfl⟩
end Go.Proofs.YtelhnaphkbpakaaDoor

namespace Go.Proofs.YtelhnaphkbpakaaDoor
open Go.RowKit
set_option linter.unusedVariables false
set_option maxRecDepth 100000

theorem Sl16.drewN {w : World} {a : Option Addr} {us : List Nat} (h : Sl16 w a us) (k : Nat) : Sl16 (w.drewN k) a us := ⟨h.at_, h.len⟩

theorem cmp16_zero {a b : List Nat} : cmp16 a b = 0 ↔ a = b := by
  induction a generalizing b with
  | nil => cases b <;> simp [cmp16]
  | cons x xs ih =>
    cases b with
    | nil => simp [cmp16]
    | cons y ys =>
      simp only [cmp16, List.cons.injEq]
      by_cases h : x = y
      · simp [h, ih]
      · simp only [h, if_false, false_and, iff_false]
        split <;> omega

end Go.Proofs.YtelhnaphkbpakaaDoor

namespace Go.Proofs.YtelhnaphkbpakaaDoor
open Go Go.RowKit
set_option linter.unusedVariables false

theorem grownBy_self (w : World) (row : Option Nat) : w.grownBy w row := ⟨rfl, rfl, rfl, Nat.le_refl _, fun _ _ _ => rfl⟩

section
variable {P : Program} (w : World)

theorem run_append_any (t ty : TypeId) (base : Nat) (e : TypeId) (i : TypeInfo) (z : Value) (size bytes : Nat) (ht : P.underlying t = some (.slice e)) (hi : P.info? e = some i) (hz : i.zero = some z)
    (hsize : i.size = size) (hby : i.bytes = bytes) (hzs : z.cells.size = size) (hsz : 0 < size)
    (v : Value) (n : Nat) (xs : List Value) (hown : w.ownsRow base e size v n xs)
    (xa : Option Addr) (m c : Nat) (news : List Value) (hl : news.length = m * size) (hsrc : m = 0 ∨ ∃ ad, xa = some ad ∧ ∀ j u, news[j]? = some u → w.cell? (ad.add j) = some u) (h1 : ∀ u ∈ news, u.oneCell' = true)
    (h63 : n + m ≤ maxLen) (hbytes : (n + m) * bytes ≤ 140737488355328) (hbase : base ≤ w.heap.size) :
    ∃ v' w', (Builtin.append_ #[t, t] ty #[v, .slice xa m c]).run P w = .ok v' w' ∧ w'.ownsRow base e size v' (n + m) (xs ++ news) ∧ w.grownBy w' v.ownBlock ∧ (∃ a' c', v' = .slice a' (n + m) c') := by
  rcases Nat.eq_zero_or_pos m with rfl | hm
  · obtain rfl : news = [] := by cases news with | nil => rfl | cons x l => simp at hl
    have hv : ∃ a' c', v = .slice a' n c' ∧ n ≤ c' := by
      rcases hown.2 with ⟨rfl, hn⟩ | ⟨g, cap, cur, rfl, _, _, _, h4, _⟩
      · exact ⟨none, 0, by rw [hn], by omega⟩
      · exact ⟨_, cap, rfl, by omega⟩
    obtain ⟨a', c', rfl, hle⟩ := hv
    have hs : Src P i.size t (.slice xa 0 c) 0 [] w := by
      cases xa with
      | none => exact Src.ofNil w ht c
      | some ad => exact Src.ofSlice w ht ad 0 c [] (by simp) (by simp) (by simp)
    exact ⟨_, w, run_append_nothing w t t ty e i ht hi a' n c' hle _ hs, by simpa using hown, grownBy_self w _, a', c', rfl⟩
  · rcases hsrc with h0 | ⟨ad, rfl, hnews⟩
    · omega
    · obtain ⟨g, cap, w', hr, h2, h3, _⟩ := run_append_lies (P := P) w t ty base e i z size bytes ht hi hz hsize hby hzs hsz v n xs hown ad m c news hl hnews h1 hm h63 hbytes hbase _ rfl
      exact ⟨_, w', hr, h2, h3, _, cap, rfl⟩

theorem wpList_append_any {ops : Array Oper} {rest : List Oper} {o : Oper} {a : Act} {Q : Exit → Act → World → Prop} (hgd : o.guard = none) (s x : Operand) (t : TypeId)
    (ho : o.op = .call { callee := .builtin .append, args := #[s, x], argTypes := #[t, t] })
    (base : Nat) (e : TypeId) (i : TypeInfo) (z : Value) (size bytes : Nat) (ht : P.underlying t = some (.slice e)) (hi : P.info? e = some i) (hz : i.zero = some z)
    (hsize : i.size = size) (hby : i.bytes = bytes) (hzs : z.cells.size = size) (hsz : 0 < size)
    (v : Value) (n : Nat) (xs : List Value) (hs : a.eval s = v) (hown : w.ownsRow base e size v n xs)
    (xa : Option Addr) (m c : Nat) (news : List Value) (hx : a.eval x = .slice xa m c) (hl : news.length = m * size) (hsrc : m = 0 ∨ ∃ ad, xa = some ad ∧ ∀ j u, news[j]? = some u → w.cell? (ad.add j) = some u) (h1 : ∀ u ∈ news, u.oneCell' = true)
    (h63 : n + m ≤ maxLen) (hbytes : (n + m) * bytes ≤ 140737488355328) (hbase : base ≤ w.heap.size)
    (h : ∀ a' c' w', w'.ownsRow base e size (.slice a' (n + m) c') (n + m) (xs ++ news) → w.grownBy w' v.ownBlock → wpList P ops Q rest (a.put o.dst (.slice a' (n + m) c')) w') : wpList P ops Q (o :: rest) a w := by
  obtain ⟨v', w', hr, h2, h3, a', c', rfl⟩ := run_append_any (P := P) w t o.type base e i z size bytes ht hi hz hsize hby hzs hsz v n xs hown xa m c news hl hsrc h1 h63 hbytes hbase
  exact Lib.wpList_append_run w hgd s x t t ho _ _ hs hx _ w' hr (h a' c' w' h2 h3)
end
end Go.Proofs.YtelhnaphkbpakaaDoor

namespace Go.Proofs.YtelhnaphkbpakaaDoor
open Go.RowKit
set_option linter.unusedVariables false
set_option maxRecDepth 100000

def enc16 (us : List Nat) : List Value := us.map fun (u : Nat) => Value.int .u16 (u : Int)
theorem enc16_len (us : List Nat) : (enc16 us).length = us.length := by simp [enc16]
theorem enc16_at {us : List Nat} {i u : Nat} (h : us[i]? = some u) : (enc16 us)[i]? = some (.int .u16 (u : Int)) := by simp [enc16, h]
theorem info79 : (Tryd.prog.info? 128).map (fun i => (i.zero, i.size, i.bytes)) = some (some (.int .u16 0), 1, 2) := by kernel_rfl
theorem addr_add_off (b off j : Nat) : (⟨b, off, none⟩ : Addr).add j = ⟨b, off + j, none⟩ := by unfold Addr.add; split <;> simp_all

theorem Sl16.src {w : World} {a : Option Addr} {us : List Nat} (h : Sl16 w a us) : us.length = 0 ∨ ∃ ad, a = some ad ∧ ∀ j u, (enc16 us)[j]? = some u → w.cell? (ad.add j) = some u := by
  rcases Nat.eq_zero_or_pos us.length with h0 | h0
  · exact .inl h0
  · right
    obtain ⟨u, hu⟩ : ∃ u, us[0]? = some u := ⟨_, List.getElem?_eq_getElem h0⟩
    obtain ⟨_, b, off, rfl, _, _⟩ := h.at_ 0 u hu
    refine ⟨_, rfl, fun j v hj => ?_⟩
    obtain ⟨x, hx, rfl⟩ : ∃ x, us[j]? = some x ∧ v = .int .u16 (x : Int) := by
      simp [enc16, List.getElem?_map, Option.map_eq_some_iff] at hj
      obtain ⟨x, hx, rfl⟩ := hj
      exact ⟨x, hx, rfl⟩
    obtain ⟨_, b', off', e, _, hc⟩ := h.at_ j x hx
    cases e
    rw [addr_add_off]
    exact hc
theorem enc16_one {us : List Nat} : ∀ u ∈ enc16 us, u.oneCell' = true := by
  intro u hu
  obtain ⟨x, _, rfl⟩ := List.mem_map.1 hu
  rfl

/-- A row of one's own holds these units ahead. -/
theorem sl16_of_row {w : World} {base n : Nat} {a : Option Addr} {cap : Nat} {us : List Nat} {more : List Value} {k : Nat} (h : w.ownsRow base 128 1 (.slice a k cap) k (enc16 us ++ more)) (hk : us.length ≤ k) (hb : ∀ u ∈ us, u ≤ 65535) (hl : us.length ≤ 9223372036854775807) : Sl16 w a us :=
  ⟨fun i u hu => by
    have hi : i < us.length := (List.getElem?_eq_some_iff.1 hu).1
    obtain ⟨g, cap', hv, _, hg⟩ := h.form (by omega)
    cases hv
    refine ⟨hb u (List.mem_of_getElem? hu), g, 0, rfl, hg, ?_⟩
    rw [Nat.zero_add]
    exact (h.cellAt i (by omega)).trans (by rw [List.getElem?_append_left (by rw [enc16_len]; exact hi)]; exact enc16_at hu), hl⟩

/-- What lent hands back: a row of the call's own, two units longer. -/
structure Lent (B : Nat) (w : World) (a : Option Addr) (cap : Nat) (us : List Nat) : Prop where
  row : w.ownsRow B 128 1 (.slice a (us.length + 2) cap) (us.length + 2) (enc16 us ++ [.int .u16 56321, .int .u16 7])
  bnd : ∀ u ∈ us, u ≤ 65535
  len : us.length ≤ 1048576
theorem Lent.sl {B : Nat} {w : World} {a : Option Addr} {cap : Nat} {us : List Nat} (h : Lent B w a cap us) : Sl16 w a us := sl16_of_row (n := 0) h.row (by omega) h.bnd (by have := h.len; omega)
theorem Lent.below {B : Nat} {w w' : World} {a : Option Addr} {cap : Nat} {us : List Nat} (h : Lent B w a cap us) (b : Below w.heap.size w w') : Lent B w' a cap us :=
  ⟨(FrT.of_below (T := []) (B := 0) b).row h.row (by simp), h.bnd, h.len⟩
theorem Lent.cap {B : Nat} {w : World} {a : Option Addr} {cap : Nat} {us : List Nat} (h : Lent B w a cap us) : us.length + 2 ≤ cap := by
  rcases h.row.2 with ⟨h', _⟩ | ⟨g, cap', cur, h', _, _, _, h4, _⟩
  · cases h'
  · cases h'; omega

theorem Sl16.bnd {w : World} {a : Option Addr} {us : List Nat} (h : Sl16 w a us) : ∀ u ∈ us, u ≤ 65535 := by
  intro u hu
  obtain ⟨i, hi, rfl⟩ := List.mem_iff_getElem.1 hu
  exact (h.at_ i _ (List.getElem?_eq_getElem hi)).1

end Go.Proofs.YtelhnaphkbpakaaDoor

namespace Go.Proofs.YtelhnaphkbpakaaDoor
open Go.RowKit Go.Shelf
set_option linter.unusedVariables false
set_option maxRecDepth 100000

/-- A code point's units. -/
def unitsOf (c : Nat) : List Nat := if 65535 < c then [55296 + (c - 65536) / 1024, 56320 + (c - 65536) % 1024] else [c]
def fromPc (l : List Pc) : List Nat := l.flatMap fun x => unitsOf x.c

/-- A box, and the units in the row that it holds. -/
structure Box16 (B bx : Nat) (us : List Nat) (w0 w : World) : Prop where
  row : ∃ a cap, w.heap[bx]? = some (.cells #[.slice a us.length cap] 63 (0, 0)) ∧ w.ownsRow B 128 1 (.slice a us.length cap) us.length (enc16 us)
  bnd : ∀ u ∈ us, u ≤ 65535
  bel : Below B w0 w
  le : B ≤ w.heap.size
  bx : B ≤ bx

theorem wraps_i32 (n : Int) (h0 : 0 ≤ n) (h1 : n < 2 ^ 31) : IntKind.i32.wrap n = n := IntWalk.i32_in _ (by simp at h1; omega)
theorem i32_and1023 {x : Int} (h₀ : 0 ≤ x) (h₁ : x < 2147483648) : bits .and .i32 x 1023 = x % 1024 := bits_mask .i32 31 (by decide) wraps_i32 10 (by decide) x h₀ h₁

theorem Box16.push {B bx : Nat} {us vs : List Nat} {w0 w w3 : World} {a : Option Addr} {n cap g c3 m : Nat} {o : Obj} {news : List Value} (h : Box16 B bx us w0 w) (hbx : w.heap[bx]? = some (.cells #[.slice a n cap] 63 (0, 0))) (hrow : w.ownsRow B 128 1 (.slice a n cap) n (enc16 us)) (hn : n = us.length)
    (hown : w3.ownsRow B 128 1 (.slice (some ⟨g, 0, none⟩) (n + m) c3) (n + m) (enc16 us ++ news)) (hgrow : (w.alloc o).grownBy w3 (Value.slice a n cap).ownBlock) (hnews : news = enc16 vs) (hb : ∀ u ∈ vs, u ≤ 65535) (hm : m = vs.length) :
    Box16 B bx (us ++ vs) w0 (w3.setCell ⟨bx, 0, none⟩ (.slice (some ⟨g, 0, none⟩) (n + m) c3)) ∧ KeepsWalks w (w3.setCell ⟨bx, 0, none⟩ (.slice (some ⟨g, 0, none⟩) (n + m) c3)) := by
  subst hn hnews hm
  have hb3 := rwApp hrow hgrow hbx (by decide)
  have f : FrT [128] B w w3 := ((FrT.refl _ _ _).alloc o).append (hrow.alloc o) (Nat.le_refl _) (by simp) hgrow
  have f2 : FrT [128, 63] B w (w3.setCell ⟨bx, 0, none⟩ (.slice (some ⟨g, 0, none⟩) (us.length + vs.length) c3)) := (f.mono (by simp) (Nat.le_refl _)).set h.bx hb3 (by simp) _
  have e : (us ++ vs).length = us.length + vs.length := by simp
  refine ⟨⟨⟨_, _, by rw [e]; exact set_blk hb3 0 _, ?_⟩, ?_, h.bel.trans (f2.below h.le), Nat.le_trans h.le f2.size, h.bx⟩, ?_⟩
  · rw [e, show enc16 (us ++ vs) = enc16 us ++ enc16 vs by simp [enc16]]
    exact rwOther hown hb3 (by decide) 0 _
  · intro u hu
    rcases List.mem_append.1 hu with hu | hu
    · exact h.bnd u hu
    · exact hb u hu
  · refine ((KeepsWalks.alloc w o).trans (KeepsWalks.of_grownBy hgrow ?_)).trans (KeepsWalks.setCell _ _ _)
    intro j x hj hx
    rcases (hrow.alloc o).2 with ⟨hv, _⟩ | ⟨g', cap', cur, hv, _, hg, _⟩
    · rw [hv] at hj; cases hj
    · rw [hv] at hj; cases hj; rw [hg] at hx; cases hx; rfl

end Go.Proofs.YtelhnaphkbpakaaDoor

namespace Go.Proofs.YtelhnaphkbpakaaDoor
open Go.RowKit Go.Shelf
set_option linter.unusedVariables false
set_option maxRecDepth 100000

theorem pcsFrom_mem (s : ByteArray) (p : Nat) : ∀ x ∈ pcsFrom s p, ∃ q, q < s.size ∧ x = pcAt s q := by
  intro x hx
  induction p using pcsFrom.induct s with
  | case1 p h ih =>
    rw [pcsFrom_step s p h] at hx
    rcases List.mem_cons.1 hx with rfl | hx
    · exact ⟨p, h, rfl⟩
    · exact ih hx
  | case2 p h => rw [pcsFrom_end s p h] at hx; cases hx
theorem pcsFrom_len (s : ByteArray) (p : Nat) : (pcsFrom s p).length ≤ s.size - p := by
  induction p using pcsFrom.induct s with
  | case1 p h ih =>
    rw [pcsFrom_step s p h, List.length_cons]
    have := (pcAt_n_bnd s p).1
    omega
  | case2 p h => rw [pcsFrom_end s p h]; simp
theorem pcs_len (s : ByteArray) : (pcs s).length ≤ s.size := by have := pcsFrom_len s 0; simpa [pcs] using this
theorem pcAt_c_le (s : ByteArray) (p : Nat) : (pcAt s p).c ≤ 1114111 := by
  cases h : (pcAt s p).ok with
  | true => have := (pcAt_good s p h).1; omega
  | false => have := (pcAt_bad s p h).1; omega
theorem pcs_c {s : ByteArray} {pre : List Pc} {x : Pc} {rest : List Pc} (h : pcs s = pre ++ x :: rest) : x.c ≤ 1114111 := by
  obtain ⟨q, _, rfl⟩ := pcsFrom_mem s 0 x (by rw [show pcsFrom s 0 = pcs s from rfl, h]; simp)
  exact pcAt_c_le s q
theorem unitsOf_len (c : Nat) : (unitsOf c).length ≤ 2 := by unfold unitsOf; split <;> simp
theorem fromPc_len (l : List Pc) : (fromPc l).length ≤ 2 * l.length := by
  unfold fromPc
  induction l with
  | nil => simp
  | cons x l ih =>
    simp only [List.flatMap_cons, List.length_append, List.length_cons]
    have := unitsOf_len x.c
    omega
theorem pcs_pre {s : ByteArray} {pre : List Pc} {x : Pc} {rest : List Pc} (h : pcs s = pre ++ x :: rest) : (fromPc pre).length ≤ 2 * s.size := by
  have h1 := fromPc_len pre
  have h2 := pcs_len s
  rw [h] at h2
  simp at h2
  omega

theorem rwGrow {w w' : World} {base : Nat} {e : TypeId} {size : Nat} {v : Value} {n : Nat} {xs : List Value} (h : w.ownsRow base e size v n xs) {row : Option Nat} (hg : w.grownBy w' row) (hr : ∀ r, row = some r → ∃ o : Obj, w.heap[r]? = some o ∧ o.isCells = false) : w'.ownsRow base e size v n xs := by
  refine h.kept hg ?_
  rcases h.2 with ⟨rfl, _⟩ | ⟨g, cap, cur, rfl, _, hg', _⟩
  · exact .inl rfl
  · right
    intro e1
    obtain ⟨o, ho, hc⟩ := hr g e1.symm
    rw [hg'] at ho
    cases ho
    cases hc
theorem walk_notCells {o : Obj} (h : o.isWalk = true) : o.isCells = false := by cases o <;> simp_all [Obj.isWalk, Obj.isCells]

theorem Box16.abide {B bx : Nat} {us : List Nat} {w0 w w' : World} (h : Box16 B bx us w0 w) {row : Option Nat} (hg : w.grownBy w' row) (hr : ∀ r, row = some r → B ≤ r ∧ ∃ o : Obj, w.heap[r]? = some o ∧ o.isWalk = true) : Box16 B bx us w0 w' := by
  obtain ⟨a, cap, h1, h2⟩ := h.row
  refine ⟨⟨a, cap, ?_, rwGrow h2 hg (fun r e => by obtain ⟨_, o, ho, hw⟩ := hr r e; exact ⟨o, ho, walk_notCells hw⟩)⟩, h.bnd, h.bel.grown hg h.le (fun r e => (hr r e).1), Nat.le_trans h.le hg.size, h.bx⟩
  refine (hg.block bx (lt_of_some h1) ?_).trans h1
  intro e1
  obtain ⟨_, o, ho, hw⟩ := hr bx e1.symm
  rw [h1] at ho
  cases ho
  cases hw

theorem clip16 (a : Option Addr) (n cap : Nat) (hn : n ≤ cap) (hm : cap ≤ 9223372036854775807) (w : World) :
    Calls Tryd.prog 111 #[.slice a n cap] w fun e w' => e = .returned (.slice a n n) ∧ w = w' := by
  have p1 : (n : Int) ≤ (cap : Int) := by omega
  go_enter Tryd.func111, Tryd.ntmps111
  go_wp2
  go_ret
  exact ⟨rfl, rfl⟩

/-- What From hands back: a row of the call's own; its slice has no room behind it. -/
structure Clip16 (B : Nat) (w : World) (a : Option Addr) (us : List Nat) : Prop where
  row : ∃ cap, w.ownsRow B 128 1 (.slice a us.length cap) us.length (enc16 us)
  bnd : ∀ u ∈ us, u ≤ 65535
  len : us.length ≤ 9223372036854775807
theorem Clip16.sl {B : Nat} {w : World} {a : Option Addr} {us : List Nat} (h : Clip16 B w a us) : Sl16 w a us := by
  obtain ⟨cap, hr⟩ := h.row
  exact sl16_of_row (more := []) (n := 0) (by simpa using hr) (Nat.le_refl _) h.bnd h.len

end Go.Proofs.YtelhnaphkbpakaaDoor

