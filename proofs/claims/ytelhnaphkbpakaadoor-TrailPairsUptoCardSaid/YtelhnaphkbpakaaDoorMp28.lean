/- Part 28 of the proof of TpP: lemmas. -/
import Derived.Deep.LoopGhost
import Derived.Outline
import Derived.Deep.DeepMust
import Derived.Test.YtelhnaphkbpakaaDoorMp27
namespace Go.Proofs.YtelhnaphkbpakaaDoor
open Go.RowKit
set_option linter.unusedVariables false
structure TA (α : Type) where
  S : Nat
  G : Nat
  all : List (Nat × Bool × α)
  free : List Nat
  count : Nat
  ret : Nat
def TA.ar {α : Type} (enc : α → List Value) (T : TA α) : Ar := { S := T.S, G := T.G, all := T.all.map fun s => (s.1, s.2.1, enc s.2.2), free := T.free, count := T.count, ret := T.ret }
def TA.new {α : Type} (S G : Nat) : TA α := { S, G, all := [], free := [], count := 0, ret := 0 }
def slotWho {α : Type} (o : Option (Nat × Bool × α)) (g : Nat) : Option α :=
  match o with
  | some (g', true, x) => if g' = g then some x else none
  | _ => none
@[simp] theorem slotWho_true {α : Type} (g' g : Nat) (x : α) : slotWho (some (g', true, x)) g = if g' = g then some x else none := rfl
def TA.at {α : Type} (T : TA α) (s g : Nat) : Option α := if s = 0 then none else slotWho T.all[s - 1]? g
theorem TA.at_eq {α : Type} (T : TA α) {s g : Nat} (h : 1 ≤ s) : T.at s g = slotWho T.all[s - 1]? g := by unfold TA.at; rw [if_neg (by omega)]
def TA.alloc {α : Type} (T : TA α) (x : α) : TA α × Nat × Nat × Nat :=
  match T.free.getLast? with
  | some k =>
    match T.all[k]? with
    | some (g, _, _) => ({ T with all := T.all.set k (g + 1, true, x), free := T.free.dropLast, count := T.count + 1 }, k + 1, g + 1, 0)
    | none => (T, 0, 0, 52)
  | none => if T.all.length < T.S then ({ T with all := T.all ++ [(1, true, x)], count := T.count + 1 }, T.all.length + 1, 1, 0) else (T, 0, 0, 52)
def TA.drop {α : Type} (T : TA α) (z : α) (s g : Nat) : TA α × Nat :=
  match T.at s g with
  | some _ =>
    if g < T.G then ({ T with all := T.all.set (s - 1) (g, false, z), free := T.free ++ [s - 1], count := T.count - 1 }, 0)
    else ({ T with all := T.all.set (s - 1) (g, false, z), count := T.count - 1, ret := T.ret + 1 }, 0)
  | none => (T, 51)
def TA.get {α : Type} (T : TA α) (z : α) (s g : Nat) : α × Nat := match T.at s g with | some x => (x, 0) | none => (z, 51)
theorem TA.at_some {α : Type} {T : TA α} {s g : Nat} {x : α} (h : T.at s g = some x) : 1 ≤ s ∧ T.all[s - 1]? = some (g, true, x) := by
  unfold TA.at at h
  split at h
  · cases h
  · refine ⟨by omega, ?_⟩
    cases hk : T.all[s - 1]? with
    | none => rw [hk] at h; cases h
    | some y =>
      obtain ⟨g', u, y⟩ := y
      rw [hk] at h
      cases u
      · cases h
      · simp only [slotWho_true] at h
        split at h
        · rename_i he; cases h; rw [he]
        · cases h
theorem TA.at_none {α : Type} {enc : α → List Value} {T : TA α} {s g : Nat} (h : T.at s g = none) : (T.ar enc).live s g = false := by
  cases hl : (T.ar enc).live s g with
  | false => rfl
  | true =>
    obtain ⟨h1, t, ht⟩ := Ar.live_iff.1 hl
    simp only [TA.ar, List.getElem?_map, Option.map_eq_some_iff] at ht
    obtain ⟨⟨g', u, x⟩, h2, h3⟩ := ht
    simp only [Prod.mk.injEq] at h3
    obtain ⟨rfl, rfl, _⟩ := h3
    rw [TA.at_eq _ h1, h2] at h
    simp at h
theorem TA.ar_set {α : Type} (enc : α → List Value) (T : TA α) (k : Nat) (g : Nat) (u : Bool) (x : α) (free : List Nat) (c r : Nat) :
    TA.ar enc { T with all := T.all.set k (g, u, x), free := free, count := c, ret := r } = { T.ar enc with all := (T.ar enc).all.set k (g, u, enc x), free := free, count := c, ret := r } := by
  simp [TA.ar, List.map_set]
theorem TA.ar_get {α : Type} {enc : α → List Value} {T : TA α} {k g : Nat} {u : Bool} {x : α} (h : T.all[k]? = some (g, u, x)) : (T.ar enc).all[k]? = some (g, u, enc x) := by simp [TA.ar, h]
def ArOf {α : Type} (enc : α → List Value) (tA tS tF m B : Nat) (Q : Nat → Prop) (w : World) (ab : Nat) (T : TA α) : Prop := ∃ av fv, ArAt tA tS tF m B w ab (T.ar enc) av fv ∧ ∀ k, arQ ab av fv k → Q k
theorem ArOf.kept {α : Type} {enc : α → List Value} {tA tS tF m B : Nat} {Q : Nat → Prop} {w w' : World} {ab : Nat} {T : TA α} (h : ArOf enc tA tS tF m B Q w ab T) {L : List TypeId} {Q' : Nat → Prop} (hf : FrG L Q' w w') (h1 : tA ∉ L) (h2 : tS ∉ L) (h3 : tF ∉ L) : ArOf enc tA tS tF m B Q w' ab T :=
  let ⟨av, fv, h, q⟩ := h; ⟨av, fv, ⟨h.ok, h.base, hf.blk h.blk h1, hf.row h.rowA h2, hf.row h.rowF h3⟩, q⟩
theorem ArOf.keptQ {α : Type} {enc : α → List Value} {tA tS tF m B : Nat} {Q : Nat → Prop} {w w' : World} {ab : Nat} {T : TA α} (h : ArOf enc tA tS tF m B Q w ab T) {L : List TypeId} {Q' : Nat → Prop} (hf : FrG L Q' w w') (hq : ∀ k, Q k → ¬ Q' k) : ArOf enc tA tS tF m B Q w' ab T :=
  let ⟨av, fv, h, q⟩ := h; ⟨av, fv, ⟨h.ok, h.base, hf.blkQ h.blk (hq _ (q _ (.inl rfl))), hf.rowQ h.rowA (fun k hk => hq _ (q _ (.inr (.inl hk)))), hf.rowQ h.rowF (fun k hk => hq _ (q _ (.inr (.inr hk))))⟩, q⟩
theorem ArOf.mono {α : Type} {enc : α → List Value} {tA tS tF m B : Nat} {Q Q' : Nat → Prop} {w : World} {ab : Nat} {T : TA α} (h : ArOf enc tA tS tF m B Q w ab T) (hq : ∀ k, Q k → Q' k) : ArOf enc tA tS tF m B Q' w ab T :=
  let ⟨av, fv, h, q⟩ := h; ⟨av, fv, h, fun k hk => hq k (q k hk)⟩
theorem ArOf.below {α : Type} {enc : α → List Value} {tA tS tF m B : Nat} {Q : Nat → Prop} {w w' : World} {ab : Nat} {T : TA α} (h : ArOf enc tA tS tF m B Q w ab T) (hf : Below w.heap.size w w') : ArOf enc tA tS tF m B Q w' ab T :=
  let ⟨av, fv, h, q⟩ := h; ⟨av, fv, h.below hf, q⟩
theorem ArOf.lt {α : Type} {enc : α → List Value} {tA tS tF m B : Nat} {Q : Nat → Prop} {w : World} {ab : Nat} {T : TA α} (h : ArOf enc tA tS tF m B Q w ab T) : ab < w.heap.size := let ⟨_, _, h, _⟩ := h; lt_of_some h.blk
theorem ArOf.ok {α : Type} {enc : α → List Value} {tA tS tF m B : Nat} {Q : Nat → Prop} {w : World} {ab : Nat} {T : TA α} (h : ArOf enc tA tS tF m B Q w ab T) : (T.ar enc).Ok m := let ⟨_, _, h, _⟩ := h; h.ok
theorem ArOf.after {α : Type} {enc : α → List Value} {tA tS tF m B : Nat} {Q : Nat → Prop} {w w' : World} {ab : Nat} {T' : TA α} {av fv av' fv' : Value} (hQ : ∀ k, arQ ab av fv k → Q k) (h : ArAt tA tS tF m B w' ab (T'.ar enc) av' fv') (f : ArFr tA tS tF (arQ ab av fv) w w' av' fv') :
    ArOf enc tA tS tF m B (fun k => Q k ∨ w.heap.size ≤ k ∧ k < w'.heap.size) w' ab T' ∧ FrG [tA, tS, tF] Q w w' := by
  refine ⟨⟨av', fv', h, fun k hk => ?_⟩, f.fr.mono (fun _ h => h) hQ⟩
  rcases hk with rfl | hk | hk
  · exact .inl (hQ _ (.inl rfl))
  · rcases f.qA k hk with h1 | h1
    · exact .inl (hQ _ h1)
    · exact .inr ⟨h1, h.rowA.lt k hk |>.2⟩
  · rcases f.qF k hk with h1 | h1
    · exact .inl (hQ _ h1)
    · exact .inr ⟨h1, h.rowF.lt k hk |>.2⟩
theorem ArAt.head {tA tS tF m B : Nat} {w : World} {ab : Nat} {A : Ar} {av fv : Value} (h : ArAt tA tS tF m B w ab A av fv) {k : Nat} {s : Nat × Bool × List Value} (hk : A.all[k]? = some s) : ∃ gb cap, av = .slice (some ⟨gb, 0, none⟩) A.all.length cap := by
  have hl : k < A.all.length := (List.getElem?_eq_some_iff.1 hk).1
  rcases h.rowA.2 with ⟨_, hn⟩ | ⟨gb, cap, cur, rfl, _⟩
  · omega
  · exact ⟨gb, cap, rfl⟩
def encN : (Option Addr) → List Value := fun x => [(.pointer x)]
abbrev ArNOf (B : Nat) (Q : Nat → Prop) (w : World) (ab : Nat) (T : TA (Option Addr)) : Prop := ArOf encN 145 150 29 1 B Q w ab T
theorem arNTop_new (S G : Nat) (B : Nat) (w : World) (hB : B ≤ w.heap.size) (h1 : 1 ≤ S) (h2 : S ≤ 2147483647) (h3 : 1 ≤ G) (h4 : G ≤ 4294967295) :
    Calls Tryd.prog 66 #[.int .i64 (S : Int), .int .i64 (G : Int)] w fun e w' => e = .returned (.tuple #[.pointer (some ⟨w.heap.size, 0, none⟩), .int .i64 0]) ∧
      ArNOf B (fun k => w.heap.size ≤ k ∧ k < w'.heap.size) w' w.heap.size (TA.new S G) ∧ Below w.heap.size w w' :=
  (arN_new S G B w hB h1 h2 h3 h4).mono fun e w' ⟨he, ha, hb⟩ => ⟨he, ⟨_, _, ha, fun k hk => by rcases hk with rfl | hk | hk; exact ⟨Nat.le_refl _, lt_of_some ha.blk⟩; cases hk; cases hk⟩, hb⟩
theorem arNTop_get {B : Nat} {Q : Nat → Prop} {w : World} {ab : Nat} {T : TA (Option Addr)} (h : ArNOf B Q w ab T) (s g : Nat) (hs : s ≤ 4294967295) (hg : g ≤ 4294967295) :
    Calls Tryd.prog 76 #[.pointer (some ⟨ab, 0, none⟩), .agg #[.int .u32 (s : Int), .int .u32 (g : Int)]] w fun e w' => (∀ x, x = (T.get (none : Option Addr) s g).1 → e = .returned (.tuple #[(.pointer x), .int .i64 ((T.get (none : Option Addr) s g).2 : Int)])) ∧ Below w.heap.size w w' := by
  obtain ⟨av, fv, h, hq⟩ := h
  cases ha : T.at s g with
  | none =>
    refine (arN_get_dead h s g hs hg (TA.at_none ha)).mono ?_
    rintro e w' ⟨rfl, hb⟩
    exact ⟨by rintro x rfl; simp [TA.get, ha], hb⟩
  | some x =>
    obtain ⟨h1, h2⟩ := TA.at_some ha
    obtain ⟨k, rfl⟩ : ∃ k, s = k + 1 := ⟨s - 1, by omega⟩
    rw [Nat.add_sub_cancel] at h2
    have h3 := TA.ar_get (enc := encN) h2
    obtain ⟨gb, cap, rfl⟩ := h.head h3
    rw [show ((k + 1 : Nat) : Int) = (k : Int) + 1 by omega]
    refine (arN_get_live h k g _ h3).mono ?_
    rintro e w' ⟨rfl, hb⟩
    exact ⟨by rintro y rfl; simp [TA.get, ha], hb⟩
theorem arNTop_free {B : Nat} {Q : Nat → Prop} {w : World} {ab : Nat} {T : TA (Option Addr)} (h : ArNOf B Q w ab T) (s g : Nat) (hs : s ≤ 4294967295) (hg : g ≤ 4294967295) :
    Calls Tryd.prog 103 #[.pointer (some ⟨ab, 0, none⟩), .agg #[.int .u32 (s : Int), .int .u32 (g : Int)]] w fun e w' => e = .returned (.int .i64 ((T.drop (none : Option Addr) s g).2 : Int)) ∧ ArNOf B (fun k => Q k ∨ w.heap.size ≤ k ∧ k < w'.heap.size) w' ab (T.drop (none : Option Addr) s g).1 ∧ FrG [145, 150, 29] Q w w' := by
  obtain ⟨av, fv, h, hq⟩ := h
  cases ha : T.at s g with
  | none =>
    refine (arN_free_dead h s g hs hg (TA.at_none ha)).mono ?_
    rintro e w' ⟨rfl, hb⟩
    simp only [TA.drop, ha]
    exact ⟨rfl, ⟨_, _, h.below hb, fun k hk => .inl (hq k hk)⟩, FrG.of_below hb⟩
  | some y =>
    obtain ⟨h1, h2⟩ := TA.at_some ha
    obtain ⟨k, rfl⟩ : ∃ k, s = k + 1 := ⟨s - 1, by omega⟩
    rw [Nat.add_sub_cancel] at h2
    have h3 := TA.ar_get (enc := encN) h2
    obtain ⟨gb, cap, rfl⟩ := h.head h3
    rw [show ((k + 1 : Nat) : Int) = (k : Int) + 1 by omega]
    by_cases hr : g < T.G
    · refine (arN_free_room h k g _ h3 hr).mono ?_
      rintro e w' ⟨fv', rfl, hb, hf⟩
      simp only [TA.drop, ha, Nat.add_sub_cancel, hr, if_true]
      exact ⟨rfl, ArOf.after hq (by have e := TA.ar_set encN T k g false (none : Option Addr) (T.free ++ [k]) (T.count - 1) T.ret; rw [e]; exact hb) hf⟩
    · refine (arN_free_last h k g _ h3 (Nat.le_of_not_lt hr)).mono ?_
      rintro e w' ⟨rfl, hb, hf⟩
      simp only [TA.drop, ha, Nat.add_sub_cancel, hr, if_false]
      exact ⟨rfl, ArOf.after hq (by have e := TA.ar_set encN T k g false (none : Option Addr) T.free (T.count - 1) (T.ret + 1); rw [e]; exact hb) hf⟩
theorem arNTop_alloc {B : Nat} {Q : Nat → Prop} {w : World} {ab : Nat} {T : TA (Option Addr)} (h : ArNOf B Q w ab T) (x : Option Addr) :
    Calls Tryd.prog 68 #[.pointer (some ⟨ab, 0, none⟩), (.pointer x)] w fun e w' => e = .returned (.tuple #[.agg #[.int .u32 ((T.alloc x).2.1 : Int), .int .u32 ((T.alloc x).2.2.1 : Int)], .int .i64 ((T.alloc x).2.2.2 : Int)]) ∧ ArNOf B (fun k => Q k ∨ w.heap.size ≤ k ∧ k < w'.heap.size) w' ab (T.alloc x).1 ∧ FrG [145, 150, 29] Q w w' := by
  obtain ⟨av, fv, h, hq⟩ := h
  cases hg : T.free.getLast? with
  | none =>
    have hf : T.free = [] := by simpa using hg
    by_cases hl : T.all.length < T.S
    · refine (arN_alloc_grow h x hf (by simpa [TA.ar] using hl)).mono ?_
      rintro e w' ⟨av', rfl, hb, hfr⟩
      simp only [TA.alloc, hg, hl, if_true]
      refine ⟨by simp [TA.ar], ArOf.after hq ?_ hfr⟩
      have e : TA.ar encN { T with all := T.all ++ [(1, true, x)], count := T.count + 1 } = { TA.ar encN T with all := (TA.ar encN T).all ++ [(1, true, encN x)], count := T.count + 1 } := by simp [TA.ar]
      rw [e]; exact hb
    · refine (arN_alloc_full h x hf (by simpa [TA.ar] using hl)).mono ?_
      rintro e w' ⟨rfl, hb⟩
      simp only [TA.alloc, hg, hl, if_false]
      exact ⟨rfl, ⟨_, _, h.below hb, fun k hk => .inl (hq k hk)⟩, FrG.of_below hb⟩
  | some k =>
    obtain ⟨l, hf⟩ : ∃ l, T.free = l ++ [k] := by
      obtain ⟨hne, he⟩ := List.getLast?_eq_some_iff.1 hg
      exact ⟨_, he⟩
    have hkf : k ∈ T.free := by rw [hf]; simp
    obtain ⟨g, t, h1, h2⟩ := h.ok.free k hkf
    have h1' := h1
    simp only [TA.ar, List.getElem?_map, Option.map_eq_some_iff] at h1
    obtain ⟨⟨g', u, y⟩, h3, h4⟩ := h1
    simp only [Prod.mk.injEq] at h4
    obtain ⟨rfl, rfl, rfl⟩ := h4
    obtain ⟨gb, cap, rfl⟩ := h.head h1'
    refine (arN_alloc_reuse h x (l := l) hf h1' h2).mono ?_
    rintro e w' ⟨fv', rfl, hb, hfr⟩
    simp only [TA.alloc, hg, h3]
    refine ⟨rfl, ArOf.after hq ?_ hfr⟩
    have hd : T.free.dropLast = l := by rw [hf]; simp
    have e := TA.ar_set encN T k (g' + 1) true x T.free.dropLast (T.count + 1) T.ret
    rw [e, hd]; exact hb
end Go.Proofs.YtelhnaphkbpakaaDoor
namespace Go.Proofs.YtelhnaphkbpakaaDoor
open Go.RowKit
set_option linter.unusedVariables false
set_option maxRecDepth 100000
structure TX where
  F : For
  M : List (Nat × Nd)
  T : TA (Option Addr)
  ab : Nat
  hv : Value
  fv : Value
def toH (F : For) (k j : Nat) : Nat × Nat := hd F (lkO F k j)
def ncells (P : Nd) (f : Nat → Nat × Nat) (b : Nat) : Array Value :=
  #[.int .i64 P.kind, .string P.name, .slice P.da P.data.length P.dc, .slice P.aa P.L.length P.ac, .int .u32 P.slot, .int .u32 P.gen,
    .int .u32 ((f 0).1 : Int), .int .u32 ((f 0).2 : Int), .int .u32 ((f 1).1 : Int), .int .u32 ((f 1).2 : Int), .int .u32 ((f 2).1 : Int), .int .u32 ((f 2).2 : Int),
    .int .u32 ((f 3).1 : Int), .int .u32 ((f 3).2 : Int), .int .u32 ((f 4).1 : Int), .int .u32 ((f 4).2 : Int), .int .u64 (b : Int)]
def updF (f : Nat → Nat × Nat) (j : Nat) (p : Nat × Nat) : Nat → Nat × Nat := fun j' => if j' = j then p else f j'
def updH (L : Nat → Nat → Nat × Nat) (k j : Nat) (p : Nat × Nat) : Nat → Nat → Nat × Nat := fun k' j' => if k' = k ∧ j' = j then p else L k' j'
theorem updH_same (L : Nat → Nat → Nat × Nat) (k j : Nat) (p : Nat × Nat) : updH L k j p k = updF (L k) j p := by funext j'; simp [updH, updF]
theorem updH_other {L : Nat → Nat → Nat × Nat} {k j : Nat} (p : Nat × Nat) {m : Nat} (h : m ≠ k) : updH L k j p m = L m := by funext j'; simp [updH, h]
theorem hd_updO (F : For) (L : Nat → Nat → Option Nat) (k j : Nat) (o : Option Nat) (k' j' : Nat) : hd F (updO L k j o k' j') = updH (fun a b => hd F (L a b)) k j (hd F o) k' j' := by
  unfold updO updH; split <;> rfl
theorem ncells_set (P : Nd) (f : Nat → Nat × Nat) (b j : Nat) (hj : j < 5) (p : Nat × Nat) :
    ((ncells P f b).setIfInBounds (6 + j * 2) (.int .u32 (p.1 : Int))).setIfInBounds (6 + j * 2 + 1) (.int .u32 (p.2 : Int)) = ncells P (updF f j p) b := by
  match j, hj with
  | 0, _ => rfl
  | 1, _ => rfl
  | 2, _ => rfl
  | 3, _ => rfl
  | 4, _ => rfl
theorem ncells_at (P : Nd) (f : Nat → Nat × Nat) (b j : Nat) (hj : j < 5) : (ncells P f b)[6 + j * 2]? = some (.int .u32 ((f j).1 : Int)) ∧ (ncells P f b)[6 + j * 2 + 1]? = some (.int .u32 ((f j).2 : Int)) := by
  match j, hj with
  | 0, _ => exact ⟨rfl, rfl⟩
  | 1, _ => exact ⟨rfl, rfl⟩
  | 2, _ => exact ⟨rfl, rfl⟩
  | 3, _ => exact ⟨rfl, rfl⟩
  | 4, _ => exact ⟨rfl, rfl⟩
structure TreeRw (B : Nat) (Q : Nat → Prop) (w : World) (tb : Nat) (X : TX) (Lf : Nat → Nat → Nat × Nat) : Prop where
  lenM : X.M.length = X.F.length
  few : X.T.all.length ≤ X.F.length
  big : X.F.length ≤ 1099511627776
  ar : ∃ Qa, ArNOf B Qa w X.ab X.T ∧ (∀ k, Qa k → Q k ∧ k < w.heap.size) ∧ ∀ k, X.hv.ownBlock = some k → ¬ Qa k
  own : Q tb ∧ B ≤ tb
  blk : w.heap[tb]? = some (.cells #[.pointer (some ⟨X.ab, 0, none⟩), .int .u64 (X.F.length : Int), .int .i64 (X.T.S : Int), .int .i64 (X.T.G : Int), X.hv, X.fv] 112 (0, 0))
  had : (∃ hc, w.ownsRow B 29 1 X.hv X.T.all.length hc) ∧ ∀ k, X.hv.ownBlock = some k → Q k
  fre : (∃ fc, w.ownsRow B 31 2 X.fv X.T.free.length fc) ∧ ∀ k, X.fv.ownBlock = some k → Q k
  slot : ∀ (k : Nat) (x : FN), X.F[k]? = some x → x.live = true → 1 ≤ x.sl ∧ ∃ nb P, X.M[k]? = some (nb, P) ∧ X.T.all[x.sl - 1]? = some (x.gn, true, some ⟨nb, 0, none⟩)
  used : ∀ (s g : Nat) p, X.T.all[s]? = some (g, true, p) → ∃ (k : Nat) (x : FN), X.F[k]? = some x ∧ x.live = true ∧ x.sl = s + 1 ∧ x.gn = g
  node : ∀ (k : Nat) (x : FN) nb P, X.F[k]? = some x → x.live = true → X.M[k]? = some (nb, P) → B ≤ nb ∧ Q nb ∧ w.heap[nb]? = some (.cells (ncells P (Lf k) (k + 1)) 120 (0, 0)) ∧ Fresh B w P
  nbd : (X.M.map Prod.fst).Nodup
  nbl : ∀ p ∈ X.M, p.1 < w.heap.size
structure TreeAt (B : Nat) (Q : Nat → Prop) (w : World) (tb : Nat) (X : TX) : Prop where
  fok : FOk X.F
  rw : TreeRw B Q w tb X (toH X.F)
section
variable {B : Nat} {Q : Nat → Prop} {w w' : World} {tb : Nat} {X : TX} {Lf : Nat → Nat → Nat × Nat}
theorem Fresh.frg {B : Nat} {w w' : World} {N : Nd} {T : List TypeId} {Q : Nat → Prop} (h : Fresh B w N) (f : FrG T Q w w') (h1 : 128 ∉ T) (h2 : 114 ∉ T) : Fresh B w' N :=
  ⟨⟨by obtain ⟨cap, hr⟩ := h.data.row; exact ⟨cap, f.row hr h1⟩, h.data.bnd, h.data.len⟩, h.dc, ⟨by obtain ⟨cap, hr⟩ := h.attrs.row; exact ⟨cap, f.row hr h2⟩, fun x hx => ⟨⟨by obtain ⟨cap, hr⟩ := (h.attrs.val x hx).1.row; exact ⟨cap, f.row hr h1⟩, (h.attrs.val x hx).1.bnd, (h.attrs.val x hx).1.len⟩, (h.attrs.val x hx).2⟩, h.attrs.nam⟩, h.ac, h.nam, h.len⟩
theorem TreeRw.below (h : TreeRw B Q w tb X Lf) (b : Below w.heap.size w w') : TreeRw B Q w' tb X Lf := by
  have f : FrG [] (fun _ => False) w w' := FrG.of_below b
  refine ⟨h.lenM, h.few, h.big, ?_, h.own, f.blk h.blk (by simp), ⟨?_, h.had.2⟩, ⟨?_, h.fre.2⟩, h.slot, h.used, ?_, h.nbd, fun p hp => Nat.lt_of_lt_of_le (h.nbl p hp) b.size⟩
  · obtain ⟨Qa, h1, h2, h3⟩ := h.ar; exact ⟨Qa, h1.below b, fun k hk => ⟨(h2 k hk).1, Nat.lt_of_lt_of_le (h2 k hk).2 b.size⟩, h3⟩
  · obtain ⟨hc, h1⟩ := h.had.1; exact ⟨hc, f.row h1 (by simp)⟩
  · obtain ⟨hc, h1⟩ := h.fre.1; exact ⟨hc, f.row h1 (by simp)⟩
  · intro k x nb P h1 h2 h3
    obtain ⟨a1, a2, a3, a4⟩ := h.node k x nb P h1 h2 h3
    exact ⟨a1, a2, f.blk a3 (by simp), a4.frg f (by simp) (by simp)⟩
theorem TreeAt.below (h : TreeAt B Q w tb X) (b : Below w.heap.size w w') : TreeAt B Q w' tb X := ⟨h.fok, h.rw.below b⟩
theorem TreeRw.mono {Q' : Nat → Prop} (h : TreeRw B Q w tb X Lf) (hQ : ∀ k, Q k → Q' k) : TreeRw B Q' w tb X Lf :=
  ⟨h.lenM, h.few, h.big, by obtain ⟨Qa, h1, h2, h3⟩ := h.ar; exact ⟨Qa, h1, fun k hk => ⟨hQ k (h2 k hk).1, (h2 k hk).2⟩, h3⟩, ⟨hQ _ h.own.1, h.own.2⟩, h.blk, ⟨h.had.1, fun k hk => hQ k (h.had.2 k hk)⟩, ⟨h.fre.1, fun k hk => hQ k (h.fre.2 k hk)⟩, h.slot, h.used,
    fun k x nb P h1 h2 h3 => by obtain ⟨a1, a2, a3, a4⟩ := h.node k x nb P h1 h2 h3; exact ⟨a1, hQ _ a2, a3, a4⟩, h.nbd, h.nbl⟩
theorem TreeRw.at_live (h : TreeRw B Q w tb X Lf) {k : Nat} {x : FN} (hx : X.F[k]? = some x) (hl : x.live = true) : ∃ nb P, X.M[k]? = some (nb, P) ∧ X.T.at x.sl x.gn = some (some ⟨nb, 0, none⟩) ∧ 1 ≤ x.sl ∧ x.sl ≤ 2147483647 ∧ x.gn ≤ 4294967295 := by
  obtain ⟨h1, nb, P, h2, h3⟩ := h.slot k x hx hl
  refine ⟨nb, P, h2, ?_, h1, ?_⟩
  · unfold TA.at
    rw [if_neg (by omega), h3]
    simp [slotWho]
  · obtain ⟨Qa, ⟨av, fv, ha, _⟩, _⟩ := h.ar
    have e := TA.ar_get (enc := encN) h3
    obtain ⟨b1, b2, b3, b4⟩ := u32_bound ha.ok e
    omega
def NoH (F : For) (s g : Nat) : Prop := ∀ (k : Nat) (x : FN), F[k]? = some x → x.live = true → x.sl = s → x.gn = g → False
theorem TreeRw.at_dead (h : TreeRw B Q w tb X Lf) {s g : Nat} (hn : NoH X.F s g) : X.T.at s g = none := by
  cases e : X.T.at s g with
  | none => rfl
  | some p =>
    obtain ⟨h1, h2⟩ := TA.at_some e
    obtain ⟨k, x, a1, a2, a3, a4⟩ := h.used _ _ _ h2
    exact (hn k x a1 a2 (by omega) a4).elim
theorem TreeRw.no_zero (h : TreeRw B Q w tb X Lf) (g : Nat) : NoH X.F 0 g := fun k x hx hl e _ => by have := (h.slot k x hx hl).1; omega
theorem TreeRw.hinj (h : TreeRw B Q w tb X Lf) {k m : Nat} {x y : FN} (hx : X.F[k]? = some x) (hy : X.F[m]? = some y) (hxl : x.live = true) (hyl : y.live = true) (e : x.sl = y.sl) : k = m := by
  obtain ⟨_, nb, P, h1, h2⟩ := h.slot k x hx hxl
  obtain ⟨_, nb', P', h3, h4⟩ := h.slot m y hy hyl
  rw [e, h4] at h2
  simp at h2
  have h5 : (X.M.map Prod.fst)[k]? = (X.M.map Prod.fst)[m]? := by rw [List.getElem?_map, List.getElem?_map, h1, h3]; simp [h2.2]
  have hk : k < (X.M.map Prod.fst).length := by rw [List.length_map]; exact (List.getElem?_eq_some_iff.1 h1).1
  have hm : m < (X.M.map Prod.fst).length := by rw [List.length_map]; exact (List.getElem?_eq_some_iff.1 h3).1
  rw [List.getElem?_eq_getElem hk, List.getElem?_eq_getElem hm] at h5
  exact (List.getElem_inj h.nbd).1 (Option.some.inj h5)
theorem TreeRw.get_live (h : TreeRw B Q w tb X Lf) {k : Nat} {x : FN} (hx : X.F[k]? = some x) (hl : x.live = true) {nb : Nat} {P : Nd} (hm : X.M[k]? = some (nb, P)) :
    Calls Tryd.prog 76 #[.pointer (some ⟨X.ab, 0, none⟩), .agg #[.int .u32 (x.sl : Int), .int .u32 (x.gn : Int)]] w fun e w' => e = .returned (.tuple #[.pointer (some ⟨nb, 0, none⟩), .int .i64 0]) ∧ Below w.heap.size w w' := by
  obtain ⟨nb', P', h1, h2, h3, h4, h5⟩ := h.at_live hx hl
  rw [hm] at h1
  cases h1
  obtain ⟨Qa, ha, _⟩ := h.ar
  refine (arNTop_get ha x.sl x.gn (by omega) (by omega)).mono ?_
  rintro e w' ⟨he, hb⟩
  have e1 : X.T.get (none : Option Addr) x.sl x.gn = (some ⟨nb, 0, none⟩, 0) := by unfold TA.get; rw [h2]
  rw [e1] at he
  exact ⟨he _ rfl, hb⟩
theorem TreeRw.get_dead (h : TreeRw B Q w tb X Lf) {s g : Nat} (hs : s ≤ 4294967295) (hg : g ≤ 4294967295) (hn : NoH X.F s g) :
    Calls Tryd.prog 76 #[.pointer (some ⟨X.ab, 0, none⟩), .agg #[.int .u32 (s : Int), .int .u32 (g : Int)]] w fun e w' => e = .returned (.tuple #[.pointer none, .int .i64 51]) ∧ Below w.heap.size w w' := by
  obtain ⟨Qa, ha, _⟩ := h.ar
  refine (arNTop_get ha s g hs hg).mono ?_
  rintro e w' ⟨he, hb⟩
  have e1 : X.T.get (none : Option Addr) s g = (none, 51) := by unfold TA.get; rw [h.at_dead hn]
  rw [e1] at he
  exact ⟨he _ rfl, hb⟩
end
end Go.Proofs.YtelhnaphkbpakaaDoor
namespace Go.Proofs.YtelhnaphkbpakaaDoor
set_option linter.unusedVariables false
section
variable {α β : Type} {f : α → List β} {k : Nat}
theorem fl_at (hf : ∀ a, (f a).length = k) {l : List α} {i : Nat} {a : α} (h : l[i]? = some a) (j : Nat) (hj : j < k) : (l.flatMap f)[i * k + j]? = (f a)[j]? := by
  induction l generalizing i with
  | nil => simp at h
  | cons x l ih =>
    rw [List.flatMap_cons]
    cases i with
    | zero =>
      simp at h; subst h
      rw [List.getElem?_append_left (by rw [hf]; omega)]; simp
    | succ i =>
      rw [List.getElem?_append_right (by rw [hf, Nat.add_mul]; omega), hf, show (i + 1) * k + j - k = i * k + j by rw [Nat.add_mul]; omega]
      exact ih (by simpa using h)
theorem fl_set (hf : ∀ a, (f a).length = k) {l : List α} {i : Nat} {a a' : α} (h : l[i]? = some a) (j : Nat) (hj : j < k) {v : β} (hs : f a' = (f a).set j v) : (l.set i a').flatMap f = (l.flatMap f).set (i * k + j) v := by
  induction l generalizing i with
  | nil => simp at h
  | cons x l ih =>
    cases i with
    | zero =>
      simp at h; subst h
      rw [List.set_cons_zero, List.flatMap_cons, List.flatMap_cons, hs, List.set_append_left _ _ (by rw [hf]; omega)]; simp
    | succ i =>
      rw [List.set_cons_succ, List.flatMap_cons, List.flatMap_cons, ih (by simpa using h), List.set_append_right _ _ (by rw [hf, Nat.add_mul]; omega), hf, show (i + 1) * k + j - k = i * k + j by rw [Nat.add_mul]; omega]
theorem fl_lt {i j n : Nat} (hi : i < n) (hj : j < k) : i * k + j < n * k := by
  have := Nat.mul_le_mul_right k (show i + 1 ≤ n from hi)
  rw [Nat.add_mul] at this; omega
end
end Go.Proofs.YtelhnaphkbpakaaDoor
namespace Go.Proofs.YtelhnaphkbpakaaDoor
open Go.RowKit
set_option linter.unusedVariables false
set_option maxRecDepth 100000
abbrev RN := FN × Nd × Value
def upI (o : Option Nat) : Int := match o with | none => -1 | some u => (u : Int)
def icells (l : List Nat) : List Value := l.map fun (j : Nat) => Value.int .i64 (j : Int)
def rcells (r : RN) : List Value :=
  [.int .u32 (r.1.sl : Int), .int .u32 (r.1.gn : Int), .int .i64 r.2.1.kind, .string r.2.1.name, .slice r.2.1.da r.2.1.data.length r.2.1.dc, .slice r.2.1.aa r.2.1.L.length r.2.1.ac, .int .u32 r.2.1.slot, .int .u32 r.2.1.gen,
    .int .i64 (upI r.1.up), r.2.2, .bool r.1.live]
theorem rcells_len (r : RN) : (rcells r).length = 11 := rfl
def KeepN (Q : Nat → Prop) (w W : World) : Prop := ∀ (k : Nat) (o : Obj), ¬ Q k → w.heap[k]? = some o → W.heap[k]? = some o
def NdK (Q : Nat → Prop) (w : World) (P : Nd) : Prop := ∀ W, KeepN Q w W → NdIn W P
structure FoAt (B : Nat) (Q : Nat → Prop) (w : World) (fb : Nat) (F : For) (R : List RN) (rv : Value) : Prop where
  eq : R.map Prod.fst = F
  big : F.length ≤ 1099511627776
  own : Q fb ∧ B ≤ fb
  blk : w.heap[fb]? = some (.cells #[rv] 61 (0, 0))
  row : w.ownsRow B 69 11 rv R.length (R.flatMap rcells)
  rq : ∀ k, rv.ownBlock = some k → Q k
  down : ∀ r ∈ R, w.ownsRow B 3 1 r.2.2 r.1.down.length (icells r.1.down) ∧ ∀ k, r.2.2.ownBlock = some k → Q k
  has : ∀ r ∈ R, NdK Q w r.2.1
section
variable {B : Nat} {Q : Nat → Prop} {w w' : World} {fb : Nat} {F : For} {R : List RN} {rv : Value} {T : List TypeId}
theorem FoAt.at (h : FoAt B Q w fb F R rv) {k : Nat} {x : FN} (hx : F[k]? = some x) : ∃ P dv, R[k]? = some (x, P, dv) := by
  have e := h.eq
  subst e
  rw [List.getElem?_map, Option.map_eq_some_iff] at hx
  obtain ⟨⟨y, P, dv⟩, h1, rfl⟩ := hx
  exact ⟨P, dv, h1⟩
theorem FoAt.len (h : FoAt B Q w fb F R rv) : R.length = F.length := by rw [← h.eq]; simp
theorem FoAt.shape (h : FoAt B Q w fb F R rv) : ∃ a cap, rv = .slice a F.length cap := by
  rcases h.row.2 with ⟨e, hn⟩ | ⟨gb, cap, cur, e, _⟩
  · exact ⟨none, 0, by rw [e, ← h.len, hn]⟩
  · exact ⟨_, cap, by rw [e, h.len]⟩
theorem FoAt.cells (h : FoAt B Q w fb F R rv) {k : Nat} {r : RN} (hr : R[k]? = some r) :
    ∃ g cap, rv = .slice (some ⟨g, 0, none⟩) F.length cap ∧ ∀ j v, (rcells r)[j]? = some v → w.cell? ⟨g, k * 11 + j, none⟩ = some v := by
  have hl := h.len
  have hk := (List.getElem?_eq_some_iff.1 hr).1
  rcases h.row.2 with ⟨e, hn⟩ | ⟨gb, cap, cur, e, hrest⟩
  · omega
  · subst e
    refine ⟨gb, cap, by rw [hl], fun j v hv => ?_⟩
    have hj : j < 11 := (List.getElem?_eq_some_iff.1 hv).1
    have e1 := fl_at rcells_len hr j hj
    rw [h.row.cellAt (k * 11 + j) (fl_lt hk hj), e1, hv]
theorem FoAt.get (h : FoAt B Q w fb F R rv) {k : Nat} {x : FN} (hx : F[k]? = some x) :
    ∃ g cap P dv, rv = .slice (some ⟨g, 0, none⟩) F.length cap ∧ R[k]? = some (x, P, dv) ∧ w.cell? ⟨g, k * 11, none⟩ = some (.int .u32 (x.sl : Int)) ∧ w.cell? ⟨g, k * 11 + 1, none⟩ = some (.int .u32 (x.gn : Int)) ∧
      w.cell? ⟨g, k * 11 + 8, none⟩ = some (.int .i64 (upI x.up)) ∧ w.cell? ⟨g, k * 11 + 9, none⟩ = some dv ∧ w.cell? ⟨g, k * 11 + 10, none⟩ = some (.bool x.live) := by
  obtain ⟨P, dv, hr⟩ := h.at hx
  obtain ⟨g, cap, e, hc⟩ := h.cells hr
  exact ⟨g, cap, P, dv, e, hr, hc 0 _ rfl, hc 1 _ rfl, hc 8 _ rfl, hc 9 _ rfl, hc 10 _ rfl⟩
theorem FoAt.b0 (h : FoAt B Q w fb F R rv) : w.cell? ⟨fb, 0, none⟩ = some rv := cell_blk h.blk 0 rfl
theorem cell_lt {w : World} {a : Addr} {v : Value} (h : w.cell? a = some v) : a.block < w.heap.size := by
  by_cases hb : a.block < w.heap.size
  · exact hb
  · exfalso
    have e : w.heap[a.block]? = none := Array.getElem?_eq_none (by omega)
    simp [World.cell?, e] at h
theorem KeepN.of_frg (f : FrG T Q w w') {W : World} (k : KeepN (fun k => Q k ∨ w.heap.size ≤ k ∧ k < w'.heap.size) w' W) : KeepN Q w W := fun b o hb ho =>
  k b o (fun hq => by rcases hq with hq | hq; exact hb hq; have := lt_of_some ho; omega) (f.blkQ ho hb)
theorem NdK.frg {P : Nd} (h : NdK Q w P) (f : FrG T Q w w') : NdK (fun k => Q k ∨ w.heap.size ≤ k ∧ k < w'.heap.size) w' P := fun W hW => h W (KeepN.of_frg f hW)
theorem NdK.below {P : Nd} (h : NdK Q w P) (b : Below w.heap.size w w') : NdK Q w' P := fun W hW => h W (fun k o hk ho => hW k o hk ((b.block k (lt_of_some ho)).trans ho))
theorem NdK.now {P : Nd} (h : NdK Q w P) : NdIn w P := h w (fun _ _ _ ho => ho)
theorem FoAt.frg (h : FoAt B Q w fb F R rv) (f : FrG T Q w w') (h1 : 61 ∉ T) (h2 : 69 ∉ T) (h3 : 3 ∉ T) : FoAt B (fun k => Q k ∨ w.heap.size ≤ k ∧ k < w'.heap.size) w' fb F R rv :=
  ⟨h.eq, h.big, ⟨.inl h.own.1, h.own.2⟩, f.blk h.blk h1, f.row h.row h2, fun k hk => .inl (h.rq k hk), fun r hr => ⟨f.row (h.down r hr).1 h3, fun k hk => .inl ((h.down r hr).2 k hk)⟩, fun r hr => (h.has r hr).frg f⟩
theorem FoAt.below (h : FoAt B Q w fb F R rv) (b : Below w.heap.size w w') : FoAt B Q w' fb F R rv := by
  have f : FrG [] Q w w' := FrG.of_below b
  exact ⟨h.eq, h.big, h.own, f.blk h.blk (by simp), f.row h.row (by simp), h.rq, fun r hr => ⟨f.row (h.down r hr).1 (by simp), (h.down r hr).2⟩, fun r hr => (h.has r hr).below b⟩
theorem FoAt.kid (h : FoAt B Q w fb F R rv) {r : RN} (hr : r ∈ R) {j c : Nat} (hj : r.1.down[j]? = some c) :
    ∃ g cap, r.2.2 = .slice (some ⟨g, 0, none⟩) r.1.down.length cap ∧ w.cell? ⟨g, j, none⟩ = some (.int .i64 (c : Int)) := by
  have hd := (h.down r hr).1
  have hk := (List.getElem?_eq_some_iff.1 hj).1
  have e1 : (icells r.1.down)[j]? = some (.int .i64 (c : Int)) := by unfold icells; rw [List.getElem?_map, hj]; rfl
  rcases hd.2 with ⟨e, hn⟩ | ⟨gb, cap, cur, e, hrest⟩
  · omega
  · rw [e] at hd ⊢
    exact ⟨gb, cap, rfl, by have := hd.cellAt j (by omega); rw [this, e1]⟩
theorem FoAt.dshape (h : FoAt B Q w fb F R rv) {r : RN} (hr : r ∈ R) : ∃ a cap, r.2.2 = .slice a r.1.down.length cap := by
  rcases (h.down r hr).1.2 with ⟨e, hn⟩ | ⟨gb, cap, cur, e, _⟩
  · exact ⟨none, 0, by rw [e, hn]⟩
  · exact ⟨_, cap, e⟩
end
def pick8 (p : Int) (n : Nat) : Nat := (if p < 0 then (-(p + 1)).toNat else p.toNat) % n
theorem pick8_lt (p : Int) {n : Nat} (hn : 0 < n) : pick8 p n < n := Nat.mod_lt _ hn
theorem pick8_neg {p : Int} {n : Nat} (h : p < 0) : -((p + 1).tmod (n : Int)) = ((pick8 p n : Nat) : Int) := by
  unfold pick8
  rw [if_pos h, ← Int.neg_tmod]
  obtain ⟨m, hm⟩ := Int.eq_ofNat_of_zero_le (show 0 ≤ -(p + 1) by omega)
  rw [hm, Int.toNat_natCast, ← Int.ofNat_tmod]
theorem pick8_pos {p : Int} {n : Nat} (h : 0 ≤ p) : p % (n : Int) = ((pick8 p n : Nat) : Int) := by
  unfold pick8
  rw [if_neg (by omega)]
  obtain ⟨m, rfl⟩ := Int.eq_ofNat_of_zero_le h
  simp
theorem pick8_calls (w : World) (p : Int) (n : Nat) (hp : -9223372036854775808 ≤ p ∧ p ≤ 9223372036854775807) (hn : 0 < n) (hb : n ≤ 9223372036854775807) :
    Calls Tryd.prog 30 #[.int .i64 p, .int .i64 (n : Int)] w fun e w' => e = .returned (.int .i64 ((pick8 p n : Nat) : Int)) ∧ Below w.heap.size w w' := by
  have hn0 : ¬ ((n : Int) = 0) := by omega
  go_enter Tryd.func30, Tryd.ntmps30
  by_cases h : p < 0
  · have hd : decide (p < 0) = true := by simp [h]
    have e1 : IntKind.i64.wrap (p + 1) = p + 1 := IntWalk.i64_in _ (by omega)
    have e2 : IntKind.i64.wrap (-(p + 1)) = -(p + 1) := IntWalk.i64_in _ (by omega)
    have e3 := @pick8_neg p n h
    go_wp2_with fail
    go_ret
    exact ⟨rfl, (by repeat (first | exact Below.refl _ _ | assumption | refine Below.drew ?_ | refine below_drewN ?_ _ | refine Below.alloc ?_ (by simp <;> omega) _ | refine Below.setCell ?_ (by simp <;> omega) _ | (apply bl_trans; assumption; (simp <;> omega))))⟩
  · have e3 := @pick8_pos p n (by omega)
    go_wp2_with fail
    go_ret
    exact ⟨rfl, (by repeat (first | exact Below.refl _ _ | assumption | refine Below.drew ?_ | refine below_drewN ?_ _ | refine Below.alloc ?_ (by simp <;> omega) _ | refine Below.setCell ?_ (by simp <;> omega) _ | (apply bl_trans; assumption; (simp <;> omega))))⟩
theorem alloc2_blk (w : World) (a b : Obj) : ((w.alloc a).alloc b).heap[w.heap.size + 1]? = some b := by
  have := Go.heap_alloc_new (w.alloc a) b; rwa [World.size_alloc] at this
section
variable {B : Nat} {Q : Nat → Prop} {w w' : World} {tb : Nat} {X : TX} {Lf : Nat → Nat → Nat × Nat}
set_option maxHeartbeats 1000000 in
theorem follow_live (h : TreeRw B Q w tb X Lf) {k : Nat} {x : FN} (hx : X.F[k]? = some x) (hl : x.live = true) (j : Nat) (hj : j < 5) :
    Calls Tryd.prog 90 #[.pointer (some ⟨tb, 0, none⟩), .agg #[.int .u32 (x.sl : Int), .int .u32 (x.gn : Int)], .int .i64 (j : Int)] w fun e w' =>
      e = .returned (.tuple #[.agg #[.int .u32 ((Lf k j).1 : Int), .int .u32 ((Lf k j).2 : Int)], .int .i64 0]) ∧ Below w.heap.size w w' := by
  obtain ⟨nb, P, hm, _⟩ := h.at_live hx hl
  have hnode := (h.node k x nb P hx hl hm).2.2.1
  have HG : Hid (∀ W, Below w.heap.size w W → Calls Tryd.prog 76 #[.pointer (some ⟨X.ab, 0, none⟩), .agg #[.int .u32 (x.sl : Int), .int .u32 (x.gn : Int)]] W fun e w' => e = .returned (.tuple #[.pointer (some ⟨nb, 0, none⟩), .int .i64 0]) ∧ Below W.heap.size W w') :=
    Lib.hid (fun W b => (h.below b).get_live hx hl hm)
  have c0 := cell_blk h.blk 0 rfl
  have ltb := lt_of_some h.blk
  have lnb := lt_of_some hnode
  have n0 := cell_blk hnode _ (ncells_at P (Lf k) (k + 1) j hj).1
  have n1 := cell_blk hnode _ (ncells_at P (Lf k) (k + 1) j hj).2
  have p0 : (0 : Int) ≤ (j : Int) := by omega
  have p1 : (j : Int) < 5 := by omega
  simp at c0
  obtain ⟨s, hs⟩ : ∃ s, s = x.sl := ⟨_, rfl⟩
  obtain ⟨g, hg⟩ : ∃ g, g = x.gn := ⟨_, rfl⟩
  obtain ⟨a, ha⟩ : ∃ a, a = (Lf k j).1 := ⟨_, rfl⟩
  obtain ⟨b, hb⟩ : ∃ b, b = (Lf k j).2 := ⟨_, rfl⟩
  rw [← hs, ← hg] at HG ⊢
  rw [← ha] at n0 ⊢
  rw [← hb] at n1 ⊢
  clear h hx hl hm hnode hs hg ha hb
  obtain ⟨V, hV⟩ : ∃ V, V = (w.alloc (.cells #[.int .u32 (s : Int), .int .u32 (g : Int)] 31)).alloc (.cells #[.int .u32 0, .int .u32 0] 31) := ⟨_, rfl⟩
  have bV : Below w.heap.size w V := by rw [hV]; exact (by repeat (first | exact Below.refl _ _ | assumption | refine Below.drew ?_ | refine below_drewN ?_ _ | refine Below.alloc ?_ (by simp <;> omega) _ | refine Below.setCell ?_ (by simp <;> omega) _ | (apply bl_trans; assumption; (simp <;> omega))))
  have hx : V.heap[w.heap.size + 1]? = some (.cells #[.int .u32 0, .int .u32 0] 31 (0, 0)) := by rw [hV]; exact alloc2_blk w _ _
  have hy : V.heap[w.heap.size]? = some (.cells #[.int .u32 (s : Int), .int .u32 (g : Int)] 31 (0, 0)) := by rw [hV]; exact alloc_blk (Go.heap_alloc_new w _) _
  have y0 := cell_blk hy 0 rfl
  have y1 := cell_blk hy 1 rfl
  have d0 := (bV.cell (p := ⟨tb, 0, none⟩) ltb).trans c0
  have HX := Lib.hid (And.intro hx bV)
  have hV2 := hV
  clear hV hx hy bV
  go_enter Tryd.func90, Tryd.ntmps90
  go_wp2_with fail
  rw [← hV2]
  clear hV2 c0
  go_region_with (go_at_call 76; go_loud (refine (HG.out _ HX.out.2.drew).mono ?_; rintro e w1 ⟨rfl, b1⟩; have b2 : Below V.heap.size V w1 := (Below.refl _ V).drew.trans b1; have HB := Lib.hid (HX.out.2.trans (b2.mono HX.out.2.size)); have m0 := (HB.out.cell (p := ⟨nb, 6 + j * 2, none⟩) lnb).trans n0; have m1 := (HB.out.cell (p := ⟨nb, 6 + j * 2 + 1, none⟩) lnb).trans n1; have hx := (b2.block (w.heap.size + 1) (lt_of_some HX.out.1)).trans HX.out.1; have x0 := cell_blk hx 0 rfl; have x1 := cell_blk hx 1 rfl; have f0 := free_blk hx 0; have f1 := free_blk hx 1; have ne1 : nb ≠ w.heap.size + 1 := (by omega); have HXX := Lib.hid hx; simp at x0 x1; clear b1 b2 hx))
  all_goals go_wp2_with fail
  all_goals have hX4 := set_blk (set_blk HXX.out 0 (.int .u32 (a : Int))) 1 (.int .u32 (b : Int))
  all_goals have z0 := cell_blk hX4 0 rfl
  all_goals have z1 := cell_blk hX4 1 rfl
  all_goals simp at z0 z1
  all_goals exact bodyPost_ret (v := .tuple #[.agg #[.int .u32 (a : Int), .int .u32 (b : Int)], .int .i64 0]) (by simp [results, Tryd.results90, go_sem, z0, z1]) rfl ⟨rfl, (HB.out.setCell (by simp) _).setCell (by simp) _⟩
set_option maxHeartbeats 1000000 in
theorem follow_dead (h : TreeRw B Q w tb X Lf) {s g : Nat} (hs : s ≤ 4294967295) (hg : g ≤ 4294967295) (hn : NoH X.F s g) (j : Int) :
    Calls Tryd.prog 90 #[.pointer (some ⟨tb, 0, none⟩), .agg #[.int .u32 (s : Int), .int .u32 (g : Int)], .int .i64 j] w fun e w' =>
      e = .returned (.tuple #[.agg #[.int .u32 0, .int .u32 0], .int .i64 51]) ∧ Below w.heap.size w w' := by
  have HG : Hid (∀ W, Below w.heap.size w W → Calls Tryd.prog 76 #[.pointer (some ⟨X.ab, 0, none⟩), .agg #[.int .u32 (s : Int), .int .u32 (g : Int)]] W fun e w' => e = .returned (.tuple #[.pointer none, .int .i64 51]) ∧ Below W.heap.size W w') :=
    Lib.hid (fun W b => (h.below b).get_dead hs hg hn)
  have c0 := cell_blk h.blk 0 rfl
  have ltb := lt_of_some h.blk
  simp at c0
  clear h hs hg hn
  obtain ⟨V, hV⟩ : ∃ V, V = (w.alloc (.cells #[.int .u32 (s : Int), .int .u32 (g : Int)] 31)).alloc (.cells #[.int .u32 0, .int .u32 0] 31) := ⟨_, rfl⟩
  have bV : Below w.heap.size w V := by rw [hV]; exact (by repeat (first | exact Below.refl _ _ | assumption | refine Below.drew ?_ | refine below_drewN ?_ _ | refine Below.alloc ?_ (by simp <;> omega) _ | refine Below.setCell ?_ (by simp <;> omega) _ | (apply bl_trans; assumption; (simp <;> omega))))
  have hx : V.heap[w.heap.size + 1]? = some (.cells #[.int .u32 0, .int .u32 0] 31 (0, 0)) := by rw [hV]; exact alloc2_blk w _ _
  have hy : V.heap[w.heap.size]? = some (.cells #[.int .u32 (s : Int), .int .u32 (g : Int)] 31 (0, 0)) := by rw [hV]; exact alloc_blk (Go.heap_alloc_new w _) _
  have y0 := cell_blk hy 0 rfl
  have y1 := cell_blk hy 1 rfl
  have d0 := (bV.cell (p := ⟨tb, 0, none⟩) ltb).trans c0
  have HX := Lib.hid (And.intro hx bV)
  have hV2 := hV
  clear hV hx hy bV
  go_enter Tryd.func90, Tryd.ntmps90
  go_wp2_with fail
  rw [← hV2]
  clear hV2 c0
  go_region_with (go_at_call 76; refine (HG.out _ HX.out.2.drew).mono ?_; rintro e w1 ⟨rfl, b1⟩; have b2 : Below V.heap.size V w1 := (Below.refl _ V).drew.trans b1; have HB := Lib.hid (HX.out.2.trans (b2.mono HX.out.2.size)); have hx := (b2.block (w.heap.size + 1) (lt_of_some HX.out.1)).trans HX.out.1; have x0 := cell_blk hx 0 rfl; have x1 := cell_blk hx 1 rfl; have f0 := free_blk hx 0; have f1 := free_blk hx 1; have HXX := Lib.hid hx; simp at x0 x1; clear b1 b2 hx)
  all_goals go_wp2_with fail
  all_goals have hX4 := set_blk (set_blk HXX.out 0 (.int .u32 0)) 1 (.int .u32 0)
  all_goals have z0 := cell_blk hX4 0 rfl
  all_goals have z1 := cell_blk hX4 1 rfl
  all_goals simp at z0 z1
  all_goals exact bodyPost_ret (v := .tuple #[.agg #[.int .u32 0, .int .u32 0], .int .i64 51]) (by simp [results, Tryd.results90, go_sem, z0, z1]) rfl ⟨rfl, (HB.out.setCell (by simp) _).setCell (by simp) _⟩
set_option maxHeartbeats 1000000 in
theorem parent_gen (s g a b : Nat) (c : Int) (Bz : Nat) (hz : Bz ≤ w.heap.size) (HF : Hid (∀ W, Below w.heap.size w W → Calls Tryd.prog 90 #[.pointer (some ⟨tb, 0, none⟩), .agg #[.int .u32 (s : Int), .int .u32 (g : Int)], .int .i64 0] W fun e w' =>
      e = .returned (.tuple #[.agg #[.int .u32 (a : Int), .int .u32 (b : Int)], .int .i64 c]) ∧ Below W.heap.size W w')) :
    Calls Tryd.prog 54 #[.pointer (some ⟨tb, 0, none⟩), .agg #[.int .u32 (s : Int), .int .u32 (g : Int)]] w fun e w' =>
      e = .returned (.tuple #[.agg #[.int .u32 (a : Int), .int .u32 (b : Int)], .int .i64 c]) ∧ Below w.heap.size w w' := by
  obtain ⟨V, hV⟩ : ∃ V, V = (w.alloc (.cells #[.int .u32 (s : Int), .int .u32 (g : Int)] 31)).alloc (.cells #[.int .u32 0, .int .u32 0] 31) := ⟨_, rfl⟩
  have bV : Below w.heap.size w V := by rw [hV]; exact (by repeat (first | exact Below.refl _ _ | assumption | refine Below.drew ?_ | refine below_drewN ?_ _ | refine Below.alloc ?_ (by simp <;> omega) _ | refine Below.setCell ?_ (by simp <;> omega) _ | (apply bl_trans; assumption; (simp <;> omega))))
  have hx : V.heap[w.heap.size + 1]? = some (.cells #[.int .u32 0, .int .u32 0] 31 (0, 0)) := by rw [hV]; exact alloc2_blk w _ _
  have hy : V.heap[w.heap.size]? = some (.cells #[.int .u32 (s : Int), .int .u32 (g : Int)] 31 (0, 0)) := by rw [hV]; exact alloc_blk (Go.heap_alloc_new w _) _
  have HX := Lib.hid (And.intro hx bV)
  have hV2 := hV
  clear hV hx hy bV hz
  go_enter Tryd.func54, Tryd.ntmps54
  go_wp2_with fail
  rw [← hV2]
  clear hV2
  refine (HF.out _ HX.out.2).mono ?_
  rintro e w1 ⟨rfl, b2⟩
  have HB := Lib.hid (HX.out.2.trans (b2.mono HX.out.2.size))
  have hx := (b2.block (w.heap.size + 1) (lt_of_some HX.out.1)).trans HX.out.1
  have x0 := cell_blk hx 0 rfl
  have x1 := cell_blk hx 1 rfl
  have f0 := free_blk hx 0
  have f1 := free_blk hx 1
  have HXX := Lib.hid hx
  simp at x0 x1
  clear b2 hx
  go_wp2_with fail
  have hX4 := set_blk (set_blk HXX.out 0 (.int .u32 (a : Int))) 1 (.int .u32 (b : Int))
  have z0 := cell_blk hX4 0 rfl
  have z1 := cell_blk hX4 1 rfl
  simp at z0 z1
  exact bodyPost_ret (v := .tuple #[.agg #[.int .u32 (a : Int), .int .u32 (b : Int)], .int .i64 c]) (by simp [results, Tryd.results54, go_sem, z0, z1]) rfl ⟨rfl, (HB.out.setCell (by simp) _).setCell (by simp) _⟩
theorem parent_live (h : TreeRw B Q w tb X Lf) {k : Nat} {x : FN} (hx : X.F[k]? = some x) (hl : x.live = true) :
    Calls Tryd.prog 54 #[.pointer (some ⟨tb, 0, none⟩), .agg #[.int .u32 (x.sl : Int), .int .u32 (x.gn : Int)]] w fun e w' =>
      e = .returned (.tuple #[.agg #[.int .u32 ((Lf k 0).1 : Int), .int .u32 ((Lf k 0).2 : Int)], .int .i64 0]) ∧ Below w.heap.size w w' :=
  parent_gen x.sl x.gn (Lf k 0).1 (Lf k 0).2 0 0 (Nat.zero_le _) (Lib.hid fun W b => follow_live (h.below b) hx hl 0 (by decide))
set_option maxHeartbeats 1000000 in
theorem first_gen (s g a b : Nat) (c : Int) (Bz : Nat) (hz : Bz ≤ w.heap.size) (HF : Hid (∀ W, Below w.heap.size w W → Calls Tryd.prog 90 #[.pointer (some ⟨tb, 0, none⟩), .agg #[.int .u32 (s : Int), .int .u32 (g : Int)], .int .i64 1] W fun e w' =>
      e = .returned (.tuple #[.agg #[.int .u32 (a : Int), .int .u32 (b : Int)], .int .i64 c]) ∧ Below W.heap.size W w')) :
    Calls Tryd.prog 87 #[.pointer (some ⟨tb, 0, none⟩), .agg #[.int .u32 (s : Int), .int .u32 (g : Int)]] w fun e w' =>
      e = .returned (.tuple #[.agg #[.int .u32 (a : Int), .int .u32 (b : Int)], .int .i64 c]) ∧ Below w.heap.size w w' := by
  obtain ⟨V, hV⟩ : ∃ V, V = (w.alloc (.cells #[.int .u32 (s : Int), .int .u32 (g : Int)] 31)).alloc (.cells #[.int .u32 0, .int .u32 0] 31) := ⟨_, rfl⟩
  have bV : Below w.heap.size w V := by rw [hV]; exact (by repeat (first | exact Below.refl _ _ | assumption | refine Below.drew ?_ | refine below_drewN ?_ _ | refine Below.alloc ?_ (by simp <;> omega) _ | refine Below.setCell ?_ (by simp <;> omega) _ | (apply bl_trans; assumption; (simp <;> omega))))
  have hx : V.heap[w.heap.size + 1]? = some (.cells #[.int .u32 0, .int .u32 0] 31 (0, 0)) := by rw [hV]; exact alloc2_blk w _ _
  have hy : V.heap[w.heap.size]? = some (.cells #[.int .u32 (s : Int), .int .u32 (g : Int)] 31 (0, 0)) := by rw [hV]; exact alloc_blk (Go.heap_alloc_new w _) _
  have HX := Lib.hid (And.intro hx bV)
  have hV2 := hV
  clear hV hx hy bV hz
  go_enter Tryd.func87, Tryd.ntmps87
  go_wp2_with fail
  rw [← hV2]
  clear hV2
  refine (HF.out _ HX.out.2).mono ?_
  rintro e w1 ⟨rfl, b2⟩
  have HB := Lib.hid (HX.out.2.trans (b2.mono HX.out.2.size))
  have hx := (b2.block (w.heap.size + 1) (lt_of_some HX.out.1)).trans HX.out.1
  have x0 := cell_blk hx 0 rfl
  have x1 := cell_blk hx 1 rfl
  have f0 := free_blk hx 0
  have f1 := free_blk hx 1
  have HXX := Lib.hid hx
  simp at x0 x1
  clear b2 hx
  go_wp2_with fail
  have hX4 := set_blk (set_blk HXX.out 0 (.int .u32 (a : Int))) 1 (.int .u32 (b : Int))
  have z0 := cell_blk hX4 0 rfl
  have z1 := cell_blk hX4 1 rfl
  simp at z0 z1
  exact bodyPost_ret (v := .tuple #[.agg #[.int .u32 (a : Int), .int .u32 (b : Int)], .int .i64 c]) (by simp [results, Tryd.results87, go_sem, z0, z1]) rfl ⟨rfl, (HB.out.setCell (by simp) _).setCell (by simp) _⟩
theorem first_live (h : TreeRw B Q w tb X Lf) {k : Nat} {x : FN} (hx : X.F[k]? = some x) (hl : x.live = true) :
    Calls Tryd.prog 87 #[.pointer (some ⟨tb, 0, none⟩), .agg #[.int .u32 (x.sl : Int), .int .u32 (x.gn : Int)]] w fun e w' =>
      e = .returned (.tuple #[.agg #[.int .u32 ((Lf k 1).1 : Int), .int .u32 ((Lf k 1).2 : Int)], .int .i64 0]) ∧ Below w.heap.size w w' :=
  first_gen x.sl x.gn (Lf k 1).1 (Lf k 1).2 0 0 (Nat.zero_le _) (Lib.hid fun W b => follow_live (h.below b) hx hl 1 (by decide))
set_option maxHeartbeats 1000000 in
theorem behind_gen (s g a b : Nat) (c : Int) (Bz : Nat) (hz : Bz ≤ w.heap.size) (HF : Hid (∀ W, Below w.heap.size w W → Calls Tryd.prog 90 #[.pointer (some ⟨tb, 0, none⟩), .agg #[.int .u32 (s : Int), .int .u32 (g : Int)], .int .i64 4] W fun e w' =>
      e = .returned (.tuple #[.agg #[.int .u32 (a : Int), .int .u32 (b : Int)], .int .i64 c]) ∧ Below W.heap.size W w')) :
    Calls Tryd.prog 59 #[.pointer (some ⟨tb, 0, none⟩), .agg #[.int .u32 (s : Int), .int .u32 (g : Int)]] w fun e w' =>
      e = .returned (.tuple #[.agg #[.int .u32 (a : Int), .int .u32 (b : Int)], .int .i64 c]) ∧ Below w.heap.size w w' := by
  obtain ⟨V, hV⟩ : ∃ V, V = (w.alloc (.cells #[.int .u32 (s : Int), .int .u32 (g : Int)] 31)).alloc (.cells #[.int .u32 0, .int .u32 0] 31) := ⟨_, rfl⟩
  have bV : Below w.heap.size w V := by rw [hV]; exact (by repeat (first | exact Below.refl _ _ | assumption | refine Below.drew ?_ | refine below_drewN ?_ _ | refine Below.alloc ?_ (by simp <;> omega) _ | refine Below.setCell ?_ (by simp <;> omega) _ | (apply bl_trans; assumption; (simp <;> omega))))
  have hx : V.heap[w.heap.size + 1]? = some (.cells #[.int .u32 0, .int .u32 0] 31 (0, 0)) := by rw [hV]; exact alloc2_blk w _ _
  have hy : V.heap[w.heap.size]? = some (.cells #[.int .u32 (s : Int), .int .u32 (g : Int)] 31 (0, 0)) := by rw [hV]; exact alloc_blk (Go.heap_alloc_new w _) _
  have HX := Lib.hid (And.intro hx bV)
  have hV2 := hV
  clear hV hx hy bV hz
  go_enter Tryd.func59, Tryd.ntmps59
  go_wp2_with fail
  rw [← hV2]
  clear hV2
  refine (HF.out _ HX.out.2).mono ?_
  rintro e w1 ⟨rfl, b2⟩
  have HB := Lib.hid (HX.out.2.trans (b2.mono HX.out.2.size))
  have hx := (b2.block (w.heap.size + 1) (lt_of_some HX.out.1)).trans HX.out.1
  have x0 := cell_blk hx 0 rfl
  have x1 := cell_blk hx 1 rfl
  have f0 := free_blk hx 0
  have f1 := free_blk hx 1
  have HXX := Lib.hid hx
  simp at x0 x1
  clear b2 hx
  go_wp2_with fail
  have hX4 := set_blk (set_blk HXX.out 0 (.int .u32 (a : Int))) 1 (.int .u32 (b : Int))
  have z0 := cell_blk hX4 0 rfl
  have z1 := cell_blk hX4 1 rfl
  simp at z0 z1
  exact bodyPost_ret (v := .tuple #[.agg #[.int .u32 (a : Int), .int .u32 (b : Int)], .int .i64 c]) (by simp [results, Tryd.results59, go_sem, z0, z1]) rfl ⟨rfl, (HB.out.setCell (by simp) _).setCell (by simp) _⟩
theorem behind_live (h : TreeRw B Q w tb X Lf) {k : Nat} {x : FN} (hx : X.F[k]? = some x) (hl : x.live = true) :
    Calls Tryd.prog 59 #[.pointer (some ⟨tb, 0, none⟩), .agg #[.int .u32 (x.sl : Int), .int .u32 (x.gn : Int)]] w fun e w' =>
      e = .returned (.tuple #[.agg #[.int .u32 ((Lf k 4).1 : Int), .int .u32 ((Lf k 4).2 : Int)], .int .i64 0]) ∧ Below w.heap.size w w' :=
  behind_gen x.sl x.gn (Lf k 4).1 (Lf k 4).2 0 0 (Nat.zero_le _) (Lib.hid fun W b => follow_live (h.below b) hx hl 4 (by decide))
end
def Rest (F : For) (cur : Option Nat) (rest : List Nat) : Prop := match cur with | none => rest = [] | some k => Chain F k rest
theorem Rest.next {F : For} {k : Nat} {rest : List Nat} (h : Rest F (some k) rest) : ∃ t, rest = k :: t ∧ Rest F (upOf F k) t := by
  cases (show Chain F k rest from h) with
  | root hx hu => exact ⟨[], rfl, by unfold upOf; rw [hx]; show Rest F (FN.up _) []; rw [hu]; rfl⟩
  | up hx hu hc => exact ⟨_, rfl, by unfold upOf; rw [hx]; show Rest F (FN.up _) _; rw [hu]; exact hc⟩
theorem FOk.up_live {F : For} (h : FOk F) {k v : Nat} (hu : upOf F k = some v) : ∃ x : FN, F[v]? = some x ∧ x.live = true := by
  unfold upOf at hu
  obtain ⟨z, hz, e⟩ := Option.bind_eq_some_iff.1 hu
  obtain ⟨y, h1, h2, _⟩ := h.upd k z v hz e
  exact ⟨y, h1, h2⟩
theorem hd_some {F : For} {k : Nat} {x : FN} (hx : F[k]? = some x) : hd F (some k) = (x.sl, x.gn) := by unfold hd; simp [hx]
theorem hd_none (F : For) : hd F none = (0, 0) := rfl
structure WiR (F : For) (w : World) (bx i : Nat) (c : List Nat) (n : Nat) (W : World) (cur : Option Nat) (rest : List Nat) : Prop where
  low : Below w.heap.size w W
  len : n = rest.length
  on : Rest F cur rest
  mem : i ∈ c ↔ i ∈ rest
  live : ∀ k, cur = some k → ∃ x : FN, F[k]? = some x ∧ x.live = true
def idxF (F : For) (k : Nat) : Nat := (dnOf F (upOf F k)).idxOf k
theorem FOk.kid {F : For} (h : FOk F) {k u : Nat} (hu : upOf F k = some u) : ∃ (y : FN), F[u]? = some y ∧ dnOf F (some u) = y.down ∧ k ∈ y.down := by
  unfold upOf at hu
  obtain ⟨z, hz, e⟩ := Option.bind_eq_some_iff.1 hu
  obtain ⟨y, h1, h2, h3⟩ := h.upd k z u hz e
  exact ⟨y, h1, by unfold dnOf; simp [h1], h3⟩
theorem FOk.sibs {F : For} (h : FOk F) (k : Nat) : (dnOf F (upOf F k)).Nodup ∧ (dnOf F (upOf F k)).length ≤ F.length ∧ ∀ c ∈ dnOf F (upOf F k), upOf F c = upOf F k ∧ ∃ x : FN, F[c]? = some x ∧ x.live = true := by
  cases e : upOf F k with
  | none => exact ⟨List.nodup_nil, by simp [dnOf], fun c hc => by simp [dnOf] at hc⟩
  | some u =>
    obtain ⟨y, h1, h2, h3⟩ := h.kid e
    rw [h2]
    have hd := h.dn u y h1
    refine ⟨h.nd u y h1, nodup_bound _ _ (h.nd u y h1) (fun m hm => ?_), fun c hc => ?_⟩
    · obtain ⟨x, hx, _⟩ := hd m hm; exact (List.getElem?_eq_some_iff.1 hx).1
    · obtain ⟨x, hx, hxu, hxl⟩ := hd c hc; exact ⟨by unfold upOf; rw [hx]; exact hxu, x, hx, hxl⟩
theorem FOk.split {F : For} (h : FOk F) {k : Nat} : (dnOf F (upOf F k) = [] ∧ idxF F k = 0) ∨ ∃ post, dnOf F (upOf F k) = (dnOf F (upOf F k)).take (idxF F k) ++ k :: post ∧ k ∉ (dnOf F (upOf F k)).take (idxF F k) ∧ ((dnOf F (upOf F k)).take (idxF F k)).length = idxF F k := by
  cases e : upOf F k with
  | none => left; exact ⟨rfl, by unfold idxF; rw [e]; rfl⟩
  | some u =>
    right
    obtain ⟨y, h1, h2, h3⟩ := h.kid e
    unfold idxF
    rw [e, h2]
    obtain ⟨a, b, hab, hn⟩ := List.append_of_mem h3 |> fun ⟨a, b, hab⟩ => (⟨a, b, hab, by
      have := h.nd u y h1
      rw [hab] at this
      exact fun ha => (List.nodup_append.1 this).2.2 k ha k (by simp) rfl⟩ : ∃ a b, y.down = a ++ k :: b ∧ k ∉ a)
    have ei : y.down.idxOf k = a.length := by rw [hab]; exact idx_split hn
    rw [ei]
    have et : y.down.take a.length = a := by rw [hab]; simp
    rw [et]
    exact ⟨b, hab, hn, rfl⟩
theorem FOk.ahead {F : For} (h : FOk F) (k : Nat) : lkO F k 3 = ((dnOf F (upOf F k)).take (idxF F k)).getLast? := by
  show prevOf _ _ = _
  rcases h.split (k := k) with ⟨h1, h2⟩ | ⟨post, h1, h2, _⟩
  · rw [h1]; simp [prev_nil]
  · conv => lhs; rw [h1]
    exact prev_split h2
structure IxR (F : For) (w : World) (k : Nat) (n : Nat) (W : World) (m : Nat) (pre : List Nat) : Prop where
  low : Below w.heap.size w W
  len : n = pre.length
  sum : m + pre.length = idxF F k
  pre : ∃ post, dnOf F (upOf F k) = pre ++ post
section
variable {B : Nat} {Q : Nat → Prop} {w w' : World} {tb : Nat} {X : TX}
set_option maxHeartbeats 2000000 in
theorem within_calls (h : TreeAt B Q w tb X) {u i : Nat} {xu xi : FN} (hu : X.F[u]? = some xu) (hul : xu.live = true) (hi : X.F[i]? = some xi) (hil : xi.live = true) {c : List Nat} (hc : Chain X.F u c) :
    Calls Tryd.prog 101 #[.pointer (some ⟨tb, 0, none⟩), .agg #[.int .u32 (xu.sl : Int), .int .u32 (xu.gn : Int)], .agg #[.int .u32 (xi.sl : Int), .int .u32 (xi.gn : Int)]] w fun e w' =>
      e = .returned (.bool (decide (i ∈ c))) ∧ Below w.heap.size w w' := by
  have HT := Lib.hid h
  have ok := Lib.hid h.fok
  have HI := Lib.hid (And.intro hi hil)
  have hu0 : hd X.F (some u) = (xu.sl, xu.gn) := hd_some hu
  obtain ⟨s, hs⟩ : ∃ s, s = xi.sl := ⟨_, rfl⟩
  obtain ⟨g, hg⟩ : ∃ g, g = xi.gn := ⟨_, rfl⟩
  obtain ⟨s1, hs1⟩ : ∃ s, s = xu.sl := ⟨_, rfl⟩
  obtain ⟨g1, hg1⟩ : ∃ g, g = xu.gn := ⟨_, rfl⟩
  obtain ⟨r, hr⟩ : ∃ r, r = decide (i ∈ c) := ⟨_, rfl⟩
  rw [← hs, ← hg, ← hs1, ← hg1, ← hr]
  have HS := Lib.hid (And.intro hs (And.intro hg (And.intro hs1 (And.intro hg1 hr))))
  obtain ⟨V, hV⟩ : ∃ V, V = (w.alloc (.cells #[.int .u32 (s1 : Int), .int .u32 (g1 : Int)] 31)).alloc (.cells #[.int .u32 (s : Int), .int .u32 (g : Int)] 31) := ⟨_, rfl⟩
  have bV : Below w.heap.size w V := by rw [hV]; exact (by repeat (first | exact Below.refl _ _ | assumption | refine Below.drew ?_ | refine below_drewN ?_ _ | refine Below.alloc ?_ (by simp <;> omega) _ | refine Below.setCell ?_ (by simp <;> omega) _ | (apply bl_trans; assumption; (simp <;> omega))))
  have hx : V.heap[w.heap.size + 1]? = some (.cells #[.int .u32 (s : Int), .int .u32 (g : Int)] 31 (0, 0)) := by rw [hV]; exact alloc2_blk w _ _
  have hy : V.heap[w.heap.size]? = some (.cells #[.int .u32 (s1 : Int), .int .u32 (g1 : Int)] 31 (0, 0)) := by rw [hV]; exact alloc_blk (Go.heap_alloc_new w _) _
  have H0 : Hid (WiR X.F w w.heap.size i c c.length V (some u) c ∧ hd X.F (some u) = (s1, g1)) := Lib.hid ⟨⟨bV, rfl, hc, Iff.rfl, fun k hk => by cases hk; exact ⟨_, hu, hul⟩⟩, by rw [hs1, hg1]; exact hu0⟩
  have HX := Lib.hid (And.intro hx hy)
  have hV2 := hV
  clear hV hx hy bV h hi hil hu hul hu0 hs hg hs1 hg1 hr hc
  go_enter Tryd.func101, Tryd.ntmps101
  go_wp2_with fail
  rw [← hV2]
  clear hV2
  go_step3
  go_wp2_with fail
  go_step3
  go_wp2_with fail
  go_loopg [7] c.length (fun n v wr => v = .bool false ∧ ∃ (cur : Option Nat) (rest : List Nat), Hid (WiR X.F w w.heap.size i c n wr cur rest) ∧ wr.heap[w.heap.size]? = some (.cells #[.int .u32 ((hd X.F cur).1 : Int), .int .u32 ((hd X.F cur).2 : Int)] 31 (0, 0)) ∧ wr.heap[w.heap.size + 1]? = some (.cells #[.int .u32 (s : Int), .int .u32 (g : Int)] 31 (0, 0)))
  case atStart => exact ⟨rfl, some u, c, Lib.hid H0.out.1, by rw [H0.out.2]; exact HX.out.2, HX.out.1⟩
  case round =>
    obtain ⟨rfl, cur, rest, hw, hx, hy⟩ := hrel
    have y0 := cell_blk hy 0 rfl
    have y1 := cell_blk hy 1 rfl
    have x0 := cell_blk hx 0 rfl
    have x1 := cell_blk hx 1 rfl
    have HY := Lib.hid (And.intro hx hy)
    simp at x0 x1 y0 y1
    clear hx hy
    cases cur with
    | none =>
      rw [hd_none] at x0 x1
      simp at x0 x1
      have q0 : hEq 0 0 0 0 = true := hEq_true rfl rfl
      have hres : r = false := by
        have h1 := hw.out.on
        have h2 : rest = [] := h1
        rw [HS.out.2.2.2.2]
        exact decide_eq_false (fun hm => by have := hw.out.mem.1 hm; rw [h2] at this; cases this)
      have HR := Lib.hid hres
      clear hres
      go_wp2_with fail
      try rw [Exit.noGoto_ret]
      go_ret
      exact ⟨by rw [HR.out]; rfl, hw.out.low⟩
    | some k =>
      obtain ⟨xk, hk, hkl⟩ := hw.out.live k rfl
      have e := hd_some hk
      rw [e] at x0 x1
      obtain ⟨nb, P, hm, hat, hsl, hs2, hg2⟩ := HT.out.rw.at_live hk hkl
      have q0 : hEq (xk.sl : Int) (xk.gn : Int) 0 0 = false := hEq_false (.inl (by omega))
      have HF := Lib.hid (fun W (b : Below w.heap.size w W) => follow_live (HT.out.rw.below b) hk hkl 0 (by decide))
      obtain ⟨rt, e1, e2⟩ := hw.out.on.next
      by_cases hki : k = i
      · have q1 : hEq (xk.sl : Int) (xk.gn : Int) (s : Int) (g : Int) = true := by
          subst hki
          have := hk.symm.trans HI.out.1
          cases this
          exact hEq_true (by rw [HS.out.1]) (by rw [HS.out.2.1])
        have hres : r = true := by
          rw [HS.out.2.2.2.2]
          exact decide_eq_true (hw.out.mem.2 (by rw [e1, hki]; simp))
        have HR := Lib.hid hres
        have HL := Lib.hid hw.out.low
        clear hres hk hkl e hm hat hsl hs2 hg2 e1 e2 hki hw
        go_wp2_with fail
        try rw [Exit.noGoto_ret]
        go_ret
        exact ⟨by rw [HR.out]; rfl, HL.out⟩
      · have q1 : hEq (xk.sl : Int) (xk.gn : Int) (s : Int) (g : Int) = false := by
          refine hEq_false (.inl (fun e => hki ?_))
          exact HT.out.rw.hinj hk HI.out.1 hkl HI.out.2 (by have := HS.out.1; omega)
        have HN : Hid (∀ W, Below w.heap.size w W → WiR X.F w w.heap.size i c rt.length W (upOf X.F k) rt) := Lib.hid (fun W b => ⟨b, rfl, e2, by
            rw [hw.out.mem, e1]; simp [Ne.symm hki], fun v hv => ok.out.up_live hv⟩)
        have HLen : Hid (rt.length < gk) := Lib.hid (by have := hw.out.len; rw [this, e1]; simp)
        have HL := Lib.hid hw.out.low
        clear hk hkl e hm hat hsl hs2 hg2 e1 e2 hki hw
        go_wp2_with (go_at_call 90; refine (HF.out _ HL.out).mono ?_; rintro e w1 ⟨rfl, b1⟩; have hx1 := (b1.block _ (lt_of_some HY.out.1)).trans HY.out.1; have hy1 := (b1.block _ (lt_of_some HY.out.2)).trans HY.out.2; have z0 := cell_blk hx1 0 rfl; have z1 := cell_blk hx1 1 rfl; have f0 := free_blk hx1 0; have f1 := free_blk hx1 1; have HXY := Lib.hid (And.intro hx1 hy1); have HB := Lib.hid (HL.out.trans (b1.mono HL.out.size)); clear b1 hx1 hy1)
        go_roundg rt.length
        case measure => exact HLen.out
        case rel => exact ⟨rfl, upOf X.F k, rt, Lib.hid (HN.out _ ((HB.out.setCell (by simp) _).setCell (by simp) _)), set_blk (set_blk HXY.out.1 0 _) 1 _, set_other (set_other HXY.out.2 (by simp) _) (by simp) _⟩
set_option maxHeartbeats 2000000 in
theorem index_live (h : TreeAt B Q w tb X) {k : Nat} {x : FN} (hk : X.F[k]? = some x) (hkl : x.live = true) :
    Calls Tryd.prog 75 #[.pointer (some ⟨tb, 0, none⟩), .agg #[.int .u32 (x.sl : Int), .int .u32 (x.gn : Int)]] w fun e w' =>
      e = .returned (.tuple #[.int .i64 (idxF X.F k : Int), .int .i64 0]) ∧ Below w.heap.size w w' := by
  have HT := Lib.hid h
  have ok := Lib.hid h.fok
  have hbig := h.rw.big
  obtain ⟨hnd, hlen, hkids⟩ := h.fok.sibs k
  have hix : idxF X.F k ≤ (dnOf X.F (upOf X.F k)).length := by unfold idxF; exact List.idxOf_le_length
  have HF := Lib.hid (fun W (b : Below w.heap.size w W) => follow_live (HT.out.rw.below b) hk hkl 3 (by decide))
  have HK := Lib.hid (And.intro hnd hkids)
  obtain ⟨m0, hm0⟩ : ∃ m, m = idxF X.F k := ⟨_, rfl⟩
  have hb0 : m0 ≤ 1099511627776 := by omega
  rw [← hm0]
  have HM := Lib.hid hm0
  obtain ⟨s, hs⟩ : ∃ s, s = x.sl := ⟨_, rfl⟩
  obtain ⟨g, hg⟩ : ∃ g, g = x.gn := ⟨_, rfl⟩
  rw [← hs, ← hg] at HF ⊢
  have e0 : toH X.F k 3 = hd X.F ((dnOf X.F (upOf X.F k)).take (idxF X.F k)).getLast? := by unfold toH; rw [h.fok.ahead k]
  obtain ⟨a, ha⟩ : ∃ a, a = (toH X.F k 3).1 := ⟨_, rfl⟩
  obtain ⟨b, hb⟩ : ∃ b, b = (toH X.F k 3).2 := ⟨_, rfl⟩
  rw [← ha, ← hb] at HF
  have HE : Hid ((a, b) = hd X.F ((dnOf X.F (upOf X.F k)).take (idxF X.F k)).getLast?) := Lib.hid (by rw [ha, hb, ← e0])
  clear h hk hkl hnd hlen hkids hix hm0 hs hg e0 ha hb hbig
  go_enter Tryd.func75, Tryd.ntmps75
  go_wp2_with fail
  refine (HF.out _ (by repeat (first | exact Below.refl _ _ | assumption | refine Below.drew ?_ | refine below_drewN ?_ _ | refine Below.alloc ?_ (by simp <;> omega) _ | refine Below.setCell ?_ (by simp <;> omega) _ | (apply bl_trans; assumption; (simp <;> omega))))).mono ?_
  rintro e w1 ⟨rfl, b1⟩
  have HB1 : Hid (Below w.heap.size w w1) := Lib.hid (bl_trans b1 (by simp) (by repeat (first | exact Below.refl _ _ | assumption | refine Below.drew ?_ | refine below_drewN ?_ _ | refine Below.alloc ?_ (by simp <;> omega) _ | refine Below.setCell ?_ (by simp <;> omega) _ | (apply bl_trans; assumption; (simp <;> omega)))))
  have hl1 : w.heap.size < w1.heap.size := by have := b1.size; simp at this; omega
  clear b1
  obtain ⟨V, hV⟩ : ∃ V, V = w1.alloc (.cells #[.int .u32 (a : Int), .int .u32 (b : Int)] 31) := ⟨_, rfl⟩
  have hx0 : V.heap[w1.heap.size]? = some (.cells #[.int .u32 (a : Int), .int .u32 (b : Int)] 31 (0, 0)) := by rw [hV]; exact Go.heap_alloc_new w1 _
  have hbV : Below w.heap.size w V := by rw [hV]; exact HB1.out.alloc (Nat.le_of_lt hl1) _
  have HX := Lib.hid (And.intro hx0 hbV)
  have hV2 := hV
  clear hV hx0 hbV
  obtain ⟨bx, hbx⟩ : ∃ bx, bx = w1.heap.size := ⟨_, rfl⟩
  rw [← hbx] at HX
  have hl2 : w.heap.size < bx := by omega
  go_wp2_with fail
  rw [← hV2, ← hbx]
  clear hV2 hbx HB1
  go_loopg [8] m0 (fun n v wr => ∃ (m : Nat) (pre : List Nat), v = .int .i64 (m : Int) ∧ Hid (IxR X.F w k n wr m pre) ∧ wr.heap[bx]? = some (.cells #[.int .u32 ((hd X.F pre.getLast?).1 : Int), .int .u32 ((hd X.F pre.getLast?).2 : Int)] 31 (0, 0)))
  case atStart =>
    refine ⟨0, (dnOf X.F (upOf X.F k)).take (idxF X.F k), rfl, Lib.hid ?_, ?_⟩
    · have hl : ((dnOf X.F (upOf X.F k)).take (idxF X.F k)).length = idxF X.F k := by
        rcases ok.out.split (k := k) with ⟨h1, h2⟩ | ⟨post, h1, h2, h3⟩
        · rw [h1, h2]; rfl
        · exact h3
      exact ⟨HX.out.2, by rw [hl, HM.out], by rw [hl]; omega, _, (List.take_append_drop _ _).symm⟩
    · rw [← HE.out]; exact HX.out.1
  case round =>
    obtain ⟨m, pre, rfl, hw, hx⟩ := hrel
    have x0 := cell_blk hx 0 rfl
    have x1 := cell_blk hx 1 rfl
    have HY := Lib.hid hx
    simp at x0 x1
    clear hx
    have hmb : m ≤ 1099511627776 := by have := hw.out.sum; have := HM.out; omega
    rcases List.eq_nil_or_concat pre with rfl | ⟨pre', c, rfl⟩
    · have x0 : wr.cell? ⟨bx, 0, none⟩ = some (.int .u32 0) := x0
      have x1 : wr.cell? ⟨bx, 1, none⟩ = some (.int .u32 0) := x1
      have q0 : hEq 0 0 0 0 = true := hEq_true rfl rfl
      have HR : Hid (m = m0) := Lib.hid (by have := hw.out.sum; have := HM.out; simp at *; omega)
      go_wp2_with fail
      go_ret2
      exact ⟨by rw [HR.out]; rfl, hw.out.low⟩
    · obtain ⟨post, hpost⟩ := hw.out.pre
      obtain ⟨hcu, xc, hc, hcl⟩ := HK.out.2 c (by rw [hpost]; simp)
      have e : hd X.F (pre'.concat c).getLast? = (xc.sl, xc.gn) := by rw [List.concat_eq_append, List.getLast?_concat]; exact hd_some hc
      rw [e] at x0 x1
      obtain ⟨nb, P, hm, hat, hsl, hs2, hg2⟩ := HT.out.rw.at_live hc hcl
      have q0 : hEq (xc.sl : Int) (xc.gn : Int) 0 0 = false := hEq_false (.inl (by omega))
      have HFc := Lib.hid (fun W (b : Below w.heap.size w W) => follow_live (HT.out.rw.below b) hc hcl 3 (by decide))
      have e3 : toH X.F c 3 = hd X.F pre'.getLast? := by
        unfold toH
        show hd X.F (prevOf (dnOf X.F (upOf X.F c)) c) = _
        rw [hcu, hpost, List.concat_eq_append, List.append_assoc]
        rw [List.singleton_append, prev_split (by
          have h1 := HK.out.1
          rw [hpost, List.concat_eq_append] at h1
          exact fun ha => (List.nodup_append.1 (List.nodup_append.1 h1).1).2.2 c ha c (by simp) rfl)]
      rw [e3] at HFc
      have HN : Hid (∀ W, Below w.heap.size w W → IxR X.F w k pre'.length W (m + 1) pre') := Lib.hid (fun W b => ⟨b, rfl, by have := hw.out.sum; simp at this; omega, c :: post, by rw [hpost, List.concat_eq_append, List.append_assoc]; rfl⟩)
      have HLen : Hid (pre'.length < gk) := Lib.hid (by have := hw.out.len; rw [this]; simp)
      have HL := Lib.hid hw.out.low
      have w1' : IntKind.i64.wrap ((m : Int) + 1) = (m : Int) + 1 := IntWalk.i64_in _ (by omega)
      clear hpost hcu hc hcl e hm hat hsl hs2 hg2 e3 hw
      go_wp2_with (go_at_call 90; refine (HFc.out _ HL.out).mono ?_; rintro e w2 ⟨rfl, b1⟩; have hx1 := (b1.block _ (lt_of_some HY.out)).trans HY.out; have z0 := cell_blk hx1 0 rfl; have z1 := cell_blk hx1 1 rfl; have f0 := free_blk hx1 0; have f1 := free_blk hx1 1; have HXY := Lib.hid hx1; have HB := Lib.hid (HL.out.trans (b1.mono HL.out.size)); clear b1 hx1)
      go_roundg pre'.length
      case measure => exact HLen.out
      case rel => exact ⟨m + 1, pre', by go_num, Lib.hid (HN.out _ ((HB.out.setCell (by simp; omega) _).setCell (by simp; omega) _)), set_blk (set_blk HXY.out 0 _) 1 _⟩
end
section
variable {B : Nat} {Q : Nat → Prop} {w w' : World} {fb : Nat} {F : For} {R : List RN} {rv : Value}
theorem rhandle_calls (h : FoAt B Q w fb F R rv) {k : Nat} {x : FN} (hx : F[k]? = some x) :
    Calls Tryd.prog 19 #[.pointer (some ⟨fb, 0, none⟩), .int .i64 (k : Int)] w fun e w' => e = .returned (.agg #[.int .u32 (x.sl : Int), .int .u32 (x.gn : Int)]) ∧ Below w.heap.size w w' := by
  have hk := (List.getElem?_eq_some_iff.1 hx).1
  have hbig := h.big
  have b0 := h.b0
  obtain ⟨g, cap, P, dv, e, hR, y0, y1, y8, y9, y10⟩ := h.get hx
  rw [e] at b0
  have l0 := cell_lt b0
  have l1 := cell_lt y0
  have kn : ¬ ((k : Int) < 0) := by omega
  have kd : decide ((k : Int) < 0) = false := by simp
  generalize F.length = n at *
  obtain ⟨s, hs⟩ : ∃ s, s = x.sl := ⟨_, rfl⟩
  obtain ⟨u, hu⟩ : ∃ u, u = x.gn := ⟨_, rfl⟩
  rw [← hs] at y0 ⊢
  rw [← hu] at y1 ⊢
  simp only at l0 l1
  clear h e y8 y9 y10 hR hx hs hu
  go_enter Tryd.func19, Tryd.ntmps19
  go_wp2_with fail
  have hX4 := set_blk (set_blk (Go.heap_alloc_new w (.cells #[.int .u32 0, .int .u32 0] 31)) 0 (.int .u32 (s : Int))) 1 (.int .u32 (u : Int))
  exact bodyPost_ret (v := .agg #[.int .u32 (s : Int), .int .u32 (u : Int)]) (by simp [results, Tryd.results19, go_sem]) rfl ⟨rfl, (by repeat (first | exact Below.refl _ _ | assumption | refine Below.drew ?_ | refine below_drewN ?_ _ | refine Below.alloc ?_ (by simp <;> omega) _ | refine Below.setCell ?_ (by simp <;> omega) _ | (apply bl_trans; assumption; (simp <;> omega))))⟩
theorem rhandle_none (w : World) (fb : Nat) {i : Int} (hi : i < 0) :
    Calls Tryd.prog 19 #[.pointer (some ⟨fb, 0, none⟩), .int .i64 i] w fun e w' => e = .returned (.agg #[.int .u32 0, .int .u32 0]) ∧ Below w.heap.size w w' := by
  have kd : decide (i < 0) = true := by simp [hi]
  go_enter Tryd.func19, Tryd.ntmps19
  go_wp2_with fail
  have hX4 := set_blk (set_blk (Go.heap_alloc_new w (.cells #[.int .u32 0, .int .u32 0] 31)) 0 (.int .u32 0)) 1 (.int .u32 0)
  exact bodyPost_ret (v := .agg #[.int .u32 0, .int .u32 0]) (by simp [results, Tryd.results19, go_sem]) rfl ⟨rfl, (by repeat (first | exact Below.refl _ _ | assumption | refine Below.drew ?_ | refine below_drewN ?_ _ | refine Below.alloc ?_ (by simp <;> omega) _ | refine Below.setCell ?_ (by simp <;> omega) _ | (apply bl_trans; assumption; (simp <;> omega))))⟩
theorem rroot_calls (h : FoAt B Q w fb F R rv) {k r : Nat} {l : List Nat} (hc : Chain F k l) (hr : l.getLast? = some r) :
    Calls Tryd.prog 49 #[.pointer (some ⟨fb, 0, none⟩), .int .i64 (k : Int)] w fun e w' => e = .returned (.int .i64 (r : Int)) ∧ Below w.heap.size w w' := by
  have H := Lib.hid h
  have hbig := h.big
  have H0 := Lib.hid (And.intro hc hr)
  clear hc hr h
  go_enter Tryd.func49, Tryd.ntmps49
  go_wp2_with fail
  go_loopg [1] l.length (fun n v wr => ∃ (j : Nat) (rest : List Nat), v = .int .i64 (j : Int) ∧ Hid (Chain F j rest ∧ rest.getLast? = some r ∧ rest.length = n ∧ Below w.heap.size w wr))
  case atStart => exact ⟨k, l, rfl, Lib.hid ⟨H0.out.1, H0.out.2, rfl, Below.refl _ _⟩⟩
  case round =>
    obtain ⟨j, rest, rfl, hw⟩ := hrel
    have h2 := H.out.below hw.out.2.2.2
    have hjx : ∃ x, F[j]? = some x := by cases hw.out.1 with | root a b => exact ⟨_, a⟩ | up a b c => exact ⟨_, a⟩
    obtain ⟨x, hx⟩ := hjx
    have hj := (List.getElem?_eq_some_iff.1 hx).1
    have b0 := h2.b0
    obtain ⟨g, cap, P, dv, e, hR, y0, y1, y8, y9, y10⟩ := h2.get hx
    rw [e] at b0
    clear e h2 y0 y1 y9 y10
    cases hu : x.up with
    | none =>
      have e8 : upI x.up = -1 := by rw [hu]; rfl
      rw [e8] at y8
      have hres : r = j := by
        cases hw.out.1 with
        | root a b => have := hw.out.2.1; simp at this; exact this.symm
        | up a b c => rw [hx] at a; cases a; rw [hu] at b; cases b
      have HR := Lib.hid hres
      clear hres hu e8 hx
      go_wp2_with fail
      try rw [Exit.noGoto_ret]
      go_ret
      exact ⟨by rw [HR.out]; rfl, hw.out.2.2.2⟩
    | some u =>
      have e8 : upI x.up = (u : Int) := by rw [hu]; rfl
      rw [e8] at y8
      have hN : ∃ l', Chain F u l' ∧ l'.getLast? = some r ∧ l'.length < gk := by
        cases hw.out.1 with
        | root a b => rw [hx] at a; cases a; rw [hu] at b; cases b
        | up a b c =>
          rw [hx] at a; cases a; rw [hu] at b; cases b
          rename_i l'
          have h1 := hw.out.2.1
          have h2 := hw.out.2.2.1
          obtain ⟨t, rfl⟩ := c.ne_nil
          refine ⟨_, c, by rw [← h1]; simp [List.getLast?_cons_cons], by rw [← h2]; simp⟩
      obtain ⟨l', hl1, hl2, hl3⟩ := hN
      have HN := Lib.hid (And.intro hl1 (And.intro hl2 hl3))
      have un : ¬ ((u : Int) < 0) := by omega
      have ud : decide (0 ≤ (u : Int)) = true := by simp
      clear hl1 hl2 hl3 hu e8 hx
      go_wp2_with fail
      go_roundg l'.length
      case measure => exact HN.out.2.2
      case rel => exact ⟨u, l', rfl, Lib.hid ⟨HN.out.1, HN.out.2.1, rfl, hw.out.2.2.2⟩⟩
theorem rhas_calls (h : FoAt B Q w fb F R rv) {a b : Nat} {c : List Nat} (hc : Chain F b (b :: c)) :
    Calls Tryd.prog 18 #[.pointer (some ⟨fb, 0, none⟩), .int .i64 (a : Int), .int .i64 (b : Int)] w fun e w' => e = .returned (.bool (decide (a ∈ c))) ∧ Below w.heap.size w w' := by
  have H := Lib.hid h
  have hbig := h.big
  obtain ⟨p, hp⟩ : ∃ p, p = decide (a ∈ c) := ⟨_, rfl⟩
  rw [← hp]
  have HP := Lib.hid hp
  have hbx : ∃ x, F[b]? = some x ∧ ((x.up = none ∧ c = []) ∨ ∃ u, x.up = some u ∧ Chain F u c) := by
    cases hc with
    | root a b => exact ⟨_, a, .inl ⟨b, rfl⟩⟩
    | up a b c => exact ⟨_, a, .inr ⟨_, b, c⟩⟩
  obtain ⟨x, hx, hcu⟩ := hbx
  have hb := (List.getElem?_eq_some_iff.1 hx).1
  have HC := Lib.hid hcu
  have b0 := h.b0
  obtain ⟨g, cap, P, dv, e, hR, y0, y1, y8, y9, y10⟩ := h.get hx
  rw [e] at b0
  clear hp hcu h e y0 y1 y9 y10 hR
  go_enter Tryd.func18, Tryd.ntmps18
  go_wp2_with fail
  clear b0 y8
  go_loopg [7] c.length (fun n v wr => ∃ (o : Option Nat) (rest : List Nat), v = .int .i64 (upI o) ∧ Hid (((o = none ∧ rest = []) ∨ ∃ u, o = some u ∧ Chain F u rest) ∧ (a ∈ c ↔ a ∈ rest) ∧ rest.length = n ∧ Below w.heap.size w wr))
  case atStart => exact ⟨x.up, c, rfl, Lib.hid ⟨HC.out, Iff.rfl, rfl, Below.refl _ _⟩⟩
  case round =>
    obtain ⟨o, rest, rfl, hw⟩ := hrel
    cases o with
    | none =>
      have hres : p = false := by
        rcases hw.out.1 with ⟨_, e⟩ | ⟨u, e, _⟩
        · rw [HP.out]; exact decide_eq_false (fun hm => by have := hw.out.2.1.1 hm; rw [e] at this; cases this)
        · cases e
      have HR := Lib.hid hres
      clear hres
      have e8 : upI none = -1 := rfl
      rw [e8]
      clear e8
      go_wp2_with fail
      try rw [Exit.noGoto_ret]
      go_ret
      exact ⟨by rw [HR.out]; rfl, hw.out.2.2.2⟩
    | some u =>
      have hN : ∃ y, F[u]? = some y ∧ ∃ t, rest = u :: t ∧ ((y.up = none ∧ t = []) ∨ ∃ v, y.up = some v ∧ Chain F v t) := by
        rcases hw.out.1 with ⟨e, _⟩ | ⟨u', e, hc⟩
        · cases e
        · cases e
          cases hc with
          | root a b => exact ⟨_, a, [], rfl, .inl ⟨b, rfl⟩⟩
          | up a b c => exact ⟨_, a, _, rfl, .inr ⟨_, b, c⟩⟩
      obtain ⟨y, hy, t, ht, hct⟩ := hN
      have hul := (List.getElem?_eq_some_iff.1 hy).1
      have h2 := H.out.below hw.out.2.2.2
      have b0 := h2.b0
      obtain ⟨g2, cap2, P2, dv2, e2, hR2, z0, z1, z8, z9, z10⟩ := h2.get hy
      rw [e2] at b0
      have eu : upI (some u) = (u : Int) := rfl
      rw [eu]
      have ud : decide (0 ≤ (u : Int)) = true := by simp
      clear e2 h2 z0 z1 z9 z10 hR2 eu
      by_cases hua : u = a
      · have hres : p = true := by
          rw [HP.out]; exact decide_eq_true (hw.out.2.1.2 (by rw [ht, hua]; simp))
        have HR := Lib.hid hres
        have q1 : ((u : Int) == (a : Int)) = true := by simp [hua]
        clear hres ht hct
        subst hua
        go_wp2_with fail
        try rw [Exit.noGoto_ret]
        go_ret
        exact ⟨by rw [HR.out]; rfl, hw.out.2.2.2⟩
      · have q1 : ((u : Int) == (a : Int)) = false := by simp; omega
        have q2 : ¬ ((u : Int) = (a : Int)) := by omega
        have HN := Lib.hid (And.intro hct (And.intro (show a ∈ c ↔ a ∈ t by rw [hw.out.2.1, ht]; simp [Ne.symm hua]) (show t.length < gk by have := hw.out.2.2.1; rw [ht] at this; simp at this; omega)))
        clear hct ht
        go_wp2_with fail
        go_roundg t.length
        case measure => exact HN.out.2.2
        case rel => exact ⟨y.up, t, rfl, Lib.hid ⟨HN.out.1, HN.out.2.1, rfl, hw.out.2.2.2⟩⟩
end
def isH (s g : Nat) (x : FN) : Bool := x.live && decide (x.sl = s ∧ x.gn = g)
def atI (F : For) (s g : Nat) : Int := match F.findIdx? (isH s g) with | some k => (k : Int) | none => -1
theorem atI_some {F : For} {s g k : Nat} {x : FN} (hx : F[k]? = some x) (hp : isH s g x = true) (hb : ∀ j, j < k → ∀ y, F[j]? = some y → isH s g y = false) : atI F s g = (k : Int) := by
  have e : F.findIdx? (isH s g) = some k := by
    obtain ⟨hk, e⟩ := List.getElem?_eq_some_iff.1 hx
    rw [List.findIdx?_eq_some_iff_getElem]
    refine ⟨hk, by rw [e]; exact hp, fun j hj => ?_⟩
    rw [hb j hj _ (List.getElem?_eq_getElem (by omega))]; simp
  unfold atI
  rw [e]
theorem atI_none {F : For} {s g : Nat} (hb : ∀ j, j < F.length → ∀ y, F[j]? = some y → isH s g y = false) : atI F s g = -1 := by
  have e : F.findIdx? (isH s g) = none := by
    rw [List.findIdx?_eq_none_iff]
    intro x hx
    obtain ⟨j, hj, e⟩ := List.getElem_of_mem hx
    exact hb j hj x (by rw [List.getElem?_eq_getElem hj, e])
  unfold atI
  rw [e]
section
variable {B : Nat} {Q : Nat → Prop} {w w' : World} {fb : Nat} {F : For} {R : List RN} {rv : Value}
set_option maxHeartbeats 2000000 in
theorem rat_calls (h : FoAt B Q w fb F R rv) (s g : Nat) :
    Calls Tryd.prog 11 #[.pointer (some ⟨fb, 0, none⟩), .agg #[.int .u32 (s : Int), .int .u32 (g : Int)]] w fun e w' => e = .returned (.int .i64 (atI F s g)) ∧ Below w.heap.size w w' := by
  have H := Lib.hid h
  have hbig := h.big
  obtain ⟨r, hr⟩ : ∃ r, r = atI F s g := ⟨_, rfl⟩
  rw [← hr]
  have HR0 := Lib.hid hr
  obtain ⟨V, hV⟩ : ∃ V, V = w.alloc (.cells #[.int .u32 (s : Int), .int .u32 (g : Int)] 31) := ⟨_, rfl⟩
  have bV : Below w.heap.size w V := by rw [hV]; exact (by repeat (first | exact Below.refl _ _ | assumption | refine Below.drew ?_ | refine below_drewN ?_ _ | refine Below.alloc ?_ (by simp <;> omega) _ | refine Below.setCell ?_ (by simp <;> omega) _ | (apply bl_trans; assumption; (simp <;> omega))))
  have hx : V.heap[w.heap.size]? = some (.cells #[.int .u32 (s : Int), .int .u32 (g : Int)] 31 (0, 0)) := by rw [hV]; exact Go.heap_alloc_new w _
  have HV := Lib.hid (And.intro bV hx)
  have hV2 := hV
  clear hV bV hx h hr
  go_enter Tryd.func11, Tryd.ntmps11
  go_wp2_with fail
  rw [← hV2]
  clear hV2
  go_loopg [5] F.length (fun n v wr => ∃ (k : Nat), v = .int .i64 (k : Int) ∧ Hid (k + n = F.length ∧ (∀ j, j < k → ∀ y, F[j]? = some y → isH s g y = false) ∧ Below w.heap.size w wr ∧ wr.heap[w.heap.size]? = some (.cells #[.int .u32 (s : Int), .int .u32 (g : Int)] 31 (0, 0))))
  case atStart => exact ⟨0, rfl, Lib.hid ⟨by omega, fun j hj => by omega, HV.out.1, HV.out.2⟩⟩
  case round =>
    obtain ⟨k, rfl, hw⟩ := hrel
    have h2 := H.out.below hw.out.2.2.1
    have b0 := h2.b0
    have x0 : wr.cell? ⟨w.heap.size, 0, none⟩ = some (.int .u32 (s : Int)) := cell_blk hw.out.2.2.2 0 rfl
    have x1 : wr.cell? ⟨w.heap.size, 1, none⟩ = some (.int .u32 (g : Int)) := cell_blk hw.out.2.2.2 1 rfl
    have hsum := hw.out.1
    by_cases hk : k < F.length
    · obtain ⟨x, hx⟩ : ∃ x, F[k]? = some x := ⟨_, List.getElem?_eq_getElem hk⟩
      obtain ⟨gb, cap, P, dv, e, hR, y0, y1, y8, y9, y10⟩ := h2.get hx
      rw [e] at b0
      clear e h2 y8 y9 hR
      have HX := Lib.hid hx
      have ql : decide ((k : Int) < (F.length : Int)) = true := by simp; omega
      have wk : IntKind.i64.wrap ((k : Int) + 1) = (k : Int) + 1 := IntWalk.i64_in _ (by omega)
      have HB : ∀ n, Hid (Below w.heap.size w (wr.drewN n)) := fun n => Lib.hid (below_drewN hw.out.2.2.1 n)
      cases hl : x.live with
      | false =>
        rw [hl] at y10
        have HN : Hid (isH s g x = false) := Lib.hid (by unfold isH; rw [hl]; rfl)
        clear hx hl
        go_wp2_with fail
        go_quiet (fail)
        go_wp2_with fail
        go_roundg (gk - 1)
        case measure => omega
        case rel => exact ⟨k + 1, by go_num, Lib.hid ⟨by omega, fun j hj y hy => by
            rcases Nat.lt_succ_iff_lt_or_eq.1 hj with hj | rfl
            · exact hw.out.2.1 j hj y hy
            · rw [HX.out] at hy; cases hy; exact HN.out, (HB _).out, hw.out.2.2.2⟩⟩
      | true =>
        rw [hl] at y10
        by_cases hp : x.sl = s ∧ x.gn = g
        · have q1 : hEq (x.sl : Int) (x.gn : Int) (s : Int) (g : Int) = true := hEq_true (by omega) (by omega)
          have hres : r = (k : Int) := by
            rw [HR0.out]
            exact atI_some hx (by unfold isH; rw [hl]; simp [hp]) hw.out.2.1
          have HRR := Lib.hid hres
          clear hres hx hl hp
          go_wp2_with fail
          go_quiet (fail)
          go_wp2_with fail
          try rw [Exit.noGoto_ret]
          go_ret
          exact ⟨by rw [HRR.out]; rfl, (HB _).out⟩
        · have q1 : hEq (x.sl : Int) (x.gn : Int) (s : Int) (g : Int) = false := hEq_false (by omega)
          have HN : Hid (isH s g x = false) := Lib.hid (by unfold isH; rw [hl]; simp; omega)
          clear hx hl hp
          go_wp2_with fail
          go_quiet (fail)
          go_wp2_with fail
          go_roundg (gk - 1)
          case measure => omega
          case rel => exact ⟨k + 1, by go_num, Lib.hid ⟨by omega, fun j hj y hy => by
              rcases Nat.lt_succ_iff_lt_or_eq.1 hj with hj | rfl
              · exact hw.out.2.1 j hj y hy
              · rw [HX.out] at hy; cases hy; exact HN.out, (HB _).out, hw.out.2.2.2⟩⟩
    · obtain ⟨a, cap, e⟩ := h2.shape
      rw [e] at b0
      clear e h2
      have ql : decide ((k : Int) < (F.length : Int)) = false := by simp; omega
      have hres : r = -1 := by
        rw [HR0.out]
        exact atI_none (fun j hj y hy => hw.out.2.1 j (by omega) y hy)
      have HRR := Lib.hid hres
      clear hres
      go_wp2_with fail
      try rw [Exit.noGoto_ret]
      go_ret
      exact ⟨by rw [HRR.out]; rfl, hw.out.2.2.1⟩
def plI (L : List Nat) (v : Nat) : Int := if v ∈ L then (L.idxOf v : Int) else -1
theorem rplace_calls {base : Nat} {lv : Value} {L : List Nat} (h : w.ownsRow base 3 1 lv L.length (icells L)) (hL : L.length ≤ 9223372036854775807) (v : Nat) :
    Calls Tryd.prog 50 #[lv, .int .i64 (v : Int)] w fun e w' => e = .returned (.int .i64 (plI L v)) ∧ Below w.heap.size w w' := by
  obtain ⟨r, hr⟩ : ∃ r, r = plI L v := ⟨_, rfl⟩
  rw [← hr]
  have HR0 := Lib.hid hr
  have hsh : ∃ a cap, lv = .slice a L.length cap := by
    rcases h.2 with ⟨e, hn⟩ | ⟨gb, cap, cur, e, _⟩
    · exact ⟨none, 0, by rw [e, hn]⟩
    · exact ⟨_, cap, e⟩
  obtain ⟨la, cap, rfl⟩ := hsh
  have HC : Hid (∀ (j c : Nat), L[j]? = some c → ∃ gb, la = some ⟨gb, 0, none⟩ ∧ w.cell? ⟨gb, j, none⟩ = some (.int .i64 (c : Int))) := Lib.hid (fun j c hj => by
    have hk := (List.getElem?_eq_some_iff.1 hj).1
    have e1 : (icells L)[j]? = some (.int .i64 (c : Int)) := by unfold icells; rw [List.getElem?_map, hj]; rfl
    rcases h.2 with ⟨e, hn⟩ | ⟨gb, cap', cur, e, _⟩
    · omega
    · cases e
      exact ⟨gb, rfl, by rw [h.cellAt j (by omega), e1]⟩)
  clear h hr
  go_enter Tryd.func50, Tryd.ntmps50
  go_wp2_with fail
  go_loopg [5] L.length (fun n u wr => ∃ (k : Nat), u = .int .i64 (k : Int) ∧ wr = w ∧ Hid (k + n = L.length ∧ v ∉ L.take k))
  case atStart => exact ⟨0, rfl, rfl, Lib.hid ⟨by omega, by simp⟩⟩
  case round =>
    obtain ⟨k, rfl, rfl, hw⟩ := hrel
    have hsum := hw.out.1
    by_cases hk : k < L.length
    · obtain ⟨c, hc⟩ : ∃ c, L[k]? = some c := ⟨_, List.getElem?_eq_getElem hk⟩
      obtain ⟨gb, rfl, y0⟩ := HC.out k c hc
      have ql : decide ((k : Int) < (L.length : Int)) = true := by simp; omega
      have wk : IntKind.i64.wrap ((k : Int) + 1) = (k : Int) + 1 := IntWalk.i64_in _ (by omega)
      have hsplit : L = L.take k ++ c :: L.drop (k + 1) := by
        obtain ⟨hk', e⟩ := List.getElem?_eq_some_iff.1 hc
        rw [← e, ← List.drop_eq_getElem_cons hk', List.take_append_drop]
      by_cases hcv : c = v
      · have hres : r = (k : Int) := by
          rw [HR0.out]
          subst hcv
          unfold plI
          rw [if_pos (List.mem_of_getElem? hc)]
          congr 1
          have e1 : (L.take k ++ c :: L.drop (k + 1)).idxOf c = k := by
            rw [List.idxOf_append, if_neg hw.out.2, List.idxOf_cons_self, List.length_take]; omega
          rw [← hsplit] at e1
          exact e1
        have HRR := Lib.hid hres
        clear hres hc hsplit
        subst hcv
        go_wp2_with fail
        try rw [Exit.noGoto_ret]
        go_ret
        exact ⟨by rw [HRR.out]; rfl, Below.refl _ _⟩
      · have q2 : ¬ ((c : Int) = (v : Int)) := by omega
        have q1 : ((c : Int) == (v : Int)) = false := by simp; omega
        have HN : Hid (v ∉ L.take (k + 1)) := Lib.hid (by
          rw [List.take_add_one, hc]; simp only [Option.toList_some, List.mem_append, List.mem_singleton, not_or]
          exact ⟨hw.out.2, fun e => hcv e.symm⟩)
        clear hc hsplit
        go_wp2_with fail
        go_roundg (gk - 1)
        case measure => omega
        case rel => exact ⟨k + 1, by go_num, rfl, Lib.hid ⟨by omega, HN.out⟩⟩
    · have ql : decide ((k : Int) < (L.length : Int)) = false := by simp; omega
      have hres : r = -1 := by
        rw [HR0.out]
        unfold plI
        rw [if_neg (fun hm => hw.out.2 (by rw [List.take_of_length_le (by omega)]; exact hm))]
      have HRR := Lib.hid hres
      clear hres
      go_wp2_with fail
      try rw [Exit.noGoto_ret]
      go_ret
      exact ⟨by rw [HRR.out]; rfl, Below.refl _ _⟩
end
theorem infoFoN : (Tryd.prog.info? 69).map (fun i => (i.zero, i.size, i.bytes)) = some (some (.agg #[.int .u32 0, .int .u32 0, .int .i64 0, .string ⟨#[]⟩, .slice none 0 0, .slice none 0 0, .int .u32 0, .int .u32 0, .int .i64 0, .slice none 0 0, .bool false]), 11, 128) := by kernel_rfl
section
variable {B : Nat} {Q : Nat → Prop} {w w' : World} {fb : Nat} {F : For} {R : List RN} {rv : Value}
theorem rcells_one (r : RN) (h : ∃ a n c, r.2.2 = .slice a n c) : ∀ u ∈ rcells r, u.oneCell' = true := by
  obtain ⟨a, n, c, e⟩ := h
  intro u hu
  unfold rcells at hu
  rw [e] at hu
  simp only [List.mem_cons, List.not_mem_nil, or_false] at hu
  rcases hu with rfl | rfl | rfl | rfl | rfl | rfl | rfl | rfl | rfl | rfl | rfl <;> rfl
theorem FoAt.pushed (h : FoAt B Q w fb F R rv) {w3 w4 : World} {r : RN} (hl : Below w.heap.size w w3) (hgrow : w3.grownBy w4 rv.ownBlock) {gg cap : Nat}
    (hown1 : w4.ownsRow B 69 11 (.slice (some ⟨gg, 0, none⟩) (R.length + 1) cap) (R.length + 1) (R.flatMap rcells ++ rcells r)) (hat : rv.ownBlock = some gg ∨ w.heap.size ≤ gg)
    (hd : r.1.down = [] ∧ r.2.2 = .slice none 0 0) (hP : NdK Q w r.2.1) (hbig : F.length < 1099511627776) :
    FoAt B (fun k => Q k ∨ w.heap.size ≤ k ∧ k < (w4.setCell ⟨fb, 0, none⟩ (.slice (some ⟨gg, 0, none⟩) (R.length + 1) cap)).heap.size) (w4.setCell ⟨fb, 0, none⟩ (.slice (some ⟨gg, 0, none⟩) (R.length + 1) cap)) fb (F ++ [r.1]) (R ++ [r]) (.slice (some ⟨gg, 0, none⟩) (R.length + 1) cap) ∧
    FrG [61, 69] Q w (w4.setCell ⟨fb, 0, none⟩ (.slice (some ⟨gg, 0, none⟩) (R.length + 1) cap)) := by
  have hrow3 := (h.below hl).row
  have f0 : FrG [69] Q w w3 := FrG.of_below hl
  have f1 : FrG [69] Q w w4 := f0.append hrow3 (fun k hk => .inl (h.rq k hk)) (by decide) hgrow
  have hb4 := f1.blk h.blk (by decide)
  have f2 : FrG [61, 69] Q w (w4.setCell ⟨fb, 0, none⟩ (.slice (some ⟨gg, 0, none⟩) (R.length + 1) cap)) := (f1.mono (T' := [61, 69]) (by decide) (fun _ h => h)).set (a := ⟨fb, 0, none⟩) (.inl h.own.1) hb4 (by decide) _
  have f3 : FrG [61] (fun k => k = fb) w4 (w4.setCell ⟨fb, 0, none⟩ (.slice (some ⟨gg, 0, none⟩) (R.length + 1) cap)) := (FrG.refl [61] (fun k => k = fb) w4).set (a := ⟨fb, 0, none⟩) (.inl rfl) hb4 (List.mem_singleton.2 rfl) _
  have hlt := hown1.lt gg rfl
  refine ⟨⟨by rw [List.map_append, h.eq]; rfl, by simp; omega, ⟨.inl h.own.1, h.own.2⟩, set_blk hb4 0 _, ?_, ?_, ?_, ?_⟩, f2⟩
  · rw [List.flatMap_append]
    have : [r].flatMap rcells = rcells r := by simp
    rw [this, List.length_append]
    exact f3.row hown1 (by decide)
  · intro k hk
    cases hk
    rcases hat with e | e
    · exact .inl (h.rq _ e)
    · exact .inr ⟨e, by simpa using hlt.2⟩
  · intro q hq
    rcases List.mem_append.1 hq with hq | hq
    · exact ⟨f2.row (h.down q hq).1 (by decide), fun k hk => .inl ((h.down q hq).2 k hk)⟩
    · obtain rfl := List.mem_singleton.1 hq
      rw [hd.1, hd.2]
      exact ⟨World.ownsRow_nil _ _ _ _, fun k hk => by cases hk⟩
  · intro q hq
    rcases List.mem_append.1 hq with hq | hq
    · exact (h.has q hq).frg f2
    · obtain rfl := List.mem_singleton.1 hq
      exact hP.frg f2
theorem NdK.set {P : Nd} (h : NdK Q w P) {a : Addr} (ha : Q a.block) (v : Value) : NdK Q (w.setCell a v) P := fun W hW => h W (fun k o hk ho => hW k o hk (by
  by_cases e : k = a.block
  · subst e; exact (hk ha).elim
  · exact set_other ho e v))
theorem FoAt.stored {g cap n : Nat} (h : FoAt B Q w fb F R (.slice (some ⟨g, 0, none⟩) n cap)) {k : Nat} {r r' : RN} (hr : R[k]? = some r) {j : Nat} (hj : j < 11) {v : Value} (hs : rcells r' = (rcells r).set j v) (hp : r'.2.1 = r.2.1)
    (hd : w.ownsRow B 3 1 r'.2.2 r'.1.down.length (icells r'.1.down) ∧ ∀ k, r'.2.2.ownBlock = some k → Q k) :
    FoAt B Q (w.setCell ⟨g, k * 11 + j, none⟩ v) fb (F.set k r'.1) (R.set k r') (.slice (some ⟨g, 0, none⟩) n cap) ∧ FrG [69] Q w (w.setCell ⟨g, k * 11 + j, none⟩ v) := by
  have hn : n = R.length := by obtain ⟨a, c, e⟩ := h.shape; cases e; exact h.len.symm
  subst hn
  obtain ⟨cur, hcur, _⟩ := rwBlk h.row
  have hg : Q g := h.rq g rfl
  have f : FrG [69] Q w (w.setCell ⟨g, k * 11 + j, none⟩ v) := (FrG.refl [69] Q w).set (a := ⟨g, k * 11 + j, none⟩) (.inl hg) hcur (by decide) _
  refine ⟨⟨?_, by simpa using h.big, h.own, f.blk h.blk (by decide), ?_, h.rq, ?_, ?_⟩, f⟩
  · rw [List.map_set, h.eq]
  · rw [fl_set rcells_len hr j hj hs, List.length_set]
    exact (h.row.stored _ v).1
  · intro q hq
    rcases List.mem_or_eq_of_mem_set hq with hq | rfl
    · exact ⟨f.row (h.down q hq).1 (by decide), (h.down q hq).2⟩
    · exact ⟨f.row hd.1 (by decide), hd.2⟩
  · intro q hq
    rcases List.mem_or_eq_of_mem_set hq with hq | rfl
    · exact (h.has q hq).set hg v
    · rw [hp]; exact (h.has r (List.mem_of_getElem? hr)).set hg v
set_option maxHeartbeats 2000000 in
theorem rmade_calls (h : FoAt B Q w fb F R rv) (hB : B ≤ w.heap.size) (s g : Nat) (P : Nd) (hP : NdK Q w P) (hbig : F.length < 1099511627776) :
    Calls Tryd.prog 38 #[.pointer (some ⟨fb, 0, none⟩), .agg #[.int .u32 (s : Int), .int .u32 (g : Int)], P.v] w fun e w' => ∃ rv' : Value, e = .returned (.tuple #[]) ∧
      FoAt B (fun k => Q k ∨ w.heap.size ≤ k ∧ k < w'.heap.size) w' fb (Made F s g) (R ++ [(⟨s, g, none, [], true⟩, P, .slice none 0 0)]) rv' ∧ FrG [61, 69] Q w w' := by
  have H := Lib.hid h
  have HP := Lib.hid hP
  have HBG := Lib.hid hbig
  have hl := h.len
  have hRl : R.length < 1099511627776 := by omega
  obtain ⟨kd, nm, da, dc, dl, aa, ac, al, sl, gn⟩ := P
  obtain ⟨V, hV⟩ : ∃ V, V = (w.alloc (.cells #[.int .u32 (s : Int), .int .u32 (g : Int)] 31)).alloc (.cells #[.int .i64 kd, .string nm, .slice da dl.length dc, .slice aa al.length ac, .int .u32 sl, .int .u32 gn] 66) := ⟨_, rfl⟩
  have bV : Below w.heap.size w V := by rw [hV]; exact (by repeat (first | exact Below.refl _ _ | assumption | refine Below.drew ?_ | refine below_drewN ?_ _ | refine Below.alloc ?_ (by simp <;> omega) _ | refine Below.setCell ?_ (by simp <;> omega) _ | (apply bl_trans; assumption; (simp <;> omega))))
  have hx : V.heap[w.heap.size]? = some (.cells #[.int .u32 (s : Int), .int .u32 (g : Int)] 31 (0, 0)) := by rw [hV]; exact alloc_blk (Go.heap_alloc_new w _) _
  have hy : V.heap[w.heap.size + 1]? = some (.cells #[.int .i64 kd, .string nm, .slice da dl.length dc, .slice aa al.length ac, .int .u32 sl, .int .u32 gn] 66 (0, 0)) := by rw [hV]; exact alloc2_blk w _ _
  have h2 := h.below bV
  have b0 := h2.b0
  have fr0 := free_blk h2.blk 0
  have x0 := cell_blk hx 0 rfl
  have x1 := cell_blk hx 1 rfl
  have y0 := cell_blk hy 0 rfl
  have y1 := cell_blk hy 1 rfl
  have y2 := cell_blk hy 2 rfl
  have y3 := cell_blk hy 3 rfl
  have y4 := cell_blk hy 4 rfl
  have y5 := cell_blk hy 5 rfl
  simp at x0 x1 y0 y1 y2 y3 y4 y5
  have HV := Lib.hid (And.intro bV h2)
  have HROW := Lib.hid h2.row
  have HFR := Lib.hid h2.blk
  have ltf : fb < V.heap.size := lt_of_some h2.blk
  have hBV : B ≤ V.heap.size := Nat.le_trans hB bV.size
  have hbV : w.heap.size ≤ V.heap.size := bV.size
  clear h2
  obtain ⟨i0, hi0, hz0, hz1, hz2⟩ := info_parts infoFoN
  have hV2 := hV
  clear hV hx hy bV h hP
  show Calls Tryd.prog 38 #[.pointer (some ⟨fb, 0, none⟩), .agg #[.int .u32 (s : Int), .int .u32 (g : Int)], .agg #[.int .i64 kd, .string nm, .slice da dl.length dc, .slice aa al.length ac, .int .u32 sl, .int .u32 gn]] w _
  go_enter Tryd.func38, Tryd.ntmps38
  go_wp2_with fail
  rw [← hV2]
  clear hV2
  go_region_law ((refine step_append_lies _ (by rfl) _ _ 59 (by rfl) B 69 i0 _ 11 128 Tryd.underlying59 hi0 hz0 hz1 hz2 rfl (by omega) rv _ _ (by rfl) ((HROW.out.alloc _).drew) ⟨V.heap.size, 0, none⟩ 1 1 (rcells (⟨s, g, none, [], true⟩, ⟨kd, nm, da, dc, dl, aa, ac, al, sl, gn⟩, .slice none 0 0)) (by rfl) (by rfl) (World.news_of_block (cs := (rcells (⟨s, g, none, [], true⟩, ⟨kd, nm, da, dc, dl, aa, ac, al, sl, gn⟩, .slice none 0 0)).toArray) (t := 69) (fr := (0, 0)) (Go.heap_alloc_new V _)) (rcells_one _ ⟨_, _, _, rfl⟩) (by omega) (by unfold maxLen; omega) (by omega) (by simp; omega) (V.heap.size + 1) (by simp) ?_; intro gg cap1 w4 hown1 hgrow hat hlt; have nb1 := (hgrow.block fb (by simp; omega) (row_ne HROW.out HFR.out (by decide))).trans (alloc_blk HFR.out _); have q1 := cell_blk nb1 0 rfl; have q2 := free_blk nb1 0))
  all_goals have HZ := Lib.hid (H.out.pushed (w3 := (V.alloc (.cells #[.int .u32 (s : Int), .int .u32 (g : Int), .int .i64 kd, .string nm, .slice da dl.length dc, .slice aa al.length ac, .int .u32 sl, .int .u32 gn, .int .i64 (-1), .slice none 0 0, .bool true] 69)).drew) (r := (⟨s, g, none, [], true⟩, ⟨kd, nm, da, dc, dl, aa, ac, al, sl, gn⟩, .slice none 0 0)) ((HV.out.1.alloc hbV _).drew) hgrow hown1 (hat.imp id (fun e => by omega)) ⟨rfl, rfl⟩ HP.out HBG.out)
  all_goals clear hgrow hown1 hat nb1
  all_goals go_wp2_with fail
  all_goals go_end0
  all_goals have HZ2 := HZ.out
  all_goals rw [hl] at HZ2
  all_goals exact ⟨rfl, ⟨_, HZ2.1⟩, HZ2.2⟩
end
theorem infoInt : (Tryd.prog.info? 3).map (fun i => (i.zero, i.size, i.bytes)) = some (some (.int .i64 0), 1, 8) := by kernel_rfl
theorem icells_len (l : List Nat) : (icells l).length = l.length := by simp [icells]
theorem icells_one (l : List Nat) : ∀ u ∈ icells l, u.oneCell' = true := by
  intro u hu
  obtain ⟨j, _, rfl⟩ := List.mem_map.1 hu
  rfl
theorem icells_app (a b : List Nat) : icells (a ++ b) = icells a ++ icells b := by simp [icells]
theorem hng_set {F : For} {i u p : Nat} {xi xu : FN} (hi : F[i]? = some xi) (hu : F[u]? = some xu) (hne : i ≠ u) :
    (F.set u { xu with down := ins xu.down p i }).set i { xi with up := some u } = hng F i u p := by
  apply List.ext_getElem?
  intro k
  have hil := (List.getElem?_eq_some_iff.1 hi).1
  have hul := (List.getElem?_eq_some_iff.1 hu).1
  rw [hng_at hne, List.getElem?_set]
  by_cases hk : k = i
  · subst hk
    simp only [hi, Option.map_some, List.length_set, hil, if_true]
  · rw [if_neg (fun e => hk e.symm), if_neg hk, List.getElem?_set]
    by_cases hk2 : k = u
    · subst hk2; simp only [hu, Option.map_some, hul, if_true]
    · rw [if_neg (fun e => hk2 e.symm), if_neg hk2]
section
variable {B : Nat} {Q : Nat → Prop} {w w' : World} {fb : Nat} {F : For} {R : List RN} {rv : Value}
theorem FoAt.hung (h : FoAt B Q w fb F R rv) {w3 : World} (hl : Below w.heap.size w w3) {i u p : Nat} {xi xu : FN} (hi : F[i]? = some xi) (hu : F[u]? = some xu) (hne : i ≠ u) {lv : Value} (hB : B ≤ w.heap.size)
    (hrow : w3.ownsRow w.heap.size 3 1 lv (ins xu.down p i).length (icells (ins xu.down p i))) {g cap : Nat} (hrv : rv = .slice (some ⟨g, 0, none⟩) F.length cap) :
    let W := (w3.setCell ⟨g, u * 11 + 9, none⟩ lv).setCell ⟨g, i * 11 + 8, none⟩ (.int .i64 (u : Int))
    ∃ R', FoAt B (fun k => Q k ∨ w.heap.size ≤ k ∧ k < W.heap.size) W fb (hng F i u p) R' rv ∧ R'.map (fun r => r.2.1) = R.map (fun r => r.2.1) ∧ FrG [69] Q w W := by
  intro W
  subst hrv
  obtain ⟨Pu, du, hRu⟩ := h.at hu
  obtain ⟨Pi, di, hRi⟩ := h.at hi
  have hs3 := hl.size
  have h3 : FoAt B (fun k => Q k ∨ w.heap.size ≤ k ∧ k < w3.heap.size) w3 fb F R (.slice (some ⟨g, 0, none⟩) F.length cap) :=
    (h.frg (FrG.of_below (T := []) hl) (by simp) (by simp) (by simp))
  have hm := List.mem_of_getElem? hRu
  obtain ⟨h4, f4⟩ := h3.stored hRu (r' := ({ xu with down := ins xu.down p i }, Pu, lv)) (j := 9) (by omega) rfl rfl ⟨hrow.mono hB, fun k hk => .inr (hrow.lt k hk)⟩
  have hRi' : (R.set u ({ xu with down := ins xu.down p i }, Pu, lv))[i]? = some (xi, Pi, di) := by
    rw [List.getElem?_set, if_neg (fun e => hne e.symm)]; exact hRi
  have hdi := h4.down _ (List.mem_of_getElem? hRi')
  obtain ⟨h5, f5⟩ := h4.stored hRi' (r' := ({ xi with up := some u }, Pi, di)) (j := 8) (v := .int .i64 (u : Int)) (by omega) rfl rfl hdi
  have hf : FrG [69] Q w W := ((FrG.of_below (T := [69]) (Q := Q) hl).trans f4 (fun k hk => hk.imp id (fun e => e.1))).trans f5 (fun k hk => hk.imp id (fun e => e.1))
  have hsz : W.heap.size = w3.heap.size := by show ((w3.setCell _ _).setCell _ _).heap.size = _; simp
  refine ⟨(R.set u ({ xu with down := ins xu.down p i }, Pu, lv)).set i ({ xi with up := some u }, Pi, di), ?_, ?_, hf⟩
  · rw [hsz, ← hng_set hi hu hne]
    exact h5
  · rw [List.map_set, List.map_set]
    apply List.ext_getElem?
    intro k
    rw [List.getElem?_set, List.getElem?_set]
    simp only [List.length_set, List.length_map]
    split
    · rename_i e; subst e
      have := (List.getElem?_eq_some_iff.1 hRi).1
      simp only [this, if_true, List.getElem?_map, hRi, Option.map_some]
    · split
      · rename_i e; subst e
        have := (List.getElem?_eq_some_iff.1 hRu).1
        simp only [this, if_true, List.getElem?_map, hRu, Option.map_some]
      · rfl
set_option maxHeartbeats 2000000 in
theorem rhang_calls (h : FoAt B Q w fb F R rv) (hB : B ≤ w.heap.size) {i u back : Nat} {xi xu : FN} (hi : F[i]? = some xi) (hu : F[u]? = some xu) (hne : i ≠ u) (hb : back ≤ xu.down.length) (hd : xu.down.length ≤ 1099511627776) :
    Calls Tryd.prog 70 #[.pointer (some ⟨fb, 0, none⟩), .int .i64 (i : Int), .int .i64 (u : Int), .int .i64 (back : Int)] w fun e w' => e = .returned (.tuple #[]) ∧
      (∃ R', FoAt B (fun k => Q k ∨ w.heap.size ≤ k ∧ k < w'.heap.size) w' fb (hng F i u (xu.down.length - back)) R' rv ∧ R'.map (fun r => r.2.1) = R.map (fun r => r.2.1)) ∧ FrG [69] Q w w' := by
  have H := Lib.hid h
  have HI := Lib.hid (And.intro hi (And.intro hu hne))
  have hbig := h.big
  have hil := (List.getElem?_eq_some_iff.1 hi).1
  have hul := (List.getElem?_eq_some_iff.1 hu).1
  have b0 := h.b0
  obtain ⟨g, cap, Pu, du, e, hRu, z0, z1, z8, z9, z10⟩ := h.get hu
  obtain ⟨g', cap', Pi, di, e', hRi, y0, y1, y8, y9, y10⟩ := h.get hi
  rw [e] at e'
  cases e'
  rw [e] at b0
  have HE := Lib.hid e
  have hdown := (h.down _ (List.mem_of_getElem? hRu)).1
  obtain ⟨p, hp⟩ : ∃ p, p = xu.down.length - back := ⟨_, rfl⟩
  rw [← hp]
  have l0 := lt_of_some h.blk
  obtain ⟨cur, hcur, _⟩ := rwBlk (by have := h.row; rw [h.len, e] at this; exact this)
  have l1 := lt_of_some hcur
  have HBL := Lib.hid (And.intro h.blk hcur)
  have hpn : p ≤ xu.down.length := by omega
  have hpb : ((xu.down.length : Int) - (back : Int)) = (p : Int) := by omega
  have wp0 : IntKind.i64.wrap ((p : Nat) : Int) = (p : Int) := IntWalk.i64_in _ (by omega)
  have fzN : ∀ o, w.frozen? ⟨g, o, none⟩ = false := fun o => free_blk hcur o
  obtain ⟨i0, hi0, hz0, hz1, hz2⟩ := info_parts infoInt
  clear hp hi hu z0 z1 z8 z10 y0 y1 y9 y10 hRi
  have HD := Lib.hid hdown
  obtain ⟨n, hne2⟩ : ∃ n, n = xu.down.length := ⟨_, rfl⟩
  have HNE := Lib.hid hne2
  rw [← hne2] at hpn hpb hd hb
  have hsh := hdown.2
  have HZ9 := Lib.hid z9
  clear h hRu hcur z9 HBL hdown
  rcases hsh with ⟨e2, hn⟩ | ⟨dg, dcap, dcur, e2, hdb, hdblk, hdc, hdm, hds, hdx⟩
  · have e2 : du = _ := e2
    subst e2
    have hn : xu.down.length = 0 := hn
    have hnil : xu.down = [] := List.eq_nil_of_length_eq_zero hn
    have hn0 : n = 0 := by omega
    have hp0 : p = 0 := by omega
    subst hn0
    subst hp0
    have z9 := HZ9.out
    have wsub : IntKind.i64.wrap ((0 : Int) - (back : Int)) = 0 := by rw [show ((0 : Int) - (back : Int)) = 0 by omega]; rfl
    have hbk : back = 0 := by omega
    subst hbk
    have hm1 : 0 + 1 ≤ maxLen := by unfold maxLen; omega
    have eL : (ins xu.down 0 i).length = 0 + 1 + 0 := by rw [hnil]; rfl
    have eI : icells (ins xu.down 0 i) = [] ++ [.int .i64 (i : Int)] ++ [] := by
      rw [hnil]; rfl
    have HL := Lib.hid (And.intro eL eI)
    have HLB : Hid (∀ W, Below w.heap.size w W → (W.cell? ⟨fb, 0, none⟩ = some (.slice (some ⟨g, 0, none⟩) F.length cap) ∧ W.cell? ⟨g, u * 11 + 9, none⟩ = some (.slice none 0 0) ∧ W.cell? ⟨g, i * 11 + 8, none⟩ = some (.int .i64 (upI xi.up))) ∧ (∀ o, W.frozen? ⟨g, o, none⟩ = false)) := Lib.hid (fun W b => ⟨⟨(b.cell (p := ⟨fb, 0, none⟩) l0).trans b0, (b.cell (p := ⟨g, _, none⟩) l1).trans z9, (b.cell (p := ⟨g, _, none⟩) l1).trans y8⟩, fun o => (b.frozen (p := ⟨g, o, none⟩) l1).trans (fzN o)⟩)
    have hs0 : ∀ o, w.heap.size ≤ (w.alloc o).heap.size := fun o => ((Below.refl w.heap.size w).alloc (Nat.le_refl _) o).size
    clear hn eL eI hnil wsub wp0 hpb hb hd hpn hne2
    go_enter Tryd.func70, Tryd.ntmps70
    go_wp2_with (at_builtin; (first | (refine wpList_append_lies _ rfl (.tmp 29) (.tmp 31) 67 rfl w.heap.size 3 i0 _ 1 8 Tryd.underlying67 hi0 hz0 hz1 hz2 rfl Nat.one_pos (.slice none 0 0) 0 [] rfl (World.ownsRow_nil _ _ _ _) ⟨w.heap.size, 0, none⟩ 1 1 [.int .i64 (i : Int)] rfl rfl (World.news_of_block (cs := #[.int .i64 (i : Int)]) (t := 3) (fr := (0, 0)) (Go.heap_alloc_new w _)) (icells_one [i]) Nat.one_pos hm1 (by omega) (hs0 _) (w.heap.size + 1) (by simp) ?_; intro g2 c2 w2 hown2 hg2 hat2 hlt2; obtain ⟨v2, hv2⟩ : ∃ v, v = Value.slice (some ⟨g2, 0, none⟩) (0 + 1) c2 := ⟨_, rfl⟩; rw [← hv2] at hown2 ⊢; clear hv2 hat2 hlt2; have hb2 : Below w.heap.size w w2 := ((Below.refl w.heap.size w).alloc (Nat.le_refl _) _).trans (grown_below hg2 (fun x e => (by cases e)) (hs0 _)); have hs2 := hb2.size) | (go_loud (refine wpList_append_any _ rfl (.tmp 33) (.tmp 36) 67 rfl w.heap.size 3 i0 _ 1 8 Tryd.underlying67 hi0 hz0 hz1 hz2 rfl Nat.one_pos v2 (0 + 1) ([] ++ [.int .i64 (i : Int)]) rfl hown2 none 0 0 [] rfl rfl (.inl rfl) (icells_one []) (by unfold maxLen; omega) (by omega) hs2 ?_); intro a3 c3 w3 hown3 hg3; have hb3 : Below w.heap.size w w3 := hb2.trans (grown_below hg3 (fun x e => (hown2.lt x e).1) hs2); have k1 := (HLB.out w3 hb3).1.1; have k2 := (HLB.out w3 hb3).1.2.1; have k3 := (HLB.out w3 hb3).1.2.2; have fz3 := (HLB.out w3 hb3).2)))
    all_goals have HF := H.out.hung hb3 HI.out.1 HI.out.2.1 HI.out.2.2 hB (p := 0) (lv := .slice a3 (0 + 1 + 0) c3) (by rw [HL.out.1, HL.out.2]; exact hown3) HE.out
    all_goals go_end0
    all_goals obtain ⟨R', h1, h2, h3⟩ := HF
    all_goals rw [HE.out] at h1
    all_goals exact ⟨rfl, ⟨R', h1, h2⟩, h3⟩
  · have e2 : du = .slice (some ⟨dg, 0, none⟩) n dcap := by rw [hne2]; exact e2
    have z9 : w.cell? ⟨g, u * 11 + 9, none⟩ = some (.slice (some ⟨dg, 0, none⟩) n dcap) := by rw [← e2]; exact HZ9.out
    have hndc : n ≤ dcap := by rw [hne2]; exact hdc
    have hpd : p ≤ dcap := by omega
    have wsub : IntKind.i64.wrap ((n : Int) - (back : Int)) = (p : Int) := by rw [hpb]; exact wp0
    have qmax : (if 0 < p then (p : Int) else 0) = (p : Int) := by split <;> omega
    have hm1 : p + 1 ≤ maxLen := by unfold maxLen; omega
    have hm2 : (p + 1) * 8 ≤ 140737488355328 := by omega
    have HCL : Hid (∀ W, Below w.heap.size w W → ∀ j v, (icells xu.down)[j]? = some v → W.cell? ⟨dg, j, none⟩ = some v) := Lib.hid (fun W b j v hv => by
      have hj := (List.getElem?_eq_some_iff.1 hv).1
      rw [icells_len] at hj
      have h1 := HD.out
      rw [e2, hne2] at h1
      exact (b.cell (p := ⟨dg, j, none⟩) (lt_of_some hdblk)).trans ((h1.cellAt j (by omega)).trans hv))
    have HT1 : Hid (∀ j v, (icells (xu.down.take p))[j]? = some v → w.cell? ((⟨dg, 0, none⟩ : Addr).add j) = some v) := Lib.hid (fun j v hv => by
      have hadd : (⟨dg, 0, none⟩ : Addr).add j = ⟨dg, j, none⟩ := by unfold Addr.add; split <;> simp_all
      rw [hadd]
      refine HCL.out w (Below.refl _ _) j v ?_
      unfold icells at hv ⊢
      rw [List.map_take, List.getElem?_take] at hv
      split at hv
      · exact hv
      · cases hv)
    have HT2 : Hid (∀ W, Below w.heap.size w W → ∀ j v, (icells (xu.down.drop p))[j]? = some v → W.cell? ((⟨dg, p, none⟩ : Addr).add j) = some v) := Lib.hid (fun W b j v hv => by
      have hadd : (⟨dg, p, none⟩ : Addr).add j = ⟨dg, p + j, none⟩ := by unfold Addr.add; split <;> simp_all
      rw [hadd]
      refine HCL.out W b _ v ?_
      unfold icells at hv ⊢
      rw [List.map_drop, List.getElem?_drop] at hv
      exact hv)
    have HS3 : Hid (∀ W, Below w.heap.size w W → (n - p = 0 ∨ ∃ ad, (if dcap = p then some (⟨dg, 0, none⟩ : Addr) else some ⟨dg, p, none⟩) = some ad ∧ ∀ j v, (icells (xu.down.drop p))[j]? = some v → W.cell? (ad.add j) = some v)) := Lib.hid (fun W b => by
      by_cases hc : dcap = p
      · exact .inl (by omega)
      · exact .inr ⟨_, by rw [if_neg hc], HT2.out W b⟩)
    have tl : (icells (xu.down.take p)).length = p * 1 := by rw [icells_len, List.length_take]; omega
    have dl : (icells (xu.down.drop p)).length = (n - p) * 1 := by rw [icells_len, List.length_drop]; omega
    have HLB : Hid (∀ W, Below w.heap.size w W → (W.cell? ⟨fb, 0, none⟩ = some (.slice (some ⟨g, 0, none⟩) F.length cap) ∧ W.cell? ⟨g, u * 11 + 9, none⟩ = some (.slice (some ⟨dg, 0, none⟩) n dcap) ∧ W.cell? ⟨g, i * 11 + 8, none⟩ = some (.int .i64 (upI xi.up))) ∧ (∀ o, W.frozen? ⟨g, o, none⟩ = false)) := Lib.hid (fun W b => ⟨⟨(b.cell (p := ⟨fb, 0, none⟩) l0).trans b0, (b.cell (p := ⟨g, _, none⟩) l1).trans z9, (b.cell (p := ⟨g, _, none⟩) l1).trans y8⟩, fun o => (b.frozen (p := ⟨g, o, none⟩) l1).trans (fzN o)⟩)
    clear e2 hdblk hds hdx hne2 hdc
    have eL : (ins xu.down p i).length = p + 1 + (n - p) := by unfold ins; have := HNE.out; simp; omega
    have eI : icells (ins xu.down p i) = icells (xu.down.take p) ++ [.int .i64 (i : Int)] ++ icells (xu.down.drop p) := by unfold ins icells; simp
    have HL := Lib.hid (And.intro eL eI)
    go_enter Tryd.func70, Tryd.ntmps70
    go_wp2_with (at_builtin; (first | (refine wpList_append_any _ rfl (.tmp 24) (.tmp 27) 67 rfl w.heap.size 3 i0 _ 1 8 Tryd.underlying67 hi0 hz0 hz1 hz2 rfl (by omega) (.slice none 0 0) 0 [] rfl (World.ownsRow_nil _ _ _ _) (some ⟨dg, 0, none⟩) p dcap (icells (xu.down.take p)) rfl tl (.inr ⟨_, rfl, HT1.out⟩) (icells_one _) (by unfold maxLen; omega) (by omega) (Nat.le_refl _) ?_; intro a1 c1 w1 hown1 hg1; obtain ⟨v1, hv1⟩ : ∃ v, v = Value.slice a1 (0 + p) c1 := ⟨_, rfl⟩; rw [← hv1] at hown1 ⊢; clear hv1; have hown1' : w1.ownsRow w.heap.size 3 1 v1 p (icells (xu.down.take p)) := (by simpa using hown1); clear hown1; have hb1 : Below w.heap.size w w1 := grown_below hg1 (fun x e => (by cases e)) (Nat.le_refl _); have hs1 := hb1.size; have hs1a : ∀ o, w.heap.size ≤ (w1.alloc o).heap.size := (fun o => Nat.le_trans hs1 ((Below.refl w1.heap.size w1).alloc (Nat.le_refl _) o).size)) | (refine wpList_append_lies _ rfl (.tmp 29) (.tmp 31) 67 rfl w.heap.size 3 i0 _ 1 8 Tryd.underlying67 hi0 hz0 hz1 hz2 rfl Nat.one_pos v1 p _ rfl (hown1'.alloc _) ⟨w1.heap.size, 0, none⟩ 1 1 [.int .i64 (i : Int)] rfl rfl (World.news_of_block (cs := #[.int .i64 (i : Int)]) (t := 3) (fr := (0, 0)) (Go.heap_alloc_new w1 _)) (icells_one [i]) Nat.one_pos hm1 hm2 (hs1a _) (w1.heap.size + 1) (by simp) ?_; intro g2 c2 w2 hown2 hg2 hat2 hlt2; obtain ⟨v2, hv2⟩ : ∃ v, v = Value.slice (some ⟨g2, 0, none⟩) (p + 1) c2 := ⟨_, rfl⟩; rw [← hv2] at hown2 ⊢; clear hv2 hat2 hlt2; go_loud (have hb2 : Below w.heap.size w w2 := (hb1.alloc hs1 _).trans (grown_below hg2 (fun x e => (hown1'.lt x e).1) (hs1a _))); have hs2 := hb2.size) | (go_loud (refine wpList_append_any _ rfl (.tmp 33) (.tmp 36) 67 rfl w.heap.size 3 i0 _ 1 8 Tryd.underlying67 hi0 hz0 hz1 hz2 rfl (by omega) v2 (p + 1) (icells (xu.down.take p) ++ [.int .i64 (i : Int)]) rfl hown2 _ _ _ (icells (xu.down.drop p)) rfl dl (HS3.out w2 hb2) (icells_one _) (by unfold maxLen; omega) (by omega) hs2 ?_); intro a3 c3 w3 hown3 hg3; have hb3 : Below w.heap.size w w3 := hb2.trans (grown_below hg3 (fun x e => (hown2.lt x e).1) hs2); have k1 := (HLB.out w3 hb3).1.1; have k2 := (HLB.out w3 hb3).1.2.1; have k3 := (HLB.out w3 hb3).1.2.2; have fz3 := (HLB.out w3 hb3).2)))
    all_goals have HF := H.out.hung hb3 HI.out.1 HI.out.2.1 HI.out.2.2 hB (p := p) (lv := .slice a3 (p + 1 + (n - p)) c3) (by rw [HL.out.1, HL.out.2]; exact hown3) HE.out
    all_goals go_end0
    all_goals obtain ⟨R', h1, h2, h3⟩ := HF
    all_goals rw [HE.out] at h1
    all_goals exact ⟨rfl, ⟨R', h1, h2⟩, h3⟩
end
section
variable {B : Nat} {Q : Nat → Prop} {w w' : World} {tb : Nat} {X : TX} {Lf : Nat → Nat → Nat × Nat}
theorem TreeRw.nodes (h : TreeRw B Q w tb X Lf) {Q' : Nat → Prop} (f : FrG [120] Q' w w') {Lf' : Nat → Nat → Nat × Nat}
    (hn : ∀ (k : Nat) (x : FN) nb P, X.F[k]? = some x → x.live = true → X.M[k]? = some (nb, P) → w'.heap[nb]? = some (.cells (ncells P (Lf' k) (k + 1)) 120 (0, 0))) : TreeRw B Q w' tb X Lf' := by
  refine ⟨h.lenM, h.few, h.big, ?_, h.own, f.blk h.blk (by decide), ⟨?_, h.had.2⟩, ⟨?_, h.fre.2⟩, h.slot, h.used, ?_, h.nbd, fun p hp => Nat.lt_of_lt_of_le (h.nbl p hp) f.size⟩
  · obtain ⟨Qa, h1, h2, h3⟩ := h.ar; exact ⟨Qa, h1.kept f (by decide) (by decide) (by decide), fun k hk => ⟨(h2 k hk).1, Nat.lt_of_lt_of_le (h2 k hk).2 f.size⟩, h3⟩
  · obtain ⟨hc, h1⟩ := h.had.1; exact ⟨hc, f.row h1 (by decide)⟩
  · obtain ⟨hc, h1⟩ := h.fre.1; exact ⟨hc, f.row h1 (by decide)⟩
  · intro k x nb P h1 h2 h3
    obtain ⟨a1, a2, a3, a4⟩ := h.node k x nb P h1 h2 h3
    exact ⟨a1, a2, hn k x nb P h1 h2 h3, a4.frg f (by decide) (by decide)⟩
theorem TreeRw.nb_inj (h : TreeRw B Q w tb X Lf) {k m nb : Nat} {P P' : Nd} (h1 : X.M[k]? = some (nb, P)) (h2 : X.M[m]? = some (nb, P')) : k = m := by
  have h5 : (X.M.map Prod.fst)[k]? = (X.M.map Prod.fst)[m]? := by rw [List.getElem?_map, List.getElem?_map, h1, h2]; rfl
  have hk : k < (X.M.map Prod.fst).length := by rw [List.length_map]; exact (List.getElem?_eq_some_iff.1 h1).1
  have hm : m < (X.M.map Prod.fst).length := by rw [List.length_map]; exact (List.getElem?_eq_some_iff.1 h2).1
  rw [List.getElem?_eq_getElem hk, List.getElem?_eq_getElem hm] at h5
  exact (List.getElem_inj h.nbd).1 (Option.some.inj h5)
theorem TreeRw.setL (h : TreeRw B Q w tb X Lf) {k : Nat} {x : FN} (hx : X.F[k]? = some x) (hl : x.live = true) {nb : Nat} {P : Nd} (hm : X.M[k]? = some (nb, P)) (j : Nat) (hj : j < 5) (p : Nat × Nat) :
    TreeRw B Q ((w.setCell ⟨nb, 6 + j * 2, none⟩ (.int .u32 (p.1 : Int))).setCell ⟨nb, 6 + j * 2 + 1, none⟩ (.int .u32 (p.2 : Int))) tb X (updH Lf k j p) ∧
    FrG [120] (fun b => b = nb) w ((w.setCell ⟨nb, 6 + j * 2, none⟩ (.int .u32 (p.1 : Int))).setCell ⟨nb, 6 + j * 2 + 1, none⟩ (.int .u32 (p.2 : Int))) ∧
    ((w.setCell ⟨nb, 6 + j * 2, none⟩ (.int .u32 (p.1 : Int))).setCell ⟨nb, 6 + j * 2 + 1, none⟩ (.int .u32 (p.2 : Int))).heap[nb]? = some (.cells (ncells P (updF (Lf k) j p) (k + 1)) 120 (0, 0)) := by
  have h0 := (h.node k x nb P hx hl hm).2.2.1
  have h1 := set_blk h0 (6 + j * 2) (.int .u32 (p.1 : Int))
  have h2 := set_blk h1 (6 + j * 2 + 1) (.int .u32 (p.2 : Int))
  rw [ncells_set P (Lf k) (k + 1) j hj p] at h2
  have f : FrG [120] (fun b => b = nb) w ((w.setCell ⟨nb, 6 + j * 2, none⟩ (.int .u32 (p.1 : Int))).setCell ⟨nb, 6 + j * 2 + 1, none⟩ (.int .u32 (p.2 : Int))) :=
    ((FrG.refl [120] (fun b => b = nb) w).set (a := ⟨nb, 6 + j * 2, none⟩) (.inl rfl) h0 (List.mem_singleton.2 rfl) _).set (a := ⟨nb, 6 + j * 2 + 1, none⟩) (.inl rfl) h1 (List.mem_singleton.2 rfl) _
  refine ⟨h.nodes f (fun m y nb' P' g1 g2 g3 => ?_), f, h2⟩
  by_cases e : m = k
  · subst e
    rw [hm] at g3
    cases g3
    rw [updH_same]
    exact h2
  · rw [updH_other p e]
    have hne : nb' ≠ nb := by rintro rfl; exact e (h.nb_inj g3 hm)
    exact set_other (set_other (h.node m y nb' P' g1 g2 g3).2.2.1 hne _) hne _
set_option maxHeartbeats 2000000 in
theorem set_live (h : TreeRw B Q w tb X Lf) {k : Nat} {x : FN} (hx : X.F[k]? = some x) (hl : x.live = true) (j : Nat) (hj : j < 5) (p q : Nat) :
    Calls Tryd.prog 102 #[.pointer (some ⟨tb, 0, none⟩), .agg #[.int .u32 (x.sl : Int), .int .u32 (x.gn : Int)], .int .i64 (j : Int), .agg #[.int .u32 (p : Int), .int .u32 (q : Int)]] w fun e w' =>
      e = .returned (.tuple #[]) ∧ TreeRw B Q w' tb X (updH Lf k j (p, q)) ∧ FrG [120] Q w w' := by
  obtain ⟨nb, P, hm, _⟩ := h.at_live hx hl
  have hnode := (h.node k x nb P hx hl hm).2.2.1
  have HG : Hid (∀ W, Below w.heap.size w W → Calls Tryd.prog 76 #[.pointer (some ⟨X.ab, 0, none⟩), .agg #[.int .u32 (x.sl : Int), .int .u32 (x.gn : Int)]] W fun e w' => e = .returned (.tuple #[.pointer (some ⟨nb, 0, none⟩), .int .i64 0]) ∧ Below W.heap.size W w') :=
    Lib.hid (fun W b => (h.below b).get_live hx hl hm)
  have HSET : Hid (∀ W, Below w.heap.size w W → TreeRw B Q ((W.setCell ⟨nb, 6 + j * 2, none⟩ (.int .u32 (p : Int))).setCell ⟨nb, 6 + j * 2 + 1, none⟩ (.int .u32 (q : Int))) tb X (updH Lf k j (p, q)) ∧ FrG [120] Q w ((W.setCell ⟨nb, 6 + j * 2, none⟩ (.int .u32 (p : Int))).setCell ⟨nb, 6 + j * 2 + 1, none⟩ (.int .u32 (q : Int)))) :=
    Lib.hid (fun W b => by
      have h1 := (h.below b).setL hx hl hm j hj (p, q)
      exact ⟨h1.1, (FrG.of_below b).trans (h1.2.1.mono (fun _ h => h) (fun b e => by rw [e]; exact (h.node k x nb P hx hl hm).2.1)) (fun _ h => .inl h)⟩)
  have c0 := cell_blk h.blk 0 rfl
  have ltb := lt_of_some h.blk
  have lnb := lt_of_some hnode
  have HN0 := Lib.hid (ncells_at P (Lf k) (k + 1) j hj)
  have HND := Lib.hid hnode
  have p0 : (0 : Int) ≤ (j : Int) := by omega
  have p1 : (j : Int) < 5 := by omega
  simp at c0
  obtain ⟨s, hs⟩ : ∃ s, s = x.sl := ⟨_, rfl⟩
  obtain ⟨g, hg⟩ : ∃ g, g = x.gn := ⟨_, rfl⟩
  rw [← hs, ← hg] at HG ⊢
  obtain ⟨V, hV⟩ : ∃ V, V = (w.alloc (.cells #[.int .u32 (s : Int), .int .u32 (g : Int)] 31)).alloc (.cells #[.int .u32 (p : Int), .int .u32 (q : Int)] 31) := ⟨_, rfl⟩
  have bV : Below w.heap.size w V := by rw [hV]; exact (by repeat (first | exact Below.refl _ _ | assumption | refine Below.drew ?_ | refine below_drewN ?_ _ | refine Below.alloc ?_ (by simp <;> omega) _ | refine Below.setCell ?_ (by simp <;> omega) _ | (apply bl_trans; assumption; (simp <;> omega))))
  have hx2 : V.heap[w.heap.size + 1]? = some (.cells #[.int .u32 (p : Int), .int .u32 (q : Int)] 31 (0, 0)) := by rw [hV]; exact alloc2_blk w _ _
  have hy : V.heap[w.heap.size]? = some (.cells #[.int .u32 (s : Int), .int .u32 (g : Int)] 31 (0, 0)) := by rw [hV]; exact alloc_blk (Go.heap_alloc_new w _) _
  have y0 := cell_blk hy 0 rfl
  have y1 := cell_blk hy 1 rfl
  have d0 := (bV.cell (p := ⟨tb, 0, none⟩) ltb).trans c0
  have HX := Lib.hid (And.intro hx2 bV)
  simp at y0 y1
  have hV2 := hV
  clear hV hx2 hy bV h hx hl hm hnode hs hg
  go_enter Tryd.func102, Tryd.ntmps102
  go_wp2_with fail
  rw [← hV2]
  clear hV2 c0
  go_region_with (go_at_call 76; refine (HG.out _ HX.out.2.drew).mono ?_; rintro e w1 ⟨rfl, b1⟩; have b2 : Below V.heap.size V w1 := (Below.refl _ V).drew.trans b1; have HB := Lib.hid (HX.out.2.trans (b2.mono HX.out.2.size)); have hx := (b2.block (w.heap.size + 1) (lt_of_some HX.out.1)).trans HX.out.1; have x0 := cell_blk hx 0 rfl; have x1 := cell_blk hx 1 rfl; have hn := (HB.out.block nb lnb).trans HND.out; have n0 := cell_blk hn _ HN0.out.1; have n1 := cell_blk hn _ HN0.out.2; have f0 := free_blk hn (6 + j * 2); have f1 := free_blk hn (6 + j * 2 + 1); simp at x0 x1; clear b1 b2 hx hn)
  all_goals go_wp2_with fail
  all_goals go_region
  all_goals go_wp2_with fail
  all_goals go_end0
  all_goals exact ⟨rfl, (HSET.out w1 HB.out).1.below (Below.refl _ _).drew, (HSET.out w1 HB.out).2.drew⟩
end
end Go.Proofs.YtelhnaphkbpakaaDoor
