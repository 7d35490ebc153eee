/- Part 9 of the proof of RoP: lemmas. -/
import Derived.Deep.RegionWith
import Derived.Deep.Upon
import Derived.Lib.AppendZeros
import Derived.Test.YtelhnaphkbpakaaDoorMr8
namespace Go.Proofs.YtelhnaphkbpakaaDoor
open Go.RowKit
set_option linter.unusedVariables false
structure TA (α : Type) where
  S : Nat
  G : Nat
  all : List (Nat × Bool × α)
  free : List Nat
  count : Nat
  ret : Nat
def TA.ar {α : Type} (enc : α → List Value) (T : TA α) : Ar := { S := T.S, G := T.G, all := T.all.map fun s => (s.1, s.2.1, enc s.2.2), free := T.free, count := T.count, ret := T.ret }
def TA.new {α : Type} (S G : Nat) : TA α := { S, G, all := [], free := [], count := 0, ret := 0 }
def slotWho {α : Type} (o : Option (Nat × Bool × α)) (g : Nat) : Option α :=
  match o with
  | some (g', true, x) => if g' = g then some x else none
  | _ => none
@[simp] theorem slotWho_true {α : Type} (g' g : Nat) (x : α) : slotWho (some (g', true, x)) g = if g' = g then some x else none := rfl
def TA.at {α : Type} (T : TA α) (s g : Nat) : Option α := if s = 0 then none else slotWho T.all[s - 1]? g
theorem TA.at_eq {α : Type} (T : TA α) {s g : Nat} (h : 1 ≤ s) : T.at s g = slotWho T.all[s - 1]? g := by unfold TA.at; rw [if_neg (by omega)]
def TA.alloc {α : Type} (T : TA α) (x : α) : TA α × Nat × Nat × Nat :=
  match T.free.getLast? with
  | some k =>
    match T.all[k]? with
    | some (g, _, _) => ({ T with all := T.all.set k (g + 1, true, x), free := T.free.dropLast, count := T.count + 1 }, k + 1, g + 1, 0)
    | none => (T, 0, 0, 52)
  | none => if T.all.length < T.S then ({ T with all := T.all ++ [(1, true, x)], count := T.count + 1 }, T.all.length + 1, 1, 0) else (T, 0, 0, 52)
def TA.drop {α : Type} (T : TA α) (z : α) (s g : Nat) : TA α × Nat :=
  match T.at s g with
  | some _ =>
    if g < T.G then ({ T with all := T.all.set (s - 1) (g, false, z), free := T.free ++ [s - 1], count := T.count - 1 }, 0)
    else ({ T with all := T.all.set (s - 1) (g, false, z), count := T.count - 1, ret := T.ret + 1 }, 0)
  | none => (T, 51)
def TA.get {α : Type} (T : TA α) (z : α) (s g : Nat) : α × Nat := match T.at s g with | some x => (x, 0) | none => (z, 51)
theorem TA.at_some {α : Type} {T : TA α} {s g : Nat} {x : α} (h : T.at s g = some x) : 1 ≤ s ∧ T.all[s - 1]? = some (g, true, x) := by
  unfold TA.at at h
  split at h
  · cases h
  · refine ⟨by omega, ?_⟩
    cases hk : T.all[s - 1]? with
    | none => rw [hk] at h; cases h
    | some y =>
      obtain ⟨g', u, y⟩ := y
      rw [hk] at h
      cases u
      · cases h
      · simp only [slotWho_true] at h
        split at h
        · rename_i he; cases h; rw [he]
        · cases h
theorem TA.at_none {α : Type} {enc : α → List Value} {T : TA α} {s g : Nat} (h : T.at s g = none) : (T.ar enc).live s g = false := by
  cases hl : (T.ar enc).live s g with
  | false => rfl
  | true =>
    obtain ⟨h1, t, ht⟩ := Ar.live_iff.1 hl
    simp only [TA.ar, List.getElem?_map, Option.map_eq_some_iff] at ht
    obtain ⟨⟨g', u, x⟩, h2, h3⟩ := ht
    simp only [Prod.mk.injEq] at h3
    obtain ⟨rfl, rfl, _⟩ := h3
    rw [TA.at_eq _ h1, h2] at h
    simp at h
theorem TA.ar_set {α : Type} (enc : α → List Value) (T : TA α) (k : Nat) (g : Nat) (u : Bool) (x : α) (free : List Nat) (c r : Nat) :
    TA.ar enc { T with all := T.all.set k (g, u, x), free := free, count := c, ret := r } = { T.ar enc with all := (T.ar enc).all.set k (g, u, enc x), free := free, count := c, ret := r } := by
  simp [TA.ar, List.map_set]
theorem TA.ar_get {α : Type} {enc : α → List Value} {T : TA α} {k g : Nat} {u : Bool} {x : α} (h : T.all[k]? = some (g, u, x)) : (T.ar enc).all[k]? = some (g, u, enc x) := by simp [TA.ar, h]
def ArOf {α : Type} (enc : α → List Value) (tA tS tF m B : Nat) (Q : Nat → Prop) (w : World) (ab : Nat) (T : TA α) : Prop := ∃ av fv, ArAt tA tS tF m B w ab (T.ar enc) av fv ∧ ∀ k, arQ ab av fv k → Q k
theorem ArOf.kept {α : Type} {enc : α → List Value} {tA tS tF m B : Nat} {Q : Nat → Prop} {w w' : World} {ab : Nat} {T : TA α} (h : ArOf enc tA tS tF m B Q w ab T) {L : List TypeId} {Q' : Nat → Prop} (hf : FrG L Q' w w') (h1 : tA ∉ L) (h2 : tS ∉ L) (h3 : tF ∉ L) : ArOf enc tA tS tF m B Q w' ab T :=
  let ⟨av, fv, h, q⟩ := h; ⟨av, fv, ⟨h.ok, h.base, hf.blk h.blk h1, hf.row h.rowA h2, hf.row h.rowF h3⟩, q⟩
theorem ArOf.keptQ {α : Type} {enc : α → List Value} {tA tS tF m B : Nat} {Q : Nat → Prop} {w w' : World} {ab : Nat} {T : TA α} (h : ArOf enc tA tS tF m B Q w ab T) {L : List TypeId} {Q' : Nat → Prop} (hf : FrG L Q' w w') (hq : ∀ k, Q k → ¬ Q' k) : ArOf enc tA tS tF m B Q w' ab T :=
  let ⟨av, fv, h, q⟩ := h; ⟨av, fv, ⟨h.ok, h.base, hf.blkQ h.blk (hq _ (q _ (.inl rfl))), hf.rowQ h.rowA (fun k hk => hq _ (q _ (.inr (.inl hk)))), hf.rowQ h.rowF (fun k hk => hq _ (q _ (.inr (.inr hk))))⟩, q⟩
theorem ArOf.mono {α : Type} {enc : α → List Value} {tA tS tF m B : Nat} {Q Q' : Nat → Prop} {w : World} {ab : Nat} {T : TA α} (h : ArOf enc tA tS tF m B Q w ab T) (hq : ∀ k, Q k → Q' k) : ArOf enc tA tS tF m B Q' w ab T :=
  let ⟨av, fv, h, q⟩ := h; ⟨av, fv, h, fun k hk => hq k (q k hk)⟩
theorem ArOf.below {α : Type} {enc : α → List Value} {tA tS tF m B : Nat} {Q : Nat → Prop} {w w' : World} {ab : Nat} {T : TA α} (h : ArOf enc tA tS tF m B Q w ab T) (hf : Below w.heap.size w w') : ArOf enc tA tS tF m B Q w' ab T :=
  let ⟨av, fv, h, q⟩ := h; ⟨av, fv, h.below hf, q⟩
theorem ArOf.lt {α : Type} {enc : α → List Value} {tA tS tF m B : Nat} {Q : Nat → Prop} {w : World} {ab : Nat} {T : TA α} (h : ArOf enc tA tS tF m B Q w ab T) : ab < w.heap.size := let ⟨_, _, h, _⟩ := h; lt_of_some h.blk
theorem ArOf.ok {α : Type} {enc : α → List Value} {tA tS tF m B : Nat} {Q : Nat → Prop} {w : World} {ab : Nat} {T : TA α} (h : ArOf enc tA tS tF m B Q w ab T) : (T.ar enc).Ok m := let ⟨_, _, h, _⟩ := h; h.ok
theorem ArOf.after {α : Type} {enc : α → List Value} {tA tS tF m B : Nat} {Q : Nat → Prop} {w w' : World} {ab : Nat} {T' : TA α} {av fv av' fv' : Value} (hQ : ∀ k, arQ ab av fv k → Q k) (h : ArAt tA tS tF m B w' ab (T'.ar enc) av' fv') (f : ArFr tA tS tF (arQ ab av fv) w w' av' fv') :
    ArOf enc tA tS tF m B (fun k => Q k ∨ w.heap.size ≤ k ∧ k < w'.heap.size) w' ab T' ∧ FrG [tA, tS, tF] Q w w' := by
  refine ⟨⟨av', fv', h, fun k hk => ?_⟩, f.fr.mono (fun _ h => h) hQ⟩
  rcases hk with rfl | hk | hk
  · exact .inl (hQ _ (.inl rfl))
  · rcases f.qA k hk with h1 | h1
    · exact .inl (hQ _ h1)
    · exact .inr ⟨h1, h.rowA.lt k hk |>.2⟩
  · rcases f.qF k hk with h1 | h1
    · exact .inl (hQ _ h1)
    · exact .inr ⟨h1, h.rowF.lt k hk |>.2⟩
theorem ArAt.head {tA tS tF m B : Nat} {w : World} {ab : Nat} {A : Ar} {av fv : Value} (h : ArAt tA tS tF m B w ab A av fv) {k : Nat} {s : Nat × Bool × List Value} (hk : A.all[k]? = some s) : ∃ gb cap, av = .slice (some ⟨gb, 0, none⟩) A.all.length cap := by
  have hl : k < A.all.length := (List.getElem?_eq_some_iff.1 hk).1
  rcases h.rowA.2 with ⟨_, hn⟩ | ⟨gb, cap, cur, rfl, _⟩
  · omega
  · exact ⟨gb, cap, rfl⟩
def encN : (Option Addr) → List Value := fun x => [(.pointer x)]
abbrev ArNOf (B : Nat) (Q : Nat → Prop) (w : World) (ab : Nat) (T : TA (Option Addr)) : Prop := ArOf encN 145 150 29 1 B Q w ab T
theorem arNTop_new (S G : Nat) (B : Nat) (w : World) (hB : B ≤ w.heap.size) (h1 : 1 ≤ S) (h2 : S ≤ 2147483647) (h3 : 1 ≤ G) (h4 : G ≤ 4294967295) :
    Calls Tryd.prog 66 #[.int .i64 (S : Int), .int .i64 (G : Int)] w fun e w' => e = .returned (.tuple #[.pointer (some ⟨w.heap.size, 0, none⟩), .int .i64 0]) ∧
      ArNOf B (fun k => w.heap.size ≤ k ∧ k < w'.heap.size) w' w.heap.size (TA.new S G) ∧ Below w.heap.size w w' :=
  (arN_new S G B w hB h1 h2 h3 h4).mono fun e w' ⟨he, ha, hb⟩ => ⟨he, ⟨_, _, ha, fun k hk => by rcases hk with rfl | hk | hk; exact ⟨Nat.le_refl _, lt_of_some ha.blk⟩; cases hk; cases hk⟩, hb⟩
theorem arNTop_count {B : Nat} {Q : Nat → Prop} {w : World} {ab : Nat} {T : TA (Option Addr)} (h : ArNOf B Q w ab T) : Calls Tryd.prog 97 #[.pointer (some ⟨ab, 0, none⟩)] w fun e w' => e = .returned (.int .i64 (T.count : Int)) ∧ Below w.heap.size w w' :=
  let ⟨_, _, h, _⟩ := h; arN_count h
theorem arNTop_get {B : Nat} {Q : Nat → Prop} {w : World} {ab : Nat} {T : TA (Option Addr)} (h : ArNOf B Q w ab T) (s g : Nat) (hs : s ≤ 4294967295) (hg : g ≤ 4294967295) :
    Calls Tryd.prog 76 #[.pointer (some ⟨ab, 0, none⟩), .agg #[.int .u32 (s : Int), .int .u32 (g : Int)]] w fun e w' => (∀ x, x = (T.get (none : Option Addr) s g).1 → e = .returned (.tuple #[(.pointer x), .int .i64 ((T.get (none : Option Addr) s g).2 : Int)])) ∧ Below w.heap.size w w' := by
  obtain ⟨av, fv, h, hq⟩ := h
  cases ha : T.at s g with
  | none =>
    refine (arN_get_dead h s g hs hg (TA.at_none ha)).mono ?_
    rintro e w' ⟨rfl, hb⟩
    exact ⟨by rintro x rfl; simp [TA.get, ha], hb⟩
  | some x =>
    obtain ⟨h1, h2⟩ := TA.at_some ha
    obtain ⟨k, rfl⟩ : ∃ k, s = k + 1 := ⟨s - 1, by omega⟩
    rw [Nat.add_sub_cancel] at h2
    have h3 := TA.ar_get (enc := encN) h2
    obtain ⟨gb, cap, rfl⟩ := h.head h3
    rw [show ((k + 1 : Nat) : Int) = (k : Int) + 1 by omega]
    refine (arN_get_live h k g _ h3).mono ?_
    rintro e w' ⟨rfl, hb⟩
    exact ⟨by rintro y rfl; simp [TA.get, ha], hb⟩
theorem arNTop_free {B : Nat} {Q : Nat → Prop} {w : World} {ab : Nat} {T : TA (Option Addr)} (h : ArNOf B Q w ab T) (s g : Nat) (hs : s ≤ 4294967295) (hg : g ≤ 4294967295) :
    Calls Tryd.prog 103 #[.pointer (some ⟨ab, 0, none⟩), .agg #[.int .u32 (s : Int), .int .u32 (g : Int)]] w fun e w' => e = .returned (.int .i64 ((T.drop (none : Option Addr) s g).2 : Int)) ∧ ArNOf B (fun k => Q k ∨ w.heap.size ≤ k ∧ k < w'.heap.size) w' ab (T.drop (none : Option Addr) s g).1 ∧ FrG [145, 150, 29] Q w w' := by
  obtain ⟨av, fv, h, hq⟩ := h
  cases ha : T.at s g with
  | none =>
    refine (arN_free_dead h s g hs hg (TA.at_none ha)).mono ?_
    rintro e w' ⟨rfl, hb⟩
    simp only [TA.drop, ha]
    exact ⟨rfl, ⟨_, _, h.below hb, fun k hk => .inl (hq k hk)⟩, FrG.of_below hb⟩
  | some y =>
    obtain ⟨h1, h2⟩ := TA.at_some ha
    obtain ⟨k, rfl⟩ : ∃ k, s = k + 1 := ⟨s - 1, by omega⟩
    rw [Nat.add_sub_cancel] at h2
    have h3 := TA.ar_get (enc := encN) h2
    obtain ⟨gb, cap, rfl⟩ := h.head h3
    rw [show ((k + 1 : Nat) : Int) = (k : Int) + 1 by omega]
    by_cases hr : g < T.G
    · refine (arN_free_room h k g _ h3 hr).mono ?_
      rintro e w' ⟨fv', rfl, hb, hf⟩
      simp only [TA.drop, ha, Nat.add_sub_cancel, hr, if_true]
      exact ⟨rfl, ArOf.after hq (by have e := TA.ar_set encN T k g false (none : Option Addr) (T.free ++ [k]) (T.count - 1) T.ret; rw [e]; exact hb) hf⟩
    · refine (arN_free_last h k g _ h3 (Nat.le_of_not_lt hr)).mono ?_
      rintro e w' ⟨rfl, hb, hf⟩
      simp only [TA.drop, ha, Nat.add_sub_cancel, hr, if_false]
      exact ⟨rfl, ArOf.after hq (by have e := TA.ar_set encN T k g false (none : Option Addr) T.free (T.count - 1) (T.ret + 1); rw [e]; exact hb) hf⟩
theorem arNTop_alloc {B : Nat} {Q : Nat → Prop} {w : World} {ab : Nat} {T : TA (Option Addr)} (h : ArNOf B Q w ab T) (x : Option Addr) :
    Calls Tryd.prog 68 #[.pointer (some ⟨ab, 0, none⟩), (.pointer x)] w fun e w' => e = .returned (.tuple #[.agg #[.int .u32 ((T.alloc x).2.1 : Int), .int .u32 ((T.alloc x).2.2.1 : Int)], .int .i64 ((T.alloc x).2.2.2 : Int)]) ∧ ArNOf B (fun k => Q k ∨ w.heap.size ≤ k ∧ k < w'.heap.size) w' ab (T.alloc x).1 ∧ FrG [145, 150, 29] Q w w' := by
  obtain ⟨av, fv, h, hq⟩ := h
  cases hg : T.free.getLast? with
  | none =>
    have hf : T.free = [] := by simpa using hg
    by_cases hl : T.all.length < T.S
    · refine (arN_alloc_grow h x hf (by simpa [TA.ar] using hl)).mono ?_
      rintro e w' ⟨av', rfl, hb, hfr⟩
      simp only [TA.alloc, hg, hl, if_true]
      refine ⟨by simp [TA.ar], ArOf.after hq ?_ hfr⟩
      have e : TA.ar encN { T with all := T.all ++ [(1, true, x)], count := T.count + 1 } = { TA.ar encN T with all := (TA.ar encN T).all ++ [(1, true, encN x)], count := T.count + 1 } := by simp [TA.ar]
      rw [e]; exact hb
    · refine (arN_alloc_full h x hf (by simpa [TA.ar] using hl)).mono ?_
      rintro e w' ⟨rfl, hb⟩
      simp only [TA.alloc, hg, hl, if_false]
      exact ⟨rfl, ⟨_, _, h.below hb, fun k hk => .inl (hq k hk)⟩, FrG.of_below hb⟩
  | some k =>
    obtain ⟨l, hf⟩ : ∃ l, T.free = l ++ [k] := by
      obtain ⟨hne, he⟩ := List.getLast?_eq_some_iff.1 hg
      exact ⟨_, he⟩
    have hkf : k ∈ T.free := by rw [hf]; simp
    obtain ⟨g, t, h1, h2⟩ := h.ok.free k hkf
    have h1' := h1
    simp only [TA.ar, List.getElem?_map, Option.map_eq_some_iff] at h1
    obtain ⟨⟨g', u, y⟩, h3, h4⟩ := h1
    simp only [Prod.mk.injEq] at h4
    obtain ⟨rfl, rfl, rfl⟩ := h4
    obtain ⟨gb, cap, rfl⟩ := h.head h1'
    refine (arN_alloc_reuse h x (l := l) hf h1' h2).mono ?_
    rintro e w' ⟨fv', rfl, hb, hfr⟩
    simp only [TA.alloc, hg, h3]
    refine ⟨rfl, ArOf.after hq ?_ hfr⟩
    have hd : T.free.dropLast = l := by rw [hf]; simp
    have e := TA.ar_set encN T k (g' + 1) true x T.free.dropLast (T.count + 1) T.ret
    rw [e, hd]; exact hb
end Go.Proofs.YtelhnaphkbpakaaDoor
namespace Go.Proofs.YtelhnaphkbpakaaDoor
set_option linter.unusedVariables false
structure FN where
  sl : Nat
  gn : Nat
  up : Option Nat
  down : List Nat
  live : Bool
abbrev For := List FN
inductive Chain (F : For) : Nat → List Nat → Prop
  | root {k : Nat} {x : FN} : F[k]? = some x → x.up = none → Chain F k [k]
  | up {k u : Nat} {x : FN} {l : List Nat} : F[k]? = some x → x.up = some u → Chain F u l → Chain F k (k :: l)
structure FOk (F : For) : Prop where
  upd : ∀ (k : Nat) (x : FN) (u : Nat), F[k]? = some x → x.up = some u → ∃ y : FN, F[u]? = some y ∧ y.live = true ∧ k ∈ y.down
  dn : ∀ (u : Nat) (y : FN), F[u]? = some y → ∀ c ∈ y.down, ∃ x : FN, F[c]? = some x ∧ x.up = some u ∧ x.live = true
  nd : ∀ (u : Nat) (y : FN), F[u]? = some y → y.down.Nodup
  dead : ∀ (k : Nat) (x : FN), F[k]? = some x → x.live = false → x.up = none ∧ x.down = []
  acyc : ∀ (k : Nat) (x : FN), F[k]? = some x → ∃ l, Chain F k l
theorem Chain.det {F : For} {k : Nat} {l : List Nat} (h : Chain F k l) : ∀ {m : List Nat}, Chain F k m → l = m := by
  induction h with
  | root hx hu =>
    intro m hm
    cases hm with
    | root _ _ => rfl
    | up hx' hu' _ => rw [hx] at hx'; cases hx'; rw [hu] at hu'; cases hu'
  | up hx hu _ ih =>
    intro m hm
    cases hm with
    | root hx' hu' => rw [hx] at hx'; cases hx'; rw [hu] at hu'; cases hu'
    | up hx' hu' hc => rw [hx] at hx'; cases hx'; rw [hu] at hu'; cases hu'; rw [ih hc]
theorem Chain.ne_nil {F : For} {k : Nat} {l : List Nat} (h : Chain F k l) : ∃ t, l = k :: t := by cases h <;> exact ⟨_, rfl⟩
theorem Chain.mem_lt {F : For} {k : Nat} {l : List Nat} (h : Chain F k l) : ∀ m ∈ l, m < F.length := by
  induction h with
  | root hx hu => intro m hm; simp at hm; subst hm; exact (List.getElem?_eq_some_iff.1 hx).1
  | up hx hu _ ih =>
    intro m hm
    rcases List.mem_cons.1 hm with rfl | hm
    · exact (List.getElem?_eq_some_iff.1 hx).1
    · exact ih m hm
theorem Chain.at {F : For} {k : Nat} {l : List Nat} (h : Chain F k l) : ∀ {a : List Nat} {m : Nat} {b : List Nat}, l = a ++ m :: b → Chain F m (m :: b) := by
  induction h with
  | root hx hu =>
    intro a m b e
    cases a with
    | nil => simp at e; obtain ⟨rfl, rfl⟩ := e; exact .root hx hu
    | cons y a => simp at e
  | up hx hu hc ih =>
    intro a m b e
    cases a with
    | nil => simp at e; obtain ⟨rfl, rfl⟩ := e; exact .up hx hu hc
    | cons y a => simp at e; exact ih e.2
theorem Chain.nodup {F : For} {k : Nat} {l : List Nat} (h : Chain F k l) : l.Nodup := by
  induction h with
  | root hx hu => simp
  | @up k u x l hx hu hc ih =>
    refine List.nodup_cons.2 ⟨fun hm => ?_, ih⟩
    obtain ⟨a, b, e⟩ := List.append_of_mem hm
    have h1 := hc.at e
    have h2 := h1.det (.up hx hu hc)
    have := congrArg List.length h2
    rw [e] at this
    simp at this
    omega
theorem nodup_bound : ∀ (n : Nat) (l : List Nat), l.Nodup → (∀ m ∈ l, m < n) → l.length ≤ n := by
  intro n
  induction n with
  | zero => intro l _ h; cases l with
    | nil => simp
    | cons x l => exact absurd (h x (by simp)) (by omega)
  | succ n ih =>
    intro l hn h
    have h1 := ih (l.filter (· ≠ n)) (hn.sublist List.filter_sublist) (fun m hm => by
      have := List.mem_filter.1 hm
      have h2 := h m this.1
      have h3 : m ≠ n := by simpa using this.2
      omega)
    have h2 : l.length ≤ (l.filter (· ≠ n)).length + 1 := by
      by_cases hm : n ∈ l
      · have h3 : l.erase n = l.filter (· ≠ n) := by
          rw [List.Nodup.erase_eq_filter hn]; congr 1; funext x; simp [bne, BEq.beq]
        rw [← h3, List.length_erase_of_mem hm]
        omega
      · have : l.filter (· ≠ n) = l := List.filter_eq_self.2 (fun a ha => by simp; rintro rfl; exact hm ha)
        rw [this]; omega
    omega
theorem Chain.len {F : For} {k : Nat} {l : List Nat} (h : Chain F k l) : l.length ≤ F.length := nodup_bound _ _ h.nodup h.mem_lt
theorem Chain.keep {F G : For} {k : Nat} {l : List Nat} (h : Chain F k l) (hk : ∀ m ∈ l, (G[m]?).map FN.up = (F[m]?).map FN.up) : Chain G k l := by
  induction h with
  | @root k x hx hu =>
    have := hk k (by simp)
    rw [hx] at this
    obtain ⟨y, hy, e⟩ := Option.map_eq_some_iff.1 this
    exact .root hy (e.trans hu)
  | @up k u x l hx hu hc ih =>
    have := hk k (by simp)
    rw [hx] at this
    obtain ⟨y, hy, e⟩ := Option.map_eq_some_iff.1 this
    exact .up hy (e.trans hu) (ih (fun m hm => hk m (List.mem_cons_of_mem _ hm)))
def Made (F : For) (s g : Nat) : For := F ++ [⟨s, g, none, [], true⟩]
theorem FOk.made {F : For} (h : FOk F) (s g : Nat) : FOk (Made F s g) := by
  have hl : ∀ m (z : FN), F[m]? = some z → (Made F s g)[m]? = some z := fun m z hz => by
    unfold Made; rw [List.getElem?_append_left (List.getElem?_eq_some_iff.1 hz).1]; exact hz
  have hr : ∀ m (z : FN), (Made F s g)[m]? = some z → F[m]? = some z ∨ (m = F.length ∧ z = ⟨s, g, none, [], true⟩) := fun m z hz => by
    unfold Made at hz
    rcases Nat.lt_or_ge m F.length with h1 | h1
    · rw [List.getElem?_append_left h1] at hz; exact .inl hz
    · rw [List.getElem?_append_right h1] at hz
      obtain ⟨h2, h3⟩ := List.getElem?_eq_some_iff.1 hz
      simp at h2 h3
      exact .inr ⟨by omega, h3.symm⟩
  refine ⟨?_, ?_, ?_, ?_, ?_⟩
  · intro k x u hx hu
    rcases hr k x hx with h1 | ⟨_, rfl⟩
    · obtain ⟨y, h2, h3⟩ := h.upd k x u h1 hu; exact ⟨y, hl _ _ h2, h3⟩
    · cases hu
  · intro u y hy c hc
    rcases hr u y hy with h1 | ⟨_, rfl⟩
    · obtain ⟨x, h2, h3⟩ := h.dn u y h1 c hc; exact ⟨x, hl _ _ h2, h3⟩
    · simp at hc
  · intro u y hy
    rcases hr u y hy with h1 | ⟨_, rfl⟩
    · exact h.nd u y h1
    · simp
  · intro u y hy hd
    rcases hr u y hy with h1 | ⟨_, rfl⟩
    · exact h.dead u y h1 hd
    · cases hd
  · intro u y hy
    rcases hr u y hy with h1 | ⟨e, rfl⟩
    · obtain ⟨l, hc⟩ := h.acyc u y h1
      exact ⟨l, hc.keep (fun m hm => by
        have h2 := hc.mem_lt m hm
        rw [hl m _ (List.getElem?_eq_getElem h2), List.getElem?_eq_getElem h2])⟩
    · exact ⟨_, .root hy rfl⟩
def Kill (F : For) (i : Nat) : For := F.modify i (fun x => { x with live := false })
theorem kill_len (F : For) (i : Nat) : (Kill F i).length = F.length := by simp [Kill]
theorem kill_at {F : For} {i k : Nat} : (Kill F i)[k]? = if k = i then (F[i]?).map (fun x => { x with live := false }) else F[k]? := by
  unfold Kill
  rw [List.getElem?_modify]
  by_cases h1 : k = i
  · subst h1; simp
  · have h1' : ¬ i = k := fun e => h1 e.symm
    simp [h1, h1']
theorem FOk.kill {F : For} (h : FOk F) {i : Nat} {x : FN} (hx : F[i]? = some x) (hu : x.up = none) (hd : x.down = []) : FOk (Kill F i) := by
  have gi : (Kill F i)[i]? = some { x with live := false } := by rw [kill_at, if_pos rfl, hx]; rfl
  have go : ∀ m, m ≠ i → (Kill F i)[m]? = F[m]? := fun m h1 => by rw [kill_at, if_neg h1]
  have eU : ∀ m : Nat, ((Kill F i)[m]?).map FN.up = (F[m]?).map FN.up := by
    intro m
    by_cases hm : m = i
    · subst hm; rw [gi, hx]; rfl
    · rw [go m hm]
  refine ⟨?_, ?_, ?_, ?_, ?_⟩
  · intro k z v hz hv
    have hk : k ≠ i := by rintro rfl; rw [gi] at hz; cases hz; rw [hu] at hv; cases hv
    rw [go k hk] at hz
    obtain ⟨w, h3, h4, h5⟩ := h.upd k z v hz hv
    have hvi : v ≠ i := by rintro rfl; rw [hx] at h3; cases h3; rw [hd] at h5; cases h5
    exact ⟨w, by rw [go v hvi]; exact h3, h4, h5⟩
  · intro v z hz k hk
    have hv : v ≠ i := by rintro rfl; rw [gi] at hz; cases hz; rw [hd] at hk; cases hk
    rw [go v hv] at hz
    obtain ⟨a, h1, h2, h3⟩ := h.dn v z hz k hk
    have hki : k ≠ i := by rintro rfl; rw [hx] at h1; cases h1; rw [hu] at h2; cases h2
    exact ⟨a, by rw [go k hki]; exact h1, h2, h3⟩
  · intro v z hz
    by_cases hv : v = i
    · subst hv; rw [gi] at hz; cases hz; exact h.nd _ x hx
    · rw [go v hv] at hz; exact h.nd v z hz
  · intro v z hz hl
    by_cases hv : v = i
    · subst hv; rw [gi] at hz; cases hz; exact ⟨hu, hd⟩
    · rw [go v hv] at hz; exact h.dead v z hz hl
  · intro k z hz
    have hkl : k < F.length := by have := (List.getElem?_eq_some_iff.1 hz).1; rwa [kill_len] at this
    obtain ⟨l, hl⟩ := h.acyc k _ (List.getElem?_eq_getElem hkl)
    exact ⟨l, hl.keep (fun m _ => eU m)⟩
/-! ### the five links of a node -/
def hd (F : For) (o : Option Nat) : Nat × Nat := match o.bind (fun k => F[k]?) with | some x => (x.sl, x.gn) | none => (0, 0)
def dnOf (F : For) (o : Option Nat) : List Nat := match o.bind (fun k => F[k]?) with | some x => x.down | none => []
def upOf (F : For) (k : Nat) : Option Nat := (F[k]?).bind FN.up
def prevOf (l : List Nat) (k : Nat) : Option Nat := if l.idxOf k = 0 then none else l[l.idxOf k - 1]?
def nextOf (l : List Nat) (k : Nat) : Option Nat := l[l.idxOf k + 1]?
def lkO (F : For) (k : Nat) : Nat → Option Nat
  | 0 => upOf F k
  | 1 => (dnOf F (some k)).head?
  | 2 => (dnOf F (some k)).getLast?
  | 3 => prevOf (dnOf F (upOf F k)) k
  | 4 => nextOf (dnOf F (upOf F k)) k
  | _ => none
theorem idx_split {a b : List Nat} {k : Nat} (h : k ∉ a) : (a ++ k :: b).idxOf k = a.length := by
  rw [List.idxOf_append]
  simp [h]
theorem next_split {a b : List Nat} {k : Nat} (h : k ∉ a) : nextOf (a ++ k :: b) k = b.head? := by
  unfold nextOf
  rw [idx_split h, List.getElem?_append_right (by omega), show a.length + 1 - a.length = 1 by omega]
  cases b <;> rfl
end Go.Proofs.YtelhnaphkbpakaaDoor
namespace Go.Proofs.YtelhnaphkbpakaaDoor
open Go.RowKit
set_option linter.unusedVariables false
set_option maxRecDepth 100000
structure Sl16 (w : World) (a : Option Addr) (us : List Nat) : Prop where
  at_ : ∀ (i u : Nat), us[i]? = some u → u ≤ 65535 ∧ ∃ b off, a = some ⟨b, off, none⟩ ∧ b < w.heap.size ∧ w.cell? ⟨b, off + i, none⟩ = some (.int .u16 (u : Int))
  len : us.length ≤ 9223372036854775807
theorem Sl16.below {w w' : World} {a : Option Addr} {us : List Nat} (h : Sl16 w a us) (hb : Below w.heap.size w w') : Sl16 w' a us :=
  ⟨fun i u hu => by
    obtain ⟨h1, b, off, h2, h3, h4⟩ := h.at_ i u hu
    exact ⟨h1, b, off, h2, Nat.lt_of_lt_of_le h3 hb.size, (hb.cell (p := ⟨b, off + i, none⟩) h3).trans h4⟩, h.len⟩
theorem Sl16.nil (w : World) (a : Option Addr) : Sl16 w a [] := ⟨fun i u hu => by simp at hu, by simp⟩
end Go.Proofs.YtelhnaphkbpakaaDoor
namespace Go.Proofs.YtelhnaphkbpakaaDoor
open Go Go.RowKit
set_option linter.unusedVariables false
theorem grownBy_self (w : World) (row : Option Nat) : w.grownBy w row := ⟨rfl, rfl, rfl, Nat.le_refl _, fun _ _ _ => rfl⟩
section
variable {P : Program} (w : World)
theorem run_append_any (t ty : TypeId) (base : Nat) (e : TypeId) (i : TypeInfo) (z : Value) (size bytes : Nat) (ht : P.underlying t = some (.slice e)) (hi : P.info? e = some i) (hz : i.zero = some z)
    (hsize : i.size = size) (hby : i.bytes = bytes) (hzs : z.cells.size = size) (hsz : 0 < size)
    (v : Value) (n : Nat) (xs : List Value) (hown : w.ownsRow base e size v n xs)
    (xa : Option Addr) (m c : Nat) (news : List Value) (hl : news.length = m * size) (hsrc : m = 0 ∨ ∃ ad, xa = some ad ∧ ∀ j u, news[j]? = some u → w.cell? (ad.add j) = some u) (h1 : ∀ u ∈ news, u.oneCell' = true)
    (h63 : n + m ≤ maxLen) (hbytes : (n + m) * bytes ≤ 140737488355328) (hbase : base ≤ w.heap.size) :
    ∃ v' w', (Builtin.append_ #[t, t] ty #[v, .slice xa m c]).run P w = .ok v' w' ∧ w'.ownsRow base e size v' (n + m) (xs ++ news) ∧ w.grownBy w' v.ownBlock ∧ (∃ a' c', v' = .slice a' (n + m) c') := by
  rcases Nat.eq_zero_or_pos m with rfl | hm
  · obtain rfl : news = [] := by cases news with | nil => rfl | cons x l => simp at hl
    have hv : ∃ a' c', v = .slice a' n c' ∧ n ≤ c' := by
      rcases hown.2 with ⟨rfl, hn⟩ | ⟨g, cap, cur, rfl, _, _, _, h4, _⟩
      · exact ⟨none, 0, by rw [hn], by omega⟩
      · exact ⟨_, cap, rfl, by omega⟩
    obtain ⟨a', c', rfl, hle⟩ := hv
    have hs : Src P i.size t (.slice xa 0 c) 0 [] w := by
      cases xa with
      | none => exact Src.ofNil w ht c
      | some ad => exact Src.ofSlice w ht ad 0 c [] (by simp) (by simp) (by simp)
    exact ⟨_, w, run_append_nothing w t t ty e i ht hi a' n c' hle _ hs, by simpa using hown, grownBy_self w _, a', c', rfl⟩
  · rcases hsrc with h0 | ⟨ad, rfl, hnews⟩
    · omega
    · obtain ⟨g, cap, w', hr, h2, h3, _⟩ := run_append_lies (P := P) w t ty base e i z size bytes ht hi hz hsize hby hzs hsz v n xs hown ad m c news hl hnews h1 hm h63 hbytes hbase _ rfl
      exact ⟨_, w', hr, h2, h3, _, cap, rfl⟩
theorem wpList_append_any {ops : Array Oper} {rest : List Oper} {o : Oper} {a : Act} {Q : Exit → Act → World → Prop} (hgd : o.guard = none) (s x : Operand) (t : TypeId)
    (ho : o.op = .call { callee := .builtin .append, args := #[s, x], argTypes := #[t, t] })
    (base : Nat) (e : TypeId) (i : TypeInfo) (z : Value) (size bytes : Nat) (ht : P.underlying t = some (.slice e)) (hi : P.info? e = some i) (hz : i.zero = some z)
    (hsize : i.size = size) (hby : i.bytes = bytes) (hzs : z.cells.size = size) (hsz : 0 < size)
    (v : Value) (n : Nat) (xs : List Value) (hs : a.eval s = v) (hown : w.ownsRow base e size v n xs)
    (xa : Option Addr) (m c : Nat) (news : List Value) (hx : a.eval x = .slice xa m c) (hl : news.length = m * size) (hsrc : m = 0 ∨ ∃ ad, xa = some ad ∧ ∀ j u, news[j]? = some u → w.cell? (ad.add j) = some u) (h1 : ∀ u ∈ news, u.oneCell' = true)
    (h63 : n + m ≤ maxLen) (hbytes : (n + m) * bytes ≤ 140737488355328) (hbase : base ≤ w.heap.size)
    (h : ∀ a' c' w', w'.ownsRow base e size (.slice a' (n + m) c') (n + m) (xs ++ news) → w.grownBy w' v.ownBlock → wpList P ops Q rest (a.put o.dst (.slice a' (n + m) c')) w') : wpList P ops Q (o :: rest) a w := by
  obtain ⟨v', w', hr, h2, h3, a', c', rfl⟩ := run_append_any (P := P) w t o.type base e i z size bytes ht hi hz hsize hby hzs hsz v n xs hown xa m c news hl hsrc h1 h63 hbytes hbase
  exact Lib.wpList_append_run w hgd s x t t ho _ _ hs hx _ w' hr (h a' c' w' h2 h3)
end
end Go.Proofs.YtelhnaphkbpakaaDoor
namespace Go.Proofs.YtelhnaphkbpakaaDoor
open Go.RowKit
set_option linter.unusedVariables false
set_option maxRecDepth 100000
def enc16 (us : List Nat) : List Value := us.map fun (u : Nat) => Value.int .u16 (u : Int)
theorem enc16_len (us : List Nat) : (enc16 us).length = us.length := by simp [enc16]
theorem enc16_at {us : List Nat} {i u : Nat} (h : us[i]? = some u) : (enc16 us)[i]? = some (.int .u16 (u : Int)) := by simp [enc16, h]
theorem info79 : (Tryd.prog.info? 128).map (fun i => (i.zero, i.size, i.bytes)) = some (some (.int .u16 0), 1, 2) := by kernel_rfl
theorem addr_add_off (b off j : Nat) : (⟨b, off, none⟩ : Addr).add j = ⟨b, off + j, none⟩ := by unfold Addr.add; split <;> simp_all
theorem Sl16.src {w : World} {a : Option Addr} {us : List Nat} (h : Sl16 w a us) : us.length = 0 ∨ ∃ ad, a = some ad ∧ ∀ j u, (enc16 us)[j]? = some u → w.cell? (ad.add j) = some u := by
  rcases Nat.eq_zero_or_pos us.length with h0 | h0
  · exact .inl h0
  · right
    obtain ⟨u, hu⟩ : ∃ u, us[0]? = some u := ⟨_, List.getElem?_eq_getElem h0⟩
    obtain ⟨_, b, off, rfl, _, _⟩ := h.at_ 0 u hu
    refine ⟨_, rfl, fun j v hj => ?_⟩
    obtain ⟨x, hx, rfl⟩ : ∃ x, us[j]? = some x ∧ v = .int .u16 (x : Int) := by
      simp [enc16, List.getElem?_map, Option.map_eq_some_iff] at hj
      obtain ⟨x, hx, rfl⟩ := hj
      exact ⟨x, hx, rfl⟩
    obtain ⟨_, b', off', e, _, hc⟩ := h.at_ j x hx
    cases e
    rw [addr_add_off]
    exact hc
theorem enc16_one {us : List Nat} : ∀ u ∈ enc16 us, u.oneCell' = true := by
  intro u hu
  obtain ⟨x, _, rfl⟩ := List.mem_map.1 hu
  rfl
theorem sl16_of_row {w : World} {base n : Nat} {a : Option Addr} {cap : Nat} {us : List Nat} {more : List Value} {k : Nat} (h : w.ownsRow base 128 1 (.slice a k cap) k (enc16 us ++ more)) (hk : us.length ≤ k) (hb : ∀ u ∈ us, u ≤ 65535) (hl : us.length ≤ 9223372036854775807) : Sl16 w a us :=
  ⟨fun i u hu => by
    have hi : i < us.length := (List.getElem?_eq_some_iff.1 hu).1
    obtain ⟨g, cap', hv, _, hg⟩ := h.form (by omega)
    cases hv
    refine ⟨hb u (List.mem_of_getElem? hu), g, 0, rfl, hg, ?_⟩
    rw [Nat.zero_add]
    exact (h.cellAt i (by omega)).trans (by rw [List.getElem?_append_left (by rw [enc16_len]; exact hi)]; exact enc16_at hu), hl⟩
theorem Sl16.bnd {w : World} {a : Option Addr} {us : List Nat} (h : Sl16 w a us) : ∀ u ∈ us, u ≤ 65535 := by
  intro u hu
  obtain ⟨i, hi, rfl⟩ := List.mem_iff_getElem.1 hu
  exact (h.at_ i _ (List.getElem?_eq_getElem hi)).1
end Go.Proofs.YtelhnaphkbpakaaDoor
namespace Go.Proofs.YtelhnaphkbpakaaDoor
open Go.RowKit Go.Shelf
set_option linter.unusedVariables false
set_option maxRecDepth 100000
theorem clip16 (a : Option Addr) (n cap : Nat) (hn : n ≤ cap) (hm : cap ≤ 9223372036854775807) (w : World) :
    Calls Tryd.prog 111 #[.slice a n cap] w fun e w' => e = .returned (.slice a n n) ∧ w = w' := by
  have p1 : (n : Int) ≤ (cap : Int) := by omega
  go_enter Tryd.func111, Tryd.ntmps111
  go_wp2
  go_ret
  exact ⟨rfl, rfl⟩
structure Clip16 (B : Nat) (w : World) (a : Option Addr) (us : List Nat) : Prop where
  row : ∃ cap, w.ownsRow B 128 1 (.slice a us.length cap) us.length (enc16 us)
  bnd : ∀ u ∈ us, u ≤ 65535
  len : us.length ≤ 9223372036854775807
theorem Clip16.sl {B : Nat} {w : World} {a : Option Addr} {us : List Nat} (h : Clip16 B w a us) : Sl16 w a us := by
  obtain ⟨cap, hr⟩ := h.row
  exact sl16_of_row (more := []) (n := 0) (by simpa using hr) (Nat.le_refl _) h.bnd h.len
end Go.Proofs.YtelhnaphkbpakaaDoor
