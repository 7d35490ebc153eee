/- An arena's exported functions, told over plain data, at one type of elements. -/
import Derived.Test.YtlmbpbijhhnhpaaArIAlloc
import Derived.Test.YtlmbpbijhhnhpaaArTA
namespace Go.Proofs.Ytlmbpbijhhnhpaa
open Go.RowKit
set_option linter.unusedVariables false

def encI : Int → List Value := fun x => [(.int .i64 x)]
abbrev ArIOf (B : Nat) (w : World) (ab : Nat) (T : TA Int) : Prop := ArOf encI 119 123 37 1 B w ab T

theorem arITop_new (S G : Nat) (B : Nat) (w : World) (hB : B ≤ w.heap.size) (h1 : 1 ≤ S) (h2 : S ≤ 2147483647) (h3 : 1 ≤ G) (h4 : G ≤ 4294967295) :
    Calls Try.prog 24 #[.int .i64 (S : Int), .int .i64 (G : Int)] w fun e w' => e = .returned (.tuple #[.pointer (some ⟨w.heap.size, 0, none⟩), .int .i64 0]) ∧
      ArIOf B w' w.heap.size (TA.new S G) ∧ Below w.heap.size w w' :=
  (arI_new S G B w hB h1 h2 h3 h4).mono fun e w' ⟨he, ha, hb⟩ => ⟨he, ⟨_, _, ha⟩, hb⟩

theorem arITop_count {B : Nat} {w : World} {ab : Nat} {T : TA Int} (h : ArIOf B w ab T) : Calls Try.prog 31 #[.pointer (some ⟨ab, 0, none⟩)] w fun e w' => e = .returned (.int .i64 (T.count : Int)) ∧ Below w.heap.size w w' :=
  let ⟨_, _, h⟩ := h; arI_count h
theorem arITop_retired {B : Nat} {w : World} {ab : Nat} {T : TA Int} (h : ArIOf B w ab T) : Calls Try.prog 32 #[.pointer (some ⟨ab, 0, none⟩)] w fun e w' => e = .returned (.int .i64 (T.ret : Int)) ∧ Below w.heap.size w w' :=
  let ⟨_, _, h⟩ := h; arI_retired h
theorem arITop_left {B : Nat} {w : World} {ab : Nat} {T : TA Int} (h : ArIOf B w ab T) : Calls Try.prog 28 #[.pointer (some ⟨ab, 0, none⟩)] w fun e w' => e = .returned (.int .i64 ((T.S : Int) - T.count - T.ret)) ∧ Below w.heap.size w w' :=
  let ⟨_, _, h⟩ := h; arI_left h

theorem arITop_get {B : Nat} {w : World} {ab : Nat} {T : TA Int} (h : ArIOf B w ab T) (s g : Nat) (hs : s ≤ 4294967295) (hg : g ≤ 4294967295) :
    Calls Try.prog 26 #[.pointer (some ⟨ab, 0, none⟩), .agg #[.int .u32 (s : Int), .int .u32 (g : Int)]] w fun e w' => (∀ x, x = (T.get (0 : Int) s g).1 → e = .returned (.tuple #[(.int .i64 x), .int .i64 ((T.get (0 : Int) s g).2 : Int)])) ∧ Below w.heap.size w w' := by
  obtain ⟨av, fv, h⟩ := h
  cases ha : T.at s g with
  | none =>
    refine (arI_get_dead h s g hs hg (TA.at_none ha)).mono ?_
    rintro e w' ⟨rfl, hb⟩
    exact ⟨by rintro x rfl; simp [TA.get, ha], hb⟩
  | some x =>
    obtain ⟨h1, h2⟩ := TA.at_some ha
    obtain ⟨k, rfl⟩ : ∃ k, s = k + 1 := ⟨s - 1, by omega⟩
    rw [Nat.add_sub_cancel] at h2
    have h3 := TA.ar_get (enc := encI) h2
    obtain ⟨gb, cap, rfl⟩ := h.head h3
    rw [show ((k + 1 : Nat) : Int) = (k : Int) + 1 by omega]
    refine (arI_get_live h k g _ h3).mono ?_
    rintro e w' ⟨rfl, hb⟩
    exact ⟨by rintro y rfl; simp [TA.get, ha], hb⟩

theorem arITop_set {B : Nat} {w : World} {ab : Nat} {T : TA Int} (h : ArIOf B w ab T) (s g : Nat) (x : Int) (hs : s ≤ 4294967295) (hg : g ≤ 4294967295) :
    Calls Try.prog 30 #[.pointer (some ⟨ab, 0, none⟩), .agg #[.int .u32 (s : Int), .int .u32 (g : Int)], (.int .i64 x)] w fun e w' => e = .returned (.int .i64 ((T.put x s g).2 : Int)) ∧ ArIOf B w' ab (T.put x s g).1 ∧ FrT [119, 123, 37] B w w' := by
  obtain ⟨av, fv, h⟩ := h
  cases ha : T.at s g with
  | none =>
    refine (arI_set_dead h s g (.int .i64 x) hs hg (TA.at_none ha)).mono ?_
    rintro e w' ⟨rfl, hb⟩
    simp only [TA.put, ha]
    exact ⟨rfl, ⟨_, _, h.below hb⟩, FrT.of_below hb⟩
  | some y =>
    obtain ⟨h1, h2⟩ := TA.at_some ha
    obtain ⟨k, rfl⟩ : ∃ k, s = k + 1 := ⟨s - 1, by omega⟩
    rw [Nat.add_sub_cancel] at h2
    have h3 := TA.ar_get (enc := encI) h2
    obtain ⟨gb, cap, rfl⟩ := h.head h3
    rw [show ((k + 1 : Nat) : Int) = (k : Int) + 1 by omega]
    refine (arI_set_live h k g _ x h3).mono ?_
    rintro e w' ⟨rfl, hb, hf⟩
    simp only [TA.put, ha, Nat.add_sub_cancel]
    exact ⟨rfl, ⟨_, _, by have e := TA.ar_set encI T k g true x T.free T.count T.ret; rw [e]; exact hb⟩, hf⟩

theorem arITop_free {B : Nat} {w : World} {ab : Nat} {T : TA Int} (h : ArIOf B w ab T) (s g : Nat) (hs : s ≤ 4294967295) (hg : g ≤ 4294967295) :
    Calls Try.prog 29 #[.pointer (some ⟨ab, 0, none⟩), .agg #[.int .u32 (s : Int), .int .u32 (g : Int)]] w fun e w' => e = .returned (.int .i64 ((T.drop (0 : Int) s g).2 : Int)) ∧ ArIOf B w' ab (T.drop (0 : Int) s g).1 ∧ FrT [119, 123, 37] B w w' := by
  obtain ⟨av, fv, h⟩ := h
  cases ha : T.at s g with
  | none =>
    refine (arI_free_dead h s g hs hg (TA.at_none ha)).mono ?_
    rintro e w' ⟨rfl, hb⟩
    simp only [TA.drop, ha]
    exact ⟨rfl, ⟨_, _, h.below hb⟩, FrT.of_below hb⟩
  | some y =>
    obtain ⟨h1, h2⟩ := TA.at_some ha
    obtain ⟨k, rfl⟩ : ∃ k, s = k + 1 := ⟨s - 1, by omega⟩
    rw [Nat.add_sub_cancel] at h2
    have h3 := TA.ar_get (enc := encI) h2
    obtain ⟨gb, cap, rfl⟩ := h.head h3
    rw [show ((k + 1 : Nat) : Int) = (k : Int) + 1 by omega]
    by_cases hr : g < T.G
    · refine (arI_free_room h k g _ h3 hr).mono ?_
      rintro e w' ⟨fv', rfl, hb, hf⟩
      simp only [TA.drop, ha, Nat.add_sub_cancel, hr, if_true]
      exact ⟨rfl, ⟨_, _, by have e := TA.ar_set encI T k g false (0 : Int) (T.free ++ [k]) (T.count - 1) T.ret; rw [e]; exact hb⟩, hf⟩
    · refine (arI_free_last h k g _ h3 (Nat.le_of_not_lt hr)).mono ?_
      rintro e w' ⟨rfl, hb, hf⟩
      simp only [TA.drop, ha, Nat.add_sub_cancel, hr, if_false]
      exact ⟨rfl, ⟨_, _, by have e := TA.ar_set encI T k g false (0 : Int) T.free (T.count - 1) (T.ret + 1); rw [e]; exact hb⟩, hf⟩

theorem arITop_alloc {B : Nat} {w : World} {ab : Nat} {T : TA Int} (h : ArIOf B w ab T) (x : Int) :
    Calls Try.prog 27 #[.pointer (some ⟨ab, 0, none⟩), (.int .i64 x)] w fun e w' => e = .returned (.tuple #[.agg #[.int .u32 ((T.alloc x).2.1 : Int), .int .u32 ((T.alloc x).2.2.1 : Int)], .int .i64 ((T.alloc x).2.2.2 : Int)]) ∧ ArIOf B w' ab (T.alloc x).1 ∧ FrT [119, 123, 37] B w w' := by
  obtain ⟨av, fv, h⟩ := h
  cases hg : T.free.getLast? with
  | none =>
    have hf : T.free = [] := by simpa using hg
    by_cases hl : T.all.length < T.S
    · refine (arI_alloc_grow h x hf (by simpa [TA.ar] using hl)).mono ?_
      rintro e w' ⟨av', rfl, hb, hfr⟩
      simp only [TA.alloc, hg, hl, if_true]
      refine ⟨by simp [TA.ar], ⟨av', fv, ?_⟩, hfr⟩
      have e : TA.ar encI { T with all := T.all ++ [(1, true, x)], count := T.count + 1 } = { TA.ar encI T with all := (TA.ar encI T).all ++ [(1, true, encI x)], count := T.count + 1 } := by simp [TA.ar]
      rw [e]; exact hb
    · refine (arI_alloc_full h x hf (by simpa [TA.ar] using hl)).mono ?_
      rintro e w' ⟨rfl, hb⟩
      simp only [TA.alloc, hg, hl, if_false]
      exact ⟨rfl, ⟨_, _, h.below hb⟩, FrT.of_below hb⟩
  | some k =>
    obtain ⟨l, hf⟩ : ∃ l, T.free = l ++ [k] := by
      obtain ⟨hne, he⟩ := List.getLast?_eq_some_iff.1 hg
      exact ⟨_, he⟩
    have hkf : k ∈ T.free := by rw [hf]; simp
    obtain ⟨g, t, h1, h2⟩ := h.ok.free k hkf
    have h1' := h1
    simp only [TA.ar, List.getElem?_map, Option.map_eq_some_iff] at h1
    obtain ⟨⟨g', u, y⟩, h3, h4⟩ := h1
    simp only [Prod.mk.injEq] at h4
    obtain ⟨rfl, rfl, rfl⟩ := h4
    obtain ⟨gb, cap, rfl⟩ := h.head h1'
    refine (arI_alloc_reuse h x (l := l) hf h1' h2).mono ?_
    rintro e w' ⟨fv', rfl, hb, hfr⟩
    simp only [TA.alloc, hg, h3]
    refine ⟨rfl, ⟨.slice (some ⟨gb, 0, none⟩) (TA.ar encI T).all.length cap, fv', ?_⟩, hfr⟩
    have hd : T.free.dropLast = l := by rw [hf]; simp
    have e := TA.ar_set encI T k (g' + 1) true x T.free.dropLast (T.count + 1) T.ret
    rw [e, hd]; exact hb
end Go.Proofs.Ytlmbpbijhhnhpaa
