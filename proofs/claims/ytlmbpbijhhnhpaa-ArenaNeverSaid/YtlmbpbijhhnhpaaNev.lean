/- ArenaNever's law, plain: what the three lists of the statement have to do with the arena. No program. -/
import Derived.Test.YtlmbpbijhhnhpaaArTA
namespace Go.Proofs.Ytlmbpbijhhnhpaa
open Go.RowKit
set_option linter.unusedVariables false

def encN : Int → List Value := fun x => [.int .i64 x]

theorem nodup_at {α : Type} {l : List α} (h : l.Nodup) {i j : Nat} {a : α} (hi : l[i]? = some a) (hj : l[j]? = some a) : i = j := by
  induction l generalizing i j with
  | nil => simp at hi
  | cons x l ih =>
    obtain ⟨hx, hl⟩ := List.nodup_cons.1 h
    cases i with
    | zero =>
      simp at hi; subst hi
      cases j with
      | zero => rfl
      | succ j => exact absurd (List.mem_of_getElem? (by simpa using hj)) hx
    | succ i =>
      cases j with
      | zero => simp at hj; subst hj; exact absurd (List.mem_of_getElem? (by simpa using hi)) hx
      | succ j => exact congrArg Nat.succ (ih hl (by simpa using hi) (by simpa using hj))

structure Nev (T : TA Int) (told : List (Nat × Nat)) (live : List Bool) (thing : List Int) : Prop where
  l1 : live.length = told.length
  l2 : thing.length = told.length
  nodup : told.Nodup
  val : ∀ j s g, told[j]? = some (s, g) → T.at s g = if live.getD j false = true then some (thing.getD j 0) else none
  old : ∀ s g, (s, g) ∈ told → 1 ≤ s ∧ 1 ≤ g ∧ ∃ g' u x, T.all[s - 1]? = some (g', u, x) ∧ g ≤ g'
  all : ∀ s g x, T.at s g = some x → (s, g) ∈ told

/-- Slot k holds something else: who lives then. -/
theorem TA.at_set {α : Type} {T : TA α} {k g0 : Nat} {u0 : Bool} {x0 : α} (hk : T.all[k]? = some (g0, u0, x0)) (g : Nat) (u : Bool) (x : α) (T' : TA α) (hT : T'.all = T.all.set k (g, u, x)) (s h : Nat) :
    T'.at s h = if s = k + 1 then (if u = true ∧ g = h then some x else none) else T.at s h := by
  have hl : k < T.all.length := (List.getElem?_eq_some_iff.1 hk).1
  by_cases h0 : s = 0
  · subst h0; rw [TA.at_zero, TA.at_zero, if_neg (by omega)]
  · rw [TA.at_eq _ (by omega), TA.at_eq _ (by omega), hT]
    by_cases hs : s = k + 1
    · subst hs
      simp only [Nat.add_sub_cancel, List.getElem?_set_self hl, if_true]
      cases u <;> simp
    · rw [if_neg hs, List.getElem?_set_ne (by omega)]

theorem Nev.start (S G : Nat) : Nev (TA.new S G) [] [] [] :=
  ⟨rfl, rfl, List.nodup_nil, by simp, by simp, by intro s g x h; have := (TA.at_some h).2; simp [TA.new] at this⟩

section
variable {T : TA Int} {told : List (Nat × Nat)} {live : List Bool} {thing : List Int}

theorem Nev.notIn (h : Nev T told live thing) {s g : Nat} (hn : (s, g) ∉ told) : T.at s g = none := by
  cases ha : T.at s g with
  | none => rfl
  | some x => exact absurd (h.all s g x ha) hn

/-- Free of a handle that lives. -/
theorem Nev.free (h : Nev T told live thing) {k s g : Nat} (hk : told[k]? = some (s, g)) {x : Int} (hx : T.at s g = some x) : (T.drop 0 s g).2 = 0 ∧ Nev (T.drop 0 s g).1 told (live.set k false) thing := by
  obtain ⟨h1, h2⟩ := TA.at_some hx
  have hall : (T.drop 0 s g).1.all = T.all.set (s - 1) (g, false, 0) := by unfold TA.drop; rw [hx]; simp only; split <;> rfl
  have hat := TA.at_set h2 g false 0 (T.drop 0 s g).1 hall
  refine ⟨by unfold TA.drop; rw [hx]; simp only; split <;> rfl, by simpa using h.l1, h.l2, h.nodup, fun j s' g' hj => ?_, fun s' g' hm => ?_, fun s' g' y hy => ?_⟩
  · rw [hat]
    have hkl : k < live.length := by rw [h.l1]; exact (List.getElem?_eq_some_iff.1 hk).1
    by_cases hjk : k = j
    · subst hjk
      rw [hk] at hj; cases hj
      rw [if_pos (by omega)]
      simp [hkl]
    · have hv := h.val j s' g' hj
      have hne : (s', g') ≠ (s, g) := fun e => hjk (nodup_at h.nodup hk (e ▸ hj))
      have hs : (live.set k false).getD j false = live.getD j false := by simp [List.getElem?_set_ne hjk]
      rw [hs, ← hv]
      by_cases hss : s' = s - 1 + 1
      · have hss' : s' = s := by omega
        subst hss'
        rw [if_pos hss]
        simp only [Bool.false_eq_true, false_and, if_false]
        rw [TA.at_eq _ (by omega), h2, slotWho_true]
        rw [if_neg (fun e => hne (by rw [e]))]
      · rw [if_neg hss]
  · obtain ⟨a, b, g'', u, y, c, d⟩ := h.old s' g' hm
    refine ⟨a, b, ?_⟩
    rw [hall]
    by_cases hss : s - 1 = s' - 1
    · rw [← hss, h2] at c
      cases c
      refine ⟨g, false, 0, ?_, d⟩
      rw [← hss, List.getElem?_set_self (List.getElem?_eq_some_iff.1 h2).1]
    · exact ⟨g'', u, y, by rw [List.getElem?_set_ne hss]; exact c, d⟩
  · rw [hat] at hy
    split at hy
    · simp at hy
    · exact h.all s' g' y hy

/-- Set of one that lives. -/
theorem Nev.set (h : Nev T told live thing) {k s g : Nat} (hk : told[k]? = some (s, g)) {x : Int} (hx : T.at s g = some x) (z : Int) : (T.put z s g).2 = 0 ∧ Nev (T.put z s g).1 told live (thing.set k z) := by
  obtain ⟨h1, h2⟩ := TA.at_some hx
  have hall : (T.put z s g).1.all = T.all.set (s - 1) (g, true, z) := by unfold TA.put; rw [hx]
  have hat := TA.at_set h2 g true z (T.put z s g).1 hall
  have hlive : live.getD k false = true := by
    have := h.val k s g hk
    rw [hx] at this
    split at this
    · assumption
    · cases this
  refine ⟨by unfold TA.put; rw [hx], h.l1, by simpa using h.l2, h.nodup, fun j s' g' hj => ?_, fun s' g' hm => ?_, fun s' g' y hy => ?_⟩
  · rw [hat]
    have hkl : k < thing.length := by rw [h.l2]; exact (List.getElem?_eq_some_iff.1 hk).1
    by_cases hjk : k = j
    · subst hjk
      rw [hk] at hj; cases hj
      rw [if_pos (by omega), hlive]
      simp [hkl]
    · have hv := h.val j s' g' hj
      have hne : (s', g') ≠ (s, g) := fun e => hjk (nodup_at h.nodup hk (e ▸ hj))
      have hs : (thing.set k z).getD j 0 = thing.getD j 0 := by simp [List.getElem?_set_ne hjk]
      rw [hs, ← hv]
      by_cases hss : s' = s - 1 + 1
      · have hss' : s' = s := by omega
        subst hss'
        have hg : ¬ g = g' := fun e => hne (by rw [e])
        rw [if_pos hss, if_neg (by simp [hg]), TA.at_eq _ (by omega), h2]
        simp [hg]
      · rw [if_neg hss]
  · obtain ⟨a, b, g'', u, y, c, d⟩ := h.old s' g' hm
    refine ⟨a, b, ?_⟩
    rw [hall]
    by_cases hss : s - 1 = s' - 1
    · rw [← hss, h2] at c
      cases c
      refine ⟨g, true, z, ?_, d⟩
      rw [← hss, List.getElem?_set_self (List.getElem?_eq_some_iff.1 h2).1]
    · exact ⟨g'', u, y, by rw [List.getElem?_set_ne hss]; exact c, d⟩
  · rw [hat] at hy
    split at hy
    · rename_i hss
      split at hy
      · rename_i hg
        have : (s', g') = (s, g) := by rw [← hg.2, show s' = s by omega]
        rw [this]; exact List.mem_of_getElem? hk
      · cases hy
    · exact h.all s' g' y hy

/-- Alloc: full, or a handle that never was. -/
theorem Nev.alloc (h : Nev T told live thing) (ok : (T.ar encN).Ok 1) (z : Int) :
    ((T.alloc z).2.2.2 = 52 ∧ (T.alloc z).2.1 = 0 ∧ (T.alloc z).2.2.1 = 0 ∧ (T.alloc z).1 = T ∧ T.count + T.ret = T.S) ∨
    ((T.alloc z).2.2.2 = 0 ∧ 1 ≤ (T.alloc z).2.1 ∧ (T.alloc z).2.1 ≤ T.S ∧ 1 ≤ (T.alloc z).2.2.1 ∧ (T.alloc z).2.2.1 ≤ T.G ∧ ((T.alloc z).2.1, (T.alloc z).2.2.1) ∉ told ∧
      Nev (T.alloc z).1 (told ++ [((T.alloc z).2.1, (T.alloc z).2.2.1)]) (live ++ [true]) (thing ++ [z])) := by
  have hsum := ok.sum
  have hlen := ok.len
  simp only [TA.ar, List.length_map] at hsum hlen
  cases hg : T.free.getLast? with
  | none =>
    have hf : T.free = [] := by simpa using hg
    by_cases hl : T.all.length < T.S
    · right
      simp only [TA.alloc, hg, hl, if_true]
      have hnew : (T.all.length + 1, 1) ∉ told := fun hm => by
        obtain ⟨_, _, g', u, x, hx, _⟩ := h.old _ _ hm
        simp at hx
      have hat : ∀ s g, TA.at { T with all := T.all ++ [(1, true, z)], count := T.count + 1 } s g = if s = T.all.length + 1 then (if 1 = g then some z else none) else T.at s g := fun s g => by
        by_cases h0 : s = 0
        · subst h0; rw [TA.at_zero, TA.at_zero, if_neg (by omega)]
        · rw [TA.at_eq _ (by omega), TA.at_eq _ (by omega)]
          by_cases hs : s = T.all.length + 1
          · subst hs; simp
          · rw [if_neg hs]
            by_cases hs2 : s - 1 < T.all.length
            · simp only [List.getElem?_append_left hs2]
            · have : s - 1 ≠ T.all.length := by omega
              rw [List.getElem?_append_right (by omega), List.getElem?_eq_none (by simp; omega), List.getElem?_eq_none (by omega)]
      refine ⟨trivial, by omega, by omega, by omega, ok.G1, hnew, by simp [h.l1], by simp [h.l2], ?_, fun j s g hj => ?_, fun s g hm => ?_, fun s g y hy => ?_⟩
      · exact List.nodup_append.2 ⟨h.nodup, by simp, by intro a ha b hb; simp at hb; subst hb; exact fun e => hnew (e ▸ ha)⟩
      · rw [hat]
        by_cases hjl : j < told.length
        · rw [List.getElem?_append_left hjl] at hj
          have hsm : (s, g) ∈ told := List.mem_of_getElem? hj
          obtain ⟨_, _, g', u, x, hx, _⟩ := h.old _ _ hsm
          have := (List.getElem?_eq_some_iff.1 hx).1
          rw [if_neg (by omega), h.val j s g hj]
          rw [List.getD_eq_getElem?_getD, List.getD_eq_getElem?_getD, List.getD_eq_getElem?_getD, List.getD_eq_getElem?_getD, List.getElem?_append_left (by rw [h.l1]; exact hjl), List.getElem?_append_left (by rw [h.l2]; exact hjl)]
        · rw [List.getElem?_append_right (by omega)] at hj
          have hj0 : j = told.length := by
            have := (List.getElem?_eq_some_iff.1 hj).1
            simp at this; omega
          subst hj0
          simp at hj
          obtain ⟨rfl, rfl⟩ := hj
          rw [if_pos rfl, if_pos rfl]
          simp [← h.l1]
          rw [h.l1, ← h.l2]
          simp
      · rcases List.mem_append.1 hm with hm | hm
        · obtain ⟨a, b, g', u, x, hx, hgg⟩ := h.old _ _ hm
          refine ⟨a, b, g', u, x, ?_, hgg⟩
          simp only
          rw [List.getElem?_append_left (List.getElem?_eq_some_iff.1 hx).1]; exact hx
        · simp at hm; obtain ⟨rfl, rfl⟩ := hm
          exact ⟨by omega, by omega, 1, true, z, by simp, by omega⟩
      · rw [hat] at hy
        split at hy
        · rename_i hs
          split at hy
          · rename_i hg1; subst hs hg1; simp
          · cases hy
        · exact List.mem_append_left _ (h.all s g y hy)
    · left
      simp only [TA.alloc, hg, hl, if_false]
      rw [hf] at hsum
      simp at hsum
      exact ⟨trivial, trivial, trivial, trivial, by omega⟩
  | some k =>
    right
    obtain ⟨l, hf⟩ : ∃ l, T.free = l ++ [k] := by
      obtain ⟨hne, he⟩ := List.getLast?_eq_some_iff.1 hg
      exact ⟨_, he⟩
    have hkf : k ∈ T.free := by rw [hf]; simp
    obtain ⟨g, t, h1, h2⟩ := ok.free k hkf
    simp only [TA.ar, List.getElem?_map, Option.map_eq_some_iff] at h1
    obtain ⟨⟨g', u, y⟩, h3, h4⟩ := h1
    simp only [Prod.mk.injEq] at h4
    obtain ⟨rfl, rfl, rfl⟩ := h4
    simp only [TA.ar] at h2
    simp only [TA.alloc, hg, h3]
    have hkl : k < T.all.length := (List.getElem?_eq_some_iff.1 h3).1
    have hat := TA.at_set h3 (g' + 1) true z { T with all := T.all.set k (g' + 1, true, z), free := T.free.dropLast, count := T.count + 1 } rfl
    have hnew : (k + 1, g' + 1) ∉ told := fun hm => by
      obtain ⟨_, _, g'', u, x, hx, hgg⟩ := h.old _ _ hm
      rw [Nat.add_sub_cancel, h3] at hx; cases hx; omega
    refine ⟨trivial, by omega, by omega, by omega, by omega, hnew, by simp [h.l1], by simp [h.l2], ?_, fun j s g hj => ?_, fun s g hm => ?_, fun s g y' hy => ?_⟩
    · exact List.nodup_append.2 ⟨h.nodup, by simp, by intro a ha b hb; simp at hb; subst hb; exact fun e => hnew (e ▸ ha)⟩
    · rw [hat]
      by_cases hjl : j < told.length
      · rw [List.getElem?_append_left hjl] at hj
        have hsm : (s, g) ∈ told := List.mem_of_getElem? hj
        have hv := h.val j s g hj
        have e1 : (live ++ [true]).getD j false = live.getD j false := by
          rw [List.getD_eq_getElem?_getD, List.getD_eq_getElem?_getD, List.getElem?_append_left (by rw [h.l1]; exact hjl)]
        have e2 : (thing ++ [z]).getD j 0 = thing.getD j 0 := by
          rw [List.getD_eq_getElem?_getD, List.getD_eq_getElem?_getD, List.getElem?_append_left (by rw [h.l2]; exact hjl)]
        rw [e1, e2, ← hv]
        by_cases hs : s = k + 1
        · subst hs
          rw [if_pos rfl, if_neg (fun e => hnew (by rw [e.2]; exact hsm)), TA.at_eq _ (by omega), Nat.add_sub_cancel, h3, slotWho_false]
        · rw [if_neg hs]
      · rw [List.getElem?_append_right (by omega)] at hj
        have hj0 : j = told.length := by
          have := (List.getElem?_eq_some_iff.1 hj).1
          simp at this; omega
        subst hj0
        simp at hj
        obtain ⟨rfl, rfl⟩ := hj
        rw [if_pos rfl, if_pos ⟨rfl, rfl⟩]
        simp [← h.l1]
        rw [h.l1, ← h.l2]
        simp
    · rcases List.mem_append.1 hm with hm | hm
      · obtain ⟨a, b, g'', u, x, hx, hgg⟩ := h.old _ _ hm
        refine ⟨a, b, ?_⟩
        by_cases hs : k = s - 1
        · rw [← hs, h3] at hx; cases hx
          exact ⟨g' + 1, true, z, by simp only; rw [← hs, List.getElem?_set_self hkl], by omega⟩
        · exact ⟨g'', u, x, by simp only; rw [List.getElem?_set_ne hs]; exact hx, hgg⟩
      · simp at hm; obtain ⟨rfl, rfl⟩ := hm
        exact ⟨by omega, by omega, g' + 1, true, z, by simp [hkl], by omega⟩
    · rw [hat] at hy
      split at hy
      · rename_i hs
        split at hy
        · rename_i hg1; subst hs; simp [hg1.2]
        · cases hy
      · exact List.mem_append_left _ (h.all s g y' hy)
end
end Go.Proofs.Ytlmbpbijhhnhpaa
