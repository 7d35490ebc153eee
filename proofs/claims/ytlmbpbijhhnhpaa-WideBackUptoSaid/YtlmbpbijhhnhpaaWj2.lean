/- Two rows of units, one behind the other; the order of rows and of their texts. No program. -/
import Derived.Test.YtlmbpbijhhnhpaaWd17
import Derived.Test.YtlmbpbijhhnhpaaWd2
namespace Go.Proofs.Ytlmbpbijhhnhpaa
open Go.RowKit
set_option linter.unusedVariables false

theorem getD_left (u v : List Nat) (i : Nat) (h : i < u.length) : (u ++ v).getD i 0 = u.getD i 0 := by simp [List.getElem?_append_left h]
theorem getD_right (u v : List Nat) (i : Nat) : (u ++ v).getD (u.length + i) 0 = v.getD i 0 := by simp [List.getElem?_append_right]

theorem pair_left (u v : List Nat) (i : Nat) (h : i < u.length) (hl : i + 1 = u.length → ¬ (55296 ≤ u.getD i 0 ∧ u.getD i 0 < 56320)) : Pair (u ++ v) i ↔ Pair u i := by
  unfold Pair
  rw [getD_left u v i h]
  by_cases h1 : i + 1 < u.length
  · rw [getD_left u v (i + 1) h1, List.length_append]
    omega
  · have := hl (by omega)
    rw [List.length_append]
    constructor
    · rintro ⟨a, b, _⟩; exact absurd ⟨a, b⟩ this
    · rintro ⟨a, b, _⟩; exact absurd ⟨a, b⟩ this
theorem pair_right (u v : List Nat) (i : Nat) : Pair (u ++ v) (u.length + i) ↔ Pair v i := by
  unfold Pair
  rw [getD_right u v i, show u.length + i + 1 = u.length + (i + 1) by omega, getD_right u v (i + 1), List.length_append]
  omega
theorem unAt_left (u v : List Nat) (i : Nat) (h : i < u.length) (hl : i + 1 = u.length → ¬ (55296 ≤ u.getD i 0 ∧ u.getD i 0 < 56320)) : unAt (u ++ v) i = unAt u i := by
  have hp := pair_left u v i h hl
  unfold unAt
  by_cases h1 : Pair u i
  · rw [if_pos h1, if_pos (hp.2 h1), getD_left u v i h, getD_left u v (i + 1) h1.2.2.1]
  · rw [if_neg h1, if_neg (fun x => h1 (hp.1 x)), getD_left u v i h]
theorem unAt_right (u v : List Nat) (i : Nat) : (unAt (u ++ v) (u.length + i)).c = (unAt v i).c ∧ (unAt (u ++ v) (u.length + i)).n = (unAt v i).n := by
  have hp := pair_right u v i
  have e1 := getD_right u v i
  have e2 := getD_right u v (i + 1)
  unfold unAt
  by_cases h1 : Pair v i
  · rw [if_pos h1, if_pos (hp.2 h1)]
    simp only
    rw [e1, show u.length + i + 1 = u.length + (i + 1) by omega, e2]
    refine ⟨?_, ?_⟩ <;> first | rfl | trivial
  · rw [if_neg h1, if_neg (fun x => h1 (hp.1 x))]
    exact ⟨e1, rfl⟩
theorem unsFrom_right (u v : List Nat) (i : Nat) : (unsFrom (u ++ v) (u.length + i)).map Un.c = (unsFrom v i).map Un.c := by
  induction i using unsFrom.induct v with
  | case1 i h ih =>
    obtain ⟨h1, h2⟩ := unAt_right u v i
    rw [unsFrom_step (u ++ v) _ (by rw [List.length_append]; omega), unsFrom_step v i h, List.map_cons, List.map_cons, h1, h2, Nat.add_assoc, ih]
  | case2 i h => rw [unsFrom_end (u ++ v) _ (by rw [List.length_append]; omega), unsFrom_end v i h]
theorem unsFrom_left (u v : List Nat) (i : Nat) (hi : i ≤ u.length) (hl : ∀ x, u.getLast? = some x → ¬ (55296 ≤ x ∧ x < 56320)) : (unsFrom (u ++ v) i).map Un.c = (unsFrom u i).map Un.c ++ (uns v).map Un.c := by
  induction i using unsFrom.induct u with
  | case1 i h ih =>
    have hsz := unAt_size u i h
    have e : unAt (u ++ v) i = unAt u i := unAt_left u v i h (fun h1 => by
      apply hl
      rw [List.getLast?_eq_getElem?, show u.length - 1 = i by omega, List.getElem?_eq_getElem h]
      simp [h])
    rw [unsFrom_step (u ++ v) i (by rw [List.length_append]; omega), e, unsFrom_step u i h, List.map_cons, List.map_cons, List.cons_append]
    congr 1
    exact ih hsz
  | case2 i h =>
    obtain rfl : i = u.length := by omega
    have := unsFrom_right u v 0
    rw [Nat.add_zero] at this
    rw [this, unsFrom_end u _ (by omega)]
    rfl
def halfC (c : Nat) : Nat := if 55296 ≤ c ∧ c ≤ 57343 then 65533 else c
theorem textU_map (l : List Un) : textU l = (l.map Un.c).flatMap fun c => runeB (halfC c) := by simp [textU, List.flatMap_map, unC, halfC]
theorem text_two (u v : List Nat) (hl : ∀ x, u.getLast? = some x → ¬ (55296 ≤ x ∧ x < 56320)) : textU (uns (u ++ v)) = textU (uns u) ++ textU (uns v) := by
  rw [textU_map, textU_map, textU_map, ← List.flatMap_append]
  congr 1
  exact unsFrom_left u v 0 (Nat.zero_le _) hl

/-! The order. -/
theorem cmp16_neg (a b : List Nat) : cmp16 a b = -cmp16 b a := by
  induction a generalizing b with
  | nil => cases b <;> rfl
  | cons x xs ih =>
    cases b with
    | nil => rfl
    | cons y ys =>
      simp only [cmp16]
      by_cases h : x = y
      · rw [if_pos h, if_pos h.symm]; exact ih ys
      · rw [if_neg h, if_neg (Ne.symm h)]
        by_cases h1 : x < y
        · rw [if_pos h1, if_neg (by omega)]
        · rw [if_neg h1, if_pos (by omega)]; rfl
theorem cmp16_more (a b : List Nat) (h : b ≠ []) : cmp16 a (a ++ b) = -1 := by
  induction a with
  | nil => cases b with
    | nil => exact absurd rfl h
    | cons y ys => rfl
  | cons x xs ih => simp only [List.cons_append, cmp16, if_true]; exact ih
theorem cmp16_same (a b c : List Nat) : cmp16 (a ++ b) (a ++ c) = cmp16 b c := by
  induction a with
  | nil => rfl
  | cons x xs ih => simp only [List.cons_append, cmp16, if_true]; exact ih
theorem cmp16_rune (c d : Nat) (h : c < d) (hd : d < 65536) (X Y : List Nat) : cmp16 (runeB c ++ X) (runeB d ++ Y) = -1 := by
  have step : ∀ (x y : Nat) (xs ys : List Nat), x < y → cmp16 (x :: xs) (y :: ys) = -1 := fun x y xs ys hxy => by simp only [cmp16]; rw [if_neg (by omega), if_pos hxy]
  have same : ∀ (x y : Nat) (xs ys : List Nat), x = y → cmp16 (x :: xs) (y :: ys) = cmp16 xs ys := fun x y xs ys hxy => by simp only [cmp16]; rw [if_pos hxy]
  unfold runeB
  by_cases c1 : c < 128
  · rw [if_pos c1]
    by_cases d1 : d < 128
    · rw [if_pos d1]; exact step _ _ _ _ h
    · rw [if_neg d1]
      split
      · exact step _ _ _ _ (by omega)
      · first | (rw [if_pos hd]; exact step _ _ _ _ (by omega)) | exact step _ _ _ _ (by omega)
  · rw [if_neg c1, if_neg (show ¬ d < 128 by omega)]
    by_cases c2 : c < 2048
    · rw [if_pos c2]
      by_cases d2 : d < 2048
      · rw [if_pos d2]
        by_cases e : c / 64 = d / 64
        · refine (same _ _ _ _ (by omega)).trans (step _ _ _ _ (by omega))
        · exact step _ _ _ _ (by omega)
      · rw [if_neg d2, if_pos hd]
        exact step _ _ _ _ (by omega)
    · rw [if_neg c2, if_neg (show ¬ d < 2048 by omega), if_pos (show c < 65536 by omega), if_pos hd]
      by_cases e : c / 4096 = d / 4096
      · refine (same _ _ _ _ (by omega)).trans ?_
        by_cases e2 : c / 64 % 64 = d / 64 % 64
        · refine (same _ _ _ _ (by omega)).trans (step _ _ _ _ (by omega))
        · exact step _ _ _ _ (by omega)
      · exact step _ _ _ _ (by omega)
theorem cmp16_texts (u v : List Nat) (hu : ∀ x ∈ u, x < 65536) (hv : ∀ x ∈ v, x < 65536) : cmp16 (u.flatMap runeB) (v.flatMap runeB) = cmp16 u v := by
  induction u generalizing v with
  | nil =>
    cases v with
    | nil => rfl
    | cons y ys =>
      have := (runeB_len y).1
      rw [List.flatMap_cons]
      cases hr : runeB y with
      | nil => rw [hr] at this; simp at this
      | cons z zs => rfl
  | cons x xs ih =>
    cases v with
    | nil =>
      have := (runeB_len x).1
      rw [List.flatMap_cons]
      cases hr : runeB x with
      | nil => rw [hr] at this; simp at this
      | cons z zs => rfl
    | cons y ys =>
      rw [List.flatMap_cons, List.flatMap_cons]
      simp only [cmp16]
      by_cases h : x = y
      · subst h
        rw [if_pos rfl, cmp16_same]
        exact ih ys (fun z hz => hu z (by simp [hz])) (fun z hz => hv z (by simp [hz]))
      · rw [if_neg h]
        by_cases h1 : x < y
        · rw [if_pos h1]; exact cmp16_rune x y h1 (hv y (by simp)) _ _
        · rw [if_neg h1, cmp16_neg, cmp16_rune y x (by omega) (hu x (by simp)) _ _]; rfl
/-- Rows without halves. -/
def Whole16 (u : List Nat) : Prop := ∀ x ∈ u, ¬ (55296 ≤ x ∧ x < 57344)
theorem uns_whole (u : List Nat) (i : Nat) (h : Whole16 u) : (unsFrom u i).map Un.c = u.drop i := by
  induction i using unsFrom.induct u with
  | case1 i hi ih =>
    have hm := h _ (List.getElem_mem hi)
    have hg := getD_of (List.getElem?_eq_getElem hi)
    have hp : ¬ Pair u i := fun hp => hm ⟨by have := hp.1; rw [hg] at this; exact this, by have := hp.2.1; rw [hg] at this; omega⟩
    have e : unAt u i = ⟨i, 1, u.getD i 0, decide (55296 ≤ u.getD i 0 ∧ u.getD i 0 < 57344)⟩ := by unfold unAt; rw [if_neg hp]
    rw [unsFrom_step u i hi, List.map_cons, e]
    rw [e] at ih
    rw [ih, List.drop_eq_getElem_cons hi, hg]
  | case2 i hi => rw [unsFrom_end u i hi, List.drop_of_length_le (by omega)]; rfl
theorem text_whole (u : List Nat) (h : Whole16 u) : textU (uns u) = u.flatMap runeB := by
  rw [textU_map, show (uns u).map Un.c = u from uns_whole u 0 h, List.flatMap_def, List.flatMap_def]
  congr 1
  apply List.map_congr_left
  intro x hx
  have := h x hx
  unfold halfC
  rw [if_neg (by omega)]
theorem bytesLess_cmp (l m : List Nat) (hl : ∀ b ∈ l, b ≤ 255) (hm : ∀ b ∈ m, b ≤ 255) : Op.bytesLess (l.map UInt8.ofNat) (m.map UInt8.ofNat) = decide (cmp16 l m = -1) := by
  induction l generalizing m with
  | nil => cases m <;> simp [Op.bytesLess, cmp16]
  | cons x xs ih =>
    cases m with
    | nil => simp [Op.bytesLess, cmp16]
    | cons y ys =>
      have hx := hl x (by simp)
      have hy := hm y (by simp)
      have hlt : (UInt8.ofNat x < UInt8.ofNat y) ↔ x < y := by rw [UInt8.lt_iff_toNat_lt, UInt8.toNat_ofNat', UInt8.toNat_ofNat']; omega
      have heq : (UInt8.ofNat x = UInt8.ofNat y) ↔ x = y := by rw [← UInt8.toNat_inj, UInt8.toNat_ofNat', UInt8.toNat_ofNat']; omega
      simp only [List.map_cons, Op.bytesLess, cmp16]
      rw [ih ys (fun b hb => hl b (by simp [hb])) (fun b hb => hm b (by simp [hb]))]
      by_cases h : x = y
      · subst h
        simp
      · by_cases h1 : x < y
        · simp [hlt, h1, h]
        · simp [hlt, h1, h, heq]
end Go.Proofs.Ytlmbpbijhhnhpaa
