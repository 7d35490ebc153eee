/- Two texts, one behind the other; two rows of units. No program. -/
import Derived.Test.YtlmbpbijhhnhpaaWd14
import Derived.Test.YtlmbpbijhhnhpaaWd17
namespace Go.Proofs.Ytlmbpbijhhnhpaa
open Go.RowKit
set_option linter.unusedVariables false

theorem byteAt_left (s t : ByteArray) (i : Nat) (h : i < s.size) : byteAt (s ++ t) i = byteAt s i := by
  have h1 : i < (s ++ t).size := by rw [ByteArray.size_append]; omega
  rw [← byteAt_get _ i h1, ← byteAt_get _ i h, ByteArray.getElem_append_left h]
theorem byteAt_right (s t : ByteArray) (i : Nat) : byteAt (s ++ t) (s.size + i) = byteAt t i := by
  by_cases h : i < t.size
  · have h1 : s.size + i < (s ++ t).size := by rw [ByteArray.size_append]; omega
    rw [← byteAt_get _ (s.size + i) h1, ← byteAt_get _ i h, ByteArray.getElem_append_right (by omega)]
    simp
  · have e1 : (s ++ t).get! (s.size + i) = default := by
      simp only [ByteArray.get!]
      exact getElem!_neg _ _ (by have := @ByteArray.size_append s t; simp only [ByteArray.size] at *; omega)
    have e2 : t.get! i = default := by
      simp only [ByteArray.get!]
      exact getElem!_neg _ _ (by simp only [ByteArray.size] at *; omega)
    unfold byteAt
    rw [e1, e2]
theorem within_left (s t : ByteArray) (i lo hi : Nat) (h : i < s.size) : within (s ++ t) i lo hi = within s i lo hi := by
  unfold within
  rw [byteAt_left s t i h, ByteArray.size_append]
  congr 2
  simp; omega
theorem within_right (s t : ByteArray) (i lo hi : Nat) : within (s ++ t) (s.size + i) lo hi = within t i lo hi := by
  unfold within
  rw [byteAt_right s t i, ByteArray.size_append]
  congr 2
  simp
theorem within_out (s : ByteArray) (i lo hi : Nat) (h : ¬ i < s.size) : within s i lo hi = false := by simp [within, h]

theorem pl_three (many k z : Nat) (w1 w2 x3 : Bool) (hz : z ≤ k + 3) (hc : many ≤ (if 1 < many ∧ w1 = true then if 2 < many ∧ w2 = true then if 3 < many ∧ false = true then 4 else 3 else 2 else 1) ∨ k + (if 1 < many ∧ w1 = true then if 2 < many ∧ w2 = true then if 3 < many ∧ false = true then 4 else 3 else 2 else 1) < z) :
    (if 1 < many ∧ w1 = true then if 2 < many ∧ w2 = true then if 3 < many ∧ x3 = true then 4 else 3 else 2 else 1) = (if 1 < many ∧ w1 = true then if 2 < many ∧ w2 = true then if 3 < many ∧ false = true then 4 else 3 else 2 else 1) := by
  by_cases m1 : 1 < many <;> by_cases m2 : 2 < many <;> by_cases m3 : 3 < many <;> cases w1 <;> cases w2 <;> cases x3 <;> simp [m1, m2, m3] at hc ⊢ <;> omega
theorem pl_two (many k z : Nat) (w1 x2 x3 : Bool) (hz : z ≤ k + 2) (hc : many ≤ (if 1 < many ∧ w1 = true then if 2 < many ∧ false = true then if 3 < many ∧ false = true then 4 else 3 else 2 else 1) ∨ k + (if 1 < many ∧ w1 = true then if 2 < many ∧ false = true then if 3 < many ∧ false = true then 4 else 3 else 2 else 1) < z) :
    (if 1 < many ∧ w1 = true then if 2 < many ∧ x2 = true then if 3 < many ∧ x3 = true then 4 else 3 else 2 else 1) = (if 1 < many ∧ w1 = true then if 2 < many ∧ false = true then if 3 < many ∧ false = true then 4 else 3 else 2 else 1) := by
  by_cases m1 : 1 < many <;> by_cases m2 : 2 < many <;> by_cases m3 : 3 < many <;> cases w1 <;> cases x2 <;> cases x3 <;> simp [m1, m2, m3] at hc ⊢ <;> omega
theorem pl_one (many k z : Nat) (x1 x2 x3 : Bool) (hz : z ≤ k + 1) (hc : many ≤ (if 1 < many ∧ false = true then if 2 < many ∧ false = true then if 3 < many ∧ false = true then 4 else 3 else 2 else 1) ∨ k + (if 1 < many ∧ false = true then if 2 < many ∧ false = true then if 3 < many ∧ false = true then 4 else 3 else 2 else 1) < z) :
    (if 1 < many ∧ x1 = true then if 2 < many ∧ x2 = true then if 3 < many ∧ x3 = true then 4 else 3 else 2 else 1) = (if 1 < many ∧ false = true then if 2 < many ∧ false = true then if 3 < many ∧ false = true then 4 else 3 else 2 else 1) := by
  by_cases m1 : 1 < many <;> by_cases m2 : 2 < many <;> by_cases m3 : 3 < many <;> cases x1 <;> cases x2 <;> cases x3 <;> simp [m1, m2, m3] at hc ⊢ <;> omega

theorem pieceLen_left (s t : ByteArray) (p many lo hi : Nat) (h : p < s.size) (hc : many ≤ pieceLen s p many lo hi ∨ p + pieceLen s p many lo hi < s.size) : pieceLen (s ++ t) p many lo hi = pieceLen s p many lo hi := by
  unfold pieceLen at hc ⊢
  by_cases g1 : p + 1 < s.size
  · rw [within_left s t _ lo hi g1]
    by_cases g2 : p + 2 < s.size
    · rw [within_left s t _ 128 191 g2]
      by_cases g3 : p + 3 < s.size
      · rw [within_left s t _ 128 191 g3]
      · rw [within_out s _ 128 191 g3] at hc ⊢
        exact pl_three many p s.size _ _ _ (by omega) hc
    · rw [within_out s _ 128 191 g2, within_out s (p + 3) 128 191 (by omega)] at hc ⊢
      exact pl_two many p s.size _ _ _ (by omega) hc
  · rw [within_out s _ lo hi g1, within_out s (p + 2) 128 191 (by omega), within_out s (p + 3) 128 191 (by omega)] at hc ⊢
    exact pl_one many p s.size _ _ _ (by omega) hc

theorem pieceLen_right (s t : ByteArray) (p many lo hi : Nat) : pieceLen (s ++ t) (s.size + p) many lo hi = pieceLen t p many lo hi := by
  have hw : ∀ i lo hi, within (s ++ t) (s.size + p + i) lo hi = within t (p + i) lo hi := fun i lo hi => by rw [Nat.add_assoc]; exact within_right s t _ _ _
  unfold pieceLen
  simp only [hw]

theorem pcAt_right_c (s t : ByteArray) (p : Nat) : (pcAt (s ++ t) (s.size + p)).c = (pcAt t p).c ∧ (pcAt (s ++ t) (s.size + p)).n = (pcAt t p).n ∧ (pcAt (s ++ t) (s.size + p)).ok = (pcAt t p).ok := by
  have hp : ∀ many, pointOf (s ++ t) (s.size + p) many = pointOf t p many := fun many => by
    unfold pointOf
    simp only [Nat.add_assoc, byteAt_right]
  unfold pcAt
  simp only [byteAt_right, pieceLen_right, hp]
  split
  · exact ⟨rfl, rfl, rfl⟩
  · split <;> exact ⟨rfl, rfl, rfl⟩

/-- A piece that the text's end does not cut off. -/
def Closed (s : ByteArray) (x : Pc) : Prop := x.ok = true ∨ (rowOf (byteAt s x.p)).1 ≤ 1

theorem pcAt_left (s t : ByteArray) (p : Nat) (h : p < s.size) (hc : Closed s (pcAt s p) ∨ p + (pcAt s p).n < s.size) : pcAt (s ++ t) p = pcAt s p := by
  have hn := pcAt_n s p
  have hb := byteAt_left s t p h
  have hlen : pieceLen (s ++ t) p (rowOf (byteAt s p)).1 (rowOf (byteAt s p)).2.1 (rowOf (byteAt s p)).2.2 = pieceLen s p (rowOf (byteAt s p)).1 (rowOf (byteAt s p)).2.1 (rowOf (byteAt s p)).2.2 := by
    apply pieceLen_left s t p _ _ _ h
    rcases hc with (hok | hm) | hlt
    · left
      unfold pcAt at hok
      simp only at hok
      split at hok
      · cases hok
      · split at hok
        · cases hok
        · omega
    · left
      rw [pcAt_p] at hm
      have := (pieceLen_bnd s p (rowOf (byteAt s p)).1 (rowOf (byteAt s p)).2.1 (rowOf (byteAt s p)).2.2).1
      omega
    · right
      rw [← hn]
      exact hlt
  unfold pcAt
  simp only [hb, hlen]
  split
  · rfl
  · split
    · rfl
    · rename_i h1 h2
      have hsz := pieceLen_size s p (rowOf (byteAt s p)).1 (rowOf (byteAt s p)).2.1 (rowOf (byteAt s p)).2.2 h
      have hpt : pointOf (s ++ t) p (rowOf (byteAt s p)).1 = pointOf s p (rowOf (byteAt s p)).1 := by
        have hm : 1 ≤ (rowOf (byteAt s p)).1 := by omega
        have hle : p + (rowOf (byteAt s p)).1 ≤ s.size := by omega
        have hl : (rowOf (byteAt s p)).1 ≤ 4 := by
          rcases row_cases (byteAt s p) with ⟨_, e⟩ | ⟨_, _, e⟩ | ⟨_, e⟩ | ⟨_, e⟩ | ⟨_, _, _, e⟩ | ⟨_, e⟩ | ⟨_, _, e⟩ | ⟨_, e⟩ | ⟨_, e⟩ <;> rw [e] <;> decide
        generalize (rowOf (byteAt s p)).1 = m at hm hle hl
        have e : m = 1 ∨ m = 2 ∨ m = 3 ∨ m = 4 := by omega
        rcases e with rfl | rfl | rfl | rfl
        · simp only [pointOf, hb]
        · simp only [pointOf, hb, byteAt_left s t (p + 1) (by omega)]
        · simp only [pointOf, hb, byteAt_left s t (p + 1) (by omega), byteAt_left s t (p + 2) (by omega)]
        · simp only [pointOf, hb, byteAt_left s t (p + 1) (by omega), byteAt_left s t (p + 2) (by omega), byteAt_left s t (p + 3) (by omega)]
      rw [hpt]

theorem pcsFrom_right (s t : ByteArray) (p : Nat) : (pcsFrom (s ++ t) (s.size + p)).map Pc.c = (pcsFrom t p).map Pc.c := by
  induction p using pcsFrom.induct t with
  | case1 p h ih =>
    obtain ⟨h1, h2, _⟩ := pcAt_right_c s t p
    rw [pcsFrom_step (s ++ t) _ (by rw [ByteArray.size_append]; omega), pcsFrom_step t p h, List.map_cons, List.map_cons, h1, h2, Nat.add_assoc, ih]
  | case2 p h => rw [pcsFrom_end (s ++ t) _ (by rw [ByteArray.size_append]; omega), pcsFrom_end t p h]

theorem pcsFrom_left (s t : ByteArray) (p : Nat) (hp : p ≤ s.size) (hl : ∀ x, (pcsFrom s p).getLast? = some x → Closed s x) : (pcsFrom (s ++ t) p).map Pc.c = (pcsFrom s p).map Pc.c ++ (pcs t).map Pc.c := by
  induction p using pcsFrom.induct s with
  | case1 p h ih =>
    have hsz := pcAt_size s p h
    have e : pcAt (s ++ t) p = pcAt s p := by
      apply pcAt_left s t p h
      by_cases hlt : p + (pcAt s p).n < s.size
      · exact .inr hlt
      · left
        apply hl
        rw [pcsFrom_step s p h, pcsFrom_end s _ hlt]
        rfl
    rw [pcsFrom_step (s ++ t) p (by rw [ByteArray.size_append]; omega), e, pcsFrom_step s p h, List.map_cons, List.map_cons, List.cons_append]
    congr 1
    apply ih hsz
    intro x hx
    apply hl
    rw [pcsFrom_step s p h]
    cases hr : pcsFrom s (p + (pcAt s p).n) with
    | nil => rw [hr] at hx; cases hx
    | cons y r => rw [hr] at hx; rw [List.getLast?_cons_cons]; exact hx
  | case2 p h =>
    obtain rfl : p = s.size := by omega
    have := pcsFrom_right s t 0
    rw [Nat.add_zero] at this
    rw [this, pcsFrom_end s _ (by omega)]
    rfl

theorem fromPc_map (l : List Pc) : fromPc l = (l.map Pc.c).flatMap unitsOf := by simp [fromPc, List.flatMap_map]
/-- Two texts, one behind the other. -/
theorem from_two (s t : ByteArray) (hl : ∀ x, (pcs s).getLast? = some x → Closed s x) : fromPc (pcs (s ++ t)) = fromPc (pcs s) ++ fromPc (pcs t) := by
  rw [fromPc_map, fromPc_map, fromPc_map, ← List.flatMap_append]
  congr 1
  exact pcsFrom_left s t 0 (Nat.zero_le _) hl
end Go.Proofs.Ytlmbpbijhhnhpaa
