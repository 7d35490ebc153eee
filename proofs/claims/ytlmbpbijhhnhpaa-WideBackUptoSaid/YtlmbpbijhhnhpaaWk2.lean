/- A scalar's bytes: one piece; a good piece's bytes. No program. -/
import Derived.Test.YtlmbpbijhhnhpaaWk1
namespace Go.Proofs.Ytlmbpbijhhnhpaa
open Go.RowKit
set_option linter.unusedVariables false

theorem byteAt_strB (l : List Nat) (hl : ∀ b ∈ l, b ≤ 255) (i : Nat) : byteAt (strB l) i = l.getD i 0 := by
  unfold byteAt
  by_cases h : i < l.length
  · have hb := hl _ (List.getElem_mem h)
    have e : (strB l).get! i = UInt8.ofNat l[i] := by
      simp only [ByteArray.get!, strB]
      rw [getElem!_pos _ _ (by simpa using h)]
      simp
    rw [e, UInt8.toNat_ofNat']
    simp [h]
    omega
  · have e : (strB l).get! i = default := by
      simp only [ByteArray.get!, strB]
      exact getElem!_neg _ _ (by simpa using h)
    rw [e]
    simp [h]
    rfl
/-- The bytes of a scalar, where they lie: one piece. -/
theorem rune_piece (s : ByteArray) (p c : Nat) (h : Scalar c) (hb : ∀ j b, (runeB c)[j]? = some b → byteAt s (p + j) = b) (hsz : p + (runeB c).length ≤ s.size) : pcAt s p = ⟨p, (runeB c).length, true, c⟩ := by
  unfold Scalar at h
  unfold runeB at hb hsz ⊢
  by_cases c1 : c < 128
  · rw [if_pos c1] at hb hsz ⊢
    have b0 := hb 0 c rfl
    rw [Nat.add_zero] at b0
    unfold pcAt
    rw [b0]
    have hr : rowOf c = (1, 0, 0) := by unfold rowOf; rw [if_pos c1]
    rw [hr]
    simp [pieceLen, pointOf, b0]
  · rw [if_neg c1] at hb hsz ⊢
    by_cases c2 : c < 2048
    · rw [if_pos c2] at hb hsz ⊢
      have b0 := hb 0 _ rfl
      have b1 := hb 1 _ rfl
      rw [Nat.add_zero] at b0
      simp only [List.length_cons, List.length_nil] at hsz ⊢
      have hr : rowOf (192 + c / 64) = (2, 128, 191) := by
        unfold rowOf
        rw [if_neg (by omega), if_pos (by omega)]
      have w1 : within s (p + 1) 128 191 = true := by rw [within_iff, b1]; omega
      unfold pcAt
      rw [b0, hr]
      simp only [pieceLen, w1, pointOf, b0, b1]
      simp
      omega
    · rw [if_neg c2] at hb hsz ⊢
      by_cases c3 : c < 65536
      · rw [if_pos c3] at hb hsz ⊢
        have b0 := hb 0 _ rfl
        have b1 := hb 1 _ rfl
        have b2 := hb 2 _ rfl
        rw [Nat.add_zero] at b0
        simp only [List.length_cons, List.length_nil] at hsz ⊢
        have w2 : within s (p + 2) 128 191 = true := by rw [within_iff, b2]; omega
        obtain ⟨lo, hi, hr, w1⟩ : ∃ lo hi, rowOf (224 + c / 4096) = (3, lo, hi) ∧ within s (p + 1) lo hi = true := by
          simp only [within_iff, b1]
          rcases row_cases (224 + c / 4096) with ⟨q, r⟩ | ⟨q, q', r⟩ | ⟨q, r⟩ | ⟨q, r⟩ | ⟨q, q', q'', r⟩ | ⟨q, r⟩ | ⟨q, q', r⟩ | ⟨q, r⟩ | ⟨q, r⟩
          all_goals first
            | (exfalso; omega)
            | (refine ⟨_, _, r, ?_, ?_, ?_⟩ <;> omega)
        unfold pcAt
        rw [b0, hr]
        simp only [pieceLen, w1, w2, pointOf, b0, b1, b2]
        simp
        omega
      · rw [if_neg c3] at hb hsz ⊢
        have b0 := hb 0 _ rfl
        have b1 := hb 1 _ rfl
        have b2 := hb 2 _ rfl
        have b3 := hb 3 _ rfl
        rw [Nat.add_zero] at b0
        simp only [List.length_cons, List.length_nil] at hsz ⊢
        have w2 : within s (p + 2) 128 191 = true := by rw [within_iff, b2]; omega
        have w3 : within s (p + 3) 128 191 = true := by rw [within_iff, b3]; omega
        obtain ⟨lo, hi, hr, w1⟩ : ∃ lo hi, rowOf (240 + c / 262144) = (4, lo, hi) ∧ within s (p + 1) lo hi = true := by
          simp only [within_iff, b1]
          rcases row_cases (240 + c / 262144) with ⟨q, r⟩ | ⟨q, q', r⟩ | ⟨q, r⟩ | ⟨q, r⟩ | ⟨q, q', q'', r⟩ | ⟨q, r⟩ | ⟨q, q', r⟩ | ⟨q, r⟩ | ⟨q, r⟩
          all_goals first
            | (exfalso; omega)
            | (refine ⟨_, _, r, ?_, ?_, ?_⟩ <;> omega)
        unfold pcAt
        rw [b0, hr]
        simp only [pieceLen, w1, w2, w3, pointOf, b0, b1, b2, b3]
        simp
        omega
theorem pl_2 {s : ByteArray} {p lo hi : Nat} (h : 2 ≤ pieceLen s p 2 lo hi) : within s (p + 1) lo hi = true := by
  unfold pieceLen at h
  split at h
  · rename_i h1; exact h1.2
  · omega
theorem pl_3 {s : ByteArray} {p lo hi : Nat} (h : 3 ≤ pieceLen s p 3 lo hi) : within s (p + 1) lo hi = true ∧ within s (p + 2) 128 191 = true := by
  unfold pieceLen at h
  split at h
  · rename_i h1
    split at h
    · rename_i h2; exact ⟨h1.2, h2.2⟩
    · omega
  · omega
theorem pl_4 {s : ByteArray} {p lo hi : Nat} (h : 4 ≤ pieceLen s p 4 lo hi) : within s (p + 1) lo hi = true ∧ within s (p + 2) 128 191 = true ∧ within s (p + 3) 128 191 = true := by
  unfold pieceLen at h
  split at h
  · rename_i h1
    split at h
    · rename_i h2
      split at h
      · rename_i h3; exact ⟨h1.2, h2.2, h3.2⟩
      · omega
    · omega
  · omega
def lenB (c : Nat) : Nat := if c < 128 then 1 else if c < 2048 then 2 else if c < 65536 then 3 else 4
theorem rune_b1 (f : Nat → Nat) (c : Nat) (h0 : f 0 < 128) (hc : c = f 0) : runeB c = (List.range (lenB c)).map f := by
  have c1 : c < 128 := by omega
  unfold runeB lenB
  rw [if_pos c1, if_pos c1, hc]
  rfl
theorem rune_b2 (f : Nat → Nat) (c : Nat) (h0 : 194 ≤ f 0) (h0' : f 0 ≤ 223) (h1 : 128 ≤ f 1) (h1' : f 1 ≤ 191) (hc : c = f 0 % 32 * 64 + f 1 % 64) : runeB c = (List.range (lenB c)).map f := by
  have c1 : ¬ c < 128 := by omega
  have c2 : c < 2048 := by omega
  unfold runeB lenB
  rw [if_neg c1, if_neg c1, if_pos c2, if_pos c2]
  have e0 : 192 + c / 64 = f 0 := by omega
  have e1 : 128 + c % 64 = f 1 := by omega
  rw [e0, e1]
  rfl
theorem rune_b3 (f : Nat → Nat) (c : Nat) (h0 : 224 ≤ f 0) (h0' : f 0 ≤ 239) (hl : f 0 = 224 → 160 ≤ f 1) (h1 : 128 ≤ f 1) (h1' : f 1 ≤ 191) (h2 : 128 ≤ f 2) (h2' : f 2 ≤ 191) (hc : c = f 0 % 16 * 4096 + f 1 % 64 * 64 + f 2 % 64) : runeB c = (List.range (lenB c)).map f := by
  have c1 : ¬ c < 128 := by omega
  have c2 : ¬ c < 2048 := by omega
  have c3 : c < 65536 := by omega
  unfold runeB lenB
  rw [if_neg c1, if_neg c1, if_neg c2, if_neg c2, if_pos c3, if_pos c3]
  have e0 : 224 + c / 4096 = f 0 := by omega
  have e1 : 128 + c / 64 % 64 = f 1 := by omega
  have e2 : 128 + c % 64 = f 2 := by omega
  rw [e0, e1, e2]
  rfl
theorem rune_b4 (f : Nat → Nat) (c : Nat) (h0 : 240 ≤ f 0) (h0' : f 0 ≤ 244) (hl : f 0 = 240 → 144 ≤ f 1) (h1 : 128 ≤ f 1) (h1' : f 1 ≤ 191) (h2 : 128 ≤ f 2) (h2' : f 2 ≤ 191) (h3 : 128 ≤ f 3) (h3' : f 3 ≤ 191) (hc : c = f 0 % 8 * 262144 + f 1 % 64 * 4096 + f 2 % 64 * 64 + f 3 % 64) : runeB c = (List.range (lenB c)).map f := by
  have c1 : ¬ c < 128 := by omega
  have c2 : ¬ c < 2048 := by omega
  have c3 : ¬ c < 65536 := by omega
  unfold runeB lenB
  rw [if_neg c1, if_neg c1, if_neg c2, if_neg c2, if_neg c3, if_neg c3]
  have e0 : 240 + c / 262144 = f 0 := by omega
  have e1 : 128 + c / 4096 % 64 = f 1 := by omega
  have e2 : 128 + c / 64 % 64 = f 2 := by omega
  have e3 : 128 + c % 64 = f 3 := by omega
  rw [e0, e1, e2, e3]
  rfl
/-- Of a good piece: its code point is a scalar, and its bytes are that one's. -/
theorem piece_bytes (s : ByteArray) (p : Nat) (hk : (pcAt s p).ok = true) : Scalar (pcAt s p).c ∧ runeB (pcAt s p).c = (List.range (pcAt s p).n).map fun j => byteAt s (p + j) := by
  have hg := (pcAt_good s p hk).1
  have hn := (pcAt_good s p hk).2.1
  refine ⟨hg, ?_⟩
  have hlen : (rowOf (byteAt s p)).1 ≤ pieceLen s p (rowOf (byteAt s p)).1 (rowOf (byteAt s p)).2.1 (rowOf (byteAt s p)).2.2 := by
    unfold pcAt at hk
    simp only at hk
    split at hk
    · cases hk
    · split at hk
      · cases hk
      · omega
  have hc : (pcAt s p).c = pointOf s p (rowOf (byteAt s p)).1 := by
    unfold pcAt at hk ⊢
    simp only at hk ⊢
    split at hk
    · cases hk
    · rename_i h0
      rw [if_neg h0]
      split at hk
      · cases hk
      · rename_i h1; rw [if_neg h1]
  have h0 : (rowOf (byteAt s p)).1 ≠ 0 := fun h => by
    unfold pcAt at hk
    simp only at hk
    rw [if_pos h] at hk
    cases hk
  have e0 := byteAt_le s p
  rw [hn]
  generalize (pcAt s p).c = c at hg hc ⊢
  clear hn hk
  change runeB c = (List.range (lenB c)).map fun j => byteAt s (p + j)
  rcases row_cases (byteAt s p) with ⟨q, r⟩ | ⟨q, q', r⟩ | ⟨q, r⟩ | ⟨q, r⟩ | ⟨q, q', q'', r⟩ | ⟨q, r⟩ | ⟨q, q', r⟩ | ⟨q, r⟩ | ⟨q, r⟩
  · rw [r] at hc
    exact rune_b1 _ c (by simpa using q) hc
  · rw [r] at hlen hc
    have hw := pl_2 hlen
    rw [within_iff] at hw
    exact rune_b2 _ c (by simpa using q) (by simpa using q') hw.2.1 hw.2.2 hc
  iterate 3
    · rw [r] at hlen hc
      obtain ⟨hw, hx⟩ := pl_3 hlen
      rw [within_iff] at hw hx
      simp only at hw hx
      exact rune_b3 _ c (by simp; omega) (by simp; omega) (by simp; omega) (by omega) (by omega) (by omega) (by omega) hc
  iterate 3
    · rw [r] at hlen hc
      obtain ⟨hw, hx, hy⟩ := pl_4 hlen
      rw [within_iff] at hw hx hy
      simp only at hw hx hy
      exact rune_b4 _ c (by simp; omega) (by simp; omega) (by simp; omega) (by omega) (by omega) (by omega) (by omega) (by omega) (by omega) hc
  · rw [r] at h0
    exact absurd rfl h0
end Go.Proofs.Ytlmbpbijhhnhpaa
