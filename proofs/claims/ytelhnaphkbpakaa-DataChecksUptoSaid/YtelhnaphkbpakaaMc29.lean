/- The document's reading of a code point: what it is by the table of sequences. No program. The document's code, first and Named walked. The document's Named walked. -/
import Derived.Test.YtelhnaphkbpakaaMc28
namespace Go.Proofs.Ytelhnaphkbpakaa
open Go.RowKit
set_option linter.unusedVariables false
set_option maxRecDepth 100000

/-- The code point that a text begins with, and its bytes; none. -/
def codeR (t : ByteArray) : Nat × Nat := if (pcAt t 0).ok = true then ((pcAt t 0).c, (pcAt t 0).n) else (0, 0)
/-- As the document reckons it. -/
def accR (t : ByteArray) (base : Nat) : Nat → Nat
  | 0 => byteAt t 0 - base
  | i + 1 => 64 * accR t base i + byteAt t (i + 1) - 128
theorem codeR_none {t : ByteArray} (h : (rowOf (byteAt t 0)).1 = 0) : codeR t = (0, 0) := by
  unfold codeR pcAt
  simp [h]
theorem codeR_one {t : ByteArray} (h : byteAt t 0 < 128) : codeR t = (byteAt t 0, 1) := by
  have r : rowOf (byteAt t 0) = (1, 0, 0) := by
    rcases row_cases (byteAt t 0) with ⟨q, r⟩ | ⟨q, q', r⟩ | ⟨q, r⟩ | ⟨q, r⟩ | ⟨q, q', q'', r⟩ | ⟨q, r⟩ | ⟨q, q', r⟩ | ⟨q, r⟩ | ⟨q, r⟩ <;> first | exact r | omega
  unfold codeR pcAt
  simp [r, pieceLen, pointOf]
theorem codeR_zero {t : ByteArray} (h : (128 ≤ byteAt t 0 ∧ byteAt t 0 < 194) ∨ 244 < byteAt t 0) : codeR t = (0, 0) := by
  refine codeR_none ?_
  rcases row_cases (byteAt t 0) with ⟨q, r⟩ | ⟨q, q', r⟩ | ⟨q, r⟩ | ⟨q, r⟩ | ⟨q, q', q'', r⟩ | ⟨q, r⟩ | ⟨q, q', r⟩ | ⟨q, r⟩ | ⟨q, r⟩ <;> first | (rw [r]; done) | omega
theorem codeR_some {t : ByteArray} {m lo hi : Nat} (r : rowOf (byteAt t 0) = (m, lo, hi)) (hm : m ≠ 0) : codeR t = if pieceLen t 0 m lo hi < m then (0, 0) else (pointOf t 0 m, m) := by
  unfold codeR pcAt
  simp only [r, if_neg hm]
  split <;> simp
/-- Good, by the document's tests. -/
def Good2 (t : ByteArray) (m base low : Nat) : Prop := m ≤ t.size ∧ (∀ i, i + 1 < m → 128 ≤ byteAt t (i + 1) ∧ byteAt t (i + 1) < 192) ∧ low ≤ accR t base (m - 1) ∧ accR t base (m - 1) ≤ 1114111 ∧ ¬ (55296 ≤ accR t base (m - 1) ∧ accR t base (m - 1) ≤ 57343)

theorem code_two {t : ByteArray} (h1 : 192 ≤ byteAt t 0) (h2 : byteAt t 0 < 224) : (Good2 t 2 192 128 → codeR t = (accR t 192 1, 2)) ∧ (¬ Good2 t 2 192 128 → codeR t = (0, 0)) := by
  obtain ⟨b0, e0⟩ : ∃ b, byteAt t 0 = b := ⟨_, rfl⟩
  obtain ⟨b1, e1⟩ : ∃ b, byteAt t 1 = b := ⟨_, rfl⟩
  have hg : Good2 t 2 192 128 ↔ 2 ≤ t.size ∧ (128 ≤ b1 ∧ b1 < 192) ∧ 128 ≤ 64 * (b0 - 192) + b1 - 128 := by
    unfold Good2
    simp only [accR, e0, e1]
    constructor
    · rintro ⟨g1, g2, g3, g4, g5⟩
      have := g2 0 (by omega)
      rw [Nat.zero_add, e1] at this
      exact ⟨g1, this, g3⟩
    · rintro ⟨g1, g2, g3⟩
      refine ⟨g1, fun i hi => ?_, g3, by omega, by omega⟩
      obtain rfl : i = 0 := by omega
      rw [Nat.zero_add, e1]; exact g2
  rw [hg]
  by_cases h3 : b0 < 194
  · have := codeR_zero (t := t) (.inl (by omega))
    exact ⟨fun g => by omega, fun _ => this⟩
  · have r : rowOf (byteAt t 0) = (2, 128, 191) := by
      rcases row_cases (byteAt t 0) with ⟨q, r⟩ | ⟨q, q', r⟩ | ⟨q, r⟩ | ⟨q, r⟩ | ⟨q, q', q'', r⟩ | ⟨q, r⟩ | ⟨q, q', r⟩ | ⟨q, r⟩ | ⟨q, r⟩ <;> first | exact r | omega
    rw [codeR_some r (by decide)]
    have hw : within t (0 + 1) 128 191 = decide (2 ≤ t.size ∧ (128 ≤ b1 ∧ b1 < 192)) := by
      rw [Bool.eq_iff_iff, within_iff, decide_eq_true_iff, Nat.zero_add, e1]; omega
    refine ⟨fun g => ?_, fun g => ?_⟩
    · have : ¬ pieceLen t 0 2 128 191 < 2 := by unfold pieceLen; rw [hw, decide_eq_true ⟨g.1, g.2.1⟩]; simp
      rw [if_neg this]
      simp only [pointOf, accR, e0, e1, Nat.zero_add]
      exact Prod.ext (by simp only; omega) rfl
    · have : pieceLen t 0 2 128 191 < 2 := by unfold pieceLen; rw [hw, decide_eq_false (by omega)]; simp
      rw [if_pos this]

theorem code_three {t : ByteArray} (h1 : 224 ≤ byteAt t 0) (h2 : byteAt t 0 < 240) : (Good2 t 3 224 2048 → codeR t = (accR t 224 2, 3)) ∧ (¬ Good2 t 3 224 2048 → codeR t = (0, 0)) := by
  obtain ⟨b0, e0⟩ : ∃ b, byteAt t 0 = b := ⟨_, rfl⟩
  obtain ⟨b1, e1⟩ : ∃ b, byteAt t 1 = b := ⟨_, rfl⟩
  obtain ⟨b2, e2⟩ : ∃ b, byteAt t 2 = b := ⟨_, rfl⟩
  have hg : Good2 t 3 224 2048 ↔ 3 ≤ t.size ∧ (128 ≤ b1 ∧ b1 < 192) ∧ (128 ≤ b2 ∧ b2 < 192) ∧ 2048 ≤ 64 * (64 * (b0 - 224) + b1 - 128) + b2 - 128 ∧ ¬ (55296 ≤ 64 * (64 * (b0 - 224) + b1 - 128) + b2 - 128 ∧ 64 * (64 * (b0 - 224) + b1 - 128) + b2 - 128 ≤ 57343) := by
    unfold Good2
    simp only [accR, e0, e1, e2]
    constructor
    · rintro ⟨g1, g2, g3, g4, g5⟩
      have k0 := g2 0 (by omega)
      have k1 := g2 1 (by omega)
      rw [Nat.zero_add, e1] at k0
      rw [show 1 + 1 = 2 from rfl, e2] at k1
      exact ⟨g1, k0, k1, g3, g5⟩
    · rintro ⟨g1, g2, g3, g4, g5⟩
      refine ⟨g1, fun i hi => ?_, g4, by omega, g5⟩
      have : i = 0 ∨ i = 1 := by omega
      rcases this with rfl | rfl
      · rw [Nat.zero_add, e1]; exact g2
      · rw [show 1 + 1 = 2 from rfl, e2]; exact g3
  rw [hg]
  obtain ⟨lo, hi, r, hlh⟩ : ∃ lo hi, rowOf (byteAt t 0) = (3, lo, hi) ∧ ((b0 = 224 ∧ lo = 160 ∧ hi = 191) ∨ (b0 = 237 ∧ lo = 128 ∧ hi = 159) ∨ (b0 ≠ 224 ∧ b0 ≠ 237 ∧ lo = 128 ∧ hi = 191)) := by
    rcases row_cases (byteAt t 0) with ⟨q, r⟩ | ⟨q, q', r⟩ | ⟨q, r⟩ | ⟨q, r⟩ | ⟨q, q', q'', r⟩ | ⟨q, r⟩ | ⟨q, q', r⟩ | ⟨q, r⟩ | ⟨q, r⟩
    all_goals first | (exfalso; omega) | exact ⟨_, _, r, by omega⟩
  rw [codeR_some r (by decide)]
  have hw : within t (0 + 1) lo hi = decide (2 ≤ t.size ∧ (lo ≤ b1 ∧ b1 ≤ hi)) := by
    rw [Bool.eq_iff_iff, within_iff, decide_eq_true_iff, Nat.zero_add, e1]; omega
  have hw2 : within t (0 + 2) 128 191 = decide (3 ≤ t.size ∧ (128 ≤ b2 ∧ b2 < 192)) := by
    rw [Bool.eq_iff_iff, within_iff, decide_eq_true_iff, Nat.zero_add, e2]; omega
  have hpl : pieceLen t 0 3 lo hi < 3 ↔ ¬ (3 ≤ t.size ∧ (lo ≤ b1 ∧ b1 ≤ hi) ∧ (128 ≤ b2 ∧ b2 < 192)) := by
    unfold pieceLen
    rw [hw, hw2]
    simp only [decide_eq_true_eq]
    split
    · split
      · split <;> omega
      · omega
    · omega
  refine ⟨fun g => ?_, fun g => ?_⟩
  · rw [if_neg (by rw [hpl]; omega)]
    simp only [pointOf, accR, e0, e1, e2, Nat.zero_add]
    exact Prod.ext (by simp only; omega) rfl
  · rw [if_pos (by rw [hpl]; omega)]

theorem code_four {t : ByteArray} (h1 : 240 ≤ byteAt t 0) (h2 : byteAt t 0 < 248) : (Good2 t 4 240 65536 → codeR t = (accR t 240 3, 4)) ∧ (¬ Good2 t 4 240 65536 → codeR t = (0, 0)) := by
  obtain ⟨b0, e0⟩ : ∃ b, byteAt t 0 = b := ⟨_, rfl⟩
  obtain ⟨b1, e1⟩ : ∃ b, byteAt t 1 = b := ⟨_, rfl⟩
  obtain ⟨b2, e2⟩ : ∃ b, byteAt t 2 = b := ⟨_, rfl⟩
  obtain ⟨b3, e3⟩ : ∃ b, byteAt t 3 = b := ⟨_, rfl⟩
  have hg : Good2 t 4 240 65536 ↔ 4 ≤ t.size ∧ (128 ≤ b1 ∧ b1 < 192) ∧ (128 ≤ b2 ∧ b2 < 192) ∧ (128 ≤ b3 ∧ b3 < 192) ∧ 65536 ≤ 64 * (64 * (64 * (b0 - 240) + b1 - 128) + b2 - 128) + b3 - 128 ∧ 64 * (64 * (64 * (b0 - 240) + b1 - 128) + b2 - 128) + b3 - 128 ≤ 1114111 := by
    unfold Good2
    simp only [accR, e0, e1, e2, e3]
    constructor
    · rintro ⟨g1, g2, g3, g4, g5⟩
      have k0 := g2 0 (by omega)
      have k1 := g2 1 (by omega)
      have k2 := g2 2 (by omega)
      rw [Nat.zero_add, e1] at k0
      rw [show 1 + 1 = 2 from rfl, e2] at k1
      rw [show 2 + 1 = 3 from rfl, e3] at k2
      exact ⟨g1, k0, k1, k2, g3, g4⟩
    · rintro ⟨g1, g2, g3, g3', g4, g5⟩
      refine ⟨g1, fun i hi => ?_, g4, g5, by omega⟩
      have : i = 0 ∨ i = 1 ∨ i = 2 := by omega
      rcases this with rfl | rfl | rfl
      · rw [Nat.zero_add, e1]; exact g2
      · rw [show 1 + 1 = 2 from rfl, e2]; exact g3
      · rw [show 2 + 1 = 3 from rfl, e3]; exact g3'
  rw [hg]
  by_cases h3 : 244 < b0
  · have := codeR_zero (t := t) (.inr (by omega))
    exact ⟨fun g => by omega, fun _ => this⟩
  obtain ⟨lo, hi, r, hlh⟩ : ∃ lo hi, rowOf (byteAt t 0) = (4, lo, hi) ∧ ((b0 = 240 ∧ lo = 144 ∧ hi = 191) ∨ (b0 = 244 ∧ lo = 128 ∧ hi = 143) ∨ (b0 ≠ 240 ∧ b0 ≠ 244 ∧ lo = 128 ∧ hi = 191)) := by
    rcases row_cases (byteAt t 0) with ⟨q, r⟩ | ⟨q, q', r⟩ | ⟨q, r⟩ | ⟨q, r⟩ | ⟨q, q', q'', r⟩ | ⟨q, r⟩ | ⟨q, q', r⟩ | ⟨q, r⟩ | ⟨q, r⟩
    all_goals first | (exfalso; omega) | exact ⟨_, _, r, by omega⟩
  rw [codeR_some r (by decide)]
  have hw : within t (0 + 1) lo hi = decide (2 ≤ t.size ∧ (lo ≤ b1 ∧ b1 ≤ hi)) := by
    rw [Bool.eq_iff_iff, within_iff, decide_eq_true_iff, Nat.zero_add, e1]; omega
  have hw2 : within t (0 + 2) 128 191 = decide (3 ≤ t.size ∧ (128 ≤ b2 ∧ b2 < 192)) := by
    rw [Bool.eq_iff_iff, within_iff, decide_eq_true_iff, Nat.zero_add, e2]; omega
  have hw3 : within t (0 + 3) 128 191 = decide (4 ≤ t.size ∧ (128 ≤ b3 ∧ b3 < 192)) := by
    rw [Bool.eq_iff_iff, within_iff, decide_eq_true_iff, Nat.zero_add, e3]; omega
  have hpl : pieceLen t 0 4 lo hi < 4 ↔ ¬ (4 ≤ t.size ∧ (lo ≤ b1 ∧ b1 ≤ hi) ∧ (128 ≤ b2 ∧ b2 < 192) ∧ (128 ≤ b3 ∧ b3 < 192)) := by
    unfold pieceLen
    rw [hw, hw2, hw3]
    simp only [decide_eq_true_eq]
    split
    · split
      · split <;> omega
      · omega
    · omega
  refine ⟨fun g => ?_, fun g => ?_⟩
  · rw [if_neg (by rw [hpl]; omega)]
    simp only [pointOf, accR, e0, e1, e2, e3, Nat.zero_add]
    exact Prod.ext (by simp only; omega) rfl
  · rw [if_pos (by rw [hpl]; omega)]

theorem accR_lt (t : ByteArray) (base : Nat) (h : byteAt t 0 - base < 32) (i : Nat) (hi : i ≤ 3) : accR t base i < 16777216 ∧ (i ≤ 2 → accR t base i < 262144) := by
  have k1 := byteAt_le t 1
  have k2 := byteAt_le t 2
  have k3 := byteAt_le t 3
  have e : i = 0 ∨ i = 1 ∨ i = 2 ∨ i = 3 := by omega
  rcases e with rfl | rfl | rfl | rfl <;> simp only [accR, Nat.zero_add, Nat.reduceAdd] <;> omega
/-- A text read from a place on. -/
theorem codeR_extract (s : ByteArray) (q : Nat) (h : q < s.size) : codeR (s.extract q s.size) = if (pcAt s q).ok = true then ((pcAt s q).c, (pcAt s q).n) else (0, 0) := by
  have e0 : byteAt (s.extract q s.size) 0 = byteAt s q := by rw [byteAt_extract s q 0 (by omega), Nat.add_zero]
  have e1 : ∀ m, pointOf (s.extract q s.size) 0 m = pointOf s q m := fun m => by
    unfold pointOf
    simp only [byteAt_extract s q _ (Nat.le_of_lt h), Nat.zero_add, Nat.add_zero]
  unfold codeR pcAt
  simp only [e0, e1, pieceLen_extract s q _ _ _ (Nat.le_of_lt h)]
  by_cases a : (rowOf (byteAt s q)).1 = 0
  · simp [a]
  · simp only [if_neg a]
    by_cases b : pieceLen s q (rowOf (byteAt s q)).1 (rowOf (byteAt s q)).2.1 (rowOf (byteAt s q)).2.2 < (rowOf (byteAt s q)).1
    · simp [b]
    · simp [b]
end Go.Proofs.Ytelhnaphkbpakaa

namespace Go.Proofs.Ytelhnaphkbpakaa
open Go.RowKit
set_option linter.unusedVariables false
set_option maxRecDepth 100000

set_option maxHeartbeats 4000000 in
theorem code_c2 (t : ByteArray) (h0 : 0 < t.size) (hs : t.size ≤ 9223372036854775807) (h1 : 192 ≤ byteAt t 0) (h2 : byteAt t 0 < 224) (w : World) :
    Calls Try.prog 47 #[.string t] w fun e w' => e = .returned (.tuple #[.int .i64 ((codeR t).1 : Int), .int .i64 ((codeR t).2 : Int)]) ∧ w = w' := by
  have HC := Lib.hid (code_two h1 h2)
  have HL := Lib.hid (accR_lt t 192 (by omega))
  have hb := byteAt_get t 0 h0
  have ha0 : accR t 192 0 = byteAt t 0 - 192 := rfl
  obtain ⟨c, hc⟩ : ∃ c, c = byteAt t 0 := ⟨_, rfl⟩
  rw [← hc] at h1 h2 hb ha0
  have p0 : (0 : Int) < (t.size : Int) := by omega
  have hA0 : (c : Int) - 192 = ((accR t 192 0 : Nat) : Int) := by rw [ha0]; omega
  have HA0 := Lib.hid hA0
  have s0 : ¬ (c : Int) < 128 := by omega
  have s1 : (192 : Int) ≤ (c : Int) := by omega
  have s2 : (c : Int) < 224 := by omega
  have q0 : IntKind.i64.wrap ((c : Int) - 192) = ((accR t 192 0 : Nat) : Int) := by rw [IntWalk.i64_in _ (by omega), hA0]
  clear hc ha0 hA0
  by_cases hsz : t.size < 2
  · have p1 : (t.size : Int) < 2 := by omega
    have e := HC.out.2 (fun g => by have := g.1; omega)
    have HE := Lib.hid e
    clear e hsz
    go_enter Try.func47, Try.ntmps47
    go_wp2_with fail
    exact bodyPost_ret (v := .tuple #[.int .i64 0, .int .i64 0]) (by simp [results, Try.results47, go_sem]) rfl ⟨by simp [HE.out], rfl⟩
  · have p1 : ¬ (t.size : Int) < 2 := by omega
    go_enter Try.func47, Try.ntmps47
    go_wp2_with fail
    go_loopw [4, 7] (fun v4 v7 wr => ∃ i : Nat, v4 = .int .i64 ((accR t 192 i : Nat) : Int) ∧ v7 = .int .i64 ((i : Int) + 1) ∧ i + 1 ≤ 2 ∧ (∀ j, j < i → 128 ≤ byteAt t (j + 1) ∧ byteAt t (j + 1) < 192) ∧ wr = w) (fun _ v _ => 2 - (intOf v).toNat)
    case atStart => exact ⟨0, rfl, by simp, by omega, fun j hj => absurd hj (Nat.not_lt_zero _), rfl⟩
    case round =>
      obtain ⟨i, rfl, rfl, hi, hall, rfl⟩ := hrel
      have hA := (HL.out i (by omega))
      have hstep : accR t 192 (i + 1) = 64 * accR t 192 i + byteAt t (i + 1) - 128 := rfl
      have HALL := Lib.hid hall
      clear hall
      by_cases hlt : i + 1 < 2
      · have p2 : (i : Int) + 1 < 2 := by omega
        have hpi : i + 1 < t.size := by omega
        have hbi := byteAt_get t (i + 1) hpi
        have hbl := byteAt_le t (i + 1)
        obtain ⟨A, hAA⟩ : ∃ A, A = accR t 192 i := ⟨_, rfl⟩
        obtain ⟨B, hBB⟩ : ∃ B, B = byteAt t (i + 1) := ⟨_, rfl⟩
        rw [← hAA] at hA hstep ⊢
        rw [← hBB] at hbi hbl hstep
        have hA2 := hA.2 (by omega)
        have HBB := Lib.hid hBB
        have ei : ((i : Int) + 1).toNat = i + 1 := by omega
        have p3 : (0 : Int) ≤ (i : Int) + 1 := by omega
        have p4 : (i : Int) + 1 < (t.size : Int) := by omega
        by_cases b1 : B < 128
        · have p5 : (B : Int) < 128 := by omega
          have e := HC.out.2 (fun g => by have := g.2.1 i hlt; rw [← HBB.out] at this; omega)
          have HE := Lib.hid e
          clear e hAA hBB hA hA2 hstep
          go_wp2_with fail
          exact bodyPost_ret (v := .tuple #[.int .i64 0, .int .i64 0]) (by simp [results, Try.results47, go_sem]) rfl ⟨by simp [HE.out], rfl⟩
        · by_cases b2 : 192 ≤ B
          · have p5 : ¬ (B : Int) < 128 := by omega
            have p6 : (192 : Int) ≤ (B : Int) := by omega
            have e := HC.out.2 (fun g => by have := g.2.1 i hlt; rw [← HBB.out] at this; omega)
            have HE := Lib.hid e
            clear e hAA hBB hA hA2 hstep
            go_wp2_with fail
            exact bodyPost_ret (v := .tuple #[.int .i64 0, .int .i64 0]) (by simp [results, Try.results47, go_sem]) rfl ⟨by simp [HE.out], rfl⟩
          · have p5 : ¬ (B : Int) < 128 := by omega
            have p6 : ¬ (192 : Int) ≤ (B : Int) := by omega
            have q1 : IntKind.i64.wrap (64 * (A : Int)) = 64 * (A : Int) := IntWalk.i64_in _ (by omega)
            have q2 : IntKind.i64.wrap (64 * (A : Int) + (B : Int)) = 64 * (A : Int) + (B : Int) := IntWalk.i64_in _ (by omega)
            have q3 : IntKind.i64.wrap (64 * (A : Int) + (B : Int) - 128) = 64 * (A : Int) + (B : Int) - 128 := IntWalk.i64_in _ (by omega)
            have q4 : IntKind.i64.wrap ((i : Int) + 1 + 1) = (i : Int) + 1 + 1 := IntWalk.i64_in _ (by omega)
            have HST := Lib.hid hstep
            clear hAA hBB hstep
            go_wp2_with fail
            go_roundw
            case rel =>
              have hs1 := HST.out
              refine ⟨i + 1, by first | (rw [hs1]; go_num; done) | (rw [hs1]; congr 1; omega), by first | (go_num; done) | (congr 1; omega), by omega, fun j hj => ?_, by first | rfl | trivial⟩
              rcases Nat.lt_or_ge j i with h | h
              · exact HALL.out j h
              · obtain rfl : j = i := by omega
                rw [← HBB.out]; omega
            case measure => simp [intOf]; omega
      · obtain rfl : i = 1 := by omega
        have p2 : ¬ ((1 : Nat) : Int) + 1 < 2 := by omega
        have hcont : ∀ i, i + 1 < 2 → 128 ≤ byteAt t (i + 1) ∧ byteAt t (i + 1) < 192 := fun i hi => HALL.out i (by omega)
        have HG : Hid (∀ A, A = accR t 192 1 → (128 ≤ A ∧ A ≤ 1114111 ∧ ¬ (55296 ≤ A ∧ A ≤ 57343) → codeR t = (A, 2)) ∧ (¬ (128 ≤ A ∧ A ≤ 1114111 ∧ ¬ (55296 ≤ A ∧ A ≤ 57343)) → codeR t = (0, 0))) := Lib.hid (fun A hA => by
          subst hA
          exact ⟨fun g => HC.out.1 ⟨by omega, hcont, g.1, g.2.1, g.2.2⟩, fun g => HC.out.2 (fun k => g ⟨k.2.2.1, k.2.2.2.1, k.2.2.2.2⟩)⟩)
        clear hstep hcont
        obtain ⟨A, hAA⟩ : ∃ A, A = accR t 192 1 := ⟨_, rfl⟩
        rw [← hAA] at hA ⊢
        have HGA := Lib.hid (HG.out A hAA)
        clear hAA HG hlt hi
        by_cases a1 : A < 128
        · have p3 : (A : Int) < 128 := by omega
          have HE := Lib.hid (HGA.out.2 (by omega))
          go_wp2_with fail
          exact bodyPost_ret (v := .tuple #[.int .i64 0, .int .i64 0]) (by simp [results, Try.results47, go_sem]) rfl ⟨by simp [HE.out], rfl⟩
        · have p3 : ¬ (A : Int) < 128 := by omega
          by_cases a2 : 1114111 < A
          · have p4 : (1114111 : Int) < (A : Int) := by omega
            have HE := Lib.hid (HGA.out.2 (by omega))
            go_wp2_with fail
            exact bodyPost_ret (v := .tuple #[.int .i64 0, .int .i64 0]) (by simp [results, Try.results47, go_sem]) rfl ⟨by simp [HE.out], rfl⟩
          · have p4 : ¬ (1114111 : Int) < (A : Int) := by omega
            by_cases a3 : 55296 ≤ A
            · have p5 : (55296 : Int) ≤ (A : Int) := by omega
              by_cases a4 : A ≤ 57343
              · have p6 : (A : Int) ≤ 57343 := by omega
                have HE := Lib.hid (HGA.out.2 (by omega))
                go_wp2_with fail
                exact bodyPost_ret (v := .tuple #[.int .i64 0, .int .i64 0]) (by simp [results, Try.results47, go_sem]) rfl ⟨by simp [HE.out], rfl⟩
              · have p6 : ¬ (A : Int) ≤ 57343 := by omega
                have HE := Lib.hid (HGA.out.1 (by omega))
                go_wp2_with fail
                exact bodyPost_ret (v := .tuple #[.int .i64 (A : Int), .int .i64 2]) (by simp [results, Try.results47, go_sem]) rfl ⟨by simp [HE.out], rfl⟩
            · have p5 : ¬ (55296 : Int) ≤ (A : Int) := by omega
              have HE := Lib.hid (HGA.out.1 (by omega))
              go_wp2_with fail
              exact bodyPost_ret (v := .tuple #[.int .i64 (A : Int), .int .i64 2]) (by simp [results, Try.results47, go_sem]) rfl ⟨by simp [HE.out], rfl⟩

set_option maxHeartbeats 4000000 in
theorem code_c3 (t : ByteArray) (h0 : 0 < t.size) (hs : t.size ≤ 9223372036854775807) (h1 : 224 ≤ byteAt t 0) (h2 : byteAt t 0 < 240) (w : World) :
    Calls Try.prog 47 #[.string t] w fun e w' => e = .returned (.tuple #[.int .i64 ((codeR t).1 : Int), .int .i64 ((codeR t).2 : Int)]) ∧ w = w' := by
  have HC := Lib.hid (code_three h1 h2)
  have HL := Lib.hid (accR_lt t 224 (by omega))
  have hb := byteAt_get t 0 h0
  have ha0 : accR t 224 0 = byteAt t 0 - 224 := rfl
  obtain ⟨c, hc⟩ : ∃ c, c = byteAt t 0 := ⟨_, rfl⟩
  rw [← hc] at h1 h2 hb ha0
  have p0 : (0 : Int) < (t.size : Int) := by omega
  have hA0 : (c : Int) - 224 = ((accR t 224 0 : Nat) : Int) := by rw [ha0]; omega
  have HA0 := Lib.hid hA0
  have s0 : ¬ (c : Int) < 128 := by omega
  have s1 : (192 : Int) ≤ (c : Int) := by omega
  have s2 : ¬ (c : Int) < 224 := by omega
  have s3 : (224 : Int) ≤ (c : Int) := by omega
  have s4 : (c : Int) < 240 := by omega
  have q0 : IntKind.i64.wrap ((c : Int) - 224) = ((accR t 224 0 : Nat) : Int) := by rw [IntWalk.i64_in _ (by omega), hA0]
  clear hc ha0 hA0
  by_cases hsz : t.size < 3
  · have p1 : (t.size : Int) < 3 := by omega
    have e := HC.out.2 (fun g => by have := g.1; omega)
    have HE := Lib.hid e
    clear e hsz
    go_enter Try.func47, Try.ntmps47
    go_wp2_with fail
    exact bodyPost_ret (v := .tuple #[.int .i64 0, .int .i64 0]) (by simp [results, Try.results47, go_sem]) rfl ⟨by simp [HE.out], rfl⟩
  · have p1 : ¬ (t.size : Int) < 3 := by omega
    go_enter Try.func47, Try.ntmps47
    go_wp2_with fail
    go_loopw [4, 7] (fun v4 v7 wr => ∃ i : Nat, v4 = .int .i64 ((accR t 224 i : Nat) : Int) ∧ v7 = .int .i64 ((i : Int) + 1) ∧ i + 1 ≤ 3 ∧ (∀ j, j < i → 128 ≤ byteAt t (j + 1) ∧ byteAt t (j + 1) < 192) ∧ wr = w) (fun _ v _ => 3 - (intOf v).toNat)
    case atStart => exact ⟨0, rfl, by simp, by omega, fun j hj => absurd hj (Nat.not_lt_zero _), rfl⟩
    case round =>
      obtain ⟨i, rfl, rfl, hi, hall, rfl⟩ := hrel
      have hA := (HL.out i (by omega))
      have hstep : accR t 224 (i + 1) = 64 * accR t 224 i + byteAt t (i + 1) - 128 := rfl
      have HALL := Lib.hid hall
      clear hall
      by_cases hlt : i + 1 < 3
      · have p2 : (i : Int) + 1 < 3 := by omega
        have hpi : i + 1 < t.size := by omega
        have hbi := byteAt_get t (i + 1) hpi
        have hbl := byteAt_le t (i + 1)
        obtain ⟨A, hAA⟩ : ∃ A, A = accR t 224 i := ⟨_, rfl⟩
        obtain ⟨B, hBB⟩ : ∃ B, B = byteAt t (i + 1) := ⟨_, rfl⟩
        rw [← hAA] at hA hstep ⊢
        rw [← hBB] at hbi hbl hstep
        have hA2 := hA.2 (by omega)
        have HBB := Lib.hid hBB
        have ei : ((i : Int) + 1).toNat = i + 1 := by omega
        have p3 : (0 : Int) ≤ (i : Int) + 1 := by omega
        have p4 : (i : Int) + 1 < (t.size : Int) := by omega
        by_cases b1 : B < 128
        · have p5 : (B : Int) < 128 := by omega
          have e := HC.out.2 (fun g => by have := g.2.1 i hlt; rw [← HBB.out] at this; omega)
          have HE := Lib.hid e
          clear e hAA hBB hA hA2 hstep
          go_wp2_with fail
          exact bodyPost_ret (v := .tuple #[.int .i64 0, .int .i64 0]) (by simp [results, Try.results47, go_sem]) rfl ⟨by simp [HE.out], rfl⟩
        · by_cases b2 : 192 ≤ B
          · have p5 : ¬ (B : Int) < 128 := by omega
            have p6 : (192 : Int) ≤ (B : Int) := by omega
            have e := HC.out.2 (fun g => by have := g.2.1 i hlt; rw [← HBB.out] at this; omega)
            have HE := Lib.hid e
            clear e hAA hBB hA hA2 hstep
            go_wp2_with fail
            exact bodyPost_ret (v := .tuple #[.int .i64 0, .int .i64 0]) (by simp [results, Try.results47, go_sem]) rfl ⟨by simp [HE.out], rfl⟩
          · have p5 : ¬ (B : Int) < 128 := by omega
            have p6 : ¬ (192 : Int) ≤ (B : Int) := by omega
            have q1 : IntKind.i64.wrap (64 * (A : Int)) = 64 * (A : Int) := IntWalk.i64_in _ (by omega)
            have q2 : IntKind.i64.wrap (64 * (A : Int) + (B : Int)) = 64 * (A : Int) + (B : Int) := IntWalk.i64_in _ (by omega)
            have q3 : IntKind.i64.wrap (64 * (A : Int) + (B : Int) - 128) = 64 * (A : Int) + (B : Int) - 128 := IntWalk.i64_in _ (by omega)
            have q4 : IntKind.i64.wrap ((i : Int) + 1 + 1) = (i : Int) + 1 + 1 := IntWalk.i64_in _ (by omega)
            have HST := Lib.hid hstep
            clear hAA hBB hstep
            go_wp2_with fail
            go_roundw
            case rel =>
              have hs1 := HST.out
              refine ⟨i + 1, by first | (rw [hs1]; go_num; done) | (rw [hs1]; congr 1; omega), by first | (go_num; done) | (congr 1; omega), by omega, fun j hj => ?_, by first | rfl | trivial⟩
              rcases Nat.lt_or_ge j i with h | h
              · exact HALL.out j h
              · obtain rfl : j = i := by omega
                rw [← HBB.out]; omega
            case measure => simp [intOf]; omega
      · obtain rfl : i = 2 := by omega
        have p2 : ¬ ((2 : Nat) : Int) + 1 < 3 := by omega
        have hcont : ∀ i, i + 1 < 3 → 128 ≤ byteAt t (i + 1) ∧ byteAt t (i + 1) < 192 := fun i hi => HALL.out i (by omega)
        have HG : Hid (∀ A, A = accR t 224 2 → (2048 ≤ A ∧ A ≤ 1114111 ∧ ¬ (55296 ≤ A ∧ A ≤ 57343) → codeR t = (A, 3)) ∧ (¬ (2048 ≤ A ∧ A ≤ 1114111 ∧ ¬ (55296 ≤ A ∧ A ≤ 57343)) → codeR t = (0, 0))) := Lib.hid (fun A hA => by
          subst hA
          exact ⟨fun g => HC.out.1 ⟨by omega, hcont, g.1, g.2.1, g.2.2⟩, fun g => HC.out.2 (fun k => g ⟨k.2.2.1, k.2.2.2.1, k.2.2.2.2⟩)⟩)
        clear hstep hcont
        obtain ⟨A, hAA⟩ : ∃ A, A = accR t 224 2 := ⟨_, rfl⟩
        rw [← hAA] at hA ⊢
        have HGA := Lib.hid (HG.out A hAA)
        clear hAA HG hlt hi
        by_cases a1 : A < 2048
        · have p3 : (A : Int) < 2048 := by omega
          have HE := Lib.hid (HGA.out.2 (by omega))
          go_wp2_with fail
          exact bodyPost_ret (v := .tuple #[.int .i64 0, .int .i64 0]) (by simp [results, Try.results47, go_sem]) rfl ⟨by simp [HE.out], rfl⟩
        · have p3 : ¬ (A : Int) < 2048 := by omega
          by_cases a2 : 1114111 < A
          · have p4 : (1114111 : Int) < (A : Int) := by omega
            have HE := Lib.hid (HGA.out.2 (by omega))
            go_wp2_with fail
            exact bodyPost_ret (v := .tuple #[.int .i64 0, .int .i64 0]) (by simp [results, Try.results47, go_sem]) rfl ⟨by simp [HE.out], rfl⟩
          · have p4 : ¬ (1114111 : Int) < (A : Int) := by omega
            by_cases a3 : 55296 ≤ A
            · have p5 : (55296 : Int) ≤ (A : Int) := by omega
              by_cases a4 : A ≤ 57343
              · have p6 : (A : Int) ≤ 57343 := by omega
                have HE := Lib.hid (HGA.out.2 (by omega))
                go_wp2_with fail
                exact bodyPost_ret (v := .tuple #[.int .i64 0, .int .i64 0]) (by simp [results, Try.results47, go_sem]) rfl ⟨by simp [HE.out], rfl⟩
              · have p6 : ¬ (A : Int) ≤ 57343 := by omega
                have HE := Lib.hid (HGA.out.1 (by omega))
                go_wp2_with fail
                exact bodyPost_ret (v := .tuple #[.int .i64 (A : Int), .int .i64 3]) (by simp [results, Try.results47, go_sem]) rfl ⟨by simp [HE.out], rfl⟩
            · have p5 : ¬ (55296 : Int) ≤ (A : Int) := by omega
              have HE := Lib.hid (HGA.out.1 (by omega))
              go_wp2_with fail
              exact bodyPost_ret (v := .tuple #[.int .i64 (A : Int), .int .i64 3]) (by simp [results, Try.results47, go_sem]) rfl ⟨by simp [HE.out], rfl⟩

set_option maxHeartbeats 4000000 in
theorem code_c4 (t : ByteArray) (h0 : 0 < t.size) (hs : t.size ≤ 9223372036854775807) (h1 : 240 ≤ byteAt t 0) (h2 : byteAt t 0 < 248) (w : World) :
    Calls Try.prog 47 #[.string t] w fun e w' => e = .returned (.tuple #[.int .i64 ((codeR t).1 : Int), .int .i64 ((codeR t).2 : Int)]) ∧ w = w' := by
  have HC := Lib.hid (code_four h1 h2)
  have HL := Lib.hid (accR_lt t 240 (by omega))
  have hb := byteAt_get t 0 h0
  have ha0 : accR t 240 0 = byteAt t 0 - 240 := rfl
  obtain ⟨c, hc⟩ : ∃ c, c = byteAt t 0 := ⟨_, rfl⟩
  rw [← hc] at h1 h2 hb ha0
  have p0 : (0 : Int) < (t.size : Int) := by omega
  have hA0 : (c : Int) - 240 = ((accR t 240 0 : Nat) : Int) := by rw [ha0]; omega
  have HA0 := Lib.hid hA0
  have s0 : ¬ (c : Int) < 128 := by omega
  have s1 : (192 : Int) ≤ (c : Int) := by omega
  have s2 : ¬ (c : Int) < 224 := by omega
  have s3 : (224 : Int) ≤ (c : Int) := by omega
  have s4 : ¬ (c : Int) < 240 := by omega
  have s5 : (240 : Int) ≤ (c : Int) := by omega
  have s6 : (c : Int) < 248 := by omega
  have q0 : IntKind.i64.wrap ((c : Int) - 240) = ((accR t 240 0 : Nat) : Int) := by rw [IntWalk.i64_in _ (by omega), hA0]
  clear hc ha0 hA0
  by_cases hsz : t.size < 4
  · have p1 : (t.size : Int) < 4 := by omega
    have e := HC.out.2 (fun g => by have := g.1; omega)
    have HE := Lib.hid e
    clear e hsz
    go_enter Try.func47, Try.ntmps47
    go_wp2_with fail
    exact bodyPost_ret (v := .tuple #[.int .i64 0, .int .i64 0]) (by simp [results, Try.results47, go_sem]) rfl ⟨by simp [HE.out], rfl⟩
  · have p1 : ¬ (t.size : Int) < 4 := by omega
    go_enter Try.func47, Try.ntmps47
    go_wp2_with fail
    go_loopw [4, 7] (fun v4 v7 wr => ∃ i : Nat, v4 = .int .i64 ((accR t 240 i : Nat) : Int) ∧ v7 = .int .i64 ((i : Int) + 1) ∧ i + 1 ≤ 4 ∧ (∀ j, j < i → 128 ≤ byteAt t (j + 1) ∧ byteAt t (j + 1) < 192) ∧ wr = w) (fun _ v _ => 4 - (intOf v).toNat)
    case atStart => exact ⟨0, rfl, by simp, by omega, fun j hj => absurd hj (Nat.not_lt_zero _), rfl⟩
    case round =>
      obtain ⟨i, rfl, rfl, hi, hall, rfl⟩ := hrel
      have hA := (HL.out i (by omega))
      have hstep : accR t 240 (i + 1) = 64 * accR t 240 i + byteAt t (i + 1) - 128 := rfl
      have HALL := Lib.hid hall
      clear hall
      by_cases hlt : i + 1 < 4
      · have p2 : (i : Int) + 1 < 4 := by omega
        have hpi : i + 1 < t.size := by omega
        have hbi := byteAt_get t (i + 1) hpi
        have hbl := byteAt_le t (i + 1)
        obtain ⟨A, hAA⟩ : ∃ A, A = accR t 240 i := ⟨_, rfl⟩
        obtain ⟨B, hBB⟩ : ∃ B, B = byteAt t (i + 1) := ⟨_, rfl⟩
        rw [← hAA] at hA hstep ⊢
        rw [← hBB] at hbi hbl hstep
        have hA2 := hA.2 (by omega)
        have HBB := Lib.hid hBB
        have ei : ((i : Int) + 1).toNat = i + 1 := by omega
        have p3 : (0 : Int) ≤ (i : Int) + 1 := by omega
        have p4 : (i : Int) + 1 < (t.size : Int) := by omega
        by_cases b1 : B < 128
        · have p5 : (B : Int) < 128 := by omega
          have e := HC.out.2 (fun g => by have := g.2.1 i hlt; rw [← HBB.out] at this; omega)
          have HE := Lib.hid e
          clear e hAA hBB hA hA2 hstep
          go_wp2_with fail
          exact bodyPost_ret (v := .tuple #[.int .i64 0, .int .i64 0]) (by simp [results, Try.results47, go_sem]) rfl ⟨by simp [HE.out], rfl⟩
        · by_cases b2 : 192 ≤ B
          · have p5 : ¬ (B : Int) < 128 := by omega
            have p6 : (192 : Int) ≤ (B : Int) := by omega
            have e := HC.out.2 (fun g => by have := g.2.1 i hlt; rw [← HBB.out] at this; omega)
            have HE := Lib.hid e
            clear e hAA hBB hA hA2 hstep
            go_wp2_with fail
            exact bodyPost_ret (v := .tuple #[.int .i64 0, .int .i64 0]) (by simp [results, Try.results47, go_sem]) rfl ⟨by simp [HE.out], rfl⟩
          · have p5 : ¬ (B : Int) < 128 := by omega
            have p6 : ¬ (192 : Int) ≤ (B : Int) := by omega
            have q1 : IntKind.i64.wrap (64 * (A : Int)) = 64 * (A : Int) := IntWalk.i64_in _ (by omega)
            have q2 : IntKind.i64.wrap (64 * (A : Int) + (B : Int)) = 64 * (A : Int) + (B : Int) := IntWalk.i64_in _ (by omega)
            have q3 : IntKind.i64.wrap (64 * (A : Int) + (B : Int) - 128) = 64 * (A : Int) + (B : Int) - 128 := IntWalk.i64_in _ (by omega)
            have q4 : IntKind.i64.wrap ((i : Int) + 1 + 1) = (i : Int) + 1 + 1 := IntWalk.i64_in _ (by omega)
            have HST := Lib.hid hstep
            clear hAA hBB hstep
            go_wp2_with fail
            go_roundw
            case rel =>
              have hs1 := HST.out
              refine ⟨i + 1, by first | (rw [hs1]; go_num; done) | (rw [hs1]; congr 1; omega), by first | (go_num; done) | (congr 1; omega), by omega, fun j hj => ?_, by first | rfl | trivial⟩
              rcases Nat.lt_or_ge j i with h | h
              · exact HALL.out j h
              · obtain rfl : j = i := by omega
                rw [← HBB.out]; omega
            case measure => simp [intOf]; omega
      · obtain rfl : i = 3 := by omega
        have p2 : ¬ ((3 : Nat) : Int) + 1 < 4 := by omega
        have hcont : ∀ i, i + 1 < 4 → 128 ≤ byteAt t (i + 1) ∧ byteAt t (i + 1) < 192 := fun i hi => HALL.out i (by omega)
        have HG : Hid (∀ A, A = accR t 240 3 → (65536 ≤ A ∧ A ≤ 1114111 ∧ ¬ (55296 ≤ A ∧ A ≤ 57343) → codeR t = (A, 4)) ∧ (¬ (65536 ≤ A ∧ A ≤ 1114111 ∧ ¬ (55296 ≤ A ∧ A ≤ 57343)) → codeR t = (0, 0))) := Lib.hid (fun A hA => by
          subst hA
          exact ⟨fun g => HC.out.1 ⟨by omega, hcont, g.1, g.2.1, g.2.2⟩, fun g => HC.out.2 (fun k => g ⟨k.2.2.1, k.2.2.2.1, k.2.2.2.2⟩)⟩)
        clear hstep hcont
        obtain ⟨A, hAA⟩ : ∃ A, A = accR t 240 3 := ⟨_, rfl⟩
        rw [← hAA] at hA ⊢
        have HGA := Lib.hid (HG.out A hAA)
        clear hAA HG hlt hi
        by_cases a1 : A < 65536
        · have p3 : (A : Int) < 65536 := by omega
          have HE := Lib.hid (HGA.out.2 (by omega))
          go_wp2_with fail
          exact bodyPost_ret (v := .tuple #[.int .i64 0, .int .i64 0]) (by simp [results, Try.results47, go_sem]) rfl ⟨by simp [HE.out], rfl⟩
        · have p3 : ¬ (A : Int) < 65536 := by omega
          by_cases a2 : 1114111 < A
          · have p4 : (1114111 : Int) < (A : Int) := by omega
            have HE := Lib.hid (HGA.out.2 (by omega))
            go_wp2_with fail
            exact bodyPost_ret (v := .tuple #[.int .i64 0, .int .i64 0]) (by simp [results, Try.results47, go_sem]) rfl ⟨by simp [HE.out], rfl⟩
          · have p4 : ¬ (1114111 : Int) < (A : Int) := by omega
            by_cases a3 : 55296 ≤ A
            · have p5 : (55296 : Int) ≤ (A : Int) := by omega
              by_cases a4 : A ≤ 57343
              · have p6 : (A : Int) ≤ 57343 := by omega
                have HE := Lib.hid (HGA.out.2 (by omega))
                go_wp2_with fail
                exact bodyPost_ret (v := .tuple #[.int .i64 0, .int .i64 0]) (by simp [results, Try.results47, go_sem]) rfl ⟨by simp [HE.out], rfl⟩
              · have p6 : ¬ (A : Int) ≤ 57343 := by omega
                have HE := Lib.hid (HGA.out.1 (by omega))
                go_wp2_with fail
                exact bodyPost_ret (v := .tuple #[.int .i64 (A : Int), .int .i64 4]) (by simp [results, Try.results47, go_sem]) rfl ⟨by simp [HE.out], rfl⟩
            · have p5 : ¬ (55296 : Int) ≤ (A : Int) := by omega
              have HE := Lib.hid (HGA.out.1 (by omega))
              go_wp2_with fail
              exact bodyPost_ret (v := .tuple #[.int .i64 (A : Int), .int .i64 4]) (by simp [results, Try.results47, go_sem]) rfl ⟨by simp [HE.out], rfl⟩

set_option maxHeartbeats 1000000 in
theorem code_low (t : ByteArray) (h0 : 0 < t.size) (hs : t.size ≤ 9223372036854775807) (h : byteAt t 0 < 192 ∨ 248 ≤ byteAt t 0) (w : World) :
    Calls Try.prog 47 #[.string t] w fun e w' => e = .returned (.tuple #[.int .i64 ((codeR t).1 : Int), .int .i64 ((codeR t).2 : Int)]) ∧ w = w' := by
  have hb := byteAt_get t 0 h0
  have hbl := byteAt_le t 0
  have p0 : (0 : Int) < (t.size : Int) := by omega
  by_cases h1 : byteAt t 0 < 128
  · have HE := Lib.hid (codeR_one h1)
    obtain ⟨c, hc⟩ : ∃ c, c = byteAt t 0 := ⟨_, rfl⟩
    rw [← hc] at h1 hb hbl HE
    have p1 : (c : Int) < 128 := by omega
    clear hc h
    go_enter Try.func47, Try.ntmps47
    go_wp2_with fail
    exact bodyPost_ret (v := .tuple #[.int .i64 (c : Int), .int .i64 1]) (by simp [results, Try.results47, go_sem]) rfl ⟨by simp [HE.out], rfl⟩
  · have HE := Lib.hid (codeR_zero (t := t) (by omega))
    obtain ⟨c, hc⟩ : ∃ c, c = byteAt t 0 := ⟨_, rfl⟩
    rw [← hc] at h1 hb hbl h
    have p1 : ¬ (c : Int) < 128 := by omega
    rcases h with h | h
    · have s1 : ¬ (192 : Int) ≤ (c : Int) := by omega
      have s2 : ¬ (224 : Int) ≤ (c : Int) := by omega
      have s3 : ¬ (240 : Int) ≤ (c : Int) := by omega
      clear hc
      go_enter Try.func47, Try.ntmps47
      go_wp2_with fail
      exact bodyPost_ret (v := .tuple #[.int .i64 0, .int .i64 0]) (by simp [results, Try.results47, go_sem]) rfl ⟨by simp [HE.out], rfl⟩
    · have s1 : (192 : Int) ≤ (c : Int) := by omega
      have s2 : (224 : Int) ≤ (c : Int) := by omega
      have s3 : (240 : Int) ≤ (c : Int) := by omega
      have s4 : ¬ (c : Int) < 224 := by omega
      have s5 : ¬ (c : Int) < 240 := by omega
      have s6 : ¬ (c : Int) < 248 := by omega
      clear hc
      go_enter Try.func47, Try.ntmps47
      go_wp2_with fail
      exact bodyPost_ret (v := .tuple #[.int .i64 0, .int .i64 0]) (by simp [results, Try.results47, go_sem]) rfl ⟨by simp [HE.out], rfl⟩
theorem code_calls (t : ByteArray) (h0 : 0 < t.size) (hs : t.size ≤ 9223372036854775807) (w : World) :
    Calls Try.prog 47 #[.string t] w fun e w' => e = .returned (.tuple #[.int .i64 ((codeR t).1 : Int), .int .i64 ((codeR t).2 : Int)]) ∧ w = w' := by
  by_cases h1 : byteAt t 0 < 192
  · exact code_low t h0 hs (.inl h1) w
  by_cases h2 : byteAt t 0 < 224
  · exact code_c2 t h0 hs (by omega) h2 w
  by_cases h3 : byteAt t 0 < 240
  · exact code_c3 t h0 hs (by omega) h3 w
  by_cases h4 : byteAt t 0 < 248
  · exact code_c4 t h0 hs (by omega) h4 w
  · exact code_low t h0 hs (.inr (by omega)) w

def FirstOk (c : Nat) : Prop := (97 ≤ c ∧ c ≤ 122) ∨ (65 ≤ c ∧ c ≤ 90) ∨ c = 95 ∨ c = 58 ∨ 127 < c
instance (c : Nat) : Decidable (FirstOk c) := by unfold FirstOk; exact inferInstance
set_option maxHeartbeats 1000000 in
theorem first_calls (c : Nat) (w : World) : Calls Try.prog 48 #[.int .i64 (c : Int)] w fun e w' => e = .returned (.bool (decide (FirstOk c))) ∧ w = w' := by
  by_cases h : FirstOk c
  · rw [decide_eq_true h]
    unfold FirstOk at h
    by_cases a1 : 97 ≤ c
    · have p1 : (97 : Int) ≤ (c : Int) := by omega
      by_cases a2 : c ≤ 122
      · have p2 : (c : Int) ≤ 122 := by omega
        go_enter Try.func48, Try.ntmps48
        go_wp2_with fail
        go_ret
        exact ⟨rfl, rfl⟩
      · have p2 : ¬ (c : Int) ≤ 122 := by omega
        have p3 : (65 : Int) ≤ (c : Int) := by omega
        have p4 : ¬ (c : Int) ≤ 90 := by omega
        have p5 : ((c : Int) == 95) = false := by simp; omega
        have p6 : ((c : Int) == 58) = false := by simp; omega
        have p7 : (127 : Int) < (c : Int) := by omega
        clear h
        go_enter Try.func48, Try.ntmps48
        go_wp2_with fail
        go_ret
        exact ⟨rfl, rfl⟩
    · have p1 : ¬ (97 : Int) ≤ (c : Int) := by omega
      by_cases a3 : 65 ≤ c
      · have p3 : (65 : Int) ≤ (c : Int) := by omega
        by_cases a4 : c ≤ 90
        · have p4 : (c : Int) ≤ 90 := by omega
          clear h
          go_enter Try.func48, Try.ntmps48
          go_wp2_with fail
          go_ret
          exact ⟨rfl, rfl⟩
        · have p4 : ¬ (c : Int) ≤ 90 := by omega
          obtain rfl : c = 95 := by omega
          clear h
          go_enter Try.func48, Try.ntmps48
          go_wp2_with fail
          go_ret
          exact ⟨rfl, rfl⟩
      · obtain rfl : c = 58 := by omega
        clear h
        go_enter Try.func48, Try.ntmps48
        go_wp2_with fail
        go_ret
        exact ⟨rfl, rfl⟩
  · rw [decide_eq_false h]
    unfold FirstOk at h
    have p5 : ((c : Int) == 95) = false := by simp; omega
    have p6 : ((c : Int) == 58) = false := by simp; omega
    have p7 : ¬ (127 : Int) < (c : Int) := by omega
    by_cases a1 : 97 ≤ c
    · have p1 : (97 : Int) ≤ (c : Int) := by omega
      have p2 : ¬ (c : Int) ≤ 122 := by omega
      have p3 : (65 : Int) ≤ (c : Int) := by omega
      have p4 : ¬ (c : Int) ≤ 90 := by omega
      clear h
      go_enter Try.func48, Try.ntmps48
      go_wp2_with fail
      go_ret
      exact ⟨rfl, rfl⟩
    · have p1 : ¬ (97 : Int) ≤ (c : Int) := by omega
      by_cases a3 : 65 ≤ c
      · have p3 : (65 : Int) ≤ (c : Int) := by omega
        have p4 : ¬ (c : Int) ≤ 90 := by omega
        clear h
        go_enter Try.func48, Try.ntmps48
        go_wp2_with fail
        go_ret
        exact ⟨rfl, rfl⟩
      · have p3 : ¬ (65 : Int) ≤ (c : Int) := by omega
        clear h
        go_enter Try.func48, Try.ntmps48
        go_wp2_with fail
        go_ret
        exact ⟨rfl, rfl⟩
end Go.Proofs.Ytelhnaphkbpakaa

namespace Go.Proofs.Ytelhnaphkbpakaa
open Go.RowKit
set_option linter.unusedVariables false
set_option maxRecDepth 100000

theorem nm_zero {c : Nat} (h : ¬ FirstOk c) : ¬ NmOk 0 c := by unfold FirstOk at h; unfold NmOk; omega
theorem nm_cases {q c : Nat} (h : ¬ FirstOk c) (hok : NmOk q c) : c = 45 ∨ c = 46 ∨ (48 ≤ c ∧ c ≤ 57) := by unfold FirstOk at h; unfold NmOk at hok; omega
theorem nm_not {q c : Nat} (hq : q ≠ 0) (h : ¬ NmOk q c) : c ≠ 45 ∧ c ≠ 46 ∧ (c < 48 ∨ 57 < c) := by unfold NmOk at h; omega
set_option maxHeartbeats 4000000 in
theorem namedR_calls (w : World) (s : ByteArray) (hs : s.size ≤ 9223372036854775807) :
    Calls Try.prog 13 #[.string s] w fun e w' => e = .returned (.bool (namedD s)) ∧ w = w' := by
  by_cases hsz : 1 ≤ s.size ∧ s.size ≤ 30
  · obtain ⟨hs1, hs2⟩ := hsz
    have p1 : ¬ (s.size : Int) < 1 := by omega
    have p2 : ¬ (30 : Int) < (s.size : Int) := by omega
    go_enter Try.func13, Try.ntmps13
    go_wp2_with fail
    go_loopw [3] (fun v wr => ∃ (q : Nat) (pre : List Pc), v = .int .i64 (q : Nat) ∧ q ≤ s.size ∧ pcs s = pre ++ pcsFrom s q ∧ pre.all nmOk = true ∧ badL pre = [] ∧ wr = w) (fun v _ => s.size - (intOf v).toNat)
    case atStart => exact ⟨0, [], rfl, Nat.zero_le _, rfl, rfl, rfl, rfl⟩
    case round =>
      obtain ⟨q, pre, rfl, hq, hlist, hgood, hbad, rfl⟩ := hrel
      by_cases hlt : q < s.size
      · have p3 : (q : Int) < (s.size : Int) := by omega
        have p3' : (0 : Int) ≤ (q : Int) := by omega
        have p3'' : (q : Int) ≤ (s.size : Int) := by omega
        have hx := pcsFrom_step s q hlt
        have hn := pcAt_n_bnd s q
        have hnz := pcAt_size s q hlt
        have hp := pcAt_p s q
        have hcd := codeR_extract s q hlt
        have hce := fun w => code_calls (s.extract q s.size) (by simp; omega) (by simp; omega) w
        obtain ⟨x, hxx⟩ : ∃ x, x = pcAt s q := ⟨_, rfl⟩
        rw [← hxx] at hx hn hnz hp hcd
        rw [hx] at hlist
        obtain ⟨xp, xn, xok, xc⟩ := x
        simp only at hn hnz hp hcd hx
        have hp' := hp.symm
        subst hp'
        have HL := Lib.hid (And.intro hlist (And.intro hgood hbad))
        clear hlist hgood hbad hx hxx
        cases xok with
        | false =>
          rw [if_neg (by decide)] at hcd
          have HCE : Hid (∀ w, Calls Try.prog 47 #[.string (s.extract q s.size)] w fun e w' => e = .returned (.tuple #[.int .i64 0, .int .i64 0]) ∧ w = w') := Lib.hid (fun w => by have h := hce w; rw [hcd] at h; exact h)
          have e : namedD s = false := by
            unfold namedD
            rw [HL.out.1]
            simp [badL]
          have HE := Lib.hid e
          clear e hcd hce
          go_wp2_with fail
          refine (HCE.out _).mono ?_
          rintro e w2 ⟨rfl, rfl⟩
          go_wp2_with fail
          exact bodyPost_ret (v := .bool false) (by simp [results, Try.results13, go_sem]) rfl ⟨by rw [HE.out], rfl⟩
        | true =>
          rw [if_pos rfl] at hcd
          have HCE : Hid (∀ w, Calls Try.prog 47 #[.string (s.extract q s.size)] w fun e w' => e = .returned (.tuple #[.int .i64 (xc : Int), .int .i64 (xn : Int)]) ∧ w = w') := Lib.hid (fun w => by have h := hce w; rw [hcd] at h; exact h)
          have hn0 : ((xn : Int) == 0) = false := by simp; omega
          have hfi := fun w => first_calls xc w
          have hnext : Hid (NmOk q xc → ∃ pre', pcs s = pre' ++ pcsFrom s (q + xn) ∧ pre'.all nmOk = true ∧ badL pre' = []) := Lib.hid (fun hok => by
            refine ⟨pre ++ [⟨q, xn, true, xc⟩], by rw [HL.out.1]; simp, ?_, ?_⟩
            · rw [List.all_append, HL.out.2.1]
              simp [nmOk, hok]
            · rw [badL_snoc, HL.out.2.2]; rfl)
          have hstop : Hid (¬ NmOk q xc → namedD s = false) := Lib.hid (fun hok => by
            unfold namedD
            rw [HL.out.1]
            simp [nmOk, hok])
          have q5 : IntKind.i64.wrap ((q : Int) + (xn : Int)) = (q : Int) + (xn : Int) := IntWalk.i64_in _ (by omega)
          clear hcd hce HL
          by_cases hf : FirstOk xc
          · have hok : NmOk q xc := .inl hf
            rw [show decide (FirstOk xc) = true from decide_eq_true hf] at hfi
            have HFI := Lib.hid hfi
            have HN := Lib.hid (hnext.out hok)
            clear hfi hnext hstop hok hf
            go_wp2_with fail
            refine (HCE.out _).mono ?_
            rintro e w2 ⟨rfl, rfl⟩
            go_wp2_with fail
            refine (HFI.out _).mono ?_
            rintro e w2 ⟨rfl, rfl⟩
            go_wp2_with fail
            go_roundw
            case rel => obtain ⟨pre', h1, h2, h3⟩ := HN.out; exact ⟨q + xn, pre', by go_num, hnz, h1, h2, h3, by first | rfl | trivial⟩
            case measure => simp [intOf]; omega
          · rw [show decide (FirstOk xc) = false from decide_eq_false hf] at hfi
            have HFI := Lib.hid hfi
            clear hfi
            by_cases hq0 : q = 0
            · have qq : ((q : Int) == 0) = true := by simp [hq0]
              have hnok : ¬ NmOk q xc := by rw [hq0]; exact nm_zero hf
              have HE := Lib.hid (hstop.out hnok)
              clear hnext hstop hnok hf hq0
              go_wp2_with fail
              refine (HCE.out _).mono ?_
              rintro e w2 ⟨rfl, rfl⟩
              go_wp2_with fail
              refine (HFI.out _).mono ?_
              rintro e w2 ⟨rfl, rfl⟩
              go_wp2_with fail
              exact bodyPost_ret (v := .bool false) (by simp [results, Try.results13, go_sem]) rfl ⟨by rw [HE.out], rfl⟩
            · have qq : ((q : Int) == 0) = false := by simp; omega
              by_cases hok : NmOk q xc
              · have hcs : xc = 45 ∨ xc = 46 ∨ (48 ≤ xc ∧ xc ≤ 57) := nm_cases hf hok
                have HN := Lib.hid (hnext.out hok)
                clear hnext hstop hok hf
                rcases hcs with rfl | rfl | ⟨h1, h2⟩
                · go_wp2_with fail
                  refine (HCE.out _).mono ?_
                  rintro e w2 ⟨rfl, rfl⟩
                  go_wp2_with fail
                  refine (HFI.out _).mono ?_
                  rintro e w2 ⟨rfl, rfl⟩
                  go_wp2_with fail
                  go_roundw
                  case rel => obtain ⟨pre', h1, h2, h3⟩ := HN.out; exact ⟨q + xn, pre', by go_num, hnz, h1, h2, h3, by first | rfl | trivial⟩
                  case measure => simp [intOf]; omega
                · go_wp2_with fail
                  refine (HCE.out _).mono ?_
                  rintro e w2 ⟨rfl, rfl⟩
                  go_wp2_with fail
                  refine (HFI.out _).mono ?_
                  rintro e w2 ⟨rfl, rfl⟩
                  go_wp2_with fail
                  go_roundw
                  case rel => obtain ⟨pre', h1, h2, h3⟩ := HN.out; exact ⟨q + xn, pre', by go_num, hnz, h1, h2, h3, by first | rfl | trivial⟩
                  case measure => simp [intOf]; omega
                · have u1 : ((xc : Int) != 45) = true := by simp; omega
                  have u2 : ((xc : Int) != 46) = true := by simp; omega
                  have u3 : ¬ (xc : Int) < 48 := by omega
                  have u4 : ¬ (57 : Int) < (xc : Int) := by omega
                  go_wp2_with fail
                  refine (HCE.out _).mono ?_
                  rintro e w2 ⟨rfl, rfl⟩
                  go_wp2_with fail
                  refine (HFI.out _).mono ?_
                  rintro e w2 ⟨rfl, rfl⟩
                  go_wp2_with fail
                  go_roundw
                  case rel => obtain ⟨pre', h1, h2, h3⟩ := HN.out; exact ⟨q + xn, pre', by go_num, hnz, h1, h2, h3, by first | rfl | trivial⟩
                  case measure => simp [intOf]; omega
              · have hcs : xc ≠ 45 ∧ xc ≠ 46 ∧ (xc < 48 ∨ 57 < xc) := nm_not hq0 hok
                have HE := Lib.hid (hstop.out hok)
                clear hnext hstop hok hf
                obtain ⟨h1, h2, h3⟩ := hcs
                have u1 : ((xc : Int) != 45) = true := by simp; omega
                have u2 : ((xc : Int) != 46) = true := by simp; omega
                rcases h3 with h3 | h3
                · have u3 : (xc : Int) < 48 := by omega
                  go_wp2_with fail
                  refine (HCE.out _).mono ?_
                  rintro e w2 ⟨rfl, rfl⟩
                  go_wp2_with fail
                  refine (HFI.out _).mono ?_
                  rintro e w2 ⟨rfl, rfl⟩
                  go_wp2_with fail
                  exact bodyPost_ret (v := .bool false) (by simp [results, Try.results13, go_sem]) rfl ⟨by rw [HE.out], rfl⟩
                · have u3 : ¬ (xc : Int) < 48 := by omega
                  have u4 : (57 : Int) < (xc : Int) := by omega
                  go_wp2_with fail
                  refine (HCE.out _).mono ?_
                  rintro e w2 ⟨rfl, rfl⟩
                  go_wp2_with fail
                  refine (HFI.out _).mono ?_
                  rintro e w2 ⟨rfl, rfl⟩
                  go_wp2_with fail
                  exact bodyPost_ret (v := .bool false) (by simp [results, Try.results13, go_sem]) rfl ⟨by rw [HE.out], rfl⟩
      · have e : namedD s = true := by
          unfold namedD
          rw [hlist, pcsFrom_end s q hlt, List.append_nil, hgood, hbad, decide_eq_true ⟨hs1, hs2⟩]
          rfl
        have HE := Lib.hid e
        have p3 : ¬ (q : Int) < (s.size : Int) := by omega
        clear e hlist hgood hbad hlt
        go_wp2_with fail
        exact bodyPost_ret (v := .bool true) (by simp [results, Try.results13, go_sem]) rfl ⟨by rw [HE.out], rfl⟩
  · have e0 : namedD s = false := by unfold namedD; rw [decide_eq_false hsz]; rfl
    have E0 := Lib.hid e0
    clear e0
    by_cases h1 : s.size < 1
    · have p1 : (s.size : Int) < 1 := by omega
      clear hsz h1
      go_enter Try.func13, Try.ntmps13
      go_wp2_with fail
      exact bodyPost_ret (v := .bool false) (by simp [results, Try.results13, go_sem]) rfl ⟨by rw [E0.out], rfl⟩
    · have p1 : ¬ (s.size : Int) < 1 := by omega
      have p2 : (30 : Int) < (s.size : Int) := by omega
      clear hsz h1
      go_enter Try.func13, Try.ntmps13
      go_wp2_with fail
      exact bodyPost_ret (v := .bool false) (by simp [results, Try.results13, go_sem]) rfl ⟨by rw [E0.out], rfl⟩
end Go.Proofs.Ytelhnaphkbpakaa

