/- The nearest whole number, part by part: no program. -/
import Derived.Test.YtohmmkkbfiembaaFa1
namespace Go.Proofs.Ytohmmkkbfiembaa
open Ieee
set_option linter.unusedVariables false
set_option maxRecDepth 100000

def exF (x : Nat) : Nat := x % 2 ^ 63 / 2 ^ 52
def frF (x : Nat) : Nat := x % 2 ^ 52
def maF (x : Nat) : Nat := if exF x = 0 then frF x else 2 ^ 52 + frF x
def xpF (x : Nat) : Int := if exF x = 0 then -1074 else (exF x : Int) - 1075
theorem mod_mod52 (x : Nat) : x % 2 ^ 63 % 2 ^ 52 = x % 2 ^ 52 := by omega
theorem maF_lt (x : Nat) : maF x < 2 ^ 53 := by
  unfold maF frF
  split <;> omega
theorem read_parts {x : Nat} (h : Fin' x) : double.read x = .number (sgb x) (maF x) (xpF x) := by
  have hlp : double.leastPlace = -1074 := by decide
  have hsw : double.signWeight = 2 ^ 63 := by decide
  have hbin : double.binade = 2 ^ 52 := rfl
  have hinf : double.infRung = 2047 * 2 ^ 52 := by decide
  unfold Fin' at h
  unfold Format.read maF xpF exF frF
  simp only [hlp, hsw, hbin, hinf]
  by_cases h1 : x % 2 ^ 63 < 2 ^ 52
  · have e : x % 2 ^ 63 / 2 ^ 52 = 0 := Nat.div_eq_of_lt h1
    have e2 : x % 2 ^ 52 = x % 2 ^ 63 := by omega
    rw [if_pos h1, e, if_pos rfl, if_pos rfl, e2]
    rfl
  · have e : 1 ≤ x % 2 ^ 63 / 2 ^ 52 := by omega
    rw [if_neg h1, if_pos h, if_neg (by omega), if_neg (by omega), mod_mod52]
    congr 1
    omega
theorem cut_zero (neg : Bool) (n : Nat) : Toward.even.cut neg n 0 = n := by
  unfold Toward.cut
  simp
  omega
theorem cut_exact (neg : Bool) (m k : Nat) (hm : m ≠ 0) : Toward.even.cut neg (m * 2 ^ k) k = m := by
  have h := cut_spec neg (m * 2 ^ k) k m
  exact Nat.le_antisymm (h.1 (Nat.le_refl _)) (h.2 (Nat.le_refl _))
theorem log_two {m L : Nat} (h1 : 2 ^ L ≤ m) (h2 : m < 2 ^ (L + 1)) : m.log2 = L := by
  have hm : m ≠ 0 := by have := Nat.two_pow_pos L; omega
  have a := (Nat.le_log2 hm).2 h1
  have b := (Nat.log2_lt hm).2 h2
  omega
/-- The word of a whole number that is not above 2^52. -/
def wq (q : Nat) : Nat := if q = 0 then 0 else (q.log2 + 1022) * 2 ^ 52 + q * 2 ^ (52 - q.log2)
theorem near_whole (s : Bool) {q : Nat} (h : q ≤ 2 ^ 52) : double.nearest s q 0 = double.word s (wq q) := by
  have hlp : double.leastPlace = -1074 := by decide
  have hfb : double.fractionBits = 52 := rfl
  have hbin : double.binade = 2 ^ 52 := rfl
  have hinf : double.infRung = 2047 * 2 ^ 52 := by decide
  unfold Format.nearest wq
  by_cases hq : q = 0
  · rw [if_pos hq, if_pos hq]
  · rw [if_neg hq, if_neg hq, hlp, hfb, hbin, hinf]
    have hl : q.log2 ≤ 52 := by
      have := (Nat.log2_lt hq).2 (show q < 2 ^ 53 by omega)
      omega
    have hlt := log_lt q
    dsimp only
    have e1 : (max (0 + (q.log2 : Int) - ((52 : Nat) : Int)) (-1074)) = (q.log2 : Int) - 52 := by omega
    rw [e1]
    rw [show ((q.log2 : Int) - 52 - 0).toNat = 0 by omega, cut_zero, show (0 - ((q.log2 : Int) - 52)).toNat = 52 - q.log2 by omega, Nat.shiftLeft_eq, show ((q.log2 : Int) - 52 - -1074).toNat = q.log2 + 1022 by omega]
    have h2 : q * 2 ^ (52 - q.log2) ≤ 2 ^ 53 := by
      have := Nat.mul_le_mul_right (2 ^ (52 - q.log2)) (Nat.le_of_lt hlt)
      rw [← Nat.pow_add, show q.log2 + 1 + (52 - q.log2) = 53 by omega] at this
      exact this
    rw [Nat.min_eq_left (by omega)]
theorem word_self {x : Nat} (h : x < 2 ^ 64) : double.word (sgb x) (x % 2 ^ 63) = x := by
  have hsw : double.signWeight = 2 ^ 63 := by decide
  unfold Format.word sgb
  rw [hsw]
  by_cases h1 : x < 2 ^ 63
  · have e : x / 2 ^ 63 = 0 := Nat.div_eq_of_lt h1
    rw [e]
    simp
    omega
  · have e : x / 2 ^ 63 = 1 := by omega
    rw [e]
    simp
    omega
/-- A number whose last place is not below one stands as it is; so do the infinities. -/
theorem whole_big {x : Nat} (h : Num x) (he : 1075 ≤ exF x) : wholeD x = x := by
  have hlp : double.leastPlace = -1074 := by decide
  have hfb : double.fractionBits = 52 := rfl
  have hbin : double.binade = 2 ^ 52 := rfl
  have hinf : double.infRung = 2047 * 2 ^ 52 := by decide
  have h64 : x < 2 ^ 64 := by have := h.1; omega
  unfold wholeD
  by_cases hf : Fin' x
  · rw [read_parts hf]
    have hx : xpF x = (exF x : Int) - 1075 := by unfold xpF; rw [if_neg (by omega)]
    have hm : maF x = 2 ^ 52 + frF x := by unfold maF; rw [if_neg (by omega)]
    have hfr : frF x < 2 ^ 52 := Nat.mod_lt _ (by decide)
    obtain ⟨k, hk⟩ : ∃ k : Nat, exF x = 1075 + k := ⟨exF x - 1075, by omega⟩
    have hxk : xpF x = (k : Int) := by omega
    rw [hxk]
    simp only [Datum.integral, Format.write]
    rw [show (-(k : Int)).toNat = 0 by omega, cut_zero, show (k : Int).toNat = k by omega, Nat.shiftLeft_eq]
    obtain ⟨m, hmm⟩ : ∃ m, m = maF x := ⟨_, rfl⟩
    rw [← hmm] at hm ⊢
    have hp : 0 < 2 ^ k := Nat.two_pow_pos _
    have hm0 : m * 2 ^ k ≠ 0 := by
      have : 0 < m * 2 ^ k := Nat.mul_pos (by omega) hp
      omega
    have hlog : (m * 2 ^ k).log2 = 52 + k := by
      refine log_two ?_ ?_
      · rw [Nat.pow_add]
        exact Nat.mul_le_mul_right _ (by omega)
      · rw [show 52 + k + 1 = 53 + k by omega, Nat.pow_add]
        exact Nat.mul_lt_mul_of_pos_right (by omega) hp
    unfold Format.nearest
    rw [if_neg hm0, hlp, hfb, hbin, hinf, hlog]
    dsimp only
    rw [show (max (0 + ((52 + k : Nat) : Int) - ((52 : Nat) : Int)) (-1074)) = (k : Int) by omega]
    rw [show (0 - (k : Int)).toNat = 0 by omega, Nat.shiftLeft_zero, show ((k : Int) - 0).toNat = k by omega, cut_exact _ _ _ (by omega), show ((k : Int) - -1074).toNat = k + 1074 by omega]
    have hr : (k + 1074) * 2 ^ 52 + m = x % 2 ^ 63 := by
      unfold exF at hk
      unfold frF at hm
      omega
    rw [hr, Nat.min_eq_left (by unfold Fin' at hf; omega)]
    exact word_self h64
  · have hi : x % 2 ^ 63 = 2047 * 2 ^ 52 := by
      unfold Fin' at hf
      have := h.2
      omega
    rw [read_inf hi]
    simp only [Datum.integral, Format.write]
    rw [hinf, ← hi]
    exact word_self h64
/-- Below that: what the part behind the point leaves. -/
theorem whole_small {x : Nat} (h : Num x) (he : exF x < 1075) : ∃ q, q ≤ 2 ^ 52 ∧ q = Toward.even.cut (sgb x) (maF x) (-(xpF x)).toNat ∧ wholeD x = double.word (sgb x) (wq q) := by
  have hf : Fin' x := by
    unfold Fin'
    unfold exF at he
    omega
  have hxp : -1074 ≤ xpF x ∧ xpF x < 0 := by unfold xpF; split <;> omega
  have hq : Toward.even.cut (sgb x) (maF x) (-(xpF x)).toNat ≤ 2 ^ 52 := by
    refine (cut_spec _ _ _ _).1 ?_
    have h1 := maF_lt x
    obtain ⟨k, hk⟩ : ∃ k, (-(xpF x)).toNat = k + 1 := ⟨(-(xpF x)).toNat - 1, by omega⟩
    rw [hk, Nat.pow_succ]
    have hp := Nat.two_pow_pos k
    have h2 : 2 ^ 52 * 1 ≤ 2 ^ 52 * 2 ^ k := Nat.mul_le_mul_left _ hp
    omega
  refine ⟨_, hq, rfl, ?_⟩
  unfold wholeD
  rw [read_parts hf]
  simp only [Datum.integral, Format.write]
  rw [show (xpF x).toNat = 0 by omega, Nat.shiftLeft_zero]
  exact near_whole _ hq
theorem whole_zero {x : Nat} (h : Num x) (h0 : x % 2 ^ 63 = 0) : wholeD x = x := by
  have he : exF x = 0 := by unfold exF; rw [h0]
  obtain ⟨q, h1, h2, h3⟩ := whole_small h (by omega)
  have hm : maF x = 0 := by unfold maF frF; rw [if_pos he]; omega
  rw [hm] at h2
  have hq : q = 0 := by
    have := (cut_spec (sgb x) 0 (-(xpF x)).toNat 0).1 (by omega)
    omega
  rw [h3, hq]
  have : wq 0 = x % 2 ^ 63 := by rw [h0]; rfl
  rw [this]
  exact word_self (by have := h.1; omega)
/-- Dropping so many bits, as the document has it. -/
theorem cut_drop (m s : Nat) (hs : 1 ≤ s) : Toward.even.cut false m s = m / 2 ^ s + (decide (2 ^ (s - 1) < m % 2 ^ s) || (decide (m % 2 ^ s = 2 ^ (s - 1)) && decide (m / 2 ^ s % 2 = 1))).toNat := by
  obtain ⟨k, rfl⟩ : ∃ k, s = k + 1 := ⟨s - 1, by omega⟩
  have e : ∀ a : Nat, (decide (2 ^ (k + 1) < 2 * a) || (2 ^ (k + 1) == 2 * a && m / 2 ^ (k + 1) % 2 == 1)) = (decide (2 ^ k < a) || (decide (a = 2 ^ k) && decide (m / 2 ^ (k + 1) % 2 = 1))) := fun a => by
    rw [Nat.pow_succ]
    have h1 : decide (2 ^ k * 2 < 2 * a) = decide (2 ^ k < a) := by rw [decide_eq_decide]; omega
    have h2 : (2 ^ k * 2 == 2 * a) = decide (a = 2 ^ k) := by rw [Bool.eq_iff_iff]; simp; omega
    rw [h1, h2]
    congr 2
  rw [Nat.add_sub_cancel, ← e]
  unfold Toward.cut
  simp only
  rcases Nat.lt_or_ge (m.log2 + 2) (k + 1) with h | h
  · have hm := log_lt m
    have hlt : m < 2 ^ (k + 1) := Nat.lt_of_lt_of_le hm (Nat.pow_le_pow_right (by decide) (by omega))
    have hlt2 : 2 * m < 2 ^ (k + 1) := by
      have : 2 * m < 2 ^ (m.log2 + 2) := by rw [show m.log2 + 2 = (m.log2 + 1) + 1 by omega, Nat.pow_succ]; omega
      exact Nat.lt_of_lt_of_le this (Nat.pow_le_pow_right (by decide) (by omega))
    have hlt3 : 2 * m < 2 ^ (m.log2 + 2) := by rw [show m.log2 + 2 = (m.log2 + 1) + 1 by omega, Nat.pow_succ]; omega
    rw [show min (k + 1) (m.log2 + 2) = m.log2 + 2 by omega, Nat.shiftLeft_eq, Nat.one_mul]
    rw [Nat.div_eq_of_lt hlt, Nat.mod_eq_of_lt hlt, Nat.div_eq_of_lt (by omega), Nat.mod_eq_of_lt (show m < 2 ^ (m.log2 + 2) by omega)]
    have a1 : decide (2 ^ (m.log2 + 2) < 2 * m) = false := by simp; omega
    have a2 : decide (2 ^ (k + 1) < 2 * m) = false := by simp; omega
    have b1 : (2 ^ (m.log2 + 2) == 2 * m) = false := by simp; omega
    have b2 : (2 ^ (k + 1) == 2 * m) = false := by simp; omega
    rw [a1, a2, b1, b2]
  · rw [show min (k + 1) (m.log2 + 2) = k + 1 by omega, Nat.shiftLeft_eq, Nat.one_mul]
theorem cut_neg (s : Bool) (m k : Nat) : Toward.even.cut s m k = Toward.even.cut false m k := rfl
theorem fx1_end : True := trivial
end Go.Proofs.Ytohmmkkbfiembaa
