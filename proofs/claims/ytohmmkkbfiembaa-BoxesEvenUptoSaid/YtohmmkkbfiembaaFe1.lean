/- Whole numbers among the words of binary64; what sums, products, bounds of them are. No program's run. -/
import Derived.Test.YtohmmkkbfiembaaFs3
import Derived.Test.YtohmmkkbfiembaaFx1
namespace Go.Proofs.Ytohmmkkbfiembaa
open Ieee
set_option linter.unusedVariables false
set_option maxRecDepth 100000

/-- One, in units of the least place. -/
def DD : Nat := 2 ^ 1074
theorem DD_pos : 0 < DD := by unfold DD; exact Nat.two_pow_pos 1074
theorem DD_eq : 2 ^ 1074 = DD := by unfold DD; rfl
/-- A finite word of a value (in units of the least place). -/
structure Sv (x : Nat) (v : Int) : Prop where
  lt : x < 2 ^ 64
  fin : Fin' x
  sv : Proofs.Ytohmmkkbfiembaa.sv x = v
/-- A whole number's word. -/
def Iv (x : Nat) (v : Int) : Prop := Sv x (v * (DD : Int))
theorem Sv.num {x : Nat} {v : Int} (h : Sv x v) : Num x := h.fin.num h.lt
theorem pow_pos' : (0 : Int) < (DD : Int) := by
  have := DD_pos
  omega
theorem Sv.of {x : Nat} (h : Fin' x) (h64 : x < 2 ^ 64) : Sv x (Proofs.Ytohmmkkbfiembaa.sv x) := ⟨h64, h, rfl⟩
theorem Sv.bd {T k x : Nat} (h : Bd T k x) : Sv x (Proofs.Ytohmmkkbfiembaa.sv x) := ⟨h.1, h.2.1, rfl⟩
theorem Sv.order {x y : Nat} {a b : Int} (hx : Sv x a) (hy : Sv y b) : FloatKind.f64.format.order x y = some (compare a b) := by
  have h := order_fin hx.fin hy.fin
  rw [hx.sv, hy.sv] at h
  exact h
theorem Sv.max {x y : Nat} {a b : Int} (hx : Sv x a) (hy : Sv y b) : Sv (maxD x y) (max a b) := by
  unfold maxD
  have e1 := hx.sv
  have e2 := hy.sv
  split
  · rename_i h
    have := plD_sv hy.lt hx.lt h
    rw [show Max.max a b = a by omega]
    exact hx
  · rename_i h
    have := plD_sv hx.lt hy.lt (by omega)
    rw [show Max.max a b = b by omega]
    exact hy
theorem Sv.min {x y : Nat} {a b : Int} (hx : Sv x a) (hy : Sv y b) : Sv (minD x y) (min a b) := by
  unfold minD
  have e1 := hx.sv
  have e2 := hy.sv
  split
  · rename_i h
    have := plD_sv hx.lt hy.lt h
    rw [show Min.min a b = a by omega]
    exact hx
  · rename_i h
    have := plD_sv hy.lt hx.lt (by omega)
    rw [show Min.min a b = b by omega]
    exact hy
theorem Sv.btw {l x h : Nat} {a b c : Int} (hl : Sv l a) (hx : Sv x b) (hh : Sv h c) : Sv (btwD l x h) (Max.max a (Min.min b c)) := hl.max (hx.min hh)
theorem zero_sv : Sv 0 0 := ⟨by decide, (by decide : 0 % 2 ^ 63 < 2047 * 2 ^ 52), by decide⟩
theorem mx_sv : Sv mx ((2 ^ 25 * DD : Nat) : Int) := ⟨by decide, fin_mx, by rw [← DD_eq]; exact sv_mx⟩
theorem mn_sv : Sv mn (-((2 ^ 25 * DD : Nat) : Int)) := ⟨by decide, fin_mn, by rw [← DD_eq]; exact sv_mn⟩
theorem cmp_eq {a b : Int} : (some (compare a b) == some Ordering.eq) = decide (a = b) := by
  rcases Int.lt_trichotomy a b with h | h | h
  · rw [Int.compare_eq_lt.2 h]; simp; omega
  · rw [h]; simp
  · rw [Int.compare_eq_gt.2 h]; simp; omega
theorem cmp_lt {a b : Int} : (some (compare a b) == some Ordering.lt) = decide (a < b) := by
  rcases Int.lt_trichotomy a b with h | h | h
  · rw [Int.compare_eq_lt.2 h]; simp; omega
  · rw [h]; simp
  · rw [Int.compare_eq_gt.2 h]; simp; omega
theorem cmp_gt {a b : Int} : (some (compare a b) == some Ordering.gt) = decide (b < a) := by
  rcases Int.lt_trichotomy a b with h | h | h
  · rw [Int.compare_eq_lt.2 h]; simp; omega
  · rw [h]; simp
  · rw [Int.compare_eq_gt.2 h]; simp; omega
theorem Sv.eqD {x y : Nat} {a b : Int} (hx : Sv x a) (hy : Sv y b) : Proofs.Ytohmmkkbfiembaa.eqD x y = decide (a = b) := by unfold Proofs.Ytohmmkkbfiembaa.eqD od; rw [hx.order hy, cmp_eq]
theorem Sv.ltD {x y : Nat} {a b : Int} (hx : Sv x a) (hy : Sv y b) : Proofs.Ytohmmkkbfiembaa.ltD x y = decide (a < b) := by unfold Proofs.Ytohmmkkbfiembaa.ltD od; rw [hx.order hy, cmp_lt]
theorem Sv.gtD {x y : Nat} {a b : Int} (hx : Sv x a) (hy : Sv y b) : Proofs.Ytohmmkkbfiembaa.gtD x y = decide (b < a) := by unfold Proofs.Ytohmmkkbfiembaa.gtD od; rw [hx.order hy, cmp_gt]
/-- What may be used of a word within the bounds. -/
theorem Sv.used {x : Nat} {a : Int} (hx : Sv x a) (h : a.natAbs ≤ 2 ^ 25 * DD) : Sv (usedD x) a := by
  unfold usedD od
  rw [hx.order hx, hx.order zero_sv, hx.order mx_sv, hx.order mn_sv, cmp_eq, cmp_gt, cmp_lt]
  have e1 : (some (compare a a) != some Ordering.eq) = false := by simp
  rw [e1, if_neg (by decide)]
  by_cases h0 : a = 0
  · rw [if_pos (by simpa using h0), h0]; exact zero_sv
  · obtain ⟨D, hD⟩ : ∃ D, D = 2 ^ 25 * DD := ⟨_, rfl⟩
    rw [← hD] at h ⊢
    rw [if_neg (by simpa using h0), if_neg (by simp; omega), if_neg (by simp; omega)]
    exact hx
theorem iv_rep {a : Int} (h : a.natAbs ≤ 2 ^ 53) : Rep (a * (DD : Int)) := ⟨a.natAbs, 1074, h, by decide, by rw [Int.natAbs_mul, Int.natAbs_natCast, DD_eq]⟩
theorem Iv.add {x y : Nat} {a b : Int} (hx : Iv x a) (hy : Iv y b) (h : (a + b).natAbs ≤ 2 ^ 53) : double.add x y = some (addD x y) ∧ Iv (addD x y) (a + b) := by
  obtain ⟨r, h1, h2⟩ := add_rnd hx.fin hy.fin
  have e : sv x + sv y = (a + b) * (DD : Int) := by rw [hx.sv, hy.sv, Int.add_mul]
  rw [e] at h2
  obtain ⟨f, s⟩ := h2.exact (iv_rep h)
  unfold addD
  rw [h1]
  exact ⟨rfl, h2.lt, f, s⟩
theorem Iv.sub {x y : Nat} {a b : Int} (hx : Iv x a) (hy : Iv y b) (h : (a - b).natAbs ≤ 2 ^ 53) : double.sub x y = some (subD x y) ∧ Iv (subD x y) (a - b) := by
  obtain ⟨r, h1, h2⟩ := sub_rnd hx.fin hy.fin
  have e : sv x - sv y = (a - b) * (DD : Int) := by rw [hx.sv, hy.sv, Int.sub_mul]
  rw [e] at h2
  obtain ⟨f, s⟩ := h2.exact (iv_rep h)
  unfold subD
  rw [h1]
  exact ⟨rfl, h2.lt, f, s⟩
/-- A product that is exact. -/
theorem mul_exact {x y : Nat} {a b c : Int} (hx : Sv x a) (hy : Sv y b) (h : c.natAbs ≤ 2 ^ 53) (e : a * b = c * (DD : Int) * (DD : Int)) : double.mul x y = some (mulD x y) ∧ Iv (mulD x y) c := by
  obtain ⟨r, h1, h2⟩ := mul_rnd hx.fin hy.fin
  rw [hx.sv, hy.sv, e] at h2
  have hr := iv_rep h
  have hf : Fin' r := h2.fin _ hr (by rw [Int.natAbs_mul, Int.natAbs_natCast, DD_eq]; exact Nat.le_refl _)
  have g1 := h2.le hf _ hr (by rw [DD_eq]; exact Int.le_refl _)
  have g2 := h2.ge hf _ hr (by rw [DD_eq]; exact Int.le_refl _)
  unfold mulD
  rw [h1]
  exact ⟨rfl, h2.lt, hf, by show sv r = _; omega⟩
theorem wq_iv {n : Nat} (h : n ≤ 2 ^ 52) : Iv (wq n) (n : Int) := by
  by_cases h0 : n = 0
  · subst h0
    have : wq 0 = 0 := rfl
    rw [this]
    unfold Iv
    rw [show ((0 : Nat) : Int) * (DD : Int) = 0 from Int.zero_mul _]
    exact zero_sv
  · have hl : n.log2 ≤ 52 := by
      have := (Nat.log2_lt h0).2 (show n < 2 ^ 53 by omega)
      omega
    have hlt := log_lt n
    have hle := log_le h0
    have h1 : 2 ^ 52 ≤ n * 2 ^ (52 - n.log2) := by
      have := Nat.mul_le_mul_right (2 ^ (52 - n.log2)) hle
      rw [← Nat.pow_add, show n.log2 + (52 - n.log2) = 52 by omega] at this
      exact this
    have h2 : n * 2 ^ (52 - n.log2) < 2 ^ 53 := by
      have := Nat.mul_lt_mul_of_pos_right hlt (Nat.two_pow_pos (52 - n.log2))
      rw [← Nat.pow_add, show n.log2 + 1 + (52 - n.log2) = 53 by omega] at this
      exact this
    have hw : wq n = (n.log2 + 1022) * 2 ^ 52 + n * 2 ^ (52 - n.log2) := by unfold wq; rw [if_neg h0]
    have hm := mg_at (L := n.log2 + 1022) (k := n * 2 ^ (52 - n.log2)) (.inr h1) (by omega)
    have hv : n * 2 ^ (52 - n.log2) * 2 ^ (n.log2 + 1022) = n * DD := by
      rw [Nat.mul_assoc, ← Nat.pow_add, show 52 - n.log2 + (n.log2 + 1022) = 1074 by omega, DD_eq]
    rw [hv, ← hw] at hm
    have hb : wq n < 2047 * 2 ^ 52 := by rw [hw]; omega
    refine ⟨by omega, ?_, ?_⟩
    · unfold Fin'; rw [Nat.mod_eq_of_lt (by omega)]; exact hb
    · unfold sv sgn sgb
      rw [Nat.mod_eq_of_lt (show wq n < 2 ^ 63 by omega), Nat.div_eq_of_lt (show wq n < 2 ^ 63 by omega), hm]
      obtain ⟨D, hD⟩ : ∃ D, D = DD := ⟨_, rfl⟩
      rw [← hD]
      simp
theorem float_nat {n : Nat} (h : n ≤ 2 ^ 52) : floatOfInt .f64 (n : Int) = wq n := by
  have e : floatOfInt .f64 (n : Int) = double.nearest (decide ((n : Int) < 0)) (n : Int).natAbs 0 := rfl
  rw [e, show decide ((n : Int) < 0) = false by simp, Int.natAbs_natCast, near_whole false h]
  rfl
theorem one_iv : Iv one 1 := by
  have := wq_iv (n := 1) (by decide)
  have e : wq 1 = one := by decide
  rw [e] at this
  exact this
theorem fe1_end : True := trivial
end Go.Proofs.Ytohmmkkbfiembaa
