/- Numbers that are bounded: what is used, what lies between, sums and products of them. No program's run. -/
import Derived.Test.YtohmmkkbfiembaaFc3
namespace Go.Proofs.Ytohmmkkbfiembaa
open Ieee
set_option linter.unusedVariables false
set_option maxRecDepth 100000

/-- A finite word, at most k times 2 ^ T in units of the least place. -/
def Bd (T k x : Nat) : Prop := x < 2 ^ 64 ∧ Fin' x ∧ (sv x).natAbs ≤ k * 2 ^ T
theorem Bd.num {T k x : Nat} (h : Bd T k x) : Num x := h.2.1.num h.1
theorem Bd.mono {T k k' x : Nat} (h : Bd T k x) (hk : k ≤ k') : Bd T k' x := ⟨h.1, h.2.1, Nat.le_trans h.2.2 (Nat.mul_le_mul_right _ hk)⟩
theorem rep_of {k T : Nat} (hk : k ≤ 2 ^ 53) (hT : T + 53 < 2098) : Rep ((k * 2 ^ T : Nat) : Int) := ⟨k, T, hk, hT, Int.natAbs_natCast _⟩
theorem Rnd.bd {E : Int} {d r k T : Nat} (h : Rnd E d r) (hk : k ≤ 2 ^ 53) (hT : T + 53 < 2098) (hE : E.natAbs ≤ k * 2 ^ T * 2 ^ d) : Bd T k r := by
  obtain ⟨h1, h2⟩ := h.bound (rep_of hk hT) (by rw [Int.natAbs_natCast]; exact hE)
  rw [Int.natAbs_natCast] at h2
  exact ⟨h.lt, h1, h2⟩
theorem add_bd {T k j x y : Nat} (hx : Bd T k x) (hy : Bd T j y) (hk : k + j ≤ 2 ^ 53) (hT : T + 53 < 2098) : ∃ r, double.add x y = some r ∧ Bd T (k + j) r ∧ Rnd (sv x + sv y) 0 r := by
  obtain ⟨r, h1, h2⟩ := add_rnd hx.2.1 hy.2.1
  refine ⟨r, h1, h2.bd hk hT ?_, h2⟩
  have := hx.2.2
  have := hy.2.2
  rw [Nat.pow_zero, Nat.mul_one, Nat.add_mul]
  omega
theorem sub_bd {T k j x y : Nat} (hx : Bd T k x) (hy : Bd T j y) (hk : k + j ≤ 2 ^ 53) (hT : T + 53 < 2098) : ∃ r, double.sub x y = some r ∧ Bd T (k + j) r ∧ Rnd (sv x - sv y) 0 r := by
  obtain ⟨r, h1, h2⟩ := sub_rnd hx.2.1 hy.2.1
  refine ⟨r, h1, h2.bd hk hT ?_, h2⟩
  have := hx.2.2
  have := hy.2.2
  rw [Nat.pow_zero, Nat.mul_one, Nat.add_mul]
  omega
theorem mul_bd {S T U k j x y : Nat} (hx : Bd S k x) (hy : Bd T j y) (hk : k * j ≤ 2 ^ 53) (hU : S + T = U + 1074) (hT : U + 53 < 2098) : ∃ r, double.mul x y = some r ∧ Bd U (k * j) r := by
  obtain ⟨r, h1, h2⟩ := mul_rnd hx.2.1 hy.2.1
  refine ⟨r, h1, h2.bd hk hT ?_⟩
  rw [Int.natAbs_mul]
  refine Nat.le_trans (Nat.mul_le_mul hx.2.2 hy.2.2) ?_
  calc k * 2 ^ S * (j * 2 ^ T) = k * j * (2 ^ S * 2 ^ T) := by ac_rfl
    _ = k * j * 2 ^ (U + 1074) := by rw [← Nat.pow_add, hU]
    _ = k * j * 2 ^ U * 2 ^ 1074 := by rw [Nat.pow_add]; ac_rfl
    _ ≤ k * j * 2 ^ U * 2 ^ 1074 := Nat.le_refl _
theorem bd_zero (T k : Nat) : Bd T k 0 := ⟨by decide, (by decide : 0 % 2 ^ 63 < 2047 * 2 ^ 52), by rw [show sv 0 = 0 by decide]; exact Nat.zero_le _⟩

theorem mg_mx : mg mx = 2 ^ 52 * 2 ^ 1047 := by
  have := mg_at (L := 1047) (k := 2 ^ 52) (.inr (Nat.le_refl _)) (by decide)
  rwa [show 1047 * 2 ^ 52 + 2 ^ 52 = mx by decide] at this
theorem pow_mx (a b c d : Nat) (h : a + b = c + d) : 2 ^ a * 2 ^ b = 2 ^ c * 2 ^ d := by rw [← Nat.pow_add, ← Nat.pow_add, h]
theorem sv_mx : sv mx = ((2 ^ 25 * 2 ^ 1074 : Nat) : Int) := by
  unfold sv
  rw [show sgb mx = false by decide, show mx % 2 ^ 63 = mx by decide, mg_mx, pow_mx 52 1047 25 1074 (by decide)]
  rfl
theorem sv_mn : sv mn = -((2 ^ 25 * 2 ^ 1074 : Nat) : Int) := by
  unfold sv
  rw [show sgb mn = true by decide, show mn % 2 ^ 63 = mx by decide, mg_mx, pow_mx 52 1047 25 1074 (by decide)]
  rfl
theorem fin_mx : Fin' mx := (by decide : mx % 2 ^ 63 < 2047 * 2 ^ 52)
theorem fin_mn : Fin' mn := (by decide : mn % 2 ^ 63 < 2047 * 2 ^ 52)
theorem bd_mx : Bd 1074 (2 ^ 25) mx := ⟨by decide, fin_mx, by rw [sv_mx, Int.natAbs_natCast]; exact Nat.le_refl _⟩
theorem bd_mn : Bd 1074 (2 ^ 25) mn := ⟨by decide, fin_mn, by rw [sv_mn, Int.natAbs_neg, Int.natAbs_natCast]; exact Nat.le_refl _⟩
theorem order_inf {x y : Nat} (h : x % 2 ^ 63 = 2047 * 2 ^ 52) (hy : Fin' y) : double.order x y = some (if sgb x then .lt else .gt) := by
  obtain ⟨m, p, e, _⟩ := read_fin hy
  unfold Format.order
  rw [read_inf h, e]
  rfl
theorem num_of_order {x : Nat} (h64 : x < 2 ^ 64) (h : (od x x != some .eq) = false) : Num x := by
  refine ⟨by omega, ?_⟩
  rcases Nat.lt_or_ge (2047 * 2 ^ 52) (x % 2 ^ 63) with h1 | h1
  · exfalso
    obtain ⟨s, f, e⟩ := read_nan (x := x) h1
    unfold od at h
    rw [show FloatKind.f64.format = double from rfl] at h
    unfold Format.order at h
    rw [e] at h
    simp [Datum.order] at h
  · omega
theorem Num.cases {x : Nat} (h : Num x) : Fin' x ∨ x % 2 ^ 63 = 2047 * 2 ^ 52 := by
  have := h.2
  unfold Fin'
  omega
theorem usedD_bd {x : Nat} (h64 : x < 2 ^ 64) : Bd 1074 (2 ^ 25) (usedD x) := by
  unfold usedD
  split
  · exact bd_zero _ _
  · rename_i h1
    split
    · exact bd_zero _ _
    · split
      · exact bd_mx
      · rename_i h3
        split
        · exact bd_mn
        · rename_i h4
          have hn := num_of_order h64 (by simpa using h1)
          rcases hn.cases with hf | hi
          · unfold od at h3 h4
            rw [show FloatKind.f64.format = double from rfl] at h3 h4
            rw [order_fin hf fin_mx] at h3
            rw [order_fin hf fin_mn] at h4
            refine ⟨h64, hf, ?_⟩
            have a1 : ¬ (sv mx < sv x) := fun h => by rw [Int.compare_eq_gt.2 h] at h3; exact h3 rfl
            have a2 : ¬ (sv x < sv mn) := fun h => by rw [Int.compare_eq_lt.2 h] at h4; exact h4 rfl
            rw [sv_mx] at a1
            rw [sv_mn] at a2
            omega
          · unfold od at h3 h4
            rw [show FloatKind.f64.format = double from rfl] at h3 h4
            rw [order_inf hi fin_mx] at h3
            rw [order_inf hi fin_mn] at h4
            cases hs : sgb x
            · rw [hs] at h3; exact absurd rfl h3
            · rw [hs] at h4; exact absurd rfl h4
theorem Bd.max {T k x y : Nat} (hx : Bd T k x) (hy : Bd T k y) : Bd T k (maxD x y) := by unfold maxD; split <;> assumption
theorem Bd.min {T k x y : Nat} (hx : Bd T k x) (hy : Bd T k y) : Bd T k (minD x y) := by unfold minD; split <;> assumption

theorem mg_mono {r s : Nat} (h : r ≤ s) : mg r ≤ mg s := by
  unfold mg
  by_cases h1 : s < 2 ^ 52
  · rw [if_pos h1, if_pos (by omega)]; exact h
  · rw [if_neg h1]
    have hp : 1 ≤ 2 ^ (s / 2 ^ 52 - 1) := Nat.one_le_two_pow
    by_cases h2 : r < 2 ^ 52
    · rw [if_pos h2]
      have : 2 ^ 52 + s % 2 ^ 52 ≤ (2 ^ 52 + s % 2 ^ 52) * 2 ^ (s / 2 ^ 52 - 1) := Nat.le_mul_of_pos_right _ hp
      omega
    · rw [if_neg h2]
      have hq : r / 2 ^ 52 ≤ s / 2 ^ 52 := Nat.div_le_div_right h
      rcases Nat.eq_or_lt_of_le hq with e | hlt
      · rw [e]
        refine Nat.mul_le_mul_right _ ?_
        omega
      · obtain ⟨a, ha⟩ : ∃ a, a = r / 2 ^ 52 := ⟨_, rfl⟩
        obtain ⟨b, hb⟩ : ∃ b, b = s / 2 ^ 52 := ⟨_, rfl⟩
        rw [← ha, ← hb] at hlt ⊢
        have h3 : 1 ≤ a := by omega
        have h4 : (2 ^ 52 + r % 2 ^ 52) * 2 ^ (a - 1) ≤ 2 ^ 53 * 2 ^ (a - 1) := Nat.mul_le_mul_right _ (by omega)
        have h5 : 2 ^ 53 * 2 ^ (a - 1) = 2 ^ 52 * 2 ^ a := pow_mx _ _ _ _ (by omega)
        have h6 : 2 ^ 52 * 2 ^ a ≤ (2 ^ 52 + s % 2 ^ 52) * 2 ^ (b - 1) := Nat.mul_le_mul (by omega) (Nat.pow_le_pow_right (by decide) (by omega))
        omega
theorem plD_sv {x y : Nat} (hx : x < 2 ^ 64) (hy : y < 2 ^ 64) (h : plD x ≤ plD y) : sv x ≤ sv y := by
  unfold plD at h
  unfold sv sgn
  have key : ∀ z : Nat, z < 2 ^ 64 → (sgb z = true ↔ ¬ z < 9223372036854775808) := fun z hz => by
    unfold sgb
    by_cases h : z < 9223372036854775808
    · rw [Nat.div_eq_of_lt (by omega)]; simp [h]
    · rw [show z / 2 ^ 63 = 1 by omega]; simp; omega
  by_cases h1 : x < 9223372036854775808 <;> by_cases h2 : y < 9223372036854775808
  · rw [if_pos h1, if_pos h2] at h
    have a1 : sgb x = false := by have := key x hx; cases e : sgb x <;> simp_all
    have a2 : sgb y = false := by have := key y hy; cases e : sgb y <;> simp_all
    rw [a1, a2]
    simp only [Bool.false_eq_true, ↓reduceIte]
    have := mg_mono (r := x % 2 ^ 63) (s := y % 2 ^ 63) (by omega)
    omega
  · rw [if_pos h1, if_neg h2] at h
    omega
  · have a1 : sgb x = true := (key x hx).2 h1
    have a2 : sgb y = false := by have := key y hy; cases e : sgb y <;> simp_all
    rw [a1, a2]
    simp only [Bool.false_eq_true, ↓reduceIte]
    omega
  · rw [if_neg h1, if_neg h2] at h
    have a1 : sgb x = true := (key x hx).2 h1
    have a2 : sgb y = true := (key y hy).2 h2
    rw [a1, a2]
    simp only [↓reduceIte]
    have := mg_mono (r := y % 2 ^ 63) (s := x % 2 ^ 63) (by omega)
    omega
/-- What lies between two bounded ones is bounded, whatever it was. -/
theorem btw_bd {T k l x h : Nat} (hl : Bd T k l) (hx : Num x) (hh : Bd T k h) : Bd T k (btwD l x h) := by
  unfold btwD
  by_cases c1 : plD x ≤ plD h
  · have e : minD x h = x := by unfold minD; rw [if_pos c1]
    rw [e]
    by_cases c2 : plD x ≤ plD l
    · have e : maxD l x = l := by unfold maxD; rw [if_pos c2]
      rw [e]; exact hl
    · have e : maxD l x = x := by unfold maxD; rw [if_neg c2]
      rw [e]
      have hx64 : x < 2 ^ 64 := by have := hx.1; omega
      have s1 := plD_sv hx64 hh.1 c1
      have s2 := plD_sv hl.1 hx64 (by omega)
      refine ⟨hx64, ?_, by have := hl.2.2; have := hh.2.2; omega⟩
      rcases hx.cases with hf | hi
      · exact hf
      · exfalso
        have g1 := hl.2.1
        have g2 := hh.2.1
        have g3 := hl.1
        have g4 := hh.1
        unfold Fin' at g1 g2
        unfold plD at c1 c2
        split at c1 <;> split at c1 <;> split at c2 <;> omega
  · have e : minD x h = h := by unfold minD; rw [if_neg c1]
    rw [e]
    exact hl.max hh
end Go.Proofs.Ytohmmkkbfiembaa
