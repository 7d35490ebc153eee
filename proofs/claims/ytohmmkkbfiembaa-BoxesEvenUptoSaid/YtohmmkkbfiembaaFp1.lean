/- Numbers in binary64: what rounding to the nearest keeps. No program. -/
import Ieee.Arith
namespace Go.Proofs.Ytohmmkkbfiembaa
open Ieee
set_option linter.unusedVariables false
set_option maxRecDepth 100000

/-- The magnitude of a rung, in units of the least place. -/
def mg (r : Nat) : Nat := if r < 2 ^ 52 then r else (2 ^ 52 + r % 2 ^ 52) * 2 ^ (r / 2 ^ 52 - 1)

theorem mg_low {r : Nat} (h : r ≤ 2 ^ 53) : mg r = r := by
  unfold mg
  split
  · rfl
  · rename_i h1
    by_cases h2 : r = 2 ^ 53
    · subst h2; decide
    · have h3 : r / 2 ^ 52 = 1 := by omega
      have h4 : r % 2 ^ 52 = r - 2 ^ 52 := by omega
      rw [h3, h4, Nat.sub_self, Nat.pow_zero, Nat.mul_one]
      omega
theorem mg_at {L k : Nat} (h : L = 0 ∨ 2 ^ 52 ≤ k) (hk : k ≤ 2 ^ 53) : mg (L * 2 ^ 52 + k) = k * 2 ^ L := by
  rcases Nat.eq_zero_or_pos L with rfl | hL
  · rw [Nat.zero_mul, Nat.zero_add, mg_low hk]; simp
  · have h1 : 2 ^ 52 ≤ k := by omega
    unfold mg
    rw [if_neg (by omega)]
    by_cases h2 : k = 2 ^ 53
    · subst h2
      have e : L * 2 ^ 52 + 2 ^ 53 = (L + 2) * 2 ^ 52 := by omega
      rw [e, Nat.mul_mod_left, Nat.mul_div_cancel _ (by decide), show L + 2 - 1 = L + 1 by omega, Nat.pow_succ]
      omega
    · have e : L * 2 ^ 52 + k = (k - 2 ^ 52) + (L + 1) * 2 ^ 52 := by omega
      rw [e, Nat.add_mul_mod_self_right, Nat.add_mul_div_right _ _ (by decide), Nat.mod_eq_of_lt (by omega), Nat.div_eq_of_lt (by omega)]
      rw [show 2 ^ 52 + (k - 2 ^ 52) = k by omega, show 0 + (L + 1) - 1 = L by omega]

theorem log_lt (n : Nat) : n < 2 ^ (n.log2 + 1) := Nat.lt_log2_self
theorem log_le {n : Nat} (h : n ≠ 0) : 2 ^ n.log2 ≤ n := Nat.log2_self_le h

theorem cut_spec (neg : Bool) (n drop : Nat) : ∀ k, (n ≤ k * 2 ^ drop → Toward.even.cut neg n drop ≤ k) ∧ (k * 2 ^ drop ≤ n → k ≤ Toward.even.cut neg n drop) := by
  intro k
  unfold Toward.cut
  simp only
  rcases Nat.lt_or_ge (n.log2 + 2) drop with h | h
  · have e : min drop (n.log2 + 2) = n.log2 + 2 := by omega
    rw [e, Nat.shiftLeft_eq, Nat.one_mul]
    have h1 := log_lt n
    have h2 : 2 ^ (n.log2 + 2) = 2 * 2 ^ (n.log2 + 1) := by rw [show n.log2 + 2 = (n.log2 + 1) + 1 by omega, Nat.pow_succ]; omega
    have h3 : n / 2 ^ (n.log2 + 2) = 0 := Nat.div_eq_of_lt (by omega)
    have h4 : n % 2 ^ (n.log2 + 2) = n := Nat.mod_eq_of_lt (by omega)
    have h5 : ¬ (2 ^ (n.log2 + 2) < 2 * n) := by omega
    have h6 : ¬ (2 ^ (n.log2 + 2) = 2 * n) := by omega
    rw [h3, h4]
    have e2 : (decide (2 ^ (n.log2 + 2) < 2 * n) || (2 ^ (n.log2 + 2) == 2 * n && (0 : Nat) % 2 == 1)) = false := by simp; omega
    rw [e2]
    refine ⟨fun _ => by simp, fun hk => ?_⟩
    have h7 : 2 ^ (n.log2 + 2) ≤ 2 ^ drop := Nat.pow_le_pow_right (by decide) (by omega)
    rcases Nat.eq_zero_or_pos k with rfl | hp
    · simp
    · have : 2 ^ drop ≤ k * 2 ^ drop := Nat.le_mul_of_pos_left _ hp
      omega
  · have e : min drop (n.log2 + 2) = drop := by omega
    rw [e, Nat.shiftLeft_eq, Nat.one_mul]
    have hp : 0 < 2 ^ drop := Nat.two_pow_pos _
    obtain ⟨g, hg⟩ : ∃ g, g = 2 ^ drop := ⟨_, rfl⟩
    rw [← hg] at hp ⊢
    have hdm := Nat.div_add_mod n g
    have hm := Nat.mod_lt n hp
    refine ⟨fun hk => ?_, fun hk => ?_⟩
    · have h1 : n / g ≤ k := Nat.div_le_of_le_mul (by rw [Nat.mul_comm]; exact hk)
      rcases Nat.lt_or_ge (n / g) k with h2 | h2
      · have : ∀ b : Bool, b.toNat ≤ 1 := fun b => by cases b <;> decide
        have := this (decide (g < 2 * (n % g)) || (g == 2 * (n % g) && n / g % 2 == 1))
        omega
      · have h3 : n / g = k := by omega
        have h4 : n % g = 0 := by rw [h3, Nat.mul_comm] at hdm; omega
        rw [h4, h3]
        have e2 : (decide (g < 2 * 0) || (g == 2 * 0 && k % 2 == 1)) = false := by simp; omega
        rw [e2]
        simp
    · have : k ≤ n / g := (Nat.le_div_iff_mul_le hp).2 hk
      omega

/-- Below what the format has. -/
def Top (v : Nat) : Prop := ∀ m, 2098 ≤ m → v < 2 ^ m
theorem top_of {v k T : Nat} (h : v ≤ k * 2 ^ T) (hk : k ≤ 2 ^ 53) (hT : T + 53 < 2098) : Top v := fun m hm => by
  have h1 := Nat.le_trans h (Nat.mul_le_mul_right (2 ^ T) hk)
  rw [← Nat.pow_add] at h1
  exact Nat.lt_of_le_of_lt h1 (Nat.pow_lt_pow_right (by decide) (by omega))
/-- What the nearest word of 'mag * 2 ^ place' is: a sign, and a rung of a magnitude that stands to each number that the format has as 'mag * 2 ^ place' does. -/
theorem near_spec (neg : Bool) (mag : Nat) (place : Int) : ∃ g v, mg g = v ∧ double.nearest neg mag place = double.word neg (min g (2047 * 2 ^ 52)) ∧ (Top v → g < 2047 * 2 ^ 52) ∧
    ∀ k T, k ≤ 2 ^ 53 → (mag * 2 ^ (place + 1074).toNat ≤ k * 2 ^ T * 2 ^ (-(place + 1074)).toNat → v ≤ k * 2 ^ T) ∧ (k * 2 ^ T * 2 ^ (-(place + 1074)).toNat ≤ mag * 2 ^ (place + 1074).toNat → k * 2 ^ T ≤ v) := by
  by_cases hm : mag = 0
  · subst hm
    refine ⟨0, 0, by decide, by unfold Format.nearest; simp, fun _ => by decide, fun k T _ => ⟨fun _ => Nat.zero_le _, fun h => ?_⟩⟩
    rw [Nat.zero_mul] at h
    have hp : 0 < 2 ^ (-(place + 1074)).toNat := Nat.two_pow_pos _
    rcases Nat.eq_zero_or_pos (k * 2 ^ T) with h1 | h1
    · omega
    · have := Nat.le_mul_of_pos_right (k * 2 ^ T) hp; omega
  have hlp : double.leastPlace = -1074 := by decide
  have hfb : double.fractionBits = 52 := rfl
  have hbin : double.binade = 2 ^ 52 := rfl
  have hinf : double.infRung = 2047 * 2 ^ 52 := by decide
  obtain ⟨lg, hlg⟩ : ∃ l, l = mag.log2 := ⟨_, rfl⟩
  have hl1 := log_lt mag
  have hl2 := log_le hm
  rw [← hlg] at hl1 hl2
  obtain ⟨L, hL⟩ : ∃ L : Nat, (L : Int) = max (place + lg - 52) (-1074) + 1074 := ⟨(max (place + lg - 52) (-1074) + 1074).toNat, by omega⟩
  obtain ⟨kept, hkept⟩ : ∃ c, c = Toward.even.cut neg (mag <<< (place - (max (place + lg - 52) (-1074))).toNat) ((max (place + lg - 52) (-1074)) - place).toNat := ⟨_, rfl⟩
  obtain ⟨a, ha⟩ : ∃ a, a = (place + 1074).toNat := ⟨_, rfl⟩
  obtain ⟨b, hb⟩ : ∃ b, b = (-(place + 1074)).toNat := ⟨_, rfl⟩
  -- kept is mag * 2 ^ a over 2 ^ (L + b), rounded
  have hk : ∀ k, (mag * 2 ^ a ≤ k * 2 ^ (L + b) → kept ≤ k) ∧ (k * 2 ^ (L + b) ≤ mag * 2 ^ a → k ≤ kept) := by
    intro k
    obtain ⟨s, hs⟩ : ∃ s, s = (place - (max (place + lg - 52) (-1074))).toNat := ⟨_, rfl⟩
    obtain ⟨d, hd⟩ : ∃ d, d = ((max (place + lg - 52) (-1074)) - place).toNat := ⟨_, rfl⟩
    rw [← hs, ← hd, Nat.shiftLeft_eq] at hkept
    have h1 := cut_spec neg (mag * 2 ^ s) d k
    rw [← hkept] at h1
    -- a + d = L + b + s
    have e : a + d = s + (L + b) ∧ (s = 0 ∨ d = 0) := by omega
    obtain ⟨c, hc⟩ : ∃ c, a = s + c ∧ L + b = d + c := ⟨a - s, by omega⟩
    rw [hc.1, hc.2, Nat.pow_add, Nat.pow_add, ← Nat.mul_assoc, ← Nat.mul_assoc]
    have hp : 0 < 2 ^ c := Nat.two_pow_pos _
    exact ⟨fun h => h1.1 (Nat.le_of_mul_le_mul_right h hp), fun h => h1.2 (Nat.le_of_mul_le_mul_right h hp)⟩
  have hup : kept ≤ 2 ^ 53 := by
    refine (hk _).1 ?_
    rw [← Nat.pow_add]
    refine Nat.le_trans (Nat.mul_le_mul_right _ (Nat.le_of_lt hl1)) ?_
    rw [← Nat.pow_add]
    exact Nat.pow_le_pow_right (by decide) (by omega)
  have hlow : L = 0 ∨ 2 ^ 52 ≤ kept := by
    rcases Nat.eq_zero_or_pos L with h | h
    · exact .inl h
    · refine .inr ((hk _).2 ?_)
      rw [← Nat.pow_add]
      refine Nat.le_trans ?_ (Nat.mul_le_mul_right _ hl2)
      rw [← Nat.pow_add]
      exact Nat.pow_le_pow_right (by decide) (by omega)
  have hexl : 0 < L → 2 ^ 52 * 2 ^ (L + b) ≤ mag * 2 ^ a := fun h => by
    rw [← Nat.pow_add]
    refine Nat.le_trans ?_ (Nat.mul_le_mul_right _ hl2)
    rw [← Nat.pow_add]
    exact Nat.pow_le_pow_right (by decide) (by omega)
  refine ⟨L * 2 ^ 52 + kept, kept * 2 ^ L, mg_at hlow hup, ?_, fun hv => ?_, fun k T hk53 => ?_⟩
  · unfold Format.nearest
    rw [if_neg hm, hlp, hfb, hbin, hinf, ← hlg]
    dsimp only
    rw [show ((52 : Nat) : Int) = 52 from rfl, ← hkept]
    rw [show ((max (place + (lg : Int) - 52) (-1074)) - -1074).toNat = L by omega]
  · rcases Nat.lt_or_ge (L * 2 ^ 52 + kept) (2047 * 2 ^ 52) with h | h
    · exact h
    · exfalso
      have hL1 : 2045 ≤ L := by omega
      have h2 : 2 ^ 52 ≤ kept := by omega
      rcases Nat.lt_or_ge 2045 L with h3 | h3
      · have h4 := Nat.mul_le_mul_right (2 ^ L) h2
        have h5 := hv (52 + L) (by omega)
        rw [Nat.pow_add] at h5
        exact absurd h5 (Nat.not_lt.2 h4)
      · have hL5 : L = 2045 := by omega
        have h5 : 2 ^ 53 ≤ kept := by omega
        have h4 := Nat.mul_le_mul_right (2 ^ L) h5
        have h6 := hv (53 + L) (by omega)
        rw [Nat.pow_add] at h6
        exact absurd h6 (Nat.not_lt.2 h4)
  · rw [← ha, ← hb]
    rcases Nat.le_total L T with hLT | hLT
    · obtain ⟨d, rfl⟩ : ∃ d, T = L + d := ⟨T - L, by omega⟩
      have e : k * 2 ^ (L + d) * 2 ^ b = (k * 2 ^ d) * 2 ^ (L + b) := by rw [Nat.pow_add, Nat.pow_add]; ac_rfl
      have e2 : k * 2 ^ (L + d) = (k * 2 ^ d) * 2 ^ L := by rw [Nat.pow_add]; ac_rfl
      rw [e, e2]
      exact ⟨fun h => Nat.mul_le_mul_right _ ((hk _).1 h), fun h => Nat.mul_le_mul_right _ ((hk _).2 h)⟩
    · rcases Nat.eq_or_lt_of_le hLT with rfl | hlt
      · have e : k * 2 ^ T * 2 ^ b = k * 2 ^ (T + b) := by rw [Nat.pow_add]; ac_rfl
        rw [e]
        exact ⟨fun h => Nat.mul_le_mul_right _ ((hk _).1 h), fun h => Nat.mul_le_mul_right _ ((hk _).2 h)⟩
      · obtain ⟨d, rfl⟩ : ∃ d, L = T + 1 + d := ⟨L - T - 1, by omega⟩
        have h52 : 2 ^ 52 ≤ kept := by omega
        have e3 : k * 2 ^ T ≤ 2 ^ 52 * 2 ^ (T + 1 + d) := by
          refine Nat.le_trans (Nat.mul_le_mul_right _ hk53) ?_
          rw [← Nat.pow_add, ← Nat.pow_add]
          exact Nat.pow_le_pow_right (by decide) (by omega)
        refine ⟨fun h => ?_, fun _ => Nat.le_trans e3 (Nat.mul_le_mul_right _ h52)⟩
        have h1 := hexl (by omega)
        -- equality throughout
        have h2 : k * 2 ^ T * 2 ^ b ≤ 2 ^ 52 * 2 ^ (T + 1 + d) * 2 ^ b := Nat.mul_le_mul_right _ e3
        have e4 : 2 ^ 52 * 2 ^ (T + 1 + d + b) = 2 ^ 52 * 2 ^ (T + 1 + d) * 2 ^ b := by rw [Nat.pow_add _ (T + 1 + d) b]; ac_rfl
        have h3 : mag * 2 ^ a ≤ 2 ^ 52 * 2 ^ (T + 1 + d + b) := by rw [e4]; exact Nat.le_trans h h2
        have h4 : kept ≤ 2 ^ 52 := (hk _).1 h3
        have h5 : kept = 2 ^ 52 := by omega
        rw [h5]
        have h6 : 2 ^ 52 * 2 ^ (T + 1 + d) * 2 ^ b ≤ k * 2 ^ T * 2 ^ b := by rw [← e4]; exact Nat.le_trans h1 h
        exact Nat.le_of_mul_le_mul_right h6 (Nat.two_pow_pos _)
end Go.Proofs.Ytohmmkkbfiembaa
