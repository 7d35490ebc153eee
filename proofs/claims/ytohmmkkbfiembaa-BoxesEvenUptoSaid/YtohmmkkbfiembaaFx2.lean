/- The document's nearest whole number: walked. -/
import Derived.Test.YtohmmkkbfiembaaFx1
namespace Go.Proofs.Ytohmmkkbfiembaa
open Go.RowKit Go.Shelf
attribute [local go_sem] Oper.semAt_some
set_option linter.unusedVariables false
set_option maxRecDepth 100000

def bl (m : Nat) : Nat := if m = 0 then 0 else m.log2 + 1
theorem bl_at {m k : Nat} (h0 : m / 2 ^ k = 0) (h1 : 0 < k → 0 < m / 2 ^ (k - 1)) : bl m = k := by
  unfold bl
  have hlt : m < 2 ^ k := (Nat.div_eq_zero_iff_lt (Nat.two_pow_pos _)).1 h0
  rcases Nat.eq_zero_or_pos k with rfl | hk
  · rw [if_pos (by omega)]
  · have h2 := h1 hk
    have h3 : 2 ^ (k - 1) ≤ m := by
      rcases Nat.lt_or_ge m (2 ^ (k - 1)) with h | h
      · rw [Nat.div_eq_of_lt h] at h2; omega
      · exact h
    have hp := Nat.two_pow_pos (k - 1)
    rw [if_neg (by omega), log_two (L := k - 1) h3 (by rw [show k - 1 + 1 = k by omega]; exact hlt)]
    omega
theorem length_calls (w : World) (m : Nat) (h : m < 18446744073709551616) : Calls Try.prog 74 #[.int .u64 (m : Int)] w fun e w' => e = .returned (.int .i64 (bl m : Int)) ∧ w = w' := by
  have HM := Lib.hid h
  clear h
  go_enter Try.func74, Try.ntmps74
  go_wp2
  go_loop [0, 3] (fun v n => ∃ k : Nat, v = .int .u64 ((m / 2 ^ k : Nat) : Int) ∧ n = .int .i64 (k : Int) ∧ k ≤ 64 ∧ Hid (0 < k → 0 < m / 2 ^ (k - 1))) (fun v _ => (intOf v).toNat)
  case atStart => exact ⟨0, by simp, rfl, by omega, Lib.hid (fun h => by omega)⟩
  case round =>
    obtain ⟨k, rfl, rfl, hk, hprev⟩ := hrel
    obtain ⟨c, hc⟩ : ∃ c, c = m / 2 ^ k := ⟨_, rfl⟩
    rw [← hc]
    have HC := Lib.hid hc
    clear hc
    have hcm : Hid (c < 18446744073709551616) := Lib.hid (by rw [HC.out]; exact Nat.lt_of_le_of_lt (Nat.div_le_self _ _) HM.out)
    have q0 : IntKind.i64.wrap ((k : Int) + 1) = (k : Int) + 1 := IntWalk.i64_in _ (by omega)
    by_cases h0 : 0 < c
    · have hd : ((c : Int) / 2) = ((c / 2 : Nat) : Int) := by omega
      have hk2 : Hid (k + 1 ≤ 64) := Lib.hid (by
        rcases Nat.lt_or_ge k 64 with h | h
        · omega
        · have : m / 2 ^ k = 0 := Nat.div_eq_of_lt (Nat.lt_of_lt_of_le HM.out (by rw [show (18446744073709551616 : Nat) = 2 ^ 64 by decide]; exact Nat.pow_le_pow_right (by decide) h))
          have := HC.out
          omega)
      have hnx : Hid (c / 2 = m / 2 ^ (k + 1)) := Lib.hid (by rw [HC.out, Nat.div_div_eq_div_mul, Nat.pow_succ])
      have hlt : Hid (c / 2 < c) := Lib.hid (by omega)
      have hh0 : Hid (0 < m / 2 ^ k) := Lib.hid (by rw [← HC.out]; exact h0)
      obtain ⟨c2, hc2⟩ : ∃ x, x = c / 2 := ⟨_, rfl⟩
      rw [← hc2] at hd hnx hlt
      clear hc2
      go_wp2
      all_goals
        go_round
        case rel => exact ⟨k + 1, by rw [← hnx.out], by go_num, hk2.out, Lib.hid (fun _ => hh0.out)⟩
        case measure => have := hlt.out; simp [intOf]; omega
    · have hc0 : c = 0 := by omega
      subst hc0
      have he : Hid (bl m = k) := Lib.hid (bl_at HC.out.symm hprev.out)
      go_wp2
      go_ret
      exact ⟨by rw [he.out]; rfl, rfl⟩
theorem ret_u64 {a b : Int} (h : a = b) : Ending.returned (.int .u64 a) = .returned (.int .u64 b) := by rw [h]
theorem drop_calls (w : World) (m s : Nat) (hm : m < 9007199254740992) (hs : 1 ≤ s) (hs2 : s ≤ 1074) : Calls Try.prog 53 #[.int .u64 (m : Int), .int .i64 (s : Int)] w fun e w' => e = .returned (.int .u64 (Ieee.Toward.even.cut false m s : Int)) ∧ w = w' := by
  have HR := Lib.hid (cut_drop m s hs)
  obtain ⟨R, hR⟩ : ∃ R, R = Ieee.Toward.even.cut false m s := ⟨_, rfl⟩
  rw [← hR] at HR ⊢
  clear hR
  by_cases h64 : 64 < s
  · have hz : R = 0 := by
      have hlt : m < 2 ^ (s - 1) := Nat.lt_of_lt_of_le hm (by rw [show (9007199254740992 : Nat) = 2 ^ 53 by decide]; exact Nat.pow_le_pow_right (by decide) (by omega))
      have hlt2 : m < 2 ^ s := Nat.lt_of_lt_of_le hlt (Nat.pow_le_pow_right (by decide) (by omega))
      have := HR.out
      rw [Nat.div_eq_of_lt hlt2, Nat.mod_eq_of_lt hlt2, decide_eq_false (by omega), decide_eq_false (by omega)] at this
      simpa using this
    subst hz
    have q : decide ((64 : Int) < (s : Int)) = true := by simp; omega
    clear HR hm hs hs2
    go_enter Try.func53, Try.ntmps53
    go_wp2
    go_ret
    exact ⟨rfl, rfl⟩
  · obtain ⟨q, hq⟩ : ∃ q, q = m / 2 ^ s := ⟨_, rfl⟩
    obtain ⟨r, hr⟩ : ∃ r, r = m % 2 ^ s := ⟨_, rfl⟩
    obtain ⟨hf, hhf⟩ : ∃ r, r = 2 ^ (s - 1) := ⟨_, rfl⟩
    have hbig : hf ≤ 9223372036854775808 := by rw [hhf, show (9223372036854775808 : Nat) = 2 ^ 63 by decide]; exact Nat.pow_le_pow_right (by decide) (by omega)
    have hdm := Nat.div_add_mod m (2 ^ s)
    rw [← hq, ← hr] at HR hdm
    rw [← hhf] at HR
    have HHF := Lib.hid hhf
    have hql : q * 2 ^ s ≤ m := by rw [Nat.mul_comm]; omega
    have hqm : q ≤ m := by rw [hq]; exact Nat.div_le_self _ _
    have hrm : r ≤ m := by rw [hr]; exact Nat.mod_le _ _
    have hx1 : (m : Int) / 2 ^ s = (q : Int) := by rw [hq]; simp
    have hx2 : IntKind.u64.wrap ((q : Int) * 2 ^ s) = ((q * 2 ^ s : Nat) : Int) := by
      rw [show ((q : Int) * 2 ^ s) = ((q * 2 ^ s : Nat) : Int) by simp]
      exact IntWalk.u64_in _ (by omega)
    have hx3 : IntKind.u64.wrap ((m : Int) - ((q * 2 ^ s : Nat) : Int)) = (r : Int) := by
      rw [show ((m : Int) - ((q * 2 ^ s : Nat) : Int)) = (r : Int) by rw [Nat.mul_comm]; omega]
      exact IntWalk.u64_in _ (by omega)
    obtain ⟨qs, hqs⟩ : ∃ x, x = q * 2 ^ s := ⟨_, rfl⟩
    rw [← hqs] at hx2 hx3
    have hx4 : IntKind.u64.wrap (2 ^ (s - 1)) = (hf : Int) := by
      rw [show ((2 : Int) ^ (s - 1)) = ((2 ^ (s - 1) : Nat) : Int) by simp, ← hhf]
      exact IntWalk.u64_in _ (by omega)
    have hx5 : IntKind.u64.wrap ((q : Int) + 1) = (q : Int) + 1 := IntWalk.u64_in _ (by omega)
    have hqs' := Lib.hid hqs.symm
    have hqle : qs ≤ m := by rw [hqs]; exact hql
    clear hq hr hhf hdm hql hqs
    by_cases h63 : s < 64
    · go_enter Try.func53, Try.ntmps53
      go_wp2
      all_goals
        go_ret
        refine ⟨ret_u64 ?_, rfl⟩
        rw [HR.out]
        clear hx1 hx2 hx3 hx4 hx5
        by_cases c1 : hf < r <;> by_cases c2 : r = hf <;> by_cases c3 : q % 2 = 1 <;> simp [c1, c2, c3] <;> simp_all <;> omega
    · have hs64 : s = 64 := by omega
      have hfm : hf = 9223372036854775808 := by
        have h1 := HHF.out
        rw [hs64] at h1
        exact h1
      have hmh : m < hf := by omega
      have hz : R = 0 := by
        have h2 : q * 2 ^ s = qs := hqs'.out
        have hq0 : q = 0 := by
          rcases Nat.eq_zero_or_pos q with h | h
          · exact h
          · have : 2 ^ s ≤ q * 2 ^ s := Nat.le_mul_of_pos_left _ h
            rw [hs64] at this h2
            omega
        have := HR.out
        rw [hq0, decide_eq_false (show ¬ hf < r by omega), decide_eq_false (show ¬ r = hf by omega)] at this
        simpa using this
      subst hz
      have hs3 : s ≤ 64 := by omega
      have d0 : decide ((64 : Int) < (s : Int)) = false := by simp; omega
      have d1 : decide ((s : Int) < 64) = false := by simp; omega
      have d2 : decide (hf < m) = false := by simp; omega
      have d3 : decide (m = hf) = false := by simp; omega
      have d4 : ((m : Int) == (hf : Int)) = false := by simp; omega
      clear HR hx1 hx2 hx3 hx5 HHF hqm hrm h63 hs64 hfm hqs' hqle hbig h64
      go_enter Try.func53, Try.ntmps53
      go_wp2
      go_ret
      exact ⟨rfl, rfl⟩
theorem or_high (b : Nat) (h : b < 9223372036854775808) : bits .or .u64 (b : Int) 9223372036854775808 = ((9223372036854775808 + b : Nat) : Int) := by
  rw [show (9223372036854775808 : Int) = ((9223372036854775808 : Nat) : Int) from rfl, u64_or_nat b 9223372036854775808 (by omega) (by omega), Nat.or_comm]
  have := Nat.two_pow_add_eq_or_of_lt (i := 63) (b := b) (by omega) 1
  simp only [Nat.mul_one] at this
  rw [show (9223372036854775808 : Nat) = 2 ^ 63 by decide, ← this]
theorem signed_calls (w : World) (neg : Bool) (b : Nat) (h : b < 9223372036854775808) : Calls Try.prog 67 #[.bool neg, .int .u64 (b : Int)] w fun e w' => e = .returned (fl (Ieee.double.word neg b)) ∧ w = w' := by
  have hsw : Ieee.double.signWeight = 9223372036854775808 := by decide
  cases neg with
  | true =>
    have e : Ieee.double.word true b = 9223372036854775808 + b := by unfold Ieee.Format.word; rw [hsw]; rfl
    rw [e]
    have e1 := or_high b h
    obtain ⟨c, hc⟩ : ∃ c, c = 9223372036854775808 + b := ⟨_, rfl⟩
    rw [← hc] at e1 ⊢
    clear hc e hsw h
    go_enter Try.func67, Try.ntmps67
    go_wp2
    rw [run_callFunc_extern Try.func64 (by kernel_rfl) (by kernel_rfl) (by kernel_rfl) (e := Extern.MathFloatBits.float64frombits) (by kernel_rfl), run_ffrom]
    simp only [Result.andThen]
    rw [Oper.upon_value]
    go_wp2
    go_ret
    exact ⟨rfl, rfl⟩
  | false =>
    have e : Ieee.double.word false b = b := rfl
    rw [e]
    clear e hsw h
    go_enter Try.func67, Try.ntmps67
    go_wp2
    rw [run_callFunc_extern Try.func64 (by kernel_rfl) (by kernel_rfl) (by kernel_rfl) (e := Extern.MathFloatBits.float64frombits) (by kernel_rfl), run_ffrom]
    simp only [Result.andThen]
    rw [Oper.upon_value]
    go_wp2
    go_ret
    exact ⟨rfl, rfl⟩
theorem near_calls (w : World) (q : Nat) (h0 : 0 < q) (h : q ≤ 4503599627370496) : Calls Try.prog 68 #[.int .u64 (q : Int), .int .i64 0, .int .i64 53, .int .i64 (-1074)] w fun e w' => e = .returned (.tuple #[.int .u64 ((q * 2 ^ (52 - q.log2) : Nat) : Int), .int .i64 ((q.log2 : Int) - 52)]) ∧ w = w' := by
  have HL := Lib.hid (fun w => length_calls w q (by omega))
  have hb : bl q = q.log2 + 1 := by unfold bl; rw [if_neg (by omega)]
  rw [hb] at HL
  have hl : q.log2 ≤ 52 := by
    have := (Nat.log2_lt (show q ≠ 0 by omega)).2 (show q < 2 ^ 53 by omega)
    omega
  have hlt := log_lt q
  have h2 : q * 2 ^ (52 - q.log2) ≤ 2 ^ 53 := by
    have := Nat.mul_le_mul_right (2 ^ (52 - q.log2)) (Nat.le_of_lt hlt)
    rw [← Nat.pow_add, show q.log2 + 1 + (52 - q.log2) = 53 by omega] at this
    exact this
  obtain ⟨k, hk⟩ : ∃ k, k = 52 - q.log2 := ⟨_, rfl⟩
  have hlg : q.log2 = 52 - k := by omega
  have hk52 : k ≤ 52 := by omega
  rw [← hk] at h2 ⊢
  rw [hlg] at HL ⊢
  clear hk hlg hl hlt hb
  rw [show ((52 - k + 1 : Nat) : Int) = 53 - (k : Int) by omega] at HL
  rw [show ((52 - k : Nat) : Int) - 52 = -(k : Int) by omega]
  have e1 : IntKind.u64.wrap ((q : Int) * 2 ^ (-(53 - (k : Int) - 53)).toNat) = ((q * 2 ^ k : Nat) : Int) := by
    rw [show (-(53 - (k : Int) - 53)).toNat = k by omega, show ((q : Int) * 2 ^ k) = ((q * 2 ^ k : Nat) : Int) by simp]
    exact IntWalk.u64_in _ (by omega)
  have e2 : decide (53 - (k : Int) - 53 ≤ 0) = true := by simp; omega
  obtain ⟨qq, hqq⟩ : ∃ x, x = q * 2 ^ k := ⟨_, rfl⟩
  rw [← hqq] at e1 ⊢
  clear hqq h2 h h0
  go_enter Try.func68, Try.ntmps68
  go_wp2_with (go_at_call 74; refine (HL.out _).mono ?_; rintro e w1 ⟨rfl, rfl⟩)
  go_ret2
  have e3 : 53 - (k : Int) - 53 = -(k : Int) := by omega
  exact ⟨by rw [← e3]; rfl, rfl⟩
theorem or_exp (a b : Nat) (ha : a < 2048) (hb : b < 4503599627370496) : bits .or .u64 ((a * 4503599627370496 : Nat) : Int) (b : Int) = ((a * 4503599627370496 + b : Nat) : Int) := by
  rw [u64_or_nat (a * 4503599627370496) b (by omega) (by omega)]
  have := Nat.two_pow_add_eq_or_of_lt (i := 52) (b := b) (by omega) a
  rw [show a * 4503599627370496 = 2 ^ 52 * a by omega, ← this]
theorem and_frac (a : Nat) (h : a < 18446744073709551616) : bits .and .u64 (a : Int) 4503599627370495 = ((a % 4503599627370496 : Nat) : Int) := by
  rw [show (4503599627370495 : Int) = ((4503599627370495 : Nat) : Int) from rfl, u64_and_nat a 4503599627370495 h (by omega)]
  have e : (4503599627370495 : Nat) = 2 ^ 52 - 1 := by decide
  rw [e, Nat.and_two_pow_sub_one_eq_mod]
theorem nearest_calls (w : World) (neg : Bool) (q : Nat) (h : q ≤ 4503599627370496) : Calls Try.prog 52 #[.bool neg, .int .u64 (q : Int), .int .i64 0] w fun e w' => e = .returned (fl (Ieee.double.word neg (wq q))) ∧ w = w' := by
  by_cases h0 : q = 0
  · subst h0
    have HS := Lib.hid (fun w => signed_calls w neg 0 (by omega))
    rw [show wq 0 = 0 from rfl]
    go_enter Try.func52, Try.ntmps52
    go_wp2_with (go_at_call 67; refine (HS.out _).mono ?_; rintro e w1 ⟨rfl, rfl⟩)
    go_ret
    exact ⟨rfl, rfl⟩
  · have hl : q.log2 ≤ 52 := by
      have := (Nat.log2_lt h0).2 (show q < 2 ^ 53 by omega)
      omega
    have hlt := log_lt q
    have hle := log_le h0
    have h1 : 2 ^ 52 ≤ q * 2 ^ (52 - q.log2) := by
      have := Nat.mul_le_mul_right (2 ^ (52 - q.log2)) hle
      rw [← Nat.pow_add, show q.log2 + (52 - q.log2) = 52 by omega] at this
      exact this
    have h2 : q * 2 ^ (52 - q.log2) < 2 ^ 53 := by
      have := Nat.mul_lt_mul_of_pos_right hlt (Nat.two_pow_pos (52 - q.log2))
      rw [← Nat.pow_add, show q.log2 + 1 + (52 - q.log2) = 53 by omega] at this
      exact this
    have HN := Lib.hid (fun w => near_calls w q (by omega) h)
    have hw : wq q = (q.log2 + 1022) * 2 ^ 52 + q * 2 ^ (52 - q.log2) := by unfold wq; rw [if_neg h0]
    rw [hw]
    obtain ⟨g, hg⟩ : ∃ g, g = q * 2 ^ (52 - q.log2) := ⟨_, rfl⟩
    obtain ⟨L, hL⟩ : ∃ L, L = q.log2 := ⟨_, rfl⟩
    rw [← hg] at HN h1 h2 ⊢
    rw [← hL] at HN hl ⊢
    have HS := Lib.hid (fun w => signed_calls w neg ((L + 1023) * 4503599627370496 + (g - 4503599627370496)) (by omega))
    have hr : (L + 1022) * 2 ^ 52 + g = (L + 1023) * 4503599627370496 + (g - 4503599627370496) := by omega
    rw [hr]
    have a1 : bits .and .u64 (g : Int) 4503599627370495 = ((g - 4503599627370496 : Nat) : Int) := by
      rw [and_frac g (by omega), show g % 4503599627370496 = g - 4503599627370496 by omega]
    have a2 := or_exp (L + 1023) (g - 4503599627370496) (by omega) (by omega)
    have a3 : IntKind.u64.wrap (((L : Int) - 52 + 1075) * 4503599627370496) = (((L + 1023) * 4503599627370496 : Nat) : Int) := by
      rw [show ((L : Int) - 52 + 1075) * 4503599627370496 = (((L + 1023) * 4503599627370496 : Nat) : Int) by omega]
      exact IntWalk.u64_in _ (by omega)
    have a4 : IntKind.u64.wrap ((L : Int) - 52 + 1075) = (L : Int) - 52 + 1075 := IntWalk.u64_in _ (by omega)
    have d1 : decide (g < 4503599627370496) = false := by simp; omega
    have d2 : decide ((g : Int) < 4503599627370496) = false := by simp; omega
    have d3 : decide ((971 : Int) < (L : Int) - 52) = false := by simp; omega
    have d4 : ((q : Int) == 0) = false := by simp; omega
    have d5 : decide ((q : Int) = 0) = false := by simp; omega
    obtain ⟨r, hrr⟩ : ∃ r, r = (L + 1023) * 4503599627370496 + (g - 4503599627370496) := ⟨_, rfl⟩
    obtain ⟨s, hss⟩ : ∃ r, r = (L + 1023) * 4503599627370496 := ⟨_, rfl⟩
    obtain ⟨u, hu⟩ : ∃ r, r = g - 4503599627370496 := ⟨_, rfl⟩
    rw [← hrr] at HS ⊢
    rw [← hrr, ← hss, ← hu] at a2
    rw [← hss] at a3
    rw [← hu] at a1
    clear hrr hss hu hg hL hr hw h1 h2 hlt hle h0
    go_enter Try.func52, Try.ntmps52
    go_wp2_with (first | (go_at_call 68; refine (HN.out _).mono ?_; rintro e w1 ⟨rfl, rfl⟩) | (go_at_call 67; refine (HS.out _).mono ?_; rintro e w1 ⟨rfl, rfl⟩))
    all_goals trace_state
    go_ret
    exact ⟨rfl, rfl⟩
theorem fx2_end : True := trivial
end Go.Proofs.Ytohmmkkbfiembaa
