/- The small functions over numbers: bits, places, the lesser and the greater, what may be used. -/
import Derived.Test.YtohmmkkbfiembaaChecked
import Derived.Test.YtohmmkkbfiembaaGk
import Derived.Test.YtohmmkkbfiembaaFp2
import Derived.Shelf.RegionOpen
import Derived.StillTailTactics
namespace Go.Proofs.Ytohmmkkbfiembaa
open Go.RowKit Go.Shelf
attribute [local go_sem] Oper.semAt_some
set_option linter.unusedVariables false
set_option maxRecDepth 100000

abbrev fl (b : Nat) : Value := .float .f64 b
/-- Where a number stands in the order. -/
def plD (x : Nat) : Int := if x < 9223372036854775808 then (x : Int) else -((x - 9223372036854775808 : Nat) : Int) - 1
def maxD (x y : Nat) : Nat := if plD y ≤ plD x then x else y
def minD (x y : Nat) : Nat := if plD x ≤ plD y then x else y
def btwD (l x h : Nat) : Nat := maxD l (minD x h)
/-- Not a NaN. -/
def Num (x : Nat) : Prop := x < 18446744073709551616 ∧ x % 9223372036854775808 ≤ 9218868437227405312
theorem cmp_self (n : Nat) : compare n n = Ordering.eq := by simp
theorem Num.order {x : Nat} (h : Num x) : FloatKind.f64.format.order x x = some .eq := by
  by_cases h1 : x % 2 ^ 63 = 2047 * 2 ^ 52
  · show Ieee.double.order x x = _
    unfold Ieee.Format.order
    rw [read_inf h1]
    simp [Ieee.Datum.order]
  · have hf : Fin' x := by have := h.2; unfold Fin'; omega
    have := order_fin hf hf
    rw [show FloatKind.f64.format = Ieee.double from rfl, this]
    simp
theorem Num.neq {x : Nat} (h : Num x) : (FloatKind.f64.format.order x x != some .eq) = false := by rw [h.order]; rfl
theorem Fin'.num {x : Nat} (h : Fin' x) (h64 : x < 2 ^ 64) : Num x := ⟨by omega, by unfold Fin' at h; omega⟩

theorem isNaN_calls (w : World) (x : Nat) : Calls Try.prog 42 #[fl x] w fun e w' => e = .returned (.bool (FloatKind.f64.format.order x x != some .eq)) ∧ w = w' := by
  go_enter Try.func42, Try.ntmps42
  go_wp2
  go_ret
  exact ⟨rfl, rfl⟩
theorem wrap_high (y : Nat) (h : y < 9223372036854775808) : IntKind.i64.wrap ((y + 9223372036854775808 : Nat) : Int) = (y : Int) - 9223372036854775808 := by
  rw [IntKind.wrap_i64]
  omega
theorem and_low (y : Nat) (h : y < 9223372036854775808) : bits .and .i64 ((y : Int) - 9223372036854775808) 9223372036854775807 = (y : Int) := by
  have e1 : BitVec.ofInt 64 ((y : Int) - 9223372036854775808) = BitVec.ofNat 64 (y + 9223372036854775808) := by
    apply BitVec.eq_of_toNat_eq
    simp [BitVec.toNat_ofInt]
    omega
  show IntKind.i64.wrap ((BitVec.ofInt 64 ((y : Int) - 9223372036854775808) &&& BitVec.ofInt 64 (9223372036854775807 : Int)).toNat : Int) = _
  rw [e1, BitVec.toNat_and]
  have e2 : (BitVec.ofInt 64 (9223372036854775807 : Int)).toNat = 2 ^ 63 - 1 := by decide
  rw [e2, Nat.and_two_pow_sub_one_eq_mod, BitVec.toNat_ofNat, IntKind.wrap_i64]
  omega
theorem xor_one (y : Nat) (h : y < 9223372036854775808) : bits .xor .i64 (-1) (y : Int) = -(y : Int) - 1 := by
  have e1 : BitVec.ofInt 64 (-1) ^^^ BitVec.ofInt 64 (y : Int) = ~~~ (BitVec.ofInt 64 (y : Int)) := by
    have : BitVec.ofInt 64 (-1) = BitVec.allOnes 64 := by decide
    rw [this, BitVec.allOnes_xor]
  show IntKind.i64.wrap ((BitVec.ofInt 64 (-1) ^^^ BitVec.ofInt 64 (y : Int)).toNat : Int) = _
  rw [e1, BitVec.toNat_not, BitVec.toNat_ofInt, IntKind.wrap_i64]
  omega
theorem run_fbits {P : Program} (b : Nat) (w : World) : (Extern.MathFloatBits.float64bits #[.float .f64 b]).run P w = .ok (.int .u64 b) w := rfl
theorem run_ffrom {P : Program} (b : Int) (w : World) : (Extern.MathFloatBits.float64frombits #[.int .u64 b]).run P w = .ok (.float .f64 b.toNat) w := rfl
theorem place_calls (w : World) (x : Nat) (hx : Num x) : Calls Try.prog 63 #[fl x] w fun e w' => e = .returned (.int .i64 (plD x)) ∧ w = w' := by
  have hn := hx.neq
  have h64 := hx.1
  clear hx
  go_enter Try.func63, Try.ntmps63
  go_wp2
  rw [run_callFunc_extern Try.func49 (by kernel_rfl) (by kernel_rfl) (by kernel_rfl) (e := Extern.MathFloatBits.float64bits) (by kernel_rfl), run_fbits]
  simp only [Result.andThen]
  rw [Oper.upon_value]
  by_cases h : x < 9223372036854775808
  · have wk : IntKind.i64.wrap (x : Int) = (x : Int) := IntWalk.i64_in _ (by omega)
    have q : decide ((x : Int) < 0) = false := by simp
    go_wp2
    go_ret
    exact ⟨by unfold plD; rw [if_pos h]; rfl, rfl⟩
  · obtain ⟨y, hy⟩ : ∃ y, x = y + 9223372036854775808 := ⟨x - 9223372036854775808, by omega⟩
    obtain ⟨z, hz⟩ : ∃ z : Int, z = (y : Int) - 9223372036854775808 := ⟨_, rfl⟩
    have wk : IntKind.i64.wrap (x : Int) = z := by rw [hy, hz]; exact wrap_high y (by omega)
    have q : decide (z < 0) = true := by simp; omega
    have e1 : bits .and .i64 z 9223372036854775807 = (y : Int) := by rw [hz]; exact and_low y (by omega)
    have e2 : bits .xor .i64 (-1) (y : Int) = -(y : Int) - 1 := xor_one y (by omega)
    have hr : plD x = -(y : Int) - 1 := by unfold plD; rw [if_neg h, hy]; omega
    clear hz hy h h64
    go_wp2
    go_ret
    exact ⟨rfl, rfl⟩
theorem andNot_high (x : Nat) (h : x < 18446744073709551616) : bits .andNot .u64 (x : Int) 9223372036854775808 = ((x % 9223372036854775808 : Nat) : Int) := by
  rw [show (9223372036854775808 : Int) = ((9223372036854775808 : Nat) : Int) from rfl, u64_andNot_nat x 9223372036854775808 h (by omega)]
  have e : 18446744073709551615 - 9223372036854775808 = 2 ^ 63 - 1 := by decide
  rw [e, Nat.and_two_pow_sub_one_eq_mod]
theorem and_high (x : Nat) (h : x < 18446744073709551616) : bits .and .u64 (x : Int) 9223372036854775808 = if x < 9223372036854775808 then 0 else 9223372036854775808 := by
  rw [show (9223372036854775808 : Int) = ((9223372036854775808 : Nat) : Int) from rfl, u64_and_nat x 9223372036854775808 h (by omega)]
  have key : x &&& 9223372036854775808 = if x < 9223372036854775808 then 0 else 9223372036854775808 := by
    refine Nat.eq_of_testBit_eq fun i => ?_
    rw [Nat.testBit_and, show (9223372036854775808 : Nat) = 2 ^ 63 by decide, Nat.testBit_two_pow]
    split
    · rename_i h1
      by_cases hi : 63 = i
      · subst hi; rw [Nat.testBit_lt_two_pow h1]; simp
      · simp [hi]
    · rename_i h1
      rw [Nat.testBit_two_pow]
      by_cases hi : 63 = i
      · subst hi
        rw [Nat.testBit_eq_decide_div_mod_eq, show x / 2 ^ 63 = 1 by omega]
        simp
      · simp [hi]
  rw [key]
  split <;> rfl
theorem plD_bounds {x : Nat} (h : x < 18446744073709551616) : -9223372036854775808 ≤ plD x ∧ plD x ≤ 9223372036854775807 := by unfold plD; split <;> omega
theorem key_calls (w : World) (x : Nat) (hx : Num x) : Calls Try.prog 34 #[fl x] w fun e w' => e = .returned (.int .i64 (plD x)) ∧ w = w' := by
  have h64 := hx.1
  have hle := hx.2
  clear hx
  have e1 := andNot_high x h64
  obtain ⟨m, hm⟩ : ∃ m, m = x % 9223372036854775808 := ⟨_, rfl⟩
  rw [← hm] at e1 hle
  have wk : IntKind.i64.wrap (m : Int) = (m : Int) := IntWalk.i64_in _ (by omega)
  have q1 : decide ((9218868437227405312 : Int) < (m : Int)) = false := by simp; omega
  go_enter Try.func34, Try.ntmps34
  go_wp2
  rw [run_callFunc_extern Try.func49 (by kernel_rfl) (by kernel_rfl) (by kernel_rfl) (e := Extern.MathFloatBits.float64bits) (by kernel_rfl), run_fbits]
  simp only [Result.andThen]
  rw [Oper.upon_value]
  by_cases h : x < 9223372036854775808
  · have e2 := and_high x h64
    rw [if_pos h] at e2
    have hr : plD x = (m : Int) := by unfold plD; rw [if_pos h, hm]; omega
    clear h64 h hm
    go_wp2
    go_ret
    exact ⟨by rw [hr]; rfl, rfl⟩
  · have e2 := and_high x h64
    rw [if_neg h] at e2
    have hr : plD x = -(m : Int) - 1 := by unfold plD; rw [if_neg h, hm]; omega
    have w1 : IntKind.i64.wrap (-(m : Int)) = -(m : Int) := IntWalk.i64_in _ (by omega)
    have w2 : IntKind.i64.wrap (-(m : Int) - 1) = -(m : Int) - 1 := IntWalk.i64_in _ (by omega)
    clear h64 h hm
    go_wp2
    go_ret
    exact ⟨by rw [hr]; rfl, rfl⟩
theorem fc1_end : True := trivial
end Go.Proofs.Ytohmmkkbfiembaa
