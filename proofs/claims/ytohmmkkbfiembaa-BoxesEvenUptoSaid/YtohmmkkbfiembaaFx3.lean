/- The document's parts of a number, its nearest whole number: walked. -/
import Derived.Test.YtohmmkkbfiembaaFx2
namespace Go.Proofs.Ytohmmkkbfiembaa
open Go.RowKit Go.Shelf
attribute [local go_sem] Oper.semAt_some
set_option linter.unusedVariables false
set_option maxRecDepth 100000

theorem and_exp (d : Nat) (h : d < 4096) : bits .and .u64 (d : Int) 2047 = ((d % 2048 : Nat) : Int) := by
  rw [show (2047 : Int) = ((2047 : Nat) : Int) from rfl, u64_and_nat d 2047 (by omega) (by omega)]
  have e : (2047 : Nat) = 2 ^ 11 - 1 := by decide
  rw [e, Nat.and_two_pow_sub_one_eq_mod]
theorem or_mant (a : Nat) (h : a < 4503599627370496) : bits .or .u64 (a : Int) 4503599627370496 = ((4503599627370496 + a : Nat) : Int) := by
  rw [show (4503599627370496 : Int) = ((4503599627370496 : Nat) : Int) from rfl, u64_or_nat a 4503599627370496 (by omega) (by omega), Nat.or_comm]
  have := Nat.two_pow_add_eq_or_of_lt (i := 52) (b := a) (by omega) 1
  simp only [Nat.mul_one] at this
  rw [show (4503599627370496 : Nat) = 2 ^ 52 by decide, ← this]
/-- What the bits of a word tell. -/
structure Parts (x : Nat) (hb E F d : Nat) (s : Bool) : Prop where
  s1 : bits .and .u64 (x : Int) 9223372036854775808 = (hb : Int)
  s2 : bits .and .u64 (x : Int) 4503599627370495 = (F : Int)
  s3 : (x : Int) / 4503599627370496 = (d : Int)
  s4 : bits .and .u64 (d : Int) 2047 = (E : Int)
  s5 : IntKind.i64.wrap (E : Int) = (E : Int)
  s6 : (!((hb : Int) == 0)) = s
  s7 : ((hb : Int) != 0) = s
  s8 : decide (¬ (hb : Int) = 0) = s
  lt : E < 2048
theorem parts_of {x : Nat} (h : x < 18446744073709551616) : ∃ hb d, Parts x hb (exF x) (frF x) d (sgb x) := by
  have hE : exF x = x / 4503599627370496 % 2048 := by unfold exF; omega
  have hs : sgb x = decide (¬ x < 9223372036854775808) := by
    unfold sgb
    by_cases h1 : x < 9223372036854775808
    · rw [show x / 2 ^ 63 = 0 by omega]; simp [h1]
    · rw [show x / 2 ^ 63 = 1 by omega]; simp [h1]
  refine ⟨if x < 9223372036854775808 then 0 else 9223372036854775808, x / 4503599627370496, ⟨?_, ?_, ?_, ?_, ?_, ?_, ?_, ?_, ?_⟩⟩
  · rw [and_high x h]; split <;> rfl
  · rw [and_frac x h]; unfold frF; rfl
  · omega
  · rw [and_exp _ (by omega), hE]
  · exact IntWalk.i64_in _ (by omega)
  · rw [hs]; by_cases h1 : x < 9223372036854775808 <;> simp [h1]
  · rw [hs]; by_cases h1 : x < 9223372036854775808 <;> simp [h1]
  · rw [hs]; by_cases h1 : x < 9223372036854775808 <;> simp [h1]
  · omega
theorem split_std (w : World) (x : Nat) (h : x < 18446744073709551616) (he : exF x < 2047) (h0 : x % 9223372036854775808 ≠ 0) : Calls Try.prog 51 #[fl x] w fun e w' => e = .returned (.agg #[.bool (sgb x), .int .i64 (if exF x = 0 then 1 else 2), .int .u64 (maF x : Int), .int .i64 (xpF x)]) ∧ Below w.heap.size w w' := by
  obtain ⟨hb, d, p1, p2, p3, p4, p5, p6, p7, p8, p9⟩ := parts_of h
  have hf0 : exF x = 0 → frF x ≠ 0 := fun e hf => h0 (by unfold exF at e; unfold frF at hf; omega)
  have hm : maF x = if exF x = 0 then frF x else 4503599627370496 + frF x := rfl
  have hx : xpF x = if exF x = 0 then -1074 else (exF x : Int) - 1075 := rfl
  have p10 := or_mant (frF x) (Nat.mod_lt _ (by decide))
  obtain ⟨E, hE⟩ : ∃ E, E = exF x := ⟨_, rfl⟩
  obtain ⟨F, hF⟩ : ∃ E, E = frF x := ⟨_, rfl⟩
  obtain ⟨s, hs⟩ : ∃ E, E = sgb x := ⟨_, rfl⟩
  rw [← hE, ← hF] at hm
  rw [← hE] at hx p4 p5 p9 he
  rw [← hF] at p2 p10
  rw [← hs] at p6 p7 p8
  rw [← hE, ← hF] at hf0
  rw [hm, hx, ← hE, ← hs]
  obtain ⟨G, hG⟩ : ∃ E, E = 4503599627370496 + F := ⟨_, rfl⟩
  rw [← hG] at p10 ⊢
  clear hE hF hs hG hm hx h h0
  have d1 : decide (E = 2047) = false := by simp; omega
  have d2 : ((E : Int) == 2047) = false := by simp; omega
  by_cases hE0 : E = 0
  · have hF0 := hf0 hE0
    have d3 : ((F : Int) == 0) = false := by simp; omega
    subst hE0
    rw [if_pos rfl, if_pos rfl, if_pos rfl]
    clear hf0 hF0
    go_enter Try.func51, Try.ntmps51
    go_wp2
    rw [run_callFunc_extern Try.func49 (by kernel_rfl) (by kernel_rfl) (by kernel_rfl) (e := Extern.MathFloatBits.float64bits) (by kernel_rfl), run_fbits]
    simp only [Result.andThen]
    rw [Oper.upon_value]
    go_wp2
    exact bodyPost_ret (v := .agg #[.bool s, .int .i64 1, .int .u64 (F : Int), .int .i64 (-1074)]) (by simp [results, Try.results51, go_sem]) rfl ⟨rfl, (Below.refl _ w).alloc (Nat.le_refl _) _⟩
  · have d3 : decide (E = 0) = false := by simp; omega
    have d4 : ((E : Int) == 0) = false := by simp; omega
    rw [if_neg hE0, if_neg hE0, if_neg hE0]
    clear hf0 hE0
    go_enter Try.func51, Try.ntmps51
    go_wp2
    rw [run_callFunc_extern Try.func49 (by kernel_rfl) (by kernel_rfl) (by kernel_rfl) (e := Extern.MathFloatBits.float64bits) (by kernel_rfl), run_fbits]
    simp only [Result.andThen]
    rw [Oper.upon_value]
    go_wp2
    exact bodyPost_ret (v := .agg #[.bool s, .int .i64 2, .int .u64 (G : Int), .int .i64 ((E : Int) - 1075)]) (by simp [results, Try.results51, go_sem]) rfl ⟨rfl, (Below.refl _ w).alloc (Nat.le_refl _) _⟩
theorem split_zero (w : World) (x : Nat) (h : x < 18446744073709551616) (h0 : x % 9223372036854775808 = 0) : Calls Try.prog 51 #[fl x] w fun e w' => e = .returned (.agg #[.bool (sgb x), .int .i64 0, .int .u64 0, .int .i64 0]) ∧ Below w.heap.size w w' := by
  obtain ⟨hb, d, p1, p2, p3, p4, p5, p6, p7, p8, p9⟩ := parts_of h
  have hE : exF x = 0 := by unfold exF; rw [show (2 ^ 63 : Nat) = 9223372036854775808 by decide, h0]
  have hF : frF x = 0 := by unfold frF; omega
  obtain ⟨s, hs⟩ : ∃ E, E = sgb x := ⟨_, rfl⟩
  rw [← hs] at p6 p7 p8 ⊢
  rw [hE] at p4 p5
  rw [hF] at p2
  clear hE hF hs h h0 p9
  · skip
    go_enter Try.func51, Try.ntmps51
    go_wp2
    rw [run_callFunc_extern Try.func49 (by kernel_rfl) (by kernel_rfl) (by kernel_rfl) (e := Extern.MathFloatBits.float64bits) (by kernel_rfl), run_fbits]
    simp only [Result.andThen]
    rw [Oper.upon_value]
    go_wp2
    exact bodyPost_ret (v := .agg #[.bool s, .int .i64 0, .int .u64 0, .int .i64 0]) (by simp [results, Try.results51, go_sem]) rfl ⟨rfl, (Below.refl _ w).alloc (Nat.le_refl _) _⟩
theorem split_inf (w : World) (x : Nat) (h : x < 18446744073709551616) (h0 : x % 9223372036854775808 = 9218868437227405312) : Calls Try.prog 51 #[fl x] w fun e w' => e = .returned (.agg #[.bool (sgb x), .int .i64 3, .int .u64 0, .int .i64 0]) ∧ Below w.heap.size w w' := by
  obtain ⟨hb, d, p1, p2, p3, p4, p5, p6, p7, p8, p9⟩ := parts_of h
  have hE : exF x = 2047 := by unfold exF; rw [show (2 ^ 63 : Nat) = 9223372036854775808 by decide, h0]
  have hF : frF x = 0 := by unfold frF; omega
  obtain ⟨s, hs⟩ : ∃ E, E = sgb x := ⟨_, rfl⟩
  rw [← hs] at p6 p7 p8 ⊢
  rw [hE] at p4 p5
  rw [hF] at p2
  clear hE hF hs h h0 p9
  · skip
    go_enter Try.func51, Try.ntmps51
    go_wp2
    rw [run_callFunc_extern Try.func49 (by kernel_rfl) (by kernel_rfl) (by kernel_rfl) (e := Extern.MathFloatBits.float64bits) (by kernel_rfl), run_fbits]
    simp only [Result.andThen]
    rw [Oper.upon_value]
    go_wp2
    exact bodyPost_ret (v := .agg #[.bool s, .int .i64 3, .int .u64 0, .int .i64 0]) (by simp [results, Try.results51, go_sem]) rfl ⟨rfl, (Below.refl _ w).alloc (Nat.le_refl _) _⟩
theorem split_nan (w : World) (x : Nat) (h : x < 18446744073709551616) (h0 : 9218868437227405312 < x % 9223372036854775808) : Calls Try.prog 51 #[fl x] w fun e w' => e = .returned (.agg #[.bool false, .int .i64 4, .int .u64 0, .int .i64 0]) ∧ Below w.heap.size w w' := by
  obtain ⟨hb, d, p1, p2, p3, p4, p5, p6, p7, p8, p9⟩ := parts_of h
  have hE : exF x = 2047 := by unfold exF; omega
  have hF : frF x ≠ 0 := by unfold frF; omega
  obtain ⟨F, hFF⟩ : ∃ E, E = frF x := ⟨_, rfl⟩
  rw [← hFF] at p2 hF
  have d1 : decide (0 < F) = true := by simp; omega
  have d2 : decide ((0 : Int) < (F : Int)) = true := by simp; omega
  rw [hE] at p4 p5
  clear hE hF hFF h h0 p9
  · skip
    go_enter Try.func51, Try.ntmps51
    go_wp2
    rw [run_callFunc_extern Try.func49 (by kernel_rfl) (by kernel_rfl) (by kernel_rfl) (e := Extern.MathFloatBits.float64bits) (by kernel_rfl), run_fbits]
    simp only [Result.andThen]
    rw [Oper.upon_value]
    go_wp2
    exact bodyPost_ret (v := .agg #[.bool false, .int .i64 4, .int .u64 0, .int .i64 0]) (by simp [results, Try.results51, go_sem]) rfl ⟨rfl, (Below.refl _ w).alloc (Nat.le_refl _) _⟩
theorem fx3_end : True := trivial
end Go.Proofs.Ytohmmkkbfiembaa
