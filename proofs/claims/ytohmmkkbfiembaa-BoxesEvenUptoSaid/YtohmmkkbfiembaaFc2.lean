/- The lesser, the greater, between, what may be used: the program's and the document's. -/
import Derived.Test.YtohmmkkbfiembaaFc1
namespace Go.Proofs.Ytohmmkkbfiembaa
open Go.RowKit Go.Shelf
attribute [local go_sem] Oper.semAt_some
set_option linter.unusedVariables false
set_option maxRecDepth 100000

theorem maxB_calls (w : World) (x y : Nat) (hx : Num x) (hy : Num y) : Calls Try.prog 43 #[fl x, fl y] w fun e w' => e = .returned (fl (maxD x y)) ∧ w = w' := by
  have hn := hx.neq
  have hm := hy.neq
  have HX := Lib.hid hx
  have HY := Lib.hid hy
  clear hx hy
  go_enter Try.func43, Try.ntmps43
  obtain ⟨a, ha⟩ : ∃ a, a = plD x := ⟨_, rfl⟩
  obtain ⟨b, hb⟩ : ∃ b, b = plD y := ⟨_, rfl⟩
  have HA := Lib.hid (And.intro ha hb)
  clear ha hb
  by_cases h : b ≤ a
  · have q : decide (b ≤ a) = true := by simp; omega
    have hr : maxD x y = x := by unfold maxD; rw [← HA.out.1, ← HA.out.2, if_pos h]
    rw [hr]
    clear hr h
    go_wp2_with (first | (have hh := g1; go_at_call 63; refine (place_calls w y HY.out).mono ?_; rintro e w1 ⟨rfl, rfl⟩; rw [← HA.out.2]) | (go_at_call 63; refine (place_calls w x HX.out).mono ?_; rintro e w1 ⟨rfl, rfl⟩; rw [← HA.out.1]; have g1 : True := trivial))
    go_ret
    exact ⟨rfl, rfl⟩
  · have q : decide (b ≤ a) = false := by simp; omega
    have hr : maxD x y = y := by unfold maxD; rw [← HA.out.1, ← HA.out.2, if_neg h]
    rw [hr]
    clear hr h
    go_wp2_with (first | (have hh := g1; go_at_call 63; refine (place_calls w y HY.out).mono ?_; rintro e w1 ⟨rfl, rfl⟩; rw [← HA.out.2]) | (go_at_call 63; refine (place_calls w x HX.out).mono ?_; rintro e w1 ⟨rfl, rfl⟩; rw [← HA.out.1]; have g1 : True := trivial))
    go_ret
    exact ⟨rfl, rfl⟩
theorem minB_calls (w : World) (x y : Nat) (hx : Num x) (hy : Num y) : Calls Try.prog 44 #[fl x, fl y] w fun e w' => e = .returned (fl (minD x y)) ∧ w = w' := by
  have hn := hx.neq
  have hm := hy.neq
  have HX := Lib.hid hx
  have HY := Lib.hid hy
  clear hx hy
  go_enter Try.func44, Try.ntmps44
  obtain ⟨a, ha⟩ : ∃ a, a = plD x := ⟨_, rfl⟩
  obtain ⟨b, hb⟩ : ∃ b, b = plD y := ⟨_, rfl⟩
  have HA := Lib.hid (And.intro ha hb)
  clear ha hb
  by_cases h : a ≤ b
  · have q : decide (a ≤ b) = true := by simp; omega
    have hr : minD x y = x := by unfold minD; rw [← HA.out.1, ← HA.out.2, if_pos h]
    rw [hr]
    clear hr h
    go_wp2_with (first | (have hh := g1; go_at_call 63; refine (place_calls w y HY.out).mono ?_; rintro e w1 ⟨rfl, rfl⟩; rw [← HA.out.2]) | (go_at_call 63; refine (place_calls w x HX.out).mono ?_; rintro e w1 ⟨rfl, rfl⟩; rw [← HA.out.1]; have g1 : True := trivial))
    go_ret
    exact ⟨rfl, rfl⟩
  · have q : decide (a ≤ b) = false := by simp; omega
    have hr : minD x y = y := by unfold minD; rw [← HA.out.1, ← HA.out.2, if_neg h]
    rw [hr]
    clear hr h
    go_wp2_with (first | (have hh := g1; go_at_call 63; refine (place_calls w y HY.out).mono ?_; rintro e w1 ⟨rfl, rfl⟩; rw [← HA.out.2]) | (go_at_call 63; refine (place_calls w x HX.out).mono ?_; rintro e w1 ⟨rfl, rfl⟩; rw [← HA.out.1]; have g1 : True := trivial))
    go_ret
    exact ⟨rfl, rfl⟩
theorem isNone_calls (w : World) (x : Nat) (hx : Num x) : Calls Try.prog 65 #[fl x] w fun e w' => e = .returned (.bool false) ∧ w = w' := by
  have h64 := hx.1
  have hle := hx.2
  clear hx
  have e1 := andNot_high x h64
  obtain ⟨m, hm⟩ : ∃ m, m = x % 9223372036854775808 := ⟨_, rfl⟩
  rw [← hm] at e1 hle
  have q1 : decide ((9218868437227405312 : Int) < (m : Int)) = false := by simp; omega
  clear hm hle h64
  go_enter Try.func65, Try.ntmps65
  go_wp2
  rw [run_callFunc_extern Try.func49 (by kernel_rfl) (by kernel_rfl) (by kernel_rfl) (e := Extern.MathFloatBits.float64bits) (by kernel_rfl), run_fbits]
  simp only [Result.andThen]
  rw [Oper.upon_value]
  go_wp2
  go_ret
  exact ⟨rfl, rfl⟩
theorem maxR_calls (w : World) (x y : Nat) (hx : Num x) (hy : Num y) : Calls Try.prog 46 #[fl x, fl y] w fun e w' => e = .returned (fl (maxD x y)) ∧ w = w' := by
  have HX := Lib.hid hx
  have HY := Lib.hid hy
  clear hx hy
  go_enter Try.func46, Try.ntmps46
  obtain ⟨a, ha⟩ : ∃ a, a = plD x := ⟨_, rfl⟩
  obtain ⟨b, hb⟩ : ∃ b, b = plD y := ⟨_, rfl⟩
  have HA := Lib.hid (And.intro ha hb)
  clear ha hb
  by_cases h : b ≤ a
  · have q : decide (a < b) = false := by simp; omega
    have hr : maxD x y = x := by unfold maxD; rw [← HA.out.1, ← HA.out.2, if_pos h]
    rw [hr]
    clear hr h
    go_wp2_with (first | (have hh := g0; go_at_call 65; refine (isNone_calls w y HY.out).mono ?_; rintro e w1 ⟨rfl, rfl⟩) | (go_at_call 65; refine (isNone_calls w x HX.out).mono ?_; rintro e w1 ⟨rfl, rfl⟩; have g0 : True := trivial) | (have hh := g1; go_at_call 34; refine (key_calls w x HX.out).mono ?_; rintro e w1 ⟨rfl, rfl⟩; rw [← HA.out.1]) | (go_at_call 34; refine (key_calls w y HY.out).mono ?_; rintro e w1 ⟨rfl, rfl⟩; rw [← HA.out.2]; have g1 : True := trivial))
    go_ret
    exact ⟨rfl, rfl⟩
  · have q : decide (a < b) = true := by simp; omega
    have hr : maxD x y = y := by unfold maxD; rw [← HA.out.1, ← HA.out.2, if_neg h]
    rw [hr]
    clear hr h
    go_wp2_with (first | (have hh := g0; go_at_call 65; refine (isNone_calls w y HY.out).mono ?_; rintro e w1 ⟨rfl, rfl⟩) | (go_at_call 65; refine (isNone_calls w x HX.out).mono ?_; rintro e w1 ⟨rfl, rfl⟩; have g0 : True := trivial) | (have hh := g1; go_at_call 34; refine (key_calls w x HX.out).mono ?_; rintro e w1 ⟨rfl, rfl⟩; rw [← HA.out.1]) | (go_at_call 34; refine (key_calls w y HY.out).mono ?_; rintro e w1 ⟨rfl, rfl⟩; rw [← HA.out.2]; have g1 : True := trivial))
    go_ret
    exact ⟨rfl, rfl⟩
theorem minR_calls (w : World) (x y : Nat) (hx : Num x) (hy : Num y) : Calls Try.prog 47 #[fl x, fl y] w fun e w' => e = .returned (fl (minD x y)) ∧ w = w' := by
  have HX := Lib.hid hx
  have HY := Lib.hid hy
  clear hx hy
  go_enter Try.func47, Try.ntmps47
  obtain ⟨a, ha⟩ : ∃ a, a = plD x := ⟨_, rfl⟩
  obtain ⟨b, hb⟩ : ∃ b, b = plD y := ⟨_, rfl⟩
  have HA := Lib.hid (And.intro ha hb)
  clear ha hb
  by_cases h : a ≤ b
  · have q : decide (b < a) = false := by simp; omega
    have hr : minD x y = x := by unfold minD; rw [← HA.out.1, ← HA.out.2, if_pos h]
    rw [hr]
    clear hr h
    go_wp2_with (first | (have hh := g0; go_at_call 65; refine (isNone_calls w y HY.out).mono ?_; rintro e w1 ⟨rfl, rfl⟩) | (go_at_call 65; refine (isNone_calls w x HX.out).mono ?_; rintro e w1 ⟨rfl, rfl⟩; have g0 : True := trivial) | (have hh := g1; go_at_call 34; refine (key_calls w x HX.out).mono ?_; rintro e w1 ⟨rfl, rfl⟩; rw [← HA.out.1]) | (go_at_call 34; refine (key_calls w y HY.out).mono ?_; rintro e w1 ⟨rfl, rfl⟩; rw [← HA.out.2]; have g1 : True := trivial))
    go_ret
    exact ⟨rfl, rfl⟩
  · have q : decide (b < a) = true := by simp; omega
    have hr : minD x y = y := by unfold minD; rw [← HA.out.1, ← HA.out.2, if_neg h]
    rw [hr]
    clear hr h
    go_wp2_with (first | (have hh := g0; go_at_call 65; refine (isNone_calls w y HY.out).mono ?_; rintro e w1 ⟨rfl, rfl⟩) | (go_at_call 65; refine (isNone_calls w x HX.out).mono ?_; rintro e w1 ⟨rfl, rfl⟩; have g0 : True := trivial) | (have hh := g1; go_at_call 34; refine (key_calls w x HX.out).mono ?_; rintro e w1 ⟨rfl, rfl⟩; rw [← HA.out.1]) | (go_at_call 34; refine (key_calls w y HY.out).mono ?_; rintro e w1 ⟨rfl, rfl⟩; rw [← HA.out.2]; have g1 : True := trivial))
    go_ret
    exact ⟨rfl, rfl⟩
end Go.Proofs.Ytohmmkkbfiembaa
