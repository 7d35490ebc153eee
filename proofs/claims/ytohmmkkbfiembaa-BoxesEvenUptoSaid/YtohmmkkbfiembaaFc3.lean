/- What may be used, and between: the program's and the document's. -/
import Derived.Test.YtohmmkkbfiembaaFc2
namespace Go.Proofs.Ytohmmkkbfiembaa
open Go.RowKit Go.Shelf
attribute [local go_sem] Oper.semAt_some
set_option linter.unusedVariables false
set_option maxRecDepth 100000

theorem num_if {p : Prop} [Decidable p] {x y : Nat} (hx : Num x) (hy : Num y) : Num (if p then x else y) := by split <;> assumption
theorem Num.max {x y : Nat} (hx : Num x) (hy : Num y) : Num (maxD x y) := num_if hx hy
theorem Num.min {x y : Nat} (hx : Num x) (hy : Num y) : Num (minD x y) := num_if hx hy
theorem Num.btw {l x h : Nat} (hl : Num l) (hx : Num x) (hh : Num h) : Num (btwD l x h) := hl.max (hx.min hh)
theorem btwB_calls (w : World) (l x h : Nat) (hl : Num l) (hx : Num x) (hh : Num h) : Calls Try.prog 25 #[fl l, fl x, fl h] w fun e w' => e = .returned (fl (btwD l x h)) ∧ w = w' := by
  have H1 := Lib.hid (minB_calls w x h hx hh)
  have H2 := Lib.hid (maxB_calls w l (minD x h) hl (hx.min hh))
  clear hl hx hh
  go_enter Try.func25, Try.ntmps25
  go_wp2_with (first | (go_at_call 44; refine H1.out.mono ?_; rintro e w1 ⟨rfl, rfl⟩) | (go_at_call 43; refine H2.out.mono ?_; rintro e w1 ⟨rfl, rfl⟩))
  go_ret
  exact ⟨rfl, rfl⟩
theorem btwR_calls (w : World) (l x h : Nat) (hl : Num l) (hx : Num x) (hh : Num h) : Calls Try.prog 31 #[fl l, fl x, fl h] w fun e w' => e = .returned (fl (btwD l x h)) ∧ w = w' := by
  have H1 := Lib.hid (minR_calls w x h hx hh)
  have H2 := Lib.hid (maxR_calls w l (minD x h) hl (hx.min hh))
  clear hl hx hh
  go_enter Try.func31, Try.ntmps31
  go_wp2_with (first | (go_at_call 47; refine H1.out.mono ?_; rintro e w1 ⟨rfl, rfl⟩) | (go_at_call 46; refine H2.out.mono ?_; rintro e w1 ⟨rfl, rfl⟩))
  go_ret
  exact ⟨rfl, rfl⟩

def od (x y : Nat) : Option Ordering := FloatKind.f64.format.order x y
def mx : Nat := 4719772409484279808
def mn : Nat := 13943144446339055616
def usedD (x : Nat) : Nat := if (od x x != some .eq) = true then 0 else if (od x 0 == some .eq) = true then 0 else if (od x mx == some .gt) = true then mx else if (od x mn == some .lt) = true then mn else x
theorem usedB_calls (w : World) (x : Nat) : Calls Try.prog 23 #[fl x] w fun e w' => e = .returned (fl (usedD x)) ∧ w = w' := by
  have H1 := Lib.hid (isNaN_calls w x)
  obtain ⟨b0, h0⟩ : ∃ b, (FloatKind.f64.format.order x x != some .eq) = b := ⟨_, rfl⟩
  obtain ⟨b1, h1⟩ : ∃ b, (FloatKind.f64.format.order x 0 == some .eq) = b := ⟨_, rfl⟩
  obtain ⟨b2, h2⟩ : ∃ b, (FloatKind.f64.format.order x 4719772409484279808 == some .gt) = b := ⟨_, rfl⟩
  obtain ⟨b3, h3⟩ : ∃ b, (FloatKind.f64.format.order x 13943144446339055616 == some .lt) = b := ⟨_, rfl⟩
  have hr : usedD x = if b0 = true then 0 else if b1 = true then 0 else if b2 = true then 4719772409484279808 else if b3 = true then 13943144446339055616 else x := by unfold usedD od mx mn; rw [h0, h1, h2, h3]
  rw [hr]
  rw [h0] at H1
  clear hr h0
  go_enter Try.func23, Try.ntmps23
  cases b0 with
  | true =>
    go_wp2_with (go_at_call 42; refine H1.out.mono ?_; rintro e w1 ⟨rfl, rfl⟩)
    go_ret
    exact ⟨rfl, rfl⟩
  | false =>
    cases b1 with
    | true =>
      go_wp2_with (go_at_call 42; refine H1.out.mono ?_; rintro e w1 ⟨rfl, rfl⟩)
      go_ret
      exact ⟨rfl, rfl⟩
    | false =>
      cases b2 with
      | true =>
        go_wp2_with (go_at_call 42; refine H1.out.mono ?_; rintro e w1 ⟨rfl, rfl⟩)
        go_ret
        exact ⟨rfl, rfl⟩
      | false =>
        cases b3 with
        | true =>
          go_wp2_with (go_at_call 42; refine H1.out.mono ?_; rintro e w1 ⟨rfl, rfl⟩)
          go_ret
          exact ⟨rfl, rfl⟩
        | false =>
          go_wp2_with (go_at_call 42; refine H1.out.mono ?_; rintro e w1 ⟨rfl, rfl⟩)
          go_ret
          exact ⟨rfl, rfl⟩
theorem usedR_calls (w : World) (x : Nat) : Calls Try.prog 29 #[fl x] w fun e w' => e = .returned (fl (usedD x)) ∧ w = w' := by
  obtain ⟨b0, h0⟩ : ∃ b, (FloatKind.f64.format.order x x != some .eq) = b := ⟨_, rfl⟩
  obtain ⟨b1, h1⟩ : ∃ b, (FloatKind.f64.format.order x 0 == some .eq) = b := ⟨_, rfl⟩
  obtain ⟨b2, h2⟩ : ∃ b, (FloatKind.f64.format.order x 4719772409484279808 == some .gt) = b := ⟨_, rfl⟩
  obtain ⟨b3, h3⟩ : ∃ b, (FloatKind.f64.format.order x 13943144446339055616 == some .lt) = b := ⟨_, rfl⟩
  have hr : usedD x = if b0 = true then 0 else if b1 = true then 0 else if b2 = true then 4719772409484279808 else if b3 = true then 13943144446339055616 else x := by unfold usedD od mx mn; rw [h0, h1, h2, h3]
  rw [hr]
  clear hr
  go_enter Try.func29, Try.ntmps29
  cases b0 with
  | true =>
    go_wp2
    go_ret
    exact ⟨rfl, rfl⟩
  | false =>
    cases b1 with
    | true =>
      go_wp2
      go_ret
      exact ⟨rfl, rfl⟩
    | false =>
      cases b2 with
      | true =>
        go_wp2
        go_ret
        exact ⟨rfl, rfl⟩
      | false =>
        cases b3 with
        | true =>
          go_wp2
          go_ret
          exact ⟨rfl, rfl⟩
        | false =>
          go_wp2
          go_ret
          exact ⟨rfl, rfl⟩
end Go.Proofs.Ytohmmkkbfiembaa
