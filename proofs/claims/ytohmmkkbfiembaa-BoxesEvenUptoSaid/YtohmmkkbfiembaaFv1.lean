/- A sum that may be no number, as it lies; how it is compared. -/
import Derived.Test.YtohmmkkbfiembaaFw4
namespace Go.Proofs.Ytohmmkkbfiembaa
open Go.RowKit Go.Shelf
set_option linter.unusedVariables false
set_option maxRecDepth 100000

/-- A sum, as it lies: none is no number. -/
def vRel1 (o : Option Nat) (v : Value) : Prop := match o with | some a => v = fl a | none => ∃ x, v = fl x ∧ NaN' x
theorem add_none_left1 {x y : Nat} (h : NaN' x) : Ieee.double.add x y = none := by
  obtain ⟨s, f, e⟩ := read_nan h
  unfold Ieee.Format.add
  rw [e]
  rfl
theorem run_add_none1 {x y : Nat} (h : Ieee.double.add x y = none) (w : World) : ∃ r, NaN' r ∧ ∀ t, (binOp .add t (fl x) (fl y)).run Try.prog w = .ok (fl r) w.drew := by
  refine ⟨(Question.nanBits .f64 x y).cut (w.tape w.drawn (.nanBits .f64 x y)), ?_, fun t => ?_⟩
  · obtain ⟨T, hT⟩ : ∃ T, T = w.tape w.drawn (.nanBits .f64 x y) := ⟨_, rfl⟩
    rw [← hT]
    have e : (Question.nanBits .f64 x y).cut T = T % 2 * 2 ^ 63 + 9218868437227405312 + 1 + T / 2 % (2 ^ 52 - 1) := rfl
    rw [e]
    obtain ⟨u, hu⟩ : ∃ u, u = T % 2 := ⟨_, rfl⟩
    obtain ⟨r, hr⟩ : ∃ r, r = T / 2 % (2 ^ 52 - 1) := ⟨_, rfl⟩
    have h1 : u = 0 ∨ u = 1 := by omega
    have h2 : r < 2 ^ 52 - 1 := by rw [hr]; exact Nat.mod_lt _ (by decide)
    rw [← hu, ← hr]
    clear hu hr hT e
    unfold NaN'
    rcases h1 with rfl | rfl <;> omega
  · have h' : FloatKind.f64.format.add x y = none := h
    simp [binOp, Op.floatArith, h', Question.forced]
theorem sumO_true1 {o : Nat → Nat} {F : Nat → Bool} {i : Nat} (h : F i = true) : sumO o F (i + 1) = sumO o F i := by
  show (if F i = true then _ else _) = _
  rw [if_pos h]
theorem sumO_false1 {o : Nat → Nat} {F : Nat → Bool} {i : Nat} (h : F i = false) : sumO o F (i + 1) = (sumO o F i).bind fun a => Ieee.double.add a (o i) := by
  show (if F i = true then _ else _) = _
  rw [h, if_neg (by decide)]
theorem nan_cmp1 {x y : Nat} (h : NaN' x) : FloatKind.f64.format.order x y = none := by
  obtain ⟨s, f, e⟩ := read_nan h
  show Ieee.double.order x y = none
  unfold Ieee.Format.order
  rw [e]
  rfl
theorem vRel1.pick {o : Option Nat} {v : Value} (h : vRel1 o v) : ∃ x, v = fl x ∧ (FloatKind.f64.format.order x 0 == some .gt) = posO o ∧ (FloatKind.f64.format.order x 0 == some .lt) = negO o := by
  cases o with
  | some a => exact ⟨a, h, rfl, rfl⟩
  | none =>
    obtain ⟨x, h1, h2⟩ := h
    refine ⟨x, h1, ?_, ?_⟩ <;> rw [nan_cmp1 h2] <;> rfl
theorem Num.leq1 {x : Nat} (h : Num x) : (FloatKind.f64.format.order x 0 == some .lt || FloatKind.f64.format.order x 0 == some .eq) = !gtD x 0 := by
  have hc : ∃ c, FloatKind.f64.format.order x 0 = some c := by
    rcases h.cases with hf | hi
    · exact ⟨_, order_fin hf fin0⟩
    · exact ⟨_, order_inf hi fin0⟩
  obtain ⟨c, hc⟩ := hc
  unfold gtD od
  rw [hc]
  cases c <;> rfl
theorem Num.geq1 {x : Nat} (h : Num x) : (FloatKind.f64.format.order x 0 == some .gt || FloatKind.f64.format.order x 0 == some .eq) = !ltD x 0 := by
  have hc : ∃ c, FloatKind.f64.format.order x 0 = some c := by
    rcases h.cases with hf | hi
    · exact ⟨_, order_fin hf fin0⟩
    · exact ⟨_, order_inf hi fin0⟩
  obtain ⟨c, hc⟩ := hc
  unfold ltD od
  rw [hc]
  cases c <;> rfl
end Go.Proofs.Ytohmmkkbfiembaa
