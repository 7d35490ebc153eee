/- The nearest 64th, how wide a text is, whether two numbers are one: what may be no number, too. -/
import Derived.Test.YtohmmkkbfiembaaFx4
namespace Go.Proofs.Ytohmmkkbfiembaa
open Go.RowKit Go.Shelf
attribute [local go_sem] Oper.semAt_some
set_option linter.unusedVariables false
set_option maxRecDepth 100000

theorem nan_cut (T : Nat) (x y : Nat) : NaN' ((Question.nanBits .f64 x y).cut T) ∧ (Question.nanBits .f64 x y).cut T < 18446744073709551616 := by
  have e : (Question.nanBits .f64 x y).cut T = T % 2 * 2 ^ 63 + 9218868437227405312 + 1 + T / 2 % (2 ^ 52 - 1) := rfl
  rw [e]
  obtain ⟨u, hu⟩ : ∃ u, u = T % 2 := ⟨_, rfl⟩
  obtain ⟨r, hr⟩ : ∃ r, r = T / 2 % (2 ^ 52 - 1) := ⟨_, rfl⟩
  have h1 : u = 0 ∨ u = 1 := by omega
  have h2 : r < 2 ^ 52 - 1 := by rw [hr]; exact Nat.mod_lt _ (by decide)
  rw [← hu, ← hr]
  clear hu hr e
  unfold NaN'
  rcases h1 with rfl | rfl <;> omega
theorem run_add_none' {x y : Nat} (h : Ieee.double.add x y = none) (w : World) : ∃ r, NaN' r ∧ r < 18446744073709551616 ∧ ∀ t, (binOp .add t (fl x) (fl y)).run Try.prog w = .ok (fl r) w.drew := by
  have h' : FloatKind.f64.format.add x y = none := h
  exact ⟨_, (nan_cut (w.tape w.drawn (.nanBits .f64 x y)) x y).1, (nan_cut _ x y).2, fun t => by simp [binOp, Op.floatArith, h', Question.forced]⟩
theorem run_mul_none {x y : Nat} (h : Ieee.double.mul x y = none) (w : World) : ∃ r, NaN' r ∧ r < 18446744073709551616 ∧ ∀ t, (binOp .mul t (fl x) (fl y)).run Try.prog w = .ok (fl r) w.drew := by
  have h' : FloatKind.f64.format.mul x y = none := h
  exact ⟨_, (nan_cut (w.tape w.drawn (.nanBits .f64 x y)) x y).1, (nan_cut _ x y).2, fun t => by simp [binOp, Op.floatArith, h', Question.forced]⟩
theorem run_quo_none {x y : Nat} (h : Ieee.double.div x y = none) (w : World) : ∃ r, NaN' r ∧ r < 18446744073709551616 ∧ ∀ t, (binOp .quo t (fl x) (fl y)).run Try.prog w = .ok (fl r) w.drew := by
  have h' : FloatKind.f64.format.div x y = none := h
  exact ⟨_, (nan_cut (w.tape w.drawn (.nanBits .f64 x y)) x y).1, (nan_cut _ x y).2, fun t => by simp [binOp, Op.floatArith, h', Question.forced]⟩
theorem datum_write {d : Ieee.Datum} (h : d.isNaN = false) : Num (Ieee.double.write d) := by
  cases d with
  | number s m p => exact num_near
  | infinity s => exact num_inf
  | nan s f => cases h
theorem mul_some {x y r : Nat} (h : Ieee.double.mul x y = some r) : Num r := by
  unfold Ieee.Format.mul at h
  rw [Option.map_eq_some_iff] at h
  obtain ⟨d, hd, rfl⟩ := h
  refine datum_write ?_
  unfold Ieee.Datum.product at hd
  split at hd <;> first | (cases hd; done) | (split at hd <;> first | (cases hd; done) | (injection hd with hd; rw [← hd]; rfl)) | (injection hd with hd; rw [← hd]; rfl)
theorem add_some {x y r : Nat} (h : Ieee.double.add x y = some r) : Num r := by
  unfold Ieee.Format.add at h
  rw [Option.map_eq_some_iff] at h
  obtain ⟨d, hd, rfl⟩ := h
  refine datum_write ?_
  unfold Ieee.Datum.sum at hd
  split at hd <;> first | (cases hd; done) | (split at hd <;> first | (cases hd; done) | (injection hd with hd; rw [← hd]; rfl)) | (injection hd with hd; rw [← hd]; rfl)
theorem div_some {x y r : Nat} (h : Ieee.double.div x y = some r) : Num r := by
  unfold Ieee.Format.div at h
  rw [Option.map_eq_some_iff] at h
  obtain ⟨d, hd, rfl⟩ := h
  refine datum_write ?_
  unfold Ieee.Datum.quotient at hd
  split at hd
  · cases hd
  · cases hd
  · cases hd
  · injection hd with hd; rw [← hd]; rfl
  · injection hd with hd; rw [← hd]; rfl
  · split at hd
    · split at hd
      · cases hd
      · injection hd with hd; rw [← hd]; rfl
    · injection hd with hd; rw [← hd]; rfl
theorem mul_nan_l {x y : Nat} (h : NaN' x) : Ieee.double.mul x y = none := by
  obtain ⟨s, f, e⟩ := read_nan h
  unfold Ieee.Format.mul
  rw [e]; rfl
theorem mul_nan_r {x y : Nat} (h : NaN' y) : Ieee.double.mul x y = none := by
  obtain ⟨s, f, e⟩ := read_nan h
  unfold Ieee.Format.mul
  rw [e]
  cases Ieee.double.read x <;> rfl
theorem div_nan_l {x y : Nat} (h : NaN' x) : Ieee.double.div x y = none := by
  obtain ⟨s, f, e⟩ := read_nan h
  unfold Ieee.Format.div
  rw [e]; rfl
theorem add_nan_l {x y : Nat} (h : NaN' x) : Ieee.double.add x y = none := by
  obtain ⟨s, f, e⟩ := read_nan h
  unfold Ieee.Format.add
  rw [e]; rfl
theorem add_nan_r {x y : Nat} (h : NaN' y) : Ieee.double.add x y = none := by
  obtain ⟨s, f, e⟩ := read_nan h
  unfold Ieee.Format.add
  rw [e]
  cases Ieee.double.read x <;> rfl
/-- What a number is, as it lies: none is any that is none. -/
def VR (o : Option Nat) (v : Value) : Prop := ∃ x, v = fl x ∧ x < 18446744073709551616 ∧ (match o with | some a => x = a ∧ Num a | none => NaN' x)
def oF (x : Nat) : Option Nat := if x % 9223372036854775808 ≤ 9218868437227405312 then some x else none
theorem VR.self {x : Nat} (h : x < 18446744073709551616) : VR (oF x) (fl x) := by
  unfold oF
  by_cases h1 : x % 9223372036854775808 ≤ 9218868437227405312
  · rw [if_pos h1]; exact ⟨x, rfl, h, rfl, h, h1⟩
  · rw [if_neg h1]; exact ⟨x, rfl, h, by show NaN' x; unfold NaN'; omega⟩
theorem VR.nan {x : Nat} (h : NaN' x) (h64 : x < 18446744073709551616) : VR none (fl x) := ⟨x, rfl, h64, h⟩
theorem VR.num {x : Nat} (h : Num x) : VR (some x) (fl x) := ⟨x, rfl, h.1, rfl, h⟩
def oadd (a b : Option Nat) : Option Nat := a.bind fun x => b.bind fun y => Ieee.double.add x y
/-- A sum of two, whatever they are. -/
theorem VR.add {a b : Option Nat} {x y : Nat} (hx : VR a (fl x)) (hy : VR b (fl y)) (w : World) : ∃ r, VR (oadd a b) (fl r) ∧ ∃ w', (w' = w ∨ w' = w.drew) ∧ ∀ t, (binOp .add t (fl x) (fl y)).run Try.prog w = .ok (fl r) w' := by
  obtain ⟨x', ex, hx1, hx2⟩ := hx
  obtain ⟨y', ey, hy1, hy2⟩ := hy
  injection ex with _ ex
  injection ey with _ ey
  subst ex ey
  have hnone : oadd a b = none → Ieee.double.add x y = none := fun ho => by
    cases a with
    | none => exact add_nan_l hx2
    | some p =>
      cases b with
      | none => exact add_nan_r hy2
      | some q =>
        obtain ⟨rfl, _⟩ := hx2
        obtain ⟨rfl, _⟩ := hy2
        exact ho
  have hsome : ∀ r, oadd a b = some r → Ieee.double.add x y = some r := fun r ho => by
    cases a with
    | none => cases ho
    | some p =>
      cases b with
      | none => cases ho
      | some q =>
        obtain ⟨rfl, _⟩ := hx2
        obtain ⟨rfl, _⟩ := hy2
        exact ho
  cases ho : oadd a b with
  | none =>
    obtain ⟨r, h1, h2, h3⟩ := run_add_none' (hnone ho) w
    exact ⟨r, VR.nan h1 h2, w.drew, .inr rfl, h3⟩
  | some r =>
    have h := hsome r ho
    exact ⟨r, VR.num (add_some h), w, .inl rfl, fun t => run_float_arith w .add t .f64 x y r h⟩

theorem key_nan (w : World) (x : Nat) (hx : NaN' x) (h64 : x < 18446744073709551616) : Calls Try.prog 34 #[fl x] w fun e w' => e = .returned (.int .i64 9223372036854775807) ∧ w = w' := by
  have e1 := andNot_high x h64
  obtain ⟨m, hm⟩ : ∃ m, m = x % 9223372036854775808 := ⟨_, rfl⟩
  rw [← hm] at e1
  have hle : 9218868437227405312 < m ∧ m < 9223372036854775808 := by unfold NaN' at hx; omega
  have wk : IntKind.i64.wrap (m : Int) = (m : Int) := IntWalk.i64_in _ (by omega)
  have q1 : decide ((9218868437227405312 : Int) < (m : Int)) = true := by simp; omega
  clear hm hx h64 hle
  go_enter Try.func34, Try.ntmps34
  go_wp2
  rw [run_callFunc_extern Try.func49 (by kernel_rfl) (by kernel_rfl) (by kernel_rfl) (e := Extern.MathFloatBits.float64bits) (by kernel_rfl), run_fbits]
  simp only [Result.andThen]
  rw [Oper.upon_value]
  go_wp2
  go_ret
  exact ⟨rfl, rfl⟩
theorem same_calls (w : World) {o : Option Nat} {x y : Nat} (hx : VR o (fl x)) (hy : VR o (fl y)) : Calls Try.prog 17 #[fl x, fl y] w fun e w' => e = .returned (.bool true) ∧ w = w' := by
  obtain ⟨x', ex, hx1, hx2⟩ := hx
  obtain ⟨y', ey, hy1, hy2⟩ := hy
  injection ex with _ ex
  injection ey with _ ey
  subst ex ey
  have hk : ∃ k : Int, (∀ w, Calls Try.prog 34 #[fl x] w fun e w' => e = .returned (.int .i64 k) ∧ w = w') ∧ (∀ w, Calls Try.prog 34 #[fl y] w fun e w' => e = .returned (.int .i64 k) ∧ w = w') := by
    cases o with
    | none => exact ⟨_, fun w => key_nan w x hx2 hx1, fun w => key_nan w y hy2 hy1⟩
    | some a =>
      obtain ⟨rfl, hn⟩ := hx2
      obtain ⟨rfl, _⟩ := hy2
      exact ⟨_, fun w => key_calls w _ hn, fun w => key_calls w _ hn⟩
  obtain ⟨k, k1, k2⟩ := hk
  have K1 : Hid (∀ z, z = x ∨ z = y → ∀ w, Calls Try.prog 34 #[fl z] w fun e w' => e = .returned (.int .i64 k) ∧ w = w') := Lib.hid (fun z hz w => by
    rcases hz with rfl | rfl
    · exact k1 w
    · exact k2 w)
  clear k1 k2 hx2 hy2
  go_enter Try.func17, Try.ntmps17
  go_wp2_with (go_at_call 34; refine (K1.out _ (by first | exact .inl rfl | exact .inr rfl) _).mono ?_; rintro e w1 ⟨rfl, rfl⟩)
  go_ret
  exact ⟨rfl, rfl⟩
/-- What the nearest 64th is. -/
def snapO (x : Nat) : Option Nat := (Ieee.double.mul x 4634204016564240384).bind fun m => Ieee.double.div (wholeD m) 4634204016564240384
def wideO (n x : Nat) : Option Nat := (Ieee.double.mul 4602678819172646912 x).bind fun m => Ieee.double.mul (floatOfInt .f64 (n : Int)) m
/-- A world but for what was asked of the tape. -/
def Dr (w w' : World) : Prop := w' = w ∨ w' = w.drew
theorem Dr.below {w w' : World} (h : Dr w w') : Below w.heap.size w w' := by
  rcases h with rfl | rfl
  · exact Below.refl _ _
  · exact (Below.refl _ _).drew
theorem wholeB_nan (w : World) (x : Nat) (h : NaN' x) (h64 : x < 18446744073709551616) : Calls Try.prog 35 #[fl x] w fun e w' => ∃ y, e = .returned (fl y) ∧ NaN' y ∧ y < 18446744073709551616 ∧ Below w.heap.size w w' := by
  obtain ⟨y, w1, y1, y2, y3, hr⟩ := run_whole_nan (P := Try.prog) x h h64 w
  have HY := Lib.hid (And.intro y1 (And.intro y2 (Dr.below y3)))
  clear y1 y2 y3 h h64
  go_enter Try.func35, Try.ntmps35
  go_wp2
  rw [run_callFunc_extern Try.func50 (by kernel_rfl) (by kernel_rfl) (by kernel_rfl) (e := Extern.MathFloor.toIntegral "math.RoundToEven" .even) (by kernel_rfl), hr]
  simp only [Result.andThen]
  rw [Oper.upon_value]
  go_wp2
  go_ret
  exact ⟨_, rfl, HY.out⟩
theorem snapB_any (w : World) (x : Nat) : Calls Try.prog 18 #[fl x] w fun e w' => ∃ v, e = .returned v ∧ VR (snapO x) v ∧ Below w.heap.size w w' := by
  cases h1 : Ieee.double.mul x 4634204016564240384 with
  | some m =>
    have hm := mul_some h1
    have hs : snapO x = Ieee.double.div (wholeD m) 4634204016564240384 := by unfold snapO; rw [h1]; rfl
    rw [hs]
    cases h2 : Ieee.double.div (wholeD m) 4634204016564240384 with
    | some q => exact (snapB_calls w x m q h1 hm h2).mono fun e w' h => ⟨_, h.1, VR.num (div_some h2), by rw [← h.2]; exact Below.refl _ _⟩
    | none =>
      have H := Lib.hid (fun w => wholeB_calls w m hm)
      have o1 := hmul' h1
      have o2 := Lib.hid (fun w => run_quo_none h2 w)
      obtain ⟨y, hy⟩ : ∃ y, y = wholeD m := ⟨_, rfl⟩
      rw [← hy] at H o2
      clear h1 h2 hy hm hs
      obtain ⟨r, hr1, hr2, hr3⟩ := o2.out w
      have HV := Lib.hid (VR.nan hr1 hr2)
      clear hr1 hr2 o2
      go_enter Try.func18, Try.ntmps18
      go_wp2_with (first | (go_at_call 35; refine (H.out _).mono ?_; rintro e w1 ⟨rfl, rfl⟩))
      go_ret
      exact ⟨_, rfl, HV.out, (Below.refl _ _).drew⟩
  | none =>
    have hs : snapO x = none := by unfold snapO; rw [h1]; rfl
    rw [hs]
    obtain ⟨m, m1, m2, m3⟩ := run_mul_none h1 w
    have H := Lib.hid (wholeB_nan w.drew m m1 m2)
    have HQ := Lib.hid (fun y w (h : NaN' y) => run_quo_none (div_nan_l (y := 4634204016564240384) h) w)
    clear h1 hs m1 m2
    go_enter Try.func18, Try.ntmps18
    go_wp2_with (go_at_call 35; refine H.out.mono ?_; rintro e w1 ⟨y, rfl, y1, y2, b1⟩; obtain ⟨r, r1, r2, r3⟩ := HQ.out y w1 y1; have HV := Lib.hid (And.intro (VR.nan r1 r2) b1); clear r1 r2 y1 y2 b1)
    go_ret
    exact ⟨_, rfl, HV.out.1, (((Below.refl _ w).drew).trans HV.out.2).drew⟩
theorem snapR_any (w : World) (x : Nat) : Calls Try.prog 19 #[fl x] w fun e w' => ∃ v, e = .returned v ∧ VR (snapO x) v ∧ Below w.heap.size w w' := by
  cases h1 : Ieee.double.mul x 4634204016564240384 with
  | some m =>
    have hm := mul_some h1
    have hs : snapO x = Ieee.double.div (wholeD m) 4634204016564240384 := by unfold snapO; rw [h1]; rfl
    rw [hs]
    have H := Lib.hid (fun w => wholeR_num w m hm)
    have o1 := hmul' h1
    obtain ⟨y, hy⟩ : ∃ y, y = wholeD m := ⟨_, rfl⟩
    rw [← hy] at H ⊢
    clear h1 hy hm hs
    cases h2 : Ieee.double.div y 4634204016564240384 with
    | some q =>
      have o2 := hquo' h2
      have HV := Lib.hid (VR.num (div_some h2))
      clear h2
      go_enter Try.func19, Try.ntmps19
      go_wp2_with (go_at_call 36; refine (H.out _).mono ?_; rintro e w1 ⟨rfl, b1⟩; have HB := Lib.hid b1; clear b1)
      go_ret
      exact ⟨_, rfl, HV.out, HB.out⟩
    | none =>
      have o2 := Lib.hid (fun w => run_quo_none h2 w)
      clear h2
      go_enter Try.func19, Try.ntmps19
      go_wp2_with (go_at_call 36; refine (H.out _).mono ?_; rintro e w1 ⟨rfl, b1⟩; obtain ⟨r, r1, r2, r3⟩ := o2.out w1; have HV := Lib.hid (And.intro (VR.nan r1 r2) b1); clear r1 r2 b1)
      go_ret
      exact ⟨_, rfl, HV.out.1, HV.out.2.drew⟩
  | none =>
    have hs : snapO x = none := by unfold snapO; rw [h1]; rfl
    rw [hs]
    obtain ⟨m, m1, m2, m3⟩ := run_mul_none h1 w
    have H := Lib.hid (wholeR_nan w.drew m m1 m2)
    have HQ := Lib.hid (fun w => run_quo_none (div_nan_l (y := 4634204016564240384) m1) w)
    clear h1 hs m1 m2
    go_enter Try.func19, Try.ntmps19
    go_wp2_with (go_at_call 36; refine H.out.mono ?_; rintro e w1 ⟨rfl, b1⟩; obtain ⟨r, r1, r2, r3⟩ := HQ.out w1; have HV := Lib.hid (And.intro (VR.nan r1 r2) b1); clear r1 r2 b1)
    go_ret
    exact ⟨_, rfl, HV.out.1, (((Below.refl _ w).drew).trans HV.out.2).drew⟩
/-- How wide a text is: the two steps, whatever comes of them. -/
theorem wide_runs (n x : Nat) (w : World) : ∃ m r, ∃ w1 w2, (∀ t, (binOp .mul t (fl 4602678819172646912) (fl x)).run Try.prog w = .ok (fl m) w1) ∧ (∀ t, (binOp .mul t (fl (floatOfInt .f64 (n : Int))) (fl m)).run Try.prog w1 = .ok (fl r) w2) ∧ VR (wideO n x) (fl r) ∧ Below w.heap.size w w2 := by
  cases h1 : Ieee.double.mul 4602678819172646912 x with
  | some m =>
    have hs : wideO n x = Ieee.double.mul (floatOfInt .f64 (n : Int)) m := by unfold wideO; rw [h1]; rfl
    rw [hs]
    cases h2 : Ieee.double.mul (floatOfInt .f64 (n : Int)) m with
    | some r => exact ⟨m, r, w, w, fun t => hmul' h1 t w, fun t => hmul' h2 t w, VR.num (mul_some h2), Below.refl _ _⟩
    | none =>
      obtain ⟨r, r1, r2, r3⟩ := run_mul_none h2 w
      exact ⟨m, r, w, w.drew, fun t => hmul' h1 t w, r3, VR.nan r1 r2, (Below.refl _ _).drew⟩
  | none =>
    have hs : wideO n x = none := by unfold wideO; rw [h1]; rfl
    rw [hs]
    obtain ⟨m, m1, m2, m3⟩ := run_mul_none h1 w
    obtain ⟨r, r1, r2, r3⟩ := run_mul_none (mul_nan_r (x := floatOfInt .f64 (n : Int)) m1) w.drew
    exact ⟨m, r, w.drew, w.drew.drew, m3, r3, VR.nan r1 r2, ((Below.refl _ _).drew).drew⟩
theorem wideB_any (w : World) (a : Option Addr) (n cap x : Nat) : Calls Try.prog 20 #[.slice a n cap, fl x] w fun e w' => ∃ v, e = .returned v ∧ VR (wideO n x) v ∧ Below w.heap.size w w' := by
  obtain ⟨m, r, w1, w2, o1, o2, o3, o4⟩ := wide_runs n x w
  have HV := Lib.hid (And.intro o3 o4)
  have hc : ∀ w, (convert 3 23 (.int .i64 (n : Int))).run Try.prog w = .ok (.float .f64 (floatOfInt .f64 (n : Int))) w := fun w => run_convert_int_float w 3 23 .i64 .f64 n (by rw [Try.underlying3]; rfl) Try.underlying23
  obtain ⟨y, hy⟩ : ∃ y, y = floatOfInt .f64 (n : Int) := ⟨_, rfl⟩
  rw [← hy] at o2 hc
  clear hy o3 o4
  go_enter Try.func20, Try.ntmps20
  go_wp2_with (first | simp only [o1] | simp only [hc])
  go_ret
  exact ⟨_, rfl, HV.out.1, HV.out.2⟩
theorem wideR_any (w : World) (a : Option Addr) (n cap x : Nat) : Calls Try.prog 21 #[.slice a n cap, fl x] w fun e w' => ∃ v, e = .returned v ∧ VR (wideO n x) v ∧ Below w.heap.size w w' := by
  obtain ⟨m, r, w1, w2, o1, o2, o3, o4⟩ := wide_runs n x w
  have HV := Lib.hid (And.intro o3 o4)
  have hc : ∀ w, (convert 3 23 (.int .i64 (n : Int))).run Try.prog w = .ok (.float .f64 (floatOfInt .f64 (n : Int))) w := fun w => run_convert_int_float w 3 23 .i64 .f64 n (by rw [Try.underlying3]; rfl) Try.underlying23
  obtain ⟨y, hy⟩ : ∃ y, y = floatOfInt .f64 (n : Int) := ⟨_, rfl⟩
  rw [← hy] at o2 hc
  clear hy o3 o4
  go_enter Try.func21, Try.ntmps21
  go_wp2_with (first | simp only [o1] | simp only [hc])
  go_ret
  exact ⟨_, rfl, HV.out.1, HV.out.2⟩
theorem fx5_end : True := trivial
end Go.Proofs.Ytohmmkkbfiembaa
