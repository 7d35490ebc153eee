/- Rows of other lengths; of no tree; the nearest 64th; how wide a text is. -/
import Derived.Test.YtohmmkkbfiembaaFw1
import Derived.Test.YtohmmkkbfiembaaFs1
namespace Go.Proofs.Ytohmmkkbfiembaa
open Go.RowKit Go.Shelf
attribute [local go_sem] Oper.semAt_some
attribute [local go_sem] run_store_float
set_option linter.unusedVariables false
set_option maxRecDepth 100000

theorem hmul' {x y r : Nat} (h : Ieee.double.mul x y = some r) : ∀ t w, (binOp .mul t (fl x) (fl y)).run Try.prog w = .ok (fl r) w := fun t w => run_float_arith w .mul t .f64 x y r h
theorem hquo' {x y r : Nat} (h : Ieee.double.div x y = some r) : ∀ t w, (binOp .quo t (fl x) (fl y)).run Try.prog w = .ok (fl r) w := fun t w => run_float_arith w .quo t .f64 x y r h
/-- The nearest whole number. -/
def wholeD (x : Nat) : Nat := Ieee.double.write ((Ieee.double.read x).integral .even)
theorem run_whole {P : Program} (x : Nat) (h : Num x) (w : World) : (Extern.MathFloor.toIntegral "math.RoundToEven" .even #[.float .f64 x]).run P w = .ok (.float .f64 (wholeD x)) w := by
  unfold wholeD
  change (Extern.MathFloor.toIntegral.match_1 (motive := fun _ => Sem Value) (FloatKind.f64.decode x) ?a ?b).run P w = _
  have hd : FloatKind.f64.decode x = Ieee.double.read x := rfl
  rcases h.read with ⟨m, p, e⟩ | e
  · rw [hd, e]; rfl
  · rw [hd, e]; rfl
theorem wholeB_calls (w : World) (x : Nat) (h : Num x) : Calls Try.prog 35 #[fl x] w fun e w' => e = .returned (fl (wholeD x)) ∧ w = w' := by
  have hr := run_whole (P := Try.prog) x h
  obtain ⟨y, hy⟩ : ∃ y, y = wholeD x := ⟨_, rfl⟩
  rw [← hy] at hr ⊢
  clear hy h
  go_enter Try.func35, Try.ntmps35
  go_wp2
  rw [run_callFunc_extern Try.func50 (by kernel_rfl) (by kernel_rfl) (by kernel_rfl) (e := Extern.MathFloor.toIntegral "math.RoundToEven" .even) (by kernel_rfl), hr]
  simp only [Result.andThen]
  rw [Oper.upon_value]
  go_wp2
  go_ret
  exact ⟨rfl, rfl⟩
theorem snapB_calls (w : World) (x m q : Nat) (h1 : Ieee.double.mul x 4634204016564240384 = some m) (hm : Num m) (h2 : Ieee.double.div (wholeD m) 4634204016564240384 = some q) : Calls Try.prog 18 #[fl x] w fun e w' => e = .returned (fl q) ∧ w = w' := by
  have H := Lib.hid (fun w => wholeB_calls w m hm)
  have o1 := hmul' h1
  have o2 := hquo' h2
  obtain ⟨y, hy⟩ : ∃ y, y = wholeD m := ⟨_, rfl⟩
  rw [← hy] at H o2
  clear h1 h2 hy hm
  go_enter Try.func18, Try.ntmps18
  go_wp2_with (first | (go_at_call 35; refine (H.out _).mono ?_; rintro e w1 ⟨rfl, rfl⟩))
  go_ret
  exact ⟨rfl, rfl⟩
theorem wideB_calls (w : World) (a : Option Addr) (n cap : Nat) (x m r : Nat) (h1 : Ieee.double.mul 4602678819172646912 x = some m) (h2 : Ieee.double.mul (floatOfInt .f64 (n : Int)) m = some r) : Calls Try.prog 20 #[.slice a n cap, fl x] w fun e w' => e = .returned (fl r) ∧ w = w' := by
  have o1 := hmul' h1
  have o2 := hmul' h2
  have hc : ∀ w, (convert 3 23 (.int .i64 (n : Int))).run Try.prog w = .ok (.float .f64 (floatOfInt .f64 (n : Int))) w := fun w => run_convert_int_float w 3 23 .i64 .f64 n (by rw [Try.underlying3]; rfl) Try.underlying23
  obtain ⟨y, hy⟩ : ∃ y, y = floatOfInt .f64 (n : Int) := ⟨_, rfl⟩
  rw [← hy] at o2 hc
  clear h1 h2 hy
  go_enter Try.func20, Try.ntmps20
  go_wp2_with (first | simp only [o1] | simp only [hc])
  go_ret
  exact ⟨rfl, rfl⟩
theorem layNil_calls (w : World) (s g : Int) (v x y : Value) : Calls Try.prog 22 #[.pointer none, .agg #[.int .u32 s, .int .u32 g], v, x, y] w fun e w' => e = .returned (.tuple #[.slice none 0 0, .int .i64 1]) ∧ Below w.heap.size w w' := by
  go_enter Try.func22, Try.ntmps22
  go_wp2
  refine bodyPost_ret (v := .tuple #[.slice none 0 0, .int .i64 1]) (by simp [results, Try.results22, go_sem]) rfl ⟨rfl, ?_⟩
  exact (Below.refl _ w).alloc (Nat.le_refl _) _
/-- Share of rows of other lengths. -/
theorem shareX_calls (w : World) (room : Nat) {a1 a2 a3 a4 a5 : Option Addr} {n m2 m3 m4 m5 p1 p2 p3 p4 p5 : Nat} (h : ¬ (m2 = n ∧ m3 = n ∧ m4 = n ∧ m5 = n)) (hb : n ≤ 1099511627776 ∧ m2 ≤ 1099511627776 ∧ m3 ≤ 1099511627776 ∧ m4 ≤ 1099511627776 ∧ m5 ≤ 1099511627776) :
    Calls Try.prog 9 #[fl room, .slice a1 n p1, .slice a2 m2 p2, .slice a3 m3 p3, .slice a4 m4 p4, .slice a5 m5 p5] w fun e w' => e = .returned (.tuple #[.slice none 0 0, .int .i64 1]) ∧ Below w.heap.size w w' := by
  have FIN : ∀ W, Below w.heap.size w W → Below w.heap.size w W := fun _ b => b
  go_enter Try.func9, Try.ntmps9
  have hlow : ∀ (x1 x2 x3 x4 x5 : Obj), Below w.heap.size w (((((w.alloc x1).alloc x2).alloc x3).alloc x4).alloc x5) := fun x1 x2 x3 x4 x5 => (((((Below.refl _ w).alloc (Nat.le_refl _) _).alloc (by simp) _).alloc (by simp; omega) _).alloc (by simp; omega) _).alloc (by simp; omega) _
  by_cases e2 : m2 = n
  · subst e2
    by_cases e3 : m3 = m2
    · subst e3
      by_cases e4 : m4 = m3
      · subst e4
        have e5 : ¬ m5 = m4 := fun e => h ⟨rfl, rfl, rfl, e⟩
        have q5 : ((m5 : Int) != (m4 : Int)) = true := by simp; omega
        clear h
        go_wp2
        refine bodyPost_ret (v := .tuple #[.slice none 0 0, .int .i64 1]) (by simp [results, Try.results9, go_sem]) rfl ⟨rfl, hlow _ _ _ _ _⟩
      · have q5 : ((m4 : Int) != (m3 : Int)) = true := by simp; omega
        clear h
        go_wp2
        refine bodyPost_ret (v := .tuple #[.slice none 0 0, .int .i64 1]) (by simp [results, Try.results9, go_sem]) rfl ⟨rfl, hlow _ _ _ _ _⟩
    · have q5 : ((m3 : Int) != (m2 : Int)) = true := by simp; omega
      clear h
      go_wp2
      refine bodyPost_ret (v := .tuple #[.slice none 0 0, .int .i64 1]) (by simp [results, Try.results9, go_sem]) rfl ⟨rfl, hlow _ _ _ _ _⟩
  · have q5 : ((m2 : Int) != (n : Int)) = true := by simp; omega
    clear h
    go_wp2
    refine bodyPost_ret (v := .tuple #[.slice none 0 0, .int .i64 1]) (by simp [results, Try.results9, go_sem]) rfl ⟨rfl, hlow _ _ _ _ _⟩
end Go.Proofs.Ytohmmkkbfiembaa
