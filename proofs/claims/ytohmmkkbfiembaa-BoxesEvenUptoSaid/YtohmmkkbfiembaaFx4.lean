/- The nearest 64th, how wide a text is: the program's and the document's. -/
import Derived.Test.YtohmmkkbfiembaaFx3
import Derived.Test.YtohmmkkbfiembaaFw5
import Derived.Deep.QuietTactic
import Derived.BigQuiet
namespace Go.Proofs.Ytohmmkkbfiembaa
open Go.RowKit Go.Shelf
attribute [local go_sem] Oper.semAt_some
set_option linter.unusedVariables false
set_option maxRecDepth 100000

theorem nan_of {x : Nat} (h : ¬ Num x) (h64 : x < 18446744073709551616) : NaN' x := by
  unfold NaN'
  rcases Nat.lt_or_ge 9218868437227405312 (x % 9223372036854775808) with h1 | h1
  · omega
  · exact absurd ⟨h64, h1⟩ h
/-- A number that is none: at its nearest whole one it stays none. -/
theorem run_whole_nan {P : Program} (x : Nat) (h : NaN' x) (h64 : x < 18446744073709551616) (w : World) : ∃ y w', NaN' y ∧ y < 18446744073709551616 ∧ (w' = w ∨ w' = w.drew) ∧ (Extern.MathFloor.toIntegral "math.RoundToEven" .even #[.float .f64 x]).run P w = .ok (.float .f64 y) w' := by
  obtain ⟨s, f, e⟩ := read_nan h
  have hd : FloatKind.f64.decode x = Ieee.double.read x := rfl
  change ∃ y w', NaN' y ∧ y < 18446744073709551616 ∧ (w' = w ∨ w' = w.drew) ∧ (Extern.MathFloor.toIntegral.match_1 (motive := fun _ => Sem Value) (FloatKind.f64.decode x) ?a ?b).run P w = _
  rw [hd, e]
  dsimp only
  by_cases hq : FloatKind.f64.format.quiet f = f
  · rw [if_pos hq]
    exact ⟨x, w, h, h64, .inl rfl, rfl⟩
  · rw [if_neg hq]
    have hF : f ≠ 0 ∧ f < 2 ^ 52 := by
      have e2 := e
      have hsw : Ieee.double.signWeight = 2 ^ 63 := by decide
      have hbin : Ieee.double.binade = 2 ^ 52 := rfl
      have hinf : Ieee.double.infRung = 2047 * 2 ^ 52 := by decide
      unfold NaN' at h
      unfold Ieee.Format.read at e2
      simp only [hsw, hbin, hinf] at e2
      rw [if_neg (by omega), if_neg (by omega), if_neg (by omega)] at e2
      injection e2 with _ e3
      omega
    have hy : NaN' (FloatKind.f64.encode (.nan s (FloatKind.f64.format.quiet f))) ∧ FloatKind.f64.encode (.nan s (FloatKind.f64.format.quiet f)) < 18446744073709551616 := by
      have hq2 : FloatKind.f64.format.quiet f % 2 ^ 52 ≠ 0 := by
        intro h0
        have hb : (FloatKind.f64.format.quiet f).testBit 51 = true := by
          show (f ||| 2 ^ 51).testBit 51 = true
          rw [Nat.testBit_or, Nat.testBit_two_pow_self, Bool.or_true]
        have hb2 : (FloatKind.f64.format.quiet f % 2 ^ 52).testBit 51 = true := by
          rw [Nat.testBit_mod_two_pow, hb]; rfl
        rw [h0] at hb2
        simp at hb2
      have hlt : FloatKind.f64.format.quiet f % 2 ^ 52 < 2 ^ 52 := Nat.mod_lt _ (by decide)
      have hv : FloatKind.f64.encode (.nan s (FloatKind.f64.format.quiet f)) = Ieee.double.word s (2047 * 2 ^ 52 + FloatKind.f64.format.quiet f % 2 ^ 52) := by
        show Ieee.double.word s (Ieee.double.infRung + _ % Ieee.double.binade) = _
        rfl
      obtain ⟨e1, e2, e3⟩ := word_sign (neg := s) (r := 2047 * 2 ^ 52 + FloatKind.f64.format.quiet f % 2 ^ 52) (by omega)
      rw [hv]
      unfold NaN'
      exact ⟨by rw [e1]; omega, by omega⟩
    obtain ⟨y, hyy⟩ : ∃ y, y = FloatKind.f64.encode (.nan s (FloatKind.f64.format.quiet f)) := ⟨_, rfl⟩
    rw [← hyy] at hy ⊢
    obtain ⟨kept, hk⟩ : ∃ k, k = (Question.extern "math.Floor,Ceil,Trunc,RoundToEven.signallingNaN kept" 2).cut (w.tape w.drawn (Question.extern "math.Floor,Ceil,Trunc,RoundToEven.signallingNaN kept" 2)) := ⟨_, rfl⟩
    refine ⟨if kept == 1 then x else y, w.drew, ?_, ?_, .inr rfl, ?_⟩
    · split; exact h; exact hy.1
    · split; exact h64; exact hy.2
    · rw [hk]
      simp [Question.forced]
theorem wholeR_num (w : World) (x : Nat) (h : Num x) : Calls Try.prog 36 #[fl x] w fun e w' => e = .returned (fl (wholeD x)) ∧ Below w.heap.size w w' := by
  have h64 := h.1
  by_cases h0 : x % 9223372036854775808 = 0
  · have HS := Lib.hid (fun w => split_zero w x h64 h0)
    rw [whole_zero h h0]
    clear h h64 h0
    go_enter Try.func36, Try.ntmps36
    go_wp2_with (go_at_call 51; refine (HS.out _).mono ?_; rintro e w1 ⟨rfl, b1⟩; have HB := Lib.hid b1; clear b1)
    go_ret
    exact ⟨rfl, HB.out.alloc HB.out.size _⟩
  · by_cases hi : x % 9223372036854775808 = 9218868437227405312
    · have HS := Lib.hid (fun w => split_inf w x h64 hi)
      rw [whole_big h (by unfold exF; rw [show (2 ^ 63 : Nat) = 9223372036854775808 by decide, hi]; decide)]
      clear h h64 h0 hi
      go_enter Try.func36, Try.ntmps36
      go_wp2_with (go_at_call 51; refine (HS.out _).mono ?_; rintro e w1 ⟨rfl, b1⟩; have HB := Lib.hid b1; clear b1)
      go_ret
      exact ⟨rfl, HB.out.alloc HB.out.size _⟩
    · have he : exF x < 2047 := by
        have := h.2
        unfold exF
        omega
      have HS := Lib.hid (fun w => split_std w x h64 he h0)
      obtain ⟨c, hc⟩ : ∃ c : Int, c = if exF x = 0 then 1 else 2 := ⟨_, rfl⟩
      rw [← hc] at HS
      have hc' : c = 1 ∨ c = 2 := by rw [hc]; split; exact .inl rfl; exact .inr rfl
      clear hc
      by_cases hb : exF x < 1075
      · obtain ⟨q, hq1, hq2, hq3⟩ := whole_small h hb
        have hxp : -1074 ≤ xpF x ∧ xpF x < 0 := by unfold xpF; split <;> omega
        have hml := maF_lt x
        rw [cut_neg] at hq2
        rw [hq3]
        obtain ⟨s, hs⟩ : ∃ k : Nat, xpF x = -(k : Int) := ⟨(-(xpF x)).toNat, by omega⟩
        rw [hs] at hxp hq2 HS
        have HD := Lib.hid (fun w => drop_calls w (maF x) s (by omega) (by omega) (by omega))
        have hss : (- -(s : Int)).toNat = s := by omega
        rw [hss] at hq2
        rw [← hq2] at HD
        have HN := Lib.hid (fun w => nearest_calls w (sgb x) q hq1)
        obtain ⟨m, hm⟩ : ∃ m, m = maF x := ⟨_, rfl⟩
        obtain ⟨sg, hsg⟩ : ∃ m, m = sgb x := ⟨_, rfl⟩
        rw [← hm] at HD HS
        rw [← hsg] at HS HN ⊢
        have d1 : decide (0 ≤ -(s : Int)) = false := by simp; omega
        clear hm hsg hq1 hq2 hq3 hs hss hml hb he hi h0 h h64
        have hneg : IntKind.i64.wrap (- -(s : Int)) = (s : Int) := by
          rw [show (- -(s : Int)) = (s : Int) by omega]
          exact IntWalk.i64_in _ (by omega)
        rcases hc' with rfl | rfl
        all_goals
          go_enter Try.func36, Try.ntmps36
          go_wp2_with (go_at_call 51; refine (HS.out _).mono ?_; rintro e w1 ⟨rfl, b1⟩; have HB := Lib.hid b1; clear b1)
          go_quiet ((first | (go_at_call 53; exact Calls.quiet_of_same ((HD.out _).mono fun _ _ h => ⟨h.1, h.2.symm⟩)) | (go_at_call 52; exact Calls.quiet_of_same ((HN.out _).mono fun _ _ h => ⟨h.1, h.2.symm⟩))))
          go_wp2_with fail
          go_ret
          exact ⟨rfl, below_drewN (HB.out.alloc HB.out.size _) _⟩
      · have hxp : 0 ≤ xpF x := by unfold xpF; split <;> omega
        rw [whole_big h (by omega)]
        obtain ⟨m, hm⟩ : ∃ m, m = maF x := ⟨_, rfl⟩
        obtain ⟨sg, hsg⟩ : ∃ m, m = sgb x := ⟨_, rfl⟩
        obtain ⟨xp, hx⟩ : ∃ m, m = xpF x := ⟨_, rfl⟩
        rw [← hm, ← hsg, ← hx] at HS
        rw [← hx] at hxp
        have d1 : decide (0 ≤ xp) = true := by simp; omega
        clear hm hsg hx hb he hi h0 h h64
        rcases hc' with rfl | rfl
        all_goals
          go_enter Try.func36, Try.ntmps36
          go_wp2_with (go_at_call 51; refine (HS.out _).mono ?_; rintro e w1 ⟨rfl, b1⟩; have HB := Lib.hid b1; clear b1)
          go_ret
          exact ⟨rfl, HB.out.alloc HB.out.size _⟩
theorem wholeR_nan (w : World) (x : Nat) (h : NaN' x) (h64 : x < 18446744073709551616) : Calls Try.prog 36 #[fl x] w fun e w' => e = .returned (fl x) ∧ Below w.heap.size w w' := by
  have HS := Lib.hid (fun w => split_nan w x h64 (by unfold NaN' at h; omega))
  clear h h64
  go_enter Try.func36, Try.ntmps36
  go_wp2_with (go_at_call 51; refine (HS.out _).mono ?_; rintro e w1 ⟨rfl, b1⟩; have HB := Lib.hid b1; clear b1)
  go_ret
  exact ⟨rfl, HB.out.alloc HB.out.size _⟩
theorem fx4_end : True := trivial
end Go.Proofs.Ytohmmkkbfiembaa
