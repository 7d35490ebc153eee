/- Whether a row and its marks stayed; the document's Share of rows of other lengths. -/
import Derived.Test.YtohmmkkbfiembaaFg1
import Derived.Test.YtohmmkkbfiembaaFr4
import Derived.Deep.QuietTactic
import Derived.BigQuiet
namespace Go.Proofs.Ytohmmkkbfiembaa
open Go.RowKit Go.Shelf
attribute [local go_sem] Oper.semAt_some
attribute [local go_sem] run_store_float
set_option linter.unusedVariables false
set_option maxRecDepth 100000

theorem e77 : (FloatKind.f64.format.order 13858490847093325824 13858490847093325824 == some .eq) = true := by kernel_rfl
theorem e78 : (FloatKind.f64.format.order 13858561215837503488 13858561215837503488 == some .eq) = true := by kernel_rfl
set_option maxHeartbeats 600000 in
theorem stayed_calls (w : World) (a : Option Addr) (g n c cap : Nat) (f : Nat → Nat) (h1 : Mk w g n f) (h2 : SlF w a n f) (hc : n + 2 ≤ c ∧ c ≤ 9223372036854775807) (hn : n ≤ 1048578) :
    Calls Try.prog 12 #[.slice (some ⟨g, 0, none⟩) n c, .slice a n cap] w fun e w' => e = .returned (.bool true) ∧ Below w.heap.size w w' := by
  have H1 := Lib.hid h1
  have H2 := Lib.hid h2
  clear h1 h2
  have e1 := e77
  have e2 := e78
  have q2 : IntKind.i64.wrap ((n : Int) + 2) = (n : Int) + 2 := IntWalk.i64_in _ (by omega)
  have q3 : IntKind.i64.wrap ((n : Int) + 1) = (n : Int) + 1 := IntWalk.i64_in _ (by omega)
  go_enter Try.func12, Try.ntmps12
  go_wp2_with fail
  go_loopg [14] n (fun gh v wr => ∃ i : Nat, v = .int .i64 (i : Int) ∧ Hid (i + gh = n ∧ Below w.heap.size w wr))
  case atStart => exact ⟨0, rfl, Lib.hid ⟨by omega, Below.refl _ w⟩⟩
  case round =>
    obtain ⟨i, rfl, hw⟩ := hrel
    have hsum := hw.out.1
    have HB := Lib.hid hw.out.2
    clear hw
    have q0 : IntKind.i64.wrap ((i : Int) + 1) = (i : Int) + 1 := IntWalk.i64_in _ (by omega)
    by_cases hi : i < n
    · obtain ⟨h64, b', off', rfl, hc'⟩ := (H2.out.below HB.out).at_ i hi
      obtain ⟨cur, m1, m2, m3, m4⟩ := H1.out.below HB.out
      have hc1 : wr.cell? ⟨g, i, none⟩ = some (fl (f i)) := cell_blk m1 i (m2 i hi)
      have HS := Lib.hid (fun w => sm_calls w (Sm.self h64))
      obtain ⟨x, hx⟩ : ∃ x, x = f i := ⟨_, rfl⟩
      rw [← hx] at hc1 hc' HS
      have HM : Hid (gk - 1 < gk) := Lib.hid (by omega)
      have HSM : Hid (i + 1 + (gk - 1) = n) := Lib.hid (by omega)
      have hi2 : i < n + 2 := by omega
      have hi3 : (i : Int) < (n : Int) + 2 := by omega
      clear hx h64 hsum m1 m2 m3 m4
      go_wp2_with fail
      go_quiet ((go_at_call 17; exact Calls.quiet_of_same ((HS.out _).mono fun _ _ h => ⟨h.1, h.2.symm⟩)))
      all_goals
        go_wp2_with fail
        go_roundg (gk - 1)
        case measure => exact HM.out
        case rel => exact ⟨i + 1, by go_num, Lib.hid ⟨HSM.out, below_drewN HB.out _⟩⟩
    · obtain rfl : i = n := by omega
      obtain ⟨cur, m1, m2, m3, m4⟩ := H1.out.below HB.out
      have hc1 : wr.cell? ⟨g, i, none⟩ = some (fl 13858490847093325824) := cell_blk m1 i m3
      have hc2 : wr.cell? ⟨g, i + 1, none⟩ = some (fl 13858561215837503488) := cell_blk m1 (i + 1) m4
      clear m1 m2 m3 m4
      go_wp2_with fail
      go_ret
      exact ⟨rfl, HB.out⟩
theorem shareX18_calls (w : World) (room : Nat) {a1 a2 a3 a4 a5 : Option Addr} {n m2 m3 m4 m5 p1 p2 p3 p4 p5 : Nat} (h : ¬ (m2 = n ∧ m3 = n ∧ m4 = n ∧ m5 = n)) (hb : n ≤ 1099511627776 ∧ m2 ≤ 1099511627776 ∧ m3 ≤ 1099511627776 ∧ m4 ≤ 1099511627776 ∧ m5 ≤ 1099511627776) :
    Calls Try.prog 10 #[fl room, .slice a1 n p1, .slice a2 m2 p2, .slice a3 m3 p3, .slice a4 m4 p4, .slice a5 m5 p5] w fun e w' => e = .returned (.tuple #[.slice none 0 0, .int .i64 1]) ∧ w = w' := by
  go_enter Try.func10, Try.ntmps10
  by_cases e2 : m2 = n
  · subst e2
    by_cases e3 : m3 = m2
    · subst e3
      by_cases e4 : m4 = m3
      · subst e4
        have e5 : ¬ m5 = m4 := fun e => h ⟨rfl, rfl, rfl, e⟩
        have q5 : ((m5 : Int) != (m4 : Int)) = true := by simp; omega
        clear h
        go_wp2
        go_ret2
        exact ⟨rfl, rfl⟩
      · have q5 : ((m4 : Int) != (m3 : Int)) = true := by simp; omega
        clear h
        go_wp2
        go_ret2
        exact ⟨rfl, rfl⟩
    · have q5 : ((m3 : Int) != (m2 : Int)) = true := by simp; omega
      clear h
      go_wp2
      go_ret2
      exact ⟨rfl, rfl⟩
  · have q5 : ((m2 : Int) != (n : Int)) = true := by simp; omega
    clear h
    go_wp2
    go_ret2
    exact ⟨rfl, rfl⟩
theorem fg2_end : True := trivial
end Go.Proofs.Ytohmmkkbfiembaa
