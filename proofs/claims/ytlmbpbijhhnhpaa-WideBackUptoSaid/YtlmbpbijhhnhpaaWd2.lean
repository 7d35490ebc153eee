/- The document's Compare and Same; units lent with some behind them; kept. -/
import Derived.Test.YtlmbpbijhhnhpaaWd1
import Derived.Deep.RegionWith
import Derived.StillTailTactics
namespace Go.Proofs.Ytlmbpbijhhnhpaa
open Go.RowKit
set_option linter.unusedVariables false
set_option maxRecDepth 100000

theorem Sl16.drewN {w : World} {a : Option Addr} {us : List Nat} (h : Sl16 w a us) (k : Nat) : Sl16 (w.drewN k) a us := ⟨h.at_, h.len⟩

set_option maxHeartbeats 2000000 in
/-- The document's Compare. -/
theorem ref_compare {w : World} {a b : Option Addr} {us vs : List Nat} (ca cb : Nat) (ha : Sl16 w a us) (hb : Sl16 w b vs) :
    Calls Try.prog 41 #[.slice a us.length ca, .slice b vs.length cb] w fun e w' => e = .returned (.int .i64 (cmp16 us vs)) ∧ ∃ k, w.drewN k = w' := by
  have HA := Lib.hid ha
  have HB := Lib.hid hb
  have l1 := ha.len
  have l2 := hb.len
  clear ha hb
  obtain ⟨n, hn⟩ : ∃ n, n = us.length := ⟨_, rfl⟩
  obtain ⟨m, hm⟩ : ∃ m, m = vs.length := ⟨_, rfl⟩
  rw [← hn] at l1 ⊢
  rw [← hm] at l2 ⊢
  have HN := Lib.hid hn
  have HM := Lib.hid hm
  clear hn hm
  go_enter Try.func41, Try.ntmps41
  go_wp2_with fail
  go_loopw [5] (fun v wr => ∃ i k : Nat, v = .int .i64 (i : Nat) ∧ i ≤ n ∧ i ≤ m ∧ (∀ j, j < i → us[j]? = vs[j]?) ∧ wr = w.drewN k) (fun v _ => n - (intOf v).toNat)
  case atStart => exact ⟨0, 0, rfl, Nat.zero_le _, Nat.zero_le _, fun j hj => absurd hj (by omega), rfl⟩
  case round =>
    obtain ⟨i, k, rfl, hi1, hi2, heq, rfl⟩ := hrel
    have HE := Lib.hid heq
    clear heq
    by_cases h12 : i < n ∧ i < m
    · obtain ⟨h1, h2⟩ := h12
      obtain ⟨u, hu⟩ : ∃ u, us[i]? = some u := ⟨_, List.getElem?_eq_getElem (by rw [← HN.out]; exact h1)⟩
      obtain ⟨hu1, b1, o1, rfl, hb1, c1⟩ := HA.out.at_ i u hu
      obtain ⟨v, hv⟩ : ∃ v, vs[i]? = some v := ⟨_, List.getElem?_eq_getElem (by rw [← HM.out]; exact h2)⟩
      obtain ⟨hv1, b2, o2, rfl, hb2, c2⟩ := HB.out.at_ i v hv
      have HU := Lib.hid hu
      have HV := Lib.hid hv
      clear hu hv
      have p1 : (i : Int) < (n : Int) := by omega
      have p2 : (i : Int) < (m : Int) := by omega
      by_cases hne : u = v
      · subst hne
        have q : ((u : Int) != (u : Int)) = false := by simp
        go_wp2_with fail
        go_quiet (fail)
        go_wp2
        go_roundw
        case rel => exact ⟨i + 1, _, by go_num, h1, h2, fun j hj => by
            rcases Nat.lt_or_ge j i with h | h
            · exact HE.out j h
            · obtain rfl : j = i := by omega
              rw [HU.out, HV.out], rfl⟩
        case measure => simp [intOf]; omega
      · have hc := cmp16_at HE.out HU.out HV.out hne
        have q : ((u : Int) != (v : Int)) = true := by simp; omega
        by_cases h3 : u < v
        · rw [if_pos h3] at hc
          have q2 : (u : Int) < (v : Int) := by omega
          have HC := Lib.hid hc
          clear hc hne h3
          go_wp2_with fail
          go_quiet (fail)
          go_wp2_with fail
          go_quiet (fail)
          go_wp2
          go_ret
          exact ⟨by rw [HC.out]; rfl, _, by rw [World.drewN_drewN, World.drewN_drewN]⟩
        · rw [if_neg h3] at hc
          have q2 : ¬ (u : Int) < (v : Int) := by omega
          have HC := Lib.hid hc
          clear hc hne h3
          go_wp2_with fail
          go_quiet (fail)
          go_wp2_with fail
          go_quiet (fail)
          go_wp2
          go_ret
          exact ⟨by rw [HC.out]; rfl, _, by rw [World.drewN_drewN, World.drewN_drewN]⟩
    · have hc := cmp16_end HE.out (by rw [← HN.out]; omega) (by rw [← HM.out]; omega) (by rw [← HN.out, ← HM.out]; omega)
      rw [← HN.out, ← HM.out] at hc
      by_cases h3 : n < m
      · rw [if_pos h3] at hc
        have p1 : ¬ ((i : Int) < (n : Int)) := by omega
        have p3 : (n : Int) < (m : Int) := by omega
        have HC := Lib.hid hc
        clear hc h3 h12
        go_wp2
        go_ret
        exact ⟨by rw [HC.out]; rfl, k, rfl⟩
      · rw [if_neg h3] at hc
        have p3 : ¬ (n : Int) < (m : Int) := by omega
        by_cases h4 : m < n
        · rw [if_pos h4] at hc
          have p1 : ((i : Int) < (n : Int)) := by omega
          have p2 : ¬ ((i : Int) < (m : Int)) := by omega
          have p4 : (m : Int) < (n : Int) := by omega
          have HC := Lib.hid hc
          clear hc h3 h12 h4
          go_wp2
          go_ret
          exact ⟨by rw [HC.out]; rfl, k, rfl⟩
        · rw [if_neg h4] at hc
          have p1 : ¬ ((i : Int) < (n : Int)) := by omega
          have p4 : ¬ (m : Int) < (n : Int) := by omega
          have HC := Lib.hid hc
          clear hc h3 h12 h4
          go_wp2
          go_ret
          exact ⟨by rw [HC.out]; rfl, k, rfl⟩

theorem cmp16_zero {a b : List Nat} : cmp16 a b = 0 ↔ a = b := by
  induction a generalizing b with
  | nil => cases b <;> simp [cmp16]
  | cons x xs ih =>
    cases b with
    | nil => simp [cmp16]
    | cons y ys =>
      simp only [cmp16, List.cons.injEq]
      by_cases h : x = y
      · simp [h, ih]
      · simp only [h, if_false, false_and, iff_false]
        split <;> omega

theorem ref_same {w : World} {a b : Option Addr} {us vs : List Nat} (ca cb : Nat) (ha : Sl16 w a us) (hb : Sl16 w b vs) :
    Calls Try.prog 45 #[.slice a us.length ca, .slice b vs.length cb] w fun e w' => e = .returned (.bool (decide (us = vs))) ∧ ∃ k, w.drewN k = w' := by
  by_cases h : us = vs
  · have h0 : cmp16 us vs = 0 := cmp16_zero.2 h
    rw [decide_eq_true h]
    clear h
    go_enter Try.func45, Try.ntmps45
    go_wp2_with (go_at_call 41; refine (ref_compare ca cb ha hb).mono ?_; rw [h0]; rintro e w2 ⟨rfl, k, rfl⟩)
    go_ret
    exact ⟨rfl, k, rfl⟩
  · have h0 : ¬ cmp16 us vs = 0 := fun e => h (cmp16_zero.1 e)
    have q : (cmp16 us vs == 0) = false := by simp [h0]
    rw [decide_eq_false h]
    clear h h0
    generalize hc : cmp16 us vs = c at q
    go_enter Try.func45, Try.ntmps45
    go_wp2_with (go_at_call 41; refine (ref_compare ca cb ha hb).mono ?_; rw [hc]; rintro e w2 ⟨rfl, k, rfl⟩)
    go_ret
    exact ⟨by first | rfl | simp [q], k, rfl⟩
end Go.Proofs.Ytlmbpbijhhnhpaa
