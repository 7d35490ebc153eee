/- The program's piece: how many bytes the piece has that begins a text: walked. -/
import Derived.Test.YtelhnaphkbpakaaWd9
namespace Go.Proofs.Ytelhnaphkbpakaa
open Go.RowKit
set_option linter.unusedVariables false
set_option maxRecDepth 100000

theorem inPiece_eq {s : ByteArray} {p many lo hi k lo' hi' : Nat} (h : (k = 1 ∧ lo' = lo ∧ hi' = hi) ∨ (1 < k ∧ lo' = 128 ∧ hi' = 191)) : inPiece s p many lo hi k = (decide (k < many) && within s (p + k) lo' hi') := by
  unfold inPiece
  rcases h with ⟨rfl, rfl, rfl⟩ | ⟨h, rfl, rfl⟩
  · rw [if_pos rfl]
  · rw [if_neg (by omega)]

theorem rowOf_le (c : Nat) : (rowOf c).1 ≤ 4 := by
  rcases row_cases c with ⟨_, e⟩ | ⟨_, _, e⟩ | ⟨_, e⟩ | ⟨_, e⟩ | ⟨_, _, _, e⟩ | ⟨_, e⟩ | ⟨_, _, e⟩ | ⟨_, e⟩ | ⟨_, e⟩ <;> rw [e] <;> decide

/-- A piece of what begins with a byte below 128 has one byte. -/
theorem pieceLen_low (s : ByteArray) (p c : Nat) : pieceLen s p (if c < 128 then 0 else (rowOf c).1) (rowOf c).2.1 (rowOf c).2.2 = pieceLen s p (rowOf c).1 (rowOf c).2.1 (rowOf c).2.2 := by
  by_cases h : c < 128
  · rw [if_pos h]
    simp [rowOf, h, pieceLen]
  · rw [if_neg h]

set_option maxHeartbeats 2000000 in
theorem wide_piece (s : ByteArray) (h0 : 0 < s.size) (hs : s.size ≤ 9223372036854775807) (w : World) :
    Calls Try.prog 103 #[.string s] w fun e w' => e = .returned (.int .i64 (pieceLen s 0 (rowOf (byteAt s 0)).1 (rowOf (byteAt s 0)).2.1 (rowOf (byteAt s 0)).2.2 : Int)) ∧ w = w' := by
  have hb := byteAt_get s 0 h0
  obtain ⟨c, hc⟩ : ∃ c, c = byteAt s 0 := ⟨_, rfl⟩
  rw [← hc] at hb ⊢
  have e1 := pieceLen_low s 0 c
  have m4 : (if c < 128 then 0 else (rowOf c).1) ≤ 4 := by split; omega; exact rowOf_le c
  obtain ⟨m, hm⟩ : ∃ m, m = (if c < 128 then 0 else (rowOf c).1) := ⟨_, rfl⟩
  obtain ⟨lo, hlo⟩ : ∃ lo, lo = (rowOf c).2.1 := ⟨_, rfl⟩
  obtain ⟨hi, hhi⟩ : ∃ hi, hi = (rowOf c).2.2 := ⟨_, rfl⟩
  rw [← e1, ← hm, ← hlo, ← hhi]
  rw [← hm] at m4
  have em : (if c < 128 then (0 : Int) else ((rowOf c).1 : Int)) = (m : Int) := by rw [hm]; split <;> simp
  have HE := Lib.hid (And.intro em (And.intro hlo hhi))
  have HC := Lib.hid hc
  have hpl := pieceLen_bnd s 0 m lo hi
  have HL := Lib.hid hpl.2.1
  have hst := pieceLen_step s 0 m lo hi
  have HST := Lib.hid hst
  have hp1 := hpl.1
  clear em hlo hhi hm e1 hc hpl hst
  obtain ⟨P, hP⟩ : ∃ P, P = pieceLen s 0 m lo hi := ⟨_, rfl⟩
  rw [← hP] at HST HL hp1 ⊢
  clear hP
  obtain ⟨N, hN⟩ : ∃ N, N = s.size := ⟨_, rfl⟩
  have HN := Lib.hid hN
  clear hN
  go_enter Try.func103, Try.ntmps103
  go_wp2_with (go_at_call 110; refine (wide_second c _).mono ?_; rw [HE.out.1, ← HE.out.2.1, ← HE.out.2.2]; rintro e w2 ⟨rfl, rfl⟩)
  go_loopw [3, 4, 6] (fun a b v wr => ∃ k lo' hi' : Nat, a = .int .u8 (lo' : Nat) ∧ b = .int .u8 (hi' : Nat) ∧ v = .int .i64 (k : Nat) ∧ 1 ≤ k ∧ k ≤ P ∧ ((k = 1 ∧ lo' = lo ∧ hi' = hi) ∨ (1 < k ∧ lo' = 128 ∧ hi' = 191)) ∧ wr = w) (fun _ _ v _ => P - (intOf v).toNat)
  case atStart => exact ⟨1, lo, hi, rfl, rfl, rfl, Nat.le_refl _, hp1, .inl ⟨rfl, rfl, rfl⟩, rfl⟩
  case round =>
    obtain ⟨k, lo', hi', rfl, rfl, rfl, hk1, hkP, hlh, rfl⟩ := hrel
    have HT := HST.out k m4 hk1 hkP
    rw [inPiece_eq hlh, Nat.zero_add] at HT
    have hk4 : k ≤ 4 := Nat.le_trans hkP HL.out
    have HLH := Lib.hid hlh
    clear hlh
    by_cases h1 : k < m
    · have p1 : (k : Int) < (m : Int) := by omega
      by_cases h2 : k < s.size
      · have p2 : (k : Int) < (s.size : Int) := by omega
        have hbk := byteAt_get s k h2
        obtain ⟨b, hbb⟩ : ∃ b, b = byteAt s k := ⟨_, rfl⟩
        simp only [within, ← hbb, h1, h2, decide_true, Bool.true_and, Bool.and_eq_true, decide_eq_true_eq] at HT
        rw [← hbb] at hbk
        by_cases h3 : lo' ≤ b
        · have p3 : (lo' : Int) ≤ (b : Int) := by omega
          by_cases h4 : b ≤ hi'
          · have p4 : (b : Int) ≤ (hi' : Int) := by omega
            have hlt := HT.1 ⟨h3, h4⟩
            clear HT h1 h3 h4 hbb
            go_wp2
            go_roundw
            case rel => exact ⟨k + 1, 128, 191, by first | rfl | trivial, by first | rfl | trivial, by go_num, by omega, hlt, .inr ⟨by omega, rfl, rfl⟩, by first | rfl | trivial⟩
            case measure => simp [intOf]; omega
          · have p4 : ¬ (b : Int) ≤ (hi' : Int) := by omega
            have hge : k = P := by
              have : ¬ k < P := fun h => h4 (HT.2 h).2
              omega
            subst hge
            clear HT h1 h3 h4 hbb
            go_wp2
            go_ret
            exact ⟨rfl, rfl⟩
        · have p3 : ¬ (lo' : Int) ≤ (b : Int) := by omega
          have hge : k = P := by
            have : ¬ k < P := fun h => h3 (HT.2 h).1
            omega
          subst hge
          clear HT h1 h3 hbb
          go_wp2
          go_ret
          exact ⟨rfl, rfl⟩
      · have p2 : ¬ (k : Int) < (s.size : Int) := by omega
        have hge : k = P := by
          have : ¬ k < P := fun h => by have := HT.2 h; simp [within, h2] at this
          omega
        subst hge
        clear HT h1 h2
        go_wp2
        go_ret
        exact ⟨rfl, rfl⟩
    · have p1 : ¬ (k : Int) < (m : Int) := by omega
      have hge : k = P := by
        have : ¬ k < P := fun h => by have := HT.2 h; simp [h1] at this
        omega
      subst hge
      clear HT h1
      go_wp2
      go_ret
      exact ⟨rfl, rfl⟩
end Go.Proofs.Ytelhnaphkbpakaa
