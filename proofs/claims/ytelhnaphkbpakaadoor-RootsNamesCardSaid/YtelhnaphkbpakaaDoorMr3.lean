/- Part 3 of the proof of RoP: lemmas. -/
import Derived.Test.YtelhnaphkbpakaaDoorMr2
namespace Go.Proofs.YtelhnaphkbpakaaDoor
open Go.RowKit
set_option linter.unusedVariables false
set_option maxRecDepth 100000
def inPiece (s : ByteArray) (p many lo hi k : Nat) : Bool := decide (k < many) && (if k = 1 then within s (p + 1) lo hi else within s (p + k) 128 191)
theorem pieceLen_step (s : ByteArray) (p many lo hi k : Nat) (hm : many ≤ 4) (h1 : 1 ≤ k) (hk : k ≤ pieceLen s p many lo hi) : (inPiece s p many lo hi k = true ↔ k < pieceLen s p many lo hi) := by
  have e1 : k = 1 ∨ k = 2 ∨ k = 3 ∨ k = 4 := by have := (pieceLen_bnd s p many lo hi).2.1; omega
  unfold inPiece
  unfold pieceLen at hk ⊢
  rcases e1 with rfl | rfl | rfl | rfl
  all_goals
    simp only [Bool.and_eq_true, decide_eq_true_eq]
    by_cases a1 : 1 < many ∧ within s (p + 1) lo hi = true
    all_goals by_cases a2 : 2 < many ∧ within s (p + 2) 128 191 = true
    all_goals by_cases a3 : 3 < many ∧ within s (p + 3) 128 191 = true
    all_goals simp only [a1, a2, a3, if_true, if_false, and_self] at hk ⊢
    all_goals first
      | omega
      | (simp; done)
      | (simp at *; omega)
theorem inPiece_eq {s : ByteArray} {p many lo hi k lo' hi' : Nat} (h : (k = 1 ∧ lo' = lo ∧ hi' = hi) ∨ (1 < k ∧ lo' = 128 ∧ hi' = 191)) : inPiece s p many lo hi k = (decide (k < many) && within s (p + k) lo' hi') := by
  unfold inPiece
  rcases h with ⟨rfl, rfl, rfl⟩ | ⟨h, rfl, rfl⟩
  · rw [if_pos rfl]
  · rw [if_neg (by omega)]
theorem rowOf_le (c : Nat) : (rowOf c).1 ≤ 4 := by
  rcases row_cases c with ⟨_, e⟩ | ⟨_, _, e⟩ | ⟨_, e⟩ | ⟨_, e⟩ | ⟨_, _, _, e⟩ | ⟨_, e⟩ | ⟨_, _, e⟩ | ⟨_, e⟩ | ⟨_, e⟩ <;> rw [e] <;> decide
theorem pieceLen_low (s : ByteArray) (p c : Nat) : pieceLen s p (if c < 128 then 0 else (rowOf c).1) (rowOf c).2.1 (rowOf c).2.2 = pieceLen s p (rowOf c).1 (rowOf c).2.1 (rowOf c).2.2 := by
  by_cases h : c < 128
  · rw [if_pos h]
    simp [rowOf, h, pieceLen]
  · rw [if_neg h]
set_option maxHeartbeats 2000000 in
theorem wide_piece (s : ByteArray) (h0 : 0 < s.size) (hs : s.size ≤ 9223372036854775807) (w : World) :
    Calls Tryd.prog 123 #[.string s] w fun e w' => e = .returned (.int .i64 (pieceLen s 0 (rowOf (byteAt s 0)).1 (rowOf (byteAt s 0)).2.1 (rowOf (byteAt s 0)).2.2 : Int)) ∧ w = w' := by
  have hb := byteAt_get s 0 h0
  obtain ⟨c, hc⟩ : ∃ c, c = byteAt s 0 := ⟨_, rfl⟩
  rw [← hc] at hb ⊢
  have e1 := pieceLen_low s 0 c
  have m4 : (if c < 128 then 0 else (rowOf c).1) ≤ 4 := by split; omega; exact rowOf_le c
  obtain ⟨m, hm⟩ : ∃ m, m = (if c < 128 then 0 else (rowOf c).1) := ⟨_, rfl⟩
  obtain ⟨lo, hlo⟩ : ∃ lo, lo = (rowOf c).2.1 := ⟨_, rfl⟩
  obtain ⟨hi, hhi⟩ : ∃ hi, hi = (rowOf c).2.2 := ⟨_, rfl⟩
  rw [← e1, ← hm, ← hlo, ← hhi]
  rw [← hm] at m4
  have em : (if c < 128 then (0 : Int) else ((rowOf c).1 : Int)) = (m : Int) := by rw [hm]; split <;> simp
  have HE := Lib.hid (And.intro em (And.intro hlo hhi))
  have HC := Lib.hid hc
  have hpl := pieceLen_bnd s 0 m lo hi
  have HL := Lib.hid hpl.2.1
  have hst := pieceLen_step s 0 m lo hi
  have HST := Lib.hid hst
  have hp1 := hpl.1
  clear em hlo hhi hm e1 hc hpl hst
  obtain ⟨P, hP⟩ : ∃ P, P = pieceLen s 0 m lo hi := ⟨_, rfl⟩
  rw [← hP] at HST HL hp1 ⊢
  clear hP
  obtain ⟨N, hN⟩ : ∃ N, N = s.size := ⟨_, rfl⟩
  have HN := Lib.hid hN
  clear hN
  go_enter Tryd.func123, Tryd.ntmps123
  go_wp2_with (go_at_call 125; refine (wide_second c _).mono ?_; rw [HE.out.1, ← HE.out.2.1, ← HE.out.2.2]; rintro e w2 ⟨rfl, rfl⟩)
  go_loopw [3, 4, 6] (fun a b v wr => ∃ k lo' hi' : Nat, a = .int .u8 (lo' : Nat) ∧ b = .int .u8 (hi' : Nat) ∧ v = .int .i64 (k : Nat) ∧ 1 ≤ k ∧ k ≤ P ∧ ((k = 1 ∧ lo' = lo ∧ hi' = hi) ∨ (1 < k ∧ lo' = 128 ∧ hi' = 191)) ∧ wr = w) (fun _ _ v _ => P - (intOf v).toNat)
  case atStart => exact ⟨1, lo, hi, rfl, rfl, rfl, Nat.le_refl _, hp1, .inl ⟨rfl, rfl, rfl⟩, rfl⟩
  case round =>
    obtain ⟨k, lo', hi', rfl, rfl, rfl, hk1, hkP, hlh, rfl⟩ := hrel
    have HT := HST.out k m4 hk1 hkP
    rw [inPiece_eq hlh, Nat.zero_add] at HT
    have hk4 : k ≤ 4 := Nat.le_trans hkP HL.out
    have HLH := Lib.hid hlh
    clear hlh
    by_cases h1 : k < m
    · have p1 : (k : Int) < (m : Int) := by omega
      by_cases h2 : k < s.size
      · have p2 : (k : Int) < (s.size : Int) := by omega
        have hbk := byteAt_get s k h2
        obtain ⟨b, hbb⟩ : ∃ b, b = byteAt s k := ⟨_, rfl⟩
        simp only [within, ← hbb, h1, h2, decide_true, Bool.true_and, Bool.and_eq_true, decide_eq_true_eq] at HT
        rw [← hbb] at hbk
        by_cases h3 : lo' ≤ b
        · have p3 : (lo' : Int) ≤ (b : Int) := by omega
          by_cases h4 : b ≤ hi'
          · have p4 : (b : Int) ≤ (hi' : Int) := by omega
            have hlt := HT.1 ⟨h3, h4⟩
            clear HT h1 h3 h4 hbb
            go_wp2
            go_roundw
            case rel => exact ⟨k + 1, 128, 191, by first | rfl | trivial, by first | rfl | trivial, by go_num, by omega, hlt, .inr ⟨by omega, rfl, rfl⟩, by first | rfl | trivial⟩
            case measure => simp [intOf]; omega
          · have p4 : ¬ (b : Int) ≤ (hi' : Int) := by omega
            have hge : k = P := by
              have : ¬ k < P := fun h => h4 (HT.2 h).2
              omega
            subst hge
            clear HT h1 h3 h4 hbb
            go_wp2
            go_ret
            exact ⟨rfl, rfl⟩
        · have p3 : ¬ (lo' : Int) ≤ (b : Int) := by omega
          have hge : k = P := by
            have : ¬ k < P := fun h => h3 (HT.2 h).1
            omega
          subst hge
          clear HT h1 h3 hbb
          go_wp2
          go_ret
          exact ⟨rfl, rfl⟩
      · have p2 : ¬ (k : Int) < (s.size : Int) := by omega
        have hge : k = P := by
          have : ¬ k < P := fun h => by have := HT.2 h; simp [within, h2] at this
          omega
        subst hge
        clear HT h1 h2
        go_wp2
        go_ret
        exact ⟨rfl, rfl⟩
    · have p1 : ¬ (k : Int) < (m : Int) := by omega
      have hge : k = P := by
        have : ¬ k < P := fun h => by have := HT.2 h; simp [h1] at this
        omega
      subst hge
      clear HT h1
      go_wp2
      go_ret
      exact ⟨rfl, rfl⟩
end Go.Proofs.YtelhnaphkbpakaaDoor
namespace Go.Proofs.YtelhnaphkbpakaaDoor
open Go.RowKit
set_option linter.unusedVariables false
theorem pieceLen_size (s : ByteArray) (p many lo hi : Nat) (h : p < s.size) : p + pieceLen s p many lo hi ≤ s.size := by
  unfold pieceLen
  simp only [within_iff]
  split
  · split
    · split <;> omega
    · omega
  · omega
theorem pieceLen_cont (s : ByteArray) (p many lo hi : Nat) (hlo : 128 ≤ lo) (hhi : hi ≤ 191) : ∀ j, p < j → j < p + pieceLen s p many lo hi → 128 ≤ byteAt s j ∧ byteAt s j ≤ 191 := by
  intro j hj1 hj2
  have h4 := (pieceLen_bnd s p many lo hi).2.1
  have hj : j = p + 1 ∨ j = p + 2 ∨ j = p + 3 := by omega
  unfold pieceLen at hj2
  simp only [within_iff] at hj2
  split at hj2
  · rename_i h1
    split at hj2
    · rename_i h2
      split at hj2
      · rename_i h3
        rcases hj with rfl | rfl | rfl <;> omega
      · rcases hj with rfl | rfl | rfl <;> omega
    · rcases hj with rfl | rfl | rfl <;> omega
  · omega
theorem pcAt_p (s : ByteArray) (p : Nat) : (pcAt s p).p = p := by
  unfold pcAt
  simp only
  split
  · rfl
  · split <;> rfl
theorem pcAt_n (s : ByteArray) (p : Nat) : (pcAt s p).n = pieceLen s p (rowOf (byteAt s p)).1 (rowOf (byteAt s p)).2.1 (rowOf (byteAt s p)).2.2 := by
  have h := pieceLen_bnd s p (rowOf (byteAt s p)).1 (rowOf (byteAt s p)).2.1 (rowOf (byteAt s p)).2.2
  unfold pcAt
  simp only
  split
  · rename_i h0
    rw [h0]
    simp [pieceLen]
  · split
    · rfl
    · simp only
      omega
theorem pcAt_n_bnd (s : ByteArray) (p : Nat) : 1 ≤ (pcAt s p).n ∧ (pcAt s p).n ≤ 4 := by
  have h := pieceLen_bnd s p (rowOf (byteAt s p)).1 (rowOf (byteAt s p)).2.1 (rowOf (byteAt s p)).2.2
  rw [pcAt_n]; omega
theorem pcAt_size (s : ByteArray) (p : Nat) (h : p < s.size) : p + (pcAt s p).n ≤ s.size := by rw [pcAt_n]; exact pieceLen_size s p _ _ _ h
theorem pcAt_bad (s : ByteArray) (p : Nat) (hk : (pcAt s p).ok = false) : (pcAt s p).c = 65533 ∧ (pcAt s p).n ≤ 3 ∧ ¬ (byteAt s p = 239 ∧ p + 2 < s.size ∧ byteAt s (p + 1) = 191 ∧ byteAt s (p + 2) = 189) ∧
    (∀ j, p < j → j < p + (pcAt s p).n → 128 ≤ byteAt s j ∧ byteAt s j ≤ 191) := by
  refine ⟨?_, ?_, ?_, ?_⟩
  · unfold pcAt at hk ⊢
    simp only at hk ⊢
    split at hk
    · rename_i h; rw [if_pos h]
    · rename_i h
      rw [if_neg h]
      split at hk
      · rename_i h'; rw [if_pos h']
      · cases hk
  · unfold pcAt at hk ⊢
    simp only at hk ⊢
    split at hk
    · rename_i h; rw [if_pos h]; simp
    · rename_i h
      rw [if_neg h]
      split at hk
      · rename_i h'
        rw [if_pos h']
        have : (rowOf (byteAt s p)).1 ≤ 4 := by
          rcases row_cases (byteAt s p) with ⟨_, e⟩ | ⟨_, _, e⟩ | ⟨_, e⟩ | ⟨_, e⟩ | ⟨_, _, _, e⟩ | ⟨_, e⟩ | ⟨_, _, e⟩ | ⟨_, e⟩ | ⟨_, e⟩ <;> rw [e] <;> decide
        simp only
        omega
      · cases hk
  · rintro ⟨h1, h2, h3, h4⟩
    unfold pcAt at hk
    rw [h1] at hk
    have hp : p + 1 < s.size := by omega
    have e : pieceLen s p 3 128 191 = 3 := by simp [pieceLen, within, h2, h3, h4, hp]
    have r : rowOf 239 = (3, 128, 191) := rfl
    rw [r] at hk
    simp [e] at hk
  · intro j h1 h2
    rw [pcAt_n] at h2
    rcases row_cases (byteAt s p) with ⟨_, e⟩ | ⟨_, _, e⟩ | ⟨_, e⟩ | ⟨_, e⟩ | ⟨_, _, _, e⟩ | ⟨_, e⟩ | ⟨_, _, e⟩ | ⟨_, e⟩ | ⟨_, e⟩
    all_goals rw [e] at h2
    · simp [pieceLen] at h2; omega
    all_goals first
      | exact pieceLen_cont s p _ _ _ (by decide) (by decide) j h1 h2
      | (simp [pieceLen] at h2; omega)
theorem pieceLen_two (s : ByteArray) (p many lo hi : Nat) (h : 2 ≤ pieceLen s p many lo hi) : p + 1 < s.size ∧ lo ≤ byteAt s (p + 1) ∧ byteAt s (p + 1) ≤ hi := by
  unfold pieceLen at h
  simp only [within_iff] at h
  split at h
  · rename_i h1; exact h1.2
  · omega
theorem pieceLen_three (s : ByteArray) (p many lo hi : Nat) (h : 3 ≤ pieceLen s p many lo hi) : p + 2 < s.size ∧ 128 ≤ byteAt s (p + 2) ∧ byteAt s (p + 2) ≤ 191 := by
  unfold pieceLen at h
  simp only [within_iff] at h
  split at h
  · split at h
    · rename_i h1; exact h1.2
    · omega
  · omega
theorem pieceLen_four (s : ByteArray) (p many lo hi : Nat) (h : 4 ≤ pieceLen s p many lo hi) : p + 3 < s.size ∧ 128 ≤ byteAt s (p + 3) ∧ byteAt s (p + 3) ≤ 191 := by
  unfold pieceLen at h
  simp only [within_iff] at h
  split at h
  · split at h
    · split at h
      · rename_i h1; exact h1.2
      · omega
    · omega
  · omega
def RightPoint (s : ByteArray) (p c n : Nat) : Prop := (c < 55296 ∨ (57343 < c ∧ c ≤ 1114111)) ∧ n = (if c < 128 then 1 else if c < 2048 then 2 else if c < 65536 then 3 else 4) ∧
    (c = 65533 → byteAt s p = 239 ∧ p + 2 < s.size ∧ byteAt s (p + 1) = 191 ∧ byteAt s (p + 2) = 189)
theorem right_one (s : ByteArray) (p : Nat) (h : byteAt s p < 128) : RightPoint s p (pointOf s p 1) 1 := by
  refine ⟨by simp only [pointOf]; omega, by simp only [pointOf]; rw [if_pos h], fun e => by simp only [pointOf] at e; omega⟩
theorem right_two (s : ByteArray) (p : Nat) (h1 : 194 ≤ byteAt s p) (h2 : byteAt s p ≤ 223) (h3 : 128 ≤ byteAt s (p + 1)) (h4 : byteAt s (p + 1) ≤ 191) : RightPoint s p (pointOf s p 2) 2 := by
  obtain ⟨c, hc⟩ : ∃ c, c = pointOf s p 2 := ⟨_, rfl⟩
  rw [← hc]
  simp only [pointOf] at hc
  have a : 128 ≤ c ∧ c < 2048 := by omega
  exact ⟨by omega, by rw [if_neg (by omega), if_pos a.2], fun e => by omega⟩
theorem right_three (s : ByteArray) (p : Nat) (h1 : 224 ≤ byteAt s p) (h2 : byteAt s p ≤ 239) (h3 : 128 ≤ byteAt s (p + 1)) (h4 : byteAt s (p + 1) ≤ 191) (h5 : 128 ≤ byteAt s (p + 2)) (h6 : byteAt s (p + 2) ≤ 191) (h7 : byteAt s p = 224 → 160 ≤ byteAt s (p + 1)) (h8 : byteAt s p = 237 → byteAt s (p + 1) ≤ 159) (h9 : p + 2 < s.size) : RightPoint s p (pointOf s p 3) 3 := by
  obtain ⟨c, hc⟩ : ∃ c, c = pointOf s p 3 := ⟨_, rfl⟩
  rw [← hc]
  simp only [pointOf] at hc
  have a : 2048 ≤ c ∧ c < 65536 := by omega
  exact ⟨by omega, by rw [if_neg (by omega), if_neg (by omega), if_pos a.2], fun e => by omega⟩
theorem right_four (s : ByteArray) (p : Nat) (h1 : 240 ≤ byteAt s p) (h2 : byteAt s p ≤ 244) (h3 : 128 ≤ byteAt s (p + 1)) (h4 : byteAt s (p + 1) ≤ 191) (h5 : 128 ≤ byteAt s (p + 2)) (h6 : byteAt s (p + 2) ≤ 191) (h5 : 128 ≤ byteAt s (p + 3)) (h6 : byteAt s (p + 3) ≤ 191) (h7 : byteAt s p = 240 → 144 ≤ byteAt s (p + 1)) (h8 : byteAt s p = 244 → byteAt s (p + 1) ≤ 143) : RightPoint s p (pointOf s p 4) 4 := by
  obtain ⟨c, hc⟩ : ∃ c, c = pointOf s p 4 := ⟨_, rfl⟩
  rw [← hc]
  simp only [pointOf] at hc
  have a : 65536 ≤ c ∧ c ≤ 1114111 := by omega
  exact ⟨by omega, by rw [if_neg (by omega), if_neg (by omega), if_neg (by omega)], fun e => by omega⟩
theorem pcAt_good (s : ByteArray) (p : Nat) (hk : (pcAt s p).ok = true) : RightPoint s p (pcAt s p).c (pcAt s p).n := by
  unfold pcAt at hk ⊢
  simp only at hk ⊢
  split at hk
  · cases hk
  rename_i h0
  rw [if_neg h0]
  split at hk
  · cases hk
  rename_i h1
  rw [if_neg h1]
  simp only
  have t2 := pieceLen_two s p (rowOf (byteAt s p)).1 (rowOf (byteAt s p)).2.1 (rowOf (byteAt s p)).2.2
  have t3 := pieceLen_three s p (rowOf (byteAt s p)).1 (rowOf (byteAt s p)).2.1 (rowOf (byteAt s p)).2.2
  have t4 := pieceLen_four s p (rowOf (byteAt s p)).1 (rowOf (byteAt s p)).2.1 (rowOf (byteAt s p)).2.2
  rcases row_cases (byteAt s p) with ⟨q, r⟩ | ⟨q, q', r⟩ | ⟨q, r⟩ | ⟨q, r⟩ | ⟨q, q', q'', r⟩ | ⟨q, r⟩ | ⟨q, q', r⟩ | ⟨q, r⟩ | ⟨q, r⟩
  all_goals rw [r] at h0 h1 t2 t3 t4 ⊢
  all_goals simp only at h0 h1 t2 t3 t4 ⊢
  · exact right_one s p q
  · have a := t2 (by omega)
    exact right_two s p (by omega) (by omega) (by omega) (by omega)
  · have a := t2 (by omega)
    have b := t3 (by omega)
    exact right_three s p (by omega) (by omega) (by omega) (by omega) (by omega) (by omega) (by omega) (by omega) (by omega)
  · have a := t2 (by omega)
    have b := t3 (by omega)
    exact right_three s p (by omega) (by omega) (by omega) (by omega) (by omega) (by omega) (by omega) (by omega) (by omega)
  · have a := t2 (by omega)
    have b := t3 (by omega)
    exact right_three s p (by omega) (by omega) (by omega) (by omega) (by omega) (by omega) (by omega) (by omega) (by omega)
  · have a := t2 (by omega)
    have b := t3 (by omega)
    have d := t4 (by omega)
    exact right_four s p (by omega) (by omega) (by omega) (by omega) (by omega) (by omega) (by omega) (by omega) (by omega) (by omega)
  · have a := t2 (by omega)
    have b := t3 (by omega)
    have d := t4 (by omega)
    exact right_four s p (by omega) (by omega) (by omega) (by omega) (by omega) (by omega) (by omega) (by omega) (by omega) (by omega)
  · have a := t2 (by omega)
    have b := t3 (by omega)
    have d := t4 (by omega)
    exact right_four s p (by omega) (by omega) (by omega) (by omega) (by omega) (by omega) (by omega) (by omega) (by omega) (by omega)
  · exact absurd trivial h0
theorem pcAt_cont (s : ByteArray) (p : Nat) (h1 : 128 ≤ byteAt s p) (h2 : byteAt s p ≤ 191) : pcAt s p = ⟨p, 1, false, 65533⟩ := by
  have r : rowOf (byteAt s p) = (0, 0, 0) := by
    rcases row_cases (byteAt s p) with ⟨q, r⟩ | ⟨q, q', r⟩ | ⟨q, r⟩ | ⟨q, r⟩ | ⟨q, q', q'', r⟩ | ⟨q, r⟩ | ⟨q, q', r⟩ | ⟨q, r⟩ | ⟨q, r⟩
    all_goals first | exact r | omega
  unfold pcAt
  simp [r]
def pcsFrom (s : ByteArray) (p : Nat) : List Pc := if h : p < s.size then pcAt s p :: pcsFrom s (p + (pcAt s p).n) else []
termination_by s.size - p
decreasing_by have := (pcAt_n_bnd s p).1; omega
def pcs (s : ByteArray) : List Pc := pcsFrom s 0
theorem pcsFrom_step (s : ByteArray) (p : Nat) (h : p < s.size) : pcsFrom s p = pcAt s p :: pcsFrom s (p + (pcAt s p).n) := by rw [pcsFrom, dif_pos h]
theorem pcsFrom_end (s : ByteArray) (p : Nat) (h : ¬ p < s.size) : pcsFrom s p = [] := by rw [pcsFrom, dif_neg h]
end Go.Proofs.YtelhnaphkbpakaaDoor
