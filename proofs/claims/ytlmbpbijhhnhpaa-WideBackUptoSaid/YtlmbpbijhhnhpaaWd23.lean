/- The document's piece. -/
import Derived.Test.YtlmbpbijhhnhpaaWd11
import Derived.Test.YtlmbpbijhhnhpaaWd10
import Derived.Test.YtlmbpbijhhnhpaaWd13
namespace Go.Proofs.Ytlmbpbijhhnhpaa
open Go.RowKit
set_option linter.unusedVariables false
set_option maxRecDepth 100000

/-- A sequence's first byte's part of the code point. -/
def leadOf (b many : Nat) : Nat := if many = 2 then b % 32 else if many = 3 then b % 16 else if many = 4 then b % 8 else b
/-- The code point so far, i bytes read. -/
def accOf (s : ByteArray) (p many : Nat) : Nat → Nat
  | 0 => leadOf (byteAt s p) many
  | i + 1 => accOf s p many i * 64 + byteAt s (p + (i + 1)) % 64
theorem leadOf_lt (b many : Nat) (h : many = 1 → b < 128) (hm : 1 ≤ many ∧ many ≤ 4) : leadOf b many < 128 := by
  have e : many = 1 ∨ many = 2 ∨ many = 3 ∨ many = 4 := by omega
  rcases e with rfl | rfl | rfl | rfl <;> simp [leadOf] <;> omega
theorem acc_lt (s : ByteArray) (p many : Nat) (h : leadOf (byteAt s p) many < 128) (i : Nat) (hi : i ≤ 3) : accOf s p many i < 33554432 ∧ (i ≤ 2 → accOf s p many i < 524288) := by
  have e : i = 0 ∨ i = 1 ∨ i = 2 ∨ i = 3 := by omega
  rcases e with rfl | rfl | rfl | rfl <;> simp only [accOf] <;> omega
theorem acc_point (s : ByteArray) (p many : Nat) (hm : 1 ≤ many ∧ many ≤ 4) : accOf s p many (many - 1) = pointOf s p many := by
  have e : many = 1 ∨ many = 2 ∨ many = 3 ∨ many = 4 := by omega
  rcases e with rfl | rfl | rfl | rfl
  · rfl
  · rfl
  · simp only [accOf, pointOf, leadOf]
    simp
    omega
  · simp only [accOf, pointOf, leadOf]
    simp
    omega

theorem i32_and63' {x : Int} (h₀ : 0 ≤ x) (h₁ : x < 2147483648) : bits .and .i32 x 63 = x % 64 := bits_mask .i32 31 (by decide) wraps_i32 6 (by decide) x h₀ h₁
theorem i32_or64 {x y : Int} (h0 : 0 ≤ x) (h1 : x < 33554432) (h2 : 0 ≤ y) (h3 : y < 64) : bits .or .i32 (x * 64) y = x * 64 + y := bits_join .i32 31 (by decide) wraps_i32 6 (x * 64) y (by omega) (by simp) (by simp; omega) h2 (by simpa using h3) (by omega)
theorem i32_and127 {x : Int} (m : Nat) (hm : m = 5 ∨ m = 4 ∨ m = 3) (h₀ : 0 ≤ x) (h₁ : x < 2147483648) : bits .and .i32 x (2 ^ m - 1) = x % 2 ^ m := bits_mask .i32 31 (by decide) wraps_i32 m (by omega) x h₀ h₁

def pcVal (x : Pc) : Value := .agg #[.int .i64 (x.p : Int), .int .i64 (x.n : Int), .bool x.ok, .int .i32 (x.c : Int)]

set_option maxHeartbeats 4000000 in
theorem ref_piece (s : ByteArray) (p : Nat) (h : p < s.size) (hs : s.size ≤ 9223372036854775800) (w : World) :
    Calls Try.prog 75 #[.string s, .int .i64 (p : Int)] w fun e w' => e = .returned (pcVal (pcAt s p)) ∧ Below w.heap.size w w' := by
  have hb := byteAt_get s p h
  have p1 : (p : Int) < (s.size : Int) := by omega
  obtain ⟨c, hc⟩ : ∃ c, c = byteAt s p := ⟨_, rfl⟩
  have hc255 := byteAt_le s p
  have hrow := ref_row c
  have m4 := rowOf_le c
  have hlow : (rowOf c).1 = 1 → c < 128 := by
    rcases row_cases c with ⟨h, e⟩ | ⟨_, _, e⟩ | ⟨_, e⟩ | ⟨_, e⟩ | ⟨_, _, _, e⟩ | ⟨_, e⟩ | ⟨_, _, e⟩ | ⟨_, e⟩ | ⟨_, e⟩ <;> rw [e] <;> simp
    exact h
  have hpc : pcAt s p = if (rowOf c).1 = 0 then ⟨p, 1, false, 65533⟩ else if pieceLen s p (rowOf c).1 (rowOf c).2.1 (rowOf c).2.2 < (rowOf c).1 then ⟨p, pieceLen s p (rowOf c).1 (rowOf c).2.1 (rowOf c).2.2, false, 65533⟩ else ⟨p, (rowOf c).1, true, pointOf s p (rowOf c).1⟩ := by rw [hc]; rfl
  obtain ⟨m, hm⟩ : ∃ m, m = (rowOf c).1 := ⟨_, rfl⟩
  obtain ⟨lo, hlo⟩ : ∃ lo, lo = (rowOf c).2.1 := ⟨_, rfl⟩
  obtain ⟨hi, hhi⟩ : ∃ hi, hi = (rowOf c).2.2 := ⟨_, rfl⟩
  rw [← hm, ← hlo, ← hhi] at hpc
  rw [← hm] at m4 hlow
  have hrow' : ∀ w, Calls Try.prog 72 #[.int .u8 (c : Int)] w fun e w' => e = .returned (.tuple #[.int .i64 (m : Int), .int .u8 (lo : Int), .int .u8 (hi : Int)]) ∧ w = w' := by rw [hm, hlo, hhi]; exact hrow
  rw [← hc] at hb hc255
  have HROW := Lib.hid hrow'
  have HC := Lib.hid hc
  have HPC := Lib.hid hpc
  clear hrow hrow' hm hlo hhi hc hpc
  by_cases hm0 : m = 0
  · subst hm0
    have e : pcAt s p = ⟨p, 1, false, 65533⟩ := by rw [HPC.out]; simp
    have HE := Lib.hid e
    clear e hlow
    go_enter Try.func75, Try.ntmps75
    go_wp2_with (go_at_call 72; refine (HROW.out _).mono ?_; rintro e w2 ⟨rfl, rfl⟩)
    refine bodyPost_ret (v := .agg #[.int .i64 (p : Int), .int .i64 1, .bool false, .int .i32 65533]) (by simp [results, Try.results75, go_sem]) rfl ⟨by rw [HE.out]; rfl, (by repeat (first | exact Below.refl _ _ | assumption | refine Below.drew ?_ | refine below_drewN ?_ _ | refine Below.alloc ?_ (by simp <;> omega) _ | refine Below.setCell ?_ (by simp <;> omega) _ | (apply bl_trans; assumption; (simp <;> omega))))⟩
  · have q0 : ((m : Int) == 0) = false := by simp [hm0]
    have hpl := pieceLen_bnd s p m lo hi
    have hp1 := hpl.1
    have hPm := hpl.2.2 (by omega)
    have hsz := pieceLen_size s p m lo hi h
    have HST := Lib.hid (pieceLen_step s p m lo hi)
    have hpt := acc_point s p m ⟨by omega, m4⟩
    obtain ⟨PL, hP⟩ : ∃ PL, PL = pieceLen s p m lo hi := ⟨_, rfl⟩
    rw [← hP] at HST hp1 hPm hsz HPC
    have HPT := Lib.hid hpt
    have hlead := leadOf_lt (byteAt s p) m (by rw [← HC.out]; exact hlow) ⟨by omega, m4⟩
    have HLEAD := Lib.hid hlead
    clear hP hpl hlow hpt hlead
    go_enter Try.func75, Try.ntmps75
    go_wp2_with (go_at_call 72; refine (HROW.out _).mono ?_; rintro e w2 ⟨rfl, rfl⟩)
    go_loopw [7, 8, 9] (fun a b v wr => ∃ k lo' hi' : Nat, a = .int .u8 (lo' : Nat) ∧ b = .int .u8 (hi' : Nat) ∧ v = .int .i64 (k : Nat) ∧ 1 ≤ k ∧ k ≤ PL ∧ ((k = 1 ∧ lo' = lo ∧ hi' = hi) ∨ (1 < k ∧ lo' = 128 ∧ hi' = 191)) ∧ wr = w.alloc (.cells #[.int .i64 0, .int .i64 0, .bool false, .int .i32 0] 86)) (fun _ _ v _ => PL - (intOf v).toNat)
    case atStart => exact ⟨1, lo, hi, rfl, rfl, rfl, Nat.le_refl _, hp1, .inl ⟨rfl, rfl, rfl⟩, rfl⟩
    case round =>
      obtain ⟨k, lo', hi', rfl, rfl, rfl, hk1, hkP, hlh, rfl⟩ := hrel
      have HT := HST.out k m4 hk1 hkP
      rw [inPiece_eq hlh] at HT
      have hw := fun w => ref_within s (p + k) lo' hi' (by omega) w
      have ecast : ((p + k : Nat) : Int) = (p : Int) + (k : Int) := by omega
      rw [ecast] at hw
      have HW := Lib.hid hw
      have HTT := Lib.hid HT
      clear hw ecast HT hlh
      have q3 : (0 : Int) ≤ (p : Int) + (k : Int) := by omega
      have q4 : (p : Int) + (k : Int) ≤ 9223372036854775807 := by omega
      by_cases h1 : k < m
      · have p3 : (k : Int) < (m : Int) := by omega
        cases hwi : within s (p + k) lo' hi' with
        | true =>
          have hlt := HTT.out.1 (by rw [hwi]; simp [h1])
          rw [hwi] at HW
          have HWI := Lib.hid hwi
          clear hwi
          go_wp2_with (go_at_call 87; refine (HW.out _).mono ?_; rintro e w2 ⟨rfl, rfl⟩)
          go_roundw
          case rel => exact ⟨k + 1, 128, 191, by first | rfl | trivial, by first | rfl | trivial, by go_num, by omega, hlt, .inr ⟨by omega, rfl, rfl⟩, by first | rfl | trivial⟩
          case measure => simp [intOf]; omega
        | false =>
          have hge : k = PL := by
            have : ¬ k < PL := fun h => by have := HTT.out.2 h; rw [hwi] at this; simp at this
            omega
          have e : pcAt s p = ⟨p, k, false, 65533⟩ := by rw [HPC.out, if_neg hm0, if_pos (by omega), ← hge]
          have HE := Lib.hid e
          rw [hwi] at HW
          clear hwi e hge
          go_wp2_with (go_at_call 87; refine (HW.out _).mono ?_; rintro e w2 ⟨rfl, rfl⟩)
          refine bodyPost_ret (v := .agg #[.int .i64 (p : Int), .int .i64 (k : Int), .bool false, .int .i32 65533]) (by simp [results, Try.results75, go_sem]) rfl ⟨by rw [HE.out]; rfl, (by repeat (first | exact Below.refl _ _ | assumption | refine Below.drew ?_ | refine below_drewN ?_ _ | refine Below.alloc ?_ (by simp <;> omega) _ | refine Below.setCell ?_ (by simp <;> omega) _ | (apply bl_trans; assumption; (simp <;> omega))))⟩
      · have p3 : ¬ (k : Int) < (m : Int) := by omega
        obtain rfl : k = m := by omega
        have e : pcAt s p = ⟨p, k, true, pointOf s p k⟩ := by rw [HPC.out, if_neg hm0, if_neg (by omega)]
        have HE := Lib.hid e
        clear e
        have hk4 : k = 1 ∨ k = 2 ∨ k = 3 ∨ k = 4 := by omega
        clear h1 p3
        rcases hk4 with rfl | rfl | rfl | rfl
        · have ha0 : accOf s p 1 0 = c := by simp [accOf, leadOf, ← HC.out]
          have HA0 := Lib.hid ha0
          clear ha0 HST HTT
          go_wp2_with fail
          go_loopw [10, 11] (fun v10 v11 wr => ∃ i : Nat, v10 = .int .i32 (accOf s p 1 i : Nat) ∧ v11 = .int .i64 ((i : Int) + 1) ∧ i ≤ 0 ∧ wr = w.alloc (.cells #[.int .i64 0, .int .i64 0, .bool false, .int .i32 0] 86)) (fun _ v _ => 1 - (intOf v).toNat)
          case atStart => exact ⟨0, by first | (rw [HA0.out]; done) | (rw [HA0.out]; rfl) | (rw [HA0.out]; simp), by simp, Nat.zero_le _, rfl⟩
          case round =>
            obtain ⟨i, rfl, rfl, hi, rfl⟩ := hrel
            by_cases hlt : i < 0
            · have p5 : (i : Int) + 1 < 1 := by omega
              have hA := acc_lt s p 1 HLEAD.out i (by omega)
              have hA2 := hA.2 (by omega)
              have hstep : accOf s p 1 (i + 1) = accOf s p 1 i * 64 + byteAt s (p + (i + 1)) % 64 := rfl
              have hpi : p + (i + 1) < s.size := by omega
              have hbi := byteAt_get s (p + (i + 1)) hpi
              have hbl := byteAt_le s (p + (i + 1))
              obtain ⟨A, hAA⟩ : ∃ A, A = accOf s p 1 i := ⟨_, rfl⟩
              obtain ⟨B, hBB⟩ : ∃ B, B = byteAt s (p + (i + 1)) := ⟨_, rfl⟩
              rw [← hAA] at hA2 hstep ⊢
              rw [← hBB] at hbi hbl hstep
              have b1 : bits .and .i32 (B : Int) 63 = (B : Int) % 64 := i32_and63' (by omega) (by omega)
              have b2 : bits .or .i32 ((A : Int) * 64) ((B : Int) % 64) = (A : Int) * 64 + (B : Int) % 64 := i32_or64 (by omega) (by omega) (by omega) (by omega)
              have q5 : (0 : Int) ≤ (p : Int) + ((i : Int) + 1) := by omega
              have q6 : (p : Int) + ((i : Int) + 1) ≤ 9223372036854775807 := by omega
              have q7 : (p : Int) + ((i : Int) + 1) < (s.size : Int) := by omega
              have q8 : ((p : Int) + ((i : Int) + 1)).toNat = p + (i + 1) := by omega
              have HS := Lib.hid hstep
              clear hA hAA hBB hstep
              go_wp2
              go_roundw
              case rel => exact ⟨i + 1, by rw [HS.out]; go_num, by go_num, by omega, by first | rfl | trivial⟩
              case measure => simp [intOf]; omega
            · obtain rfl : i = 0 := by omega
              have p5 : ¬ ((0 : Int) + 1 < 1) := by omega
              have hfin := HPT.out
              have HF := Lib.hid hfin
              clear hfin hlt
              go_wp2
              refine bodyPost_ret (v := .agg #[.int .i64 (p : Int), .int .i64 1, .bool true, .int .i32 (pointOf s p 1 : Nat)]) (by simp [results, Try.results75, go_sem]; rw [← HF.out]) rfl ⟨by rw [HE.out]; rfl, (by repeat (first | exact Below.refl _ _ | assumption | refine Below.drew ?_ | refine below_drewN ?_ _ | refine Below.alloc ?_ (by simp <;> omega) _ | refine Below.setCell ?_ (by simp <;> omega) _ | (apply bl_trans; assumption; (simp <;> omega))))⟩
        · have ha0 : accOf s p 2 0 = c % 32 := by simp [accOf, leadOf, ← HC.out]
          have HA0 := Lib.hid ha0
          have bm : bits .and .i32 (c : Int) 31 = (c : Int) % 32 := i32_and127 5 (.inl rfl) (by omega) (by omega)
          clear ha0 HST HTT
          go_wp2_with fail
          go_loopw [10, 11] (fun v10 v11 wr => ∃ i : Nat, v10 = .int .i32 (accOf s p 2 i : Nat) ∧ v11 = .int .i64 ((i : Int) + 1) ∧ i ≤ 1 ∧ wr = w.alloc (.cells #[.int .i64 0, .int .i64 0, .bool false, .int .i32 0] 86)) (fun _ v _ => 2 - (intOf v).toNat)
          case atStart => exact ⟨0, by first | (rw [HA0.out]; done) | (rw [HA0.out]; rfl) | (rw [HA0.out]; simp), by simp, Nat.zero_le _, rfl⟩
          case round =>
            obtain ⟨i, rfl, rfl, hi, rfl⟩ := hrel
            by_cases hlt : i < 1
            · have p5 : (i : Int) + 1 < 2 := by omega
              have hA := acc_lt s p 2 HLEAD.out i (by omega)
              have hA2 := hA.2 (by omega)
              have hstep : accOf s p 2 (i + 1) = accOf s p 2 i * 64 + byteAt s (p + (i + 1)) % 64 := rfl
              have hpi : p + (i + 1) < s.size := by omega
              have hbi := byteAt_get s (p + (i + 1)) hpi
              have hbl := byteAt_le s (p + (i + 1))
              obtain ⟨A, hAA⟩ : ∃ A, A = accOf s p 2 i := ⟨_, rfl⟩
              obtain ⟨B, hBB⟩ : ∃ B, B = byteAt s (p + (i + 1)) := ⟨_, rfl⟩
              rw [← hAA] at hA2 hstep ⊢
              rw [← hBB] at hbi hbl hstep
              have b1 : bits .and .i32 (B : Int) 63 = (B : Int) % 64 := i32_and63' (by omega) (by omega)
              have b2 : bits .or .i32 ((A : Int) * 64) ((B : Int) % 64) = (A : Int) * 64 + (B : Int) % 64 := i32_or64 (by omega) (by omega) (by omega) (by omega)
              have q5 : (0 : Int) ≤ (p : Int) + ((i : Int) + 1) := by omega
              have q6 : (p : Int) + ((i : Int) + 1) ≤ 9223372036854775807 := by omega
              have q7 : (p : Int) + ((i : Int) + 1) < (s.size : Int) := by omega
              have q8 : ((p : Int) + ((i : Int) + 1)).toNat = p + (i + 1) := by omega
              have HS := Lib.hid hstep
              clear hA hAA hBB hstep
              go_wp2
              go_roundw
              case rel => exact ⟨i + 1, by rw [HS.out]; go_num, by go_num, by omega, by first | rfl | trivial⟩
              case measure => simp [intOf]; omega
            · obtain rfl : i = 1 := by omega
              have p5 : ¬ ((1 : Int) + 1 < 2) := by omega
              have hfin := HPT.out
              have HF := Lib.hid hfin
              clear hfin hlt
              go_wp2
              refine bodyPost_ret (v := .agg #[.int .i64 (p : Int), .int .i64 2, .bool true, .int .i32 (pointOf s p 2 : Nat)]) (by simp [results, Try.results75, go_sem]; rw [← HF.out]) rfl ⟨by rw [HE.out]; rfl, (by repeat (first | exact Below.refl _ _ | assumption | refine Below.drew ?_ | refine below_drewN ?_ _ | refine Below.alloc ?_ (by simp <;> omega) _ | refine Below.setCell ?_ (by simp <;> omega) _ | (apply bl_trans; assumption; (simp <;> omega))))⟩
        · have ha0 : accOf s p 3 0 = c % 16 := by simp [accOf, leadOf, ← HC.out]
          have HA0 := Lib.hid ha0
          have bm : bits .and .i32 (c : Int) 15 = (c : Int) % 16 := i32_and127 4 (.inr (.inl rfl)) (by omega) (by omega)
          clear ha0 HST HTT
          go_wp2_with fail
          go_loopw [10, 11] (fun v10 v11 wr => ∃ i : Nat, v10 = .int .i32 (accOf s p 3 i : Nat) ∧ v11 = .int .i64 ((i : Int) + 1) ∧ i ≤ 2 ∧ wr = w.alloc (.cells #[.int .i64 0, .int .i64 0, .bool false, .int .i32 0] 86)) (fun _ v _ => 3 - (intOf v).toNat)
          case atStart => exact ⟨0, by first | (rw [HA0.out]; done) | (rw [HA0.out]; rfl) | (rw [HA0.out]; simp), by simp, Nat.zero_le _, rfl⟩
          case round =>
            obtain ⟨i, rfl, rfl, hi, rfl⟩ := hrel
            by_cases hlt : i < 2
            · have p5 : (i : Int) + 1 < 3 := by omega
              have hA := acc_lt s p 3 HLEAD.out i (by omega)
              have hA2 := hA.2 (by omega)
              have hstep : accOf s p 3 (i + 1) = accOf s p 3 i * 64 + byteAt s (p + (i + 1)) % 64 := rfl
              have hpi : p + (i + 1) < s.size := by omega
              have hbi := byteAt_get s (p + (i + 1)) hpi
              have hbl := byteAt_le s (p + (i + 1))
              obtain ⟨A, hAA⟩ : ∃ A, A = accOf s p 3 i := ⟨_, rfl⟩
              obtain ⟨B, hBB⟩ : ∃ B, B = byteAt s (p + (i + 1)) := ⟨_, rfl⟩
              rw [← hAA] at hA2 hstep ⊢
              rw [← hBB] at hbi hbl hstep
              have b1 : bits .and .i32 (B : Int) 63 = (B : Int) % 64 := i32_and63' (by omega) (by omega)
              have b2 : bits .or .i32 ((A : Int) * 64) ((B : Int) % 64) = (A : Int) * 64 + (B : Int) % 64 := i32_or64 (by omega) (by omega) (by omega) (by omega)
              have q5 : (0 : Int) ≤ (p : Int) + ((i : Int) + 1) := by omega
              have q6 : (p : Int) + ((i : Int) + 1) ≤ 9223372036854775807 := by omega
              have q7 : (p : Int) + ((i : Int) + 1) < (s.size : Int) := by omega
              have q8 : ((p : Int) + ((i : Int) + 1)).toNat = p + (i + 1) := by omega
              have HS := Lib.hid hstep
              clear hA hAA hBB hstep
              go_wp2
              go_roundw
              case rel => exact ⟨i + 1, by rw [HS.out]; go_num, by go_num, by omega, by first | rfl | trivial⟩
              case measure => simp [intOf]; omega
            · obtain rfl : i = 2 := by omega
              have p5 : ¬ ((2 : Int) + 1 < 3) := by omega
              have hfin := HPT.out
              have HF := Lib.hid hfin
              clear hfin hlt
              go_wp2
              refine bodyPost_ret (v := .agg #[.int .i64 (p : Int), .int .i64 3, .bool true, .int .i32 (pointOf s p 3 : Nat)]) (by simp [results, Try.results75, go_sem]; rw [← HF.out]) rfl ⟨by rw [HE.out]; rfl, (by repeat (first | exact Below.refl _ _ | assumption | refine Below.drew ?_ | refine below_drewN ?_ _ | refine Below.alloc ?_ (by simp <;> omega) _ | refine Below.setCell ?_ (by simp <;> omega) _ | (apply bl_trans; assumption; (simp <;> omega))))⟩
        · have ha0 : accOf s p 4 0 = c % 8 := by simp [accOf, leadOf, ← HC.out]
          have HA0 := Lib.hid ha0
          have bm : bits .and .i32 (c : Int) 7 = (c : Int) % 8 := i32_and127 3 (.inr (.inr rfl)) (by omega) (by omega)
          clear ha0 HST HTT
          go_wp2_with fail
          go_loopw [10, 11] (fun v10 v11 wr => ∃ i : Nat, v10 = .int .i32 (accOf s p 4 i : Nat) ∧ v11 = .int .i64 ((i : Int) + 1) ∧ i ≤ 3 ∧ wr = w.alloc (.cells #[.int .i64 0, .int .i64 0, .bool false, .int .i32 0] 86)) (fun _ v _ => 4 - (intOf v).toNat)
          case atStart => exact ⟨0, by first | (rw [HA0.out]; done) | (rw [HA0.out]; rfl) | (rw [HA0.out]; simp), by simp, Nat.zero_le _, rfl⟩
          case round =>
            obtain ⟨i, rfl, rfl, hi, rfl⟩ := hrel
            by_cases hlt : i < 3
            · have p5 : (i : Int) + 1 < 4 := by omega
              have hA := acc_lt s p 4 HLEAD.out i (by omega)
              have hA2 := hA.2 (by omega)
              have hstep : accOf s p 4 (i + 1) = accOf s p 4 i * 64 + byteAt s (p + (i + 1)) % 64 := rfl
              have hpi : p + (i + 1) < s.size := by omega
              have hbi := byteAt_get s (p + (i + 1)) hpi
              have hbl := byteAt_le s (p + (i + 1))
              obtain ⟨A, hAA⟩ : ∃ A, A = accOf s p 4 i := ⟨_, rfl⟩
              obtain ⟨B, hBB⟩ : ∃ B, B = byteAt s (p + (i + 1)) := ⟨_, rfl⟩
              rw [← hAA] at hA2 hstep ⊢
              rw [← hBB] at hbi hbl hstep
              have b1 : bits .and .i32 (B : Int) 63 = (B : Int) % 64 := i32_and63' (by omega) (by omega)
              have b2 : bits .or .i32 ((A : Int) * 64) ((B : Int) % 64) = (A : Int) * 64 + (B : Int) % 64 := i32_or64 (by omega) (by omega) (by omega) (by omega)
              have q5 : (0 : Int) ≤ (p : Int) + ((i : Int) + 1) := by omega
              have q6 : (p : Int) + ((i : Int) + 1) ≤ 9223372036854775807 := by omega
              have q7 : (p : Int) + ((i : Int) + 1) < (s.size : Int) := by omega
              have q8 : ((p : Int) + ((i : Int) + 1)).toNat = p + (i + 1) := by omega
              have HS := Lib.hid hstep
              clear hA hAA hBB hstep
              go_wp2
              go_roundw
              case rel => exact ⟨i + 1, by rw [HS.out]; go_num, by go_num, by omega, by first | rfl | trivial⟩
              case measure => simp [intOf]; omega
            · obtain rfl : i = 3 := by omega
              have p5 : ¬ ((3 : Int) + 1 < 4) := by omega
              have hfin := HPT.out
              have HF := Lib.hid hfin
              clear hfin hlt
              go_wp2
              refine bodyPost_ret (v := .agg #[.int .i64 (p : Int), .int .i64 4, .bool true, .int .i32 (pointOf s p 4 : Nat)]) (by simp [results, Try.results75, go_sem]; rw [← HF.out]) rfl ⟨by rw [HE.out]; rfl, (by repeat (first | exact Below.refl _ _ | assumption | refine Below.drew ?_ | refine below_drewN ?_ _ | refine Below.alloc ?_ (by simp <;> omega) _ | refine Below.setCell ?_ (by simp <;> omega) _ | (apply bl_trans; assumption; (simp <;> omega))))⟩
end Go.Proofs.Ytlmbpbijhhnhpaa
