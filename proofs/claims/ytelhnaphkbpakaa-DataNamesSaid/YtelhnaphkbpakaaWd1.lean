/- Units of 16 bits in memory, read; Compare, by both hands. -/
import Derived.Test.YtelhnaphkbpakaaGk
import Derived.Test.YtelhnaphkbpakaaProg
namespace Go.Proofs.Ytelhnaphkbpakaa
open Go.RowKit
set_option linter.unusedVariables false
set_option maxRecDepth 100000

/-- The value is a slice of these units, as they lie in memory; none: whatever its address. -/
structure Sl16 (w : World) (a : Option Addr) (us : List Nat) : Prop where
  at_ : ∀ (i u : Nat), us[i]? = some u → u ≤ 65535 ∧ ∃ b off, a = some ⟨b, off, none⟩ ∧ b < w.heap.size ∧ w.cell? ⟨b, off + i, none⟩ = some (.int .u16 (u : Int))
  len : us.length ≤ 9223372036854775807

theorem Sl16.below {w w' : World} {a : Option Addr} {us : List Nat} (h : Sl16 w a us) (hb : Below w.heap.size w w') : Sl16 w' a us :=
  ⟨fun i u hu => by
    obtain ⟨h1, b, off, h2, h3, h4⟩ := h.at_ i u hu
    exact ⟨h1, b, off, h2, Nat.lt_of_lt_of_le h3 hb.size, (hb.cell (p := ⟨b, off + i, none⟩) h3).trans h4⟩, h.len⟩
theorem Sl16.nil (w : World) (a : Option Addr) : Sl16 w a [] := ⟨fun i u hu => by simp at hu, by simp⟩

def cmp16 : List Nat → List Nat → Int
  | [], [] => 0
  | [], _ :: _ => -1
  | _ :: _, [] => 1
  | x :: xs, y :: ys => if x = y then cmp16 xs ys else if x < y then -1 else 1

theorem cmp16_drop {a b : List Nat} {i : Nat} (h : ∀ j, j < i → a[j]? = b[j]?) (ha : i ≤ a.length) (hb : i ≤ b.length) : cmp16 a b = cmp16 (a.drop i) (b.drop i) := by
  induction i generalizing a b with
  | zero => rfl
  | succ i ih =>
    cases a with
    | nil => simp at ha
    | cons x xs =>
      cases b with
      | nil => simp at hb
      | cons y ys =>
        have h0 := h 0 (by omega)
        simp at h0
        subst h0
        simp only [List.drop_succ_cons, List.length_cons] at *
        simp only [cmp16, if_true]
        exact ih (fun j hj => by have := h (j + 1) (by omega); simpa using this) (by omega) (by omega)
theorem drop_at {a : List Nat} {i u : Nat} (h : a[i]? = some u) : a.drop i = u :: a.drop (i + 1) := by
  obtain ⟨hi, rfl⟩ := List.getElem?_eq_some_iff.1 h
  exact List.drop_eq_getElem_cons hi
/-- Two differ at a place: that decides. -/
theorem cmp16_at {a b : List Nat} {i x y : Nat} (h : ∀ j, j < i → a[j]? = b[j]?) (hx : a[i]? = some x) (hy : b[i]? = some y) (hne : x ≠ y) : cmp16 a b = if x < y then -1 else 1 := by
  have h1 := (List.getElem?_eq_some_iff.1 hx).1
  have h2 := (List.getElem?_eq_some_iff.1 hy).1
  rw [cmp16_drop h (by omega) (by omega), drop_at hx, drop_at hy]
  simp only [cmp16, hne, if_false]
/-- One is at its end. -/
theorem cmp16_end {a b : List Nat} {i : Nat} (h : ∀ j, j < i → a[j]? = b[j]?) (ha : i ≤ a.length) (hb : i ≤ b.length) (he : i = a.length ∨ i = b.length) : cmp16 a b = if a.length < b.length then -1 else if b.length < a.length then 1 else 0 := by
  rw [cmp16_drop h ha hb]
  rcases he with rfl | rfl
  · rw [List.drop_length]
    by_cases h1 : a.length < b.length
    · obtain ⟨u, hu⟩ : ∃ u, b[a.length]? = some u := ⟨_, List.getElem?_eq_getElem h1⟩
      rw [drop_at hu, if_pos h1]; rfl
    · have : b.length = a.length := by omega
      rw [List.drop_of_length_le (by omega), if_neg h1, if_neg (by omega)]; rfl
  · rw [List.drop_length]
    by_cases h1 : b.length < a.length
    · obtain ⟨u, hu⟩ : ∃ u, a[b.length]? = some u := ⟨_, List.getElem?_eq_getElem h1⟩
      rw [drop_at hu, if_neg (by omega), if_pos h1]; rfl
    · have : b.length = a.length := by omega
      rw [List.drop_of_length_le (by omega), if_neg (by omega), if_neg h1]; rfl

theorem nan_false (x : Int) (w : World) : Calls Try.prog 112 #[.int .u16 x] w fun e w' => e = .returned (.bool false) ∧ w = w' := by
  go_enter Try.func112, Try.ntmps112
  go_wp2
  go_ret
  exact ⟨by first | rfl | simp, rfl⟩

/-- cmp.Compare of two units. -/
def cmpI (x y : Int) : Int := if x < y then -1 else if y < x then 1 else 0
theorem cmp_unit (x y : Int) (w : World) : Calls Try.prog 107 #[.int .u16 x, .int .u16 y] w fun e w' => e = .returned (.int .i64 (cmpI x y)) ∧ w = w' := by
  by_cases h1 : x < y
  · rw [show cmpI x y = -1 by simp [cmpI, h1]]
    go_enter Try.func107, Try.ntmps107
    go_wp2_with (go_at_call 112; refine (nan_false _ _).mono ?_; rintro e w2 ⟨rfl, rfl⟩)
    go_ret
    exact ⟨rfl, rfl⟩
  · by_cases h2 : y < x
    · rw [show cmpI x y = 1 by simp [cmpI, h1, h2]]
      go_enter Try.func107, Try.ntmps107
      go_wp2_with (go_at_call 112; refine (nan_false _ _).mono ?_; rintro e w2 ⟨rfl, rfl⟩)
      go_ret
      exact ⟨rfl, rfl⟩
    · rw [show cmpI x y = 0 by simp [cmpI, h1, h2]]
      go_enter Try.func107, Try.ntmps107
      go_wp2_with (go_at_call 112; refine (nan_false _ _).mono ?_; rintro e w2 ⟨rfl, rfl⟩)
      go_ret
      exact ⟨rfl, rfl⟩

set_option maxHeartbeats 2000000 in
/-- slices.Compare. -/
theorem slices_compare {w : World} {a b : Option Addr} {us vs : List Nat} (ca cb : Nat) (ha : Sl16 w a us) (hb : Sl16 w b vs) :
    Calls Try.prog 92 #[.slice a us.length ca, .slice b vs.length cb] w fun e w' => e = .returned (.int .i64 (cmp16 us vs)) ∧ w = w' := by
  have HA := Lib.hid ha
  have HB := Lib.hid hb
  have l1 := ha.len
  have l2 := hb.len
  clear ha hb
  obtain ⟨n, hn⟩ : ∃ n, n = us.length := ⟨_, rfl⟩
  obtain ⟨m, hm⟩ : ∃ m, m = vs.length := ⟨_, rfl⟩
  rw [← hn] at l1 ⊢
  rw [← hm] at l2 ⊢
  have HN := Lib.hid hn
  have HM := Lib.hid hm
  clear hn hm
  go_enter Try.func92, Try.ntmps92
  go_wp2_with fail
  go_loopw [11] (fun v wr => ∃ i : Nat, v = .int .i64 (i : Nat) ∧ i ≤ n ∧ i ≤ m ∧ (∀ j, j < i → us[j]? = vs[j]?) ∧ wr = w) (fun v _ => n - (intOf v).toNat)
  case atStart => exact ⟨0, rfl, Nat.zero_le _, Nat.zero_le _, fun j hj => absurd hj (by omega), rfl⟩
  case round =>
    obtain ⟨i, rfl, hi1, hi2, heq, rfl⟩ := hrel
    have HE := Lib.hid heq
    clear heq
    by_cases h1 : i < n
    · obtain ⟨u, hu⟩ : ∃ u, us[i]? = some u := ⟨_, List.getElem?_eq_getElem (by rw [← HN.out]; exact h1)⟩
      obtain ⟨hu1, b1, o1, rfl, hb1, c1⟩ := HA.out.at_ i u hu
      have HU := Lib.hid hu
      clear hu
      have p1 : (i : Int) < (n : Int) := by omega
      by_cases h2 : i < m
      · obtain ⟨v, hv⟩ : ∃ v, vs[i]? = some v := ⟨_, List.getElem?_eq_getElem (by rw [← HM.out]; exact h2)⟩
        obtain ⟨hv1, b2, o2, rfl, hb2, c2⟩ := HB.out.at_ i v hv
        have HV := Lib.hid hv
        clear hv
        have p2 : ¬ ((m : Int) ≤ (i : Int)) := by omega
        by_cases hne : u = v
        · subst hne
          have q : cmpI (u : Int) (u : Int) = 0 := by simp [cmpI]
          go_wp2_with (go_at_call 107; refine (cmp_unit _ _ _).mono ?_; rw [q]; rintro e w2 ⟨rfl, rfl⟩)
          go_roundw
          case rel => exact ⟨i + 1, by go_num, h1, h2, fun j hj => by
            rcases Nat.lt_or_ge j i with h | h
            · exact HE.out j h
            · obtain rfl : j = i := by omega
              rw [HU.out, HV.out], trivial⟩
          case measure => simp [intOf]; omega
        · have hc := cmp16_at HE.out HU.out HV.out hne
          have q : cmpI (u : Int) (v : Int) = cmp16 us vs := by
            rw [hc]; unfold cmpI
            by_cases h3 : u < v
            · rw [if_pos (by omega), if_pos h3]
            · rw [if_neg (by omega), if_pos (by omega), if_neg h3]
          have q0 : cmp16 us vs = -1 ∨ cmp16 us vs = 1 := by rw [hc]; by_cases h3 : u < v <;> simp [h3]
          clear hc hne
          rcases q0 with q0 | q0
          all_goals
            rw [q0] at q
            have Q0 := Lib.hid q0
            clear q0
            go_wp2_with (go_at_call 107; refine (cmp_unit _ _ _).mono ?_; rw [q]; rintro e w2 ⟨rfl, rfl⟩)
            go_ret
            exact ⟨by rw [Q0.out]; rfl, rfl⟩
      · have p2 : ((m : Int) ≤ (i : Int)) := by omega
        have hc := cmp16_end HE.out (by rw [← HN.out]; omega) (by rw [← HM.out]; omega) (.inr (by rw [← HM.out]; omega))
        rw [if_neg (by rw [← HN.out, ← HM.out]; omega), if_pos (by rw [← HN.out, ← HM.out]; omega)] at hc
        have HC := Lib.hid hc
        clear hc
        go_wp2
        go_ret
        exact ⟨by rw [HC.out]; rfl, rfl⟩
    · have p1 : ¬ ((i : Int) < (n : Int)) := by omega
      have hc := cmp16_end HE.out (by rw [← HN.out]; omega) (by rw [← HM.out]; omega) (.inl (by rw [← HN.out]; omega))
      rw [← HN.out, ← HM.out] at hc
      by_cases h3 : n < m
      · have p3 : (n : Int) < (m : Int) := by omega
        rw [if_pos h3] at hc
        have HC := Lib.hid hc
        clear hc h3
        go_wp2
        go_ret
        exact ⟨by rw [HC.out]; rfl, rfl⟩
      · have p3 : ¬ (n : Int) < (m : Int) := by omega
        rw [if_neg h3, if_neg (by omega)] at hc
        have HC := Lib.hid hc
        clear hc h3
        go_wp2
        go_ret
        exact ⟨by rw [HC.out]; rfl, rfl⟩

theorem wide_compare {w : World} {a b : Option Addr} {us vs : List Nat} (ca cb : Nat) (ha : Sl16 w a us) (hb : Sl16 w b vs) :
    Calls Try.prog 59 #[.slice a us.length ca, .slice b vs.length cb] w fun e w' => e = .returned (.int .i64 (cmp16 us vs)) ∧ w = w' := by
  go_enter Try.func59, Try.ntmps59
  go_wp2_with (go_at_call 92; refine (slices_compare ca cb ha hb).mono ?_; rintro e w2 ⟨rfl, rfl⟩)
  go_ret
  exact ⟨rfl, rfl⟩
end Go.Proofs.Ytelhnaphkbpakaa
