/- Units in memory of their own (own); a node and its attributes as they lie in memory. -/
import Derived.Test.YtelhnaphkbpakaaWd17
import Derived.Test.YtelhnaphkbpakaaAp2
namespace Go.Proofs.Ytelhnaphkbpakaa
open Go.RowKit
set_option linter.unusedVariables false
set_option maxRecDepth 100000

theorem row_below {w w' : World} {base : Nat} {e : TypeId} {size : Nat} {v : Value} {n : Nat} {xs : List Value} (h : w.ownsRow base e size v n xs) (b : Below w.heap.size w w') : w'.ownsRow base e size v n xs := (FrT.of_below (T := []) (B := 0) b).row h (by simp)
theorem row_cap {w : World} {base : Nat} {e : TypeId} {size : Nat} {a : Option Addr} {n cap m : Nat} {xs : List Value} (h : w.ownsRow base e size (.slice a n cap) m xs) : n = m ∧ m ≤ cap ∧ cap ≤ 9223372036854775807 := by
  rcases h.2 with ⟨h1, h2⟩ | ⟨g, cap', cur, h1, _, _, h4, h5, _⟩
  · obtain ⟨_, h6, h7⟩ : a = none ∧ n = 0 ∧ cap = 0 := by simpa using h1
    omega
  · cases h1; unfold maxLen at h5; omega
theorem Clip16.below {B : Nat} {w w' : World} {a : Option Addr} {us : List Nat} (h : Clip16 B w a us) (b : Below w.heap.size w w') : Clip16 B w' a us :=
  ⟨by obtain ⟨cap, hr⟩ := h.row; exact ⟨cap, row_below hr b⟩, h.bnd, h.len⟩

set_option maxHeartbeats 1000000 in
theorem own_calls (w : World) {a : Option Addr} {us : List Nat} (ca : Nat) (hA : Sl16 w a us) (hl : us.length ≤ 1099511627776) :
    Calls Try.prog 64 #[.slice a us.length ca] w fun e w' => ∃ a', e = .returned (.slice a' us.length us.length) ∧ Clip16 w.heap.size w' a' us ∧ Below w.heap.size w w' := by
  obtain ⟨i45, hi45, ha1, ha2, ha3⟩ := info_parts info79
  have HA := Lib.hid (hA.below ((Below.refl _ w).alloc (Nat.le_refl _) (.cells #[] 45)))
  have HB := Lib.hid hA.bnd
  obtain ⟨n, hn⟩ : ∃ n, n = us.length := ⟨_, rfl⟩
  rw [← hn] at hl ⊢
  have HN := Lib.hid hn
  clear hn hA
  go_enter Try.func64, Try.ntmps64
  go_wp2_with (at_builtin; refine wpList_append_any _ rfl (.tmp 3) (.tmp 4) 24 rfl w.heap.size 45 i45 _ 1 2 Try.underlying24 hi45 ha1 ha2 ha3 rfl (by omega) _ 0 [] rfl (World.ownsRow_lit w #[] 0 (Nat.le_refl _) (by decide) rfl) a n ca (enc16 us) rfl (by rw [enc16_len, HN.out]; simp) (by rw [HN.out]; exact HA.out.src) enc16_one (by unfold maxLen; omega) (by omega) (by simp) ?_)
  intro a2 c2 w2 hown hgrow
  have hc := row_cap hown
  have hb : Below w.heap.size w w2 := ((FrT.refl [45] w.heap.size w).alloc (.cells #[] 45) |>.append (World.ownsRow_lit (size := 1) w #[] 0 (Nat.le_refl _) (by decide) rfl) (Nat.le_refl _) (by simp) hgrow).below (Nat.le_refl _)
  have HO := Lib.hid hown
  have HBL := Lib.hid hb
  clear hown hgrow hb
  go_wp2_with (go_at_call 68; refine (clip16 _ _ _ hc.2.1 hc.2.2 _).mono ?_; rintro e w3 ⟨rfl, rfl⟩)
  go_ret
  exact ⟨a2, rfl, ⟨⟨c2, by rw [← HN.out]; exact HO.out⟩, HB.out, by rw [← HN.out]; omega⟩, HBL.out⟩
end Go.Proofs.Ytelhnaphkbpakaa
