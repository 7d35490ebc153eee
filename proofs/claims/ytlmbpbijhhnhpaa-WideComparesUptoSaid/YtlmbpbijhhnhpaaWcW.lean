/- WideCompares walked. -/
import Derived.Test.YtlmbpbijhhnhpaaWd18
import Derived.Test.YtlmbpbijhhnhpaaWd4
namespace Go.Proofs.Ytlmbpbijhhnhpaa
open Go.RowKit Go.Shelf
set_option linter.unusedVariables false
set_option maxRecDepth 100000

set_option maxHeartbeats 4000000 in
theorem compares_walk (w : World) {a b : Option Addr} {us vs : List Nat} (ca : Nat) (ha : Sl16 w a us) (hu : us.length ≤ 1048576) (cb : Nat) (hb : Sl16 w b vs) (hv : vs.length ≤ 1048576) :
    Calls Try.prog 6 #[.slice a us.length ca, .slice b vs.length cb] w fun e w' => e = .returned (.bool true) ∧ Below w.heap.size w w' := by
  have HA := Lib.hid ha
  have HB := Lib.hid hb
  clear ha hb
  obtain ⟨n, hn⟩ : ∃ n, n = us.length := ⟨_, rfl⟩
  obtain ⟨m, hm⟩ : ∃ m, m = vs.length := ⟨_, rfl⟩
  rw [← hn] at hu ⊢
  rw [← hm] at hv ⊢
  have HN := Lib.hid hn
  have HM := Lib.hid hm
  clear hn hm
  go_enter Try.func6, Try.ntmps6
  go_wp2_with fail
  refine (alive_true _).mono ?_
  rintro e w1 ⟨rfl, b1⟩
  have B1 := Lib.hid b1
  have HA1 := Lib.hid (HA.out.below b1)
  have HB1 := Lib.hid (HB.out.below b1)
  clear b1
  go_wp2_with fail
  rw [HN.out]
  refine (lent_lends ca HA1.out (by rw [← HN.out]; exact hu)).mono ?_
  rw [← HN.out]
  rintro e w2 ⟨ax, cx, rfl, hx, b2⟩
  have B2 := Lib.hid (B1.out.trans (b2.mono B1.out.size))
  have HA2 := Lib.hid (HA1.out.below b2)
  have HB2 := Lib.hid (HB1.out.below b2)
  have HX2 := Lib.hid hx
  clear b2 hx
  go_wp2_with fail
  rw [HM.out]
  refine (lent_lends cb HB2.out (by rw [← HM.out]; exact hv)).mono ?_
  rw [← HM.out]
  rintro e w3 ⟨ay, cy, rfl, hy, b3⟩
  have B3 := Lib.hid (B2.out.trans (b3.mono B2.out.size))
  have HA3 := Lib.hid (HA2.out.below b3)
  have HB3 := Lib.hid (HB2.out.below b3)
  have HX3 := Lib.hid (HX2.out.below b3)
  have HY3 := Lib.hid hy
  clear b3 hy
  go_wp2_with fail
  rw [HN.out, HM.out]
  refine (wide_compare cx cy HX3.out.sl HY3.out.sl).mono ?_
  rw [← HN.out, ← HM.out]
  generalize hc1 : cmp16 us vs = c1
  have C1 := Lib.hid hc1
  clear hc1
  rintro e w4 ⟨rfl, rfl⟩
  go_wp2_with fail
  rw [HN.out, HM.out]
  refine (ref_compare ca cb HA3.out HB3.out).mono ?_
  rw [← HN.out, ← HM.out, C1.out]
  rintro e w4 ⟨rfl, k1, rfl⟩
  go_wp2_with fail
  rw [HN.out, HM.out]
  refine (wide_compare cy cx (HY3.out.sl.drewN k1) (HX3.out.sl.drewN k1)).mono ?_
  rw [← HN.out, ← HM.out]
  generalize hc2 : cmp16 vs us = c2
  have C2 := Lib.hid hc2
  clear hc2
  rintro e w4 ⟨rfl, rfl⟩
  go_wp2_with fail
  rw [HN.out, HM.out]
  refine (ref_compare cb ca (HB3.out.drewN k1) (HA3.out.drewN k1)).mono ?_
  rw [← HN.out, ← HM.out, C2.out]
  rintro e w4 ⟨rfl, k2, rfl⟩
  rw [World.drewN_drewN]
  obtain ⟨w4, hw4⟩ : ∃ w4, w4 = w3.drewN (k1 + k2) := ⟨_, rfl⟩
  have b4 : Below w3.heap.size w3 w4 := by rw [hw4]; exact (by repeat (first | exact Below.refl _ _ | assumption | refine Below.drew ?_ | refine below_drewN ?_ _ | refine Below.alloc ?_ (by simp <;> omega) _ | refine Below.setCell ?_ (by simp <;> omega) _ | (apply bl_trans; assumption; (simp <;> omega))))
  rw [← hw4]
  have B4 := Lib.hid (B3.out.trans (b4.mono B3.out.size))
  have HA4 := Lib.hid (HA3.out.below b4)
  have HB4 := Lib.hid (HB3.out.below b4)
  have HX4 := Lib.hid (HX3.out.below b4)
  have HY4 := Lib.hid (HY3.out.below b4)
  clear b4 hw4
  go_wp2_with fail
  rw [HN.out]
  refine (kept_true ca cx HX4.out HA4.out).mono ?_
  rw [← HN.out]
  rintro e w5 ⟨rfl, k3, rfl⟩
  go_wp2_with fail
  rw [HM.out]
  refine (kept_true cb cy (HY4.out.below (w' := w4.drewN k3) (by repeat (first | exact Below.refl _ _ | assumption | refine Below.drew ?_ | refine below_drewN ?_ _ | refine Below.alloc ?_ (by simp <;> omega) _ | refine Below.setCell ?_ (by simp <;> omega) _ | (apply bl_trans; assumption; (simp <;> omega))))) (HB4.out.drewN k3)).mono ?_
  rw [← HM.out]
  rintro e w5 ⟨rfl, k4, rfl⟩
  rw [World.drewN_drewN]
  have hcn := ref_compare 0 ca (Sl16.nil (w4.drewN (k3 + k4)) none) (HA4.out.drewN (k3 + k4))
  have hcw := wide_compare 0 ca (Sl16.nil (w4.drewN (k3 + k4)) none) (HA4.out.drewN (k3 + k4))
  rw [List.length_nil, ← HN.out] at hcn hcw
  generalize cmp16 [] us = c3 at hcn hcw
  have HCN := Lib.hid hcn
  have HCW := Lib.hid hcw
  clear hcn hcw
  go_wp2_with fail
  refine HCW.out.mono ?_
  rintro e w5 ⟨rfl, rfl⟩
  go_wp2_with fail
  refine HCN.out.mono ?_
  rintro e w5 ⟨rfl, k5, rfl⟩
  go_wp2
  go_ret
  exact ⟨rfl, B4.out.trans (by repeat (first | exact Below.refl _ _ | assumption | refine Below.drew ?_ | refine below_drewN ?_ _ | refine Below.alloc ?_ (by simp <;> omega) _ | refine Below.setCell ?_ (by simp <;> omega) _ | (apply bl_trans; assumption; (simp <;> omega))))⟩
end Go.Proofs.Ytlmbpbijhhnhpaa
