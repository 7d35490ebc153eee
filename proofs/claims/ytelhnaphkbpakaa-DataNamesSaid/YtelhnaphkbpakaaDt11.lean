/- Rows of units compared: slices.Equal; two attributes compared. -/
import Derived.Test.YtelhnaphkbpakaaDt6
namespace Go.Proofs.Ytelhnaphkbpakaa
open Go.RowKit
set_option linter.unusedVariables false
set_option maxRecDepth 100000

set_option maxHeartbeats 4000000 in
theorem eq16_calls {w : World} {a b : Option Addr} {us vs : List Nat} (ca cb : Nat) (ha : Sl16 w a us) (hb : Sl16 w b vs) :
    Calls Try.prog 52 #[.slice a us.length ca, .slice b vs.length cb] w fun e w' => e = .returned (.bool (decide (us = vs))) ∧ ∃ k, w.drewN k = w' := by
  obtain ⟨n, en⟩ : ∃ n, n = us.length := ⟨_, rfl⟩
  obtain ⟨m, em⟩ : ∃ m, m = vs.length := ⟨_, rfl⟩
  have hl1 := ha.len
  have hl2 := hb.len
  rw [← en] at hl1 ⊢
  rw [← em] at hl2 ⊢
  have HN := Lib.hid en
  have HM := Lib.hid em
  have HA := Lib.hid ha
  have HB := Lib.hid hb
  clear en em ha hb
  by_cases hnm : n = m
  · subst hnm
    obtain ⟨r, hr⟩ : ∃ r, r = decide (us = vs) := ⟨_, rfl⟩
    rw [← hr]
    have HR := Lib.hid hr
    clear hr
    go_enter Try.func52, Try.ntmps52
    go_wp2_with fail
    go_loopw [13] (fun v wr => ∃ i k : Nat, v = .int .i64 (i : Nat) ∧ i ≤ n ∧ (∀ j, j < i → us[j]? = vs[j]?) ∧ wr = w.drewN k) (fun v _ => n - (intOf v).toNat)
    case atStart => exact ⟨0, 0, rfl, Nat.zero_le _, fun j hj => absurd hj (by omega), rfl⟩
    case round =>
      obtain ⟨i, k, rfl, hi, heq, rfl⟩ := hrel
      have HE := Lib.hid heq
      clear heq
      by_cases h1 : i < n
      · obtain ⟨u, hu⟩ : ∃ u, us[i]? = some u := ⟨_, List.getElem?_eq_getElem (by rw [← HN.out]; exact h1)⟩
        obtain ⟨hu1, b1, o1, rfl, hb1, c1⟩ := HA.out.at_ i u hu
        obtain ⟨v, hv⟩ : ∃ v, vs[i]? = some v := ⟨_, List.getElem?_eq_getElem (by rw [← HM.out]; exact h1)⟩
        obtain ⟨hv1, b2, o2, rfl, hb2, c2⟩ := HB.out.at_ i v hv
        have HU := Lib.hid hu
        have HV := Lib.hid hv
        clear hu hv
        have p0 : (0 : Int) ≤ (i : Int) := by omega
        have p1 : (i : Int) < (n : Int) := by omega
        by_cases hne : u = v
        · subst hne
          have q : ((u : Int) != (u : Int)) = false := by simp
          go_wp2_with fail
          go_quiet (fail)
          go_wp2
          go_roundw
          case rel => exact ⟨i + 1, _, by go_num, h1, fun j hj => by
              rcases Nat.lt_or_ge j i with h | h
              · exact HE.out j h
              · obtain rfl : j = i := by omega
                rw [HU.out, HV.out], rfl⟩
          case measure => simp [intOf]; omega
        · have hrf : r = false := by
            rw [HR.out]
            refine decide_eq_false (fun e => hne ?_)
            have := HU.out
            rw [e, HV.out] at this
            exact (Option.some.inj this).symm
          have q : ((u : Int) != (v : Int)) = true := by simp; omega
          have HRF := Lib.hid hrf
          clear hrf
          go_wp2_with fail
          go_quiet (fail)
          go_wp2
          go_ret
          exact ⟨by rw [HRF.out]; rfl, _, by rw [World.drewN_drewN]⟩
      · obtain rfl : i = n := by omega
        have hrf : r = true := by
          rw [HR.out]
          refine decide_eq_true (List.ext_getElem? (fun j => ?_))
          rcases Nat.lt_or_ge j i with h | h
          · exact HE.out j h
          · rw [List.getElem?_eq_none (by rw [← HN.out]; exact h), List.getElem?_eq_none (by rw [← HM.out]; exact h)]
        have HRF := Lib.hid hrf
        have p1 : ¬ (i : Int) < (i : Int) := by omega
        clear hrf h1
        go_wp2_with fail
        go_ret
        exact ⟨by rw [HRF.out]; rfl, _, rfl⟩
  · have hne : us ≠ vs := fun e => hnm (by rw [HN.out, HM.out, e])
    rw [decide_eq_false hne]
    have q : ((n : Int) != (m : Int)) = true := by simp; omega
    clear hne
    go_enter Try.func52, Try.ntmps52
    go_wp2
    go_ret
    exact ⟨rfl, 0, rfl⟩

/-- Two attributes: the same name, the same value. -/
def eqAt (x y : LA) : Bool := x.name.toList == y.name.toList && decide (x.val = y.val)
set_option maxHeartbeats 4000000 in
theorem eqAt_calls (w : World) (x y : LA) (hx : Sl16 w x.va x.val) (hy : Sl16 w y.va y.val) :
    Calls Try.prog 61 #[x.v, y.v] w fun e w' => e = .returned (.bool (eqAt x y)) ∧ Below w.heap.size w w' := by
  have hb : Below w.heap.size w ((w.alloc (.cells #[.string x.name, .slice x.va x.val.length x.vc] 72)).alloc (.cells #[.string y.name, .slice y.va y.val.length y.vc] 72)) := ((Below.refl _ w).alloc (Nat.le_refl _) _).alloc (by simp) _
  have he := eq16_calls x.vc y.vc (hx.below hb) (hy.below hb)
  obtain ⟨r, hr⟩ : ∃ r, r = eqAt x y := ⟨_, rfl⟩
  rw [← hr]
  unfold LA.v
  unfold eqAt at hr
  cases hn : (x.name.toList == y.name.toList) with
  | false =>
    rw [hn, Bool.false_and] at hr
    subst hr
    have HBB := Lib.hid hb
    clear he hb
    go_enter Try.func61, Try.ntmps61
    go_wp2
    go_ret
    exact ⟨rfl, HBB.out⟩
  | true =>
    rw [hn, Bool.true_and] at hr
    rw [← hr] at he
    have HE := Lib.hid he
    have HBB := Lib.hid hb
    clear he hb hr
    go_enter Try.func61, Try.ntmps61
    go_wp2_with (go_at_call 52; refine HE.out.mono ?_; rintro e w2 ⟨rfl, k, rfl⟩)
    go_ret
    exact ⟨by first | rfl | (cases r <;> rfl), HBB.out.trans (((FrT.refl [] _ _).drewN k).below (Nat.le_refl _) |>.mono (by simp; omega))⟩
end Go.Proofs.Ytelhnaphkbpakaa
