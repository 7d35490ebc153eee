/- The document's arena: Lives, Get, Count, Left, Retired: what they compute. -/
import Derived.Test.YtlmbpbijhhnhpaaRfD
import Derived.Test.YtlmbpbijhhnhpaaEqH
import Derived.RegionTactic
import Derived.IntWalk
import Derived.BigRegion
import Derived.ChangeAlike
namespace Go.Proofs.Ytlmbpbijhhnhpaa
open Go.RowKit
set_option linter.unusedVariables false
set_option maxRecDepth 100000

set_option maxHeartbeats 800000 in
theorem rf_lives {B : Nat} {w : World} {rb : Nat} {T : TA Int} {av fv : Value} (h : RefAt B w rb T av fv) (s g : Nat) (hs : s ≤ 4294967295) (hg : g ≤ 4294967295) :
    Calls Try.prog 81 #[.pointer (some ⟨rb, 0, none⟩), .agg #[.int .u32 (s : Int), .int .u32 (g : Int)]] w fun e w' => e = .returned (.bool (T.at s g).isSome) ∧ Below w.heap.size w w' := by
  have hrb := lt_of_some h.blk
  have a2 := cell_blk h.blk 2 rfl
  obtain ⟨hl, _⟩ := h.len
  simp at a2
  cases s with
  | zero =>
    rw [TA.at_zero]
    have q1 : IntKind.i64.wrap (0 : Int) = 0 := IntWalk.i64_in _ (by omega)
    clear h
    go_enter Try.func81, Try.ntmps81
    go_wp2
    go_quiet (fail)
    go_wp2
    go_ret
    exact ⟨rfl, (by repeat (first | exact Below.refl _ _ | assumption | refine Below.drew ?_ | refine below_drewN ?_ _ | refine Below.alloc ?_ (by simp <;> omega) _ | refine Below.setCell ?_ (by simp <;> omega) _ | (apply bl_trans; assumption; (simp <;> omega))))⟩
  | succ k =>
    have ek : ((k + 1 : Nat) : Int) = (k : Int) + 1 := by omega
    rw [TA.at_eq _ (by omega), Nat.add_sub_cancel, ek]
    have q1 : IntKind.i64.wrap ((k : Int) + 1) = (k : Int) + 1 := IntWalk.i64_in _ (by omega)
    have q2 : (k : Int) + 1 - 1 = (k : Int) := by omega
    have p2 : (0 : Int) ≤ (k : Int) := by omega
    by_cases hk : T.all.length ≤ k
    · rw [List.getElem?_eq_none hk]
      obtain ⟨a, cap, rfl⟩ := h.slots
      generalize T.all.length = n at hk hl a2
      have q3 : decide (k < n) = false := by simp; omega
      clear h ek
      go_enter Try.func81, Try.ntmps81
      go_wp2
      go_quiet (fail)
      go_wp2
      go_ret
      exact ⟨rfl, (by repeat (first | exact Below.refl _ _ | assumption | refine Below.drew ?_ | refine below_drewN ?_ _ | refine Below.alloc ?_ (by simp <;> omega) _ | refine Below.setCell ?_ (by simp <;> omega) _ | (apply bl_trans; assumption; (simp <;> omega))))⟩
    · obtain ⟨x, hx⟩ : ∃ x, T.all[k]? = some x := ⟨_, List.getElem?_eq_getElem (by omega)⟩
      obtain ⟨g', u, y⟩ := x
      obtain ⟨gb, cap, rfl, hgb, c0, c1, c2⟩ := h.slot hx
      obtain ⟨hg1, hg2⟩ := h.gen hx
      rw [hx]
      simp only at c0 c1 c2 hg1 hg2
      generalize T.all.length = n at hk hl a2
      have p1 : (k : Int) < (n : Int) := by omega
      clear h hx ek
      cases u with
      | false =>
        rw [slotWho_false]
        go_enter Try.func81, Try.ntmps81
        go_wp2
        go_quiet (fail)
        go_wp2
        go_ret
        exact ⟨rfl, (by repeat (first | exact Below.refl _ _ | assumption | refine Below.drew ?_ | refine below_drewN ?_ _ | refine Below.alloc ?_ (by simp <;> omega) _ | refine Below.setCell ?_ (by simp <;> omega) _ | (apply bl_trans; assumption; (simp <;> omega))))⟩
      | true =>
        rw [slotWho_true]
        have q5 : IntKind.i64.wrap (g : Int) = g := IntWalk.i64_in _ (by omega)
        by_cases he : g' = g
        · subst he
          rw [if_pos rfl]
          go_enter Try.func81, Try.ntmps81
          go_wp2
          go_quiet (fail)
          go_wp2
          go_ret
          exact ⟨rfl, (by repeat (first | exact Below.refl _ _ | assumption | refine Below.drew ?_ | refine below_drewN ?_ _ | refine Below.alloc ?_ (by simp <;> omega) _ | refine Below.setCell ?_ (by simp <;> omega) _ | (apply bl_trans; assumption; (simp <;> omega))))⟩
        · rw [if_neg he]
          have q6 : ((g' : Int) == (g : Int)) = false := by simp; omega
          go_enter Try.func81, Try.ntmps81
          go_wp2
          go_quiet (fail)
          go_wp2
          go_ret
          exact ⟨rfl, (by repeat (first | exact Below.refl _ _ | assumption | refine Below.drew ?_ | refine below_drewN ?_ _ | refine Below.alloc ?_ (by simp <;> omega) _ | refine Below.setCell ?_ (by simp <;> omega) _ | (apply bl_trans; assumption; (simp <;> omega))))⟩
end Go.Proofs.Ytlmbpbijhhnhpaa
