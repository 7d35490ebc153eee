/- Part 6 of the proof of RoP: lemmas. -/
import Derived.RegionTactic
import Derived.IntWalk
import Derived.BigRegion
import Derived.ChangeAlike
import Derived.Test.YtelhnaphkbpakaaDoorMr5
namespace Go.Proofs.YtelhnaphkbpakaaDoor
open Go.RowKit
set_option linter.unusedVariables false
set_option maxRecDepth 100000
theorem u32_bound {A : Ar} {m : Nat} (h : A.Ok m) {s g : Nat} {t : List Value} (hk : A.all[s]? = some (g, true, t)) : s < A.all.length ∧ s + 1 ≤ 2147483647 ∧ 1 ≤ g ∧ g ≤ 4294967295 := by
  have hl : s < A.all.length := (List.getElem?_eq_some_iff.1 hk).1
  have hm : (g, true, t) ∈ A.all := List.mem_of_getElem? hk
  have := h.gen _ hm
  have := h.len; have := h.S2; have := h.G2
  omega
set_option maxHeartbeats 800000 in
theorem arN_at_live {B : Nat} {w : World} {ab gb cap : Nat} {A : Ar} {fv : Value} (h : ArAt 145 150 29 1 B w ab A (.slice (some ⟨gb, 0, none⟩) A.all.length cap) fv) (k g : Nat) (t : List Value) (hk : A.all[k]? = some (g, true, t)) :
    Calls Tryd.prog 104 #[.pointer (some ⟨ab, 0, none⟩), .agg #[.int .u32 ((k : Int) + 1), .int .u32 (g : Int)]] w fun e w' => e = .returned (.pointer (some ⟨gb, k * (1 + 2), none⟩)) ∧ Below w.heap.size w w' := by
  obtain ⟨b1, b2, b3, b4⟩ := u32_bound h.ok hk
  have a2 := cell_blk h.blk 2 rfl
  have hab := lt_of_some h.blk
  have s0 := (h.rowA.cellAt (k * (1 + 2) + 0) (by have := Nat.mul_le_mul_right (1 + 2) (show k + 1 ≤ A.all.length from b1); simp only [Nat.add_mul] at this; omega)).trans (scells_at h.ok.thing hk 0 (by omega))
  have s1 := (h.rowA.cellAt (k * (1 + 2) + 1) (by have := Nat.mul_le_mul_right (1 + 2) (show k + 1 ≤ A.all.length from b1); simp only [Nat.add_mul] at this; omega)).trans (scells_at h.ok.thing hk 1 (by omega))
  simp at s0 s1 a2
  have hgb : gb < w.heap.size := block_lt_of_cell s0
  clear h hk
  have q0 : hEq ((k : Int) + 1) g 0 0 = false := hEq_false (.inl (by omega))
  have q1 : IntKind.i64.wrap ((k : Int) + 1) = (k : Int) + 1 := IntWalk.i64_in _ (by omega)
  have q2 : decide ((k : Int) + 1 < 1) = false := by simp; omega
  have q3 : decide ((A.all.length : Int) < (k : Int) + 1) = false := by simp; omega
  have q4 : IntKind.u32.wrap ((k : Int)) = (k : Int) := IntWalk.u32_in _ (by omega)
  have q5 : (k : Int) < (A.all.length : Int) := by omega
  have q6 : hEq ((k : Int) + 1) g ((k : Int) + 1) g = true := hEq_true rfl rfl
  go_enter Tryd.func104, Tryd.ntmps104
  go_wp2
  go_quiet (fail)
  go_wp2
  go_quiet (fail)
  go_wp2
  go_region
  all_goals go_wp2
  all_goals go_ret
  all_goals exact ⟨rfl, (by repeat (first | exact Below.refl _ _ | assumption | refine Below.drew ?_ | refine below_drewN ?_ _ | refine Below.alloc ?_ (by simp <;> omega) _ | refine Below.setCell ?_ (by simp <;> omega) _ | (apply bl_trans; assumption; (simp <;> omega))))⟩
set_option maxHeartbeats 800000 in
theorem arN_at_dead {B : Nat} {w : World} {ab : Nat} {A : Ar} {av fv : Value} (h : ArAt 145 150 29 1 B w ab A av fv) (s g : Nat) (hs : s ≤ 4294967295) (hg : g ≤ 4294967295) (hl : A.live s g = false) :
    Calls Tryd.prog 104 #[.pointer (some ⟨ab, 0, none⟩), .agg #[.int .u32 (s : Int), .int .u32 (g : Int)]] w fun e w' => e = .returned (.pointer none) ∧ Below w.heap.size w w' := by
  have hab := lt_of_some h.blk
  have hlen := h.ok.len
  have hS := h.ok.S2
  have a2 := cell_blk h.blk 2 rfl
  by_cases h0 : s = 0
  · subst h0
    clear hl
    by_cases hg0 : g = 0
    · subst hg0
      have q0 : hEq 0 0 0 0 = true := hEq_true rfl rfl
      go_enter Tryd.func104, Tryd.ntmps104
      go_wp2
      go_quiet (fail)
      go_wp2
      go_ret
      exact ⟨rfl, (by repeat (first | exact Below.refl _ _ | assumption | refine Below.drew ?_ | refine below_drewN ?_ _ | refine Below.alloc ?_ (by simp <;> omega) _ | refine Below.setCell ?_ (by simp <;> omega) _ | (apply bl_trans; assumption; (simp <;> omega))))⟩
    · have q0 : hEq 0 (g : Int) 0 0 = false := hEq_false (.inr (by omega))
      have q1 : IntKind.i64.wrap (0 : Int) = 0 := IntWalk.i64_in _ (by omega)
      go_enter Tryd.func104, Tryd.ntmps104
      go_wp2
      go_quiet (fail)
      go_wp2
      go_ret
      exact ⟨rfl, (by repeat (first | exact Below.refl _ _ | assumption | refine Below.drew ?_ | refine below_drewN ?_ _ | refine Below.alloc ?_ (by simp <;> omega) _ | refine Below.setCell ?_ (by simp <;> omega) _ | (apply bl_trans; assumption; (simp <;> omega))))⟩
  · obtain ⟨k, rfl⟩ : ∃ k, s = k + 1 := ⟨s - 1, by omega⟩
    have ek : ((k + 1 : Nat) : Int) = (k : Int) + 1 := by omega
    rw [ek]
    have q0 : hEq ((k : Int) + 1) g 0 0 = false := hEq_false (.inl (by omega))
    have q1 : IntKind.i64.wrap ((k : Int) + 1) = (k : Int) + 1 := IntWalk.i64_in _ (by omega)
    have q2 : decide ((k : Int) + 1 < 1) = false := by simp; omega
    obtain ⟨n, cap, av', hav, hn⟩ : ∃ n cap av', av = .slice av' n cap ∧ n = A.all.length := by
      rcases h.rowA.2 with ⟨rfl, hn⟩ | ⟨gb, cap, cur, rfl, _⟩
      · exact ⟨0, 0, none, rfl, hn.symm⟩
      · exact ⟨_, cap, _, rfl, rfl⟩
    by_cases hk : A.all.length ≤ k
    · have q3 : decide ((n : Int) < (k : Int) + 1) = true := by simp; omega
      rw [hav] at a2
      clear hl h hav ek
      go_enter Tryd.func104, Tryd.ntmps104
      go_wp2
      go_quiet (fail)
      go_wp2
      go_ret
      exact ⟨rfl, (by repeat (first | exact Below.refl _ _ | assumption | refine Below.drew ?_ | refine below_drewN ?_ _ | refine Below.alloc ?_ (by simp <;> omega) _ | refine Below.setCell ?_ (by simp <;> omega) _ | (apply bl_trans; assumption; (simp <;> omega))))⟩
    · have q3 : decide ((n : Int) < (k : Int) + 1) = false := by simp; omega
      have q4 : IntKind.u32.wrap ((k : Int)) = (k : Int) := IntWalk.u32_in _ (by omega)
      have q5 : (k : Int) < (n : Int) := by omega
      obtain ⟨gb, rfl⟩ : ∃ gb, av' = some ⟨gb, 0, none⟩ := by
        rcases h.rowA.2 with ⟨rfl, hn⟩ | ⟨gb, cap, cur, rfl, _⟩
        · omega
        · cases hav; exact ⟨gb, rfl⟩
      have hav' : av = .slice (some ⟨gb, 0, none⟩) A.all.length cap := by rw [hav, hn]
      subst hav'
      obtain ⟨x, hx⟩ : ∃ x, A.all[k]? = some x := ⟨_, List.getElem?_eq_getElem (by omega)⟩
      obtain ⟨g', u, t⟩ := x
      have s0 := (h.rowA.cellAt (k * (1 + 2) + 0) (by have := Nat.mul_le_mul_right (1 + 2) (show k + 1 ≤ A.all.length by omega); simp only [Nat.add_mul] at this; omega)).trans (scells_at h.ok.thing hx 0 (by omega))
      have s1 := (h.rowA.cellAt (k * (1 + 2) + 1) (by have := Nat.mul_le_mul_right (1 + 2) (show k + 1 ≤ A.all.length by omega); simp only [Nat.add_mul] at this; omega)).trans (scells_at h.ok.thing hx 1 (by omega))
      simp at s0 s1 a2
      have hgb : gb < w.heap.size := block_lt_of_cell s0
      have hd : u = false ∨ (u = true ∧ hEq ((k : Int) + 1) g ((k : Int) + 1) g' = false) := by
        cases u
        · exact .inl rfl
        · refine .inr ⟨rfl, hEq_false (.inr ?_)⟩
          intro e
          have : A.live (k + 1) g = true := Ar.live_iff.2 ⟨by omega, t, by rw [show g = g' by omega]; simpa using hx⟩
          rw [this] at hl; cases hl
      clear hl h hav ek hx
      subst hn
      rcases hd with rfl | ⟨rfl, q6⟩
      all_goals
        go_enter Tryd.func104, Tryd.ntmps104
        go_wp2
        go_quiet (fail)
        go_wp2
        go_quiet (fail)
        go_wp2
        go_region
        all_goals go_wp2
        all_goals go_ret
        all_goals exact ⟨rfl, (by repeat (first | exact Below.refl _ _ | assumption | refine Below.drew ?_ | refine below_drewN ?_ _ | refine Below.alloc ?_ (by simp <;> omega) _ | refine Below.setCell ?_ (by simp <;> omega) _ | (apply bl_trans; assumption; (simp <;> omega))))⟩
end Go.Proofs.YtelhnaphkbpakaaDoor
