/- What the statement's handle of a script's byte is. -/
import Derived.Test.YtlmbpbijhhnhpaaAw5
namespace Go.Proofs.Ytlmbpbijhhnhpaa
open Go.RowKit
set_option linter.unusedVariables false
set_option maxRecDepth 100000

/-- Handles as cells. -/
def hcells (l : List (Nat × Nat)) : List Value := l.flatMap fun h => [.int .u32 (h.1 : Int), .int .u32 (h.2 : Int)]
theorem hcells_length (l : List (Nat × Nat)) : (hcells l).length = l.length * 2 := by
  induction l with
  | nil => rfl
  | cons a l ih => simp only [hcells, List.flatMap_cons, List.length_append, List.length_cons, List.length_nil] at ih ⊢; omega
theorem hcells_append (a b : List (Nat × Nat)) : hcells (a ++ b) = hcells a ++ hcells b := by simp [hcells]
theorem hcells_at {l : List (Nat × Nat)} {k : Nat} {h : Nat × Nat} (hk : l[k]? = some h) : (hcells l)[k * 2]? = some (.int .u32 (h.1 : Int)) ∧ (hcells l)[k * 2 + 1]? = some (.int .u32 (h.2 : Int)) := by
  induction l generalizing k with
  | nil => simp at hk
  | cons x l ih =>
    have e : hcells (x :: l) = [.int .u32 (x.1 : Int), .int .u32 (x.2 : Int)] ++ hcells l := by simp [hcells]
    rw [e]
    cases k with
    | zero => simp at hk; subst hk; simp
    | succ k =>
      have := ih (by simpa using hk)
      rw [List.getElem?_append_right (by simp; omega), List.getElem?_append_right (by simp; omega)]
      have e1 : (k + 1) * 2 - [Value.int .u32 (x.1 : Int), .int .u32 (x.2 : Int)].length = k * 2 := by simp; omega
      have e2 : (k + 1) * 2 + 1 - [Value.int .u32 (x.1 : Int), .int .u32 (x.2 : Int)].length = k * 2 + 1 := by simp; omega
      rw [e1, e2]; exact this

def pickN (c : Int) (n : Nat) : Nat := (if c < 0 then (-(c + 1)).toNat else c.toNat) % n
/-- Of which handle an op speaks. -/
def handleOf (which : Int) (s g : Nat) (hand : Bool) (told : List (Nat × Nat)) : Nat × Nat :=
  if hand = true ∨ told = [] then (s, g) else told.getD (pickN which told.length) (0, 0)

theorem handle_by (o0 o1 o2 o3 : Int) (s g : Nat) (hand : Bool) (w : World) (v : Option Addr) (n cap : Nat) (h : hand = true ∨ n = 0) :
    Calls Try.prog 25 #[.agg #[.int .i64 o0, .int .i64 o1, .int .i64 o2, .int .i64 o3, .int .u32 (s : Int), .int .u32 (g : Int), .bool hand], .slice v n cap] w fun e w' => e = .returned (.agg #[.int .u32 (s : Int), .int .u32 (g : Int)]) ∧ Below w.heap.size w w' := by
  rcases h with rfl | rfl
  · go_enter Try.func25, Try.ntmps25
    go_wp2
    exact bodyPost_ret (v := .agg #[.int .u32 (s : Int), .int .u32 (g : Int)]) (by simp [results, Try.results25, go_sem]) rfl ⟨rfl, (by repeat (first | exact Below.refl _ _ | assumption | refine Below.drew ?_ | refine below_drewN ?_ _ | refine Below.alloc ?_ (by simp <;> omega) _ | refine Below.setCell ?_ (by simp <;> omega) _ | (apply bl_trans; assumption; (simp <;> omega))))⟩
  · cases hand
    all_goals
      go_enter Try.func25, Try.ntmps25
      go_wp2
      exact bodyPost_ret (v := .agg #[.int .u32 (s : Int), .int .u32 (g : Int)]) (by simp [results, Try.results25, go_sem]) rfl ⟨rfl, (by repeat (first | exact Below.refl _ _ | assumption | refine Below.drew ?_ | refine below_drewN ?_ _ | refine Below.alloc ?_ (by simp <;> omega) _ | refine Below.setCell ?_ (by simp <;> omega) _ | (apply bl_trans; assumption; (simp <;> omega))))⟩

set_option maxHeartbeats 400000 in
theorem handle_told (o0 o1 o2 o3 : Int) (s g : Nat) (w : World) (hb n cap : Nat) (h0 : 0 < n) (hn : n ≤ 9223372036854775807) (h2 : -9223372036854775808 ≤ o2 ∧ o2 ≤ 9223372036854775807) (a b : Nat)
    (hca : w.cell? ⟨hb, pickN o2 n * 2, none⟩ = some (.int .u32 (a : Int))) (hcb : w.cell? ⟨hb, pickN o2 n * 2 + 1, none⟩ = some (.int .u32 (b : Int))) :
    Calls Try.prog 25 #[.agg #[.int .i64 o0, .int .i64 o1, .int .i64 o2, .int .i64 o3, .int .u32 (s : Int), .int .u32 (g : Int), .bool false], .slice (some ⟨hb, 0, none⟩) n cap] w fun e w' => e = .returned (.agg #[.int .u32 (a : Int), .int .u32 (b : Int)]) ∧ Below w.heap.size w w' := by
  have hlt : hb < w.heap.size := block_lt_of_cell hca
  have hp : pickN o2 n < n := Nat.mod_lt _ h0
  by_cases hneg : o2 < 0
  · obtain ⟨m, rfl⟩ : ∃ m : Nat, o2 = -(m : Int) - 1 := ⟨(-(o2 + 1)).toNat, by omega⟩
    have e1 : pickN (-(m : Int) - 1) n = m % n := by unfold pickN; rw [if_pos hneg]; congr 1; omega
    rw [e1] at hca hcb hp
    have q0 : ((n : Int) == 0) = false := by simp; omega
    have h0' : 0 < (n : Int) := by omega
    have hp' : (m : Int) % n < n := by omega
    have e2 : -(-(m : Int) - 1 + 1) = m := by omega
    clear e1
    go_enter Try.func25, Try.ntmps25
    go_wp2
    exact bodyPost_ret (v := .agg #[.int .u32 (a : Int), .int .u32 (b : Int)]) (by simp [results, Try.results25, go_sem]) rfl ⟨rfl, (by repeat (first | exact Below.refl _ _ | assumption | refine Below.drew ?_ | refine below_drewN ?_ _ | refine Below.alloc ?_ (by simp <;> omega) _ | refine Below.setCell ?_ (by simp <;> omega) _ | (apply bl_trans; assumption; (simp <;> omega))))⟩
  · obtain ⟨m, rfl⟩ : ∃ m : Nat, o2 = (m : Int) := ⟨o2.toNat, by omega⟩
    have e1 : pickN (m : Int) n = m % n := by unfold pickN; rw [if_neg hneg]; congr 1
    rw [e1] at hca hcb hp
    have q0 : ((n : Int) == 0) = false := by simp; omega
    have h0' : 0 < (n : Int) := by omega
    have hp' : (m : Int) % n < n := by omega
    clear e1
    go_enter Try.func25, Try.ntmps25
    go_wp2
    exact bodyPost_ret (v := .agg #[.int .u32 (a : Int), .int .u32 (b : Int)]) (by simp [results, Try.results25, go_sem]) rfl ⟨rfl, (by repeat (first | exact Below.refl _ _ | assumption | refine Below.drew ?_ | refine below_drewN ?_ _ | refine Below.alloc ?_ (by simp <;> omega) _ | refine Below.setCell ?_ (by simp <;> omega) _ | (apply bl_trans; assumption; (simp <;> omega))))⟩

/-- 'handle': of a list that is owned. -/
theorem handle_any (o0 o1 o2 o3 : Int) (s g : Nat) (hand : Bool) (w : World) (B : Nat) (v : Value) (l : List (Nat × Nat)) (hl : l.length ≤ 9223372036854775807) (h2 : -9223372036854775808 ≤ o2 ∧ o2 ≤ 9223372036854775807)
    (hown : w.ownsRow B 39 2 v l.length (hcells l)) :
    Calls Try.prog 25 #[.agg #[.int .i64 o0, .int .i64 o1, .int .i64 o2, .int .i64 o3, .int .u32 (s : Int), .int .u32 (g : Int), .bool hand], v] w fun e w' => e = .returned (.agg #[.int .u32 ((handleOf o2 s g hand l).1 : Int), .int .u32 ((handleOf o2 s g hand l).2 : Int)]) ∧ Below w.heap.size w w' := by
  unfold handleOf
  by_cases hc : hand = true ∨ l = []
  · rw [if_pos hc]
    rcases hown.2 with ⟨rfl, hn⟩ | ⟨hb, cap, cur, rfl, _⟩
    · exact handle_by o0 o1 o2 o3 s g hand w none 0 0 (.inr rfl)
    · exact handle_by o0 o1 o2 o3 s g hand w _ _ cap (hc.imp id (by rintro rfl; rfl))
  · rw [if_neg hc]
    have hh : hand = false := by cases hand <;> simp_all
    subst hh
    have hl0 : 0 < l.length := by cases l <;> simp_all
    obtain ⟨hb, cap, rfl, _⟩ := hown.form hl0
    have hp : pickN o2 l.length < l.length := Nat.mod_lt _ hl0
    have hk : l[pickN o2 l.length]? = some (l.getD (pickN o2 l.length) (0, 0)) := by simp [hp]
    obtain ⟨c1, c2⟩ := hcells_at hk
    exact handle_told o0 o1 o2 o3 s g w hb l.length cap hl0 hl h2 _ _ ((hown.cellAt _ (by omega)).trans c1) ((hown.cellAt _ (by omega)).trans c2)
end Go.Proofs.Ytlmbpbijhhnhpaa
