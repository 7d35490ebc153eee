/- Units' code points, as data; Points: its iterator tells them one by one. -/
import Derived.Sort.CutIn
import Derived.Sort.QuietIn
import Derived.Test.YtelhnaphkbpakaaDoorMw9
namespace Go.Proofs.YtelhnaphkbpakaaDoor
open Go.RowKit Go.Shelf
attribute [local go_sem] Oper.semAt_some
set_option linter.unusedVariables false
set_option maxRecDepth 100000

structure Un where
  p : Nat
  n : Nat
  c : Nat
  lone : Bool

def Pair (us : List Nat) (i : Nat) : Prop := 55296 ≤ us.getD i 0 ∧ us.getD i 0 < 56320 ∧ i + 1 < us.length ∧ 56320 ≤ us.getD (i + 1) 0 ∧ us.getD (i + 1) 0 < 57344
instance (us : List Nat) (i : Nat) : Decidable (Pair us i) := by unfold Pair; infer_instance
def unAt (us : List Nat) (i : Nat) : Un :=
  if Pair us i then ⟨i, 2, 65536 + (us.getD i 0 - 55296) * 1024 + (us.getD (i + 1) 0 - 56320), false⟩ else ⟨i, 1, us.getD i 0, decide (55296 ≤ us.getD i 0 ∧ us.getD i 0 < 57344)⟩
theorem unAt_n (us : List Nat) (i : Nat) : 1 ≤ (unAt us i).n ∧ (unAt us i).n ≤ 2 := by unfold unAt; split <;> simp
theorem unAt_size (us : List Nat) (i : Nat) (h : i < us.length) : i + (unAt us i).n ≤ us.length := by
  unfold unAt
  split
  · rename_i h1; have := h1.2.2.1; simp only; omega
  · simp only; omega
def unsFrom (us : List Nat) (i : Nat) : List Un := if h : i < us.length then unAt us i :: unsFrom us (i + (unAt us i).n) else []
termination_by us.length - i
decreasing_by have := (unAt_n us i).1; omega
def uns (us : List Nat) : List Un := unsFrom us 0
theorem unsFrom_step (us : List Nat) (i : Nat) (h : i < us.length) : unsFrom us i = unAt us i :: unsFrom us (i + (unAt us i).n) := by rw [unsFrom, dif_pos h]
theorem unsFrom_end (us : List Nat) (i : Nat) (h : ¬ i < us.length) : unsFrom us i = [] := by rw [unsFrom, dif_neg h]
theorem unsFrom_mem (us : List Nat) (p : Nat) : ∀ x ∈ unsFrom us p, ∃ q, q < us.length ∧ x = unAt us q := by
  intro x hx
  induction p using unsFrom.induct us with
  | case1 p h ih =>
    rw [unsFrom_step us p h] at hx
    rcases List.mem_cons.1 hx with rfl | hx
    · exact ⟨p, h, rfl⟩
    · exact ih hx
  | case2 p h => rw [unsFrom_end us p h] at hx; cases hx
theorem unsFrom_len (us : List Nat) (p : Nat) : (unsFrom us p).length ≤ us.length - p := by
  induction p using unsFrom.induct us with
  | case1 p h ih =>
    rw [unsFrom_step us p h, List.length_cons]
    have := (unAt_n us p).1
    omega
  | case2 p h => rw [unsFrom_end us p h]; simp
theorem uns_len (us : List Nat) : (uns us).length ≤ us.length := by have := unsFrom_len us 0; simpa [uns] using this

def encU (x : Un) : Array Value := #[.int .i64 (x.p : Int), .int .i32 (x.c : Int)]

theorem grownBy_drewN (w : World) (k : Nat) : w.grownBy (w.drewN k) none := ⟨rfl, rfl, rfl, Nat.le_refl _, fun _ _ _ => rfl⟩

theorem getD_of {us : List Nat} {i u : Nat} (h : us[i]? = some u) : us.getD i 0 = u := by simp [h]

end Go.Proofs.YtelhnaphkbpakaaDoor

