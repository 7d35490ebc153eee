/- Lists of data laid out as cells, k cells each: lengths, places, one cell set. No program. -/
import Derived.WalkKit
namespace Go.Proofs.Ytlmbpbijhhnhpaa
set_option linter.unusedVariables false

section
variable {α β : Type} {f : α → List β} {k : Nat}

theorem fl_length (hf : ∀ a, (f a).length = k) (l : List α) : (l.flatMap f).length = l.length * k := by
  induction l with
  | nil => simp
  | cons x l ih => simp only [List.flatMap_cons, List.length_append, List.length_cons, ih, hf, Nat.add_mul]; omega

theorem fl_at (hf : ∀ a, (f a).length = k) {l : List α} {i : Nat} {a : α} (h : l[i]? = some a) (j : Nat) (hj : j < k) : (l.flatMap f)[i * k + j]? = (f a)[j]? := by
  induction l generalizing i with
  | nil => simp at h
  | cons x l ih =>
    rw [List.flatMap_cons]
    cases i with
    | zero =>
      simp at h; subst h
      rw [List.getElem?_append_left (by rw [hf]; omega)]; simp
    | succ i =>
      rw [List.getElem?_append_right (by rw [hf, Nat.add_mul]; omega), hf, show (i + 1) * k + j - k = i * k + j by rw [Nat.add_mul]; omega]
      exact ih (by simpa using h)

theorem fl_set (hf : ∀ a, (f a).length = k) {l : List α} {i : Nat} {a a' : α} (h : l[i]? = some a) (j : Nat) (hj : j < k) {v : β} (hs : f a' = (f a).set j v) : (l.set i a').flatMap f = (l.flatMap f).set (i * k + j) v := by
  induction l generalizing i with
  | nil => simp at h
  | cons x l ih =>
    cases i with
    | zero =>
      simp at h; subst h
      rw [List.set_cons_zero, List.flatMap_cons, List.flatMap_cons, hs, List.set_append_left _ _ (by rw [hf]; omega)]; simp
    | succ i =>
      rw [List.set_cons_succ, List.flatMap_cons, List.flatMap_cons, ih (by simpa using h), List.set_append_right _ _ (by rw [hf, Nat.add_mul]; omega), hf, show (i + 1) * k + j - k = i * k + j by rw [Nat.add_mul]; omega]

theorem fl_lt {i j n : Nat} (hi : i < n) (hj : j < k) : i * k + j < n * k := by
  have := Nat.mul_le_mul_right k (show i + 1 ≤ n from hi)
  rw [Nat.add_mul] at this; omega
end
end Go.Proofs.Ytlmbpbijhhnhpaa
