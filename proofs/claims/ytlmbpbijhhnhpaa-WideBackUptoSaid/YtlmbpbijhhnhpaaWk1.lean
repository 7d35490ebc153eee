/- Scalars: as units and back; as bytes and back. No program. -/
import Derived.Test.YtlmbpbijhhnhpaaWj1
import Derived.Test.YtlmbpbijhhnhpaaWj2
import Derived.Test.YtlmbpbijhhnhpaaWj4
namespace Go.Proofs.Ytlmbpbijhhnhpaa
open Go.RowKit
set_option linter.unusedVariables false

theorem getD_pre (pre l : List Nat) (j : Nat) : (pre ++ l).getD (pre.length + j) 0 = l.getD j 0 := by simp [List.getElem?_append_right]
theorem unit_at (pre : List Nat) (c : Nat) (rest : List Nat) (h : Scalar c) : unAt (pre ++ (unitsOf c ++ rest)) pre.length = ⟨pre.length, (unitsOf c).length, c, false⟩ := by
  have g0 := getD_pre pre (unitsOf c ++ rest) 0
  have g1 := getD_pre pre (unitsOf c ++ rest) 1
  have hlen : (pre ++ (unitsOf c ++ rest)).length = pre.length + ((unitsOf c).length + rest.length) := by rw [List.length_append, List.length_append]
  rw [Nat.add_zero] at g0
  generalize hL : pre ++ (unitsOf c ++ rest) = L at g0 g1 hlen ⊢
  clear hL
  unfold Scalar at h
  by_cases hc : 65535 < c
  · have hu : unitsOf c = [55296 + (c - 65536) / 1024, 56320 + (c - 65536) % 1024] := by unfold unitsOf; rw [if_pos hc]
    obtain ⟨q, hq⟩ : ∃ q, q = (c - 65536) / 1024 := ⟨_, rfl⟩
    obtain ⟨r, hr⟩ : ∃ r, r = (c - 65536) % 1024 := ⟨_, rfl⟩
    rw [← hq, ← hr] at hu
    rw [hu] at g0 g1 hlen ⊢
    have g0 : L.getD pre.length 0 = 55296 + q := g0
    have g1 : L.getD (pre.length + 1) 0 = 56320 + r := g1
    have hlen : L.length = pre.length + (2 + rest.length) := hlen
    have hp : Pair L pre.length := by
      unfold Pair
      rw [g0, g1]
      refine ⟨?_, ?_, ?_, ?_, ?_⟩ <;> omega
    unfold unAt
    rw [if_pos hp, g0, g1]
    have e : 65536 + (55296 + q - 55296) * 1024 + (56320 + r - 56320) = c := by omega
    rw [e]
    rfl
  · have hu : unitsOf c = [c] := by unfold unitsOf; rw [if_neg hc]
    rw [hu] at g0 ⊢
    have g0 : L.getD pre.length 0 = c := g0
    have hp : ¬ Pair L pre.length := by
      unfold Pair
      rw [g0]
      omega
    unfold unAt
    rw [if_neg hp, g0, decide_eq_false (by omega)]
    rfl
theorem units_back (cs : List Nat) (hs : ∀ c ∈ cs, Scalar c) (pre : List Nat) : (unsFrom (pre ++ cs.flatMap unitsOf) pre.length).map (fun x => (x.c, x.lone)) = cs.map fun c => (c, false) := by
  induction cs generalizing pre with
  | nil => rw [unsFrom_end _ _ (by simp)]; rfl
  | cons c cs ih =>
    have hl : 1 ≤ (unitsOf c).length := by unfold unitsOf; split <;> simp
    rw [List.flatMap_cons, unsFrom_step _ _ (by rw [List.length_append, List.length_append]; omega), unit_at pre c _ (hs c (by simp)), List.map_cons, List.map_cons]
    congr 1
    have := ih (fun x hx => hs x (by simp [hx])) (pre ++ unitsOf c)
    rw [List.append_assoc, List.length_append] at this
    exact this
end Go.Proofs.Ytlmbpbijhhnhpaa
