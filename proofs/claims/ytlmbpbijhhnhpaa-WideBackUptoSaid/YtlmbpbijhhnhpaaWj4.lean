/- Texts of bytes, joined and compared. No program. -/
import Derived.Test.YtlmbpbijhhnhpaaBx
import Derived.Test.YtlmbpbijhhnhpaaWj2
import Derived.Laws.Strings
import Derived.Lib.SmallJoins
namespace Go.Proofs.Ytlmbpbijhhnhpaa
open Go.RowKit
set_option linter.unusedVariables false

theorem strB_data (l : List Nat) : (strB l).data.toList = l.map UInt8.ofNat := by simp [strB]
theorem strB_toList (l : List Nat) : (strB l).toList = l.map UInt8.ofNat := by rw [ByteArray.toList_eq, strB_data]
theorem data_append' (a b : ByteArray) : (a ++ b).data.toList = a.data.toList ++ b.data.toList := by simp
theorem strB_append (a b : List Nat) : strB a ++ strB b = strB (a ++ b) := by
  apply Go.WideShapes.bytes_inj
  rw [data_append', strB_data, strB_data, strB_data, List.map_append]
theorem ofNat_inj {l m : List Nat} (hl : ∀ b ∈ l, b ≤ 255) (hm : ∀ b ∈ m, b ≤ 255) : l.map UInt8.ofNat = m.map UInt8.ofNat → l = m := by
  induction l generalizing m with
  | nil => cases m <;> simp
  | cons x xs ih =>
    cases m with
    | nil => simp
    | cons y ys =>
      simp only [List.map_cons, List.cons.injEq]
      rintro ⟨h1, h2⟩
      have hx := hl x (by simp)
      have hy := hm y (by simp)
      have h1' := congrArg UInt8.toNat h1
      rw [UInt8.toNat_ofNat', UInt8.toNat_ofNat'] at h1'
      exact ⟨by omega, ih (fun b hb => hl b (by simp [hb])) (fun b hb => hm b (by simp [hb])) h2⟩
theorem less_texts (l m : List Nat) (hl : ∀ b ∈ l, b ≤ 255) (hm : ∀ b ∈ m, b ≤ 255) : Op.bytesLess (strB l).toList (strB m).toList = decide (cmp16 l m = -1) := by
  rw [strB_toList, strB_toList]; exact bytesLess_cmp l m hl hm
theorem same_texts (l m : List Nat) (hl : ∀ b ∈ l, b ≤ 255) (hm : ∀ b ∈ m, b ≤ 255) : ((strB l).toList == (strB m).toList) = decide (cmp16 l m = 0) := by
  rw [strB_toList, strB_toList]
  by_cases h : l = m
  · subst h; rw [decide_eq_true (cmp16_zero.2 rfl)]; simp
  · rw [decide_eq_false (fun e => h (cmp16_zero.1 e))]
    simp only [beq_eq_false_iff_ne, ne_eq]
    exact fun e => h (ofNat_inj hl hm e)
/-- Three ways. -/
theorem cmp16_three (a b : List Nat) : cmp16 a b = -1 ∨ cmp16 a b = 0 ∨ cmp16 a b = 1 := by
  induction a generalizing b with
  | nil => cases b <;> simp [cmp16]
  | cons x xs ih =>
    cases b with
    | nil => simp [cmp16]
    | cons y ys =>
      simp only [cmp16]
      split
      · exact ih ys
      · split <;> simp
end Go.Proofs.Ytlmbpbijhhnhpaa
