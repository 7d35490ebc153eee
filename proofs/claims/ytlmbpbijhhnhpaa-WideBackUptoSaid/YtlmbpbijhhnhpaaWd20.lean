/- The document's bytes of a code point. -/
import Derived.Test.YtlmbpbijhhnhpaaWd16
namespace Go.Proofs.Ytlmbpbijhhnhpaa
open Go.RowKit
set_option linter.unusedVariables false
set_option maxRecDepth 100000

theorem i32_and63 {x : Int} (h₀ : 0 ≤ x) (h₁ : x < 2147483648) : bits .and .i32 x 63 = x % 64 := bits_mask .i32 31 (by decide) wraps_i32 6 (by decide) x h₀ h₁
theorem i32_or128 {x : Int} (h₀ : 0 ≤ x) (h₁ : x < 64) : bits .or .i32 128 x = 128 + x := bits_join .i32 31 (by decide) wraps_i32 6 128 x (by decide) (by decide) (by decide) h₀ (by simpa using h₁) (by simp; omega)
theorem i32_or192 {x : Int} (h₀ : 0 ≤ x) (h₁ : x < 32) : bits .or .i32 192 x = 192 + x := bits_join .i32 31 (by decide) wraps_i32 5 192 x (by decide) (by decide) (by decide) h₀ (by simpa using h₁) (by simp; omega)
theorem i32_or224 {x : Int} (h₀ : 0 ≤ x) (h₁ : x < 16) : bits .or .i32 224 x = 224 + x := bits_join .i32 31 (by decide) wraps_i32 4 224 x (by decide) (by decide) (by decide) h₀ (by simpa using h₁) (by simp; omega)
theorem i32_or240 {x : Int} (h₀ : 0 ≤ x) (h₁ : x < 8) : bits .or .i32 240 x = 240 + x := bits_join .i32 31 (by decide) wraps_i32 3 240 x (by decide) (by decide) (by decide) h₀ (by simpa using h₁) (by simp; omega)

theorem bytes_one (c : Nat) (h : c < 128) (w : World) : Calls Try.prog 79 #[.int .i32 (c : Int)] w fun e w' => e = .returned (.slice (some ⟨w.heap.size, 0, none⟩) 1 1) ∧ w' = w.alloc (.cells #[.int .u8 ((c : Int))] 5) := by
  have p0 : (c : Int) < 128 := by omega
  go_enter Try.func79, Try.ntmps79
  go_wp2
  go_ret
  exact ⟨rfl, rfl⟩

theorem bytes_two (c : Nat) (h0 : 128 ≤ c) (h1 : c < 2048) (w : World) : Calls Try.prog 79 #[.int .i32 (c : Int)] w fun e w' => e = .returned (.slice (some ⟨w.heap.size, 0, none⟩) 2 2) ∧ w' = w.alloc (.cells #[.int .u8 (192 + (c : Int) / 64), .int .u8 (128 + (c : Int) % 64)] 5) := by
  have p0 : ¬ (c : Int) < 128 := by omega
  have p1 : (c : Int) < 2048 := by omega
  have b0 : bits .and .i32 ((c : Int)) 63 = (c : Int) % 64 := i32_and63 (by omega) (by omega)
  have b1 : bits .or .i32 192 ((c : Int) / 64) = 192 + (c : Int) / 64 := i32_or192 (by omega) (by omega)
  have b2 : bits .or .i32 128 ((c : Int) % 64) = 128 + (c : Int) % 64 := i32_or128 (by omega) (by omega)
  go_enter Try.func79, Try.ntmps79
  go_wp2
  go_ret
  exact ⟨rfl, rfl⟩

theorem bytes_three (c : Nat) (h0 : 2048 ≤ c) (h1 : c < 65536) (w : World) : Calls Try.prog 79 #[.int .i32 (c : Int)] w fun e w' => e = .returned (.slice (some ⟨w.heap.size, 0, none⟩) 3 3) ∧ w' = w.alloc (.cells #[.int .u8 (224 + (c : Int) / 4096), .int .u8 (128 + (c : Int) / 64 % 64), .int .u8 (128 + (c : Int) % 64)] 5) := by
  have p0 : ¬ (c : Int) < 128 := by omega
  have p1 : ¬ (c : Int) < 2048 := by omega
  have p2 : (c : Int) < 65536 := by omega
  have b0 : bits .and .i32 ((c : Int)) 63 = (c : Int) % 64 := i32_and63 (by omega) (by omega)
  have b1 : bits .and .i32 ((c : Int) / 64) 63 = (c : Int) / 64 % 64 := i32_and63 (by omega) (by omega)
  have b2 : bits .or .i32 224 ((c : Int) / 4096) = 224 + (c : Int) / 4096 := i32_or224 (by omega) (by omega)
  have b3 : bits .or .i32 128 ((c : Int) / 64 % 64) = 128 + (c : Int) / 64 % 64 := i32_or128 (by omega) (by omega)
  have b4 : bits .or .i32 128 ((c : Int) % 64) = 128 + (c : Int) % 64 := i32_or128 (by omega) (by omega)
  go_enter Try.func79, Try.ntmps79
  go_wp2
  go_ret
  exact ⟨rfl, rfl⟩

theorem bytes_four (c : Nat) (h0 : 65536 ≤ c) (h1 : c ≤ 1114111) (w : World) : Calls Try.prog 79 #[.int .i32 (c : Int)] w fun e w' => e = .returned (.slice (some ⟨w.heap.size, 0, none⟩) 4 4) ∧ w' = w.alloc (.cells #[.int .u8 (240 + (c : Int) / 262144), .int .u8 (128 + (c : Int) / 4096 % 64), .int .u8 (128 + (c : Int) / 64 % 64), .int .u8 (128 + (c : Int) % 64)] 5) := by
  have p0 : ¬ (c : Int) < 128 := by omega
  have p1 : ¬ (c : Int) < 2048 := by omega
  have p2 : ¬ (c : Int) < 65536 := by omega
  have b0 : bits .and .i32 ((c : Int)) 63 = (c : Int) % 64 := i32_and63 (by omega) (by omega)
  have b1 : bits .and .i32 ((c : Int) / 64) 63 = (c : Int) / 64 % 64 := i32_and63 (by omega) (by omega)
  have b2 : bits .and .i32 ((c : Int) / 4096) 63 = (c : Int) / 4096 % 64 := i32_and63 (by omega) (by omega)
  have b3 : bits .or .i32 240 ((c : Int) / 262144) = 240 + (c : Int) / 262144 := i32_or240 (by omega) (by omega)
  have b4 : bits .or .i32 128 ((c : Int) / 4096 % 64) = 128 + (c : Int) / 4096 % 64 := i32_or128 (by omega) (by omega)
  have b5 : bits .or .i32 128 ((c : Int) / 64 % 64) = 128 + (c : Int) / 64 % 64 := i32_or128 (by omega) (by omega)
  have b6 : bits .or .i32 128 ((c : Int) % 64) = 128 + (c : Int) % 64 := i32_or128 (by omega) (by omega)
  go_enter Try.func79, Try.ntmps79
  go_wp2
  go_ret
  exact ⟨rfl, rfl⟩

theorem ref_bytes (c : Nat) (hc : c ≤ 1114111) (w : World) : Calls Try.prog 79 #[.int .i32 (c : Int)] w fun e w' => e = .returned (.slice (some ⟨w.heap.size, 0, none⟩) (runeB c).length (runeB c).length) ∧ w' = w.alloc (.cells (encB (runeB c)).toArray 5) := by
  by_cases h1 : c < 128
  · have e : runeB c = [c] := by unfold runeB; rw [if_pos h1]
    rw [e]
    exact (bytes_one c h1 w).mono fun _ _ ⟨a, b⟩ => ⟨a, by rw [b]; simp [encB]⟩
  · by_cases h2 : c < 2048
    · have e : runeB c = [192 + c / 64, 128 + c % 64] := by unfold runeB; rw [if_neg h1, if_pos h2]
      rw [e]
      exact (bytes_two c (by omega) h2 w).mono fun _ _ ⟨a, b⟩ => ⟨a, by rw [b]; simp [encB]⟩
    · by_cases h3 : c < 65536
      · have e : runeB c = [224 + c / 4096, 128 + c / 64 % 64, 128 + c % 64] := by unfold runeB; rw [if_neg h1, if_neg h2, if_pos h3]
        rw [e]
        exact (bytes_three c (by omega) h3 w).mono fun _ _ ⟨a, b⟩ => ⟨a, by rw [b]; simp [encB]⟩
      · have e : runeB c = [240 + c / 262144, 128 + c / 4096 % 64, 128 + c / 64 % 64, 128 + c % 64] := by unfold runeB; rw [if_neg h1, if_neg h2, if_neg h3]
        rw [e]
        exact (bytes_four c (by omega) hc w).mono fun _ _ ⟨a, b⟩ => ⟨a, by rw [b]; simp [encB]⟩
end Go.Proofs.Ytlmbpbijhhnhpaa
