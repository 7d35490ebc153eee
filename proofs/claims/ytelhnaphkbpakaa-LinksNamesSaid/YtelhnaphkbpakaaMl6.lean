/- The program's own table of sequences; how many bytes a code point has; is it a half. A text's bytes; is one within bounds: by the document's within. -/
import Derived.Test.YtelhnaphkbpakaaMl5
namespace Go.Proofs.Ytelhnaphkbpakaa
open Go.RowKit
set_option linter.unusedVariables false
set_option maxRecDepth 100000

set_option maxHeartbeats 2000000 in
/-- The program's own table: none begins with a byte below 128. -/
theorem wide_second (c : Nat) (w : World) : Calls Try.prog 110 #[.int .u8 (c : Int)] w fun e w' => e = .returned (.tuple #[.int .u8 ((rowOf c).2.1 : Int), .int .u8 ((rowOf c).2.2 : Int), .int .i64 (if c < 128 then 0 else ((rowOf c).1 : Int))]) ∧ w = w' := by
  rcases row_cases c with ⟨h, e⟩ | ⟨h, h', e⟩ | ⟨h, e⟩ | ⟨h, e⟩ | ⟨h, h', h'', e⟩ | ⟨h, e⟩ | ⟨h, h', e⟩ | ⟨h, e⟩ | ⟨h, e⟩
  all_goals rw [e]; clear e
  all_goals first | rw [if_neg (by omega)] | rw [if_pos (by omega)]
  · have q1 : ¬ (194 : Int) ≤ (c : Int) := by omega
    have q3 : ((c : Int) == 224) = false := by simp; omega
    have q4 : ((c : Int) == 237) = false := by simp; omega
    have q5 : ¬ (225 : Int) ≤ (c : Int) := by omega
    have q8 : ((c : Int) == 240) = false := by simp; omega
    have q9 : ¬ (241 : Int) ≤ (c : Int) := by omega
    have q11 : ((c : Int) == 244) = false := by simp; omega
    clear h
    go_enter Try.func110, Try.ntmps110
    go_wp2
    go_ret3
    exact ⟨rfl, rfl⟩
  · have q : ¬ (c : Int) < 128 := by omega
    have q1 : (194 : Int) ≤ (c : Int) := by omega
    have q2 : (c : Int) ≤ 223 := by omega
    clear h h'
    go_enter Try.func110, Try.ntmps110
    go_wp2
    go_ret3
    exact ⟨rfl, rfl⟩
  · subst h
    go_enter Try.func110, Try.ntmps110
    go_wp2
    go_ret3
    exact ⟨rfl, rfl⟩
  · subst h
    go_enter Try.func110, Try.ntmps110
    go_wp2
    go_ret3
    exact ⟨rfl, rfl⟩
  · have q : ¬ (c : Int) < 128 := by omega
    have q1 : ¬ (c : Int) ≤ 223 := by omega
    have q3 : ((c : Int) == 224) = false := by simp; omega
    have q4 : ((c : Int) == 237) = false := by simp; omega
    have q5 : (225 : Int) ≤ (c : Int) := by omega
    have q6 : (c : Int) ≤ 239 := by omega
    have q7 : (194 : Int) ≤ (c : Int) := by omega
    clear h h' h''
    go_enter Try.func110, Try.ntmps110
    go_wp2
    go_ret3
    exact ⟨rfl, rfl⟩
  · subst h
    go_enter Try.func110, Try.ntmps110
    go_wp2
    go_ret3
    exact ⟨rfl, rfl⟩
  · have q : ¬ (c : Int) < 128 := by omega
    have q1 : ¬ (c : Int) ≤ 223 := by omega
    have q3 : ((c : Int) == 224) = false := by simp; omega
    have q4 : ((c : Int) == 237) = false := by simp; omega
    have q5 : (225 : Int) ≤ (c : Int) := by omega
    have q6 : ¬ (c : Int) ≤ 239 := by omega
    have q7 : (194 : Int) ≤ (c : Int) := by omega
    have q8 : ((c : Int) == 240) = false := by simp; omega
    have q9 : (241 : Int) ≤ (c : Int) := by omega
    have q10 : (c : Int) ≤ 243 := by omega
    clear h h'
    go_enter Try.func110, Try.ntmps110
    go_wp2
    go_ret3
    exact ⟨rfl, rfl⟩
  · subst h
    go_enter Try.func110, Try.ntmps110
    go_wp2
    go_ret3
    exact ⟨rfl, rfl⟩
  · rcases h with ⟨h, h'⟩ | h
    · have q : ¬ (c : Int) < 128 := by omega
      have q1 : ¬ (194 : Int) ≤ (c : Int) := by omega
      have q3 : ((c : Int) == 224) = false := by simp; omega
      have q4 : ((c : Int) == 237) = false := by simp; omega
      have q5 : ¬ (225 : Int) ≤ (c : Int) := by omega
      have q8 : ((c : Int) == 240) = false := by simp; omega
      have q9 : ¬ (241 : Int) ≤ (c : Int) := by omega
      have q11 : ((c : Int) == 244) = false := by simp; omega
      clear h h'
      go_enter Try.func110, Try.ntmps110
      go_wp2
      go_ret3
      exact ⟨rfl, rfl⟩
    · have q : ¬ (c : Int) < 128 := by omega
      have q1 : (194 : Int) ≤ (c : Int) := by omega
      have q2 : ¬ (c : Int) ≤ 223 := by omega
      have q3 : ((c : Int) == 224) = false := by simp; omega
      have q4 : ((c : Int) == 237) = false := by simp; omega
      have q5 : (225 : Int) ≤ (c : Int) := by omega
      have q6 : ¬ (c : Int) ≤ 239 := by omega
      have q8 : ((c : Int) == 240) = false := by simp; omega
      have q9 : (241 : Int) ≤ (c : Int) := by omega
      have q10 : ¬ (c : Int) ≤ 243 := by omega
      have q11 : ((c : Int) == 244) = false := by simp; omega
      clear h
      go_enter Try.func110, Try.ntmps110
      go_wp2
      go_ret3
      exact ⟨rfl, rfl⟩

/-- How many bytes a code point has. -/
def runeLen (c : Nat) : Nat := if c < 128 then 1 else if c < 2048 then 2 else if c < 65536 then 3 else 4
theorem rune_len (c : Nat) (h : c < 55296 ∨ (57343 < c ∧ c ≤ 1114111)) (w : World) : Calls Try.prog 102 #[.int .i32 (c : Int)] w fun e w' => e = .returned (.int .i64 (runeLen c : Int)) ∧ w = w' := by
  unfold runeLen
  have q0 : ¬ (c : Int) < 0 := by omega
  by_cases h1 : c < 128
  · rw [if_pos h1]
    have q1 : (c : Int) ≤ 127 := by omega
    clear h h1
    go_enter Try.func102, Try.ntmps102
    go_wp2
    go_ret
    exact ⟨rfl, rfl⟩
  rw [if_neg h1]
  have q1 : ¬ (c : Int) ≤ 127 := by omega
  by_cases h2 : c < 2048
  · rw [if_pos h2]
    have q2 : (c : Int) ≤ 2047 := by omega
    clear h h1 h2
    go_enter Try.func102, Try.ntmps102
    go_wp2
    go_ret
    exact ⟨rfl, rfl⟩
  rw [if_neg h2]
  have q2 : ¬ (c : Int) ≤ 2047 := by omega
  by_cases h3 : c < 65536
  · rw [if_pos h3]
    have q5 : (c : Int) ≤ 65535 := by omega
    by_cases h4 : c < 55296
    · have q3 : ¬ (55296 : Int) ≤ (c : Int) := by omega
      clear h h1 h2 h3 h4
      go_enter Try.func102, Try.ntmps102
      go_wp2
      go_ret
      exact ⟨rfl, rfl⟩
    · have q3 : (55296 : Int) ≤ (c : Int) := by omega
      have q4 : ¬ (c : Int) ≤ 57343 := by omega
      clear h h1 h2 h3 h4
      go_enter Try.func102, Try.ntmps102
      go_wp2
      go_ret
      exact ⟨rfl, rfl⟩
  · rw [if_neg h3]
    have q3 : (55296 : Int) ≤ (c : Int) := by omega
    have q4 : ¬ (c : Int) ≤ 57343 := by omega
    have q5 : ¬ (c : Int) ≤ 65535 := by omega
    have q6 : (c : Int) ≤ 1114111 := by omega
    clear h h1 h2 h3
    go_enter Try.func102, Try.ntmps102
    go_wp2
    go_ret
    exact ⟨rfl, rfl⟩

/-- Is a code point a half? -/
theorem lone_half (c : Int) (w : World) : Calls Try.prog 98 #[.int .i32 c] w fun e w' => e = .returned (.bool (decide (55296 ≤ c ∧ c ≤ 57343))) ∧ w = w' := by
  by_cases h1 : 55296 ≤ c
  · by_cases h2 : c ≤ 57343
    · rw [decide_eq_true ⟨h1, h2⟩]
      go_enter Try.func98, Try.ntmps98
      go_wp2
      go_ret
      exact ⟨by first | rfl | simp [h1, h2], rfl⟩
    · rw [decide_eq_false (fun h => h2 h.2)]
      go_enter Try.func98, Try.ntmps98
      go_wp2
      go_ret
      exact ⟨by first | rfl | simp [h1, h2], rfl⟩
  · rw [decide_eq_false (fun h => h1 h.1)]
    go_enter Try.func98, Try.ntmps98
    go_wp2
    go_ret
    exact ⟨by first | rfl | simp [h1], rfl⟩
end Go.Proofs.Ytelhnaphkbpakaa

namespace Go.Proofs.Ytelhnaphkbpakaa
open Go.RowKit
set_option linter.unusedVariables false
set_option maxRecDepth 100000

/-- A byte of a text, as a number; 0 beyond its end. -/
def byteAt (s : ByteArray) (i : Nat) : Nat := (s.get! i).toNat
theorem byteAt_le (s : ByteArray) (i : Nat) : byteAt s i ≤ 255 := by have := (s.get! i).toNat_lt; unfold byteAt; omega
theorem byteAt_get (s : ByteArray) (i : Nat) (h : i < s.size) : (s[i]'h).toNat = byteAt s i := by
  unfold byteAt
  congr 1
  simp [ByteArray.get!, ByteArray.getElem_eq_getElem_data, h]

/-- Is a byte there, from lo to hi? -/
def within (s : ByteArray) (i lo hi : Nat) : Bool := decide (i < s.size) && decide (lo ≤ byteAt s i) && decide (byteAt s i ≤ hi)

end Go.Proofs.Ytelhnaphkbpakaa

