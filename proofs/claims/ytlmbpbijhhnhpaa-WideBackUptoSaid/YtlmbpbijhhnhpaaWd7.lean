/- A text's bytes; is one within bounds: by the document's within. -/
import Derived.Test.YtlmbpbijhhnhpaaWd6
namespace Go.Proofs.Ytlmbpbijhhnhpaa
open Go.RowKit
set_option linter.unusedVariables false
set_option maxRecDepth 100000

/-- A byte of a text, as a number; 0 beyond its end. -/
def byteAt (s : ByteArray) (i : Nat) : Nat := (s.get! i).toNat
theorem byteAt_le (s : ByteArray) (i : Nat) : byteAt s i ≤ 255 := by have := (s.get! i).toNat_lt; unfold byteAt; omega
theorem byteAt_get (s : ByteArray) (i : Nat) (h : i < s.size) : (s[i]'h).toNat = byteAt s i := by
  unfold byteAt
  congr 1
  simp [ByteArray.get!, ByteArray.getElem_eq_getElem_data, h]

/-- Is a byte there, from lo to hi? -/
def within (s : ByteArray) (i lo hi : Nat) : Bool := decide (i < s.size) && decide (lo ≤ byteAt s i) && decide (byteAt s i ≤ hi)

theorem ref_within (s : ByteArray) (i lo hi : Nat) (hs : s.size ≤ 9223372036854775807) (w : World) : Calls Try.prog 87 #[.string s, .int .i64 (i : Int), .int .u8 (lo : Int), .int .u8 (hi : Int)] w fun e w' => e = .returned (.bool (within s i lo hi)) ∧ w = w' := by
  unfold within
  obtain ⟨n, hn⟩ : ∃ n, n = s.size := ⟨_, rfl⟩
  by_cases h1 : i < s.size
  · have hb := byteAt_get s i h1
    have p1 : (i : Int) < (s.size : Int) := by omega
    obtain ⟨b, hbb⟩ : ∃ b, b = byteAt s i := ⟨_, rfl⟩
    rw [← hbb] at hb ⊢
    rw [decide_eq_true h1]
    by_cases h2 : lo ≤ b
    · have p2 : (lo : Int) ≤ (b : Int) := by omega
      rw [decide_eq_true h2]
      by_cases h3 : b ≤ hi
      · have p3 : (b : Int) ≤ (hi : Int) := by omega
        rw [decide_eq_true h3]
        have HBB := Lib.hid hbb
        clear hbb hn h2 h3
        go_enter Try.func87, Try.ntmps87
        go_wp2
        go_ret
        exact ⟨by first | rfl | simp, rfl⟩
      · have p3 : ¬ (b : Int) ≤ (hi : Int) := by omega
        rw [decide_eq_false h3]
        have HBB := Lib.hid hbb
        clear hbb hn h2 h3
        go_enter Try.func87, Try.ntmps87
        go_wp2
        go_ret
        exact ⟨by first | rfl | simp, rfl⟩
    · have p2 : ¬ (lo : Int) ≤ (b : Int) := by omega
      rw [decide_eq_false h2]
      have HBB := Lib.hid hbb
      clear hbb hn h2
      go_enter Try.func87, Try.ntmps87
      go_wp2
      go_ret
      exact ⟨by first | rfl | simp, rfl⟩
  · have p1 : ¬ (i : Int) < (s.size : Int) := by omega
    rw [decide_eq_false h1]
    go_enter Try.func87, Try.ntmps87
    go_wp2
    go_ret
    exact ⟨by first | rfl | simp, rfl⟩
end Go.Proofs.Ytlmbpbijhhnhpaa
