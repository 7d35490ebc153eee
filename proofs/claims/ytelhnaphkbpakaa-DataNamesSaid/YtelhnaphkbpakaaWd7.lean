/- A text's bytes; is one within bounds: by the document's within. -/
import Derived.Test.YtelhnaphkbpakaaWd6
namespace Go.Proofs.Ytelhnaphkbpakaa
open Go.RowKit
set_option linter.unusedVariables false
set_option maxRecDepth 100000

/-- A byte of a text, as a number; 0 beyond its end. -/
def byteAt (s : ByteArray) (i : Nat) : Nat := (s.get! i).toNat
theorem byteAt_le (s : ByteArray) (i : Nat) : byteAt s i ≤ 255 := by have := (s.get! i).toNat_lt; unfold byteAt; omega
theorem byteAt_get (s : ByteArray) (i : Nat) (h : i < s.size) : (s[i]'h).toNat = byteAt s i := by
  unfold byteAt
  congr 1
  simp [ByteArray.get!, ByteArray.getElem_eq_getElem_data, h]

/-- Is a byte there, from lo to hi? -/
def within (s : ByteArray) (i lo hi : Nat) : Bool := decide (i < s.size) && decide (lo ≤ byteAt s i) && decide (byteAt s i ≤ hi)

end Go.Proofs.Ytelhnaphkbpakaa
