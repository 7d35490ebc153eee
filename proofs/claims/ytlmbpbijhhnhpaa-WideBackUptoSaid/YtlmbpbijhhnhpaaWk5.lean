/- What the loop over a text's bad pieces gathers. No program. -/
import Derived.Test.YtlmbpbijhhnhpaaWk4
namespace Go.Proofs.Ytlmbpbijhhnhpaa
open Go.RowKit
set_option linter.unusedVariables false

/-- A round: where the next begins; what is gathered. -/
def stF (s : ByteArray) (q : Nat × List Nat) (x : Pc) : Nat × List Nat := (x.p + x.n, q.2 ++ bytesOf s q.1 x.p ++ [239, 191, 189])
def stL (s : ByteArray) (l : List Pc) : Nat × List Nat := l.foldl (stF s) (0, [])
theorem stL_snoc (s : ByteArray) (l : List Pc) (x : Pc) : stL s (l ++ [x]) = stF s (stL s l) x := by simp [stL]
/-- A round's test passes. -/
def Fits (s : ByteArray) (f : Nat) (x : Pc) : Prop := f ≤ x.p ∧ 1 ≤ x.n ∧ x.n ≤ 3 ∧ x.p + x.n ≤ s.size
theorem st_end (s : ByteArray) (l : List Pc) (p : Nat) (wn : List Nat) (hp : p ≤ s.size) (hl : (pcsFrom s p).filter isBad = l) :
    (l.foldl (stF s) (p, wn)).1 ≤ s.size ∧ (l.foldl (stF s) (p, wn)).2 ++ bytesOf s (l.foldl (stF s) (p, wn)).1 s.size = wn ++ (pcsFrom s p).flatMap (mb s) := by
  induction l generalizing p wn with
  | nil =>
    rw [(next_bad s p hp).1 hl]
    exact ⟨hp, rfl⟩
  | cons x l ih =>
    obtain ⟨h1, h2, h3, h4, h5, h6, h7⟩ := (next_bad s p hp).2 x l hl
    have := ih (x.p + x.n) (wn ++ bytesOf s p x.p ++ [239, 191, 189]) h2 h6.symm
    rw [List.foldl_cons]
    refine ⟨this.1, ?_⟩
    rw [show stF s (p, wn) x = (x.p + x.n, wn ++ bytesOf s p x.p ++ [239, 191, 189]) from rfl, this.2, h7]
    simp
theorem st_fits (s : ByteArray) (pre : List Pc) (x : Pc) (p : Nat) (wn : List Nat) (hp : p ≤ s.size) (h : pre ++ [x] <+: (pcsFrom s p).filter isBad) : Fits s (pre.foldl (stF s) (p, wn)).1 x := by
  induction pre generalizing p wn with
  | nil =>
    obtain ⟨r, hr⟩ := h
    obtain ⟨h1, h2, h3, h4, h5, h6, h7⟩ := (next_bad s p hp).2 x r hr.symm
    exact ⟨h1, h4, h5, h2⟩
  | cons y pre ih =>
    obtain ⟨r, hr⟩ := h
    obtain ⟨h1, h2, h3, h4, h5, h6, h7⟩ := (next_bad s p hp).2 y (pre ++ [x] ++ r) (by rw [← hr]; simp)
    exact ih (y.p + y.n) _ h2 ⟨r, h6⟩
theorem badL_filter (s : ByteArray) : badL (pcs s) = (pcsFrom s 0).filter isBad := rfl
theorem fits_bad (s : ByteArray) (pre : List Pc) (x : Pc) (h : pre ++ [x] <+: badL (pcs s)) : Fits s (stL s pre).1 x := st_fits s pre x 0 [] (Nat.zero_le _) h
theorem gathered (s : ByteArray) : (stL s (badL (pcs s))).1 ≤ s.size ∧ (stL s (badL (pcs s))).2 ++ bytesOf s (stL s (badL (pcs s))).1 s.size = textU (uns (fromPc (pcs s))) := by
  have h := st_end s (badL (pcs s)) 0 [] (Nat.zero_le _) (badL_filter s).symm
  rw [text_mended]
  exact h
theorem bytesOf_len (s : ByteArray) (i j : Nat) : (bytesOf s i j).length = j - i := by simp [bytesOf]
theorem bytesOf_le (s : ByteArray) (i j : Nat) : ∀ b ∈ bytesOf s i j, b ≤ 255 := by
  intro b hb
  obtain ⟨k, _, rfl⟩ := List.mem_map.1 hb
  exact byteAt_le s _
/-- What holds between rounds. -/
structure StOk (s : ByteArray) (q : Nat × List Nat) : Prop where
  le : q.1 ≤ s.size
  len : q.2.length ≤ 4 * q.1
  bytes : ∀ b ∈ q.2, b ≤ 255
theorem StOk.zero (s : ByteArray) : StOk s (0, []) := ⟨Nat.zero_le _, by simp, by simp⟩
theorem StOk.next {s : ByteArray} {q : Nat × List Nat} {x : Pc} (h : StOk s q) (hx : Fits s q.1 x) : StOk s (stF s q x) := by
  obtain ⟨h1, h2, h3, h4⟩ := hx
  refine ⟨h4, ?_, ?_⟩
  · have := h.len
    simp only [stF, List.length_append, bytesOf_len, List.length_cons, List.length_nil]
    omega
  · intro b hb
    simp only [stF, List.mem_append] at hb
    rcases hb with (hb | hb) | hb
    · exact h.bytes b hb
    · exact bytesOf_le s _ _ b hb
    · simp only [List.mem_cons, List.not_mem_nil, or_false] at hb
      omega
end Go.Proofs.Ytlmbpbijhhnhpaa
