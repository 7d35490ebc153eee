/- From, whole: a text's units, in a row of the call's own; its slice has no room behind it. -/
import Derived.Test.YtelhnaphkbpakaaWd13
import Derived.Conc.MuLone
namespace Go.Proofs.Ytelhnaphkbpakaa
open Go.RowKit Go.Shelf
set_option linter.unusedVariables false
set_option maxRecDepth 100000

theorem pcsFrom_mem (s : ByteArray) (p : Nat) : ∀ x ∈ pcsFrom s p, ∃ q, q < s.size ∧ x = pcAt s q := by
  intro x hx
  induction p using pcsFrom.induct s with
  | case1 p h ih =>
    rw [pcsFrom_step s p h] at hx
    rcases List.mem_cons.1 hx with rfl | hx
    · exact ⟨p, h, rfl⟩
    · exact ih hx
  | case2 p h => rw [pcsFrom_end s p h] at hx; cases hx
theorem pcsFrom_len (s : ByteArray) (p : Nat) : (pcsFrom s p).length ≤ s.size - p := by
  induction p using pcsFrom.induct s with
  | case1 p h ih =>
    rw [pcsFrom_step s p h, List.length_cons]
    have := (pcAt_n_bnd s p).1
    omega
  | case2 p h => rw [pcsFrom_end s p h]; simp
theorem pcs_len (s : ByteArray) : (pcs s).length ≤ s.size := by have := pcsFrom_len s 0; simpa [pcs] using this
theorem pcAt_c_le (s : ByteArray) (p : Nat) : (pcAt s p).c ≤ 1114111 := by
  cases h : (pcAt s p).ok with
  | true => have := (pcAt_good s p h).1; omega
  | false => have := (pcAt_bad s p h).1; omega
theorem pcs_c {s : ByteArray} {pre : List Pc} {x : Pc} {rest : List Pc} (h : pcs s = pre ++ x :: rest) : x.c ≤ 1114111 := by
  obtain ⟨q, _, rfl⟩ := pcsFrom_mem s 0 x (by rw [show pcsFrom s 0 = pcs s from rfl, h]; simp)
  exact pcAt_c_le s q
theorem unitsOf_len (c : Nat) : (unitsOf c).length ≤ 2 := by unfold unitsOf; split <;> simp
theorem fromPc_len (l : List Pc) : (fromPc l).length ≤ 2 * l.length := by
  unfold fromPc
  induction l with
  | nil => simp
  | cons x l ih =>
    simp only [List.flatMap_cons, List.length_append, List.length_cons]
    have := unitsOf_len x.c
    omega
theorem pcs_pre {s : ByteArray} {pre : List Pc} {x : Pc} {rest : List Pc} (h : pcs s = pre ++ x :: rest) : (fromPc pre).length ≤ 2 * s.size := by
  have h1 := fromPc_len pre
  have h2 := pcs_len s
  rw [h] at h2
  simp at h2
  omega

theorem rwGrow {w w' : World} {base : Nat} {e : TypeId} {size : Nat} {v : Value} {n : Nat} {xs : List Value} (h : w.ownsRow base e size v n xs) {row : Option Nat} (hg : w.grownBy w' row) (hr : ∀ r, row = some r → ∃ o : Obj, w.heap[r]? = some o ∧ o.isCells = false) : w'.ownsRow base e size v n xs := by
  refine h.kept hg ?_
  rcases h.2 with ⟨rfl, _⟩ | ⟨g, cap, cur, rfl, _, hg', _⟩
  · exact .inl rfl
  · right
    intro e1
    obtain ⟨o, ho, hc⟩ := hr g e1.symm
    rw [hg'] at ho
    cases ho
    cases hc
theorem walk_notCells {o : Obj} (h : o.isWalk = true) : o.isCells = false := by cases o <;> simp_all [Obj.isWalk, Obj.isCells]

theorem Box16.abide {B bx : Nat} {us : List Nat} {w0 w w' : World} (h : Box16 B bx us w0 w) {row : Option Nat} (hg : w.grownBy w' row) (hr : ∀ r, row = some r → B ≤ r ∧ ∃ o : Obj, w.heap[r]? = some o ∧ o.isWalk = true) : Box16 B bx us w0 w' := by
  obtain ⟨a, cap, h1, h2⟩ := h.row
  refine ⟨⟨a, cap, ?_, rwGrow h2 hg (fun r e => by obtain ⟨_, o, ho, hw⟩ := hr r e; exact ⟨o, ho, walk_notCells hw⟩)⟩, h.bnd, h.bel.grown hg h.le (fun r e => (hr r e).1), Nat.le_trans h.le hg.size, h.bx⟩
  refine (hg.block bx (lt_of_some h1) ?_).trans h1
  intro e1
  obtain ⟨_, o, ho, hw⟩ := hr bx e1.symm
  rw [h1] at ho
  cases ho
  cases hw

theorem clip16 (a : Option Addr) (n cap : Nat) (hn : n ≤ cap) (hm : cap ≤ 9223372036854775807) (w : World) :
    Calls Try.prog 68 #[.slice a n cap] w fun e w' => e = .returned (.slice a n n) ∧ w = w' := by
  have p1 : (n : Int) ≤ (cap : Int) := by omega
  go_enter Try.func68, Try.ntmps68
  go_wp2
  go_ret
  exact ⟨rfl, rfl⟩

/-- What From hands back: a row of the call's own; its slice has no room behind it. -/
structure Clip16 (B : Nat) (w : World) (a : Option Addr) (us : List Nat) : Prop where
  row : ∃ cap, w.ownsRow B 45 1 (.slice a us.length cap) us.length (enc16 us)
  bnd : ∀ u ∈ us, u ≤ 65535
  len : us.length ≤ 9223372036854775807
theorem Clip16.sl {B : Nat} {w : World} {a : Option Addr} {us : List Nat} (h : Clip16 B w a us) : Sl16 w a us := by
  obtain ⟨cap, hr⟩ := h.row
  exact sl16_of_row (more := []) (n := 0) (by simpa using hr) (Nat.le_refl _) h.bnd h.len

end Go.Proofs.Ytelhnaphkbpakaa
