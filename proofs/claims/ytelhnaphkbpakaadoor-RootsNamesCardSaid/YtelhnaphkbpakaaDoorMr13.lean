/- Part 13 of the proof of RoP: lemmas. -/
import Derived.Test.YtelhnaphkbpakaaDoorMr12
namespace Go.Proofs.YtelhnaphkbpakaaDoor
open Go.RowKit
set_option linter.unusedVariables false
set_option maxRecDepth 100000
theorem beq0 (n : Nat) : ((n : Int) == 0) = (n == 0) := by cases n <;> rfl
def noName (nm : ByteArray) : Bool := decide (nm.toList = [])
def fitsD (k : Int) (nm : ByteArray) (dl al : Nat) : Bool :=
  if k = 1 then dl == 0
  else if k = 7 then al == 0
  else if k = 3 ∨ k = 8 then noName nm && al == 0
  else if k = 10 then dl == 0 && al == 0
  else if k = 9 ∨ k = 11 then noName nm && dl == 0 && al == 0
  else false
set_option maxHeartbeats 4000000 in
theorem fits_calls (w : World) (N : Nd) (h : NdIn w N) :
    Calls Tryd.prog 98 #[N.v] w fun e w' => e = .returned (.bool (fitsD N.kind N.name N.data.length N.L.length)) ∧ Below w.heap.size w w' := by
  obtain ⟨k, nm, da, dc, data, aa, ac, L, sl, ge⟩ := N
  simp only [Nd.v, Nd.cells] at *
  obtain ⟨n, en⟩ : ∃ n, n = L.length := ⟨_, rfl⟩
  obtain ⟨m, em⟩ : ∃ m, m = data.length := ⟨_, rfl⟩
  have hl1 := h.data.len
  have hl2 := h.attrs.len
  have hl3 := h.nam
  simp only [] at hl1 hl2 hl3
  rw [← en] at hl2 ⊢
  rw [← em] at hl1 ⊢
  clear en em h
  go_enter Tryd.func98, Tryd.ntmps98
  go_wp2_with fail
  all_goals go_ret
  all_goals refine ⟨?_, (by repeat (first | exact Below.refl _ _ | assumption | refine Below.drew ?_ | refine below_drewN ?_ _ | refine Below.alloc ?_ (by simp <;> omega) _ | refine Below.setCell ?_ (by simp <;> omega) _ | (apply bl_trans; assumption; (simp <;> omega))))⟩
  all_goals simp_all [fitsD, noName]
  all_goals first | exact beq0 _ | (rw [beq0] <;> simp_all) | (simp_all [beq0])
end Go.Proofs.YtelhnaphkbpakaaDoor
namespace Go.Proofs.YtelhnaphkbpakaaDoor
open Go Go.RowKit
set_option linter.unusedVariables false
section
variable {P : Program} (w : World)
end
end Go.Proofs.YtelhnaphkbpakaaDoor
