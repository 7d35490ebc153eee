/- DataWords: of any values: Words tells the document's words, in memory of its own, and leaves what was lent. Condition: the bulk of what comes in is at most 1,048,576. -/
import Derived.Test.YtelhnaphkbpakaaRows
import Derived.ProofKit
import Derived.OpenShut
import Derived.ShutString
import Derived.ChangeOld
import Derived.JoinedCond
import Derived.Test.YtelhnaphkbpakaaMz22
namespace Go.Proofs.Ytelhnaphkbpakaa.dataWords
open Go.ChangeShapes Go.WideShapes Go.ChangeAt Go.RowKit Go.Deep
open Go.ChangeMaps (open_string shut_string)
set_option linter.unusedVariables false
set_option maxRecDepth 100000

theorem own : ownKnob Try.prog.godebug = none := by kernel_rfl
theorem laidOut : laidOutB Try.prog = true := by kernel_rfl

instance : Inhabited UV := ⟨⟨none, 0, []⟩⟩
set_option maxHeartbeats 1000000 in
theorem contract (H : Type) (enc : TypeId × Value → H) (W : World) (base : Nat) (args : Array Value) (ds gs : List (DataW H)) (before : List MemPlace)
    (hval0 : ∀ (j : Nat) t v, Try.f9.params[j]? = some t → args[j]? = some v → Value.okWide Try.prog W .any base t v)
    (hW : DataW.Whole enc Try.prog Try.f9.params.toList Rows.dataWordsSpec.vars false W args.toList ds gs before) (hk : Rows.uptoSmall H (ds ++ gs) = true) :
    Calls Try.prog 9 args W fun e W' => ∃ v, e = .returned v ∧ Rows.dataWordsSpec.post enc Try.prog Try.f9 false true false false W args v W' := by
  have hval : ∀ (j : Nat) t v, Try.f9.params[j]? = some t → args[j]? = some v → Value.okWide Try.prog W .any base t v := hval0
  have hW' := hW
  obtain ⟨p, q, hA0, hV, rfl, hfz, hnd⟩ := hW
  have hA : DataW.TrodAll enc Try.prog W 0 (fun _ => true) true Try.f9.params.toList args.toList ds p := hA0
  rw [Try.params9] at hA hval
  obtain ⟨v0, vs0, d0, ds0, p0, q0, hargs, rfl, rfl, h0, r0⟩ := trodAll_cons hA
  obtain ⟨rfl, rfl, rfl⟩ := trodAll_nil r0
  obtain rfl : args = #[v0] := by cases args; simp_all
  obtain ⟨rfl, rfl⟩ := trodVars_none hV
  have k0 := h0
  have lt0 : ∀ x ∈ p0, x.block < W.heap.size := by obtain ⟨m, hm⟩ := k0; exact DataW.trod_lt m _ _ _ hm
  have hkk : Rows.uptoBulkAll [d0] ≤ 1048576 := by
    have h : Rows.uptoBulkAll ([d0] ++ []) ≤ 1048576 := of_decide_eq_true hk
    simpa using h
  simp only [Rows.uptoBulkAll] at hkk
  obtain ⟨fuel0, hf0⟩ := h0
  obtain ⟨a0, n0, c0, rfl⟩ := okWide_slice Try.underlying57 (hval 0 57 v0 rfl rfl)
  obtain ⟨a0', len0, cap0, L0, hcs0, hl0, h10, h20, h30, h40⟩ := open_elems2 (fun x : UV => [.slice x.a x.us.length x.c]) (fun x b => Sl16 W x.a x.us ∧ x.us.length ≤ b ∧ x.us.length ≤ x.c ∧ x.c ≤ 9223372036854775807) 1 Try.underlying57 cells24 (fun _ => rfl) (by decide) (fun n cs x hb h => by
    obtain ⟨a, us, c, e, k1, k2, k3, k4⟩ := open_u16 hb h
    exact ⟨⟨a, c, us⟩, e, k1, k4, k2, k3⟩) (fun _ _ _ hmn h => ⟨h.1, Nat.le_trans h.2.1 hmn, h.2.2⟩) (by dsimp only; omega) hf0
  simp [Value.cells] at hcs0
  obtain ⟨rfl, rfl, rfl⟩ := hcs0
  subst hl0
  dsimp only at h30 h40
  clear hA0 hval0
  refine (dataWords_calls W (L := L0) _ (by omega) (fun i x hx => by obtain ⟨hg, b, off, e1, e2, e3⟩ := h40 i x hx; exact ⟨⟨hg.1, by have := hg.2.1; omega, hg.2.2⟩, b, off, e1, e2, by simpa using e3 0 _ rfl⟩)).mono fun e W' ⟨he, bel⟩ => ?_
  subst he
  exact ⟨_, rfl, _, _, _, [], _, [], hW', trodAll_mk1 (shut_bool Try.underlying4 _), (trodAll_cons_mk (Below.trod laidOut (by kernel_rfl) (of_decide_eq_true (by kernel_rfl)) k0 bel lt0) trodAll_mk0), rfl, bel.frame _, fun h => by cases h⟩

theorem lifted (os : Os) (started : os.Started) (H : Type) (enc : TypeId × Value → H) (F : Stop.Interp) :
    ReturnsInHanded {} Try.checked os 9 .any ((Rows.OpenSpec.upto Rows.dataWordsSpec).pre6 enc Try.prog Try.f9 Rows.dataWordsUptoRow.domain false) (((Rows.OpenSpec.upto Rows.dataWordsSpec).at F).post enc Try.prog Try.f9 false true false false) := by
  refine returnsInHanded_of_cond (C := Try.checked) (s := Rows.OpenSpec.upto Rows.dataWordsSpec) (k := Rows.uptoSmall) rfl own started (by kernel_rfl) Try.func9
    (OpenSpec.witness (enc := enc) (C := Try.checked) (s := Rows.OpenSpec.upto Rows.dataWordsSpec) (k := Rows.uptoSmall) rfl false ⟨#[], #[.slice none 0 0], []⟩ 8 (by kernel_rfl) (by kernel_rfl) (by kernel_rfl)
      (x := ([.nil], [], [])) (by kernel_rfl) rfl (by kernel_rfl)) ?_
  intro W base args ds gs before hval hW _ hk _
  exact contract H enc W base args ds gs before hval hW hk

theorem over : Rows.dataWordsUptoRow.holds Try.pinned (Rows.OpenSpec.upto Rows.dataWordsSpec) :=
  OpenClaim.holds_of_cond 9 Try.f9 rfl rfl rfl rfl rfl rfl rfl ⟨rfl, rfl, rfl, rfl, rfl⟩ rfl rfl rfl rfl rfl (by kernel_rfl) Try.func9 (by kernel_rfl)
    (of_decide_eq_true (by kernel_rfl)) (by unfold Func.isWrapper; first | (rw [if_pos (by decide +kernel)]; kernel_rfl) | (rw [if_neg (by decide +kernel)]; exact ⟨rfl, rfl⟩))
    (fun os started H enc _ F => lifted os started H enc F)

/-- THE STATEMENT. -/
theorem proved : Rows.DataWordsUptoSaid := over
#print axioms proved
end Go.Proofs.Ytelhnaphkbpakaa.dataWords

