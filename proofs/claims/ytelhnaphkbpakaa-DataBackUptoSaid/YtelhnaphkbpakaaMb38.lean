/- DataBack: what is done to a node is undone; Equal is an equivalence. Condition: the bulk of what comes in is at most 1,048,576. -/
import Derived.Test.YtelhnaphkbpakaaRows
import Derived.ProofKit
import Derived.OpenShut
import Derived.ShutString
import Derived.ChangeOld
import Derived.JoinedCond
import Derived.Test.YtelhnaphkbpakaaMb37
namespace Go.Proofs.Ytelhnaphkbpakaa.dataBack
open Go.ChangeShapes Go.WideShapes Go.ChangeAt Go.RowKit Go.Deep
open Go.ChangeMaps (open_string shut_string)
set_option linter.unusedVariables false
set_option maxRecDepth 100000

theorem own : ownKnob Try.prog.godebug = none := by kernel_rfl
theorem laidOut : laidOutB Try.prog = true := by kernel_rfl

set_option maxHeartbeats 1000000 in
theorem contract (H : Type) (enc : TypeId × Value → H) (W : World) (base : Nat) (args : Array Value) (ds gs : List (DataW H)) (before : List MemPlace)
    (hval0 : ∀ (j : Nat) t v, Try.f8.params[j]? = some t → args[j]? = some v → Value.okWide Try.prog W .any base t v)
    (hW : DataW.Whole enc Try.prog Try.f8.params.toList Rows.dataBackSpec.vars false W args.toList ds gs before) (hk : Rows.uptoSmall H (ds ++ gs) = true) :
    Calls Try.prog 8 args W fun e W' => ∃ v, e = .returned v ∧ Rows.dataBackSpec.post enc Try.prog Try.f8 false true false false W args v W' := by
  have hval : ∀ (j : Nat) t v, Try.f8.params[j]? = some t → args[j]? = some v → Value.okWide Try.prog W .any base t v := hval0
  have hW' := hW
  obtain ⟨p, q, hA0, hV, rfl, hfz, hnd⟩ := hW
  have hA : DataW.TrodAll enc Try.prog W 0 (fun _ => true) true Try.f8.params.toList args.toList ds p := hA0
  rw [Try.params8] at hA hval
  obtain ⟨v0, vs0, d0, ds0, p0, q0, hargs, rfl, rfl, h0, r0⟩ := trodAll_cons hA
  obtain ⟨v1, vs1, d1, ds1, p1, q1, rfl, rfl, rfl, h1, r1⟩ := trodAll_cons r0
  obtain ⟨v2, vs2, d2, ds2, p2, q2, rfl, rfl, rfl, h2, r2⟩ := trodAll_cons r1
  obtain ⟨rfl, rfl, rfl⟩ := trodAll_nil r2
  obtain rfl : args = #[v0, v1, v2] := by cases args; simp_all
  obtain ⟨rfl, rfl⟩ := trodVars_none hV
  have k0 := h0
  have k1 := h1
  have k2 := h2
  have lt0 : ∀ x ∈ p0, x.block < W.heap.size := by obtain ⟨m, hm⟩ := k0; exact DataW.trod_lt m _ _ _ hm
  have lt1 : ∀ x ∈ p1, x.block < W.heap.size := by obtain ⟨m, hm⟩ := k1; exact DataW.trod_lt m _ _ _ hm
  have lt2 : ∀ x ∈ p2, x.block < W.heap.size := by obtain ⟨m, hm⟩ := k2; exact DataW.trod_lt m _ _ _ hm
  have hkk : Rows.uptoBulkAll [d0, d1, d2] ≤ 1048576 := by
    have h : Rows.uptoBulkAll ([d0, d1, d2] ++ []) ≤ 1048576 := of_decide_eq_true hk
    simpa using h
  simp only [Rows.uptoBulkAll] at hkk
  obtain ⟨fuel0, hf0⟩ := h0
  obtain ⟨N0, off0, cnt0, ba0, us0, bc0, hcs0, hN0, hB0, hS0, hu0, hu0', hu0'', wo0, wc0⟩ := open_cutB (by dsimp only; omega) hf0
  obtain ⟨c0, rfl, hc0⟩ := agg_of hcs0 (by simp [cutCells])
  obtain rfl := Array.toList_inj.1 hc0
  have bb1 := bulk_one d1
  dsimp only at hB0 hu0
  obtain ⟨fuel1, hf1⟩ := h1
  obtain ⟨s1, hcs1, hx1, hm1⟩ := DataW.trod_string Try.underlying9 hf1
  obtain ⟨s1', rfl⟩ := okWide_string Try.underlying9 (hval 1 9 v1 rfl rfl)
  simp [Value.cells] at hcs1
  subst hcs1
  have b1 : s1'.size ≤ 1048576 := by
    have h := hkk
    simp only [Prod.mk.injEq] at hx1
    rw [hx1.1] at h
    simp only [Rows.uptoBulk, Array.length_toList] at h
    have e : s1'.size = s1'.data.size := rfl
    omega
  obtain ⟨fuel2, hf2⟩ := h2
  obtain ⟨A2, B2, hcs2, hA2, hAB2, hB2, hBB2⟩ := open_pair (by dsimp only; omega) hf2
  obtain ⟨c2, rfl, hc2⟩ := agg_of hcs2 (by simp [pairCells])
  obtain rfl := Array.toList_inj.1 hc2
  clear hA0 hval0
  refine (dataBack_calls W N0 off0 cnt0 bc0 hN0 (hB0.mono (by omega)) hS0 (by omega) s1' b1 A2 B2 hA2 hAB2 hB2 hBB2).mono fun e W' ⟨he, bel⟩ => ?_
  subst he
  exact ⟨_, rfl, _, _, _, [], _, [], hW', trodAll_mk1 (shut_bool Try.underlying4 _), (trodAll_cons_mk (Below.trod laidOut (by kernel_rfl) (of_decide_eq_true (by kernel_rfl)) k0 bel lt0) (trodAll_cons_mk (Below.trod laidOut (by kernel_rfl) (of_decide_eq_true (by kernel_rfl)) k1 bel lt1) (trodAll_cons_mk (Below.trod laidOut (by kernel_rfl) (of_decide_eq_true (by kernel_rfl)) k2 bel lt2) trodAll_mk0))), rfl, bel.frame _, fun h => by cases h⟩

theorem lifted (os : Os) (started : os.Started) (H : Type) (enc : TypeId × Value → H) (F : Stop.Interp) :
    ReturnsInHanded {} Try.checked os 8 .any ((Rows.OpenSpec.upto Rows.dataBackSpec).pre6 enc Try.prog Try.f8 Rows.dataBackUptoRow.domain false) (((Rows.OpenSpec.upto Rows.dataBackSpec).at F).post enc Try.prog Try.f8 false true false false) := by
  refine returnsInHanded_of_cond (C := Try.checked) (s := Rows.OpenSpec.upto Rows.dataBackSpec) (k := Rows.uptoSmall) rfl own started (by kernel_rfl) Try.func8
    (OpenSpec.witness (enc := enc) (C := Try.checked) (s := Rows.OpenSpec.upto Rows.dataBackSpec) (k := Rows.uptoSmall) rfl false ⟨#[], #[.agg #[.int .i64 0, .string ByteArray.empty, .slice none 0 0, .slice none 0 0, .int .u32 0, .int .u32 0, .int .i64 0, .int .i64 0, .slice none 0 0], .string ByteArray.empty, .agg #[.int .i64 0, .string ByteArray.empty, .slice none 0 0, .slice none 0 0, .int .u32 0, .int .u32 0, .int .i64 0, .string ByteArray.empty, .slice none 0 0, .slice none 0 0, .int .u32 0, .int .u32 0]], []⟩ 8 (by kernel_rfl) (by kernel_rfl) (by kernel_rfl)
      (x := ([.agg [.agg [.lit (.int .i64 0), .lit (.string []), .nil, .nil, .agg [.lit (.int .u32 0), .lit (.int .u32 0)]], .lit (.int .i64 0), .lit (.int .i64 0), .nil], .lit (.string []), .agg [.agg [.lit (.int .i64 0), .lit (.string []), .nil, .nil, .agg [.lit (.int .u32 0), .lit (.int .u32 0)]], .agg [.lit (.int .i64 0), .lit (.string []), .nil, .nil, .agg [.lit (.int .u32 0), .lit (.int .u32 0)]]]], [], [])) (by kernel_rfl) rfl (by kernel_rfl)) ?_
  intro W base args ds gs before hval hW _ hk _
  exact contract H enc W base args ds gs before hval hW hk

theorem over : Rows.dataBackUptoRow.holds Try.pinned (Rows.OpenSpec.upto Rows.dataBackSpec) :=
  OpenClaim.holds_of_cond 8 Try.f8 rfl rfl rfl rfl rfl rfl rfl ⟨rfl, rfl, rfl, rfl, rfl⟩ rfl rfl rfl rfl rfl (by kernel_rfl) Try.func8 (by kernel_rfl)
    (of_decide_eq_true (by kernel_rfl)) (by unfold Func.isWrapper; first | (rw [if_pos (by decide +kernel)]; kernel_rfl) | (rw [if_neg (by decide +kernel)]; exact ⟨rfl, rfl⟩))
    (fun os started H enc _ F => lifted os started H enc F)

/-- THE STATEMENT. -/
theorem proved : Rows.DataBackUptoSaid := over
#print axioms proved
end Go.Proofs.Ytelhnaphkbpakaa.dataBack

