/-
  WideBack: for any text and any row of units: From, Bad, Text and Lone there and back; what is none is mended, and nothing else is changed. Condition: the bulk of what comes in is at most 1,048,576.
-/
import Derived.Test.YtlmbpbijhhnhpaaRows
import Derived.Test.YtlmbpbijhhnhpaaWkW
import Derived.Test.YtlmbpbijhhnhpaaOp0
import Derived.ProofKit
import Derived.OpenShut
import Derived.ShutString
import Derived.ChangeOld
import Derived.JoinedCond
namespace Go.Proofs.Ytlmbpbijhhnhpaa.wideBack
open Go.ChangeShapes Go.WideShapes Go.ChangeAt Go.RowKit Go.Deep
open Go.ChangeMaps (open_string shut_string)
set_option linter.unusedVariables false
set_option maxRecDepth 100000

theorem own : ownKnob Try.prog.godebug = none := by kernel_rfl
theorem laidOut : laidOutB Try.prog = true := by kernel_rfl
theorem cells79 : Try.prog.cellsOf 79 = 1 := by kernel_rfl

theorem uptoBulk_one {H : Type} (d : DataW H) : 1 ≤ Rows.uptoBulk d := by
  cases d with
  | lit l => cases l <;> simp [Rows.uptoBulk]
  | nil => simp [Rows.uptoBulk]
  | ptr d => simp [Rows.uptoBulk]
  | slice elems spare => simp [Rows.uptoBulk]
  | agg parts => simp [Rows.uptoBulk]
  | iface t d => simp [Rows.uptoBulk]
  | map entries => simp [Rows.uptoBulk]
  | held h => simp [Rows.uptoBulk]
theorem uptoBulk_length {H : Type} (l : List (DataW H)) : l.length ≤ Rows.uptoBulkAll l := by
  induction l with
  | nil => simp [Rows.uptoBulkAll]
  | cons x r ih => have := uptoBulk_one x; simp only [Rows.uptoBulkAll, List.length_cons]; omega
theorem uptoBulk_slice {H : Type} (elems spare : List (DataW H)) : elems.length ≤ Rows.uptoBulk (.slice elems spare) := by
  have h1 := uptoBulk_length elems
  simp only [Rows.uptoBulk]
  omega

set_option maxHeartbeats 1000000 in
theorem contract (H : Type) (enc : TypeId × Value → H) (W : World) (base : Nat) (args : Array Value) (ds gs : List (DataW H)) (before : List MemPlace)
    (hval0 : ∀ (j : Nat) t v, Try.f10.params[j]? = some t → args[j]? = some v → Value.okWide Try.prog W .any base t v)
    (hW : DataW.Whole enc Try.prog Try.f10.params.toList Rows.wideBackSpec.vars false W args.toList ds gs before) (hk : Rows.uptoSmall H (ds ++ gs) = true) :
    Calls Try.prog 10 args W fun e W' => ∃ v, e = .returned v ∧ Rows.wideBackSpec.post enc Try.prog Try.f10 false true false false W args v W' := by
  have hval : ∀ (j : Nat) t v, Try.f10.params[j]? = some t → args[j]? = some v → Value.okWide Try.prog W .any base t v := hval0
  have hW' := hW
  obtain ⟨p, q, hA0, hV, rfl, hfz, hnd⟩ := hW
  have hA : DataW.TrodAll enc Try.prog W 0 (fun _ => true) true Try.f10.params.toList args.toList ds p := hA0
  rw [Try.params10] at hA hval
  obtain ⟨v0, vs0, d0, ds0, p0, q0, hargs, rfl, rfl, h0, r0⟩ := trodAll_cons hA
  obtain ⟨v1, vs1, d1, ds1, p1, q1, rfl, rfl, rfl, h1, r1⟩ := trodAll_cons r0
  obtain ⟨rfl, rfl, rfl⟩ := trodAll_nil r1
  obtain rfl : args = #[v0, v1] := by cases args; simp_all
  obtain ⟨rfl, rfl⟩ := trodVars_none hV
  have k0 := h0
  have k1 := h1
  have lt0 : ∀ x ∈ p0, x.block < W.heap.size := by obtain ⟨m, hm⟩ := k0; exact DataW.trod_lt m _ _ _ hm
  have lt1 : ∀ x ∈ p1, x.block < W.heap.size := by obtain ⟨m, hm⟩ := k1; exact DataW.trod_lt m _ _ _ hm
  obtain ⟨s0, rfl, rfl, _, hm0⟩ := open_string Try.underlying9 (hval 0 9 v0 rfl rfl) h0
  obtain ⟨a1, n1, c1, rfl⟩ := okWide_slice Try.underlying73 (hval 1 73 v1 rfl rfl)
  obtain ⟨fuel1, hf1⟩ := h1
  obtain ⟨L1, rfl, hm1, l1, z1, o1, e1⟩ := open_elems (fun u : Nat => [.int .u16 (u : Int)]) (fun u => u ≤ 65535) 1 Try.underlying73 cells79 (fun _ => rfl) (by decide) (fun n cs x h => by
    obtain ⟨z, hz, _, hw⟩ := DataW.trod_int Try.underlying79 h
    have hw' := bounds_u16 hw
    exact ⟨z.toNat, by rw [hz, Int.toNat_of_nonneg hw'.1], by omega⟩) hf1
  have s1 : Sl16 W a1 L1 := ⟨fun i u hu => by
    obtain ⟨hb, b, off, h1, h2, h3⟩ := e1 i u hu
    exact ⟨hb, b, off, h1, h2, by simpa using h3 0 _ rfl⟩, by unfold maxLen at hm1; omega⟩
  have hkk : Rows.uptoBulkAll [.lit (.string s0.data.toList), d1] ≤ 1048576 := by
    have h : Rows.uptoBulkAll ([.lit (.string s0.data.toList), d1] ++ []) ≤ 1048576 := of_decide_eq_true hk
    simpa using h
  simp only [Rows.uptoBulkAll] at hkk
  have b0 : s0.size ≤ 1048576 := by
    have h := hkk
    simp only [Rows.uptoBulk, Array.length_toList] at h
    have e : s0.size = s0.data.size := rfl
    omega
  have b1 : L1.length ≤ 1048576 := by
    rcases o1 with h | ⟨D, E, h⟩
    · have := z1 h; omega
    · have := l1 _ _ h; have := uptoBulk_slice D E; simp only at h; rw [h] at hkk; omega
  clear hA0 hval0
  refine (back_walk W s0 b0 c1 s1 b1).mono fun e W' ⟨he, bel⟩ => ?_
  subst he
  exact ⟨_, rfl, _, _, _, [], _, [], hW', trodAll_mk1 (shut_bool Try.underlying4 _), (trodAll_cons_mk (Below.trod laidOut (by kernel_rfl) (of_decide_eq_true (by kernel_rfl)) k0 bel lt0) (trodAll_cons_mk (Below.trod laidOut (by kernel_rfl) (of_decide_eq_true (by kernel_rfl)) k1 bel lt1) trodAll_mk0)), rfl, bel.frame _, fun h => by cases h⟩

theorem lifted (os : Os) (started : os.Started) (H : Type) (enc : TypeId × Value → H) (F : Stop.Interp) :
    ReturnsInHanded {} Try.checked os 10 .any ((Rows.OpenSpec.upto Rows.wideBackSpec).pre6 enc Try.prog Try.f10 Rows.wideBackUptoRow.domain false) (((Rows.OpenSpec.upto Rows.wideBackSpec).at F).post enc Try.prog Try.f10 false true false false) := by
  refine returnsInHanded_of_cond (C := Try.checked) (s := Rows.OpenSpec.upto Rows.wideBackSpec) (k := Rows.uptoSmall) rfl own started (by kernel_rfl) Try.func10
    (OpenSpec.witness (enc := enc) (C := Try.checked) (s := Rows.OpenSpec.upto Rows.wideBackSpec) (k := Rows.uptoSmall) rfl false ⟨#[], #[.string ByteArray.empty, .slice none 0 0], []⟩ 8 (by kernel_rfl) (by kernel_rfl) (by kernel_rfl)
      (x := ([.lit (.string []), .nil], [], [])) (by kernel_rfl) rfl (by kernel_rfl)) ?_
  intro W base args ds gs before hval hW _ hk _
  exact contract H enc W base args ds gs before hval hW hk

theorem over : Rows.wideBackUptoRow.holds Try.pinned (Rows.OpenSpec.upto Rows.wideBackSpec) :=
  OpenClaim.holds_of_cond 10 Try.f10 rfl rfl rfl rfl rfl rfl rfl ⟨rfl, rfl, rfl, rfl, rfl⟩ rfl rfl rfl rfl rfl (by kernel_rfl) Try.func10 (by kernel_rfl)
    (of_decide_eq_true (by kernel_rfl)) (by unfold Func.isWrapper; first | (rw [if_pos (by decide +kernel)]; kernel_rfl) | (rw [if_neg (by decide +kernel)]; exact ⟨rfl, rfl⟩))
    (fun os started H enc _ F => lifted os started H enc F)

/-- THE STATEMENT. -/
theorem proved : Rows.WideBackUptoSaid := over
#print axioms proved
end Go.Proofs.Ytlmbpbijhhnhpaa.wideBack
