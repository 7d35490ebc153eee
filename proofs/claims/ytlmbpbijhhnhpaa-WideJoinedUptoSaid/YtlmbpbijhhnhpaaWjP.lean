/-
  WideJoined: for any two texts and any two rows of units: what From and Text say of two of them, one behind the other, and what the order of units says of the order of texts. Condition: the bulk of what comes in is at most 1,048,576.
-/
import Derived.Test.YtlmbpbijhhnhpaaRows
import Derived.Test.YtlmbpbijhhnhpaaWjW
import Derived.Test.YtlmbpbijhhnhpaaOp0
import Derived.ProofKit
import Derived.OpenShut
import Derived.ShutString
import Derived.ChangeOld
import Derived.JoinedCond
namespace Go.Proofs.Ytlmbpbijhhnhpaa.wideJoined
open Go.ChangeShapes Go.WideShapes Go.ChangeAt Go.RowKit Go.Deep
open Go.ChangeMaps (open_string shut_string)
set_option linter.unusedVariables false
set_option maxRecDepth 100000

theorem own : ownKnob Try.prog.godebug = none := by kernel_rfl
theorem laidOut : laidOutB Try.prog = true := by kernel_rfl
theorem cells79 : Try.prog.cellsOf 79 = 1 := by kernel_rfl

theorem uptoBulk_one {H : Type} (d : DataW H) : 1 ≤ Rows.uptoBulk d := by
  cases d with
  | lit l => cases l <;> simp [Rows.uptoBulk]
  | nil => simp [Rows.uptoBulk]
  | ptr d => simp [Rows.uptoBulk]
  | slice elems spare => simp [Rows.uptoBulk]
  | agg parts => simp [Rows.uptoBulk]
  | iface t d => simp [Rows.uptoBulk]
  | map entries => simp [Rows.uptoBulk]
  | held h => simp [Rows.uptoBulk]
theorem uptoBulk_length {H : Type} (l : List (DataW H)) : l.length ≤ Rows.uptoBulkAll l := by
  induction l with
  | nil => simp [Rows.uptoBulkAll]
  | cons x r ih => have := uptoBulk_one x; simp only [Rows.uptoBulkAll, List.length_cons]; omega
theorem uptoBulk_slice {H : Type} (elems spare : List (DataW H)) : elems.length ≤ Rows.uptoBulk (.slice elems spare) := by
  have h1 := uptoBulk_length elems
  simp only [Rows.uptoBulk]
  omega

set_option maxHeartbeats 1000000 in
theorem contract (H : Type) (enc : TypeId × Value → H) (W : World) (base : Nat) (args : Array Value) (ds gs : List (DataW H)) (before : List MemPlace)
    (hval0 : ∀ (j : Nat) t v, Try.f7.params[j]? = some t → args[j]? = some v → Value.okWide Try.prog W .any base t v)
    (hW : DataW.Whole enc Try.prog Try.f7.params.toList Rows.wideJoinedSpec.vars false W args.toList ds gs before) (hk : Rows.uptoSmall H (ds ++ gs) = true) :
    Calls Try.prog 7 args W fun e W' => ∃ v, e = .returned v ∧ Rows.wideJoinedSpec.post enc Try.prog Try.f7 false true false false W args v W' := by
  have hval : ∀ (j : Nat) t v, Try.f7.params[j]? = some t → args[j]? = some v → Value.okWide Try.prog W .any base t v := hval0
  have hW' := hW
  obtain ⟨p, q, hA0, hV, rfl, hfz, hnd⟩ := hW
  have hA : DataW.TrodAll enc Try.prog W 0 (fun _ => true) true Try.f7.params.toList args.toList ds p := hA0
  rw [Try.params7] at hA hval
  obtain ⟨v0, vs0, d0, ds0, p0, q0, hargs, rfl, rfl, h0, r0⟩ := trodAll_cons hA
  obtain ⟨v1, vs1, d1, ds1, p1, q1, rfl, rfl, rfl, h1, r1⟩ := trodAll_cons r0
  obtain ⟨v2, vs2, d2, ds2, p2, q2, rfl, rfl, rfl, h2, r2⟩ := trodAll_cons r1
  obtain ⟨v3, vs3, d3, ds3, p3, q3, rfl, rfl, rfl, h3, r3⟩ := trodAll_cons r2
  obtain ⟨rfl, rfl, rfl⟩ := trodAll_nil r3
  obtain rfl : args = #[v0, v1, v2, v3] := by cases args; simp_all
  obtain ⟨rfl, rfl⟩ := trodVars_none hV
  have k0 := h0
  have k1 := h1
  have k2 := h2
  have k3 := h3
  have lt0 : ∀ x ∈ p0, x.block < W.heap.size := by obtain ⟨m, hm⟩ := k0; exact DataW.trod_lt m _ _ _ hm
  have lt1 : ∀ x ∈ p1, x.block < W.heap.size := by obtain ⟨m, hm⟩ := k1; exact DataW.trod_lt m _ _ _ hm
  have lt2 : ∀ x ∈ p2, x.block < W.heap.size := by obtain ⟨m, hm⟩ := k2; exact DataW.trod_lt m _ _ _ hm
  have lt3 : ∀ x ∈ p3, x.block < W.heap.size := by obtain ⟨m, hm⟩ := k3; exact DataW.trod_lt m _ _ _ hm
  obtain ⟨s0, rfl, rfl, _, hm0⟩ := open_string Try.underlying9 (hval 0 9 v0 rfl rfl) h0
  obtain ⟨s1, rfl, rfl, _, hm1⟩ := open_string Try.underlying9 (hval 1 9 v1 rfl rfl) h1
  obtain ⟨a2, n2, c2, rfl⟩ := okWide_slice Try.underlying73 (hval 2 73 v2 rfl rfl)
  obtain ⟨fuel2, hf2⟩ := h2
  obtain ⟨L2, rfl, hm2, l2, z2, o2, e2⟩ := open_elems (fun u : Nat => [.int .u16 (u : Int)]) (fun u => u ≤ 65535) 1 Try.underlying73 cells79 (fun _ => rfl) (by decide) (fun n cs x h => by
    obtain ⟨z, hz, _, hw⟩ := DataW.trod_int Try.underlying79 h
    have hw' := bounds_u16 hw
    exact ⟨z.toNat, by rw [hz, Int.toNat_of_nonneg hw'.1], by omega⟩) hf2
  have s2 : Sl16 W a2 L2 := ⟨fun i u hu => by
    obtain ⟨hb, b, off, h1, h2, h3⟩ := e2 i u hu
    exact ⟨hb, b, off, h1, h2, by simpa using h3 0 _ rfl⟩, by unfold maxLen at hm2; omega⟩
  obtain ⟨a3, n3, c3, rfl⟩ := okWide_slice Try.underlying73 (hval 3 73 v3 rfl rfl)
  obtain ⟨fuel3, hf3⟩ := h3
  obtain ⟨L3, rfl, hm3, l3, z3, o3, e3⟩ := open_elems (fun u : Nat => [.int .u16 (u : Int)]) (fun u => u ≤ 65535) 1 Try.underlying73 cells79 (fun _ => rfl) (by decide) (fun n cs x h => by
    obtain ⟨z, hz, _, hw⟩ := DataW.trod_int Try.underlying79 h
    have hw' := bounds_u16 hw
    exact ⟨z.toNat, by rw [hz, Int.toNat_of_nonneg hw'.1], by omega⟩) hf3
  have s3 : Sl16 W a3 L3 := ⟨fun i u hu => by
    obtain ⟨hb, b, off, h1, h2, h3⟩ := e3 i u hu
    exact ⟨hb, b, off, h1, h2, by simpa using h3 0 _ rfl⟩, by unfold maxLen at hm3; omega⟩
  have hkk : Rows.uptoBulkAll [.lit (.string s0.data.toList), .lit (.string s1.data.toList), d2, d3] ≤ 1048576 := by
    have h : Rows.uptoBulkAll ([.lit (.string s0.data.toList), .lit (.string s1.data.toList), d2, d3] ++ []) ≤ 1048576 := of_decide_eq_true hk
    simpa using h
  simp only [Rows.uptoBulkAll] at hkk
  have b0 : s0.size ≤ 1048576 := by
    have h := hkk
    simp only [Rows.uptoBulk, Array.length_toList] at h
    have e : s0.size = s0.data.size := rfl
    omega
  have b1 : s1.size ≤ 1048576 := by
    have h := hkk
    simp only [Rows.uptoBulk, Array.length_toList] at h
    have e : s1.size = s1.data.size := rfl
    omega
  have b2 : L2.length ≤ 1048576 := by
    rcases o2 with h | ⟨D, E, h⟩
    · have := z2 h; omega
    · have := l2 _ _ h; have := uptoBulk_slice D E; simp only at h; rw [h] at hkk; omega
  have b3 : L3.length ≤ 1048576 := by
    rcases o3 with h | ⟨D, E, h⟩
    · have := z3 h; omega
    · have := l3 _ _ h; have := uptoBulk_slice D E; simp only at h; rw [h] at hkk; omega
  clear hA0 hval0
  refine (joined_walk W s0 b0 s1 b1 c2 s2 b2 c3 s3 b3).mono fun e W' ⟨he, bel⟩ => ?_
  subst he
  exact ⟨_, rfl, _, _, _, [], _, [], hW', trodAll_mk1 (shut_bool Try.underlying4 _), (trodAll_cons_mk (Below.trod laidOut (by kernel_rfl) (of_decide_eq_true (by kernel_rfl)) k0 bel lt0) (trodAll_cons_mk (Below.trod laidOut (by kernel_rfl) (of_decide_eq_true (by kernel_rfl)) k1 bel lt1) (trodAll_cons_mk (Below.trod laidOut (by kernel_rfl) (of_decide_eq_true (by kernel_rfl)) k2 bel lt2) (trodAll_cons_mk (Below.trod laidOut (by kernel_rfl) (of_decide_eq_true (by kernel_rfl)) k3 bel lt3) trodAll_mk0)))), rfl, bel.frame _, fun h => by cases h⟩

theorem lifted (os : Os) (started : os.Started) (H : Type) (enc : TypeId × Value → H) (F : Stop.Interp) :
    ReturnsInHanded {} Try.checked os 7 .any ((Rows.OpenSpec.upto Rows.wideJoinedSpec).pre6 enc Try.prog Try.f7 Rows.wideJoinedUptoRow.domain false) (((Rows.OpenSpec.upto Rows.wideJoinedSpec).at F).post enc Try.prog Try.f7 false true false false) := by
  refine returnsInHanded_of_cond (C := Try.checked) (s := Rows.OpenSpec.upto Rows.wideJoinedSpec) (k := Rows.uptoSmall) rfl own started (by kernel_rfl) Try.func7
    (OpenSpec.witness (enc := enc) (C := Try.checked) (s := Rows.OpenSpec.upto Rows.wideJoinedSpec) (k := Rows.uptoSmall) rfl false ⟨#[], #[.string ByteArray.empty, .string ByteArray.empty, .slice none 0 0, .slice none 0 0], []⟩ 8 (by kernel_rfl) (by kernel_rfl) (by kernel_rfl)
      (x := ([.lit (.string []), .lit (.string []), .nil, .nil], [], [])) (by kernel_rfl) rfl (by kernel_rfl)) ?_
  intro W base args ds gs before hval hW _ hk _
  exact contract H enc W base args ds gs before hval hW hk

theorem over : Rows.wideJoinedUptoRow.holds Try.pinned (Rows.OpenSpec.upto Rows.wideJoinedSpec) :=
  OpenClaim.holds_of_cond 7 Try.f7 rfl rfl rfl rfl rfl rfl rfl ⟨rfl, rfl, rfl, rfl, rfl⟩ rfl rfl rfl rfl rfl (by kernel_rfl) Try.func7 (by kernel_rfl)
    (of_decide_eq_true (by kernel_rfl)) (by unfold Func.isWrapper; first | (rw [if_pos (by decide +kernel)]; kernel_rfl) | (rw [if_neg (by decide +kernel)]; exact ⟨rfl, rfl⟩))
    (fun os started H enc _ F => lifted os started H enc F)

/-- THE STATEMENT. -/
theorem proved : Rows.WideJoinedUptoSaid := over
#print axioms proved
end Go.Proofs.Ytlmbpbijhhnhpaa.wideJoined
