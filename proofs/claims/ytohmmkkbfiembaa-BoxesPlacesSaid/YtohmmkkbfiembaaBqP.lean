/-
  BoxesPlaces: for all boxes, places, numbers and units the law's function returns true: the program's Place, Snap and Wide answer as the document's do, whatever the numbers are. No condition.
-/
import Derived.Test.YtohmmkkbfiembaaRows
import Derived.Test.YtohmmkkbfiembaaOq
import Derived.ProofKit
import Derived.OpenShut
import Derived.ShutString
import Derived.ChangeOld
import Derived.SizedLaws
namespace Go.Proofs.Ytohmmkkbfiembaa.boxesPlaces
open Go.ChangeShapes Go.WideShapes Go.ChangeAt Go.RowKit Go.Deep
set_option linter.unusedVariables false
set_option maxRecDepth 100000

theorem own : ownKnob Try.prog.godebug = none := by kernel_rfl
theorem laidOut : laidOutB Try.prog = true := by kernel_rfl
theorem bytesBx : Try.prog.bytesOf 64 = 48 := by kernel_rfl
theorem bytesI : Try.prog.bytesOf 3 = 8 := by kernel_rfl
theorem bytesF : Try.prog.bytesOf 23 = 8 := by kernel_rfl
theorem reach_len {n b : Nat} {H : Type} {d : DataW H} {k : Nat} (hb : 0 < b) (h1 : ∀ (D : List (DataW H)) (E : List (DataW H)), d = .slice D E → D.length = n) (h2 : d = .nil → n = 0) (h3 : d = .nil ∨ ∃ D E, d = .slice D E)
    (h : ∀ D E, d = .slice D E → (D.length + E.length) * b ≤ reachBytes) (hk : reachBytes < (k + 1) * b) : n ≤ k := by
  rcases h3 with h3 | ⟨D, E, h3⟩
  · rw [h2 h3]; exact Nat.zero_le _
  · have e1 := h1 D E h3
    have e2 := h D E h3
    rw [e1] at e2
    rcases Nat.lt_or_ge k n with h4 | h4
    · exfalso
      have : (k + 1) * b ≤ (n + E.length) * b := Nat.mul_le_mul_right _ (by omega)
      omega
    · exact h4

set_option maxHeartbeats 600000 in
theorem lifted (os : Os) (started : os.Started) (H : Type) (enc : TypeId × Value → H) :
    ReturnsInHanded {} Try.checked os 6 .any (Rows.boxesPlacesSpec.pre6 enc Try.prog Try.f6 Rows.boxesPlacesRow.domain false) (Rows.boxesPlacesSpec.post enc Try.prog Try.f6 false true false false) := by
  refine returnsInHanded_of_change_sized (C := Try.checked) own started (by kernel_rfl) Try.func6
    (ChangeSpec.witness6 (enc := enc) (C := Try.checked) false ⟨#[], #[.slice none 0 0, .slice none 0 0, .slice none 0 0, .slice none 0 0], []⟩ 8 (by kernel_rfl) (by kernel_rfl) (by kernel_rfl) (by kernel_rfl)) ?_
  intro W base args ds gs before hval0 hW hcnd hsz0 _
  have hval : ∀ (j : Nat) t v, Try.f6.params[j]? = some t → args[j]? = some v → Value.okWide Try.prog W .any base t v := hval0
  have hsz : (DataW.weightsEach Try.prog (Try.f6.params.toList ++ Rows.boxesPlacesSpec.plain.varTypes Try.prog) (ds ++ gs)).all (· ≤ reachBytes) = true := hsz0
  have hW' := hW
  obtain ⟨p, q, hA0, hV, rfl, hfz, hnd⟩ := hW
  have hA : DataW.TrodAll enc Try.prog W 0 (fun _ => true) true Try.f6.params.toList args.toList ds p := hA0
  rw [Try.params6] at hA hval hsz
  obtain ⟨v0, vs0, d0, ds0, p0, q0, hargs, rfl, rfl, h0, r0⟩ := trodAll_cons hA
  obtain ⟨v1, vs1, d1, ds1, p1, q1, rfl, rfl, rfl, h1, r1⟩ := trodAll_cons r0
  obtain ⟨v2, vs2, d2, ds2, p2, q2, rfl, rfl, rfl, h2, r2⟩ := trodAll_cons r1
  obtain ⟨v3, vs3, d3, ds3, p3, q3, rfl, rfl, rfl, h3, r3⟩ := trodAll_cons r2
  obtain ⟨rfl, rfl, rfl⟩ := trodAll_nil r3
  obtain rfl : args = #[v0, v1, v2, v3] := by cases args; simp_all
  obtain ⟨rfl, rfl⟩ := trodVars_none hV
  have k0 := h0
  have k1 := h1
  have k2 := h2
  have k3 := h3
  have lt0 : ∀ x ∈ p0, x.block < W.heap.size := by obtain ⟨m, hm⟩ := k0; exact DataW.trod_lt m _ _ _ hm
  have lt1 : ∀ x ∈ p1, x.block < W.heap.size := by obtain ⟨m, hm⟩ := k1; exact DataW.trod_lt m _ _ _ hm
  have lt2 : ∀ x ∈ p2, x.block < W.heap.size := by obtain ⟨m, hm⟩ := k2; exact DataW.trod_lt m _ _ _ hm
  have lt3 : ∀ x ∈ p3, x.block < W.heap.size := by obtain ⟨m, hm⟩ := k3; exact DataW.trod_lt m _ _ _ hm
  obtain ⟨a0, n0, c0, rfl⟩ := okWide_slice Try.underlying39 (hval 0 39 v0 rfl rfl)
  obtain ⟨a1, n1, c1, rfl⟩ := okWide_slice Try.underlying40 (hval 1 40 v1 rfl rfl)
  obtain ⟨a2, n2, c2, rfl⟩ := okWide_slice Try.underlying24 (hval 2 24 v2 rfl rfl)
  obtain ⟨a3, n3, c3, rfl⟩ := okWide_slice Try.underlying41 (hval 3 41 v3 rfl rfl)
  obtain ⟨f0, hf0⟩ := h0
  obtain ⟨f1, hf1⟩ := h1
  obtain ⟨f2, hf2⟩ := h2
  obtain ⟨A, R, hB, b1, b2, b3⟩ := open_boxes hf0
  obtain ⟨K, hK, i1, i2, i3⟩ := open_ints2 hf1
  obtain ⟨X, hX, x1, x2, x3⟩ := open_floats hf2
  have s0 : n0 ≤ 4398046511104 := reach_len (b := 48) (by decide) b1 b2 b3 (fun D E e => by
    have := sized_slice hsz (j := 0) (t := 39) (e := 64) (elems := D) (spare := E) rfl (by dsimp only at e; rw [e]; rfl) Try.underlying39
    rwa [bytesBx] at this) (by decide)
  have s1 : n1 ≤ 35184372088832 := reach_len (b := 8) (by decide) i1 i2 i3 (fun D E e => by
    have := sized_slice hsz (j := 1) (t := 40) (e := 3) (elems := D) (spare := E) rfl (by dsimp only at e; rw [e]; rfl) Try.underlying40
    rwa [bytesI] at this) (by decide)
  have s2 : n2 ≤ 35184372088832 := reach_len (b := 8) (by decide) x1 x2 x3 (fun D E e => by
    have := sized_slice hsz (j := 2) (t := 24) (e := 23) (elems := D) (spare := E) rfl (by dsimp only at e; rw [e]; rfl) Try.underlying24
    rwa [bytesF] at this) (by decide)
  clear hA0 hval0
  refine (boxesPlaces_true W (c1 := c0) (c2 := c1) (c3 := c2) (a4 := a3) (n4 := n3) (c4 := c3) hB hK hX s0 s1 s2).mono fun e W' ⟨he, bel⟩ => ?_
  subst he
  exact ⟨_, rfl, _, _, _, [], _, [], hW', trodAll_mk1 (shut_bool Try.underlying4 _), (trodAll_cons_mk (Below.trod laidOut (by kernel_rfl) (of_decide_eq_true (by kernel_rfl)) k0 bel lt0) (trodAll_cons_mk (Below.trod laidOut (by kernel_rfl) (of_decide_eq_true (by kernel_rfl)) k1 bel lt1) (trodAll_cons_mk (Below.trod laidOut (by kernel_rfl) (of_decide_eq_true (by kernel_rfl)) k2 bel lt2) (trodAll_cons_mk (Below.trod laidOut (by kernel_rfl) (of_decide_eq_true (by kernel_rfl)) k3 bel lt3) trodAll_mk0)))), rfl, bel.frame _, fun h => by cases h⟩

theorem over : Rows.boxesPlacesRow.holds Try.pinned (OpenSpec.ofChange Rows.boxesPlacesSpec) :=
  OpenClaim.holds_of_wide 6 Try.f6 rfl rfl rfl rfl rfl rfl rfl ⟨rfl, rfl, rfl, rfl, rfl⟩ rfl rfl rfl rfl rfl (by kernel_rfl) Try.func6 (by kernel_rfl)
    (of_decide_eq_true (by kernel_rfl)) (by unfold Func.isWrapper; first | (rw [if_pos (by decide +kernel)]; kernel_rfl) | (rw [if_neg (by decide +kernel)]; exact ⟨rfl, rfl⟩))
    (fun os started H enc _ => lifted os started H enc)

/-- THE STATEMENT. -/
theorem proved : Rows.BoxesPlacesSaid := over
#print axioms proved
end Go.Proofs.Ytohmmkkbfiembaa.boxesPlaces
