/-
  ArenaNever: for every number of slots, of generations, and every script: no handle comes twice, none lives that was not told or was taken out, what lives tells what was put in last, the three counts are all slots. No condition.
-/
import Derived.Test.YtlmbpbijhhnhpaaRows
import Derived.Test.YtlmbpbijhhnhpaaNevQ
import Derived.ProofKit
import Derived.OpenShut
import Derived.ShutString
import Derived.ChangeOld
import Derived.Deep.Slices
namespace Go.Proofs.Ytlmbpbijhhnhpaa.arenaNever
open Go.ChangeShapes Go.WideShapes Go.ChangeAt Go.RowKit Go.Deep
open Go.ChangeMaps (open_string shut_string)
set_option linter.unusedVariables false
set_option maxRecDepth 100000
instance : Inhabited OpD := ⟨⟨0, 0, 0, 0, 0, 0, false⟩⟩

theorem own : ownKnob Try.prog.godebug = none := by kernel_rfl
theorem laidOut : laidOutB Try.prog = true := by kernel_rfl
theorem cells3 : Try.prog.cellsOf 3 = 1 := by kernel_rfl
theorem cells4 : Try.prog.cellsOf 4 = 1 := by kernel_rfl
theorem cells37 : Try.prog.cellsOf 37 = 1 := by kernel_rfl
theorem cells39 : Try.prog.cellsOf 39 = 2 := by kernel_rfl
theorem cells57 : Try.prog.cellsOf 57 = 7 := by kernel_rfl

section
variable {H : Type} {enc : TypeId × Value → H} {w : World} {base : Nat} {spare : Nat → Bool} {held : Bool}

theorem open_handle {fuel : Nat} {cs : List Value} {x : DataW H × List MemPlace} (h : DataW.trod enc Try.prog w base spare held fuel 39 cs = some x) :
    ∃ s g : Nat, cs = [.int .u32 (s : Int), .int .u32 (g : Int)] ∧ s ≤ 4294967295 ∧ g ≤ 4294967295 := by
  obtain ⟨xs, n, _, _, hlen, hxl, hf⟩ := DataW.trod_struct Try.underlying39 h
  rw [cells39] at hlen
  match cs, hlen with
  | [c0, c1], _ =>
    have g0 : DataW.trod enc Try.prog w base spare held n 37 (([c0, c1].drop 0).take (Try.prog.cellsOf 37)) = xs[0]? := hf 0 _ rfl
    have g1 : DataW.trod enc Try.prog w base spare held n 37 (([c0, c1].drop 1).take (Try.prog.cellsOf 37)) = xs[1]? := hf 1 _ rfl
    simp only [cells37, List.drop_zero, List.drop_succ_cons, List.take_succ_cons, List.take_zero] at g0 g1
    rw [List.getElem?_eq_getElem (by rw [hxl]; decide)] at g0 g1
    obtain ⟨a, h0, _, w0⟩ := DataW.trod_int Try.underlying37 g0
    obtain ⟨b, h1, _, w1⟩ := DataW.trod_int Try.underlying37 g1
    simp at h0 h1
    subst h0 h1
    have w0' := bounds_u32 w0
    have w1' := bounds_u32 w1
    exact ⟨a.toNat, b.toNat, by rw [Int.toNat_of_nonneg w0'.1, Int.toNat_of_nonneg w1'.1], by omega, by omega⟩

theorem open_op {fuel : Nat} {cs : List Value} {x : DataW H × List MemPlace} (h : DataW.trod enc Try.prog w base spare held fuel 57 cs = some x) : ∃ o : OpD, cs = o.cells ∧ o.Ok := by
  obtain ⟨xs, n, _, _, hlen, hxl, hf⟩ := DataW.trod_struct Try.underlying57 h
  rw [cells57] at hlen
  match cs, hlen with
  | [c0, c1, c2, c3, c4, c5, c6], _ =>
    have g0 : DataW.trod enc Try.prog w base spare held n 3 (([c0, c1, c2, c3, c4, c5, c6].drop 0).take (Try.prog.cellsOf 3)) = xs[0]? := hf 0 _ rfl
    have g1 : DataW.trod enc Try.prog w base spare held n 3 (([c0, c1, c2, c3, c4, c5, c6].drop 1).take (Try.prog.cellsOf 3)) = xs[1]? := hf 1 _ rfl
    have g2 : DataW.trod enc Try.prog w base spare held n 3 (([c0, c1, c2, c3, c4, c5, c6].drop 2).take (Try.prog.cellsOf 3)) = xs[2]? := hf 2 _ rfl
    have g3 : DataW.trod enc Try.prog w base spare held n 3 (([c0, c1, c2, c3, c4, c5, c6].drop 3).take (Try.prog.cellsOf 3)) = xs[3]? := hf 3 _ rfl
    have g4 : DataW.trod enc Try.prog w base spare held n 39 (([c0, c1, c2, c3, c4, c5, c6].drop 4).take (Try.prog.cellsOf 39)) = xs[4]? := hf 4 _ rfl
    have g5 : DataW.trod enc Try.prog w base spare held n 4 (([c0, c1, c2, c3, c4, c5, c6].drop 6).take (Try.prog.cellsOf 4)) = xs[5]? := hf 5 _ rfl
    simp only [cells3, cells4, cells39, List.drop_zero, List.drop_succ_cons, List.take_succ_cons, List.take_zero] at g0 g1 g2 g3 g4 g5
    rw [List.getElem?_eq_getElem (by rw [hxl]; decide)] at g0 g1 g2 g3 g4 g5
    obtain ⟨a0, h0, _, w0⟩ := DataW.trod_int Try.underlying3 g0
    obtain ⟨a1, h1, _, w1⟩ := DataW.trod_int Try.underlying3 g1
    obtain ⟨a2, h2, _, w2⟩ := DataW.trod_int Try.underlying3 g2
    obtain ⟨a3, h3, _, w3⟩ := DataW.trod_int Try.underlying3 g3
    obtain ⟨s, g, h4, ws, wg⟩ := open_handle g4
    obtain ⟨b, h5, _⟩ := DataW.trod_bool Try.underlying4 g5
    simp at h0 h1 h2 h3 h4 h5
    obtain ⟨rfl, rfl⟩ := h4
    subst h0 h1 h2 h3 h5
    have w2' := bounds_i64 w2
    exact ⟨⟨a0, a1, a2, a3, s, g, b⟩, rfl, by simp only; omega, by simp only; omega, ws, wg⟩

theorem addr_add (b off j : Nat) : (⟨b, off, none⟩ : Addr).add j = ⟨b, off + j, none⟩ := by unfold Addr.add; split <;> simp_all

/-- The script, opened. -/
theorem open_ops {fuel : Nat} {a : Option Addr} {len cap : Nat} {x : DataW H × List MemPlace} (h : DataW.trod enc Try.prog w base spare held fuel 51 [.slice a len cap] = some x) :
    len ≤ maxLen ∧ ∃ ops : List OpD, ops.length = len ∧ (∀ o ∈ ops, o.Ok) ∧ (len = 0 ∨ ∃ b off, a = some ⟨b, off, none⟩ ∧ b < w.heap.size ∧
      ∀ i o, ops[i]? = some o → ∀ j v, o.cells[j]? = some v → w.cell? ⟨b, off + (i * 7 + j), none⟩ = some v) := by
  rcases open_slice Try.underlying51 h with ⟨hcs, _⟩ | ⟨ad, len', cap', m, n, D, Pl, hcs, _, hl, hm, hmm, _, hi⟩
  · simp at hcs
    obtain ⟨rfl, rfl, rfl⟩ := hcs
    exact ⟨by simp [maxLen], [], rfl, by simp, .inl rfl⟩
  · simp at hcs
    obtain ⟨rfl, rfl, rfl⟩ := hcs
    refine ⟨Nat.le_trans hl hm, ?_⟩
    have hlm : len ≤ m := by rw [hmm]; split <;> omega
    rw [cells57] at hi
    obtain ⟨f, hf⟩ := choose_lt (α := OpD) (n := len) (p := fun i o => o.Ok ∧ ∀ j v, o.cells[j]? = some v → w.cell? ((ad.add (i * 7)).add j) = some v) (fun i hil => by
      obtain ⟨cs', hc, ht⟩ := hi i (by omega)
      obtain ⟨o, rfl, ok⟩ := open_op ht
      obtain ⟨_, hcl, hat⟩ := World.cells?_some hc
      refine ⟨o, ok, fun j v hj => ?_⟩
      have hj7 : j < 7 := by have := (List.getElem?_eq_some_iff.1 hj).1; simpa [OpD.cells] using this
      rw [hat j hj7]; exact hj)
    refine ⟨(List.range len).map f, by simp, fun o ho => ?_, ?_⟩
    · obtain ⟨i, hil, rfl⟩ := List.mem_map.1 ho
      exact (hf i (List.mem_range.1 hil)).1
    · rcases Nat.eq_zero_or_pos len with h0 | h0
      · exact .inl h0
      · right
        have hz := (hf 0 h0).2 0 _ rfl
        obtain ⟨b, off, sp⟩ := ad
        have hsp : sp = none := by
          cases sp with
          | none => rfl
          | some s => simp [Addr.add, World.cell?] at hz; split at hz <;> simp_all
        subst hsp
        refine ⟨b, off, rfl, ?_, fun i o ho j v hj => ?_⟩
        · have := block_lt_of_cell hz
          simpa [Addr.add] using this
        · have hil : i < len := by have := (List.getElem?_eq_some_iff.1 ho).1; simpa using this
          have ho' : f i = o := by simpa [hil] using ho
          subst ho'
          have := (hf i hil).2 j v hj
          rw [add_add, addr_add] at this
          exact this
end

theorem lifted (os : Os) (started : os.Started) (H : Type) (enc : TypeId × Value → H) :
    ReturnsInHanded {} Try.checked os 4 .any (Rows.arenaNeverSpec.pre6 enc Try.prog Try.f4 Rows.arenaNeverRow.domain false) (Rows.arenaNeverSpec.post enc Try.prog Try.f4 false true false false) := by
  refine returnsInHanded_of_change (C := Try.checked) own started (by kernel_rfl) Try.func4
    (ChangeSpec.witness6 (enc := enc) (C := Try.checked) false ⟨#[], #[.int .i64 0, .int .i64 0, .slice none 0 0], []⟩ 8 (by kernel_rfl) (by kernel_rfl) (by kernel_rfl) (by kernel_rfl)) ?_
  intro W base args ds gs before hval0 hW hcnd _
  have hval : ∀ (j : Nat) t v, Try.f4.params[j]? = some t → args[j]? = some v → Value.okWide Try.prog W .any base t v := hval0
  have hW' := hW
  obtain ⟨p, q, hA0, hV, rfl, hfz, hnd⟩ := hW
  have hA : DataW.TrodAll enc Try.prog W 0 (fun _ => true) true Try.f4.params.toList args.toList ds p := hA0
  rw [Try.params4] at hA hval
  obtain ⟨v0, vs0, d0, ds0, p0, q0, hargs, rfl, rfl, h0, r0⟩ := trodAll_cons hA
  obtain ⟨v1, vs1, d1, ds1, p1, q1, rfl, rfl, rfl, h1, r1⟩ := trodAll_cons r0
  obtain ⟨v2, vs2, d2, ds2, p2, q2, rfl, rfl, rfl, h2, r2⟩ := trodAll_cons r1
  obtain ⟨rfl, rfl, rfl⟩ := trodAll_nil r2
  obtain rfl : args = #[v0, v1, v2] := by cases args; simp_all
  obtain ⟨rfl, rfl⟩ := trodVars_none hV
  have k0 := h0
  have k1 := h1
  have k2 := h2
  have lt0 : ∀ x ∈ p0, x.block < W.heap.size := by obtain ⟨m, hm⟩ := k0; exact DataW.trod_lt m _ _ _ hm
  have lt1 : ∀ x ∈ p1, x.block < W.heap.size := by obtain ⟨m, hm⟩ := k1; exact DataW.trod_lt m _ _ _ hm
  have lt2 : ∀ x ∈ p2, x.block < W.heap.size := by obtain ⟨m, hm⟩ := k2; exact DataW.trod_lt m _ _ _ hm
  obtain ⟨S, rfl, _⟩ := open_int Try.underlying3 (hval 0 3 v0 rfl rfl) h0
  obtain ⟨G, rfl, _⟩ := open_int Try.underlying3 (hval 1 3 v1 rfl rfl) h1
  obtain ⟨a, len, cap, rfl⟩ := okWide_slice Try.underlying51 (hval 2 51 v2 rfl rfl)
  obtain ⟨fuel, hf⟩ := h2
  obtain ⟨hl, ops, hlen, hok, hc⟩ := open_ops hf
  clear hA0 hval0
  refine (never_all S G a len cap W ops hlen hl hok hc).mono fun e W' ⟨he, bel⟩ => ?_
  subst he
  exact ⟨_, rfl, _, _, _, [], _, [], hW', trodAll_mk1 (shut_bool Try.underlying4 _), (trodAll_cons_mk (Below.trod laidOut (by kernel_rfl) (of_decide_eq_true (by kernel_rfl)) k0 bel lt0) (trodAll_cons_mk (Below.trod laidOut (by kernel_rfl) (of_decide_eq_true (by kernel_rfl)) k1 bel lt1) (trodAll_cons_mk (Below.trod laidOut (by kernel_rfl) (of_decide_eq_true (by kernel_rfl)) k2 bel lt2) trodAll_mk0))), rfl, bel.frame _, fun h => by cases h⟩

theorem over : Rows.arenaNeverRow.holds Try.pinned (OpenSpec.ofChange Rows.arenaNeverSpec) :=
  OpenClaim.holds_of_wide 4 Try.f4 rfl rfl rfl rfl rfl rfl rfl ⟨rfl, rfl, rfl, rfl, rfl⟩ rfl rfl rfl rfl rfl (by kernel_rfl) Try.func4 (by kernel_rfl)
    (of_decide_eq_true (by kernel_rfl)) (by unfold Func.isWrapper; first | (rw [if_pos (by decide +kernel)]; kernel_rfl) | (rw [if_neg (by decide +kernel)]; exact ⟨rfl, rfl⟩))
    (fun os started H enc _ => lifted os started H enc)

/-- THE STATEMENT. -/
theorem proved : Rows.ArenaNeverSaid := over
#print axioms proved
end Go.Proofs.Ytlmbpbijhhnhpaa.arenaNever
