/-
  ArenaApart: for every list of things, of texts and of numbers whose bulk is at most 1,048,576: two arenas of other types have nothing to do with one another; each thing is told as it was put in. Condition: the bulk of what comes in.
-/
import Derived.Test.YtlmbpbijhhnhpaaRows
import Derived.Test.YtlmbpbijhhnhpaaApW
import Derived.Test.YtlmbpbijhhnhpaaOp0
import Derived.ProofKit
import Derived.OpenShut
import Derived.ShutString
import Derived.ChangeOld
import Derived.JoinedCond
namespace Go.Proofs.Ytlmbpbijhhnhpaa.arenaApart
open Go.ChangeShapes Go.WideShapes Go.ChangeAt Go.RowKit Go.Deep
open Go.ChangeMaps (open_string shut_string)
set_option linter.unusedVariables false
set_option maxRecDepth 100000
instance : Inhabited Thg := ⟨⟨.empty, none, 0, 0, 0⟩⟩

theorem own : ownKnob Try.prog.godebug = none := by kernel_rfl
theorem laidOut : laidOutB Try.prog = true := by kernel_rfl
theorem cells3 : Try.prog.cellsOf 3 = 1 := by kernel_rfl
theorem cells9 : Try.prog.cellsOf 9 = 1 := by kernel_rfl
theorem cells24 : Try.prog.cellsOf 24 = 1 := by kernel_rfl
theorem cells30 : Try.prog.cellsOf 30 = 1 := by kernel_rfl
theorem cells32 : Try.prog.cellsOf 32 = 3 := by kernel_rfl

theorem uptoBulk_one {H : Type} (d : DataW H) : 1 ≤ Rows.uptoBulk d := by
  cases d with
  | lit l => cases l <;> simp [Rows.uptoBulk]
  | nil => simp [Rows.uptoBulk]
  | ptr d => simp [Rows.uptoBulk]
  | slice elems spare => simp [Rows.uptoBulk]
  | agg parts => simp [Rows.uptoBulk]
  | iface t d => simp [Rows.uptoBulk]
  | map entries => simp [Rows.uptoBulk]
  | held h => simp [Rows.uptoBulk]
theorem uptoBulk_length {H : Type} (l : List (DataW H)) : l.length ≤ Rows.uptoBulkAll l := by
  induction l with
  | nil => simp [Rows.uptoBulkAll]
  | cons x r ih => have := uptoBulk_one x; simp only [Rows.uptoBulkAll, List.length_cons]; omega
theorem uptoBulk_slice {H : Type} (elems spare : List (DataW H)) : elems.length ≤ Rows.uptoBulk (.slice elems spare) := by
  have h1 := uptoBulk_length elems
  simp only [Rows.uptoBulk]
  omega

section
variable {H : Type} {enc : TypeId × Value → H} {w : World} {base : Nat} {spare : Nat → Bool} {held : Bool}

theorem open_thing (n : Nat) (cs : List Value) (x : DataW H × List MemPlace) (h : DataW.trod enc Try.prog w base spare held n 32 cs = some x) : ∃ t : Thg, cs = t.cells ∧ t.Ok := by
  obtain ⟨xs, n, _, _, hlen, hxl, hf⟩ := DataW.trod_struct Try.underlying32 h
  rw [cells32] at hlen
  match cs, hlen with
  | [c0, c1, c2], _ =>
    have g0 : DataW.trod enc Try.prog w base spare held n 9 (([c0, c1, c2].drop 0).take (Try.prog.cellsOf 9)) = xs[0]? := hf 0 _ rfl
    have g1 : DataW.trod enc Try.prog w base spare held n 24 (([c0, c1, c2].drop 1).take (Try.prog.cellsOf 24)) = xs[1]? := hf 1 _ rfl
    have g2 : DataW.trod enc Try.prog w base spare held n 30 (([c0, c1, c2].drop 2).take (Try.prog.cellsOf 30)) = xs[2]? := hf 2 _ rfl
    simp only [cells9, cells24, cells30, List.drop_zero, List.drop_succ_cons, List.take_succ_cons, List.take_zero] at g0 g1 g2
    rw [List.getElem?_eq_getElem (by rw [hxl]; decide)] at g0 g1 g2
    obtain ⟨s, h0, _, _⟩ := DataW.trod_string Try.underlying9 g0
    obtain ⟨f, h2⟩ := trod_float Try.underlying30 g2
    simp at h0 h2
    subst h0 h2
    have g1' := g1
    rcases open_slice Try.underlying24 g1 with ⟨hcs, _⟩ | ⟨ad, len', cap', m, n', D, Pl, hcs, _, hl, hm, hmm, hx, hi⟩
    · simp at hcs
      subst hcs
      exact ⟨⟨s, none, 0, 0, f⟩, rfl, by simp, .inl rfl⟩
    · simp at hcs
      subst hcs
      obtain ⟨L, hL, hmax, _, _, _, hc⟩ := open_elems (α := Int) (fun z => [.int .i64 z]) (fun _ => True) 1 Try.underlying24 cells3 (fun _ => rfl) (by decide) (fun n cs x h => by obtain ⟨z, hz, _⟩ := DataW.trod_int Try.underlying3 h; exact ⟨z, hz, trivial⟩) g1'
      refine ⟨⟨s, some ad, len', cap', f⟩, rfl, by unfold maxLen at hmax; simp only; omega, ?_⟩
      rcases Nat.eq_zero_or_pos len' with h0 | h0
      · exact .inl h0
      · right
        obtain ⟨z, hz⟩ : ∃ z, L[0]? = some z := ⟨_, List.getElem?_eq_getElem (by omega)⟩
        obtain ⟨_, b, off, hb, _⟩ := hc 0 z hz
        exact ⟨b, off, hb⟩
end

set_option maxHeartbeats 1000000 in
theorem contract (H : Type) (enc : TypeId × Value → H) (W : World) (base : Nat) (args : Array Value) (ds gs : List (DataW H)) (before : List MemPlace)
    (hval0 : ∀ (j : Nat) t v, Try.f3.params[j]? = some t → args[j]? = some v → Value.okWide Try.prog W .any base t v)
    (hW : DataW.Whole enc Try.prog Try.f3.params.toList Rows.arenaApartSpec.vars false W args.toList ds gs before) (hk : Rows.uptoSmall H (ds ++ gs) = true) :
    Calls Try.prog 3 args W fun e W' => ∃ v, e = .returned v ∧ Rows.arenaApartSpec.post enc Try.prog Try.f3 false true false false W args v W' := by
  have hval : ∀ (j : Nat) t v, Try.f3.params[j]? = some t → args[j]? = some v → Value.okWide Try.prog W .any base t v := hval0
  have hW' := hW
  obtain ⟨p, q, hA0, hV, rfl, hfz, hnd⟩ := hW
  have hA : DataW.TrodAll enc Try.prog W 0 (fun _ => true) true Try.f3.params.toList args.toList ds p := hA0
  rw [Try.params3] at hA hval
  obtain ⟨v0, vs0, d0, ds0, p0, q0, hargs, rfl, rfl, h0, r0⟩ := trodAll_cons hA
  obtain ⟨v1, vs1, d1, ds1, p1, q1, rfl, rfl, rfl, h1, r1⟩ := trodAll_cons r0
  obtain ⟨v2, vs2, d2, ds2, p2, q2, rfl, rfl, rfl, h2, r2⟩ := trodAll_cons r1
  obtain ⟨rfl, rfl, rfl⟩ := trodAll_nil r2
  obtain rfl : args = #[v0, v1, v2] := by cases args; simp_all
  obtain ⟨rfl, rfl⟩ := trodVars_none hV
  have k0 := h0
  have k1 := h1
  have k2 := h2
  have lt0 : ∀ x ∈ p0, x.block < W.heap.size := by obtain ⟨m, hm⟩ := k0; exact DataW.trod_lt m _ _ _ hm
  have lt1 : ∀ x ∈ p1, x.block < W.heap.size := by obtain ⟨m, hm⟩ := k1; exact DataW.trod_lt m _ _ _ hm
  have lt2 : ∀ x ∈ p2, x.block < W.heap.size := by obtain ⟨m, hm⟩ := k2; exact DataW.trod_lt m _ _ _ hm
  obtain ⟨la, ln, lc, rfl⟩ := okWide_slice Try.underlying22 (hval 0 22 v0 rfl rfl)
  obtain ⟨xa, xn, xc, rfl⟩ := okWide_slice Try.underlying23 (hval 1 23 v1 rfl rfl)
  obtain ⟨fa, fn, fc, rfl⟩ := okWide_slice Try.underlying24 (hval 2 24 v2 rfl rfl)
  obtain ⟨fuel0, hf0⟩ := h0
  obtain ⟨fuel1, hf1⟩ := h1
  obtain ⟨fuel2, hf2⟩ := h2
  obtain ⟨L, rfl, hm0, l0, n0, o0, c0⟩ := open_elems Thg.cells Thg.Ok 3 Try.underlying22 cells32 (fun _ => rfl) (by decide) open_thing hf0
  obtain ⟨X, rfl, hm1, l1, n1, o1, c1⟩ := open_elems (fun x : ByteArray => [.string x]) (fun _ => True) 1 Try.underlying23 cells9 (fun _ => rfl) (by decide) (fun n cs x h => by obtain ⟨z, hz, _⟩ := DataW.trod_string Try.underlying9 h; exact ⟨z, hz, trivial⟩) hf1
  obtain ⟨F, rfl, hm2, l2, n2, o2, c2⟩ := open_elems (fun z : Int => [.int .i64 z]) (fun z => -9223372036854775808 ≤ z ∧ z ≤ 9223372036854775807) 1 Try.underlying24 cells3 (fun _ => rfl) (by decide) (fun n cs x h => by
    obtain ⟨z, hz, _, hw⟩ := DataW.trod_int Try.underlying3 h
    have := bounds_i64 hw
    exact ⟨z, hz, by omega, by omega⟩) hf2
  have hkk : Rows.uptoBulkAll [d0, d1, d2] ≤ 1048576 := by
    have h : Rows.uptoBulkAll ([d0, d1, d2] ++ []) ≤ 1048576 := of_decide_eq_true hk
    simpa using h
  simp only [Rows.uptoBulkAll] at hkk
  have hL : L.length ≤ 1048576 := by
    rcases o0 with h | ⟨D, E, h⟩
    · have := n0 h; omega
    · have := l0 _ _ h; have := uptoBulk_slice D E; simp only at h; rw [h] at hkk; omega
  have hX : X.length ≤ 1048576 := by
    rcases o1 with h | ⟨D, E, h⟩
    · have := n1 h; omega
    · have := l1 _ _ h; have := uptoBulk_slice D E; simp only at h; rw [h] at hkk; omega
  clear hA0 hval0
  refine (apart_walk W L X F la xa fa lc xc fc hL hX (by unfold maxLen at hm2; omega) c0 (fun i x hx => by
    obtain ⟨_, b, off, h1, h2, h3⟩ := c1 i x hx
    exact ⟨b, off, h1, h2, by simpa using h3 0 _ rfl⟩) (fun i x hx => by
    obtain ⟨hz, b, off, h1, h2, h3⟩ := c2 i x hx
    exact ⟨hz, b, off, h1, h2, by simpa using h3 0 _ rfl⟩)).mono fun e W' ⟨he, bel⟩ => ?_
  subst he
  exact ⟨_, rfl, _, _, _, [], _, [], hW', trodAll_mk1 (shut_bool Try.underlying4 _), (trodAll_cons_mk (Below.trod laidOut (by kernel_rfl) (of_decide_eq_true (by kernel_rfl)) k0 bel lt0) (trodAll_cons_mk (Below.trod laidOut (by kernel_rfl) (of_decide_eq_true (by kernel_rfl)) k1 bel lt1) (trodAll_cons_mk (Below.trod laidOut (by kernel_rfl) (of_decide_eq_true (by kernel_rfl)) k2 bel lt2) trodAll_mk0))), rfl, bel.frame _, fun h => by cases h⟩

theorem lifted (os : Os) (started : os.Started) (H : Type) (enc : TypeId × Value → H) (F : Stop.Interp) :
    ReturnsInHanded {} Try.checked os 3 .any ((Rows.OpenSpec.upto Rows.arenaApartSpec).pre6 enc Try.prog Try.f3 Rows.arenaApartUptoRow.domain false) (((Rows.OpenSpec.upto Rows.arenaApartSpec).at F).post enc Try.prog Try.f3 false true false false) := by
  refine returnsInHanded_of_cond (C := Try.checked) (s := Rows.OpenSpec.upto Rows.arenaApartSpec) (k := Rows.uptoSmall) rfl own started (by kernel_rfl) Try.func3
    (OpenSpec.witness (enc := enc) (C := Try.checked) (s := Rows.OpenSpec.upto Rows.arenaApartSpec) (k := Rows.uptoSmall) rfl false ⟨#[], #[.slice none 0 0, .slice none 0 0, .slice none 0 0], []⟩ 8 (by kernel_rfl) (by kernel_rfl) (by kernel_rfl)
      (x := ([.nil, .nil, .nil], [], [])) (by kernel_rfl) rfl (by kernel_rfl)) ?_
  intro W base args ds gs before hval hW _ hk _
  exact contract H enc W base args ds gs before hval hW hk

theorem over : Rows.arenaApartUptoRow.holds Try.pinned (Rows.OpenSpec.upto Rows.arenaApartSpec) :=
  OpenClaim.holds_of_cond 3 Try.f3 rfl rfl rfl rfl rfl rfl rfl ⟨rfl, rfl, rfl, rfl, rfl⟩ rfl rfl rfl rfl rfl (by kernel_rfl) Try.func3 (by kernel_rfl)
    (of_decide_eq_true (by kernel_rfl)) (by unfold Func.isWrapper; first | (rw [if_pos (by decide +kernel)]; kernel_rfl) | (rw [if_neg (by decide +kernel)]; exact ⟨rfl, rfl⟩))
    (fun os started H enc _ F => lifted os started H enc F)

/-- THE STATEMENT. -/
theorem proved : Rows.ArenaApartUptoSaid := over
#print axioms proved
end Go.Proofs.Ytlmbpbijhhnhpaa.arenaApart
