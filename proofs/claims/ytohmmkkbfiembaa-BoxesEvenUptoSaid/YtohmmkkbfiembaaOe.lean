/- Arguments opened: whole numbers of 32 bits, the rows of BoxesEven. No program's run. -/
import Derived.Test.YtohmmkkbfiembaaOs
import Derived.Test.YtohmmkkbfiembaaFe5
namespace Go.Proofs.Ytohmmkkbfiembaa
open Go.ChangeShapes Go.WideShapes Go.ChangeAt Go.RowKit Go.Deep
set_option linter.unusedVariables false
set_option maxRecDepth 100000

theorem cellsU32s : Try.prog.cellsOf 33 = 1 := by kernel_rfl
theorem cellsEv : Try.prog.cellsOf 36 = 8 := by kernel_rfl
section
variable {H : Type} {enc : TypeId × Value → H} {w : World} {base : Nat} {spare : Nat → Bool} {held : Bool}
theorem open_u32 {fuel : Nat} {cs : List Value} {x : DataW H × List MemPlace} (h : DataW.trod enc Try.prog w base spare held fuel 34 cs = some x) : ∃ n : Nat, cs = [.int .u32 (n : Int)] ∧ n < 4294967296 := by
  obtain ⟨z, hz, _, hw⟩ := DataW.trod_int Try.underlying34 h
  have hw' := bounds_u32 hw
  exact ⟨z.toNat, by rw [hz, Int.toNat_of_nonneg hw'.1], by omega⟩
theorem open_u32s {fuel : Nat} {cs : List Value} {x : DataW H × List MemPlace} (h : DataW.trod enc Try.prog w base spare held fuel 33 cs = some x) :
    ∃ (a : Option Addr) (len cap : Nat) (f : Nat → Nat), cs = [.slice a len cap] ∧ SlU w a len f ∧ len ≤ Rows.uptoBulk x.1 := by
  have h0 := h
  rcases open_slice Try.underlying33 h with ⟨rfl, rfl⟩ | ⟨ad, len, cap, m, n, D, Pl, rfl, _, hl, hm, hmm, rfl, hi⟩
  · exact ⟨none, 0, 0, fun _ => 0, rfl, ⟨fun i hi => by omega⟩, Nat.zero_le _⟩
  · obtain ⟨L, h1, _, h2, h3, h4, h5⟩ := open_elems (fun n : Nat => [.int .u32 (n : Int)]) (fun n => n < 4294967296) 1 Try.underlying33 cellsU32 (fun _ => rfl) (by decide) (fun n cs x h => open_u32 h) h0
    refine ⟨some ad, len, cap, fun i => L.getD i 0, rfl, ⟨fun i hi => ?_⟩, ?_⟩
    · obtain ⟨g, b, off, e1, _, e3⟩ := h5 i (L.getD i 0) (by rw [List.getD_eq_getElem?_getD, List.getElem?_eq_getElem (by omega)]; rfl)
      exact ⟨g, b, off, e1, by simpa using e3 0 _ rfl⟩
    · have hlen := bulk_length ((List.range len).map D)
      simp only [List.length_map, List.length_range] at hlen
      simp only [Rows.uptoBulk]
      omega
theorem open_even {fuel : Nat} {cs : List Value} {x : DataW H × List MemPlace} (h : DataW.trod enc Try.prog w base spare held fuel 36 cs = some x) :
    ∃ (more room : Nat) (a0 a1 a2 a3 a4 a5 : Option Addr) (n0 n1 n2 n3 n4 n5 c0 c1 c2 c3 c4 c5 : Nat) (X f1 f2 f3 f4 f5 : Nat → Nat), cs = [.slice a0 n0 c0, .int .u32 (more : Int), fl room, .slice a1 n1 c1, .slice a2 n2 c2, .slice a3 n3 c3, .slice a4 n4 c4, .slice a5 n5 c5] ∧
      SlU w a0 n0 X ∧ Five w a1 a2 a3 a4 a5 n1 n2 n3 n4 n5 f1 f2 f3 f4 f5 ∧ room < 18446744073709551616 ∧ n0 ≤ Rows.uptoBulk x.1 ∧ (n1 ≤ Rows.uptoBulk x.1 ∧ n2 ≤ Rows.uptoBulk x.1 ∧ n3 ≤ Rows.uptoBulk x.1 ∧ n4 ≤ Rows.uptoBulk x.1 ∧ n5 ≤ Rows.uptoBulk x.1) ∧ Caps n1 n2 n3 n4 n5 c1 c2 c3 c4 c5 ∧ more < 4294967296 := by
  obtain ⟨xs, n, _, hx, hlen, hxl, hf⟩ := DataW.trod_struct Try.underlying36 h
  rw [cellsEv] at hlen
  match cs, hlen with
  | [c0, c1, c2, c3, c4, c5, c6, c7], _ =>
    have g0 : DataW.trod enc Try.prog w base spare held n 33 (([c0, c1, c2, c3, c4, c5, c6, c7].drop 0).take (Try.prog.cellsOf 33)) = xs[0]? := hf 0 _ rfl
    have g1 : DataW.trod enc Try.prog w base spare held n 34 (([c0, c1, c2, c3, c4, c5, c6, c7].drop 1).take (Try.prog.cellsOf 34)) = xs[1]? := hf 1 _ rfl
    have g2 : DataW.trod enc Try.prog w base spare held n 26 (([c0, c1, c2, c3, c4, c5, c6, c7].drop 2).take (Try.prog.cellsOf 26)) = xs[2]? := hf 2 _ rfl
    simp only [cellsU32s, cellsU32, cellsRm, List.drop_zero, List.drop_succ_cons, List.take_succ_cons, List.take_zero] at g0 g1 g2
    have u0 := List.getElem?_eq_getElem (l := xs) (i := 0) (by rw [hxl]; decide)
    have u2 := List.getElem?_eq_getElem (l := xs) (i := 2) (by rw [hxl]; decide)
    rw [List.getElem?_eq_getElem (by rw [hxl]; decide)] at g0 g1 g2
    have hbb : Rows.uptoBulk x.1 = Rows.uptoBulkAll (xs.map (·.1)) + 1 := by rw [hx]; rfl
    have hb0 := bulk_get u0
    have hb2 := bulk_get u2
    obtain ⟨a0, n0, k0, X, h0, s0, m0⟩ := open_u32s g0
    obtain ⟨more, h1, hm⟩ := open_u32 g1
    obtain ⟨room, a1, a2, a3, a4, a5, n1, n2, n3, n4, n5, k1, k2, k3, k4, k5, f1, f2, f3, f4, f5, h2, hr, hfive, hcaps, b1, b2, b3, b4, b5⟩ := open_room g2
    simp at h0 h1 h2
    obtain ⟨rfl, rfl, rfl, rfl, rfl, rfl⟩ := h2
    subst h0 h1
    exact ⟨more, room, a0, a1, a2, a3, a4, a5, n0, n1, n2, n3, n4, n5, k0, k1, k2, k3, k4, k5, X, f1, f2, f3, f4, f5, rfl, s0, hfive, hr, by omega, ⟨by omega, by omega, by omega, by omega, by omega⟩, hcaps, hm⟩
end
theorem oe_end : True := trivial
end Go.Proofs.Ytohmmkkbfiembaa
