/- Arguments opened: numbers, whole numbers, units, boxes. No program's run. -/
import Derived.Test.YtohmmkkbfiembaaRows
import Derived.Test.YtohmmkkbfiembaaOp0
import Derived.Test.YtohmmkkbfiembaaFq3
import Derived.ProofKit
import Derived.OpenShut
import Derived.ShutString
import Derived.ChangeOld
import Derived.JoinedCond
import Derived.SizedLaws
namespace Go.Proofs.Ytohmmkkbfiembaa
open Go.ChangeShapes Go.WideShapes Go.ChangeAt Go.RowKit Go.Deep
set_option linter.unusedVariables false
set_option maxRecDepth 100000

theorem cellsF : Try.prog.cellsOf 23 = 1 := by kernel_rfl
theorem cellsI : Try.prog.cellsOf 3 = 1 := by kernel_rfl
theorem cellsU16 : Try.prog.cellsOf 170 = 1 := by kernel_rfl
theorem cellsU32 : Try.prog.cellsOf 34 = 1 := by kernel_rfl
theorem cellsHd : Try.prog.cellsOf 53 = 2 := by kernel_rfl
theorem cellsRc : Try.prog.cellsOf 43 = 4 := by kernel_rfl
theorem cellsBx : Try.prog.cellsOf 64 = 7 := by kernel_rfl

section
variable {H : Type} {enc : TypeId × Value → H} {w : World} {base : Nat} {spare : Nat → Bool} {held : Bool}
theorem trod_f64 {fuel : Nat} {cs : List Value} {x : DataW H × List MemPlace} (h : DataW.trod enc Try.prog w base spare held fuel 23 cs = some x) : ∃ n : Nat, cs = [fl n] ∧ n < 18446744073709551616 := by
  cases fuel with
  | zero => simp [DataW.trod] at h
  | succ n =>
    unfold DataW.trod at h
    rw [Try.underlying23] at h
    split at h <;> simp_all
    rename_i k k' b e
    subst e
    have h2 : b < 2 ^ 64 := of_decide_eq_true h.1.2
    omega
/-- A box as it came in. -/
structure BxD where
  s : Nat
  g : Nat
  a : Int
  x : Nat
  y : Nat
  z : Nat
  t : Nat
instance : Inhabited BxD := ⟨⟨0, 0, 0, 0, 0, 0, 0⟩⟩
def BxD.cells (o : BxD) : List Value := [.int .u32 (o.s : Int), .int .u32 (o.g : Int), .int .i64 o.a, fl o.x, fl o.y, fl o.z, fl o.t]
def BxD.Ok (o : BxD) : Prop := -9223372036854775808 ≤ o.a ∧ o.a ≤ 9223372036854775807 ∧ o.x < 18446744073709551616 ∧ o.y < 18446744073709551616 ∧ o.z < 18446744073709551616 ∧ o.t < 18446744073709551616
theorem open_hd {fuel : Nat} {cs : List Value} {x : DataW H × List MemPlace} (h : DataW.trod enc Try.prog w base spare held fuel 53 cs = some x) : ∃ s g : Nat, cs = [.int .u32 (s : Int), .int .u32 (g : Int)] := by
  obtain ⟨xs, n, _, _, hlen, hxl, hf⟩ := DataW.trod_struct Try.underlying53 h
  rw [cellsHd] at hlen
  match cs, hlen with
  | [c0, c1], _ =>
    have g0 : DataW.trod enc Try.prog w base spare held n 34 (([c0, c1].drop 0).take (Try.prog.cellsOf 34)) = xs[0]? := hf 0 _ rfl
    have g1 : DataW.trod enc Try.prog w base spare held n 34 (([c0, c1].drop 1).take (Try.prog.cellsOf 34)) = xs[1]? := hf 1 _ rfl
    simp only [cellsU32, List.drop_zero, List.drop_succ_cons, List.take_succ_cons, List.take_zero] at g0 g1
    rw [List.getElem?_eq_getElem (by rw [hxl]; decide)] at g0 g1
    obtain ⟨a, h0, _, w0⟩ := DataW.trod_int Try.underlying34 g0
    obtain ⟨b, h1, _, w1⟩ := DataW.trod_int Try.underlying34 g1
    simp at h0 h1
    subst h0 h1
    have w0' := bounds_u32 w0
    have w1' := bounds_u32 w1
    exact ⟨a.toNat, b.toNat, by rw [Int.toNat_of_nonneg w0'.1, Int.toNat_of_nonneg w1'.1]⟩
theorem open_rc {fuel : Nat} {cs : List Value} {x : DataW H × List MemPlace} (h : DataW.trod enc Try.prog w base spare held fuel 43 cs = some x) : ∃ a b c d : Nat, cs = [fl a, fl b, fl c, fl d] ∧ a < 18446744073709551616 ∧ b < 18446744073709551616 ∧ c < 18446744073709551616 ∧ d < 18446744073709551616 := by
  obtain ⟨xs, n, _, _, hlen, hxl, hf⟩ := DataW.trod_struct Try.underlying43 h
  rw [cellsRc] at hlen
  match cs, hlen with
  | [c0, c1, c2, c3], _ =>
    have g0 : DataW.trod enc Try.prog w base spare held n 23 (([c0, c1, c2, c3].drop 0).take (Try.prog.cellsOf 23)) = xs[0]? := hf 0 _ rfl
    have g1 : DataW.trod enc Try.prog w base spare held n 23 (([c0, c1, c2, c3].drop 1).take (Try.prog.cellsOf 23)) = xs[1]? := hf 1 _ rfl
    have g2 : DataW.trod enc Try.prog w base spare held n 23 (([c0, c1, c2, c3].drop 2).take (Try.prog.cellsOf 23)) = xs[2]? := hf 2 _ rfl
    have g3 : DataW.trod enc Try.prog w base spare held n 23 (([c0, c1, c2, c3].drop 3).take (Try.prog.cellsOf 23)) = xs[3]? := hf 3 _ rfl
    simp only [cellsF, List.drop_zero, List.drop_succ_cons, List.take_succ_cons, List.take_zero] at g0 g1 g2 g3
    rw [List.getElem?_eq_getElem (by rw [hxl]; decide)] at g0 g1 g2 g3
    obtain ⟨a, h0, w0⟩ := trod_f64 g0
    obtain ⟨b, h1, w1⟩ := trod_f64 g1
    obtain ⟨c, h2, w2⟩ := trod_f64 g2
    obtain ⟨d, h3, w3⟩ := trod_f64 g3
    simp at h0 h1 h2 h3
    subst h0 h1 h2 h3
    exact ⟨a, b, c, d, rfl, w0, w1, w2, w3⟩
theorem open_bx {fuel : Nat} {cs : List Value} {x : DataW H × List MemPlace} (h : DataW.trod enc Try.prog w base spare held fuel 64 cs = some x) : ∃ o : BxD, cs = o.cells ∧ o.Ok := by
  obtain ⟨xs, n, _, _, hlen, hxl, hf⟩ := DataW.trod_struct Try.underlying64 h
  rw [cellsBx] at hlen
  match cs, hlen with
  | [c0, c1, c2, c3, c4, c5, c6], _ =>
    have g0 : DataW.trod enc Try.prog w base spare held n 53 (([c0, c1, c2, c3, c4, c5, c6].drop 0).take (Try.prog.cellsOf 53)) = xs[0]? := hf 0 _ rfl
    have g1 : DataW.trod enc Try.prog w base spare held n 3 (([c0, c1, c2, c3, c4, c5, c6].drop 2).take (Try.prog.cellsOf 3)) = xs[1]? := hf 1 _ rfl
    have g2 : DataW.trod enc Try.prog w base spare held n 43 (([c0, c1, c2, c3, c4, c5, c6].drop 3).take (Try.prog.cellsOf 43)) = xs[2]? := hf 2 _ rfl
    simp only [cellsHd, cellsI, cellsRc, List.drop_zero, List.drop_succ_cons, List.take_succ_cons, List.take_zero] at g0 g1 g2
    rw [List.getElem?_eq_getElem (by rw [hxl]; decide)] at g0 g1 g2
    obtain ⟨s, g, h0⟩ := open_hd g0
    obtain ⟨a, h1, _, w1⟩ := DataW.trod_int Try.underlying3 g1
    obtain ⟨x, y, z, t, h2, w2, w3, w4, w5⟩ := open_rc g2
    simp at h0 h1 h2
    obtain ⟨rfl, rfl⟩ := h0
    obtain ⟨rfl, rfl, rfl, rfl⟩ := h2
    subst h1
    have w1' := bounds_i64 w1
    exact ⟨⟨s, g, a, x, y, z, t⟩, rfl, by simp only; omega, by simp only; omega, w2, w3, w4, w5⟩
theorem open_floats {fuel : Nat} {a : Option Addr} {len cap : Nat} {x : DataW H × List MemPlace} (h : DataW.trod enc Try.prog w base spare held fuel 24 [.slice a len cap] = some x) :
    ∃ f, SlF w a len f ∧ (∀ (D : List (DataW H)) (E : List (DataW H)), x.1 = .slice D E → D.length = len) ∧ (x.1 = .nil → len = 0) ∧ (x.1 = .nil ∨ ∃ D E, x.1 = .slice D E) := by
  obtain ⟨L, h1, _, h2, h3, h4, h5⟩ := open_elems (fun n : Nat => [fl n]) (fun n => n < 18446744073709551616) 1 Try.underlying24 cellsF (fun _ => rfl) (by decide) (fun n cs x h => trod_f64 h) h
  refine ⟨fun i => L.getD i 0, ⟨fun i hi => ?_⟩, h2, h3, h4⟩
  obtain ⟨g, b, off, e1, _, e3⟩ := h5 i (L.getD i 0) (by rw [List.getD_eq_getElem?_getD, List.getElem?_eq_getElem (by omega)]; rfl)
  exact ⟨g, b, off, e1, by simpa using e3 0 _ rfl⟩
theorem open_ints2 {fuel : Nat} {a : Option Addr} {len cap : Nat} {x : DataW H × List MemPlace} (h : DataW.trod enc Try.prog w base spare held fuel 40 [.slice a len cap] = some x) :
    ∃ f, SlI w a len f ∧ (∀ (D : List (DataW H)) (E : List (DataW H)), x.1 = .slice D E → D.length = len) ∧ (x.1 = .nil → len = 0) ∧ (x.1 = .nil ∨ ∃ D E, x.1 = .slice D E) := by
  obtain ⟨L, h1, _, h2, h3, h4, h5⟩ := open_elems (fun n : Int => [.int .i64 n]) (fun _ => True) 1 Try.underlying40 cellsI (fun _ => rfl) (by decide) (fun n cs x h => by
    obtain ⟨z, hz, _, _⟩ := DataW.trod_int Try.underlying3 h
    exact ⟨z, hz, trivial⟩) h
  refine ⟨fun i => L.getD i 0, ⟨fun i hi => ?_⟩, h2, h3, h4⟩
  obtain ⟨g, b, off, e1, _, e3⟩ := h5 i (L.getD i 0) (by rw [List.getD_eq_getElem?_getD, List.getElem?_eq_getElem (by omega)]; rfl)
  exact ⟨b, off, e1, by simpa using e3 0 _ rfl⟩
theorem open_boxes {fuel : Nat} {a : Option Addr} {len cap : Nat} {x : DataW H × List MemPlace} (h : DataW.trod enc Try.prog w base spare held fuel 39 [.slice a len cap] = some x) :
    ∃ A R, BxIn w a len A R ∧ (∀ (D : List (DataW H)) (E : List (DataW H)), x.1 = .slice D E → D.length = len) ∧ (x.1 = .nil → len = 0) ∧ (x.1 = .nil ∨ ∃ D E, x.1 = .slice D E) := by
  obtain ⟨L, h1, _, h2, h3, h4, h5⟩ := open_elems BxD.cells BxD.Ok 7 Try.underlying39 cellsBx (fun _ => rfl) (by decide) (fun n cs x h => open_bx h) h
  refine ⟨fun i => (L.getD i default).a, fun i j => if j = 0 then (L.getD i default).x else if j = 1 then (L.getD i default).y else if j = 2 then (L.getD i default).z else (L.getD i default).t, ⟨fun i hi => ?_⟩, h2, h3, h4⟩
  obtain ⟨⟨k1, k2, k3, k4, k5, k6⟩, b, off, e1, _, e3⟩ := h5 i (L.getD i default) (by rw [List.getD_eq_getElem?_getD, List.getElem?_eq_getElem (by omega)]; rfl)
  refine ⟨⟨k1, k2⟩, fun j _ => ?_, b, off, e1, e3 2 _ rfl, e3 3 _ rfl, e3 4 _ rfl, e3 5 _ rfl, e3 6 _ rfl⟩
  split
  · exact k3
  · split
    · exact k4
    · split
      · exact k5
      · exact k6
end
theorem oq_end : True := trivial
end Go.Proofs.Ytohmmkkbfiembaa
