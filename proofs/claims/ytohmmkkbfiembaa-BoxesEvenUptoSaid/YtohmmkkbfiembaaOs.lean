/- Arguments opened, with their bulk: rows of numbers, a room with its rows. No program's run. -/
import Derived.Test.YtohmmkkbfiembaaOq
import Derived.Test.YtohmmkkbfiembaaFg4
namespace Go.Proofs.Ytohmmkkbfiembaa
open Go.ChangeShapes Go.WideShapes Go.ChangeAt Go.RowKit Go.Deep
set_option linter.unusedVariables false
set_option maxRecDepth 100000

theorem bulk_one {H : Type} (d : DataW H) : 1 ≤ Rows.uptoBulk d := by
  cases d with
  | lit l => cases l <;> simp [Rows.uptoBulk]
  | nil => simp [Rows.uptoBulk]
  | ptr d => simp [Rows.uptoBulk]
  | slice elems spare => simp [Rows.uptoBulk]
  | agg parts => simp [Rows.uptoBulk]
  | iface t d => simp [Rows.uptoBulk]
  | map entries => simp [Rows.uptoBulk]
  | held h => simp [Rows.uptoBulk]
theorem bulk_length {H : Type} (l : List (DataW H)) : l.length ≤ Rows.uptoBulkAll l := by
  induction l with
  | nil => simp [Rows.uptoBulkAll]
  | cons x r ih => have := bulk_one x; simp only [Rows.uptoBulkAll, List.length_cons]; omega
theorem bulk_mem {H : Type} {l : List (DataW H)} {d : DataW H} (h : d ∈ l) : Rows.uptoBulk d ≤ Rows.uptoBulkAll l := by
  induction l with
  | nil => simp at h
  | cons x r ih =>
    simp only [Rows.uptoBulkAll]
    rcases List.mem_cons.1 h with rfl | h
    · omega
    · have := ih h; omega
theorem bulk_get {H : Type} {l : List (DataW H × List MemPlace)} {i : Nat} {x : DataW H × List MemPlace} (h : l[i]? = some x) : Rows.uptoBulk x.1 ≤ Rows.uptoBulkAll (l.map (·.1)) :=
  bulk_mem (List.mem_map.2 ⟨x, List.mem_of_getElem? h, rfl⟩)
theorem agg_of {v : Value} {l : List Value} (h : v.cells.toList = l) (hl : 1 < l.length) : ∃ c, v = .agg c ∧ c.toList = l := by
  cases v with
  | agg c => exact ⟨c, rfl, h⟩
  | _ => exfalso; subst h; simp [Value.cells] at hl
theorem cellsFs : Try.prog.cellsOf 24 = 1 := by kernel_rfl
theorem cellsRm : Try.prog.cellsOf 26 = 6 := by kernel_rfl

section
variable {H : Type} {enc : TypeId × Value → H} {w : World} {base : Nat} {spare : Nat → Bool} {held : Bool}
theorem open_fl2 {fuel : Nat} {cs : List Value} {x : DataW H × List MemPlace} (h : DataW.trod enc Try.prog w base spare held fuel 24 cs = some x) :
    ∃ (a : Option Addr) (len cap : Nat) (f : Nat → Nat), cs = [.slice a len cap] ∧ SlF w a len f ∧ (len ≤ cap ∧ cap ≤ 9223372036854775807) ∧ len ≤ Rows.uptoBulk x.1 := by
  have h0 := h
  rcases open_slice Try.underlying24 h with ⟨rfl, rfl⟩ | ⟨ad, len, cap, m, n, D, Pl, rfl, _, hl, hm, hmm, rfl, hi⟩
  · exact ⟨none, 0, 0, fun _ => 0, rfl, ⟨fun i hi => by omega⟩, ⟨Nat.le_refl _, by omega⟩, Nat.zero_le _⟩
  · obtain ⟨f, hf, _⟩ := open_floats h0
    refine ⟨some ad, len, cap, f, rfl, hf, ⟨hl, hm⟩, ?_⟩
    have hlen := bulk_length ((List.range len).map D)
    simp only [List.length_map, List.length_range] at hlen
    simp only [Rows.uptoBulk]
    omega
theorem open_room {fuel : Nat} {cs : List Value} {x : DataW H × List MemPlace} (h : DataW.trod enc Try.prog w base spare held fuel 26 cs = some x) :
    ∃ (room : Nat) (a1 a2 a3 a4 a5 : Option Addr) (n1 n2 n3 n4 n5 c1 c2 c3 c4 c5 : Nat) (f1 f2 f3 f4 f5 : Nat → Nat), cs = [fl room, .slice a1 n1 c1, .slice a2 n2 c2, .slice a3 n3 c3, .slice a4 n4 c4, .slice a5 n5 c5] ∧
      room < 18446744073709551616 ∧ Five w a1 a2 a3 a4 a5 n1 n2 n3 n4 n5 f1 f2 f3 f4 f5 ∧ Caps n1 n2 n3 n4 n5 c1 c2 c3 c4 c5 ∧ (n1 ≤ Rows.uptoBulk x.1 ∧ n2 ≤ Rows.uptoBulk x.1 ∧ n3 ≤ Rows.uptoBulk x.1 ∧ n4 ≤ Rows.uptoBulk x.1 ∧ n5 ≤ Rows.uptoBulk x.1) := by
  obtain ⟨xs, n, _, hx, hlen, hxl, hf⟩ := DataW.trod_struct Try.underlying26 h
  rw [cellsRm] at hlen
  match cs, hlen with
  | [c0, c1, c2, c3, c4, c5], _ =>
    have g0 : DataW.trod enc Try.prog w base spare held n 23 (([c0, c1, c2, c3, c4, c5].drop 0).take (Try.prog.cellsOf 23)) = xs[0]? := hf 0 _ rfl
    have g1 : DataW.trod enc Try.prog w base spare held n 24 (([c0, c1, c2, c3, c4, c5].drop 1).take (Try.prog.cellsOf 24)) = xs[1]? := hf 1 _ rfl
    have g2 : DataW.trod enc Try.prog w base spare held n 24 (([c0, c1, c2, c3, c4, c5].drop 2).take (Try.prog.cellsOf 24)) = xs[2]? := hf 2 _ rfl
    have g3 : DataW.trod enc Try.prog w base spare held n 24 (([c0, c1, c2, c3, c4, c5].drop 3).take (Try.prog.cellsOf 24)) = xs[3]? := hf 3 _ rfl
    have g4 : DataW.trod enc Try.prog w base spare held n 24 (([c0, c1, c2, c3, c4, c5].drop 4).take (Try.prog.cellsOf 24)) = xs[4]? := hf 4 _ rfl
    have g5 : DataW.trod enc Try.prog w base spare held n 24 (([c0, c1, c2, c3, c4, c5].drop 5).take (Try.prog.cellsOf 24)) = xs[5]? := hf 5 _ rfl
    simp only [cellsF, cellsFs, List.drop_zero, List.drop_succ_cons, List.take_succ_cons, List.take_zero] at g0 g1 g2 g3 g4 g5
    have u1 := List.getElem?_eq_getElem (l := xs) (i := 1) (by rw [hxl]; decide)
    have u2 := List.getElem?_eq_getElem (l := xs) (i := 2) (by rw [hxl]; decide)
    have u3 := List.getElem?_eq_getElem (l := xs) (i := 3) (by rw [hxl]; decide)
    have u4 := List.getElem?_eq_getElem (l := xs) (i := 4) (by rw [hxl]; decide)
    have u5 := List.getElem?_eq_getElem (l := xs) (i := 5) (by rw [hxl]; decide)
    rw [List.getElem?_eq_getElem (by rw [hxl]; decide)] at g0 g1 g2 g3 g4 g5
    have hbb : Rows.uptoBulk x.1 = Rows.uptoBulkAll (xs.map (·.1)) + 1 := by rw [hx]; rfl
    have hb1 := bulk_get u1
    have hb2 := bulk_get u2
    have hb3 := bulk_get u3
    have hb4 := bulk_get u4
    have hb5 := bulk_get u5
    obtain ⟨room, h0, w0⟩ := trod_f64 g0
    obtain ⟨a1, n1, k1, f1, h1, s1, l1, m1⟩ := open_fl2 g1
    obtain ⟨a2, n2, k2, f2, h2, s2, l2, m2⟩ := open_fl2 g2
    obtain ⟨a3, n3, k3, f3, h3, s3, l3, m3⟩ := open_fl2 g3
    obtain ⟨a4, n4, k4, f4, h4, s4, l4, m4⟩ := open_fl2 g4
    obtain ⟨a5, n5, k5, f5, h5, s5, l5, m5⟩ := open_fl2 g5
    simp at h0 h1 h2 h3 h4 h5
    subst h0 h1 h2 h3 h4 h5
    exact ⟨room, a1, a2, a3, a4, a5, n1, n2, n3, n4, n5, k1, k2, k3, k4, k5, f1, f2, f3, f4, f5, rfl, w0, ⟨s1, s2, s3, s4, s5⟩, ⟨l1, l2, l3, l4, l5⟩, by omega, by omega, by omega, by omega, by omega⟩
end
theorem os_end : True := trivial
end Go.Proofs.Ytohmmkkbfiembaa
