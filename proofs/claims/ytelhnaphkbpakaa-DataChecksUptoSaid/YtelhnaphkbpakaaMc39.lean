/- Readings of arguments opened: a slice's elements in memory. No program. Arguments opened: units, attributes, nodes, and their bulk. No program's run. Further arguments opened: a cut with its bulk, a pair of nodes, strings. No program's run. -/
import Derived.Deep.Slices
import Derived.ChangeArms
import Derived.OwnWalk
import Derived.WalkKit
import Derived.Test.YtelhnaphkbpakaaRows
import Derived.ProofKit
import Derived.OpenShut
import Derived.ShutString
import Derived.ChangeOld
import Derived.JoinedCond
import Derived.Test.YtelhnaphkbpakaaMc38
namespace Go.Proofs.Ytelhnaphkbpakaa
open Go.RowKit Go.Deep

section
variable {H : Type} {enc : TypeId × Value → H} {P : Program} {w : World} {base : Nat} {spare : Nat → Bool} {held : Bool}

theorem trod_float {fuel : Nat} {t : TypeId} {cs : List Value} {x : DataW H × List MemPlace} {k : FloatKind} (ht : P.underlying t = some (.float k)) (h : DataW.trod enc P w base spare held fuel t cs = some x) : ∃ n : Nat, cs = [.float k n] := by
  cases fuel with
  | zero => simp [DataW.trod] at h
  | succ n =>
    unfold DataW.trod at h
    rw [ht] at h
    split at h <;> simp_all

theorem addr_add0 (b off j : Nat) : (⟨b, off, none⟩ : Addr).add j = ⟨b, off + j, none⟩ := by unfold Addr.add; split <;> simp_all

/-- A slice of elements, of which each opens to a datum with cells: all of them, where they lie; how many they are. -/
theorem open_elems {α : Type} [Inhabited α] (cells : α → List Value) (good : α → Prop) (k : Nat) {t e : TypeId} (ht : P.underlying t = some (.slice e)) (hk : P.cellsOf e = k) (hk1 : ∀ a, (cells a).length = k) (hk0 : 0 < k)
    (hopen : ∀ (n : Nat) (cs : List Value) (x : DataW H × List MemPlace), DataW.trod enc P w base spare held n e cs = some x → ∃ a, cs = cells a ∧ good a)
    {fuel : Nat} {a : Option Addr} {len cap : Nat} {x : DataW H × List MemPlace} (h : DataW.trod enc P w base spare held fuel t [.slice a len cap] = some x) :
    ∃ L : List α, L.length = len ∧ len ≤ maxLen ∧ (∀ (D : List (DataW H)) (E : List (DataW H)), x.1 = .slice D E → D.length = len) ∧ (x.1 = .nil → len = 0) ∧ ((x.1 = .nil ∨ ∃ D E, x.1 = .slice D E)) ∧
      ∀ (i : Nat) z, L[i]? = some z → good z ∧ ∃ b off, a = some ⟨b, off, none⟩ ∧ b < w.heap.size ∧ ∀ j v, (cells z)[j]? = some v → w.cell? ⟨b, off + (i * k + j), none⟩ = some v := by
  rcases open_slice ht h with ⟨hcs, rfl⟩ | ⟨ad, len', cap', m, n, D, Pl, hcs, _, hl, hm, hmm, rfl, hi⟩
  · simp at hcs
    obtain ⟨rfl, rfl, rfl⟩ := hcs
    exact ⟨[], rfl, by simp [maxLen], by intro D E h; simp at h, fun _ => rfl, .inl rfl, by intro i z h; simp at h⟩
  · simp at hcs
    obtain ⟨rfl, rfl, rfl⟩ := hcs
    have hlm : len ≤ m := by rw [hmm]; split <;> omega
    rw [hk] at hi
    obtain ⟨f, hf⟩ := choose_lt (α := α) (n := len) (p := fun i o => good o ∧ ∀ j v, (cells o)[j]? = some v → w.cell? ((ad.add (i * k)).add j) = some v) (fun i hil => by
      obtain ⟨cs', hc, ht⟩ := hi i (by omega)
      obtain ⟨o, rfl, ok⟩ := hopen _ _ _ ht
      obtain ⟨_, hcl, hat⟩ := World.cells?_some hc
      refine ⟨o, ok, fun j v hj => ?_⟩
      have hjk : j < k := by have := (List.getElem?_eq_some_iff.1 hj).1; rw [hk1] at this; exact this
      rw [hat j hjk]; exact hj)
    refine ⟨(List.range len).map f, by simp, Nat.le_trans hl hm, by intro D' E' h; simp at h; rw [← h.1]; simp, by intro h; simp at h, .inr ⟨_, _, rfl⟩, fun i z hz => ?_⟩
    have hil : i < len := by have := (List.getElem?_eq_some_iff.1 hz).1; simpa using this
    have hz' : f i = z := by simpa [hil] using hz
    subst hz'
    refine ⟨(hf i hil).1, ?_⟩
    obtain ⟨v0, hv0⟩ : ∃ v, (cells (f i))[0]? = some v := ⟨_, List.getElem?_eq_getElem (by rw [hk1]; exact hk0)⟩
    have hc0 := (hf i hil).2 0 _ hv0
    obtain ⟨u0, hu0⟩ : ∃ v, (cells (f 0))[0]? = some v := ⟨_, List.getElem?_eq_getElem (by rw [hk1]; exact hk0)⟩
    have hd0 := (hf 0 (by omega)).2 0 _ hu0
    obtain ⟨b, off, sp⟩ := ad
    have hsp : sp = none := by
      cases sp with
      | none => rfl
      | some s => simp [Addr.add, World.cell?] at hd0; split at hd0 <;> simp_all
    subst hsp
    refine ⟨b, off, rfl, ?_, fun j v hj => ?_⟩
    · have := block_lt_of_cell hc0
      rw [add_add, addr_add0] at this
      exact this
    · have := (hf i hil).2 j v hj
      rw [add_add, addr_add0] at this
      exact this
end
end Go.Proofs.Ytelhnaphkbpakaa

namespace Go.Proofs.Ytelhnaphkbpakaa
open Go.ChangeShapes Go.WideShapes Go.ChangeAt Go.RowKit Go.Deep
set_option linter.unusedVariables false
set_option maxRecDepth 100000

theorem cells45 : Try.prog.cellsOf 45 = 1 := by kernel_rfl
theorem cells72 : Try.prog.cellsOf 72 = 2 := by kernel_rfl
theorem cells30 : Try.prog.cellsOf 30 = 6 := by kernel_rfl
theorem cells40 : Try.prog.cellsOf 40 = 9 := by kernel_rfl
theorem cells24 : Try.prog.cellsOf 24 = 1 := by kernel_rfl
theorem cells25 : Try.prog.cellsOf 25 = 1 := by kernel_rfl
theorem cells28 : Try.prog.cellsOf 28 = 2 := by kernel_rfl
theorem cells26 : Try.prog.cellsOf 26 = 1 := by kernel_rfl
theorem cells23 : Try.prog.cellsOf 23 = 1 := by kernel_rfl
theorem cells9 : Try.prog.cellsOf 9 = 1 := by kernel_rfl
theorem cells3 : Try.prog.cellsOf 3 = 1 := by kernel_rfl

theorem bulk_one {H : Type} (d : DataW H) : 1 ≤ Rows.uptoBulk d := by
  cases d with
  | lit l => cases l <;> simp [Rows.uptoBulk]
  | nil => simp [Rows.uptoBulk]
  | ptr d => simp [Rows.uptoBulk]
  | slice elems spare => simp [Rows.uptoBulk]
  | agg parts => simp [Rows.uptoBulk]
  | iface t d => simp [Rows.uptoBulk]
  | map entries => simp [Rows.uptoBulk]
  | held h => simp [Rows.uptoBulk]
theorem bulk_length {H : Type} (l : List (DataW H)) : l.length ≤ Rows.uptoBulkAll l := by
  induction l with
  | nil => simp [Rows.uptoBulkAll]
  | cons x r ih => have := bulk_one x; simp only [Rows.uptoBulkAll, List.length_cons]; omega
theorem bulk_mem {H : Type} {l : List (DataW H)} {d : DataW H} (h : d ∈ l) : Rows.uptoBulk d ≤ Rows.uptoBulkAll l := by
  induction l with
  | nil => simp at h
  | cons x r ih =>
    simp only [Rows.uptoBulkAll]
    rcases List.mem_cons.1 h with rfl | h
    · omega
    · have := ih h; omega
theorem bulk_get {H : Type} {l : List (DataW H × List MemPlace)} {i : Nat} {x : DataW H × List MemPlace} (h : l[i]? = some x) : Rows.uptoBulk x.1 ≤ Rows.uptoBulkAll (l.map (·.1)) :=
  bulk_mem (List.mem_map.2 ⟨x, List.mem_of_getElem? h, rfl⟩)

section
variable {H : Type} {enc : TypeId × Value → H} {w : World} {base : Nat} {spare : Nat → Bool} {held : Bool}

theorem open_elems2 {α : Type} [Inhabited α] (cells : α → List Value) (good : α → Nat → Prop) (k : Nat) {t e : TypeId} (ht : Try.prog.underlying t = some (.slice e)) (hk : Try.prog.cellsOf e = k) (hk1 : ∀ a, (cells a).length = k) (hk0 : 0 < k)
    (hopen : ∀ (n : Nat) (cs : List Value) (x : DataW H × List MemPlace), Rows.uptoBulk x.1 ≤ 1048576 → DataW.trod enc Try.prog w base spare held n e cs = some x → ∃ a, cs = cells a ∧ good a (Rows.uptoBulk x.1)) (hmono : ∀ a m n, m ≤ n → good a m → good a n)
    {fuel : Nat} {cs : List Value} {x : DataW H × List MemPlace} (hb : Rows.uptoBulk x.1 ≤ 1048576) (h : DataW.trod enc Try.prog w base spare held fuel t cs = some x) :
    ∃ (a : Option Addr) (len cap : Nat) (L : List α), cs = [.slice a len cap] ∧ L.length = len ∧ len ≤ cap ∧ cap ≤ maxLen ∧ len ≤ Rows.uptoBulk x.1 ∧
      ∀ (i : Nat) z, L[i]? = some z → good z (Rows.uptoBulk x.1) ∧ ∃ b off, a = some ⟨b, off, none⟩ ∧ b < w.heap.size ∧ ∀ j v, (cells z)[j]? = some v → w.cell? ⟨b, off + (i * k + j), none⟩ = some v := by
  rcases open_slice ht h with ⟨hcs, rfl⟩ | ⟨ad, len, cap, m, n, D, Pl, hcs, _, hl, hm, hmm, rfl, hi⟩
  · exact ⟨none, 0, 0, [], hcs, rfl, Nat.le_refl _, by simp [maxLen], by simp, by intro i z h; simp at h⟩
  · have hlm : len ≤ m := by rw [hmm]; split <;> omega
    have hbulk : ∀ i, i < len → Rows.uptoBulk (D i) ≤ Rows.uptoBulkAll ((List.range len).map D) := fun i hi => bulk_mem (List.mem_map.2 ⟨i, List.mem_range.2 hi, rfl⟩)
    have hlen := bulk_length ((List.range len).map D)
    simp only [List.length_map, List.length_range] at hlen
    simp only [Rows.uptoBulk] at hb ⊢
    rw [hk] at hi
    obtain ⟨f, hf⟩ := choose_lt (α := α) (n := len) (p := fun i o => good o (Rows.uptoBulkAll ((List.range len).map D) + Rows.uptoBulkAll ((List.range (m - len)).map fun j => D (len + j)) + 1) ∧ ∀ j v, (cells o)[j]? = some v → w.cell? ((ad.add (i * k)).add j) = some v) (fun i hil => by
      obtain ⟨cs', hc, ht⟩ := hi i (by omega)
      have hb1 := hbulk i hil
      obtain ⟨o, rfl, ok⟩ := hopen _ _ _ (by simp only; omega) ht
      obtain ⟨_, hcl, hat⟩ := World.cells?_some hc
      refine ⟨o, hmono _ _ _ (by simp only; omega) ok, fun j v hj => ?_⟩
      have hjk : j < k := by have := (List.getElem?_eq_some_iff.1 hj).1; rw [hk1] at this; exact this
      rw [hat j hjk]; exact hj)
    refine ⟨some ad, len, cap, (List.range len).map f, hcs, by simp, hl, hm, by omega, fun i z hz => ?_⟩
    have hil : i < len := by have := (List.getElem?_eq_some_iff.1 hz).1; simpa using this
    have hz' : f i = z := by simpa [hil] using hz
    subst hz'
    refine ⟨(hf i hil).1, ?_⟩
    obtain ⟨v0, hv0⟩ : ∃ v, (cells (f i))[0]? = some v := ⟨_, List.getElem?_eq_getElem (by rw [hk1]; exact hk0)⟩
    have hc0 := (hf i hil).2 0 _ hv0
    obtain ⟨u0, hu0⟩ : ∃ v, (cells (f 0))[0]? = some v := ⟨_, List.getElem?_eq_getElem (by rw [hk1]; exact hk0)⟩
    have hd0 := (hf 0 (by omega)).2 0 _ hu0
    obtain ⟨b, off, sp⟩ := ad
    have hsp : sp = none := by
      cases sp with
      | none => rfl
      | some s => simp [Addr.add, World.cell?] at hd0; split at hd0 <;> simp_all
    subst hsp
    refine ⟨b, off, rfl, ?_, fun j v hj => ?_⟩
    · have := block_lt_of_cell hc0
      rw [add_add, addr_add0] at this
      exact this
    · have := (hf i hil).2 j v hj
      rw [add_add, addr_add0] at this
      exact this

theorem open_u16 {fuel : Nat} {cs : List Value} {x : DataW H × List MemPlace} (hb : Rows.uptoBulk x.1 ≤ 1048576) (h : DataW.trod enc Try.prog w base spare held fuel 24 cs = some x) :
    ∃ (a : Option Addr) (us : List Nat) (c : Nat), cs = [.slice a us.length c] ∧ Sl16 w a us ∧ us.length ≤ c ∧ c ≤ 9223372036854775807 ∧ us.length ≤ Rows.uptoBulk x.1 := by
  obtain ⟨a, len, cap, L, hcs, rfl, h1, h2, h3, h4⟩ := open_elems2 (fun u : Nat => [.int .u16 (u : Int)]) (fun u _ => u ≤ 65535) 1 Try.underlying24 cells45 (fun _ => rfl) (by decide) (fun n cs x _ h => by
    obtain ⟨z, hz, _, hw⟩ := DataW.trod_int Try.underlying45 h
    have hw' := bounds_u16 hw
    exact ⟨z.toNat, by rw [hz, Int.toNat_of_nonneg hw'.1], by omega⟩) (fun _ _ _ _ h => h) hb h
  unfold maxLen at h2
  refine ⟨a, L, cap, hcs, ⟨fun i u hu => ?_, by omega⟩, h1, h2, h3⟩
  obtain ⟨hg, b, off, e1, e2, e3⟩ := h4 i u hu
  exact ⟨hg, b, off, e1, e2, by simpa using e3 0 _ rfl⟩

instance : Inhabited LA := ⟨⟨⟨#[]⟩, none, 0, []⟩⟩
theorem open_attr {fuel : Nat} {cs : List Value} {x : DataW H × List MemPlace} (hb : Rows.uptoBulk x.1 ≤ 1048576) (h : DataW.trod enc Try.prog w base spare held fuel 72 cs = some x) :
    ∃ y : LA, cs = y.cells ∧ Sl16 w y.va y.val ∧ y.name.size ≤ 9223372036854775807 ∧ y.val.length ≤ Rows.uptoBulk x.1 := by
  obtain ⟨xs, n, _, hx, hlen, hxl, hf⟩ := DataW.trod_struct Try.underlying72 h
  rw [cells72] at hlen
  match cs, hlen with
  | [c0, c1], _ =>
    have g0 : DataW.trod enc Try.prog w base spare held n 9 (([c0, c1].drop 0).take (Try.prog.cellsOf 9)) = xs[0]? := hf 0 _ rfl
    have g1 : DataW.trod enc Try.prog w base spare held n 24 (([c0, c1].drop 1).take (Try.prog.cellsOf 24)) = xs[1]? := hf 1 _ rfl
    simp only [cells9, cells24, List.drop_zero, List.drop_succ_cons, List.take_succ_cons, List.take_zero] at g0 g1
    have u1 := List.getElem?_eq_getElem (l := xs) (i := 1) (by rw [hxl]; decide)
    rw [List.getElem?_eq_getElem (by rw [hxl]; decide)] at g0 g1
    have hbb : Rows.uptoBulk x.1 = Rows.uptoBulkAll (xs.map (·.1)) + 1 := by rw [hx]; rfl
    have hb1 := bulk_get u1
    obtain ⟨s, h0, _, w0⟩ := DataW.trod_string Try.underlying9 g0
    obtain ⟨a, us, c, h1, k1, k2, k3, k4⟩ := open_u16 (by omega) g1
    simp at h0 h1
    subst h0 h1
    exact ⟨⟨s, a, c, us⟩, rfl, k1, w0, by simp only; omega⟩

theorem cellsA_get {L : List LA} {j : Nat} {u : Value} (h : (cellsA L)[j]? = some u) : ∃ i r y, L[i]? = some y ∧ y.cells[r]? = some u ∧ j = i * 2 + r := by
  induction L generalizing j with
  | nil => simp [cellsA] at h
  | cons x L ih =>
    have e : cellsA (x :: L) = x.cells ++ cellsA L := by simp [cellsA]
    rw [e] at h
    have hl : x.cells.length = 2 := rfl
    rcases Nat.lt_or_ge j 2 with h2 | h2
    · rw [List.getElem?_append_left (by omega)] at h
      exact ⟨0, j, x, rfl, h, by omega⟩
    · rw [List.getElem?_append_right (by omega), hl] at h
      obtain ⟨i, r, y, e1, e2, e3⟩ := ih h
      exact ⟨i + 1, r, y, by simpa using e1, e2, by omega⟩
theorem open_attrs {fuel : Nat} {cs : List Value} {x : DataW H × List MemPlace} (hb : Rows.uptoBulk x.1 ≤ 1048576) (h : DataW.trod enc Try.prog w base spare held fuel 25 cs = some x) :
    ∃ (a : Option Addr) (L : List LA) (c : Nat), cs = [.slice a L.length c] ∧ SlA w a L ∧ L.length ≤ c ∧ c ≤ 9223372036854775807 ∧ L.length ≤ Rows.uptoBulk x.1 ∧ ∀ y ∈ L, y.val.length ≤ Rows.uptoBulk x.1 := by
  obtain ⟨a, len, cap, L, hcs, rfl, h1, h2, h3, h4⟩ := open_elems2 LA.cells (fun y m => Sl16 w y.va y.val ∧ y.name.size ≤ 9223372036854775807 ∧ y.val.length ≤ m) 2 Try.underlying25 cells72 (fun _ => rfl) (by decide) (fun n cs x hb h => by
    obtain ⟨y, e1, e2, e3, e4⟩ := open_attr hb h
    exact ⟨y, e1, e2, e3, e4⟩) (fun _ _ _ hmn h => ⟨h.1, h.2.1, Nat.le_trans h.2.2 hmn⟩) hb h
  unfold maxLen at h2
  refine ⟨a, L, cap, hcs, ⟨fun j u hu => ?_, by omega, fun y hy => ?_, fun y hy => ?_⟩, h1, h2, h3, fun y hy => ?_⟩
  · obtain ⟨i, r, y, e1, e2, rfl⟩ := cellsA_get hu
    obtain ⟨_, b, off, f1, f2, f3⟩ := h4 i y e1
    exact ⟨b, off, f1, f2, f3 r u e2⟩
  all_goals
    obtain ⟨i, hi⟩ := List.mem_iff_getElem?.1 hy
    have hg := (h4 i y hi).1
  · exact hg.1
  · exact hg.2.1
  · exact hg.2.2

theorem open_handle {fuel : Nat} {cs : List Value} {x : DataW H × List MemPlace} (h : DataW.trod enc Try.prog w base spare held fuel 28 cs = some x) :
    ∃ s g : Int, cs = [.int .u32 s, .int .u32 g] := by
  obtain ⟨xs, n, _, _, hlen, hxl, hf⟩ := DataW.trod_struct Try.underlying28 h
  rw [cells28] at hlen
  match cs, hlen with
  | [c0, c1], _ =>
    have g0 : DataW.trod enc Try.prog w base spare held n 26 (([c0, c1].drop 0).take (Try.prog.cellsOf 26)) = xs[0]? := hf 0 _ rfl
    have g1 : DataW.trod enc Try.prog w base spare held n 26 (([c0, c1].drop 1).take (Try.prog.cellsOf 26)) = xs[1]? := hf 1 _ rfl
    simp only [cells26, List.drop_zero, List.drop_succ_cons, List.take_succ_cons, List.take_zero] at g0 g1
    rw [List.getElem?_eq_getElem (by rw [hxl]; decide)] at g0 g1
    obtain ⟨a, h0, _, w0⟩ := DataW.trod_int Try.underlying26 g0
    obtain ⟨b, h1, _, w1⟩ := DataW.trod_int Try.underlying26 g1
    simp at h0 h1
    subst h0 h1
    exact ⟨a, b, rfl⟩

theorem open_node {fuel : Nat} {cs : List Value} {x : DataW H × List MemPlace} (hb : Rows.uptoBulk x.1 ≤ 1048576) (h : DataW.trod enc Try.prog w base spare held fuel 30 cs = some x) :
    ∃ N : Nd, cs = N.cells.toList ∧ NdIn w N ∧ N.Bd 1048576 := by
  obtain ⟨xs, n, _, hx, hlen, hxl, hf⟩ := DataW.trod_struct Try.underlying30 h
  rw [cells30] at hlen
  match cs, hlen with
  | [c0, c1, c2, c3, c4, c5], _ =>
    have g0 : DataW.trod enc Try.prog w base spare held n 23 (([c0, c1, c2, c3, c4, c5].drop 0).take (Try.prog.cellsOf 23)) = xs[0]? := hf 0 _ rfl
    have g1 : DataW.trod enc Try.prog w base spare held n 9 (([c0, c1, c2, c3, c4, c5].drop 1).take (Try.prog.cellsOf 9)) = xs[1]? := hf 1 _ rfl
    have g2 : DataW.trod enc Try.prog w base spare held n 24 (([c0, c1, c2, c3, c4, c5].drop 2).take (Try.prog.cellsOf 24)) = xs[2]? := hf 2 _ rfl
    have g3 : DataW.trod enc Try.prog w base spare held n 25 (([c0, c1, c2, c3, c4, c5].drop 3).take (Try.prog.cellsOf 25)) = xs[3]? := hf 3 _ rfl
    have g4 : DataW.trod enc Try.prog w base spare held n 28 (([c0, c1, c2, c3, c4, c5].drop 4).take (Try.prog.cellsOf 28)) = xs[4]? := hf 4 _ rfl
    simp only [cells23, cells9, cells24, cells25, cells28, List.drop_zero, List.drop_succ_cons, List.take_succ_cons, List.take_zero] at g0 g1 g2 g3 g4
    have u2 := List.getElem?_eq_getElem (l := xs) (i := 2) (by rw [hxl]; decide)
    have u3 := List.getElem?_eq_getElem (l := xs) (i := 3) (by rw [hxl]; decide)
    rw [List.getElem?_eq_getElem (by rw [hxl]; decide)] at g0 g1 g2 g3 g4
    have hbb : Rows.uptoBulk x.1 = Rows.uptoBulkAll (xs.map (·.1)) + 1 := by rw [hx]; rfl
    have hb2 := bulk_get u2
    have hb3 := bulk_get u3
    obtain ⟨k, h0, _, _⟩ := DataW.trod_int Try.underlying23 g0
    obtain ⟨s, h1, _, w1⟩ := DataW.trod_string Try.underlying9 g1
    obtain ⟨a, us, c, h2, j1, j2, j3, j4⟩ := open_u16 (by omega) g2
    obtain ⟨aa, L, ac, h3, l1, l2, l3, l4, l5⟩ := open_attrs (by omega) g3
    obtain ⟨sl, ge, h4⟩ := open_handle g4
    simp at h0 h1 h2 h3 h4
    obtain ⟨rfl, rfl⟩ := h4
    subst h0 h1 h2 h3
    exact ⟨⟨k, s, a, c, us, aa, ac, L, sl, ge⟩, rfl, ⟨j1, l1, w1, j2, j3, l2, l3⟩, by simp only; omega, by simp only; omega, fun y hy => by have := l5 y hy; omega⟩

theorem open_cut {fuel : Nat} {cs : List Value} {x : DataW H × List MemPlace} (hb : Rows.uptoBulk x.1 ≤ 1048576) (h : DataW.trod enc Try.prog w base spare held fuel 40 cs = some x) :
    ∃ (N : Nd) (off cnt : Int) (ba : Option Addr) (us : List Nat) (bc : Nat), cs = (cutCells N off cnt ba us.length bc).toList ∧ NdIn w N ∧ N.Bd 1048576 ∧ Sl16 w ba us ∧ us.length ≤ 1048576 ∧ us.length ≤ bc ∧ bc ≤ 9223372036854775807 ∧
      (Lit.int .i64 off).wf = true ∧ (Lit.int .i64 cnt).wf = true := by
  obtain ⟨xs, n, _, hx, hlen, hxl, hf⟩ := DataW.trod_struct Try.underlying40 h
  rw [cells40] at hlen
  match cs, hlen with
  | [c0, c1, c2, c3, c4, c5, c6, c7, c8], _ =>
    have g0 : DataW.trod enc Try.prog w base spare held n 30 (([c0, c1, c2, c3, c4, c5, c6, c7, c8].drop 0).take (Try.prog.cellsOf 30)) = xs[0]? := hf 0 _ rfl
    have g1 : DataW.trod enc Try.prog w base spare held n 3 (([c0, c1, c2, c3, c4, c5, c6, c7, c8].drop 6).take (Try.prog.cellsOf 3)) = xs[1]? := hf 1 _ rfl
    have g2 : DataW.trod enc Try.prog w base spare held n 3 (([c0, c1, c2, c3, c4, c5, c6, c7, c8].drop 7).take (Try.prog.cellsOf 3)) = xs[2]? := hf 2 _ rfl
    have g3 : DataW.trod enc Try.prog w base spare held n 24 (([c0, c1, c2, c3, c4, c5, c6, c7, c8].drop 8).take (Try.prog.cellsOf 24)) = xs[3]? := hf 3 _ rfl
    simp only [cells30, cells3, cells24, List.drop_zero, List.drop_succ_cons, List.take_succ_cons, List.take_zero] at g0 g1 g2 g3
    have u0 := List.getElem?_eq_getElem (l := xs) (i := 0) (by rw [hxl]; decide)
    have u3 := List.getElem?_eq_getElem (l := xs) (i := 3) (by rw [hxl]; decide)
    rw [List.getElem?_eq_getElem (by rw [hxl]; decide)] at g0 g1 g2 g3
    have hbb : Rows.uptoBulk x.1 = Rows.uptoBulkAll (xs.map (·.1)) + 1 := by rw [hx]; rfl
    have hb0 := bulk_get u0
    have hb3 := bulk_get u3
    obtain ⟨N, h0, hN, hB⟩ := open_node (by omega) g0
    obtain ⟨o, h1, _, w1⟩ := DataW.trod_int Try.underlying3 g1
    obtain ⟨k, h2, _, w2⟩ := DataW.trod_int Try.underlying3 g2
    obtain ⟨a, us, c, h3, j1, j2, j3, j4⟩ := open_u16 (by omega) g3
    simp [Nd.cells] at h0 h1 h2 h3
    obtain ⟨rfl, rfl, rfl, rfl, rfl, rfl⟩ := h0
    subst h1 h2 h3
    exact ⟨N, o, k, a, us, c, rfl, hN, hB, j1, by omega, j2, j3, w1, w2⟩
end
/-- A value of a struct's type is an aggregate, of the cells that are read. -/
theorem agg_of {v : Value} {l : List Value} (h : v.cells.toList = l) (hl : 1 < l.length) : ∃ c, v = .agg c ∧ c.toList = l := by
  cases v with
  | agg c => exact ⟨c, rfl, h⟩
  | _ => exfalso; subst h; simp [Value.cells] at hl
end Go.Proofs.Ytelhnaphkbpakaa

namespace Go.Proofs.Ytelhnaphkbpakaa
open Go.ChangeShapes Go.WideShapes Go.ChangeAt Go.RowKit Go.Deep
set_option linter.unusedVariables false
set_option maxRecDepth 100000

section
variable {H : Type} {enc : TypeId × Value → H} {w : World} {base : Nat} {spare : Nat → Bool} {held : Bool}
theorem open_nodeB {fuel : Nat} {cs : List Value} {x : DataW H × List MemPlace} (hb : Rows.uptoBulk x.1 ≤ 1048576) (h : DataW.trod enc Try.prog w base spare held fuel 30 cs = some x) :
    ∃ N : Nd, cs = N.cells.toList ∧ NdIn w N ∧ N.Bd (Rows.uptoBulk x.1) := by
  obtain ⟨xs, n, _, hx, hlen, hxl, hf⟩ := DataW.trod_struct Try.underlying30 h
  rw [cells30] at hlen
  match cs, hlen with
  | [c0, c1, c2, c3, c4, c5], _ =>
    have g0 : DataW.trod enc Try.prog w base spare held n 23 (([c0, c1, c2, c3, c4, c5].drop 0).take (Try.prog.cellsOf 23)) = xs[0]? := hf 0 _ rfl
    have g1 : DataW.trod enc Try.prog w base spare held n 9 (([c0, c1, c2, c3, c4, c5].drop 1).take (Try.prog.cellsOf 9)) = xs[1]? := hf 1 _ rfl
    have g2 : DataW.trod enc Try.prog w base spare held n 24 (([c0, c1, c2, c3, c4, c5].drop 2).take (Try.prog.cellsOf 24)) = xs[2]? := hf 2 _ rfl
    have g3 : DataW.trod enc Try.prog w base spare held n 25 (([c0, c1, c2, c3, c4, c5].drop 3).take (Try.prog.cellsOf 25)) = xs[3]? := hf 3 _ rfl
    have g4 : DataW.trod enc Try.prog w base spare held n 28 (([c0, c1, c2, c3, c4, c5].drop 4).take (Try.prog.cellsOf 28)) = xs[4]? := hf 4 _ rfl
    simp only [cells23, cells9, cells24, cells25, cells28, List.drop_zero, List.drop_succ_cons, List.take_succ_cons, List.take_zero] at g0 g1 g2 g3 g4
    have u2 := List.getElem?_eq_getElem (l := xs) (i := 2) (by rw [hxl]; decide)
    have u3 := List.getElem?_eq_getElem (l := xs) (i := 3) (by rw [hxl]; decide)
    rw [List.getElem?_eq_getElem (by rw [hxl]; decide)] at g0 g1 g2 g3 g4
    have hbb : Rows.uptoBulk x.1 = Rows.uptoBulkAll (xs.map (·.1)) + 1 := by rw [hx]; rfl
    have hb2 := bulk_get u2
    have hb3 := bulk_get u3
    obtain ⟨k, h0, _, _⟩ := DataW.trod_int Try.underlying23 g0
    obtain ⟨s, h1, _, w1⟩ := DataW.trod_string Try.underlying9 g1
    obtain ⟨a, us, c, h2, j1, j2, j3, j4⟩ := open_u16 (by omega) g2
    obtain ⟨aa, L, ac, h3, l1, l2, l3, l4, l5⟩ := open_attrs (by omega) g3
    obtain ⟨sl, ge, h4⟩ := open_handle g4
    simp at h0 h1 h2 h3 h4
    obtain ⟨rfl, rfl⟩ := h4
    subst h0 h1 h2 h3
    exact ⟨⟨k, s, a, c, us, aa, ac, L, sl, ge⟩, rfl, ⟨j1, l1, w1, j2, j3, l2, l3⟩, by simp only; omega, by simp only; omega, fun y hy => by have := l5 y hy; omega⟩

theorem open_cutB {fuel : Nat} {cs : List Value} {x : DataW H × List MemPlace} (hb : Rows.uptoBulk x.1 ≤ 1048576) (h : DataW.trod enc Try.prog w base spare held fuel 40 cs = some x) :
    ∃ (N : Nd) (off cnt : Int) (ba : Option Addr) (us : List Nat) (bc : Nat), cs = (cutCells N off cnt ba us.length bc).toList ∧ NdIn w N ∧ N.Bd (Rows.uptoBulk x.1) ∧ Sl16 w ba us ∧ us.length ≤ Rows.uptoBulk x.1 ∧ us.length ≤ bc ∧ bc ≤ 9223372036854775807 ∧
      (Lit.int .i64 off).wf = true ∧ (Lit.int .i64 cnt).wf = true := by
  obtain ⟨xs, n, _, hx, hlen, hxl, hf⟩ := DataW.trod_struct Try.underlying40 h
  rw [cells40] at hlen
  match cs, hlen with
  | [c0, c1, c2, c3, c4, c5, c6, c7, c8], _ =>
    have g0 : DataW.trod enc Try.prog w base spare held n 30 (([c0, c1, c2, c3, c4, c5, c6, c7, c8].drop 0).take (Try.prog.cellsOf 30)) = xs[0]? := hf 0 _ rfl
    have g1 : DataW.trod enc Try.prog w base spare held n 3 (([c0, c1, c2, c3, c4, c5, c6, c7, c8].drop 6).take (Try.prog.cellsOf 3)) = xs[1]? := hf 1 _ rfl
    have g2 : DataW.trod enc Try.prog w base spare held n 3 (([c0, c1, c2, c3, c4, c5, c6, c7, c8].drop 7).take (Try.prog.cellsOf 3)) = xs[2]? := hf 2 _ rfl
    have g3 : DataW.trod enc Try.prog w base spare held n 24 (([c0, c1, c2, c3, c4, c5, c6, c7, c8].drop 8).take (Try.prog.cellsOf 24)) = xs[3]? := hf 3 _ rfl
    simp only [cells30, cells3, cells24, List.drop_zero, List.drop_succ_cons, List.take_succ_cons, List.take_zero] at g0 g1 g2 g3
    have u0 := List.getElem?_eq_getElem (l := xs) (i := 0) (by rw [hxl]; decide)
    have u3 := List.getElem?_eq_getElem (l := xs) (i := 3) (by rw [hxl]; decide)
    rw [List.getElem?_eq_getElem (by rw [hxl]; decide)] at g0 g1 g2 g3
    have hbb : Rows.uptoBulk x.1 = Rows.uptoBulkAll (xs.map (·.1)) + 1 := by rw [hx]; rfl
    have hb0 := bulk_get u0
    have hb3 := bulk_get u3
    obtain ⟨N, h0, hN, hB⟩ := open_nodeB (by omega) g0
    obtain ⟨o, h1, _, w1⟩ := DataW.trod_int Try.underlying3 g1
    obtain ⟨k, h2, _, w2⟩ := DataW.trod_int Try.underlying3 g2
    obtain ⟨a, us, c, h3, j1, j2, j3, j4⟩ := open_u16 (by omega) g3
    simp [Nd.cells] at h0 h1 h2 h3
    obtain ⟨rfl, rfl, rfl, rfl, rfl, rfl⟩ := h0
    subst h1 h2 h3
    exact ⟨N, o, k, a, us, c, rfl, hN, hB.mono (by omega), j1, by omega, j2, j3, w1, w2⟩

theorem cells55 : Try.prog.cellsOf 55 = 12 := by kernel_rfl
theorem open_pair {fuel : Nat} {cs : List Value} {x : DataW H × List MemPlace} (hb : Rows.uptoBulk x.1 ≤ 1048576) (h : DataW.trod enc Try.prog w base spare held fuel 55 cs = some x) :
    ∃ A B : Nd, cs = (pairCells A B).toList ∧ NdIn w A ∧ A.Bd 1048576 ∧ NdIn w B ∧ B.Bd 1048576 := by
  obtain ⟨xs, n, _, hx, hlen, hxl, hf⟩ := DataW.trod_array Try.underlying55 h
  rw [cells55] at hlen
  match cs, hlen with
  | [c0, c1, c2, c3, c4, c5, c6, c7, c8, c9, c10, c11], _ =>
    have g0 := hf 0 (by decide)
    have g1 := hf 1 (by decide)
    simp only [cells30, Nat.zero_mul, Nat.one_mul, List.drop_zero, List.drop_succ_cons, List.take_succ_cons, List.take_zero] at g0 g1
    have u0 := List.getElem?_eq_getElem (l := xs) (i := 0) (by rw [hxl]; decide)
    have u1 := List.getElem?_eq_getElem (l := xs) (i := 1) (by rw [hxl]; decide)
    rw [List.getElem?_eq_getElem (by rw [hxl]; decide)] at g0 g1
    have hbb : Rows.uptoBulk x.1 = Rows.uptoBulkAll (xs.map (·.1)) + 1 := by rw [hx]; rfl
    have hb0 := bulk_get u0
    have hb1 := bulk_get u1
    obtain ⟨A, h0, hA, bA⟩ := open_node (by omega) g0
    obtain ⟨B, h1, hB, bB⟩ := open_node (by omega) g1
    simp [Nd.cells] at h0 h1
    obtain ⟨rfl, rfl, rfl, rfl, rfl, rfl⟩ := h0
    obtain ⟨rfl, rfl, rfl, rfl, rfl, rfl⟩ := h1
    exact ⟨A, B, rfl, hA, bA, hB, bB⟩
instance : Inhabited ByteArray := ⟨⟨#[]⟩⟩
theorem open_strs {fuel : Nat} {cs : List Value} {x : DataW H × List MemPlace} (hb : Rows.uptoBulk x.1 ≤ 1048576) (h : DataW.trod enc Try.prog w base spare held fuel 31 cs = some x) :
    ∃ (a : Option Addr) (L : List ByteArray) (c : Nat), cs = [.slice a L.length c] ∧ L.length ≤ 1048576 ∧ L.length ≤ c ∧ c ≤ 9223372036854775807 ∧ ∀ (i : Nat) s, L[i]? = some s → s.size ≤ 9223372036854775807 ∧ ∃ b off, a = some ⟨b, off, none⟩ ∧ b < w.heap.size ∧ w.cell? ⟨b, off + i, none⟩ = some (.string s) := by
  obtain ⟨a, len, cap, L, hcs, rfl, h1, h2, h3, h4⟩ := open_elems2 (fun s : ByteArray => [.string s]) (fun s _ => s.size ≤ 9223372036854775807) 1 Try.underlying31 cells9 (fun _ => rfl) (by decide) (fun n cs x _ h => by
    obtain ⟨s, hz, _, hw⟩ := DataW.trod_string Try.underlying9 h
    exact ⟨s, hz, hw⟩) (fun _ _ _ _ h => h) hb h
  unfold maxLen at h2
  refine ⟨a, L, cap, hcs, by omega, h1, h2, fun i s hs => ?_⟩
  obtain ⟨hg, b, off, e1, e2, e3⟩ := h4 i s hs
  exact ⟨hg, b, off, e1, e2, by simpa using e3 0 _ rfl⟩
end
end Go.Proofs.Ytelhnaphkbpakaa

