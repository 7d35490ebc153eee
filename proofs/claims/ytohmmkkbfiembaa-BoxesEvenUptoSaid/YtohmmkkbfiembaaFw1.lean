/- Rows of numbers in memory of the call's own; the program's and the document's row of what may be used. -/
import Derived.Test.YtohmmkkbfiembaaFs2
import Derived.Laws.MakeOwn
import Derived.Laws.FloatArith
import Derived.Deep.LoopGhost
namespace Go.Proofs.Ytohmmkkbfiembaa
open Go.RowKit Go.Shelf
attribute [local go_sem] Oper.semAt_some
set_option linter.unusedVariables false
set_option maxRecDepth 100000

theorem run_store_float (P : Program) (w : World) (a : Addr) (m : Mode) (k : FloatKind) (b : Nat) : (store a (.float k b) m).run P w = stored P w a (.float k b) m := run_store P w a _ m rfl
attribute [local go_sem] run_store_float
def vc (n : Nat) (f : Nat → Nat) : Array Value := (Array.range n).map (fun i => fl (f i))
def vb (n : Nat) (f : Nat → Bool) : Array Value := (Array.range n).map (fun i => .bool (f i))
theorem vc_get {n i : Nat} {f : Nat → Nat} (h : i < n) : (vc n f)[i]? = some (fl (f i)) := by simp [vc, h]
theorem vb_get {n i : Nat} {f : Nat → Bool} (h : i < n) : (vb n f)[i]? = some (.bool (f i)) := by simp [vb, h]
theorem vc_set {n i : Nat} {f : Nat → Nat} (v : Nat) : (vc n f).setIfInBounds i (fl v) = vc n (fun j => if j = i then v else f j) := by
  refine Array.ext_getElem? fun j => ?_
  rw [Array.getElem?_setIfInBounds]
  by_cases h : j < n
  · rw [vc_get h]
    by_cases hj : i = j
    · subst hj; simp [vc, h]
    · simp [hj, vc_get h, Ne.symm hj]
  · simp [vc, h]
    intro e; subst e; omega
theorem vb_set {n i : Nat} {f : Nat → Bool} (v : Bool) : (vb n f).setIfInBounds i (.bool v) = vb n (fun j => if j = i then v else f j) := by
  refine Array.ext_getElem? fun j => ?_
  rw [Array.getElem?_setIfInBounds]
  by_cases h : j < n
  · rw [vb_get h]
    by_cases hj : i = j
    · subst hj; simp [vb, h]
    · simp [hj, vb_get h, Ne.symm hj]
  · simp [vb, h]
    intro e; subst e; omega
theorem vc_congr {n : Nat} {f g : Nat → Nat} (h : ∀ i, i < n → f i = g i) : vc n f = vc n g := by
  refine Array.ext_getElem? fun j => ?_
  by_cases hj : j < n
  · rw [vc_get hj, vc_get hj, h j hj]
  · simp [vc, hj]
theorem vb_congr {n : Nat} {f g : Nat → Bool} (h : ∀ i, i < n → f i = g i) : vb n f = vb n g := by
  refine Array.ext_getElem? fun j => ?_
  by_cases hj : j < n
  · rw [vb_get hj, vb_get hj, h j hj]
  · simp [vb, hj]
theorem made_fl (n : Nat) : madeCells (fl 0).cells n = vc n (fun _ => 0) := by
  unfold madeCells vc
  congr 1
  funext i
  simp [Value.cells, Nat.mod_one]
theorem made_b (n : Nat) : madeCells (Value.bool false).cells n = vb n (fun _ => false) := by
  unfold madeCells vb
  congr 1
  funext i
  simp [Value.cells, Nat.mod_one]
/-- A row of n numbers is a block. -/
def Fl (w : World) (b n : Nat) (f : Nat → Nat) : Prop := w.heap[b]? = some (.cells (vc n f) 23 (0, 0))
def Bl (w : World) (b n : Nat) (f : Nat → Bool) : Prop := w.heap[b]? = some (.cells (vb n f) 4 (0, 0))
section
variable {w w' : World} {b n : Nat} {f g : Nat → Nat} {p q : Nat → Bool}
theorem Fl.cell (h : Fl w b n f) {i : Nat} (hi : i < n) : w.cell? ⟨b, i, none⟩ = some (fl (f i)) := cell_blk h i (vc_get hi)
theorem Bl.cell (h : Bl w b n p) {i : Nat} (hi : i < n) : w.cell? ⟨b, i, none⟩ = some (.bool (p i)) := cell_blk h i (vb_get hi)
theorem Fl.set (h : Fl w b n f) (i v : Nat) : Fl (w.setCell ⟨b, i, none⟩ (fl v)) b n (fun j => if j = i then v else f j) := by
  have := set_blk h i (fl v)
  rwa [vc_set] at this
theorem Bl.set (h : Bl w b n p) (i : Nat) (v : Bool) : Bl (w.setCell ⟨b, i, none⟩ (.bool v)) b n (fun j => if j = i then v else p j) := by
  have := set_blk h i (.bool v)
  rwa [vb_set] at this
theorem Fl.congr (h : Fl w b n f) (e : ∀ i, i < n → f i = g i) : Fl w b n g := by unfold Fl at *; rw [← vc_congr e]; exact h
theorem Bl.congr (h : Bl w b n p) (e : ∀ i, i < n → p i = q i) : Bl w b n q := by unfold Bl at *; rw [← vb_congr e]; exact h
theorem Fl.keep (h : Fl w b n f) (k : w'.heap[b]? = w.heap[b]?) : Fl w' b n f := k.trans h
theorem Bl.keep (h : Bl w b n p) (k : w'.heap[b]? = w.heap[b]?) : Bl w' b n p := k.trans h
theorem Fl.lt (h : Fl w b n f) : b < w.heap.size := lt_of_some h
theorem Bl.lt (h : Bl w b n p) : b < w.heap.size := lt_of_some h
end
theorem infoF : (Try.prog.info? 23).map (fun i => (i.zero, i.size, i.bytes)) = some (some (fl 0), 1, 8) := by kernel_rfl
theorem infoB : (Try.prog.info? 4).map (fun i => (i.zero, i.size, i.bytes)) = some (some (.bool false), 1, 1) := by kernel_rfl
theorem infoP {o : Option TypeInfo} {z : Option Value} {a b : Nat} (h : o.map (fun i => (i.zero, i.size, i.bytes)) = some (z, a, b)) : ∃ i, o = some i ∧ i.zero = z ∧ i.size = a ∧ i.bytes = b := by
  cases o with
  | none => cases h
  | some i =>
    simp only [Option.map_some, Option.some.injEq, Prod.mk.injEq] at h
    exact ⟨i, rfl, h.1, h.2.1, h.2.2⟩
theorem make_fl (n : Nat) (h : n ≤ 1099511627776) (W : World) : (Instr.makeSlice 24 (.int .i64 (n : Int)) (.int .i64 (n : Int))).run Try.prog W = .ok (.slice (some ⟨W.heap.size, 0, none⟩) n n) (W.alloc (.cells (vc n (fun _ => 0)) 23)) := by
  obtain ⟨i, hi, hz, hs, hb⟩ := infoP infoF
  have := run_make (P := Try.prog) W 24 23 i (fl 0) Try.underlying24 hi hz .i64 .i64 n n (by omega) (Int.le_refl _) (by rw [hb]; omega) (by omega)
  rw [this, hs, Nat.mul_one, Int.toNat_natCast, made_fl]
theorem make_b (n : Nat) (h : n ≤ 1099511627776) (W : World) : (Instr.makeSlice 56 (.int .i64 (n : Int)) (.int .i64 (n : Int))).run Try.prog W = .ok (.slice (some ⟨W.heap.size, 0, none⟩) n n) (W.alloc (.cells (vb n (fun _ => false)) 4)) := by
  obtain ⟨i, hi, hz, hs, hb⟩ := infoP infoB
  have := run_make (P := Try.prog) W 56 4 i (.bool false) Try.underlying56 hi hz .i64 .i64 n n (by omega) (Int.le_refl _) (by rw [hb]; omega) (by omega)
  rw [this, hs, Nat.mul_one, Int.toNat_natCast, made_b]
theorem cell_lt' {w : World} {a : Addr} {v : Value} (h : w.cell? a = some v) : a.block < w.heap.size := by
  by_cases hb : a.block < w.heap.size
  · exact hb
  · exfalso
    have e : w.heap[a.block]? = none := Array.getElem?_eq_none (by omega)
    simp [World.cell?, e] at h
/-- A row of numbers that came in. -/
structure SlF (w : World) (a : Option Addr) (n : Nat) (f : Nat → Nat) : Prop where
  at_ : ∀ i, i < n → f i < 18446744073709551616 ∧ ∃ b off, a = some ⟨b, off, none⟩ ∧ w.cell? ⟨b, off + i, none⟩ = some (fl (f i))
def usedF (up : Bool) (f : Nat → Nat) (i : Nat) : Nat := if up = true then maxD 0 (usedD (f i)) else usedD (f i)
theorem num0 : Num 0 := ⟨by decide, by decide⟩
theorem usedF_bd {up : Bool} {f : Nat → Nat} {i : Nat} (h : f i < 18446744073709551616) : Bd 1074 (2 ^ 25) (usedF up f i) := by
  unfold usedF
  have := usedD_bd (x := f i) (by omega)
  split
  · exact (bd_zero _ _).max this
  · exact this
theorem SlF.below {w w' : World} {a : Option Addr} {n : Nat} {f : Nat → Nat} (h : SlF w a n f) (b : Below w.heap.size w w') : SlF w' a n f := ⟨fun i hi => by
  obtain ⟨h1, k, off, e, hc⟩ := h.at_ i hi
  have hl : k < w.heap.size := by
    by_cases hb : k < w.heap.size
    · exact hb
    · have e : w.heap[k]? = none := Array.getElem?_eq_none (by omega)
      simp [World.cell?, e] at hc
  exact ⟨h1, k, off, e, (b.cell (p := ⟨k, off + i, none⟩) hl).trans hc⟩⟩

set_option maxHeartbeats 2000000 in
theorem used_calls (w : World) (a : Option Addr) (n cap : Nat) (f : Nat → Nat) (up : Bool) (h : SlF w a n f) (hcap : n ≤ cap ∧ cap ≤ 9223372036854775807) (hn : n ≤ 1048578) :
    Calls Try.prog 24 #[.slice a n cap, .bool up] w fun e w' => e = .returned (.slice (some ⟨w.heap.size, 0, none⟩) n n) ∧ Fl w' w.heap.size n (usedF up f) ∧ Below w.heap.size w w' := by
  have H := Lib.hid h
  have hmk := make_fl n (by omega)
  clear h
  go_enter Try.func24, Try.ntmps24
  go_wp2_with (simp only [hmk])
  go_loopg [13] n (fun m v wr => ∃ i : Nat, v = .int .i64 (i : Int) ∧ Hid (i + m = n ∧ Below w.heap.size w wr) ∧ Fl wr w.heap.size n (fun j => if j < i then usedF up f j else 0))
  case atStart => exact ⟨0, rfl, Lib.hid ⟨by omega, (Below.refl _ w).alloc (Nat.le_refl _) _⟩, Fl.congr (Go.heap_alloc_new w _) (fun j hj => by simp)⟩
  case round =>
    obtain ⟨i, rfl, hw, hx⟩ := hrel
    have hsum := hw.out.1
    have HB := Lib.hid hw.out.2
    have HX := Lib.hid hx
    clear hw hx
    have q0 : IntKind.i64.wrap ((i : Int) + 1) = (i : Int) + 1 := IntWalk.i64_in _ (by omega)
    by_cases hi : i < n
    · obtain ⟨h64, k, off, rfl, hc⟩ := H.out.at_ i hi
      have c0 := (HB.out.cell (p := ⟨k, off + i, none⟩) (cell_lt' hc)).trans hc
      have lk := cell_lt' c0
      have x0 : wr.cell? ⟨w.heap.size, i, none⟩ = some (fl 0) := by have := HX.out.cell hi; rwa [if_neg (Nat.lt_irrefl i)] at this
      have f0 := free_blk HX.out i
      have lx := HX.out.lt
      have HU := Lib.hid (fun W => usedB_calls W (f i))
      have hb0 := usedD_bd (x := f i) (by omega)
      have HM := Lib.hid (fun W => maxB_calls W 0 (usedD (f i)) num0 hb0.num)
      clear hc h64 hb0
      cases up with
      | false =>
        go_wp2_with (go_at_call 23; refine (HU.out _).mono ?_; rintro e w1 ⟨rfl, rfl⟩)
        go_roundg (gk - 1)
        case measure => omega
        case rel => exact ⟨i + 1, by go_num, Lib.hid ⟨by omega, HB.out.setCell (Nat.le_refl _) _⟩, (HX.out.set i _).congr (fun j hj => by
          by_cases e : j = i
          · subst e; rw [if_pos rfl, if_pos (by omega)]; rfl
          · rw [if_neg e]
            by_cases h : j < i
            · rw [if_pos h, if_pos (by omega)]
            · rw [if_neg h, if_neg (by omega)])⟩
      | true =>
        go_wp2_with (first | (go_at_call 23; refine (HU.out _).mono ?_; rintro e w1 ⟨rfl, rfl⟩) | (go_at_call 43; refine (HM.out _).mono ?_; rintro e w1 ⟨rfl, rfl⟩))
        go_roundg (gk - 1)
        case measure => omega
        case rel => exact ⟨i + 1, by go_num, Lib.hid ⟨by omega, (HB.out.setCell (Nat.le_refl _) _).setCell (Nat.le_refl _) _⟩, ((HX.out.set i _).set i _).congr (fun j hj => by
          by_cases e : j = i
          · subst e; rw [if_pos rfl, if_pos (by omega)]; rfl
          · rw [if_neg e, if_neg e]
            by_cases h : j < i
            · rw [if_pos h, if_pos (by omega)]
            · rw [if_neg h, if_neg (by omega)])⟩
    · obtain rfl : i = n := by omega
      go_wp2
      go_ret
      exact ⟨rfl, HX.out.congr (fun j hj => by rw [if_pos hj]), HB.out⟩
end Go.Proofs.Ytohmmkkbfiembaa
