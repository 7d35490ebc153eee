/- The document's row of what may be used: appended to, one by one. -/
import Derived.Test.YtohmmkkbfiembaaFw1
import Derived.Test.YtohmmkkbfiembaaRw
namespace Go.Proofs.Ytohmmkkbfiembaa
open Go.RowKit Go.Shelf
attribute [local go_sem] Oper.semAt_some
attribute [local go_sem] run_store_float
set_option linter.unusedVariables false
set_option maxRecDepth 100000

/-- A row of n numbers at the head of a block (of none: nothing is said). -/
def FlG (w : World) (b n : Nat) (f : Nat → Nat) : Prop := 0 < n → ∃ cur, w.heap[b]? = some (.cells cur 23 (0, 0)) ∧ ∀ i, i < n → cur[i]? = some (fl (f i))
def BlG (w : World) (b n : Nat) (f : Nat → Bool) : Prop := 0 < n → ∃ cur, w.heap[b]? = some (.cells cur 4 (0, 0)) ∧ ∀ i, i < n → cur[i]? = some (.bool (f i))
section
variable {w w' : World} {b n : Nat} {f f' : Nat → Nat} {p q : Nat → Bool}
theorem FlG.cell (h : FlG w b n f) {i : Nat} (hi : i < n) : w.cell? ⟨b, i, none⟩ = some (fl (f i)) := by
  obtain ⟨c, h1, h2⟩ := h (by omega)
  exact cell_blk h1 i (h2 i hi)
theorem BlG.cell (h : BlG w b n p) {i : Nat} (hi : i < n) : w.cell? ⟨b, i, none⟩ = some (.bool (p i)) := by
  obtain ⟨c, h1, h2⟩ := h (by omega)
  exact cell_blk h1 i (h2 i hi)
theorem FlG.free (h : FlG w b n f) (i : Nat) (hi : i < n) : w.frozen? ⟨b, i, none⟩ = false := by
  obtain ⟨c, h1, _⟩ := h (by omega)
  exact free_blk h1 i
theorem BlG.free (h : BlG w b n p) (i : Nat) (hi : i < n) : w.frozen? ⟨b, i, none⟩ = false := by
  obtain ⟨c, h1, _⟩ := h (by omega)
  exact free_blk h1 i
theorem FlG.lt (h : FlG w b n f) (hn : 0 < n) : b < w.heap.size := by obtain ⟨c, h1, _⟩ := h hn; exact lt_of_some h1
theorem BlG.lt (h : BlG w b n p) (hn : 0 < n) : b < w.heap.size := by obtain ⟨c, h1, _⟩ := h hn; exact lt_of_some h1
theorem FlG.set (h : FlG w b n f) (i v : Nat) : FlG (w.setCell ⟨b, i, none⟩ (fl v)) b n (fun j => if j = i then v else f j) := by
  intro hn
  obtain ⟨c, h1, h2⟩ := h hn
  refine ⟨_, set_blk h1 i (fl v), fun j hj => ?_⟩
  rw [Array.getElem?_setIfInBounds]
  have h3 := h2 j hj
  by_cases e : i = j
  · subst e
    have : i < c.size := (Array.getElem?_eq_some_iff.1 h3).1
    simp [this]
  · simp [e, Ne.symm e, h3]
theorem BlG.set (h : BlG w b n p) (i : Nat) (v : Bool) : BlG (w.setCell ⟨b, i, none⟩ (.bool v)) b n (fun j => if j = i then v else p j) := by
  intro hn
  obtain ⟨c, h1, h2⟩ := h hn
  refine ⟨_, set_blk h1 i (.bool v), fun j hj => ?_⟩
  rw [Array.getElem?_setIfInBounds]
  have h3 := h2 j hj
  by_cases e : i = j
  · subst e
    have : i < c.size := (Array.getElem?_eq_some_iff.1 h3).1
    simp [this]
  · simp [e, Ne.symm e, h3]
theorem FlG.congr (h : FlG w b n f) (e : ∀ i, i < n → f i = f' i) : FlG w b n f' := by
  intro hn
  obtain ⟨c, h1, h2⟩ := h hn
  exact ⟨c, h1, fun i hi => by rw [h2 i hi, e i hi]⟩
theorem BlG.congr (h : BlG w b n p) (e : ∀ i, i < n → p i = q i) : BlG w b n q := by
  intro hn
  obtain ⟨c, h1, h2⟩ := h hn
  exact ⟨c, h1, fun i hi => by rw [h2 i hi, e i hi]⟩
theorem FlG.keep (h : FlG w b n f) (k : ∀ o, w.heap[b]? = some o → w'.heap[b]? = some o) : FlG w' b n f := by
  intro hn
  obtain ⟨c, h1, h2⟩ := h hn
  exact ⟨c, k _ h1, h2⟩
theorem BlG.keep (h : BlG w b n p) (k : ∀ o, w.heap[b]? = some o → w'.heap[b]? = some o) : BlG w' b n p := by
  intro hn
  obtain ⟨c, h1, h2⟩ := h hn
  exact ⟨c, k _ h1, h2⟩
theorem Fl.asG (h : Fl w b n f) : FlG w b n f := fun _ => ⟨_, h, fun i hi => vc_get hi⟩
theorem Bl.asG (h : Bl w b n p) : BlG w b n p := fun _ => ⟨_, h, fun i hi => vb_get hi⟩
end
def flist (n : Nat) (f : Nat → Nat) : List Value := (List.range n).map (fun i => fl (f i))
theorem flist_succ (n : Nat) (f : Nat → Nat) : flist (n + 1) f = flist n f ++ [fl (f n)] := by unfold flist; rw [List.range_succ, List.map_append]; rfl
/-- An owned row of numbers lies at the head of a block. -/
theorem flg_of_row {w : World} {base g cap n : Nat} {f : Nat → Nat} (h : w.ownsRow base 23 1 (.slice (some ⟨g, 0, none⟩) n cap) n (flist n f)) : FlG w g n f ∧ base ≤ g ∧ g < w.heap.size := by
  obtain ⟨cur, h1, h2⟩ := rwBlk h
  refine ⟨fun _ => ⟨cur, h1, fun i hi => ?_⟩, h2, lt_of_some h1⟩
  have h3 := h.cellAt i (by omega)
  have h4 : (flist n f)[i]? = some (fl (f i)) := by unfold flist; simp [hi]
  have h5 := cell_of_row w g i cur 23 (0, 0) h1
  rw [h4] at h3
  exact h5.symm.trans h3
theorem grown_below {w w' : World} {g : Option Nat} {B : Nat} (h : w.grownBy w' g) (hB : ∀ x, g = some x → B ≤ x) (hs : B ≤ w.heap.size) : Below B w w' :=
  ⟨h.os, h.tape, h.output, h.size, fun k hk => h.block k (by omega) (fun e => by have := hB k e.symm; omega)⟩

set_option maxHeartbeats 2000000 in
theorem usedR18_calls (w : World) (a : Option Addr) (n cap : Nat) (f : Nat → Nat) (up : Bool) (h : SlF w a n f) (hcap : n ≤ cap ∧ cap ≤ 9223372036854775807) (hn : n ≤ 1048578) :
    Calls Try.prog 30 #[.slice a n cap, .bool up] w fun e w' => ∃ b c, e = .returned (.slice (some ⟨b, 0, none⟩) n c) ∧ FlG w' b n (usedF up f) ∧ w.heap.size ≤ b ∧ b < w'.heap.size ∧ Below w.heap.size w w' := by
  have H := Lib.hid h
  clear h
  go_enter Try.func30, Try.ntmps30
  obtain ⟨i0, hi0, hz0, hz1, hz2⟩ := infoP infoF
  have hr0 : (w.alloc (.cells #[] 23)).ownsRow w.heap.size 23 1 (.slice (some ⟨w.heap.size, 0, none⟩) 0 0) 0 (flist 0 (usedF up f)) := World.ownsRow_lit (size := 1) w #[] 0 (Nat.le_refl _) (by decide) rfl
  go_wp2
  go_loopg [5, 6] n (fun m v u wr => ∃ (i g c : Nat), u = .int .i64 (i : Int) ∧ v = .slice (some ⟨g, 0, none⟩) i c ∧ Hid (i + m = n ∧ Below w.heap.size w wr) ∧ wr.ownsRow w.heap.size 23 1 (.slice (some ⟨g, 0, none⟩) i c) i (flist i (usedF up f)))
  case atStart => exact ⟨0, _, _, rfl, rfl, Lib.hid ⟨by omega, (Below.refl _ w).alloc (Nat.le_refl _) _⟩, hr0⟩
  case round =>
    obtain ⟨i, g, c, rfl, rfl, hw, hrow⟩ := hrel
    have hsum := hw.out.1
    have HB := Lib.hid hw.out.2
    clear hw hr0
    have q0 : IntKind.i64.wrap ((i : Int) + 1) = (i : Int) + 1 := IntWalk.i64_in _ (by omega)
    by_cases hi : i < n
    · obtain ⟨h64, k, off, rfl, hc⟩ := H.out.at_ i hi
      have c0 := (HB.out.cell (p := ⟨k, off + i, none⟩) (cell_lt' hc)).trans hc
      have lk := cell_lt' c0
      have HU := Lib.hid (fun W => usedR_calls W (f i))
      have hb0 := usedD_bd (x := f i) (by omega)
      have HM := Lib.hid (fun W => maxR_calls W 0 (usedD (f i)) num0 hb0.num)
      have hmx : i + 1 ≤ maxLen := by have : maxLen = 9223372036854775807 := rfl; omega
      have hby : (i + 1) * 8 ≤ 140737488355328 := by omega
      have hws : w.heap.size ≤ wr.heap.size := HB.out.size
      have HME : Hid (gk - 1 < gk) := Lib.hid (by omega)
      have HSM : Hid (i + 1 + (gk - 1) = n) := Lib.hid (by omega)
      have HR := Lib.hid hrow
      clear hc h64 hb0 hsum
      cases up with
      | false =>
        go_wp2_with (first | (go_at_call 29; refine (HU.out _).mono ?_; rintro e w1 ⟨rfl, rfl⟩) | (at_builtin; refine wpList_append_lies _ rfl (.tmp 23) (.tmp 25) 24 rfl w.heap.size 23 i0 (fl 0) 1 8 Try.underlying24 hi0 hz0 hz1 hz2 rfl (by omega) (.slice (some ⟨g, 0, none⟩) i c) i (flist i (usedF false f)) rfl (HR.out.alloc _) ⟨wr.heap.size, 0, none⟩ 1 1 [fl (usedD (f i))] rfl rfl (World.news_of_block (cs := #[fl (usedD (f i))]) (t := 23) (fr := (0, 0)) (Go.heap_alloc_new wr _)) (by simp [Value.oneCell']) (by omega) hmx hby (by simp; omega) (wr.heap.size + 1) (by simp) ?_; intro g2 c2 w5 hown2 hg2 hat2 hlt2; have HR2 := Lib.hid (And.intro hown2 hg2); clear hown2 hg2 hat2 hlt2))
        go_roundg (gk - 1)
        case measure => exact HME.out
        case rel => exact ⟨i + 1, g2, c2, by go_num, rfl, Lib.hid ⟨HSM.out, (HB.out.alloc hws _).trans (grown_below HR2.out.2 (fun y e => (HR.out.lt y e).1) (by simp; omega))⟩, by rw [flist_succ]; exact HR2.out.1⟩
      | true =>
        go_wp2_with (first | (go_at_call 29; refine (HU.out _).mono ?_; rintro e w1 ⟨rfl, rfl⟩) | (go_at_call 46; refine (HM.out _).mono ?_; rintro e w1 ⟨rfl, rfl⟩) | (at_builtin; refine wpList_append_lies _ rfl (.tmp 23) (.tmp 25) 24 rfl w.heap.size 23 i0 (fl 0) 1 8 Try.underlying24 hi0 hz0 hz1 hz2 rfl (by omega) (.slice (some ⟨g, 0, none⟩) i c) i (flist i (usedF true f)) rfl (HR.out.alloc _) ⟨wr.heap.size, 0, none⟩ 1 1 [fl (maxD 0 (usedD (f i)))] rfl rfl (World.news_of_block (cs := #[fl (maxD 0 (usedD (f i)))]) (t := 23) (fr := (0, 0)) (Go.heap_alloc_new wr _)) (by simp [Value.oneCell']) (by omega) hmx hby (by simp; omega) (wr.heap.size + 1) (by simp) ?_; intro g2 c2 w5 hown2 hg2 hat2 hlt2; have HR2 := Lib.hid (And.intro hown2 hg2); clear hown2 hg2 hat2 hlt2))
        go_roundg (gk - 1)
        case measure => exact HME.out
        case rel => exact ⟨i + 1, g2, c2, by go_num, rfl, Lib.hid ⟨HSM.out, (HB.out.alloc hws _).trans (grown_below HR2.out.2 (fun y e => (HR.out.lt y e).1) (by simp; omega))⟩, by rw [flist_succ]; exact HR2.out.1⟩
    · obtain rfl : i = n := by omega
      obtain ⟨hf, hl⟩ := flg_of_row hrow
      have HF := Lib.hid (And.intro hf hl)
      clear hf hl hrow
      go_wp2
      go_ret
      exact ⟨g, c, rfl, HF.out.1, HF.out.2.1, HF.out.2.2, HB.out⟩
end Go.Proofs.Ytohmmkkbfiembaa
