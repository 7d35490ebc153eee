/- trail's lives, above, has, ahead over a tree in memory. -/
import Derived.Test.YtelhnaphkbpakaaDoorMw15
namespace Go.Proofs.YtelhnaphkbpakaaDoor
open Go.RowKit
set_option linter.unusedVariables false
set_option maxRecDepth 100000

/-- A handle of a node that lives. -/
def Lv (F : For) (s g : Nat) : Prop := ∃ (k : Nat) (x : FN), F[k]? = some x ∧ x.live = true ∧ x.sl = s ∧ x.gn = g
theorem lv_no {F : For} {s g : Nat} (h : ¬ Lv F s g) : NoH F s g := fun k x a b c d => h ⟨k, x, a, b, c, d⟩
/-- Some handles in a row in memory. -/
structure HRow (w : World) (gb : Nat) (L : List (Nat × Nat)) : Prop where
  at_ : ∀ j p, L[j]? = some p → w.cell? ⟨gb, j * 2, none⟩ = some (.int .u32 (p.1 : Int)) ∧ w.cell? ⟨gb, j * 2 + 1, none⟩ = some (.int .u32 (p.2 : Int))
  bd : ∀ p ∈ L, p.1 ≤ 4294967295 ∧ p.2 ≤ 4294967295
theorem HRow.below {w w' : World} {gb : Nat} {L : List (Nat × Nat)} (h : HRow w gb L) (b : Below w.heap.size w w') : HRow w' gb L :=
  ⟨fun j p hp => by
    obtain ⟨h1, h2⟩ := h.at_ j p hp
    exact ⟨(b.cell (p := ⟨gb, j * 2, none⟩) (cell_lt h1)).trans h1, (b.cell (p := ⟨gb, j * 2 + 1, none⟩) (cell_lt h2)).trans h2⟩, h.bd⟩

section
variable {B : Nat} {Q : Nat → Prop} {w w' : World} {tb : Nat} {X : TX} {Lf : Nat → Nat → Nat × Nat}
set_option maxHeartbeats 2000000 in
theorem lives_calls (h : TreeRw B Q w tb X Lf) {L : List (Nat × Nat)} {gb cap : Nat} (hL : HRow w gb L) (hn : L.length ≤ 1000) {r : Int} (hr : (r = 0 ∧ ∀ p ∈ L, Lv X.F p.1 p.2) ∨ (r = 51 ∧ ∃ p ∈ L, ¬ Lv X.F p.1 p.2)) :
    Calls Tryd.prog 40 #[.pointer (some ⟨tb, 0, none⟩), .slice (some ⟨gb, 0, none⟩) L.length cap] w fun e w' => e = .returned (.int .i64 r) ∧ Below w.heap.size w w' := by
  have HT := Lib.hid h
  have HL := Lib.hid hL
  have HR := Lib.hid hr
  obtain ⟨n, hnn⟩ : ∃ n, n = L.length := ⟨_, rfl⟩
  rw [← hnn] at hn ⊢
  have HN := Lib.hid hnn
  clear h hL hr hnn
  go_enter Tryd.func40, Tryd.ntmps40
  go_wp2_with fail
  go_loopg [13] n (fun m v wr => ∃ (j : Nat), v = .int .i64 (j : Int) ∧ Hid (j + m = n ∧ Below w.heap.size w wr ∧ ∀ i p, i < j → L[i]? = some p → Lv X.F p.1 p.2))
  case atStart => exact ⟨0, rfl, Lib.hid ⟨by omega, Below.refl _ _, fun i p hi => by omega⟩⟩
  case round =>
    obtain ⟨j, rfl, hw⟩ := hrel
    have hsum := hw.out.1
    have hs1 := hw.out.2.1.size
    have HAL : Hid (∀ o, Below w.heap.size w (wr.alloc o)) := Lib.hid (fun o => hw.out.2.1.alloc hs1 o)
    by_cases hj : j < n
    · obtain ⟨⟨s, g⟩, hp⟩ : ∃ p, L[j]? = some p := ⟨_, List.getElem?_eq_getElem (by have := HN.out; omega)⟩
      obtain ⟨y0, y1⟩ := (HL.out.below hw.out.2.1).at_ j _ hp
      obtain ⟨hs, hg⟩ := HL.out.bd _ (List.mem_of_getElem? hp)
      have l0 := cell_lt y0
      have ql : decide ((j : Int) < (n : Int)) = true := by simp; omega
      have wk : IntKind.i64.wrap ((j : Int) + 1) = (j : Int) + 1 := IntWalk.i64_in _ (by omega)
      simp only at y0 y1 hs hg l0
      have HP := Lib.hid hp
      by_cases hl : Lv X.F s g
      · obtain ⟨k, x, hx, hxl, hxs, hxg⟩ := hl
        have HB : Hid (∀ W, Below w.heap.size w W → Calls Tryd.prog 43 #[.pointer (some ⟨tb, 0, none⟩), .agg #[.int .u32 (s : Int), .int .u32 (g : Int)]] W fun e w' => e = .returned (.tuple #[.int .u64 ((k + 1 : Nat) : Int), .int .i64 0]) ∧ Below W.heap.size W w') := Lib.hid (fun W b => by
          have := born_live (HT.out.below b) hx hxl
          rw [hxs, hxg] at this
          exact this)
        have HLV : Hid (Lv X.F s g) := Lib.hid ⟨k, x, hx, hxl, hxs, hxg⟩
        clear hx hxl hxs hxg hp
        go_wp2_with (go_at_call 43; refine (HB.out _ (HAL.out _)).mono ?_; rintro e w1 ⟨rfl, b1⟩; have HB1 := Lib.hid ((HAL.out _).trans (b1.mono (HAL.out _).size)); clear b1)
        go_roundg (gk - 1)
        case measure => omega
        case rel => exact ⟨j + 1, by go_num, Lib.hid ⟨by omega, HB1.out, fun i p hi hp => by
          by_cases e : i = j
          · subst e; rw [HP.out] at hp; cases hp; exact HLV.out
          · exact hw.out.2.2 i p (by omega) hp⟩⟩
      · have hno := lv_no hl
        have HB : Hid (∀ W, Below w.heap.size w W → Calls Tryd.prog 43 #[.pointer (some ⟨tb, 0, none⟩), .agg #[.int .u32 (s : Int), .int .u32 (g : Int)]] W fun e w' => e = .returned (.tuple #[.int .u64 0, .int .i64 51]) ∧ Below W.heap.size W w') := Lib.hid (fun W b => born_dead (HT.out.below b) hs hg hno)
        have HRES : Hid (r = 51) := Lib.hid (by
          rcases HR.out with ⟨_, ha⟩ | ⟨e, _⟩
          · exact absurd (ha _ (List.mem_of_getElem? hp)) hl
          · exact e)
        clear hl hno hp
        go_wp2_with (go_at_call 43; refine (HB.out _ (HAL.out _)).mono ?_; rintro e w1 ⟨rfl, b1⟩; have HB1 := Lib.hid ((HAL.out _).trans (b1.mono (HAL.out _).size)); clear b1)
        try rw [Exit.noGoto_ret]
        go_ret
        exact ⟨by rw [HRES.out]; rfl, HB1.out⟩
    · have ql : decide ((j : Int) < (n : Int)) = false := by simp; omega
      have HRES : Hid (r = 0) := Lib.hid (by
        rcases HR.out with ⟨e, _⟩ | ⟨_, p, hp, hl⟩
        · exact e
        · obtain ⟨i, hi, e⟩ := List.mem_iff_getElem.1 hp
          refine absurd (hw.out.2.2 i p (by have := HN.out; omega) ?_) hl
          rw [List.getElem?_eq_getElem hi, e])
      go_wp2_with fail
      try rw [Exit.noGoto_ret]
      go_ret
      exact ⟨by rw [HRES.out]; rfl, hw.out.2.1⟩
end
end Go.Proofs.YtelhnaphkbpakaaDoor

