/- Part 16 of the proof of TpP: lemmas. -/
import Derived.Test.YtelhnaphkbpakaaDoorMp15
namespace Go.Proofs.YtelhnaphkbpakaaDoor
open Go.RowKit
set_option linter.unusedVariables false
set_option maxRecDepth 100000
theorem SlA.src {w : World} {a : Option Addr} {L : List LA} (h : SlA w a L) : L.length = 0 ∨ ∃ ad, a = some ad ∧ ∀ j u, (cellsA L)[j]? = some u → w.cell? (ad.add j) = some u := by
  rcases Nat.eq_zero_or_pos L.length with h0 | h0
  · exact .inl h0
  · obtain ⟨u, hu⟩ : ∃ u, (cellsA L)[0]? = some u := ⟨_, List.getElem?_eq_getElem (by rw [cellsA_len]; omega)⟩
    obtain ⟨b, off, rfl, _, _⟩ := h.at_ 0 u hu
    refine .inr ⟨_, rfl, fun j v hv => ?_⟩
    obtain ⟨b', off', h1, _, h3⟩ := h.at_ j v hv
    cases h1
    rw [show (⟨b, off, none⟩ : Addr).add j = ⟨b, off + j, none⟩ by unfold Addr.add; split <;> simp_all]
    exact h3
set_option maxHeartbeats 1000000 in
theorem clone54_calls (w : World) {ad : Addr} {L : List LA} (ca : Nat) (hA : SlA w (some ad) L) (hl : L.length ≤ 1099511627776) :
    Calls Tryd.prog 79 #[.slice (some ad) L.length ca] w fun e w' => ∃ a' c', e = .returned (.slice a' L.length c') ∧ w'.ownsRow w.heap.size 114 2 (.slice a' L.length c') L.length (cellsA L) ∧ Below w.heap.size w w' := by
  obtain ⟨i72, hi72, ia1, ia2, ia3⟩ := info_parts info114
  have HA := Lib.hid (hA.below ((Below.refl _ w).alloc (Nat.le_refl _) (.cells #[] 114)))
  obtain ⟨n, hn⟩ : ∃ n, n = L.length := ⟨_, rfl⟩
  rw [← hn] at hl ⊢
  have HN := Lib.hid hn
  clear hn hA
  have heq : ∀ w, (binOp .eql 64 (.slice (some ad) n ca) (.slice none 0 0)).run Tryd.prog w = .ok (.bool false) w := fun w => Lib.run_eql_slice_nil w _ _ (some ad) n ca 0 0 Tryd.underlying64
  go_enter Tryd.func79, Tryd.ntmps79
  go_wp2_with (at_builtin; refine wpList_append_any _ rfl (.tmp 5) (.tmp 6) 64 rfl w.heap.size 114 i72 _ 2 40 Tryd.underlying64 hi72 ia1 ia2 ia3 rfl (by omega) _ 0 [] rfl (World.ownsRow_lit w #[] 0 (Nat.le_refl _) (by decide) rfl) (some ad) n ca (cellsA L) rfl (by rw [cellsA_len, HN.out]) (by rw [HN.out]; exact HA.out.src) (cellsA_one L) (by unfold maxLen; omega) (by omega) (by simp) ?_)
  intro a2 c2 w2 hown hgrow
  have hb : Below w.heap.size w w2 := ((FrT.refl [114] w.heap.size w).alloc (.cells #[] 114) |>.append (World.ownsRow_lit (size := 2) w #[] 0 (Nat.le_refl _) (by decide) rfl) (Nat.le_refl _) (by simp) hgrow).below (Nat.le_refl _)
  go_wp2
  go_ret
  exact ⟨a2, c2, rfl, by simpa using hown, hb⟩
set_option maxHeartbeats 1000000 in
theorem insort1_calls (w : World) (v f : Value) (n : Nat) (hn : n ≤ 1) : Calls Tryd.prog 112 #[v, .int .i64 0, .int .i64 (n : Int), f] w fun e w' => (∃ v, e = .returned v) ∧ w = w' := by
  have p1 : ¬ (1 : Int) < (n : Int) := by omega
  go_enter Tryd.func112, Tryd.ntmps112
  go_wp2_with fail
  go_loopw [8] (fun v wr => v = .int .i64 1 ∧ w = wr) (fun _ _ => 0)
  case atStart => exact ⟨rfl, rfl⟩
  case round =>
    obtain ⟨rfl, rfl⟩ := hrel
    go_wp2
    go_end0
    exact ⟨⟨_, rfl⟩, rfl⟩
theorem stab1_calls (w : World) (v f : Value) (n : Nat) (hn : n ≤ 1) : Calls Tryd.prog 105 #[v, .int .i64 (n : Int), f] w fun e w' => (∃ v, e = .returned v) ∧ w = w' := by
  have p1 : ¬ (20 : Int) ≤ (n : Int) := by omega
  have p2 : ¬ (20 : Int) < (n : Int) := by omega
  have hi := insort1_calls w v f n hn
  go_enter Tryd.func105, Tryd.ntmps105
  go_wp2_with fail
  go_loopw [7, 8] (fun u v wr => u = .int .i64 0 ∧ v = .int .i64 20 ∧ w = wr) (fun _ _ _ => 0)
  case atStart => exact ⟨rfl, rfl, rfl⟩
  case round =>
    obtain ⟨rfl, rfl, rfl⟩ := hrel
    go_wp2_with (go_at_call 112; refine hi.mono ?_; rintro e w2 ⟨⟨r, rfl⟩, rfl⟩)
    go_loopw [6] (fun v wr => v = .int .i64 20 ∧ w = wr) (fun _ _ => 0)
    case atStart => exact ⟨rfl, rfl⟩
    case round =>
      obtain ⟨rfl, rfl⟩ := hrel
      go_wp2
      go_end0
      exact ⟨⟨_, rfl⟩, rfl⟩
theorem sort1_calls (w : World) (v f : Value) (a : Option Addr) (n c : Nat) (hn : n ≤ 1) (hv : v = .slice a n c) : Calls Tryd.prog 80 #[v, f] w fun e w' => (∃ v, e = .returned v) ∧ w = w' := by
  subst hv
  have hi := stab1_calls w (.slice a n c) f n hn
  go_enter Tryd.func80, Tryd.ntmps80
  go_wp2_with (go_at_call 105; refine hi.mono ?_; rintro e w2 ⟨⟨r, rfl⟩, rfl⟩)
  go_end0
  exact ⟨⟨_, rfl⟩, rfl⟩
end Go.Proofs.YtelhnaphkbpakaaDoor
