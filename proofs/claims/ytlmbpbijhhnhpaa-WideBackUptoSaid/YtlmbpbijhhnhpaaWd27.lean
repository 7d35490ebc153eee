/- over: units that came out are written over, and made longer: that turns their own block alone. -/
import Derived.Test.YtlmbpbijhhnhpaaWd14
import Derived.Test.YtlmbpbijhhnhpaaAp2
namespace Go.Proofs.Ytlmbpbijhhnhpaa
open Go.RowKit
set_option linter.unusedVariables false
set_option maxRecDepth 100000

set_option maxHeartbeats 4000000 in
theorem over_turns {B : Nat} {w : World} {a : Option Addr} {n cap : Nat} {xs : List Value} (h : w.ownsRow B 79 1 (.slice a n cap) n xs) (hn : n ≤ 2199023255552) (hB : B ≤ w.heap.size) :
    Calls Try.prog 48 #[.slice a n n] w fun e w' => (∃ v, e = .returned v) ∧ w.grownBy w' (Value.slice a n cap).ownBlock := by
  have H := Lib.hid h
  obtain ⟨i79, hi79, ha1, ha2, ha3⟩ := info_parts info79
  clear h
  go_enter Try.func48, Try.ntmps48
  go_wp2_with fail
  go_loopw [2] (fun v wr => ∃ (i : Nat) (ys : List Value), v = .int .i64 (i : Nat) ∧ i ≤ n ∧ wr.ownsRow B 79 1 (.slice a n cap) n ys ∧ w.grownBy wr (Value.slice a n cap).ownBlock) (fun v _ => n - (intOf v).toNat)
  case atStart => exact ⟨0, xs, rfl, Nat.zero_le _, H.out, grown_self _ _⟩
  case round =>
    obtain ⟨i, ys, rfl, hi, hrow, hgr⟩ := hrel
    by_cases hlt : i < n
    · obtain ⟨g, _, hv, _, hgl⟩ := hrow.form (by omega)
      obtain ⟨rfl, rfl⟩ : a = some ⟨g, 0, none⟩ ∧ cap = _ := by simpa using hv
      have hlen := hrow.1
      obtain ⟨y, hy⟩ : ∃ y, ys[i]? = some y := ⟨_, List.getElem?_eq_getElem (by omega)⟩
      have c0 := (hrow.cellAt i (by omega)).trans hy
      have f0 := hrow.frozenAt i
      have p1 : (i : Int) < (n : Int) := by omega
      have p2 : (0 : Int) ≤ (i : Int) := by omega
      have HR := Lib.hid (And.intro hrow hgr)
      clear hrow hgr hv hy hlen
      go_wp2
      go_roundw
      case rel => exact ⟨i + 1, ys.set i (.int .u16 9), by go_num, hlt, (HR.out.1.stored i (.int .u16 9)).1, grown_trans HR.out.2 (grown_set wr ⟨g, i, none⟩ _) (fun x e => by cases e; exact .inl rfl)⟩
      case measure => simp [intOf]; omega
    · have HR := Lib.hid (And.intro hrow hgr)
      have hsz := hgr.size
      clear hrow hgr
      go_wp2_with fail
      go_loopw [0, 3] (fun v0 v wr => ∃ (i k : Nat) (ys : List Value), v = .int .i64 (i : Nat) ∧ i ≤ 9 ∧ k = n + i ∧ AppOk wr B 79 v0 k ys ∧ (∀ x, v0.ownBlock = some x → (Value.slice a n cap).ownBlock = some x ∨ w.heap.size ≤ x) ∧ w.grownBy wr (Value.slice a n cap).ownBlock) (fun _ v _ => 9 - (intOf v).toNat)
      case atStart => exact ⟨0, n, ys, rfl, by omega, rfl, .inr ⟨a, cap, rfl, HR.out.1⟩, fun x hx => .inl (by cases a <;> exact hx), HR.out.2⟩
      case round =>
        clear HR hsz
        obtain ⟨i, k, ys, rfl, hi, hk, happ, hwh, hgr⟩ := hrel
        obtain ⟨sa, sc, rfl⟩ := happ.slice
        have hsz : w.heap.size ≤ wr.heap.size := hgr.size
        have HR := Lib.hid (And.intro happ (And.intro hwh hgr))
        have HK := Lib.hid hk
        have hkb : k ≤ 4398046511104 := by omega
        clear happ hwh hgr hk
        by_cases hlt : i < 9
        · have p1 : (i : Int) < 9 := by omega
          go_wp2_with (at_builtin; refine wpList_append_ok _ rfl (.tmp 17) (.tmp 18) 73 rfl B 79 i79 _ 2 Try.underlying73 hi79 ha1 ha2 ha3 rfl _ k ys rfl (HR.out.1.alloc _) ⟨wr.heap.size, 0, none⟩ 1 1 [.int .u16 8] rfl rfl (World.news_of_block (cs := #[.int .u16 8]) (t := 79) (fr := (0, 0)) (Go.heap_alloc_new wr _)) (by simp [Value.oneCell']) (by omega) (by unfold maxLen; omega) (by omega) (by simp; omega) ?_)
          intro g c' w8 hown hgrow hwhere
          have HO := Lib.hid (And.intro hown (And.intro hgrow hwhere))
          clear hown hgrow hwhere
          go_wp2
          go_roundw
          case rel =>
            refine ⟨i + 1, k + 1, ys ++ [.int .u16 8], by go_num, hlt, by rw [HK.out]; omega, .inl HO.out.1, fun x hx => ?_, ?_⟩
            · rcases HO.out.2.2 with h | h
              · exact HR.out.2.1 x (h.trans hx)
              · right
                have hx' : g = x := by simpa [Value.ownBlock] using hx
                have h2 : wr.heap.size + 1 ≤ g := by simpa using h
                omega
            · refine grown_trans HR.out.2.2 (grown_trans (grown_alloc wr _ _) HO.out.2.1 (fun x e => .inl e)) (fun x e => HR.out.2.1 x e)
          case measure => simp [intOf]; omega
        · have p1 : ¬ (i : Int) < 9 := by omega
          go_wp2
          go_end0
          exact ⟨⟨_, rfl⟩, HR.out.2.2⟩
end Go.Proofs.Ytlmbpbijhhnhpaa
