/- at: the place of an attribute; Attr: its value. -/
import Derived.Test.YtelhnaphkbpakaaDt5
namespace Go.Proofs.Ytelhnaphkbpakaa
open Go.RowKit
set_option linter.unusedVariables false
set_option maxRecDepth 100000

theorem at1_calls (w : World) (nm name : ByteArray) (va : Option Addr) (vn vc b : Nat) (hb : w.heap[b]? = some (.cells #[.string name] 9 (0, 0))) :
    Calls Try.prog 95 #[.agg #[.string nm, .slice va vn vc], .pointer (some ⟨b, 0, none⟩)] w fun e w' => e = .returned (.bool (nm.toList == name.toList)) ∧ Below w.heap.size w w' := by
  have c0 := cell_blk hb 0 rfl
  have l0 := lt_of_some hb
  simp at c0
  go_enter Try.func95, Try.ntmps95
  go_wp2_with fail
  go_ret
  exact ⟨rfl, (by repeat (first | exact Below.refl _ _ | assumption | refine Below.drew ?_ | refine below_drewN ?_ _ | refine Below.alloc ?_ (by simp <;> omega) _ | refine Below.setCell ?_ (by simp <;> omega) _ | (apply bl_trans; assumption; (simp <;> omega))))⟩

def isNm (name : ByteArray) (x : LA) : Bool := x.name.toList == name.toList
def atD (L : List LA) (name : ByteArray) : Int := if L.findIdx (isNm name) < L.length then (L.findIdx (isNm name) : Int) else -1

set_option maxHeartbeats 4000000 in
theorem index_calls (w : World) {a : Option Addr} {L : List LA} (ac : Nat) (hA : SlA w a L) (name : ByteArray) (b : Nat) (hb : w.heap[b]? = some (.cells #[.string name] 9 (0, 0))) :
    Calls Try.prog 94 #[.slice a L.length ac, .func (.func 95) #[] #[.pointer (some ⟨b, 0, none⟩)]] w fun e w' => e = .returned (.int .i64 (atD L name)) ∧ Below w.heap.size w w' := by
  obtain ⟨n, en⟩ : ∃ n, n = L.length := ⟨_, rfl⟩
  have hl := hA.len
  rw [← en] at hl ⊢
  have HN := Lib.hid en
  have HA := Lib.hid hA
  clear hA en
  go_enter Try.func94, Try.ntmps94
  go_wp2_with fail
  go_loopw [8] (fun v wr => ∃ (i : Nat), v = .int .i64 (i : Nat) ∧ i ≤ n ∧ (∀ (j : Nat) (x : LA), j < i → L[j]? = some x → isNm name x = false) ∧ Below w.heap.size w wr) (fun v _ => n - (intOf v).toNat)
  case atStart => exact ⟨0, rfl, Nat.zero_le _, fun _ _ h => absurd h (Nat.not_lt_zero _), Below.refl _ _⟩
  case round =>
    obtain ⟨i, rfl, hi, hno, hbel⟩ := hrel
    by_cases hlt : i < n
    · obtain ⟨x, hx⟩ : ∃ x, L[i]? = some x := ⟨_, List.getElem?_eq_getElem (by rw [← HN.out]; exact hlt)⟩
      obtain ⟨bb, off, rfl, hbl, c1, c2⟩ := (HA.out.below hbel).get hx
      have p1 : (i : Int) < (n : Int) := by omega
      have p2 : (0 : Int) ≤ (i : Int) := by omega
      have hb2 := (hbel.block b (lt_of_some hb)).trans hb
      have hc := at1_calls wr x.name name x.va x.val.length x.vc b hb2
      have hs := hbel.size
      cases hm : isNm name x with
      | true =>
        have hm2 : (x.name.toList == name.toList) = true := hm
        rw [hm2] at hc
        have hat : atD L name = (i : Int) := by
          have h1 : L.findIdx (isNm name) = i := by
            have hil : i < L.length := by rw [← HN.out]; exact hlt
            rw [List.findIdx_eq hil]
            have hxe : L[i] = x := by rw [List.getElem?_eq_getElem hil] at hx; exact Option.some.inj hx
            refine ⟨by rw [hxe]; exact hm, fun j hj => ?_⟩
            exact hno j _ hj (List.getElem?_eq_getElem (by omega))
          unfold atD
          rw [h1, if_pos (by rw [← HN.out]; exact hlt)]
        have HAT := Lib.hid hat
        have HC := Lib.hid hc
        clear hc hx hno hm hm2 hat hb2
        go_wp2_with (go_at_call 95; refine HC.out.mono ?_; rintro e w2 ⟨rfl, b2⟩)
        go_ret
        exact ⟨by rw [HAT.out]; rfl, hbel.trans (b2.mono hs)⟩
      | false =>
        have hm2 : (x.name.toList == name.toList) = false := hm
        rw [hm2] at hc
        have HC := Lib.hid hc
        have HNO := Lib.hid hno
        have HX := Lib.hid (And.intro hx hm)
        clear hc hx hno hm hm2 hb2
        go_wp2_with (go_at_call 95; refine HC.out.mono ?_; rintro e w2 ⟨rfl, b2⟩)
        go_roundw
        case rel =>
          refine ⟨i + 1, by go_num, hlt, fun j y hj hy => ?_, hbel.trans (b2.mono hs)⟩
          rcases Nat.lt_or_ge j i with h | h
          · exact HNO.out j y h hy
          · obtain rfl : j = i := by omega
            rw [HX.out.1] at hy
            cases hy
            exact HX.out.2
        case measure => simp [intOf]; omega
    · obtain rfl : i = n := by omega
      have p1 : ¬ (i : Int) < (i : Int) := by omega
      have hat : atD L name = -1 := by
        unfold atD
        rw [if_neg]
        intro h
        have h1 := List.findIdx_getElem (w := h)
        rw [hno _ _ (by rw [HN.out]; exact h) (List.getElem?_eq_getElem h)] at h1
        exact absurd h1 (by simp)
      have HAT := Lib.hid hat
      clear hno hat hlt
      go_wp2_with fail
      go_ret
      exact ⟨by rw [HAT.out]; rfl, hbel⟩

set_option maxHeartbeats 4000000 in
theorem at_calls (w : World) (N : Nd) (h : NdIn w N) (name : ByteArray) :
    Calls Try.prog 71 #[N.v, .string name] w fun e w' => e = .returned (.int .i64 (atD N.L name)) ∧ Below w.heap.size w w' := by
  have hA := h.attrs
  obtain ⟨k, nm, da, dc, data, aa, ac, L, sl, ge⟩ := N
  simp only [Nd.v, Nd.cells] at *
  have hb0 : Below w.heap.size w ((w.alloc (.cells #[.int .i64 k, .string nm, .slice da data.length dc, .slice aa L.length ac, .int .u32 sl, .int .u32 ge] 30)).alloc (.cells #[.string name] 9)) := ((Below.refl _ w).alloc (Nat.le_refl _) _).alloc (by simp) _
  have hx : ((w.alloc (.cells #[.int .i64 k, .string nm, .slice da data.length dc, .slice aa L.length ac, .int .u32 sl, .int .u32 ge] 30)).alloc (.cells #[.string name] 9)).heap[w.heap.size + 1]? = some (.cells #[.string name] 9 (0, 0)) := by
    have := Go.heap_alloc_new (w.alloc (.cells #[.int .i64 k, .string nm, .slice da data.length dc, .slice aa L.length ac, .int .u32 sl, .int .u32 ge] 30)) (.cells #[.string name] 9); rwa [World.size_alloc] at this
  have hi := index_calls _ ac (hA.below hb0) name _ hx
  have HI := Lib.hid hi
  have HB := Lib.hid hb0
  clear hi hx hb0 h hA
  go_enter Try.func71, Try.ntmps71
  go_wp2_with (go_at_call 94; refine HI.out.mono ?_; rintro e w2 ⟨rfl, b2⟩)
  go_ret
  exact ⟨rfl, HB.out.trans (b2.mono (by simp; omega))⟩
end Go.Proofs.Ytelhnaphkbpakaa
