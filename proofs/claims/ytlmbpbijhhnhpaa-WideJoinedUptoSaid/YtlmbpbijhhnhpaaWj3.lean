/- Is a text's last piece cut off? By the document's pieces and row. -/
import Derived.Test.YtlmbpbijhhnhpaaWd24
import Derived.Test.YtlmbpbijhhnhpaaWd5
import Derived.Test.YtlmbpbijhhnhpaaWj1
namespace Go.Proofs.Ytlmbpbijhhnhpaa
open Go.RowKit
set_option linter.unusedVariables false
set_option maxRecDepth 100000

/-- The last piece is cut off by the text's end. -/
def openEnd (s : ByteArray) : Bool := match (pcs s).getLast? with
  | none => false
  | some x => !x.ok && decide (1 < (rowOf (byteAt s x.p)).1)
theorem openEnd_closed {s : ByteArray} (h : openEnd s = false) : ∀ x, (pcs s).getLast? = some x → Closed s x := by
  intro x hx
  unfold openEnd at h
  rw [hx] at h
  simp only [Bool.and_eq_false_iff, Bool.not_eq_false', decide_eq_false_iff_not] at h
  rcases h with h | h
  · exact .inl h
  · exact .inr (by omega)

set_option maxHeartbeats 4000000 in
theorem ends_open (s : ByteArray) (hs : s.size ≤ 1099511627776) (w : World) :
    Calls Try.prog 44 #[.string s] w fun e w' => e = .returned (.bool (openEnd s)) ∧ Below w.heap.size w w' := by
  have hpcs := pcs_len s
  unfold openEnd
  by_cases h0 : pcs s = []
  · rw [h0]
    have hc := ref_pieces s hs w
    rw [h0] at hc
    have HC := Lib.hid hc
    clear hc h0 hpcs
    go_enter Try.func44, Try.ntmps44
    go_wp2_with fail
    refine HC.out.mono ?_
    rintro e w1 ⟨v, rfl, hI⟩
    obtain ⟨va, vc, rfl⟩ := rwSlice hI.row
    have B1 := Lib.hid hI.bel
    clear hI
    go_wp2
    go_ret
    exact ⟨rfl, B1.out⟩
  · obtain ⟨x, hx⟩ : ∃ x, (pcs s).getLast? = some x := ⟨_, List.getLast?_eq_some_getLast h0⟩
    rw [hx]
    have hm : (pcs s)[(pcs s).length - 1]? = some x := by rw [← hx, List.getLast?_eq_getElem?]
    obtain ⟨n, hn⟩ : ∃ n, (pcs s).length = n + 1 := ⟨(pcs s).length - 1, by have := List.length_pos_iff.2 h0; omega⟩
    rw [hn, Nat.add_sub_cancel] at hm
    obtain ⟨q, hq, rfl⟩ := pcsFrom_mem s 0 x (by exact List.mem_of_getElem? hm)
    have hp := pcAt_p s q
    obtain ⟨x, hxx⟩ : ∃ x, x = pcAt s q := ⟨_, rfl⟩
    rw [← hxx] at hp hm ⊢
    obtain ⟨xp, xn, xo, xc⟩ := x
    simp only at hp
    subst hp
    have hc := ref_pieces s hs w
    have hb := byteAt_get s xp (by omega)
    have p1 : (xp : Int) < (s.size : Int) := by omega
    obtain ⟨c, hcc⟩ : ∃ c, c = byteAt s xp := ⟨_, rfl⟩
    rw [← hcc] at hb
    simp only [← hcc]
    have hrow := fun w => ref_row c w
    obtain ⟨r, hr⟩ : ∃ r, r = rowOf c := ⟨_, rfl⟩
    simp only [← hr] at hrow ⊢
    obtain ⟨rm, rl, rh⟩ := r
    simp only at hrow ⊢
    have HC := Lib.hid hc
    have HM := Lib.hid hm
    have HN := Lib.hid hn
    have HR := Lib.hid hrow
    have hn2 : n + 1 ≤ s.size := by omega
    clear hc h0 hpcs hx hm hn hxx hrow hcc hr
    by_cases hr1 : 1 < rm
    · have p2 : (1 : Int) < (rm : Int) := by omega
      rw [decide_eq_true hr1]
      clear hr1
      cases xo
      all_goals
        go_enter Try.func44, Try.ntmps44
        go_wp2_with fail
        refine HC.out.mono ?_
        rintro e w1 ⟨v, rfl, hI⟩
        obtain ⟨g, cap, rfl, hg, d0, d1, d2, d3⟩ := hI.slot HM.out
        rw [HN.out]
        have B1 := Lib.hid hI.bel
        clear hI
        simp only at d0 d1 d2 d3
        go_wp2_with fail
        refine (HR.out _).mono ?_
        rintro e w2 ⟨rfl, rfl⟩
        go_wp2
        go_ret
        exact ⟨by first | rfl | (simp; omega), B1.out.alloc B1.out.size _⟩
    · have p2 : ¬ (1 : Int) < (rm : Int) := by omega
      rw [decide_eq_false hr1]
      clear hr1
      cases xo
      all_goals
        go_enter Try.func44, Try.ntmps44
        go_wp2_with fail
        refine HC.out.mono ?_
        rintro e w1 ⟨v, rfl, hI⟩
        obtain ⟨g, cap, rfl, hg, d0, d1, d2, d3⟩ := hI.slot HM.out
        rw [HN.out]
        have B1 := Lib.hid hI.bel
        clear hI
        simp only at d0 d1 d2 d3
        go_wp2_with fail
        refine (HR.out _).mono ?_
        rintro e w2 ⟨rfl, rfl⟩
        go_wp2
        go_ret
        exact ⟨by first | rfl | (simp; omega), B1.out.alloc B1.out.size _⟩
end Go.Proofs.Ytlmbpbijhhnhpaa
