/- Marked copies of rows, whether two rows are one, whether a row and its marks stayed. -/
import Derived.Test.YtohmmkkbfiembaaFr1
import Derived.Test.YtohmmkkbfiembaaFq3
import Derived.Test.YtohmmkkbfiembaaApn
import Derived.OwnWalk
namespace Go.Proofs.Ytohmmkkbfiembaa
open Go.RowKit Go.Shelf
attribute [local go_sem] Oper.semAt_some
attribute [local go_sem] run_store_float
set_option linter.unusedVariables false
set_option maxRecDepth 100000

def m77 : Nat := 13858490847093325824
def m78 : Nat := 13858561215837503488
/-- A row of n numbers at the head of a block, two marks behind. -/
def Mk (w : World) (g n : Nat) (f : Nat → Nat) : Prop := ∃ cur, w.heap[g]? = some (.cells cur 23 (0, 0)) ∧ (∀ i, i < n → cur[i]? = some (fl (f i))) ∧ cur[n]? = some (fl m77) ∧ cur[n + 1]? = some (fl m78)
theorem Mk.keep {w w' : World} {g n : Nat} {f : Nat → Nat} (h : Mk w g n f) (k : ∀ o, w.heap[g]? = some o → w'.heap[g]? = some o) : Mk w' g n f := by
  obtain ⟨cur, h1, h2⟩ := h
  exact ⟨cur, k _ h1, h2⟩
theorem Mk.lt {w : World} {g n : Nat} {f : Nat → Nat} (h : Mk w g n f) : g < w.heap.size := by obtain ⟨cur, h1, _⟩ := h; exact lt_of_some h1
theorem Mk.below {w w' : World} {g n : Nat} {f : Nat → Nat} (h : Mk w g n f) (hb : Below w.heap.size w w') : Mk w' g n f := h.keep (fun o ho => (hb.block _ (lt_of_some ho)).trans ho)
theorem Mk.slf {w : World} {g n : Nat} {f : Nat → Nat} (h : Mk w g n f) (h64 : ∀ i, i < n → f i < 18446744073709551616) : SlF w (some ⟨g, 0, none⟩) n f := ⟨fun i hi => by
  obtain ⟨cur, h1, h2, _⟩ := h
  exact ⟨h64 i hi, g, 0, rfl, by rw [Nat.zero_add]; exact cell_blk h1 i (h2 i hi)⟩⟩
theorem slf_news {w : World} {a : Option Addr} {n : Nat} {f : Nat → Nat} (h : SlF w a n f) : n = 0 ∨ ∃ ad, a = some ad ∧ ∀ j u, (flist n f)[j]? = some u → w.cell? (ad.add j) = some u := by
  rcases Nat.eq_zero_or_pos n with h0 | h0
  · exact .inl h0
  · right
    obtain ⟨_, b, off, ha, _⟩ := h.at_ 0 h0
    refine ⟨_, ha, fun j u hj => ?_⟩
    have hjn : j < n := by
      have := (List.getElem?_eq_some_iff.1 hj).1
      simpa [flist] using this
    obtain ⟨_, b', off', ha', hc⟩ := h.at_ j hjn
    rw [ha] at ha'
    injection ha' with ha'
    injection ha' with e1 e2
    subst e1 e2
    have hu : (flist n f)[j]? = some (fl (f j)) := by unfold flist; simp [hjn]
    rw [hu] at hj
    injection hj with hj
    subst hj
    rw [show (⟨b, off, none⟩ : Addr).add j = ⟨b, off + j, none⟩ by unfold Addr.add; split <;> simp_all]
    exact hc
theorem own_cap {w : World} {base e size g n cap : Nat} {xs : List Value} (h : w.ownsRow base e size (.slice (some ⟨g, 0, none⟩) n cap) n xs) : n ≤ cap ∧ cap ≤ 9223372036854775807 := by
  rcases h.2 with ⟨h', _⟩ | ⟨g', cap', cur, h', _, _, h1, h2, _⟩
  · cases h'
  · cases h'; exact ⟨h1, h2⟩
set_option maxHeartbeats 600000 in
theorem marked_calls (w : World) (a : Option Addr) (n cap : Nat) (f : Nat → Nat) (h : SlF w a n f) (hn : n ≤ 1048578) :
    Calls Try.prog 8 #[.slice a n cap] w fun e w' => ∃ g c, e = .returned (.slice (some ⟨g, 0, none⟩) n c) ∧ n + 2 ≤ c ∧ c ≤ 9223372036854775807 ∧ Mk w' g n f ∧ w.heap.size ≤ g ∧ Below w.heap.size w w' := by
  have HS := Lib.hid h
  clear h
  obtain ⟨i0, hi0, hz0, hz1, hz2⟩ := infoP infoF
  have q0 : IntKind.i64.wrap ((n : Int) + 2) = (n : Int) + 2 := IntWalk.i64_in _ (by omega)
  have q1 : ((n : Int) + 2).toNat = n + 2 := by omega
  have hmx : 0 + n ≤ maxLen := by have : maxLen = 9223372036854775807 := rfl; omega
  have hmx2 : 0 + n + 2 ≤ maxLen := by have : maxLen = 9223372036854775807 := rfl; omega
  have hmx3 : n + 2 ≤ maxLen := by have : maxLen = 9223372036854775807 := rfl; omega
  go_enter Try.func8, Try.ntmps8
  go_wp2_with (first | (refine wpList_make_own _ rfl _ _ 24 rfl w.heap.size 23 i0 (fl 0) 1 Try.underlying24 hi0 hz0 hz1 .i64 .i64 ((n : Int) + 2) (n + 2) rfl rfl (by omega) (by rw [hz2]; omega) hmx3 (Nat.le_refl _) ?_; intro w1 hr1 hg1; have HG1 := Lib.hid (grown_below (B := w.heap.size) hg1 (fun y e => by cases e) (Nat.le_refl _)); have HR1 := Lib.hid (And.intro hr1 (slf_news (HS.out.below HG1.out))); clear hr1 hg1) | (at_builtin; refine wpList_append_any _ rfl (.tmp 7) (.tmp 8) 24 rfl w.heap.size 23 i0 (fl 0) 1 8 Try.underlying24 hi0 hz0 hz1 hz2 rfl (by omega) (.slice (some ⟨w.heap.size, 0, none⟩) 0 (n + 2)) 0 [] rfl HR1.out.1 a n cap (flist n f) rfl (by simp [flist]) HR1.out.2 (by simp [flist, Value.oneCell']) hmx (by omega) HG1.out.size ?_; intro a2 c2 w2 hr2 hg2; have HG2 := Lib.hid (HG1.out.trans (grown_below (B := w.heap.size) hg2 (fun y e => (HR1.out.1.lt y e).1) HG1.out.size)); rw [Nat.zero_add, List.nil_append] at hr2; have HR2 := Lib.hid hr2; clear hr2 hg2) | (at_builtin; refine wpList_append_lies _ rfl (.tmp 10) (.tmp 11) 24 rfl w.heap.size 23 i0 (fl 0) 1 8 Try.underlying24 hi0 hz0 hz1 hz2 rfl (by omega) (.slice a2 n c2) n (flist n f) rfl (HR2.out.alloc _) ⟨w2.heap.size, 0, none⟩ 2 2 [fl m77, fl m78] rfl rfl (World.news_of_block (cs := #[fl m77, fl m78]) (t := 23) (fr := (0, 0)) (Go.heap_alloc_new w2 _)) (by simp [Value.oneCell']) (by omega) hmx3 (by omega) (by simp; have := HG2.out.size; omega) (w2.heap.size + 1) (by simp) ?_; intro g3 c3 w3 hr3 hg3 hat3 hlt3; have HG3 := Lib.hid ((HG2.out.alloc HG2.out.size _).trans (grown_below (B := w.heap.size) hg3 (fun y e => (HR2.out.lt y e).1) (by simp; have := HG2.out.size; omega))); have HR3 := Lib.hid hr3; have hle3 : n ≤ c3 := Nat.le_trans (Nat.le_add_right n 2) (own_cap hr3).1; clear hr3 hg3 hat3 hlt3))
  go_ret
  obtain ⟨k1, k2⟩ := own_cap HR3.out
  obtain ⟨cur, m1, m2⟩ := rwBlk HR3.out
  have hget : ∀ i, i < n + 2 → cur[i]? = (flist n f ++ [fl m77, fl m78])[i]? := fun i hi => by
    have h3 := HR3.out.cellAt i (by omega)
    have h5 := cell_of_row w3 g3 i cur 23 (0, 0) m1
    exact h5.symm.trans h3
  refine ⟨g3, c3, rfl, k1, k2, ⟨cur, m1, fun i hi => ?_, ?_, ?_⟩, m2, HG3.out⟩
  · rw [hget i (by omega), List.getElem?_append_left (by simp [flist]; exact hi)]
    unfold flist
    simp [hi]
  · rw [hget n (by omega), List.getElem?_append_right (by simp [flist])]
    simp [flist]
  · rw [hget (n + 1) (by omega), List.getElem?_append_right (by simp [flist])]
    simp [flist]
theorem slf_cell {w : World} {a : Option Addr} {n : Nat} {f : Nat → Nat} (h : SlF w a n f) {i : Nat} (hi : i < n) : f i < 18446744073709551616 ∧ ∃ b off, a = some ⟨b, off, none⟩ ∧ w.cell? ⟨b, off + i, none⟩ = some (fl (f i)) := h.at_ i hi
set_option maxHeartbeats 600000 in
theorem sizes_calls (w : World) (a1 a2 : Option Addr) (n c1 c2 : Nat) (f : Nat → Nat) (h1 : SlF w a1 n f) (h2 : SlF w a2 n f) (hn : n ≤ 1048578) :
    Calls Try.prog 11 #[.slice a1 n c1, .slice a2 n c2] w fun e w' => e = .returned (.bool true) ∧ Below w.heap.size w w' := by
  have H1 := Lib.hid h1
  have H2 := Lib.hid h2
  clear h1 h2
  go_enter Try.func11, Try.ntmps11
  go_wp2_with fail
  go_loopg [13] n (fun gh v wr => ∃ i : Nat, v = .int .i64 (i : Int) ∧ Hid (i + gh = n ∧ Below w.heap.size w wr))
  case atStart => exact ⟨0, rfl, Lib.hid ⟨by omega, Below.refl _ w⟩⟩
  case round =>
    obtain ⟨i, rfl, hw⟩ := hrel
    have hsum := hw.out.1
    have HB := Lib.hid hw.out.2
    clear hw
    have q0 : IntKind.i64.wrap ((i : Int) + 1) = (i : Int) + 1 := IntWalk.i64_in _ (by omega)
    by_cases hi : i < n
    · obtain ⟨h64, b, off, rfl, hc⟩ := (H1.out.below HB.out).at_ i hi
      obtain ⟨_, b', off', rfl, hc'⟩ := (H2.out.below HB.out).at_ i hi
      have HS := Lib.hid (fun w => sm_calls w (Sm.self h64))
      obtain ⟨x, hx⟩ : ∃ x, x = f i := ⟨_, rfl⟩
      rw [← hx] at hc hc' HS
      have HM : Hid (gk - 1 < gk) := Lib.hid (by omega)
      have HSM : Hid (i + 1 + (gk - 1) = n) := Lib.hid (by omega)
      clear hx h64 hsum
      go_wp2_with fail
      go_quiet ((go_at_call 17; exact Calls.quiet_of_same ((HS.out _).mono fun _ _ h => ⟨h.1, h.2.symm⟩)))
      all_goals
        go_wp2_with fail
        go_roundg (gk - 1)
        case measure => exact HM.out
        case rel => exact ⟨i + 1, by go_num, Lib.hid ⟨HSM.out, below_drewN HB.out _⟩⟩
    · obtain rfl : i = n := by omega
      go_wp2_with fail
      go_ret
      exact ⟨rfl, HB.out⟩
theorem fg1_end : True := trivial
end Go.Proofs.Ytohmmkkbfiembaa
