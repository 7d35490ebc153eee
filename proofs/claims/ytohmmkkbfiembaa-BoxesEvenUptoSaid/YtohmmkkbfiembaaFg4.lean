/- BoxesShares: the law walked. -/
import Derived.Test.YtohmmkkbfiembaaFg3
import Derived.Test.YtohmmkkbfiembaaFa2
import Derived.Deep.RegionHeld
namespace Go.Proofs.Ytohmmkkbfiembaa
open Go.RowKit Go.Shelf
attribute [local go_sem] Oper.semAt_some
attribute [local go_sem] run_store_float
set_option linter.unusedVariables false
set_option maxRecDepth 100000

/-- A row copied with its marks behind. -/
def Mkd (f : Nat → Nat) (n : Nat) (X : World) (e : Ending) (w' : World) : Prop := ∃ g c, e = .returned (.slice (some ⟨g, 0, none⟩) n c) ∧ n + 2 ≤ c ∧ c ≤ 9223372036854775807 ∧ Mk w' g n f ∧ X.heap.size ≤ g ∧ Below X.heap.size X w'
structure MC (w : World) (a1 a2 a3 a4 a5 : Option Addr) (n1 n2 n3 n4 n5 c1 c2 c3 c4 c5 : Nat) (f1 f2 f3 f4 f5 : Nat → Nat) : Prop where
  M1 : ∀ X, Below w.heap.size w X → Calls Try.prog 8 #[.slice a1 n1 c1] X (Mkd f1 n1 X)
  M2 : ∀ X, Below w.heap.size w X → Calls Try.prog 8 #[.slice a2 n2 c2] X (Mkd f2 n2 X)
  M3 : ∀ X, Below w.heap.size w X → Calls Try.prog 8 #[.slice a3 n3 c3] X (Mkd f3 n3 X)
  M4 : ∀ X, Below w.heap.size w X → Calls Try.prog 8 #[.slice a4 n4 c4] X (Mkd f4 n4 X)
  M5 : ∀ X, Below w.heap.size w X → Calls Try.prog 8 #[.slice a5 n5 c5] X (Mkd f5 n5 X)
theorem Five.below {W W' : World} {a1 a2 a3 a4 a5 : Option Addr} {n1 n2 n3 n4 n5 : Nat} {f1 f2 f3 f4 f5 : Nat → Nat} (h : Five W a1 a2 a3 a4 a5 n1 n2 n3 n4 n5 f1 f2 f3 f4 f5) (hb : Below W.heap.size W W') : Five W' a1 a2 a3 a4 a5 n1 n2 n3 n4 n5 f1 f2 f3 f4 f5 :=
  ⟨h.1.below hb, h.2.1.below hb, h.2.2.1.below hb, h.2.2.2.1.below hb, h.2.2.2.2.below hb⟩
structure M5 (W : World) (g1 g2 g3 g4 g5 n1 n2 n3 n4 n5 : Nat) (f1 f2 f3 f4 f5 : Nat → Nat) : Prop where
  M1 : Mk W g1 n1 f1
  M2 : Mk W g2 n2 f2
  M3 : Mk W g3 n3 f3
  M4 : Mk W g4 n4 f4
  M5 : Mk W g5 n5 f5
theorem bx_cells {W : World} {b : Nat} {v0 v1 v2 v3 v4 v5 : Value} {ty : TypeId} (h : W.heap[b]? = some (.cells #[v0, v1, v2, v3, v4, v5] ty (0, 0))) : W.cell? ⟨b, 0, none⟩ = some v0 ∧ W.cell? ⟨b, 1, none⟩ = some v1 ∧ W.cell? ⟨b, 2, none⟩ = some v2 ∧ W.cell? ⟨b, 3, none⟩ = some v3 ∧ W.cell? ⟨b, 4, none⟩ = some v4 ∧ W.cell? ⟨b, 5, none⟩ = some v5 :=
  ⟨cell_blk h 0 rfl, cell_blk h 1 rfl, cell_blk h 2 rfl, cell_blk h 3 rfl, cell_blk h 4 rfl, cell_blk h 5 rfl⟩
/-- The row that was told and is spoilt: where it may lie, what else stands. -/
structure LR (B5 B6 T : Nat) (Z Y : World) (v : Value) (n : Nat) : Prop where
  onl : Onl (fun k => (B5 ≤ k ∧ k < B6) ∨ T ≤ k) Z Y
  row : ∃ xs, Y.ownsRow B5 23 1 v n xs
  blk : ∀ g, v.ownBlock = some g → (B5 ≤ g ∧ g < B6) ∨ T ≤ g
theorem grown_onl {P : Nat → Prop} {w w' : World} {r : Option Nat} (h : w.grownBy w' r) (hr : ∀ x, r = some x → P x) : Onl P w w' :=
  ⟨h.os, h.tape, h.output, h.size, fun k o hk ho => (h.block k (lt_of_some ho) (fun e => hk (hr k e.symm))).trans ho⟩
theorem own_cell {Y : World} {base n c : Nat} {a : Option Addr} {xs : List Value} (h : Y.ownsRow base 23 1 (.slice a n c) n xs) {i : Nat} (hi : i < n) :
    ∃ g u, a = some ⟨g, 0, none⟩ ∧ Y.cell? ⟨g, i, none⟩ = some u ∧ Y.frozen? ⟨g, i, none⟩ = false ∧ ∀ v, ∃ xs', (Y.setCell ⟨g, i, none⟩ v).ownsRow base 23 1 (.slice a n c) n xs' := by
  rcases h.2 with ⟨h', rfl⟩ | ⟨g, cap, cur, h', hb, hg, h1, h2, h3, h4⟩
  · omega
  · injection h' with e1 e2 e3
    subst e1 e3
    have hic : i < cur.size := by omega
    refine ⟨g, cur[i], rfl, cell_blk hg i (Array.getElem?_eq_getElem hic), free_blk hg i, fun v => ⟨(cur.setIfInBounds i v).toList.take (n * 1), ?_, .inr ⟨g, c, _, rfl, hb, set_blk hg i v, h1, h2, by simp; omega, rfl⟩⟩⟩
    rw [List.length_take, Array.length_toList, Array.size_setIfInBounds]
    omega
set_option maxHeartbeats 4000000 in
theorem boxesShares_true (w : World) (room : Nat) {a1 a2 a3 a4 a5 : Option Addr} {n1 n2 n3 n4 n5 c1 c2 c3 c4 c5 : Nat} {f1 f2 f3 f4 f5 : Nat → Nat} (hf : Five w a1 a2 a3 a4 a5 n1 n2 n3 n4 n5 f1 f2 f3 f4 f5) (hr : room < 18446744073709551616)
    (hn : n1 ≤ 1048578 ∧ n2 ≤ 1048578 ∧ n3 ≤ 1048578 ∧ n4 ≤ 1048578 ∧ n5 ≤ 1048578) (hc : Caps n1 n2 n3 n4 n5 c1 c2 c3 c4 c5) :
    Calls Try.prog 4 #[.agg #[fl room, .slice a1 n1 c1, .slice a2 n2 c2, .slice a3 n3 c3, .slice a4 n4 c4, .slice a5 n5 c5]] w fun e w' => e = .returned (.bool true) ∧ Below w.heap.size w w' := by
  have HAW := Lib.hid (fun W => awake18_true W)
  have HF := Lib.hid hf
  have HC := Lib.hid hc
  have HNS := Lib.hid hn
  obtain ⟨N, sz, er, hN, hsz, hs, hr18⟩ := shares_both room hr n1 n2 n3 n4 n5 f1 f2 f3 f4 f5 hn (fun i hi => (hf.1.at_ i hi).1) (fun i hi => (hf.2.1.at_ i hi).1) (fun i hi => (hf.2.2.1.at_ i hi).1) (fun i hi => (hf.2.2.2.1.at_ i hi).1) (fun i hi => (hf.2.2.2.2.at_ i hi).1)
  have HS := Lib.hid hs
  have HR := Lib.hid hr18
  have HSZ := Lib.hid (And.intro hN hsz)
  have H64 := Lib.hid (And.intro (fun i (hi : i < n1) => (hf.1.at_ i hi).1) (And.intro (fun i (hi : i < n2) => (hf.2.1.at_ i hi).1) (And.intro (fun i (hi : i < n3) => (hf.2.2.1.at_ i hi).1) (And.intro (fun i (hi : i < n4) => (hf.2.2.2.1.at_ i hi).1) (fun i (hi : i < n5) => (hf.2.2.2.2.at_ i hi).1)))))
  clear hf hr hn hc hN hsz hs hr18
  go_enter Try.func4, Try.ntmps4
  obtain ⟨W0, hW0⟩ : ∃ W, W = w.alloc (.cells #[fl room, .slice a1 n1 c1, .slice a2 n2 c2, .slice a3 n3 c3, .slice a4 n4 c4, .slice a5 n5 c5] 26) := ⟨_, rfl⟩
  have HBX : Hid (W0.heap[w.heap.size]? = some (.cells #[fl room, .slice a1 n1 c1, .slice a2 n2 c2, .slice a3 n3 c3, .slice a4 n4 c4, .slice a5 n5 c5] 26 (0, 0)) ∧ Below w.heap.size w W0) := Lib.hid (by rw [hW0]; exact ⟨Go.heap_alloc_new w _, (Below.refl _ w).alloc (Nat.le_refl _) _⟩)
  go_upto_region 1 with (fail)
  rw [← hW0]
  clear hW0
  obtain ⟨b0, hb0⟩ : ∃ b, b = w.heap.size := ⟨_, rfl⟩
  rw [← hb0] at HBX
  rw [← hb0]
  have HB0 := Lib.hid hb0
  clear hb0
  go_upto_region 2 with (go_at_call 7; refine (HAW.out _).mono ?_; rintro e w1 ⟨rfl, b1⟩; have HB1 := Lib.hid b1; clear b1)
  have HB01 : Hid (Below w.heap.size w w1) := Lib.hid (by have h := HBX.out.2; rw [HB0.out] at h; exact h.trans (HB1.out.mono h.size))
  have HX : Hid (w1.heap[b0]? = some (.cells #[fl room, .slice a1 n1 c1, .slice a2 n2 c2, .slice a3 n3 c3, .slice a4 n4 c4, .slice a5 n5 c5] 26 (0, 0))) := Lib.hid ((HB1.out.block _ (lt_of_some HBX.out.1)).trans HBX.out.1)
  have HCEL : Hid (∀ X, Below w1.heap.size w1 X → X.cell? ⟨b0, 1, none⟩ = some (.slice a1 n1 c1) ∧ X.cell? ⟨b0, 2, none⟩ = some (.slice a2 n2 c2) ∧ X.cell? ⟨b0, 3, none⟩ = some (.slice a3 n3 c3) ∧ X.cell? ⟨b0, 4, none⟩ = some (.slice a4 n4 c4) ∧ X.cell? ⟨b0, 5, none⟩ = some (.slice a5 n5 c5)) := Lib.hid (fun X b => by
    have h := (b.block _ (lt_of_some HX.out)).trans HX.out
    exact ⟨cell_blk h 1 rfl, cell_blk h 2 rfl, cell_blk h 3 rfl, cell_blk h 4 rfl, cell_blk h 5 rfl⟩)
  have HFX : Hid (∀ X, Below w1.heap.size w1 X → Five X a1 a2 a3 a4 a5 n1 n2 n3 n4 n5 f1 f2 f3 f4 f5) := Lib.hid (fun X b => HF.out.below (HB01.out.trans (b.mono HB01.out.size)))
  have HMC : Hid (MC w1 a1 a2 a3 a4 a5 n1 n2 n3 n4 n5 c1 c2 c3 c4 c5 f1 f2 f3 f4 f5) := Lib.hid ⟨fun X b => marked_calls X a1 n1 c1 f1 (HFX.out X b).1 HNS.out.1, fun X b => marked_calls X a2 n2 c2 f2 (HFX.out X b).2.1 HNS.out.2.1, fun X b => marked_calls X a3 n3 c3 f3 (HFX.out X b).2.2.1 HNS.out.2.2.1, fun X b => marked_calls X a4 n4 c4 f4 (HFX.out X b).2.2.2.1 HNS.out.2.2.2.1, fun X b => marked_calls X a5 n5 c5 f5 (HFX.out X b).2.2.2.2 HNS.out.2.2.2.2⟩
  have HCU : Hid (Below w1.heap.size w1 w1.drew) := Lib.hid (Below.refl _ w1).drew
  refine wp_region_noPanic ?_
  refine wp_region_held_drew (S := (fun W => W.cell? ⟨b0, 1, none⟩ = some (.slice a1 n1 c1) ∧ W.cell? ⟨b0, 2, none⟩ = some (.slice a2 n2 c2) ∧ W.cell? ⟨b0, 3, none⟩ = some (.slice a3 n3 c3) ∧ W.cell? ⟨b0, 4, none⟩ = some (.slice a4 n4 c4) ∧ W.cell? ⟨b0, 5, none⟩ = some (.slice a5 n5 c5))) (by kernel_rfl) (HCEL.out _ HCU.out) (fun hHeld => ?_)
  refine wpAnyH_take (i := 0) (v := ?_) rfl (by as_aux_lemma => kernel_rfl) (by as_aux_lemma => kernel_rfl) (by as_aux_lemma => kernel_rfl) (fun _ _ _ h => h) (Or.inl ⟨by kernel_rfl, ?_⟩) (by assumption) ?_
  rotate_left
  · intro w hSw; (try dsimp only at hSw); go_simp; try with_reducible rfl
  refine wpAnyH_take (i := 1) (v := ?_) rfl (by as_aux_lemma => kernel_rfl) (by as_aux_lemma => kernel_rfl) (by as_aux_lemma => kernel_rfl) (fun _ _ _ h => h) (Or.inl ⟨by kernel_rfl, ?_⟩) (by assumption) ?_
  rotate_left
  · intro w hSw; (try dsimp only at hSw); go_simp; try with_reducible rfl
  refine wpAnyH_take (i := 3) (v := ?_) rfl (by as_aux_lemma => kernel_rfl) (by as_aux_lemma => kernel_rfl) (by as_aux_lemma => kernel_rfl) (fun _ _ _ h => h) (Or.inl ⟨by kernel_rfl, ?_⟩) (by assumption) ?_
  rotate_left
  · intro w hSw; (try dsimp only at hSw); go_simp; try with_reducible rfl
  refine wpAnyH_take (i := 4) (v := ?_) rfl (by as_aux_lemma => kernel_rfl) (by as_aux_lemma => kernel_rfl) (by as_aux_lemma => kernel_rfl) (fun _ _ _ h => h) (Or.inl ⟨by kernel_rfl, ?_⟩) (by assumption) ?_
  rotate_left
  · intro w hSw; (try dsimp only at hSw); go_simp; try with_reducible rfl
  refine wpAnyH_take (i := 6) (v := ?_) rfl (by as_aux_lemma => kernel_rfl) (by as_aux_lemma => kernel_rfl) (by as_aux_lemma => kernel_rfl) (fun _ _ _ h => h) (Or.inl ⟨by kernel_rfl, ?_⟩) (by assumption) ?_
  rotate_left
  · intro w hSw; (try dsimp only at hSw); go_simp; try with_reducible rfl
  refine wpAnyH_take (i := 7) (v := ?_) rfl (by as_aux_lemma => kernel_rfl) (by as_aux_lemma => kernel_rfl) (by as_aux_lemma => kernel_rfl) (fun _ _ _ h => h) (Or.inl ⟨by kernel_rfl, ?_⟩) (by assumption) ?_
  rotate_left
  · intro w hSw; (try dsimp only at hSw); go_simp; try with_reducible rfl
  refine wpAnyH_take (i := 9) (v := ?_) rfl (by as_aux_lemma => kernel_rfl) (by as_aux_lemma => kernel_rfl) (by as_aux_lemma => kernel_rfl) (fun _ _ _ h => h) (Or.inl ⟨by kernel_rfl, ?_⟩) (by assumption) ?_
  rotate_left
  · intro w hSw; (try dsimp only at hSw); go_simp; try with_reducible rfl
  refine wpAnyH_take (i := 10) (v := ?_) rfl (by as_aux_lemma => kernel_rfl) (by as_aux_lemma => kernel_rfl) (by as_aux_lemma => kernel_rfl) (fun _ _ _ h => h) (Or.inl ⟨by kernel_rfl, ?_⟩) (by assumption) ?_
  rotate_left
  · intro w hSw; (try dsimp only at hSw); go_simp; try with_reducible rfl
  refine wpAnyH_take (i := 12) (v := ?_) rfl (by as_aux_lemma => kernel_rfl) (by as_aux_lemma => kernel_rfl) (by as_aux_lemma => kernel_rfl) (fun _ _ _ h => h) (Or.inl ⟨by kernel_rfl, ?_⟩) (by assumption) ?_
  rotate_left
  · intro w hSw; (try dsimp only at hSw); go_simp; try with_reducible rfl
  refine wpAnyH_take (i := 13) (v := ?_) rfl (by as_aux_lemma => kernel_rfl) (by as_aux_lemma => kernel_rfl) (by as_aux_lemma => kernel_rfl) (fun _ _ _ h => h) (Or.inl ⟨by kernel_rfl, ?_⟩) (by assumption) ?_
  rotate_left
  · intro w hSw; (try dsimp only at hSw); go_simp; try with_reducible rfl
  refine wpAnyH_ready (rs := [2]) (by as_aux_lemma => kernel_rfl) (by simp) ?_
  refine AllReadyH.cons rfl (fun K' hK => ?_) AllReadyH.nil
  go_simp
  go_at_call 8
  refine (HMC.out.M1 _ HCU.out).mono ?_
  rintro e x1 ⟨g1, e1, rfl, k1, k2, k3, k4, k5⟩
  have HK1 := Lib.hid (And.intro (And.intro k1 k2) (And.intro k3 (And.intro (Nat.le_trans HCU.out.size k4) k5)))
  replace HCU := Lib.hid (HCU.out.trans (k5.mono HCU.out.size))
  refine hK.out _ _ (HCEL.out _ HCU.out) (fun hHeld => ?_)
  clear hK K' k1 k2 k3 k4 k5
  refine wpAnyH_ready (rs := [5]) (by as_aux_lemma => kernel_rfl) (by simp) ?_
  refine AllReadyH.cons rfl (fun K' hK => ?_) AllReadyH.nil
  go_simp
  go_at_call 8
  refine (HMC.out.M2 _ HCU.out).mono ?_
  rintro e x2 ⟨g2, e2, rfl, k1, k2, k3, k4, k5⟩
  have HK2 := Lib.hid (And.intro (And.intro k1 k2) (And.intro k3 (And.intro (Nat.le_trans HCU.out.size k4) k5)))
  replace HCU := Lib.hid (HCU.out.trans (k5.mono HCU.out.size))
  refine hK.out _ _ (HCEL.out _ HCU.out) (fun hHeld => ?_)
  clear hK K' k1 k2 k3 k4 k5
  refine wpAnyH_ready (rs := [8]) (by as_aux_lemma => kernel_rfl) (by simp) ?_
  refine AllReadyH.cons rfl (fun K' hK => ?_) AllReadyH.nil
  go_simp
  go_at_call 8
  refine (HMC.out.M3 _ HCU.out).mono ?_
  rintro e x3 ⟨g3, e3, rfl, k1, k2, k3, k4, k5⟩
  have HK3 := Lib.hid (And.intro (And.intro k1 k2) (And.intro k3 (And.intro (Nat.le_trans HCU.out.size k4) k5)))
  replace HCU := Lib.hid (HCU.out.trans (k5.mono HCU.out.size))
  refine hK.out _ _ (HCEL.out _ HCU.out) (fun hHeld => ?_)
  clear hK K' k1 k2 k3 k4 k5
  refine wpAnyH_ready (rs := [11]) (by as_aux_lemma => kernel_rfl) (by simp) ?_
  refine AllReadyH.cons rfl (fun K' hK => ?_) AllReadyH.nil
  go_simp
  go_at_call 8
  refine (HMC.out.M4 _ HCU.out).mono ?_
  rintro e x4 ⟨g4, e4, rfl, k1, k2, k3, k4, k5⟩
  have HK4 := Lib.hid (And.intro (And.intro k1 k2) (And.intro k3 (And.intro (Nat.le_trans HCU.out.size k4) k5)))
  replace HCU := Lib.hid (HCU.out.trans (k5.mono HCU.out.size))
  refine hK.out _ _ (HCEL.out _ HCU.out) (fun hHeld => ?_)
  clear hK K' k1 k2 k3 k4 k5
  refine wpAnyH_ready (rs := [14]) (by as_aux_lemma => kernel_rfl) (by simp) ?_
  refine AllReadyH.cons rfl (fun K' hK => ?_) AllReadyH.nil
  go_simp
  go_at_call 8
  refine (HMC.out.M5 _ HCU.out).mono ?_
  rintro e x5 ⟨g5, e5, rfl, k1, k2, k3, k4, k5⟩
  have HK5 := Lib.hid (And.intro (And.intro k1 k2) (And.intro k3 (And.intro (Nat.le_trans HCU.out.size k4) k5)))
  replace HCU := Lib.hid (HCU.out.trans (k5.mono HCU.out.size))
  refine hK.out _ _ (HCEL.out _ HCU.out) (fun hHeld => ?_)
  clear hK K' k1 k2 k3 k4 k5
  refine wpAnyH_ready (rs := [15]) (by as_aux_lemma => kernel_rfl) (by simp) ?_
  refine AllReadyH.cons rfl (fun K' hK => ?_) AllReadyH.nil
  go_simp
  refine hK.out _ _ (HCEL.out _ HCU.out) (fun hHeld => ?_)
  clear hK K'
  refine wpAnyH_ready (rs := [16]) (by as_aux_lemma => kernel_rfl) (by simp) ?_
  refine AllReadyH.cons rfl (fun K' hK => ?_) AllReadyH.nil
  go_simp
  refine hK.out _ _ (HCEL.out _ HCU.out) (fun hHeld => ?_)
  clear hK K'
  refine wpAnyH_ready (rs := [17]) (by as_aux_lemma => kernel_rfl) (by simp) ?_
  refine AllReadyH.cons rfl (fun K' hK => ?_) AllReadyH.nil
  go_simp
  refine hK.out _ _ (HCEL.out _ HCU.out) (fun hHeld => ?_)
  clear hK K'
  refine wpAnyH_ready (rs := [18]) (by as_aux_lemma => kernel_rfl) (by simp) ?_
  refine AllReadyH.cons rfl (fun K' hK => ?_) AllReadyH.nil
  go_simp
  refine hK.out _ _ (HCEL.out _ HCU.out) (fun hHeld => ?_)
  clear hK K'
  refine wpAnyH_ready (rs := [19]) (by as_aux_lemma => kernel_rfl) (by simp) ?_
  refine AllReadyH.cons rfl (fun K' hK => ?_) AllReadyH.nil
  go_simp
  refine hK.out _ _ (HCEL.out _ HCU.out) (fun hHeld => ?_)
  clear hK K'
  refine wpAnyH_done (by kernel_rfl) ?_ _
  refine NoPanic.normal ?_
  have HKC : Hid ((n1 + 2 ≤ e1 ∧ e1 ≤ 9223372036854775807) ∧ (n2 + 2 ≤ e2 ∧ e2 ≤ 9223372036854775807) ∧ (n3 + 2 ≤ e3 ∧ e3 ≤ 9223372036854775807) ∧ (n4 + 2 ≤ e4 ∧ e4 ≤ 9223372036854775807) ∧ (n5 + 2 ≤ e5 ∧ e5 ≤ 9223372036854775807)) := Lib.hid ⟨HK1.out.1, HK2.out.1, HK3.out.1, HK4.out.1, HK5.out.1⟩
  have HMK : Hid (∀ X, Below x5.heap.size x5 X → M5 X g1 g2 g3 g4 g5 n1 n2 n3 n4 n5 f1 f2 f3 f4 f5) := Lib.hid (fun X b => by
    have b2 := HK2.out.2.2.2
    have b3 := HK3.out.2.2.2
    have b4 := HK4.out.2.2.2
    have b5 := HK5.out.2.2.2
    exact ⟨((((HK1.out.2.1.below b2).below b3).below b4).below b5).below b, (((HK2.out.2.1.below b3).below b4).below b5).below b, ((HK3.out.2.1.below b4).below b5).below b, (HK4.out.2.1.below b5).below b, HK5.out.2.1.below b⟩)
  have HFM : Hid (∀ X, Below x5.heap.size x5 X → Five X (some ⟨g1, 0, none⟩) (some ⟨g2, 0, none⟩) (some ⟨g3, 0, none⟩) (some ⟨g4, 0, none⟩) (some ⟨g5, 0, none⟩) n1 n2 n3 n4 n5 f1 f2 f3 f4 f5) := Lib.hid (fun X b => by
    have h := HMK.out X b
    have q := H64.out
    exact ⟨h.M1.slf q.1, h.M2.slf q.2.1, h.M3.slf q.2.2.1, h.M4.slf q.2.2.2.1, h.M5.slf q.2.2.2.2⟩)
  have HCM : Hid (Caps n1 n2 n3 n4 n5 e1 e2 e3 e4 e5) := Lib.hid (by
    obtain ⟨k1, k2, k3, k4, k5⟩ := HKC.out
    exact ⟨⟨by omega, k1.2⟩, ⟨by omega, k2.2⟩, ⟨by omega, k3.2⟩, ⟨by omega, k4.2⟩, ⟨by omega, k5.2⟩⟩)
  have HBXX : Hid (∀ X, Below x5.heap.size x5 X → X.heap[b0]? = some (.cells #[fl room, .slice a1 n1 c1, .slice a2 n2 c2, .slice a3 n3 c3, .slice a4 n4 c4, .slice a5 n5 c5] 26 (0, 0))) := Lib.hid (fun X b => by
    have h := (HCU.out.block _ (lt_of_some HX.out)).trans HX.out
    exact (b.block _ (lt_of_some h)).trans h)
  clear HK1 HK2 HK3 HK4 HK5 HMC HCEL HX hHeld
  have y0 := cell_blk (HBXX.out x5 (Below.refl _ _)) 0 rfl
  go_wp2_with fail
  go_at_call 9
  refine (HS.out x5 _ _ _ _ _ _ _ _ _ _ (HFM.out _ (Below.refl _ _)) HCM.out).mono ?_
  rintro e x6 ⟨la, lc, rfl, hrow, hb⟩
  have HL6 := Lib.hid hrow
  have HBx6 := Lib.hid hb
  clear hrow hb y0
  have y0 := cell_blk (HBXX.out x6 HBx6.out) 0 rfl
  go_wp2_with fail
  go_at_call 9
  refine (HS.out x6 _ _ _ _ _ _ _ _ _ _ (HFM.out _ HBx6.out) HCM.out).mono ?_
  rintro e x7 ⟨ma, mc, rfl, hrow, hb⟩
  have HM7 := Lib.hid hrow
  have HS7 := Lib.hid hb
  have HBx7 := Lib.hid (HBx6.out.trans (hb.mono HBx6.out.size))
  clear hrow hb y0
  obtain ⟨y0, y1, y2, y3, y4, y5⟩ := bx_cells (HBXX.out x7 HBx7.out)
  go_wp2_with fail
  go_at_call 10
  refine (HR.out x7 _ _ _ _ _ _ _ _ _ _ (HFX.out _ (HCU.out.trans (HBx7.out.mono HCU.out.size))) HC.out).mono ?_
  rintro e x8 ⟨wa, wc, rfl, hrow, hblk, hb⟩
  have HW8 := Lib.hid (And.intro hrow hblk)
  have HS8 := Lib.hid hb
  have HBx8 := Lib.hid (HBx7.out.trans (hb.mono HBx7.out.size))
  clear hrow hblk hb y0 y1 y2 y3 y4 y5
  obtain ⟨y0, y1, y2, y3, y4, y5⟩ := bx_cells (HBXX.out x8 HBx8.out)
  have HLS : Hid (∀ X, Below x8.heap.size x8 X → SlF X la N sz ∧ SlF X ma N sz ∧ SlF X wa N sz) := Lib.hid (fun X b => ⟨((row_slf HL6.out HSZ.out.2).below (HS7.out.trans (HS8.out.mono HS7.out.size))).below b, ((row_slf HM7.out HSZ.out.2).below HS8.out).below b, HW8.out.1.below b⟩)
  go_wp2_with fail
  go_at_call 11
  refine (sizes_calls x8 la wa N lc wc sz (HLS.out _ (Below.refl _ _)).1 (HLS.out _ (Below.refl _ _)).2.2 HSZ.out.1).mono ?_
  rintro e x9 ⟨rfl, hb⟩
  have HBx9 := Lib.hid (HBx8.out.trans (hb.mono HBx8.out.size))
  have HZ9 := Lib.hid hb
  clear hb
  go_wp2_with fail
  go_at_call 11
  refine (sizes_calls x9 ma wa N mc wc sz (HLS.out _ HZ9.out).2.1 (HLS.out _ HZ9.out).2.2 HSZ.out.1).mono ?_
  rintro e x10 ⟨rfl, hb⟩
  have HBx10 := Lib.hid (HBx9.out.trans (hb.mono HBx9.out.size))
  have HZ10 := Lib.hid (HZ9.out.trans (hb.mono HZ9.out.size))
  clear hb y0 y1 y2 y3 y4 y5
  have y1 := (bx_cells (HBXX.out x10 HBx10.out)).2.1
  go_wp2_with fail
  go_at_call 12
  refine (stayed_calls x10 a1 g1 n1 e1 c1 f1 (HMK.out _ HBx10.out).M1 ((HFX.out _ (HCU.out.trans (HBx10.out.mono HCU.out.size))).1) HKC.out.1 HNS.out.1).mono ?_
  rintro e x11 ⟨rfl, hb⟩
  have HBx11 := Lib.hid (HBx10.out.trans (hb.mono HBx10.out.size))
  have HSx11 := Lib.hid hb
  clear hb
  clear y1
  have y2 := (bx_cells (HBXX.out x11 HBx11.out)).2.2.1
  go_wp2_with fail
  go_at_call 12
  refine (stayed_calls x11 a2 g2 n2 e2 c2 f2 (HMK.out _ HBx11.out).M2 ((HFX.out _ (HCU.out.trans (HBx11.out.mono HCU.out.size))).2.1) HKC.out.2.1 HNS.out.2.1).mono ?_
  rintro e x12 ⟨rfl, hb⟩
  have HBx12 := Lib.hid (HBx11.out.trans (hb.mono HBx11.out.size))
  have HSx12 := Lib.hid hb
  clear hb
  clear y2
  have y3 := (bx_cells (HBXX.out x12 HBx12.out)).2.2.2.1
  go_wp2_with fail
  go_at_call 12
  refine (stayed_calls x12 a3 g3 n3 e3 c3 f3 (HMK.out _ HBx12.out).M3 ((HFX.out _ (HCU.out.trans (HBx12.out.mono HCU.out.size))).2.2.1) HKC.out.2.2.1 HNS.out.2.2.1).mono ?_
  rintro e x13 ⟨rfl, hb⟩
  have HBx13 := Lib.hid (HBx12.out.trans (hb.mono HBx12.out.size))
  have HSx13 := Lib.hid hb
  clear hb
  clear y3
  have y4 := (bx_cells (HBXX.out x13 HBx13.out)).2.2.2.2.1
  go_wp2_with fail
  go_at_call 12
  refine (stayed_calls x13 a4 g4 n4 e4 c4 f4 (HMK.out _ HBx13.out).M4 ((HFX.out _ (HCU.out.trans (HBx13.out.mono HCU.out.size))).2.2.2.1) HKC.out.2.2.2.1 HNS.out.2.2.2.1).mono ?_
  rintro e x14 ⟨rfl, hb⟩
  have HBx14 := Lib.hid (HBx13.out.trans (hb.mono HBx13.out.size))
  have HSx14 := Lib.hid hb
  clear hb
  clear y4
  have y5 := (bx_cells (HBXX.out x14 HBx14.out)).2.2.2.2.2
  go_wp2_with fail
  go_at_call 12
  refine (stayed_calls x14 a5 g5 n5 e5 c5 f5 (HMK.out _ HBx14.out).M5 ((HFX.out _ (HCU.out.trans (HBx14.out.mono HCU.out.size))).2.2.2.2) HKC.out.2.2.2.2 HNS.out.2.2.2.2).mono ?_
  rintro e x15 ⟨rfl, hb⟩
  have HBx15 := Lib.hid (HBx14.out.trans (hb.mono HBx14.out.size))
  have HSx15 := Lib.hid hb
  clear hb
  clear y5
  have HZ : Hid (Below x8.heap.size x8 x15) := Lib.hid ((((((HZ10.out.trans (HSx11.out.mono HZ10.out.size)).trans (HSx12.out.mono (HZ10.out.trans (HSx11.out.mono HZ10.out.size)).size)).trans (HSx13.out.mono (by have a := HZ10.out.size; have b := HSx11.out.size; have c := HSx12.out.size; omega))).trans (HSx14.out.mono (by have a := HZ10.out.size; have b := HSx11.out.size; have c := HSx12.out.size; have d := HSx13.out.size; omega))).trans (HSx15.out.mono (by have a := HZ10.out.size; have b := HSx11.out.size; have c := HSx12.out.size; have d := HSx13.out.size; have e := HSx14.out.size; omega))))
  have HB15 : Hid (Below w1.heap.size w1 x5) := Lib.hid HCU.out
  obtain ⟨i0, hi0, hz0, hz1, hz2⟩ := infoP infoF
  obtain ⟨B5, hB5⟩ : ∃ x, x = x5.heap.size := ⟨_, rfl⟩
  obtain ⟨B6, hB6⟩ : ∃ x, x = x6.heap.size := ⟨_, rfl⟩
  obtain ⟨T, hT⟩ : ∃ x, x = x15.heap.size := ⟨_, rfl⟩
  have HT := Lib.hid (And.intro hB5 (And.intro hB6 hT))
  have hl15 : Below x6.heap.size x6 x15 := (HS7.out.trans (HS8.out.mono HS7.out.size)).trans (HZ.out.mono (Nat.le_trans HS7.out.size HS8.out.size))
  have HST : Hid (LR B5 B6 T x15 x15 (.slice la N lc) N) := Lib.hid (by
    refine ⟨Onl.refl _ _, ⟨flist N sz, ?_⟩, fun g hg => .inl ?_⟩
    · rw [hB5]; exact own_below HL6.out hl15
    · rw [hB5, hB6]; exact ⟨(HL6.out.lt g hg).1, (HL6.out.lt g hg).2⟩)
  have HORD : Hid (B5 ≤ T ∧ B6 ≤ T ∧ B5 ≤ B6) := Lib.hid (by
    rw [hB5, hB6, hT]
    exact ⟨HBx15.out.size, hl15.size, HBx6.out.size⟩)
  have HFIN : Hid (∀ Y, Onl (fun k => (B5 ≤ k ∧ k < B6) ∨ T ≤ k) x15 Y → SlF Y ma N sz ∧ SlF Y wa N sz ∧ Below x5.heap.size x5 Y) := Lib.hid (fun Y o => by
    have hz := HZ.out.size
    refine ⟨o.slfO (HLS.out _ HZ.out).2.1 (fun h0 x hx hp => ?_), o.slfO (HLS.out _ HZ.out).2.2 (fun h0 x hx hp => ?_), ?_⟩
    · have h1 := HM7.out.lt x.block (by rw [hx]; rfl)
      have h2 := HS8.out.size
      rcases hp with hp | hp <;> omega
    · have h1 := HW8.out.2 h0 x hx
      have h2 := HS7.out.size
      rcases hp with hp | hp <;> omega
    · exact HBx15.out.trans (o.low HBx15.out.size (fun k hk => by have := HBx6.out.size; have := HBx15.out.size; rcases hk with hk | hk <;> omega)))
  clear hB5 hB6 hT hl15 HL6 HM7 HS7 HS8 HW8 HLS HZ HBx6 HBx7 HBx8 HBx9 HBx10 HBx11 HBx12 HBx13 HBx14 HSx11 HSx12 HSx13 HSx14 HSx15 HZ9 HZ10 HR HS HFM HCM HCU
  have hN := HSZ.out.1
  go_wp2_with fail
  go_loopg [123] N (fun gh v wr => ∃ i : Nat, v = .int .i64 (i : Int) ∧ Hid (i + gh = N ∧ LR B5 B6 T x15 wr (.slice la N lc) N))
  case atStart => exact ⟨0, rfl, Lib.hid ⟨by omega, HST.out⟩⟩
  case round =>
    obtain ⟨i, rfl, hw⟩ := hrel
    have hsum := hw.out.1
    have HL := Lib.hid hw.out.2
    clear hw HST
    have q0 : IntKind.i64.wrap ((i : Int) + 1) = (i : Int) + 1 := IntWalk.i64_in _ (by omega)
    by_cases hi : i < N
    · obtain ⟨xs, hxs⟩ := HL.out.row
      obtain ⟨g, u, rfl, hc, hfz, hset⟩ := own_cell hxs hi
      have HNX : Hid (LR B5 B6 T x15 (wr.setCell ⟨g, i, none⟩ (fl 4617315517961601024)) (.slice (some ⟨g, 0, none⟩) N lc) N) := Lib.hid ⟨HL.out.onl.set (show (B5 ≤ Addr.block ⟨g, i, none⟩ ∧ Addr.block ⟨g, i, none⟩ < B6) ∨ T ≤ Addr.block ⟨g, i, none⟩ from HL.out.blk g rfl) _, hset _, HL.out.blk⟩
      have HM : Hid (gk - 1 < gk) := Lib.hid (by omega)
      have HSM : Hid (i + 1 + (gk - 1) = N) := Lib.hid (by omega)
      clear hxs hset hsum
      go_wp2_with fail
      go_roundg (gk - 1)
      case measure => exact HM.out
      case rel => exact ⟨i + 1, by go_num, Lib.hid ⟨HSM.out, HNX.out⟩⟩
    · obtain rfl : i = N := by omega
      go_wp2_with fail
      go_loopg [9, 16] 9 (fun gh v u wr => ∃ (k c : Nat) (a : Option Addr), u = .int .i64 (k : Int) ∧ v = .slice a (i + k) c ∧ Hid (k + gh = 9 ∧ LR B5 B6 T x15 wr (.slice a (i + k) c) (i + k)))
      case atStart => exact ⟨0, lc, la, rfl, rfl, Lib.hid ⟨rfl, HL.out⟩⟩
      case round =>
        obtain ⟨k, c, a, rfl, rfl, hw⟩ := hrel
        have hsum2 := hw.out.1
        have HL2 := Lib.hid hw.out.2
        clear hw
        have q1 : IntKind.i64.wrap ((k : Int) + 1) = (k : Int) + 1 := IntWalk.i64_in _ (by omega)
        by_cases hk : k < 9
        · have hk' : (k : Int) < 9 := by omega
          obtain ⟨xs, hxs⟩ := HL2.out.row
          have HXS := Lib.hid hxs
          have hmx : i + k + 1 ≤ maxLen := by have : maxLen = 9223372036854775807 := rfl; omega
          have hby : (i + k + 1) * 8 ≤ 140737488355328 := by omega
          have HTW : Hid (T ≤ wr.heap.size) := Lib.hid (by rw [HT.out.2.2]; exact HL2.out.onl.size)
          have HM : Hid (gk - 1 < gk) := Lib.hid (by omega)
          have HSM : Hid (k + 1 + (gk - 1) = 9) := Lib.hid (by omega)
          clear hxs hsum2
          go_wp2_with (at_builtin; refine wpList_append_lies _ rfl (.tmp 134) (.tmp 135) 24 rfl B5 23 i0 (fl 0) 1 8 Try.underlying24 hi0 hz0 hz1 hz2 rfl (by omega) (.slice a (i + k) c) (i + k) xs rfl (HXS.out.alloc _) ⟨wr.heap.size, 0, none⟩ 1 1 [fl 4618441417868443648] rfl rfl (World.news_of_block (cs := #[fl 4618441417868443648]) (t := 23) (fr := (0, 0)) (Go.heap_alloc_new wr _)) (by simp [Value.oneCell']) (by omega) hmx hby (by simp; have := HTW.out; have := HORD.out; omega) (wr.heap.size + 1) (by simp) ?_; intro g2 c2 w5 hown2 hg2 hat2 hlt2; have HR2 := Lib.hid (And.intro hown2 (And.intro hg2 hat2)); clear hown2 hg2 hat2 hlt2)
          have HNX : Hid (LR B5 B6 T x15 w5 (.slice (some ⟨g2, 0, none⟩) (i + (k + 1)) c2) (i + (k + 1))) := Lib.hid (by
            have ho1 : Onl (fun k => (B5 ≤ k ∧ k < B6) ∨ T ≤ k) wr (wr.alloc (.cells #[fl 4618441417868443648] 23)) := Onl.of_below ((Below.refl _ _).alloc (Nat.le_refl _) _)
            have ho2 : Onl (fun k => (B5 ≤ k ∧ k < B6) ∨ T ≤ k) (wr.alloc (.cells #[fl 4618441417868443648] 23)) w5 := grown_onl HR2.out.2.1 (fun x hx => HL2.out.blk x hx)
            refine ⟨(HL2.out.onl.trans ho1).trans ho2, ⟨_, HR2.out.1⟩, fun y hy => ?_⟩
            have hy' : g2 = y := by injection hy
            rcases HR2.out.2.2 with h | h
            · rw [← hy']; exact HL2.out.blk g2 h
            · right; have := HTW.out; omega)
          go_wp2_with fail
          go_roundg (gk - 1)
          case measure => exact HM.out
          case rel => exact ⟨k + 1, c2, some ⟨g2, 0, none⟩, by go_num, rfl, Lib.hid ⟨HSM.out, HNX.out⟩⟩
        · obtain rfl : k = 9 := by omega
          have HF9 := Lib.hid (HFIN.out wr HL2.out.onl)
          have y1 := (bx_cells (HBXX.out wr HF9.out.2.2)).2.1
          go_wp2_with fail
          go_at_call 11
          refine (sizes_calls wr ma wa i mc wc sz HF9.out.1 HF9.out.2.1 HSZ.out.1).mono ?_
          rintro e w6 ⟨rfl, hb⟩
          have HB6' : Hid (Below x5.heap.size x5 w6) := Lib.hid (HF9.out.2.2.trans (hb.mono HF9.out.2.2.size))
          clear hb y1
          have y1 := (bx_cells (HBXX.out w6 HB6'.out)).2.1
          go_wp2_with fail
          go_at_call 12
          refine (stayed_calls w6 a1 g1 n1 e1 c1 f1 (HMK.out _ HB6'.out).M1 ((HFX.out _ (HB15.out.trans (HB6'.out.mono HB15.out.size))).1) HKC.out.1 HNS.out.1).mono ?_
          rintro e w7 ⟨rfl, hb⟩
          have HB7' : Hid (Below w.heap.size w w7) := Lib.hid (by
            have h1 := HB01.out.trans (HB15.out.mono HB01.out.size)
            have h2 := h1.trans (HB6'.out.mono h1.size)
            exact h2.trans (hb.mono h2.size))
          clear hb y1
          go_wp2_with fail
          go_ret
          exact ⟨rfl, HB7'.out⟩
theorem fg4_end : True := trivial
end Go.Proofs.Ytohmmkkbfiembaa
