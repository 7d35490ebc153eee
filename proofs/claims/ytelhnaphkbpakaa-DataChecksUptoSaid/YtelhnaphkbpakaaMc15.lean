/- The document's Clone walked. -/
import Derived.Test.YtelhnaphkbpakaaMc14
namespace Go.Proofs.Ytelhnaphkbpakaa
open Go.RowKit
set_option linter.unusedVariables false
set_option maxRecDepth 100000

set_option maxHeartbeats 4000000 in
theorem cloneR_calls (w : World) (N : Nd) (h : NdIn w N) (hB : N.Bd 1099511627776) :
    Calls Try.prog 70 #[N.v] w fun e w' => ∃ M : Nd, e = .returned M.v ∧ M.Same N ∧ OwnNd w.heap.size w' M ∧ Below w.heap.size w w' := by
  have HNI := Lib.hid h
  have HBD := Lib.hid hB
  have hb1 := hB.data
  have hb2 := hB.attrs
  have hb3 := hB.val
  have HCR : Hid (∀ wr i K A C a1 c1, CR w N a1 c1 wr i K A C → True) := Lib.hid (fun _ _ _ _ _ _ _ _ => trivial)
  obtain ⟨V, hV⟩ : ∃ V, V = ((w.alloc (.cells N.cells 30)).alloc (.cells Nd.zero.cells 30)).alloc (.cells N.cells 30) := ⟨_, rfl⟩
  have hVs : V.heap.size = w.heap.size + 3 := by rw [hV]; simp
  have hbV : Below w.heap.size w V := by rw [hV]; exact (((Below.refl _ w).alloc (Nat.le_refl _) _).alloc (by simp) _).alloc (by simp; omega) _
  have x0 : V.heap[w.heap.size]? = some (.cells N.cells 30 (0, 0)) := by rw [hV]; exact alloc_blk (alloc_blk (Go.heap_alloc_new w _) _) _
  have x1 : V.heap[w.heap.size + 1]? = some (.cells Nd.zero.cells 30 (0, 0)) := by
    rw [hV]; have := Go.heap_alloc_new (w.alloc (.cells N.cells 30)) (.cells Nd.zero.cells 30); rw [World.size_alloc] at this; exact alloc_blk this _
  have x2 : V.heap[w.heap.size + 2]? = some (.cells N.cells 30 (0, 0)) := by
    rw [hV]; have := Go.heap_alloc_new ((w.alloc (.cells N.cells 30)).alloc (.cells Nd.zero.cells 30)) (.cells N.cells 30); rwa [World.size_alloc, World.size_alloc] at this
  have hV2 := hV
  have HX := Lib.hid (And.intro x0 (And.intro x1 (And.intro x2 (And.intro hbV hV))))
  unfold Nd.cells Nd.zero at hV2
  unfold Nd.v Nd.cells
  have KC := Lib.hid (copied_calls V N.dc (h.data.below hbV) hb1)
  clear hV hbV x0 x1 x2 h hB
  obtain ⟨n, en⟩ : ∃ n, n = N.L.length := ⟨_, rfl⟩
  obtain ⟨m, em⟩ : ∃ m, m = N.data.length := ⟨_, rfl⟩
  rw [← en] at hb2 hV2 ⊢
  rw [← em] at hb1 hV2 KC ⊢
  have HN := Lib.hid en
  have HM := Lib.hid em
  rw [hV2] at KC
  clear en em
  go_enter Try.func70, Try.ntmps70
  go_wp2_with fail
  refine KC.out.mono ?_
  rintro e w2 ⟨a1, c1, rfl, hr1, b2⟩
  rw [← hV2] at hr1 b2
  have y0 := (b2.block _ (lt_of_some HX.out.1)).trans HX.out.1
  have y1 := (b2.block _ (lt_of_some HX.out.2.1)).trans HX.out.2.1
  have y2 := (b2.block _ (lt_of_some HX.out.2.2.1)).trans HX.out.2.2.1
  have hs2 := b2.size
  have lb := HX.out.2.2.2.1.trans (b2.mono (by omega))
  have f2 := free_blk y2 2
  have l2 := lt_of_some y2
  have d2 := cell_blk y2 2 rfl
  obtain ⟨Q, hQ⟩ : ∃ Q, Q = w2.setCell ⟨w.heap.size + 2, 2, none⟩ (.slice a1 m c1) := ⟨_, rfl⟩
  obtain ⟨W0, hW0⟩ : ∃ W0, W0 = (Q.setCell ⟨w.heap.size + 2, 3, none⟩ (.slice (some ⟨w2.heap.size, 0, none⟩) 0 0)).alloc (.cells #[] 72) := ⟨_, rfl⟩
  have q2 := set_blk y2 2 (.slice a1 m c1)
  rw [← hQ] at q2
  have hQs : Q.heap.size = w2.heap.size := by rw [hQ]; simp
  have hcr : CR w N a1 c1 W0 0 [] (some ⟨w2.heap.size, 0, none⟩) 0 := by
    have g0 : Q.heap[w.heap.size]? = some (.cells N.cells 30 (0, 0)) := by rw [hQ]; exact set_other y0 (by simp) _
    have g1 : Q.heap[w.heap.size + 1]? = some (.cells Nd.zero.cells 30 (0, 0)) := by rw [hQ]; exact set_other y1 (by simp) _
    have gr : Q.ownsRow w.heap.size 45 1 (.slice a1 N.data.length c1) N.data.length (enc16 N.data) := by rw [hQ, ← HM.out]; exact rwOther (hr1.mono (by omega)) y2 (by decide) _ _
    rw [hW0]
    refine ⟨alloc_blk (set_other g0 (by simp) _) _, alloc_blk (set_other g1 (by simp) _) _, alloc_blk ?_ _, (rwOther gr q2 (by decide) _ _).alloc _, ?_, by simp, ?_⟩
    · rw [← HM.out]; exact set_blk q2 3 _
    · have := World.ownsRow_lit (size := 2) (e := 72) (base := w.heap.size) (Q.setCell ⟨w.heap.size + 2, 3, none⟩ (.slice (some ⟨w2.heap.size, 0, none⟩) 0 0)) #[] 0 (by simp; omega) (by decide) rfl
      rw [World.size_setCell, hQs] at this
      exact this
    · have : Below w.heap.size w Q := by rw [hQ]; exact lb.setCell (by simp) _
      exact (this.setCell (by simp) _).alloc (by simp; omega) _
  have p2 := alloc_blk q2 (.cells #[] 72)
  have d3 := cell_blk p2 3 rfl
  have f3 := free_blk p2 3
  rw [hQ] at d3 f3
  try simp at d2
  try simp at d3
  have HQ := Lib.hid (And.intro hQ (And.intro hW0 hcr))
  clear hr1 b2 y0 y1 y2 lb q2 p2 hcr HX KC hV2
  clear hW0 hQ
  go_wp2_with fail
  rw [← HQ.out.1, ← HQ.out.2.1]
  clear f2 l2 d2 d3 f3
  have hsW : w.heap.size ≤ W0.heap.size := HQ.out.2.2.low.size
  go_loopw [4] (fun v wr => ∃ (i : Nat) (K : List LA) (A : Option Addr) (C : Nat), v = .int .i64 (i : Nat) ∧ i ≤ n ∧ K.length = i ∧ K.map attrOf = (N.L.take i).map attrOf ∧ CR w N a1 c1 wr i K A C) (fun v _ => n - (intOf v).toNat)
  case atStart => exact ⟨0, [], _, _, rfl, Nat.zero_le _, rfl, rfl, HQ.out.2.2⟩
  case round =>
    obtain ⟨i, K, A, C, rfl, hi, hKl, hKm, hcr⟩ := hrel
    obtain ⟨z0, z1, z2, z3, z4, z5, lz⟩ := box_cells hcr.box
    rw [← HN.out] at z3
    clear z0 z1 z2 z4 z5
    by_cases hlt : i < n
    · obtain ⟨x, hx⟩ : ∃ x, N.L[i]? = some x := ⟨_, List.getElem?_eq_getElem (by rw [← HN.out]; exact hlt)⟩
      obtain ⟨bA, oA, hAA, hbA, c1', c2'⟩ := HNI.out.attrs.get hx
      obtain ⟨xl, exl⟩ : ∃ xl, xl = x.val.length := ⟨_, rfl⟩
      have hxm := List.mem_of_getElem? hx
      have hxl : xl ≤ 1099511627776 := by rw [exl]; exact hb3 x hxm
      rw [← exl] at c2'
      rw [hAA] at z3
      have HS : Hid (∀ w', Below w.heap.size w w' → w'.heap[w.heap.size]? = some (.cells N.cells 30 (0, 0)) → (w'.cell? ⟨w.heap.size, 3, none⟩ = some (.slice (some ⟨bA, oA, none⟩) n N.ac) ∧ w'.cell? ⟨bA, oA + i * 2, none⟩ = some (.string x.name) ∧ w'.cell? ⟨bA, oA + i * 2 + 1, none⟩ = some (.slice x.va xl x.vc))) := Lib.hid (fun w' hb hx0 => by
        refine ⟨?_, (hb.cell (p := ⟨bA, oA + i * 2, none⟩) hbA).trans c1', (hb.cell (p := ⟨bA, oA + i * 2 + 1, none⟩) hbA).trans c2'⟩
        rw [← hAA, HN.out]; exact (box_cells hx0).2.2.2.1)
      have hS0 := HS.out wr hcr.low hcr.box
      have p0 : (0 : Int) ≤ (i : Int) := by omega
      have p1 : (i : Int) < (n : Int) := by omega
      have o3 := cell_blk hcr.out 3 rfl
      have lo3 := lt_of_some hcr.out
      simp at o3
      have HX := Lib.hid (And.intro hx (And.intro hxm (And.intro exl (And.intro hAA (And.intro hKl (And.intro hKm hcr))))))
      clear c1' c2' hx hxm exl hAA hKl hKm hcr z3
      obtain ⟨z3, z4, z5⟩ := hS0
      have HXB : Hid ((∀ u ∈ x.val, u ≤ 65535) ∧ NdIn w N) := Lib.hid ⟨(HNI.out.attrs.val x HX.out.2.1).bnd, HNI.out⟩
      have HCALL := Lib.hid (show Calls Try.prog 67 #[.slice x.va xl x.vc] wr.drew fun e w' => ∃ a' c', e = .returned (.slice a' xl c') ∧ w'.ownsRow wr.heap.size 45 1 (.slice a' xl c') xl (enc16 x.val) ∧ Below wr.heap.size wr.drew w' by
        have h := copied_calls wr.drew x.vc ((HNI.out.attrs.val x HX.out.2.1).below (HX.out.2.2.2.2.2.2.low.trans ((Below.refl _ wr).drew.mono HX.out.2.2.2.2.2.2.low.size))) (by rw [← HX.out.2.2.1]; exact hxl)
        rw [← HX.out.2.2.1] at h
        exact h)
      have hsr : w.heap.size ≤ wr.heap.size := HX.out.2.2.2.2.2.2.low.size
      obtain ⟨i72, hi72, ia1, ia2, ia3⟩ := info_parts info72
      go_wp2_with fail
      refine wp_region_held_drew (S := fun w' => w'.cell? ⟨w.heap.size, 3, none⟩ = some (.slice (some ⟨bA, oA, none⟩) n N.ac) ∧ w'.cell? ⟨bA, oA + i * 2, none⟩ = some (.string x.name) ∧ w'.cell? ⟨bA, oA + i * 2 + 1, none⟩ = some (.slice x.va xl x.vc)) (by kernel_rfl) ⟨z3, z4, z5⟩ (fun hHeld => ?_)
      -- R7
      refine wpAnyH_take (i := 0) (v := ?_) rfl (by kernel_rfl) (by kernel_rfl) (by kernel_rfl) (fun _ _ _ h => h) (Or.inl ⟨by rfl, ?_⟩) (by assumption) ?_
      rotate_left
      · intro w hSw; (try dsimp only at hSw); go_simp; try with_reducible rfl
      refine wpAnyH_take (i := 2) (v := ?_) rfl (by kernel_rfl) (by kernel_rfl) (by kernel_rfl) (fun _ _ _ h => h) (Or.inl ⟨by rfl, ?_⟩) (by assumption) ?_
      rotate_left
      · intro w hSw; (try dsimp only at hSw); go_simp; try with_reducible rfl
      refine wpAnyH_take (i := 3) (v := ?_) rfl (by kernel_rfl) (by kernel_rfl) (by kernel_rfl) (fun _ _ _ h => h) (Or.inl ⟨by rfl, ?_⟩) (by assumption) ?_
      rotate_left
      · intro w hSw; (try dsimp only at hSw); go_simp; try with_reducible rfl
      refine wpAnyH_take (i := 4) (v := ?_) rfl (by kernel_rfl) (by kernel_rfl) (by kernel_rfl) (fun _ _ _ h => h) (Or.inl ⟨by rfl, ?_⟩) (by assumption) ?_
      rotate_left
      · intro w hSw; (try dsimp only at hSw); go_simp; try with_reducible rfl
      refine wpAnyH_take (i := 5) (v := ?_) rfl (by kernel_rfl) (by kernel_rfl) (by kernel_rfl) (fun _ _ _ h => h) (Or.inl ⟨by rfl, ?_⟩) (by assumption) ?_
      rotate_left
      · intro w hSw; (try dsimp only at hSw); go_simp; try with_reducible rfl
      refine wpAnyH_take (i := 6) (v := ?_) rfl (by kernel_rfl) (by kernel_rfl) (by kernel_rfl) (fun _ _ _ h => h) (Or.inl ⟨by rfl, ?_⟩) (by assumption) ?_
      rotate_left
      · intro w hSw; (try dsimp only at hSw); go_simp; try with_reducible rfl
      refine wpAnyH_take (i := 7) (v := ?_) rfl (by kernel_rfl) (by kernel_rfl) (by kernel_rfl) (fun _ _ _ h => h) (Or.inl ⟨by rfl, ?_⟩) (by assumption) ?_
      rotate_left
      · intro w hSw; (try dsimp only at hSw); go_simp; try with_reducible rfl
      refine wpAnyH_take (i := 8) (v := ?_) rfl (by kernel_rfl) (by kernel_rfl) (by kernel_rfl) (fun _ _ _ h => h) (Or.inl ⟨by rfl, ?_⟩) (by assumption) ?_
      rotate_left
      · intro w hSw; (try dsimp only at hSw); go_simp; try with_reducible rfl
      refine wpAnyH_take (i := 9) (v := ?_) rfl (by kernel_rfl) (by kernel_rfl) (by kernel_rfl) (fun _ _ _ h => h) (Or.inl ⟨by rfl, ?_⟩) (by assumption) ?_
      rotate_left
      · intro w hSw; (try dsimp only at hSw); go_simp; try with_reducible rfl
      refine wpAnyH_take (i := 10) (v := ?_) rfl (by kernel_rfl) (by kernel_rfl) (by kernel_rfl) (fun _ _ _ h => h) (Or.inl ⟨by rfl, ?_⟩) (by assumption) ?_
      rotate_left
      · intro w hSw; (try dsimp only at hSw); go_simp; try with_reducible rfl
      refine wpAnyH_take (i := 11) (v := ?_) rfl (by kernel_rfl) (by kernel_rfl) (by kernel_rfl) (fun _ _ _ h => h) (Or.inl ⟨by rfl, ?_⟩) (by assumption) ?_
      rotate_left
      · intro w hSw; (try dsimp only at hSw); go_simp; try with_reducible rfl
      refine wpAnyH_take (i := 12) (v := ?_) rfl (by kernel_rfl) (by kernel_rfl) (by kernel_rfl) (fun _ _ _ h => h) (Or.inl ⟨by rfl, ?_⟩) (by assumption) ?_
      rotate_left
      · intro w hSw; (try dsimp only at hSw); go_simp; try with_reducible rfl
      refine wpAnyH_take (i := 13) (v := ?_) rfl (by kernel_rfl) (by kernel_rfl) (by kernel_rfl) (fun _ _ _ h => h) (Or.inl ⟨by rfl, ?_⟩) (by assumption) ?_
      rotate_left
      · intro w hSw; (try dsimp only at hSw); go_simp; try with_reducible rfl
      refine wpAnyH_ready (rs := [1, 14]) (by kernel_rfl) (by simp) ?_
      refine AllReadyH.cons rfl (fun K' hK => ?_) (AllReadyH.cons rfl (fun K' hK => ?_) AllReadyH.nil)
      · go_simp
        refine hK.out _ _ hHeld (fun hHeld => ?_)
        clear hK K'
        refine wpAnyH_ready (rs := [14]) (by kernel_rfl) (by simp) ?_
        refine AllReadyH.cons rfl (fun K' hK => ?_) AllReadyH.nil
        go_simp
        go_at_call 67
        refine HCALL.out.mono ?_
        rintro e w5 ⟨a5, c5, rfl, hr5, b5⟩
        have hcr5 := (HX.out.2.2.2.2.2.2.below ((Below.refl _ wr).drew)).below b5
        have hs5 : w.heap.size ≤ w5.heap.size := hcr5.low.size
        refine hK.out _ _ (HS.out w5 hcr5.low hcr5.box) (fun hHeld => ?_)
        clear hK K' hHeld
        have hHeld := HS.out w5 hcr5.low hcr5.box
        have o5 := cell_blk hcr5.out 3 rfl
        have lo5 := lt_of_some hcr5.out
        simp at o5
        have H5 := Lib.hid (And.intro hcr5 (And.intro hr5 b5))
        clear hcr5 hr5 b5
        refine wpAnyH_take (i := 15) (v := ?_) rfl (by kernel_rfl) (by kernel_rfl) (by kernel_rfl) (fun _ _ _ h => h) (Or.inl ⟨by rfl, ?_⟩) (by assumption) ?_
        rotate_left
        · intro w hSw; (try dsimp only at hSw); go_simp; try with_reducible rfl
        refine wpAnyH_ready (rs := [16]) (by kernel_rfl) (by simp) ?_
        refine AllReadyH.cons rfl (fun K' hK => ?_) AllReadyH.nil
        go_simp
        refine hK.out _ _ (HS.out _ (H5.out.1.low.alloc hs5 _) (alloc_blk H5.out.1.box _)) (fun hHeld => ?_)
        clear hK K'
        refine wpAnyH_ready (rs := [17]) (by kernel_rfl) (by simp) ?_
        refine AllReadyH.cons rfl (fun K' hK => ?_) AllReadyH.nil
        refine step_append_any _ rfl (.tmp 20) (.tmp 35) 25 rfl w.heap.size 72 i72 _ 2 40 Try.underlying25 hi72 ia1 ia2 ia3 rfl (by omega) _ i (cellsA K) rfl (H5.out.1.row.alloc _) (some ⟨w5.heap.size, 0, none⟩) 1 1 [.string x.name, .slice a5 xl c5] rfl rfl (.inr ⟨_, rfl, World.news_of_block (cs := #[.string x.name, .slice a5 xl c5]) (t := 72) (fr := (0, 0)) (Go.heap_alloc_new w5 _)⟩) (by simp [Value.oneCell']) (by unfold maxLen; omega) (by omega) (by simp; omega) ?_
        intro a6 c6 w6 hown6 hgrow6
        have hf6 := H5.out.1.mid _ hgrow6
        have hb6 := H5.out.1.low.trans (hf6.below hs5)
        refine hK.out _ _ (HS.out _ hb6 (hf6.blk H5.out.1.box (by decide))) (fun hHeld => ?_)
        clear hK K'
        have o6 := hf6.blk H5.out.1.out (by decide)
        have e6 := cell_blk o6 3 rfl
        have f6 := free_blk o6 3
        have l6 := lt_of_some o6
        simp at e6
        have H6 := Lib.hid (And.intro hown6 (And.intro hgrow6 (And.intro hb6 (hf6.blk H5.out.1.box (by decide)))))
        clear hown6 hgrow6 hf6 hb6 o6 o5 lo5
        refine wpAnyH_take (i := 18) (v := ?_) rfl (by kernel_rfl) (by kernel_rfl) (by kernel_rfl) (fun _ _ _ h => h) (Or.inl ⟨by rfl, ?_⟩) (by assumption) ?_
        rotate_left
        · intro w hSw; (try dsimp only at hSw); go_simp; try with_reducible rfl
        refine wpAnyH_ready (rs := [19]) (by kernel_rfl) (by simp) ?_
        refine AllReadyH.cons rfl (fun K' hK => ?_) AllReadyH.nil
        go_simp
        refine hK.out _ _ (HS.out _ (H6.out.2.2.1.setCell (show w.heap.size ≤ w.heap.size + 2 by omega) _) (set_other H6.out.2.2.2 (show w.heap.size ≠ w.heap.size + 2 by omega) _)) (fun hHeld => ?_)
        clear hK K'
        refine wpAnyH_done (by kernel_rfl) ?_ _
        have hfin := H5.out.1.push (.cells #[.string x.name, .slice a5 xl c5] 72) ⟨x.name, a5, c5, x.val⟩ ⟨⟨c5, by rw [← HX.out.2.2.1]; exact H5.out.2.1.mono hsr⟩, HXB.out.1, by rw [← HX.out.2.2.1]; omega⟩ (A' := a6) (C' := c6) (by unfold LA.cells; rw [← HX.out.2.2.1]; exact H6.out.1) H6.out.2.1
        have HF := Lib.hid hfin
        clear hfin e6 f6 l6 hHeld
        go_wp2
        go_roundw
        case rel =>
          refine ⟨i + 1, K ++ [⟨x.name, a5, c5, x.val⟩], a6, c6, by go_num, hlt, by simp [HX.out.2.2.2.2.1], ?_, HF.out⟩
          rw [List.take_add_one, HX.out.1]
          simp [HX.out.2.2.2.2.2.1, attrOf]
        case measure => simp [intOf]; omega
      · go_simp
        go_at_call 67
        refine HCALL.out.mono ?_
        rintro e w5 ⟨a5, c5, rfl, hr5, b5⟩
        have hcr5 := (HX.out.2.2.2.2.2.2.below ((Below.refl _ wr).drew)).below b5
        have hs5 : w.heap.size ≤ w5.heap.size := hcr5.low.size
        refine hK.out _ _ (HS.out w5 hcr5.low hcr5.box) (fun hHeld => ?_)
        clear hK K' hHeld
        have hHeld := HS.out w5 hcr5.low hcr5.box
        have o5 := cell_blk hcr5.out 3 rfl
        have lo5 := lt_of_some hcr5.out
        simp at o5
        have H5 := Lib.hid (And.intro hcr5 (And.intro hr5 b5))
        clear hcr5 hr5 b5
        refine wpAnyH_take (i := 15) (v := ?_) rfl (by kernel_rfl) (by kernel_rfl) (by kernel_rfl) (fun _ _ _ h => h) (Or.inl ⟨by rfl, ?_⟩) (by assumption) ?_
        rotate_left
        · intro w hSw; (try dsimp only at hSw); go_simp; try with_reducible rfl
        refine wpAnyH_ready (rs := [1, 16]) (by kernel_rfl) (by simp) ?_
        refine AllReadyH.cons rfl (fun K' hK => ?_) (AllReadyH.cons rfl (fun K' hK => ?_) AllReadyH.nil)
        · go_simp
          refine hK.out _ _ hHeld (fun hHeld => ?_)
          clear hK K'
          refine wpAnyH_ready (rs := [16]) (by kernel_rfl) (by simp) ?_
          refine AllReadyH.cons rfl (fun K' hK => ?_) AllReadyH.nil
          go_simp
          refine hK.out _ _ (HS.out _ (H5.out.1.low.alloc hs5 _) (alloc_blk H5.out.1.box _)) (fun hHeld => ?_)
          clear hK K'
          refine wpAnyH_ready (rs := [17]) (by kernel_rfl) (by simp) ?_
          refine AllReadyH.cons rfl (fun K' hK => ?_) AllReadyH.nil
          refine step_append_any _ rfl (.tmp 20) (.tmp 35) 25 rfl w.heap.size 72 i72 _ 2 40 Try.underlying25 hi72 ia1 ia2 ia3 rfl (by omega) _ i (cellsA K) rfl (H5.out.1.row.alloc _) (some ⟨w5.heap.size, 0, none⟩) 1 1 [.string x.name, .slice a5 xl c5] rfl rfl (.inr ⟨_, rfl, World.news_of_block (cs := #[.string x.name, .slice a5 xl c5]) (t := 72) (fr := (0, 0)) (Go.heap_alloc_new w5 _)⟩) (by simp [Value.oneCell']) (by unfold maxLen; omega) (by omega) (by simp; omega) ?_
          intro a6 c6 w6 hown6 hgrow6
          have hf6 := H5.out.1.mid _ hgrow6
          have hb6 := H5.out.1.low.trans (hf6.below hs5)
          refine hK.out _ _ (HS.out _ hb6 (hf6.blk H5.out.1.box (by decide))) (fun hHeld => ?_)
          clear hK K'
          have o6 := hf6.blk H5.out.1.out (by decide)
          have e6 := cell_blk o6 3 rfl
          have f6 := free_blk o6 3
          have l6 := lt_of_some o6
          simp at e6
          have H6 := Lib.hid (And.intro hown6 (And.intro hgrow6 (And.intro hb6 (hf6.blk H5.out.1.box (by decide)))))
          clear hown6 hgrow6 hf6 hb6 o6 o5 lo5
          refine wpAnyH_take (i := 18) (v := ?_) rfl (by kernel_rfl) (by kernel_rfl) (by kernel_rfl) (fun _ _ _ h => h) (Or.inl ⟨by rfl, ?_⟩) (by assumption) ?_
          rotate_left
          · intro w hSw; (try dsimp only at hSw); go_simp; try with_reducible rfl
          refine wpAnyH_ready (rs := [19]) (by kernel_rfl) (by simp) ?_
          refine AllReadyH.cons rfl (fun K' hK => ?_) AllReadyH.nil
          go_simp
          refine hK.out _ _ (HS.out _ (H6.out.2.2.1.setCell (show w.heap.size ≤ w.heap.size + 2 by omega) _) (set_other H6.out.2.2.2 (show w.heap.size ≠ w.heap.size + 2 by omega) _)) (fun hHeld => ?_)
          clear hK K'
          refine wpAnyH_done (by kernel_rfl) ?_ _
          have hfin := H5.out.1.push (.cells #[.string x.name, .slice a5 xl c5] 72) ⟨x.name, a5, c5, x.val⟩ ⟨⟨c5, by rw [← HX.out.2.2.1]; exact H5.out.2.1.mono hsr⟩, HXB.out.1, by rw [← HX.out.2.2.1]; omega⟩ (A' := a6) (C' := c6) (by unfold LA.cells; rw [← HX.out.2.2.1]; exact H6.out.1) H6.out.2.1
          have HF := Lib.hid hfin
          clear hfin e6 f6 l6 hHeld
          go_wp2
          go_roundw
          case rel =>
            refine ⟨i + 1, K ++ [⟨x.name, a5, c5, x.val⟩], a6, c6, by go_num, hlt, by simp [HX.out.2.2.2.2.1], ?_, HF.out⟩
            rw [List.take_add_one, HX.out.1]
            simp [HX.out.2.2.2.2.2.1, attrOf]
          case measure => simp [intOf]; omega
        · go_simp
          refine hK.out _ _ (HS.out _ (H5.out.1.low.alloc hs5 _) (alloc_blk H5.out.1.box _)) (fun hHeld => ?_)
          clear hK K'
          refine wpAnyH_ready (rs := [1]) (by kernel_rfl) (by simp) ?_
          refine AllReadyH.cons rfl (fun K' hK => ?_) AllReadyH.nil
          go_simp
          refine hK.out _ _ hHeld (fun hHeld => ?_)
          clear hK K'
          refine wpAnyH_ready (rs := [17]) (by kernel_rfl) (by simp) ?_
          refine AllReadyH.cons rfl (fun K' hK => ?_) AllReadyH.nil
          refine step_append_any _ rfl (.tmp 20) (.tmp 35) 25 rfl w.heap.size 72 i72 _ 2 40 Try.underlying25 hi72 ia1 ia2 ia3 rfl (by omega) _ i (cellsA K) rfl (H5.out.1.row.alloc _) (some ⟨w5.heap.size, 0, none⟩) 1 1 [.string x.name, .slice a5 xl c5] rfl rfl (.inr ⟨_, rfl, World.news_of_block (cs := #[.string x.name, .slice a5 xl c5]) (t := 72) (fr := (0, 0)) (Go.heap_alloc_new w5 _)⟩) (by simp [Value.oneCell']) (by unfold maxLen; omega) (by omega) (by simp; omega) ?_
          intro a6 c6 w6 hown6 hgrow6
          have hf6 := H5.out.1.mid _ hgrow6
          have hb6 := H5.out.1.low.trans (hf6.below hs5)
          refine hK.out _ _ (HS.out _ hb6 (hf6.blk H5.out.1.box (by decide))) (fun hHeld => ?_)
          clear hK K'
          have o6 := hf6.blk H5.out.1.out (by decide)
          have e6 := cell_blk o6 3 rfl
          have f6 := free_blk o6 3
          have l6 := lt_of_some o6
          simp at e6
          have H6 := Lib.hid (And.intro hown6 (And.intro hgrow6 (And.intro hb6 (hf6.blk H5.out.1.box (by decide)))))
          clear hown6 hgrow6 hf6 hb6 o6 o5 lo5
          refine wpAnyH_take (i := 18) (v := ?_) rfl (by kernel_rfl) (by kernel_rfl) (by kernel_rfl) (fun _ _ _ h => h) (Or.inl ⟨by rfl, ?_⟩) (by assumption) ?_
          rotate_left
          · intro w hSw; (try dsimp only at hSw); go_simp; try with_reducible rfl
          refine wpAnyH_ready (rs := [19]) (by kernel_rfl) (by simp) ?_
          refine AllReadyH.cons rfl (fun K' hK => ?_) AllReadyH.nil
          go_simp
          refine hK.out _ _ (HS.out _ (H6.out.2.2.1.setCell (show w.heap.size ≤ w.heap.size + 2 by omega) _) (set_other H6.out.2.2.2 (show w.heap.size ≠ w.heap.size + 2 by omega) _)) (fun hHeld => ?_)
          clear hK K'
          refine wpAnyH_done (by kernel_rfl) ?_ _
          have hfin := H5.out.1.push (.cells #[.string x.name, .slice a5 xl c5] 72) ⟨x.name, a5, c5, x.val⟩ ⟨⟨c5, by rw [← HX.out.2.2.1]; exact H5.out.2.1.mono hsr⟩, HXB.out.1, by rw [← HX.out.2.2.1]; omega⟩ (A' := a6) (C' := c6) (by unfold LA.cells; rw [← HX.out.2.2.1]; exact H6.out.1) H6.out.2.1
          have HF := Lib.hid hfin
          clear hfin e6 f6 l6 hHeld
          go_wp2
          go_roundw
          case rel =>
            refine ⟨i + 1, K ++ [⟨x.name, a5, c5, x.val⟩], a6, c6, by go_num, hlt, by simp [HX.out.2.2.2.2.1], ?_, HF.out⟩
            rw [List.take_add_one, HX.out.1]
            simp [HX.out.2.2.2.2.2.1, attrOf]
          case measure => simp [intOf]; omega
      -- R7 END
    · obtain rfl : i = n := by omega
      have p1 : ¬ (i : Int) < (i : Int) := by omega
      have c0 := fun j u (h : (#[.int .i64 N.kind, .string N.name, .slice a1 m c1, .slice A i C, .int .u32 N.slot, .int .u32 N.gen] : Array Value)[j]? = some u) => cell_blk hcr.out j (by rw [← HM.out]; exact h)
      have c00 := c0 0 _ rfl
      have c01 := c0 1 _ rfl
      have c02 := c0 2 _ rfl
      have c03 := c0 3 _ rfl
      have c04 := c0 4 _ rfl
      have c05 := c0 5 _ rfl
      have d0 := fun j u (h : (Nd.zero.cells : Array Value)[j]? = some u) => cell_blk hcr.res j h
      have d00 := d0 0 _ rfl
      have d01 := d0 1 _ rfl
      have d02 := d0 2 _ rfl
      have d03 := d0 3 _ rfl
      have d04 := d0 4 _ rfl
      have d05 := d0 5 _ rfl
      have g0 := fun j => free_blk hcr.res j
      have le0 := lt_of_some hcr.out
      have le1 := lt_of_some hcr.res
      obtain ⟨hE, hF⟩ := six_cells hcr.res (.int .i64 N.kind) (.string N.name) (.slice a1 m c1) (.slice A i C) (.int .u32 N.slot) (.int .u32 N.gen)
      have HE := Lib.hid (And.intro hE (And.intro hF (And.intro hKl (And.intro hKm hcr))))
      clear hE hF hKl hKm hcr c0 d0 hlt
      go_wp2_with fail
      have z0 := cell_blk HE.out.1 0 rfl
      have z1 := cell_blk HE.out.1 1 rfl
      have z2 := cell_blk HE.out.1 2 rfl
      have z3 := cell_blk HE.out.1 3 rfl
      have z4 := cell_blk HE.out.1 4 rfl
      have z5 := cell_blk HE.out.1 5 rfl
      skip
      obtain ⟨_, hF, hKl, hKm, hcr⟩ := HE.out
      refine bodyPost_ret (v := .agg #[.int .i64 N.kind, .string N.name, .slice a1 m c1, .slice A i C, .int .u32 N.slot, .int .u32 N.gen]) (by simp [results, Try.results70, go_sem, z0, z1, z2, z3, z4, z5]) rfl ⟨⟨N.kind, N.name, a1, c1, N.data, A, C, K, N.slot, N.gen⟩, ?_, ?_, ?_, ?_⟩
      · simp only [hKl, ← HM.out]
      · exact ⟨rfl, rfl, rfl, by rw [hKm, List.take_of_length_le (by rw [HN.out]; exact Nat.le_refl _)], rfl, rfl⟩
      · have hval : ∀ y ∈ K, ∃ z ∈ N.L, attrOf z = attrOf y := fun y hy => by
          have h1 : attrOf y ∈ K.map attrOf := List.mem_map.2 ⟨y, hy, rfl⟩
          rw [hKm] at h1
          obtain ⟨z, hz, hz2⟩ := List.mem_map.1 h1
          exact ⟨z, List.mem_of_mem_take hz, hz2⟩
        refine ⟨hF.row hcr.data (by decide), HNI.out.data.bnd, ?_, fun y hy => ?_, fun y hy => ?_, HNI.out.nam, HBD.out.data, ?_, fun y hy => ?_⟩
        · simp only [hKl]; exact hF.row hcr.row (by decide)
        · have h1 := hcr.val y hy
          obtain ⟨cap, hr⟩ := h1.row
          exact ⟨⟨cap, hF.row hr (by decide)⟩, h1.bnd, h1.len⟩
        · obtain ⟨z, hz, hz2⟩ := hval y hy
          have h4 : z.name = y.name := congrArg Prod.fst hz2
          have := HNI.out.attrs.nam z hz
          rwa [h4] at this
        · simp only [hKl]; exact hb2
        · obtain ⟨z, hz, hz2⟩ := hval y hy
          have h4 : z.val = y.val := congrArg Prod.snd hz2
          have := HBD.out.val z hz
          rwa [h4] at this
      · exact hcr.low.trans (hF.below (by omega) |>.mono (by omega))
end Go.Proofs.Ytelhnaphkbpakaa

