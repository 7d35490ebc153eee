/- data.CutAttr walked. both once more: the boxes stand; what DataAttrs is given. -/
import Derived.Test.YtelhnaphkbpakaaMc32
namespace Go.Proofs.Ytelhnaphkbpakaa
open Go.RowKit
set_option linter.unusedVariables false
set_option maxRecDepth 100000

set_option maxHeartbeats 8000000 in
theorem cutattr_calls (w : World) (N : Nd) (h : NdIn w N) (hB : N.Bd 1048576) (name : ByteArray) {cc : NC} {is : Bool} {kk : Int} (e : cutD N.c name = (cc, is, kk)) :
    Calls Try.prog 33 #[N.v, .string name] w fun e w' => ∃ M : Nd, e = .returned (.tuple #[M.v, .bool is, .int .i64 kk]) ∧ M.c = cc ∧ Fresh w.heap.size w' M ∧ Below w.heap.size w w' := by
  have hat := fun w' (b : Below w.heap.size w w') => at_calls w' N (h.below b) name
  have hcl := fun w' (b : Below w.heap.size w w') => clone_calls w' N (h.below b) (hB.mono (by decide))
  have hBd := hB
  have hSA := h.attrs
  have hcap := h.cap
  have hnd := h
  obtain ⟨V, hVV⟩ : ∃ V, V = (w.alloc (.cells N.cells 30)).alloc (.cells Nd.zero.cells 30) := ⟨_, rfl⟩
  have hVs : V.heap.size = w.heap.size + 2 := by rw [hVV]; simp
  have hbV : Below w.heap.size w V := by rw [hVV]; exact ((Below.refl _ w).alloc (Nat.le_refl _) _).alloc (by simp) _
  have x0 : V.heap[w.heap.size]? = some (.cells N.cells 30 (0, 0)) := by rw [hVV]; exact alloc_blk (Go.heap_alloc_new w _) _
  have x1 : V.heap[w.heap.size + 1]? = some (.cells Nd.zero.cells 30 (0, 0)) := by
    rw [hVV]; have := Go.heap_alloc_new (w.alloc (.cells N.cells 30)) (.cells Nd.zero.cells 30); rwa [World.size_alloc] at this
  have eNo := fun (hk : N.kind ≠ 1) => (cutD_no (name := name) hk).symm.trans e
  have eNot := fun (hk : N.kind = 1) (h2 : ¬ N.L.findIdx (isNm name) < N.L.length) => (cutD_not (name := name) hk h2).symm.trans e
  have eAt := fun (hk : N.kind = 1) (i : Nat) (h2 : N.L.findIdx (isNm name) = i) (hi : i < N.L.length) => (cutD_at (name := name) hk h2 hi).symm.trans e
  obtain ⟨k, nm, da, dc, data, aa, ac, L, sl, ge⟩ := N
  have hNl := hBd.attrs
  simp only [Nd.v, Nd.cells, Nd.zero, List.length_nil] at *
  have HX := Lib.hid (And.intro x0 (And.intro x1 (And.intro hbV hVV)))
  have HE := Lib.hid (And.intro eNo (And.intro eNot eAt))
  have HI := Lib.hid (And.intro hnd (And.intro hBd hSA))
  obtain ⟨n, en⟩ : ∃ n, n = L.length := ⟨_, rfl⟩
  rw [← en] at hat hcl hNl hVV hcap
  rw [← en]
  have HN := Lib.hid en
  have HAT := Lib.hid hat
  have HCL := Lib.hid hcl
  have hV2 := hVV
  obtain ⟨_, _, hcap3, hcap4⟩ := hcap
  clear en hat hcl h hB hBd hbV hVV eNo eNot eAt e hnd hSA
  by_cases hk : k = 1
  · subst hk
    have c0 := cell_blk x0 0 rfl
    have c1 := cell_blk x0 1 rfl
    have c2 := cell_blk x0 2 rfl
    have c3 := cell_blk x0 3 rfl
    have c4 := cell_blk x0 4 rfl
    have c5 := cell_blk x0 5 rfl
    have l0 := lt_of_some x0
    simp at c0 c1 c2 c3 c4 c5
    rw [← HN.out] at c3
    have HC1 := Lib.hid (HAT.out V HX.out.2.2.1)
    rw [hV2] at HC1 c0 c1 c2 c3 c4 c5 l0
    clear x0 x1
    rcases atD_cases L name with ⟨ea, hnot⟩ | ⟨i, ea, hfi, hi⟩
    · rw [ea] at HC1
      have hEE := HE.out.2.1 rfl (by exact hnot)
      cases hEE
      clear ea hnot
      go_enter Try.func33, Try.ntmps33
      go_wp2_with fail
      refine HC1.out.mono ?_
      rintro e w1 ⟨rfl, b1⟩
      rw [← hV2] at b1
      clear c0 c1 c2 c3 c4 c5 l0
      have y0 := (b1.block _ (lt_of_some HX.out.1)).trans HX.out.1
      have y1 := (b1.block _ (lt_of_some HX.out.2.1)).trans HX.out.2.1
      have s1 := b1.size
      have B1 := Lib.hid (HX.out.2.2.1.trans (b1.mono (by omega)))
      have HY1 := Lib.hid (And.intro y0 y1)
      have c0 := cell_blk y0 0 rfl
      have c1 := cell_blk y0 1 rfl
      have c2 := cell_blk y0 2 rfl
      have c3 := cell_blk y0 3 rfl
      have c4 := cell_blk y0 4 rfl
      have c5 := cell_blk y0 5 rfl
      have l0 := lt_of_some y0
      simp at c0 c1 c2 c3 c4 c5
      rw [← HN.out] at c3
      clear b1 y0 y1 hV2 HC1
      go_wp2_with fail
      refine (HCL.out w1 B1.out).mono ?_
      rintro e w2 ⟨M, rfl, hMS, hMo, b2⟩
      clear c0 c1 c2 c3 c4 c5 l0
      have y1 := (b2.block _ (lt_of_some HY1.out.2)).trans HY1.out.2
      have s2 := b2.size
      have B2 := Lib.hid (B1.out.trans (b2.mono (by omega)))
      have HM := Lib.hid (And.intro hMS (hMo.mono (show w.heap.size ≤ _ by omega)))
      have HY := Lib.hid y1
      obtain ⟨d0, d1, d2, d3, d4, d5, ld⟩ := box_cells (N := Nd.zero) y1
      simp only [Nd.zero, List.length_nil] at d0 d1 d2 d3 d4 d5
      have g0 := fun j => free_blk y1 j
      clear b2 y1 hMS hMo
      go_wp2
      obtain ⟨hE, hFr⟩ := six_cells HY.out (.int .i64 M.kind) (.string M.name) (.slice M.da M.data.length M.dc) (.slice M.aa M.L.length M.ac) (.int .u32 M.slot) (.int .u32 M.gen)
      have r0 := cell_blk hE 0 rfl
      have r1 := cell_blk hE 1 rfl
      have r2 := cell_blk hE 2 rfl
      have r3 := cell_blk hE 3 rfl
      have r4 := cell_blk hE 4 rfl
      have r5 := cell_blk hE 5 rfl
      have hs2 := B2.out.size
      exact bodyPost_ret (v := .tuple #[.agg #[.int .i64 M.kind, .string M.name, .slice M.da M.data.length M.dc, .slice M.aa M.L.length M.ac, .int .u32 M.slot, .int .u32 M.gen], .bool false, .int .i64 0]) (by simp [results, Try.results33, go_sem, r0, r1, r2, r3, r4, r5]) rfl ⟨M, rfl, HM.out.1.c, HM.out.2.frt hFr, B2.out.trans ((hFr.below (by omega)).mono (by omega))⟩
    · rw [ea] at HC1
      have hEE := HE.out.2.2 rfl i hfi hi
      cases hEE
      rw [← HN.out] at hi
      have p0 : ¬ (i : Int) < 0 := by omega
      have p1 : (i : Int) ≤ (n : Int) := by omega
      have p2 : (i : Int) + 1 ≤ (n : Int) := by omega
      have p3 : (0 : Int) ≤ (i : Int) := by omega
      have p4 : (i : Int) ≤ (ac : Int) := by omega
      have p5 : (i : Int) + 1 ≤ (ac : Int) := by omega
      have q1 : IntKind.i64.wrap ((i : Int) + 1) = (i : Int) + 1 := IntWalk.i64_in _ (by omega)
      have q2 : ((i : Int) + 1).toNat = i + 1 := by omega
      have p6 : (0 : Int) ≤ (i : Int) + 1 := by omega
      clear ea hfi
      go_enter Try.func33, Try.ntmps33
      go_wp2_with fail
      refine HC1.out.mono ?_
      rintro e w1 ⟨rfl, b1⟩
      rw [← hV2] at b1
      clear c0 c1 c2 c3 c4 c5 l0
      have y0 := (b1.block _ (lt_of_some HX.out.1)).trans HX.out.1
      have y1 := (b1.block _ (lt_of_some HX.out.2.1)).trans HX.out.2.1
      rw [← HN.out] at y0
      have s1 := b1.size
      have B1 := Lib.hid (HX.out.2.2.1.trans (b1.mono (by omega)))
      have HY1 := Lib.hid (And.intro y0 y1)
      clear b1 y0 y1 hV2 HC1
      go_wp2_with fail
      have l0 := lt_of_some HY1.out.1
      have c0 := cell_blk HY1.out.1 0 rfl
      have c3 := cell_blk HY1.out.1 3 rfl
      simp at c0 c3
      have HS : Hid (∀ W, Below w1.heap.size w1 W → W.cell? ⟨w.heap.size, 0, none⟩ = some (.int .i64 1)) := Lib.hid (fun W b => (b.cell (p := ⟨w.heap.size, 0, none⟩) (lt_of_some HY1.out.1)).trans (cell_blk HY1.out.1 0 rfl))
      obtain ⟨A, hA⟩ : ∃ A, A = (if ac = i + 1 then aa else Option.map (fun x => x.add ((i + 1) * 2)) aa) := ⟨_, rfl⟩
      obtain ⟨T, hT⟩ : ∃ T, T = i + (n - (i + 1)) := ⟨_, rfl⟩
      obtain ⟨W9, hW9⟩ : ∃ W9, W9 = (w1.alloc (.cells #[.slice aa i ac, .slice A (n - (i + 1)) (ac - (i + 1))] 25)).drew := ⟨_, rfl⟩
      have hW9s : W9.heap.size = w1.heap.size + 1 := by rw [hW9]; simp
      have b9 : Below w1.heap.size w1 W9 := by rw [hW9]; exact ((Below.refl _ w1).alloc (Nat.le_refl _) _).drew
      have hw9 : Below w.heap.size w W9 := B1.out.trans (b9.mono (by omega))
      have hlL : i + 1 ≤ L.length := by rw [← HN.out]; omega
      have hG0 : RowSrc W9 2 aa i (cellsA (L.take i)) := (src_take HI.out.2.2 (by omega)).below hw9
      have hG1 : RowSrc W9 2 A (n - (i + 1)) (cellsA (L.drop (i + 1))) := by
        have h := (src_drop (A := A) HI.out.2.2 hlL (by
          rw [hA]
          by_cases h : ac = i + 1
          · exact .inr (by rw [← HN.out]; omega)
          · rw [if_neg h]; exact .inl rfl)).below hw9
        rw [← HN.out] at h
        exact h
      have hcat := concatA_calls W9 w1.heap.size [⟨aa, i, ac, cellsA (L.take i)⟩, ⟨A, n - (i + 1), ac - (i + 1), cellsA (L.drop (i + 1))⟩] (by omega) (fun j g hg => by
        have hblk : W9.heap[w1.heap.size]? = some (.cells #[.slice aa i ac, .slice A (n - (i + 1)) (ac - (i + 1))] 25 (0, 0)) := by rw [hW9]; exact Go.heap_alloc_new w1 _
        match j, hg with
        | 0, hg => obtain rfl := Option.some.inj hg; exact ⟨cell_blk hblk 0 rfl, hG0⟩
        | 1, hg => obtain rfl := Option.some.inj hg; exact ⟨cell_blk hblk 1 rfl, hG1⟩
        | (_ + 2), hg => simp at hg) (by unfold pgN; simp; omega) (by simp)
      have eN : pgN [⟨aa, i, ac, cellsA (L.take i)⟩, ⟨A, n - (i + 1), ac - (i + 1), cellsA (L.drop (i + 1))⟩] = T := by unfold pgN; simp; omega
      have eX : pgX [⟨aa, i, ac, cellsA (L.take i)⟩, ⟨A, n - (i + 1), ac - (i + 1), cellsA (L.drop (i + 1))⟩] = cellsA (L.take i ++ L.drop (i + 1)) := by unfold pgX; simp [cellsA]
      rw [eN, eX] at hcat
      have HCAT := Lib.hid hcat
      have HW9 := Lib.hid (And.intro hW9 (And.intro hA (And.intro hT (And.intro b9 hW9s))))
      clear hcat eN eX hG0 hG1 hw9 b9 hW9 hT hW9s hlL hA hi
      refine wp_region_held_drew (S := fun W => W.cell? ⟨w.heap.size, 0, none⟩ = some (.int .i64 1)) (by kernel_rfl) c0 (fun hHeld => ?_)
      -- R6
      refine wpAnyH_take (i := 0) (v := ?_) rfl (by kernel_rfl) (by kernel_rfl) (by kernel_rfl) (fun _ _ _ h => h) (Or.inl ⟨by rfl, ?_⟩) (by assumption) ?_
      rotate_left
      · intro w hSw; (try dsimp only at hSw); go_simp; try with_reducible rfl
      refine wpAnyH_take (i := 2) (v := ?_) rfl (by kernel_rfl) (by kernel_rfl) (by kernel_rfl) (fun _ _ _ h => h) (Or.inl ⟨by rfl, ?_⟩) (by assumption) ?_
      rotate_left
      · intro w hSw; (try dsimp only at hSw); go_simp; try with_reducible rfl
      refine wpAnyH_take (i := 4) (v := ?_) rfl (by kernel_rfl) (by kernel_rfl) (by kernel_rfl) (fun _ _ _ h => h) (Or.inl ⟨by rfl, ?_⟩) (by assumption) ?_
      rotate_left
      · intro w hSw; (try dsimp only at hSw); go_simp; try with_reducible rfl
      refine wpAnyH_take (i := 6) (v := ?_) rfl (by kernel_rfl) (by kernel_rfl) (by kernel_rfl) (fun _ _ _ h => h) (Or.inl ⟨by rfl, ?_⟩) (by assumption) ?_
      rotate_left
      · intro w hSw; (try dsimp only at hSw); go_simp; try with_reducible rfl
      refine wpAnyH_take (i := 7) (v := ?_) rfl (by kernel_rfl) (by kernel_rfl) (by kernel_rfl) (fun _ _ _ h => h) (Or.inl ⟨by rfl, ?_⟩) (by assumption) ?_
      rotate_left
      · intro w hSw; (try dsimp only at hSw); go_simp; try with_reducible rfl
      refine wpAnyH_ready (rs := [1, 5]) (by kernel_rfl) (by simp) ?_
      refine AllReadyH.cons rfl (fun K' hK => ?_) (AllReadyH.cons rfl (fun K' hK => ?_) AllReadyH.nil)
      · go_simp
        refine hK.out _ _ hHeld (fun hHeld => ?_)
        clear hK K'
        refine wpAnyH_take (i := 3) (v := ?_) rfl (by kernel_rfl) (by kernel_rfl) (by kernel_rfl) (fun _ _ _ h => h) (Or.inl ⟨by rfl, ?_⟩) (by assumption) ?_
        rotate_left
        · intro w hSw; (try dsimp only at hSw); go_simp; try with_reducible rfl
        refine wpAnyH_ready (rs := [5]) (by kernel_rfl) (by simp) ?_
        refine AllReadyH.cons rfl (fun K' hK => ?_) AllReadyH.nil
        go_simp
        refine hK.out _ _ hHeld (fun hHeld => ?_)
        clear hK K'
        refine wpAnyH_take (i := 8) (v := ?_) rfl (by kernel_rfl) (by kernel_rfl) (by kernel_rfl) (fun _ _ _ h => h) (Or.inl ⟨by rfl, ?_⟩) (by assumption) ?_
        rotate_left
        · intro w hSw; (try dsimp only at hSw); go_simp; try with_reducible rfl
        refine wpAnyH_ready (rs := [9]) (by kernel_rfl) (by simp) ?_
        refine AllReadyH.cons rfl (fun K' hK => ?_) AllReadyH.nil
        rw [← HW9.out.2.1]
        go_simp
        refine hK.out _ _ (HS.out _ (((Below.refl _ w1).alloc (Nat.le_refl _) _).drew)) (fun hHeld => ?_)
        clear hK K'
        refine wpAnyH_ready (rs := [10]) (by kernel_rfl) (by simp) ?_
        refine AllReadyH.cons rfl (fun K' hK => ?_) AllReadyH.nil
        go_simp
        go_at_call 74
        rw [← HW9.out.1]
        refine HCAT.out.mono ?_
        rintro e w7 ⟨a7, c7, rfl, hr7, b7⟩
        have hb7 := HW9.out.2.2.2.1.trans (b7.mono (by have := HW9.out.2.2.2.2; omega))
        refine hK.out _ _ (HS.out w7 hb7) (fun hHeld => ?_)
        clear hK K' hHeld
        have hHeld := HS.out w7 hb7
        have y7 := (hb7.block _ (lt_of_some HY1.out.1)).trans HY1.out.1
        have z7 := (hb7.block _ (lt_of_some HY1.out.2)).trans HY1.out.2
        have s7 := hb7.size
        have c37 := cell_blk y7 3 rfl
        have f37 := free_blk y7 3
        have l7 := lt_of_some y7
        simp at c37
        have H7 := Lib.hid (And.intro hb7 (And.intro y7 (And.intro z7 hr7)))
        clear hr7 b7 hb7 y7 z7 c3 l0
        refine wpAnyH_take (i := 11) (v := ?_) rfl (by kernel_rfl) (by kernel_rfl) (by kernel_rfl) (fun _ _ _ h => h) (Or.inl ⟨by rfl, ?_⟩) (by assumption) ?_
        rotate_left
        · intro w hSw; (try dsimp only at hSw); go_simp; try with_reducible rfl
        refine wpAnyH_ready (rs := [12]) (by kernel_rfl) (by simp) ?_
        refine AllReadyH.cons rfl (fun K' hK => ?_) AllReadyH.nil
        go_simp
        refine hK.out _ _ (by have := cell_blk (set_blk H7.out.2.1 3 (.slice a7 T c7)) 0 rfl; simpa using this) (fun hHeld => ?_)
        clear hK K'
        refine wpAnyH_done (by kernel_rfl) ?_ _
        clear hHeld c37 f37 l7
        obtain ⟨W8, hW8⟩ : ∃ W8, W8 = w7.setCell ⟨w.heap.size, 3, none⟩ (.slice a7 T c7) := ⟨_, rfl⟩
        rw [← hW8]
        have k8 := set_blk H7.out.2.1 3 (.slice a7 T c7)
        have z8 : W8.heap[w.heap.size + 1]? = some (.cells Nd.zero.cells 30 (0, 0)) := by rw [hW8]; exact set_other H7.out.2.2.1 (by simp) _
        have row8 := rwOther H7.out.2.2.2 H7.out.2.1 (by decide) 3 (.slice a7 T c7)
        have b8 : Below w.heap.size w W8 := by rw [hW8]; exact (B1.out.trans (H7.out.1.mono (by omega))).setCell (Nat.le_refl _) _
        have s8 : W8.heap.size = w7.heap.size := by rw [hW8]; simp
        rw [← hW8] at k8 row8
        have hcap8 := row_cap row8
        have hTl : (L.take i ++ L.drop (i + 1)).length = T := by rw [List.length_append, List.length_take, List.length_drop, ← HN.out, HW9.out.2.2.1]; omega
        have hTn : T ≤ n := by have := HW9.out.2.2.1; omega
        have hmem : ∀ y ∈ L.take i ++ L.drop (i + 1), y ∈ L := fun y hy => by
          rcases List.mem_append.1 hy with hy | hy
          · exact List.mem_of_mem_take hy
          · exact List.mem_of_mem_drop hy
        have hnd8 : NdIn W8 ⟨1, nm, da, dc, data, a7, c7, L.take i ++ L.drop (i + 1), sl, ge⟩ := by
          have hb := HI.out.1.below b8
          have hcp := HI.out.1.cap
          refine ⟨hb.data, ⟨fun j u hu => ?_, by rw [hTl]; omega, fun y hy => hb.attrs.val y (hmem y hy), fun y hy => hb.attrs.nam y (hmem y hy)⟩, hb.nam, ⟨hcp.1, hcp.2.1, by simp only [hTl]; omega, by simp only; omega⟩⟩
          obtain ⟨bb, e1, e2, e3⟩ := row_src row8 hu
          exact ⟨bb, 0, e1, e2, e3⟩
        have hbd8 : Nd.Bd ⟨1, nm, da, dc, data, a7, c7, L.take i ++ L.drop (i + 1), sl, ge⟩ 1099511627776 := by
          have hb := HI.out.2.1
          exact ⟨Nat.le_trans hb.data (by decide), by simp only [hTl]; omega, fun y hy => Nat.le_trans (hb.val y (hmem y hy)) (by decide)⟩
        have hcl := clone_calls W8 _ hnd8 hbd8
        simp only [Nd.v, Nd.cells, hTl] at hcl
        have HCL8 := Lib.hid hcl
        have c80 := cell_blk k8 0 rfl
        have c81 := cell_blk k8 1 rfl
        have c82 := cell_blk k8 2 rfl
        have c83 := cell_blk k8 3 rfl
        have c84 := cell_blk k8 4 rfl
        have c85 := cell_blk k8 5 rfl
        have l8 := lt_of_some k8
        simp at c80 c81 c82 c83 c84 c85
        have H8 := Lib.hid (And.intro z8 b8)
        clear k8 z8 row8 b8 hcap8 hnd8 hbd8 hcl hW8 hmem
        go_wp2_with fail
        refine HCL8.out.mono ?_
        rintro e w10 ⟨M, rfl, hMS, hMo, b10⟩
        clear c80 c81 c82 c83 c84 c85 l8
        have y1 := (b10.block _ (lt_of_some H8.out.1)).trans H8.out.1
        have s10 := b10.size
        have B10 := Lib.hid (H8.out.2.trans (b10.mono (by omega)))
        have HM := Lib.hid (And.intro hMS (hMo.mono (show w.heap.size ≤ _ by omega)))
        have HY := Lib.hid y1
        obtain ⟨d0, d1, d2, d3, d4, d5, ld⟩ := box_cells (N := Nd.zero) y1
        simp only [Nd.zero, List.length_nil] at d0 d1 d2 d3 d4 d5
        have g0 := fun j => free_blk y1 j
        clear b10 y1 hMS hMo
        go_wp2
        obtain ⟨hE, hFr⟩ := six_cells HY.out (.int .i64 M.kind) (.string M.name) (.slice M.da M.data.length M.dc) (.slice M.aa M.L.length M.ac) (.int .u32 M.slot) (.int .u32 M.gen)
        have r0 := cell_blk hE 0 rfl
        have r1 := cell_blk hE 1 rfl
        have r2 := cell_blk hE 2 rfl
        have r3 := cell_blk hE 3 rfl
        have r4 := cell_blk hE 4 rfl
        have r5 := cell_blk hE 5 rfl
        have hs10 := B10.out.size
        refine bodyPost_ret (v := .tuple #[.agg #[.int .i64 M.kind, .string M.name, .slice M.da M.data.length M.dc, .slice M.aa M.L.length M.ac, .int .u32 M.slot, .int .u32 M.gen], .bool true, .int .i64 0]) (by simp [results, Try.results33, go_sem, r0, r1, r2, r3, r4, r5]) rfl ⟨M, rfl, ?_, HM.out.2.frt hFr, B10.out.trans ((hFr.below (by omega)).mono (by omega))⟩
        rw [HM.out.1.c]
        unfold Nd.c
        simp only [NC.mk.injEq]
        exact ⟨trivial, trivial, trivial, erase_map rfl i, trivial, trivial⟩
      · go_simp
        refine hK.out _ _ hHeld (fun hHeld => ?_)
        clear hK K'
        refine wpAnyH_take (i := 8) (v := ?_) rfl (by kernel_rfl) (by kernel_rfl) (by kernel_rfl) (fun _ _ _ h => h) (Or.inl ⟨by rfl, ?_⟩) (by assumption) ?_
        rotate_left
        · intro w hSw; (try dsimp only at hSw); go_simp; try with_reducible rfl
        refine wpAnyH_ready (rs := [1]) (by kernel_rfl) (by simp) ?_
        refine AllReadyH.cons rfl (fun K' hK => ?_) AllReadyH.nil
        go_simp
        refine hK.out _ _ hHeld (fun hHeld => ?_)
        clear hK K'
        refine wpAnyH_take (i := 3) (v := ?_) rfl (by kernel_rfl) (by kernel_rfl) (by kernel_rfl) (fun _ _ _ h => h) (Or.inl ⟨by rfl, ?_⟩) (by assumption) ?_
        rotate_left
        · intro w hSw; (try dsimp only at hSw); go_simp; try with_reducible rfl
        refine wpAnyH_ready (rs := [9]) (by kernel_rfl) (by simp) ?_
        refine AllReadyH.cons rfl (fun K' hK => ?_) AllReadyH.nil
        rw [← HW9.out.2.1]
        go_simp
        refine hK.out _ _ (HS.out _ (((Below.refl _ w1).alloc (Nat.le_refl _) _).drew)) (fun hHeld => ?_)
        clear hK K'
        refine wpAnyH_ready (rs := [10]) (by kernel_rfl) (by simp) ?_
        refine AllReadyH.cons rfl (fun K' hK => ?_) AllReadyH.nil
        go_simp
        go_at_call 74
        rw [← HW9.out.1]
        refine HCAT.out.mono ?_
        rintro e w7 ⟨a7, c7, rfl, hr7, b7⟩
        have hb7 := HW9.out.2.2.2.1.trans (b7.mono (by have := HW9.out.2.2.2.2; omega))
        refine hK.out _ _ (HS.out w7 hb7) (fun hHeld => ?_)
        clear hK K' hHeld
        have hHeld := HS.out w7 hb7
        have y7 := (hb7.block _ (lt_of_some HY1.out.1)).trans HY1.out.1
        have z7 := (hb7.block _ (lt_of_some HY1.out.2)).trans HY1.out.2
        have s7 := hb7.size
        have c37 := cell_blk y7 3 rfl
        have f37 := free_blk y7 3
        have l7 := lt_of_some y7
        simp at c37
        have H7 := Lib.hid (And.intro hb7 (And.intro y7 (And.intro z7 hr7)))
        clear hr7 b7 hb7 y7 z7 c3 l0
        refine wpAnyH_take (i := 11) (v := ?_) rfl (by kernel_rfl) (by kernel_rfl) (by kernel_rfl) (fun _ _ _ h => h) (Or.inl ⟨by rfl, ?_⟩) (by assumption) ?_
        rotate_left
        · intro w hSw; (try dsimp only at hSw); go_simp; try with_reducible rfl
        refine wpAnyH_ready (rs := [12]) (by kernel_rfl) (by simp) ?_
        refine AllReadyH.cons rfl (fun K' hK => ?_) AllReadyH.nil
        go_simp
        refine hK.out _ _ (by have := cell_blk (set_blk H7.out.2.1 3 (.slice a7 T c7)) 0 rfl; simpa using this) (fun hHeld => ?_)
        clear hK K'
        refine wpAnyH_done (by kernel_rfl) ?_ _
        clear hHeld c37 f37 l7
        obtain ⟨W8, hW8⟩ : ∃ W8, W8 = w7.setCell ⟨w.heap.size, 3, none⟩ (.slice a7 T c7) := ⟨_, rfl⟩
        rw [← hW8]
        have k8 := set_blk H7.out.2.1 3 (.slice a7 T c7)
        have z8 : W8.heap[w.heap.size + 1]? = some (.cells Nd.zero.cells 30 (0, 0)) := by rw [hW8]; exact set_other H7.out.2.2.1 (by simp) _
        have row8 := rwOther H7.out.2.2.2 H7.out.2.1 (by decide) 3 (.slice a7 T c7)
        have b8 : Below w.heap.size w W8 := by rw [hW8]; exact (B1.out.trans (H7.out.1.mono (by omega))).setCell (Nat.le_refl _) _
        have s8 : W8.heap.size = w7.heap.size := by rw [hW8]; simp
        rw [← hW8] at k8 row8
        have hcap8 := row_cap row8
        have hTl : (L.take i ++ L.drop (i + 1)).length = T := by rw [List.length_append, List.length_take, List.length_drop, ← HN.out, HW9.out.2.2.1]; omega
        have hTn : T ≤ n := by have := HW9.out.2.2.1; omega
        have hmem : ∀ y ∈ L.take i ++ L.drop (i + 1), y ∈ L := fun y hy => by
          rcases List.mem_append.1 hy with hy | hy
          · exact List.mem_of_mem_take hy
          · exact List.mem_of_mem_drop hy
        have hnd8 : NdIn W8 ⟨1, nm, da, dc, data, a7, c7, L.take i ++ L.drop (i + 1), sl, ge⟩ := by
          have hb := HI.out.1.below b8
          have hcp := HI.out.1.cap
          refine ⟨hb.data, ⟨fun j u hu => ?_, by rw [hTl]; omega, fun y hy => hb.attrs.val y (hmem y hy), fun y hy => hb.attrs.nam y (hmem y hy)⟩, hb.nam, ⟨hcp.1, hcp.2.1, by simp only [hTl]; omega, by simp only; omega⟩⟩
          obtain ⟨bb, e1, e2, e3⟩ := row_src row8 hu
          exact ⟨bb, 0, e1, e2, e3⟩
        have hbd8 : Nd.Bd ⟨1, nm, da, dc, data, a7, c7, L.take i ++ L.drop (i + 1), sl, ge⟩ 1099511627776 := by
          have hb := HI.out.2.1
          exact ⟨Nat.le_trans hb.data (by decide), by simp only [hTl]; omega, fun y hy => Nat.le_trans (hb.val y (hmem y hy)) (by decide)⟩
        have hcl := clone_calls W8 _ hnd8 hbd8
        simp only [Nd.v, Nd.cells, hTl] at hcl
        have HCL8 := Lib.hid hcl
        have c80 := cell_blk k8 0 rfl
        have c81 := cell_blk k8 1 rfl
        have c82 := cell_blk k8 2 rfl
        have c83 := cell_blk k8 3 rfl
        have c84 := cell_blk k8 4 rfl
        have c85 := cell_blk k8 5 rfl
        have l8 := lt_of_some k8
        simp at c80 c81 c82 c83 c84 c85
        have H8 := Lib.hid (And.intro z8 b8)
        clear k8 z8 row8 b8 hcap8 hnd8 hbd8 hcl hW8 hmem
        go_wp2_with fail
        refine HCL8.out.mono ?_
        rintro e w10 ⟨M, rfl, hMS, hMo, b10⟩
        clear c80 c81 c82 c83 c84 c85 l8
        have y1 := (b10.block _ (lt_of_some H8.out.1)).trans H8.out.1
        have s10 := b10.size
        have B10 := Lib.hid (H8.out.2.trans (b10.mono (by omega)))
        have HM := Lib.hid (And.intro hMS (hMo.mono (show w.heap.size ≤ _ by omega)))
        have HY := Lib.hid y1
        obtain ⟨d0, d1, d2, d3, d4, d5, ld⟩ := box_cells (N := Nd.zero) y1
        simp only [Nd.zero, List.length_nil] at d0 d1 d2 d3 d4 d5
        have g0 := fun j => free_blk y1 j
        clear b10 y1 hMS hMo
        go_wp2
        obtain ⟨hE, hFr⟩ := six_cells HY.out (.int .i64 M.kind) (.string M.name) (.slice M.da M.data.length M.dc) (.slice M.aa M.L.length M.ac) (.int .u32 M.slot) (.int .u32 M.gen)
        have r0 := cell_blk hE 0 rfl
        have r1 := cell_blk hE 1 rfl
        have r2 := cell_blk hE 2 rfl
        have r3 := cell_blk hE 3 rfl
        have r4 := cell_blk hE 4 rfl
        have r5 := cell_blk hE 5 rfl
        have hs10 := B10.out.size
        refine bodyPost_ret (v := .tuple #[.agg #[.int .i64 M.kind, .string M.name, .slice M.da M.data.length M.dc, .slice M.aa M.L.length M.ac, .int .u32 M.slot, .int .u32 M.gen], .bool true, .int .i64 0]) (by simp [results, Try.results33, go_sem, r0, r1, r2, r3, r4, r5]) rfl ⟨M, rfl, ?_, HM.out.2.frt hFr, B10.out.trans ((hFr.below (by omega)).mono (by omega))⟩
        rw [HM.out.1.c]
        unfold Nd.c
        simp only [NC.mk.injEq]
        exact ⟨trivial, trivial, trivial, erase_map rfl i, trivial, trivial⟩
      -- R6 END
  · have eE := HE.out.1 hk
    cases eE
    have hk2 : (k == 1) = false := by simpa using hk
    have z0 := cell_blk HX.out.2.1 0 rfl
    have z1 := cell_blk HX.out.2.1 1 rfl
    have z2 := cell_blk HX.out.2.1 2 rfl
    have z3 := cell_blk HX.out.2.1 3 rfl
    have z4 := cell_blk HX.out.2.1 4 rfl
    have z5 := cell_blk HX.out.2.1 5 rfl
    simp at z2 z3
    rw [hV2] at z0 z1 z2 z3 z4 z5
    clear x0 x1
    go_enter Try.func33, Try.ntmps33
    go_wp2
    exact bodyPost_ret (v := .tuple #[.agg #[.int .i64 0, .string ⟨#[]⟩, .slice none 0 0, .slice none 0 0, .int .u32 0, .int .u32 0], .bool false, .int .i64 63]) (by simp [results, Try.results33, go_sem, z0, z1, z2, z3, z4, z5]) rfl ⟨Nd.zero, rfl, rfl, Fresh.zero _ _, by rw [← hV2]; exact HX.out.2.2.1⟩
end Go.Proofs.Ytelhnaphkbpakaa

namespace Go.Proofs.Ytelhnaphkbpakaa
open Go.RowKit
set_option linter.unusedVariables false
set_option maxRecDepth 100000

set_option maxHeartbeats 8000000 in
theorem both_keep {B1 B2 : Nat} {w1 w2 w : World} {M M2 N : Nd} (h1 : Fresh B1 w1 M) (h2 : Fresh B2 w2 M2) (hB1 : B1 ≤ w1.heap.size) (hB2 : w1.heap.size ≤ B2) (hB2' : B2 ≤ w2.heap.size) (b1 : Below w1.heap.size w1 w) (b2 : Below w2.heap.size w2 w)
    (hN : ∀ w', OutW B1 w1.heap.size w w' → NdIn w' N) (d1 : M.Bd 1099511627776) (d2 : M2.Bd 1099511627776) (e1 : M.c = N.c) (e2 : M2.c = N.c) :
    Calls Try.prog 19 #[M.v, M2.v, N.v] w fun e w' => e = .returned (.bool true) ∧ Below B1 w w' ∧ ∀ (k : Nat) cs, w.heap[k]? = some (.cells cs 30 (0, 0)) → w'.heap[k]? = some (.cells cs 30 (0, 0)) := by
  obtain ⟨V, hV⟩ : ∃ V, V = ((w.alloc (.cells M.cells 30)).alloc (.cells M2.cells 30)).alloc (.cells N.cells 30) := ⟨_, rfl⟩
  have hVs : V.heap.size = w.heap.size + 3 := by rw [hV]; simp
  have hbV : Below w.heap.size w V := by rw [hV]; exact (((Below.refl _ w).alloc (Nat.le_refl _) _).alloc (by simp) _).alloc (by simp; omega) _
  have x0 : V.heap[w.heap.size]? = some (.cells M.cells 30 (0, 0)) := by rw [hV]; exact alloc_blk (alloc_blk (Go.heap_alloc_new w _) _) _
  have x1 : V.heap[w.heap.size + 1]? = some (.cells M2.cells 30 (0, 0)) := by
    rw [hV]; have := Go.heap_alloc_new (w.alloc (.cells M.cells 30)) (.cells M2.cells 30); rw [World.size_alloc] at this; exact alloc_blk this _
  have x2 : V.heap[w.heap.size + 2]? = some (.cells N.cells 30 (0, 0)) := by
    rw [hV]; have := Go.heap_alloc_new ((w.alloc (.cells M.cells 30)).alloc (.cells M2.cells 30)) (.cells N.cells 30); rwa [World.size_alloc, World.size_alloc] at this
  have hV2 := hV
  have hs1 := b1.size
  have hs2 := b2.size
  have HX : Hid (Bx3 w.heap.size M M2 N V) := Lib.hid ⟨x0, x1, x2⟩
  obtain ⟨z0, z1, z2, z3, z4, z5, lz⟩ := box_cells x0
  obtain ⟨y0, y1, y2, y3, y4, y5, ly⟩ := box_cells x1
  obtain ⟨u0, u1, u2, u3, u4, u5, lu⟩ := box_cells x2
  -- what each call answers
  have hO : OutW B1 w1.heap.size w V := OutW.of_below hbV
  have K1 := Lib.hid (same_true V M N (h1.nd.below (b1.trans (hbV.mono hs1))) (hN V hO) e1)
  have K2 : Hid (∀ wa, Below V.heap.size V wa → Calls Try.prog 35 #[M2.v, N.v] wa fun e w' => e = .returned (.bool true) ∧ Below wa.heap.size wa w') := Lib.hid (fun wa ba =>
    same_true wa M2 N (h2.nd.below (b2.trans ((hbV.trans (ba.mono (by omega))).mono hs2))) (hN wa (hO.trans (OutW.of_below ba))) e2)
  have K3 : Hid (∀ wb, Below V.heap.size V wb → Calls Try.prog 62 #[M.v, .int .u16 4369] wb fun e w' => (∃ v, e = .returned v) ∧ SpW B1 w1.heap.size 4369 wb w' ∧ SpD w1.heap.size w' M 4369) := Lib.hid (fun wb bb =>
    (spoil_calls B1 w1 wb M h1 (b1.trans ((hbV.trans (bb.mono (by omega))).mono hs1)) d1 hB1 4369 (by decide)).mono fun e w' ⟨he, hs, ha⟩ => ⟨he, hs, SpD.of h1 (b1.trans ((hbV.trans (bb.mono (by omega))).mono hs1)) hs ha⟩)
  have K4 : Hid (∀ wb wc, Below V.heap.size V wb → SpW B1 w1.heap.size 4369 wb wc → Fresh B2 wc M2 ∧ Calls Try.prog 35 #[M2.v, N.v] wc fun e w' => e = .returned (.bool true) ∧ Below wc.heap.size wc w') := Lib.hid (fun wb wc bb hs => by
    have hf : Fresh B2 wc M2 := hs.fresh (h2.below (b2.trans ((hbV.trans (bb.mono (by omega))).mono hs2))) hB2
    exact ⟨hf, same_true wc M2 N hf.nd (hN wc ((hO.trans (OutW.of_below bb)).trans hs.out)) e2⟩)
  have K5 : Hid (∀ wd, V.heap.size ≤ wd.heap.size → Fresh B2 wd M2 → Calls Try.prog 62 #[M2.v, .int .u16 8738] wd fun e w' => (∃ v, e = .returned v) ∧ SpW B2 wd.heap.size 8738 wd w' ∧ SpD wd.heap.size w' M2 8738) := Lib.hid (fun wd hsz hf =>
    (spoil_calls B2 wd wd M2 hf (Below.refl _ _) d2 (by omega) 8738 (by decide)).mono fun e w' ⟨he, hs, ha⟩ => ⟨he, hs, SpD.of hf (Below.refl _ _) hs ha⟩)
  have K6 : Hid (∀ we, V.heap.size ≤ we.heap.size → SpD w1.heap.size we M 4369 → Calls Try.prog 63 #[M.v, .int .u16 4369] we fun e w' => e = .returned (.bool true) ∧ Below we.heap.size we w') := Lib.hid (fun we hsz hd =>
    spoilt_calls w1.heap.size we M 4369 hd (by omega) d1)
  have K7 : Hid (∀ H wf, H ≤ wf.heap.size → SpD H wf M2 8738 → Calls Try.prog 63 #[M2.v, .int .u16 8738] wf fun e w' => e = .returned (.bool true) ∧ Below wf.heap.size wf w') := Lib.hid (fun H wf hsz hd =>
    spoilt_calls H wf M2 8738 hd hsz d2)
  have HV := Lib.hid (And.intro hV (And.intro hbV b1))
  unfold Nd.cells at hV2
  unfold Nd.v Nd.cells at K1 K2 K3 K4 K5 K6 K7 ⊢
  rw [hV2] at z0 z1 z2 z3 z4 z5 y0 y1 y2 y3 y4 y5 u0 u1 u2 u3 u4 u5 K1
  clear hV hV2 hbV x0 x1 x2 h1 h2 b1 b2 hN d1 d2 e1 e2 hO
  go_enter Try.func19, Try.ntmps19
  go_wp2_with fail
  refine K1.out.mono ?_
  rintro e wa ⟨rfl, ba⟩
  have hba : Below V.heap.size V wa := by rw [HV.out.1]; exact ba
  clear z0 z1 z2 z3 z4 z5 lz y0 y1 y2 y3 y4 y5 ly u0 u1 u2 u3 u4 u5 lu
  have HXa := Lib.hid (HX.out.below hba)
  obtain ⟨y0, y1, y2, y3, y4, y5, ly⟩ := box_cells HXa.out.x1
  obtain ⟨u0, u1, u2, u3, u4, u5, lu⟩ := box_cells HXa.out.x2
  have HBa := Lib.hid hba
  have sa := hba.size
  clear ba hba
  go_wp2_with fail
  refine (K2.out wa HBa.out).mono ?_
  rintro e wb ⟨rfl, bb⟩
  clear y0 y1 y2 y3 y4 y5 ly u0 u1 u2 u3 u4 u5 lu
  have HXb := Lib.hid (HXa.out.below bb)
  have sb := bb.size
  have HBb := Lib.hid (HBa.out.trans (bb.mono sa))
  obtain ⟨z0, z1, z2, z3, z4, z5, lz⟩ := box_cells HXb.out.x0
  clear bb
  go_wp2_with fail
  refine (K3.out wb HBb.out).mono ?_
  rintro e wc ⟨⟨v, rfl⟩, hsc, hdc⟩
  clear z0 z1 z2 z3 z4 z5 lz
  have HXc := Lib.hid (HXb.out.sp hsc)
  have sc := hsc.size
  obtain ⟨HFc, HSc⟩ := K4.out wb wc HBb.out hsc
  have HC := Lib.hid (And.intro hsc (And.intro hdc (And.intro HFc HSc)))
  obtain ⟨y0, y1, y2, y3, y4, y5, ly⟩ := box_cells HXc.out.x1
  obtain ⟨u0, u1, u2, u3, u4, u5, lu⟩ := box_cells HXc.out.x2
  clear hsc hdc HFc HSc
  go_wp2_with fail
  refine HC.out.2.2.2.mono ?_
  rintro e wd ⟨rfl, bd⟩
  clear y0 y1 y2 y3 y4 y5 ly u0 u1 u2 u3 u4 u5 lu
  have HXd := Lib.hid (HXc.out.below bd)
  have sd := bd.size
  obtain ⟨y0, y1, y2, y3, y4, y5, ly⟩ := box_cells HXd.out.x1
  have HD := Lib.hid (And.intro bd (And.intro (HC.out.2.2.1.below bd) (HC.out.2.1.below (bd.mono (by omega)))))
  clear bd
  go_wp2_with fail
  refine (K5.out wd (by omega) HD.out.2.1).mono ?_
  rintro e we ⟨⟨v, rfl⟩, hse, hde⟩
  clear y0 y1 y2 y3 y4 y5 ly
  have HXe := Lib.hid (HXd.out.sp hse)
  have se := hse.size
  obtain ⟨z0, z1, z2, z3, z4, z5, lz⟩ := box_cells HXe.out.x0
  have hlo : B2 ≤ wd.heap.size := by omega
  have HE := Lib.hid (And.intro hse (And.intro hde (HD.out.2.2.below ((hse.below hlo).mono hB2))))
  clear hse hde
  go_wp2_with fail
  refine (K6.out we (by omega) HE.out.2.2).mono ?_
  rintro e wf ⟨rfl, bf⟩
  clear z0 z1 z2 z3 z4 z5 lz
  have HXf := Lib.hid (HXe.out.below bf)
  have sf := bf.size
  obtain ⟨y0, y1, y2, y3, y4, y5, ly⟩ := box_cells HXf.out.x1
  have HF := Lib.hid (And.intro bf (HE.out.2.1.below (bf.mono se)))
  clear bf
  go_wp2_with fail
  refine (K7.out wd.heap.size wf (by omega) HF.out.2).mono ?_
  rintro e wg ⟨rfl, bg⟩
  have HG := Lib.hid bg
  clear bg
  go_wp2_with fail
  go_ret
  refine ⟨rfl, ?_, fun k cs hk => ?_⟩
  · have hlo1 : B1 ≤ w.heap.size := by omega
    exact ((((((HV.out.2.1.mono hlo1).trans (HBb.out.mono (by omega))).trans (HC.out.1.below (by omega))).trans (HD.out.1.mono (by omega))).trans ((HE.out.1.below hlo).mono (by omega))).trans (HF.out.1.mono (by omega))).trans (HG.out.mono (by omega))
  · have k1 := (HV.out.2.1.block k (lt_of_some hk)).trans hk
    have k2 := (HBb.out.block k (lt_of_some k1)).trans k1
    have k3 := HC.out.1.block k _ k2 (.inr (.inr ⟨by simp [oty], by simp [oty]⟩))
    have k4 := (HD.out.1.block k (lt_of_some k3)).trans k3
    have k5 := HE.out.1.block k _ k4 (.inr (.inr ⟨by simp [oty], by simp [oty]⟩))
    have k6 := (HF.out.1.block k (lt_of_some k5)).trans k5
    exact (HG.out.block k (lt_of_some k6)).trans k6

/-- Cells that are all units. -/
def U16s (ys : List Value) : Prop := ∀ y ∈ ys, ∃ z : Int, y = .int .u16 z
theorem U16s.enc (us : List Nat) : U16s (enc16 us) := fun y hy => by
  unfold enc16 at hy
  obtain ⟨u, _, rfl⟩ := List.mem_map.1 hy
  exact ⟨_, rfl⟩
theorem row_store2 {B hi : Nat} {V wr : World} {a : Option Addr} {n cap i : Nat} {ys : List Value} (ho : OutW B hi V wr) (hr : wr.ownsRow B 45 1 (.slice a n cap) n ys) (hq : U16s ys) (hg : ∀ g, (Value.slice a n cap).ownBlock = some g → g < hi) (hi' : i < n) :
    ∃ g z, a = some ⟨g, 0, none⟩ ∧ g < wr.heap.size ∧ wr.cell? ⟨g, i, none⟩ = some (.int .u16 z) ∧ wr.frozen? ⟨g, i, none⟩ = false ∧ ∀ z', OutW B hi V (wr.setCell ⟨g, i, none⟩ (.int .u16 z')) ∧ ∃ ys', (wr.setCell ⟨g, i, none⟩ (.int .u16 z')).ownsRow B 45 1 (.slice a n cap) n ys' ∧ U16s ys' := by
  have hlen := hr.1
  obtain ⟨u, hu⟩ : ∃ u, ys[i]? = some u := ⟨_, List.getElem?_eq_getElem (by omega)⟩
  obtain ⟨z, rfl⟩ := hq u (List.mem_of_getElem? hu)
  obtain ⟨b, rfl, hb, hc⟩ := row_src hr hu
  rw [Nat.zero_add] at hc
  obtain ⟨cur, hblk, hB⟩ := rwBlk hr
  refine ⟨b, z, rfl, hb, hc, free_blk hblk i, fun z' => ⟨ho.set (a := ⟨b, i, none⟩) hB (hg b rfl) _, _, (hr.stored i _).1, fun y hy => ?_⟩⟩
  rcases List.mem_or_eq_of_mem_set hy with hy | rfl
  · exact hq y hy
  · exact ⟨z', rfl⟩

theorem setD_bd {l : List (ByteArray × List Nat)} {b : Nat} (h1 : l.length ≤ b) (h2 : ∀ x ∈ l, x.2.length ≤ b) (name : ByteArray) {us : List Nat} (hu : us.length ≤ b) : (setD l name us).length ≤ b + 1 ∧ ∀ x ∈ setD l name us, x.2.length ≤ b := by
  unfold setD
  split
  · refine ⟨by rw [List.length_modify]; omega, fun x hx => ?_⟩
    obtain ⟨j, hj⟩ := List.mem_iff_getElem?.1 hx
    rw [List.getElem?_modify] at hj
    cases hl : l[j]? with
    | none => rw [hl] at hj; simp at hj
    | some y =>
      rw [hl] at hj
      split at hj
      · simp at hj; rw [← hj]; exact hu
      · simp at hj; rw [← hj]; exact h2 y (List.mem_of_getElem? hl)
  · refine ⟨by rw [List.length_append]; simp; omega, fun x hx => ?_⟩
    rcases List.mem_append.1 hx with hx | hx
    · exact h2 x hx
    · obtain rfl := by simpa using hx
      exact hu
theorem setAttrD_bd {c : NC} {b : Nat} (h : c.Bd b) (name : ByteArray) {us : List Nat} (hu : us.length ≤ b) : (setAttrD c name us).1.Bd (b + 1) := by
  unfold setAttrD
  split
  · exact NC.Bd.zero _
  · split
    · exact NC.Bd.zero _
    · obtain ⟨k1, k2⟩ := setD_bd h.attrs h.val name hu
      exact ⟨Nat.le_trans h.data (by omega), k1, fun x hx => Nat.le_trans (k2 x hx) (by omega)⟩
theorem cutD_bd {c : NC} {b : Nat} (h : c.Bd b) (name : ByteArray) : (cutD c name).1.Bd b := by
  unfold cutD
  split
  · exact NC.Bd.zero _
  · split
    · exact ⟨h.data, Nat.le_trans (List.length_eraseIdx_le _ _) h.attrs, fun x hx => h.val x (List.mem_of_mem_eraseIdx hx)⟩
    · exact h

theorem NC.Bd.nd' {c : NC} {b b' : Nat} (h : c.Bd b) (hb : b ≤ b') : c.Bd b' := ⟨Nat.le_trans h.data hb, Nat.le_trans h.attrs hb, fun x hx => Nat.le_trans (h.val x hx) hb⟩
theorem attrO_len {c : NC} {b : Nat} (h : c.Bd b) (name : ByteArray) : (attrO c name).1.length ≤ b := by
  unfold attrO
  split
  · split
    · simp
    · rename_i us hus
      unfold attrD at hus
      cases hf : c.attrs.find? (fun x => x.1.toList == name.toList) with
      | none => rw [hf] at hus; cases hus
      | some x => rw [hf] at hus; cases hus; exact h.val x (List.mem_of_find?_eq_some hf)
  · simp

/-- What the law has in hand after its first steps. -/
structure AtSt (w : World) (N : Nd) (us : List Nat) (b4 : Nat) (M : Nd) (a5 : Option Addr) (c5 : Nat) (W : World) : Prop where
  bx : W.heap[w.heap.size]? = some (.cells N.cells 30 (0, 0))
  x : W.heap[b4]? = some (.cells M.cells 30 (0, 0))
  m : LentNd w.heap.size W M
  by_ : LentU w.heap.size W a5 c5 us
  same : M.Same N
  low : Below w.heap.size w W
theorem AtSt.below {w : World} {N : Nd} {us : List Nat} {b4 : Nat} {M : Nd} {a5 : Option Addr} {c5 : Nat} {W W' : World} (h : AtSt w N us b4 M a5 c5 W) (b : Below W.heap.size W W') : AtSt w N us b4 M a5 c5 W' :=
  ⟨(b.block _ (lt_of_some h.bx)).trans h.bx, (b.block _ (lt_of_some h.x)).trans h.x, h.m.below b, h.by_.below b, h.same, h.low.trans (b.mono h.low.size)⟩
end Go.Proofs.Ytelhnaphkbpakaa

