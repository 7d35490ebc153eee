/- The document's Replace. -/
import Derived.Test.YtelhnaphkbpakaaMc15
namespace Go.Proofs.Ytelhnaphkbpakaa
open Go.RowKit
set_option linter.unusedVariables false
set_option maxRecDepth 100000

/-- What Replace tells. -/
def replD (c : NC) (off cnt : Int) (by_ : List Nat) : NC × Int :=
  if (partD c.kind off cnt c.data.length).2 = 0 then ({ c with data := c.data.take off.toNat ++ by_ ++ c.data.drop (partD c.kind off cnt c.data.length).1.toNat }, 0)
  else (NC.zero, (partD c.kind off cnt c.data.length).2)
theorem OwnNd.zero (B : Nat) (w : World) : OwnNd B w Nd.zero := ⟨World.ownsRow_nil _ _ _ _, (fun _ hx => absurd hx (List.not_mem_nil)), World.ownsRow_nil _ _ _ _, (fun _ hx => absurd hx (List.not_mem_nil)), (fun _ hx => absurd hx (List.not_mem_nil)), by decide, by decide, by decide, (fun _ hx => absurd hx (List.not_mem_nil))⟩

theorem Sl16.take {w : World} {a : Option Addr} {us : List Nat} (h : Sl16 w a us) (n : Nat) : Sl16 w a (us.take n) := by
  refine ⟨fun j u hu => ?_, by have := h.len; rw [List.length_take]; omega⟩
  have hj : j < n := by
    have := (List.getElem?_eq_some_iff.1 hu).1
    rw [List.length_take] at this; omega
  rw [List.getElem?_take, if_pos hj] at hu
  exact h.at_ _ _ hu
theorem ownsRow_drew {w : World} {base : Nat} {e : TypeId} {size : Nat} {v : Value} {n : Nat} {xs : List Value} (h : w.ownsRow base e size v n xs) : w.drew.ownsRow base e size v n xs := row_below h ((Below.refl _ w).drew)

set_option maxHeartbeats 4000000 in
theorem replR_calls (w : World) (N : Nd) (h : NdIn w N) (hB : N.Bd 1099511627776) (off cnt : Int) {ba : Option Addr} (bc : Nat) {us : List Nat} (hu : Sl16 w ba us) (hsum : N.data.length + us.length ≤ 1099511627776) :
    Calls Try.prog 27 #[N.v, .int .i64 off, .int .i64 cnt, .slice ba us.length bc] w fun e w' => ∃ M : Nd, e = .returned (.tuple #[M.v, .int .i64 (replD N.c off cnt us).2]) ∧ M.c = (replD N.c off cnt us).1 ∧ OwnNd w.heap.size w' M ∧ Below w.heap.size w w' := by
  obtain ⟨V, hV⟩ : ∃ V, V = (w.alloc (.cells N.cells 30)).alloc (.cells Nd.zero.cells 30) := ⟨_, rfl⟩
  have hVs : V.heap.size = w.heap.size + 2 := by rw [hV]; simp
  have hbV : Below w.heap.size w V := by rw [hV]; exact ((Below.refl _ w).alloc (Nat.le_refl _) _).alloc (by simp) _
  have x0 : V.heap[w.heap.size]? = some (.cells N.cells 30 (0, 0)) := by rw [hV]; exact alloc_blk (Go.heap_alloc_new w _) _
  have x1 : V.heap[w.heap.size + 1]? = some (.cells Nd.zero.cells 30 (0, 0)) := by
    rw [hV]; have := Go.heap_alloc_new (w.alloc (.cells N.cells 30)) (.cells Nd.zero.cells 30); rwa [World.size_alloc] at this
  have HP := Lib.hid (span_calls V N (h.below hbV) off cnt)
  have HI := Lib.hid (And.intro h (And.intro hB hu))
  have hV2 := hV
  have HX := Lib.hid (And.intro x0 (And.intro x1 (And.intro hbV hV)))
  have hcap := h.cap
  obtain ⟨hcap1, hcap2, _, _⟩ := hcap
  obtain ⟨m, em⟩ : ∃ m, m = N.data.length := ⟨_, rfl⟩
  obtain ⟨ul, eul⟩ : ∃ ul, ul = us.length := ⟨_, rfl⟩
  rw [← em, ← eul] at hsum
  rw [← em] at hcap1
  unfold Nd.cells Nd.zero at hV2
  unfold Nd.v Nd.cells at HP ⊢
  have eD : replD N.c off cnt us = (if (partD N.kind off cnt m).2 = 0 then ({ N.c with data := N.data.take off.toNat ++ us ++ N.data.drop (partD N.kind off cnt m).1.toNat }, 0) else (NC.zero, (partD N.kind off cnt m).2)) := by rw [em]; rfl
  rw [← em] at HP hV2 ⊢
  rw [← eul, eD]
  rw [hV2] at HP
  have HM := Lib.hid em
  have HU := Lib.hid eul
  clear em eul eD h hB hu hV hbV x0 x1
  by_cases hg : (partD N.kind off cnt m).2 = 0
  · obtain ⟨hk, p1, p2, p3, hp⟩ := partD_good hg
    rw [if_pos hg]
    unfold spanFrom at HP
    rw [if_pos hg] at HP
    rw [hp] at HP ⊢
    obtain ⟨r, hr⟩ : ∃ r, r = off + min cnt ((m : Int) - off) := ⟨_, rfl⟩
    rw [← hr] at HP ⊢
    have p4 : off ≤ r := by omega
    have p5 : r ≤ (m : Int) := by omega
    have p6 : r ≤ (N.dc : Int) := by omega
    have p7 : off ≤ (N.dc : Int) := by omega
    obtain ⟨o, rfl⟩ : ∃ o : Nat, off = (o : Int) := ⟨off.toNat, by omega⟩
    obtain ⟨t, rfl⟩ : ∃ t : Nat, r = (t : Int) := ⟨r.toNat, by omega⟩
    rw [Int.toNat_natCast, Int.toNat_natCast]
    clear hg hp hr hk
    go_enter Try.func27, Try.ntmps27
    go_wp2_with fail
    refine HP.out.mono ?_
    rintro e w1 ⟨rfl, b1⟩
    rw [← hV2] at b1
    have y0 := (b1.block _ (lt_of_some HX.out.1)).trans HX.out.1
    have y1 := (b1.block _ (lt_of_some HX.out.2.1)).trans HX.out.2.1
    have hs1 := b1.size
    have B1 := Lib.hid (HX.out.2.2.1.trans (b1.mono (by omega)))
    have HY := Lib.hid (And.intro y0 y1)
    obtain ⟨d0, d1, d2, d3, d4, d5, ld⟩ := box_cells y0
    rw [← HM.out] at d2
    clear b1 y0 y1 hV2 HP
    go_wp2_with fail
    have KC := cloneR_calls w1 N (HI.out.1.below B1.out) HI.out.2.1
    unfold Nd.v Nd.cells at KC
    rw [← HM.out] at KC
    refine KC.mono ?_
    rintro e w3 ⟨M, rfl, hMN, hMo, b3⟩
    clear KC
    have hs3 := b3.size
    have y0 := (b3.block _ (lt_of_some HY.out.1)).trans HY.out.1
    have y1 := (b3.block _ (lt_of_some HY.out.2)).trans HY.out.2
    have hMd : M.data.length = m := by rw [hMN.data, HM.out]
    rw [hMd]
    have B3 := Lib.hid (B1.out.trans (b3.mono (by omega)))
    have HY3 := Lib.hid (And.intro y0 y1)
    have HMM := Lib.hid (And.intro hMN (And.intro hMo hMd))
    clear d0 d1 d2 d3 d4 d5 ld
    obtain ⟨d0, d1, d2, d3, d4, d5, ld⟩ := box_cells y0
    rw [← HM.out] at d2
    clear hMN hMo hMd b3 y0 y1 HY
    go_wp2_with fail
    obtain ⟨V3, hV3⟩ : ∃ V3, V3 = w3.alloc (.cells M.cells 30) := ⟨_, rfl⟩
    have hV32 := hV3
    unfold Nd.cells at hV32
    rw [HMM.out.2.2] at hV32
    rw [← hV32]
    have hV3s : V3.heap.size = w3.heap.size + 1 := by rw [hV3]; simp
    have lbV3 : Below w3.heap.size w3 V3 := by rw [hV3]; exact (Below.refl _ w3).alloc (Nat.le_refl _) _
    have m0 : V3.heap[w3.heap.size]? = some (.cells #[.int .i64 M.kind, .string M.name, .slice M.da m M.dc, .slice M.aa M.L.length M.ac, .int .u32 M.slot, .int .u32 M.gen] 30 (0, 0)) := by rw [hV32]; exact Go.heap_alloc_new w3 _
    have hto : (N.data.take o).length = o := by rw [List.length_take, ← HM.out]; omega
    have KC := copied_calls V3 N.dc ((HI.out.1.data.below (B3.out.trans (lbV3.mono (by omega)))).take o) (by omega)
    rw [hto] at KC
    refine KC.mono ?_
    rintro e w4 ⟨a4, c4, rfl, hr4, b4⟩
    have e4 := (b4.block _ (lt_of_some m0)).trans m0
    have hs4 := b4.size
    have d4 := cell_blk e4 2 rfl
    have f4 := free_blk e4 2
    have l4 := lt_of_some e4
    simp at d4
    have k4 := set_blk e4 2 (.slice a4 o c4)
    have r4 := rwOther hr4 e4 (by decide) 2 (.slice a4 o c4)
    obtain ⟨W4, hW4⟩ : ∃ W4, W4 = w4.setCell ⟨w3.heap.size, 2, none⟩ (.slice a4 o c4) := ⟨_, rfl⟩
    have lb4 : Below w3.heap.size w3 W4 := by rw [hW4]; exact (lbV3.trans (b4.mono (by omega))).setCell (Nat.le_refl _) _
    rw [← hW4] at k4 r4
    have H4 := Lib.hid (And.intro k4 (And.intro r4 (And.intro lb4 hW4)))
    have hW4s : W4.heap.size = w4.heap.size := by rw [hW4]; simp
    have HS4 := Lib.hid (HI.out.2.2.below (B3.out.trans (lb4.mono (by omega))))
    obtain ⟨i45, hi45, ia1, ia2, ia3⟩ := info_parts info79
    clear KC hV3 hV32 m0 e4 k4 r4 lb4 hr4 b4 lbV3 hto d0 d1 d2 d3 d5 ld hW4
    go_wp2_with (at_builtin; rw [← H4.out.2.2.2]; refine wpList_append_any _ rfl (.tmp 35) (.tmp 36) 24 rfl V3.heap.size 45 i45 _ 1 2 Try.underlying24 hi45 ia1 ia2 ia3 rfl (by omega) _ o (enc16 (N.data.take o)) rfl H4.out.2.1 ba ul bc (enc16 us) rfl (by rw [enc16_len, HU.out]; simp) (by rw [HU.out]; exact HS4.out.src) enc16_one (by unfold maxLen; omega) (by omega) (by omega) ?_)
    intro a5 c5 w5 hown5 hgrow5
    have f5 : FrT [45] V3.heap.size W4 w5 := (FrT.refl _ _ _).append H4.out.2.1 (Nat.le_refl _) (by simp) hgrow5
    have e5 := f5.blk H4.out.1 (by decide)
    have hs5 : W4.heap.size ≤ w5.heap.size := hgrow5.size
    have lb5 := H4.out.2.2.1.trans ((f5.below (by omega)).mono (by omega))
    have d5 := cell_blk e5 2 rfl
    have g5 := free_blk e5 2
    have l5 := lt_of_some e5
    simp at d5
    have k5 := set_blk e5 2 (.slice a5 (o + ul) c5)
    have r5 := rwOther hown5 e5 (by decide) 2 (.slice a5 (o + ul) c5)
    obtain ⟨W5, hW5⟩ : ∃ W5, W5 = w5.setCell ⟨w3.heap.size, 2, none⟩ (.slice a5 (o + ul) c5) := ⟨_, rfl⟩
    have hW5s : W5.heap.size = w5.heap.size := by rw [hW5]; simp
    rw [← hW5] at k5 r5
    have lW5 : Below w3.heap.size w3 W5 := by rw [hW5]; exact lb5.setCell (Nat.le_refl _) _
    have H5 := Lib.hid (And.intro k5 (And.intro r5 lW5))
    have HW5 := Lib.hid hW5
    clear f5 e5 hown5 hgrow5 lb5 k5 r5 d4 f4 l4 lW5 hW5
    go_wp2_with fail
    rw [← HW5.out]
    have e5 := H5.out.1
    have h0 := (H5.out.2.2.block _ (lt_of_some HY3.out.1)).trans HY3.out.1
    clear d5 g5 l5
    obtain ⟨d0, d1, d2, d3, d4, d5, ld⟩ := box_cells h0
    rw [← HM.out] at d2
    have d22 := cell_blk e5 2 rfl
    have l22 := lt_of_some e5
    simp at d22
    clear e5 h0
    have HSRC : Hid (∀ A, (A = N.da.map (·.add t) ∨ m - t = 0) → (m - t = 0 ∨ ∃ ad, A = some ad ∧ ∀ (j : Nat) (u : Value), (enc16 (N.data.drop t))[j]? = some u → W5.drew.cell? (ad.add j) = some u)) := Lib.hid (fun A hA => by
      rcases hA with rfl | hA
      · have hp := (HI.out.1.data.below (B3.out.trans ((H5.out.2.2.trans ((Below.refl W5.heap.size W5).drew.mono (by omega))).mono (by omega)))).part t (m - t) (by rw [← HM.out]; omega)
        rw [List.take_of_length_le (by rw [List.length_drop, ← HM.out]; exact Nat.le_refl _)] at hp
        have := hp.src
        rw [List.length_drop, ← HM.out] at this
        exact this
      · exact .inl hA)
    -- R7
    refine wp_region_any (by kernel_rfl) ?_
    change wpAny _ _ _ _ _ _ _ (World.drew _)
    refine wpAny_take (i := 0) (v := ?_) rfl (by kernel_rfl) (by kernel_rfl) (by kernel_rfl) (fun _ _ _ h => h) (Or.inl ⟨by rfl, ?_⟩) ?_
    rotate_left
    · intro w; go_simp; try with_reducible rfl
    refine wpAny_take (i := 2) (v := ?_) rfl (by kernel_rfl) (by kernel_rfl) (by kernel_rfl) (fun _ _ _ h => h) (Or.inl ⟨by rfl, ?_⟩) ?_
    rotate_left
    · intro w; go_simp; try with_reducible rfl
    refine wpAny_take (i := 4) (v := ?_) rfl (by kernel_rfl) (by kernel_rfl) (by kernel_rfl) (fun _ _ _ h => h) (Or.inl ⟨by rfl, ?_⟩) ?_
    rotate_left
    · intro w; go_simp; try with_reducible rfl
    refine wpAny_all (rs := [1, 3]) (by kernel_rfl) (by simp) (fun i hi => ?_)
    have hi' : i = 1 ∨ i = 3 := by simpa using hi
    clear hi
    rcases hi' with rfl | rfl
    · refine wpOp_step rfl (fun K hK => ?_)
      go_simp
      refine hK _ _ ?_
      clear hK K
      refine wpAny_all (rs := [3]) (by kernel_rfl) (by simp) (fun i hi => ?_)
      obtain rfl : i = 3 := by simpa using hi
      clear hi
      refine wpOp_step rfl (fun K hK => ?_)
      go_simp
      refine hK _ _ ?_
      clear hK K
      refine wpAny_take (i := 5) (v := ?_) rfl (by kernel_rfl) (by kernel_rfl) (by kernel_rfl) (fun _ _ _ h => h) (Or.inl ⟨by rfl, ?_⟩) ?_
      rotate_left
      · intro w; go_simp; try with_reducible rfl
      refine wpAny_all (rs := [6]) (by kernel_rfl) (by simp) (fun i hi => ?_)
      obtain rfl : i = 6 := by simpa using hi
      clear hi
      refine wpOp_step rfl (fun K hK => ?_)
      refine step_append_any _ rfl (.tmp 40) (.tmp 44) 24 rfl (w3.heap.size + 1) 45 i45 _ 1 2 Try.underlying24 hi45 ia1 ia2 ia3 rfl (by omega) _ (o + ul) _ rfl (ownsRow_drew H5.out.2.1) (if N.dc = t then N.da else N.da.map (·.add t)) (m - t) _ (enc16 (N.data.drop t)) rfl (by rw [enc16_len, List.length_drop, HM.out]; simp) (HSRC.out _ (by by_cases hdt : N.dc = t; exact .inr (by omega); exact .inl (if_neg hdt))) enc16_one (by unfold maxLen; omega) (by omega) (by simp; omega) ?_
      intro a6 c6 w6 hown6 hgrow6
      refine hK _ _ ?_
      clear hK K
      have f6 : FrT [45] (w3.heap.size + 1) W5 w6 := ((FrT.refl _ _ _).drew).append (ownsRow_drew H5.out.2.1) (Nat.le_refl _) (by simp) hgrow6
      have e6 := f6.blk H5.out.1 (by decide)
      have d6 := cell_blk e6 2 rfl
      have g6 := free_blk e6 2
      have l6 := lt_of_some e6
      simp at d6
      have H6 := Lib.hid (And.intro e6 (And.intro hown6 (H5.out.2.2.trans ((f6.below (by omega)).mono (by omega)))))
      clear hown6 hgrow6 f6 e6
      refine wpAny_take (i := 7) (v := ?_) rfl (by kernel_rfl) (by kernel_rfl) (by kernel_rfl) (fun _ _ _ h => h) (Or.inl ⟨by rfl, ?_⟩) ?_
      rotate_left
      · intro w; go_simp; try with_reducible rfl
      refine wpAny_all (rs := [8]) (by kernel_rfl) (by simp) (fun i hi => ?_)
      obtain rfl : i = 8 := by simpa using hi
      clear hi
      refine wpOp_step rfl (fun K hK => ?_)
      go_simp
      refine hK _ _ ?_
      clear hK K
      refine wpAny_done (by kernel_rfl) ?_ _
      clear d0 d1 d2 d3 d4 d5 ld d22 l22
      have k6 := set_blk H6.out.1 2 (.slice a6 (o + ul + (m - t)) c6)
      have r6 := rwOther H6.out.2.1 H6.out.1 (by decide) 2 (.slice a6 (o + ul + (m - t)) c6)
      obtain ⟨W6, hW6⟩ : ∃ W6, W6 = w6.setCell ⟨w3.heap.size, 2, none⟩ (.slice a6 (o + ul + (m - t)) c6) := ⟨_, rfl⟩
      have lb6 : Below w3.heap.size w3 W6 := by rw [hW6]; exact H6.out.2.2.setCell (Nat.le_refl _) _
      rw [← hW6] at k6 r6 ⊢
      have HF := Lib.hid (And.intro k6 (And.intro r6 lb6))
      clear k6 r6 lb6 hW6 d6 g6 l6 H6
      have h1 := (HF.out.2.2.block _ (lt_of_some HY3.out.2)).trans HY3.out.2
      obtain ⟨d0, d1, d2, d3, d4, d5, ld⟩ := box_cells h1
      simp only [Nd.zero] at d0 d1 d2 d3 d4 d5
      simp at d2 d3
      have c0 := fun j u (h : (#[Value.int IntKind.i64 M.kind, Value.string M.name, Value.slice a6 (o + ul + (m - t)) c6, Value.slice M.aa M.L.length M.ac, Value.int IntKind.u32 M.slot, Value.int IntKind.u32 M.gen] : Array Value)[j]? = some u) => cell_blk HF.out.1 j h
      have c00 := c0 0 _ rfl
      have c01 := c0 1 _ rfl
      have c02 := c0 2 _ rfl
      have c03 := c0 3 _ rfl
      have c04 := c0 4 _ rfl
      have c05 := c0 5 _ rfl
      have g0 := fun j => free_blk h1 j
      have le0 := lt_of_some HF.out.1
      obtain ⟨hE, hFr⟩ := six_cells h1 (.int .i64 M.kind) (.string M.name) (.slice a6 (o + ul + (m - t)) c6) (.slice M.aa M.L.length M.ac) (.int .u32 M.slot) (.int .u32 M.gen)
      have HE := Lib.hid (And.intro hE hFr)
      clear h1 c0 hE hFr
      go_wp2_with fail
      all_goals
        have z0 := cell_blk HE.out.1 0 rfl
        have z1 := cell_blk HE.out.1 1 rfl
        have z2 := cell_blk HE.out.1 2 rfl
        have z3 := cell_blk HE.out.1 3 rfl
        have z4 := cell_blk HE.out.1 4 rfl
        have z5 := cell_blk HE.out.1 5 rfl
        skip
        have hM := HMM.out.2.1.below HF.out.2.2
        have hlen : (N.data.take o ++ us ++ N.data.drop t).length = o + ul + (m - t) := by rw [List.length_append, List.length_append, List.length_take, List.length_drop, ← HM.out, ← HU.out]; omega
        have hfr := HE.out.2
        refine bodyPost_ret (v := .tuple #[.agg #[.int .i64 M.kind, .string M.name, .slice a6 (o + ul + (m - t)) c6, .slice M.aa M.L.length M.ac, .int .u32 M.slot, .int .u32 M.gen], .int .i64 0]) (by simp [results, Try.results27, go_sem, z0, z1, z2, z3, z4, z5]) rfl ⟨⟨M.kind, M.name, a6, c6, N.data.take o ++ us ++ N.data.drop t, M.aa, M.ac, M.L, M.slot, M.gen⟩, by simp only [hlen], ?_, ⟨?_, ?_, hfr.row (hM.attrs.mono (by omega)) (by decide), fun x hx => ?_, hM.nams, hM.nam, ⟨by simp only [hlen]; omega, hM.bd.attrs, hM.bd.val⟩⟩, ?_⟩
        · have := HMM.out.1.c
          unfold Nd.c at this ⊢
          simp only [NC.mk.injEq] at this ⊢
          exact ⟨this.1, this.2.1, by simp, this.2.2.2.1, this.2.2.2.2⟩
        · have hr := hfr.row (HF.out.2.1.mono (show w.heap.size ≤ w3.heap.size + 1 by omega)) (by decide)
          simp only [hlen]
          simpa [enc16] using hr
        · intro u hu
          rcases List.mem_append.1 hu with hu | hu
          · rcases List.mem_append.1 hu with hu | hu
            · exact HI.out.1.data.bnd u (List.mem_of_mem_take hu)
            · exact HI.out.2.2.bnd u hu
          · exact HI.out.1.data.bnd u (List.mem_of_mem_drop hu)
        · have h1 := hM.val x hx
          obtain ⟨cap, hr⟩ := h1.row
          exact ⟨⟨cap, hfr.row (hr.mono (by omega)) (by decide)⟩, h1.bnd, h1.len⟩
        · exact B3.out.trans ((HF.out.2.2.mono (by omega)).trans ((hfr.below (by omega)).mono (by omega)))
    · refine wpOp_step rfl (fun K hK => ?_)
      go_simp
      refine hK _ _ ?_
      clear hK K
      refine wpAny_take (i := 5) (v := ?_) rfl (by kernel_rfl) (by kernel_rfl) (by kernel_rfl) (fun _ _ _ h => h) (Or.inl ⟨by rfl, ?_⟩) ?_
      rotate_left
      · intro w; go_simp; try with_reducible rfl
      refine wpAny_all (rs := [1]) (by kernel_rfl) (by simp) (fun i hi => ?_)
      obtain rfl : i = 1 := by simpa using hi
      clear hi
      refine wpOp_step rfl (fun K hK => ?_)
      go_simp
      refine hK _ _ ?_
      clear hK K
      refine wpAny_all (rs := [6]) (by kernel_rfl) (by simp) (fun i hi => ?_)
      obtain rfl : i = 6 := by simpa using hi
      clear hi
      refine wpOp_step rfl (fun K hK => ?_)
      refine step_append_any _ rfl (.tmp 40) (.tmp 44) 24 rfl (w3.heap.size + 1) 45 i45 _ 1 2 Try.underlying24 hi45 ia1 ia2 ia3 rfl (by omega) _ (o + ul) _ rfl (ownsRow_drew H5.out.2.1) (if N.dc = t then N.da else N.da.map (·.add t)) (m - t) _ (enc16 (N.data.drop t)) rfl (by rw [enc16_len, List.length_drop, HM.out]; simp) (HSRC.out _ (by by_cases hdt : N.dc = t; exact .inr (by omega); exact .inl (if_neg hdt))) enc16_one (by unfold maxLen; omega) (by omega) (by simp; omega) ?_
      intro a6 c6 w6 hown6 hgrow6
      refine hK _ _ ?_
      clear hK K
      have f6 : FrT [45] (w3.heap.size + 1) W5 w6 := ((FrT.refl _ _ _).drew).append (ownsRow_drew H5.out.2.1) (Nat.le_refl _) (by simp) hgrow6
      have e6 := f6.blk H5.out.1 (by decide)
      have d6 := cell_blk e6 2 rfl
      have g6 := free_blk e6 2
      have l6 := lt_of_some e6
      simp at d6
      have H6 := Lib.hid (And.intro e6 (And.intro hown6 (H5.out.2.2.trans ((f6.below (by omega)).mono (by omega)))))
      clear hown6 hgrow6 f6 e6
      refine wpAny_take (i := 7) (v := ?_) rfl (by kernel_rfl) (by kernel_rfl) (by kernel_rfl) (fun _ _ _ h => h) (Or.inl ⟨by rfl, ?_⟩) ?_
      rotate_left
      · intro w; go_simp; try with_reducible rfl
      refine wpAny_all (rs := [8]) (by kernel_rfl) (by simp) (fun i hi => ?_)
      obtain rfl : i = 8 := by simpa using hi
      clear hi
      refine wpOp_step rfl (fun K hK => ?_)
      go_simp
      refine hK _ _ ?_
      clear hK K
      refine wpAny_done (by kernel_rfl) ?_ _
      clear d0 d1 d2 d3 d4 d5 ld d22 l22
      have k6 := set_blk H6.out.1 2 (.slice a6 (o + ul + (m - t)) c6)
      have r6 := rwOther H6.out.2.1 H6.out.1 (by decide) 2 (.slice a6 (o + ul + (m - t)) c6)
      obtain ⟨W6, hW6⟩ : ∃ W6, W6 = w6.setCell ⟨w3.heap.size, 2, none⟩ (.slice a6 (o + ul + (m - t)) c6) := ⟨_, rfl⟩
      have lb6 : Below w3.heap.size w3 W6 := by rw [hW6]; exact H6.out.2.2.setCell (Nat.le_refl _) _
      rw [← hW6] at k6 r6 ⊢
      have HF := Lib.hid (And.intro k6 (And.intro r6 lb6))
      clear k6 r6 lb6 hW6 d6 g6 l6 H6
      have h1 := (HF.out.2.2.block _ (lt_of_some HY3.out.2)).trans HY3.out.2
      obtain ⟨d0, d1, d2, d3, d4, d5, ld⟩ := box_cells h1
      simp only [Nd.zero] at d0 d1 d2 d3 d4 d5
      simp at d2 d3
      have c0 := fun j u (h : (#[Value.int IntKind.i64 M.kind, Value.string M.name, Value.slice a6 (o + ul + (m - t)) c6, Value.slice M.aa M.L.length M.ac, Value.int IntKind.u32 M.slot, Value.int IntKind.u32 M.gen] : Array Value)[j]? = some u) => cell_blk HF.out.1 j h
      have c00 := c0 0 _ rfl
      have c01 := c0 1 _ rfl
      have c02 := c0 2 _ rfl
      have c03 := c0 3 _ rfl
      have c04 := c0 4 _ rfl
      have c05 := c0 5 _ rfl
      have g0 := fun j => free_blk h1 j
      have le0 := lt_of_some HF.out.1
      obtain ⟨hE, hFr⟩ := six_cells h1 (.int .i64 M.kind) (.string M.name) (.slice a6 (o + ul + (m - t)) c6) (.slice M.aa M.L.length M.ac) (.int .u32 M.slot) (.int .u32 M.gen)
      have HE := Lib.hid (And.intro hE hFr)
      clear h1 c0 hE hFr
      go_wp2_with fail
      all_goals
        have z0 := cell_blk HE.out.1 0 rfl
        have z1 := cell_blk HE.out.1 1 rfl
        have z2 := cell_blk HE.out.1 2 rfl
        have z3 := cell_blk HE.out.1 3 rfl
        have z4 := cell_blk HE.out.1 4 rfl
        have z5 := cell_blk HE.out.1 5 rfl
        skip
        have hM := HMM.out.2.1.below HF.out.2.2
        have hlen : (N.data.take o ++ us ++ N.data.drop t).length = o + ul + (m - t) := by rw [List.length_append, List.length_append, List.length_take, List.length_drop, ← HM.out, ← HU.out]; omega
        have hfr := HE.out.2
        refine bodyPost_ret (v := .tuple #[.agg #[.int .i64 M.kind, .string M.name, .slice a6 (o + ul + (m - t)) c6, .slice M.aa M.L.length M.ac, .int .u32 M.slot, .int .u32 M.gen], .int .i64 0]) (by simp [results, Try.results27, go_sem, z0, z1, z2, z3, z4, z5]) rfl ⟨⟨M.kind, M.name, a6, c6, N.data.take o ++ us ++ N.data.drop t, M.aa, M.ac, M.L, M.slot, M.gen⟩, by simp only [hlen], ?_, ⟨?_, ?_, hfr.row (hM.attrs.mono (by omega)) (by decide), fun x hx => ?_, hM.nams, hM.nam, ⟨by simp only [hlen]; omega, hM.bd.attrs, hM.bd.val⟩⟩, ?_⟩
        · have := HMM.out.1.c
          unfold Nd.c at this ⊢
          simp only [NC.mk.injEq] at this ⊢
          exact ⟨this.1, this.2.1, by simp, this.2.2.2.1, this.2.2.2.2⟩
        · have hr := hfr.row (HF.out.2.1.mono (show w.heap.size ≤ w3.heap.size + 1 by omega)) (by decide)
          simp only [hlen]
          simpa [enc16] using hr
        · intro u hu
          rcases List.mem_append.1 hu with hu | hu
          · rcases List.mem_append.1 hu with hu | hu
            · exact HI.out.1.data.bnd u (List.mem_of_mem_take hu)
            · exact HI.out.2.2.bnd u hu
          · exact HI.out.1.data.bnd u (List.mem_of_mem_drop hu)
        · have h1 := hM.val x hx
          obtain ⟨cap, hr⟩ := h1.row
          exact ⟨⟨cap, hfr.row (hr.mono (by omega)) (by decide)⟩, h1.bnd, h1.len⟩
        · exact B3.out.trans ((HF.out.2.2.mono (by omega)).trans ((hfr.below (by omega)).mono (by omega)))
    -- R7 END
  · obtain ⟨h1, h2⟩ := partD_bad hg
    rw [if_neg hg]
    unfold spanFrom at HP
    rw [h1, if_neg hg] at HP
    obtain ⟨c, hc⟩ : ∃ c, c = (partD N.kind off cnt m).2 := ⟨_, rfl⟩
    rw [← hc] at HP hg h2 ⊢
    clear hc h1
    have hcc : (c != 0) = true := by simpa using hg
    go_enter Try.func27, Try.ntmps27
    go_wp2_with fail
    refine HP.out.mono ?_
    rintro e w1 ⟨rfl, b1⟩
    rw [← hV2] at b1
    have y1 := (b1.block _ (lt_of_some HX.out.2.1)).trans HX.out.2.1
    have B1 := Lib.hid (HX.out.2.2.1.trans (b1.mono (by omega)))
    obtain ⟨d0, d1, d2, d3, d4, d5, ld⟩ := box_cells y1
    have g0 := fun j => free_blk y1 j
    obtain ⟨hE, hF⟩ := six_cells y1 (.int .i64 0) (.string ⟨#[]⟩) (.slice none 0 0) (.slice none 0 0) (.int .u32 0) (.int .u32 0)
    have HE := Lib.hid (And.intro hE hF)
    simp only [Nd.zero] at d0 d1 d2 d3 d4 d5
    clear b1 y1 hV2 hE hF
    simp at d2 d3
    go_wp2_with fail
    have z0 := cell_blk HE.out.1 0 rfl
    have z1 := cell_blk HE.out.1 1 rfl
    have z2 := cell_blk HE.out.1 2 rfl
    have z3 := cell_blk HE.out.1 3 rfl
    have z4 := cell_blk HE.out.1 4 rfl
    have z5 := cell_blk HE.out.1 5 rfl
    skip
    exact bodyPost_ret (v := .tuple #[.agg #[.int .i64 0, .string ⟨#[]⟩, .slice none 0 0, .slice none 0 0, .int .u32 0, .int .u32 0], .int .i64 c]) (by simp [results, Try.results27, go_sem, z0, z1, z2, z3, z4, z5]) rfl ⟨Nd.zero, rfl, rfl, OwnNd.zero _ _, B1.out.trans ((HE.out.2.below (by omega)).mono (by omega))⟩
end Go.Proofs.Ytelhnaphkbpakaa

