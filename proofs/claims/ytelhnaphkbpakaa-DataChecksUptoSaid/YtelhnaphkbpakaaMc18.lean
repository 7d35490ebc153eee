/- node walked: in memory of its own, with room behind its lists. -/
import Derived.Test.YtelhnaphkbpakaaMc17
namespace Go.Proofs.Ytelhnaphkbpakaa
open Go.RowKit
set_option linter.unusedVariables false
set_option maxRecDepth 100000

set_option maxHeartbeats 4000000 in
theorem node_calls (w : World) (N : Nd) (h : NdIn w N) (hB : N.Bd 1048576) :
    Calls Try.prog 14 #[N.v] w fun e w' => ∃ M : Nd, e = .returned M.v ∧ M.Same N ∧ LentNd w.heap.size w' M ∧ Below w.heap.size w w' := by
  have HNI := Lib.hid h
  have HBD := Lib.hid hB
  have hb1 := hB.data
  have hb2 := hB.attrs
  have hb3 := hB.val
  obtain ⟨V, hV⟩ : ∃ V, V = ((w.alloc (.cells N.cells 30)).alloc (.cells Nd.zero.cells 30)).alloc (.cells N.cells 30) := ⟨_, rfl⟩
  have hVs : V.heap.size = w.heap.size + 3 := by rw [hV]; simp
  have hbV : Below w.heap.size w V := by rw [hV]; exact (((Below.refl _ w).alloc (Nat.le_refl _) _).alloc (by simp) _).alloc (by simp; omega) _
  have x0 : V.heap[w.heap.size]? = some (.cells N.cells 30 (0, 0)) := by rw [hV]; exact alloc_blk (alloc_blk (Go.heap_alloc_new w _) _) _
  have x1 : V.heap[w.heap.size + 1]? = some (.cells Nd.zero.cells 30 (0, 0)) := by
    rw [hV]; have := Go.heap_alloc_new (w.alloc (.cells N.cells 30)) (.cells Nd.zero.cells 30); rw [World.size_alloc] at this; exact alloc_blk this _
  have x2 : V.heap[w.heap.size + 2]? = some (.cells N.cells 30 (0, 0)) := by
    rw [hV]; have := Go.heap_alloc_new ((w.alloc (.cells N.cells 30)).alloc (.cells Nd.zero.cells 30)) (.cells N.cells 30); rwa [World.size_alloc, World.size_alloc] at this
  have hV2 := hV
  have HX := Lib.hid (And.intro x0 (And.intro x1 (And.intro x2 (And.intro hbV hV))))
  unfold Nd.cells Nd.zero at hV2
  unfold Nd.v Nd.cells
  have KC := Lib.hid (units_calls N.dc (h.data.below hbV) hb1)
  clear hV hbV x0 x1 x2 h hB
  obtain ⟨n, en⟩ : ∃ n, n = N.L.length := ⟨_, rfl⟩
  obtain ⟨m, em⟩ : ∃ m, m = N.data.length := ⟨_, rfl⟩
  rw [← en] at hb2 hV2 ⊢
  rw [← em] at hb1 hV2 KC ⊢
  have HN := Lib.hid en
  have HM := Lib.hid em
  rw [hV2] at KC
  clear en em
  have q1 : IntKind.i64.wrap ((n : Int) + 2) = (n : Int) + 2 := IntWalk.i64_in _ (by omega)
  go_enter Try.func14, Try.ntmps14
  go_wp2_with fail
  refine KC.out.mono ?_
  rintro e w2 ⟨a1, c1, rfl, hr1, b2⟩
  rw [← hV2] at hr1 b2
  have y0 := (b2.block _ (lt_of_some HX.out.1)).trans HX.out.1
  have y1 := (b2.block _ (lt_of_some HX.out.2.1)).trans HX.out.2.1
  have y2 := (b2.block _ (lt_of_some HX.out.2.2.1)).trans HX.out.2.2.1
  have hs2 := b2.size
  have lb := HX.out.2.2.2.1.trans (b2.mono (by omega))
  have f2 := free_blk y2 2
  have l2 := lt_of_some y2
  have d2 := cell_blk y2 2 rfl
  have n3 : w2.cell? ⟨w.heap.size, 3, none⟩ = some (.slice N.aa n N.ac) := by rw [HN.out]; exact (box_cells y0).2.2.2.1
  obtain ⟨Q, hQ⟩ : ∃ Q, Q = w2.setCell ⟨w.heap.size + 2, 2, none⟩ (.slice a1 m c1) := ⟨_, rfl⟩
  have q2 := set_blk y2 2 (.slice a1 m c1)
  rw [← hQ] at q2
  have hQs : Q.heap.size = w2.heap.size := by rw [hQ]; simp
  have g0 : Q.heap[w.heap.size]? = some (.cells N.cells 30 (0, 0)) := by rw [hQ]; exact set_other y0 (by simp) _
  have g1 : Q.heap[w.heap.size + 1]? = some (.cells Nd.zero.cells 30 (0, 0)) := by rw [hQ]; exact set_other y1 (by simp) _
  have gr : LentU w.heap.size Q a1 c1 N.data := by rw [hQ]; exact ⟨rwOther (hr1.row.mono (by omega)) y2 (by decide) _ _, hr1.bnd, hr1.len⟩
  have gl : Below w.heap.size w Q := by rw [hQ]; exact lb.setCell (by simp) _
  try simp at d2
  have HQ := Lib.hid (And.intro hQ (And.intro g0 (And.intro g1 (And.intro q2 (And.intro gr gl)))))
  have hsQ : w.heap.size ≤ Q.heap.size := by omega
  clear hr1 b2 y0 y1 y2 lb q2 g0 g1 gr gl HX KC hV2 hQ
  obtain ⟨i72, hi72, ia1, ia2, ia3⟩ := info_parts info72
  go_wp2_with (at_make; rw [← HQ.out.1]; refine wpList_make_own _ rfl _ _ 25 rfl w.heap.size 72 i72 _ 2 Try.underlying25 hi72 ia1 ia2 .i64 .i64 _ (n + 2) rfl rfl (by omega) (by rw [ia3]; omega) (by unfold maxLen; omega) hsQ ?_)
  intro w3 hown3 hgrow3
  have b3 : Below Q.heap.size Q w3 := grown_below hgrow3 (fun x h => by cases h) (Nat.le_refl _)
  have hcr : NR w N a1 c1 w3 0 [] (some ⟨w2.heap.size, 0, none⟩) (n + 2) :=
    ⟨(b3.block _ (lt_of_some HQ.out.2.1)).trans HQ.out.2.1, (b3.block _ (lt_of_some HQ.out.2.2.1)).trans HQ.out.2.2.1, (b3.block _ (lt_of_some HQ.out.2.2.2.1)).trans (by rw [HQ.out.2.2.2.1, HM.out]; rfl), HQ.out.2.2.2.2.1.below b3, hown3, by simp, HQ.out.2.2.2.2.2.trans (b3.mono hsQ)⟩
  have hs3 : w.heap.size ≤ w3.heap.size := hcr.low.size
  have HCR := Lib.hid hcr
  have n3 : w3.cell? ⟨w.heap.size, 3, none⟩ = some (.slice N.aa n N.ac) := by rw [HN.out]; exact (box_cells hcr.box).2.2.2.1
  have ln3 := lt_of_some hcr.box
  clear hown3 hgrow3 b3 hcr f2 l2 d2
  go_wp2_with fail
  go_loopw [4, 20] (fun v4 v20 wr => ∃ (i : Nat) (K : List LA) (A : Option Addr) (C : Nat), v4 = .slice A i C ∧ v20 = .int .i64 (i : Nat) ∧ i ≤ n ∧ K.length = i ∧ K.map attrOf = (N.L.take i).map attrOf ∧ NR w N a1 c1 wr i K A C) (fun _ v _ => n - (intOf v).toNat)
  case atStart => exact ⟨0, [], _, _, rfl, rfl, Nat.zero_le _, rfl, rfl, HCR.out⟩
  case round =>
    clear n3 ln3
    obtain ⟨i, K, A, C, rfl, rfl, hi, hKl, hKm, hcr⟩ := hrel
    have hsr : w.heap.size ≤ wr.heap.size := hcr.low.size
    by_cases hlt : i < n
    · obtain ⟨x, hx⟩ : ∃ x, N.L[i]? = some x := ⟨_, List.getElem?_eq_getElem (by rw [← HN.out]; exact hlt)⟩
      obtain ⟨bA, oA, hAA, hbA, c1', c2'⟩ := HNI.out.attrs.get hx
      obtain ⟨xl, exl⟩ : ∃ xl, xl = x.val.length := ⟨_, rfl⟩
      have hxm := List.mem_of_getElem? hx
      have hxl : xl ≤ 1048576 := by rw [exl]; exact hb3 x hxm
      rw [← exl] at c2'
      have z4 := (hcr.low.cell (p := ⟨bA, oA + i * 2, none⟩) hbA).trans c1'
      have z5 := (hcr.low.cell (p := ⟨bA, oA + i * 2 + 1, none⟩) hbA).trans c2'
      have lbA : bA < wr.heap.size := by omega
      have p0 : (0 : Int) ≤ (i : Int) := by omega
      have p1 : (i : Int) < (n : Int) := by omega
      obtain ⟨W, hW⟩ : ∃ W, W = wr.alloc (.cells #[.string x.name, .slice x.va xl x.vc] 72) := ⟨_, rfl⟩
      have hWx : W.heap[wr.heap.size]? = some (.cells #[.string x.name, .slice x.va xl x.vc] 72 (0, 0)) := by rw [hW]; exact Go.heap_alloc_new wr _
      have hbW : Below wr.heap.size wr W := by rw [hW]; exact (Below.refl _ wr).alloc (Nat.le_refl _) _
      have hcW := hcr.below hbW
      have hneA : (Value.slice A i C).ownBlock ≠ some wr.heap.size := fun e => by have := hcr.row.lt _ e; omega
      have HCALL := Lib.hid (show Calls Try.prog 22 #[.slice x.va xl x.vc] W.drew fun e w' => ∃ a' cap, e = .returned (.slice a' xl cap) ∧ LentU W.heap.size w' a' cap x.val ∧ Below W.heap.size W.drew w' by
        have h := units_calls x.vc ((HNI.out.attrs.val x hxm).below (hcW.low.trans ((Below.refl _ W).drew.mono hcW.low.size))) (by rw [← exl]; exact hxl)
        rw [← exl] at h
        exact h)
      have HX := Lib.hid (And.intro hx (And.intro hxm (And.intro exl (And.intro hKl (And.intro hKm (And.intro hcW (And.intro hWx (And.intro hW hneA))))))))
      have hWs : wr.heap.size ≤ W.heap.size := hbW.size
      have HK0 := Lib.hid (show W.drew.heap[wr.heap.size]? = some (.cells #[.string x.name, .slice x.va xl x.vc] 72 (0, 0)) from hWx)
      have HS : Hid (∀ w' : World, w'.heap[wr.heap.size]? = some (.cells #[.string x.name, .slice x.va xl x.vc] 72 (0, 0)) → (w'.cell? ⟨wr.heap.size, 0, none⟩ = some (.string x.name) ∧ w'.cell? ⟨wr.heap.size, 1, none⟩ = some (.slice x.va xl x.vc))) := Lib.hid (fun w' h => ⟨cell_blk h 0 rfl, cell_blk h 1 rfl⟩)
      rw [hAA] at *
      clear c1' c2' hx hxm exl hKl hKm hcr hcW hWx hbW hneA
      go_wp2_with fail
      rw [← HX.out.2.2.2.2.2.2.2.1]
      clear hW
      go_region_held3 (fun w' => w'.cell? ⟨wr.heap.size, 0, none⟩ = some (.string x.name) ∧ w'.cell? ⟨wr.heap.size, 1, none⟩ = some (.slice x.va xl x.vc))
        (first | exact HS.out _ HK6.out | exact HS.out _ (HKA.out _) | exact HS.out _ HK5.out | exact HS.out _ HK0.out)
        (first
          | (have hh := HK5; refine step_append_any _ rfl (.tmp 24) (.tmp 31) 25 rfl w.heap.size 72 i72 _ 2 40 Try.underlying25 hi72 ia1 ia2 ia3 rfl (by omega) _ i (cellsA K) rfl (H5.out.1.row.alloc _) (some ⟨w5.heap.size, 0, none⟩) 1 1 [.string x.name, .slice a5 xl c5] rfl rfl (.inr ⟨_, rfl, World.news_of_block (cs := #[.string x.name, .slice a5 xl c5]) (t := 72) (fr := (0, 0)) (Go.heap_alloc_new w5 _)⟩) (by simp [Value.oneCell']) (by unfold maxLen; omega) (by omega) (by simp; omega) ?_; intro a6 c6 w6 hown6 hgrow6; have HK6 := Lib.hid (grown_blk hgrow6 (alloc_blk HK5.out _) HX.out.2.2.2.2.2.2.2.2); have H6 := Lib.hid (And.intro hown6 hgrow6); clear hown6 hgrow6)
          | (go_at_call 22; refine HCALL.out.mono ?_; rintro e w5 ⟨a5, c5, rfl, hr5, b5⟩; have HK5 := Lib.hid ((b5.block _ (lt_of_some HK0.out)).trans HK0.out); have hcr5 := (HX.out.2.2.2.2.2.1.below ((Below.refl _ W).drew)).below b5; have hs5 : w.heap.size ≤ w5.heap.size := hcr5.low.size; have H5 := Lib.hid (And.intro hcr5 (And.intro hr5 b5)); have HKA := Lib.hid (fun o => alloc_blk HK5.out o); clear hcr5 hr5 b5; dsimp only))
      have hal : Below w5.heap.size w5 (w5.alloc (.cells #[.string x.name, .slice a5 xl c5] 72)) := (Below.refl _ w5).alloc (Nat.le_refl _) _
      have hfin := (H5.out.1.below hal).push ⟨x.name, a5, c5, x.val⟩ ((H5.out.2.1.mono (by omega)).below hal) (A' := a6) (C' := c6) (by unfold LA.cells; rw [← HX.out.2.2.1]; exact H6.out.1) H6.out.2
      have HF := Lib.hid hfin
      clear hfin hal
      go_wp2
      go_roundw
      case rel =>
        refine ⟨i + 1, K ++ [⟨x.name, a5, c5, x.val⟩], a6, c6, rfl, by go_num, hlt, by simp [HX.out.2.2.2.1], ?_, HF.out⟩
        rw [List.take_add_one, HX.out.1]
        simp [HX.out.2.2.2.2.1, attrOf]
      case measure => simp [intOf]; omega
    · obtain rfl : i = n := by omega
      have p1 : ¬ (i : Int) < (i : Int) := by omega
      obtain ⟨W, hW⟩ : ∃ W, W = wr.drew := ⟨_, rfl⟩
      have HRW := Lib.hid (And.intro hKl (And.intro hKm hcr))
      have HS : Hid (∀ w' : World, w'.heap[w.heap.size]? = some (.cells N.cells 30 (0, 0)) → w'.heap[w.heap.size + 2]? = some (.cells #[.int .i64 N.kind, .string N.name, .slice a1 N.data.length c1, .slice N.aa N.L.length N.ac, .int .u32 N.slot, .int .u32 N.gen] 30 (0, 0)) → (w'.cell? ⟨w.heap.size, 3, none⟩ = some (.slice N.aa i N.ac) ∧ w'.cell? ⟨w.heap.size + 2, 3, none⟩ = some (Cl w' ⟨w.heap.size + 2, 3, none⟩) ∧ w'.frozen? ⟨w.heap.size + 2, 3, none⟩ = false)) := Lib.hid (fun w' h1 h2 => by
        exact ⟨by rw [HN.out]; exact (box_cells h1).2.2.2.1, cl_of (cell_blk h2 3 rfl), free_blk h2 3⟩)
      have hne : w.heap.size ≠ w.heap.size + 2 := by omega
      have HS2 : Hid (∀ (w' : World) (v : Value), w'.heap[w.heap.size]? = some (.cells N.cells 30 (0, 0)) → w'.heap[w.heap.size + 2]? = some (.cells #[.int .i64 N.kind, .string N.name, .slice a1 N.data.length c1, .slice N.aa N.L.length N.ac, .int .u32 N.slot, .int .u32 N.gen] 30 (0, 0)) → ((w'.setCell ⟨w.heap.size + 2, 3, none⟩ v).cell? ⟨w.heap.size, 3, none⟩ = some (.slice N.aa i N.ac) ∧ (w'.setCell ⟨w.heap.size + 2, 3, none⟩ v).cell? ⟨w.heap.size + 2, 3, none⟩ = some (Cl (w'.setCell ⟨w.heap.size + 2, 3, none⟩ v) ⟨w.heap.size + 2, 3, none⟩) ∧ (w'.setCell ⟨w.heap.size + 2, 3, none⟩ v).frozen? ⟨w.heap.size + 2, 3, none⟩ = false)) := Lib.hid (fun w' v h1 h2 => by
        obtain ⟨a0, a1, a2⟩ := HS.out w' h1 h2
        exact ⟨(set_cell_ne v hne).trans a0, cl_set _ _ a1, by rw [World.frozen?_setCell]; exact a2⟩)
      obtain ⟨s0, s1, s2⟩ := HS.out wr hcr.box hcr.out
      have HB0 := Lib.hid (And.intro (show wr.drew.heap[w.heap.size]? = _ from hcr.box) (show wr.drew.heap[w.heap.size + 2]? = _ from hcr.out))
      have HBA : Hid (∀ c, (wr.alloc c).drew.heap[w.heap.size]? = some (.cells N.cells 30 (0, 0)) ∧ (wr.alloc c).drew.heap[w.heap.size + 2]? = some (.cells #[.int .i64 N.kind, .string N.name, .slice a1 N.data.length c1, .slice N.aa N.L.length N.ac, .int .u32 N.slot, .int .u32 N.gen] 30 (0, 0))) := Lib.hid (fun c => ⟨alloc_blk hcr.box c, alloc_blk hcr.out c⟩)
      clear hKl hKm hcr hlt hne hW
      go_wp2_with fail
      go_region_held3 (fun w' => w'.cell? ⟨w.heap.size, 3, none⟩ = some (.slice N.aa i N.ac) ∧ w'.cell? ⟨w.heap.size + 2, 3, none⟩ = some (Cl w' ⟨w.heap.size + 2, 3, none⟩) ∧ w'.frozen? ⟨w.heap.size + 2, 3, none⟩ = false)
        (first | exact HS2.out _ _ HB6.out.1 HB6.out.2 | exact HS.out _ HB6.out.1 HB6.out.2 | exact HS.out _ (HBA.out _).1 (HBA.out _).2 | exact HS.out _ HB0.out.1 HB0.out.2)
        (first
          | (refine step_append_any _ rfl (.tmp 34) (.tmp 37) 25 rfl w.heap.size 72 i72 _ 2 40 Try.underlying25 hi72 ia1 ia2 ia3 rfl (by omega) _ i (cellsA K) rfl (ownsRow_drew (HRW.out.2.2.row.alloc _)) (some ⟨wr.heap.size, 0, none⟩) 2 2 roomCells rfl rfl (.inr ⟨_, rfl, World.news_of_block (cs := #[.string roomName, .slice none 0 0, .string roomName, .slice none 0 0]) (t := 72) (fr := (0, 0)) (Go.heap_alloc_new wr _)⟩) (by simp [roomCells, Value.oneCell']) (by unfold maxLen; omega) (by omega) (by simp; omega) ?_; intro a6 c6 w6 hown6 hgrow6; have hcp := row_cap hown6; have hcp1 : (i : Int) ≤ (c6 : Int) := (by have := hcp.2.1; omega); have hcp2 : (0 : Int) ≤ (i : Int) := (by omega); have hal := (Below.refl wr.heap.size wr).alloc (Nat.le_refl _) (.cells #[.string roomName, .slice none 0 0, .string roomName, .slice none 0 0] 72) |>.drew; have hf6 := (HRW.out.2.2.below hal).mid hgrow6; have HB6 := Lib.hid (And.intro (hf6.blk (HBA.out _).1 (by decide)) (hf6.blk (HBA.out _).2 (by decide))); have H6 := Lib.hid (And.intro hown6 (And.intro hf6 hal)); clear hown6 hgrow6 hcp hal hf6))
      have k6 := set_blk HB6.out.2 3 (.slice a6 i c6)
      have r6 := rwOther H6.out.1 HB6.out.2 (by decide) 3 (.slice a6 i c6)
      have hnr := HRW.out.2.2.below H6.out.2.2
      have u6 : LentU w.heap.size (w6.setCell ⟨w.heap.size + 2, 3, none⟩ (.slice a6 i c6)) a1 c1 N.data := by
        have h1 := hnr.data.fr H6.out.2.1
        exact ⟨rwOther h1.row HB6.out.2 (by decide) _ _, h1.bnd, h1.len⟩
      have v6 : ∀ x ∈ K, LentU w.heap.size (w6.setCell ⟨w.heap.size + 2, 3, none⟩ (.slice a6 i c6)) x.va x.vc x.val := fun x hx => by
        have h1 := (hnr.val x hx).fr H6.out.2.1
        exact ⟨rwOther h1.row HB6.out.2 (by decide) _ _, h1.bnd, h1.len⟩
      have hsnr : w.heap.size ≤ (World.drew (wr.alloc (.cells #[.string roomName, .slice none 0 0, .string roomName, .slice none 0 0] 72))).heap.size := hnr.low.size
      obtain ⟨W6, hW6⟩ : ∃ W6, W6 = w6.setCell ⟨w.heap.size + 2, 3, none⟩ (.slice a6 i c6) := ⟨_, rfl⟩
      have lb6 : Below w.heap.size w W6 := by rw [hW6]; exact (hnr.low.trans (H6.out.2.1.below hsnr)).setCell (by simp) _
      have h1 : W6.heap[w.heap.size + 1]? = some (.cells Nd.zero.cells 30 (0, 0)) := by rw [hW6]; exact set_other (H6.out.2.1.blk hnr.res (by decide)) (by simp) _
      rw [← hW6] at k6 r6 u6 v6 ⊢
      have HF := Lib.hid (And.intro k6 (And.intro r6 (And.intro lb6 (And.intro u6 (And.intro v6 h1)))))
      clear k6 r6 lb6 hW6 s0 s1 s2 u6 v6 hnr hsnr
      obtain ⟨d0, d1, d2, d3, d4, d5, ld⟩ := box_cells h1
      simp only [Nd.zero] at d0 d1 d2 d3 d4 d5
      simp at d2 d3
      have c0 := fun j u (h : (#[Value.int IntKind.i64 N.kind, Value.string N.name, Value.slice a1 m c1, Value.slice a6 i c6, Value.int IntKind.u32 N.slot, Value.int IntKind.u32 N.gen] : Array Value)[j]? = some u) => cell_blk HF.out.1 j (by rw [← HM.out]; exact h)
      have c00 := c0 0 _ rfl
      have c01 := c0 1 _ rfl
      have c02 := c0 2 _ rfl
      have c03 := c0 3 _ rfl
      have c04 := c0 4 _ rfl
      have c05 := c0 5 _ rfl
      have g0 := fun j => free_blk h1 j
      have le0 := lt_of_some HF.out.1
      obtain ⟨hE, hFr⟩ := six_cells h1 (.int .i64 N.kind) (.string N.name) (.slice a1 m c1) (.slice a6 i c6) (.int .u32 N.slot) (.int .u32 N.gen)
      have HE := Lib.hid (And.intro hE hFr)
      clear h1 c0 hE hFr
      go_wp2_with fail
      have z0 := cell_blk HE.out.1 0 rfl
      have z1 := cell_blk HE.out.1 1 rfl
      have z2 := cell_blk HE.out.1 2 rfl
      have z3 := cell_blk HE.out.1 3 rfl
      have z4 := cell_blk HE.out.1 4 rfl
      have z5 := cell_blk HE.out.1 5 rfl
      skip
      obtain ⟨_, r6, lb6, u6, v6, _⟩ := HF.out
      obtain ⟨hKl, hKm, _⟩ := HRW.out
      have hfr := HE.out.2
      refine bodyPost_ret (v := .agg #[.int .i64 N.kind, .string N.name, .slice a1 m c1, .slice a6 i c6, .int .u32 N.slot, .int .u32 N.gen]) (by simp [results, Try.results14, go_sem, z0, z1, z2, z3, z4, z5]) rfl ⟨⟨N.kind, N.name, a1, c1, N.data, a6, c6, K, N.slot, N.gen⟩, ?_, ?_, ?_, ?_⟩
      · simp only [hKl, ← HM.out]
      · exact ⟨rfl, rfl, rfl, by rw [hKm, List.take_of_length_le (by rw [HN.out]; exact Nat.le_refl _)], rfl, rfl⟩
      · have hval : ∀ y ∈ K, ∃ z ∈ N.L, attrOf z = attrOf y := fun y hy => by
          have h1 : attrOf y ∈ K.map attrOf := List.mem_map.2 ⟨y, hy, rfl⟩
          rw [hKm] at h1
          obtain ⟨z, hz, hz2⟩ := List.mem_map.1 h1
          exact ⟨z, List.mem_of_mem_take hz, hz2⟩
        refine ⟨⟨hfr.row u6.row (by decide), u6.bnd, u6.len⟩, ?_, fun y hy => ⟨hfr.row (v6 y hy).row (by decide), (v6 y hy).bnd, (v6 y hy).len⟩, fun y hy => ?_, HNI.out.nam, HBD.out.data, ?_, fun y hy => ?_⟩
        · simp only [hKl]; exact hfr.row (r6) (by decide)
        · obtain ⟨z, hz, hz2⟩ := hval y hy
          have h4 : z.name = y.name := congrArg Prod.fst hz2
          have := HNI.out.attrs.nam z hz
          rwa [h4] at this
        · simp only [hKl]; exact hb2
        · exact (v6 y hy).len
      · exact lb6.trans ((hfr.below (by omega)).mono (by omega))
end Go.Proofs.Ytelhnaphkbpakaa

