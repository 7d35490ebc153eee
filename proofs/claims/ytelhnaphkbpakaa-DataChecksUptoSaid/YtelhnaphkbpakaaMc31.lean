/- DataUnits walked: Sub and Replace of any nodes. -/
import Derived.Deep.DeepCutAuto
import Derived.Test.YtelhnaphkbpakaaMc30
namespace Go.Proofs.Ytelhnaphkbpakaa
open Go.RowKit
set_option linter.unusedVariables false
set_option maxRecDepth 100000

/-- The box of what the law was given stands. -/
structure PreC (w : World) (N : Nd) (off cnt : Int) (ba : Option Addr) (bc : Nat) (us : List Nat) (W : World) : Prop where
  low : Below w.heap.size w W
  bx : W.heap[w.heap.size]? = some (.cells (cutCells N off cnt ba us.length bc) 40 (0, 0))
section
variable {w : World} {N : Nd} {off cnt : Int} {ba : Option Addr} {bc : Nat} {us : List Nat} {W W' : World}
theorem PreC.below (h : PreC w N off cnt ba bc us W) (b : Below W.heap.size W W') : PreC w N off cnt ba bc us W' :=
  ⟨h.low.trans (b.mono h.low.size), (b.block _ (lt_of_some h.bx)).trans h.bx⟩
theorem LentU.fr30 {B b : Nat} {us : List Nat} {a : Option Addr} {c : Nat} (h : LentU B W a c us) (f : FrT [30] b W W') : LentU B W' a c us := ⟨f.row h.row (by decide), h.bnd, h.len⟩
theorem LentNd.fr30 {B b : Nat} {N : Nd} (h : LentNd B W N) (f : FrT [30] b W W') : LentNd B W' N :=
  ⟨h.data.fr30 f, f.row h.attrs (by decide), fun x hx => (h.val x hx).fr30 f, h.nams, h.nam, h.bd⟩
theorem cut_fin {M : Nd} {b4 : Nat} {a5 : Option Addr} {c5 : Nat} (h : PreC w N off cnt ba bc us W) (hz : W.heap[b4]? = some (.cells Nd.zero.cells 30 (0, 0))) (hm : LentNd w.heap.size W M) (hl : LentU w.heap.size W a5 c5 us) (hs : M.Same N) (hb : w.heap.size ≤ b4) :
    CutSt w N off cnt ba bc us b4 M a5 c5 ((((((W.setCell ⟨b4, 0, none⟩ (.int .i64 M.kind)).setCell ⟨b4, 1, none⟩ (.string M.name)).setCell ⟨b4, 2, none⟩ (.slice M.da M.data.length M.dc)).setCell ⟨b4, 3, none⟩ (.slice M.aa M.L.length M.ac)).setCell ⟨b4, 4, none⟩ (.int .u32 M.slot)).setCell ⟨b4, 5, none⟩ (.int .u32 M.gen)) := by
  obtain ⟨h1, h2⟩ := six_cells hz (.int .i64 M.kind) (.string M.name) (.slice M.da M.data.length M.dc) (.slice M.aa M.L.length M.ac) (.int .u32 M.slot) (.int .u32 M.gen)
  exact ⟨h2.blk h.bx (by decide), h1, hm.fr30 h2, hl.fr30 h2, hs, h.low.trans ((h2.below (Nat.le_of_lt (lt_of_some hz))).mono hb |>.mono (Nat.le_refl _))⟩
theorem CutSt.pre {M : Nd} {b4 : Nat} {a5 : Option Addr} {c5 : Nat} (h : CutSt w N off cnt ba bc us b4 M a5 c5 W) : PreC w N off cnt ba bc us W := ⟨h.low, h.bx⟩
theorem cut_new {M : Nd} {a5 : Option Addr} {c5 : Nat} (h : PreC w N off cnt ba bc us W) (hm : LentNd w.heap.size W M) (hl : LentU w.heap.size W a5 c5 us) (hs : M.Same N) :
    CutSt w N off cnt ba bc us W.heap.size M a5 c5 (W.alloc (.cells M.cells 30)) := by
  have b := (Below.refl W.heap.size W).alloc (Nat.le_refl _) (.cells M.cells 30)
  have h' := h.below b
  exact ⟨h'.bx, Go.heap_alloc_new W _, hm.below b, hl.below b, hs, h'.low⟩
end

set_option maxHeartbeats 16000000 in
theorem dataUnits_calls (w : World) (N : Nd) (off cnt : Int) {ba : Option Addr} (bc : Nat) {us : List Nat} (h : NdIn w N) (hB : N.Bd 1048576) (hu : Sl16 w ba us) (hul : us.length ≤ 1048576) :
    Calls Try.prog 6 #[.agg (cutCells N off cnt ba us.length bc)] w fun e w' => e = .returned (.bool true) ∧ Below w.heap.size w w' := by
  obtain ⟨V, hV⟩ : ∃ V, V = w.alloc (.cells (cutCells N off cnt ba us.length bc) 40) := ⟨_, rfl⟩
  have hp : PreC w N off cnt ba bc us V := by rw [hV]; exact ⟨(Below.refl _ w).alloc (Nat.le_refl _) _, Go.heap_alloc_new w _⟩
  have hV2 := hV
  have HP := Lib.hid hp
  have HI := Lib.hid (And.intro h (And.intro hB hu))
  have HAW := Lib.hid (awake_true V)
  have HN4 : Hid (∀ W, PreC w N off cnt ba bc us W → Calls Try.prog 14 #[N.v] W fun e w' => ∃ M : Nd, e = .returned M.v ∧ M.Same N ∧ LentNd W.heap.size w' M ∧ Below W.heap.size W w') := Lib.hid (fun W hW => node_calls W N (HI.out.1.below hW.low) HI.out.2.1)
  have HU2 : Hid (∀ W, PreC w N off cnt ba bc us W → Calls Try.prog 22 #[.slice ba us.length bc] W fun e w' => ∃ a' cap, e = .returned (.slice a' us.length cap) ∧ LentU W.heap.size w' a' cap us ∧ Below W.heap.size W w') := Lib.hid (fun W hW => units_calls bc (HI.out.2.2.below hW.low) hul)
  have HS : Hid (∀ W, PreC w N off cnt ba bc us W → (W.cell? ⟨w.heap.size, 0, none⟩ = some (.int .i64 N.kind) ∧ W.cell? ⟨w.heap.size, 1, none⟩ = some (.string N.name) ∧ W.cell? ⟨w.heap.size, 2, none⟩ = some (.slice N.da N.data.length N.dc) ∧ W.cell? ⟨w.heap.size, 3, none⟩ = some (.slice N.aa N.L.length N.ac) ∧ W.cell? ⟨w.heap.size, 4, none⟩ = some (.int .u32 N.slot) ∧ W.cell? ⟨w.heap.size, 5, none⟩ = some (.int .u32 N.gen) ∧ W.cell? ⟨w.heap.size, 8, none⟩ = some (.slice ba us.length bc))) := Lib.hid (fun W hW => by
    obtain ⟨h0, h1, h2, h3, h4, h5, _, _, h8, _⟩ := cut_cells hW.bx
    exact ⟨h0, h1, h2, h3, h4, h5, h8⟩)
  unfold cutCells at hV2 ⊢
  unfold Nd.v Nd.cells at HN4
  rw [hV2] at HAW
  clear hV hp h hB hu
  go_enter Try.func6, Try.ntmps6
  go_upto_region 2 with (refine HAW.out.mono ?_; rintro e w1 ⟨rfl, b1⟩; rw [← hV2] at b1; have HP1 := Lib.hid (HP.out.below b1); have HPd := Lib.hid (HP1.out.below ((Below.refl _ w1).drew)); clear b1 hV2 HAW)
  go_cut [4, 5] (fun v4 v5 wc => ∃ (b4 : Nat) (M : Nd) (a5 : Option Addr) (c5 : Nat), v4 = .pointer (some ⟨b4, 0, none⟩) ∧ v5 = .slice a5 us.length c5 ∧ CutSt w N off cnt ba bc us b4 M a5 c5 wc)
  case first =>
    as_aux_lemma =>
    have l0 := lt_of_some HP1.out.bx
    obtain ⟨z0, z1, z2, z3, z4, z5, z8⟩ := HS.out _ HP1.out
    refine wp_region_held_drew (S := fun W => (W.cell? ⟨w.heap.size, 0, none⟩ = some (.int .i64 N.kind) ∧ W.cell? ⟨w.heap.size, 1, none⟩ = some (.string N.name) ∧ W.cell? ⟨w.heap.size, 2, none⟩ = some (.slice N.da N.data.length N.dc) ∧ W.cell? ⟨w.heap.size, 3, none⟩ = some (.slice N.aa N.L.length N.ac) ∧ W.cell? ⟨w.heap.size, 4, none⟩ = some (.int .u32 N.slot) ∧ W.cell? ⟨w.heap.size, 5, none⟩ = some (.int .u32 N.gen) ∧ W.cell? ⟨w.heap.size, 8, none⟩ = some (.slice ba us.length bc))) (by kernel_rfl) ⟨z0, z1, z2, z3, z4, z5, z8⟩ (fun hHeld => ?_)
    -- R2
    refine wpAnyH_take (i := 0) (v := ?_) rfl (by kernel_rfl) (by kernel_rfl) (by kernel_rfl) (fun _ _ _ h => h) (Or.inl ⟨by rfl, ?_⟩) (by assumption) ?_
    rotate_left
    · intro w hSw; (try dsimp only at hSw); go_simp; try with_reducible rfl
    refine wpAnyH_take (i := 1) (v := ?_) rfl (by kernel_rfl) (by kernel_rfl) (by kernel_rfl) (fun _ _ _ h => h) (Or.inl ⟨by rfl, ?_⟩) (by assumption) ?_
    rotate_left
    · intro w hSw; (try dsimp only at hSw); go_simp; try with_reducible rfl
    refine wpAnyH_take (i := 3) (v := ?_) rfl (by kernel_rfl) (by kernel_rfl) (by kernel_rfl) (fun _ _ _ h => h) (Or.inl ⟨by rfl, ?_⟩) (by assumption) ?_
    rotate_left
    · intro w hSw; (try dsimp only at hSw); go_simp; try with_reducible rfl
    refine wpAnyH_take (i := 4) (v := ?_) rfl (by kernel_rfl) (by kernel_rfl) (by kernel_rfl) (fun _ _ _ h => h) (Or.inl ⟨by rfl, ?_⟩) (by assumption) ?_
    rotate_left
    · intro w hSw; (try dsimp only at hSw); go_simp; try with_reducible rfl
    refine wpAnyH_ready (rs := [2, 6]) (by kernel_rfl) (by simp) ?_
    refine AllReadyH.cons rfl (fun K' hK => ?_) (AllReadyH.cons rfl (fun K' hK => ?_) AllReadyH.nil)
    · go_simp
      go_at_call 14
      refine (HN4.out _ HPd.out).mono ?_
      rintro e w5 ⟨M, rfl, hMS, hMl, b5⟩
      have HP5 := Lib.hid (HPd.out.below b5)
      have HM5 := Lib.hid (And.intro hMS (hMl.mono HPd.out.low.size))
      refine hK.out _ _ (HS.out w5 HP5.out) (fun hHeld => ?_)
      clear hK K' hHeld hMS hMl b5
      have hHeld := HS.out w5 HP5.out
      refine wpAnyH_ready (rs := [5, 6]) (by kernel_rfl) (by simp) ?_
      refine AllReadyH.cons rfl (fun K' hK => ?_) (AllReadyH.cons rfl (fun K' hK => ?_) AllReadyH.nil)
      · go_simp
        go_at_call 22
        refine (HU2.out _ HP5.out).mono ?_
        rintro e w7 ⟨a5, c5, rfl, hlu, b7⟩
        have HP7 := Lib.hid (HP5.out.below b7)
        have HL7 := Lib.hid (hlu.mono HP5.out.low.size)
        have HM7 := Lib.hid (And.intro HM5.out.1 (HM5.out.2.below b7))
        refine hK.out _ _ (HS.out w7 HP7.out) (fun hHeld => ?_)
        clear hK K' hHeld hlu b7
        have hHeld := HS.out w7 HP7.out
        refine wpAnyH_ready (rs := [6]) (by kernel_rfl) (by simp) ?_
        refine AllReadyH.cons rfl (fun K' hK => ?_) AllReadyH.nil
        go_simp
        have HP8 := Lib.hid (HP7.out.below ((Below.refl _ _).alloc (Nat.le_refl _) (.cells Nd.zero.cells 30)))
        have HZ8 : Hid ((w7.alloc (.cells Nd.zero.cells 30)).heap[w7.heap.size]? = some (.cells Nd.zero.cells 30 (0, 0))) := Lib.hid (Go.heap_alloc_new w7 _)
        refine hK.out _ _ (HS.out _ HP8.out) (fun hHeld => ?_)
        clear hK K' hHeld
        have hHeld := HS.out _ HP8.out
        refine wpAnyH_ready (rs := [7]) (by kernel_rfl) (by simp) ?_
        refine AllReadyH.cons rfl (fun K' hK => ?_) AllReadyH.nil
        have hfin := cut_new HP7.out HM7.out.2 HL7.out HM7.out.1
        unfold Nd.cells at hfin
        have HF := Lib.hid hfin
        clear hfin
        go_simp
        refine hK.out _ _ (HS.out _ HF.out.pre) (fun hHeld => ?_)
        clear hK K'
        refine wpAnyH_take (i := 8) (v := ?_) rfl (by kernel_rfl) (by kernel_rfl) (by kernel_rfl) (fun _ _ _ h => h) (Or.inl ⟨by rfl, ?_⟩) (by assumption) ?_
        rotate_left
        · intro w hSw; (try dsimp only at hSw); go_simp; try with_reducible rfl
        refine wpAnyH_done (by kernel_rfl) ?_ _
        clear hHeld
        go_wp2
        go_meet
        case rel => exact ⟨_, M, a5, c5, rfl, rfl, HF.out⟩
      · go_simp
        have HP6 := Lib.hid (HP5.out.below ((Below.refl _ _).alloc (Nat.le_refl _) (.cells Nd.zero.cells 30)))
        have HZ6 : Hid ((w5.alloc (.cells Nd.zero.cells 30)).heap[w5.heap.size]? = some (.cells Nd.zero.cells 30 (0, 0))) := Lib.hid (Go.heap_alloc_new w5 _)
        refine hK.out _ _ (HS.out _ HP6.out) (fun hHeld => ?_)
        clear hK K' hHeld
        have hHeld := HS.out _ HP6.out
        refine wpAnyH_ready (rs := [5]) (by kernel_rfl) (by simp) ?_
        refine AllReadyH.cons rfl (fun K' hK => ?_) AllReadyH.nil
        go_simp
        go_at_call 22
        refine (HU2.out _ HP6.out).mono ?_
        rintro e w7 ⟨a5, c5, rfl, hlu, b7⟩
        have HP7 := Lib.hid (HP6.out.below b7)
        have HL7 := Lib.hid (hlu.mono HP6.out.low.size)
        have HM7 := Lib.hid (And.intro HM5.out.1 (HM5.out.2.below (((Below.refl _ w5).alloc (Nat.le_refl _) _).trans (b7.mono (by simp)))))
        have HZ7 := Lib.hid ((b7.block _ (lt_of_some HZ6.out)).trans HZ6.out)
        refine hK.out _ _ (HS.out w7 HP7.out) (fun hHeld => ?_)
        clear hK K' hHeld hlu b7
        have hHeld := HS.out w7 HP7.out
        refine wpAnyH_ready (rs := [7]) (by kernel_rfl) (by simp) ?_
        refine AllReadyH.cons rfl (fun K' hK => ?_) AllReadyH.nil
        have hz := HZ7.out
        have e0 := fun j u h => cell_blk hz j (v := u) h
        have e00 := e0 0 _ rfl
        have e01 := e0 1 _ rfl
        have e02 := e0 2 _ rfl
        have e03 := e0 3 _ rfl
        have e04 := e0 4 _ rfl
        have e05 := e0 5 _ rfl
        have g0 := fun j => free_blk hz j
        have le := lt_of_some hz
        have hfin := cut_fin HP7.out hz HM7.out.2 HL7.out HM7.out.1 (by first | exact HP1.out.low.size | exact HP5.out.low.size | exact HP7.out.low.size)
        have HF := Lib.hid hfin
        clear e0 hz hfin
        (try simp at e00); (try simp at e01); (try simp at e02); (try simp at e03); (try simp at e04); (try simp at e05)
        go_simp
        refine hK.out _ _ (HS.out _ HF.out.pre) (fun hHeld => ?_)
        clear hK K'
        refine wpAnyH_take (i := 8) (v := ?_) rfl (by kernel_rfl) (by kernel_rfl) (by kernel_rfl) (fun _ _ _ h => h) (Or.inl ⟨by rfl, ?_⟩) (by assumption) ?_
        rotate_left
        · intro w hSw; (try dsimp only at hSw); go_simp; try with_reducible rfl
        refine wpAnyH_done (by kernel_rfl) ?_ _
        clear e00 e01 e02 e03 e04 e05 g0 le hHeld
        go_wp2
        go_meet
        case rel => exact ⟨_, M, a5, c5, rfl, rfl, HF.out⟩
    · go_simp
      have HP0 := Lib.hid (HPd.out.below ((Below.refl _ _).alloc (Nat.le_refl _) (.cells Nd.zero.cells 30)))
      have HZ0 : Hid ((w1.drew.alloc (.cells Nd.zero.cells 30)).heap[w1.heap.size]? = some (.cells Nd.zero.cells 30 (0, 0))) := Lib.hid (Go.heap_alloc_new w1.drew _)
      refine hK.out _ _ (HS.out _ HP0.out) (fun hHeld => ?_)
      clear hK K' hHeld
      have hHeld := HS.out _ HP0.out
      refine wpAnyH_ready (rs := [2]) (by kernel_rfl) (by simp) ?_
      refine AllReadyH.cons rfl (fun K' hK => ?_) AllReadyH.nil
      go_simp
      go_at_call 14
      refine (HN4.out _ HP0.out).mono ?_
      rintro e w5 ⟨M, rfl, hMS, hMl, b5⟩
      have HP5 := Lib.hid (HP0.out.below b5)
      have HM5 := Lib.hid (And.intro hMS (hMl.mono HP0.out.low.size))
      have HZ5 := Lib.hid ((b5.block _ (lt_of_some HZ0.out)).trans HZ0.out)
      refine hK.out _ _ (HS.out w5 HP5.out) (fun hHeld => ?_)
      clear hK K' hHeld hMS hMl b5
      have hHeld := HS.out w5 HP5.out
      refine wpAnyH_ready (rs := [5]) (by kernel_rfl) (by simp) ?_
      refine AllReadyH.cons rfl (fun K' hK => ?_) AllReadyH.nil
      go_simp
      go_at_call 22
      refine (HU2.out _ HP5.out).mono ?_
      rintro e w7 ⟨a5, c5, rfl, hlu, b7⟩
      have HP7 := Lib.hid (HP5.out.below b7)
      have HL7 := Lib.hid (hlu.mono HP5.out.low.size)
      have HM7 := Lib.hid (And.intro HM5.out.1 (HM5.out.2.below b7))
      have HZ7 := Lib.hid ((b7.block _ (lt_of_some HZ5.out)).trans HZ5.out)
      refine hK.out _ _ (HS.out w7 HP7.out) (fun hHeld => ?_)
      clear hK K' hHeld hlu b7
      have hHeld := HS.out w7 HP7.out
      refine wpAnyH_ready (rs := [7]) (by kernel_rfl) (by simp) ?_
      refine AllReadyH.cons rfl (fun K' hK => ?_) AllReadyH.nil
      have hz := HZ7.out
      have e0 := fun j u h => cell_blk hz j (v := u) h
      have e00 := e0 0 _ rfl
      have e01 := e0 1 _ rfl
      have e02 := e0 2 _ rfl
      have e03 := e0 3 _ rfl
      have e04 := e0 4 _ rfl
      have e05 := e0 5 _ rfl
      have g0 := fun j => free_blk hz j
      have le := lt_of_some hz
      have hfin := cut_fin HP7.out hz HM7.out.2 HL7.out HM7.out.1 (by first | exact HP1.out.low.size | exact HP5.out.low.size | exact HP7.out.low.size)
      have HF := Lib.hid hfin
      clear e0 hz hfin
      (try simp at e00); (try simp at e01); (try simp at e02); (try simp at e03); (try simp at e04); (try simp at e05)
      go_simp
      refine hK.out _ _ (HS.out _ HF.out.pre) (fun hHeld => ?_)
      clear hK K'
      refine wpAnyH_take (i := 8) (v := ?_) rfl (by kernel_rfl) (by kernel_rfl) (by kernel_rfl) (fun _ _ _ h => h) (Or.inl ⟨by rfl, ?_⟩) (by assumption) ?_
      rotate_left
      · intro w hSw; (try dsimp only at hSw); go_simp; try with_reducible rfl
      refine wpAnyH_done (by kernel_rfl) ?_ _
      clear e00 e01 e02 e03 e04 e05 g0 le hHeld
      go_wp2
      go_meet
      case rel => exact ⟨_, M, a5, c5, rfl, rfl, HF.out⟩
    -- R2 END
  case rest =>
  obtain ⟨b4, M, a5, c5, rfl, rfl, hC⟩ := hcut
  as_aux_lemma =>
  obtain ⟨wx, hwx⟩ : ∃ wx, wx = wc := ⟨_, rfl⟩
  rw [← hwx] at hC ⊢
  obtain ⟨k, ek⟩ : ∃ k, (partD N.kind off cnt N.data.length).2 = k := ⟨_, rfl⟩
  obtain ⟨xs, exs⟩ : ∃ xs, subX N.kind off cnt N.data = xs := ⟨_, rfl⟩
  obtain ⟨k2, ek2⟩ : ∃ k2, (replD N.c off cnt us).2 = k2 := ⟨_, rfl⟩
  obtain ⟨cc, ecc⟩ : ∃ cc, (replD N.c off cnt us).1 = cc := ⟨_, rfl⟩
  have hMk : M.kind = N.kind := by have := hC.same.c; unfold Nd.c at this; simp only [NC.mk.injEq] at this; exact this.1
  have hMB : M.Bd 1099511627776 := hC.m.bd.mono (by decide)
  have hNB : N.Bd 1099511627776 := HI.out.2.1.mono (by decide)
  have hnd := HI.out.2.1.data
  have hsum : N.data.length + us.length ≤ 1099511627776 := by omega
  have hccB : cc.Bd 1099511627776 := by rw [← ecc]; exact replD_bd (b := 1048576) HI.out.2.1.c off cnt us (by decide) (by omega)
  have hxl : xs.length ≤ 1099511627776 := by have := subX_len N.kind off cnt N.data; rw [exs] at this; omega
  have KEEP : Hid (∀ W, Below wx.heap.size wx W → CutSt w N off cnt ba bc us b4 M a5 c5 W) := Lib.hid (fun W b => hC.below b)
  have HS3 : Hid (∀ W, Below wx.heap.size wx W → Calls Try.prog 23 #[M.v, .int .i64 off, .int .i64 cnt] W fun e w' => ∃ a, e = .returned (.tuple #[.slice a xs.length xs.length, .int .i64 k]) ∧ Clip16 W.heap.size w' a xs ∧ Below W.heap.size W w') := Lib.hid (fun W b =>
    sub_u W M (KEEP.out W b).m.nd hMB off cnt (by rw [hMk, hC.same.data]; exact ek) (by rw [hMk, hC.same.data]; exact exs))
  have HS5 : Hid (∀ W, Below wx.heap.size wx W → Calls Try.prog 24 #[N.v, .int .i64 off, .int .i64 cnt] W fun e w' => ∃ a c, e = .returned (.tuple #[.slice a xs.length c, .int .i64 k]) ∧ Clip16 W.heap.size w' a xs ∧ Below W.heap.size W w') := Lib.hid (fun W b =>
    subR_u W N (HI.out.1.below (KEEP.out W b).low) hNB off cnt ek exs)
  have HREP : Hid (∀ W, Below wx.heap.size wx W → Calls Try.prog 26 #[M.v, .int .i64 off, .int .i64 cnt, .slice a5 us.length c5] W fun e w' => ∃ P : Nd, e = .returned (.tuple #[P.v, .int .i64 k2]) ∧ P.c = cc ∧ Fresh W.heap.size w' P ∧ Below W.heap.size W w') := Lib.hid (fun W b => by
    have h := repl_calls W M (KEEP.out W b).m.nd hMB off cnt c5 (KEEP.out W b).by_.sl (by rw [hC.same.data]; exact hsum)
    rw [hC.same.c, ek2, ecc] at h
    exact h)
  have HREPR : Hid (∀ W, Below wx.heap.size wx W → Calls Try.prog 27 #[N.v, .int .i64 off, .int .i64 cnt, .slice ba us.length bc] W fun e w' => ∃ P : Nd, e = .returned (.tuple #[P.v, .int .i64 k2]) ∧ P.c = cc ∧ OwnNd W.heap.size w' P ∧ Below W.heap.size W w') := Lib.hid (fun W b => by
    have h := replR_calls W N (HI.out.1.below (KEEP.out W b).low) hNB off cnt bc (HI.out.2.2.below (KEEP.out W b).low) hsum
    rw [ek2, ecc] at h
    exact h)
  have HKEPT : Hid (∀ W, Below wx.heap.size wx W → Calls Try.prog 21 #[M.v, N.v] W fun e w' => e = .returned (.bool true) ∧ Below W.heap.size W w') := Lib.hid (fun W b => kept_true W M N (KEEP.out W b).m (HI.out.1.below (KEEP.out W b).low) hC.same)
  have HKU : Hid (∀ W, Below wx.heap.size wx W → Calls Try.prog 28 #[.slice a5 us.length c5, .slice ba us.length bc] W fun e w' => e = .returned (.bool true) ∧ ∃ k, W.drewN k = w') := Lib.hid (fun W b => keptUnits_true bc c5 (KEEP.out W b).by_ (HI.out.2.2.below (KEEP.out W b).low))
  have HBOTH : Hid (∀ w13 w14 W14 w15 W15 W16 (P P2 R : Nd), P.c = cc → P2.c = cc → R.c = cc → Fresh w13 w14 P → Fresh W14 w15 P2 → OwnNd W15 W16 R → w13 ≤ w14.heap.size → w14.heap.size ≤ W14 → W14 ≤ w15.heap.size → w14.heap.size ≤ W15 → Below w14.heap.size w14 W16 → Below w15.heap.size w15 W16 → Calls Try.prog 19 #[P.v, P2.v, R.v] W16 fun e w' => e = .returned (.bool true) ∧ Below w13 W16 w') := Lib.hid (fun w13 w14 W14 w15 W15 W16 P P2 R e1 e2 e3 hf1 hf2 ho h1 h2 h3 h4 b1 b2 =>
    both_true hf1 hf2 h1 h2 h3 b1 b2 (fun w' hw => (ho.out hw h4).nd) (NC.Bd.nd (by rw [e1]; exact hccB)) (NC.Bd.nd (by rw [e2]; exact hccB)) (e1.trans e3.symm) (e2.trans e3.symm))
  obtain ⟨n, en⟩ : ∃ n, n = xs.length := ⟨_, rfl⟩
  have hC0 := hC.x
  have hC1 := hC.bx
  have hxw : w.heap.size ≤ wx.heap.size := hC.low.size
  have HLOW := Lib.hid hC.low
  unfold Nd.v Nd.cells at HS3 HS5 HREP HREPR HKEPT HBOTH
  rw [← en] at HS3 HS5 hxl
  have HXS := Lib.hid en
  clear hwx hC ek exs ek2 ecc hMk hMB hNB hnd hsum hccB en HP HN4 HU2 HS HP1 HPd HI
  obtain ⟨y0, y1, y2, y3, y4, y5, ly⟩ := box_cells hC0
  obtain ⟨z0, z1, z2, z3, z4, z5, z6, z7, z8, lz⟩ := cut_cells hC1
  clear hC0 hC1
  have HB0 := Lib.hid (Below.refl wx.heap.size wx)
  go_wp2_with fail
  refine (HS3.out wx HB0.out).mono ?_
  rintro e w3 ⟨a6, rfl, hc6, b3⟩
  clear y0 y1 y2 y3 y4 y5 ly z0 z1 z2 z3 z4 z5 z6 z7 z8 lz
  have HB3 := Lib.hid b3
  have s3 := b3.size
  have HC6 := Lib.hid hc6
  obtain ⟨y0, y1, y2, y3, y4, y5, ly⟩ := box_cells (KEEP.out w3 b3).x
  obtain ⟨z0, z1, z2, z3, z4, z5, z6, z7, z8, lz⟩ := cut_cells (KEEP.out w3 b3).bx
  clear b3 hc6
  go_wp2_with fail
  refine (HS3.out w3 HB3.out).mono ?_
  rintro e w4 ⟨a8, rfl, hc8, b4'⟩
  clear y0 y1 y2 y3 y4 y5 ly z0 z1 z2 z3 z4 z5 z6 z7 z8 lz
  have HB4 := Lib.hid (HB3.out.trans (b4'.mono s3))
  have s4 := b4'.size
  have HC8 := Lib.hid (And.intro hc8 b4')
  obtain ⟨z0, z1, z2, z3, z4, z5, z6, z7, z8, lz⟩ := cut_cells (KEEP.out w4 HB4.out).bx
  clear b4' hc8
  go_wp2_with fail
  refine (HS5.out w4 HB4.out).mono ?_
  rintro e w5 ⟨a10, c10, rfl, hc10, b5⟩
  clear z0 z1 z2 z3 z4 z5 z6 z7 z8 lz
  have HB5 := Lib.hid (HB4.out.trans (b5.mono (by omega)))
  have s5 := b5.size
  have HC10 := Lib.hid hc10
  have HV6 := Lib.hid (HC6.out.below (HC8.out.2.trans (b5.mono s4)))
  have HV8 := Lib.hid (HC8.out.1.below b5)
  have HQ1 : Hid (Calls Try.prog 25 #[.slice a6 n n, .slice a10 n c10] w5 fun e w' => e = .returned (.bool true) ∧ ∃ k, w5.drewN k = w') := Lib.hid (by
    have h := sameUnits_calls n c10 HV6.out.sl HC10.out.sl
    rw [← HXS.out, decide_eq_true rfl] at h
    exact h)
  have HQ2 : Hid (∀ q, Calls Try.prog 25 #[.slice a8 n n, .slice a10 n c10] (w5.drewN q) fun e w' => e = .returned (.bool true) ∧ ∃ k, w' = w5.drewN (q + k)) := Lib.hid (fun q => by
    have h := sameUnits_calls n c10 (HV8.out.sl.drewN q) (HC10.out.sl.drewN q)
    rw [← HXS.out, decide_eq_true rfl] at h
    exact h.mono fun e w' ⟨he, k, hw⟩ => ⟨he, k, by rw [← hw, World.drewN_drewN]⟩)
  have HQ3 : Hid (∀ wr, OutW wx.heap.size w3.heap.size w5 wr → Calls Try.prog 25 #[.slice a8 n n, .slice a10 n c10] wr fun e w' => e = .returned (.bool true) ∧ ∃ k, wr.drewN k = w') := Lib.hid (fun wr ho => by
    have h := sameUnits_calls n c10 (ho.clip HV8.out (Nat.le_refl _)).sl (ho.clip HC10.out s4).sl
    rw [← HXS.out, decide_eq_true rfl] at h
    exact h)
  obtain ⟨cap6, hr6⟩ := HV6.out.row
  have HG6 : Hid (∀ g cap, (Value.slice a6 n cap).ownBlock = some g → g < w3.heap.size) := Lib.hid (fun g cap hg => by
    obtain ⟨cap', hr⟩ := HC6.out.row
    exact row_lt hr g (by cases a6 with
      | none => cases hg
      | some a => exact hg))
  rw [← HXS.out] at hr6
  have HR6 := Lib.hid hr6
  clear b5 hc10 hr6
  have hkk : (k != k) = false := by simp
  go_wp2_with fail
  refine HQ1.out.mono ?_
  rintro e w6 ⟨rfl, q6, rfl⟩
  go_wp2_with fail
  refine (HQ2.out q6).mono ?_
  rintro e w6 ⟨rfl, q7, rfl⟩
  go_wp2_with fail
  go_loopw [70] (fun v wr => ∃ i : Nat, v = .int .i64 (i : Nat) ∧ i ≤ n ∧ OutW wx.heap.size w3.heap.size w5 wr ∧ ∃ ys, wr.ownsRow wx.heap.size 45 1 (.slice a6 n cap6) n ys) (fun v _ => n - (intOf v).toNat)
  case atStart => exact ⟨0, rfl, Nat.zero_le _, (OutW.refl _ _ _).drewN _, _, row_drewN HR6.out _⟩
  case round =>
    obtain ⟨i, rfl, hi, ho, ys, hr⟩ := hrel
    by_cases hlt : i < n
    · obtain ⟨g, u, hga, lg, hcg, hfg, hst⟩ := row_store ho hr (fun g hg => HG6.out g _ hg) hlt
      have HST := Lib.hid hst
      have p0 : (0 : Int) ≤ (i : Int) := by omega
      have p1 : (i : Int) < (n : Int) := by omega
      clear hst ho hr
      subst hga
      go_wp2_with fail
      go_roundw
      case rel =>
        obtain ⟨ho', ys', hr'⟩ := HST.out (.int .u16 7)
        exact ⟨i + 1, by go_num, hlt, ho', ys', hr'⟩
      case measure => simp [intOf]; omega
    · obtain rfl : n = i := by omega
      have p1 : ¬ (n : Int) < (n : Int) := by omega
      have HL1 := Lib.hid (And.intro ho hr)
      clear ho hr hlt
      go_wp2_with fail
      go_loopw [6, 13] (fun v6 v13 wr => ∃ q : Nat, v13 = .int .i64 (q : Nat) ∧ q ≤ 9 ∧ OutW wx.heap.size w3.heap.size w5 wr ∧ ((q = 0 ∧ v6 = .slice a6 n n ∧ ∃ ys, wr.ownsRow wx.heap.size 45 1 (.slice a6 n cap6) n ys) ∨ (0 < q ∧ ∃ xs, wr.ownsRow w5.heap.size 45 1 v6 (n + q) xs))) (fun _ v _ => 9 - (intOf v).toNat)
      case atStart => exact ⟨0, rfl, Nat.zero_le _, HL1.out.1, .inl ⟨rfl, rfl, _, HL1.out.2⟩⟩
      case round =>
        obtain ⟨q, rfl, hq, ho, hcase⟩ := hrel
        have hV5 : w5.heap.size ≤ wr.heap.size := ho.size
        have HG := Lib.hid ho
        obtain ⟨i45, hi45, ia1, ia2, ia3⟩ := info_parts info79
        by_cases hlt3 : q < 9
        · have r2 : (q : Int) < 9 := by omega
          rcases hcase with ⟨rfl, rfl, ys, hr⟩ | ⟨hq0, xs, hown⟩
          · obtain ⟨ho1, ho2, ho3⟩ := row_olds hr ((Below.refl _ wr).alloc (Nat.le_refl _) (.cells #[.int .u16 8] 45))
            clear ho hr
            go_wp2_with (at_builtin; refine wpList_append_full _ rfl (.tmp 81) (.tmp 82) 24 rfl 45 i45 _ 1 2 Try.underlying24 hi45 ia1 ia2 ia3 rfl (by omega) a6 n ys rfl ho1 ho2 ho3 ⟨wr.heap.size, 0, none⟩ 1 1 [.int .u16 8] rfl rfl (World.news_of_block (cs := #[.int .u16 8]) (t := 45) (fr := (0, 0)) (Go.heap_alloc_new wr _)) (by simp [Value.oneCell']) (by omega) (by unfold maxLen; omega) (by omega) ?_; intro g6 c6 w6 hown6 hgrow6 hge6)
            go_roundw
            case rel =>
              have ha := World.grownBy_alloc wr (.cells #[.int .u16 8] 45) none
              refine ⟨1, by go_num, by omega, (HG.out.grown ha (fun _ e => by cases e)).grown hgrow6 (fun _ e => by cases e), .inr ⟨by omega, _, hown6.mono (by simp; omega)⟩⟩
            case measure => simp [intOf]
          · obtain ⟨av, cv, rfl⟩ := rwSlice hown
            have HO := Lib.hid hown
            clear ho hown
            go_wp2_with (at_builtin; refine wpList_append_any _ rfl (.tmp 81) (.tmp 82) 24 rfl w5.heap.size 45 i45 _ 1 2 Try.underlying24 hi45 ia1 ia2 ia3 rfl (by omega) _ (n + q) xs rfl (HO.out.alloc _) (some ⟨wr.heap.size, 0, none⟩) 1 1 [.int .u16 8] rfl rfl (.inr ⟨_, rfl, World.news_of_block (cs := #[.int .u16 8]) (t := 45) (fr := (0, 0)) (Go.heap_alloc_new wr _)⟩) (by simp [Value.oneCell']) (by unfold maxLen; omega) (by omega) (by simp; omega) ?_; intro a6 c6 w6 hown6 hgrow6)
            go_roundw
            case rel =>
              have ha := World.grownBy_alloc wr (.cells #[.int .u16 8] 45) none
              have hr : ∀ y, (Value.slice av (n + q) cv).ownBlock = some y → w5.heap.size ≤ y := fun y hy => (HO.out.lt y hy).1
              refine ⟨q + 1, by go_num, by omega, (HG.out.grown ha (fun _ e => by cases e)).grown hgrow6 (fun y e => .inl (hr y e)), .inr ⟨by omega, _, by rw [← Nat.add_assoc]; exact hown6⟩⟩
            case measure => simp [intOf]; omega
        · obtain rfl : q = 9 := by omega
          clear hcase hlt3 HL1 HR6 HG6 HQ1 HQ2 hkk
          have hbo := HB5.out.trans (ho.below (lo := wx.heap.size) (by omega))
          have HB17 := Lib.hid hbo
          have HS17 := Lib.hid (HQ3.out wr ho)
          have s17 := hbo.size
          obtain ⟨y0, y1, y2, y3, y4, y5, ly⟩ := box_cells (KEEP.out wr hbo).x
          obtain ⟨z0, z1, z2, z3, z4, z5, z6, z7, z8, lz⟩ := cut_cells (KEEP.out wr hbo).bx
          clear ho hbo
          go_wp2_with fail
          refine HS17.out.mono ?_
          rintro e w12 ⟨rfl, q12, rfl⟩
          have hbd := below_dN HB17.out s17 q12
          have HBD := Lib.hid hbd
          clear hbd
          go_wp2_with fail
          refine (HKEPT.out _ HBD.out).mono ?_
          rintro e w13 ⟨rfl, b13⟩
          have hb := HBD.out.trans (b13.mono (by simpa using s17))
          clear y0 y1 y2 y3 y4 y5 ly z0 z1 z2 z3 z4 z5 z6 z7 z8 lz
          have HB13 := Lib.hid hb
          have s13 := hb.size
          obtain ⟨y0, y1, y2, y3, y4, y5, ly⟩ := box_cells (KEEP.out w13 hb).x
          obtain ⟨z0, z1, z2, z3, z4, z5, z6, z7, z8, lz⟩ := cut_cells (KEEP.out w13 hb).bx
          clear b13 hb
          go_wp2_with fail
          refine (HREP.out w13 HB13.out).mono ?_
          rintro e w14 ⟨P, rfl, hPc, hPf, b14⟩
          clear y0 y1 y2 y3 y4 y5 ly z0 z1 z2 z3 z4 z5 z6 z7 z8 lz
          have hb := HB13.out.trans (b14.mono s13)
          have s14 := b14.size
          have HB14 := Lib.hid hb
          have HP14 := Lib.hid (And.intro hPc (And.intro hPf b14))
          obtain ⟨y0, y1, y2, y3, y4, y5, ly⟩ := box_cells (KEEP.out w14 hb).x
          obtain ⟨z0, z1, z2, z3, z4, z5, z6, z7, z8, lz⟩ := cut_cells (KEEP.out w14 hb).bx
          clear hPc hPf b14 hb
          go_wp2_with fail
          obtain ⟨W14, hW14⟩ : ∃ W14, W14 = w14.alloc (.cells #[.int .i64 P.kind, .string P.name, .slice P.da P.data.length P.dc, .slice P.aa P.L.length P.ac, .int .u32 P.slot, .int .u32 P.gen] 30) := ⟨_, rfl⟩
          rw [← hW14]
          have hbW : Below w14.heap.size w14 W14 := by rw [hW14]; exact (Below.refl _ w14).alloc (Nat.le_refl _) _
          have hxW : W14.heap[w14.heap.size]? = some (.cells P.cells 30 (0, 0)) := by rw [hW14]; exact Go.heap_alloc_new w14 _
          have sW14 : W14.heap.size = w14.heap.size + 1 := by rw [hW14]; simp
          have HW14 := Lib.hid (And.intro hbW (And.intro hxW (HB14.out.trans (hbW.mono (by omega)))))
          clear hbW hxW hW14 y0 y1 y2 y3 y4 y5 ly z0 z1 z2 z3 z4 z5 z6 z7 z8 lz
          refine (HREP.out W14 HW14.out.2.2).mono ?_
          rintro e w15 ⟨P2, rfl, hPc, hPf, b15⟩
          have hb := HW14.out.2.2.trans (b15.mono (by omega))
          have s15 := b15.size
          have HB15 := Lib.hid hb
          have HP15 := Lib.hid (And.intro hPc (And.intro hPf b15))
          obtain ⟨y0, y1, y2, y3, y4, y5, ly⟩ := box_cells (KEEP.out w15 hb).x
          obtain ⟨z0, z1, z2, z3, z4, z5, z6, z7, z8, lz⟩ := cut_cells (KEEP.out w15 hb).bx
          clear hPc hPf b15 hb
          go_wp2_with fail
          obtain ⟨W15, hW15⟩ : ∃ W15, W15 = w15.alloc (.cells #[.int .i64 P2.kind, .string P2.name, .slice P2.da P2.data.length P2.dc, .slice P2.aa P2.L.length P2.ac, .int .u32 P2.slot, .int .u32 P2.gen] 30) := ⟨_, rfl⟩
          rw [← hW15]
          have hbW : Below w15.heap.size w15 W15 := by rw [hW15]; exact (Below.refl _ w15).alloc (Nat.le_refl _) _
          have hxW : W15.heap[w15.heap.size]? = some (.cells P2.cells 30 (0, 0)) := by rw [hW15]; exact Go.heap_alloc_new w15 _
          have sW15 : W15.heap.size = w15.heap.size + 1 := by rw [hW15]; simp
          have HW15 := Lib.hid (And.intro hbW (And.intro hxW (HB15.out.trans (hbW.mono (by omega)))))
          clear hbW hxW hW15 y0 y1 y2 y3 y4 y5 ly z0 z1 z2 z3 z4 z5 z6 z7 z8 lz
          refine (HREPR.out W15 HW15.out.2.2).mono ?_
          rintro e w16 ⟨R, rfl, hPc, hPf, b16⟩
          have hb := HW15.out.2.2.trans (b16.mono (by omega))
          have s16 := b16.size
          have HB16 := Lib.hid hb
          have HP16 := Lib.hid (And.intro hPc (And.intro hPf b16))
          have hp := (b16.block _ (by omega)).trans ((HW15.out.1.block _ (by omega)).trans ((HP15.out.2.2.block _ (by omega)).trans HW14.out.2.1))
          have hq := (b16.block _ (by omega)).trans HW15.out.2.1
          obtain ⟨y0, y1, y2, y3, y4, y5, ly⟩ := box_cells hp
          obtain ⟨x0, x1, x2, x3, x4, x5, lx⟩ := box_cells hq
          clear hPc hPf b16 hb hp hq
          go_wp2_with fail
          obtain ⟨W16, hW16⟩ : ∃ W16, W16 = w16.alloc (.cells #[.int .i64 R.kind, .string R.name, .slice R.da R.data.length R.dc, .slice R.aa R.L.length R.ac, .int .u32 R.slot, .int .u32 R.gen] 30) := ⟨_, rfl⟩
          rw [← hW16]
          have hbW : Below w16.heap.size w16 W16 := by rw [hW16]; exact (Below.refl _ w16).alloc (Nat.le_refl _) _
          have sW16 : W16.heap.size = w16.heap.size + 1 := by rw [hW16]; simp
          clear hW16 y0 y1 y2 y3 y4 y5 ly x0 x1 x2 x3 x4 x5 lx
          have hc16 : Below w15.heap.size w15 W16 := HW15.out.1.trans ((HP16.out.2.2.mono (by omega)).trans (hbW.mono (by omega)))
          have hb16 : Below w14.heap.size w14 W16 := HW14.out.1.trans ((HP15.out.2.2.mono (by omega)).trans (hc16.mono (by omega)))
          refine (HBOTH.out w13.heap.size w14 W14.heap.size w15 W15.heap.size W16 P P2 R HP14.out.1 HP15.out.1 HP16.out.1 HP14.out.2.1 HP15.out.2.1 (HP16.out.2.1.below hbW) s14 (by omega) s15 (by omega) hb16 hc16).mono ?_
          rintro e w17 ⟨rfl, b17⟩
          have hb := (HB14.out.trans (hb16.mono (by omega))).trans (b17.mono s13)
          have HB17' := Lib.hid hb
          have s17' := hb.size
          obtain ⟨y0, y1, y2, y3, y4, y5, ly⟩ := box_cells (KEEP.out w17 hb).x
          obtain ⟨z0, z1, z2, z3, z4, z5, z6, z7, z8, lz⟩ := cut_cells (KEEP.out w17 hb).bx
          clear hbW hc16 hb16 b17 hb
          go_wp2_with fail
          refine (HKEPT.out w17 HB17'.out).mono ?_
          rintro e w18 ⟨rfl, b18⟩
          have hb := HB17'.out.trans (b18.mono s17')
          have HB18 := Lib.hid hb
          have s18 := hb.size
          clear y0 y1 y2 y3 y4 y5 ly z0 z1 z2 z3 z4 z5 z6 z7 z8 lz
          obtain ⟨z0, z1, z2, z3, z4, z5, z6, z7, z8, lz⟩ := cut_cells (KEEP.out w18 hb).bx
          clear b18 hb
          go_wp2_with fail
          refine (HKU.out w18 HB18.out).mono ?_
          rintro e w19 ⟨rfl, q19, rfl⟩
          go_wp2_with fail
          go_ret
          exact ⟨rfl, below_dN (HLOW.out.trans (HB18.out.mono hxw)) (Nat.le_trans hxw s18) _⟩
end Go.Proofs.Ytelhnaphkbpakaa

