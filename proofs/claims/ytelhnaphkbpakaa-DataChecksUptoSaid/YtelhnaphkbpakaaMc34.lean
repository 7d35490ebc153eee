/- DataAttrs walked: Attr, SetAttr, CutAttr of any nodes. -/
import Derived.Deep.DeepCutAuto
import Derived.Test.YtelhnaphkbpakaaMc33
namespace Go.Proofs.Ytelhnaphkbpakaa
open Go.RowKit
set_option linter.unusedVariables false
set_option maxRecDepth 100000

/-- A world but for its later blocks. -/
def cutW (W : World) (n : Nat) : World := { W with heap := W.heap.extract 0 n }
theorem cutW_size (W : World) {n : Nat} (h : n ≤ W.heap.size) : (cutW W n).heap.size = n := by unfold cutW; simp; omega
theorem cutW_get (W : World) {n k : Nat} (h : n ≤ W.heap.size) (hk : k < n) : (cutW W n).heap[k]? = W.heap[k]? := by
  unfold cutW
  simp only [Array.getElem?_extract]
  rw [if_pos (by omega), Nat.zero_add]
theorem cutW_below (W : World) {n : Nat} (h : n ≤ W.heap.size) : Below (cutW W n).heap.size (cutW W n) W :=
  ⟨rfl, rfl, rfl, by rw [cutW_size W h]; exact h, fun k hk => by rw [cutW_size W h] at hk; exact (cutW_get W h hk).symm⟩
theorem cutW_fr {T : List TypeId} {w W : World} (f : FrT T 0 w W) : FrT T 0 w (cutW W w.heap.size) :=
  ⟨f.os, f.tape, f.output, by rw [cutW_size W f.size]; exact Nat.le_refl _, fun k o hk ho => (cutW_get W f.size (lt_of_some hk)).trans (f.block k o hk ho)⟩

set_option maxHeartbeats 32000000 in
theorem dataAttrs_calls (w : World) (N : Nd) (h : NdIn w N) (hB : N.Bd 1048576) (name : ByteArray) (hns : name.size ≤ 1048576) {va : Option Addr} {us : List Nat} (vc : Nat) (hu : Sl16 w va us) (hul : us.length ≤ 1048576) :
    Calls Try.prog 7 #[N.v, .string name, .slice va us.length vc] w fun e w' => e = .returned (.bool true) ∧ Below w.heap.size w w' := by
  obtain ⟨V, hV⟩ : ∃ V, V = w.alloc (.cells N.cells 30) := ⟨_, rfl⟩
  have hbV : Below w.heap.size w V := by rw [hV]; exact (Below.refl _ w).alloc (Nat.le_refl _) _
  have x0 : V.heap[w.heap.size]? = some (.cells N.cells 30 (0, 0)) := by rw [hV]; exact Go.heap_alloc_new w _
  have hVs : V.heap.size = w.heap.size + 1 := by rw [hV]; simp
  have hV2 := hV
  have HI := Lib.hid (And.intro h (And.intro hB hu))
  have HAW := Lib.hid (awake_true V)
  have HN4 : Hid (∀ W, Below w.heap.size w W → Calls Try.prog 14 #[N.v] W fun e w' => ∃ M : Nd, e = .returned M.v ∧ M.Same N ∧ LentNd W.heap.size w' M ∧ Below W.heap.size W w') := Lib.hid (fun W hW => node_calls W N (HI.out.1.below hW) HI.out.2.1)
  have HU2 : Hid (∀ W, Below w.heap.size w W → Calls Try.prog 22 #[.slice va us.length vc] W fun e w' => ∃ a' cap, e = .returned (.slice a' us.length cap) ∧ LentU W.heap.size w' a' cap us ∧ Below W.heap.size W w') := Lib.hid (fun W hW => units_calls vc (HI.out.2.2.below hW) hul)
  have HX := Lib.hid (And.intro x0 (And.intro hbV hV))
  unfold Nd.cells at hV2
  unfold Nd.v Nd.cells at HN4 ⊢
  rw [hV2] at HAW
  clear hV h hB hu x0 hbV
  go_enter Try.func7, Try.ntmps7
  go_wp2_with fail
  refine HAW.out.mono ?_
  rintro e w1 ⟨rfl, b1⟩
  rw [← hV2] at b1
  have y0 := (b1.block _ (lt_of_some HX.out.1)).trans HX.out.1
  have s1 := b1.size
  have B1 := Lib.hid (HX.out.2.1.trans (b1.mono (by omega)))
  have HY1 := Lib.hid y0
  obtain ⟨z0, z1, z2, z3, z4, z5, lz⟩ := box_cells y0
  clear b1 y0 hV2 HAW
  go_wp2_with fail
  refine (HN4.out w1 B1.out).mono ?_
  rintro e w2 ⟨M, rfl, hMS, hMl, b2⟩
  clear z0 z1 z2 z3 z4 z5 lz
  have y0 := (b2.block _ (lt_of_some HY1.out)).trans HY1.out
  have s2 := b2.size
  have B2 := Lib.hid (B1.out.trans (b2.mono (by omega)))
  have HY2 := Lib.hid y0
  have HM2 := Lib.hid (And.intro hMS (hMl.mono (show w.heap.size ≤ _ by omega)))
  clear b2 y0 hMS hMl
  go_wp2_with fail
  refine (HU2.out w2 B2.out).mono ?_
  rintro e w3 ⟨a5, c5, rfl, hlu, b3⟩
  have y0 := (b3.block _ (lt_of_some HY2.out)).trans HY2.out
  have s3 := b3.size
  have B3 := Lib.hid (B2.out.trans (b3.mono (by omega)))
  have HM3 := Lib.hid (And.intro HM2.out.1 (And.intro (HM2.out.2.below b3) (hlu.mono (show w.heap.size ≤ _ by omega))))
  have HY3 := Lib.hid y0
  clear b3 y0 hlu
  go_wp2_with fail
  obtain ⟨wx, hwx⟩ : ∃ wx, wx = w3.alloc (.cells #[.int .i64 M.kind, .string M.name, .slice M.da M.data.length M.dc, .slice M.aa M.L.length M.ac, .int .u32 M.slot, .int .u32 M.gen] 30) := ⟨_, rfl⟩
  rw [← hwx]
  have bx : Below w3.heap.size w3 wx := by rw [hwx]; exact (Below.refl _ w3).alloc (Nat.le_refl _) _
  have xx : wx.heap[w3.heap.size]? = some (.cells M.cells 30 (0, 0)) := by rw [hwx]; exact Go.heap_alloc_new w3 _
  have hC : AtSt w N us w3.heap.size M a5 c5 wx := ⟨(bx.block _ (lt_of_some HY3.out)).trans HY3.out, xx, HM3.out.2.1.below bx, HM3.out.2.2.below bx, HM3.out.1, B3.out.trans (bx.mono (by omega))⟩
  obtain ⟨b4, hb4⟩ : ∃ b4, b4 = w3.heap.size := ⟨_, rfl⟩
  rw [← hb4] at hC ⊢
  have hbx4 : b4 < wx.heap.size := lt_of_some hC.x
  clear hwx bx xx
  obtain ⟨xs, is, k, exs⟩ : ∃ xs is k, attrO N.c name = (xs, is, k) := ⟨_, _, _, rfl⟩
  obtain ⟨c3, is3, k3, ec3⟩ : ∃ c3 is3 k3, cutD N.c name = (c3, is3, k3) := ⟨_, _, _, rfl⟩
  obtain ⟨k2, ek2⟩ : ∃ k2, (setAttrD N.c name us).2 = k2 := ⟨_, rfl⟩
  obtain ⟨cc, ecc⟩ : ∃ cc, (setAttrD N.c name us).1 = cc := ⟨_, rfl⟩
  have hMB1 : M.Bd 1048576 := hC.m.bd
  have hMB : M.Bd 1099511627776 := hC.m.bd.mono (by decide)
  have hNB : N.Bd 1099511627776 := HI.out.2.1.mono (by decide)
  have hccB : cc.Bd 1099511627776 := NC.Bd.nd' (by rw [← ecc]; exact setAttrD_bd (b := 1048576) HI.out.2.1.c name hul) (by decide)
  have hc3B : c3.Bd 1099511627776 := NC.Bd.nd' (by have := cutD_bd (b := 1048576) HI.out.2.1.c name; rw [ec3] at this; exact this) (by decide)
  have hxl : xs.length ≤ 1099511627776 := by
    have := attrO_len (b := 1048576) HI.out.2.1.c name
    rw [exs] at this
    exact Nat.le_trans this (by decide)
  have KEEP : Hid (∀ W, Below wx.heap.size wx W → AtSt w N us b4 M a5 c5 W) := Lib.hid (fun W b => hC.below b)
  have HS3 : Hid (∀ W, Below wx.heap.size wx W → Calls Try.prog 29 #[M.v, .string name] W fun e w' => ∃ a, e = .returned (.tuple #[.slice a xs.length xs.length, .bool is, .int .i64 k]) ∧ Clip16 W.heap.size w' a xs ∧ Below W.heap.size W w') := Lib.hid (fun W b =>
    attr_u W M (KEEP.out W b).m.nd hMB name (by rw [hC.same.c]; exact exs))
  have HS5 : Hid (∀ W, Below wx.heap.size wx W → Calls Try.prog 30 #[N.v, .string name] W fun e w' => ∃ a c, e = .returned (.tuple #[.slice a xs.length c, .bool is, .int .i64 k]) ∧ Clip16 W.heap.size w' a xs ∧ Below W.heap.size W w') := Lib.hid (fun W b =>
    attrR_u W N (HI.out.1.below (KEEP.out W b).low) hNB name exs)
  have HREP : Hid (∀ W, Below wx.heap.size wx W → Calls Try.prog 31 #[M.v, .string name, .slice a5 us.length c5] W fun e w' => ∃ P : Nd, e = .returned (.tuple #[P.v, .int .i64 k2]) ∧ P.c = cc ∧ Fresh W.heap.size w' P ∧ Below W.heap.size W w') := Lib.hid (fun W b => by
    have h := setattr_calls W M (KEEP.out W b).m.nd hMB name (by omega) c5 (KEEP.out W b).by_.sl (by omega)
    rw [hC.same.c, ek2, ecc] at h
    exact h)
  have HREPR : Hid (∀ W, Below wx.heap.size wx W → Calls Try.prog 32 #[N.v, .string name, .slice va us.length vc] W fun e w' => ∃ P : Nd, e = .returned (.tuple #[P.v, .int .i64 k2]) ∧ P.c = cc ∧ OwnNd W.heap.size w' P ∧ Below W.heap.size W w') := Lib.hid (fun W b => by
    have h := setattrR_calls W N (HI.out.1.below (KEEP.out W b).low) HI.out.2.1 name (by omega) vc (HI.out.2.2.below (KEEP.out W b).low) hul
    rw [ek2, ecc] at h
    exact h)
  have HCUT : Hid (∀ W, Below wx.heap.size wx W → Calls Try.prog 33 #[M.v, .string name] W fun e w' => ∃ P : Nd, e = .returned (.tuple #[P.v, .bool is3, .int .i64 k3]) ∧ P.c = c3 ∧ Fresh W.heap.size w' P ∧ Below W.heap.size W w') := Lib.hid (fun W b =>
    cutattr_calls W M (KEEP.out W b).m.nd hMB1 name (by rw [hC.same.c]; exact ec3))
  have HCUTR : Hid (∀ W, Below wx.heap.size wx W → Calls Try.prog 34 #[N.v, .string name] W fun e w' => ∃ P : Nd, e = .returned (.tuple #[P.v, .bool is3, .int .i64 k3]) ∧ P.c = c3 ∧ OwnNd W.heap.size w' P ∧ Below W.heap.size W w') := Lib.hid (fun W b =>
    cutattrR_calls W N (HI.out.1.below (KEEP.out W b).low) HI.out.2.1 name ec3)
  have HKEPT : Hid (∀ W, Below wx.heap.size wx W → Calls Try.prog 21 #[M.v, N.v] W fun e w' => e = .returned (.bool true) ∧ Below W.heap.size W w') := Lib.hid (fun W b => kept_true W M N (KEEP.out W b).m (HI.out.1.below (KEEP.out W b).low) hC.same)
  have HKU : Hid (∀ W, Below wx.heap.size wx W → Calls Try.prog 28 #[.slice a5 us.length c5, .slice va us.length vc] W fun e w' => e = .returned (.bool true) ∧ ∃ k, W.drewN k = w') := Lib.hid (fun W b => keptUnits_true vc c5 (KEEP.out W b).by_ (HI.out.2.2.below (KEEP.out W b).low))
  have HBOTH : Hid (∀ (cx : NC), cx.Bd 1099511627776 → ∀ w13 w14 W14 w15 W15 W16 (P P2 R : Nd), P.c = cx → P2.c = cx → R.c = cx → Fresh w13 w14 P → Fresh W14 w15 P2 → OwnNd W15 W16 R → w13 ≤ w14.heap.size → w14.heap.size ≤ W14 → W14 ≤ w15.heap.size → w14.heap.size ≤ W15 → Below w14.heap.size w14 W16 → Below w15.heap.size w15 W16 → Calls Try.prog 19 #[P.v, P2.v, R.v] W16 fun e w' => e = .returned (.bool true) ∧ Below w13 W16 w' ∧ ∀ (k : Nat) cs, W16.heap[k]? = some (.cells cs 30 (0, 0)) → w'.heap[k]? = some (.cells cs 30 (0, 0))) := Lib.hid (fun cx hcx w13 w14 W14 w15 W15 W16 P P2 R e1 e2 e3 hf1 hf2 ho h1 h2 h3 h4 b1 b2 =>
    both_keep hf1 hf2 h1 h2 h3 b1 b2 (fun w' hw => (ho.out hw h4).nd) (NC.Bd.nd (by rw [e1]; exact hcx)) (NC.Bd.nd (by rw [e2]; exact hcx)) (e1.trans e3.symm) (e2.trans e3.symm))
  have HBD := Lib.hid (And.intro hccB hc3B)
  obtain ⟨n, en⟩ : ∃ n, n = xs.length := ⟨_, rfl⟩
  have hC0 := hC.x
  have hC1 := hC.bx
  have hxw : w.heap.size ≤ wx.heap.size := hC.low.size
  have HLOW := Lib.hid hC.low
  unfold Nd.v Nd.cells at HS3 HS5 HREP HREPR HCUT HCUTR HKEPT HBOTH
  rw [← en] at HS3 HS5 hxl
  have HXS := Lib.hid en
  have hbw : w.heap.size < wx.heap.size := lt_of_some hC1
  clear hC exs ec3 ek2 ecc hMB hMB1 hNB hccB hc3B en HN4 HU2 HY1 HY2 HY3 HI HM2 HM3 B1 B2 B3 HX hb4 hVs s1 s2 s3 hns hul
  have HB0 := Lib.hid (Below.refl wx.heap.size wx)
  refine (HS3.out wx HB0.out).mono ?_
  rintro e w3 ⟨a6, rfl, hc6, b3⟩
  have HB3 := Lib.hid b3
  have s3 := b3.size
  have HC6 := Lib.hid hc6
  obtain ⟨z0, z1, z2, z3, z4, z5, lz⟩ := box_cells (KEEP.out w3 b3).bx
  clear b3 hc6 hC0 hC1
  go_wp2_with fail
  refine (HS5.out w3 HB3.out).mono ?_
  rintro e w5 ⟨a10, c10, rfl, hc10, b5⟩
  clear z0 z1 z2 z3 z4 z5 lz
  have HB5 := Lib.hid (HB3.out.trans (b5.mono (by omega)))
  have s5 := b5.size
  have HC10 := Lib.hid hc10
  have HV6 := Lib.hid (HC6.out.below b5)
  have HQ1 : Hid (Calls Try.prog 25 #[.slice a6 n n, .slice a10 n c10] w5 fun e w' => e = .returned (.bool true) ∧ ∃ k, w5.drewN k = w') := Lib.hid (by
    have h := sameUnits_calls n c10 HV6.out.sl HC10.out.sl
    rw [← HXS.out, decide_eq_true rfl] at h
    exact h)
  obtain ⟨cap6, hr6⟩ := HV6.out.row
  have HG6 : Hid (∀ g cap, (Value.slice a6 n cap).ownBlock = some g → g < w3.heap.size) := Lib.hid (fun g cap hg => by
    obtain ⟨cap', hr⟩ := HC6.out.row
    exact row_lt hr g (by cases a6 with
      | none => cases hg
      | some a => exact hg))
  rw [← HXS.out] at hr6
  have HR6 := Lib.hid hr6
  clear b5 hc10 hr6
  have hkk : (k != k) = false := by simp
  have hbb : (is != is) = false := by simp
  go_wp2_with fail
  refine HQ1.out.mono ?_
  rintro e w6 ⟨rfl, q6, rfl⟩
  go_wp2_with fail
  go_loopw [57] (fun v wr => ∃ i : Nat, v = .int .i64 (i : Nat) ∧ i ≤ n ∧ OutW wx.heap.size w3.heap.size w5 wr ∧ ∃ ys, wr.ownsRow wx.heap.size 45 1 (.slice a6 n cap6) n ys ∧ U16s ys) (fun v _ => n - (intOf v).toNat)
  case atStart => exact ⟨0, rfl, Nat.zero_le _, (OutW.refl _ _ _).drewN _, _, row_drewN HR6.out _, U16s.enc _⟩
  case round =>
    obtain ⟨i, rfl, hi, ho, ys, hr, hq16⟩ := hrel
    by_cases hlt : i < n
    · obtain ⟨g, z, hga, lg, hcg, hfg, hst⟩ := row_store2 ho hr hq16 (fun g hg => HG6.out g _ hg) hlt
      have HST := Lib.hid hst
      have p0 : (0 : Int) ≤ (i : Int) := by omega
      have p1 : (i : Int) < (n : Int) := by omega
      clear hst ho hr hq16
      subst hga
      go_wp2_with fail
      go_roundw
      case rel =>
        obtain ⟨ho', ys', hr', hq'⟩ := HST.out _
        exact ⟨i + 1, by go_num, hlt, ho', ys', hr', hq'⟩
      case measure => simp [intOf]; omega
    · obtain rfl : n = i := by omega
      have p1 : ¬ (n : Int) < (n : Int) := by omega
      have HL1 := Lib.hid (And.intro ho hr)
      clear ho hr hlt hq16
      go_wp2_with fail
      go_loopw [10, 17] (fun v6 v13 wr => ∃ q : Nat, v13 = .int .i64 (q : Nat) ∧ q ≤ 9 ∧ OutW wx.heap.size w3.heap.size w5 wr ∧ ((q = 0 ∧ v6 = .slice a6 n n ∧ ∃ ys, wr.ownsRow wx.heap.size 45 1 (.slice a6 n cap6) n ys) ∨ (0 < q ∧ ∃ xs, wr.ownsRow w5.heap.size 45 1 v6 (n + q) xs))) (fun _ v _ => 9 - (intOf v).toNat)
      case atStart => exact ⟨0, rfl, Nat.zero_le _, HL1.out.1, .inl ⟨rfl, rfl, _, HL1.out.2⟩⟩
      case round =>
        obtain ⟨q, rfl, hq, ho, hcase⟩ := hrel
        have hV5 : w5.heap.size ≤ wr.heap.size := ho.size
        have HG := Lib.hid ho
        obtain ⟨i45, hi45, ia1, ia2, ia3⟩ := info_parts info79
        by_cases hlt3 : q < 9
        · have r2 : (q : Int) < 9 := by omega
          rcases hcase with ⟨rfl, rfl, ys, hr⟩ | ⟨hq0, xs, hown⟩
          · obtain ⟨ho1, ho2, ho3⟩ := row_olds hr ((Below.refl _ wr).alloc (Nat.le_refl _) (.cells #[.int .u16 8] 45))
            clear ho hr
            go_wp2_with (at_builtin; refine wpList_append_full _ rfl (.tmp 71) (.tmp 72) 24 rfl 45 i45 _ 1 2 Try.underlying24 hi45 ia1 ia2 ia3 rfl (by omega) a6 n ys rfl ho1 ho2 ho3 ⟨wr.heap.size, 0, none⟩ 1 1 [.int .u16 8] rfl rfl (World.news_of_block (cs := #[.int .u16 8]) (t := 45) (fr := (0, 0)) (Go.heap_alloc_new wr _)) (by simp [Value.oneCell']) (by omega) (by unfold maxLen; omega) (by omega) ?_; intro g6 c6 w6 hown6 hgrow6 hge6)
            go_roundw
            case rel =>
              have ha := World.grownBy_alloc wr (.cells #[.int .u16 8] 45) none
              refine ⟨1, by go_num, by omega, (HG.out.grown ha (fun _ e => by cases e)).grown hgrow6 (fun _ e => by cases e), .inr ⟨by omega, _, hown6.mono (by simp; omega)⟩⟩
            case measure => simp [intOf]
          · obtain ⟨av, cv, rfl⟩ := rwSlice hown
            have HO := Lib.hid hown
            clear ho hown
            go_wp2_with (at_builtin; refine wpList_append_any _ rfl (.tmp 71) (.tmp 72) 24 rfl w5.heap.size 45 i45 _ 1 2 Try.underlying24 hi45 ia1 ia2 ia3 rfl (by omega) _ (n + q) xs rfl (HO.out.alloc _) (some ⟨wr.heap.size, 0, none⟩) 1 1 [.int .u16 8] rfl rfl (.inr ⟨_, rfl, World.news_of_block (cs := #[.int .u16 8]) (t := 45) (fr := (0, 0)) (Go.heap_alloc_new wr _)⟩) (by simp [Value.oneCell']) (by unfold maxLen; omega) (by omega) (by simp; omega) ?_; intro a6 c6 w6 hown6 hgrow6)
            go_roundw
            case rel =>
              have ha := World.grownBy_alloc wr (.cells #[.int .u16 8] 45) none
              have hr : ∀ y, (Value.slice av (n + q) cv).ownBlock = some y → w5.heap.size ≤ y := fun y hy => (HO.out.lt y hy).1
              refine ⟨q + 1, by go_num, by omega, (HG.out.grown ha (fun _ e => by cases e)).grown hgrow6 (fun y e => .inl (hr y e)), .inr ⟨by omega, _, by rw [← Nat.add_assoc]; exact hown6⟩⟩
            case measure => simp [intOf]; omega
        · obtain rfl : q = 9 := by omega
          clear hcase hlt3 HL1 HR6 HG6 HQ1 hkk hbb
          have hbo := HB5.out.trans (ho.below (lo := wx.heap.size) (by omega))
          have HB13 := Lib.hid hbo
          have s13 := hbo.size
          obtain ⟨w13, hw13⟩ : ∃ w13, w13 = wr := ⟨_, rfl⟩
          rw [← hw13] at hbo HB13 s13 ⊢
          clear hw13 HG
          obtain ⟨y0, y1, y2, y3, y4, y5, ly⟩ := box_cells (KEEP.out w13 hbo).x
          clear ho hbo hV5
          go_wp2_with fail
          refine (HREP.out w13 HB13.out).mono ?_
          rintro e w14 ⟨P, rfl, hPc, hPf, b14⟩
          clear y0 y1 y2 y3 y4 y5 ly
          have hb := HB13.out.trans (b14.mono s13)
          have s14 := b14.size
          have HB14 := Lib.hid hb
          have HP14 := Lib.hid (And.intro hPc (And.intro hPf b14))
          obtain ⟨y0, y1, y2, y3, y4, y5, ly⟩ := box_cells (KEEP.out w14 hb).x
          clear hPc hPf b14 hb
          go_wp2_with fail
          obtain ⟨W14, hW14⟩ : ∃ W14, W14 = w14.alloc (.cells #[.int .i64 P.kind, .string P.name, .slice P.da P.data.length P.dc, .slice P.aa P.L.length P.ac, .int .u32 P.slot, .int .u32 P.gen] 30) := ⟨_, rfl⟩
          rw [← hW14]
          have hbW : Below w14.heap.size w14 W14 := by rw [hW14]; exact (Below.refl _ w14).alloc (Nat.le_refl _) _
          have hxW : W14.heap[w14.heap.size]? = some (.cells P.cells 30 (0, 0)) := by rw [hW14]; exact Go.heap_alloc_new w14 _
          have sW14 : W14.heap.size = w14.heap.size + 1 := by rw [hW14]; simp
          have HW14 := Lib.hid (And.intro hbW (And.intro hxW (HB14.out.trans (hbW.mono (by omega)))))
          clear hbW hxW hW14 y0 y1 y2 y3 y4 y5 ly
          refine (HREP.out W14 HW14.out.2.2).mono ?_
          rintro e w15 ⟨P2, rfl, hPc, hPf, b15⟩
          have hb := HW14.out.2.2.trans (b15.mono (by omega))
          have s15 := b15.size
          have HB15 := Lib.hid hb
          have HP15 := Lib.hid (And.intro hPc (And.intro hPf b15))
          obtain ⟨z0, z1, z2, z3, z4, z5, lz⟩ := box_cells (KEEP.out w15 hb).bx
          clear hPc hPf b15 hb
          go_wp2_with fail
          obtain ⟨W15, hW15⟩ : ∃ W15, W15 = w15.alloc (.cells #[.int .i64 P2.kind, .string P2.name, .slice P2.da P2.data.length P2.dc, .slice P2.aa P2.L.length P2.ac, .int .u32 P2.slot, .int .u32 P2.gen] 30) := ⟨_, rfl⟩
          rw [← hW15]
          have hbW : Below w15.heap.size w15 W15 := by rw [hW15]; exact (Below.refl _ w15).alloc (Nat.le_refl _) _
          have hxW : W15.heap[w15.heap.size]? = some (.cells P2.cells 30 (0, 0)) := by rw [hW15]; exact Go.heap_alloc_new w15 _
          have sW15 : W15.heap.size = w15.heap.size + 1 := by rw [hW15]; simp
          have HW15 := Lib.hid (And.intro hbW (And.intro hxW (HB15.out.trans (hbW.mono (by omega)))))
          clear hbW hxW hW15 z0 z1 z2 z3 z4 z5 lz
          refine (HREPR.out W15 HW15.out.2.2).mono ?_
          rintro e w16 ⟨R, rfl, hPc, hPf, b16⟩
          have hb := HW15.out.2.2.trans (b16.mono (by omega))
          have s16 := b16.size
          have HB16 := Lib.hid hb
          have HP16 := Lib.hid (And.intro hPc (And.intro hPf b16))
          have hp := (b16.block _ (by omega)).trans ((HW15.out.1.block _ (by omega)).trans ((HP15.out.2.2.block _ (by omega)).trans HW14.out.2.1))
          have hq := (b16.block _ (by omega)).trans HW15.out.2.1
          have HPQ := Lib.hid (And.intro hp hq)
          obtain ⟨y0, y1, y2, y3, y4, y5, ly⟩ := box_cells hp
          obtain ⟨x0, x1, x2, x3, x4, x5, lx⟩ := box_cells hq
          have hkk : (k2 != k2) = false := by simp
          clear hPc hPf b16 hb hp hq
          go_wp2_with fail
          obtain ⟨W16, hW16⟩ : ∃ W16, W16 = w16.alloc (.cells #[.int .i64 R.kind, .string R.name, .slice R.da R.data.length R.dc, .slice R.aa R.L.length R.ac, .int .u32 R.slot, .int .u32 R.gen] 30) := ⟨_, rfl⟩
          rw [← hW16]
          have hbW : Below w16.heap.size w16 W16 := by rw [hW16]; exact (Below.refl _ w16).alloc (Nat.le_refl _) _
          have sW16 : W16.heap.size = w16.heap.size + 1 := by rw [hW16]; simp
          have hr16 : W16.heap[w16.heap.size]? = some (.cells R.cells 30 (0, 0)) := by rw [hW16]; exact Go.heap_alloc_new w16 _
          clear hW16 y0 y1 y2 y3 y4 y5 ly x0 x1 x2 x3 x4 x5 lx hkk
          have hc16 : Below w15.heap.size w15 W16 := HW15.out.1.trans ((HP16.out.2.2.mono (by omega)).trans (hbW.mono (by omega)))
          have hb16 : Below w14.heap.size w14 W16 := HW14.out.1.trans ((HP15.out.2.2.mono (by omega)).trans (hc16.mono (by omega)))
          have hp := (hbW.block _ (lt_of_some HPQ.out.1)).trans HPQ.out.1
          have hq := (hbW.block _ (lt_of_some HPQ.out.2)).trans HPQ.out.2
          refine (HBOTH.out cc HBD.out.1 w13.heap.size w14 W14.heap.size w15 W15.heap.size W16 P P2 R HP14.out.1 HP15.out.1 HP16.out.1 HP14.out.2.1 HP15.out.2.1 (HP16.out.2.1.below hbW) s14 (by omega) s15 (by omega) hb16 hc16).mono ?_
          rintro e w17 ⟨rfl, b17, k17⟩
          have hb := (HB14.out.trans (hb16.mono (by omega))).trans (b17.mono s13)
          have HB17' := Lib.hid hb
          have s17' := hb.size
          have s17'' : W16.heap.size ≤ w17.heap.size := b17.size
          have HBX := Lib.hid (And.intro (k17 _ _ hp) (And.intro (k17 _ _ hq) (k17 _ _ hr16)))
          obtain ⟨y0, y1, y2, y3, y4, y5, ly⟩ := box_cells (KEEP.out w17 hb).x
          obtain ⟨z0, z1, z2, z3, z4, z5, lz⟩ := box_cells (KEEP.out w17 hb).bx
          clear hbW hc16 hb16 b17 hb hp hq hr16 k17
          go_wp2_with fail
          refine (HKEPT.out w17 HB17'.out).mono ?_
          rintro e w18 ⟨rfl, b18⟩
          have hb := HB17'.out.trans (b18.mono s17')
          have HB18 := Lib.hid hb
          have s18 := hb.size
          have s18' := b18.size
          have HBX8 := Lib.hid (And.intro ((b18.block _ (lt_of_some HBX.out.1)).trans HBX.out.1) (And.intro ((b18.block _ (lt_of_some HBX.out.2.1)).trans HBX.out.2.1) ((b18.block _ (lt_of_some HBX.out.2.2)).trans HBX.out.2.2)))
          clear y0 y1 y2 y3 y4 y5 ly z0 z1 z2 z3 z4 z5 lz b18 hb
          go_wp2_with fail
          refine (HKU.out w18 HB18.out).mono ?_
          rintro e w19' ⟨rfl, q19, rfl⟩
          obtain ⟨w19, hw19⟩ : ∃ w19, w19 = w18.drewN q19 := ⟨_, rfl⟩
          rw [← hw19]
          have hb : Below wx.heap.size wx w19 := by rw [hw19]; exact below_dN HB18.out s18 _
          have b1819 : Below w18.heap.size w18 w19 := by rw [hw19]; exact below_dN (Below.refl _ _) (Nat.le_refl _) _
          have HB19 := Lib.hid hb
          have s19 := hb.size
          have s19' : w19.heap.size = w18.heap.size := by rw [hw19]; simp
          have HBX9 := Lib.hid (And.intro ((b1819.block _ (lt_of_some HBX8.out.1)).trans HBX8.out.1) (And.intro ((b1819.block _ (lt_of_some HBX8.out.2.1)).trans HBX8.out.2.1) ((b1819.block _ (lt_of_some HBX8.out.2.2)).trans HBX8.out.2.2)))
          obtain ⟨y0, y1, y2, y3, y4, y5, ly⟩ := box_cells (KEEP.out w19 hb).x
          clear hw19 b1819 hb HBX HBX8 HPQ
          go_wp2_with fail
          refine (HCUT.out w19 HB19.out).mono ?_
          rintro e w20 ⟨P', rfl, hPc, hPf, b20⟩
          clear y0 y1 y2 y3 y4 y5 ly
          have s20 := b20.size
          have hp := (b20.block _ (lt_of_some HBX9.out.1)).trans HBX9.out.1
          have hq := (b20.block _ (lt_of_some HBX9.out.2.1)).trans HBX9.out.2.1
          have hr := (b20.block _ (lt_of_some HBX9.out.2.2)).trans HBX9.out.2.2
          have HB20 := Lib.hid (HB19.out.trans (b20.mono s19))
          have HP20 := Lib.hid (And.intro hPc (And.intro hPf (And.intro hp (And.intro hq hr))))
          obtain ⟨y0, y1, y2, y3, y4, y5, ly⟩ := box_cells hp
          have g0 := fun j => free_blk hp j
          clear hPc hPf b20 hp hq hr
          go_upto_region 22 with fail
          obtain ⟨W20, hW20⟩ : ∃ W20, W20 = ((((((w20.setCell ⟨w14.heap.size, 0, none⟩ (.int .i64 P'.kind)).setCell ⟨w14.heap.size, 1, none⟩ (.string P'.name)).setCell ⟨w14.heap.size, 2, none⟩ (.slice P'.da P'.data.length P'.dc)).setCell ⟨w14.heap.size, 3, none⟩ (.slice P'.aa P'.L.length P'.ac)).setCell ⟨w14.heap.size, 4, none⟩ (.int .u32 P'.slot)).setCell ⟨w14.heap.size, 5, none⟩ (.int .u32 P'.gen)) := ⟨_, rfl⟩
          rw [← hW20]
          obtain ⟨hE, hFr⟩ := six_cells HP20.out.2.2.1 (.int .i64 P'.kind) (.string P'.name) (.slice P'.da P'.data.length P'.dc) (.slice P'.aa P'.L.length P'.ac) (.int .u32 P'.slot) (.int .u32 P'.gen)
          rw [← hW20] at hE hFr
          have sW20 : W20.heap.size = w20.heap.size := by rw [hW20]; simp
          have hq := six_other HP20.out.2.2.2.1 (show w15.heap.size ≠ w14.heap.size by omega) (.int .i64 P'.kind) (.string P'.name) (.slice P'.da P'.data.length P'.dc) (.slice P'.aa P'.L.length P'.ac) (.int .u32 P'.slot) (.int .u32 P'.gen)
          have hr := six_other HP20.out.2.2.2.2 (show w16.heap.size ≠ w14.heap.size by omega) (.int .i64 P'.kind) (.string P'.name) (.slice P'.da P'.data.length P'.dc) (.slice P'.aa P'.L.length P'.ac) (.int .u32 P'.slot) (.int .u32 P'.gen)
          rw [← hW20] at hq hr
          have hb := HB20.out.trans ((hFr.below (by omega)).mono (show wx.heap.size ≤ w14.heap.size by omega))
          have HB20W := Lib.hid hb
          have sb20 := hb.size
          have HQ20 := Lib.hid (And.intro HP20.out.1 (And.intro (HP20.out.2.1.frt hFr) (And.intro hE (And.intro hq hr))))
          clear hW20 hE hFr hq hr y0 y1 y2 y3 y4 y5 ly g0
          obtain ⟨y0, y1, y2, y3, y4, y5, ly⟩ := box_cells (KEEP.out W20 hb).x
          clear hb
          go_wp2_with fail
          refine (HCUT.out W20 HB20W.out).mono ?_
          rintro e w21 ⟨P2', rfl, hPc, hPf, b21⟩
          clear y0 y1 y2 y3 y4 y5 ly
          have s21 := b21.size
          have hp := (b21.block _ (lt_of_some HQ20.out.2.2.1)).trans HQ20.out.2.2.1
          have hq := (b21.block _ (lt_of_some HQ20.out.2.2.2.1)).trans HQ20.out.2.2.2.1
          have hr := (b21.block _ (lt_of_some HQ20.out.2.2.2.2)).trans HQ20.out.2.2.2.2
          have HB21 := Lib.hid (HB20W.out.trans (b21.mono sb20))
          have HP21 := Lib.hid (And.intro hPc (And.intro hPf (And.intro hp (And.intro hq (And.intro hr b21)))))
          obtain ⟨x0, x1, x2, x3, x4, x5, lx⟩ := box_cells hq
          have g0 := fun j => free_blk hq j
          clear hPc hPf b21 hp hq hr
          go_upto_region 23 with fail
          obtain ⟨W21, hW21⟩ : ∃ W21, W21 = ((((((w21.setCell ⟨w15.heap.size, 0, none⟩ (.int .i64 P2'.kind)).setCell ⟨w15.heap.size, 1, none⟩ (.string P2'.name)).setCell ⟨w15.heap.size, 2, none⟩ (.slice P2'.da P2'.data.length P2'.dc)).setCell ⟨w15.heap.size, 3, none⟩ (.slice P2'.aa P2'.L.length P2'.ac)).setCell ⟨w15.heap.size, 4, none⟩ (.int .u32 P2'.slot)).setCell ⟨w15.heap.size, 5, none⟩ (.int .u32 P2'.gen)) := ⟨_, rfl⟩
          rw [← hW21]
          obtain ⟨hE, hFr⟩ := six_cells HP21.out.2.2.2.1 (.int .i64 P2'.kind) (.string P2'.name) (.slice P2'.da P2'.data.length P2'.dc) (.slice P2'.aa P2'.L.length P2'.ac) (.int .u32 P2'.slot) (.int .u32 P2'.gen)
          rw [← hW21] at hE hFr
          have sW21 : W21.heap.size = w21.heap.size := by rw [hW21]; simp
          have hp := six_other HP21.out.2.2.1 (show w14.heap.size ≠ w15.heap.size by omega) (.int .i64 P2'.kind) (.string P2'.name) (.slice P2'.da P2'.data.length P2'.dc) (.slice P2'.aa P2'.L.length P2'.ac) (.int .u32 P2'.slot) (.int .u32 P2'.gen)
          have hr := six_other HP21.out.2.2.2.2.1 (show w16.heap.size ≠ w15.heap.size by omega) (.int .i64 P2'.kind) (.string P2'.name) (.slice P2'.da P2'.data.length P2'.dc) (.slice P2'.aa P2'.L.length P2'.ac) (.int .u32 P2'.slot) (.int .u32 P2'.gen)
          rw [← hW21] at hp hr
          have hb := HB21.out.trans ((hFr.below (by omega)).mono (show wx.heap.size ≤ w15.heap.size by omega))
          have HB21W := Lib.hid hb
          have sb21 := hb.size
          have HQ21 := Lib.hid (And.intro HP21.out.1 (And.intro (HP21.out.2.1.frt hFr) (And.intro hp (And.intro hE (And.intro hr ((FrT.of_below HP21.out.2.2.2.2.2 : FrT [30] 0 _ _).trans (hFr.mono (fun _ h => h) (Nat.zero_le _))))))))
          clear hW21 hE hFr hp hr x0 x1 x2 x3 x4 x5 lx g0
          obtain ⟨z0, z1, z2, z3, z4, z5, lz⟩ := box_cells (KEEP.out W21 hb).bx
          clear hb
          go_wp2_with fail
          refine (HCUTR.out W21 HB21W.out).mono ?_
          rintro e w22 ⟨R', rfl, hPc, hPf, b22⟩
          clear z0 z1 z2 z3 z4 z5 lz
          have s22 := b22.size
          have hp := (b22.block _ (lt_of_some HQ21.out.2.2.1)).trans HQ21.out.2.2.1
          have hq := (b22.block _ (lt_of_some HQ21.out.2.2.2.1)).trans HQ21.out.2.2.2.1
          have hr := (b22.block _ (lt_of_some HQ21.out.2.2.2.2.1)).trans HQ21.out.2.2.2.2.1
          have HB22 := Lib.hid (HB21W.out.trans (b22.mono sb21))
          have HP22 := Lib.hid (And.intro hPc (And.intro hPf (And.intro hp (And.intro hq (And.intro hr b22)))))
          obtain ⟨x0, x1, x2, x3, x4, x5, lx⟩ := box_cells hr
          have g0 := fun j => free_blk hr j
          clear hPc hPf b22 hp hq hr
          go_upto_region 24 with fail
          obtain ⟨W22, hW22⟩ : ∃ W22, W22 = ((((((w22.setCell ⟨w16.heap.size, 0, none⟩ (.int .i64 R'.kind)).setCell ⟨w16.heap.size, 1, none⟩ (.string R'.name)).setCell ⟨w16.heap.size, 2, none⟩ (.slice R'.da R'.data.length R'.dc)).setCell ⟨w16.heap.size, 3, none⟩ (.slice R'.aa R'.L.length R'.ac)).setCell ⟨w16.heap.size, 4, none⟩ (.int .u32 R'.slot)).setCell ⟨w16.heap.size, 5, none⟩ (.int .u32 R'.gen)) := ⟨_, rfl⟩
          rw [← hW22]
          obtain ⟨hE, hFr⟩ := six_cells HP22.out.2.2.2.2.1 (.int .i64 R'.kind) (.string R'.name) (.slice R'.da R'.data.length R'.dc) (.slice R'.aa R'.L.length R'.ac) (.int .u32 R'.slot) (.int .u32 R'.gen)
          rw [← hW22] at hE hFr
          have sW22 : W22.heap.size = w22.heap.size := by rw [hW22]; simp
          have hp := six_other HP22.out.2.2.1 (show w14.heap.size ≠ w16.heap.size by omega) (.int .i64 R'.kind) (.string R'.name) (.slice R'.da R'.data.length R'.dc) (.slice R'.aa R'.L.length R'.ac) (.int .u32 R'.slot) (.int .u32 R'.gen)
          have hq := six_other HP22.out.2.2.2.1 (show w15.heap.size ≠ w16.heap.size by omega) (.int .i64 R'.kind) (.string R'.name) (.slice R'.da R'.data.length R'.dc) (.slice R'.aa R'.L.length R'.ac) (.int .u32 R'.slot) (.int .u32 R'.gen)
          rw [← hW22] at hp hq
          have hb := HB22.out.trans ((hFr.below (by omega)).mono (show wx.heap.size ≤ w16.heap.size by omega))
          have HB22W := Lib.hid hb
          have sb22 := hb.size
          have f2122 : FrT [30] 0 W21 W22 := (FrT.of_below HP22.out.2.2.2.2.2 : FrT [30] 0 _ _).trans (hFr.mono (fun _ h => h) (Nat.zero_le _))
          have f2022 : FrT [30] 0 W20 W22 := HQ21.out.2.2.2.2.2.trans f2122
          have hcall := HBOTH.out c3 HBD.out.2 w19.heap.size (cutW W22 W20.heap.size) W20.heap.size (cutW W22 W21.heap.size) W21.heap.size W22 P' P2' R' HQ20.out.1 HQ21.out.1 HP22.out.1 (HQ20.out.2.1.frt (cutW_fr f2022)) (HQ21.out.2.1.frt (cutW_fr f2122)) (HP22.out.2.1.fr30 hFr) (by rw [cutW_size W22 f2022.size]; omega) (by rw [cutW_size W22 f2022.size]; exact Nat.le_refl _) (by rw [cutW_size W22 f2122.size]; omega) (by rw [cutW_size W22 f2022.size]; omega) (cutW_below W22 f2022.size) (cutW_below W22 f2122.size)
          have HCALL := Lib.hid hcall
          have hkk : (k3 == k3) = true := by simp
          have hbb : (is3 == is3) = true := by simp
          clear x0 x1 x2 x3 x4 x5 lx g0
          obtain ⟨y0, y1, y2, y3, y4, y5, ly⟩ := box_cells hp
          obtain ⟨x0, x1, x2, x3, x4, x5, lx⟩ := box_cells hq
          obtain ⟨z0, z1, z2, z3, z4, z5, lz⟩ := box_cells hE
          clear hW22 hE hFr hp hq hcall f2122 f2022 hb
          go_wp2_with fail
          refine HCALL.out.mono ?_
          rintro e w23 ⟨rfl, b23, k23⟩
          have hb := HB22W.out.trans (b23.mono s19)
          have HB23 := Lib.hid hb
          have s23 := hb.size
          clear y0 y1 y2 y3 y4 y5 ly x0 x1 x2 x3 x4 x5 lx z0 z1 z2 z3 z4 z5 lz b23 k23
          obtain ⟨y0, y1, y2, y3, y4, y5, ly⟩ := box_cells (KEEP.out w23 hb).x
          obtain ⟨z0, z1, z2, z3, z4, z5, lz⟩ := box_cells (KEEP.out w23 hb).bx
          clear hb
          go_wp2_with fail
          refine (HKEPT.out w23 HB23.out).mono ?_
          rintro e w24 ⟨rfl, b24⟩
          have HB24 := Lib.hid (HB23.out.trans (b24.mono s23))
          clear b24 y0 y1 y2 y3 y4 y5 ly z0 z1 z2 z3 z4 z5 lz
          go_wp2_with fail
          go_ret
          exact ⟨rfl, HLOW.out.trans (HB24.out.mono hxw)⟩
end Go.Proofs.Ytelhnaphkbpakaa

