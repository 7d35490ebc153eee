/- spoil walked. spoilt: bears a node that mark still? both: a node that was told twice is what it must be, each in memory of its own. The document's answer: copied, Units, span, Sub. append onto a row of the call's own as a step of a region that draws. No program. -/
import Derived.Deep.DeepCutAuto
import Derived.Test.YtelhnaphkbpakaaMc12
namespace Go.Proofs.Ytelhnaphkbpakaa
open Go.RowKit
set_option linter.unusedVariables false
set_option maxRecDepth 100000

set_option maxHeartbeats 8000000 in
theorem spoil_calls (lo : Nat) (w0 w : World) (N : Nd) (hf : Fresh lo w0 N) (hb : Below w0.heap.size w0 w) (hB : N.Bd 1099511627776) (hlo : lo ≤ w0.heap.size) (m : Nat) (hm : m < 65535) :
    Calls Try.prog 62 #[N.v, .int .u16 (m : Int)] w fun e w' => (∃ v, e = .returned v) ∧ SpW lo w0.heap.size (m : Int) w w' ∧ AllMi w' N (m : Int) N.L.length := by
  obtain ⟨V, hV⟩ : ∃ V, V = w.alloc (.cells N.cells 30) := ⟨_, rfl⟩
  have hbV : Below w.heap.size w V := by rw [hV]; exact (Below.refl _ w).alloc (Nat.le_refl _) _
  have hbox : V.heap[w.heap.size]? = some (.cells N.cells 30 (0, 0)) := by rw [hV]; exact Go.heap_alloc_new w _
  have HBOX : Hid (∀ wr, SpW lo w0.heap.size (m : Int) V wr → wr.heap[w.heap.size]? = some (.cells N.cells 30 (0, 0))) := Lib.hid (fun wr h => h.block _ _ hbox (.inr (.inr ⟨by simp [oty], by simp [oty]⟩)))
  have hV2 := hV
  unfold Nd.cells at hV2
  unfold Nd.v Nd.cells
  obtain ⟨n, en⟩ : ∃ n, n = N.L.length := ⟨_, rfl⟩
  obtain ⟨md, ed⟩ : ∃ md, md = N.data.length := ⟨_, rfl⟩
  have hn := hB.attrs
  have hd := hB.data
  have hv := hB.val
  rw [← en] at hn hV2 ⊢
  rw [← ed] at hd hV2 ⊢
  have HN := Lib.hid en
  have HD := Lib.hid ed
  have HF := Lib.hid hf
  have HV := Lib.hid (And.intro hV2 (And.intro hbV (hb.trans (hbV.mono hb.size))))
  have HVL := Lib.hid hv
  have hsz : w0.heap.size ≤ w.heap.size := hb.size
  have q9 : IntKind.u16.wrap ((m : Int) + 1) = (m : Int) + 1 := IntWalk.u16_in _ (by omega)
  clear hV hV2 hbV hbox en ed hf hb hv hB
  go_enter Try.func62, Try.ntmps62
  go_wp2_with fail
  rw [← HV.out.1]
  go_loopw [15] (fun v wr => ∃ i : Nat, v = .int .i64 (i : Nat) ∧ i ≤ md ∧ SpW lo w0.heap.size (m : Int) V wr ∧ ∀ j, j < i → ∃ b, N.da = some ⟨b, 0, none⟩ ∧ wr.cell? ⟨b, j, none⟩ = some (.int .u16 (m : Int))) (fun v _ => md - (intOf v).toNat)
  case atStart => exact ⟨0, rfl, Nat.zero_le _, SpW.refl _ _ _ _, fun j hj => absurd hj (Nat.not_lt_zero _)⟩
  case round =>
    obtain ⟨i, rfl, hi, hsp, hdone⟩ := hrel
    have x0 := HBOX.out wr hsp
    have c2 : wr.cell? ⟨w.heap.size, 2, none⟩ = some (.slice N.da md N.dc) := by rw [HD.out]; exact cell_blk x0 2 rfl
    have l0 := lt_of_some x0
    by_cases hlt : i < md
    · obtain ⟨b, cur, hda, hb1, hb2, hb3, hb4⟩ := HF.out.blk_data (by rw [← HD.out]; omega)
      obtain ⟨c', u, g1, g2, g3⟩ := unit_cell HV.out.2.2 hsp hb2 hb3 (j := i) (n := md) hlt (by rw [HD.out]; exact hb4)
      rw [hda] at c2
      have p0 : (0 : Int) ≤ (i : Int) := by omega
      have p1 : (i : Int) < (md : Int) := by omega
      have lb := lt_of_some g1
      have HH := Lib.hid (And.intro hsp (And.intro hdone (And.intro hda (And.intro g1 (And.intro hb1 (And.intro hb2 (And.intro hb3 x0)))))))
      clear hsp hdone hda hb3 hb4 g1 x0
      go_wp2_with fail
      go_roundw
      case rel =>
        have hs := SpW.set_unit (lo := lo) (hi := w0.heap.size) (m := (m : Int)) HH.out.2.2.2.1 hb1 hb2 i
        refine ⟨i + 1, by go_num, hlt, HH.out.1.trans hs, fun j hj => ?_⟩
        rcases Nat.lt_or_ge j i with h | h
        · obtain ⟨b', e1, e2⟩ := HH.out.2.1 j h
          rw [HH.out.2.2.1] at e1; cases e1
          exact ⟨b, HH.out.2.2.1, hs.keep_unit HH.out.2.2.2.1 e2⟩
        · obtain rfl : j = i := by omega
          exact ⟨b, HH.out.2.2.1, World.cell?_setCell_same' wr ⟨b, j, none⟩ _ (by rw [g2]; rfl)⟩
      case measure => simp [intOf]; omega
    · obtain rfl : i = md := by omega
      have p1 : ¬ (i : Int) < (i : Int) := by omega
      have c3 : wr.cell? ⟨w.heap.size, 3, none⟩ = some (.slice N.aa n N.ac) := by rw [HN.out]; exact cell_blk x0 3 rfl
      have HA0 : Hid (SpW lo w0.heap.size (m : Int) V wr ∧ AllMi wr N (m : Int) 0) := Lib.hid ⟨hsp, fun j hj => hdone j (by rw [HD.out]; exact hj), fun a x ha => absurd ha (Nat.not_lt_zero _), fun a x ha => absurd ha (Nat.not_lt_zero _)⟩
      clear hsp hdone hlt x0
      go_wp2_with fail
      go_loopw [27] (fun v wr => ∃ a : Nat, v = .int .i64 (a : Nat) ∧ a ≤ n ∧ SpW lo w0.heap.size (m : Int) V wr ∧ AllMi wr N (m : Int) a) (fun v _ => n - (intOf v).toNat)
      case atStart => exact ⟨0, rfl, Nat.zero_le _, HA0.out⟩
      case round =>
        clear c2 c3 l0
        obtain ⟨a, rfl, ha, hsp, hall⟩ := hrel
        have x0 := HBOX.out wr hsp
        have c2 : wr.cell? ⟨w.heap.size, 2, none⟩ = some (.slice N.da i N.dc) := by rw [HD.out]; exact cell_blk x0 2 rfl
        have c3 : wr.cell? ⟨w.heap.size, 3, none⟩ = some (.slice N.aa n N.ac) := by rw [HN.out]; exact cell_blk x0 3 rfl
        have l0 := lt_of_some x0
        by_cases hlt : a < n
        · obtain ⟨x, hx⟩ : ∃ x, N.L[a]? = some x := ⟨_, List.getElem?_eq_getElem (by rw [← HN.out]; exact hlt)⟩
          obtain ⟨bA, cur, hda, hb1, hb2, hb3, hb4, hb5⟩ := HF.out.blk_attrs (by rw [← HN.out]; omega)
          obtain ⟨xl, exl⟩ : ∃ xl, xl = x.val.length := ⟨_, rfl⟩
          have hVA := (HV.out.2.2.block bA hb2).trans hb3
          have hslV : V.cell? ⟨bA, a * 2 + 1, none⟩ = some (.slice x.va xl x.vc) := by rw [exl]; exact (HV.out.2.2.cell (p := ⟨bA, a * 2 + 1, none⟩) hb2).trans (hb5 _ _ (cellsA_at hx).2)
          have HSL : Hid (∀ wr2, SpW lo w0.heap.size (m : Int) V wr2 → wr2.cell? ⟨bA, a * 2 + 1, none⟩ = some (.slice x.va xl x.vc) ∧ wr2.cell? ⟨w.heap.size, 3, none⟩ = some (.slice (some ⟨bA, 0, none⟩) n N.ac) ∧ w.heap.size < wr2.heap.size ∧ bA < wr2.heap.size) := Lib.hid (fun wr2 h => by
            have hx0 := HBOX.out wr2 h
            refine ⟨h.keep_odd hVA (by omega) hslV, ?_, lt_of_some hx0, by obtain ⟨c', g1, _⟩ := h.name bA cur hVA; exact lt_of_some g1⟩
            rw [← hda, HN.out]; exact cell_blk hx0 3 rfl)
          obtain ⟨s1, s2, s3, s4⟩ := HSL.out wr hsp
          have p0 : (0 : Int) ≤ (a : Int) := by omega
          have p1 : (a : Int) < (n : Int) := by omega
          have hxm := List.mem_of_getElem? hx
          have hxl : xl ≤ 1099511627776 := by rw [exl]; exact HVL.out x hxm
          have HX := Lib.hid (And.intro hx (And.intro hxm (And.intro exl (And.intro hda (And.intro hVA hb1)))))
          have HS := Lib.hid (And.intro hsp hall)
          clear hsp hall hx hxm exl hda hVA hslV hb3 hb4 hb5 x0 c2 c3
          go_wp2_with fail
          go_loopw [37] (fun v wr2 => ∃ k : Nat, v = .int .i64 (k : Nat) ∧ k ≤ xl ∧ SpW lo w0.heap.size (m : Int) V wr2 ∧ AllMi wr2 N (m : Int) a ∧ ∀ j, j < k → ∃ b, x.va = some ⟨b, 0, none⟩ ∧ wr2.cell? ⟨b, j, none⟩ = some (.int .u16 (m : Int))) (fun v _ => xl - (intOf v).toNat)
          case atStart => exact ⟨0, rfl, Nat.zero_le _, HS.out.1, HS.out.2, fun j hj => absurd hj (Nat.not_lt_zero _)⟩
          case round =>
            clear s1 s2 s3 s4
            obtain ⟨k, rfl, hk, hsp, hall, hdone⟩ := hrel
            obtain ⟨s1, s2, s3, s4⟩ := HSL.out wr hsp
            by_cases hlt2 : k < xl
            · obtain ⟨bv, curv, hva, hv1, hv2, hv3, hv4⟩ := HF.out.blk_val HX.out.2.1 (by rw [← HX.out.2.2.1]; omega)
              obtain ⟨c', u, g1, g2, g3⟩ := unit_cell HV.out.2.2 hsp hv2 hv3 (j := k) (n := xl) hlt2 (by rw [HX.out.2.2.1]; exact hv4)
              rw [hva] at s1
              have r0 : (0 : Int) ≤ (k : Int) := by omega
              have r1 : (k : Int) < (xl : Int) := by omega
              have lb := lt_of_some g1
              have HH := Lib.hid (And.intro hsp (And.intro hall (And.intro hdone (And.intro hva g1))))
              clear hsp hall hdone hva hv3 hv4 g1
              go_wp2_with fail
              go_roundw
              case rel =>
                have hs := SpW.set_unit (lo := lo) (hi := w0.heap.size) (m := (m : Int)) HH.out.2.2.2.2 hv1 hv2 k
                refine ⟨k + 1, by go_num, hlt2, HH.out.1.trans hs, HH.out.2.1.keep HF.out HV.out.2.2 HH.out.1 hs, fun j hj => ?_⟩
                rcases Nat.lt_or_ge j k with h | h
                · obtain ⟨b', e1, e2⟩ := HH.out.2.2.1 j h
                  rw [HH.out.2.2.2.1] at e1; cases e1
                  exact ⟨bv, HH.out.2.2.2.1, hs.keep_unit HH.out.2.2.2.2 e2⟩
                · obtain rfl : j = k := by omega
                  exact ⟨bv, HH.out.2.2.2.1, World.cell?_setCell_same' wr ⟨bv, j, none⟩ _ (by rw [g2]; rfl)⟩
              case measure => simp [intOf]; omega
            · obtain rfl : k = xl := by omega
              have r1 : ¬ (k : Int) < (k : Int) := by omega
              have HH := Lib.hid (And.intro hsp (And.intro hall hdone))
              clear hsp hall hdone hlt2
              go_wp2_with fail
              have hvc : x.vc = k := by rw [(HF.out.attrs.val x HX.out.2.1).2, ← HX.out.2.2.1]
              rw [hvc]
              have hVs : V.heap.size ≤ wr.heap.size := HH.out.1.size
              have hwV : w0.heap.size ≤ V.heap.size := HV.out.2.2.size
              clear s1 s2 s3 s4 hvc
              go_loopw [7, 8] (fun v7 v8 wr => ∃ q : Nat, v8 = .int .i64 (q : Nat) ∧ q ≤ 9 ∧ SpW lo w0.heap.size (m : Int) V wr ∧ AllMi wr N (m : Int) a ∧ (∀ j, j < k → ∃ b, x.va = some ⟨b, 0, none⟩ ∧ wr.cell? ⟨b, j, none⟩ = some (.int .u16 (m : Int))) ∧ ((q = 0 ∧ v7 = .slice x.va k k) ∨ (0 < q ∧ ∃ xs, wr.ownsRow V.heap.size 45 1 v7 (k + q) xs))) (fun _ v _ => 9 - (intOf v).toNat)
              case atStart => exact ⟨0, rfl, Nat.zero_le _, HH.out.1, HH.out.2.1, HH.out.2.2, .inl ⟨rfl, rfl⟩⟩
              case round =>
                obtain ⟨q, rfl, hq, hsp, hall, hdone, hcase⟩ := hrel
                have hVr : V.heap.size ≤ wr.heap.size := hsp.size
                have HG := Lib.hid (And.intro hsp (And.intro hall hdone))
                obtain ⟨i45, hi45, ia1, ia2, ia3⟩ := info_parts info79
                by_cases hlt3 : q < 9
                · have r2 : (q : Int) < 9 := by omega
                  rcases hcase with ⟨rfl, rfl⟩ | ⟨hq0, xs, hown⟩
                  · obtain ⟨olds, ho1, ho2, ho3⟩ := unit_olds (w2 := wr.alloc (.cells #[.int .u16 ((m : Int) + 1)] 45)) (a := x.va) (n := k) HV.out.2.2 hsp (fun h => by
                      obtain ⟨bv, curv, e1, e2, e3, e4, e5⟩ := HF.out.blk_val HX.out.2.1 (by rw [← HX.out.2.2.1]; exact h)
                      exact ⟨bv, curv, e1, e3, e4, by rw [HX.out.2.2.1]; exact e5⟩) ((Below.refl _ wr).alloc (Nat.le_refl _) _)
                    clear hsp hall hdone
                    go_wp2_with (at_builtin; refine wpList_append_full _ rfl (.tmp 60) (.tmp 63) 24 rfl 45 i45 _ 1 2 Try.underlying24 hi45 ia1 ia2 ia3 rfl (by omega) x.va k olds rfl ho1 ho2 ho3 ⟨wr.heap.size, 0, none⟩ 1 1 [.int .u16 ((m : Int) + 1)] rfl rfl (World.news_of_block (cs := #[.int .u16 ((m : Int) + 1)]) (t := 45) (fr := (0, 0)) (Go.heap_alloc_new wr _)) (by simp [Value.oneCell']) (by omega) (by unfold maxLen; omega) (by omega) ?_; intro g6 c6 w6 hown6 hgrow6 hge6)
                    go_roundw
                    case rel =>
                      have ha := World.grownBy_alloc wr (.cells #[.int .u16 ((m : Int) + 1)] 45) none
                      refine ⟨1, by go_num, by omega, (HG.out.1.grown ha (fun _ e => by cases e)).grown hgrow6 (fun _ e => by cases e), (HG.out.2.1.grown HF.out (by omega) ha (fun _ e => by cases e)).grown HF.out (by simp; omega) hgrow6 (fun _ e => by cases e), vdone_grown HF.out HX.out.2.1 (by rw [← HX.out.2.2.1]; exact Nat.le_refl _) (vdone_grown HF.out HX.out.2.1 (by rw [← HX.out.2.2.1]; exact Nat.le_refl _) HG.out.2.2 (by omega) ha (fun _ e => by cases e)) (by simp; omega) hgrow6 (fun _ e => by cases e), .inr ⟨by omega, _, hown6.mono (by simp; omega)⟩⟩
                    case measure => simp [intOf]
                  · obtain ⟨av, cv, rfl⟩ := rwSlice hown
                    have HO := Lib.hid hown
                    clear hsp hall hdone hown
                    go_wp2_with (at_builtin; refine wpList_append_any _ rfl (.tmp 60) (.tmp 63) 24 rfl V.heap.size 45 i45 _ 1 2 Try.underlying24 hi45 ia1 ia2 ia3 rfl (by omega) _ (k + q) xs rfl (HO.out.alloc _) (some ⟨wr.heap.size, 0, none⟩) 1 1 [.int .u16 ((m : Int) + 1)] rfl rfl (.inr ⟨_, rfl, World.news_of_block (cs := #[.int .u16 ((m : Int) + 1)]) (t := 45) (fr := (0, 0)) (Go.heap_alloc_new wr _)⟩) (by simp [Value.oneCell']) (by unfold maxLen; omega) (by omega) (by simp; omega) ?_; intro a6 c6 w6 hown6 hgrow6)
                    go_roundw
                    case rel =>
                      have ha := World.grownBy_alloc wr (.cells #[.int .u16 ((m : Int) + 1)] 45) none
                      have hr : ∀ y, (Value.slice av (k + q) cv).ownBlock = some y → V.heap.size ≤ y := fun y hy => (HO.out.lt y hy).1
                      refine ⟨q + 1, by go_num, by omega, (HG.out.1.grown ha (fun _ e => by cases e)).grown hgrow6 hr, (HG.out.2.1.grown HF.out (by omega) ha (fun _ e => by cases e)).grown HF.out (by simp; omega) hgrow6 (fun y e => Nat.le_trans hwV (hr y e)), vdone_grown HF.out HX.out.2.1 (by rw [← HX.out.2.2.1]; exact Nat.le_refl _) (vdone_grown HF.out HX.out.2.1 (by rw [← HX.out.2.2.1]; exact Nat.le_refl _) HG.out.2.2 (by omega) ha (fun _ e => by cases e)) (by simp; omega) hgrow6 (fun y e => Nat.le_trans hwV (hr y e)), .inr ⟨by omega, _, by rw [← Nat.add_assoc]; exact hown6⟩⟩
                    case measure => simp [intOf]; omega
                · obtain rfl : q = 9 := by omega
                  clear hcase hlt3
                  obtain ⟨s1, s2, s3, s4⟩ := HSL.out wr hsp
                  obtain ⟨bA', cur', f1, f2, f3, f4, f5, _⟩ := HF.out.blk_attrs (by rw [← HN.out]; omega)
                  obtain rfl : bA' = bA := by have := f1.symm.trans HX.out.2.2.2.1; simpa using this
                  obtain ⟨c', u, g1, g2, g3⟩ := name_cell HV.out.2.2 hsp f3 f4 (j := a * 2) (by rw [← HN.out] at f5; omega)
                  have HE := Lib.hid (And.intro f1 (And.intro f2 (And.intro f3 g1)))
                  clear hsp hall hdone f1 f2 f4 f5 g1
                  go_wp2_with fail
                  go_roundw
                  case rel =>
                    have hs := SpW.set_name (lo := lo) (hi := w0.heap.size) (m := (m : Int)) HE.out.2.2.2 HE.out.2.1 HE.out.2.2.1 a
                    have hk := HG.out.2.1.keep HF.out HV.out.2.2 HG.out.1 hs
                    have hv := vdone_keep HF.out HV.out.2.2 HX.out.2.1 (by rw [← HX.out.2.2.1]; exact Nat.le_refl _) HG.out.1 hs HG.out.2.2
                    refine ⟨a + 1, by go_num, hlt, HG.out.1.trans hs, hk.data, fun b y hb hy => ?_, fun b y hb hy j hj => ?_⟩
                    · rcases Nat.lt_or_ge b a with h | h
                      · exact hk.name b y h hy
                      · obtain rfl : b = a := by omega
                        exact ⟨bA', HE.out.1, World.cell?_setCell_same' wr ⟨bA', b * 2, none⟩ _ (by rw [g2]; rfl)⟩
                    · rcases Nat.lt_or_ge b a with h | h
                      · exact hk.val b y h hy j hj
                      · obtain rfl : b = a := by omega
                        rw [HX.out.1] at hy
                        cases hy
                        exact hv j (by rw [HX.out.2.2.1]; exact hj)
                  case measure => simp [intOf]; omega
        · obtain rfl : a = n := by omega
          have p1 : ¬ (a : Int) < (a : Int) := by omega
          have HS := Lib.hid (And.intro hsp hall)
          clear hsp hall hlt x0
          go_wp2_with fail
          go_quiet (fail)
          go_wp2_with fail
          have hdc : N.dc = i := by rw [HF.out.dc, ← HD.out]
          have hac : N.ac = a := by rw [HF.out.ac, ← HN.out]
          rw [hdc, hac]
          have hwV : w0.heap.size ≤ V.heap.size := HV.out.2.2.size
          have HQ : Hid (SpW lo w0.heap.size (m : Int) V (wr.drewN nq) ∧ AllMi (wr.drewN nq) N (m : Int) a) := Lib.hid ⟨HS.out.1.grown (grown_drewN wr nq none) (fun _ e => by cases e), HS.out.2.grown HF.out (by have := HS.out.1.size; omega) (grown_drewN wr nq none) (fun _ e => by cases e)⟩
          clear hdc hac c2 c3 l0
          go_loopw [9, 10, 11] (fun v9 v10 v11 wr => ∃ q : Nat, v11 = .int .i64 (q : Nat) ∧ q ≤ 9 ∧ SpW lo w0.heap.size (m : Int) V wr ∧ AllMi wr N (m : Int) a ∧ ((q = 0 ∧ v9 = .slice N.da i i ∧ v10 = .slice N.aa a a) ∨ (0 < q ∧ ∃ xs ys, wr.ownsRow V.heap.size 45 1 v9 (i + q) xs ∧ wr.ownsRow V.heap.size 72 2 v10 (a + q) ys))) (fun _ _ v _ => 9 - (intOf v).toNat)
          case atStart => exact ⟨0, rfl, Nat.zero_le _, HQ.out.1, HQ.out.2, .inl ⟨rfl, rfl, rfl⟩⟩
          case round =>
            obtain ⟨q, rfl, hq, hsp, hall, hcase⟩ := hrel
            have hVr : V.heap.size ≤ wr.heap.size := hsp.size
            have HG := Lib.hid (And.intro hsp hall)
            obtain ⟨i45, hi45, ia1, ia2, ia3⟩ := info_parts info79
            obtain ⟨i72, hi72, ja1, ja2, ja3⟩ := info_parts info72
            by_cases hlt3 : q < 9
            · have r2 : (q : Int) < 9 := by omega
              rcases hcase with ⟨rfl, rfl, rfl⟩ | ⟨hq0, xs, ys, hown, hown2⟩
              · obtain ⟨olds, ho1, ho2, ho3⟩ := unit_olds (w2 := wr.alloc (.cells #[.int .u16 ((m : Int) + 1)] 45)) (a := N.da) (n := i) HV.out.2.2 hsp (fun h => by
                  obtain ⟨bv, curv, e1, e2, e3, e4, e5⟩ := HF.out.blk_data (by rw [← HD.out]; exact h)
                  exact ⟨bv, curv, e1, e3, e4, by rw [HD.out]; exact e5⟩) ((Below.refl _ wr).alloc (Nat.le_refl _) _)
                clear hsp hall
                go_wp2_with (at_builtin; refine wpList_append_full _ rfl (.tmp 79) (.tmp 82) 24 rfl 45 i45 _ 1 2 Try.underlying24 hi45 ia1 ia2 ia3 rfl (by omega) N.da i olds rfl ho1 ho2 ho3 ⟨wr.heap.size, 0, none⟩ 1 1 [.int .u16 ((m : Int) + 1)] rfl rfl (World.news_of_block (cs := #[.int .u16 ((m : Int) + 1)]) (t := 45) (fr := (0, 0)) (Go.heap_alloc_new wr _)) (by simp [Value.oneCell']) (by omega) (by unfold maxLen; omega) (by omega) ?_)
                intro g6 c6 w6 hown6 hgrow6 hge6
                have ha := World.grownBy_alloc wr (.cells #[.int .u16 ((m : Int) + 1)] 45) none
                have hs6 := (HG.out.1.grown ha (fun _ e => by cases e)).grown hgrow6 (fun _ e => by cases e)
                have hm6 := (HG.out.2.grown HF.out (by omega) ha (fun _ e => by cases e)).grown HF.out (by simp; omega) hgrow6 (fun _ e => by cases e)
                have hV6 : V.heap.size ≤ w6.heap.size := hs6.size
                obtain ⟨olds2, hp1, hp2, hp3⟩ := name_olds (w2 := w6.alloc (.cells #[.string grName, .slice none 0 0] 72)) (a := N.aa) (n := a) HV.out.2.2 hs6 (fun h => by
                  obtain ⟨bv, curv, e1, e2, e3, e4, e5, _⟩ := HF.out.blk_attrs (by rw [← HN.out]; exact h)
                  exact ⟨bv, curv, e1, e3, e4, by rw [HN.out]; exact e5⟩) ((Below.refl _ w6).alloc (Nat.le_refl _) _)
                have H6 := Lib.hid (And.intro hs6 (And.intro hm6 (hown6.mono (show V.heap.size ≤ _ by omega))))
                clear hs6 hm6 hown6 hgrow6 ha ho1 ho2 ho3
                go_wp2_with (at_builtin; refine wpList_append_full _ rfl (.tmp 84) (.tmp 86) 25 rfl 72 i72 _ 2 40 Try.underlying25 hi72 ja1 ja2 ja3 rfl (by omega) N.aa a olds2 rfl hp1 hp2 hp3 ⟨w6.heap.size, 0, none⟩ 1 1 [.string grName, .slice none 0 0] rfl rfl (World.news_of_block (cs := #[.string grName, .slice none 0 0]) (t := 72) (fr := (0, 0)) (Go.heap_alloc_new w6 _)) (by simp [Value.oneCell']) (by omega) (by unfold maxLen; omega) (by omega) ?_; intro g7 c7 w7 hown7 hgrow7 hge7)
                go_roundw
                case rel =>
                  have ha := World.grownBy_alloc w6 (.cells #[.string grName, .slice none 0 0] 72) none
                  refine ⟨1, by go_num, by omega, (H6.out.1.grown ha (fun _ e => by cases e)).grown hgrow7 (fun _ e => by cases e), (H6.out.2.1.grown HF.out (by omega) ha (fun _ e => by cases e)).grown HF.out (by simp; omega) hgrow7 (fun _ e => by cases e), .inr ⟨by omega, _, _, grown_row hgrow7 (H6.out.2.2.alloc _) (fun _ _ e => by cases e), hown7.mono (by simp; omega)⟩⟩
                case measure => simp [intOf]
              · obtain ⟨av, cv, rfl⟩ := rwSlice hown
                obtain ⟨bv, dv, rfl⟩ := rwSlice hown2
                have HO := Lib.hid (And.intro hown hown2)
                clear hsp hall hown hown2
                go_wp2_with (at_builtin; refine wpList_append_any _ rfl (.tmp 79) (.tmp 82) 24 rfl V.heap.size 45 i45 _ 1 2 Try.underlying24 hi45 ia1 ia2 ia3 rfl (by omega) _ (i + q) xs rfl (HO.out.1.alloc _) (some ⟨wr.heap.size, 0, none⟩) 1 1 [.int .u16 ((m : Int) + 1)] rfl rfl (.inr ⟨_, rfl, World.news_of_block (cs := #[.int .u16 ((m : Int) + 1)]) (t := 45) (fr := (0, 0)) (Go.heap_alloc_new wr _)⟩) (by simp [Value.oneCell']) (by unfold maxLen; omega) (by omega) (by simp; omega) ?_)
                intro a6 c6 w6 hown6 hgrow6
                have ha := World.grownBy_alloc wr (.cells #[.int .u16 ((m : Int) + 1)] 45) none
                have hr : ∀ y, (Value.slice av (i + q) cv).ownBlock = some y → V.heap.size ≤ y := fun y hy => (HO.out.1.lt y hy).1
                have hs6 := (HG.out.1.grown ha (fun _ e => by cases e)).grown hgrow6 hr
                have hm6 := (HG.out.2.grown HF.out (by omega) ha (fun _ e => by cases e)).grown HF.out (by simp; omega) hgrow6 (fun y e => Nat.le_trans hwV (hr y e))
                have hV6 : V.heap.size ≤ w6.heap.size := hs6.size
                have h26 := (HO.out.2.alloc (.cells #[.int .u16 ((m : Int) + 1)] 45)).kept hgrow6 (rwRowNe HO.out.2 HO.out.1 (by decide))
                have H6 := Lib.hid (And.intro hs6 (And.intro hm6 (And.intro hown6 h26)))
                clear hs6 hm6 hown6 hgrow6 ha hr h26
                go_wp2_with (at_builtin; refine wpList_append_any _ rfl (.tmp 84) (.tmp 86) 25 rfl V.heap.size 72 i72 _ 2 40 Try.underlying25 hi72 ja1 ja2 ja3 rfl (by omega) _ (a + q) ys rfl (H6.out.2.2.2.alloc _) (some ⟨w6.heap.size, 0, none⟩) 1 1 [.string grName, .slice none 0 0] rfl rfl (.inr ⟨_, rfl, World.news_of_block (cs := #[.string grName, .slice none 0 0]) (t := 72) (fr := (0, 0)) (Go.heap_alloc_new w6 _)⟩) (by simp [Value.oneCell']) (by unfold maxLen; omega) (by omega) (by simp; omega) ?_; intro a7 c7 w7 hown7 hgrow7)
                go_roundw
                case rel =>
                  have ha := World.grownBy_alloc w6 (.cells #[.string grName, .slice none 0 0] 72) none
                  have hr : ∀ y, (Value.slice bv (a + q) dv).ownBlock = some y → V.heap.size ≤ y := fun y hy => (H6.out.2.2.2.lt y hy).1
                  refine ⟨q + 1, by go_num, by omega, (H6.out.1.grown ha (fun _ e => by cases e)).grown hgrow7 hr, (H6.out.2.1.grown HF.out (by omega) ha (fun _ e => by cases e)).grown HF.out (by simp; omega) hgrow7 (fun y e => Nat.le_trans hwV (hr y e)), .inr ⟨by omega, _, _, by rw [← Nat.add_assoc]; exact (H6.out.2.2.1.alloc _).kept hgrow7 (rwRowNe H6.out.2.2.1 H6.out.2.2.2 (by decide)), by rw [← Nat.add_assoc]; exact hown7⟩⟩
                case measure => simp [intOf]; omega
            · obtain rfl : q = 9 := by omega
              clear hcase hlt3
              go_wp2_with fail
              go_end0
              exact ⟨⟨_, rfl⟩, (SpW.of_below HV.out.2.1).trans HG.out.1, HG.out.2⟩
end Go.Proofs.Ytelhnaphkbpakaa

namespace Go.Proofs.Ytelhnaphkbpakaa
open Go.RowKit
set_option linter.unusedVariables false
set_option maxRecDepth 100000

/-- A node whose lists were written over with m; its blocks lie below H. -/
structure SpD (H : Nat) (w : World) (N : Nd) (m : Int) : Prop where
  data : ∀ j, j < N.data.length → ∃ b, N.da = some ⟨b, 0, none⟩ ∧ b < H ∧ w.cell? ⟨b, j, none⟩ = some (.int .u16 m)
  name : ∀ (a : Nat) (x : LA), N.L[a]? = some x → ∃ b, N.aa = some ⟨b, 0, none⟩ ∧ b < H ∧ w.cell? ⟨b, a * 2, none⟩ = some (.string spName) ∧ w.cell? ⟨b, a * 2 + 1, none⟩ = some (.slice x.va x.val.length x.vc)
  val : ∀ (a : Nat) (x : LA), N.L[a]? = some x → ∀ k, k < x.val.length → ∃ b, x.va = some ⟨b, 0, none⟩ ∧ b < H ∧ w.cell? ⟨b, k, none⟩ = some (.int .u16 m)
theorem SpD.below {H : Nat} {w w' : World} {N : Nd} {m : Int} (h : SpD H w N m) (b : Below H w w') : SpD H w' N m := by
  refine ⟨fun j hj => ?_, fun a x hx => ?_, fun a x hx k hk => ?_⟩
  · obtain ⟨b1, e1, e2, e3⟩ := h.data j hj
    exact ⟨b1, e1, e2, (b.cell (p := ⟨b1, j, none⟩) e2).trans e3⟩
  · obtain ⟨b1, e1, e2, e3, e4⟩ := h.name a x hx
    exact ⟨b1, e1, e2, (b.cell (p := ⟨b1, a * 2, none⟩) e2).trans e3, (b.cell (p := ⟨b1, a * 2 + 1, none⟩) e2).trans e4⟩
  · obtain ⟨b1, e1, e2, e3⟩ := h.val a x hx k hk
    exact ⟨b1, e1, e2, (b.cell (p := ⟨b1, k, none⟩) e2).trans e3⟩
/-- What spoil leaves. -/
theorem SpD.of {lo : Nat} {w0 w w' : World} {N : Nd} {m : Int} (hf : Fresh lo w0 N) (hb : Below w0.heap.size w0 w) (hs : SpW lo w0.heap.size m w w') (h : AllMi w' N m N.L.length) : SpD w0.heap.size w' N m := by
  refine ⟨fun j hj => ?_, fun a x hx => ?_, fun a x hx k hk => ?_⟩
  · obtain ⟨b1, e1, e2⟩ := h.data j hj
    obtain ⟨b2, cur, f1, _, f3, _⟩ := hf.blk_data (by omega)
    rw [e1] at f1; cases f1
    exact ⟨b1, e1, f3, e2⟩
  · have ha : a < N.L.length := (List.getElem?_eq_some_iff.1 hx).1
    obtain ⟨b1, e1, e2⟩ := h.name a x ha hx
    obtain ⟨b2, cur, f1, _, f3, f4, _, f6⟩ := hf.blk_attrs (by omega)
    rw [e1] at f1; cases f1
    refine ⟨b1, e1, f3, e2, hs.keep_odd ((hb.block b1 f3).trans f4) (by omega) ((hb.cell (p := ⟨b1, a * 2 + 1, none⟩) f3).trans (f6 _ _ (cellsA_at hx).2))⟩
  · have ha : a < N.L.length := (List.getElem?_eq_some_iff.1 hx).1
    obtain ⟨b1, e1, e2⟩ := h.val a x ha hx k hk
    obtain ⟨b2, cur, f1, _, f3, _⟩ := hf.blk_val (List.mem_of_getElem? hx) (by omega)
    rw [e1] at f1; cases f1
    exact ⟨b1, e1, f3, e2⟩

set_option maxHeartbeats 4000000 in
theorem spoilt_calls (H : Nat) (w : World) (N : Nd) (m : Nat) (h : SpD H w N (m : Int)) (hH : H ≤ w.heap.size) (hB : N.Bd 1099511627776) :
    Calls Try.prog 63 #[N.v, .int .u16 (m : Int)] w fun e w' => e = .returned (.bool true) ∧ Below w.heap.size w w' := by
  obtain ⟨V, hV⟩ : ∃ V, V = w.alloc (.cells N.cells 30) := ⟨_, rfl⟩
  have hbV : Below w.heap.size w V := by rw [hV]; exact (Below.refl _ w).alloc (Nat.le_refl _) _
  have hbox : V.heap[w.heap.size]? = some (.cells N.cells 30 (0, 0)) := by rw [hV]; exact Go.heap_alloc_new w _
  have hs := h.below (hbV.mono hH)
  have hVs : V.heap.size = w.heap.size + 1 := by rw [hV]; simp
  have hV2 := hV
  unfold Nd.cells at hV2 hbox
  unfold Nd.v Nd.cells
  obtain ⟨n, en⟩ : ∃ n, n = N.L.length := ⟨_, rfl⟩
  obtain ⟨md, ed⟩ : ∃ md, md = N.data.length := ⟨_, rfl⟩
  have hn := hB.attrs
  have hd := hB.data
  have hv := hB.val
  rw [← en] at hn hV2 hbox ⊢
  rw [← ed] at hd hV2 hbox ⊢
  have c2 := cell_blk hbox 2 rfl
  have c3 := cell_blk hbox 3 rfl
  simp at c2 c3
  have l0 : w.heap.size < V.heap.size := by omega
  have HN := Lib.hid en
  have HD := Lib.hid ed
  have HS := Lib.hid hs
  have HV := Lib.hid (And.intro hV2 hbV)
  have HVL := Lib.hid hv
  clear hV hV2 hbV hbox en ed hs h hv hB
  go_enter Try.func63, Try.ntmps63
  go_wp2_with fail
  rw [← HV.out.1]
  go_loopw [11] (fun v wr => ∃ i : Nat, v = .int .i64 (i : Nat) ∧ i ≤ md ∧ wr = V) (fun v _ => md - (intOf v).toNat)
  case atStart => exact ⟨0, rfl, Nat.zero_le _, rfl⟩
  case round =>
    obtain ⟨i, rfl, hi, rfl⟩ := hrel
    by_cases hlt : i < md
    · obtain ⟨b, hda, hb1, hb2⟩ := HS.out.data i (by rw [← HD.out]; exact hlt)
      rw [hda] at c2
      have lb : b < wr.heap.size := by omega
      have p0 : (0 : Int) ≤ (i : Int) := by omega
      have p1 : (i : Int) < (md : Int) := by omega
      have HDA := Lib.hid hda
      clear hda
      go_wp2_with fail
      go_roundw
      case rel => exact ⟨i + 1, by go_num, hlt, trivial⟩
      case measure => simp [intOf]; omega
    · obtain rfl : i = md := by omega
      have p1 : ¬ (i : Int) < (i : Int) := by omega
      clear hlt
      go_wp2_with fail
      go_loopw [25] (fun v wr2 => ∃ a : Nat, v = .int .i64 (a : Nat) ∧ a ≤ n ∧ wr2 = wr) (fun v _ => n - (intOf v).toNat)
      case atStart => exact ⟨0, rfl, Nat.zero_le _, rfl⟩
      case round =>
        obtain ⟨a, rfl, ha, rfl⟩ := hrel
        by_cases hlt : a < n
        · obtain ⟨x, hx⟩ : ∃ x, N.L[a]? = some x := ⟨_, List.getElem?_eq_getElem (by rw [← HN.out]; exact hlt)⟩
          obtain ⟨bA, hna, hb1, hb2, hb3⟩ := HS.out.name a x hx
          rw [hna] at c3
          have HX := Lib.hid (And.intro hx hna)
          obtain ⟨xl, exl⟩ : ∃ xl, xl = x.val.length := ⟨_, rfl⟩
          have hxl : xl ≤ 1099511627776 := by rw [exl]; exact HVL.out x (List.mem_of_getElem? hx)
          rw [← exl] at hb3
          have HXL := Lib.hid exl
          have lb : bA < wr.heap.size := by omega
          have p0 : (0 : Int) ≤ (a : Int) := by omega
          have p1 : (a : Int) < (n : Int) := by omega
          have q1 : (spName.toList != spName.toList) = false := by rw [bne, ba_refl]; rfl
          unfold spName at hb2 q1
          clear hx hna exl
          go_wp2_with fail
          go_loopw [42] (fun v wr2 => ∃ k : Nat, v = .int .i64 (k : Nat) ∧ k ≤ xl ∧ wr2 = wr) (fun v _ => xl - (intOf v).toNat)
          case atStart => exact ⟨0, rfl, Nat.zero_le _, rfl⟩
          case round =>
            obtain ⟨k, rfl, hk, rfl⟩ := hrel
            by_cases hlt2 : k < xl
            · obtain ⟨bv, hva, hv1, hv2⟩ := HS.out.val a x HX.out.1 k (by rw [← HXL.out]; exact hlt2)
              rw [hva] at hb3
              have lv : bv < wr.heap.size := by omega
              have r0 : (0 : Int) ≤ (k : Int) := by omega
              have r1 : (k : Int) < (xl : Int) := by omega
              have HVA := Lib.hid hva
              clear hva
              go_wp2_with fail
              go_roundw
              case rel => exact ⟨k + 1, by go_num, hlt2, trivial⟩
              case measure => simp [intOf]; omega
            · obtain rfl : k = xl := by omega
              have r1 : ¬ (k : Int) < (k : Int) := by omega
              clear hlt2
              go_wp2_with fail
              go_roundw
              case rel => exact ⟨a + 1, by go_num, hlt, trivial⟩
              case measure => simp [intOf]; omega
        · obtain rfl : a = n := by omega
          have p1 : ¬ (a : Int) < (a : Int) := by omega
          clear hlt
          go_wp2_with fail
          go_ret
          exact ⟨rfl, HV.out.2⟩
end Go.Proofs.Ytelhnaphkbpakaa

namespace Go.Proofs.Ytelhnaphkbpakaa
open Go.RowKit
set_option linter.unusedVariables false
set_option maxRecDepth 100000

/-- The blocks ahead of lo and from hi on stand. -/
structure OutW (lo hi : Nat) (w w' : World) : Prop where
  size : w.heap.size ≤ w'.heap.size
  os : w'.os = w.os
  tape : w'.tape = w.tape
  output : w'.output = w.output
  block : ∀ (k : Nat) o, w.heap[k]? = some o → (k < lo ∨ hi ≤ k) → w'.heap[k]? = some o
theorem OutW.refl (lo hi : Nat) (w : World) : OutW lo hi w w := ⟨Nat.le_refl _, rfl, rfl, rfl, fun _ _ h _ => h⟩
theorem OutW.trans {lo hi : Nat} {w w' w'' : World} (h : OutW lo hi w w') (k : OutW lo hi w' w'') : OutW lo hi w w'' := ⟨Nat.le_trans h.size k.size, k.os.trans h.os, k.tape.trans h.tape, k.output.trans h.output, fun i o hi' ho => k.block i o (h.block i o hi' ho) ho⟩
theorem OutW.of_below {lo hi : Nat} {w w' : World} (b : Below w.heap.size w w') : OutW lo hi w w' := ⟨b.size, b.os, b.tape, b.output, fun k o h _ => (b.block k (lt_of_some h)).trans h⟩
theorem SpW.out {lo hi : Nat} {m : Int} {w w' : World} (h : SpW lo hi m w w') : OutW lo hi w w' := ⟨h.size, h.os, h.tape, h.output, fun k o hk ho => h.block k o hk (ho.imp id .inl)⟩
theorem OutW.below {lo hi : Nat} {w w' : World} (h : OutW lo hi w w') (hB : lo ≤ w.heap.size) : Below lo w w' :=
  ⟨h.os, h.tape, h.output, h.size, fun k hk => by
    have hl : k < w.heap.size := Nat.lt_of_lt_of_le hk hB
    have e : w.heap[k]? = some w.heap[k] := Array.getElem?_eq_getElem hl
    rw [e]; exact h.block k _ e (.inl hk)⟩
theorem OutW.row {lo hi : Nat} {w w' : World} {base : Nat} {e : TypeId} {size : Nat} {v : Value} {n : Nat} {xs : List Value} (h : OutW lo hi w w') (ho : w.ownsRow base e size v n xs) (hb : hi ≤ base) : w'.ownsRow base e size v n xs := by
  refine ⟨ho.1, ?_⟩
  rcases ho.2 with hn | ⟨g, cap, cur, rfl, hbg, hg, rest⟩
  · exact .inl hn
  · exact .inr ⟨g, cap, cur, rfl, hbg, h.block g _ hg (.inr (by omega)), rest⟩
theorem OutW.clip {lo hi : Nat} {w w' : World} {B : Nat} {a : Option Addr} {us : List Nat} (h : OutW lo hi w w') (hc : Clip16 B w a us) (hb : hi ≤ B) : Clip16 B w' a us := ⟨by obtain ⟨cap, hr⟩ := hc.row; exact ⟨cap, h.row hr hb⟩, hc.bnd, hc.len⟩
theorem OutW.fresh {lo hi : Nat} {w w' : World} {B : Nat} {N : Nd} (h : OutW lo hi w w') (hf : Fresh B w N) (hb : hi ≤ B) : Fresh B w' N :=
  ⟨h.clip hf.data hb, hf.dc, ⟨by obtain ⟨cap, hr⟩ := hf.attrs.row; exact ⟨cap, h.row hr hb⟩, fun x hx => ⟨h.clip (hf.attrs.val x hx).1 hb, (hf.attrs.val x hx).2⟩, hf.attrs.nam⟩, hf.ac, hf.nam, hf.len⟩
theorem box_cells {w : World} {b : Nat} {N : Nd} (h : w.heap[b]? = some (.cells N.cells 30 (0, 0))) :
    w.cell? ⟨b, 0, none⟩ = some (.int .i64 N.kind) ∧ w.cell? ⟨b, 1, none⟩ = some (.string N.name) ∧ w.cell? ⟨b, 2, none⟩ = some (.slice N.da N.data.length N.dc) ∧ w.cell? ⟨b, 3, none⟩ = some (.slice N.aa N.L.length N.ac) ∧ w.cell? ⟨b, 4, none⟩ = some (.int .u32 N.slot) ∧ w.cell? ⟨b, 5, none⟩ = some (.int .u32 N.gen) ∧ b < w.heap.size :=
  ⟨cell_blk h 0 rfl, cell_blk h 1 rfl, cell_blk h 2 rfl, cell_blk h 3 rfl, cell_blk h 4 rfl, cell_blk h 5 rfl, lt_of_some h⟩

theorem same_true (w : World) (M N : Nd) (hM : NdIn w M) (hN : NdIn w N) (h : M.c = N.c) :
    Calls Try.prog 35 #[M.v, N.v] w fun e w' => e = .returned (.bool true) ∧ Below w.heap.size w w' :=
  (same_calls w M N hM hN).mono fun e w' ⟨r, he, hr, hb⟩ => ⟨by rw [he, hr.2 h], hb⟩
structure Bx3 (b : Nat) (M M2 N : Nd) (w : World) : Prop where
  x0 : w.heap[b]? = some (.cells M.cells 30 (0, 0))
  x1 : w.heap[b + 1]? = some (.cells M2.cells 30 (0, 0))
  x2 : w.heap[b + 2]? = some (.cells N.cells 30 (0, 0))
theorem Bx3.below {b : Nat} {M M2 N : Nd} {w w' : World} (h : Bx3 b M M2 N w) (hb : Below w.heap.size w w') : Bx3 b M M2 N w' :=
  ⟨(hb.block _ (lt_of_some h.x0)).trans h.x0, (hb.block _ (lt_of_some h.x1)).trans h.x1, (hb.block _ (lt_of_some h.x2)).trans h.x2⟩
theorem Bx3.sp {b : Nat} {M M2 N : Nd} {w w' : World} {lo hi : Nat} {m : Int} (h : Bx3 b M M2 N w) (hs : SpW lo hi m w w') : Bx3 b M M2 N w' :=
  ⟨hs.block _ _ h.x0 (.inr (.inr ⟨by simp [oty], by simp [oty]⟩)), hs.block _ _ h.x1 (.inr (.inr ⟨by simp [oty], by simp [oty]⟩)), hs.block _ _ h.x2 (.inr (.inr ⟨by simp [oty], by simp [oty]⟩))⟩

set_option maxHeartbeats 8000000 in
theorem both_true {B1 B2 : Nat} {w1 w2 w : World} {M M2 N : Nd} (h1 : Fresh B1 w1 M) (h2 : Fresh B2 w2 M2) (hB1 : B1 ≤ w1.heap.size) (hB2 : w1.heap.size ≤ B2) (hB2' : B2 ≤ w2.heap.size) (b1 : Below w1.heap.size w1 w) (b2 : Below w2.heap.size w2 w)
    (hN : ∀ w', OutW B1 w1.heap.size w w' → NdIn w' N) (d1 : M.Bd 1099511627776) (d2 : M2.Bd 1099511627776) (e1 : M.c = N.c) (e2 : M2.c = N.c) :
    Calls Try.prog 19 #[M.v, M2.v, N.v] w fun e w' => e = .returned (.bool true) ∧ Below B1 w w' := by
  obtain ⟨V, hV⟩ : ∃ V, V = ((w.alloc (.cells M.cells 30)).alloc (.cells M2.cells 30)).alloc (.cells N.cells 30) := ⟨_, rfl⟩
  have hVs : V.heap.size = w.heap.size + 3 := by rw [hV]; simp
  have hbV : Below w.heap.size w V := by rw [hV]; exact (((Below.refl _ w).alloc (Nat.le_refl _) _).alloc (by simp) _).alloc (by simp; omega) _
  have x0 : V.heap[w.heap.size]? = some (.cells M.cells 30 (0, 0)) := by rw [hV]; exact alloc_blk (alloc_blk (Go.heap_alloc_new w _) _) _
  have x1 : V.heap[w.heap.size + 1]? = some (.cells M2.cells 30 (0, 0)) := by
    rw [hV]; have := Go.heap_alloc_new (w.alloc (.cells M.cells 30)) (.cells M2.cells 30); rw [World.size_alloc] at this; exact alloc_blk this _
  have x2 : V.heap[w.heap.size + 2]? = some (.cells N.cells 30 (0, 0)) := by
    rw [hV]; have := Go.heap_alloc_new ((w.alloc (.cells M.cells 30)).alloc (.cells M2.cells 30)) (.cells N.cells 30); rwa [World.size_alloc, World.size_alloc] at this
  have hV2 := hV
  have hs1 := b1.size
  have hs2 := b2.size
  have HX : Hid (Bx3 w.heap.size M M2 N V) := Lib.hid ⟨x0, x1, x2⟩
  obtain ⟨z0, z1, z2, z3, z4, z5, lz⟩ := box_cells x0
  obtain ⟨y0, y1, y2, y3, y4, y5, ly⟩ := box_cells x1
  obtain ⟨u0, u1, u2, u3, u4, u5, lu⟩ := box_cells x2
  -- what each call answers
  have hO : OutW B1 w1.heap.size w V := OutW.of_below hbV
  have K1 := Lib.hid (same_true V M N (h1.nd.below (b1.trans (hbV.mono hs1))) (hN V hO) e1)
  have K2 : Hid (∀ wa, Below V.heap.size V wa → Calls Try.prog 35 #[M2.v, N.v] wa fun e w' => e = .returned (.bool true) ∧ Below wa.heap.size wa w') := Lib.hid (fun wa ba =>
    same_true wa M2 N (h2.nd.below (b2.trans ((hbV.trans (ba.mono (by omega))).mono hs2))) (hN wa (hO.trans (OutW.of_below ba))) e2)
  have K3 : Hid (∀ wb, Below V.heap.size V wb → Calls Try.prog 62 #[M.v, .int .u16 4369] wb fun e w' => (∃ v, e = .returned v) ∧ SpW B1 w1.heap.size 4369 wb w' ∧ SpD w1.heap.size w' M 4369) := Lib.hid (fun wb bb =>
    (spoil_calls B1 w1 wb M h1 (b1.trans ((hbV.trans (bb.mono (by omega))).mono hs1)) d1 hB1 4369 (by decide)).mono fun e w' ⟨he, hs, ha⟩ => ⟨he, hs, SpD.of h1 (b1.trans ((hbV.trans (bb.mono (by omega))).mono hs1)) hs ha⟩)
  have K4 : Hid (∀ wb wc, Below V.heap.size V wb → SpW B1 w1.heap.size 4369 wb wc → Fresh B2 wc M2 ∧ Calls Try.prog 35 #[M2.v, N.v] wc fun e w' => e = .returned (.bool true) ∧ Below wc.heap.size wc w') := Lib.hid (fun wb wc bb hs => by
    have hf : Fresh B2 wc M2 := hs.fresh (h2.below (b2.trans ((hbV.trans (bb.mono (by omega))).mono hs2))) hB2
    exact ⟨hf, same_true wc M2 N hf.nd (hN wc ((hO.trans (OutW.of_below bb)).trans hs.out)) e2⟩)
  have K5 : Hid (∀ wd, V.heap.size ≤ wd.heap.size → Fresh B2 wd M2 → Calls Try.prog 62 #[M2.v, .int .u16 8738] wd fun e w' => (∃ v, e = .returned v) ∧ SpW B2 wd.heap.size 8738 wd w' ∧ SpD wd.heap.size w' M2 8738) := Lib.hid (fun wd hsz hf =>
    (spoil_calls B2 wd wd M2 hf (Below.refl _ _) d2 (by omega) 8738 (by decide)).mono fun e w' ⟨he, hs, ha⟩ => ⟨he, hs, SpD.of hf (Below.refl _ _) hs ha⟩)
  have K6 : Hid (∀ we, V.heap.size ≤ we.heap.size → SpD w1.heap.size we M 4369 → Calls Try.prog 63 #[M.v, .int .u16 4369] we fun e w' => e = .returned (.bool true) ∧ Below we.heap.size we w') := Lib.hid (fun we hsz hd =>
    spoilt_calls w1.heap.size we M 4369 hd (by omega) d1)
  have K7 : Hid (∀ H wf, H ≤ wf.heap.size → SpD H wf M2 8738 → Calls Try.prog 63 #[M2.v, .int .u16 8738] wf fun e w' => e = .returned (.bool true) ∧ Below wf.heap.size wf w') := Lib.hid (fun H wf hsz hd =>
    spoilt_calls H wf M2 8738 hd hsz d2)
  have HV := Lib.hid (And.intro hV (And.intro hbV b1))
  unfold Nd.cells at hV2
  unfold Nd.v Nd.cells at K1 K2 K3 K4 K5 K6 K7 ⊢
  rw [hV2] at z0 z1 z2 z3 z4 z5 y0 y1 y2 y3 y4 y5 u0 u1 u2 u3 u4 u5 K1
  clear hV hV2 hbV x0 x1 x2 h1 h2 b1 b2 hN d1 d2 e1 e2 hO
  go_enter Try.func19, Try.ntmps19
  go_wp2_with fail
  refine K1.out.mono ?_
  rintro e wa ⟨rfl, ba⟩
  have hba : Below V.heap.size V wa := by rw [HV.out.1]; exact ba
  clear z0 z1 z2 z3 z4 z5 lz y0 y1 y2 y3 y4 y5 ly u0 u1 u2 u3 u4 u5 lu
  have HXa := Lib.hid (HX.out.below hba)
  obtain ⟨y0, y1, y2, y3, y4, y5, ly⟩ := box_cells HXa.out.x1
  obtain ⟨u0, u1, u2, u3, u4, u5, lu⟩ := box_cells HXa.out.x2
  have HBa := Lib.hid hba
  have sa := hba.size
  clear ba hba
  go_wp2_with fail
  refine (K2.out wa HBa.out).mono ?_
  rintro e wb ⟨rfl, bb⟩
  clear y0 y1 y2 y3 y4 y5 ly u0 u1 u2 u3 u4 u5 lu
  have HXb := Lib.hid (HXa.out.below bb)
  have sb := bb.size
  have HBb := Lib.hid (HBa.out.trans (bb.mono sa))
  obtain ⟨z0, z1, z2, z3, z4, z5, lz⟩ := box_cells HXb.out.x0
  clear bb
  go_wp2_with fail
  refine (K3.out wb HBb.out).mono ?_
  rintro e wc ⟨⟨v, rfl⟩, hsc, hdc⟩
  clear z0 z1 z2 z3 z4 z5 lz
  have HXc := Lib.hid (HXb.out.sp hsc)
  have sc := hsc.size
  obtain ⟨HFc, HSc⟩ := K4.out wb wc HBb.out hsc
  have HC := Lib.hid (And.intro hsc (And.intro hdc (And.intro HFc HSc)))
  obtain ⟨y0, y1, y2, y3, y4, y5, ly⟩ := box_cells HXc.out.x1
  obtain ⟨u0, u1, u2, u3, u4, u5, lu⟩ := box_cells HXc.out.x2
  clear hsc hdc HFc HSc
  go_wp2_with fail
  refine HC.out.2.2.2.mono ?_
  rintro e wd ⟨rfl, bd⟩
  clear y0 y1 y2 y3 y4 y5 ly u0 u1 u2 u3 u4 u5 lu
  have HXd := Lib.hid (HXc.out.below bd)
  have sd := bd.size
  obtain ⟨y0, y1, y2, y3, y4, y5, ly⟩ := box_cells HXd.out.x1
  have HD := Lib.hid (And.intro bd (And.intro (HC.out.2.2.1.below bd) (HC.out.2.1.below (bd.mono (by omega)))))
  clear bd
  go_wp2_with fail
  refine (K5.out wd (by omega) HD.out.2.1).mono ?_
  rintro e we ⟨⟨v, rfl⟩, hse, hde⟩
  clear y0 y1 y2 y3 y4 y5 ly
  have HXe := Lib.hid (HXd.out.sp hse)
  have se := hse.size
  obtain ⟨z0, z1, z2, z3, z4, z5, lz⟩ := box_cells HXe.out.x0
  have hlo : B2 ≤ wd.heap.size := by omega
  have HE := Lib.hid (And.intro hse (And.intro hde (HD.out.2.2.below ((hse.below hlo).mono hB2))))
  clear hse hde
  go_wp2_with fail
  refine (K6.out we (by omega) HE.out.2.2).mono ?_
  rintro e wf ⟨rfl, bf⟩
  clear z0 z1 z2 z3 z4 z5 lz
  have HXf := Lib.hid (HXe.out.below bf)
  have sf := bf.size
  obtain ⟨y0, y1, y2, y3, y4, y5, ly⟩ := box_cells HXf.out.x1
  have HF := Lib.hid (And.intro bf (HE.out.2.1.below (bf.mono se)))
  clear bf
  go_wp2_with fail
  refine (K7.out wd.heap.size wf (by omega) HF.out.2).mono ?_
  rintro e wg ⟨rfl, bg⟩
  have HG := Lib.hid bg
  clear bg
  go_wp2_with fail
  go_ret
  refine ⟨rfl, ?_⟩
  have hlo1 : B1 ≤ w.heap.size := by omega
  exact ((((((HV.out.2.1.mono hlo1).trans (HBb.out.mono (by omega))).trans (HC.out.1.below (by omega))).trans (HD.out.1.mono (by omega))).trans ((HE.out.1.below hlo).mono (by omega))).trans (HF.out.1.mono (by omega))).trans (HG.out.mono (by omega))
end Go.Proofs.Ytelhnaphkbpakaa

namespace Go.Proofs.Ytelhnaphkbpakaa
open Go.RowKit
set_option linter.unusedVariables false
set_option maxRecDepth 100000

set_option maxHeartbeats 1000000 in
theorem copied_calls (w : World) {a : Option Addr} {us : List Nat} (ca : Nat) (hA : Sl16 w a us) (hl : us.length ≤ 1099511627776) :
    Calls Try.prog 67 #[.slice a us.length ca] w fun e w' => ∃ a' c', e = .returned (.slice a' us.length c') ∧ w'.ownsRow w.heap.size 45 1 (.slice a' us.length c') us.length (enc16 us) ∧ Below w.heap.size w w' := by
  obtain ⟨i45, hi45, ha1, ha2, ha3⟩ := info_parts info79
  have HA := Lib.hid (hA.below ((Below.refl _ w).alloc (Nat.le_refl _) (.cells #[] 45)))
  have HB := Lib.hid hA.bnd
  obtain ⟨n, hn⟩ : ∃ n, n = us.length := ⟨_, rfl⟩
  rw [← hn] at hl ⊢
  have HN := Lib.hid hn
  clear hn hA
  go_enter Try.func67, Try.ntmps67
  go_wp2_with (at_builtin; refine wpList_append_any _ rfl (.tmp 3) (.tmp 4) 24 rfl w.heap.size 45 i45 _ 1 2 Try.underlying24 hi45 ha1 ha2 ha3 rfl (by omega) _ 0 [] rfl (World.ownsRow_lit w #[] 0 (Nat.le_refl _) (by decide) rfl) a n ca (enc16 us) rfl (by rw [enc16_len, HN.out]; simp) (by rw [HN.out]; exact HA.out.src) enc16_one (by unfold maxLen; omega) (by omega) (by simp) ?_)
  intro a2 c2 w2 hown hgrow
  have hb : Below w.heap.size w w2 := ((FrT.refl [45] w.heap.size w).alloc (.cells #[] 45) |>.append (World.ownsRow_lit (size := 1) w #[] 0 (Nat.le_refl _) (by decide) rfl) (Nat.le_refl _) (by simp) hgrow).below (Nat.le_refl _)
  have HO := Lib.hid hown
  have HBL := Lib.hid hb
  clear hown hgrow hb
  go_wp2
  go_ret
  exact ⟨a2, c2, by simp, by simpa using HO.out, HBL.out⟩

theorem unitsOf_calls (w : World) (k : Int) : Calls Try.prog 51 #[.int .i64 k] w fun e w' => e = .returned (.bool (decide (k = 3 ∨ k = 8 ∨ k = 7))) ∧ w' = w := by
  go_enter Try.func51, Try.ntmps51
  go_wp2_with fail
  all_goals go_ret
  all_goals (by_cases h7 : k = 7 <;> simp_all)

def spanFrom (k off cnt : Int) (m : Nat) : Int := if (partD k off cnt m).2 = 0 then off else 0

set_option maxHeartbeats 4000000 in
theorem span_calls (w : World) (N : Nd) (h : NdIn w N) (off cnt : Int) :
    Calls Try.prog 66 #[N.v, .int .i64 off, .int .i64 cnt] w fun e w' => e = .returned (.tuple #[.int .i64 (spanFrom N.kind off cnt N.data.length), .int .i64 (partD N.kind off cnt N.data.length).1, .int .i64 (partD N.kind off cnt N.data.length).2]) ∧ Below w.heap.size w w' := by
  obtain ⟨k, nm, da, dc, data, aa, ac, L, sl, ge⟩ := N
  simp only [Nd.v, Nd.cells] at *
  obtain ⟨m, em⟩ : ∃ m, m = data.length := ⟨_, rfl⟩
  have hl1 := h.data.len
  simp only [] at hl1
  rw [← em] at hl1 ⊢
  clear em h
  by_cases hk : k = 3 ∨ k = 8 ∨ k = 7
  · have HK := Lib.hid (unitsOf_calls (w.alloc (.cells #[.int .i64 k, .string nm, .slice da m dc, .slice aa L.length ac, .int .u32 sl, .int .u32 ge] 30)) k)
    rw [decide_eq_true hk] at HK
    by_cases ho : off < 0 ∨ (m : Int) < off ∨ cnt < 0
    · have e : partD k off cnt m = (0, 61) := by unfold partD; rw [if_neg (by simp [hk]), if_pos ho]
      unfold spanFrom
      rw [e, if_neg (by decide)]
      clear e hk
      go_enter Try.func66, Try.ntmps66
      go_wp2_with (go_at_call 51; refine HK.out.mono ?_; rintro e w2 ⟨rfl, rfl⟩)
      all_goals first | exact bodyPost_ret (v := .tuple #[.int .i64 0, .int .i64 0, .int .i64 61]) (by simp [results, Try.results66, go_sem]) rfl ⟨rfl, (by repeat (first | exact Below.refl _ _ | assumption | refine Below.drew ?_ | refine below_drewN ?_ _ | refine Below.alloc ?_ (by simp <;> omega) _ | refine Below.setCell ?_ (by simp <;> omega) _ | (apply bl_trans; assumption; (simp <;> omega))))⟩ | (exfalso; omega) | (exfalso; simp_all; done)
    · have e : partD k off cnt m = (off + min cnt (m - off), 0) := by unfold partD; rw [if_neg (by simp [hk]), if_neg ho]
      unfold spanFrom
      rw [e, if_pos rfl]
      clear e hk
      have p1 : ¬ off < 0 := by omega
      have p2 : ¬ (m : Int) < off := by omega
      have p3 : ¬ cnt < 0 := by omega
      have q1 : IntKind.i64.wrap ((m : Int) - off) = (m : Int) - off := IntWalk.i64_in _ (by omega)
      have q2 : IntKind.i64.wrap (off + min cnt ((m : Int) - off)) = off + min cnt ((m : Int) - off) := IntWalk.i64_in _ (by omega)
      clear ho
      go_enter Try.func66, Try.ntmps66
      go_wp2_with (go_at_call 51; refine HK.out.mono ?_; rintro e w2 ⟨rfl, rfl⟩)
      go_quiet (fail)
      go_wp2
      all_goals first | exact bodyPost_ret (v := .tuple #[.int .i64 off, .int .i64 (off + min cnt ((m : Int) - off)), .int .i64 0]) (by simp [results, Try.results66, go_sem] <;> omega) rfl ⟨rfl, (by repeat (first | exact Below.refl _ _ | assumption | refine Below.drew ?_ | refine below_drewN ?_ _ | refine Below.alloc ?_ (by simp <;> omega) _ | refine Below.setCell ?_ (by simp <;> omega) _ | (apply bl_trans; assumption; (simp <;> omega))))⟩ | (exfalso; omega) | (exfalso; simp_all; done)
  · have HK := Lib.hid (unitsOf_calls (w.alloc (.cells #[.int .i64 k, .string nm, .slice da m dc, .slice aa L.length ac, .int .u32 sl, .int .u32 ge] 30)) k)
    rw [decide_eq_false hk] at HK
    have e : partD k off cnt m = (0, 63) := by unfold partD; rw [if_pos hk]
    unfold spanFrom
    rw [e, if_neg (by decide)]
    clear e hk
    go_enter Try.func66, Try.ntmps66
    go_wp2_with (go_at_call 51; refine HK.out.mono ?_; rintro e w2 ⟨rfl, rfl⟩)
    all_goals first | exact bodyPost_ret (v := .tuple #[.int .i64 0, .int .i64 0, .int .i64 63]) (by simp [results, Try.results66, go_sem]) rfl ⟨rfl, (by repeat (first | exact Below.refl _ _ | assumption | refine Below.drew ?_ | refine below_drewN ?_ _ | refine Below.alloc ?_ (by simp <;> omega) _ | refine Below.setCell ?_ (by simp <;> omega) _ | (apply bl_trans; assumption; (simp <;> omega))))⟩ | (exfalso; omega) | (exfalso; simp_all; done)

set_option maxHeartbeats 4000000 in
theorem subR_calls (w : World) (N : Nd) (h : NdIn w N) (hB : N.Bd 1099511627776) (off cnt : Int) :
    Calls Try.prog 24 #[N.v, .int .i64 off, .int .i64 cnt] w fun e w' => Below w.heap.size w w' ∧
      (((partD N.kind off cnt N.data.length).2 ≠ 0 ∧ e = .returned (.tuple #[.slice none 0 0, .int .i64 (partD N.kind off cnt N.data.length).2])) ∨
       ((partD N.kind off cnt N.data.length).2 = 0 ∧ ∃ a c, e = .returned (.tuple #[.slice a (subD N.kind off cnt N.data).length c, .int .i64 0]) ∧ Clip16 w.heap.size w' a (subD N.kind off cnt N.data))) := by
  have hpart := fun w' (b : Below w.heap.size w w') => span_calls w' N (h.below b) off cnt
  obtain ⟨k, nm, da, dc, data, aa, ac, L, sl, ge⟩ := N
  have hd := h.data
  have hb1 := hB.data
  have hcap := h.cap
  simp only [Nd.v, Nd.cells] at *
  obtain ⟨m, em⟩ : ∃ m, m = data.length := ⟨_, rfl⟩
  rw [← em] at hb1 hpart hcap ⊢
  obtain ⟨hcap1, hcap2, _, _⟩ := hcap
  have HM := Lib.hid em
  have HD := Lib.hid hd
  have HP := Lib.hid hpart
  clear em h hd hpart hB
  by_cases hg : (partD k off cnt m).2 = 0
  · obtain ⟨hk, p1, p2, p3, hp⟩ := partD_good hg
    unfold spanFrom at HP
    rw [if_pos hg] at HP
    rw [hp] at HP ⊢
    obtain ⟨r, hr⟩ : ∃ r, r = off + min cnt ((m : Int) - off) := ⟨_, rfl⟩
    obtain ⟨us, hus⟩ : ∃ us, us = subD k off cnt data := ⟨_, rfl⟩
    have hsd : us = (data.drop off.toNat).take (r - off).toNat := by rw [hus, hr]; unfold subD; rw [← HM.out, hp]
    have p4 : off ≤ r := by omega
    have p5 : r ≤ (m : Int) := by omega
    have p6 : r ≤ (dc : Int) := by omega
    have hul : us.length = (r - off).toNat := by rw [hsd, List.length_take, List.length_drop, ← HM.out]; omega
    have q2 : r.toNat - off.toNat = us.length := by omega
    have q3 : off.toNat + us.length ≤ m := by omega
    have q4 : us.length ≤ 1099511627776 := by omega
    have HUS : Hid (∀ w', Sl16 w' da data → Sl16 w' (da.map (·.add off.toNat)) us) := Lib.hid (fun w' h => by rw [hsd]; exact h.part _ _ (by rw [← HM.out]; omega))
    have HUB : Hid (∀ u ∈ us, u ≤ 65535) := Lib.hid (fun u hu => HD.out.bnd u (by rw [hsd] at hu; exact List.mem_of_mem_drop (List.mem_of_mem_take hu)))
    rw [← hr] at HP ⊢
    rw [← hus]
    clear hp hr hus hsd hul
    go_enter Try.func24, Try.ntmps24
    go_wp2_with fail
    have hb0 : Below w.heap.size w (w.alloc (.cells #[.int .i64 k, .string nm, .slice da m dc, .slice aa L.length ac, .int .u32 sl, .int .u32 ge] 30)) := (Below.refl _ w).alloc (Nat.le_refl _) _
    refine (HP.out _ hb0).mono ?_
    rintro e w1 ⟨rfl, b1⟩
    have x0 := (b1.block w.heap.size (by simp)).trans (Go.heap_alloc_new w _)
    have c2 := cell_blk x0 2 rfl
    have l0 := lt_of_some x0
    simp at c2
    have B1 := Lib.hid (hb0.trans (b1.mono (by simp)))
    have HOWN : Hid (∀ A C, (A = da.map (·.add off.toNat) ∨ us = []) → Calls Try.prog 67 #[.slice A us.length C] w1 fun e w' => ∃ a' c', e = .returned (.slice a' us.length c') ∧ w'.ownsRow w1.heap.size 45 1 (.slice a' us.length c') us.length (enc16 us) ∧ Below w1.heap.size w1 w') := Lib.hid (fun A C h => by
      rcases h with rfl | h
      · exact copied_calls w1 C (HUS.out _ (HD.out.below B1.out)) q4
      · exact copied_calls w1 C (by rw [h]; exact Sl16.nil w1 A) q4)
    have hs1 : w.heap.size ≤ w1.heap.size := by omega
    clear b1 hb0 x0 hg
    go_wp2_with fail
    all_goals ((try rw [q2]); refine (HOWN.out _ _ (by first | exact .inl rfl | exact .inr (List.eq_nil_of_length_eq_zero (by omega)))).mono ?_; rintro e w2 ⟨a', c', rfl, hc2, b2⟩)
    all_goals have HC2 := Lib.hid (And.intro hc2 b2)
    all_goals clear hc2 b2
    all_goals go_wp2
    all_goals exact bodyPost_ret (v := .tuple #[.slice a' us.length c', .int .i64 0]) (by simp [results, Try.results24, go_sem]) rfl ⟨B1.out.trans (HC2.out.2.mono hs1), .inr ⟨trivial, a', c', rfl, ⟨⟨c', HC2.out.1.mono hs1⟩, HUB.out, by omega⟩⟩⟩
  · obtain ⟨h1, h2⟩ := partD_bad hg
    unfold spanFrom at HP
    rw [h1, if_neg hg] at HP
    obtain ⟨c, hc⟩ : ∃ c, c = (partD k off cnt m).2 := ⟨_, rfl⟩
    rw [← hc] at HP hg h2 ⊢
    clear hc h1
    have hcc : (c != 0) = true := by simpa using hg
    go_enter Try.func24, Try.ntmps24
    go_wp2_with (go_at_call 66; refine (HP.out _ ((Below.refl _ w).alloc (Nat.le_refl _) _)).mono ?_; rintro e w1 ⟨rfl, b1⟩)
    exact bodyPost_ret (v := .tuple #[.slice none 0 0, .int .i64 c]) (by simp [results, Try.results24, go_sem]) rfl ⟨(by repeat (first | exact Below.refl _ _ | assumption | refine Below.drew ?_ | refine below_drewN ?_ _ | refine Below.alloc ?_ (by simp <;> omega) _ | refine Below.setCell ?_ (by simp <;> omega) _ | (apply bl_trans; assumption; (simp <;> omega)))), .inl ⟨hg, rfl⟩⟩
end Go.Proofs.Ytelhnaphkbpakaa

namespace Go.Proofs.Ytelhnaphkbpakaa
open Go Go.RowKit
set_option linter.unusedVariables false

section
variable {P : Program} (w : World)
theorem step_append_any {ops : Array Oper} {o : Oper} {a : Act} {K : Act → World → Prop} {Q : Exit → Act → World → Prop} {E : Prop} (hgd : o.guard = none) (s x : Operand) (t : TypeId)
    (ho : o.op = .call { callee := .builtin .append, args := #[s, x], argTypes := #[t, t] })
    (base : Nat) (e : TypeId) (i : TypeInfo) (z : Value) (size bytes : Nat) (ht : P.underlying t = some (.slice e)) (hi : P.info? e = some i) (hz : i.zero = some z)
    (hsize : i.size = size) (hby : i.bytes = bytes) (hzs : z.cells.size = size) (hsz : 0 < size)
    (v : Value) (n : Nat) (xs : List Value) (hs : a.eval s = v) (hown : w.ownsRow base e size v n xs)
    (xa : Option Addr) (m c : Nat) (news : List Value) (hx : a.eval x = .slice xa m c) (hl : news.length = m * size) (hsrc : m = 0 ∨ ∃ ad, xa = some ad ∧ ∀ j u, news[j]? = some u → w.cell? (ad.add j) = some u) (h1 : ∀ u ∈ news, u.oneCell' = true)
    (h63 : n + m ≤ maxLen) (hbytes : (n + m) * bytes ≤ 140737488355328) (hbase : base ≤ w.heap.size)
    (h : ∀ a' c' w', w'.ownsRow base e size (.slice a' (n + m) c') (n + m) (xs ++ news) → w.grownBy w' v.ownBlock → K (a.put o.dst (.slice a' (n + m) c')) w') :
    if Region.wanted o (yielded ops a.tmps) = true then Oper.wp P o a w K Q else E := by
  have hw : Region.wanted o (yielded ops a.tmps) = true := by simp [Region.wanted, hgd]
  rw [if_pos hw]
  obtain ⟨v', w', hr, h2, h3, a', c', rfl⟩ := run_append_any (P := P) w t o.type base e i z size bytes ht hi hz hsize hby hzs hsz v n xs hown xa m c news hl hsrc h1 h63 hbytes hbase
  unfold Oper.wp
  simp [execOp, ho, resolve, invoke, builtin, hs, hx, hr, Result.andThen]
  exact h a' c' w' h2 h3
end
end Go.Proofs.Ytelhnaphkbpakaa

