/- Part 51 of the proof of TpP: lemmas. -/
import Derived.Deep.Slices
import Derived.ChangeArms
import Derived.Test.YtelhnaphkbpakaaDoorRows
import Derived.ProofKit
import Derived.OpenShut
import Derived.ShutString
import Derived.ChangeOld
import Derived.JoinedCond
import Derived.Test.YtelhnaphkbpakaaDoorMp50
namespace Go.Proofs.YtelhnaphkbpakaaDoor
open Go.RowKit
set_option linter.unusedVariables false
set_option maxRecDepth 100000
set_option maxHeartbeats 4000000 in
theorem node5b {Q : Nat → Prop} {w : World} {x : MkV} (hx : MkIn Q w x) (hk : x.m.kind = 5) (hmod : x.m.back.tmod 2 = 1) :
    Calls Tryd.prog 36 #[x.v] w fun e w' => ∃ b, w.heap.size ≤ b ∧ e = .returned (N5 x b [attY, attX x]).v ∧ w'.heap[b]? = some (.cells #[.string ⟨#[121]⟩, .slice none 0 0, .string ⟨#[120]⟩, .slice x.ua x.un.length x.uc] 114 (0, 0)) ∧ Below w.heap.size w w' := by
  show Calls Tryd.prog 36 #[.agg #[.int .i64 x.m.kind, .int .i64 x.m.a, .int .i64 x.m.b, .int .i64 x.m.back, .string x.nm, .slice x.ua x.un.length x.uc]] w fun e w' => ∃ b, w.heap.size ≤ b ∧ e = .returned (.agg #[.int .i64 1, .string (ltr x), .slice none 0 0, .slice (some ⟨b, 0, none⟩) 2 2, .int .u32 0, .int .u32 0]) ∧ w'.heap[b]? = some (.cells #[.string ⟨#[121]⟩, .slice none 0 0, .string ⟨#[120]⟩, .slice x.ua x.un.length x.uc] 114 (0, 0)) ∧ Below w.heap.size w w'
  rw [hk]
  have hnm := hx.nm
  have hbk := hx.back
  have HP : Hid (∀ W, Calls Tryd.prog 30 #[.int .i64 (x.nm.size : Int), .int .i64 8] W fun e w' => e = .returned (.int .i64 ((pick8 (x.nm.size : Int) 8 : Nat) : Int)) ∧ Below W.heap.size W w') := Lib.hid (fun W => pick8_calls W _ 8 (by omega) (by omega) (by omega))
  have hp := pick8_lt (x.nm.size : Int) (n := 8) (by omega)
  try unfold ltr
  generalize pick8 (x.nm.size : Int) 8 = p at *
  generalize x.m.a = ma at *
  generalize x.m.b = mb at *
  generalize x.m.back = mc at *
  clear hx hk
  obtain ⟨nm, hnme⟩ : ∃ n, n = x.nm := ⟨_, rfl⟩
  rw [← hnme] at hnm HP ⊢
  generalize x.un.length = n
  generalize x.ua = ua
  generalize x.uc = uc
  clear hnme
  obtain ⟨V, hV⟩ : ∃ V, V = (w.alloc (.cells #[.int .i64 5, .int .i64 ma, .int .i64 mb, .int .i64 mc, .string nm, .slice ua n uc] 76)).alloc (.cells #[.int .i64 0, .string ⟨#[]⟩, .slice none 0 0, .slice none 0 0, .int .u32 0, .int .u32 0] 66) := ⟨_, rfl⟩
  have bV : Below w.heap.size w V := by rw [hV]; exact (by repeat (first | exact Below.refl _ _ | assumption | refine Below.drew ?_ | refine below_drewN ?_ _ | refine Below.alloc ?_ (by simp <;> omega) _ | refine Below.setCell ?_ (by simp <;> omega) _ | (apply bl_trans; assumption; (simp <;> omega))))
  have hx : V.heap[w.heap.size + 1]? = some (.cells #[.int .i64 0, .string ⟨#[]⟩, .slice none 0 0, .slice none 0 0, .int .u32 0, .int .u32 0] 66 (0, 0)) := by rw [hV]; exact alloc2_blk w _ _
  have hy : V.heap[w.heap.size]? = some (.cells #[.int .i64 5, .int .i64 ma, .int .i64 mb, .int .i64 mc, .string nm, .slice ua n uc] 76 (0, 0)) := by rw [hV]; exact alloc2_at w _ _
  have HX := Lib.hid (And.intro hx (And.intro hy bV))
  have HSW : Hid (∀ W, Below V.heap.size V W → (W.cell? ⟨w.heap.size, 0, none⟩ = some (.int .i64 5) ∧ W.cell? ⟨w.heap.size, 3, none⟩ = some (.int .i64 mc) ∧ W.cell? ⟨w.heap.size, 4, none⟩ = some (.string nm) ∧ W.cell? ⟨w.heap.size, 5, none⟩ = some (.slice ua n uc)) ∧ Below w.heap.size w W ∧ W.heap[w.heap.size + 1]? = some (.cells #[.int .i64 0, .string ⟨#[]⟩, .slice none 0 0, .slice none 0 0, .int .u32 0, .int .u32 0] 66 (0, 0))) := Lib.hid (fun W bb => by
    have hy2 := (bb.block _ (lt_of_some HX.out.2.1)).trans HX.out.2.1
    exact ⟨⟨cell_blk hy2 0 rfl, cell_blk hy2 3 rfl, cell_blk hy2 4 rfl, cell_blk hy2 5 rfl⟩, HX.out.2.2.trans (bb.mono HX.out.2.2.size), (bb.block _ (lt_of_some HX.out.1)).trans HX.out.1⟩)
  have HD0 : Hid (Below V.heap.size V V.drew) := Lib.hid (Below.refl _ _).drew
  have hV2 := hV
  clear hV hx hy bV
  have wp1 : IntKind.i64.wrap ((p : Int) + 1) = (p : Int) + 1 := IntWalk.i64_in _ (by omega)
  have s0 : (0 : Int) ≤ (p : Int) := by omega
  have s1 : (p : Int) ≤ (p : Int) + 1 := by omega
  have s2 : (p : Int) + 1 ≤ 8 := by omega
  have s3 : (0 : Int) ≤ (p : Int) + 1 := by omega
  have s4 : ((p : Int) + 1).toNat = p + 1 := by omega
  go_enter Tryd.func36, Tryd.ntmps36
  go_wp2_with fail
  rw [← hV2]
  clear hV2
  go_region_held3 (fun W => W.cell? ⟨w.heap.size, 4, none⟩ = some (.string nm)) (first | exact (HSW.out _ HB2.out).1.2.2.1 | exact (HSW.out _ HB1.out).1.2.2.1 | exact (HSW.out _ HD0.out).1.2.2.1) (first | (have hh := HB1; go_at_call 30; refine (HP.out _).mono ?_; rintro e w2 ⟨rfl, b1⟩; have HB2 := Lib.hid (HB1.out.trans (b1.mono HB1.out.size))) | (go_at_call 30; refine (HP.out _).mono ?_; rintro e w1 ⟨rfl, b1⟩; have HB1 := Lib.hid (HD0.out.trans (b1.mono HD0.out.size))))
  clear b1 HB1 HD0
  obtain ⟨⟨d0, d3, d4, d5⟩, hlow, hres⟩ := HSW.out _ HB2.out
  have HLOW := Lib.hid hlow
  have hsz := hlow.size
  have lres := lt_of_some hres
  have lm : w.heap.size < w2.heap.size := Nat.lt_of_succ_lt lres
  have f0 := free_blk hres 0
  have f1 := free_blk hres 1
  have f2 := free_blk hres 2
  have f3 := free_blk hres 3
  have f4 := free_blk hres 4
  have f5 := free_blk hres 5
  have e0 := cell_blk hres 0 rfl
  have e1 := cell_blk hres 1 rfl
  have e2 := cell_blk hres 2 rfl
  have e3 := cell_blk hres 3 rfl
  have e4 := cell_blk hres 4 rfl
  have e5 := cell_blk hres 5 rfl
  have HRES := Lib.hid hres
  clear hres hlow
  have qm : ((mc.tmod 2) == 1) = true := by simp; exact hmod
  have qm2 : mc.tmod 2 = 1 := hmod
  clear hmod
  obtain ⟨V2, hV3⟩ : ∃ V2, V2 = (w2.alloc (.cells #[.string ⟨#[120]⟩, .slice ua n uc, .string ⟨#[121]⟩, .slice none 0 0] 114)).alloc (.cells #[.int .i64 1, .string ((⟨#[97, 98, 99, 100, 101, 102, 103, 104]⟩ : ByteArray).extract p (p + 1)), .slice none 0 0, .slice (some ⟨w2.heap.size, 0, none⟩) 2 2, .int .u32 0, .int .u32 0] 66) := ⟨_, rfl⟩
  have hA2 : V2.heap[w2.heap.size]? = some (.cells #[.string ⟨#[120]⟩, .slice ua n uc, .string ⟨#[121]⟩, .slice none 0 0] 114 (0, 0)) := by rw [hV3]; exact alloc2_at w2 _ _
  have hB2 : V2.heap[w2.heap.size + 1]? = some (.cells #[.int .i64 1, .string ((⟨#[97, 98, 99, 100, 101, 102, 103, 104]⟩ : ByteArray).extract p (p + 1)), .slice none 0 0, .slice (some ⟨w2.heap.size, 0, none⟩) 2 2, .int .u32 0, .int .u32 0] 66 (0, 0)) := by rw [hV3]; exact alloc2_blk w2 _ _
  have hR2 := HRES.out
  have hR3 : V2.heap[w.heap.size + 1]? = some (.cells #[.int .i64 0, .string ⟨#[]⟩, .slice none 0 0, .slice none 0 0, .int .u32 0, .int .u32 0] 66 (0, 0)) := by rw [hV3]; exact alloc_blk (alloc_blk hR2 _) _
  have hl2 : Below w.heap.size w V2 := by rw [hV3]; exact (HLOW.out.alloc hsz _).alloc (by simp; omega) _
  have H2 := Lib.hid (And.intro hA2 (And.intro hB2 (And.intro hR3 hl2)))
  have hV4 := hV3
  clear hV3 hA2 hB2 hR2 hR3 hl2
  go_wp2_with fail
  rw [← hV4]
  clear hV4
  have s3' : V2.cell? ⟨w2.heap.size + 1, 3, none⟩ = some (.slice (some ⟨w2.heap.size, 0, none⟩) 2 2) := cell_blk H2.out.2.1 3 rfl
  have a0 : V2.cell? ⟨w2.heap.size, 0, none⟩ = some (.string ⟨#[120]⟩) := cell_blk H2.out.1 0 rfl
  have a1 : V2.cell? ⟨w2.heap.size, 1, none⟩ = some (.slice ua n uc) := cell_blk H2.out.1 1 rfl
  have a2 : V2.cell? ⟨w2.heap.size, 2, none⟩ = some (.string ⟨#[121]⟩) := cell_blk H2.out.1 2 rfl
  have a3 : V2.cell? ⟨w2.heap.size, 3, none⟩ = some (.slice none 0 0) := cell_blk H2.out.1 3 rfl
  have c0 := free_blk H2.out.1 0
  have c1 := free_blk H2.out.1 1
  have c2 := free_blk H2.out.1 2
  have c3 := free_blk H2.out.1 3
  have HS := Lib.hid s3'
  have hne : w2.heap.size + 1 ≠ w2.heap.size := by omega
  go_cut [] from 43 to 56 (fun wc => Hid (wc.heap[w2.heap.size]? = some (.cells #[.string ⟨#[121]⟩, .slice none 0 0, .string ⟨#[120]⟩, .slice ua n uc] 114 (0, 0)) ∧ wc.heap[w2.heap.size + 1]? = some (.cells #[.int .i64 1, .string ((⟨#[97, 98, 99, 100, 101, 102, 103, 104]⟩ : ByteArray).extract p (p + 1)), .slice none 0 0, .slice (some ⟨w2.heap.size, 0, none⟩) 2 2, .int .u32 0, .int .u32 0] 66 (0, 0)) ∧ wc.heap[w.heap.size + 1]? = some (.cells #[.int .i64 0, .string ⟨#[]⟩, .slice none 0 0, .slice none 0 0, .int .u32 0, .int .u32 0] 66 (0, 0)) ∧ Below w.heap.size w wc))
  case first =>
    refine wp_region_noPanic ?_
    refine wp_region_held_drew (S := (fun W => W.cell? ⟨w2.heap.size + 1, 3, none⟩ = some (.slice (some ⟨w2.heap.size, 0, none⟩) 2 2))) (by kernel_rfl) HS.out (fun hHeld => ?_)
    refine wpAnyH_take (i := 0) (v := ?_) rfl (by kernel_rfl) (by kernel_rfl) (by kernel_rfl) (fun _ _ _ h => h) (Or.inl ⟨by first | kernel_rfl | rfl, ?_⟩) (by assumption) ?_
    rotate_left
    · intro w hSw; (try dsimp only at hSw); go_simp; try with_reducible rfl
    refine wpAnyH_take (i := 1) (v := ?_) rfl (by kernel_rfl) (by kernel_rfl) (by kernel_rfl) (fun _ _ _ h => h) (Or.inl ⟨by first | kernel_rfl | rfl, ?_⟩) (by assumption) ?_
    rotate_left
    · intro w hSw; (try dsimp only at hSw); go_simp; try with_reducible rfl
    refine wpAnyH_take (i := 2) (v := ?_) rfl (by kernel_rfl) (by kernel_rfl) (by kernel_rfl) (fun _ _ _ h => h) (Or.inl ⟨by first | kernel_rfl | rfl, ?_⟩) (by assumption) ?_
    rotate_left
    · intro w hSw; (try dsimp only at hSw); go_simp; try with_reducible rfl
    refine wpAnyH_take (i := 3) (v := ?_) rfl (by kernel_rfl) (by kernel_rfl) (by kernel_rfl) (fun _ _ _ h => h) (Or.inl ⟨by first | kernel_rfl | rfl, ?_⟩) (by assumption) ?_
    rotate_left
    · intro w hSw; (try dsimp only at hSw); go_simp; try with_reducible rfl
    refine wpAnyH_take (i := 4) (v := ?_) rfl (by kernel_rfl) (by kernel_rfl) (by kernel_rfl) (fun _ _ _ h => h) (Or.inl ⟨by first | kernel_rfl | rfl, ?_⟩) (by assumption) ?_
    rotate_left
    · intro w hSw; (try dsimp only at hSw); go_simp; try with_reducible rfl
    refine wpAnyH_take (i := 5) (v := ?_) rfl (by kernel_rfl) (by kernel_rfl) (by kernel_rfl) (fun _ _ _ h => h) (Or.inl ⟨by first | kernel_rfl | rfl, ?_⟩) (by assumption) ?_
    rotate_left
    · intro w hSw; (try dsimp only at hSw); go_simp; try with_reducible rfl
    refine wpAnyH_take (i := 6) (v := ?_) rfl (by kernel_rfl) (by kernel_rfl) (by kernel_rfl) (fun _ _ _ h => h) (Or.inl ⟨by first | kernel_rfl | rfl, ?_⟩) (by assumption) ?_
    rotate_left
    · intro w hSw; (try dsimp only at hSw); go_simp; try with_reducible rfl
    refine wpAnyH_take (i := 8) (v := ?_) rfl (by kernel_rfl) (by kernel_rfl) (by kernel_rfl) (fun _ _ _ h => h) (Or.inl ⟨by first | kernel_rfl | rfl, ?_⟩) (by assumption) ?_
    rotate_left
    · intro w hSw; (try dsimp only at hSw); go_simp; try with_reducible rfl
    refine wpAnyH_take (i := 9) (v := ?_) rfl (by kernel_rfl) (by kernel_rfl) (by kernel_rfl) (fun _ _ _ h => h) (Or.inl ⟨by first | kernel_rfl | rfl, ?_⟩) (by assumption) ?_
    rotate_left
    · intro w hSw; (try dsimp only at hSw); go_simp; try with_reducible rfl
    refine wpAnyH_take (i := 10) (v := ?_) rfl (by kernel_rfl) (by kernel_rfl) (by kernel_rfl) (fun _ _ _ h => h) (Or.inl ⟨by first | kernel_rfl | rfl, ?_⟩) (by assumption) ?_
    rotate_left
    · intro w hSw; (try dsimp only at hSw); go_simp; try with_reducible rfl
    refine wpAnyH_ready (rs := [7, 11]) (by kernel_rfl) (by simp) ?_
    refine AllReadyH.cons rfl (fun K' hK => ?_) (AllReadyH.cons rfl (fun K' hK => ?_) AllReadyH.nil)
    · go_simp
      refine hK.out _ _ HS.out (fun hHeld => ?_)
      clear hK K'
      refine wpAnyH_ready (rs := [11]) (by kernel_rfl) (by simp) ?_
      refine AllReadyH.cons rfl (fun K' hK => ?_) AllReadyH.nil
      go_simp
      refine hK.out _ _ HS.out (fun hHeld => ?_)
      clear hK K'
      refine wpAnyH_take (i := 12) (v := ?_) rfl (by kernel_rfl) (by kernel_rfl) (by kernel_rfl) (fun _ _ _ h => h) (Or.inl ⟨by first | kernel_rfl | rfl, ?_⟩) (by assumption) ?_
      rotate_left
      · intro w hSw; (try dsimp only at hSw); go_simp; try with_reducible rfl
      refine wpAnyH_ready (rs := [13]) (by kernel_rfl) (by simp) ?_
      refine AllReadyH.cons rfl (fun K' hK => ?_) AllReadyH.nil
      go_simp
      refine hK.out _ _ ((set2_far hne _ _ _ _ _).trans HS.out) (fun hHeld => ?_)
      clear hK K'
      refine wpAnyH_take (i := 14) (v := ?_) rfl (by kernel_rfl) (by kernel_rfl) (by kernel_rfl) (fun _ _ _ h => h) (Or.inl ⟨by first | kernel_rfl | rfl, ?_⟩) (by assumption) ?_
      rotate_left
      · intro w hSw; (try dsimp only at hSw); go_simp; try with_reducible rfl
      refine wpAnyH_ready (rs := [15]) (by kernel_rfl) (by simp) ?_
      refine AllReadyH.cons rfl (fun K' hK => ?_) AllReadyH.nil
      go_simp
      refine hK.out _ _ ((set2_far hne _ _ _ _ _).trans ((set2_far hne _ _ _ _ _).trans HS.out)) (fun hHeld => ?_)
      clear hK K'
      refine wpAnyH_done (by kernel_rfl) ?_ _
      refine NoPanic.normal ?_
      clear hHeld
      have hA4 : ((((V2.setCell ⟨w2.heap.size, 0, none⟩ (.string ⟨#[121]⟩)).setCell ⟨w2.heap.size, 1, none⟩ (.slice none 0 0)).setCell ⟨w2.heap.size, 2, none⟩ (.string ⟨#[120]⟩)).setCell ⟨w2.heap.size, 3, none⟩ (.slice ua n uc)).heap[w2.heap.size]? = some (.cells #[.string ⟨#[121]⟩, .slice none 0 0, .string ⟨#[120]⟩, .slice ua n uc] 114 (0, 0)) := set_blk (set_blk (set_blk (set_blk H2.out.1 0 _) 1 _) 2 _) 3 _
      have hlow4 : Below w.heap.size w ((((V2.setCell ⟨w2.heap.size, 0, none⟩ (.string ⟨#[121]⟩)).setCell ⟨w2.heap.size, 1, none⟩ (.slice none 0 0)).setCell ⟨w2.heap.size, 2, none⟩ (.string ⟨#[120]⟩)).setCell ⟨w2.heap.size, 3, none⟩ (.slice ua n uc)) := (((H2.out.2.2.2.setCell hsz _).setCell hsz _).setCell hsz _).setCell hsz _
      have hB4 : ((((V2.setCell ⟨w2.heap.size, 0, none⟩ (.string ⟨#[121]⟩)).setCell ⟨w2.heap.size, 1, none⟩ (.slice none 0 0)).setCell ⟨w2.heap.size, 2, none⟩ (.string ⟨#[120]⟩)).setCell ⟨w2.heap.size, 3, none⟩ (.slice ua n uc)).heap[w2.heap.size + 1]? = some (.cells #[.int .i64 1, .string ((⟨#[97, 98, 99, 100, 101, 102, 103, 104]⟩ : ByteArray).extract p (p + 1)), .slice none 0 0, .slice (some ⟨w2.heap.size, 0, none⟩) 2 2, .int .u32 0, .int .u32 0] 66 (0, 0)) := by rw [heap_setCell_other _ _ _ _ hne, heap_setCell_other _ _ _ _ hne, heap_setCell_other _ _ _ _ hne, heap_setCell_other _ _ _ _ hne]; exact H2.out.2.1
      have hneR : w.heap.size + 1 ≠ w2.heap.size := by omega
      have hR4 : ((((V2.setCell ⟨w2.heap.size, 0, none⟩ (.string ⟨#[121]⟩)).setCell ⟨w2.heap.size, 1, none⟩ (.slice none 0 0)).setCell ⟨w2.heap.size, 2, none⟩ (.string ⟨#[120]⟩)).setCell ⟨w2.heap.size, 3, none⟩ (.slice ua n uc)).heap[w.heap.size + 1]? = some (.cells #[.int .i64 0, .string ⟨#[]⟩, .slice none 0 0, .slice none 0 0, .int .u32 0, .int .u32 0] 66 (0, 0)) := by rw [heap_setCell_other _ _ _ _ hneR, heap_setCell_other _ _ _ _ hneR, heap_setCell_other _ _ _ _ hneR, heap_setCell_other _ _ _ _ hneR]; exact H2.out.2.2.1
      go_wp2
      go_meet
      case rel => first | exact Lib.hid ⟨hA4, hB4, hR4, hlow4.drew⟩ | exact Lib.hid ⟨hA4, hB4, hR4, hlow4⟩
    · go_simp
      refine hK.out _ _ HS.out (fun hHeld => ?_)
      clear hK K'
      refine wpAnyH_ready (rs := [7]) (by kernel_rfl) (by simp) ?_
      refine AllReadyH.cons rfl (fun K' hK => ?_) AllReadyH.nil
      go_simp
      refine hK.out _ _ HS.out (fun hHeld => ?_)
      clear hK K'
      refine wpAnyH_take (i := 12) (v := ?_) rfl (by kernel_rfl) (by kernel_rfl) (by kernel_rfl) (fun _ _ _ h => h) (Or.inl ⟨by first | kernel_rfl | rfl, ?_⟩) (by assumption) ?_
      rotate_left
      · intro w hSw; (try dsimp only at hSw); go_simp; try with_reducible rfl
      refine wpAnyH_ready (rs := [13]) (by kernel_rfl) (by simp) ?_
      refine AllReadyH.cons rfl (fun K' hK => ?_) AllReadyH.nil
      go_simp
      refine hK.out _ _ ((set2_far hne _ _ _ _ _).trans HS.out) (fun hHeld => ?_)
      clear hK K'
      refine wpAnyH_take (i := 14) (v := ?_) rfl (by kernel_rfl) (by kernel_rfl) (by kernel_rfl) (fun _ _ _ h => h) (Or.inl ⟨by first | kernel_rfl | rfl, ?_⟩) (by assumption) ?_
      rotate_left
      · intro w hSw; (try dsimp only at hSw); go_simp; try with_reducible rfl
      refine wpAnyH_ready (rs := [15]) (by kernel_rfl) (by simp) ?_
      refine AllReadyH.cons rfl (fun K' hK => ?_) AllReadyH.nil
      go_simp
      refine hK.out _ _ ((set2_far hne _ _ _ _ _).trans ((set2_far hne _ _ _ _ _).trans HS.out)) (fun hHeld => ?_)
      clear hK K'
      refine wpAnyH_done (by kernel_rfl) ?_ _
      refine NoPanic.normal ?_
      clear hHeld
      have hA4 : ((((V2.setCell ⟨w2.heap.size, 0, none⟩ (.string ⟨#[121]⟩)).setCell ⟨w2.heap.size, 1, none⟩ (.slice none 0 0)).setCell ⟨w2.heap.size, 2, none⟩ (.string ⟨#[120]⟩)).setCell ⟨w2.heap.size, 3, none⟩ (.slice ua n uc)).heap[w2.heap.size]? = some (.cells #[.string ⟨#[121]⟩, .slice none 0 0, .string ⟨#[120]⟩, .slice ua n uc] 114 (0, 0)) := set_blk (set_blk (set_blk (set_blk H2.out.1 0 _) 1 _) 2 _) 3 _
      have hlow4 : Below w.heap.size w ((((V2.setCell ⟨w2.heap.size, 0, none⟩ (.string ⟨#[121]⟩)).setCell ⟨w2.heap.size, 1, none⟩ (.slice none 0 0)).setCell ⟨w2.heap.size, 2, none⟩ (.string ⟨#[120]⟩)).setCell ⟨w2.heap.size, 3, none⟩ (.slice ua n uc)) := (((H2.out.2.2.2.setCell hsz _).setCell hsz _).setCell hsz _).setCell hsz _
      have hB4 : ((((V2.setCell ⟨w2.heap.size, 0, none⟩ (.string ⟨#[121]⟩)).setCell ⟨w2.heap.size, 1, none⟩ (.slice none 0 0)).setCell ⟨w2.heap.size, 2, none⟩ (.string ⟨#[120]⟩)).setCell ⟨w2.heap.size, 3, none⟩ (.slice ua n uc)).heap[w2.heap.size + 1]? = some (.cells #[.int .i64 1, .string ((⟨#[97, 98, 99, 100, 101, 102, 103, 104]⟩ : ByteArray).extract p (p + 1)), .slice none 0 0, .slice (some ⟨w2.heap.size, 0, none⟩) 2 2, .int .u32 0, .int .u32 0] 66 (0, 0)) := by rw [heap_setCell_other _ _ _ _ hne, heap_setCell_other _ _ _ _ hne, heap_setCell_other _ _ _ _ hne, heap_setCell_other _ _ _ _ hne]; exact H2.out.2.1
      have hneR : w.heap.size + 1 ≠ w2.heap.size := by omega
      have hR4 : ((((V2.setCell ⟨w2.heap.size, 0, none⟩ (.string ⟨#[121]⟩)).setCell ⟨w2.heap.size, 1, none⟩ (.slice none 0 0)).setCell ⟨w2.heap.size, 2, none⟩ (.string ⟨#[120]⟩)).setCell ⟨w2.heap.size, 3, none⟩ (.slice ua n uc)).heap[w.heap.size + 1]? = some (.cells #[.int .i64 0, .string ⟨#[]⟩, .slice none 0 0, .slice none 0 0, .int .u32 0, .int .u32 0] 66 (0, 0)) := by rw [heap_setCell_other _ _ _ _ hneR, heap_setCell_other _ _ _ _ hneR, heap_setCell_other _ _ _ _ hneR, heap_setCell_other _ _ _ _ hneR]; exact H2.out.2.2.1
      go_wp2
      go_meet
      case rel => first | exact Lib.hid ⟨hA4, hB4, hR4, hlow4.drew⟩ | exact Lib.hid ⟨hA4, hB4, hR4, hlow4⟩
  case rest =>
    have hneR : w.heap.size + 1 ≠ w2.heap.size := by omega
    have hV4 := hcut.out
    have HF4 := Lib.hid (And.intro hV4.1 (And.intro hV4.2.2.2 hV4.2.2.1))
    have m0 := cell_blk hV4.2.1 0 rfl
    have m1 := cell_blk hV4.2.1 1 rfl
    have m2 := cell_blk hV4.2.1 2 rfl
    have m3 := cell_blk hV4.2.1 3 rfl
    have m4 := cell_blk hV4.2.1 4 rfl
    have m5 := cell_blk hV4.2.1 5 rfl
    have r0 := cell_blk hV4.2.2.1 0 rfl
    have r1 := cell_blk hV4.2.2.1 1 rfl
    have r2 := cell_blk hV4.2.2.1 2 rfl
    have r3 := cell_blk hV4.2.2.1 3 rfl
    have r4 := cell_blk hV4.2.2.1 4 rfl
    have r5 := cell_blk hV4.2.2.1 5 rfl
    have q0 := free_blk hV4.2.2.1 0
    have q1 := free_blk hV4.2.2.1 1
    have q2 := free_blk hV4.2.2.1 2
    have q3 := free_blk hV4.2.2.1 3
    have q4 := free_blk hV4.2.2.1 4
    have q5 := free_blk hV4.2.2.1 5
    have hF := set_blk (set_blk (set_blk (set_blk (set_blk (set_blk HF4.out.2.2 0 (.int .i64 1)) 1 (.string ((⟨#[97, 98, 99, 100, 101, 102, 103, 104]⟩ : ByteArray).extract p (p + 1)))) 2 (.slice none 0 0)) 3 (.slice (some ⟨w2.heap.size, 0, none⟩) 2 2)) 4 (.int .u32 0)) 5 (.int .u32 0)
    have z0 := cell_blk hF 0 rfl
    have z1 := cell_blk hF 1 rfl
    have z2 := cell_blk hF 2 rfl
    have z3 := cell_blk hF 3 rfl
    have z4 := cell_blk hF 4 rfl
    have z5 := cell_blk hF 5 rfl
    simp at z0 z1 z2 z3 z4 z5
    have ZZ := Lib.hid (And.intro z0 (And.intro z1 (And.intro z2 (And.intro z3 (And.intro z4 z5)))))
    clear z0 z1 z2 z3 z4 z5 hF hV4 hcut H2 HS a0 a1 a2 a3 c0 c1 c2 c3 s3'
    have hfin : Hid (∀ v0 v1 v2 v3 v4 v5, ((((((wc.setCell ⟨w.heap.size + 1, 0, none⟩ v0).setCell ⟨w.heap.size + 1, 1, none⟩ v1).setCell ⟨w.heap.size + 1, 2, none⟩ v2).setCell ⟨w.heap.size + 1, 3, none⟩ v3).setCell ⟨w.heap.size + 1, 4, none⟩ v4).setCell ⟨w.heap.size + 1, 5, none⟩ v5).heap[w2.heap.size]? = some (.cells #[.string ⟨#[121]⟩, .slice none 0 0, .string ⟨#[120]⟩, .slice ua n uc] 114 (0, 0))) := Lib.hid (fun v0 v1 v2 v3 v4 v5 => by
      rw [heap_setCell_other _ _ _ _ (Ne.symm hneR), heap_setCell_other _ _ _ _ (Ne.symm hneR), heap_setCell_other _ _ _ _ (Ne.symm hneR), heap_setCell_other _ _ _ _ (Ne.symm hneR), heap_setCell_other _ _ _ _ (Ne.symm hneR), heap_setCell_other _ _ _ _ (Ne.symm hneR)]
      exact HF4.out.1)
    have hbel : Hid (∀ v0 v1 v2 v3 v4 v5, Below w.heap.size w ((((((wc.setCell ⟨w.heap.size + 1, 0, none⟩ v0).setCell ⟨w.heap.size + 1, 1, none⟩ v1).setCell ⟨w.heap.size + 1, 2, none⟩ v2).setCell ⟨w.heap.size + 1, 3, none⟩ v3).setCell ⟨w.heap.size + 1, 4, none⟩ v4).setCell ⟨w.heap.size + 1, 5, none⟩ v5)) := Lib.hid (fun v0 v1 v2 v3 v4 v5 => by
      have hb0 := HF4.out.2.1
      have hp : ∀ o, w.heap.size ≤ (⟨w.heap.size + 1, o, none⟩ : Addr).block := fun o => Nat.le_succ _
      have k0 := hb0.setCell (hp 0) v0
      have k1 := k0.setCell (hp 1) v1
      have k2 := k1.setCell (hp 2) v2
      have k3 := k2.setCell (hp 3) v3
      have k4 := k3.setCell (hp 4) v4
      exact k4.setCell (hp 5) v5)
    go_wp2_with fail
    obtain ⟨z0, z1, z2, z3, z4, z5⟩ := ZZ.out
    refine bodyPost_ret (v := .agg #[.int .i64 1, .string ((⟨#[97, 98, 99, 100, 101, 102, 103, 104]⟩ : ByteArray).extract p (p + 1)), .slice none 0 0, .slice (some ⟨w2.heap.size, 0, none⟩) 2 2, .int .u32 0, .int .u32 0]) (by simp [results, Tryd.results36, go_sem, z0, z1, z2, z3, z4, z5]) rfl ?_
    exact ⟨w2.heap.size, hsz, rfl, hfin.out _ _ _ _ _ _, hbel.out _ _ _ _ _ _⟩
theorem node5_ok {Q : Nat → Prop} {W w' : World} {x : MkV} {L : List LA} (hL : L = [attX x, attY] ∨ L = [attY, attX x]) {b : Nat} (hx : MkIn Q W x) (hq : ∀ k, Q k → k < W.heap.size) (hb : W.heap.size ≤ b)
    (hblk : w'.heap[b]? = some (.cells (cellsA L).toArray 114 (0, 0))) (bel : Below W.heap.size W w') : NdK Q w' (N5 x b L) ∧ (N5 x b L).Bd 1099511627776 ∧ checkD 1 (ltr x) 0 (L.map LA.name) = 0 := by
  have hlen : L.length = 2 := by rcases hL with rfl | rfl <;> rfl
  have hmem : ∀ y ∈ L, y = attX x ∨ y = attY := by
    intro y hy
    rcases hL with rfl | rfl <;> simp at hy <;> rcases hy with rfl | rfl <;> simp
  refine ⟨fun W' hW' => ?_, ⟨by show 0 ≤ _; omega, by show L.length ≤ _; omega, fun y hy => ?_⟩, ?_⟩
  · have hB := hW' b _ (fun h => by have := hq b h; omega) hblk
    refine ⟨Sl16.nil _ _, ⟨fun j u hu => ⟨b, 0, rfl, lt_of_some hB, ?_⟩, by show L.length ≤ _; omega, fun y hy => ?_, fun y hy => ?_⟩, (ltr_ok x).2, Nat.le_refl _, by show 0 ≤ _; omega, by show L.length ≤ 2; omega, by show 2 ≤ _; omega⟩
    · exact cell_blk hB (0 + j) (by rw [Nat.zero_add]; have hu2 : (cellsA L)[j]? = some u := hu; simpa using hu2)
    · rcases hmem y hy with rfl | rfl
      · exact hx.un W' (hW'.of_below bel)
      · exact Sl16.nil _ _
    · rcases hmem y hy with rfl | rfl
      · show 1 ≤ _; omega
      · show 1 ≤ _; omega
  · rcases hmem y hy with rfl | rfl
    · exact hx.len
    · show 0 ≤ _; omega
  · unfold checkD
    have h1 : fitsD 1 (ltr x) 0 2 = true := by simp [fitsD]
    have h2 : goodA (L.map LA.name) = true := by rcases hL with rfl | rfl <;> kernel_rfl
    have h3 : (L.map LA.name).length = 2 := by simpa using hlen
    simp [h1, h2, h3, (ltr_ok x).1]
theorem nodeC5 {x : MkV} (hk : x.m.kind = 5) : NodeC x := ⟨fun Q W hx hq => by
  by_cases hm : x.m.back.tmod 2 = 1
  · refine (node5b hx hk hm).mono ?_
    rintro e w' ⟨b, hb, rfl, hblk, bel⟩
    obtain ⟨h1, h2, h3⟩ := node5_ok (.inr rfl) hx hq hb hblk bel
    exact ⟨N5 x b [attY, attX x], rfl, h1, h2, h3, bel⟩
  · refine (node5a hx hk hm).mono ?_
    rintro e w' ⟨b, hb, rfl, hblk, bel⟩
    obtain ⟨h1, h2, h3⟩ := node5_ok (.inl rfl) hx hq hb hblk bel
    exact ⟨N5 x b [attX x, attY], rfl, h1, h2, h3, bel⟩⟩
theorem nodeC_all {x : MkV} (h1 : 1 ≤ x.m.kind) (h2 : x.m.kind ≤ 5) : NodeC x := by
  rcases (by omega : x.m.kind = 1 ∨ x.m.kind = 2 ∨ x.m.kind = 3 ∨ x.m.kind = 4 ∨ x.m.kind = 5) with h | h | h | h | h
  · exact nodeC1 h
  · exact nodeC2 h
  · exact nodeC3 h
  · exact nodeC4 h
  · exact nodeC5 h
end Go.Proofs.YtelhnaphkbpakaaDoor
namespace Go.Proofs.YtelhnaphkbpakaaDoor
open Go.RowKit
theorem trailPairs_true (W : World) (hz : NoneAt W) {a : Option Addr} {L : List MkV} {cap : Nat} (hL : MksIn W a L) (hlen : L.length ≤ 1099511627776) {ak : Option Addr} {K : List AkV} {kcap : Nat} (hK : AksIn W ak K) (hklen : K.length ≤ 1099511627776) :
    Calls Tryd.prog 3 #[.slice a L.length cap, .slice ak K.length kcap] W fun e w' => e = .returned (.bool true) ∧ Below W.heap.size W w' :=
  trailPairs_calls hz hL hlen (fun _ _ h1 h2 => nodeC_all h1 h2) hK hklen
end Go.Proofs.YtelhnaphkbpakaaDoor
namespace Go.Proofs.YtelhnaphkbpakaaDoor
open Go.RowKit Go.Deep
section
variable {H : Type} {enc : TypeId × Value → H} {P : Program} {w : World} {base : Nat} {spare : Nat → Bool} {held : Bool}
theorem addr_add0 (b off j : Nat) : (⟨b, off, none⟩ : Addr).add j = ⟨b, off + j, none⟩ := by unfold Addr.add; split <;> simp_all
end
end Go.Proofs.YtelhnaphkbpakaaDoor
namespace Go.Proofs.YtelhnaphkbpakaaDoor
open Go.ChangeShapes Go.WideShapes Go.ChangeAt Go.RowKit Go.Deep
set_option linter.unusedVariables false
set_option maxRecDepth 100000
theorem cellsOU16 : Tryd.prog.cellsOf 128 = 1 := by kernel_rfl
theorem cellsOU32 : Tryd.prog.cellsOf 29 = 1 := by kernel_rfl
theorem cellsOInt : Tryd.prog.cellsOf 3 = 1 := by kernel_rfl
theorem cellsOStr : Tryd.prog.cellsOf 9 = 1 := by kernel_rfl
theorem cellsOU16s : Tryd.prog.cellsOf 63 = 1 := by kernel_rfl
theorem cellsOMk : Tryd.prog.cellsOf 76 = 6 := by kernel_rfl
theorem cellsOH : Tryd.prog.cellsOf 31 = 2 := by kernel_rfl
theorem bulk_one {H : Type} (d : DataW H) : 1 ≤ Rows.uptoBulk d := by
  cases d with
  | lit l => cases l <;> simp [Rows.uptoBulk]
  | nil => simp [Rows.uptoBulk]
  | ptr d => simp [Rows.uptoBulk]
  | slice elems spare => simp [Rows.uptoBulk]
  | agg parts => simp [Rows.uptoBulk]
  | iface t d => simp [Rows.uptoBulk]
  | map entries => simp [Rows.uptoBulk]
  | held h => simp [Rows.uptoBulk]
theorem bulk_length {H : Type} (l : List (DataW H)) : l.length ≤ Rows.uptoBulkAll l := by
  induction l with
  | nil => simp [Rows.uptoBulkAll]
  | cons x r ih => have := bulk_one x; simp only [Rows.uptoBulkAll, List.length_cons]; omega
theorem bulk_mem {H : Type} {l : List (DataW H)} {d : DataW H} (h : d ∈ l) : Rows.uptoBulk d ≤ Rows.uptoBulkAll l := by
  induction l with
  | nil => simp at h
  | cons x r ih =>
    simp only [Rows.uptoBulkAll]
    rcases List.mem_cons.1 h with rfl | h
    · omega
    · have := ih h; omega
theorem bulk_get {H : Type} {l : List (DataW H × List MemPlace)} {i : Nat} {x : DataW H × List MemPlace} (h : l[i]? = some x) : Rows.uptoBulk x.1 ≤ Rows.uptoBulkAll (l.map (·.1)) :=
  bulk_mem (List.mem_map.2 ⟨x, List.mem_of_getElem? h, rfl⟩)
section
variable {H : Type} {enc : TypeId × Value → H} {w : World} {base : Nat} {spare : Nat → Bool} {held : Bool}
theorem open_elems2 {α : Type} [Inhabited α] (cells : α → List Value) (good : α → Nat → Prop) (k : Nat) {t e : TypeId} (ht : Tryd.prog.underlying t = some (.slice e)) (hk : Tryd.prog.cellsOf e = k) (hk1 : ∀ a, (cells a).length = k) (hk0 : 0 < k)
    (hopen : ∀ (n : Nat) (cs : List Value) (x : DataW H × List MemPlace), Rows.uptoBulk x.1 ≤ 1048576 → DataW.trod enc Tryd.prog w base spare held n e cs = some x → ∃ a, cs = cells a ∧ good a (Rows.uptoBulk x.1)) (hmono : ∀ a m n, m ≤ n → good a m → good a n)
    {fuel : Nat} {cs : List Value} {x : DataW H × List MemPlace} (hb : Rows.uptoBulk x.1 ≤ 1048576) (h : DataW.trod enc Tryd.prog w base spare held fuel t cs = some x) :
    ∃ (a : Option Addr) (len cap : Nat) (L : List α), cs = [.slice a len cap] ∧ L.length = len ∧ len ≤ cap ∧ cap ≤ maxLen ∧ len ≤ Rows.uptoBulk x.1 ∧
      ∀ (i : Nat) z, L[i]? = some z → good z (Rows.uptoBulk x.1) ∧ ∃ b off, a = some ⟨b, off, none⟩ ∧ b < w.heap.size ∧ ∀ j v, (cells z)[j]? = some v → w.cell? ⟨b, off + (i * k + j), none⟩ = some v := by
  rcases open_slice ht h with ⟨hcs, rfl⟩ | ⟨ad, len, cap, m, n, D, Pl, hcs, _, hl, hm, hmm, rfl, hi⟩
  · exact ⟨none, 0, 0, [], hcs, rfl, Nat.le_refl _, by simp [maxLen], by simp, by intro i z h; simp at h⟩
  · have hlm : len ≤ m := by rw [hmm]; split <;> omega
    have hbulk : ∀ i, i < len → Rows.uptoBulk (D i) ≤ Rows.uptoBulkAll ((List.range len).map D) := fun i hi => bulk_mem (List.mem_map.2 ⟨i, List.mem_range.2 hi, rfl⟩)
    have hlen := bulk_length ((List.range len).map D)
    simp only [List.length_map, List.length_range] at hlen
    simp only [Rows.uptoBulk] at hb ⊢
    rw [hk] at hi
    obtain ⟨f, hf⟩ := choose_lt (α := α) (n := len) (p := fun i o => good o (Rows.uptoBulkAll ((List.range len).map D) + Rows.uptoBulkAll ((List.range (m - len)).map fun j => D (len + j)) + 1) ∧ ∀ j v, (cells o)[j]? = some v → w.cell? ((ad.add (i * k)).add j) = some v) (fun i hil => by
      obtain ⟨cs', hc, ht⟩ := hi i (by omega)
      have hb1 := hbulk i hil
      obtain ⟨o, rfl, ok⟩ := hopen _ _ _ (by simp only; omega) ht
      obtain ⟨_, hcl, hat⟩ := World.cells?_some hc
      refine ⟨o, hmono _ _ _ (by simp only; omega) ok, fun j v hj => ?_⟩
      have hjk : j < k := by have := (List.getElem?_eq_some_iff.1 hj).1; rw [hk1] at this; exact this
      rw [hat j hjk]; exact hj)
    refine ⟨some ad, len, cap, (List.range len).map f, hcs, by simp, hl, hm, by omega, fun i z hz => ?_⟩
    have hil : i < len := by have := (List.getElem?_eq_some_iff.1 hz).1; simpa using this
    have hz' : f i = z := by simpa [hil] using hz
    subst hz'
    refine ⟨(hf i hil).1, ?_⟩
    obtain ⟨v0, hv0⟩ : ∃ v, (cells (f i))[0]? = some v := ⟨_, List.getElem?_eq_getElem (by rw [hk1]; exact hk0)⟩
    have hc0 := (hf i hil).2 0 _ hv0
    obtain ⟨u0, hu0⟩ : ∃ v, (cells (f 0))[0]? = some v := ⟨_, List.getElem?_eq_getElem (by rw [hk1]; exact hk0)⟩
    have hd0 := (hf 0 (by omega)).2 0 _ hu0
    obtain ⟨b, off, sp⟩ := ad
    have hsp : sp = none := by
      cases sp with
      | none => rfl
      | some s => simp [Addr.add, World.cell?] at hd0; split at hd0 <;> simp_all
    subst hsp
    refine ⟨b, off, rfl, ?_, fun j v hj => ?_⟩
    · have := block_lt_of_cell hc0
      rw [add_add, addr_add0] at this
      exact this
    · have := (hf i hil).2 j v hj
      rw [add_add, addr_add0] at this
      exact this
theorem open_u16 {fuel : Nat} {cs : List Value} {x : DataW H × List MemPlace} (hb : Rows.uptoBulk x.1 ≤ 1048576) (h : DataW.trod enc Tryd.prog w base spare held fuel 63 cs = some x) :
    ∃ (a : Option Addr) (us : List Nat) (c : Nat), cs = [.slice a us.length c] ∧ Sl16 w a us ∧ us.length ≤ c ∧ c ≤ 9223372036854775807 ∧ us.length ≤ Rows.uptoBulk x.1 := by
  obtain ⟨a, len, cap, L, hcs, rfl, h1, h2, h3, h4⟩ := open_elems2 (fun u : Nat => [.int .u16 (u : Int)]) (fun u _ => u ≤ 65535) 1 Tryd.underlying63 cellsOU16 (fun _ => rfl) (by decide) (fun n cs x _ h => by
    obtain ⟨z, hz, _, hw⟩ := DataW.trod_int Tryd.underlying128 h
    have hw' := bounds_u16 hw
    exact ⟨z.toNat, by rw [hz, Int.toNat_of_nonneg hw'.1], by omega⟩) (fun _ _ _ _ h => h) hb h
  unfold maxLen at h2
  refine ⟨a, L, cap, hcs, ⟨fun i u hu => ?_, by omega⟩, h1, h2, h3⟩
  obtain ⟨hg, b, off, e1, e2, e3⟩ := h4 i u hu
  exact ⟨hg, b, off, e1, e2, by simpa using e3 0 _ rfl⟩
theorem u32_nat' {n : Int} (h : (Lit.int .u32 n).wf = true) : ∃ m : Nat, n = (m : Int) := by
  have h1 : IntKind.u32.min ≤ n ∧ n ≤ IntKind.u32.max := by simpa [Lit.wf] using h
  have h2 : IntKind.u32.min = 0 := by kernel_rfl
  exact ⟨n.toNat, by omega⟩
theorem bounds_i64' {n : Int} (h : (Lit.int .i64 n).wf = true) : -9223372036854775808 ≤ n ∧ n ≤ 9223372036854775807 := by
  have h1 : IntKind.i64.min ≤ n ∧ n ≤ IntKind.i64.max := by simpa [Lit.wf] using h
  have h2 : IntKind.i64.min = -9223372036854775808 := by kernel_rfl
  have h3 : IntKind.i64.max = 9223372036854775807 := by kernel_rfl
  omega
theorem open_handle {fuel : Nat} {cs : List Value} {x : DataW H × List MemPlace} (h : DataW.trod enc Tryd.prog w base spare held fuel 31 cs = some x) :
    ∃ s g : Nat, cs = [.int .u32 (s : Int), .int .u32 (g : Int)] ∧ x.1 = .agg [.lit (.int .u32 (s : Int)), .lit (.int .u32 (g : Int))] := by
  obtain ⟨xs, n, _, hx, hlen, hxl, hf⟩ := DataW.trod_struct Tryd.underlying31 h
  rw [cellsOH] at hlen
  match cs, hlen with
  | [c0, c1], _ =>
    have g0 : DataW.trod enc Tryd.prog w base spare held n 29 (([c0, c1].drop 0).take (Tryd.prog.cellsOf 29)) = xs[0]? := hf 0 _ rfl
    have g1 : DataW.trod enc Tryd.prog w base spare held n 29 (([c0, c1].drop 1).take (Tryd.prog.cellsOf 29)) = xs[1]? := hf 1 _ rfl
    simp only [cellsOU32, List.drop_zero, List.drop_succ_cons, List.take_succ_cons, List.take_zero] at g0 g1
    have hl2 : xs.length = 2 := by rw [hxl]; rfl
    match xs, hl2 with
    | [x0, x1], _ =>
      obtain ⟨a, h0, e0, w0⟩ := DataW.trod_int Tryd.underlying29 g0
      obtain ⟨b, h1, e1, w1⟩ := DataW.trod_int Tryd.underlying29 g1
      simp at h0 h1
      obtain ⟨s, rfl⟩ := u32_nat' w0
      obtain ⟨g, rfl⟩ := u32_nat' w1
      subst h0 h1 e0 e1
      refine ⟨s, g, rfl, ?_⟩
      rw [hx]
      rfl
instance : Inhabited MkV := ⟨⟨⟨0, 0, 0, 0⟩, ⟨#[]⟩, none, 0, []⟩⟩
def MkGood (w : World) (y : MkV) (m : Nat) : Prop := MkB y ∧ Sl16 w y.ua y.un ∧ y.un.length ≤ y.uc ∧ y.uc ≤ 9223372036854775807 ∧ y.un.length ≤ m
theorem open_mk {fuel : Nat} {cs : List Value} {x : DataW H × List MemPlace} (hb : Rows.uptoBulk x.1 ≤ 1048576) (h : DataW.trod enc Tryd.prog w base spare held fuel 76 cs = some x) :
    ∃ y : MkV, cs = y.cells ∧ MkGood w y (Rows.uptoBulk x.1) := by
  obtain ⟨xs, n, _, hx, hlen, hxl, hf⟩ := DataW.trod_struct Tryd.underlying76 h
  rw [cellsOMk] at hlen
  match cs, hlen with
  | [c0, c1, c2, c3, c4, c5], _ =>
    have g0 : DataW.trod enc Tryd.prog w base spare held n 3 (([c0, c1, c2, c3, c4, c5].drop 0).take (Tryd.prog.cellsOf 3)) = xs[0]? := hf 0 _ rfl
    have g1 : DataW.trod enc Tryd.prog w base spare held n 3 (([c0, c1, c2, c3, c4, c5].drop 1).take (Tryd.prog.cellsOf 3)) = xs[1]? := hf 1 _ rfl
    have g2 : DataW.trod enc Tryd.prog w base spare held n 3 (([c0, c1, c2, c3, c4, c5].drop 2).take (Tryd.prog.cellsOf 3)) = xs[2]? := hf 2 _ rfl
    have g3 : DataW.trod enc Tryd.prog w base spare held n 3 (([c0, c1, c2, c3, c4, c5].drop 3).take (Tryd.prog.cellsOf 3)) = xs[3]? := hf 3 _ rfl
    have g4 : DataW.trod enc Tryd.prog w base spare held n 9 (([c0, c1, c2, c3, c4, c5].drop 4).take (Tryd.prog.cellsOf 9)) = xs[4]? := hf 4 _ rfl
    have g5 : DataW.trod enc Tryd.prog w base spare held n 63 (([c0, c1, c2, c3, c4, c5].drop 5).take (Tryd.prog.cellsOf 63)) = xs[5]? := hf 5 _ rfl
    simp only [cellsOInt, cellsOStr, cellsOU16s, List.drop_zero, List.drop_succ_cons, List.take_succ_cons, List.take_zero] at g0 g1 g2 g3 g4 g5
    have u5 := List.getElem?_eq_getElem (l := xs) (i := 5) (by rw [hxl]; decide)
    rw [List.getElem?_eq_getElem (by rw [hxl]; decide)] at g0 g1 g2 g3 g4 g5
    have hbb : Rows.uptoBulk x.1 = Rows.uptoBulkAll (xs.map (·.1)) + 1 := by rw [hx]; rfl
    have hb5 := bulk_get u5
    obtain ⟨k, h0, _, w0⟩ := DataW.trod_int Tryd.underlying3 g0
    obtain ⟨a, h1, _, w1⟩ := DataW.trod_int Tryd.underlying3 g1
    obtain ⟨b, h2, _, w2⟩ := DataW.trod_int Tryd.underlying3 g2
    obtain ⟨bk, h3, _, w3⟩ := DataW.trod_int Tryd.underlying3 g3
    obtain ⟨s, h4, _, w4⟩ := DataW.trod_string Tryd.underlying9 g4
    obtain ⟨ua, us, c, h5, j1, j2, j3, j4⟩ := open_u16 (by omega) g5
    simp at h0 h1 h2 h3 h4 h5
    subst h0 h1 h2 h3 h4 h5
    exact ⟨⟨⟨k, a, b, bk⟩, s, ua, c, us⟩, rfl, ⟨w4, bounds_i64' w1, bounds_i64' w2, bounds_i64' w3⟩, j1, j2, j3, by simp only; omega⟩
theorem open_mks {fuel : Nat} {cs : List Value} {x : DataW H × List MemPlace} (hb : Rows.uptoBulk x.1 ≤ 1048576) (h : DataW.trod enc Tryd.prog w base spare held fuel 22 cs = some x) :
    ∃ (a : Option Addr) (L : List MkV) (c : Nat), cs = [.slice a L.length c] ∧ MksIn w a L ∧ L.length ≤ 1048576 := by
  obtain ⟨a, len, cap, L, hcs, rfl, h1, h2, h3, h4⟩ := open_elems2 MkV.cells (MkGood w) 6 Tryd.underlying22 cellsOMk (fun _ => rfl) (by decide) (fun n cs x hb h => open_mk hb h) (fun y m n hmn h => ⟨h.1, h.2.1, h.2.2.1, h.2.2.2.1, Nat.le_trans h.2.2.2.2 hmn⟩) hb h
  refine ⟨a, L, cap, hcs, ⟨fun i x hx => ?_, fun x hx => ?_⟩, by omega⟩
  · obtain ⟨_, b, off, e1, _, e3⟩ := h4 i x hx
    exact ⟨b, off, e1, fun j v hv => by have := e3 j v hv; rw [show off + i * 6 + j = off + (i * 6 + j) by omega]; exact this⟩
  · obtain ⟨i, hi⟩ := List.mem_iff_getElem?.1 hx
    have hg := (h4 i x hi).1
    exact ⟨hg.1, hg.2.1, hg.2.2.1, hg.2.2.2.1, by have := hg.2.2.2.2; omega⟩
end
theorem cellsOAk : Tryd.prog.cellsOf 34 = 6 := by kernel_rfl
theorem u32_natB {n : Int} (h : (Lit.int .u32 n).wf = true) : ∃ m : Nat, n = (m : Int) ∧ m ≤ 4294967295 := by
  have h1 : IntKind.u32.min ≤ n ∧ n ≤ IntKind.u32.max := by simpa [Lit.wf] using h
  have h2 : IntKind.u32.min = 0 := by kernel_rfl
  have h3 : IntKind.u32.max = 4294967295 := by kernel_rfl
  exact ⟨n.toNat, by omega, by omega⟩
section
variable {H : Type} {enc : TypeId × Value → H} {w : World} {base : Nat} {spare : Nat → Bool} {held : Bool}
theorem open_handleB {fuel : Nat} {cs : List Value} {x : DataW H × List MemPlace} (h : DataW.trod enc Tryd.prog w base spare held fuel 31 cs = some x) :
    ∃ s g : Nat, cs = [.int .u32 (s : Int), .int .u32 (g : Int)] ∧ s ≤ 4294967295 ∧ g ≤ 4294967295 := by
  obtain ⟨xs, n, _, hx, hlen, hxl, hf⟩ := DataW.trod_struct Tryd.underlying31 h
  rw [cellsOH] at hlen
  match cs, hlen with
  | [c0, c1], _ =>
    have g0 : DataW.trod enc Tryd.prog w base spare held n 29 (([c0, c1].drop 0).take (Tryd.prog.cellsOf 29)) = xs[0]? := hf 0 _ rfl
    have g1 : DataW.trod enc Tryd.prog w base spare held n 29 (([c0, c1].drop 1).take (Tryd.prog.cellsOf 29)) = xs[1]? := hf 1 _ rfl
    simp only [cellsOU32, List.drop_zero, List.drop_succ_cons, List.take_succ_cons, List.take_zero] at g0 g1
    have hl2 : xs.length = 2 := by rw [hxl]; rfl
    match xs, hl2 with
    | [x0, x1], _ =>
      obtain ⟨a, h0, e0, w0⟩ := DataW.trod_int Tryd.underlying29 g0
      obtain ⟨b, h1, e1, w1⟩ := DataW.trod_int Tryd.underlying29 g1
      simp at h0 h1
      obtain ⟨s, rfl, hs⟩ := u32_natB w0
      obtain ⟨g, rfl, hg⟩ := u32_natB w1
      subst h0 h1
      exact ⟨s, g, rfl, hs, hg⟩
instance : Inhabited AkV := ⟨⟨0, 0, 0, 0, 0, 0⟩⟩
theorem open_ak {fuel : Nat} {cs : List Value} {x : DataW H × List MemPlace} (h : DataW.trod enc Tryd.prog w base spare held fuel 34 cs = some x) :
    ∃ y : AkV, cs = y.cells ∧ AkB y := by
  obtain ⟨xs, n, _, hx, hlen, hxl, hf⟩ := DataW.trod_struct Tryd.underlying34 h
  rw [cellsOAk] at hlen
  match cs, hlen with
  | [c0, c1, c2, c3, c4, c5], _ =>
    have g0 : DataW.trod enc Tryd.prog w base spare held n 3 (([c0, c1, c2, c3, c4, c5].drop 0).take (Tryd.prog.cellsOf 3)) = xs[0]? := hf 0 _ rfl
    have g1 : DataW.trod enc Tryd.prog w base spare held n 3 (([c0, c1, c2, c3, c4, c5].drop 1).take (Tryd.prog.cellsOf 3)) = xs[1]? := hf 1 _ rfl
    have g2 : DataW.trod enc Tryd.prog w base spare held n 3 (([c0, c1, c2, c3, c4, c5].drop 2).take (Tryd.prog.cellsOf 3)) = xs[2]? := hf 2 _ rfl
    have g3 : DataW.trod enc Tryd.prog w base spare held n 3 (([c0, c1, c2, c3, c4, c5].drop 3).take (Tryd.prog.cellsOf 3)) = xs[3]? := hf 3 _ rfl
    have g4 : DataW.trod enc Tryd.prog w base spare held n 31 (([c0, c1, c2, c3, c4, c5].drop 4).take (Tryd.prog.cellsOf 31)) = xs[4]? := hf 4 _ rfl
    simp only [cellsOInt, cellsOH, List.drop_zero, List.drop_succ_cons, List.take_succ_cons, List.take_zero] at g0 g1 g2 g3 g4
    rw [List.getElem?_eq_getElem (by rw [hxl]; decide)] at g0 g1 g2 g3 g4
    obtain ⟨a, h0, _, w0⟩ := DataW.trod_int Tryd.underlying3 g0
    obtain ⟨b, h1, _, w1⟩ := DataW.trod_int Tryd.underlying3 g1
    obtain ⟨c, h2, _, w2⟩ := DataW.trod_int Tryd.underlying3 g2
    obtain ⟨e, h3, _, w3⟩ := DataW.trod_int Tryd.underlying3 g3
    obtain ⟨s, g, h4, hs, hg⟩ := open_handleB g4
    simp at h0 h1 h2 h3 h4
    obtain ⟨h4, h5⟩ := h4
    subst h0 h1 h2 h3 h4 h5
    exact ⟨⟨a, b, c, e, s, g⟩, rfl, ⟨bounds_i64' w0, bounds_i64' w1, bounds_i64' w2, hs, hg⟩⟩
theorem open_aks {fuel : Nat} {cs : List Value} {x : DataW H × List MemPlace} (hb : Rows.uptoBulk x.1 ≤ 1048576) (h : DataW.trod enc Tryd.prog w base spare held fuel 23 cs = some x) :
    ∃ (a : Option Addr) (L : List AkV) (c : Nat), cs = [.slice a L.length c] ∧ AksIn w a L ∧ L.length ≤ 1048576 := by
  obtain ⟨a, len, cap, L, hcs, rfl, h1, h2, h3, h4⟩ := open_elems2 AkV.cells (fun y _ => AkB y) 6 Tryd.underlying23 cellsOAk (fun _ => rfl) (by decide) (fun n cs x hb h => open_ak h) (fun y m n hmn h => h) hb h
  refine ⟨a, L, cap, hcs, ⟨fun i x hx => ?_, fun x hx => ?_⟩, by omega⟩
  · obtain ⟨_, b, off, e1, _, e3⟩ := h4 i x hx
    exact ⟨b, off, e1, fun j v hv => by have := e3 j v hv; rw [show off + i * 6 + j = off + (i * 6 + j) by omega]; exact this⟩
  · obtain ⟨i, hi⟩ := List.mem_iff_getElem?.1 hx
    exact (h4 i x hi).1
end
end Go.Proofs.YtelhnaphkbpakaaDoor
