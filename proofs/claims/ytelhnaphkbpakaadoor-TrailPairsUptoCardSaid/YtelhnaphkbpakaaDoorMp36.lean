/- Part 36 of the proof of TpP: lemmas. -/
import Derived.Test.YtelhnaphkbpakaaDoorMp35
namespace Go.Proofs.YtelhnaphkbpakaaDoor
open Go.RowKit
set_option linter.unusedVariables false
set_option maxRecDepth 100000
theorem cut_slots {F : For} {i u : Nat} (hne : i ≠ u) (k : Nat) : ((cutF F i u)[k]?).map (fun x => (x.sl, x.gn, x.live)) = (F[k]?).map (fun x => (x.sl, x.gn, x.live)) := by
  rw [cutF_at hne]
  by_cases h1 : k = i
  · subst h1; rw [if_pos rfl]; cases F[k]? <;> rfl
  · rw [if_neg h1]
    by_cases h2 : k = u
    · subst h2; rw [if_pos rfl]; cases F[k]? <;> rfl
    · rw [if_neg h2]
def unlinkH (L : Nat → Nat → Nat × Nat) (i u : Nat) (f b : Option Nat) (hf hb : Nat × Nat) : Nat → Nat → Nat × Nat :=
  let L1 := match f with | none => updH L u 1 hb | some f => updH L f 4 hb
  let L2 := match b with | none => updH L1 u 2 hf | some b => updH L1 b 3 hf
  updH (updH (updH L2 i 0 (0, 0)) i 3 (0, 0)) i 4 (0, 0)
theorem hd_unlinkL (F : For) (L : Nat → Nat → Option Nat) (i u : Nat) (f b : Option Nat) (k j : Nat) :
    hd F (unlinkL L i u f b k j) = unlinkH (fun a c => hd F (L a c)) i u f b (hd F f) (hd F b) k j := by
  unfold unlinkL unlinkH
  have e : ∀ (L : Nat → Nat → Option Nat) (k j : Nat) (o : Option Nat), (fun a c => hd F (updO L k j o a c)) = updH (fun a c => hd F (L a c)) k j (hd F o) := fun L k j o => by funext a c; exact hd_updO F L k j o a c
  cases f with
  | none => cases b with
    | none => simp only [hd_updO]; rfl
    | some b => simp only [hd_updO]; rfl
  | some f => cases b with
    | none => simp only [hd_updO]; rfl
    | some b => simp only [hd_updO]; rfl
theorem TreeRw.unlinked {B : Nat} {Q : Nat → Prop} {w : World} {tb : Nat} {X : TX} (ok : FOk X.F) {u i : Nat} {xu xi : FN} (hu : X.F[u]? = some xu) (hi : X.F[i]? = some xi) (hiu : xi.up = some u) {l1 l2 : List Nat} (hl : xu.down = l1 ++ i :: l2)
    (h : TreeRw B Q w tb X (unlinkH (toH X.F) i u l1.getLast? l2.head? (hd X.F l1.getLast?) (hd X.F l2.head?))) : TreeAt B Q w tb { X with F := cutF X.F i u } := by
  have hne := ok.up_ne hi hiu
  refine ⟨ok.cut hi hiu, h.told (cutF_len _ _ _) (cut_slots hne) (fun k j hj => ?_)⟩
  show hd _ (lkO _ k j) = _
  rw [hd_cut hne, lk_cut ok hi hu hiu hl k j hj, hd_unlinkL]
  rfl
theorem alloc3_below (w : World) (a b c : Obj) : Below w.heap.size w (((w.alloc a).alloc b).alloc c) := (((Below.refl _ w).alloc (Nat.le_refl _) a).alloc (by simp) b).alloc (by simp; omega) c
section
variable {B : Nat} {Q : Nat → Prop} {w w' : World} {tb : Nat} {X : TX}
set_option maxHeartbeats 8000000 in
theorem unlink_00 (h : TreeAt B Q w tb X) {u i : Nat} {xu xi : FN} (hu : X.F[u]? = some xu) (hul : xu.live = true) (hi : X.F[i]? = some xi) (hil : xi.live = true) (hiu : xi.up = some u) {l1 l2 : List Nat} (hl : xu.down = l1 ++ i :: l2) (hf : l1 = []) (hb : l2 = []) :
    Calls Tryd.prog 73 #[.pointer (some ⟨tb, 0, none⟩), .agg #[.int .u32 (xi.sl : Int), .int .u32 (xi.gn : Int)]] w fun e w' =>
      e = .returned (.int .i64 0) ∧ TreeAt B Q w' tb { X with F := cutF X.F i u } ∧ FrG [120] Q w w' := by
  have HT := Lib.hid h
  have HFIN : Hid (∀ W, TreeRw B Q W tb X (unlinkH (toH X.F) i u l1.getLast? l2.head? (hd X.F l1.getLast?) (hd X.F l2.head?)) → TreeAt B Q W tb { X with F := cutF X.F i u }) := Lib.hid (fun W hW => hW.unlinked h.fok hu hi hiu hl)
  have hnd := h.fok.nd u xu hu
  rw [hl] at hnd
  have hi1 : i ∉ l1 := fun hm => (List.nodup_append.1 hnd).2.2 i hm i (by simp) rfl
  have huo : upOf X.F i = some u := by unfold upOf; rw [hi]; exact hiu
  have hdu : dnOf X.F (some u) = l1 ++ i :: l2 := by unfold dnOf; simp [hu, hl]
  have h0 : toH X.F i 0 = (xu.sl, xu.gn) := by unfold toH; show hd X.F (upOf X.F i) = _; rw [huo]; exact hd_some hu
  have h3 : toH X.F i 3 = (0, 0) := by
    unfold toH; show hd X.F (prevOf (dnOf X.F (upOf X.F i)) i) = _
    rw [huo, hdu, prev_split hi1, hf]; rfl
  have h4 : toH X.F i 4 = (0, 0) := by
    unfold toH; show hd X.F (nextOf (dnOf X.F (upOf X.F i)) i) = _
    rw [huo, hdu, next_split hi1, hb]; rfl
  have HEND : Hid (unlinkH (toH X.F) i u l1.getLast? l2.head? (hd X.F l1.getLast?) (hd X.F l2.head?) = updH (updH (updH (updH (updH (toH X.F) u 1 (0, 0)) u 2 (0, 0)) i 0 (0, 0)) i 3 (0, 0)) i 4 (0, 0)) := Lib.hid (by
    rw [hf, hb]; rfl)
  obtain ⟨nbc, Pc, hmc, _⟩ := h.rw.at_live hi hil
  obtain ⟨_, _, _, _, husl, _⟩ := h.rw.at_live hu hul
  have hnc := (h.rw.node i xi nbc Pc hi hil hmc).2.2.1
  have HMI := Lib.hid hmc
  have HI := Lib.hid (And.intro hi hil)
  have HC : Hid (∀ (W : World) L, TreeRw B Q W tb X L → W.heap[nbc]? = some (.cells (ncells Pc (L i) (i + 1)) 120 (0, 0))) := Lib.hid (fun W L hW => (hW.node i xi nbc Pc hi hil hmc).2.2.1)
  have HGc : Hid (∀ W, Below w.heap.size w W → Calls Tryd.prog 76 #[.pointer (some ⟨X.ab, 0, none⟩), .agg #[.int .u32 (xi.sl : Int), .int .u32 (xi.gn : Int)]] W fun e w' => e = .returned (.tuple #[.pointer (some ⟨nbc, 0, none⟩), .int .i64 0]) ∧ Below W.heap.size W w') := Lib.hid (fun W bb => (h.rw.below bb).get_live hi hil hmc)
  have HS1 : Hid (∀ (W : World) L, TreeRw B Q W tb X L → ∀ p q : Nat, Calls Tryd.prog 102 #[.pointer (some ⟨tb, 0, none⟩), .agg #[.int .u32 (xu.sl : Int), .int .u32 (xu.gn : Int)], .int .i64 1, .agg #[.int .u32 (p : Int), .int .u32 (q : Int)]] W fun e w' => e = .returned (.tuple #[]) ∧ TreeRw B Q w' tb X (updH L u 1 (p, q)) ∧ FrG [120] Q W w') := Lib.hid (fun W L hW p q => set_live hW hu hul 1 (by decide) p q)
  have HS2 : Hid (∀ (W : World) L, TreeRw B Q W tb X L → ∀ p q : Nat, Calls Tryd.prog 102 #[.pointer (some ⟨tb, 0, none⟩), .agg #[.int .u32 (xu.sl : Int), .int .u32 (xu.gn : Int)], .int .i64 2, .agg #[.int .u32 (p : Int), .int .u32 (q : Int)]] W fun e w' => e = .returned (.tuple #[]) ∧ TreeRw B Q w' tb X (updH L u 2 (p, q)) ∧ FrG [120] Q W w') := Lib.hid (fun W L hW p q => set_live hW hu hul 2 (by decide) p q)
  have qz : hEq 0 0 0 0 = true := hEq_true rfl rfl
  have qu : hEq (xu.sl : Int) (xu.gn : Int) 0 0 = false := hEq_false (.inl (by omega))
  have c0 := cell_blk h.rw.blk 0 rfl
  have ltb := lt_of_some h.rw.blk
  have lnc := lt_of_some hnc
  simp at c0
  have HLT := Lib.hid (And.intro h0 (And.intro h3 h4))
  clear h0 h3 h4 h hu hul hi hil hiu hl hf hb hnd hi1 huo hdu hmc hnc husl 
  generalize xu.sl = us at *
  generalize xu.gn = ug at *
  generalize xi.sl = si at *
  generalize xi.gn = gi at *
  obtain ⟨V, hV⟩ : ∃ V, V = w.alloc (.cells #[.int .u32 (si : Int), .int .u32 (gi : Int)] 31) := ⟨_, rfl⟩
  have bV : Below w.heap.size w V := by rw [hV]; exact (by repeat (first | exact Below.refl _ _ | assumption | refine Below.drew ?_ | refine below_drewN ?_ _ | refine Below.alloc ?_ (by simp <;> omega) _ | refine Below.setCell ?_ (by simp <;> omega) _ | (apply bl_trans; assumption; (simp <;> omega))))
  have hx : V.heap[w.heap.size]? = some (.cells #[.int .u32 (si : Int), .int .u32 (gi : Int)] 31 (0, 0)) := by rw [hV]; exact Go.heap_alloc_new w _
  have HX := Lib.hid (And.intro hx bV)
  have HSW : Hid (∀ W, Below V.heap.size V W → (W.cell? ⟨tb, 0, none⟩ = some (.pointer (some ⟨X.ab, 0, none⟩)) ∧ W.cell? ⟨w.heap.size, 0, none⟩ = some (.int .u32 (si : Int)) ∧ W.cell? ⟨w.heap.size, 1, none⟩ = some (.int .u32 (gi : Int))) ∧ Below w.heap.size w W) := Lib.hid (fun W bb => by
    have hx2 := (bb.block _ (lt_of_some HX.out.1)).trans HX.out.1
    exact ⟨⟨((HX.out.2.trans (bb.mono HX.out.2.size)).cell (p := ⟨tb, 0, none⟩) ltb).trans c0, cell_blk hx2 0 rfl, cell_blk hx2 1 rfl⟩, HX.out.2.trans (bb.mono HX.out.2.size)⟩)
  have HD0 : Hid (Below V.heap.size V V.drew) := Lib.hid (Below.refl _ _).drew
  have hV2 := hV
  clear hV hx bV
  go_enter Tryd.func73, Tryd.ntmps73
  go_wp2_with fail
  rw [← hV2]
  clear hV2
  go_region_held3 (fun W => (W.cell? ⟨tb, 0, none⟩ = some (.pointer (some ⟨X.ab, 0, none⟩)) ∧ W.cell? ⟨w.heap.size, 0, none⟩ = some (.int .u32 (si : Int)) ∧ W.cell? ⟨w.heap.size, 1, none⟩ = some (.int .u32 (gi : Int)))) (first | exact (HSW.out _ HD0.out).1 | exact (HSW.out _ HB1.out).1) (first | (go_at_call 76; refine (HGc.out _ (HSW.out _ HD0.out).2).mono ?_; rintro e w1 ⟨rfl, b1⟩; have HB1 := Lib.hid (HD0.out.trans (b1.mono HD0.out.size))))
  clear b1 HD0
  have HT1 := Lib.hid (HT.out.rw.below (HSW.out _ HB1.out).2)
  have m6 : w1.cell? ⟨nbc, 6, none⟩ = some (.int .u32 ((toH X.F i 0).1 : Int)) := cell_blk (HC.out w1 _ HT1.out) 6 rfl
  have m7 : w1.cell? ⟨nbc, 7, none⟩ = some (.int .u32 ((toH X.F i 0).2 : Int)) := cell_blk (HC.out w1 _ HT1.out) 7 rfl
  have m12 : w1.cell? ⟨nbc, 12, none⟩ = some (.int .u32 ((toH X.F i 3).1 : Int)) := cell_blk (HC.out w1 _ HT1.out) 12 rfl
  have m13 : w1.cell? ⟨nbc, 13, none⟩ = some (.int .u32 ((toH X.F i 3).2 : Int)) := cell_blk (HC.out w1 _ HT1.out) 13 rfl
  have m14 : w1.cell? ⟨nbc, 14, none⟩ = some (.int .u32 ((toH X.F i 4).1 : Int)) := cell_blk (HC.out w1 _ HT1.out) 14 rfl
  have m15 : w1.cell? ⟨nbc, 15, none⟩ = some (.int .u32 ((toH X.F i 4).2 : Int)) := cell_blk (HC.out w1 _ HT1.out) 15 rfl
  rw [HLT.out.1] at m6 m7
  rw [HLT.out.2.1] at m12 m13
  rw [HLT.out.2.2] at m14 m15
  simp at m6 m7 m12 m13 m14 m15
  have lnc1 : nbc < w1.heap.size := lt_of_some (HC.out w1 _ HT1.out)
  have lnc2 : nbc < w1.heap.size + 1 := by omega
  have lnc3 : nbc < w1.heap.size + 1 + 1 := by omega
  have lnc4 : nbc < w1.heap.size + 2 := by omega
  go_upto_region 6 with fail
  go_cut [7, 8, 9] from 31 to 45 (fun v7 v8 v9 wc => ∃ c7 c8 c9 : Nat, v7 = .pointer (some ⟨c7, 0, none⟩) ∧ v8 = .pointer (some ⟨c8, 0, none⟩) ∧ v9 = .pointer (some ⟨c9, 0, none⟩) ∧
    Hid (wc.heap[c7]? = some (.cells #[.int .u32 (us : Int), .int .u32 (ug : Int)] 31 (0, 0)) ∧ wc.heap[c8]? = some (.cells #[.int .u32 0, .int .u32 0] 31 (0, 0)) ∧ wc.heap[c9]? = some (.cells #[.int .u32 0, .int .u32 0] 31 (0, 0)) ∧ Below w1.heap.size w1 wc))
  case first =>
    go_region
    all_goals go_wp2_with fail
    all_goals go_meet
    all_goals first
      | exact ⟨w1.heap.size, w1.heap.size + 1, w1.heap.size + 2, rfl, rfl, rfl, Lib.hid ⟨(alloc3_blk w1 _ _ _).1, (alloc3_blk w1 _ _ _).2.1, (alloc3_blk w1 _ _ _).2.2, (alloc3_below w1 _ _ _).drew⟩⟩
      | exact ⟨w1.heap.size, w1.heap.size + 2, w1.heap.size + 1, rfl, rfl, rfl, Lib.hid ⟨(alloc3_blk w1 _ _ _).1, (alloc3_blk w1 _ _ _).2.2, (alloc3_blk w1 _ _ _).2.1, (alloc3_below w1 _ _ _).drew⟩⟩
      | exact ⟨w1.heap.size + 1, w1.heap.size, w1.heap.size + 2, rfl, rfl, rfl, Lib.hid ⟨(alloc3_blk w1 _ _ _).2.1, (alloc3_blk w1 _ _ _).1, (alloc3_blk w1 _ _ _).2.2, (alloc3_below w1 _ _ _).drew⟩⟩
      | exact ⟨w1.heap.size + 1, w1.heap.size + 2, w1.heap.size, rfl, rfl, rfl, Lib.hid ⟨(alloc3_blk w1 _ _ _).2.1, (alloc3_blk w1 _ _ _).2.2, (alloc3_blk w1 _ _ _).1, (alloc3_below w1 _ _ _).drew⟩⟩
      | exact ⟨w1.heap.size + 2, w1.heap.size, w1.heap.size + 1, rfl, rfl, rfl, Lib.hid ⟨(alloc3_blk w1 _ _ _).2.2, (alloc3_blk w1 _ _ _).1, (alloc3_blk w1 _ _ _).2.1, (alloc3_below w1 _ _ _).drew⟩⟩
      | exact ⟨w1.heap.size + 2, w1.heap.size + 1, w1.heap.size, rfl, rfl, rfl, Lib.hid ⟨(alloc3_blk w1 _ _ _).2.2, (alloc3_blk w1 _ _ _).2.1, (alloc3_blk w1 _ _ _).1, (alloc3_below w1 _ _ _).drew⟩⟩
  case rest =>
    obtain ⟨c7, c8, c9, rfl, rfl, rfl, hw⟩ := hcut
    have HBX : Hid (∀ W, FrG [120] Q wc W → W.heap[c7]? = some (.cells #[.int .u32 (us : Int), .int .u32 (ug : Int)] 31 (0, 0)) ∧ W.heap[c8]? = some (.cells #[.int .u32 0, .int .u32 0] 31 (0, 0)) ∧ W.heap[c9]? = some (.cells #[.int .u32 0, .int .u32 0] 31 (0, 0))) := Lib.hid (fun W f => ⟨f.blk hw.out.1 (by decide), f.blk hw.out.2.1 (by decide), f.blk hw.out.2.2.1 (by decide)⟩)
    have HTc : Hid (TreeRw B Q wc tb X (toH X.F)) := Lib.hid (HT1.out.below hw.out.2.2.2)
    have HLc : Hid (FrG [120] Q w wc) := Lib.hid (FrG.of_below ((HSW.out _ HB1.out).2.trans (hw.out.2.2.2.mono (HSW.out _ HB1.out).2.size)))
    clear m6 m7 m12 m13 m14 m15 lnc1 lnc2 lnc3 lnc4 hw HT1 HB1 HSW HX
    have x0 := cell_blk (HBX.out wc (FrG.refl _ _ _)).1 0 rfl
    have x1 := cell_blk (HBX.out wc (FrG.refl _ _ _)).1 1 rfl
    have x2 := cell_blk (HBX.out wc (FrG.refl _ _ _)).2.1 0 rfl
    have x3 := cell_blk (HBX.out wc (FrG.refl _ _ _)).2.1 1 rfl
    have x4 := cell_blk (HBX.out wc (FrG.refl _ _ _)).2.2 0 rfl
    have x5 := cell_blk (HBX.out wc (FrG.refl _ _ _)).2.2 1 rfl
    simp at x0 x1 x2 x3 x4 x5
    go_wp2_with fail
    refine (HS1.out wc _ HTc.out 0 0).mono ?_
    rintro e w2 ⟨rfl, h2, f2⟩
    have H2 := Lib.hid (And.intro h2 f2)
    clear h2 f2 x0 x1 x2 x3 x4 x5
    have x0 := cell_blk (HBX.out w2 H2.out.2).1 0 rfl
    have x1 := cell_blk (HBX.out w2 H2.out.2).1 1 rfl
    have x2 := cell_blk (HBX.out w2 H2.out.2).2.1 0 rfl
    have x3 := cell_blk (HBX.out w2 H2.out.2).2.1 1 rfl
    have x4 := cell_blk (HBX.out w2 H2.out.2).2.2 0 rfl
    have x5 := cell_blk (HBX.out w2 H2.out.2).2.2 1 rfl
    simp at x0 x1 x2 x3 x4 x5
    go_wp2_with fail
    refine (HS2.out w2 _ H2.out.1 0 0).mono ?_
    rintro e w3 ⟨rfl, h3, f3⟩
    have H3 := Lib.hid (And.intro h3 f3)
    clear h3 f3 x0 x1 x2 x3 x4 x5
    have m6 : w3.cell? ⟨nbc, 6, none⟩ = some (.int .u32 ((updH (updH (toH X.F) u 1 (0, 0)) u 2 (0, 0)) i 0).1) := cell_blk (HC.out w3 _ H3.out.1) 6 rfl
    have r6 := free_blk (HC.out w3 _ H3.out.1) 6
    have m7 : w3.cell? ⟨nbc, 7, none⟩ = some (.int .u32 ((updH (updH (toH X.F) u 1 (0, 0)) u 2 (0, 0)) i 0).2) := cell_blk (HC.out w3 _ H3.out.1) 7 rfl
    have r7 := free_blk (HC.out w3 _ H3.out.1) 7
    have m12 : w3.cell? ⟨nbc, 12, none⟩ = some (.int .u32 ((updH (updH (toH X.F) u 1 (0, 0)) u 2 (0, 0)) i 3).1) := cell_blk (HC.out w3 _ H3.out.1) 12 rfl
    have r12 := free_blk (HC.out w3 _ H3.out.1) 12
    have m13 : w3.cell? ⟨nbc, 13, none⟩ = some (.int .u32 ((updH (updH (toH X.F) u 1 (0, 0)) u 2 (0, 0)) i 3).2) := cell_blk (HC.out w3 _ H3.out.1) 13 rfl
    have r13 := free_blk (HC.out w3 _ H3.out.1) 13
    have m14 : w3.cell? ⟨nbc, 14, none⟩ = some (.int .u32 ((updH (updH (toH X.F) u 1 (0, 0)) u 2 (0, 0)) i 4).1) := cell_blk (HC.out w3 _ H3.out.1) 14 rfl
    have r14 := free_blk (HC.out w3 _ H3.out.1) 14
    have m15 : w3.cell? ⟨nbc, 15, none⟩ = some (.int .u32 ((updH (updH (toH X.F) u 1 (0, 0)) u 2 (0, 0)) i 4).2) := cell_blk (HC.out w3 _ H3.out.1) 15 rfl
    have r15 := free_blk (HC.out w3 _ H3.out.1) 15
    go_upto_region 13 with fail
    go_region
    go_wp2_with fail
    go_ret
    have h4 := H3.out.1.set3 HI.out HMI.out 0 0 0 0 0 0
    refine ⟨rfl, HFIN.out _ (by rw [HEND.out]; exact h4.1.below (Below.refl _ _).drew), ((HLc.out.trans H2.out.2 (fun _ h => .inl h)).trans H3.out.2 (fun _ h => .inl h)).trans h4.2.drew (fun _ h => .inl h)⟩
set_option maxHeartbeats 8000000 in
theorem unlink_01 (h : TreeAt B Q w tb X) {u i : Nat} {xu xi : FN} (hu : X.F[u]? = some xu) (hul : xu.live = true) (hi : X.F[i]? = some xi) (hil : xi.live = true) (hiu : xi.up = some u) {l1 l2 : List Nat} (hl : xu.down = l1 ++ i :: l2) (hf : l1 = []) {b bs bg : Nat} (hb : l2.head? = some b) (hbe : hd X.F (some b) = (bs, bg)) :
    Calls Tryd.prog 73 #[.pointer (some ⟨tb, 0, none⟩), .agg #[.int .u32 (xi.sl : Int), .int .u32 (xi.gn : Int)]] w fun e w' =>
      e = .returned (.int .i64 0) ∧ TreeAt B Q w' tb { X with F := cutF X.F i u } ∧ FrG [120] Q w w' := by
  have HT := Lib.hid h
  have HFIN : Hid (∀ W, TreeRw B Q W tb X (unlinkH (toH X.F) i u l1.getLast? l2.head? (hd X.F l1.getLast?) (hd X.F l2.head?)) → TreeAt B Q W tb { X with F := cutF X.F i u }) := Lib.hid (fun W hW => hW.unlinked h.fok hu hi hiu hl)
  have hnd := h.fok.nd u xu hu
  rw [hl] at hnd
  have hi1 : i ∉ l1 := fun hm => (List.nodup_append.1 hnd).2.2 i hm i (by simp) rfl
  have huo : upOf X.F i = some u := by unfold upOf; rw [hi]; exact hiu
  have hdu : dnOf X.F (some u) = l1 ++ i :: l2 := by unfold dnOf; simp [hu, hl]
  have h0 : toH X.F i 0 = (xu.sl, xu.gn) := by unfold toH; show hd X.F (upOf X.F i) = _; rw [huo]; exact hd_some hu
  have hbu : ∃ xb : FN, X.F[b]? = some xb ∧ xb.live = true := by
    obtain ⟨xb, h1, h2, h3⟩ := h.fok.dn u xu hu b (by rw [hl]; exact List.mem_append_right _ (List.mem_cons_of_mem _ (List.mem_of_head? hb)))
    exact ⟨xb, h1, h3⟩
  obtain ⟨xb, hxb, hxbl⟩ := hbu
  rw [hd_some hxb] at hbe
  simp only [Prod.mk.injEq] at hbe
  obtain ⟨rfl, rfl⟩ := hbe
  obtain ⟨nbb, Pb, hmb, _, hbsl, _⟩ := h.rw.at_live hxb hxbl
  have h3 : toH X.F i 3 = (0, 0) := by
    unfold toH; show hd X.F (prevOf (dnOf X.F (upOf X.F i)) i) = _
    rw [huo, hdu, prev_split hi1, hf]; rfl
  have h4 : toH X.F i 4 = (xb.sl, xb.gn) := by
    unfold toH; show hd X.F (nextOf (dnOf X.F (upOf X.F i)) i) = _
    rw [huo, hdu, next_split hi1, hb]; exact hd_some hxb
  have HEND : Hid (unlinkH (toH X.F) i u l1.getLast? l2.head? (hd X.F l1.getLast?) (hd X.F l2.head?) = updH (updH (updH (updH (updH (toH X.F) u 1 (xb.sl, xb.gn)) b 3 (0, 0)) i 0 (0, 0)) i 3 (0, 0)) i 4 (0, 0)) := Lib.hid (by
    rw [hf, hb, hd_some hxb]; rfl)
  obtain ⟨nbc, Pc, hmc, _⟩ := h.rw.at_live hi hil
  obtain ⟨_, _, _, _, husl, _⟩ := h.rw.at_live hu hul
  have hnc := (h.rw.node i xi nbc Pc hi hil hmc).2.2.1
  have HMI := Lib.hid hmc
  have HI := Lib.hid (And.intro hi hil)
  have HC : Hid (∀ (W : World) L, TreeRw B Q W tb X L → W.heap[nbc]? = some (.cells (ncells Pc (L i) (i + 1)) 120 (0, 0))) := Lib.hid (fun W L hW => (hW.node i xi nbc Pc hi hil hmc).2.2.1)
  have HGc : Hid (∀ W, Below w.heap.size w W → Calls Tryd.prog 76 #[.pointer (some ⟨X.ab, 0, none⟩), .agg #[.int .u32 (xi.sl : Int), .int .u32 (xi.gn : Int)]] W fun e w' => e = .returned (.tuple #[.pointer (some ⟨nbc, 0, none⟩), .int .i64 0]) ∧ Below W.heap.size W w') := Lib.hid (fun W bb => (h.rw.below bb).get_live hi hil hmc)
  have HS1 : Hid (∀ (W : World) L, TreeRw B Q W tb X L → ∀ p q : Nat, Calls Tryd.prog 102 #[.pointer (some ⟨tb, 0, none⟩), .agg #[.int .u32 (xu.sl : Int), .int .u32 (xu.gn : Int)], .int .i64 1, .agg #[.int .u32 (p : Int), .int .u32 (q : Int)]] W fun e w' => e = .returned (.tuple #[]) ∧ TreeRw B Q w' tb X (updH L u 1 (p, q)) ∧ FrG [120] Q W w') := Lib.hid (fun W L hW p q => set_live hW hu hul 1 (by decide) p q)
  have HS2 : Hid (∀ (W : World) L, TreeRw B Q W tb X L → ∀ p q : Nat, Calls Tryd.prog 102 #[.pointer (some ⟨tb, 0, none⟩), .agg #[.int .u32 (xb.sl : Int), .int .u32 (xb.gn : Int)], .int .i64 3, .agg #[.int .u32 (p : Int), .int .u32 (q : Int)]] W fun e w' => e = .returned (.tuple #[]) ∧ TreeRw B Q w' tb X (updH L b 3 (p, q)) ∧ FrG [120] Q W w') := Lib.hid (fun W L hW p q => set_live hW hxb hxbl 3 (by decide) p q)
  have qb : hEq (xb.sl : Int) (xb.gn : Int) 0 0 = false := hEq_false (.inl (by omega))
  have qz : hEq 0 0 0 0 = true := hEq_true rfl rfl
  have qu : hEq (xu.sl : Int) (xu.gn : Int) 0 0 = false := hEq_false (.inl (by omega))
  have c0 := cell_blk h.rw.blk 0 rfl
  have ltb := lt_of_some h.rw.blk
  have lnc := lt_of_some hnc
  simp at c0
  have HLT := Lib.hid (And.intro h0 (And.intro h3 h4))
  clear h0 h3 h4 h hu hul hi hil hiu hl hf hb hnd hi1 huo hdu hmc hnc husl hxb hxbl hmb hbsl
  generalize xu.sl = us at *
  generalize xu.gn = ug at *
  generalize xi.sl = si at *
  generalize xi.gn = gi at *
  generalize xb.sl = bs at *
  generalize xb.gn = bg at *
  obtain ⟨V, hV⟩ : ∃ V, V = w.alloc (.cells #[.int .u32 (si : Int), .int .u32 (gi : Int)] 31) := ⟨_, rfl⟩
  have bV : Below w.heap.size w V := by rw [hV]; exact (by repeat (first | exact Below.refl _ _ | assumption | refine Below.drew ?_ | refine below_drewN ?_ _ | refine Below.alloc ?_ (by simp <;> omega) _ | refine Below.setCell ?_ (by simp <;> omega) _ | (apply bl_trans; assumption; (simp <;> omega))))
  have hx : V.heap[w.heap.size]? = some (.cells #[.int .u32 (si : Int), .int .u32 (gi : Int)] 31 (0, 0)) := by rw [hV]; exact Go.heap_alloc_new w _
  have HX := Lib.hid (And.intro hx bV)
  have HSW : Hid (∀ W, Below V.heap.size V W → (W.cell? ⟨tb, 0, none⟩ = some (.pointer (some ⟨X.ab, 0, none⟩)) ∧ W.cell? ⟨w.heap.size, 0, none⟩ = some (.int .u32 (si : Int)) ∧ W.cell? ⟨w.heap.size, 1, none⟩ = some (.int .u32 (gi : Int))) ∧ Below w.heap.size w W) := Lib.hid (fun W bb => by
    have hx2 := (bb.block _ (lt_of_some HX.out.1)).trans HX.out.1
    exact ⟨⟨((HX.out.2.trans (bb.mono HX.out.2.size)).cell (p := ⟨tb, 0, none⟩) ltb).trans c0, cell_blk hx2 0 rfl, cell_blk hx2 1 rfl⟩, HX.out.2.trans (bb.mono HX.out.2.size)⟩)
  have HD0 : Hid (Below V.heap.size V V.drew) := Lib.hid (Below.refl _ _).drew
  have hV2 := hV
  clear hV hx bV
  go_enter Tryd.func73, Tryd.ntmps73
  go_wp2_with fail
  rw [← hV2]
  clear hV2
  go_region_held3 (fun W => (W.cell? ⟨tb, 0, none⟩ = some (.pointer (some ⟨X.ab, 0, none⟩)) ∧ W.cell? ⟨w.heap.size, 0, none⟩ = some (.int .u32 (si : Int)) ∧ W.cell? ⟨w.heap.size, 1, none⟩ = some (.int .u32 (gi : Int)))) (first | exact (HSW.out _ HD0.out).1 | exact (HSW.out _ HB1.out).1) (first | (go_at_call 76; refine (HGc.out _ (HSW.out _ HD0.out).2).mono ?_; rintro e w1 ⟨rfl, b1⟩; have HB1 := Lib.hid (HD0.out.trans (b1.mono HD0.out.size))))
  clear b1 HD0
  have HT1 := Lib.hid (HT.out.rw.below (HSW.out _ HB1.out).2)
  have m6 : w1.cell? ⟨nbc, 6, none⟩ = some (.int .u32 ((toH X.F i 0).1 : Int)) := cell_blk (HC.out w1 _ HT1.out) 6 rfl
  have m7 : w1.cell? ⟨nbc, 7, none⟩ = some (.int .u32 ((toH X.F i 0).2 : Int)) := cell_blk (HC.out w1 _ HT1.out) 7 rfl
  have m12 : w1.cell? ⟨nbc, 12, none⟩ = some (.int .u32 ((toH X.F i 3).1 : Int)) := cell_blk (HC.out w1 _ HT1.out) 12 rfl
  have m13 : w1.cell? ⟨nbc, 13, none⟩ = some (.int .u32 ((toH X.F i 3).2 : Int)) := cell_blk (HC.out w1 _ HT1.out) 13 rfl
  have m14 : w1.cell? ⟨nbc, 14, none⟩ = some (.int .u32 ((toH X.F i 4).1 : Int)) := cell_blk (HC.out w1 _ HT1.out) 14 rfl
  have m15 : w1.cell? ⟨nbc, 15, none⟩ = some (.int .u32 ((toH X.F i 4).2 : Int)) := cell_blk (HC.out w1 _ HT1.out) 15 rfl
  rw [HLT.out.1] at m6 m7
  rw [HLT.out.2.1] at m12 m13
  rw [HLT.out.2.2] at m14 m15
  simp at m6 m7 m12 m13 m14 m15
  have lnc1 : nbc < w1.heap.size := lt_of_some (HC.out w1 _ HT1.out)
  have lnc2 : nbc < w1.heap.size + 1 := by omega
  have lnc3 : nbc < w1.heap.size + 1 + 1 := by omega
  have lnc4 : nbc < w1.heap.size + 2 := by omega
  go_upto_region 6 with fail
  go_cut [7, 8, 9] from 31 to 45 (fun v7 v8 v9 wc => ∃ c7 c8 c9 : Nat, v7 = .pointer (some ⟨c7, 0, none⟩) ∧ v8 = .pointer (some ⟨c8, 0, none⟩) ∧ v9 = .pointer (some ⟨c9, 0, none⟩) ∧
    Hid (wc.heap[c7]? = some (.cells #[.int .u32 (us : Int), .int .u32 (ug : Int)] 31 (0, 0)) ∧ wc.heap[c8]? = some (.cells #[.int .u32 0, .int .u32 0] 31 (0, 0)) ∧ wc.heap[c9]? = some (.cells #[.int .u32 (bs : Int), .int .u32 (bg : Int)] 31 (0, 0)) ∧ Below w1.heap.size w1 wc))
  case first =>
    go_region
    all_goals go_wp2_with fail
    all_goals go_meet
    all_goals first
      | exact ⟨w1.heap.size, w1.heap.size + 1, w1.heap.size + 2, rfl, rfl, rfl, Lib.hid ⟨(alloc3_blk w1 _ _ _).1, (alloc3_blk w1 _ _ _).2.1, (alloc3_blk w1 _ _ _).2.2, (alloc3_below w1 _ _ _).drew⟩⟩
      | exact ⟨w1.heap.size, w1.heap.size + 2, w1.heap.size + 1, rfl, rfl, rfl, Lib.hid ⟨(alloc3_blk w1 _ _ _).1, (alloc3_blk w1 _ _ _).2.2, (alloc3_blk w1 _ _ _).2.1, (alloc3_below w1 _ _ _).drew⟩⟩
      | exact ⟨w1.heap.size + 1, w1.heap.size, w1.heap.size + 2, rfl, rfl, rfl, Lib.hid ⟨(alloc3_blk w1 _ _ _).2.1, (alloc3_blk w1 _ _ _).1, (alloc3_blk w1 _ _ _).2.2, (alloc3_below w1 _ _ _).drew⟩⟩
      | exact ⟨w1.heap.size + 1, w1.heap.size + 2, w1.heap.size, rfl, rfl, rfl, Lib.hid ⟨(alloc3_blk w1 _ _ _).2.1, (alloc3_blk w1 _ _ _).2.2, (alloc3_blk w1 _ _ _).1, (alloc3_below w1 _ _ _).drew⟩⟩
      | exact ⟨w1.heap.size + 2, w1.heap.size, w1.heap.size + 1, rfl, rfl, rfl, Lib.hid ⟨(alloc3_blk w1 _ _ _).2.2, (alloc3_blk w1 _ _ _).1, (alloc3_blk w1 _ _ _).2.1, (alloc3_below w1 _ _ _).drew⟩⟩
      | exact ⟨w1.heap.size + 2, w1.heap.size + 1, w1.heap.size, rfl, rfl, rfl, Lib.hid ⟨(alloc3_blk w1 _ _ _).2.2, (alloc3_blk w1 _ _ _).2.1, (alloc3_blk w1 _ _ _).1, (alloc3_below w1 _ _ _).drew⟩⟩
  case rest =>
    obtain ⟨c7, c8, c9, rfl, rfl, rfl, hw⟩ := hcut
    have HBX : Hid (∀ W, FrG [120] Q wc W → W.heap[c7]? = some (.cells #[.int .u32 (us : Int), .int .u32 (ug : Int)] 31 (0, 0)) ∧ W.heap[c8]? = some (.cells #[.int .u32 0, .int .u32 0] 31 (0, 0)) ∧ W.heap[c9]? = some (.cells #[.int .u32 (bs : Int), .int .u32 (bg : Int)] 31 (0, 0))) := Lib.hid (fun W f => ⟨f.blk hw.out.1 (by decide), f.blk hw.out.2.1 (by decide), f.blk hw.out.2.2.1 (by decide)⟩)
    have HTc : Hid (TreeRw B Q wc tb X (toH X.F)) := Lib.hid (HT1.out.below hw.out.2.2.2)
    have HLc : Hid (FrG [120] Q w wc) := Lib.hid (FrG.of_below ((HSW.out _ HB1.out).2.trans (hw.out.2.2.2.mono (HSW.out _ HB1.out).2.size)))
    clear m6 m7 m12 m13 m14 m15 lnc1 lnc2 lnc3 lnc4 hw HT1 HB1 HSW HX
    have x0 := cell_blk (HBX.out wc (FrG.refl _ _ _)).1 0 rfl
    have x1 := cell_blk (HBX.out wc (FrG.refl _ _ _)).1 1 rfl
    have x2 := cell_blk (HBX.out wc (FrG.refl _ _ _)).2.1 0 rfl
    have x3 := cell_blk (HBX.out wc (FrG.refl _ _ _)).2.1 1 rfl
    have x4 := cell_blk (HBX.out wc (FrG.refl _ _ _)).2.2 0 rfl
    have x5 := cell_blk (HBX.out wc (FrG.refl _ _ _)).2.2 1 rfl
    simp at x0 x1 x2 x3 x4 x5
    go_wp2_with fail
    refine (HS1.out wc _ HTc.out bs bg).mono ?_
    rintro e w2 ⟨rfl, h2, f2⟩
    have H2 := Lib.hid (And.intro h2 f2)
    clear h2 f2 x0 x1 x2 x3 x4 x5
    have x0 := cell_blk (HBX.out w2 H2.out.2).1 0 rfl
    have x1 := cell_blk (HBX.out w2 H2.out.2).1 1 rfl
    have x2 := cell_blk (HBX.out w2 H2.out.2).2.1 0 rfl
    have x3 := cell_blk (HBX.out w2 H2.out.2).2.1 1 rfl
    have x4 := cell_blk (HBX.out w2 H2.out.2).2.2 0 rfl
    have x5 := cell_blk (HBX.out w2 H2.out.2).2.2 1 rfl
    simp at x0 x1 x2 x3 x4 x5
    go_wp2_with fail
    refine (HS2.out w2 _ H2.out.1 0 0).mono ?_
    rintro e w3 ⟨rfl, h3, f3⟩
    have H3 := Lib.hid (And.intro h3 f3)
    clear h3 f3 x0 x1 x2 x3 x4 x5
    have m6 : w3.cell? ⟨nbc, 6, none⟩ = some (.int .u32 ((updH (updH (toH X.F) u 1 (bs, bg)) b 3 (0, 0)) i 0).1) := cell_blk (HC.out w3 _ H3.out.1) 6 rfl
    have r6 := free_blk (HC.out w3 _ H3.out.1) 6
    have m7 : w3.cell? ⟨nbc, 7, none⟩ = some (.int .u32 ((updH (updH (toH X.F) u 1 (bs, bg)) b 3 (0, 0)) i 0).2) := cell_blk (HC.out w3 _ H3.out.1) 7 rfl
    have r7 := free_blk (HC.out w3 _ H3.out.1) 7
    have m12 : w3.cell? ⟨nbc, 12, none⟩ = some (.int .u32 ((updH (updH (toH X.F) u 1 (bs, bg)) b 3 (0, 0)) i 3).1) := cell_blk (HC.out w3 _ H3.out.1) 12 rfl
    have r12 := free_blk (HC.out w3 _ H3.out.1) 12
    have m13 : w3.cell? ⟨nbc, 13, none⟩ = some (.int .u32 ((updH (updH (toH X.F) u 1 (bs, bg)) b 3 (0, 0)) i 3).2) := cell_blk (HC.out w3 _ H3.out.1) 13 rfl
    have r13 := free_blk (HC.out w3 _ H3.out.1) 13
    have m14 : w3.cell? ⟨nbc, 14, none⟩ = some (.int .u32 ((updH (updH (toH X.F) u 1 (bs, bg)) b 3 (0, 0)) i 4).1) := cell_blk (HC.out w3 _ H3.out.1) 14 rfl
    have r14 := free_blk (HC.out w3 _ H3.out.1) 14
    have m15 : w3.cell? ⟨nbc, 15, none⟩ = some (.int .u32 ((updH (updH (toH X.F) u 1 (bs, bg)) b 3 (0, 0)) i 4).2) := cell_blk (HC.out w3 _ H3.out.1) 15 rfl
    have r15 := free_blk (HC.out w3 _ H3.out.1) 15
    go_upto_region 13 with fail
    go_region
    go_wp2_with fail
    go_ret
    have h4 := H3.out.1.set3 HI.out HMI.out 0 0 0 0 0 0
    refine ⟨rfl, HFIN.out _ (by rw [HEND.out]; exact h4.1.below (Below.refl _ _).drew), ((HLc.out.trans H2.out.2 (fun _ h => .inl h)).trans H3.out.2 (fun _ h => .inl h)).trans h4.2.drew (fun _ h => .inl h)⟩
set_option maxHeartbeats 8000000 in
theorem unlink_10 (h : TreeAt B Q w tb X) {u i : Nat} {xu xi : FN} (hu : X.F[u]? = some xu) (hul : xu.live = true) (hi : X.F[i]? = some xi) (hil : xi.live = true) (hiu : xi.up = some u) {l1 l2 : List Nat} (hl : xu.down = l1 ++ i :: l2) {f fs fg : Nat} (hf : l1.getLast? = some f) (hfe : hd X.F (some f) = (fs, fg)) (hb : l2 = []) :
    Calls Tryd.prog 73 #[.pointer (some ⟨tb, 0, none⟩), .agg #[.int .u32 (xi.sl : Int), .int .u32 (xi.gn : Int)]] w fun e w' =>
      e = .returned (.int .i64 0) ∧ TreeAt B Q w' tb { X with F := cutF X.F i u } ∧ FrG [120] Q w w' := by
  have HT := Lib.hid h
  have HFIN : Hid (∀ W, TreeRw B Q W tb X (unlinkH (toH X.F) i u l1.getLast? l2.head? (hd X.F l1.getLast?) (hd X.F l2.head?)) → TreeAt B Q W tb { X with F := cutF X.F i u }) := Lib.hid (fun W hW => hW.unlinked h.fok hu hi hiu hl)
  have hnd := h.fok.nd u xu hu
  rw [hl] at hnd
  have hi1 : i ∉ l1 := fun hm => (List.nodup_append.1 hnd).2.2 i hm i (by simp) rfl
  have huo : upOf X.F i = some u := by unfold upOf; rw [hi]; exact hiu
  have hdu : dnOf X.F (some u) = l1 ++ i :: l2 := by unfold dnOf; simp [hu, hl]
  have h0 : toH X.F i 0 = (xu.sl, xu.gn) := by unfold toH; show hd X.F (upOf X.F i) = _; rw [huo]; exact hd_some hu
  have hfu : ∃ xf : FN, X.F[f]? = some xf ∧ xf.live = true := by
    obtain ⟨xf, h1, h2, h3⟩ := h.fok.dn u xu hu f (by rw [hl]; exact List.mem_append_left _ (List.mem_of_getLast? hf))
    exact ⟨xf, h1, h3⟩
  obtain ⟨xf, hxf, hxfl⟩ := hfu
  rw [hd_some hxf] at hfe
  simp only [Prod.mk.injEq] at hfe
  obtain ⟨rfl, rfl⟩ := hfe
  obtain ⟨nbf, Pf, hmf, _, hfsl, _⟩ := h.rw.at_live hxf hxfl
  have h3 : toH X.F i 3 = (xf.sl, xf.gn) := by
    unfold toH; show hd X.F (prevOf (dnOf X.F (upOf X.F i)) i) = _
    rw [huo, hdu, prev_split hi1, hf]; exact hd_some hxf
  have h4 : toH X.F i 4 = (0, 0) := by
    unfold toH; show hd X.F (nextOf (dnOf X.F (upOf X.F i)) i) = _
    rw [huo, hdu, next_split hi1, hb]; rfl
  have HEND : Hid (unlinkH (toH X.F) i u l1.getLast? l2.head? (hd X.F l1.getLast?) (hd X.F l2.head?) = updH (updH (updH (updH (updH (toH X.F) f 4 (0, 0)) u 2 (xf.sl, xf.gn)) i 0 (0, 0)) i 3 (0, 0)) i 4 (0, 0)) := Lib.hid (by
    rw [hf, hb, hd_some hxf]; rfl)
  obtain ⟨nbc, Pc, hmc, _⟩ := h.rw.at_live hi hil
  obtain ⟨_, _, _, _, husl, _⟩ := h.rw.at_live hu hul
  have hnc := (h.rw.node i xi nbc Pc hi hil hmc).2.2.1
  have HMI := Lib.hid hmc
  have HI := Lib.hid (And.intro hi hil)
  have HC : Hid (∀ (W : World) L, TreeRw B Q W tb X L → W.heap[nbc]? = some (.cells (ncells Pc (L i) (i + 1)) 120 (0, 0))) := Lib.hid (fun W L hW => (hW.node i xi nbc Pc hi hil hmc).2.2.1)
  have HGc : Hid (∀ W, Below w.heap.size w W → Calls Tryd.prog 76 #[.pointer (some ⟨X.ab, 0, none⟩), .agg #[.int .u32 (xi.sl : Int), .int .u32 (xi.gn : Int)]] W fun e w' => e = .returned (.tuple #[.pointer (some ⟨nbc, 0, none⟩), .int .i64 0]) ∧ Below W.heap.size W w') := Lib.hid (fun W bb => (h.rw.below bb).get_live hi hil hmc)
  have HS1 : Hid (∀ (W : World) L, TreeRw B Q W tb X L → ∀ p q : Nat, Calls Tryd.prog 102 #[.pointer (some ⟨tb, 0, none⟩), .agg #[.int .u32 (xf.sl : Int), .int .u32 (xf.gn : Int)], .int .i64 4, .agg #[.int .u32 (p : Int), .int .u32 (q : Int)]] W fun e w' => e = .returned (.tuple #[]) ∧ TreeRw B Q w' tb X (updH L f 4 (p, q)) ∧ FrG [120] Q W w') := Lib.hid (fun W L hW p q => set_live hW hxf hxfl 4 (by decide) p q)
  have qf : hEq (xf.sl : Int) (xf.gn : Int) 0 0 = false := hEq_false (.inl (by omega))
  have HS2 : Hid (∀ (W : World) L, TreeRw B Q W tb X L → ∀ p q : Nat, Calls Tryd.prog 102 #[.pointer (some ⟨tb, 0, none⟩), .agg #[.int .u32 (xu.sl : Int), .int .u32 (xu.gn : Int)], .int .i64 2, .agg #[.int .u32 (p : Int), .int .u32 (q : Int)]] W fun e w' => e = .returned (.tuple #[]) ∧ TreeRw B Q w' tb X (updH L u 2 (p, q)) ∧ FrG [120] Q W w') := Lib.hid (fun W L hW p q => set_live hW hu hul 2 (by decide) p q)
  have qz : hEq 0 0 0 0 = true := hEq_true rfl rfl
  have qu : hEq (xu.sl : Int) (xu.gn : Int) 0 0 = false := hEq_false (.inl (by omega))
  have c0 := cell_blk h.rw.blk 0 rfl
  have ltb := lt_of_some h.rw.blk
  have lnc := lt_of_some hnc
  simp at c0
  have HLT := Lib.hid (And.intro h0 (And.intro h3 h4))
  clear h0 h3 h4 h hu hul hi hil hiu hl hf hb hnd hi1 huo hdu hmc hnc husl hxf hxfl hmf hfsl 
  generalize xu.sl = us at *
  generalize xu.gn = ug at *
  generalize xi.sl = si at *
  generalize xi.gn = gi at *
  generalize xf.sl = fs at *
  generalize xf.gn = fg at *
  obtain ⟨V, hV⟩ : ∃ V, V = w.alloc (.cells #[.int .u32 (si : Int), .int .u32 (gi : Int)] 31) := ⟨_, rfl⟩
  have bV : Below w.heap.size w V := by rw [hV]; exact (by repeat (first | exact Below.refl _ _ | assumption | refine Below.drew ?_ | refine below_drewN ?_ _ | refine Below.alloc ?_ (by simp <;> omega) _ | refine Below.setCell ?_ (by simp <;> omega) _ | (apply bl_trans; assumption; (simp <;> omega))))
  have hx : V.heap[w.heap.size]? = some (.cells #[.int .u32 (si : Int), .int .u32 (gi : Int)] 31 (0, 0)) := by rw [hV]; exact Go.heap_alloc_new w _
  have HX := Lib.hid (And.intro hx bV)
  have HSW : Hid (∀ W, Below V.heap.size V W → (W.cell? ⟨tb, 0, none⟩ = some (.pointer (some ⟨X.ab, 0, none⟩)) ∧ W.cell? ⟨w.heap.size, 0, none⟩ = some (.int .u32 (si : Int)) ∧ W.cell? ⟨w.heap.size, 1, none⟩ = some (.int .u32 (gi : Int))) ∧ Below w.heap.size w W) := Lib.hid (fun W bb => by
    have hx2 := (bb.block _ (lt_of_some HX.out.1)).trans HX.out.1
    exact ⟨⟨((HX.out.2.trans (bb.mono HX.out.2.size)).cell (p := ⟨tb, 0, none⟩) ltb).trans c0, cell_blk hx2 0 rfl, cell_blk hx2 1 rfl⟩, HX.out.2.trans (bb.mono HX.out.2.size)⟩)
  have HD0 : Hid (Below V.heap.size V V.drew) := Lib.hid (Below.refl _ _).drew
  have hV2 := hV
  clear hV hx bV
  go_enter Tryd.func73, Tryd.ntmps73
  go_wp2_with fail
  rw [← hV2]
  clear hV2
  go_region_held3 (fun W => (W.cell? ⟨tb, 0, none⟩ = some (.pointer (some ⟨X.ab, 0, none⟩)) ∧ W.cell? ⟨w.heap.size, 0, none⟩ = some (.int .u32 (si : Int)) ∧ W.cell? ⟨w.heap.size, 1, none⟩ = some (.int .u32 (gi : Int)))) (first | exact (HSW.out _ HD0.out).1 | exact (HSW.out _ HB1.out).1) (first | (go_at_call 76; refine (HGc.out _ (HSW.out _ HD0.out).2).mono ?_; rintro e w1 ⟨rfl, b1⟩; have HB1 := Lib.hid (HD0.out.trans (b1.mono HD0.out.size))))
  clear b1 HD0
  have HT1 := Lib.hid (HT.out.rw.below (HSW.out _ HB1.out).2)
  have m6 : w1.cell? ⟨nbc, 6, none⟩ = some (.int .u32 ((toH X.F i 0).1 : Int)) := cell_blk (HC.out w1 _ HT1.out) 6 rfl
  have m7 : w1.cell? ⟨nbc, 7, none⟩ = some (.int .u32 ((toH X.F i 0).2 : Int)) := cell_blk (HC.out w1 _ HT1.out) 7 rfl
  have m12 : w1.cell? ⟨nbc, 12, none⟩ = some (.int .u32 ((toH X.F i 3).1 : Int)) := cell_blk (HC.out w1 _ HT1.out) 12 rfl
  have m13 : w1.cell? ⟨nbc, 13, none⟩ = some (.int .u32 ((toH X.F i 3).2 : Int)) := cell_blk (HC.out w1 _ HT1.out) 13 rfl
  have m14 : w1.cell? ⟨nbc, 14, none⟩ = some (.int .u32 ((toH X.F i 4).1 : Int)) := cell_blk (HC.out w1 _ HT1.out) 14 rfl
  have m15 : w1.cell? ⟨nbc, 15, none⟩ = some (.int .u32 ((toH X.F i 4).2 : Int)) := cell_blk (HC.out w1 _ HT1.out) 15 rfl
  rw [HLT.out.1] at m6 m7
  rw [HLT.out.2.1] at m12 m13
  rw [HLT.out.2.2] at m14 m15
  simp at m6 m7 m12 m13 m14 m15
  have lnc1 : nbc < w1.heap.size := lt_of_some (HC.out w1 _ HT1.out)
  have lnc2 : nbc < w1.heap.size + 1 := by omega
  have lnc3 : nbc < w1.heap.size + 1 + 1 := by omega
  have lnc4 : nbc < w1.heap.size + 2 := by omega
  go_upto_region 6 with fail
  go_cut [7, 8, 9] from 31 to 45 (fun v7 v8 v9 wc => ∃ c7 c8 c9 : Nat, v7 = .pointer (some ⟨c7, 0, none⟩) ∧ v8 = .pointer (some ⟨c8, 0, none⟩) ∧ v9 = .pointer (some ⟨c9, 0, none⟩) ∧
    Hid (wc.heap[c7]? = some (.cells #[.int .u32 (us : Int), .int .u32 (ug : Int)] 31 (0, 0)) ∧ wc.heap[c8]? = some (.cells #[.int .u32 (fs : Int), .int .u32 (fg : Int)] 31 (0, 0)) ∧ wc.heap[c9]? = some (.cells #[.int .u32 0, .int .u32 0] 31 (0, 0)) ∧ Below w1.heap.size w1 wc))
  case first =>
    go_region
    all_goals go_wp2_with fail
    all_goals go_meet
    all_goals first
      | exact ⟨w1.heap.size, w1.heap.size + 1, w1.heap.size + 2, rfl, rfl, rfl, Lib.hid ⟨(alloc3_blk w1 _ _ _).1, (alloc3_blk w1 _ _ _).2.1, (alloc3_blk w1 _ _ _).2.2, (alloc3_below w1 _ _ _).drew⟩⟩
      | exact ⟨w1.heap.size, w1.heap.size + 2, w1.heap.size + 1, rfl, rfl, rfl, Lib.hid ⟨(alloc3_blk w1 _ _ _).1, (alloc3_blk w1 _ _ _).2.2, (alloc3_blk w1 _ _ _).2.1, (alloc3_below w1 _ _ _).drew⟩⟩
      | exact ⟨w1.heap.size + 1, w1.heap.size, w1.heap.size + 2, rfl, rfl, rfl, Lib.hid ⟨(alloc3_blk w1 _ _ _).2.1, (alloc3_blk w1 _ _ _).1, (alloc3_blk w1 _ _ _).2.2, (alloc3_below w1 _ _ _).drew⟩⟩
      | exact ⟨w1.heap.size + 1, w1.heap.size + 2, w1.heap.size, rfl, rfl, rfl, Lib.hid ⟨(alloc3_blk w1 _ _ _).2.1, (alloc3_blk w1 _ _ _).2.2, (alloc3_blk w1 _ _ _).1, (alloc3_below w1 _ _ _).drew⟩⟩
      | exact ⟨w1.heap.size + 2, w1.heap.size, w1.heap.size + 1, rfl, rfl, rfl, Lib.hid ⟨(alloc3_blk w1 _ _ _).2.2, (alloc3_blk w1 _ _ _).1, (alloc3_blk w1 _ _ _).2.1, (alloc3_below w1 _ _ _).drew⟩⟩
      | exact ⟨w1.heap.size + 2, w1.heap.size + 1, w1.heap.size, rfl, rfl, rfl, Lib.hid ⟨(alloc3_blk w1 _ _ _).2.2, (alloc3_blk w1 _ _ _).2.1, (alloc3_blk w1 _ _ _).1, (alloc3_below w1 _ _ _).drew⟩⟩
  case rest =>
    obtain ⟨c7, c8, c9, rfl, rfl, rfl, hw⟩ := hcut
    have HBX : Hid (∀ W, FrG [120] Q wc W → W.heap[c7]? = some (.cells #[.int .u32 (us : Int), .int .u32 (ug : Int)] 31 (0, 0)) ∧ W.heap[c8]? = some (.cells #[.int .u32 (fs : Int), .int .u32 (fg : Int)] 31 (0, 0)) ∧ W.heap[c9]? = some (.cells #[.int .u32 0, .int .u32 0] 31 (0, 0))) := Lib.hid (fun W f => ⟨f.blk hw.out.1 (by decide), f.blk hw.out.2.1 (by decide), f.blk hw.out.2.2.1 (by decide)⟩)
    have HTc : Hid (TreeRw B Q wc tb X (toH X.F)) := Lib.hid (HT1.out.below hw.out.2.2.2)
    have HLc : Hid (FrG [120] Q w wc) := Lib.hid (FrG.of_below ((HSW.out _ HB1.out).2.trans (hw.out.2.2.2.mono (HSW.out _ HB1.out).2.size)))
    clear m6 m7 m12 m13 m14 m15 lnc1 lnc2 lnc3 lnc4 hw HT1 HB1 HSW HX
    have x0 := cell_blk (HBX.out wc (FrG.refl _ _ _)).1 0 rfl
    have x1 := cell_blk (HBX.out wc (FrG.refl _ _ _)).1 1 rfl
    have x2 := cell_blk (HBX.out wc (FrG.refl _ _ _)).2.1 0 rfl
    have x3 := cell_blk (HBX.out wc (FrG.refl _ _ _)).2.1 1 rfl
    have x4 := cell_blk (HBX.out wc (FrG.refl _ _ _)).2.2 0 rfl
    have x5 := cell_blk (HBX.out wc (FrG.refl _ _ _)).2.2 1 rfl
    simp at x0 x1 x2 x3 x4 x5
    go_wp2_with fail
    refine (HS1.out wc _ HTc.out 0 0).mono ?_
    rintro e w2 ⟨rfl, h2, f2⟩
    have H2 := Lib.hid (And.intro h2 f2)
    clear h2 f2 x0 x1 x2 x3 x4 x5
    have x0 := cell_blk (HBX.out w2 H2.out.2).1 0 rfl
    have x1 := cell_blk (HBX.out w2 H2.out.2).1 1 rfl
    have x2 := cell_blk (HBX.out w2 H2.out.2).2.1 0 rfl
    have x3 := cell_blk (HBX.out w2 H2.out.2).2.1 1 rfl
    have x4 := cell_blk (HBX.out w2 H2.out.2).2.2 0 rfl
    have x5 := cell_blk (HBX.out w2 H2.out.2).2.2 1 rfl
    simp at x0 x1 x2 x3 x4 x5
    go_wp2_with fail
    refine (HS2.out w2 _ H2.out.1 fs fg).mono ?_
    rintro e w3 ⟨rfl, h3, f3⟩
    have H3 := Lib.hid (And.intro h3 f3)
    clear h3 f3 x0 x1 x2 x3 x4 x5
    have m6 : w3.cell? ⟨nbc, 6, none⟩ = some (.int .u32 ((updH (updH (toH X.F) f 4 (0, 0)) u 2 (fs, fg)) i 0).1) := cell_blk (HC.out w3 _ H3.out.1) 6 rfl
    have r6 := free_blk (HC.out w3 _ H3.out.1) 6
    have m7 : w3.cell? ⟨nbc, 7, none⟩ = some (.int .u32 ((updH (updH (toH X.F) f 4 (0, 0)) u 2 (fs, fg)) i 0).2) := cell_blk (HC.out w3 _ H3.out.1) 7 rfl
    have r7 := free_blk (HC.out w3 _ H3.out.1) 7
    have m12 : w3.cell? ⟨nbc, 12, none⟩ = some (.int .u32 ((updH (updH (toH X.F) f 4 (0, 0)) u 2 (fs, fg)) i 3).1) := cell_blk (HC.out w3 _ H3.out.1) 12 rfl
    have r12 := free_blk (HC.out w3 _ H3.out.1) 12
    have m13 : w3.cell? ⟨nbc, 13, none⟩ = some (.int .u32 ((updH (updH (toH X.F) f 4 (0, 0)) u 2 (fs, fg)) i 3).2) := cell_blk (HC.out w3 _ H3.out.1) 13 rfl
    have r13 := free_blk (HC.out w3 _ H3.out.1) 13
    have m14 : w3.cell? ⟨nbc, 14, none⟩ = some (.int .u32 ((updH (updH (toH X.F) f 4 (0, 0)) u 2 (fs, fg)) i 4).1) := cell_blk (HC.out w3 _ H3.out.1) 14 rfl
    have r14 := free_blk (HC.out w3 _ H3.out.1) 14
    have m15 : w3.cell? ⟨nbc, 15, none⟩ = some (.int .u32 ((updH (updH (toH X.F) f 4 (0, 0)) u 2 (fs, fg)) i 4).2) := cell_blk (HC.out w3 _ H3.out.1) 15 rfl
    have r15 := free_blk (HC.out w3 _ H3.out.1) 15
    go_upto_region 13 with fail
    go_region
    go_wp2_with fail
    go_ret
    have h4 := H3.out.1.set3 HI.out HMI.out 0 0 0 0 0 0
    refine ⟨rfl, HFIN.out _ (by rw [HEND.out]; exact h4.1.below (Below.refl _ _).drew), ((HLc.out.trans H2.out.2 (fun _ h => .inl h)).trans H3.out.2 (fun _ h => .inl h)).trans h4.2.drew (fun _ h => .inl h)⟩
set_option maxHeartbeats 8000000 in
theorem unlink_11 (h : TreeAt B Q w tb X) {u i : Nat} {xu xi : FN} (hu : X.F[u]? = some xu) (hul : xu.live = true) (hi : X.F[i]? = some xi) (hil : xi.live = true) (hiu : xi.up = some u) {l1 l2 : List Nat} (hl : xu.down = l1 ++ i :: l2) {f fs fg : Nat} (hf : l1.getLast? = some f) (hfe : hd X.F (some f) = (fs, fg)) {b bs bg : Nat} (hb : l2.head? = some b) (hbe : hd X.F (some b) = (bs, bg)) :
    Calls Tryd.prog 73 #[.pointer (some ⟨tb, 0, none⟩), .agg #[.int .u32 (xi.sl : Int), .int .u32 (xi.gn : Int)]] w fun e w' =>
      e = .returned (.int .i64 0) ∧ TreeAt B Q w' tb { X with F := cutF X.F i u } ∧ FrG [120] Q w w' := by
  have HT := Lib.hid h
  have HFIN : Hid (∀ W, TreeRw B Q W tb X (unlinkH (toH X.F) i u l1.getLast? l2.head? (hd X.F l1.getLast?) (hd X.F l2.head?)) → TreeAt B Q W tb { X with F := cutF X.F i u }) := Lib.hid (fun W hW => hW.unlinked h.fok hu hi hiu hl)
  have hnd := h.fok.nd u xu hu
  rw [hl] at hnd
  have hi1 : i ∉ l1 := fun hm => (List.nodup_append.1 hnd).2.2 i hm i (by simp) rfl
  have huo : upOf X.F i = some u := by unfold upOf; rw [hi]; exact hiu
  have hdu : dnOf X.F (some u) = l1 ++ i :: l2 := by unfold dnOf; simp [hu, hl]
  have h0 : toH X.F i 0 = (xu.sl, xu.gn) := by unfold toH; show hd X.F (upOf X.F i) = _; rw [huo]; exact hd_some hu
  have hfu : ∃ xf : FN, X.F[f]? = some xf ∧ xf.live = true := by
    obtain ⟨xf, h1, h2, h3⟩ := h.fok.dn u xu hu f (by rw [hl]; exact List.mem_append_left _ (List.mem_of_getLast? hf))
    exact ⟨xf, h1, h3⟩
  obtain ⟨xf, hxf, hxfl⟩ := hfu
  rw [hd_some hxf] at hfe
  simp only [Prod.mk.injEq] at hfe
  obtain ⟨rfl, rfl⟩ := hfe
  obtain ⟨nbf, Pf, hmf, _, hfsl, _⟩ := h.rw.at_live hxf hxfl
  have hbu : ∃ xb : FN, X.F[b]? = some xb ∧ xb.live = true := by
    obtain ⟨xb, h1, h2, h3⟩ := h.fok.dn u xu hu b (by rw [hl]; exact List.mem_append_right _ (List.mem_cons_of_mem _ (List.mem_of_head? hb)))
    exact ⟨xb, h1, h3⟩
  obtain ⟨xb, hxb, hxbl⟩ := hbu
  rw [hd_some hxb] at hbe
  simp only [Prod.mk.injEq] at hbe
  obtain ⟨rfl, rfl⟩ := hbe
  obtain ⟨nbb, Pb, hmb, _, hbsl, _⟩ := h.rw.at_live hxb hxbl
  have h3 : toH X.F i 3 = (xf.sl, xf.gn) := by
    unfold toH; show hd X.F (prevOf (dnOf X.F (upOf X.F i)) i) = _
    rw [huo, hdu, prev_split hi1, hf]; exact hd_some hxf
  have h4 : toH X.F i 4 = (xb.sl, xb.gn) := by
    unfold toH; show hd X.F (nextOf (dnOf X.F (upOf X.F i)) i) = _
    rw [huo, hdu, next_split hi1, hb]; exact hd_some hxb
  have HEND : Hid (unlinkH (toH X.F) i u l1.getLast? l2.head? (hd X.F l1.getLast?) (hd X.F l2.head?) = updH (updH (updH (updH (updH (toH X.F) f 4 (xb.sl, xb.gn)) b 3 (xf.sl, xf.gn)) i 0 (0, 0)) i 3 (0, 0)) i 4 (0, 0)) := Lib.hid (by
    rw [hf, hb, hd_some hxf, hd_some hxb]; rfl)
  obtain ⟨nbc, Pc, hmc, _⟩ := h.rw.at_live hi hil
  obtain ⟨_, _, _, _, husl, _⟩ := h.rw.at_live hu hul
  have hnc := (h.rw.node i xi nbc Pc hi hil hmc).2.2.1
  have HMI := Lib.hid hmc
  have HI := Lib.hid (And.intro hi hil)
  have HC : Hid (∀ (W : World) L, TreeRw B Q W tb X L → W.heap[nbc]? = some (.cells (ncells Pc (L i) (i + 1)) 120 (0, 0))) := Lib.hid (fun W L hW => (hW.node i xi nbc Pc hi hil hmc).2.2.1)
  have HGc : Hid (∀ W, Below w.heap.size w W → Calls Tryd.prog 76 #[.pointer (some ⟨X.ab, 0, none⟩), .agg #[.int .u32 (xi.sl : Int), .int .u32 (xi.gn : Int)]] W fun e w' => e = .returned (.tuple #[.pointer (some ⟨nbc, 0, none⟩), .int .i64 0]) ∧ Below W.heap.size W w') := Lib.hid (fun W bb => (h.rw.below bb).get_live hi hil hmc)
  have HS1 : Hid (∀ (W : World) L, TreeRw B Q W tb X L → ∀ p q : Nat, Calls Tryd.prog 102 #[.pointer (some ⟨tb, 0, none⟩), .agg #[.int .u32 (xf.sl : Int), .int .u32 (xf.gn : Int)], .int .i64 4, .agg #[.int .u32 (p : Int), .int .u32 (q : Int)]] W fun e w' => e = .returned (.tuple #[]) ∧ TreeRw B Q w' tb X (updH L f 4 (p, q)) ∧ FrG [120] Q W w') := Lib.hid (fun W L hW p q => set_live hW hxf hxfl 4 (by decide) p q)
  have qf : hEq (xf.sl : Int) (xf.gn : Int) 0 0 = false := hEq_false (.inl (by omega))
  have HS2 : Hid (∀ (W : World) L, TreeRw B Q W tb X L → ∀ p q : Nat, Calls Tryd.prog 102 #[.pointer (some ⟨tb, 0, none⟩), .agg #[.int .u32 (xb.sl : Int), .int .u32 (xb.gn : Int)], .int .i64 3, .agg #[.int .u32 (p : Int), .int .u32 (q : Int)]] W fun e w' => e = .returned (.tuple #[]) ∧ TreeRw B Q w' tb X (updH L b 3 (p, q)) ∧ FrG [120] Q W w') := Lib.hid (fun W L hW p q => set_live hW hxb hxbl 3 (by decide) p q)
  have qb : hEq (xb.sl : Int) (xb.gn : Int) 0 0 = false := hEq_false (.inl (by omega))
  have qz : hEq 0 0 0 0 = true := hEq_true rfl rfl
  have qu : hEq (xu.sl : Int) (xu.gn : Int) 0 0 = false := hEq_false (.inl (by omega))
  have c0 := cell_blk h.rw.blk 0 rfl
  have ltb := lt_of_some h.rw.blk
  have lnc := lt_of_some hnc
  simp at c0
  have HLT := Lib.hid (And.intro h0 (And.intro h3 h4))
  clear h0 h3 h4 h hu hul hi hil hiu hl hf hb hnd hi1 huo hdu hmc hnc husl hxf hxfl hmf hfsl hxb hxbl hmb hbsl
  generalize xu.sl = us at *
  generalize xu.gn = ug at *
  generalize xi.sl = si at *
  generalize xi.gn = gi at *
  generalize xb.sl = bs at *
  generalize xb.gn = bg at *
  generalize xf.sl = fs at *
  generalize xf.gn = fg at *
  obtain ⟨V, hV⟩ : ∃ V, V = w.alloc (.cells #[.int .u32 (si : Int), .int .u32 (gi : Int)] 31) := ⟨_, rfl⟩
  have bV : Below w.heap.size w V := by rw [hV]; exact (by repeat (first | exact Below.refl _ _ | assumption | refine Below.drew ?_ | refine below_drewN ?_ _ | refine Below.alloc ?_ (by simp <;> omega) _ | refine Below.setCell ?_ (by simp <;> omega) _ | (apply bl_trans; assumption; (simp <;> omega))))
  have hx : V.heap[w.heap.size]? = some (.cells #[.int .u32 (si : Int), .int .u32 (gi : Int)] 31 (0, 0)) := by rw [hV]; exact Go.heap_alloc_new w _
  have HX := Lib.hid (And.intro hx bV)
  have HSW : Hid (∀ W, Below V.heap.size V W → (W.cell? ⟨tb, 0, none⟩ = some (.pointer (some ⟨X.ab, 0, none⟩)) ∧ W.cell? ⟨w.heap.size, 0, none⟩ = some (.int .u32 (si : Int)) ∧ W.cell? ⟨w.heap.size, 1, none⟩ = some (.int .u32 (gi : Int))) ∧ Below w.heap.size w W) := Lib.hid (fun W bb => by
    have hx2 := (bb.block _ (lt_of_some HX.out.1)).trans HX.out.1
    exact ⟨⟨((HX.out.2.trans (bb.mono HX.out.2.size)).cell (p := ⟨tb, 0, none⟩) ltb).trans c0, cell_blk hx2 0 rfl, cell_blk hx2 1 rfl⟩, HX.out.2.trans (bb.mono HX.out.2.size)⟩)
  have HD0 : Hid (Below V.heap.size V V.drew) := Lib.hid (Below.refl _ _).drew
  have hV2 := hV
  clear hV hx bV
  go_enter Tryd.func73, Tryd.ntmps73
  go_wp2_with fail
  rw [← hV2]
  clear hV2
  go_region_held3 (fun W => (W.cell? ⟨tb, 0, none⟩ = some (.pointer (some ⟨X.ab, 0, none⟩)) ∧ W.cell? ⟨w.heap.size, 0, none⟩ = some (.int .u32 (si : Int)) ∧ W.cell? ⟨w.heap.size, 1, none⟩ = some (.int .u32 (gi : Int)))) (first | exact (HSW.out _ HD0.out).1 | exact (HSW.out _ HB1.out).1) (first | (go_at_call 76; refine (HGc.out _ (HSW.out _ HD0.out).2).mono ?_; rintro e w1 ⟨rfl, b1⟩; have HB1 := Lib.hid (HD0.out.trans (b1.mono HD0.out.size))))
  clear b1 HD0
  have HT1 := Lib.hid (HT.out.rw.below (HSW.out _ HB1.out).2)
  have m6 : w1.cell? ⟨nbc, 6, none⟩ = some (.int .u32 ((toH X.F i 0).1 : Int)) := cell_blk (HC.out w1 _ HT1.out) 6 rfl
  have m7 : w1.cell? ⟨nbc, 7, none⟩ = some (.int .u32 ((toH X.F i 0).2 : Int)) := cell_blk (HC.out w1 _ HT1.out) 7 rfl
  have m12 : w1.cell? ⟨nbc, 12, none⟩ = some (.int .u32 ((toH X.F i 3).1 : Int)) := cell_blk (HC.out w1 _ HT1.out) 12 rfl
  have m13 : w1.cell? ⟨nbc, 13, none⟩ = some (.int .u32 ((toH X.F i 3).2 : Int)) := cell_blk (HC.out w1 _ HT1.out) 13 rfl
  have m14 : w1.cell? ⟨nbc, 14, none⟩ = some (.int .u32 ((toH X.F i 4).1 : Int)) := cell_blk (HC.out w1 _ HT1.out) 14 rfl
  have m15 : w1.cell? ⟨nbc, 15, none⟩ = some (.int .u32 ((toH X.F i 4).2 : Int)) := cell_blk (HC.out w1 _ HT1.out) 15 rfl
  rw [HLT.out.1] at m6 m7
  rw [HLT.out.2.1] at m12 m13
  rw [HLT.out.2.2] at m14 m15
  simp at m6 m7 m12 m13 m14 m15
  have lnc1 : nbc < w1.heap.size := lt_of_some (HC.out w1 _ HT1.out)
  have lnc2 : nbc < w1.heap.size + 1 := by omega
  have lnc3 : nbc < w1.heap.size + 1 + 1 := by omega
  have lnc4 : nbc < w1.heap.size + 2 := by omega
  go_upto_region 6 with fail
  go_cut [7, 8, 9] from 31 to 45 (fun v7 v8 v9 wc => ∃ c7 c8 c9 : Nat, v7 = .pointer (some ⟨c7, 0, none⟩) ∧ v8 = .pointer (some ⟨c8, 0, none⟩) ∧ v9 = .pointer (some ⟨c9, 0, none⟩) ∧
    Hid (wc.heap[c7]? = some (.cells #[.int .u32 (us : Int), .int .u32 (ug : Int)] 31 (0, 0)) ∧ wc.heap[c8]? = some (.cells #[.int .u32 (fs : Int), .int .u32 (fg : Int)] 31 (0, 0)) ∧ wc.heap[c9]? = some (.cells #[.int .u32 (bs : Int), .int .u32 (bg : Int)] 31 (0, 0)) ∧ Below w1.heap.size w1 wc))
  case first =>
    go_region
    all_goals go_wp2_with fail
    all_goals go_meet
    all_goals first
      | exact ⟨w1.heap.size, w1.heap.size + 1, w1.heap.size + 2, rfl, rfl, rfl, Lib.hid ⟨(alloc3_blk w1 _ _ _).1, (alloc3_blk w1 _ _ _).2.1, (alloc3_blk w1 _ _ _).2.2, (alloc3_below w1 _ _ _).drew⟩⟩
      | exact ⟨w1.heap.size, w1.heap.size + 2, w1.heap.size + 1, rfl, rfl, rfl, Lib.hid ⟨(alloc3_blk w1 _ _ _).1, (alloc3_blk w1 _ _ _).2.2, (alloc3_blk w1 _ _ _).2.1, (alloc3_below w1 _ _ _).drew⟩⟩
      | exact ⟨w1.heap.size + 1, w1.heap.size, w1.heap.size + 2, rfl, rfl, rfl, Lib.hid ⟨(alloc3_blk w1 _ _ _).2.1, (alloc3_blk w1 _ _ _).1, (alloc3_blk w1 _ _ _).2.2, (alloc3_below w1 _ _ _).drew⟩⟩
      | exact ⟨w1.heap.size + 1, w1.heap.size + 2, w1.heap.size, rfl, rfl, rfl, Lib.hid ⟨(alloc3_blk w1 _ _ _).2.1, (alloc3_blk w1 _ _ _).2.2, (alloc3_blk w1 _ _ _).1, (alloc3_below w1 _ _ _).drew⟩⟩
      | exact ⟨w1.heap.size + 2, w1.heap.size, w1.heap.size + 1, rfl, rfl, rfl, Lib.hid ⟨(alloc3_blk w1 _ _ _).2.2, (alloc3_blk w1 _ _ _).1, (alloc3_blk w1 _ _ _).2.1, (alloc3_below w1 _ _ _).drew⟩⟩
      | exact ⟨w1.heap.size + 2, w1.heap.size + 1, w1.heap.size, rfl, rfl, rfl, Lib.hid ⟨(alloc3_blk w1 _ _ _).2.2, (alloc3_blk w1 _ _ _).2.1, (alloc3_blk w1 _ _ _).1, (alloc3_below w1 _ _ _).drew⟩⟩
  case rest =>
    obtain ⟨c7, c8, c9, rfl, rfl, rfl, hw⟩ := hcut
    have HBX : Hid (∀ W, FrG [120] Q wc W → W.heap[c7]? = some (.cells #[.int .u32 (us : Int), .int .u32 (ug : Int)] 31 (0, 0)) ∧ W.heap[c8]? = some (.cells #[.int .u32 (fs : Int), .int .u32 (fg : Int)] 31 (0, 0)) ∧ W.heap[c9]? = some (.cells #[.int .u32 (bs : Int), .int .u32 (bg : Int)] 31 (0, 0))) := Lib.hid (fun W f => ⟨f.blk hw.out.1 (by decide), f.blk hw.out.2.1 (by decide), f.blk hw.out.2.2.1 (by decide)⟩)
    have HTc : Hid (TreeRw B Q wc tb X (toH X.F)) := Lib.hid (HT1.out.below hw.out.2.2.2)
    have HLc : Hid (FrG [120] Q w wc) := Lib.hid (FrG.of_below ((HSW.out _ HB1.out).2.trans (hw.out.2.2.2.mono (HSW.out _ HB1.out).2.size)))
    clear m6 m7 m12 m13 m14 m15 lnc1 lnc2 lnc3 lnc4 hw HT1 HB1 HSW HX
    have x0 := cell_blk (HBX.out wc (FrG.refl _ _ _)).1 0 rfl
    have x1 := cell_blk (HBX.out wc (FrG.refl _ _ _)).1 1 rfl
    have x2 := cell_blk (HBX.out wc (FrG.refl _ _ _)).2.1 0 rfl
    have x3 := cell_blk (HBX.out wc (FrG.refl _ _ _)).2.1 1 rfl
    have x4 := cell_blk (HBX.out wc (FrG.refl _ _ _)).2.2 0 rfl
    have x5 := cell_blk (HBX.out wc (FrG.refl _ _ _)).2.2 1 rfl
    simp at x0 x1 x2 x3 x4 x5
    go_wp2_with fail
    refine (HS1.out wc _ HTc.out bs bg).mono ?_
    rintro e w2 ⟨rfl, h2, f2⟩
    have H2 := Lib.hid (And.intro h2 f2)
    clear h2 f2 x0 x1 x2 x3 x4 x5
    have x0 := cell_blk (HBX.out w2 H2.out.2).1 0 rfl
    have x1 := cell_blk (HBX.out w2 H2.out.2).1 1 rfl
    have x2 := cell_blk (HBX.out w2 H2.out.2).2.1 0 rfl
    have x3 := cell_blk (HBX.out w2 H2.out.2).2.1 1 rfl
    have x4 := cell_blk (HBX.out w2 H2.out.2).2.2 0 rfl
    have x5 := cell_blk (HBX.out w2 H2.out.2).2.2 1 rfl
    simp at x0 x1 x2 x3 x4 x5
    go_wp2_with fail
    refine (HS2.out w2 _ H2.out.1 fs fg).mono ?_
    rintro e w3 ⟨rfl, h3, f3⟩
    have H3 := Lib.hid (And.intro h3 f3)
    clear h3 f3 x0 x1 x2 x3 x4 x5
    have m6 : w3.cell? ⟨nbc, 6, none⟩ = some (.int .u32 ((updH (updH (toH X.F) f 4 (bs, bg)) b 3 (fs, fg)) i 0).1) := cell_blk (HC.out w3 _ H3.out.1) 6 rfl
    have r6 := free_blk (HC.out w3 _ H3.out.1) 6
    have m7 : w3.cell? ⟨nbc, 7, none⟩ = some (.int .u32 ((updH (updH (toH X.F) f 4 (bs, bg)) b 3 (fs, fg)) i 0).2) := cell_blk (HC.out w3 _ H3.out.1) 7 rfl
    have r7 := free_blk (HC.out w3 _ H3.out.1) 7
    have m12 : w3.cell? ⟨nbc, 12, none⟩ = some (.int .u32 ((updH (updH (toH X.F) f 4 (bs, bg)) b 3 (fs, fg)) i 3).1) := cell_blk (HC.out w3 _ H3.out.1) 12 rfl
    have r12 := free_blk (HC.out w3 _ H3.out.1) 12
    have m13 : w3.cell? ⟨nbc, 13, none⟩ = some (.int .u32 ((updH (updH (toH X.F) f 4 (bs, bg)) b 3 (fs, fg)) i 3).2) := cell_blk (HC.out w3 _ H3.out.1) 13 rfl
    have r13 := free_blk (HC.out w3 _ H3.out.1) 13
    have m14 : w3.cell? ⟨nbc, 14, none⟩ = some (.int .u32 ((updH (updH (toH X.F) f 4 (bs, bg)) b 3 (fs, fg)) i 4).1) := cell_blk (HC.out w3 _ H3.out.1) 14 rfl
    have r14 := free_blk (HC.out w3 _ H3.out.1) 14
    have m15 : w3.cell? ⟨nbc, 15, none⟩ = some (.int .u32 ((updH (updH (toH X.F) f 4 (bs, bg)) b 3 (fs, fg)) i 4).2) := cell_blk (HC.out w3 _ H3.out.1) 15 rfl
    have r15 := free_blk (HC.out w3 _ H3.out.1) 15
    go_upto_region 13 with fail
    go_region
    go_wp2_with fail
    go_ret
    have h4 := H3.out.1.set3 HI.out HMI.out 0 0 0 0 0 0
    refine ⟨rfl, HFIN.out _ (by rw [HEND.out]; exact h4.1.below (Below.refl _ _).drew), ((HLc.out.trans H2.out.2 (fun _ h => .inl h)).trans H3.out.2 (fun _ h => .inl h)).trans h4.2.drew (fun _ h => .inl h)⟩
theorem unlink_ok (h : TreeAt B Q w tb X) {u i : Nat} {xu xi : FN} (hu : X.F[u]? = some xu) (hul : xu.live = true) (hi : X.F[i]? = some xi) (hil : xi.live = true) (hiu : xi.up = some u) {l1 l2 : List Nat} (hl : xu.down = l1 ++ i :: l2) :
    Calls Tryd.prog 73 #[.pointer (some ⟨tb, 0, none⟩), .agg #[.int .u32 (xi.sl : Int), .int .u32 (xi.gn : Int)]] w fun e w' =>
      e = .returned (.int .i64 0) ∧ TreeAt B Q w' tb { X with F := cutF X.F i u } ∧ FrG [120] Q w w' := by
  cases hf : l1.getLast? with
  | none =>
    have h1 : l1 = [] := List.getLast?_eq_none_iff.1 hf
    cases hh : l2.head? with
    | none => exact unlink_00 h hu hul hi hil hiu hl h1 (List.head?_eq_none_iff.1 hh)
    | some b => exact unlink_01 h hu hul hi hil hiu hl h1 hh rfl
  | some f =>
    cases hh : l2.head? with
    | none => exact unlink_10 h hu hul hi hil hiu hl hf rfl (List.head?_eq_none_iff.1 hh)
    | some b => exact unlink_11 h hu hul hi hil hiu hl hf rfl hh rfl
end
end Go.Proofs.YtelhnaphkbpakaaDoor
