/- Part 39 of the proof of TpP: lemmas. -/
import Derived.Test.YtelhnaphkbpakaaDoorMp38
namespace Go.Proofs.YtelhnaphkbpakaaDoor
open Go.RowKit
set_option linter.unusedVariables false
set_option maxRecDepth 100000
def posF (F : For) (a b ra rb : Nat) (ca cb : List Nat) : Int :=
  if a = b then 0 else if ra ≠ rb then (if b < a then 35 else 37) else if b ∈ ca then 10 else if a ∈ cb then 20 else if 0 < cmpP (preD F ra) a b then 2 else 4
section
variable {B : Nat} {Q : Nat → Prop} {w w' : World} {tb : Nat} {X : TX}
set_option maxHeartbeats 8000000 in
theorem positionT_calls (h : TreeAt B Q w tb X) (hz : NoneAt w) {ka kb ra rb : Nat} {xa xb : FN} (ha : X.F[ka]? = some xa) (hal : xa.live = true) (hb : X.F[kb]? = some xb) (hbl : xb.live = true) {ca cb : List Nat} (hca : Chain X.F ka (ka :: ca)) (hcb : Chain X.F kb (kb :: cb)) (hra : (ka :: ca).getLast? = some ra) (hrb : (kb :: cb).getLast? = some rb) :
    Calls Tryd.prog 13 #[.pointer (some ⟨tb, 0, none⟩), .agg #[.int .u32 (xa.sl : Int), .int .u32 (xa.gn : Int)], .agg #[.int .u32 (xb.sl : Int), .int .u32 (xb.gn : Int)]] w fun e w' => e = .returned (.tuple #[.int .i64 (posF X.F ka kb ra rb ca cb), .int .i64 0]) ∧ Below w.heap.size w w' := by
  obtain ⟨rp, hrp⟩ : ∃ r, r = posF X.F ka kb ra rb ca cb := ⟨_, rfl⟩
  rw [← hrp]
  obtain ⟨rc, hrc⟩ : ∃ r : Int, r = if ra = rb then cmpP (preD X.F ra) ka kb else 0 := ⟨_, rfl⟩
  obtain ⟨ro, hro⟩ : ∃ r : Bool, r = decide (ra = rb) := ⟨_, rfl⟩
  have HCM : Hid (∀ W, Below w.heap.size w W → Calls Tryd.prog 12 #[.pointer (some ⟨tb, 0, none⟩), .agg #[.int .u32 (xa.sl : Int), .int .u32 (xa.gn : Int)], .agg #[.int .u32 (xb.sl : Int), .int .u32 (xb.gn : Int)]] W fun e w' => e = .returned (.tuple #[.int .i64 rc, .bool ro, .int .i64 0]) ∧ Below W.heap.size W w') := Lib.hid (fun W b => compareT_calls (h.below b) (hz.below b) ha hal hb hbl hca hcb hra hrb ⟨fun e => ⟨by rw [hrc, if_neg e], by rw [hro]; exact decide_eq_false e⟩, fun e => ⟨by rw [hrc, if_pos e], by rw [hro]; exact decide_eq_true e⟩⟩)
  have HBA : Hid (∀ W, Below w.heap.size w W → Calls Tryd.prog 43 #[.pointer (some ⟨tb, 0, none⟩), .agg #[.int .u32 (xa.sl : Int), .int .u32 (xa.gn : Int)]] W fun e w' => e = .returned (.tuple #[.int .u64 ((ka + 1 : Nat) : Int), .int .i64 0]) ∧ Below W.heap.size W w') := Lib.hid (fun W b => born_live (h.rw.below b) ha hal)
  have HBB : Hid (∀ W, Below w.heap.size w W → Calls Tryd.prog 43 #[.pointer (some ⟨tb, 0, none⟩), .agg #[.int .u32 (xb.sl : Int), .int .u32 (xb.gn : Int)]] W fun e w' => e = .returned (.tuple #[.int .u64 ((kb + 1 : Nat) : Int), .int .i64 0]) ∧ Below W.heap.size W w') := Lib.hid (fun W b => born_live (h.rw.below b) hb hbl)
  have HH1 : Hid (∀ W, Below w.heap.size w W → Calls Tryd.prog 44 #[.pointer (some ⟨tb, 0, none⟩), .agg #[.int .u32 (xb.sl : Int), .int .u32 (xb.gn : Int)], .agg #[.int .u32 (xa.sl : Int), .int .u32 (xa.gn : Int)]] W fun e w' => e = .returned (.bool (decide (kb ∈ ca))) ∧ Below W.heap.size W w') := Lib.hid (fun W b => hasT_calls (h.below b) (hz.below b) hb hbl ha hal hca)
  have HH2 : Hid (∀ W, Below w.heap.size w W → Calls Tryd.prog 44 #[.pointer (some ⟨tb, 0, none⟩), .agg #[.int .u32 (xa.sl : Int), .int .u32 (xa.gn : Int)], .agg #[.int .u32 (xb.sl : Int), .int .u32 (xb.gn : Int)]] W fun e w' => e = .returned (.bool (decide (ka ∈ cb))) ∧ Below W.heap.size W w') := Lib.hid (fun W b => hasT_calls (h.below b) (hz.below b) ha hal hb hbl hcb)
  have hE := h.rw.hd_inj ⟨xa, ha, hal⟩ ⟨xb, hb, hbl⟩
  rw [hd_some ha, hd_some hb] at hE
  simp only at hE
  have HP := Lib.hid hrp
  have HC := Lib.hid (And.intro hrc hro)
  obtain ⟨i, hi⟩ : ∃ i, i = ka + 1 := ⟨_, rfl⟩
  obtain ⟨j, hj⟩ : ∃ j, j = kb + 1 := ⟨_, rfl⟩
  rw [← hi] at HBA
  rw [← hj] at HBB
  have HIJ := Lib.hid (And.intro hi hj)
  have HE : Hid (hEq (xa.sl : Int) (xa.gn : Int) (xb.sl : Int) (xb.gn : Int) = decide (ka = kb)) := Lib.hid hE
  clear h hz ha hal hb hbl hca hcb hra hrb hrp hrc hro hE hi hj
  generalize xa.sl = sa at *
  generalize xa.gn = ga at *
  generalize xb.sl = sb at *
  generalize xb.gn = gb at *
  obtain ⟨V, hV⟩ : ∃ V, V = (w.alloc (.cells #[.int .u32 (sa : Int), .int .u32 (ga : Int)] 31)).alloc (.cells #[.int .u32 (sb : Int), .int .u32 (gb : Int)] 31) := ⟨_, rfl⟩
  have bV : Below w.heap.size w V := by rw [hV]; exact (by repeat (first | exact Below.refl _ _ | assumption | refine Below.drew ?_ | refine below_drewN ?_ _ | refine Below.alloc ?_ (by simp <;> omega) _ | refine Below.setCell ?_ (by simp <;> omega) _ | (apply bl_trans; assumption; (simp <;> omega))))
  have hx : V.heap[w.heap.size + 1]? = some (.cells #[.int .u32 (sb : Int), .int .u32 (gb : Int)] 31 (0, 0)) := by rw [hV]; exact alloc2_blk w _ _
  have hy : V.heap[w.heap.size]? = some (.cells #[.int .u32 (sa : Int), .int .u32 (ga : Int)] 31 (0, 0)) := by rw [hV]; exact alloc_blk (Go.heap_alloc_new w _) _
  have HX := Lib.hid (And.intro hx (And.intro hy bV))
  have HSW : Hid (∀ W, Below V.heap.size V W → (W.cell? ⟨w.heap.size, 0, none⟩ = some (.int .u32 (sa : Int)) ∧ W.cell? ⟨w.heap.size, 1, none⟩ = some (.int .u32 (ga : Int)) ∧ W.cell? ⟨w.heap.size + 1, 0, none⟩ = some (.int .u32 (sb : Int)) ∧ W.cell? ⟨w.heap.size + 1, 1, none⟩ = some (.int .u32 (gb : Int))) ∧ Below w.heap.size w W) := Lib.hid (fun W bb => by
    have h1 := (bb.block _ (lt_of_some HX.out.2.1)).trans HX.out.2.1
    have h2 := (bb.block _ (lt_of_some HX.out.1)).trans HX.out.1
    exact ⟨⟨cell_blk h1 0 rfl, cell_blk h1 1 rfl, cell_blk h2 0 rfl, cell_blk h2 1 rfl⟩, HX.out.2.2.trans (bb.mono HX.out.2.2.size)⟩)
  have HW0 : Hid (Below V.heap.size V V) := Lib.hid (Below.refl _ _)
  obtain ⟨x0, x1, x2, x3⟩ := (HSW.out _ HW0.out).1
  have hV2 := hV
  clear hV hx hy bV
  go_enter Tryd.func13, Tryd.ntmps13
  go_wp2_with fail
  rw [← hV2]
  clear hV2 HX
  by_cases e1 : ka = kb
  · have q : hEq (sa : Int) (ga : Int) (sb : Int) (gb : Int) = true := by rw [HE.out]; exact decide_eq_true e1
    have HR : Hid (rp = 0) := Lib.hid (by rw [HP.out]; unfold posF; rw [if_pos e1])
    clear e1 HE
    go_wp2_with (first | (have hh := HW4; (go_at_call 44; refine (HH2.out _ (HSW.out _ HW4.out).2).mono ?_; rintro e w5 ⟨rfl, b5⟩; have HW5 := Lib.hid (HW4.out.trans (b5.mono HW4.out.size)); obtain ⟨x50, x51, x52, x53⟩ := (HSW.out _ HW5.out).1; clear b5)) | (have hh := HW3; (go_at_call 44; refine (HH1.out _ (HSW.out _ HW3.out).2).mono ?_; rintro e w4 ⟨rfl, b4⟩; have HW4 := Lib.hid (HW3.out.trans (b4.mono HW3.out.size)); obtain ⟨x40, x41, x42, x43⟩ := (HSW.out _ HW4.out).1; clear b4)) | (have hh := HW2; (go_at_call 43; refine (HBB.out _ (HSW.out _ HW2.out).2).mono ?_; rintro e w3 ⟨rfl, b3⟩; have HW3 := Lib.hid (HW2.out.trans (b3.mono HW2.out.size)); obtain ⟨x30, x31, x32, x33⟩ := (HSW.out _ HW3.out).1; clear b3)) | (have hh := HW1; (go_at_call 43; refine (HBA.out _ (HSW.out _ HW1.out).2).mono ?_; rintro e w2 ⟨rfl, b2⟩; have HW2 := Lib.hid (HW1.out.trans (b2.mono HW1.out.size)); obtain ⟨x20, x21, x22, x23⟩ := (HSW.out _ HW2.out).1; clear b2)) | (go_at_call 12; refine (HCM.out _ (HSW.out _ HW0.out).2).mono ?_; rintro e w1 ⟨rfl, b1⟩; have HW1 := Lib.hid (HW0.out.trans (b1.mono HW0.out.size)); obtain ⟨x10, x11, x12, x13⟩ := (HSW.out _ HW1.out).1; clear b1))
    try rw [Exit.noGoto_ret]
    go_ret2
    exact ⟨by rw [HR.out]; rfl, (HSW.out _ HW3.out).2⟩
  have q : hEq (sa : Int) (ga : Int) (sb : Int) (gb : Int) = false := by rw [HE.out]; exact decide_eq_false e1
  have E1 := Lib.hid e1
  clear e1 HE
  by_cases e2 : ra = rb
  case neg =>
    have hro : ro = false := by rw [HC.out.2]; exact decide_eq_false e2
    subst hro
    by_cases e3 : kb < ka
    · have HR : Hid (rp = 35) := Lib.hid (by rw [HP.out]; unfold posF; rw [if_neg E1.out, if_pos e2, if_pos e3])
      have d1 : j < i := by have := HIJ.out; omega
      have d2 : decide ((j : Int) < (i : Int)) = true := by simp; omega
      clear e2 e3
      go_wp2_with (first | (have hh := HW4; (go_at_call 44; refine (HH2.out _ (HSW.out _ HW4.out).2).mono ?_; rintro e w5 ⟨rfl, b5⟩; have HW5 := Lib.hid (HW4.out.trans (b5.mono HW4.out.size)); obtain ⟨x50, x51, x52, x53⟩ := (HSW.out _ HW5.out).1; clear b5)) | (have hh := HW3; (go_at_call 44; refine (HH1.out _ (HSW.out _ HW3.out).2).mono ?_; rintro e w4 ⟨rfl, b4⟩; have HW4 := Lib.hid (HW3.out.trans (b4.mono HW3.out.size)); obtain ⟨x40, x41, x42, x43⟩ := (HSW.out _ HW4.out).1; clear b4)) | (have hh := HW2; (go_at_call 43; refine (HBB.out _ (HSW.out _ HW2.out).2).mono ?_; rintro e w3 ⟨rfl, b3⟩; have HW3 := Lib.hid (HW2.out.trans (b3.mono HW2.out.size)); obtain ⟨x30, x31, x32, x33⟩ := (HSW.out _ HW3.out).1; clear b3)) | (have hh := HW1; (go_at_call 43; refine (HBA.out _ (HSW.out _ HW1.out).2).mono ?_; rintro e w2 ⟨rfl, b2⟩; have HW2 := Lib.hid (HW1.out.trans (b2.mono HW1.out.size)); obtain ⟨x20, x21, x22, x23⟩ := (HSW.out _ HW2.out).1; clear b2)) | (go_at_call 12; refine (HCM.out _ (HSW.out _ HW0.out).2).mono ?_; rintro e w1 ⟨rfl, b1⟩; have HW1 := Lib.hid (HW0.out.trans (b1.mono HW0.out.size)); obtain ⟨x10, x11, x12, x13⟩ := (HSW.out _ HW1.out).1; clear b1))
      try rw [Exit.noGoto_ret]
      go_ret2
      exact ⟨by rw [HR.out]; rfl, (HSW.out _ HW3.out).2⟩
    · have HR : Hid (rp = 37) := Lib.hid (by rw [HP.out]; unfold posF; rw [if_neg E1.out, if_pos e2, if_neg e3])
      have d1 : ¬ (j < i) := by have := HIJ.out; omega
      have d2 : decide ((j : Int) < (i : Int)) = false := by simp; omega
      clear e2 e3
      go_wp2_with (first | (have hh := HW4; (go_at_call 44; refine (HH2.out _ (HSW.out _ HW4.out).2).mono ?_; rintro e w5 ⟨rfl, b5⟩; have HW5 := Lib.hid (HW4.out.trans (b5.mono HW4.out.size)); obtain ⟨x50, x51, x52, x53⟩ := (HSW.out _ HW5.out).1; clear b5)) | (have hh := HW3; (go_at_call 44; refine (HH1.out _ (HSW.out _ HW3.out).2).mono ?_; rintro e w4 ⟨rfl, b4⟩; have HW4 := Lib.hid (HW3.out.trans (b4.mono HW3.out.size)); obtain ⟨x40, x41, x42, x43⟩ := (HSW.out _ HW4.out).1; clear b4)) | (have hh := HW2; (go_at_call 43; refine (HBB.out _ (HSW.out _ HW2.out).2).mono ?_; rintro e w3 ⟨rfl, b3⟩; have HW3 := Lib.hid (HW2.out.trans (b3.mono HW2.out.size)); obtain ⟨x30, x31, x32, x33⟩ := (HSW.out _ HW3.out).1; clear b3)) | (have hh := HW1; (go_at_call 43; refine (HBA.out _ (HSW.out _ HW1.out).2).mono ?_; rintro e w2 ⟨rfl, b2⟩; have HW2 := Lib.hid (HW1.out.trans (b2.mono HW1.out.size)); obtain ⟨x20, x21, x22, x23⟩ := (HSW.out _ HW2.out).1; clear b2)) | (go_at_call 12; refine (HCM.out _ (HSW.out _ HW0.out).2).mono ?_; rintro e w1 ⟨rfl, b1⟩; have HW1 := Lib.hid (HW0.out.trans (b1.mono HW0.out.size)); obtain ⟨x10, x11, x12, x13⟩ := (HSW.out _ HW1.out).1; clear b1))
      try rw [Exit.noGoto_ret]
      go_ret2
      exact ⟨by rw [HR.out]; rfl, (HSW.out _ HW3.out).2⟩
  case pos =>
    have hro : ro = true := by rw [HC.out.2]; exact decide_eq_true e2
    subst hro
    by_cases e3 : kb ∈ ca
    · have HR : Hid (rp = 10) := Lib.hid (by rw [HP.out]; unfold posF; rw [if_neg E1.out, if_neg (fun h => h e2), if_pos e3])
      rw [decide_eq_true e3] at HH1
      clear e2 e3
      go_wp2_with (first | (have hh := HW4; (go_at_call 44; refine (HH2.out _ (HSW.out _ HW4.out).2).mono ?_; rintro e w5 ⟨rfl, b5⟩; have HW5 := Lib.hid (HW4.out.trans (b5.mono HW4.out.size)); obtain ⟨x50, x51, x52, x53⟩ := (HSW.out _ HW5.out).1; clear b5)) | (have hh := HW3; (go_at_call 44; refine (HH1.out _ (HSW.out _ HW3.out).2).mono ?_; rintro e w4 ⟨rfl, b4⟩; have HW4 := Lib.hid (HW3.out.trans (b4.mono HW3.out.size)); obtain ⟨x40, x41, x42, x43⟩ := (HSW.out _ HW4.out).1; clear b4)) | (have hh := HW2; (go_at_call 43; refine (HBB.out _ (HSW.out _ HW2.out).2).mono ?_; rintro e w3 ⟨rfl, b3⟩; have HW3 := Lib.hid (HW2.out.trans (b3.mono HW2.out.size)); obtain ⟨x30, x31, x32, x33⟩ := (HSW.out _ HW3.out).1; clear b3)) | (have hh := HW1; (go_at_call 43; refine (HBA.out _ (HSW.out _ HW1.out).2).mono ?_; rintro e w2 ⟨rfl, b2⟩; have HW2 := Lib.hid (HW1.out.trans (b2.mono HW1.out.size)); obtain ⟨x20, x21, x22, x23⟩ := (HSW.out _ HW2.out).1; clear b2)) | (go_at_call 12; refine (HCM.out _ (HSW.out _ HW0.out).2).mono ?_; rintro e w1 ⟨rfl, b1⟩; have HW1 := Lib.hid (HW0.out.trans (b1.mono HW0.out.size)); obtain ⟨x10, x11, x12, x13⟩ := (HSW.out _ HW1.out).1; clear b1))
      try rw [Exit.noGoto_ret]
      go_ret2
      exact ⟨by rw [HR.out]; rfl, (HSW.out _ HW4.out).2⟩
    · rw [decide_eq_false e3] at HH1
      by_cases e4 : ka ∈ cb
      · have HR : Hid (rp = 20) := Lib.hid (by rw [HP.out]; unfold posF; rw [if_neg E1.out, if_neg (fun h => h e2), if_neg e3, if_pos e4])
        rw [decide_eq_true e4] at HH2
        clear e2 e3 e4
        go_wp2_with (first | (have hh := HW4; (go_at_call 44; refine (HH2.out _ (HSW.out _ HW4.out).2).mono ?_; rintro e w5 ⟨rfl, b5⟩; have HW5 := Lib.hid (HW4.out.trans (b5.mono HW4.out.size)); obtain ⟨x50, x51, x52, x53⟩ := (HSW.out _ HW5.out).1; clear b5)) | (have hh := HW3; (go_at_call 44; refine (HH1.out _ (HSW.out _ HW3.out).2).mono ?_; rintro e w4 ⟨rfl, b4⟩; have HW4 := Lib.hid (HW3.out.trans (b4.mono HW3.out.size)); obtain ⟨x40, x41, x42, x43⟩ := (HSW.out _ HW4.out).1; clear b4)) | (have hh := HW2; (go_at_call 43; refine (HBB.out _ (HSW.out _ HW2.out).2).mono ?_; rintro e w3 ⟨rfl, b3⟩; have HW3 := Lib.hid (HW2.out.trans (b3.mono HW2.out.size)); obtain ⟨x30, x31, x32, x33⟩ := (HSW.out _ HW3.out).1; clear b3)) | (have hh := HW1; (go_at_call 43; refine (HBA.out _ (HSW.out _ HW1.out).2).mono ?_; rintro e w2 ⟨rfl, b2⟩; have HW2 := Lib.hid (HW1.out.trans (b2.mono HW1.out.size)); obtain ⟨x20, x21, x22, x23⟩ := (HSW.out _ HW2.out).1; clear b2)) | (go_at_call 12; refine (HCM.out _ (HSW.out _ HW0.out).2).mono ?_; rintro e w1 ⟨rfl, b1⟩; have HW1 := Lib.hid (HW0.out.trans (b1.mono HW0.out.size)); obtain ⟨x10, x11, x12, x13⟩ := (HSW.out _ HW1.out).1; clear b1))
        try rw [Exit.noGoto_ret]
        go_ret2
        exact ⟨by rw [HR.out]; rfl, (HSW.out _ HW5.out).2⟩
      · rw [decide_eq_false e4] at HH2
        by_cases e5 : 0 < cmpP (preD X.F ra) ka kb
        · have HR : Hid (rp = 2) := Lib.hid (by rw [HP.out]; unfold posF; rw [if_neg E1.out, if_neg (fun h => h e2), if_neg e3, if_neg e4, if_pos e5])
          have d1 : 0 < rc := by rw [HC.out.1, if_pos e2]; exact e5
          clear e2 e3 e4 e5
          go_wp2_with (first | (have hh := HW4; (go_at_call 44; refine (HH2.out _ (HSW.out _ HW4.out).2).mono ?_; rintro e w5 ⟨rfl, b5⟩; have HW5 := Lib.hid (HW4.out.trans (b5.mono HW4.out.size)); obtain ⟨x50, x51, x52, x53⟩ := (HSW.out _ HW5.out).1; clear b5)) | (have hh := HW3; (go_at_call 44; refine (HH1.out _ (HSW.out _ HW3.out).2).mono ?_; rintro e w4 ⟨rfl, b4⟩; have HW4 := Lib.hid (HW3.out.trans (b4.mono HW3.out.size)); obtain ⟨x40, x41, x42, x43⟩ := (HSW.out _ HW4.out).1; clear b4)) | (have hh := HW2; (go_at_call 43; refine (HBB.out _ (HSW.out _ HW2.out).2).mono ?_; rintro e w3 ⟨rfl, b3⟩; have HW3 := Lib.hid (HW2.out.trans (b3.mono HW2.out.size)); obtain ⟨x30, x31, x32, x33⟩ := (HSW.out _ HW3.out).1; clear b3)) | (have hh := HW1; (go_at_call 43; refine (HBA.out _ (HSW.out _ HW1.out).2).mono ?_; rintro e w2 ⟨rfl, b2⟩; have HW2 := Lib.hid (HW1.out.trans (b2.mono HW1.out.size)); obtain ⟨x20, x21, x22, x23⟩ := (HSW.out _ HW2.out).1; clear b2)) | (go_at_call 12; refine (HCM.out _ (HSW.out _ HW0.out).2).mono ?_; rintro e w1 ⟨rfl, b1⟩; have HW1 := Lib.hid (HW0.out.trans (b1.mono HW0.out.size)); obtain ⟨x10, x11, x12, x13⟩ := (HSW.out _ HW1.out).1; clear b1))
          try rw [Exit.noGoto_ret]
          go_ret2
          exact ⟨by rw [HR.out]; rfl, (HSW.out _ HW5.out).2⟩
        · have HR : Hid (rp = 4) := Lib.hid (by rw [HP.out]; unfold posF; rw [if_neg E1.out, if_neg (fun h => h e2), if_neg e3, if_neg e4, if_neg e5])
          have d1 : ¬ (0 < rc) := by rw [HC.out.1, if_pos e2]; exact e5
          clear e2 e3 e4 e5
          go_wp2_with (first | (have hh := HW4; (go_at_call 44; refine (HH2.out _ (HSW.out _ HW4.out).2).mono ?_; rintro e w5 ⟨rfl, b5⟩; have HW5 := Lib.hid (HW4.out.trans (b5.mono HW4.out.size)); obtain ⟨x50, x51, x52, x53⟩ := (HSW.out _ HW5.out).1; clear b5)) | (have hh := HW3; (go_at_call 44; refine (HH1.out _ (HSW.out _ HW3.out).2).mono ?_; rintro e w4 ⟨rfl, b4⟩; have HW4 := Lib.hid (HW3.out.trans (b4.mono HW3.out.size)); obtain ⟨x40, x41, x42, x43⟩ := (HSW.out _ HW4.out).1; clear b4)) | (have hh := HW2; (go_at_call 43; refine (HBB.out _ (HSW.out _ HW2.out).2).mono ?_; rintro e w3 ⟨rfl, b3⟩; have HW3 := Lib.hid (HW2.out.trans (b3.mono HW2.out.size)); obtain ⟨x30, x31, x32, x33⟩ := (HSW.out _ HW3.out).1; clear b3)) | (have hh := HW1; (go_at_call 43; refine (HBA.out _ (HSW.out _ HW1.out).2).mono ?_; rintro e w2 ⟨rfl, b2⟩; have HW2 := Lib.hid (HW1.out.trans (b2.mono HW1.out.size)); obtain ⟨x20, x21, x22, x23⟩ := (HSW.out _ HW2.out).1; clear b2)) | (go_at_call 12; refine (HCM.out _ (HSW.out _ HW0.out).2).mono ?_; rintro e w1 ⟨rfl, b1⟩; have HW1 := Lib.hid (HW0.out.trans (b1.mono HW0.out.size)); obtain ⟨x10, x11, x12, x13⟩ := (HSW.out _ HW1.out).1; clear b1))
          try rw [Exit.noGoto_ret]
          go_ret2
          exact ⟨by rw [HR.out]; rfl, (HSW.out _ HW5.out).2⟩
end
end Go.Proofs.YtelhnaphkbpakaaDoor
namespace Go.Proofs.YtelhnaphkbpakaaDoor
set_option linter.unusedVariables false
def climb (F : For) (root : Nat) : List Nat → Option Nat
  | [] => none
  | k :: l => if k = root then none else match lkO F k 4 with
    | some b => some b
    | none => climb F root l
def stepO (F : For) (root m : Nat) (l : List Nat) : Option Nat := match lkO F m 1 with
  | some c => some c
  | none => climb F root l
theorem climb_pass {F : For} {c v : Nat} {rest : List Nat} : ∀ a : List Nat, c ∉ a → v ∉ a → (∀ z, climb F c (a ++ c :: rest) = some z → climb F v (a ++ c :: rest) = some z) ∧ (climb F c (a ++ c :: rest) = none → climb F v (a ++ c :: rest) = climb F v (c :: rest)) := by
  intro a
  induction a with
  | nil =>
    intro _ _
    refine ⟨fun z h => ?_, fun _ => rfl⟩
    simp [climb] at h
  | cons k a ih =>
    intro h1 h2
    have k1 : k ≠ c := fun e => h1 (by simp [e])
    have k2 : k ≠ v := fun e => h2 (by simp [e])
    have ih := ih (fun h => h1 (List.mem_cons_of_mem _ h)) (fun h => h2 (List.mem_cons_of_mem _ h))
    show (∀ z, climb F c (k :: (a ++ c :: rest)) = some z → climb F v (k :: (a ++ c :: rest)) = some z) ∧ (climb F c (k :: (a ++ c :: rest)) = none → climb F v (k :: (a ++ c :: rest)) = climb F v (c :: rest))
    unfold climb
    rw [if_neg k1, if_neg k2]
    cases lkO F k 4 with
    | some b => exact ⟨fun z h => h, fun h => by cases h⟩
    | none => exact ih
theorem preD_head {F : For} (ok : FOk F) {k : Nat} (hk : k < F.length) : ∃ t, preD F k = k :: t := ⟨_, preD_eq ok hk⟩
theorem flat_head {F : For} (ok : FOk F) {l : List Nat} (hl : ∀ c ∈ l, c < F.length) : (l.flatMap (preD F)).head? = l.head? := by
  cases l with
  | nil => rfl
  | cons c l =>
    obtain ⟨t, ht⟩ := preD_head ok (hl c (by simp))
    rw [List.flatMap_cons, ht]
    rfl
theorem split_once {l p q p' q' : List Nat} {m : Nat} (hn : l.Nodup) (h : l = p ++ m :: q) (h' : l = p' ++ m :: q') : p = p' ∧ q = q' := by
  have e1 : l.idxOf m = p.length := by
    rw [h]; refine idx_split (fun hm => ?_)
    rw [h] at hn
    exact (List.nodup_append.1 hn).2.2 m hm m (by simp) rfl
  have e2 : l.idxOf m = p'.length := by
    rw [h']; refine idx_split (fun hm => ?_)
    rw [h'] at hn
    exact (List.nodup_append.1 hn).2.2 m hm m (by simp) rfl
  have := List.append_inj (h.symm.trans h') (by omega)
  exact ⟨this.1, by simpa using this.2⟩
theorem step_next {F : For} (ok : FOk F) : ∀ v, v < F.length → ∀ {m : Nat} {p q l : List Nat}, preD F v = p ++ m :: q → Chain F m l → q.head? = stepO F v m l := by
  refine ok.kids_ind (fun v hv ih m p q l hs hl => ?_)
  have hnd := preD_nodup ok v hv
  have hkl : ∀ c ∈ dnOf F (some v), c < F.length := fun c hc => (ok.kid_up hc).2
  by_cases hmv : m = v
  · subst hmv
    have h0 := preD_eq ok hv
    obtain ⟨hp, hq⟩ := split_once (p' := []) (q' := (dnOf F (some m)).flatMap (preD F)) hnd hs h0
    subst hp hq
    rw [flat_head ok hkl]
    unfold stepO
    show _ = (match (dnOf F (some m)).head? with | some c => some c | none => climb F m l)
    cases (dnOf F (some m)).head? with
    | some c => rfl
    | none =>
      obtain ⟨t, ht⟩ := hl.ne_nil
      subst ht
      show none = climb F m (m :: t)
      unfold climb
      rw [if_pos rfl]
  · have hm : m ∈ preD F v := by rw [hs]; simp
    rw [preD_eq ok hv] at hm
    rcases List.mem_cons.1 hm with h1 | hm
    · exact absurd h1 hmv
    obtain ⟨c, hc, hm⟩ := List.mem_flatMap.1 hm
    obtain ⟨x, y, hxy⟩ := List.append_of_mem hc
    obtain ⟨p', q', hpq⟩ := List.append_of_mem hm
    have hcu := ok.kid_up hc
    have h2 : preD F v = (v :: x.flatMap (preD F) ++ p') ++ m :: (q' ++ y.flatMap (preD F)) := by
      rw [preD_eq ok hv, hxy, List.flatMap_append, List.flatMap_cons, hpq]
      simp
    obtain ⟨_, hq⟩ := split_once hnd hs h2
    subst hq
    have h3 := ih c hc hpq hl
    -- the way up of m goes by c, then v
    have hcl := (mem_preD ok hcu.2 hl).1 hm
    obtain ⟨a, b, hab⟩ := List.append_of_mem hcl
    have hcc := hl.at hab
    obtain ⟨lv, hlv⟩ := ok.acyc v _ (List.getElem?_eq_getElem hv)
    have hcv := hlv.kid hcu.1
    have hb : b = lv := by have := hcc.det hcv; simpa using this
    subst hb
    have hnl := hl.nodup
    rw [hab] at hnl
    have hca : c ∉ a := fun h => (List.nodup_append.1 hnl).2.2 c h c (by simp) rfl
    obtain ⟨t, ht⟩ := hlv.ne_nil
    have hva : v ∉ a := fun h => (List.nodup_append.1 hnl).2.2 v h v (by rw [ht]; simp) rfl
    have hcne : c ≠ v := by
      intro e
      have h4 := (List.nodup_append.1 hnl).2.1
      rw [ht, e] at h4
      simp at h4
    obtain ⟨k1, k2⟩ := climb_pass (F := F) (c := c) (v := v) (rest := b) a hca hva
    have hyl : ∀ d ∈ y, d < F.length := fun d hd => hkl d (by rw [hxy]; simp [hd])
    cases q' with
    | cons z q' =>
      have h4 : stepO F c m l = some z := h3.symm
      show some z = _
      rw [← h4]
      unfold stepO at h4 ⊢
      cases h5 : lkO F m 1 with
      | some d => rfl
      | none =>
        rw [h5] at h4
        show climb F c l = climb F v l
        have h6 : climb F c l = some z := h4
        rw [h6, hab]
        rw [hab] at h6
        exact (k1 z h6).symm
    | nil =>
      have h4 : stepO F c m l = none := h3.symm
      rw [List.nil_append, flat_head ok hyl]
      unfold stepO at h4 ⊢
      cases h5 : lkO F m 1 with
      | some d => rw [h5] at h4; cases h4
      | none =>
        rw [h5] at h4
        have h6 : climb F c l = none := h4
        show y.head? = climb F v l
        rw [hab] at h6 ⊢
        rw [k2 h6]
        unfold climb
        rw [if_neg hcne]
        have h7 : lkO F c 4 = y.head? := by
          show nextOf (dnOf F (upOf F c)) c = y.head?
          rw [hcu.1, hxy]
          refine next_split (fun h => ?_)
          have h8 : (dnOf F (some v)).Nodup := by have := (ok.sibs c).1; rw [hcu.1] at this; exact this
          rw [hxy] at h8
          exact (List.nodup_append.1 h8).2.2 c h c (by simp) rfl
        rw [h7]
        cases hy : y.head? with
        | some d => rfl
        | none =>
          show none = climb F v b
          rw [ht]
          unfold climb
          rw [if_pos rfl]
end Go.Proofs.YtelhnaphkbpakaaDoor
