/- TrailNil: of no tree. -/
import Derived.Test.YtelhnaphkbpakaaDoorMn35
namespace Go.Proofs.YtelhnaphkbpakaaDoor
open Go.RowKit Go.Shelf
attribute [local go_sem] Oper.semAt_some
set_option linter.unusedVariables false
set_option maxRecDepth 100000

set_option maxHeartbeats 2000000 in
theorem down1_nil (w : World) (n : Nat) (hn : 1 ≤ n) {Bt Bh : Nat} {s g : Nat} {Kp : World → World → Prop} (hBt : w.heap[Bt]? = some (.cells #[.pointer none] 25 (0, 0))) (hBh : w.heap[Bh]? = some (.cells #[.int .u32 (s : Int), .int .u32 (g : Int)] 31 (0, 0))) :
    SeqT [31] Fence.wide n Tryd.prog 56 #[.pointer (some ⟨Bt, 0, none⟩), .pointer (some ⟨Bh, 0, none⟩)] (fun _ : Empty => #[.bool true]) Kp [] w := by
  intro l J Jx W hW hJ hJx hY h0
  have bt0 := (hW.block _ (lt_of_some hBt)).trans hBt
  have bh0 := (hW.block _ (lt_of_some hBh)).trans hBh
  have c0 := cell_blk bt0 0 rfl
  have c1 := cell_blk bh0 0 rfl
  have c2 := cell_blk bh0 1 rfl
  have HJ := Lib.hid (And.intro hJ h0)
  have hro : Fence.wide.round = none := rfl
  simp at c0 c1 c2
  clear hBt hBh hW hJ hJx hY h0 bt0 bh0
  refine callsIn_of_wp Tryd.func56 rfl trivial ?_ rfl
  simp only [Tryd.ntmps56, List.size_toArray, List.length_cons, List.length_nil, Nat.reduceAdd, Nat.reduceSub, Array.replicate_succ, Array.replicate_zero, List.push_toArray, List.append_toArray, List.nil_append, List.cons_append]
  gi_wp2_with (refine ⟨trivial, ?_⟩; gi_at_call 40; refine (callsIn_wide.2 (lives_nil _ _)).mono ?_; rintro e w1 ⟨rfl, b1⟩; have HB1 := Lib.hid (((Below.refl W.heap.size W).alloc (Nat.le_refl _) _).trans (b1.mono ((Below.refl W.heap.size W).alloc (Nat.le_refl _) _).size)); clear b1)
  refine bodyPost_ret (results_none rfl _ _ _) rfl ?_
  exact ⟨⟨_, rfl⟩, .inl (HJ.out.1 [] W _ HJ.out.2 (FrT.of_below HB1.out))⟩
set_option maxHeartbeats 2000000 in
theorem up1_nil (w : World) (n : Nat) (hn : 1 ≤ n) {Bt Bh : Nat} {s g : Nat} {Kp : World → World → Prop} (hBt : w.heap[Bt]? = some (.cells #[.pointer none] 25 (0, 0))) (hBh : w.heap[Bh]? = some (.cells #[.int .u32 (s : Int), .int .u32 (g : Int)] 31 (0, 0))) :
    SeqT [31] Fence.wide n Tryd.prog 57 #[.pointer (some ⟨Bt, 0, none⟩), .pointer (some ⟨Bh, 0, none⟩)] (fun _ : Empty => #[.bool true]) Kp [] w := by
  intro l J Jx W hW hJ hJx hY h0
  have bt0 := (hW.block _ (lt_of_some hBt)).trans hBt
  have bh0 := (hW.block _ (lt_of_some hBh)).trans hBh
  have c0 := cell_blk bt0 0 rfl
  have c1 := cell_blk bh0 0 rfl
  have c2 := cell_blk bh0 1 rfl
  have HJ := Lib.hid (And.intro hJ h0)
  have hro : Fence.wide.round = none := rfl
  simp at c0 c1 c2
  clear hBt hBh hW hJ hJx hY h0 bt0 bh0
  refine callsIn_of_wp Tryd.func57 rfl trivial ?_ rfl
  simp only [Tryd.ntmps57, List.size_toArray, List.length_cons, List.length_nil, Nat.reduceAdd, Nat.reduceSub, Array.replicate_succ, Array.replicate_zero, List.push_toArray, List.append_toArray, List.nil_append, List.cons_append]
  gi_wp2_with (refine ⟨trivial, ?_⟩; gi_at_call 40; refine (callsIn_wide.2 (lives_nil _ _)).mono ?_; rintro e w1 ⟨rfl, b1⟩; have HB1 := Lib.hid (((Below.refl W.heap.size W).alloc (Nat.le_refl _) _).trans (b1.mono ((Below.refl W.heap.size W).alloc (Nat.le_refl _) _).size)); clear b1)
  refine bodyPost_ret (results_none rfl _ _ _) rfl ?_
  exact ⟨⟨_, rfl⟩, .inl (HJ.out.1 [] W _ HJ.out.2 (FrT.of_below HB1.out))⟩

theorem alloc_blk' {w : World} {b : Nat} {o : Obj} (h : w.heap[b]? = some o) (x : Obj) : (w.alloc x).heap[b]? = some o := alloc_blk h x
/-- The counter, and the block for the rounds' deferred calls of a loop that is done. -/
structure NlI (n0 C s g : Nat) (D : Option Nat) (w0 W : World) : Prop where
  box : W.heap[C]? = some (.cells #[.int .i64 0] 3 (0, 0))
  low : Below n0 w0 W
  ha : W.heap[n0]? = some (.cells #[.int .u32 (s : Int), .int .u32 (g : Int)] 31 (0, 0))
  d : ∀ k, D = some k → W.heap[k]? = some (.deferred (some []))
  le : n0 ≤ W.heap.size
theorem nlI_own {n0 C s g B : Nat} {D : Option Nat} {w0 : World} (hB : n0 < B) (hD : ∀ k, D = some k → k < B) : OwnFrom B (fun (_ : List Empty) (W : World) => NlI n0 C s g D w0 W) := by
  intro pre A E row hs hg hr
  refine ⟨(hg.block _ (lt_of_some hs.box) (fun e => ?_)).trans hs.box, hs.low.trans (grown_below hg (fun x e => by have := (hr x e).1; omega) hs.le), (hg.block _ (lt_of_some hs.ha) (fun e => by have := (hr _ e.symm).1; omega)).trans hs.ha, fun k hk => (hg.block _ (lt_of_some (hs.d k hk)) (fun e => ?_)).trans (hs.d k hk), Nat.le_trans hs.le hg.size⟩
  · obtain ⟨_, o, ho, hc⟩ := hr _ e.symm
    rw [hs.box] at ho
    cases ho
    cases hc
  · have := (hr _ e.symm).1
    have := hD k hk
    omega
theorem nlI_T {n0 C s g B : Nat} {D : Option Nat} {w0 : World} (hB : n0 < B) : AbideT [31] B (fun (_ : List Empty) (W : World) => NlI n0 C s g D w0 W) := fun pre A E hs f =>
  ⟨f.block _ _ hs.box (.inr (fun e he => by cases he; decide)), hs.low.trans (f.lowB (Nat.le_of_lt hB) hs.le), f.block _ _ hs.ha (.inl hB), fun k hk => f.block _ _ (hs.d k hk) (.inr (fun e he => by cases he)), Nat.le_trans hs.le f.size⟩

set_option maxHeartbeats 16000000 in
theorem trailNil_in (w : World) (hz : NoneAt w) (s g s1 g1 : Nat) :
    CallsIn Fence.wide 12 Tryd.prog 4 #[.agg #[.int .u32 (s : Int), .int .u32 (g : Int)], .agg #[.int .u32 (s1 : Int), .int .u32 (g1 : Int)]] w fun e w' => e = .returned (.bool true) ∧ Below w.heap.size w w' := by
  have HZ := Lib.hid hz
  obtain ⟨V, hV⟩ : ∃ V, V = (w.alloc (.cells #[.int .u32 (s : Int), .int .u32 (g : Int)] 31)).alloc (.cells #[.int .u32 (s1 : Int), .int .u32 (g1 : Int)] 31) := ⟨_, rfl⟩
  have bV : Below w.heap.size w V := by rw [hV]; exact ((Below.refl _ w).alloc (Nat.le_refl _) _).alloc (by simp) _
  have hx : V.heap[w.heap.size + 1]? = some (.cells #[.int .u32 (s1 : Int), .int .u32 (g1 : Int)] 31 (0, 0)) := by rw [hV]; exact alloc2_blk w _ _
  have hy : V.heap[w.heap.size]? = some (.cells #[.int .u32 (s : Int), .int .u32 (g : Int)] 31 (0, 0)) := by rw [hV]; exact alloc_blk (Go.heap_alloc_new w _) _
  have HX := Lib.hid (And.intro hx (And.intro hy bV))
  have HSW : Hid (∀ W, Below V.heap.size V W → (W.cell? ⟨w.heap.size, 0, none⟩ = some (.int .u32 (s : Int)) ∧ W.cell? ⟨w.heap.size, 1, none⟩ = some (.int .u32 (g : Int)) ∧ W.cell? ⟨w.heap.size + 1, 0, none⟩ = some (.int .u32 (s1 : Int)) ∧ W.cell? ⟨w.heap.size + 1, 1, none⟩ = some (.int .u32 (g1 : Int))) ∧ Below w.heap.size w W ∧ w.heap.size + 1 < W.heap.size) := Lib.hid (fun W bb => by
    have h1 := (bb.block _ (lt_of_some HX.out.2.1)).trans HX.out.2.1
    have h2 := (bb.block _ (lt_of_some HX.out.1)).trans HX.out.1
    exact ⟨⟨cell_blk h1 0 rfl, cell_blk h1 1 rfl, cell_blk h2 0 rfl, cell_blk h2 1 rfl⟩, HX.out.2.2.trans (bb.mono HX.out.2.2.size), lt_of_some h2⟩)
  have HW0 : Hid (Below V.heap.size V V) := Lib.hid (Below.refl _ _)
  have hV2 := hV
  clear hV hx hy bV hz
  have hro : Fence.wide.round = none := rfl
  refine callsIn_of_wp_marks Tryd.func4 rfl trivial ?_ rfl
  simp only [Tryd.ntmps4, List.size_toArray, List.length_cons, List.length_nil, Nat.reduceAdd, Nat.reduceSub, Array.replicate_succ, Array.replicate_zero, List.push_toArray, List.append_toArray, List.nil_append, List.cons_append]
  gi_wp2
  rw [← hV2]
  clear hV2
  gi_wp2_with (first | (have hh := HW9; refine ⟨trivial, ?_⟩; gi_at_call 26; refine (callsIn_wide.2 (downT_calls _ _ _ _)).mono ?_; rintro e w10 ⟨rfl, rfl⟩) | (have hh := HW8; refine ⟨trivial, ?_⟩; gi_at_call 16; refine (callsIn_wide.2 (equal_nil _ _ _ _ _)).mono ?_; rintro e w9 ⟨rfl, b9⟩; have HW9 := Lib.hid ((HW8.out.alloc HW8.out.size (.cells #[.int .u32 0, .int .u32 0] 31)).trans (b9.mono (HW8.out.alloc HW8.out.size (.cells #[.int .u32 0, .int .u32 0] 31)).size)); obtain ⟨x90, x91, x92, x93⟩ := (HSW.out _ HW9.out).1; have xl9 := (HSW.out _ HW9.out).2.2; have yl9 := Nat.lt_of_succ_lt xl9; clear b9) | (have hh := HW7; refine ⟨trivial, ?_⟩; gi_at_call 15; refine (callsIn_wide.2 (common_nil _ (HZ.out.below (HSW.out _ HW7.out).2.1) _ _ _ _)).mono ?_; rintro e w8 ⟨rfl, b8⟩; have HW8 := Lib.hid (HW7.out.trans (b8.mono HW7.out.size)); obtain ⟨x80, x81, x82, x83⟩ := (HSW.out _ HW8.out).1; have xl8 := (HSW.out _ HW8.out).2.2; have yl8 := Nat.lt_of_succ_lt xl8; clear b8) | (have hh := HW6; refine ⟨trivial, ?_⟩; gi_at_call 25; refine (callsIn_wide.2 (size_nil _ _ _)).mono ?_; rintro e w7 ⟨rfl, b7⟩; have HW7 := Lib.hid ((HW6.out.alloc HW6.out.size (.cells #[.int .u32 0, .int .u32 0] 31)).trans (b7.mono (HW6.out.alloc HW6.out.size (.cells #[.int .u32 0, .int .u32 0] 31)).size)); obtain ⟨x70, x71, x72, x73⟩ := (HSW.out _ HW7.out).1; have xl7 := (HSW.out _ HW7.out).2.2; have yl7 := Nat.lt_of_succ_lt xl7; clear b7) | (have hh := HW5; refine ⟨trivial, ?_⟩; gi_at_call 24; refine (callsIn_wide.2 (prevT_nil _ (HZ.out.below (HSW.out _ (HW5.out.alloc HW5.out.size (.cells #[.int .u32 0, .int .u32 0] 31))).2.1) _ _ _ _)).mono ?_; rintro e w6 ⟨rfl, b6⟩; have HW6 := Lib.hid ((HW5.out.alloc HW5.out.size (.cells #[.int .u32 0, .int .u32 0] 31)).trans (b6.mono (HW5.out.alloc HW5.out.size (.cells #[.int .u32 0, .int .u32 0] 31)).size)); obtain ⟨x60, x61, x62, x63⟩ := (HSW.out _ HW6.out).1; have xl6 := (HSW.out _ HW6.out).2.2; have yl6 := Nat.lt_of_succ_lt xl6; clear b6) | (have hh := HW4; refine ⟨trivial, ?_⟩; gi_at_call 23; refine (callsIn_wide.2 (nextT_nil _ (HZ.out.below (HSW.out _ HW4.out).2.1) _ _ _ _)).mono ?_; rintro e w5 ⟨rfl, b5⟩; have HW5 := Lib.hid (HW4.out.trans (b5.mono HW4.out.size)); obtain ⟨x50, x51, x52, x53⟩ := (HSW.out _ HW5.out).1; have xl5 := (HSW.out _ HW5.out).2.2; have yl5 := Nat.lt_of_succ_lt xl5; clear b5) | (have hh := HW3; refine ⟨trivial, ?_⟩; gi_at_call 14; refine (callsIn_wide.2 (contains_nil _ _ _ _ _)).mono ?_; rintro e w4 ⟨rfl, b4⟩; have HW4 := Lib.hid (HW3.out.trans (b4.mono HW3.out.size)); obtain ⟨x40, x41, x42, x43⟩ := (HSW.out _ HW4.out).1; have xl4 := (HSW.out _ HW4.out).2.2; have yl4 := Nat.lt_of_succ_lt xl4; clear b4) | (have hh := HW2; refine ⟨trivial, ?_⟩; gi_at_call 13; refine (callsIn_wide.2 (position_nil _ _ _ _ _)).mono ?_; rintro e w3 ⟨rfl, b3⟩; have HW3 := Lib.hid (HW2.out.trans (b3.mono HW2.out.size)); obtain ⟨x30, x31, x32, x33⟩ := (HSW.out _ HW3.out).1; have xl3 := (HSW.out _ HW3.out).2.2; have yl3 := Nat.lt_of_succ_lt xl3; clear b3) | (have hh := HW1; refine ⟨trivial, ?_⟩; gi_at_call 12; refine (callsIn_wide.2 (compare_nil _ _ _ _ _)).mono ?_; rintro e w2 ⟨rfl, b2⟩; have HW2 := Lib.hid (HW1.out.trans (b2.mono HW1.out.size)); obtain ⟨x20, x21, x22, x23⟩ := (HSW.out _ HW2.out).1; have xl2 := (HSW.out _ HW2.out).2.2; have yl2 := Nat.lt_of_succ_lt xl2; clear b2) | (have hh := HW0; refine ⟨trivial, ?_⟩; gi_at_call 8; refine (callsIn_wide.2 (awake8_true _ (HZ.out.below (HSW.out _ HW0.out).2.1))).mono ?_; rintro e w1 ⟨rfl, b1⟩; have HW1 := Lib.hid (HW0.out.trans (b1.mono HW0.out.size)); obtain ⟨x10, x11, x12, x13⟩ := (HSW.out _ HW1.out).1; have xl1 := (HSW.out _ HW1.out).2.2; have yl1 := Nat.lt_of_succ_lt xl1; clear b1))
  have HL9 := Lib.hid (HSW.out _ HW9.out).2.1
  have hs9 := HL9.out.size
  have hA9 : w9.heap[w.heap.size]? = some (.cells #[.int .u32 (s : Int), .int .u32 (g : Int)] 31 (0, 0)) := (HW9.out.block _ (lt_of_some HX.out.2.1)).trans HX.out.2.1
  have hw0 : Below w.heap.size w (((w9.alloc (.cells #[.int .i64 0] 3)).alloc (.cells #[.pointer none] 25)).alloc (.cells #[.int .u32 (s : Int), .int .u32 (g : Int)] 31)) := ((HL9.out.alloc hs9 _).alloc (by simp; omega) _).alloc (by simp; omega) _
  obtain ⟨a1, a2, a3⟩ := alloc3_bt w9 (.cells #[.int .i64 0] 3) (.cells #[.pointer none] 25) (.cells #[.int .u32 (s : Int), .int .u32 (g : Int)] 31)
  have a0 := alloc_blk (alloc_blk (alloc_blk hA9 (.cells #[.int .i64 0] 3)) (.cells #[.pointer none] 25)) (.cells #[.int .u32 (s : Int), .int .u32 (g : Int)] 31)
  generalize hW : ((w9.alloc (.cells #[.int .i64 0] 3)).alloc (.cells #[.pointer none] 25)).alloc (.cells #[.int .u32 (s : Int), .int .u32 (g : Int)] 31) = W0 at hw0 a0 a1 a2 a3 ⊢
  have hs0 := hw0.size
  have hlt0 := lt_of_some a0
  have hst := down1_nil W0 11 (by omega) (Kp := KpD w.heap.size) a2 a3
  have hI0 : NlI w.heap.size w9.heap.size s g none w W0 := ⟨a1, hw0, a0, fun k hk => (by cases hk), hs0⟩
  clear hW a0 a1 a2 a3 hA9
  refine range_T (T := [31]) rfl (by decide) (gf := 56) (lb := #[.pointer (some ⟨w9.heap.size + 1, 0, none⟩), .pointer (some ⟨w9.heap.size + 1 + 1, 0, none⟩)]) rfl trivial (enters_of Tryd.func56 (by kernel_rfl) rfl)
    hst (fun h k => h.trans k) (kpD_b hs0) (Below.refl _ _) (fun x => x.elim)
    (fun _ W => NlI w.heap.size w9.heap.size s g none w W) (fun _ _ _ => False) (nlI_own hlt0 (fun k hk => by cases hk)) (fun _ _ _ _ _ hs _ _ => hs) (nlI_T hlt0) (fun _ _ _ _ hs _ => hs) hI0
    (fun x => x.elim) (fun _ x => x.elim) (fun _ _ x => x.elim) ?done (fun _ _ _ _ _ _ h _ => h.elim)
  case done =>
    rintro D1 W hD1 hI hK1
    have c0 := cell_blk hI.ha 0 rfl
    have c1 := cell_blk hI.ha 1 rfl
    have HI := Lib.hid (And.intro hI (And.intro hK1 hD1))
    have hcl := lt_of_some hI.ha
    clear hI hK1
    gi_wp2_with (refine ⟨trivial, ?_⟩; gi_at_call 27; refine (callsIn_wide.2 (upT_calls _ _ _ _)).mono ?_; rintro e w11 ⟨rfl, rfl⟩)
    have hI := HI.out.1
    have hsW := hI.le
    have hw1 : Below w.heap.size w ((W.alloc (.cells #[.pointer none] 25)).alloc (.cells #[.int .u32 (s : Int), .int .u32 (g : Int)] 31)) := (hI.low.alloc hsW _).alloc (by simp; omega) _
    have p1 := alloc2_at W (.cells #[.pointer none] 25) (.cells #[.int .u32 (s : Int), .int .u32 (g : Int)] 31)
    have p2 := alloc2_blk W (.cells #[.pointer none] 25) (.cells #[.int .u32 (s : Int), .int .u32 (g : Int)] 31)
    have q0 := alloc_blk (alloc_blk hI.ha (.cells #[.pointer none] 25)) (.cells #[.int .u32 (s : Int), .int .u32 (g : Int)] 31)
    have q1 := alloc_blk (alloc_blk hI.box (.cells #[.pointer none] 25)) (.cells #[.int .u32 (s : Int), .int .u32 (g : Int)] 31)
    have q2 := alloc_blk' (alloc_blk' HI.out.2.1 (.cells #[.pointer none] 25)) (.cells #[.int .u32 (s : Int), .int .u32 (g : Int)] 31)
    generalize hW : (W.alloc (.cells #[.pointer none] 25)).alloc (.cells #[.int .u32 (s : Int), .int .u32 (g : Int)] 31) = W1 at hw1 p1 p2 q0 q1 q2 ⊢
    have hs1 := hw1.size
    have hst := up1_nil W1 11 (by omega) (Kp := KpD w.heap.size) p1 p2
    have hI1 : NlI w.heap.size w9.heap.size s g (some D1) w W1 := ⟨q1, hw1, q0, fun k hk => by cases hk; exact q2, hs1⟩
    have hD1l := lt_of_some q2
    have hal := lt_of_some q0
    clear hW p1 p2 q0 q1 q2 hI
    refine range_T (T := [31]) rfl (by decide) (gf := 57) (lb := #[.pointer (some ⟨W.heap.size, 0, none⟩), .pointer (some ⟨W.heap.size + 1, 0, none⟩)]) rfl trivial (enters_of Tryd.func57 (by kernel_rfl) rfl)
      hst (fun h k => h.trans k) (kpD_b hs1) (Below.refl _ _) (fun x => x.elim)
      (fun _ W => NlI w.heap.size w9.heap.size s g (some D1) w W) (fun _ _ _ => False) (nlI_own hal (fun k hk => by cases hk; exact hD1l)) (fun _ _ _ _ _ hs _ _ => hs) (nlI_T hal) (fun _ _ _ _ hs _ => hs) hI1
      (fun x => x.elim) (fun _ x => x.elim) (fun _ _ x => x.elim) ?done (fun _ _ _ _ _ _ h _ => h.elim)
    rintro D2 W2 hD2 hI2 hK2
    have c0 := cell_blk hI2.box 0 rfl
    have HI2 := Lib.hid (And.intro hI2 (And.intro hK2 (And.intro hD2 hD1l)))
    clear hI2 hK2
    gi_wp2
    have hk1 : (W2.putObj D2 (.deferred none)).heap[D1]? = some (.deferred (some [])) := (World.putObj_heap_other (by have := HI2.out.2.2.1; have := HI2.out.2.2.2; omega)).trans (HI2.out.1.d D1 rfl)
    refine ⟨by simp, .inl ⟨_, _, rfl, run_takeDeferred HI2.out.2.1, ?_⟩⟩
    refine ⟨by simp, .inl ⟨_, _, rfl, run_takeDeferred hk1, ?_⟩⟩
    exact ⟨_, results_tmp rfl _ _ _, rfl, (HI2.out.1.low.trans (belowK_b (w := w) (Nat.le_refl _) W2 D2 _ _ (by have := HI2.out.2.2.1; omega) HI2.out.2.1 rfl rfl)).trans (belowK_b (w := w) (Nat.le_refl _) _ D1 _ _ (by have := HI.out.2.2; omega) hk1 rfl rfl)⟩
theorem trailNil_true (w : World) (hz : NoneAt w) (s g s1 g1 : Nat) :
    Calls Tryd.prog 4 #[.agg #[.int .u32 (s : Int), .int .u32 (g : Int)], .agg #[.int .u32 (s1 : Int), .int .u32 (g1 : Int)]] w fun e w' => e = .returned (.bool true) ∧ Below w.heap.size w w' := callsIn_wide.1 (trailNil_in w hz s g s1 g1)
end Go.Proofs.YtelhnaphkbpakaaDoor

