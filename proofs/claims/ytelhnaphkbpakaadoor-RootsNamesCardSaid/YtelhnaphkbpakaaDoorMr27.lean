/- Part 27 of the proof of RoP: lemmas. -/
import Derived.Test.YtelhnaphkbpakaaDoorMr26
namespace Go.Proofs.YtelhnaphkbpakaaDoor
open Go.RowKit
set_option linter.unusedVariables false
set_option maxRecDepth 100000
set_option maxHeartbeats 8000000 in
theorem alive_calls (w : World) (hz : NoneAt w) : Calls Tryd.prog 28 #[] w fun e w' => e = .returned (.bool true) ∧ Below w.heap.size w w' := by
  have HNT : Hid (Calls Tryd.prog 35 #[.int .i64 9, .int .i64 9] w fun e w' => ∃ tb ab, e = .returned (.tuple #[.pointer (some ⟨tb, 0, none⟩), .int .i64 0]) ∧
      TreeAt w.heap.size (fun k => w.heap.size ≤ k ∧ k < w'.heap.size) w' tb ⟨[], [], TA.new 9 9, ab, .slice none 0 0, .slice none 0 0⟩ ∧ Below w.heap.size w w') := Lib.hid (newT_calls 9 9 w.heap.size w (Nat.le_refl _) (by omega) (by omega) (by omega) (by omega))
  have HZ := Lib.hid hz
  have hz0 := hz.lt
  clear hz
  go_enter Tryd.func28, Tryd.ntmps28
  go_upto_region 5 with (first | (go_at_call 35; refine HNT.out.mono ?_; rintro e w1 ⟨tb, ab, rfl, ht1, b1⟩; have H1 := Lib.hid (And.intro ht1 b1); clear ht1 b1) | (go_at_call 29; refine (newR_calls _ _).mono ?_; rintro e w2 ⟨rb, m, rfl, hr2, hn2, b2⟩; have H2 := Lib.hid (And.intro hr2 (And.intro hn2 b2)); clear hr2 hn2 b2))
  have hs1 := H1.out.2.size
  have hs2 := H2.out.2.2.size
  have HZ2 : Hid (NoneAt w2) := Lib.hid ((HZ.out.below H1.out.2).below H2.out.2.2)
  have HM1 : Hid (Calls Tryd.prog 37 #[.pointer (some ⟨tb, 0, none⟩), .agg #[.int .i64 3, .string ByteArray.empty, .slice none 0 0, .slice none 0 0, .int .u32 0, .int .u32 0]] w2 fun e w' => ∃ (s g nb : Nat) (P : Nd) (hv fv : Value), e = .returned (.tuple #[.agg #[.int .u32 (s : Int), .int .u32 (g : Int)], .int .i64 0]) ∧ (P.Bd 1099511627776 ∧ P.slot = 0 ∧ P.gen = 0) ∧ ((TA.new 9 9 : TA (Option Addr)).alloc (some ⟨nb, 0, none⟩)).2 = (s, g, 0) ∧
      TreeAt w.heap.size (fun k => (w.heap.size ≤ k ∧ k < w1.heap.size) ∨ w2.heap.size ≤ k ∧ k < w'.heap.size) w' tb ⟨Made [] s g, [(nb, P)], ((TA.new 9 9 : TA (Option Addr)).alloc (some ⟨nb, 0, none⟩)).1, ab, hv, fv⟩ ∧ FrG [145, 150, 29, 112, 31] (fun k => w.heap.size ≤ k ∧ k < w1.heap.size) w2 w') := Lib.hid (make3 (H1.out.1.below H2.out.2.2) (.inr (by show 0 < 9; omega)) (by show 0 < _; omega))
  go_upto_region 6 with (go_at_call 37; refine HM1.out.mono ?_; rintro e w3 ⟨s1, g1, nb1, P1, hv1, fv1, rfl, hP1, ha1, ht3, hf3⟩; have H3 := Lib.hid (And.intro hP1 (And.intro ha1 (And.intro ht3 hf3))); clear hP1 ha1 ht3 hf3)
  have hs3 := H3.out.2.2.2.size
  obtain ⟨V, hV⟩ : ∃ V, V = w3.alloc (.cells #[.int .u32 (s1 : Int), .int .u32 (g1 : Int)] 31) := ⟨_, rfl⟩
  have HV : Hid (Below w3.heap.size w3 V ∧ V.heap[w3.heap.size]? = some (.cells #[.int .u32 (s1 : Int), .int .u32 (g1 : Int)] 31 (0, 0)) ∧ RT V tb rb m #[] 0 ∧ NoneAt V) := Lib.hid (by
    have bV : Below w3.heap.size w3 V := by rw [hV]; exact (Below.refl _ w3).alloc (Nat.le_refl _) _
    have hr3 : RT w3 tb rb m #[] 0 := ⟨H3.out.2.2.2.blk H2.out.1.blk (by decide), H3.out.2.2.2.block _ _ H2.out.1.map (.inr (fun e he => by cases he))⟩
    exact ⟨bV, by rw [hV]; exact Go.heap_alloc_new w3 _, hr3.below bV, (noneFrg H3.out.2.2.2 HZ2.out (fun h => by omega)).below bV⟩)
  rw [← hV]
  clear hV
  have hsV := HV.out.1.size
  have lV := lt_of_some HV.out.2.1
  have HM2 : Hid (Calls Tryd.prog 37 #[.pointer (some ⟨tb, 0, none⟩), .agg #[.int .i64 3, .string ByteArray.empty, .slice none 0 0, .slice none 0 0, .int .u32 0, .int .u32 0]] V fun e w' => ∃ (s g nb : Nat) (P : Nd) (hv fv : Value), e = .returned (.tuple #[.agg #[.int .u32 (s : Int), .int .u32 (g : Int)], .int .i64 0]) ∧ (((TA.new 9 9 : TA (Option Addr)).alloc (some ⟨nb1, 0, none⟩)).1.alloc (some ⟨nb, 0, none⟩)).2 = (s, g, 0) ∧
      TreeAt w.heap.size (fun k => ((w.heap.size ≤ k ∧ k < w1.heap.size) ∨ w2.heap.size ≤ k ∧ k < w3.heap.size) ∨ V.heap.size ≤ k ∧ k < w'.heap.size) w' tb ⟨Made (Made [] s1 g1) s g, [(nb1, P1), (nb, P)], (((TA.new 9 9 : TA (Option Addr)).alloc (some ⟨nb1, 0, none⟩)).1.alloc (some ⟨nb, 0, none⟩)).1, ab, hv, fv⟩ ∧ FrG [145, 150, 29, 112, 31] (fun k => (w.heap.size ≤ k ∧ k < w1.heap.size) ∨ w2.heap.size ≤ k ∧ k < w3.heap.size) V w') := Lib.hid ((make3 (H3.out.2.2.1.below HV.out.1) (.inr (two_room nb1)) (by show 1 < _; omega)).mono (by
        rintro e w' ⟨s, g, nb, P, hv, fv, rfl, hP, ha, ht, hf⟩
        exact ⟨s, g, nb, P, hv, fv, rfl, ha, ht, hf⟩))
  go_upto_region 7 with (go_at_call 37; refine HM2.out.mono ?_; rintro e w4 ⟨s2, g2, nb2, P2, hv2, fv2, rfl, ha2, ht4, hf4⟩; have H4 := Lib.hid (And.intro ha2 (And.intro ht4 hf4)); clear ha2 ht4 hf4)
  have hs4 := H4.out.2.2.size
  obtain ⟨U, hU⟩ : ∃ U, U = w4.alloc (.cells #[.int .u32 (s2 : Int), .int .u32 (g2 : Int)] 31) := ⟨_, rfl⟩
  obtain ⟨X, hX⟩ : ∃ X : TX, X = ⟨Made (Made [] s1 g1) s2 g2, [(nb1, P1), (nb2, P2)], (((TA.new 9 9 : TA (Option Addr)).alloc (some ⟨nb1, 0, none⟩)).1.alloc (some ⟨nb2, 0, none⟩)).1, ab, hv2, fv2⟩ := ⟨_, rfl⟩
  obtain ⟨xa, hxa⟩ : ∃ x : FN, x = ⟨s1, g1, none, [], true⟩ := ⟨_, rfl⟩
  obtain ⟨xb, hxb⟩ : ∃ x : FN, x = ⟨s2, g2, none, [], true⟩ := ⟨_, rfl⟩
  have HX : Hid ((X.F[0]? = some xa ∧ X.F[1]? = some xb ∧ X.M[0]? = some (nb1, P1)) ∧ (xa.live = true ∧ xa.up = none ∧ xa.down = [] ∧ xa.sl = s1 ∧ xa.gn = g1) ∧ (xb.live = true ∧ xb.up = none ∧ xb.down = [] ∧ xb.sl = s2 ∧ xb.gn = g2) ∧ (liveL X.T = [(1, 1), (2, 1)] ∧ s1 = 1 ∧ g1 = 1 ∧ s2 = 2 ∧ g2 = 1 ∧ (X.T.drop none s2 g2).1.count = 1)) := Lib.hid (by
    rw [hX, hxa, hxb]
    obtain ⟨T, t1, t2, t3, t4, t5⟩ := two_all nb1 nb2
    have e1 := H3.out.2.1
    have e2 := H4.out.1
    rw [t1] at e1
    rw [t2] at e2
    cases e1
    cases e2
    refine ⟨⟨rfl, rfl, rfl⟩, ⟨rfl, rfl, rfl, rfl, rfl⟩, ⟨rfl, rfl, rfl, rfl, rfl⟩, ?_, rfl, rfl, rfl, rfl, ?_⟩
    · show liveL _ = _; rw [t3]; exact t4
    · show (TA.drop _ none 2 1).1.count = 1; rw [t3]; exact t5)
  have HU : Hid (∃ Q, TreeAt w.heap.size Q U tb X ∧ (∀ k, Q k → k < U.heap.size ∧ w.heap.size ≤ k) ∧ NoneAt U ∧ RT U tb rb m #[] 0 ∧ U.heap[w3.heap.size]? = some (.cells #[.int .u32 (s1 : Int), .int .u32 (g1 : Int)] 31 (0, 0)) ∧ U.heap[w4.heap.size]? = some (.cells #[.int .u32 (s2 : Int), .int .u32 (g2 : Int)] 31 (0, 0))) := Lib.hid (by
    have bU : Below w4.heap.size w4 U := by rw [hU]; exact (Below.refl _ w4).alloc (Nat.le_refl _) _
    have hsU := bU.size
    have hr4 : RT w4 tb rb m #[] 0 := ⟨H4.out.2.2.blk HV.out.2.2.1.blk (by decide), H4.out.2.2.block _ _ HV.out.2.2.1.map (.inr (fun e he => by cases he))⟩
    have ht := H4.out.2.1.below bU
    rw [← hX] at ht
    refine ⟨_, ht, fun k hk => ?_, (noneFrg H4.out.2.2 HV.out.2.2.2 (fun h => by omega)).below bU, hr4.below bU, (bU.block _ (by omega)).trans (H4.out.2.2.blkQ HV.out.2.1 (fun h => by omega)), by rw [hU]; exact Go.heap_alloc_new w4 _⟩
    rcases hk with (hk | hk) | hk <;> omega)
  rw [← hU]
  have HBU : Hid (Below w.heap.size w U) := Lib.hid (by
    have b2 : Below w.heap.size w w2 := H1.out.2.trans (H2.out.2.2.mono hs1)
    have b3 := b2.trans (frgLow H3.out.2.2.2 (n := w.heap.size) (fun k h => h.1) (by omega))
    have b4 := (b3.trans (HV.out.1.mono (by omega))).trans (frgLow H4.out.2.2 (n := w.heap.size) (fun k h => by omega) (by omega))
    rw [hU]
    exact b4.alloc b4.size _)
  clear hU hX hxa hxb HM1 HM2 HNT
  obtain ⟨Q, HQ⟩ := HU.out
  have HQ := Lib.hid HQ
  have hrm : rb ≠ m := fun e => by have h1 := HQ.out.2.2.2.1.blk; have h2 := HQ.out.2.2.2.1.map; rw [e, h2] at h1; cases h1
  have HHO : Hid (Calls Tryd.prog 60 #[.pointer (some ⟨rb, 0, none⟩), .agg #[.int .u32 (s1 : Int), .int .u32 (g1 : Int)]] U fun e w' => e = .returned (.int .i64 0) ∧ RT w' tb rb m #[⟨.agg #[.int .u32 (s1 : Int), .int .u32 (g1 : Int)], .int .i64 1, 0⟩] 1 ∧ FrC U w' ∧ ∀ n, n ≤ m → n ≤ U.heap.size → Below n U w') := Lib.hid (by
    have := holdR_calls HQ.out.1 HQ.out.2.2.2.1 hrm HX.out.1.1 HX.out.2.1.1
    rw [HX.out.2.1.2.2.2.1, HX.out.2.1.2.2.2.2] at this
    exact this)
  have hsU : w4.heap.size < U.heap.size := lt_of_some HQ.out.2.2.2.2.2
  have hmU : w1.heap.size ≤ m := H2.out.2.1.2
  have HF5 : Hid (∀ W, RT W tb rb m #[⟨.agg #[.int .u32 (s1 : Int), .int .u32 (g1 : Int)], .int .i64 1, 0⟩] 1 → FrC U W → (∀ n, n ≤ m → n ≤ U.heap.size → Below n U W) → TreeAt w.heap.size Q W tb X ∧ (∀ k, Q k → k < W.heap.size) ∧ NoneAt W ∧ RT W tb rb m #[⟨.agg #[.int .u32 (s1 : Int), .int .u32 (g1 : Int)], .int .i64 1, 0⟩] 1 ∧ W.heap[w3.heap.size]? = some (.cells #[.int .u32 (s1 : Int), .int .u32 (g1 : Int)] 31 (0, 0)) ∧ W.heap[w4.heap.size]? = some (.cells #[.int .u32 (s2 : Int), .int .u32 (g2 : Int)] 31 (0, 0))) := Lib.hid (fun W hr hf hb => by
    have b1 := hb 1 (by omega) (by omega)
    have hz := HQ.out.2.2.1
    exact ⟨HQ.out.1.frc hf, fun k hk => Nat.lt_of_lt_of_le (HQ.out.2.1 k hk).1 hf.size, ⟨(b1.cell (p := ⟨0, 0, none⟩) (by show 0 < 1; omega)).trans hz.a, (b1.cell (p := ⟨0, 1, none⟩) (by show 0 < 1; omega)).trans hz.b⟩, hr, hf.blk _ _ _ _ HQ.out.2.2.2.2.1, hf.blk _ _ _ _ HQ.out.2.2.2.2.2⟩)
  have HHE : Hid (∀ W, TreeAt w.heap.size Q W tb X → RT W tb rb m #[⟨.agg #[.int .u32 (s1 : Int), .int .u32 (g1 : Int)], .int .i64 1, 0⟩] 1 → Calls Tryd.prog 61 #[.pointer (some ⟨rb, 0, none⟩), .agg #[.int .u32 (s1 : Int), .int .u32 (g1 : Int)]] W fun e w' => e = .returned (.int .i64 1) ∧ Below W.heap.size W w') := Lib.hid (fun W ht hr => by
    have := heldR_calls ht hr HX.out.1.1 HX.out.2.1.1
    rw [HX.out.2.1.2.2.2.1, HX.out.2.1.2.2.2.2] at this
    exact this (by rw [hEq_true rfl rfl]; rfl))
  have HHR : Hid (∀ W, TreeAt w.heap.size Q W tb X → RT W tb rb m #[⟨.agg #[.int .u32 (s1 : Int), .int .u32 (g1 : Int)], .int .i64 1, 0⟩] 1 → Calls Tryd.prog 62 #[.pointer (some ⟨rb, 0, none⟩), .agg #[.int .u32 (s2 : Int), .int .u32 (g2 : Int)]] W fun e w' => e = .returned (.int .i64 101) ∧ Below W.heap.size W w') := Lib.hid (fun W ht hr => by
    have := releaseR_none ht hr HX.out.1.2.1 HX.out.2.2.1.1
    rw [HX.out.2.2.1.2.2.2.1, HX.out.2.2.1.2.2.2.2] at this
    exact this (by rw [hEq_false (.inl (by have := HX.out.2.2.2; omega))]; rfl))
  have y0 := cell_blk HQ.out.2.2.2.2.1 0 rfl
  have y1 := cell_blk HQ.out.2.2.2.2.1 1 rfl
  have ly := lt_of_some HQ.out.2.2.2.2.1
  clear hrm
  go_upto_region 9 with (first | (go_at_call 60; refine HHO.out.mono ?_; rintro e w5 ⟨rfl, hr5, hf5, hb5⟩; have H5 := Lib.hid (HF5.out _ hr5 hf5 hb5); have HB5 := Lib.hid (HBU.out.trans (hb5 w.heap.size (by omega) (by omega))); have z0 := cell_blk H5.out.2.2.2.2.1 0 rfl; have z1 := cell_blk H5.out.2.2.2.2.1 1 rfl; have lz := lt_of_some H5.out.2.2.2.2.1; clear hr5 hf5 hb5) | (go_at_call 61; refine (HHE.out _ H5.out.1 H5.out.2.2.2.1).mono ?_; rintro e w6 ⟨rfl, b6⟩; have hx6 := (b6.block _ (lt_of_some H5.out.2.2.2.2.2)).trans H5.out.2.2.2.2.2; have H6 := Lib.hid b6; have u0 := cell_blk hx6 0 rfl; have u1 := cell_blk hx6 1 rfl; have lu := lt_of_some hx6; clear b6 hx6) | (go_at_call 62; refine (HHR.out _ (H5.out.1.below H6.out) (H5.out.2.2.2.1.below H6.out)).mono ?_; rintro e w7 ⟨rfl, b7⟩; have H7 := Lib.hid (H6.out.trans (b7.mono H6.out.size)); clear b7))
  clear u0 u1 lu z0 z1 lz y0 y1 ly hsU hmU
  have HT7 : Hid (∀ W, Below w7.heap.size w7 W → TreeAt w.heap.size Q W tb X ∧ NoneAt W ∧ RT W tb rb m #[⟨.agg #[.int .u32 (s1 : Int), .int .u32 (g1 : Int)], .int .i64 1, 0⟩] 1 ∧ W.heap[w4.heap.size]? = some (.cells #[.int .u32 (s2 : Int), .int .u32 (g2 : Int)] 31 (0, 0)) ∧ (∀ k, Q k → k < W.heap.size)) := Lib.hid (fun W b => by
    have b' := H7.out.trans (b.mono H7.out.size)
    obtain ⟨h1, h2, h3, h4, _, h6⟩ := H5.out
    exact ⟨h1.below b', h3.below b', h4.below b', (b'.block _ (lt_of_some h6)).trans h6, fun k hk => Nat.lt_of_lt_of_le (h2 k hk) b'.size⟩)
  have HE : Hid (flN (s1, g1) [(1, 1), (2, 1)] = [(s2, g2)] ∧ hEq (s2 : Int) (g2 : Int) (s1 : Int) (g1 : Int) = false) := Lib.hid (by
    obtain ⟨_, h1, h2, h3, h4, _⟩ := HX.out.2.2.2
    rw [h1, h2, h3, h4]
    exact ⟨rfl, hEq_false (.inl (by omega))⟩)
  have HDE : Hid (Calls Tryd.prog 63 #[.pointer (some ⟨rb, 0, none⟩)] w7 fun e w' => ∃ g, e = .returned (.slice (some ⟨g, 0, none⟩) 1 1) ∧ Below w7.heap.size w7 w' ∧ w'.cell? ⟨g, 0, none⟩ = some (.int .u32 (s2 : Int)) ∧ w'.cell? ⟨g, 1, none⟩ = some (.int .u32 (g2 : Int))) := Lib.hid (by
    obtain ⟨h1, h3, h4, h6, h2⟩ := HT7.out w7 (Below.refl _ _)
    obtain ⟨⟨x0, x1, xm⟩, ⟨a1, a2, a3, a4, a5⟩, _, hL, _⟩ := HX.out
    rw [← a4, ← a5] at h4
    have hf := HE.out.1
    rw [← a4, ← a5] at hf
    exact dead_calls (y := (s2, g2)) h1 h3 h4 (by omega) x0 a1 a2 (lone_pre h1.fok x0 a3) xm H3.out.1.1 H3.out.1.2 hL hf (by decide))
  have HCO : Hid (∀ W, Below w7.heap.size w7 W → Calls Tryd.prog 64 #[.pointer (some ⟨rb, 0, none⟩)] W fun e w' => e = .returned (.int .i64 1) ∧ ∃ B' Q' X', TreeAt B' Q' w' tb X' ∧ X'.T.count = 1 ∧ Below w.heap.size W w') := Lib.hid (fun W b => by
    obtain ⟨h1, h3, h4, h6, h2⟩ := HT7.out W b
    obtain ⟨⟨x0, x1, xm⟩, ⟨a1, a2, a3, a4, a5⟩, ⟨c1, c2, c3, c4, c5⟩, hL, _, _, _, _, hct⟩ := HX.out
    rw [← a4, ← a5] at h4
    have hf := HE.out
    rw [← a4, ← a5, ← c4, ← c5] at hf
    rw [← c4, ← c5] at hct
    refine (collect_calls h1 h3 h2 h4 (by omega) x0 a1 a2 (lone_pre h1.fok x0 a3) xm H3.out.1.1 H3.out.1.2 x1 c1 c2 c3 hf.2 hL hf.1 (by decide)).mono ?_
    rintro e w' ⟨rfl, ⟨Q', fv, ht⟩, hbl⟩
    exact ⟨rfl, _, Q', _, ht, hct, hbl w.heap.size ((HB5.out.trans (H7.out.mono HB5.out.size)).trans (b.mono (by have := HB5.out.size; have := H7.out.size; omega))).size (fun k hk => (HQ.out.2.1 k hk).2)⟩)
  go_upto_region 10 with (go_at_call 63; refine HDE.out.mono ?_; rintro e w8 ⟨gd, rfl, b8, d0, d1⟩; have H8 := Lib.hid (And.intro b8 (And.intro d0 d1)); clear b8 d0 d1)
  have qe : hEq (s2 : Int) (g2 : Int) (s2 : Int) (g2 : Int) = true := hEq_true rfl rfl
  have HS : Hid (∀ W, Below w8.heap.size w8 W → W.cell? ⟨gd, 0, none⟩ = some (.int .u32 (s2 : Int)) ∧ W.cell? ⟨gd, 1, none⟩ = some (.int .u32 (g2 : Int)) ∧ W.cell? ⟨w4.heap.size, 0, none⟩ = some (.int .u32 (s2 : Int)) ∧ W.cell? ⟨w4.heap.size, 1, none⟩ = some (.int .u32 (g2 : Int))) := Lib.hid (fun W b => by
    have h6 := (HT7.out W (H8.out.1.trans (b.mono H8.out.1.size))).2.2.2.1
    exact ⟨(b.cell (p := ⟨gd, 0, none⟩) (cell_lt H8.out.2.1)).trans H8.out.2.1, (b.cell (p := ⟨gd, 1, none⟩) (cell_lt H8.out.2.2)).trans H8.out.2.2, cell_blk h6 0 rfl, cell_blk h6 1 rfl⟩)
  have HD0 : Hid (Below w8.heap.size w8 w8.drew) := Lib.hid (Below.refl _ _).drew
  refine wp_region_noPanic ?_
  refine wp_region_until_drew (S := (fun W => Below w8.heap.size w8 W)) (k := 12) (by kernel_rfl) ?_
  refine wpAnyU_take (i := 0) (v := ?_) [1, 2, 3, 9, 10, 11, 12] rfl (by as_aux_lemma => kernel_rfl) (by as_aux_lemma => kernel_rfl) (by as_aux_lemma => kernel_rfl) (by as_aux_lemma => kernel_rfl) (by as_aux_lemma => kernel_rfl) (by as_aux_lemma => kernel_rfl) (by as_aux_lemma => kernel_rfl) (fun _ _ _ h => h) (Or.inl ⟨by kernel_rfl, ?_⟩) HD0.out ?_
  rotate_left
  · intro w' hSw; (try dsimp only at hSw); obtain ⟨t1, t2, t3, t4⟩ := HS.out _ hSw; go_simp; try with_reducible rfl
  refine wpAnyU_take (i := 1) (v := ?_) [2, 3, 9, 10, 11, 12] rfl (by as_aux_lemma => kernel_rfl) (by as_aux_lemma => kernel_rfl) (by as_aux_lemma => kernel_rfl) (by as_aux_lemma => kernel_rfl) (by as_aux_lemma => kernel_rfl) (by as_aux_lemma => kernel_rfl) (by as_aux_lemma => kernel_rfl) (fun _ _ _ h => h) (Or.inl ⟨by kernel_rfl, ?_⟩) HD0.out ?_
  rotate_left
  · intro w' hSw; (try dsimp only at hSw); obtain ⟨t1, t2, t3, t4⟩ := HS.out _ hSw; go_simp; try with_reducible rfl
  refine wpAnyU_take (i := 2) (v := ?_) [3, 9, 10, 11, 12] rfl (by as_aux_lemma => kernel_rfl) (by as_aux_lemma => kernel_rfl) (by as_aux_lemma => kernel_rfl) (by as_aux_lemma => kernel_rfl) (by as_aux_lemma => kernel_rfl) (by as_aux_lemma => kernel_rfl) (by as_aux_lemma => kernel_rfl) (fun _ _ _ h => h) (Or.inl ⟨by kernel_rfl, ?_⟩) HD0.out ?_
  rotate_left
  · intro w' hSw; (try dsimp only at hSw); obtain ⟨t1, t2, t3, t4⟩ := HS.out _ hSw; go_simp; try with_reducible rfl
  refine wpAnyU_take (i := 3) (v := ?_) [9, 10, 11, 12] rfl (by as_aux_lemma => kernel_rfl) (by as_aux_lemma => kernel_rfl) (by as_aux_lemma => kernel_rfl) (by as_aux_lemma => kernel_rfl) (by as_aux_lemma => kernel_rfl) (by as_aux_lemma => kernel_rfl) (by as_aux_lemma => kernel_rfl) (fun _ _ _ h => h) (Or.inl ⟨by kernel_rfl, ?_⟩) HD0.out ?_
  rotate_left
  · intro w' hSw; (try dsimp only at hSw); obtain ⟨t1, t2, t3, t4⟩ := HS.out _ hSw; go_simp; try with_reducible rfl
  refine wpAnyU_take (i := 4) (v := ?_) [5, 6, 8, 9, 10, 11, 12] rfl (by as_aux_lemma => kernel_rfl) (by as_aux_lemma => kernel_rfl) (by as_aux_lemma => kernel_rfl) (by as_aux_lemma => kernel_rfl) (by as_aux_lemma => kernel_rfl) (by as_aux_lemma => kernel_rfl) (by as_aux_lemma => kernel_rfl) (fun _ _ _ h => h) (Or.inl ⟨by kernel_rfl, ?_⟩) HD0.out ?_
  rotate_left
  · intro w' hSw; (try dsimp only at hSw); obtain ⟨t1, t2, t3, t4⟩ := HS.out _ hSw; go_simp; try with_reducible rfl
  refine wpAnyU_take (i := 5) (v := ?_) [6, 8, 9, 10, 11, 12] rfl (by as_aux_lemma => kernel_rfl) (by as_aux_lemma => kernel_rfl) (by as_aux_lemma => kernel_rfl) (by as_aux_lemma => kernel_rfl) (by as_aux_lemma => kernel_rfl) (by as_aux_lemma => kernel_rfl) (by as_aux_lemma => kernel_rfl) (fun _ _ _ h => h) (Or.inl ⟨by kernel_rfl, ?_⟩) HD0.out ?_
  rotate_left
  · intro w' hSw; (try dsimp only at hSw); obtain ⟨t1, t2, t3, t4⟩ := HS.out _ hSw; go_simp; try with_reducible rfl
  refine wpAnyU_take (i := 6) (v := ?_) [8, 9, 10, 11, 12] rfl (by as_aux_lemma => kernel_rfl) (by as_aux_lemma => kernel_rfl) (by as_aux_lemma => kernel_rfl) (by as_aux_lemma => kernel_rfl) (by as_aux_lemma => kernel_rfl) (by as_aux_lemma => kernel_rfl) (by as_aux_lemma => kernel_rfl) (fun _ _ _ h => h) (Or.inl ⟨by kernel_rfl, ?_⟩) HD0.out ?_
  rotate_left
  · intro w' hSw; (try dsimp only at hSw); obtain ⟨t1, t2, t3, t4⟩ := HS.out _ hSw; go_simp; try with_reducible rfl
  refine wpAnyU_take (i := 7) (v := ?_) [8, 9, 10, 11, 12] rfl (by as_aux_lemma => kernel_rfl) (by as_aux_lemma => kernel_rfl) (by as_aux_lemma => kernel_rfl) (by as_aux_lemma => kernel_rfl) (by as_aux_lemma => kernel_rfl) (by as_aux_lemma => kernel_rfl) (by as_aux_lemma => kernel_rfl) (fun _ _ _ h => h) (Or.inl ⟨by kernel_rfl, ?_⟩) HD0.out ?_
  rotate_left
  · intro w' hSw; (try dsimp only at hSw); obtain ⟨t1, t2, t3, t4⟩ := HS.out _ hSw; go_simp; try with_reducible rfl
  refine wpAnyU_take (i := 8) (v := ?_) [9, 10, 11, 12] rfl (by as_aux_lemma => kernel_rfl) (by as_aux_lemma => kernel_rfl) (by as_aux_lemma => kernel_rfl) (by as_aux_lemma => kernel_rfl) (by as_aux_lemma => kernel_rfl) (by as_aux_lemma => kernel_rfl) (by as_aux_lemma => kernel_rfl) (fun _ _ _ h => h) (Or.inl ⟨by kernel_rfl, ?_⟩) HD0.out ?_
  rotate_left
  · intro w' hSw; (try dsimp only at hSw); obtain ⟨t1, t2, t3, t4⟩ := HS.out _ hSw; go_simp; try with_reducible rfl
  refine wpAnyU_take (i := 9) (v := ?_) [10, 11, 12] rfl (by as_aux_lemma => kernel_rfl) (by as_aux_lemma => kernel_rfl) (by as_aux_lemma => kernel_rfl) (by as_aux_lemma => kernel_rfl) (by as_aux_lemma => kernel_rfl) (by as_aux_lemma => kernel_rfl) (by as_aux_lemma => kernel_rfl) (fun _ _ _ h => h) (Or.inl ⟨by kernel_rfl, ?_⟩) HD0.out ?_
  rotate_left
  · intro w' hSw; (try dsimp only at hSw); obtain ⟨t1, t2, t3, t4⟩ := HS.out _ hSw; go_simp; try with_reducible rfl
  refine wpAnyU_take (i := 10) (v := ?_) [11, 12] rfl (by as_aux_lemma => kernel_rfl) (by as_aux_lemma => kernel_rfl) (by as_aux_lemma => kernel_rfl) (by as_aux_lemma => kernel_rfl) (by as_aux_lemma => kernel_rfl) (by as_aux_lemma => kernel_rfl) (by as_aux_lemma => kernel_rfl) (fun _ _ _ h => h) (Or.inl ⟨by kernel_rfl, ?_⟩) HD0.out ?_
  rotate_left
  · intro w' hSw; (try dsimp only at hSw); obtain ⟨t1, t2, t3, t4⟩ := HS.out _ hSw; go_simp; try with_reducible rfl
  refine wpAnyU_take (i := 11) (v := ?_) [12] rfl (by as_aux_lemma => kernel_rfl) (by as_aux_lemma => kernel_rfl) (by as_aux_lemma => kernel_rfl) (by as_aux_lemma => kernel_rfl) (by as_aux_lemma => kernel_rfl) (by as_aux_lemma => kernel_rfl) (by as_aux_lemma => kernel_rfl) (fun _ _ _ h => h) (Or.inl ⟨by kernel_rfl, ?_⟩) HD0.out ?_
  rotate_left
  · intro w' hSw; (try dsimp only at hSw); obtain ⟨t1, t2, t3, t4⟩ := HS.out _ hSw; go_simp; try with_reducible rfl
  refine wpAnyU_one (i := 12) (by as_aux_lemma => kernel_rfl) rfl (fun K' hK => ?_)
  go_simp
  go_at_call 64
  refine (HCO.out _ (H8.out.1.trans (HD0.out.mono H8.out.1.size))).mono ?_
  rintro e w9 ⟨rfl, B', Q', X', ht9, hc9, hb9⟩
  have H9 := Lib.hid (countT_calls ht9.rw)
  rw [hc9] at H9
  have HB9 : Hid (Below w.heap.size w w9) := Lib.hid (by
    have c7 := HB5.out.trans (H7.out.mono HB5.out.size)
    have c8 := c7.trans (H8.out.1.mono c7.size)
    exact (c8.trans (HD0.out.mono c8.size)).trans hb9)
  clear ht9 hc9 hb9
  refine hK.out _ _ (fun _ h => absurd rfl h) ?_
  clear hK K'
  refine wpAnyU_one (i := 13) (by as_aux_lemma => kernel_rfl) rfl (fun K' hK => ?_)
  go_simp
  refine hK.out _ _ (fun h => absurd h (by decide)) ?_
  clear hK K'
  refine wpAnyU_one (i := 14) (by as_aux_lemma => kernel_rfl) rfl (fun K' hK => ?_)
  go_simp
  refine hK.out _ _ (fun h => absurd h (by decide)) ?_
  clear hK K'
  refine wpAnyU_one (i := 15) (by as_aux_lemma => kernel_rfl) rfl (fun K' hK => ?_)
  go_simp
  refine hK.out _ _ (fun h => absurd h (by decide)) ?_
  clear hK K'
  refine wpAnyU_one (i := 16) (by as_aux_lemma => kernel_rfl) rfl (fun K' hK => ?_)
  go_simp
  refine hK.out _ _ (fun h => absurd h (by decide)) ?_
  clear hK K'
  refine wpAnyU_one (i := 17) (by as_aux_lemma => kernel_rfl) rfl (fun K' hK => ?_)
  go_simp
  go_at_call 65
  refine H9.out.mono ?_
  rintro e w10 ⟨rfl, b10⟩
  have HB10 := Lib.hid (HB9.out.trans (b10.mono HB9.out.size))
  clear b10
  refine hK.out _ _ (fun h => absurd h (by decide)) ?_
  clear hK K'
  refine wpAnyU_one (i := 18) (by as_aux_lemma => kernel_rfl) rfl (fun K' hK => ?_)
  go_simp
  refine hK.out _ _ (fun h => absurd h (by decide)) ?_
  clear hK K'
  refine wpAnyU_one (i := 19) (by as_aux_lemma => kernel_rfl) rfl (fun K' hK => ?_)
  go_simp
  refine hK.out _ _ (fun h => absurd h (by decide)) ?_
  clear hK K'
  refine wpAnyU_one (i := 20) (by as_aux_lemma => kernel_rfl) rfl (fun K' hK => ?_)
  go_simp
  refine hK.out _ _ (fun h => absurd h (by decide)) ?_
  clear hK K'
  refine wpAnyU_done (by kernel_rfl) ?_ _
  refine NoPanic.normal ?_
  go_wp2_with fail
  go_ret
  exact ⟨rfl, HB10.out⟩
set_option maxHeartbeats 2000000 in
theorem rootsNames_true (w : World) (hz : NoneAt w) : Calls Tryd.prog 5 #[] w fun e w' => e = .returned (.bool true) ∧ Below w.heap.size w w' := by
  have HA := Lib.hid (alive_calls w hz)
  clear hz
  go_enter Tryd.func5, Tryd.ntmps5
  go_wp2_with (first | (go_at_call 28; refine HA.out.mono ?_; rintro e w1 ⟨rfl, b1⟩; have HB := Lib.hid b1; clear b1) | (go_at_call 29; refine (newR_nil _).mono ?_; rintro e w2 ⟨rfl, rfl⟩))
  go_ret
  exact ⟨rfl, HB.out⟩
end Go.Proofs.YtelhnaphkbpakaaDoor
