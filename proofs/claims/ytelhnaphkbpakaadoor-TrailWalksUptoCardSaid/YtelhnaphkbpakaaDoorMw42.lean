/- The law's TrailWalks walked. -/
import Derived.Deep.RegionHeld3
import Derived.Test.YtelhnaphkbpakaaDoorMw41
namespace Go.Proofs.YtelhnaphkbpakaaDoor
open Go.RowKit Go.Shelf
attribute [local go_sem] Oper.semAt_some
set_option linter.unusedVariables false
set_option maxRecDepth 100000

theorem ls_pair {F : For} (ok : FOk F) (s g : Nat) : ∃ Ld Lu : List Nat, LsOf F (preD F) s g Ld ∧ LsOf F (postD F) s g Lu ∧ Lu.length = Ld.length ∧
    ((atI F s g = -1 ∧ ¬ Lv F s g ∧ Ld = [] ∧ Lu = []) ∨ ∃ (k : Nat) (x : FN), atI F s g = (k : Int) ∧ F[k]? = some x ∧ x.live = true ∧ x.sl = s ∧ x.gn = g ∧ Ld = preD F k ∧ Lu = postD F k) := by
  rcases atI_cases F s g with ⟨e, hn⟩ | ⟨k, x, e, hx, hl, hs, hg⟩
  · exact ⟨[], [], .inr ⟨hn, rfl⟩, .inr ⟨hn, rfl⟩, rfl, .inl ⟨e, hn, rfl, rfl⟩⟩
  · exact ⟨preD F k, postD F k, .inl ⟨k, x, hx, hl, hs, hg, rfl⟩, .inl ⟨k, x, hx, hl, hs, hg, rfl⟩, postD_len ok (List.getElem?_eq_some_iff.1 hx).1, .inr ⟨k, x, e, hx, hl, hs, hg, rfl, rfl⟩⟩

set_option maxHeartbeats 16000000 in
theorem trailWalks_calls {w : World} (hz : NoneAt w) {a : Option Addr} {L : List MkV} {cap : Nat} (hL : MksIn w a L) (hlen : L.length ≤ 1099511627776) (hnode : ∀ x ∈ L, 1 ≤ x.m.kind → x.m.kind ≤ 5 → NodeC x)
    {ak : Option Addr} {K : List AkV} {kcap : Nat} (hK : AksIn w ak K) (hklen : K.length ≤ 1099511627776) :
    Calls Tryd.prog 7 #[.slice a L.length cap, .slice ak K.length kcap] w fun e w' => e = .returned (.bool true) ∧ Below w.heap.size w w' := by
  have HZ := Lib.hid hz
  have HAW := Lib.hid (awake8_true w hz)
  have HGR : Hid (∀ W, Below w.heap.size w W → Calls Tryd.prog 9 #[.slice a L.length cap] W fun e w' => ∃ tb fb, e = .returned (.tuple #[.pointer (some ⟨tb, 0, none⟩), .pointer (some ⟨fb, 0, none⟩), .bool true]) ∧ GrPB W L tb fb w') := Lib.hid (fun W b => grownB_calls (hL.low b) hlen hnode)
  have HK := Lib.hid hK
  clear hz hL hnode hK
  obtain ⟨ln, hln⟩ : ∃ n, n = L.length := ⟨_, rfl⟩
  rw [← hln] at HGR ⊢
  obtain ⟨n, hn⟩ : ∃ n, n = K.length := ⟨_, rfl⟩
  rw [← hn] at hklen ⊢
  have HN := Lib.hid hn
  clear hln hlen hn
  go_enter Tryd.func7, Tryd.ntmps7
  go_wp2_with (first | (go_at_call 8; refine HAW.out.mono ?_; rintro e w1 ⟨rfl, b1⟩; have HB1 := Lib.hid b1; clear b1) | (go_at_call 9; refine (HGR.out _ HB1.out).mono ?_; rintro e w2 ⟨tb, fb, rfl, Q, X, R, rv, gi, hB, _, _, hlow, hbd⟩; have HB := Lib.hid hB; have HBD := Lib.hid hbd; have HB2 := Lib.hid (HB1.out.trans (hlow.mono HB1.out.size)); clear hB hlow hbd))
  have HK2 := Lib.hid (HK.out.below HB2.out)
  have HZ2 := Lib.hid (HZ.out.below HB2.out)
  clear HK HGR HAW HB1 HZ
  go_loopg [9] n (fun m v wr => ∃ (i : Nat), v = .int .i64 (i : Int) ∧ Hid (i + m = n ∧ Below w2.heap.size w2 wr))
  case atStart => exact ⟨0, rfl, Lib.hid ⟨by omega, Below.refl _ _⟩⟩
  case round =>
    obtain ⟨i, rfl, hw⟩ := hrel
    have hsum := hw.out.1
    have HWR := Lib.hid hw.out.2
    by_cases hi : i < n
    · have q1 : decide (i < n) = true := by simp; omega
      by_cases hi60 : i < 60
      · have q2 : decide ((i : Int) < 60) = true := by simp; omega
        obtain ⟨x, hx⟩ : ∃ x, K[i]? = some x := ⟨_, List.getElem?_eq_getElem (by have := HN.out; omega)⟩
        obtain ⟨kb, off, ea, hc⟩ := HK2.out.at_ i x hx
        have hxok := HK2.out.ok x (List.mem_of_getElem? hx)
        have c0 := hc 0 _ rfl
        have c2 := hc 2 _ rfl
        have c3 := hc 3 _ rfl
        have c4 := hc 4 _ rfl
        have c5 := hc 5 _ rfl
        rw [Nat.add_zero] at c0
        have lk := cell_lt c0
        simp only at lk
        have HS : Hid (∀ W, Below w2.heap.size w2 W → W.cell? ⟨kb, off + i * 6, none⟩ = some (.int .i64 x.a) ∧ W.cell? ⟨kb, off + i * 6 + 2, none⟩ = some (.int .i64 x.c) ∧ W.cell? ⟨kb, off + i * 6 + 3, none⟩ = some (.int .i64 x.e) ∧ W.cell? ⟨kb, off + i * 6 + 4, none⟩ = some (.int .u32 (x.s : Int)) ∧ W.cell? ⟨kb, off + i * 6 + 5, none⟩ = some (.int .u32 (x.g : Int))) := Lib.hid (fun W b =>
          ⟨(b.cell (p := ⟨kb, _, none⟩) lk).trans c0, (b.cell (p := ⟨kb, _, none⟩) lk).trans c2, (b.cell (p := ⟨kb, _, none⟩) lk).trans c3, (b.cell (p := ⟨kb, _, none⟩) lk).trans c4, (b.cell (p := ⟨kb, _, none⟩) lk).trans c5⟩)
        obtain ⟨sa, ga, hsa, hha⟩ := handle_any HB.out.f HBD.out hxok.a hxok.h
        obtain ⟨sc, gc, hsc, hhc⟩ := handle_any HB.out.f HBD.out hxok.c hxok.h
        have HHA := Lib.hid hha
        have HHC := Lib.hid hhc
        obtain ⟨xa, xc, xe, xs, xg, hxx⟩ : ∃ (a c e : Int) (s g : Nat), a = x.a ∧ c = x.c ∧ e = x.e ∧ s = x.s ∧ g = x.g := ⟨_, _, _, _, _, rfl, rfl, rfl, rfl, rfl⟩
        rw [← hxx.1, ← hxx.2.1, ← hxx.2.2.1, ← hxx.2.2.2.1, ← hxx.2.2.2.2] at HS
        rw [← hxx.1, ← hxx.2.2.2.1, ← hxx.2.2.2.2] at HHA
        rw [← hxx.2.1, ← hxx.2.2.2.1, ← hxx.2.2.2.2] at HHC
        subst ea
        have HSr : Hid (∀ W, Below wr.heap.size wr W → W.cell? ⟨kb, off + i * 6, none⟩ = some (.int .i64 xa) ∧ W.cell? ⟨kb, off + i * 6 + 2, none⟩ = some (.int .i64 xc) ∧ W.cell? ⟨kb, off + i * 6 + 3, none⟩ = some (.int .i64 xe) ∧ W.cell? ⟨kb, off + i * 6 + 4, none⟩ = some (.int .u32 (xs : Int)) ∧ W.cell? ⟨kb, off + i * 6 + 5, none⟩ = some (.int .u32 (xg : Int))) := Lib.hid (fun W b => HS.out W (HWR.out.trans (b.mono HWR.out.size)))
        have HSG := Lib.hid (And.intro hsa hsc)
        have HM : Hid (gk - 1 < gk) := Lib.hid (by omega)
        have HSM : Hid (i + 1 + (gk - 1) = n) := Lib.hid (by omega)
        have wk : IntKind.i64.wrap ((i : Int) + 1) = (i : Int) + 1 := IntWalk.i64_in _ (by omega)
        clear hw c0 c2 c3 c4 c5 hc hx hxok hha hhc hxx hsa hsc lk HN HK2
        have HHAr : Hid (∀ W, Below wr.heap.size wr W → Calls Tryd.prog 10 #[.pointer (some ⟨fb, 0, none⟩), .int .i64 xa, .agg #[.int .u32 (xs : Int), .int .u32 (xg : Int)]] W fun e w' => e = .returned (.agg #[.int .u32 (sa : Int), .int .u32 (ga : Int)]) ∧ Below W.heap.size W w') := Lib.hid (fun W b => HHA.out W (HWR.out.trans (b.mono HWR.out.size)))
        have HHCr : Hid (∀ W, Below wr.heap.size wr W → Calls Tryd.prog 10 #[.pointer (some ⟨fb, 0, none⟩), .int .i64 xc, .agg #[.int .u32 (xs : Int), .int .u32 (xg : Int)]] W fun e w' => e = .returned (.agg #[.int .u32 (sc : Int), .int .u32 (gc : Int)]) ∧ Below W.heap.size W w') := Lib.hid (fun W b => HHC.out W (HWR.out.trans (b.mono HWR.out.size)))
        clear HHA HHC HS
        have HD0 : Hid (Below wr.heap.size wr (wr.alloc (.cells #[.int .u32 0, .int .u32 0] 31)).drew ∧ (wr.alloc (.cells #[.int .u32 0, .int .u32 0] 31)).drew.heap[wr.heap.size]? = some (.cells #[.int .u32 0, .int .u32 0] 31 (0, 0))) := Lib.hid ⟨((Below.refl _ wr).alloc (Nat.le_refl _) _).drew, Go.heap_alloc_new wr _⟩
        have HD1 : Hid (Below wr.heap.size wr wr.drew) := Lib.hid (Below.refl _ wr).drew
        go_upto_region 8 with fail
        go_cut [10] from 232 (fun v10 wc => ∃ b, v10 = .pointer (some ⟨b, 0, none⟩) ∧ Hid (Below wr.heap.size wr wc ∧ wc.heap[b]? = some (.cells #[.int .u32 (sa : Int), .int .u32 (ga : Int)] 31 (0, 0)) ∧ wr.heap.size ≤ b))
        case first =>
          go_region_held3 (fun W => W.cell? ⟨kb, off + i * 6, none⟩ = some (.int .i64 xa) ∧ W.cell? ⟨kb, off + i * 6 + 2, none⟩ = some (.int .i64 xc) ∧ W.cell? ⟨kb, off + i * 6 + 3, none⟩ = some (.int .i64 xe) ∧ W.cell? ⟨kb, off + i * 6 + 4, none⟩ = some (.int .u32 (xs : Int)) ∧ W.cell? ⟨kb, off + i * 6 + 5, none⟩ = some (.int .u32 (xg : Int))) (first | exact HSr.out _ ((HB3.out.setCell (Nat.le_refl _) _).setCell (Nat.le_refl _) _) | exact HSr.out _ (HB3.out.alloc HB3.out.size _) | exact HSr.out _ HB3.out | exact HSr.out _ HD0.out.1 | exact HSr.out _ HD1.out) (first | (go_at_call 10; refine (HHAr.out _ HD0.out.1).mono ?_; rintro e w3 ⟨rfl, b3⟩; have HB3 := Lib.hid (HD0.out.1.trans (b3.mono HD0.out.1.size)); have hb3 := (b3.block _ (lt_of_some HD0.out.2)).trans HD0.out.2; have f0 := free_blk hb3 0; have f1 := free_blk hb3 1; have g0 := cell_blk hb3 0 rfl; have g1 := cell_blk hb3 1 rfl; have l3 := lt_of_some hb3; have HX3 := Lib.hid hb3; clear b3 hb3) | (go_at_call 10; refine (HHAr.out _ HD1.out).mono ?_; rintro e w3 ⟨rfl, b3⟩; have HB3 := Lib.hid (HD1.out.trans (b3.mono HD1.out.size)); clear b3))
          all_goals go_wp2_with fail
          all_goals go_meet
          all_goals first | exact ⟨w3.heap.size, rfl, Lib.hid ⟨HB3.out.alloc HB3.out.size _, Go.heap_alloc_new w3 _, HB3.out.size⟩⟩ | exact ⟨wr.heap.size, rfl, Lib.hid ⟨(HB3.out.setCell (Nat.le_refl _) _).setCell (Nat.le_refl _) _, set_blk (set_blk HX3.out 0 _) 1 _, Nat.le_refl _⟩⟩
        case rest =>
          obtain ⟨b10, rfl, hw4⟩ := hcut
          generalize wc = w4 at *
          have HS4 : Hid (∀ W, Below w4.heap.size w4 W → W.cell? ⟨kb, off + i * 6, none⟩ = some (.int .i64 xa) ∧ W.cell? ⟨kb, off + i * 6 + 2, none⟩ = some (.int .i64 xc) ∧ W.cell? ⟨kb, off + i * 6 + 3, none⟩ = some (.int .i64 xe) ∧ W.cell? ⟨kb, off + i * 6 + 4, none⟩ = some (.int .u32 (xs : Int)) ∧ W.cell? ⟨kb, off + i * 6 + 5, none⟩ = some (.int .u32 (xg : Int))) := Lib.hid (fun W b => HSr.out W (hw4.out.1.trans (b.mono hw4.out.1.size)))
          have HHC4 : Hid (∀ W, Below w4.heap.size w4 W → Calls Tryd.prog 10 #[.pointer (some ⟨fb, 0, none⟩), .int .i64 xc, .agg #[.int .u32 (xs : Int), .int .u32 (xg : Int)]] W fun e w' => e = .returned (.agg #[.int .u32 (sc : Int), .int .u32 (gc : Int)]) ∧ Below W.heap.size W w') := Lib.hid (fun W b => HHCr.out W (hw4.out.1.trans (b.mono hw4.out.1.size)))
          have HW4 := Lib.hid (And.intro (HWR.out.trans (hw4.out.1.mono HWR.out.size)) hw4.out.2.1)
          clear hw4 HSr HHAr HHCr HD0 HD1 HWR
          have HD0 : Hid (Below w4.heap.size w4 (w4.alloc (.cells #[.int .u32 0, .int .u32 0] 31)).drew ∧ (w4.alloc (.cells #[.int .u32 0, .int .u32 0] 31)).drew.heap[w4.heap.size]? = some (.cells #[.int .u32 0, .int .u32 0] 31 (0, 0))) := Lib.hid ⟨((Below.refl _ w4).alloc (Nat.le_refl _) _).drew, Go.heap_alloc_new w4 _⟩
          have HD1 : Hid (Below w4.heap.size w4 w4.drew) := Lib.hid (Below.refl _ w4).drew
          go_upto_region 9 with fail
          go_cut [11] from 232 (fun v11 wc => ∃ b, v11 = .pointer (some ⟨b, 0, none⟩) ∧ Hid (Below w4.heap.size w4 wc ∧ wc.heap[b]? = some (.cells #[.int .u32 (sc : Int), .int .u32 (gc : Int)] 31 (0, 0)) ∧ w4.heap.size ≤ b))
          case first =>
            go_region_held3 (fun W => W.cell? ⟨kb, off + i * 6, none⟩ = some (.int .i64 xa) ∧ W.cell? ⟨kb, off + i * 6 + 2, none⟩ = some (.int .i64 xc) ∧ W.cell? ⟨kb, off + i * 6 + 3, none⟩ = some (.int .i64 xe) ∧ W.cell? ⟨kb, off + i * 6 + 4, none⟩ = some (.int .u32 (xs : Int)) ∧ W.cell? ⟨kb, off + i * 6 + 5, none⟩ = some (.int .u32 (xg : Int))) (first | exact HS4.out _ ((HB3.out.setCell (Nat.le_refl _) _).setCell (Nat.le_refl _) _) | exact HS4.out _ (HB3.out.alloc HB3.out.size _) | exact HS4.out _ HB3.out | exact HS4.out _ HD0.out.1 | exact HS4.out _ HD1.out) (first | (go_at_call 10; refine (HHC4.out _ HD0.out.1).mono ?_; rintro e w3 ⟨rfl, b3⟩; have HB3 := Lib.hid (HD0.out.1.trans (b3.mono HD0.out.1.size)); have hb3 := (b3.block _ (lt_of_some HD0.out.2)).trans HD0.out.2; have f0 := free_blk hb3 0; have f1 := free_blk hb3 1; have g0 := cell_blk hb3 0 rfl; have g1 := cell_blk hb3 1 rfl; have l3 := lt_of_some hb3; have HX3 := Lib.hid hb3; clear b3 hb3) | (go_at_call 10; refine (HHC4.out _ HD1.out).mono ?_; rintro e w3 ⟨rfl, b3⟩; have HB3 := Lib.hid (HD1.out.trans (b3.mono HD1.out.size)); clear b3))
            all_goals go_wp2_with fail
            all_goals go_meet
            all_goals first | exact ⟨w3.heap.size, rfl, Lib.hid ⟨HB3.out.alloc HB3.out.size _, Go.heap_alloc_new w3 _, HB3.out.size⟩⟩ | exact ⟨w4.heap.size, rfl, Lib.hid ⟨(HB3.out.setCell (Nat.le_refl _) _).setCell (Nat.le_refl _) _, set_blk (set_blk HX3.out 0 _) 1 _, Nat.le_refl _⟩⟩
          case rest =>
            obtain ⟨b11, rfl, hw5⟩ := hcut
            generalize wc = V at *
            have HV : Hid (Below w2.heap.size w2 V) := Lib.hid (HW4.out.1.trans (hw5.out.1.mono HW4.out.1.size))
            have HBX : Hid (∀ W, Below V.heap.size V W → (W.cell? ⟨b10, 0, none⟩ = some (.int .u32 (sa : Int)) ∧ W.cell? ⟨b10, 1, none⟩ = some (.int .u32 (ga : Int)) ∧ W.cell? ⟨b11, 0, none⟩ = some (.int .u32 (sc : Int)) ∧ W.cell? ⟨b11, 1, none⟩ = some (.int .u32 (gc : Int))) ∧ (b10 < W.heap.size ∧ b11 < W.heap.size) ∧ Below w2.heap.size w2 W ∧ W.cell? ⟨kb, off + i * 6 + 3, none⟩ = some (.int .i64 xe)) := Lib.hid (fun W b => by
              have h10 := (b.block _ (Nat.lt_of_lt_of_le (lt_of_some HW4.out.2) hw5.out.1.size)).trans ((hw5.out.1.block _ (lt_of_some HW4.out.2)).trans HW4.out.2)
              have h11 := (b.block _ (lt_of_some hw5.out.2.1)).trans hw5.out.2.1
              exact ⟨⟨cell_blk h10 0 rfl, cell_blk h10 1 rfl, cell_blk h11 0 rfl, cell_blk h11 1 rfl⟩, ⟨lt_of_some h10, lt_of_some h11⟩, HV.out.trans (b.mono HV.out.size), (HS4.out W (hw5.out.1.trans (b.mono hw5.out.1.size))).2.2.1⟩)
            clear hw5 HS4 HHC4 HD0 HD1 HW4
            obtain ⟨⟨c0, c1, c2, c3⟩, ⟨l0, l1⟩, _⟩ := HBX.out V (Below.refl _ V)
            have HAT : Hid (∀ W s g, Below V.heap.size V W → Calls Tryd.prog 11 #[.pointer (some ⟨fb, 0, none⟩), .agg #[.int .u32 ((s : Nat) : Int), .int .u32 ((g : Nat) : Int)]] W fun e w' => e = .returned (.int .i64 (atI X.F s g)) ∧ Below W.heap.size W w') := Lib.hid (fun W s g b => rat_calls (HB.out.f.below (HBX.out W b).2.2.1) s g)
            have HV0 : Hid (Below V.heap.size V V) := Lib.hid (Below.refl _ _)
            obtain ⟨Ld, Lu, hLd, hLu, hlu, hls⟩ := ls_pair HB.out.t.fok sa ga
            have HLS := Lib.hid (And.intro hLd (And.intro hLu hlu))
            have HLC := Lib.hid hls
            clear hLd hLu hlu hls
            obtain ⟨vx, hvx⟩ : ∃ z, z = atI X.F sa ga := ⟨_, rfl⟩
            obtain ⟨vr, hvr⟩ : ∃ z, z = atI X.F sc gc := ⟨_, rfl⟩
            have HAT1 : Hid (∀ W, Below V.heap.size V W → Calls Tryd.prog 11 #[.pointer (some ⟨fb, 0, none⟩), .agg #[.int .u32 (sa : Int), .int .u32 (ga : Int)]] W fun e w' => e = .returned (.int .i64 vx) ∧ Below W.heap.size W w') := Lib.hid (fun W b => by rw [hvx]; exact HAT.out W sa ga b)
            have HAT2 : Hid (∀ W, Below V.heap.size V W → Calls Tryd.prog 11 #[.pointer (some ⟨fb, 0, none⟩), .agg #[.int .u32 (sc : Int), .int .u32 (gc : Int)]] W fun e w' => e = .returned (.int .i64 vr) ∧ Below W.heap.size W w') := Lib.hid (fun W b => by rw [hvr]; exact HAT.out W sc gc b)
            have HVX := Lib.hid (And.intro hvx hvr)
            clear hvx hvr HAT
            go_upto_if 82 with (first | (have hh := HB6; go_at_call 11; refine (HAT2.out _ HB6.out).mono ?_; rintro e w7 ⟨rfl, b7⟩; have HB7 := Lib.hid (HB6.out.trans (b7.mono HB6.out.size)); clear b7 hh) | (go_at_call 11; refine (HAT1.out _ HV0.out).mono ?_; rintro e w6 ⟨rfl, b6⟩; have HB6 := Lib.hid (HV0.out.trans (b6.mono HV0.out.size)); obtain ⟨⟨d0, d1, d2, d3⟩, ⟨dl0, dl1⟩, _⟩ := HBX.out w6 HB6.out; clear b6))
            obtain ⟨nl, hnl⟩ : ∃ m, m = Ld.length := ⟨_, rfl⟩
            have HNL := Lib.hid hnl
            clear hnl d0 d1 d2 d3 dl0 dl1 c0 c1 c2 c3 l0 l1 HAT1 HAT2
            go_cut [14, 15] from 232 (fun v14 v15 wc => ∃ wa ka wu ku, (v14 = .slice wa nl ka ∧ v15 = .slice wu nl ku) ∧ Hid (Below V.heap.size V wc ∧ (∃ base, wc.ownsRow base 3 1 (.slice wa nl ka) nl (icells Ld)) ∧ ∃ base, wc.ownsRow base 3 1 (.slice wu nl ku) nl (icells Lu)))
            case first =>
              rcases HLC.out with ⟨e1, hd1, eL, eU⟩ | ⟨k, xk, e1, hk, hkl, hks, hkg, eL, eU⟩
              · rw [← HVX.out.1] at e1
                subst e1
                have q3 : decide ((0 : Int) ≤ -1) = false := by decide
                have hn0 : nl = 0 := by rw [HNL.out, eL]; rfl
                subst hn0
                have HE := Lib.hid (And.intro eL eU)
                clear hd1 eL eU
                go_wp2_with fail
                go_meet
                case rel => exact ⟨none, 0, none, 0, ⟨rfl, rfl⟩, Lib.hid ⟨HB7.out, ⟨w7.heap.size, by rw [HE.out.1]; exact World.ownsRow_nil _ _ _ _⟩, ⟨w7.heap.size, by rw [HE.out.2]; exact World.ownsRow_nil _ _ _ _⟩⟩⟩
              · rw [← HVX.out.1] at e1
                have hkl2 := (List.getElem?_eq_some_iff.1 hk).1
                subst e1
                have q3 : decide ((0 : Int) ≤ (k : Int)) = true := by simp
                have HDN : Hid (∀ W, Below V.heap.size V W → Calls Tryd.prog 31 #[.pointer (some ⟨fb, 0, none⟩), .int .i64 (k : Int)] W fun e w' => ∃ wa ka, e = .returned (.slice wa nl ka) ∧ w'.ownsRow W.heap.size 3 1 (.slice wa nl ka) nl (icells Ld) ∧ Below W.heap.size W w') := Lib.hid (fun W b => (rdown_calls HB.out.f HB.out.t.fok k hkl2 W (HBX.out W b).2.2.1).mono (by
                  rintro e w' ⟨v, rfl, h1, h2⟩
                  rw [← eL, ← HNL.out] at h1
                  obtain ⟨wa, ka, rfl⟩ := row_slice h1
                  exact ⟨wa, ka, rfl, h1, h2⟩))
                have HUP : Hid (∀ W, Below V.heap.size V W → Calls Tryd.prog 32 #[.pointer (some ⟨fb, 0, none⟩), .int .i64 (k : Int)] W fun e w' => ∃ wa ka, e = .returned (.slice wa nl ka) ∧ w'.ownsRow W.heap.size 3 1 (.slice wa nl ka) nl (icells Lu) ∧ Below W.heap.size W w') := Lib.hid (fun W b => (rup_calls HB.out.f HB.out.t.fok k hkl2 W (HBX.out W b).2.2.1).mono (by
                  rintro e w' ⟨v, rfl, h1, h2⟩
                  rw [← eU, HLS.out.2.2, ← HNL.out] at h1
                  obtain ⟨wa, ka, rfl⟩ := row_slice h1
                  exact ⟨wa, ka, rfl, h1, h2⟩))
                clear hk hkl hks hkg eL eU hkl2
                go_wp2_with (first | (go_at_call 32; refine (HUP.out _ HB8.out.1).mono ?_; rintro e w9 ⟨wu, ku, rfl, hr9, b9⟩; have HB9 := Lib.hid (And.intro (HB8.out.1.trans (b9.mono HB8.out.1.size)) (And.intro (row_below HB8.out.2 b9) hr9)); clear hr9 b9) | (go_at_call 31; refine (HDN.out _ HB7.out).mono ?_; rintro e w8 ⟨wa, ka, rfl, hr8, b8⟩; have HB8 := Lib.hid (And.intro (HB7.out.trans (b8.mono HB7.out.size)) hr8); clear hr8 b8))
                go_meet
                case rel => exact ⟨wa, ka, wu, ku, ⟨rfl, rfl⟩, Lib.hid ⟨HB9.out.1, ⟨_, HB9.out.2.1⟩, ⟨_, HB9.out.2.2⟩⟩⟩
            case rest =>
              obtain ⟨wa, ka, wu, ku, ⟨rfl, rfl⟩, hw⟩ := hcut
              generalize wc = wd at *
              have HWD := Lib.hid hw.out
              clear hw HB7
              have HSD : Hid (∀ W, Below wd.heap.size wd W → (W.cell? ⟨b10, 0, none⟩ = some (.int .u32 (sa : Int)) ∧ W.cell? ⟨b10, 1, none⟩ = some (.int .u32 (ga : Int)) ∧ W.cell? ⟨kb, off + i * 6 + 3, none⟩ = some (.int .i64 xe)) ∧ Below w2.heap.size w2 W ∧ Below V.heap.size V W) := Lib.hid (fun W b => by
                have hbV := HWD.out.1.trans (b.mono HWD.out.1.size)
                obtain ⟨⟨c0, c1, _, _⟩, _, h2, h3⟩ := HBX.out W hbV
                exact ⟨⟨c0, c1, h3⟩, h2, hbV⟩)
              have HDC : Hid (∀ W, Below wd.heap.size wd W → Calls Tryd.prog 26 #[.pointer (some ⟨tb, 0, none⟩), .agg #[.int .u32 (sa : Int), .int .u32 (ga : Int)]] W fun e w' => ∃ Bt Bh, e = .returned (.func (.func 56) #[] #[.pointer (some ⟨Bt, 0, none⟩), .pointer (some ⟨Bh, 0, none⟩)]) ∧ Below wd.heap.size wd w' ∧ w'.heap[Bt]? = some (.cells #[.pointer (some ⟨tb, 0, none⟩)] 25 (0, 0)) ∧ w'.heap[Bh]? = some (.cells #[.int .u32 (sa : Int), .int .u32 (ga : Int)] 31 (0, 0))) := Lib.hid (fun W b => (downT_calls W _ _ _).mono (by
                rintro e w' ⟨rfl, rfl⟩
                exact ⟨_, _, rfl, b.trans ((((Below.refl _ W).alloc (Nat.le_refl _) _).alloc (by simp) _).mono b.size), alloc2_at W _ _, alloc2_blk W _ _⟩))
              have HUC : Hid (∀ W, Below wd.heap.size wd W → Calls Tryd.prog 27 #[.pointer (some ⟨tb, 0, none⟩), .agg #[.int .u32 (sa : Int), .int .u32 (ga : Int)]] W fun e w' => ∃ Bt Bh, e = .returned (.func (.func 57) #[] #[.pointer (some ⟨Bt, 0, none⟩), .pointer (some ⟨Bh, 0, none⟩)]) ∧ Below wd.heap.size wd w' ∧ w'.heap[Bt]? = some (.cells #[.pointer (some ⟨tb, 0, none⟩)] 25 (0, 0)) ∧ w'.heap[Bh]? = some (.cells #[.int .u32 (sa : Int), .int .u32 (ga : Int)] 31 (0, 0))) := Lib.hid (fun W b => (upT_calls W _ _ _).mono (by
                rintro e w' ⟨rfl, rfl⟩
                exact ⟨_, _, rfl, b.trans ((((Below.refl _ W).alloc (Nat.le_refl _) _).alloc (by simp) _).mono b.size), alloc2_at W _ _, alloc2_blk W _ _⟩))
              have HT1 : Hid (∀ W Bt Bh, Below wd.heap.size wd W → W.heap[Bt]? = some (.cells #[.pointer (some ⟨tb, 0, none⟩)] 25 (0, 0)) → W.heap[Bh]? = some (.cells #[.int .u32 (sa : Int), .int .u32 (ga : Int)] 31 (0, 0)) → Calls Tryd.prog 33 #[.pointer (some ⟨fb, 0, none⟩), .func (.func 56) #[] #[.pointer (some ⟨Bt, 0, none⟩), .pointer (some ⟨Bh, 0, none⟩)], .slice wa nl ka, .int .i64 xe] W fun e w' => e = .returned (.bool true) ∧ Below W.heap.size W w') := Lib.hid (fun W Bt Bh b h1 h2 => by
                have hb2 := (HSD.out W b).2.1
                obtain ⟨base, hrow⟩ := HWD.out.2.1
                exact told_down (HB.out.t.below hb2) (HB.out.f.below hb2) (HZ2.out.below hb2) HSG.out.1 h1 h2 (row_below hrow b) HNL.out.symm HLS.out.1)
              have HT2 : Hid (∀ W Bt Bh, Below wd.heap.size wd W → W.heap[Bt]? = some (.cells #[.pointer (some ⟨tb, 0, none⟩)] 25 (0, 0)) → W.heap[Bh]? = some (.cells #[.int .u32 (sa : Int), .int .u32 (ga : Int)] 31 (0, 0)) → Calls Tryd.prog 33 #[.pointer (some ⟨fb, 0, none⟩), .func (.func 57) #[] #[.pointer (some ⟨Bt, 0, none⟩), .pointer (some ⟨Bh, 0, none⟩)], .slice wu nl ku, .int .i64 xe] W fun e w' => e = .returned (.bool true) ∧ Below W.heap.size W w') := Lib.hid (fun W Bt Bh b h1 h2 => by
                have hb2 := (HSD.out W b).2.1
                obtain ⟨base, hrow⟩ := HWD.out.2.2
                exact told_up (HB.out.t.below hb2) (HB.out.f.below hb2) (HZ2.out.below hb2) HSG.out.1 h1 h2 (row_below hrow b) (HLS.out.2.2.trans HNL.out.symm) HLS.out.2.1)
              have HDD : Hid (Below wd.heap.size wd wd.drew) := Lib.hid (Below.refl _ wd).drew
              go_upto_region 17 with fail
              go_cut [16] from 232 (fun v16 wc => v16 = .bool true ∧ Hid (Below wd.heap.size wd wc))
              case first =>
                go_region_held3 (fun W => W.cell? ⟨b10, 0, none⟩ = some (.int .u32 (sa : Int)) ∧ W.cell? ⟨b10, 1, none⟩ = some (.int .u32 (ga : Int)) ∧ W.cell? ⟨kb, off + i * 6 + 3, none⟩ = some (.int .i64 xe)) (first | exact (HSD.out _ HB11.out).1 | exact (HSD.out _ HB10.out.1).1 | exact (HSD.out _ HDD.out).1) (first | (have hh := HB10; go_at_call 33; refine (HT1.out _ _ _ HB10.out.1 HB10.out.2.1 HB10.out.2.2).mono ?_; rintro e w11 ⟨rfl, b11⟩; have HB11 := Lib.hid (HB10.out.1.trans (b11.mono HB10.out.1.size)); clear b11 hh) | (go_at_call 26; refine (HDC.out _ HDD.out).mono ?_; rintro e w10 ⟨Bt, Bh, rfl, h1, h2, h3⟩; have HB10 := Lib.hid (And.intro h1 (And.intro h2 h3)); clear h1 h2 h3))
                all_goals go_wp2_with fail
                all_goals go_meet
                all_goals exact ⟨rfl, HB11⟩
              case rest =>
                obtain ⟨rfl, hwe⟩ := hcut
                generalize wc = we at *
                clear HDD HDC HT1
                have HDD : Hid (Below wd.heap.size wd we.drew) := Lib.hid hwe.out.drew
                go_upto_region 18 with fail
                go_cut [17] from 232 (fun v17 wc => v17 = .bool true ∧ Hid (Below wd.heap.size wd wc))
                case first =>
                  go_region_held3 (fun W => W.cell? ⟨b10, 0, none⟩ = some (.int .u32 (sa : Int)) ∧ W.cell? ⟨b10, 1, none⟩ = some (.int .u32 (ga : Int)) ∧ W.cell? ⟨kb, off + i * 6 + 3, none⟩ = some (.int .i64 xe)) (first | exact (HSD.out _ HB11.out).1 | exact (HSD.out _ HB10.out.1).1 | exact (HSD.out _ HDD.out).1) (first | (have hh := HB10; go_at_call 33; refine (HT2.out _ _ _ HB10.out.1 HB10.out.2.1 HB10.out.2.2).mono ?_; rintro e w11 ⟨rfl, b11⟩; have HB11 := Lib.hid (HB10.out.1.trans (b11.mono HB10.out.1.size)); clear b11 hh) | (go_at_call 27; refine (HUC.out _ HDD.out).mono ?_; rintro e w10 ⟨Bt, Bh, rfl, h1, h2, h3⟩; have HB10 := Lib.hid (And.intro h1 (And.intro h2 h3)); clear h1 h2 h3))
                  all_goals go_wp2_with fail
                  all_goals go_meet
                  all_goals exact ⟨rfl, HB11⟩
                case rest =>
                  obtain ⟨rfl, hwf⟩ := hcut
                  generalize wc = wf at *
                  have HF0 : Hid (Below V.heap.size V wf) := Lib.hid (HWD.out.1.trans (hwf.out.mono HWD.out.1.size))
                  clear HDD HUC HT2 hwe hwf HSD HWD
                  obtain ⟨g, nh, ph, hnx, hcase⟩ := walk_next HB.out.t HB.out.f HZ2.out HSG.out.1 HSG.out.2
                  rw [← HVX.out.1, ← HVX.out.2] at hcase
                  have HCASE := Lib.hid hcase
                  have HNX : Hid (∀ W, Below V.heap.size V W → Calls Tryd.prog 23 #[.pointer (some ⟨tb, 0, none⟩), .agg #[.int .u32 (sa : Int), .int .u32 (ga : Int)], .agg #[.int .u32 (sc : Int), .int .u32 (gc : Int)]] W fun e w' => e = .returned (.tuple #[.agg #[.int .u32 (nh.1 : Int), .int .u32 (nh.2 : Int)], .int .i64 g]) ∧ Below W.heap.size W w') := Lib.hid (fun W b => hnx.next W (HBX.out W b).2.2.1)
                  have HPV : Hid (∀ W, Below V.heap.size V W → Calls Tryd.prog 24 #[.pointer (some ⟨tb, 0, none⟩), .agg #[.int .u32 (sa : Int), .int .u32 (ga : Int)], .agg #[.int .u32 (sc : Int), .int .u32 (gc : Int)]] W fun e w' => e = .returned (.tuple #[.agg #[.int .u32 (ph.1 : Int), .int .u32 (ph.2 : Int)], .int .i64 g]) ∧ Below W.heap.size W w') := Lib.hid (fun W b => hnx.prev W (HBX.out W b).2.2.1)
                  obtain ⟨ev, hev, hsz⟩ : ∃ ev : Int, ((ev = 0 ∧ ∃ k : Nat, vx = (k : Int)) ∨ (ev = 51 ∧ vx = -1)) ∧ ∀ W, Below V.heap.size V W → Calls Tryd.prog 25 #[.pointer (some ⟨tb, 0, none⟩), .agg #[.int .u32 (sa : Int), .int .u32 (ga : Int)]] W fun e w' => e = .returned (.tuple #[.int .i64 (nl : Int), .int .i64 ev]) ∧ Below W.heap.size W w' := by
                    rcases HLC.out with ⟨e1, hd1, eL, eU⟩ | ⟨k, xk, e1, hk, hkl, hks, hkg, eL, eU⟩
                    · refine ⟨51, .inr ⟨rfl, by rw [HVX.out.1, e1]⟩, fun W b => ?_⟩
                      have hb2 := (HBX.out W b).2.2.1
                      have := sizeT_dead (HB.out.t.below hb2).rw HSG.out.1 hd1
                      rw [HNL.out, eL]
                      exact this
                    · refine ⟨0, .inl ⟨rfl, k, by rw [HVX.out.1, e1]⟩, fun W b => ?_⟩
                      have hb2 := (HBX.out W b).2.2.1
                      have := sizeT_calls (HB.out.t.below hb2) (HZ2.out.below hb2) hk hkl
                      rw [hks, hkg] at this
                      rw [HNL.out, eL]
                      exact this
                  have HEV := Lib.hid hev
                  have HSZ := Lib.hid hsz
                  clear hnx hcase hev hsz HLC HLS HNL
                  obtain ⟨⟨c0, c1, c2, c3⟩, ⟨l0, l1⟩, _⟩ := HBX.out wf HF0.out
                  go_upto_region 22 with (first | (have hh := HB13; go_at_call 24; refine (HPV.out _ (HB13.out.alloc HB13.out.size _)).mono ?_; rintro e w14 ⟨rfl, b14⟩; have HB14 := Lib.hid ((HB13.out.alloc HB13.out.size _).trans (b14.mono (HB13.out.alloc HB13.out.size _).size)); have h20 := (b14.block _ (lt_of_some (Go.heap_alloc_new w13 _))).trans (Go.heap_alloc_new w13 (.cells #[.int .u32 (nh.1 : Int), .int .u32 (nh.2 : Int)] 31)); have HX14 := Lib.hid h20; have k0 := cell_blk h20 0 rfl; have k1 := cell_blk h20 1 rfl; have lk2 := lt_of_some h20; clear b14 hh h20) | (have hh := HB12; go_at_call 23; refine (HNX.out _ HB12.out).mono ?_; rintro e w13 ⟨rfl, b13⟩; have HB13 := Lib.hid (HB12.out.trans (b13.mono HB12.out.size)); obtain ⟨⟨y0, y1, y2, y3⟩, ⟨yl0, yl1⟩, _⟩ := HBX.out w13 HB13.out; clear b13 hh) | (go_at_call 25; refine (HSZ.out _ HF0.out).mono ?_; rintro e w12 ⟨rfl, b12⟩; have HB12 := Lib.hid (HF0.out.trans (b12.mono HF0.out.size)); obtain ⟨⟨d0, d1, d2, d3⟩, ⟨dl0, dl1⟩, _⟩ := HBX.out w12 HB12.out; clear b12))
                  have HZB : Hid (Below V.heap.size V (w14.alloc (.cells #[.int .u32 (ph.1 : Int), .int .u32 (ph.2 : Int)] 31)) ∧ (w14.alloc (.cells #[.int .u32 (ph.1 : Int), .int .u32 (ph.2 : Int)] 31)).heap[w13.heap.size]? = some (.cells #[.int .u32 (nh.1 : Int), .int .u32 (nh.2 : Int)] 31 (0, 0)) ∧ (w14.alloc (.cells #[.int .u32 (ph.1 : Int), .int .u32 (ph.2 : Int)] 31)).heap[w14.heap.size]? = some (.cells #[.int .u32 (ph.1 : Int), .int .u32 (ph.2 : Int)] 31 (0, 0))) := Lib.hid ⟨HB14.out.alloc HB14.out.size _, alloc_blk HX14.out _, Go.heap_alloc_new w14 _⟩
                  clear k0 k1 lk2 c0 c1 c2 c3 d0 d1 d2 d3 y0 y1 y2 y3 yl0 yl1 dl0 dl1 HB12 HX14 HNX HPV HSZ HF0
                  generalize w14.alloc (.cells #[.int .u32 (ph.1 : Int), .int .u32 (ph.2 : Int)] 31) = wz at HZB ⊢
                  clear HB13 HB14
                  generalize w13.heap.size = z1 at *
                  generalize w14.heap.size = z2 at *
                  obtain ⟨n1, n2⟩ := nh
                  obtain ⟨p1, p2⟩ := ph
                  have HZC : Hid (∀ W, Below wz.heap.size wz W → (W.cell? ⟨z1, 0, none⟩ = some (.int .u32 (n1 : Int)) ∧ W.cell? ⟨z1, 1, none⟩ = some (.int .u32 (n2 : Int)) ∧ W.cell? ⟨z2, 0, none⟩ = some (.int .u32 (p1 : Int)) ∧ W.cell? ⟨z2, 1, none⟩ = some (.int .u32 (p2 : Int))) ∧ Below w2.heap.size w2 W) := Lib.hid (fun W b => by
                    have h1 := (b.block _ (lt_of_some HZB.out.2.1)).trans HZB.out.2.1
                    have h2 := (b.block _ (lt_of_some HZB.out.2.2)).trans HZB.out.2.2
                    exact ⟨⟨cell_blk h1 0 rfl, cell_blk h1 1 rfl, cell_blk h2 0 rfl, cell_blk h2 1 rfl⟩, (HBX.out W (HZB.out.1.trans (b.mono HZB.out.1.size))).2.2.1⟩)
                  have HB0 : Hid (Below wz.heap.size wz wz) := Lib.hid (Below.refl _ _)
                  have HVR := Lib.hid (atI_cases X.F sc gc)
                  have hvr2 := HVX.out.2
                  clear HBX HZB
                  obtain ⟨⟨k0, k1, k2, k3⟩, _⟩ := HZC.out wz HB0.out
                  have q0 : hEq 0 0 0 0 = true := hEq_true rfl rfl
                  rcases HEV.out with ⟨rfl, k, rfl⟩ | ⟨rfl, rfl⟩
                  · have e1 : decide ((0 : Int) ≤ (k : Int)) = true := by simp
                    have e2 : decide ((k : Int) < 0) = false := by simp
                    rcases HVR.out with ⟨er, _⟩ | ⟨r, xr, er, _⟩
                    · obtain ⟨_, rfl, hn0, hp0⟩ : _ ∧ g = 51 ∧ (n1, n2) = (0, 0) ∧ (p1, p2) = (0, 0) := by
                        rcases HCASE.out with h | ⟨⟨_, h⟩, _⟩
                        · exact h
                        · rw [hvr2, er] at h; exact absurd h (by decide)
                      obtain ⟨rfl, rfl⟩ := Prod.mk.inj hn0
                      obtain ⟨rfl, rfl⟩ := Prod.mk.inj hp0
                      rw [er] at hvr2
                      have HVR2 := Lib.hid hvr2
                      subst hvr2
                      have e3 : decide ((-1 : Int) < 0) = true := by decide
                      clear er hn0 hp0
                      go_wp2_with fail
                      go_roundg (gk - 1)
                      case measure => exact HM.out
                      case rel => exact ⟨i + 1, by go_num, Lib.hid ⟨HSM.out, (HZC.out _ HB0.out).2⟩⟩
                    · obtain ⟨_, is, j, kk, hs1, hs2, hcs⟩ : (0 ≤ (k : Int) ∧ 0 ≤ vr) ∧ ∃ is, ∃ j kk : Int, (∀ W, Below w2.heap.size w2 W → Calls Tryd.prog 34 #[.pointer (some ⟨fb, 0, none⟩), .int .i64 (k : Int), .int .i64 vr, .int .i64 1] W fun e w' => e = .returned (.tuple #[.int .i64 j, .bool is]) ∧ Below W.heap.size W w') ∧
                          (∀ W, Below w2.heap.size w2 W → Calls Tryd.prog 34 #[.pointer (some ⟨fb, 0, none⟩), .int .i64 (k : Int), .int .i64 vr, .int .i64 (-1)] W fun e w' => e = .returned (.tuple #[.int .i64 kk, .bool is]) ∧ Below W.heap.size W w') ∧
                          ((is = false ∧ g = 1 ∧ (n1, n2) = (0, 0) ∧ (p1, p2) = (0, 0)) ∨ (is = true ∧ g = 0 ∧
                          (∀ W, Below w2.heap.size w2 W → Calls Tryd.prog 19 #[.pointer (some ⟨fb, 0, none⟩), .int .i64 j] W fun e w' => e = .returned (.agg #[.int .u32 (n1 : Int), .int .u32 (n2 : Int)]) ∧ Below W.heap.size W w') ∧
                          (∀ W, Below w2.heap.size w2 W → Calls Tryd.prog 19 #[.pointer (some ⟨fb, 0, none⟩), .int .i64 kk] W fun e w' => e = .returned (.agg #[.int .u32 (p1 : Int), .int .u32 (p2 : Int)]) ∧ Below W.heap.size W w'))) := by
                        rcases HCASE.out with ⟨h, _⟩ | ⟨h, is, ⟨j, kk, hh⟩⟩
                        · rcases h with h | h
                          · omega
                          · rw [hvr2, er] at h; omega
                        · exact ⟨h, is, j, kk, hh⟩
                      rw [er] at hvr2
                      subst hvr2
                      have e3 : decide ((r : Int) < 0) = false := by simp
                      have HS1 : Hid (∀ W, Below wz.heap.size wz W → Calls Tryd.prog 34 #[.pointer (some ⟨fb, 0, none⟩), .int .i64 (k : Int), .int .i64 (r : Int), .int .i64 1] W fun e w' => e = .returned (.tuple #[.int .i64 j, .bool is]) ∧ Below W.heap.size W w') := Lib.hid (fun W b => hs1 W (HZC.out W b).2)
                      have HS2 : Hid (∀ W, Below wz.heap.size wz W → Calls Tryd.prog 34 #[.pointer (some ⟨fb, 0, none⟩), .int .i64 (k : Int), .int .i64 (r : Int), .int .i64 (-1)] W fun e w' => e = .returned (.tuple #[.int .i64 kk, .bool is]) ∧ Below W.heap.size W w') := Lib.hid (fun W b => hs2 W (HZC.out W b).2)
                      have HCS := Lib.hid hcs
                      clear er hs1 hs2 hcs HCASE HEV HVX
                      rcases HCS.out with ⟨rfl, rfl, hn0, hp0⟩ | ⟨rfl, rfl, hh1, hh2⟩
                      · obtain ⟨rfl, rfl⟩ := Prod.mk.inj hn0
                        obtain ⟨rfl, rfl⟩ := Prod.mk.inj hp0
                        clear hn0 hp0
                        go_wp2_with (first | (have hh := HB15; go_at_call 34; refine (HS2.out _ HB15.out).mono ?_; rintro e w16 ⟨rfl, b16⟩; have HB16 := Lib.hid (HB15.out.trans (b16.mono HB15.out.size)); obtain ⟨⟨a0, a1, a2, a3⟩, _⟩ := HZC.out w16 HB16.out; clear b16 hh) | (go_at_call 34; refine (HS1.out _ HB0.out).mono ?_; rintro e w15 ⟨rfl, b15⟩; have HB15 := Lib.hid (HB0.out.trans (b15.mono HB0.out.size)); clear b15))
                        go_roundg (gk - 1)
                        case measure => exact HM.out
                        case rel => exact ⟨i + 1, by go_num, Lib.hid ⟨HSM.out, (HZC.out _ HB16.out).2⟩⟩
                      · have HH1 : Hid (∀ W, Below wz.heap.size wz W → Calls Tryd.prog 19 #[.pointer (some ⟨fb, 0, none⟩), .int .i64 j] W fun e w' => e = .returned (.agg #[.int .u32 (n1 : Int), .int .u32 (n2 : Int)]) ∧ Below W.heap.size W w') := Lib.hid (fun W b => hh1 W (HZC.out W b).2)
                        have HH2 : Hid (∀ W, Below wz.heap.size wz W → Calls Tryd.prog 19 #[.pointer (some ⟨fb, 0, none⟩), .int .i64 kk] W fun e w' => e = .returned (.agg #[.int .u32 (p1 : Int), .int .u32 (p2 : Int)]) ∧ Below W.heap.size W w') := Lib.hid (fun W b => hh2 W (HZC.out W b).2)
                        have qn : hEq (n1 : Int) (n2 : Int) (n1 : Int) (n2 : Int) = true := hEq_true rfl rfl
                        have qp : hEq (p1 : Int) (p2 : Int) (p1 : Int) (p2 : Int) = true := hEq_true rfl rfl
                        clear hh1 hh2
                        go_upto_region 32 with (first | (have hh := HB15; go_at_call 34; refine (HS2.out _ HB15.out).mono ?_; rintro e w16 ⟨rfl, b16⟩; have HB16 := Lib.hid (HB15.out.trans (b16.mono HB15.out.size)); clear b16 hh) | (go_at_call 34; refine (HS1.out _ HB0.out).mono ?_; rintro e w15 ⟨rfl, b15⟩; have HB15 := Lib.hid (HB0.out.trans (b15.mono HB0.out.size)); clear b15))
                        have HDD : Hid (Below wz.heap.size wz w16.drew) := Lib.hid HB16.out.drew
                        clear k0 k1 k2 k3
                        go_cut [231] from 232 (fun v231 wc => v231 = .bool false ∧ Hid (Below wz.heap.size wz wc))
                        case first =>
                          go_region_held3 (fun W => W.cell? ⟨z1, 0, none⟩ = some (.int .u32 (n1 : Int)) ∧ W.cell? ⟨z1, 1, none⟩ = some (.int .u32 (n2 : Int)) ∧ W.cell? ⟨z2, 0, none⟩ = some (.int .u32 (p1 : Int)) ∧ W.cell? ⟨z2, 1, none⟩ = some (.int .u32 (p2 : Int))) (first | exact (HZC.out _ HB18.out).1 | exact (HZC.out _ HB17.out).1 | exact (HZC.out _ HDD.out).1) (first | (have hh := HB17; go_at_call 19; refine (HH2.out _ HB17.out).mono ?_; rintro e w18 ⟨rfl, b18⟩; have HB18 := Lib.hid (HB17.out.trans (b18.mono HB17.out.size)); clear b18 hh) | (go_at_call 19; refine (HH1.out _ HDD.out).mono ?_; rintro e w17 ⟨rfl, b17⟩; have HB17 := Lib.hid (HDD.out.trans (b17.mono HDD.out.size)); clear b17))
                          all_goals go_wp2_with fail
                          all_goals go_meet
                          all_goals exact ⟨rfl, HB18⟩
                        case rest =>
                          obtain ⟨rfl, hwg⟩ := hcut
                          go_wp2_with fail
                          go_roundg (gk - 1)
                          case measure => exact HM.out
                          case rel => exact ⟨i + 1, by go_num, Lib.hid ⟨HSM.out, (HZC.out _ hwg.out).2⟩⟩
                  · obtain ⟨_, rfl, hn0, hp0⟩ : _ ∧ g = 51 ∧ (n1, n2) = (0, 0) ∧ (p1, p2) = (0, 0) := by
                      rcases HCASE.out with h | ⟨⟨h, _⟩, _⟩
                      · exact h
                      · exact absurd h (by decide)
                    obtain ⟨rfl, rfl⟩ := Prod.mk.inj hn0
                    obtain ⟨rfl, rfl⟩ := Prod.mk.inj hp0
                    have e1 : decide ((0 : Int) ≤ (-1 : Int)) = false := by decide
                    have e2 : decide ((-1 : Int) < 0) = true := by decide
                    clear hn0 hp0 hvr2
                    go_wp2_with fail
                    go_roundg (gk - 1)
                    case measure => exact HM.out
                    case rel => exact ⟨i + 1, by go_num, Lib.hid ⟨HSM.out, (HZC.out _ HB0.out).2⟩⟩
      · have q2 : decide ((i : Int) < 60) = false := by simp; omega
        go_wp2_with fail
        try rw [Exit.noGoto_ret]
        go_ret
        exact ⟨rfl, HB2.out.trans (HWR.out.mono HB2.out.size)⟩
    · have q1 : decide (i < n) = false := by simp; omega
      go_wp2_with fail
      try rw [Exit.noGoto_ret]
      go_ret
      exact ⟨rfl, HB2.out.trans (HWR.out.mono HB2.out.size)⟩
end Go.Proofs.YtelhnaphkbpakaaDoor

