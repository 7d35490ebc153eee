/- Part 50 of the proof of TpP: lemmas. -/
import Derived.Test.YtelhnaphkbpakaaDoorMp49
namespace Go.Proofs.YtelhnaphkbpakaaDoor
open Go.RowKit Go.Shelf
attribute [local go_sem] Oper.semAt_some
set_option linter.unusedVariables false
set_option maxRecDepth 100000
set_option maxHeartbeats 16000000 in
theorem trailPairs_calls {w : World} (hz : NoneAt w) {a : Option Addr} {L : List MkV} {cap : Nat} (hL : MksIn w a L) (hlen : L.length ≤ 1099511627776) (hnode : ∀ x ∈ L, 1 ≤ x.m.kind → x.m.kind ≤ 5 → NodeC x)
  {ak : Option Addr} {K : List AkV} {kcap : Nat} (hK : AksIn w ak K) (hklen : K.length ≤ 1099511627776) :
  Calls Tryd.prog 3 #[.slice a L.length cap, .slice ak K.length kcap] w fun e w' => e = .returned (.bool true) ∧ Below w.heap.size w w' := by
 have HZ := Lib.hid hz
 have HAW := Lib.hid (awake8_true w hz)
 have HGR : Hid (∀ W, Below w.heap.size w W → Calls Tryd.prog 9 #[.slice a L.length cap] W fun e w' => ∃ tb fb, e = .returned (.tuple #[.pointer (some ⟨tb, 0, none⟩), .pointer (some ⟨fb, 0, none⟩), .bool true]) ∧ GrPB W L tb fb w') := Lib.hid (fun W b => grownB_calls (hL.low b) hlen hnode)
 have HK := Lib.hid hK
 clear hz hL hnode hK
 obtain ⟨ln, hln⟩ : ∃ n, n = L.length := ⟨_, rfl⟩
 rw [← hln] at HGR ⊢
 obtain ⟨n, hn⟩ : ∃ n, n = K.length := ⟨_, rfl⟩
 rw [← hn] at hklen ⊢
 have HN := Lib.hid hn
 clear hln hlen hn
 go_enter Tryd.func3, Tryd.ntmps3
 go_wp2_with (first | (go_at_call 8; refine HAW.out.mono ?_; rintro e w1 ⟨rfl, b1⟩; have HB1 := Lib.hid b1; clear b1) | (go_at_call 9; refine (HGR.out _ HB1.out).mono ?_; rintro e w2 ⟨tb, fb, rfl, Q, X, R, rv, gi, hB, _, _, hlow, hbd⟩; have HB := Lib.hid hB; have HBD := Lib.hid hbd; have HB2 := Lib.hid (HB1.out.trans (hlow.mono HB1.out.size)); clear hB hlow hbd))
 have HK2 := Lib.hid (HK.out.below HB2.out)
 have HZ2 := Lib.hid (HZ.out.below HB2.out)
 clear HK HGR HAW HB1 HZ
 go_loopg [9] n (fun m v wr => ∃ (i : Nat), v = .int .i64 (i : Int) ∧ Hid (i + m = n ∧ Below w2.heap.size w2 wr))
 case atStart => exact ⟨0, rfl, Lib.hid ⟨by omega, Below.refl _ _⟩⟩
 case round =>
  obtain ⟨i, rfl, hw⟩ := hrel
  have hsum := hw.out.1
  have HWR := Lib.hid hw.out.2
  by_cases hi : i < n
  ·have q1 : decide (i < n) = true := by simp; omega
   by_cases hi60 : i < 100
   ·have q2 : decide ((i : Int) < 100) = true := by simp; omega
    obtain ⟨x, hx⟩ : ∃ x, K[i]? = some x := ⟨_, List.getElem?_eq_getElem (by have := HN.out; omega)⟩
    obtain ⟨kb, off, ea, hc⟩ := HK2.out.at_ i x hx
    have hxok := HK2.out.ok x (List.mem_of_getElem? hx)
    have c0 := hc 0 _ rfl
    have c2 := hc 1 _ rfl
    have c3 := hc 3 _ rfl
    have c4 := hc 4 _ rfl
    have c5 := hc 5 _ rfl
    rw [Nat.add_zero] at c0
    have lk := cell_lt c0
    simp only at lk
    have HS : Hid (∀ W, Below w2.heap.size w2 W → W.cell? ⟨kb, off + i * 6, none⟩ = some (.int .i64 x.a) ∧ W.cell? ⟨kb, off + i * 6 + 1, none⟩ = some (.int .i64 x.b) ∧ W.cell? ⟨kb, off + i * 6 + 3, none⟩ = some (.int .i64 x.e) ∧ W.cell? ⟨kb, off + i * 6 + 4, none⟩ = some (.int .u32 (x.s : Int)) ∧ W.cell? ⟨kb, off + i * 6 + 5, none⟩ = some (.int .u32 (x.g : Int))) := Lib.hid (fun W b =>
     ⟨(b.cell (p := ⟨kb, _, none⟩) lk).trans c0, (b.cell (p := ⟨kb, _, none⟩) lk).trans c2, (b.cell (p := ⟨kb, _, none⟩) lk).trans c3, (b.cell (p := ⟨kb, _, none⟩) lk).trans c4, (b.cell (p := ⟨kb, _, none⟩) lk).trans c5⟩)
    obtain ⟨sa, ga, hsa, hha⟩ := handle_any HB.out.f HBD.out hxok.a hxok.h
    obtain ⟨sc, gc, hsc, hhc⟩ := handle_any HB.out.f HBD.out hxok.b hxok.h
    have HHA := Lib.hid hha
    have HHC := Lib.hid hhc
    obtain ⟨xa, xc, xe, xs, xg, hxx⟩ : ∃ (a c e : Int) (s g : Nat), a = x.a ∧ c = x.b ∧ e = x.e ∧ s = x.s ∧ g = x.g := ⟨_, _, _, _, _, rfl, rfl, rfl, rfl, rfl⟩
    rw [← hxx.1, ← hxx.2.1, ← hxx.2.2.1, ← hxx.2.2.2.1, ← hxx.2.2.2.2] at HS
    rw [← hxx.1, ← hxx.2.2.2.1, ← hxx.2.2.2.2] at HHA
    rw [← hxx.2.1, ← hxx.2.2.2.1, ← hxx.2.2.2.2] at HHC
    subst ea
    have HSr : Hid (∀ W, Below wr.heap.size wr W → W.cell? ⟨kb, off + i * 6, none⟩ = some (.int .i64 xa) ∧ W.cell? ⟨kb, off + i * 6 + 1, none⟩ = some (.int .i64 xc) ∧ W.cell? ⟨kb, off + i * 6 + 3, none⟩ = some (.int .i64 xe) ∧ W.cell? ⟨kb, off + i * 6 + 4, none⟩ = some (.int .u32 (xs : Int)) ∧ W.cell? ⟨kb, off + i * 6 + 5, none⟩ = some (.int .u32 (xg : Int))) := Lib.hid (fun W b => HS.out W (HWR.out.trans (b.mono HWR.out.size)))
    have HSG := Lib.hid (And.intro hsa hsc)
    have HM : Hid (gk - 1 < gk) := Lib.hid (by omega)
    have HSM : Hid (i + 1 + (gk - 1) = n) := Lib.hid (by omega)
    have wk : IntKind.i64.wrap ((i : Int) + 1) = (i : Int) + 1 := IntWalk.i64_in _ (by omega)
    clear hw c0 c2 c3 c4 c5 hc hx hxok hha hhc hxx hsa hsc lk HN HK2
    have HHAr : Hid (∀ W, Below wr.heap.size wr W → Calls Tryd.prog 10 #[.pointer (some ⟨fb, 0, none⟩), .int .i64 xa, .agg #[.int .u32 (xs : Int), .int .u32 (xg : Int)]] W fun e w' => e = .returned (.agg #[.int .u32 (sa : Int), .int .u32 (ga : Int)]) ∧ Below W.heap.size W w') := Lib.hid (fun W b => HHA.out W (HWR.out.trans (b.mono HWR.out.size)))
    have HHCr : Hid (∀ W, Below wr.heap.size wr W → Calls Tryd.prog 10 #[.pointer (some ⟨fb, 0, none⟩), .int .i64 xc, .agg #[.int .u32 (xs : Int), .int .u32 (xg : Int)]] W fun e w' => e = .returned (.agg #[.int .u32 (sc : Int), .int .u32 (gc : Int)]) ∧ Below W.heap.size W w') := Lib.hid (fun W b => HHC.out W (HWR.out.trans (b.mono HWR.out.size)))
    clear HHA HHC HS
    have HD0 : Hid (Below wr.heap.size wr (wr.alloc (.cells #[.int .u32 0, .int .u32 0] 31)).drew ∧ (wr.alloc (.cells #[.int .u32 0, .int .u32 0] 31)).drew.heap[wr.heap.size]? = some (.cells #[.int .u32 0, .int .u32 0] 31 (0, 0))) := Lib.hid ⟨((Below.refl _ wr).alloc (Nat.le_refl _) _).drew, Go.heap_alloc_new wr _⟩
    have HD1 : Hid (Below wr.heap.size wr wr.drew) := Lib.hid (Below.refl _ wr).drew
    go_upto_region 8 with fail
    go_cut [10] from 248 (fun v10 wc => ∃ b, v10 = .pointer (some ⟨b, 0, none⟩) ∧ Hid (Below wr.heap.size wr wc ∧ wc.heap[b]? = some (.cells #[.int .u32 (sa : Int), .int .u32 (ga : Int)] 31 (0, 0)) ∧ wr.heap.size ≤ b))
    case first =>
     go_region_held3 (fun W => W.cell? ⟨kb, off + i * 6, none⟩ = some (.int .i64 xa) ∧ W.cell? ⟨kb, off + i * 6 + 1, none⟩ = some (.int .i64 xc) ∧ W.cell? ⟨kb, off + i * 6 + 3, none⟩ = some (.int .i64 xe) ∧ W.cell? ⟨kb, off + i * 6 + 4, none⟩ = some (.int .u32 (xs : Int)) ∧ W.cell? ⟨kb, off + i * 6 + 5, none⟩ = some (.int .u32 (xg : Int))) (first | exact HSr.out _ ((HB3.out.setCell (Nat.le_refl _) _).setCell (Nat.le_refl _) _) | exact HSr.out _ (HB3.out.alloc HB3.out.size _) | exact HSr.out _ HB3.out | exact HSr.out _ HD0.out.1 | exact HSr.out _ HD1.out) (first | (go_at_call 10; refine (HHAr.out _ HD0.out.1).mono ?_; rintro e w3 ⟨rfl, b3⟩; have HB3 := Lib.hid (HD0.out.1.trans (b3.mono HD0.out.1.size)); have hb3 := (b3.block _ (lt_of_some HD0.out.2)).trans HD0.out.2; have f0 := free_blk hb3 0; have f1 := free_blk hb3 1; have g0 := cell_blk hb3 0 rfl; have g1 := cell_blk hb3 1 rfl; have l3 := lt_of_some hb3; have HX3 := Lib.hid hb3; clear b3 hb3) | (go_at_call 10; refine (HHAr.out _ HD1.out).mono ?_; rintro e w3 ⟨rfl, b3⟩; have HB3 := Lib.hid (HD1.out.trans (b3.mono HD1.out.size)); clear b3))
     all_goals go_wp2_with fail
     all_goals go_meet
     all_goals first | exact ⟨w3.heap.size, rfl, Lib.hid ⟨HB3.out.alloc HB3.out.size _, Go.heap_alloc_new w3 _, HB3.out.size⟩⟩ | exact ⟨wr.heap.size, rfl, Lib.hid ⟨(HB3.out.setCell (Nat.le_refl _) _).setCell (Nat.le_refl _) _, set_blk (set_blk HX3.out 0 _) 1 _, Nat.le_refl _⟩⟩
    case rest =>
     obtain ⟨b10, rfl, hw4⟩ := hcut
     generalize wc = w4 at *
     have HS4 : Hid (∀ W, Below w4.heap.size w4 W → W.cell? ⟨kb, off + i * 6, none⟩ = some (.int .i64 xa) ∧ W.cell? ⟨kb, off + i * 6 + 1, none⟩ = some (.int .i64 xc) ∧ W.cell? ⟨kb, off + i * 6 + 3, none⟩ = some (.int .i64 xe) ∧ W.cell? ⟨kb, off + i * 6 + 4, none⟩ = some (.int .u32 (xs : Int)) ∧ W.cell? ⟨kb, off + i * 6 + 5, none⟩ = some (.int .u32 (xg : Int))) := Lib.hid (fun W b => HSr.out W (hw4.out.1.trans (b.mono hw4.out.1.size)))
     have HHC4 : Hid (∀ W, Below w4.heap.size w4 W → Calls Tryd.prog 10 #[.pointer (some ⟨fb, 0, none⟩), .int .i64 xc, .agg #[.int .u32 (xs : Int), .int .u32 (xg : Int)]] W fun e w' => e = .returned (.agg #[.int .u32 (sc : Int), .int .u32 (gc : Int)]) ∧ Below W.heap.size W w') := Lib.hid (fun W b => HHCr.out W (hw4.out.1.trans (b.mono hw4.out.1.size)))
     have HW4 := Lib.hid (And.intro (HWR.out.trans (hw4.out.1.mono HWR.out.size)) hw4.out.2.1)
     clear hw4 HSr HHAr HHCr HD0 HD1 HWR
     have HD0 : Hid (Below w4.heap.size w4 (w4.alloc (.cells #[.int .u32 0, .int .u32 0] 31)).drew ∧ (w4.alloc (.cells #[.int .u32 0, .int .u32 0] 31)).drew.heap[w4.heap.size]? = some (.cells #[.int .u32 0, .int .u32 0] 31 (0, 0))) := Lib.hid ⟨((Below.refl _ w4).alloc (Nat.le_refl _) _).drew, Go.heap_alloc_new w4 _⟩
     have HD1 : Hid (Below w4.heap.size w4 w4.drew) := Lib.hid (Below.refl _ w4).drew
     go_upto_region 9 with fail
     go_cut [11] from 248 (fun v11 wc => ∃ b, v11 = .pointer (some ⟨b, 0, none⟩) ∧ Hid (Below w4.heap.size w4 wc ∧ wc.heap[b]? = some (.cells #[.int .u32 (sc : Int), .int .u32 (gc : Int)] 31 (0, 0)) ∧ w4.heap.size ≤ b))
     case first =>
      go_region_held3 (fun W => W.cell? ⟨kb, off + i * 6, none⟩ = some (.int .i64 xa) ∧ W.cell? ⟨kb, off + i * 6 + 1, none⟩ = some (.int .i64 xc) ∧ W.cell? ⟨kb, off + i * 6 + 3, none⟩ = some (.int .i64 xe) ∧ W.cell? ⟨kb, off + i * 6 + 4, none⟩ = some (.int .u32 (xs : Int)) ∧ W.cell? ⟨kb, off + i * 6 + 5, none⟩ = some (.int .u32 (xg : Int))) (first | exact HS4.out _ ((HB3.out.setCell (Nat.le_refl _) _).setCell (Nat.le_refl _) _) | exact HS4.out _ (HB3.out.alloc HB3.out.size _) | exact HS4.out _ HB3.out | exact HS4.out _ HD0.out.1 | exact HS4.out _ HD1.out) (first | (go_at_call 10; refine (HHC4.out _ HD0.out.1).mono ?_; rintro e w3 ⟨rfl, b3⟩; have HB3 := Lib.hid (HD0.out.1.trans (b3.mono HD0.out.1.size)); have hb3 := (b3.block _ (lt_of_some HD0.out.2)).trans HD0.out.2; have f0 := free_blk hb3 0; have f1 := free_blk hb3 1; have g0 := cell_blk hb3 0 rfl; have g1 := cell_blk hb3 1 rfl; have l3 := lt_of_some hb3; have HX3 := Lib.hid hb3; clear b3 hb3) | (go_at_call 10; refine (HHC4.out _ HD1.out).mono ?_; rintro e w3 ⟨rfl, b3⟩; have HB3 := Lib.hid (HD1.out.trans (b3.mono HD1.out.size)); clear b3))
      all_goals go_wp2_with fail
      all_goals go_meet
      all_goals first | exact ⟨w3.heap.size, rfl, Lib.hid ⟨HB3.out.alloc HB3.out.size _, Go.heap_alloc_new w3 _, HB3.out.size⟩⟩ | exact ⟨w4.heap.size, rfl, Lib.hid ⟨(HB3.out.setCell (Nat.le_refl _) _).setCell (Nat.le_refl _) _, set_blk (set_blk HX3.out 0 _) 1 _, Nat.le_refl _⟩⟩
     case rest =>
      obtain ⟨b11, rfl, hw5⟩ := hcut
      generalize wc = V at *
      have HV : Hid (Below w2.heap.size w2 V) := Lib.hid (HW4.out.1.trans (hw5.out.1.mono HW4.out.1.size))
      have HBX : Hid (∀ W, Below V.heap.size V W → (W.cell? ⟨b10, 0, none⟩ = some (.int .u32 (sa : Int)) ∧ W.cell? ⟨b10, 1, none⟩ = some (.int .u32 (ga : Int)) ∧ W.cell? ⟨b11, 0, none⟩ = some (.int .u32 (sc : Int)) ∧ W.cell? ⟨b11, 1, none⟩ = some (.int .u32 (gc : Int))) ∧ (b10 < W.heap.size ∧ b11 < W.heap.size) ∧ Below w2.heap.size w2 W ∧ W.cell? ⟨kb, off + i * 6 + 3, none⟩ = some (.int .i64 xe)) := Lib.hid (fun W b => by
       have h10 := (b.block _ (Nat.lt_of_lt_of_le (lt_of_some HW4.out.2) hw5.out.1.size)).trans ((hw5.out.1.block _ (lt_of_some HW4.out.2)).trans HW4.out.2)
       have h11 := (b.block _ (lt_of_some hw5.out.2.1)).trans hw5.out.2.1
       exact ⟨⟨cell_blk h10 0 rfl, cell_blk h10 1 rfl, cell_blk h11 0 rfl, cell_blk h11 1 rfl⟩, ⟨lt_of_some h10, lt_of_some h11⟩, HV.out.trans (b.mono HV.out.size), (HS4.out W (hw5.out.1.trans (b.mono hw5.out.1.size))).2.2.1⟩)
      clear hw5 HS4 HHC4 HD0 HD1 HW4
      obtain ⟨⟨c0, c1, c2, c3⟩, ⟨l0, l1⟩, _⟩ := HBX.out V (Below.refl _ V)
      have HAT : Hid (∀ W s g, Below V.heap.size V W → Calls Tryd.prog 11 #[.pointer (some ⟨fb, 0, none⟩), .agg #[.int .u32 ((s : Nat) : Int), .int .u32 ((g : Nat) : Int)]] W fun e w' => e = .returned (.int .i64 (atI X.F s g)) ∧ Below W.heap.size W w') := Lib.hid (fun W s g b => rat_calls (HB.out.f.below (HBX.out W b).2.2.1) s g)
      have HV0 : Hid (Below V.heap.size V V) := Lib.hid (Below.refl _ _)
      obtain ⟨vx, hvx⟩ : ∃ z, z = atI X.F sa ga := ⟨_, rfl⟩
      obtain ⟨vr, hvr⟩ : ∃ z, z = atI X.F sc gc := ⟨_, rfl⟩
      have HAT1 : Hid (∀ W, Below V.heap.size V W → Calls Tryd.prog 11 #[.pointer (some ⟨fb, 0, none⟩), .agg #[.int .u32 (sa : Int), .int .u32 (ga : Int)]] W fun e w' => e = .returned (.int .i64 vx) ∧ Below W.heap.size W w') := Lib.hid (fun W b => by rw [hvx]; exact HAT.out W sa ga b)
      have HAT2 : Hid (∀ W, Below V.heap.size V W → Calls Tryd.prog 11 #[.pointer (some ⟨fb, 0, none⟩), .agg #[.int .u32 (sc : Int), .int .u32 (gc : Int)]] W fun e w' => e = .returned (.int .i64 vr) ∧ Below W.heap.size W w') := Lib.hid (fun W b => by rw [hvr]; exact HAT.out W sc gc b)
      have hpr := pairs_round HB.out HZ2.out HSG.out.1 HSG.out.2
      rw [← hvx, ← hvr] at hpr
      have hpr2 : ∃ (c : Int) (one : Bool) (p : Int) (inn : Bool) (l1 l2 : Nat) (same : Bool) (e : Int), PrR w2 tb sa ga sc gc c one p inn l1 l2 same e ∧ (((vx < 0 ∨ vr < 0) ∧ c = 0 ∧ one = false ∧ p = 0 ∧ inn = false ∧ l1 = 0 ∧ l2 = 0 ∧ same = false ∧ e = 51) ∨
        ∃ (ka kb : Nat) (wi : Bool) (lo : Int), (vx = (ka : Int) ∧ vr = (kb : Int)) ∧ e = 0 ∧ PrD w2 fb ka kb c one p wi lo l1 l2 same ∧ inn = (decide (ka = kb) || wi)) := by
       rcases hpr with ⟨h1, h2⟩ | ⟨ka, kb, c, one, p, inn, wi, lo, l1, l2, same, h1, h2, h3, h4⟩
       ·exact ⟨0, false, 0, false, 0, 0, false, 51, h2, .inl ⟨h1, rfl, rfl, rfl, rfl, rfl, rfl, rfl, rfl⟩⟩
       ·exact ⟨c, one, p, inn, l1, l2, same, 0, h2, .inr ⟨ka, kb, wi, lo, h1, rfl, h3, h4⟩⟩
      obtain ⟨c, one, p, inn, l1', l2', same, ev, hpp, hcs⟩ := hpr2
      have HP := Lib.hid hpp
      have HCS := Lib.hid hcs
      clear hvx hvr HAT hpr hpp hcs
      have HC1 : Hid (∀ W, Below V.heap.size V W → Calls Tryd.prog 12 #[.pointer (some ⟨tb, 0, none⟩), .agg #[.int .u32 (sa : Int), .int .u32 (ga : Int)], .agg #[.int .u32 (sc : Int), .int .u32 (gc : Int)]] W fun e w' => e = .returned (.tuple #[.int .i64 c, .bool one, .int .i64 ev]) ∧ Below W.heap.size W w') := Lib.hid (fun W b => HP.out.cmp W (HBX.out W b).2.2.1)
      have HC2 : Hid (∀ W, Below V.heap.size V W → Calls Tryd.prog 13 #[.pointer (some ⟨tb, 0, none⟩), .agg #[.int .u32 (sa : Int), .int .u32 (ga : Int)], .agg #[.int .u32 (sc : Int), .int .u32 (gc : Int)]] W fun e w' => e = .returned (.tuple #[.int .i64 p, .int .i64 ev]) ∧ Below W.heap.size W w') := Lib.hid (fun W b => HP.out.pos W (HBX.out W b).2.2.1)
      have HC3 : Hid (∀ W, Below V.heap.size V W → Calls Tryd.prog 14 #[.pointer (some ⟨tb, 0, none⟩), .agg #[.int .u32 (sa : Int), .int .u32 (ga : Int)], .agg #[.int .u32 (sc : Int), .int .u32 (gc : Int)]] W fun e w' => e = .returned (.tuple #[.bool inn, .int .i64 ev]) ∧ Below W.heap.size W w') := Lib.hid (fun W b => HP.out.con W (HBX.out W b).2.2.1)
      have HC4 : Hid (∀ W, Below V.heap.size V W → Calls Tryd.prog 15 #[.pointer (some ⟨tb, 0, none⟩), .agg #[.int .u32 (sa : Int), .int .u32 (ga : Int)], .agg #[.int .u32 (sc : Int), .int .u32 (gc : Int)]] W fun e w' => e = .returned (.tuple #[.agg #[.int .u32 (l1' : Int), .int .u32 (l2' : Int)], .int .i64 ev]) ∧ Below W.heap.size W w') := Lib.hid (fun W b => HP.out.com W (HBX.out W b).2.2.1)
      have HC5 : Hid (∀ W, Below V.heap.size V W → Calls Tryd.prog 16 #[.pointer (some ⟨tb, 0, none⟩), .agg #[.int .u32 (sa : Int), .int .u32 (ga : Int)], .agg #[.int .u32 (sc : Int), .int .u32 (gc : Int)]] W fun e w' => e = .returned (.tuple #[.bool same, .int .i64 ev]) ∧ Below W.heap.size W w') := Lib.hid (fun W b => HP.out.eql W (HBX.out W b).2.2.1)
      go_upto_region 17 with (first | (have hh := HB11; go_at_call 16; refine (HC5.out _ (HB11.out.alloc HB11.out.size _)).mono ?_; rintro e w12 ⟨rfl, b12⟩; have HB12 := Lib.hid ((HB11.out.alloc HB11.out.size _).trans (b12.mono (HB11.out.alloc HB11.out.size _).size)); obtain ⟨⟨d120, d121, d122, d123⟩, ⟨m120, m121⟩, _⟩ := HBX.out w12 HB12.out; have h21 := (b12.block _ (lt_of_some (Go.heap_alloc_new w11 _))).trans (Go.heap_alloc_new w11 (.cells #[.int .u32 (l1' : Int), .int .u32 (l2' : Int)] 31)); have HX12 := Lib.hid h21; clear b12 hh h21) | (have hh := HB10; go_at_call 15; refine (HC4.out _ HB10.out).mono ?_; rintro e w11 ⟨rfl, b11⟩; have HB11 := Lib.hid (HB10.out.trans (b11.mono HB10.out.size)); obtain ⟨⟨d110, d111, d112, d113⟩, ⟨m110, m111⟩, _⟩ := HBX.out w11 HB11.out; clear b11 hh) | (have hh := HB9; go_at_call 14; refine (HC3.out _ HB9.out).mono ?_; rintro e w10 ⟨rfl, b10⟩; have HB10 := Lib.hid (HB9.out.trans (b10.mono HB9.out.size)); obtain ⟨⟨d100, d101, d102, d103⟩, ⟨m100, m101⟩, _⟩ := HBX.out w10 HB10.out; clear b10 hh) | (have hh := HB8; go_at_call 13; refine (HC2.out _ HB8.out).mono ?_; rintro e w9 ⟨rfl, b9⟩; have HB9 := Lib.hid (HB8.out.trans (b9.mono HB8.out.size)); obtain ⟨⟨d90, d91, d92, d93⟩, ⟨m90, m91⟩, _⟩ := HBX.out w9 HB9.out; clear b9 hh) | (have hh := HB7; go_at_call 12; refine (HC1.out _ HB7.out).mono ?_; rintro e w8 ⟨rfl, b8⟩; have HB8 := Lib.hid (HB7.out.trans (b8.mono HB7.out.size)); obtain ⟨⟨d80, d81, d82, d83⟩, ⟨m80, m81⟩, _⟩ := HBX.out w8 HB8.out; clear b8 hh) | (have hh := HB6; go_at_call 11; refine (HAT2.out _ HB6.out).mono ?_; rintro e w7 ⟨rfl, b7⟩; have HB7 := Lib.hid (HB6.out.trans (b7.mono HB6.out.size)); obtain ⟨⟨d70, d71, d72, d73⟩, ⟨m70, m71⟩, _⟩ := HBX.out w7 HB7.out; clear b7 hh) | (go_at_call 11; refine (HAT1.out _ HV0.out).mono ?_; rintro e w6 ⟨rfl, b6⟩; have HB6 := Lib.hid (HV0.out.trans (b6.mono HV0.out.size)); obtain ⟨⟨d60, d61, d62, d63⟩, ⟨m60, m61⟩, _⟩ := HBX.out w6 HB6.out; clear b6))
      have HF : Hid (Below V.heap.size V w12 ∧ w12.heap[w11.heap.size]? = some (.cells #[.int .u32 (l1' : Int), .int .u32 (l2' : Int)] 31 (0, 0))) := Lib.hid ⟨HB12.out, HX12.out⟩
      clear HB6 HB7 HB8 HB9 HB10 HB11 HB12 HX12 HC1 HC2 HC3 HC4 HC5 HAT1 HAT2 c0 c1 c2 c3 l0 l1 d60 d61 d62 d63 m60 m61 d70 d71 d72 d73 m70 m71 d80 d81 d82 d83 m80 m81 d90 d91 d92 d93 m90 m91 d100 d101 d102 d103 m100 m101 d110 d111 d112 d113 m110 m111 d120 d121 d122 d123 m120 m121
      generalize w11.heap.size = z1 at *
      generalize w12 = wz at *
      have HZC : Hid (∀ W, Below wz.heap.size wz W → (W.cell? ⟨z1, 0, none⟩ = some (.int .u32 (l1' : Int)) ∧ W.cell? ⟨z1, 1, none⟩ = some (.int .u32 (l2' : Int))) ∧ z1 < W.heap.size ∧ Below w2.heap.size w2 W) := Lib.hid (fun W b => by
       have h1 := (b.block _ (lt_of_some HF.out.2)).trans HF.out.2
       exact ⟨⟨cell_blk h1 0 rfl, cell_blk h1 1 rfl⟩, lt_of_some h1, (HBX.out W (HF.out.1.trans (b.mono HF.out.1.size))).2.2.1⟩)
      have HB0 : Hid (Below wz.heap.size wz wz) := Lib.hid (Below.refl _ _)
      obtain ⟨⟨k0, k1⟩, kz, _⟩ := HZC.out wz HB0.out
      clear HBX HF HP
      rcases HCS.out with ⟨hneg, rfl, rfl, rfl, rfl, rfl, rfl, rfl, rfl⟩ | ⟨ka, kb, wi, lo, ⟨rfl, rfl⟩, rfl, hd, hin⟩
      ·have q0 : hEq 0 0 0 0 = true := hEq_true rfl rfl
       by_cases hx0 : vx < 0
       ·have e1 : decide (vx < 0) = true := decide_eq_true hx0
        clear hneg hx0
        go_wp2_with fail
        go_roundg (gk - 1)
        case measure => exact HM.out
        case rel => exact ⟨i + 1, by go_num, Lib.hid ⟨HSM.out, (HZC.out _ HB0.out).2.2⟩⟩
       ·have hr0 : vr < 0 := hneg.resolve_left hx0
        have e1 : decide (vx < 0) = false := decide_eq_false hx0
        have e2 : decide (vr < 0) = true := decide_eq_true hr0
        clear hneg
        go_wp2_with fail
        go_roundg (gk - 1)
        case measure => exact HM.out
        case rel => exact ⟨i + 1, by go_num, Lib.hid ⟨HSM.out, (HZC.out _ HB0.out).2.2⟩⟩
      ·have e1 : decide ((ka : Int) < 0) = false := by simp
       have e2 : decide ((kb : Int) < 0) = false := by simp
       have q0 : hEq (l1' : Int) (l2' : Int) (l1' : Int) (l2' : Int) = true := hEq_true rfl rfl
       have q1c : ((c : Int) == c) = true := by simp
       have q1p : ((p : Int) == p) = true := by simp
       have HIN := Lib.hid hin
       have HR1 : Hid (∀ W, Below wz.heap.size wz W → Calls Tryd.prog 17 #[.pointer (some ⟨fb, 0, none⟩), .int .i64 (ka : Int), .int .i64 (kb : Int)] W fun e w' => e = .returned (.tuple #[.int .i64 c, .bool one]) ∧ Below W.heap.size W w') := Lib.hid (fun W b => hd.cmp W (HZC.out W b).2.2)
       have HR2 : Hid (∀ W, Below wz.heap.size wz W → Calls Tryd.prog 18 #[.pointer (some ⟨fb, 0, none⟩), .int .i64 (ka : Int), .int .i64 (kb : Int)] W fun e w' => e = .returned (.bool wi) ∧ Below W.heap.size W w') := Lib.hid (fun W b => hd.has W (HZC.out W b).2.2)
       have HR3 : Hid (∀ W, Below wz.heap.size wz W → Calls Tryd.prog 20 #[.pointer (some ⟨fb, 0, none⟩), .int .i64 (ka : Int), .int .i64 (kb : Int)] W fun e w' => e = .returned (.int .i64 lo) ∧ Below W.heap.size W w') := Lib.hid (fun W b => hd.com W (HZC.out W b).2.2)
       have HR4 : Hid (∀ W, Below wz.heap.size wz W → Calls Tryd.prog 19 #[.pointer (some ⟨fb, 0, none⟩), .int .i64 lo] W fun e w' => e = .returned (.agg #[.int .u32 (l1' : Int), .int .u32 (l2' : Int)]) ∧ Below W.heap.size W w') := Lib.hid (fun W b => hd.han W (HZC.out W b).2.2)
       have HR5 : Hid (∀ W, Below wz.heap.size wz W → Calls Tryd.prog 21 #[.pointer (some ⟨fb, 0, none⟩), .int .i64 (ka : Int), .int .i64 (kb : Int)] W fun e w' => e = .returned (.bool same) ∧ Below W.heap.size W w') := Lib.hid (fun W b => hd.eql W (HZC.out W b).2.2)
       have HR6 : Hid (∀ W, Below wz.heap.size wz W → Calls Tryd.prog 22 #[.pointer (some ⟨fb, 0, none⟩), .int .i64 (ka : Int), .int .i64 (kb : Int)] W fun e w' => e = .returned (.int .i64 p) ∧ Below W.heap.size W w') := Lib.hid (fun W b => hd.pos W (HZC.out W b).2.2)
       clear hd hin HCS
       by_cases hab : ka = kb
       ·subst hab
        have q2 : ((ka : Int) == (ka : Int)) = true := by simp
        have hin2 : inn = true := by rw [HIN.out]; simp
        subst hin2
        go_wp2_with (first | (have hh := HB24; go_at_call 22; refine (HR6.out _ HB24.out).mono ?_; rintro e w25 ⟨rfl, b25⟩; have HB25 := Lib.hid (HB24.out.trans (b25.mono HB24.out.size)); obtain ⟨⟨g250, g251⟩, g25l, _⟩ := HZC.out w25 HB25.out; have h29 := (b25.block _ (lt_of_some HX24.out)).trans HX24.out; have t0 := cell_blk h29 0 rfl; have t1 := cell_blk h29 1 rfl; have HX25 := Lib.hid h29; clear h29; clear b25 hh) | (have hh := HB23; go_at_call 21; refine (HR5.out _ (HB23.out.alloc HB23.out.size _)).mono ?_; rintro e w24 ⟨rfl, b24⟩; have HB24 := Lib.hid ((HB23.out.alloc HB23.out.size _).trans (b24.mono (HB23.out.alloc HB23.out.size _).size)); obtain ⟨⟨g240, g241⟩, g24l, _⟩ := HZC.out w24 HB24.out; have h29 := (b24.block _ (lt_of_some (Go.heap_alloc_new w23 _))).trans (Go.heap_alloc_new w23 (.cells #[.int .u32 (l1' : Int), .int .u32 (l2' : Int)] 31)); have s0 := cell_blk h29 0 rfl; have s1 := cell_blk h29 1 rfl; have HX24 := Lib.hid h29; clear h29; clear b24 hh) | (have hh := HB22; go_at_call 19; refine (HR4.out _ HB22.out).mono ?_; rintro e w23 ⟨rfl, b23⟩; have HB23 := Lib.hid (HB22.out.trans (b23.mono HB22.out.size)); obtain ⟨⟨g230, g231⟩, g23l, _⟩ := HZC.out w23 HB23.out; clear b23 hh) | (have hh := HB21; go_at_call 20; refine (HR3.out _ HB21.out).mono ?_; rintro e w22 ⟨rfl, b22⟩; have HB22 := Lib.hid (HB21.out.trans (b22.mono HB21.out.size)); obtain ⟨⟨g220, g221⟩, g22l, _⟩ := HZC.out w22 HB22.out; clear b22 hh) | (have hh := HB20; go_at_call 18; refine (HR2.out _ HB20.out).mono ?_; rintro e w21 ⟨rfl, b21⟩; have HB21 := Lib.hid (HB20.out.trans (b21.mono HB20.out.size)); obtain ⟨⟨g210, g211⟩, g21l, _⟩ := HZC.out w21 HB21.out; clear b21 hh) | (go_at_call 17; refine (HR1.out _ HB0.out).mono ?_; rintro e w20 ⟨rfl, b20⟩; have HB20 := Lib.hid (HB0.out.trans (b20.mono HB0.out.size)); obtain ⟨⟨g200, g201⟩, g20l, _⟩ := HZC.out w20 HB20.out; clear b20))
        go_roundg (gk - 1)
        case measure => exact HM.out
        case rel => exact ⟨i + 1, by go_num, Lib.hid ⟨HSM.out, (HZC.out _ HB25.out).2.2⟩⟩
       ·have q2 : ((ka : Int) == (kb : Int)) = false := by simp; omega
        have hin2 : inn = wi := by rw [HIN.out]; simp [hab]
        subst hin2
        go_wp2_with (first | (have hh := HB24; go_at_call 22; refine (HR6.out _ HB24.out).mono ?_; rintro e w25 ⟨rfl, b25⟩; have HB25 := Lib.hid (HB24.out.trans (b25.mono HB24.out.size)); obtain ⟨⟨g250, g251⟩, g25l, _⟩ := HZC.out w25 HB25.out; have h29 := (b25.block _ (lt_of_some HX24.out)).trans HX24.out; have t0 := cell_blk h29 0 rfl; have t1 := cell_blk h29 1 rfl; have HX25 := Lib.hid h29; clear h29; clear b25 hh) | (have hh := HB23; go_at_call 21; refine (HR5.out _ (HB23.out.alloc HB23.out.size _)).mono ?_; rintro e w24 ⟨rfl, b24⟩; have HB24 := Lib.hid ((HB23.out.alloc HB23.out.size _).trans (b24.mono (HB23.out.alloc HB23.out.size _).size)); obtain ⟨⟨g240, g241⟩, g24l, _⟩ := HZC.out w24 HB24.out; have h29 := (b24.block _ (lt_of_some (Go.heap_alloc_new w23 _))).trans (Go.heap_alloc_new w23 (.cells #[.int .u32 (l1' : Int), .int .u32 (l2' : Int)] 31)); have s0 := cell_blk h29 0 rfl; have s1 := cell_blk h29 1 rfl; have HX24 := Lib.hid h29; clear h29; clear b24 hh) | (have hh := HB22; go_at_call 19; refine (HR4.out _ HB22.out).mono ?_; rintro e w23 ⟨rfl, b23⟩; have HB23 := Lib.hid (HB22.out.trans (b23.mono HB22.out.size)); obtain ⟨⟨g230, g231⟩, g23l, _⟩ := HZC.out w23 HB23.out; clear b23 hh) | (have hh := HB21; go_at_call 20; refine (HR3.out _ HB21.out).mono ?_; rintro e w22 ⟨rfl, b22⟩; have HB22 := Lib.hid (HB21.out.trans (b22.mono HB21.out.size)); obtain ⟨⟨g220, g221⟩, g22l, _⟩ := HZC.out w22 HB22.out; clear b22 hh) | (have hh := HB20; go_at_call 18; refine (HR2.out _ HB20.out).mono ?_; rintro e w21 ⟨rfl, b21⟩; have HB21 := Lib.hid (HB20.out.trans (b21.mono HB20.out.size)); obtain ⟨⟨g210, g211⟩, g21l, _⟩ := HZC.out w21 HB21.out; clear b21 hh) | (go_at_call 17; refine (HR1.out _ HB0.out).mono ?_; rintro e w20 ⟨rfl, b20⟩; have HB20 := Lib.hid (HB0.out.trans (b20.mono HB0.out.size)); obtain ⟨⟨g200, g201⟩, g20l, _⟩ := HZC.out w20 HB20.out; clear b20))
        go_roundg (gk - 1)
        case measure => exact HM.out
        case rel => exact ⟨i + 1, by go_num, Lib.hid ⟨HSM.out, (HZC.out _ HB25.out).2.2⟩⟩
   ·have q2 : decide ((i : Int) < 100) = false := by simp; omega
    go_wp2_with fail
    try rw [Exit.noGoto_ret]
    go_ret
    exact ⟨rfl, HB2.out.trans (HWR.out.mono HB2.out.size)⟩
  ·have q1 : decide (i < n) = false := by simp; omega
   go_wp2_with fail
   try rw [Exit.noGoto_ret]
   go_ret
   exact ⟨rfl, HB2.out.trans (HWR.out.mono HB2.out.size)⟩
end Go.Proofs.YtelhnaphkbpakaaDoor
