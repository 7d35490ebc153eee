/- Part 45 of the proof of TpP: lemmas. -/
import Derived.Test.YtelhnaphkbpakaaDoorMp44
namespace Go.Proofs.YtelhnaphkbpakaaDoor
open Go.RowKit
set_option linter.unusedVariables false
set_option maxRecDepth 100000
section
variable {B : Nat} {Q : Nat → Prop} {w w' : World} {tb fb : Nat} {X : TX} {R : List RN} {rv : Value}
set_option maxHeartbeats 8000000 in
theorem moved_6h1 (h : Both B Q w tb fb X R rv) {x : MkV} (hx : MkB x) {ia ib : Nat} (hia : ia = pick8 x.m.a X.F.length) (hib : ib = pick8 x.m.b X.F.length) {xa xb : FN} (ha : X.F[ia]? = some xa) (hb : X.F[ib]? = some xb) (hl : xa.live = true) (hl2 : xb.live = true) (hk : x.m.kind = 6) {cb : List Nat} (hcb : Chain X.F ib (ib :: cb)) (hq : ia ≠ ib) (hm : ia ∉ cb) (hu : xa.up = none) (hbp0 : 0 < pick8 x.m.back (xb.down.length + 1)) :
    Calls Tryd.prog 39 #[.pointer (some ⟨tb, 0, none⟩), .pointer (some ⟨fb, 0, none⟩), x.v] w fun e w' => e = .returned (.bool true) ∧ MvPost B w x.m tb fb X rv w' := by
  show Calls Tryd.prog 39 #[.pointer (some ⟨tb, 0, none⟩), .pointer (some ⟨fb, 0, none⟩), .agg #[.int .i64 x.m.kind, .int .i64 x.m.a, .int .i64 x.m.b, .int .i64 x.m.back, .string x.nm, .slice x.ua x.un.length x.uc]] w fun e w' => e = .returned (.bool true) ∧ MvPost B w x.m tb fb X rv w'
  rw [hk]
  have H := Lib.hid h
  have HAB := Lib.hid (And.intro ha hb)
  have hmv := move_at hia hib ha hb
  have hlen := (List.getElem?_eq_some_iff.1 ha).1
  have hlenb := (List.getElem?_eq_some_iff.1 hb).1
  have hfew := h.few
  have b0 := h.f.b0
  obtain ⟨g, cap, Pa, da, e, hRa, y0, y1, y8, y9, y10⟩ := h.f.get ha
  obtain ⟨g', cap', Pb, db, e', hRb, z0, z1, z8, z9, z10⟩ := h.f.get hb
  rw [e] at e'
  cases e'
  rw [e] at b0
  have l0 := lt_of_some h.f.blk
  have l1 := cell_lt y0
  simp only at l1
  have HPA : Hid (∀ W, Calls Tryd.prog 30 #[.int .i64 x.m.a, .int .i64 (X.F.length : Int)] W fun e w' => e = .returned (.int .i64 (ia : Int)) ∧ Below W.heap.size W w') := Lib.hid (fun W => by rw [hia]; exact pick8_calls W _ _ hx.a (by omega) (by omega))
  have HPB : Hid (∀ W, Calls Tryd.prog 30 #[.int .i64 x.m.b, .int .i64 (X.F.length : Int)] W fun e w' => e = .returned (.int .i64 (ib : Int)) ∧ Below W.heap.size W w') := Lib.hid (fun W => by rw [hib]; exact pick8_calls W _ _ hx.b (by omega) (by omega))
  have HCE : Hid (∀ W, Below w.heap.size w W → W.cell? ⟨fb, 0, none⟩ = some (.slice (some ⟨g, 0, none⟩) X.F.length cap) ∧ (W.cell? ⟨g, ia * 11 + 10, none⟩ = some (.bool xa.live) ∧ W.cell? ⟨g, ia * 11 + 8, none⟩ = some (.int .i64 (upI xa.up)) ∧ W.cell? ⟨g, ia * 11 + 9, none⟩ = some da ∧ W.cell? ⟨g, ia * 11, none⟩ = some (.int .u32 (xa.sl : Int)) ∧ W.cell? ⟨g, ia * 11 + 1, none⟩ = some (.int .u32 (xa.gn : Int))) ∧ (W.cell? ⟨g, ib * 11 + 10, none⟩ = some (.bool xb.live) ∧ W.cell? ⟨g, ib * 11 + 9, none⟩ = some db ∧ W.cell? ⟨g, ib * 11, none⟩ = some (.int .u32 (xb.sl : Int)) ∧ W.cell? ⟨g, ib * 11 + 1, none⟩ = some (.int .u32 (xb.gn : Int)))) := Lib.hid (fun W b => ⟨(b.cell (p := ⟨fb, 0, none⟩) l0).trans b0, ⟨(b.cell (p := ⟨g, _, none⟩) l1).trans y10, (b.cell (p := ⟨g, _, none⟩) l1).trans y8, (b.cell (p := ⟨g, _, none⟩) l1).trans y9, (b.cell (p := ⟨g, _, none⟩) l1).trans y0, (b.cell (p := ⟨g, _, none⟩) l1).trans y1⟩, (b.cell (p := ⟨g, _, none⟩) l1).trans z10, (b.cell (p := ⟨g, _, none⟩) l1).trans z9, (b.cell (p := ⟨g, _, none⟩) l1).trans z0, (b.cell (p := ⟨g, _, none⟩) l1).trans z1⟩)
  have HRR := Lib.hid (And.intro hRa hRb)
  have hdsa : ∃ a c, da = .slice a xa.down.length c := h.f.dshape (List.mem_of_getElem? hRa)
  have hdsb : ∃ a c, db = .slice a xb.down.length c := h.f.dshape (List.mem_of_getElem? hRb)
  have hxback := hx.back
  have hdla := h.down_len ha
  have hdlb := h.down_len hb
  have HE := Lib.hid e
  have HHAS : Hid (∀ W, Below w.heap.size w W → Calls Tryd.prog 18 #[.pointer (some ⟨fb, 0, none⟩), .int .i64 (ia : Int), .int .i64 (ib : Int)] W fun e w' => e = .returned (.bool (decide (ia ∈ cb))) ∧ Below W.heap.size W w') := Lib.hid (fun W b => rhas_calls (h.f.below b) hcb)
  rw [decide_eq_false hm] at HHAS
  have HM : Hid (hng X.F ia ib (xb.down.length - pick8 x.m.back (xb.down.length + 1)) = moveF X.F x.m) := Lib.hid (by rw [hmv]; rw [if_neg (fun h => by rcases h with h | h <;> simp [hl, hl2] at h)]; rw [if_pos hk, if_neg (by rw [ups_chain hcb, hu]; simp [hq, hm])])
  have hbk0 := pick8_lt x.m.back (n := xb.down.length + 1) (by omega)
  have HPK : Hid (∀ W, Calls Tryd.prog 30 #[.int .i64 x.m.back, .int .i64 ((xb.down.length : Int) + 1)] W fun e w' => e = .returned (.int .i64 ((pick8 x.m.back (xb.down.length + 1) : Nat) : Int)) ∧ Below W.heap.size W w') := Lib.hid (fun W => by
    have := pick8_calls W x.m.back (xb.down.length + 1) hx.back (by omega) (by omega)
    rw [show ((xb.down.length + 1 : Nat) : Int) = (xb.down.length : Int) + 1 by omega] at this
    exact this)
  have HMH : Hid (moveF X.F x.m = moveF X.F x.m) := Lib.hid rfl
  obtain ⟨bk, hbk⟩ : ∃ p, p = pick8 x.m.back (xb.down.length + 1) := ⟨_, rfl⟩
  rw [← hbk] at HPK HM hbk0
  obtain ⟨dla, dlc, hdb⟩ := hdsb
  rw [hdb] at HCE
  have HKD : Hid (∀ W, Below w.heap.size w W → ∀ (j c : Nat), xb.down[j]? = some c → ∃ dg dcap, db = .slice (some ⟨dg, 0, none⟩) xb.down.length dcap ∧ W.cell? ⟨dg, j, none⟩ = some (.int .i64 (c : Int))) := Lib.hid (fun W b j c hc => (h.f.below b).kid (List.mem_of_getElem? hRb) hc)
  have HHNG : Hid (∀ W, Below w.heap.size w W → Calls Tryd.prog 70 #[.pointer (some ⟨fb, 0, none⟩), .int .i64 (ia : Int), .int .i64 (ib : Int), .int .i64 (bk : Int)] W fun e w' => e = .returned (.tuple #[]) ∧ (∃ R', FoAt B (fun k => Q k ∨ W.heap.size ≤ k ∧ k < w'.heap.size) w' fb (hng X.F ia ib (xb.down.length - bk)) R' rv ∧ R'.map (fun r => r.2.1) = R.map (fun r => r.2.1)) ∧ FrG [69] Q W w') := Lib.hid (fun W b => rhang_calls (h.f.below b) (Nat.le_trans h.base b.size) ha hb hq (by omega) (by omega))
  have HLNK : Hid (∀ W W3, Below w.heap.size w W → FrG [69] Q W W3 → ∀ bs bg, hd X.F (xb.down.drop (xb.down.length - bk)).head? = (bs, bg) → Calls Tryd.prog 71 #[.pointer (some ⟨tb, 0, none⟩), .agg #[.int .u32 (xb.sl : Int), .int .u32 (xb.gn : Int)], .agg #[.int .u32 (xa.sl : Int), .int .u32 (xa.gn : Int)], .agg #[.int .u32 (bs : Int), .int .u32 (bg : Int)]] W3 fun e w' => e = .returned (.int .i64 0) ∧ TreeAt B Q w' tb { X with F := hng X.F ia ib (xb.down.length - bk) } ∧ FrG [120] Q W3 w') := Lib.hid (fun W W3 b f bs bg hbs => by
    have := link_ok ((h.t.below b).refStep f (fun e he => .inr (List.mem_singleton.1 he))) hb hl2 ha hl hu hcb (by simp [hq, hm]) (List.take_append_drop (xb.down.length - bk) xb.down).symm hbs
    rw [List.length_take, Nat.min_eq_left (by omega)] at this
    exact this)
  have HCE3 : Hid (∀ (Q2 : Nat → Prop) (W : World) R', FoAt B Q2 W fb (hng X.F ia ib (xb.down.length - bk)) R' rv → W.cell? ⟨fb, 0, none⟩ = some (.slice (some ⟨g, 0, none⟩) X.F.length cap) ∧ (W.cell? ⟨g, ia * 11, none⟩ = some (.int .u32 (xa.sl : Int)) ∧ W.cell? ⟨g, ia * 11 + 1, none⟩ = some (.int .u32 (xa.gn : Int))) ∧ (W.cell? ⟨g, ib * 11, none⟩ = some (.int .u32 (xb.sl : Int)) ∧ W.cell? ⟨g, ib * 11 + 1, none⟩ = some (.int .u32 (xb.gn : Int)))) := Lib.hid (fun Q2 W R' hf => by
    have hga : (hng X.F ia ib (xb.down.length - bk))[ia]? = some { xa with up := some ib } := by rw [hng_at hq, if_pos rfl, ha]; rfl
    have hgb : (hng X.F ia ib (xb.down.length - bk))[ib]? = some { xb with down := ins xb.down (xb.down.length - bk) ia } := by rw [hng_at hq, if_neg (Ne.symm hq), if_pos rfl, hb]; rfl
    obtain ⟨g2, cap2, P2, dv2, e2, _, q0, q1, _⟩ := hf.get hga
    obtain ⟨g3, cap3, P3, dv3, e3, _, r0, r1, _⟩ := hf.get hgb
    have hb0 := hf.b0
    rw [e] at hb0
    rw [e, hng_len] at e2 e3
    simp only [Value.slice.injEq, Option.some.injEq, Addr.mk.injEq, and_true, true_and] at e2 e3
    obtain ⟨rfl, rfl⟩ := e2
    obtain ⟨rfl, _⟩ := e3
    exact ⟨hb0, ⟨q0, q1⟩, r0, r1⟩)
  have HCEK : Hid (∀ W, Below w.heap.size w W → ∀ (c : Nat) (y : FN), X.F[c]? = some y → c < X.F.length ∧ W.cell? ⟨g, c * 11, none⟩ = some (.int .u32 (y.sl : Int)) ∧ W.cell? ⟨g, c * 11 + 1, none⟩ = some (.int .u32 (y.gn : Int))) := Lib.hid (fun W b c y hy => by
    obtain ⟨g2, cap2, P2, dv2, e2, _, q0, q1, _⟩ := (h.f.below b).get hy
    rw [e] at e2
    simp only [Value.slice.injEq, Option.some.injEq, Addr.mk.injEq, and_true, true_and] at e2
    obtain ⟨rfl, rfl⟩ := e2
    exact ⟨(List.getElem?_eq_some_iff.1 hy).1, q0, q1⟩)
  have HKID : Hid (∀ j c, xb.down[j]? = some c → ∃ y : FN, X.F[c]? = some y) := Lib.hid (fun j c hc => by
    obtain ⟨y, hy, _⟩ := h.t.fok.dn ib xb hb c (List.mem_of_getElem? hc)
    exact ⟨y, hy⟩)
  have hbp : 0 < bk := by rw [hbk]; exact hbp0
  clear hbp0
  clear ha hb h b0 e y0 y1 y8 y9 y10 z0 z1 z8 z9 z10 hRa hRb hia hib
  generalize x.un.length = ul
  generalize x.ua = ua
  generalize x.uc = uc
  generalize x.nm = nm at *
  obtain ⟨V, hV⟩ : ∃ V, V = w.alloc (.cells #[.int .i64 6, .int .i64 x.m.a, .int .i64 x.m.b, .int .i64 x.m.back, .string nm, .slice ua ul uc] 76) := ⟨_, rfl⟩
  have bV : Below w.heap.size w V := by rw [hV]; exact (by repeat (first | exact Below.refl _ _ | assumption | refine Below.drew ?_ | refine below_drewN ?_ _ | refine Below.alloc ?_ (by simp <;> omega) _ | refine Below.setCell ?_ (by simp <;> omega) _ | (apply bl_trans; assumption; (simp <;> omega))))
  have hV0 : V.heap[w.heap.size]? = some (.cells #[.int .i64 6, .int .i64 x.m.a, .int .i64 x.m.b, .int .i64 x.m.back, .string nm, .slice ua ul uc] 76 (0, 0)) := by rw [hV]; exact Go.heap_alloc_new w _
  have HX := Lib.hid (And.intro hV0 bV)
  have HSW : Hid (∀ W, Below V.heap.size V W → (W.cell? ⟨w.heap.size, 0, none⟩ = some (.int .i64 6) ∧ W.cell? ⟨w.heap.size, 1, none⟩ = some (.int .i64 x.m.a) ∧ W.cell? ⟨w.heap.size, 2, none⟩ = some (.int .i64 x.m.b) ∧ W.cell? ⟨w.heap.size, 3, none⟩ = some (.int .i64 x.m.back)) ∧ Below w.heap.size w W) := Lib.hid (fun W bb => by
    have h1 := (bb.block _ (lt_of_some HX.out.1)).trans HX.out.1
    exact ⟨⟨cell_blk h1 0 rfl, cell_blk h1 1 rfl, cell_blk h1 2 rfl, cell_blk h1 3 rfl⟩, HX.out.2.trans (bb.mono HX.out.2.size)⟩)
  have HD0 : Hid (Below V.heap.size V V.drew) := Lib.hid (Below.refl _ _).drew
  have hV2 := hV
  clear hV hV0 bV
  obtain ⟨n, hn⟩ : ∃ n, n = X.F.length := ⟨_, rfl⟩
  rw [← hn] at HPA HPB HCE hlen hlenb hfew
  have HNL := Lib.hid hn
  clear hn
  go_enter Tryd.func39, Tryd.ntmps39
  go_wp2_with fail
  rw [← hV2]
  clear hV2
  go_region_held3 (fun W => W.cell? ⟨w.heap.size, 1, none⟩ = some (.int .i64 x.m.a) ∧ W.cell? ⟨fb, 0, none⟩ = some (.slice (some ⟨g, 0, none⟩) n cap)) (first | exact ⟨(HSW.out _ HB1.out).1.2.1, (HCE.out _ (HSW.out _ HB1.out).2).1⟩ | exact ⟨(HSW.out _ HD0.out).1.2.1, (HCE.out _ (HSW.out _ HD0.out).2).1⟩) (first | (go_at_call 30; refine (HPA.out _).mono ?_; rintro e w1 ⟨rfl, b1⟩; have HB1 := Lib.hid (HD0.out.trans (b1.mono HD0.out.size))))
  clear b1
  have HD1 : Hid (Below V.heap.size V w1.drew) := Lib.hid HB1.out.drew
  go_wp2_with fail
  go_region_held3 (fun W => W.cell? ⟨w.heap.size, 2, none⟩ = some (.int .i64 x.m.b) ∧ W.cell? ⟨fb, 0, none⟩ = some (.slice (some ⟨g, 0, none⟩) n cap)) (first | exact ⟨(HSW.out _ HB2.out).1.2.2.1, (HCE.out _ (HSW.out _ HB2.out).2).1⟩ | exact ⟨(HSW.out _ HD1.out).1.2.2.1, (HCE.out _ (HSW.out _ HD1.out).2).1⟩) (first | (go_at_call 30; refine (HPB.out _).mono ?_; rintro e w2 ⟨rfl, b2⟩; have HB2 := Lib.hid (HD1.out.trans (b2.mono HD1.out.size))))
  clear b2 HB1 HD0 HD1
  have HLOW := Lib.hid (HSW.out _ HB2.out).2
  obtain ⟨m0, m1, m2, m3⟩ := (HSW.out _ HB2.out).1
  obtain ⟨b0, ⟨y10, y8, y9, y0, y1⟩, z10, z9, z0, z1⟩ := HCE.out _ HLOW.out
  have hs1 := HLOW.out.size
  rw [hl] at y10
  rw [hl2] at z10
  have qe : ((ia : Int) == (ib : Int)) = false := by simp; omega
  have qe2 : ¬ ((ia : Int) = (ib : Int)) := by omega
  have qe3 : ¬ (ia = ib) := hq
  have e8 : upI xa.up = -1 := by rw [hu]; rfl
  rw [e8] at y8 HCE
  rw [← HNL.out] at HCE3 HCEK
  obtain ⟨dl, hdl⟩ : ∃ d, d = xb.down.length := ⟨_, rfl⟩
  rw [← hdl] at z9 HCE HPK hbk0 hdlb
  have HDL := Lib.hid hdl
  have HDB := Lib.hid hdb
  have wd1 : IntKind.i64.wrap ((dl : Int) + 1) = (dl : Int) + 1 := IntWalk.i64_in _ (by omega)
  clear hk hq e8 hu hm hcb hdl hdb hbk hl hl2 hmv
  obtain ⟨c, hc⟩ : ∃ c, xb.down[dl - bk]? = some c := ⟨_, List.getElem?_eq_getElem (by have := HDL.out; omega)⟩
  obtain ⟨y, hy⟩ := HKID.out _ _ hc
  obtain ⟨p, hp⟩ : ∃ p, p = dl - bk := ⟨_, rfl⟩
  have wsub : IntKind.i64.wrap ((dl : Int) - (bk : Int)) = (p : Int) := by rw [show ((dl : Int) - (bk : Int)) = (p : Int) by omega]; exact IntWalk.i64_in _ (by omega)
  have hpd : p < dl := by omega
  have hbs : hd X.F (xb.down.drop (xb.down.length - bk)).head? = (y.sl, y.gn) := by rw [List.head?_drop, ← HDL.out, hc]; exact hd_some hy
  have HBS := Lib.hid hbs
  rw [← hp] at hc
  obtain ⟨dg, dcap, e2, _⟩ := HKD.out w (Below.refl _ _) p c hc
  rw [HDB.out] at e2
  simp only [Value.slice.injEq] at e2
  obtain ⟨rfl, _, rfl⟩ := e2
  have HS14 : Hid (∀ W, Below w.heap.size w W → (fun W => W.cell? ⟨fb, 0, none⟩ = some (.slice (some ⟨g, 0, none⟩) n cap) ∧ W.cell? ⟨g, ib * 11 + 9, none⟩ = some (.slice (some ⟨dg, 0, none⟩) dl dlc) ∧ W.cell? ⟨dg, p, none⟩ = some (.int .i64 (c : Int)) ∧ W.cell? ⟨g, c * 11, none⟩ = some (.int .u32 (y.sl : Int)) ∧ W.cell? ⟨g, c * 11 + 1, none⟩ = some (.int .u32 (y.gn : Int))) W) := Lib.hid (fun W b => by
    obtain ⟨dg2, dcap2, e3, hcell⟩ := HKD.out W b p c hc
    rw [HDB.out] at e3
    simp only [Value.slice.injEq, Option.some.injEq, Addr.mk.injEq, and_true, true_and] at e3
    obtain ⟨rfl, _, _⟩ := e3
    obtain ⟨_, k1, k2⟩ := HCEK.out W b c y hy
    exact ⟨(HCE.out W b).1, (HCE.out W b).2.2.2.1, hcell, k1, k2⟩)
  have hcn := (HCEK.out w (Below.refl _ _) c y hy).1
  have hbp2 : decide (0 < bk) = true := by simp; omega
  have ldg := cell_lt (HS14.out w (Below.refl _ _)).2.2.1
  clear hc hy hp hbs
  go_wp2_with (first | (have hh := HLOW3; go_at_call 30; refine (HPK.out _).mono ?_; rintro e w4 ⟨rfl, b4⟩; have HLOW4 := Lib.hid (HLOW3.out.trans (b4.mono HLOW3.out.size)); have hs4 := HLOW4.out.size; obtain ⟨c0, ⟨v10, v8, v9, v0, v1⟩, u10, u9, u0, u1⟩ := HCE.out _ HLOW4.out; clear b4) | (go_at_call 18; refine (HHAS.out _ HLOW.out).mono ?_; rintro e w3 ⟨rfl, b3⟩; have HLOW3 := Lib.hid (HLOW.out.trans (b3.mono HLOW.out.size)); obtain ⟨b0', ⟨y10', y8', y9', y0', y1'⟩, z10', z9', z0', z1'⟩ := HCE.out _ HLOW3.out; obtain ⟨m0', m1', m2', m3'⟩ := (HSW.out _ (HB2.out.trans (b3.mono HB2.out.size))).1; clear b3))
  go_region_held3 (fun W => W.cell? ⟨fb, 0, none⟩ = some (.slice (some ⟨g, 0, none⟩) n cap) ∧ W.cell? ⟨g, ib * 11 + 9, none⟩ = some (.slice (some ⟨dg, 0, none⟩) dl dlc) ∧ W.cell? ⟨dg, p, none⟩ = some (.int .i64 (c : Int)) ∧ W.cell? ⟨g, c * 11, none⟩ = some (.int .u32 (y.sl : Int)) ∧ W.cell? ⟨g, c * 11 + 1, none⟩ = some (.int .u32 (y.gn : Int))) (first | exact HS14.out _ (HLOW4.out.alloc hs4 _).drew | exact HS14.out _ (((HLOW4.out.alloc hs4 _).drew.setCell hs4 _).setCell hs4 _)) (fail)
  go_wp2_with (first | (go_at_call 70; refine (HHNG.out _ (HLOW4.out.alloc hs4 _).drew).mono ?_; rintro e w5 ⟨rfl, ⟨R', hf5, hR5⟩, f5⟩; have HF5 := Lib.hid (And.intro hf5 (And.intro hR5 f5)); have HBX := Lib.hid (f5.blk (Go.heap_alloc_new w4 (.cells #[.int .u32 (y.sl : Int), .int .u32 (y.gn : Int)] 31)) (by decide)); clear hf5 hR5 f5))
  have HS5 : Hid (∀ W, FrG [120] Q w5 W → (fun W => W.cell? ⟨fb, 0, none⟩ = some (.slice (some ⟨g, 0, none⟩) n cap) ∧ (W.cell? ⟨g, ia * 11, none⟩ = some (.int .u32 (xa.sl : Int)) ∧ W.cell? ⟨g, ia * 11 + 1, none⟩ = some (.int .u32 (xa.gn : Int))) ∧ (W.cell? ⟨g, ib * 11, none⟩ = some (.int .u32 (xb.sl : Int)) ∧ W.cell? ⟨g, ib * 11 + 1, none⟩ = some (.int .u32 (xb.gn : Int))) ∧ W.cell? ⟨w4.heap.size, 0, none⟩ = some (.int .u32 (y.sl : Int)) ∧ W.cell? ⟨w4.heap.size, 1, none⟩ = some (.int .u32 (y.gn : Int))) W) := Lib.hid (fun W f => by
    obtain ⟨k0, ⟨k1, k2⟩, k3, k4⟩ := HCE3.out _ W R' (HF5.out.1.frg (f.mono (fun _ h => h) (fun k hk => .inl hk)) (by decide) (by decide) (by decide))
    have hbx := f.blk HBX.out (by decide)
    exact ⟨k0, ⟨k1, k2⟩, ⟨k3, k4⟩, cell_blk hbx 0 rfl, cell_blk hbx 1 rfl⟩)
  have HLK := Lib.hid (HLNK.out _ w5.drew (HLOW4.out.alloc hs4 _).drew HF5.out.2.2.drew _ _ HBS.out)
  go_region_held3 (fun W => W.cell? ⟨fb, 0, none⟩ = some (.slice (some ⟨g, 0, none⟩) n cap) ∧ (W.cell? ⟨g, ia * 11, none⟩ = some (.int .u32 (xa.sl : Int)) ∧ W.cell? ⟨g, ia * 11 + 1, none⟩ = some (.int .u32 (xa.gn : Int))) ∧ (W.cell? ⟨g, ib * 11, none⟩ = some (.int .u32 (xb.sl : Int)) ∧ W.cell? ⟨g, ib * 11 + 1, none⟩ = some (.int .u32 (xb.gn : Int))) ∧ W.cell? ⟨w4.heap.size, 0, none⟩ = some (.int .u32 (y.sl : Int)) ∧ W.cell? ⟨w4.heap.size, 1, none⟩ = some (.int .u32 (y.gn : Int))) (first | exact HS5.out _ HT6.out.2 | exact HS5.out _ (FrG.refl _ _ _).drew) (first | (go_at_call 71; refine HLK.out.mono ?_; rintro e w6 ⟨rfl, ht6, f6⟩; have HT6 := Lib.hid (And.intro ht6 (((FrG.refl [120] Q w5).drew).trans f6 (fun _ h => .inl h))); clear ht6 f6))
  go_wp2_with fail
  go_ret
  have hb2 := H.out.below (HLOW4.out.alloc hs4 (.cells #[.int .u32 (y.sl : Int), .int .u32 (y.gn : Int)] 31)).drew
  exact ⟨rfl, _, _, _, hb2.step2 HF5.out.1 HF5.out.2.2 HT6.out.1 HT6.out.2 HF5.out.2.1 (hng_len _ _ _ _), HM.out, ((HLOW4.out.alloc hs4 (.cells #[.int .u32 (y.sl : Int), .int .u32 (y.gn : Int)] 31)).drew.mono H.out.base).trans (hb2.low2 HF5.out.2.2 HT6.out.2)⟩
end
section
variable {B : Nat} {Q : Nat → Prop} {w w' : World} {tb fb : Nat} {X : TX} {R : List RN} {rv : Value}
set_option maxHeartbeats 8000000 in
theorem moved_6h0 (h : Both B Q w tb fb X R rv) {x : MkV} (hx : MkB x) {ia ib : Nat} (hia : ia = pick8 x.m.a X.F.length) (hib : ib = pick8 x.m.b X.F.length) {xa xb : FN} (ha : X.F[ia]? = some xa) (hb : X.F[ib]? = some xb) (hl : xa.live = true) (hl2 : xb.live = true) (hk : x.m.kind = 6) {cb : List Nat} (hcb : Chain X.F ib (ib :: cb)) (hq : ia ≠ ib) (hm : ia ∉ cb) (hu : xa.up = none) (hbz : pick8 x.m.back (xb.down.length + 1) = 0) :
    Calls Tryd.prog 39 #[.pointer (some ⟨tb, 0, none⟩), .pointer (some ⟨fb, 0, none⟩), x.v] w fun e w' => e = .returned (.bool true) ∧ MvPost B w x.m tb fb X rv w' := by
  show Calls Tryd.prog 39 #[.pointer (some ⟨tb, 0, none⟩), .pointer (some ⟨fb, 0, none⟩), .agg #[.int .i64 x.m.kind, .int .i64 x.m.a, .int .i64 x.m.b, .int .i64 x.m.back, .string x.nm, .slice x.ua x.un.length x.uc]] w fun e w' => e = .returned (.bool true) ∧ MvPost B w x.m tb fb X rv w'
  rw [hk]
  have H := Lib.hid h
  have HAB := Lib.hid (And.intro ha hb)
  have hmv := move_at hia hib ha hb
  have hlen := (List.getElem?_eq_some_iff.1 ha).1
  have hlenb := (List.getElem?_eq_some_iff.1 hb).1
  have hfew := h.few
  have b0 := h.f.b0
  obtain ⟨g, cap, Pa, da, e, hRa, y0, y1, y8, y9, y10⟩ := h.f.get ha
  obtain ⟨g', cap', Pb, db, e', hRb, z0, z1, z8, z9, z10⟩ := h.f.get hb
  rw [e] at e'
  cases e'
  rw [e] at b0
  have l0 := lt_of_some h.f.blk
  have l1 := cell_lt y0
  simp only at l1
  have HPA : Hid (∀ W, Calls Tryd.prog 30 #[.int .i64 x.m.a, .int .i64 (X.F.length : Int)] W fun e w' => e = .returned (.int .i64 (ia : Int)) ∧ Below W.heap.size W w') := Lib.hid (fun W => by rw [hia]; exact pick8_calls W _ _ hx.a (by omega) (by omega))
  have HPB : Hid (∀ W, Calls Tryd.prog 30 #[.int .i64 x.m.b, .int .i64 (X.F.length : Int)] W fun e w' => e = .returned (.int .i64 (ib : Int)) ∧ Below W.heap.size W w') := Lib.hid (fun W => by rw [hib]; exact pick8_calls W _ _ hx.b (by omega) (by omega))
  have HCE : Hid (∀ W, Below w.heap.size w W → W.cell? ⟨fb, 0, none⟩ = some (.slice (some ⟨g, 0, none⟩) X.F.length cap) ∧ (W.cell? ⟨g, ia * 11 + 10, none⟩ = some (.bool xa.live) ∧ W.cell? ⟨g, ia * 11 + 8, none⟩ = some (.int .i64 (upI xa.up)) ∧ W.cell? ⟨g, ia * 11 + 9, none⟩ = some da ∧ W.cell? ⟨g, ia * 11, none⟩ = some (.int .u32 (xa.sl : Int)) ∧ W.cell? ⟨g, ia * 11 + 1, none⟩ = some (.int .u32 (xa.gn : Int))) ∧ (W.cell? ⟨g, ib * 11 + 10, none⟩ = some (.bool xb.live) ∧ W.cell? ⟨g, ib * 11 + 9, none⟩ = some db ∧ W.cell? ⟨g, ib * 11, none⟩ = some (.int .u32 (xb.sl : Int)) ∧ W.cell? ⟨g, ib * 11 + 1, none⟩ = some (.int .u32 (xb.gn : Int)))) := Lib.hid (fun W b => ⟨(b.cell (p := ⟨fb, 0, none⟩) l0).trans b0, ⟨(b.cell (p := ⟨g, _, none⟩) l1).trans y10, (b.cell (p := ⟨g, _, none⟩) l1).trans y8, (b.cell (p := ⟨g, _, none⟩) l1).trans y9, (b.cell (p := ⟨g, _, none⟩) l1).trans y0, (b.cell (p := ⟨g, _, none⟩) l1).trans y1⟩, (b.cell (p := ⟨g, _, none⟩) l1).trans z10, (b.cell (p := ⟨g, _, none⟩) l1).trans z9, (b.cell (p := ⟨g, _, none⟩) l1).trans z0, (b.cell (p := ⟨g, _, none⟩) l1).trans z1⟩)
  have HRR := Lib.hid (And.intro hRa hRb)
  have hdsa : ∃ a c, da = .slice a xa.down.length c := h.f.dshape (List.mem_of_getElem? hRa)
  have hdsb : ∃ a c, db = .slice a xb.down.length c := h.f.dshape (List.mem_of_getElem? hRb)
  have hxback := hx.back
  have hdla := h.down_len ha
  have hdlb := h.down_len hb
  have HE := Lib.hid e
  have HHAS : Hid (∀ W, Below w.heap.size w W → Calls Tryd.prog 18 #[.pointer (some ⟨fb, 0, none⟩), .int .i64 (ia : Int), .int .i64 (ib : Int)] W fun e w' => e = .returned (.bool (decide (ia ∈ cb))) ∧ Below W.heap.size W w') := Lib.hid (fun W b => rhas_calls (h.f.below b) hcb)
  rw [decide_eq_false hm] at HHAS
  have HM : Hid (hng X.F ia ib (xb.down.length - pick8 x.m.back (xb.down.length + 1)) = moveF X.F x.m) := Lib.hid (by rw [hmv]; rw [if_neg (fun h => by rcases h with h | h <;> simp [hl, hl2] at h)]; rw [if_pos hk, if_neg (by rw [ups_chain hcb, hu]; simp [hq, hm])])
  have hbk0 := pick8_lt x.m.back (n := xb.down.length + 1) (by omega)
  have HPK : Hid (∀ W, Calls Tryd.prog 30 #[.int .i64 x.m.back, .int .i64 ((xb.down.length : Int) + 1)] W fun e w' => e = .returned (.int .i64 ((pick8 x.m.back (xb.down.length + 1) : Nat) : Int)) ∧ Below W.heap.size W w') := Lib.hid (fun W => by
    have := pick8_calls W x.m.back (xb.down.length + 1) hx.back (by omega) (by omega)
    rw [show ((xb.down.length + 1 : Nat) : Int) = (xb.down.length : Int) + 1 by omega] at this
    exact this)
  have HMH : Hid (moveF X.F x.m = moveF X.F x.m) := Lib.hid rfl
  obtain ⟨bk, hbk⟩ : ∃ p, p = pick8 x.m.back (xb.down.length + 1) := ⟨_, rfl⟩
  rw [← hbk] at HPK HM hbk0
  obtain ⟨dla, dlc, hdb⟩ := hdsb
  rw [hdb] at HCE
  have HKD : Hid (∀ W, Below w.heap.size w W → ∀ (j c : Nat), xb.down[j]? = some c → ∃ dg dcap, db = .slice (some ⟨dg, 0, none⟩) xb.down.length dcap ∧ W.cell? ⟨dg, j, none⟩ = some (.int .i64 (c : Int))) := Lib.hid (fun W b j c hc => (h.f.below b).kid (List.mem_of_getElem? hRb) hc)
  have HHNG : Hid (∀ W, Below w.heap.size w W → Calls Tryd.prog 70 #[.pointer (some ⟨fb, 0, none⟩), .int .i64 (ia : Int), .int .i64 (ib : Int), .int .i64 (bk : Int)] W fun e w' => e = .returned (.tuple #[]) ∧ (∃ R', FoAt B (fun k => Q k ∨ W.heap.size ≤ k ∧ k < w'.heap.size) w' fb (hng X.F ia ib (xb.down.length - bk)) R' rv ∧ R'.map (fun r => r.2.1) = R.map (fun r => r.2.1)) ∧ FrG [69] Q W w') := Lib.hid (fun W b => rhang_calls (h.f.below b) (Nat.le_trans h.base b.size) ha hb hq (by omega) (by omega))
  have HLNK : Hid (∀ W W3, Below w.heap.size w W → FrG [69] Q W W3 → ∀ bs bg, hd X.F (xb.down.drop (xb.down.length - bk)).head? = (bs, bg) → Calls Tryd.prog 71 #[.pointer (some ⟨tb, 0, none⟩), .agg #[.int .u32 (xb.sl : Int), .int .u32 (xb.gn : Int)], .agg #[.int .u32 (xa.sl : Int), .int .u32 (xa.gn : Int)], .agg #[.int .u32 (bs : Int), .int .u32 (bg : Int)]] W3 fun e w' => e = .returned (.int .i64 0) ∧ TreeAt B Q w' tb { X with F := hng X.F ia ib (xb.down.length - bk) } ∧ FrG [120] Q W3 w') := Lib.hid (fun W W3 b f bs bg hbs => by
    have := link_ok ((h.t.below b).refStep f (fun e he => .inr (List.mem_singleton.1 he))) hb hl2 ha hl hu hcb (by simp [hq, hm]) (List.take_append_drop (xb.down.length - bk) xb.down).symm hbs
    rw [List.length_take, Nat.min_eq_left (by omega)] at this
    exact this)
  have HCE3 : Hid (∀ (Q2 : Nat → Prop) (W : World) R', FoAt B Q2 W fb (hng X.F ia ib (xb.down.length - bk)) R' rv → W.cell? ⟨fb, 0, none⟩ = some (.slice (some ⟨g, 0, none⟩) X.F.length cap) ∧ (W.cell? ⟨g, ia * 11, none⟩ = some (.int .u32 (xa.sl : Int)) ∧ W.cell? ⟨g, ia * 11 + 1, none⟩ = some (.int .u32 (xa.gn : Int))) ∧ (W.cell? ⟨g, ib * 11, none⟩ = some (.int .u32 (xb.sl : Int)) ∧ W.cell? ⟨g, ib * 11 + 1, none⟩ = some (.int .u32 (xb.gn : Int)))) := Lib.hid (fun Q2 W R' hf => by
    have hga : (hng X.F ia ib (xb.down.length - bk))[ia]? = some { xa with up := some ib } := by rw [hng_at hq, if_pos rfl, ha]; rfl
    have hgb : (hng X.F ia ib (xb.down.length - bk))[ib]? = some { xb with down := ins xb.down (xb.down.length - bk) ia } := by rw [hng_at hq, if_neg (Ne.symm hq), if_pos rfl, hb]; rfl
    obtain ⟨g2, cap2, P2, dv2, e2, _, q0, q1, _⟩ := hf.get hga
    obtain ⟨g3, cap3, P3, dv3, e3, _, r0, r1, _⟩ := hf.get hgb
    have hb0 := hf.b0
    rw [e] at hb0
    rw [e, hng_len] at e2 e3
    simp only [Value.slice.injEq, Option.some.injEq, Addr.mk.injEq, and_true, true_and] at e2 e3
    obtain ⟨rfl, rfl⟩ := e2
    obtain ⟨rfl, _⟩ := e3
    exact ⟨hb0, ⟨q0, q1⟩, r0, r1⟩)
  have HCEK : Hid (∀ W, Below w.heap.size w W → ∀ (c : Nat) (y : FN), X.F[c]? = some y → c < X.F.length ∧ W.cell? ⟨g, c * 11, none⟩ = some (.int .u32 (y.sl : Int)) ∧ W.cell? ⟨g, c * 11 + 1, none⟩ = some (.int .u32 (y.gn : Int))) := Lib.hid (fun W b c y hy => by
    obtain ⟨g2, cap2, P2, dv2, e2, _, q0, q1, _⟩ := (h.f.below b).get hy
    rw [e] at e2
    simp only [Value.slice.injEq, Option.some.injEq, Addr.mk.injEq, and_true, true_and] at e2
    obtain ⟨rfl, rfl⟩ := e2
    exact ⟨(List.getElem?_eq_some_iff.1 hy).1, q0, q1⟩)
  have HKID : Hid (∀ j c, xb.down[j]? = some c → ∃ y : FN, X.F[c]? = some y) := Lib.hid (fun j c hc => by
    obtain ⟨y, hy, _⟩ := h.t.fok.dn ib xb hb c (List.mem_of_getElem? hc)
    exact ⟨y, hy⟩)
  have HBZ : Hid (bk = 0) := Lib.hid (hbk.trans hbz)
  have hb0 : decide (0 < bk) = false := by rw [HBZ.out]; rfl
  have hb1 : ¬ (0 < bk) := by rw [HBZ.out]; omega
  clear hbz
  clear ha hb h b0 e y0 y1 y8 y9 y10 z0 z1 z8 z9 z10 hRa hRb hia hib
  generalize x.un.length = ul
  generalize x.ua = ua
  generalize x.uc = uc
  generalize x.nm = nm at *
  obtain ⟨V, hV⟩ : ∃ V, V = w.alloc (.cells #[.int .i64 6, .int .i64 x.m.a, .int .i64 x.m.b, .int .i64 x.m.back, .string nm, .slice ua ul uc] 76) := ⟨_, rfl⟩
  have bV : Below w.heap.size w V := by rw [hV]; exact (by repeat (first | exact Below.refl _ _ | assumption | refine Below.drew ?_ | refine below_drewN ?_ _ | refine Below.alloc ?_ (by simp <;> omega) _ | refine Below.setCell ?_ (by simp <;> omega) _ | (apply bl_trans; assumption; (simp <;> omega))))
  have hV0 : V.heap[w.heap.size]? = some (.cells #[.int .i64 6, .int .i64 x.m.a, .int .i64 x.m.b, .int .i64 x.m.back, .string nm, .slice ua ul uc] 76 (0, 0)) := by rw [hV]; exact Go.heap_alloc_new w _
  have HX := Lib.hid (And.intro hV0 bV)
  have HSW : Hid (∀ W, Below V.heap.size V W → (W.cell? ⟨w.heap.size, 0, none⟩ = some (.int .i64 6) ∧ W.cell? ⟨w.heap.size, 1, none⟩ = some (.int .i64 x.m.a) ∧ W.cell? ⟨w.heap.size, 2, none⟩ = some (.int .i64 x.m.b) ∧ W.cell? ⟨w.heap.size, 3, none⟩ = some (.int .i64 x.m.back)) ∧ Below w.heap.size w W) := Lib.hid (fun W bb => by
    have h1 := (bb.block _ (lt_of_some HX.out.1)).trans HX.out.1
    exact ⟨⟨cell_blk h1 0 rfl, cell_blk h1 1 rfl, cell_blk h1 2 rfl, cell_blk h1 3 rfl⟩, HX.out.2.trans (bb.mono HX.out.2.size)⟩)
  have HD0 : Hid (Below V.heap.size V V.drew) := Lib.hid (Below.refl _ _).drew
  have hV2 := hV
  clear hV hV0 bV
  obtain ⟨n, hn⟩ : ∃ n, n = X.F.length := ⟨_, rfl⟩
  rw [← hn] at HPA HPB HCE hlen hlenb hfew
  have HNL := Lib.hid hn
  clear hn
  go_enter Tryd.func39, Tryd.ntmps39
  go_wp2_with fail
  rw [← hV2]
  clear hV2
  go_region_held3 (fun W => W.cell? ⟨w.heap.size, 1, none⟩ = some (.int .i64 x.m.a) ∧ W.cell? ⟨fb, 0, none⟩ = some (.slice (some ⟨g, 0, none⟩) n cap)) (first | exact ⟨(HSW.out _ HB1.out).1.2.1, (HCE.out _ (HSW.out _ HB1.out).2).1⟩ | exact ⟨(HSW.out _ HD0.out).1.2.1, (HCE.out _ (HSW.out _ HD0.out).2).1⟩) (first | (go_at_call 30; refine (HPA.out _).mono ?_; rintro e w1 ⟨rfl, b1⟩; have HB1 := Lib.hid (HD0.out.trans (b1.mono HD0.out.size))))
  clear b1
  have HD1 : Hid (Below V.heap.size V w1.drew) := Lib.hid HB1.out.drew
  go_wp2_with fail
  go_region_held3 (fun W => W.cell? ⟨w.heap.size, 2, none⟩ = some (.int .i64 x.m.b) ∧ W.cell? ⟨fb, 0, none⟩ = some (.slice (some ⟨g, 0, none⟩) n cap)) (first | exact ⟨(HSW.out _ HB2.out).1.2.2.1, (HCE.out _ (HSW.out _ HB2.out).2).1⟩ | exact ⟨(HSW.out _ HD1.out).1.2.2.1, (HCE.out _ (HSW.out _ HD1.out).2).1⟩) (first | (go_at_call 30; refine (HPB.out _).mono ?_; rintro e w2 ⟨rfl, b2⟩; have HB2 := Lib.hid (HD1.out.trans (b2.mono HD1.out.size))))
  clear b2 HB1 HD0 HD1
  have HLOW := Lib.hid (HSW.out _ HB2.out).2
  obtain ⟨m0, m1, m2, m3⟩ := (HSW.out _ HB2.out).1
  obtain ⟨b0, ⟨y10, y8, y9, y0, y1⟩, z10, z9, z0, z1⟩ := HCE.out _ HLOW.out
  have hs1 := HLOW.out.size
  rw [hl] at y10
  rw [hl2] at z10
  have qe : ((ia : Int) == (ib : Int)) = false := by simp; omega
  have qe2 : ¬ ((ia : Int) = (ib : Int)) := by omega
  have qe3 : ¬ (ia = ib) := hq
  have e8 : upI xa.up = -1 := by rw [hu]; rfl
  rw [e8] at y8 HCE
  rw [← HNL.out] at HCE3 HCEK
  obtain ⟨dl, hdl⟩ : ∃ d, d = xb.down.length := ⟨_, rfl⟩
  rw [← hdl] at z9 HCE HPK hbk0 hdlb
  have HDL := Lib.hid hdl
  have HDB := Lib.hid hdb
  have wd1 : IntKind.i64.wrap ((dl : Int) + 1) = (dl : Int) + 1 := IntWalk.i64_in _ (by omega)
  clear hk hq e8 hu hm hcb hdl hdb hbk hl hl2 hmv
  go_wp2_with (first | (have hh := HLOW4; go_at_call 70; refine (HHNG.out _ (HLOW4.out.alloc hs4 _)).mono ?_; rintro e w5 ⟨rfl, ⟨R', hf5, hR5⟩, f5⟩; have HF5 := Lib.hid (And.intro hf5 (And.intro hR5 f5)); have HBX := Lib.hid (f5.blk (Go.heap_alloc_new w4 (.cells #[.int .u32 0, .int .u32 0] 31)) (by decide)); clear hf5 hR5 f5) | (have hh := HLOW3; go_at_call 30; refine (HPK.out _).mono ?_; rintro e w4 ⟨rfl, b4⟩; have HLOW4 := Lib.hid (HLOW3.out.trans (b4.mono HLOW3.out.size)); have hs4 := HLOW4.out.size; obtain ⟨c0, ⟨v10, v8, v9, v0, v1⟩, u10, u9, u0, u1⟩ := HCE.out _ HLOW4.out; clear b4) | (go_at_call 18; refine (HHAS.out _ HLOW.out).mono ?_; rintro e w3 ⟨rfl, b3⟩; have HLOW3 := Lib.hid (HLOW.out.trans (b3.mono HLOW.out.size)); obtain ⟨b0', ⟨y10', y8', y9', y0', y1'⟩, z10', z9', z0', z1'⟩ := HCE.out _ HLOW3.out; obtain ⟨m0', m1', m2', m3'⟩ := (HSW.out _ (HB2.out.trans (b3.mono HB2.out.size))).1; clear b3))
  have HS5 : Hid (∀ W, FrG [120] Q w5 W → (fun W => W.cell? ⟨fb, 0, none⟩ = some (.slice (some ⟨g, 0, none⟩) n cap) ∧ (W.cell? ⟨g, ia * 11, none⟩ = some (.int .u32 (xa.sl : Int)) ∧ W.cell? ⟨g, ia * 11 + 1, none⟩ = some (.int .u32 (xa.gn : Int))) ∧ (W.cell? ⟨g, ib * 11, none⟩ = some (.int .u32 (xb.sl : Int)) ∧ W.cell? ⟨g, ib * 11 + 1, none⟩ = some (.int .u32 (xb.gn : Int))) ∧ W.cell? ⟨w4.heap.size, 0, none⟩ = some (.int .u32 0) ∧ W.cell? ⟨w4.heap.size, 1, none⟩ = some (.int .u32 0)) W) := Lib.hid (fun W f => by
    obtain ⟨k0, ⟨k1, k2⟩, k3, k4⟩ := HCE3.out _ W R' (HF5.out.1.frg (f.mono (fun _ h => h) (fun k hk => .inl hk)) (by decide) (by decide) (by decide))
    have hbx := f.blk HBX.out (by decide)
    exact ⟨k0, ⟨k1, k2⟩, ⟨k3, k4⟩, cell_blk hbx 0 rfl, cell_blk hbx 1 rfl⟩)
  have hbs : hd X.F (xb.down.drop (xb.down.length - bk)).head? = (0, 0) := by rw [HBZ.out, Nat.sub_zero, List.drop_length]; rfl
  have HLK := Lib.hid (HLNK.out _ w5.drew (HLOW4.out.alloc hs4 (.cells #[.int .u32 0, .int .u32 0] 31)) HF5.out.2.2.drew _ _ hbs)
  clear hbs
  go_region_held3 (fun W => W.cell? ⟨fb, 0, none⟩ = some (.slice (some ⟨g, 0, none⟩) n cap) ∧ (W.cell? ⟨g, ia * 11, none⟩ = some (.int .u32 (xa.sl : Int)) ∧ W.cell? ⟨g, ia * 11 + 1, none⟩ = some (.int .u32 (xa.gn : Int))) ∧ (W.cell? ⟨g, ib * 11, none⟩ = some (.int .u32 (xb.sl : Int)) ∧ W.cell? ⟨g, ib * 11 + 1, none⟩ = some (.int .u32 (xb.gn : Int))) ∧ W.cell? ⟨w4.heap.size, 0, none⟩ = some (.int .u32 0) ∧ W.cell? ⟨w4.heap.size, 1, none⟩ = some (.int .u32 0)) (first | exact HS5.out _ HT6.out.2 | exact HS5.out _ (FrG.refl _ _ _).drew) (first | (go_at_call 71; refine HLK.out.mono ?_; rintro e w6 ⟨rfl, ht6, f6⟩; have HT6 := Lib.hid (And.intro ht6 (((FrG.refl [120] Q w5).drew).trans f6 (fun _ h => .inl h))); clear ht6 f6))
  go_wp2_with fail
  go_ret
  have hb2 := H.out.below (HLOW4.out.alloc hs4 (.cells #[.int .u32 0, .int .u32 0] 31))
  exact ⟨rfl, _, _, _, hb2.step2 HF5.out.1 HF5.out.2.2 HT6.out.1 HT6.out.2 HF5.out.2.1 (hng_len _ _ _ _), HM.out, ((HLOW4.out.alloc hs4 (.cells #[.int .u32 0, .int .u32 0] 31)).mono H.out.base).trans (hb2.low2 HF5.out.2.2 HT6.out.2)⟩
end
end Go.Proofs.YtelhnaphkbpakaaDoor
