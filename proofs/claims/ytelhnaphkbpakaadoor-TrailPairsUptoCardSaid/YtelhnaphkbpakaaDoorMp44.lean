/- Part 44 of the proof of TpP: lemmas. -/
import Derived.Test.YtelhnaphkbpakaaDoorMp43
namespace Go.Proofs.YtelhnaphkbpakaaDoor
open Go.RowKit
set_option linter.unusedVariables false
set_option maxRecDepth 100000
section
variable {B : Nat} {Q : Nat → Prop} {w w' : World} {tb fb : Nat} {X : TX} {R : List RN} {rv : Value}
set_option maxHeartbeats 8000000 in
theorem moved_6e (h : Both B Q w tb fb X R rv) {x : MkV} (hx : MkB x) {ia ib : Nat} (hia : ia = pick8 x.m.a X.F.length) (hib : ib = pick8 x.m.b X.F.length) {xa xb : FN} (ha : X.F[ia]? = some xa) (hb : X.F[ib]? = some xb) (hl : xa.live = true) (hl2 : xb.live = true) (hk : x.m.kind = 6) {cb : List Nat} (hcb : Chain X.F ib (ib :: cb)) (hq : ia = ib) :
    Calls Tryd.prog 39 #[.pointer (some ⟨tb, 0, none⟩), .pointer (some ⟨fb, 0, none⟩), x.v] w fun e w' => e = .returned (.bool true) ∧ MvPost B w x.m tb fb X rv w' := by
  show Calls Tryd.prog 39 #[.pointer (some ⟨tb, 0, none⟩), .pointer (some ⟨fb, 0, none⟩), .agg #[.int .i64 x.m.kind, .int .i64 x.m.a, .int .i64 x.m.b, .int .i64 x.m.back, .string x.nm, .slice x.ua x.un.length x.uc]] w fun e w' => e = .returned (.bool true) ∧ MvPost B w x.m tb fb X rv w'
  rw [hk]
  have H := Lib.hid h
  have HAB := Lib.hid (And.intro ha hb)
  have hmv := move_at hia hib ha hb
  have hlen := (List.getElem?_eq_some_iff.1 ha).1
  have hlenb := (List.getElem?_eq_some_iff.1 hb).1
  have hfew := h.few
  have b0 := h.f.b0
  obtain ⟨g, cap, Pa, da, e, hRa, y0, y1, y8, y9, y10⟩ := h.f.get ha
  obtain ⟨g', cap', Pb, db, e', hRb, z0, z1, z8, z9, z10⟩ := h.f.get hb
  rw [e] at e'
  cases e'
  rw [e] at b0
  have l0 := lt_of_some h.f.blk
  have l1 := cell_lt y0
  simp only at l1
  have HPA : Hid (∀ W, Calls Tryd.prog 30 #[.int .i64 x.m.a, .int .i64 (X.F.length : Int)] W fun e w' => e = .returned (.int .i64 (ia : Int)) ∧ Below W.heap.size W w') := Lib.hid (fun W => by rw [hia]; exact pick8_calls W _ _ hx.a (by omega) (by omega))
  have HPB : Hid (∀ W, Calls Tryd.prog 30 #[.int .i64 x.m.b, .int .i64 (X.F.length : Int)] W fun e w' => e = .returned (.int .i64 (ib : Int)) ∧ Below W.heap.size W w') := Lib.hid (fun W => by rw [hib]; exact pick8_calls W _ _ hx.b (by omega) (by omega))
  have HCE : Hid (∀ W, Below w.heap.size w W → W.cell? ⟨fb, 0, none⟩ = some (.slice (some ⟨g, 0, none⟩) X.F.length cap) ∧ (W.cell? ⟨g, ia * 11 + 10, none⟩ = some (.bool xa.live) ∧ W.cell? ⟨g, ia * 11 + 8, none⟩ = some (.int .i64 (upI xa.up)) ∧ W.cell? ⟨g, ia * 11 + 9, none⟩ = some da ∧ W.cell? ⟨g, ia * 11, none⟩ = some (.int .u32 (xa.sl : Int)) ∧ W.cell? ⟨g, ia * 11 + 1, none⟩ = some (.int .u32 (xa.gn : Int))) ∧ (W.cell? ⟨g, ib * 11 + 10, none⟩ = some (.bool xb.live) ∧ W.cell? ⟨g, ib * 11 + 9, none⟩ = some db ∧ W.cell? ⟨g, ib * 11, none⟩ = some (.int .u32 (xb.sl : Int)) ∧ W.cell? ⟨g, ib * 11 + 1, none⟩ = some (.int .u32 (xb.gn : Int)))) := Lib.hid (fun W b => ⟨(b.cell (p := ⟨fb, 0, none⟩) l0).trans b0, ⟨(b.cell (p := ⟨g, _, none⟩) l1).trans y10, (b.cell (p := ⟨g, _, none⟩) l1).trans y8, (b.cell (p := ⟨g, _, none⟩) l1).trans y9, (b.cell (p := ⟨g, _, none⟩) l1).trans y0, (b.cell (p := ⟨g, _, none⟩) l1).trans y1⟩, (b.cell (p := ⟨g, _, none⟩) l1).trans z10, (b.cell (p := ⟨g, _, none⟩) l1).trans z9, (b.cell (p := ⟨g, _, none⟩) l1).trans z0, (b.cell (p := ⟨g, _, none⟩) l1).trans z1⟩)
  have HRR := Lib.hid (And.intro hRa hRb)
  have hdsa : ∃ a c, da = .slice a xa.down.length c := h.f.dshape (List.mem_of_getElem? hRa)
  have hdsb : ∃ a c, db = .slice a xb.down.length c := h.f.dshape (List.mem_of_getElem? hRb)
  have hxback := hx.back
  have hdla := h.down_len ha
  have hdlb := h.down_len hb
  have HE := Lib.hid e
  have HM : Hid (moveF X.F x.m = X.F) := Lib.hid (by rw [hmv]; rw [if_neg (fun h => by rcases h with h | h <;> simp [hl, hl2] at h)]; rw [if_pos hk, if_pos (.inl hq)])
  have HHAS : Hid (∀ W, Below w.heap.size w W → Calls Tryd.prog 18 #[.pointer (some ⟨fb, 0, none⟩), .int .i64 (ia : Int), .int .i64 (ib : Int)] W fun e w' => e = .returned (.bool (decide (ia ∈ cb))) ∧ Below W.heap.size W w') := Lib.hid (fun W b => rhas_calls (h.f.below b) hcb)
  obtain ⟨pq, hpq⟩ : ∃ p, p = decide (ia ∈ cb) := ⟨_, rfl⟩
  rw [← hpq] at HHAS
  clear hpq hcb
  subst hq
  clear ha hb h b0 e y0 y1 y8 y9 y10 z0 z1 z8 z9 z10 hRa hRb hia hib
  generalize x.un.length = ul
  generalize x.ua = ua
  generalize x.uc = uc
  generalize x.nm = nm at *
  obtain ⟨V, hV⟩ : ∃ V, V = w.alloc (.cells #[.int .i64 6, .int .i64 x.m.a, .int .i64 x.m.b, .int .i64 x.m.back, .string nm, .slice ua ul uc] 76) := ⟨_, rfl⟩
  have bV : Below w.heap.size w V := by rw [hV]; exact (by repeat (first | exact Below.refl _ _ | assumption | refine Below.drew ?_ | refine below_drewN ?_ _ | refine Below.alloc ?_ (by simp <;> omega) _ | refine Below.setCell ?_ (by simp <;> omega) _ | (apply bl_trans; assumption; (simp <;> omega))))
  have hV0 : V.heap[w.heap.size]? = some (.cells #[.int .i64 6, .int .i64 x.m.a, .int .i64 x.m.b, .int .i64 x.m.back, .string nm, .slice ua ul uc] 76 (0, 0)) := by rw [hV]; exact Go.heap_alloc_new w _
  have HX := Lib.hid (And.intro hV0 bV)
  have HSW : Hid (∀ W, Below V.heap.size V W → (W.cell? ⟨w.heap.size, 0, none⟩ = some (.int .i64 6) ∧ W.cell? ⟨w.heap.size, 1, none⟩ = some (.int .i64 x.m.a) ∧ W.cell? ⟨w.heap.size, 2, none⟩ = some (.int .i64 x.m.b) ∧ W.cell? ⟨w.heap.size, 3, none⟩ = some (.int .i64 x.m.back)) ∧ Below w.heap.size w W) := Lib.hid (fun W bb => by
    have h1 := (bb.block _ (lt_of_some HX.out.1)).trans HX.out.1
    exact ⟨⟨cell_blk h1 0 rfl, cell_blk h1 1 rfl, cell_blk h1 2 rfl, cell_blk h1 3 rfl⟩, HX.out.2.trans (bb.mono HX.out.2.size)⟩)
  have HD0 : Hid (Below V.heap.size V V.drew) := Lib.hid (Below.refl _ _).drew
  have hV2 := hV
  clear hV hV0 bV
  obtain ⟨n, hn⟩ : ∃ n, n = X.F.length := ⟨_, rfl⟩
  rw [← hn] at HPA HPB HCE hlen hlenb hfew
  have HNL := Lib.hid hn
  clear hn
  go_enter Tryd.func39, Tryd.ntmps39
  go_wp2_with fail
  rw [← hV2]
  clear hV2
  go_region_held3 (fun W => W.cell? ⟨w.heap.size, 1, none⟩ = some (.int .i64 x.m.a) ∧ W.cell? ⟨fb, 0, none⟩ = some (.slice (some ⟨g, 0, none⟩) n cap)) (first | exact ⟨(HSW.out _ HB1.out).1.2.1, (HCE.out _ (HSW.out _ HB1.out).2).1⟩ | exact ⟨(HSW.out _ HD0.out).1.2.1, (HCE.out _ (HSW.out _ HD0.out).2).1⟩) (first | (go_at_call 30; refine (HPA.out _).mono ?_; rintro e w1 ⟨rfl, b1⟩; have HB1 := Lib.hid (HD0.out.trans (b1.mono HD0.out.size))))
  clear b1
  have HD1 : Hid (Below V.heap.size V w1.drew) := Lib.hid HB1.out.drew
  go_wp2_with fail
  go_region_held3 (fun W => W.cell? ⟨w.heap.size, 2, none⟩ = some (.int .i64 x.m.b) ∧ W.cell? ⟨fb, 0, none⟩ = some (.slice (some ⟨g, 0, none⟩) n cap)) (first | exact ⟨(HSW.out _ HB2.out).1.2.2.1, (HCE.out _ (HSW.out _ HB2.out).2).1⟩ | exact ⟨(HSW.out _ HD1.out).1.2.2.1, (HCE.out _ (HSW.out _ HD1.out).2).1⟩) (first | (go_at_call 30; refine (HPB.out _).mono ?_; rintro e w2 ⟨rfl, b2⟩; have HB2 := Lib.hid (HD1.out.trans (b2.mono HD1.out.size))))
  clear b2 HB1 HD0 HD1
  have HLOW := Lib.hid (HSW.out _ HB2.out).2
  obtain ⟨m0, m1, m2, m3⟩ := (HSW.out _ HB2.out).1
  obtain ⟨b0, ⟨y10, y8, y9, y0, y1⟩, z10, z9, z0, z1⟩ := HCE.out _ HLOW.out
  have hs1 := HLOW.out.size
  clear hk
  rw [hl] at y10
  rw [hl2] at z10
  have HL := Lib.hid (And.intro hl hl2)
  clear hl hl2 hmv
  go_wp2_with (first | (go_at_call 18; refine (HHAS.out _ HLOW.out).mono ?_; rintro e w3 ⟨rfl, b3⟩; have HLOW3 := Lib.hid (HLOW.out.trans (b3.mono HLOW.out.size)); obtain ⟨b0', ⟨y10', y8', y9', y0', y1'⟩, z10', z9', z0', z1'⟩ := HCE.out _ HLOW3.out; obtain ⟨m0', m1', m2', m3'⟩ := (HSW.out _ (HB2.out.trans (b3.mono HB2.out.size))).1; clear b3))
  go_ret
  exact ⟨rfl, H.out.stay HM.out HLOW3.out⟩
end
section
variable {B : Nat} {Q : Nat → Prop} {w w' : World} {tb fb : Nat} {X : TX} {R : List RN} {rv : Value}
set_option maxHeartbeats 8000000 in
theorem moved_6i (h : Both B Q w tb fb X R rv) {x : MkV} (hx : MkB x) {ia ib : Nat} (hia : ia = pick8 x.m.a X.F.length) (hib : ib = pick8 x.m.b X.F.length) {xa xb : FN} (ha : X.F[ia]? = some xa) (hb : X.F[ib]? = some xb) (hl : xa.live = true) (hl2 : xb.live = true) (hk : x.m.kind = 6) {cb : List Nat} (hcb : Chain X.F ib (ib :: cb)) (hq : ia ≠ ib) (hm : ia ∈ cb) :
    Calls Tryd.prog 39 #[.pointer (some ⟨tb, 0, none⟩), .pointer (some ⟨fb, 0, none⟩), x.v] w fun e w' => e = .returned (.bool true) ∧ MvPost B w x.m tb fb X rv w' := by
  show Calls Tryd.prog 39 #[.pointer (some ⟨tb, 0, none⟩), .pointer (some ⟨fb, 0, none⟩), .agg #[.int .i64 x.m.kind, .int .i64 x.m.a, .int .i64 x.m.b, .int .i64 x.m.back, .string x.nm, .slice x.ua x.un.length x.uc]] w fun e w' => e = .returned (.bool true) ∧ MvPost B w x.m tb fb X rv w'
  rw [hk]
  have H := Lib.hid h
  have HAB := Lib.hid (And.intro ha hb)
  have hmv := move_at hia hib ha hb
  have hlen := (List.getElem?_eq_some_iff.1 ha).1
  have hlenb := (List.getElem?_eq_some_iff.1 hb).1
  have hfew := h.few
  have b0 := h.f.b0
  obtain ⟨g, cap, Pa, da, e, hRa, y0, y1, y8, y9, y10⟩ := h.f.get ha
  obtain ⟨g', cap', Pb, db, e', hRb, z0, z1, z8, z9, z10⟩ := h.f.get hb
  rw [e] at e'
  cases e'
  rw [e] at b0
  have l0 := lt_of_some h.f.blk
  have l1 := cell_lt y0
  simp only at l1
  have HPA : Hid (∀ W, Calls Tryd.prog 30 #[.int .i64 x.m.a, .int .i64 (X.F.length : Int)] W fun e w' => e = .returned (.int .i64 (ia : Int)) ∧ Below W.heap.size W w') := Lib.hid (fun W => by rw [hia]; exact pick8_calls W _ _ hx.a (by omega) (by omega))
  have HPB : Hid (∀ W, Calls Tryd.prog 30 #[.int .i64 x.m.b, .int .i64 (X.F.length : Int)] W fun e w' => e = .returned (.int .i64 (ib : Int)) ∧ Below W.heap.size W w') := Lib.hid (fun W => by rw [hib]; exact pick8_calls W _ _ hx.b (by omega) (by omega))
  have HCE : Hid (∀ W, Below w.heap.size w W → W.cell? ⟨fb, 0, none⟩ = some (.slice (some ⟨g, 0, none⟩) X.F.length cap) ∧ (W.cell? ⟨g, ia * 11 + 10, none⟩ = some (.bool xa.live) ∧ W.cell? ⟨g, ia * 11 + 8, none⟩ = some (.int .i64 (upI xa.up)) ∧ W.cell? ⟨g, ia * 11 + 9, none⟩ = some da ∧ W.cell? ⟨g, ia * 11, none⟩ = some (.int .u32 (xa.sl : Int)) ∧ W.cell? ⟨g, ia * 11 + 1, none⟩ = some (.int .u32 (xa.gn : Int))) ∧ (W.cell? ⟨g, ib * 11 + 10, none⟩ = some (.bool xb.live) ∧ W.cell? ⟨g, ib * 11 + 9, none⟩ = some db ∧ W.cell? ⟨g, ib * 11, none⟩ = some (.int .u32 (xb.sl : Int)) ∧ W.cell? ⟨g, ib * 11 + 1, none⟩ = some (.int .u32 (xb.gn : Int)))) := Lib.hid (fun W b => ⟨(b.cell (p := ⟨fb, 0, none⟩) l0).trans b0, ⟨(b.cell (p := ⟨g, _, none⟩) l1).trans y10, (b.cell (p := ⟨g, _, none⟩) l1).trans y8, (b.cell (p := ⟨g, _, none⟩) l1).trans y9, (b.cell (p := ⟨g, _, none⟩) l1).trans y0, (b.cell (p := ⟨g, _, none⟩) l1).trans y1⟩, (b.cell (p := ⟨g, _, none⟩) l1).trans z10, (b.cell (p := ⟨g, _, none⟩) l1).trans z9, (b.cell (p := ⟨g, _, none⟩) l1).trans z0, (b.cell (p := ⟨g, _, none⟩) l1).trans z1⟩)
  have HRR := Lib.hid (And.intro hRa hRb)
  have hdsa : ∃ a c, da = .slice a xa.down.length c := h.f.dshape (List.mem_of_getElem? hRa)
  have hdsb : ∃ a c, db = .slice a xb.down.length c := h.f.dshape (List.mem_of_getElem? hRb)
  have hxback := hx.back
  have hdla := h.down_len ha
  have hdlb := h.down_len hb
  have HE := Lib.hid e
  have HM : Hid (moveF X.F x.m = X.F) := Lib.hid (by rw [hmv]; rw [if_neg (fun h => by rcases h with h | h <;> simp [hl, hl2] at h)]; rw [if_pos hk, if_pos (.inr (.inl (by rw [ups_chain hcb]; exact hm)))])
  have HHAS : Hid (∀ W, Below w.heap.size w W → Calls Tryd.prog 18 #[.pointer (some ⟨fb, 0, none⟩), .int .i64 (ia : Int), .int .i64 (ib : Int)] W fun e w' => e = .returned (.bool (decide (ia ∈ cb))) ∧ Below W.heap.size W w') := Lib.hid (fun W b => rhas_calls (h.f.below b) hcb)
  rw [decide_eq_true hm] at HHAS
  clear hcb hm
  clear ha hb h b0 e y0 y1 y8 y9 y10 z0 z1 z8 z9 z10 hRa hRb hia hib
  generalize x.un.length = ul
  generalize x.ua = ua
  generalize x.uc = uc
  generalize x.nm = nm at *
  obtain ⟨V, hV⟩ : ∃ V, V = w.alloc (.cells #[.int .i64 6, .int .i64 x.m.a, .int .i64 x.m.b, .int .i64 x.m.back, .string nm, .slice ua ul uc] 76) := ⟨_, rfl⟩
  have bV : Below w.heap.size w V := by rw [hV]; exact (by repeat (first | exact Below.refl _ _ | assumption | refine Below.drew ?_ | refine below_drewN ?_ _ | refine Below.alloc ?_ (by simp <;> omega) _ | refine Below.setCell ?_ (by simp <;> omega) _ | (apply bl_trans; assumption; (simp <;> omega))))
  have hV0 : V.heap[w.heap.size]? = some (.cells #[.int .i64 6, .int .i64 x.m.a, .int .i64 x.m.b, .int .i64 x.m.back, .string nm, .slice ua ul uc] 76 (0, 0)) := by rw [hV]; exact Go.heap_alloc_new w _
  have HX := Lib.hid (And.intro hV0 bV)
  have HSW : Hid (∀ W, Below V.heap.size V W → (W.cell? ⟨w.heap.size, 0, none⟩ = some (.int .i64 6) ∧ W.cell? ⟨w.heap.size, 1, none⟩ = some (.int .i64 x.m.a) ∧ W.cell? ⟨w.heap.size, 2, none⟩ = some (.int .i64 x.m.b) ∧ W.cell? ⟨w.heap.size, 3, none⟩ = some (.int .i64 x.m.back)) ∧ Below w.heap.size w W) := Lib.hid (fun W bb => by
    have h1 := (bb.block _ (lt_of_some HX.out.1)).trans HX.out.1
    exact ⟨⟨cell_blk h1 0 rfl, cell_blk h1 1 rfl, cell_blk h1 2 rfl, cell_blk h1 3 rfl⟩, HX.out.2.trans (bb.mono HX.out.2.size)⟩)
  have HD0 : Hid (Below V.heap.size V V.drew) := Lib.hid (Below.refl _ _).drew
  have hV2 := hV
  clear hV hV0 bV
  obtain ⟨n, hn⟩ : ∃ n, n = X.F.length := ⟨_, rfl⟩
  rw [← hn] at HPA HPB HCE hlen hlenb hfew
  have HNL := Lib.hid hn
  clear hn
  go_enter Tryd.func39, Tryd.ntmps39
  go_wp2_with fail
  rw [← hV2]
  clear hV2
  go_region_held3 (fun W => W.cell? ⟨w.heap.size, 1, none⟩ = some (.int .i64 x.m.a) ∧ W.cell? ⟨fb, 0, none⟩ = some (.slice (some ⟨g, 0, none⟩) n cap)) (first | exact ⟨(HSW.out _ HB1.out).1.2.1, (HCE.out _ (HSW.out _ HB1.out).2).1⟩ | exact ⟨(HSW.out _ HD0.out).1.2.1, (HCE.out _ (HSW.out _ HD0.out).2).1⟩) (first | (go_at_call 30; refine (HPA.out _).mono ?_; rintro e w1 ⟨rfl, b1⟩; have HB1 := Lib.hid (HD0.out.trans (b1.mono HD0.out.size))))
  clear b1
  have HD1 : Hid (Below V.heap.size V w1.drew) := Lib.hid HB1.out.drew
  go_wp2_with fail
  go_region_held3 (fun W => W.cell? ⟨w.heap.size, 2, none⟩ = some (.int .i64 x.m.b) ∧ W.cell? ⟨fb, 0, none⟩ = some (.slice (some ⟨g, 0, none⟩) n cap)) (first | exact ⟨(HSW.out _ HB2.out).1.2.2.1, (HCE.out _ (HSW.out _ HB2.out).2).1⟩ | exact ⟨(HSW.out _ HD1.out).1.2.2.1, (HCE.out _ (HSW.out _ HD1.out).2).1⟩) (first | (go_at_call 30; refine (HPB.out _).mono ?_; rintro e w2 ⟨rfl, b2⟩; have HB2 := Lib.hid (HD1.out.trans (b2.mono HD1.out.size))))
  clear b2 HB1 HD0 HD1
  have HLOW := Lib.hid (HSW.out _ HB2.out).2
  obtain ⟨m0, m1, m2, m3⟩ := (HSW.out _ HB2.out).1
  obtain ⟨b0, ⟨y10, y8, y9, y0, y1⟩, z10, z9, z0, z1⟩ := HCE.out _ HLOW.out
  have hs1 := HLOW.out.size
  have qe : ((ia : Int) == (ib : Int)) = false := by simp; omega
  have qe2 : ¬ ((ia : Int) = (ib : Int)) := by omega
  have qe3 : ¬ (ia = ib) := hq
  clear hk hq
  rw [hl] at y10
  rw [hl2] at z10
  have HL := Lib.hid (And.intro hl hl2)
  clear hl hl2 hmv
  go_wp2_with (first | (go_at_call 18; refine (HHAS.out _ HLOW.out).mono ?_; rintro e w3 ⟨rfl, b3⟩; have HLOW3 := Lib.hid (HLOW.out.trans (b3.mono HLOW.out.size)); obtain ⟨b0', ⟨y10', y8', y9', y0', y1'⟩, z10', z9', z0', z1'⟩ := HCE.out _ HLOW3.out; obtain ⟨m0', m1', m2', m3'⟩ := (HSW.out _ (HB2.out.trans (b3.mono HB2.out.size))).1; clear b3))
  go_ret
  exact ⟨rfl, H.out.stay HM.out HLOW3.out⟩
end
section
variable {B : Nat} {Q : Nat → Prop} {w w' : World} {tb fb : Nat} {X : TX} {R : List RN} {rv : Value}
set_option maxHeartbeats 8000000 in
theorem moved_6u (h : Both B Q w tb fb X R rv) {x : MkV} (hx : MkB x) {ia ib : Nat} (hia : ia = pick8 x.m.a X.F.length) (hib : ib = pick8 x.m.b X.F.length) {xa xb : FN} (ha : X.F[ia]? = some xa) (hb : X.F[ib]? = some xb) (hl : xa.live = true) (hl2 : xb.live = true) (hk : x.m.kind = 6) {cb : List Nat} (hcb : Chain X.F ib (ib :: cb)) (hq : ia ≠ ib) (hm : ia ∉ cb) {u : Nat} (hu : xa.up = some u) :
    Calls Tryd.prog 39 #[.pointer (some ⟨tb, 0, none⟩), .pointer (some ⟨fb, 0, none⟩), x.v] w fun e w' => e = .returned (.bool true) ∧ MvPost B w x.m tb fb X rv w' := by
  show Calls Tryd.prog 39 #[.pointer (some ⟨tb, 0, none⟩), .pointer (some ⟨fb, 0, none⟩), .agg #[.int .i64 x.m.kind, .int .i64 x.m.a, .int .i64 x.m.b, .int .i64 x.m.back, .string x.nm, .slice x.ua x.un.length x.uc]] w fun e w' => e = .returned (.bool true) ∧ MvPost B w x.m tb fb X rv w'
  rw [hk]
  have H := Lib.hid h
  have HAB := Lib.hid (And.intro ha hb)
  have hmv := move_at hia hib ha hb
  have hlen := (List.getElem?_eq_some_iff.1 ha).1
  have hlenb := (List.getElem?_eq_some_iff.1 hb).1
  have hfew := h.few
  have b0 := h.f.b0
  obtain ⟨g, cap, Pa, da, e, hRa, y0, y1, y8, y9, y10⟩ := h.f.get ha
  obtain ⟨g', cap', Pb, db, e', hRb, z0, z1, z8, z9, z10⟩ := h.f.get hb
  rw [e] at e'
  cases e'
  rw [e] at b0
  have l0 := lt_of_some h.f.blk
  have l1 := cell_lt y0
  simp only at l1
  have HPA : Hid (∀ W, Calls Tryd.prog 30 #[.int .i64 x.m.a, .int .i64 (X.F.length : Int)] W fun e w' => e = .returned (.int .i64 (ia : Int)) ∧ Below W.heap.size W w') := Lib.hid (fun W => by rw [hia]; exact pick8_calls W _ _ hx.a (by omega) (by omega))
  have HPB : Hid (∀ W, Calls Tryd.prog 30 #[.int .i64 x.m.b, .int .i64 (X.F.length : Int)] W fun e w' => e = .returned (.int .i64 (ib : Int)) ∧ Below W.heap.size W w') := Lib.hid (fun W => by rw [hib]; exact pick8_calls W _ _ hx.b (by omega) (by omega))
  have HCE : Hid (∀ W, Below w.heap.size w W → W.cell? ⟨fb, 0, none⟩ = some (.slice (some ⟨g, 0, none⟩) X.F.length cap) ∧ (W.cell? ⟨g, ia * 11 + 10, none⟩ = some (.bool xa.live) ∧ W.cell? ⟨g, ia * 11 + 8, none⟩ = some (.int .i64 (upI xa.up)) ∧ W.cell? ⟨g, ia * 11 + 9, none⟩ = some da ∧ W.cell? ⟨g, ia * 11, none⟩ = some (.int .u32 (xa.sl : Int)) ∧ W.cell? ⟨g, ia * 11 + 1, none⟩ = some (.int .u32 (xa.gn : Int))) ∧ (W.cell? ⟨g, ib * 11 + 10, none⟩ = some (.bool xb.live) ∧ W.cell? ⟨g, ib * 11 + 9, none⟩ = some db ∧ W.cell? ⟨g, ib * 11, none⟩ = some (.int .u32 (xb.sl : Int)) ∧ W.cell? ⟨g, ib * 11 + 1, none⟩ = some (.int .u32 (xb.gn : Int)))) := Lib.hid (fun W b => ⟨(b.cell (p := ⟨fb, 0, none⟩) l0).trans b0, ⟨(b.cell (p := ⟨g, _, none⟩) l1).trans y10, (b.cell (p := ⟨g, _, none⟩) l1).trans y8, (b.cell (p := ⟨g, _, none⟩) l1).trans y9, (b.cell (p := ⟨g, _, none⟩) l1).trans y0, (b.cell (p := ⟨g, _, none⟩) l1).trans y1⟩, (b.cell (p := ⟨g, _, none⟩) l1).trans z10, (b.cell (p := ⟨g, _, none⟩) l1).trans z9, (b.cell (p := ⟨g, _, none⟩) l1).trans z0, (b.cell (p := ⟨g, _, none⟩) l1).trans z1⟩)
  have HRR := Lib.hid (And.intro hRa hRb)
  have hdsa : ∃ a c, da = .slice a xa.down.length c := h.f.dshape (List.mem_of_getElem? hRa)
  have hdsb : ∃ a c, db = .slice a xb.down.length c := h.f.dshape (List.mem_of_getElem? hRb)
  have hxback := hx.back
  have hdla := h.down_len ha
  have hdlb := h.down_len hb
  have HE := Lib.hid e
  have HM : Hid (moveF X.F x.m = X.F) := Lib.hid (by rw [hmv]; rw [if_neg (fun h => by rcases h with h | h <;> simp [hl, hl2] at h)]; rw [if_pos hk, if_pos (.inr (.inr (by rw [hu]; rfl)))])
  have HHAS : Hid (∀ W, Below w.heap.size w W → Calls Tryd.prog 18 #[.pointer (some ⟨fb, 0, none⟩), .int .i64 (ia : Int), .int .i64 (ib : Int)] W fun e w' => e = .returned (.bool (decide (ia ∈ cb))) ∧ Below W.heap.size W w') := Lib.hid (fun W b => rhas_calls (h.f.below b) hcb)
  rw [decide_eq_false hm] at HHAS
  clear hcb hm
  have e8 : upI xa.up = (u : Int) := by rw [hu]; rfl
  rw [e8] at HCE
  clear ha hb h b0 e y0 y1 y8 y9 y10 z0 z1 z8 z9 z10 hRa hRb hia hib
  generalize x.un.length = ul
  generalize x.ua = ua
  generalize x.uc = uc
  generalize x.nm = nm at *
  obtain ⟨V, hV⟩ : ∃ V, V = w.alloc (.cells #[.int .i64 6, .int .i64 x.m.a, .int .i64 x.m.b, .int .i64 x.m.back, .string nm, .slice ua ul uc] 76) := ⟨_, rfl⟩
  have bV : Below w.heap.size w V := by rw [hV]; exact (by repeat (first | exact Below.refl _ _ | assumption | refine Below.drew ?_ | refine below_drewN ?_ _ | refine Below.alloc ?_ (by simp <;> omega) _ | refine Below.setCell ?_ (by simp <;> omega) _ | (apply bl_trans; assumption; (simp <;> omega))))
  have hV0 : V.heap[w.heap.size]? = some (.cells #[.int .i64 6, .int .i64 x.m.a, .int .i64 x.m.b, .int .i64 x.m.back, .string nm, .slice ua ul uc] 76 (0, 0)) := by rw [hV]; exact Go.heap_alloc_new w _
  have HX := Lib.hid (And.intro hV0 bV)
  have HSW : Hid (∀ W, Below V.heap.size V W → (W.cell? ⟨w.heap.size, 0, none⟩ = some (.int .i64 6) ∧ W.cell? ⟨w.heap.size, 1, none⟩ = some (.int .i64 x.m.a) ∧ W.cell? ⟨w.heap.size, 2, none⟩ = some (.int .i64 x.m.b) ∧ W.cell? ⟨w.heap.size, 3, none⟩ = some (.int .i64 x.m.back)) ∧ Below w.heap.size w W) := Lib.hid (fun W bb => by
    have h1 := (bb.block _ (lt_of_some HX.out.1)).trans HX.out.1
    exact ⟨⟨cell_blk h1 0 rfl, cell_blk h1 1 rfl, cell_blk h1 2 rfl, cell_blk h1 3 rfl⟩, HX.out.2.trans (bb.mono HX.out.2.size)⟩)
  have HD0 : Hid (Below V.heap.size V V.drew) := Lib.hid (Below.refl _ _).drew
  have hV2 := hV
  clear hV hV0 bV
  obtain ⟨n, hn⟩ : ∃ n, n = X.F.length := ⟨_, rfl⟩
  rw [← hn] at HPA HPB HCE hlen hlenb hfew
  have HNL := Lib.hid hn
  clear hn
  go_enter Tryd.func39, Tryd.ntmps39
  go_wp2_with fail
  rw [← hV2]
  clear hV2
  go_region_held3 (fun W => W.cell? ⟨w.heap.size, 1, none⟩ = some (.int .i64 x.m.a) ∧ W.cell? ⟨fb, 0, none⟩ = some (.slice (some ⟨g, 0, none⟩) n cap)) (first | exact ⟨(HSW.out _ HB1.out).1.2.1, (HCE.out _ (HSW.out _ HB1.out).2).1⟩ | exact ⟨(HSW.out _ HD0.out).1.2.1, (HCE.out _ (HSW.out _ HD0.out).2).1⟩) (first | (go_at_call 30; refine (HPA.out _).mono ?_; rintro e w1 ⟨rfl, b1⟩; have HB1 := Lib.hid (HD0.out.trans (b1.mono HD0.out.size))))
  clear b1
  have HD1 : Hid (Below V.heap.size V w1.drew) := Lib.hid HB1.out.drew
  go_wp2_with fail
  go_region_held3 (fun W => W.cell? ⟨w.heap.size, 2, none⟩ = some (.int .i64 x.m.b) ∧ W.cell? ⟨fb, 0, none⟩ = some (.slice (some ⟨g, 0, none⟩) n cap)) (first | exact ⟨(HSW.out _ HB2.out).1.2.2.1, (HCE.out _ (HSW.out _ HB2.out).2).1⟩ | exact ⟨(HSW.out _ HD1.out).1.2.2.1, (HCE.out _ (HSW.out _ HD1.out).2).1⟩) (first | (go_at_call 30; refine (HPB.out _).mono ?_; rintro e w2 ⟨rfl, b2⟩; have HB2 := Lib.hid (HD1.out.trans (b2.mono HD1.out.size))))
  clear b2 HB1 HD0 HD1
  have HLOW := Lib.hid (HSW.out _ HB2.out).2
  obtain ⟨m0, m1, m2, m3⟩ := (HSW.out _ HB2.out).1
  obtain ⟨b0, ⟨y10, y8, y9, y0, y1⟩, z10, z9, z0, z1⟩ := HCE.out _ HLOW.out
  have hs1 := HLOW.out.size
  have qe : ((ia : Int) == (ib : Int)) = false := by simp; omega
  have qe2 : ¬ ((ia : Int) = (ib : Int)) := by omega
  have qe3 : ¬ (ia = ib) := hq
  have un : ¬ ((u : Int) < 0) := by omega
  have ud : decide (0 ≤ (u : Int)) = true := by simp
  clear hk hq e8 hu
  rw [hl] at y10
  rw [hl2] at z10
  have HL := Lib.hid (And.intro hl hl2)
  clear hl hl2 hmv
  go_wp2_with (first | (go_at_call 18; refine (HHAS.out _ HLOW.out).mono ?_; rintro e w3 ⟨rfl, b3⟩; have HLOW3 := Lib.hid (HLOW.out.trans (b3.mono HLOW.out.size)); obtain ⟨b0', ⟨y10', y8', y9', y0', y1'⟩, z10', z9', z0', z1'⟩ := HCE.out _ HLOW3.out; obtain ⟨m0', m1', m2', m3'⟩ := (HSW.out _ (HB2.out.trans (b3.mono HB2.out.size))).1; clear b3))
  go_ret
  exact ⟨rfl, H.out.stay HM.out HLOW3.out⟩
end
end Go.Proofs.YtelhnaphkbpakaaDoor
