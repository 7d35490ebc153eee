/- Part 43 of the proof of TpP: lemmas. -/
import Derived.Test.YtelhnaphkbpakaaDoorMp42
namespace Go.Proofs.YtelhnaphkbpakaaDoor
open Go.RowKit
set_option linter.unusedVariables false
set_option maxRecDepth 100000
structure MkB (x : MkV) : Prop where
  nm : x.nm.size ≤ 9223372036854775807
  a : -9223372036854775808 ≤ x.m.a ∧ x.m.a ≤ 9223372036854775807
  b : -9223372036854775808 ≤ x.m.b ∧ x.m.b ≤ 9223372036854775807
  back : -9223372036854775808 ≤ x.m.back ∧ x.m.back ≤ 9223372036854775807
def MvPost (B : Nat) (w : World) (m : Mk) (tb fb : Nat) (X : TX) (rv : Value) (w' : World) : Prop := ∃ Q' X' R', Both B Q' w' tb fb X' R' rv ∧ X'.F = moveF X.F m ∧ Below B w w'
theorem move_at {F : For} {m : Mk} {ia ib : Nat} (hia : ia = pick8 m.a F.length) (hib : ib = pick8 m.b F.length) {xa xb : FN} (ha : F[ia]? = some xa) (hb : F[ib]? = some xb) :
    moveF F m = if xa.live = false ∨ xb.live = false then F
    else if m.kind = 6 then (if ia = ib ∨ ia ∈ ups F ib ∨ xa.up.isSome = true then F else hng F ia ib (xb.down.length - pick8 m.back (xb.down.length + 1)))
    else if m.kind = 7 then (match xa.up with | none => F | some u => cutF F ia u)
    else if m.kind = 8 then (if xa.up.isSome = true ∨ xa.down.isEmpty = false then F else Kill F ia)
    else F := by
  subst hia hib
  unfold moveF
  rw [ha, hb]
  rfl
theorem map_at {R R' : List RN} (h : R'.map (fun r => r.2.1) = R.map (fun r => r.2.1)) {k : Nat} {r' : RN} (hr : R'[k]? = some r') : ∃ r, R[k]? = some r ∧ r.2.1 = r'.2.1 := by
  have h1 : (R'.map (fun r => r.2.1))[k]? = some r'.2.1 := by rw [List.getElem?_map, hr]; rfl
  rw [h, List.getElem?_map, Option.map_eq_some_iff] at h1
  exact h1
section
variable {B : Nat} {Q : Nat → Prop} {w w' : World} {tb fb s g : Nat} {X : TX} {R : List RN} {rv : Value}
theorem Both.stay (h : Both B Q w tb fb X R rv) {m : Mk} (hm : moveF X.F m = X.F) {w' : World} (b : Below w.heap.size w w') : MvPost B w m tb fb X rv w' := ⟨Q, X, R, h.below b, hm.symm, b.mono h.base⟩
theorem Both.down_len (h : Both B Q w tb fb X R rv) {k : Nat} {x : FN} (hx : X.F[k]? = some x) : x.down.length ≤ 200 := by
  have h2 := nodup_bound X.F.length x.down (h.t.fok.nd k x hx) (fun m hm => by
    obtain ⟨y, hy, _⟩ := h.t.fok.dn k x hx m hm
    exact (List.getElem?_eq_some_iff.1 hy).1)
  have := h.few
  omega
theorem Both.step2 (h : Both B Q w tb fb X R rv) {G : For} {w3 w4 : World} {R' : List RN} (hf3 : FoAt B (fun k => Q k ∨ w.heap.size ≤ k ∧ k < w3.heap.size) w3 fb G R' rv) (f3 : FrG [69] Q w w3) (ht4 : TreeAt B Q w4 tb { X with F := G }) (f4 : FrG [120] Q w3 w4) (hR : R'.map (fun r => r.2.1) = R.map (fun r => r.2.1)) (hl : G.length = X.F.length) :
    Both B (fun k => (Q k ∨ w.heap.size ≤ k ∧ k < w3.heap.size) ∨ w3.heap.size ≤ k ∧ k < w4.heap.size) w4 tb fb { X with F := G } R' rv :=
  ⟨ht4.mono (fun k hk => .inl (.inl hk)), hf3.frg (f4.mono (fun _ h => h) (fun k hk => .inl hk)) (by decide) (by decide) (by decide), fun k hk => by
    have := h.q k
    have := h.base
    have := f3.size
    have := f4.size
    rcases hk with (hk | hk) | hk
    · exact ⟨((h.q k) hk).1, by have := ((h.q k) hk).2; omega⟩
    · omega
    · omega, h.S, by show G.length ≤ 200; rw [hl]; exact h.few, fun k nb P r hm hr => by
    obtain ⟨r0, h1, h2⟩ := map_at hR hr
    rw [← h2]
    exact h.same k nb P r0 hm h1⟩
theorem Both.low2 (h : Both B Q w tb fb X R rv) {w3 w4 : World} (f3 : FrG [69] Q w w3) (f4 : FrG [120] Q w3 w4) : Below B w w4 :=
  ((f3.lowQ h.q h.base).trans (f4.below (Nat.le_trans h.base f3.size) (fun k hk hq => by have := (h.q k hq).1; omega)))
theorem Both.kill (h : Both B Q w tb fb X R rv) {i : Nat} {w3 w4 : World} {r r' : RN} {fv : Value} (hf3 : FoAt B Q w3 fb (Kill X.F i) (R.set i r') rv) (f3 : FrG [69] Q w w3) (ht4 : TreeAt B (fun k => Q k ∨ w3.heap.size ≤ k ∧ k < w4.heap.size) w4 tb ⟨Kill X.F i, X.M, (X.T.drop none s g).1, X.ab, X.hv, fv⟩) (f4 : FrG [145, 150, 29, 112, 31] Q w3 w4) (hr : R[i]? = some r) (hp : r'.2.1 = r.2.1) :
    Both B (fun k => Q k ∨ w3.heap.size ≤ k ∧ k < w4.heap.size) w4 tb fb ⟨Kill X.F i, X.M, (X.T.drop none s g).1, X.ab, X.hv, fv⟩ (R.set i r') rv :=
  ⟨ht4, hf3.frg f4 (by decide) (by decide) (by decide), fun k hk => by
    have := h.base
    have := f3.size
    have := f4.size
    rcases hk with hk | hk
    · exact ⟨((h.q k) hk).1, by have := ((h.q k) hk).2; omega⟩
    · omega, (TA.drop_S _ _ _ _).trans h.S, by show (Kill X.F i).length ≤ 200; rw [kill_len]; exact h.few, fun k nb P r2 hm hr2 => by
    have h2 : R[k]? = some r2 ∨ (k = i ∧ r2 = r') := by
      rw [List.getElem?_set] at hr2
      split at hr2
      · rename_i e
        split at hr2
        · cases hr2; exact .inr ⟨e.symm, rfl⟩
        · cases hr2
      · exact .inl hr2
    rcases h2 with h2 | ⟨rfl, rfl⟩
    · exact h.same k nb P r2 hm h2
    · rw [hp]; exact h.same k nb P r hm hr⟩
theorem Both.lowk (h : Both B Q w tb fb X R rv) {w3 w4 : World} {T : List TypeId} (f3 : FrG [69] Q w w3) (f4 : FrG T Q w3 w4) : Below B w w4 :=
  ((f3.lowQ h.q h.base).trans (f4.below (Nat.le_trans h.base f3.size) (fun k hk hq => by have := (h.q k hq).1; omega)))
end
section
variable {B : Nat} {Q : Nat → Prop} {w w' : World} {tb fb : Nat} {X : TX} {R : List RN} {rv : Value}
set_option maxHeartbeats 8000000 in
theorem moved_da (h : Both B Q w tb fb X R rv) {x : MkV} (hx : MkB x) {ia ib : Nat} (hia : ia = pick8 x.m.a X.F.length) (hib : ib = pick8 x.m.b X.F.length) {xa xb : FN} (ha : X.F[ia]? = some xa) (hb : X.F[ib]? = some xb) (hl : xa.live = false) :
    Calls Tryd.prog 39 #[.pointer (some ⟨tb, 0, none⟩), .pointer (some ⟨fb, 0, none⟩), x.v] w fun e w' => e = .returned (.bool true) ∧ MvPost B w x.m tb fb X rv w' := by
  show Calls Tryd.prog 39 #[.pointer (some ⟨tb, 0, none⟩), .pointer (some ⟨fb, 0, none⟩), .agg #[.int .i64 x.m.kind, .int .i64 x.m.a, .int .i64 x.m.b, .int .i64 x.m.back, .string x.nm, .slice x.ua x.un.length x.uc]] w fun e w' => e = .returned (.bool true) ∧ MvPost B w x.m tb fb X rv w'
  have H := Lib.hid h
  have HAB := Lib.hid (And.intro ha hb)
  have hmv := move_at hia hib ha hb
  have hlen := (List.getElem?_eq_some_iff.1 ha).1
  have hlenb := (List.getElem?_eq_some_iff.1 hb).1
  have hfew := h.few
  have b0 := h.f.b0
  obtain ⟨g, cap, Pa, da, e, hRa, y0, y1, y8, y9, y10⟩ := h.f.get ha
  obtain ⟨g', cap', Pb, db, e', hRb, z0, z1, z8, z9, z10⟩ := h.f.get hb
  rw [e] at e'
  cases e'
  rw [e] at b0
  have l0 := lt_of_some h.f.blk
  have l1 := cell_lt y0
  simp only at l1
  have HPA : Hid (∀ W, Calls Tryd.prog 30 #[.int .i64 x.m.a, .int .i64 (X.F.length : Int)] W fun e w' => e = .returned (.int .i64 (ia : Int)) ∧ Below W.heap.size W w') := Lib.hid (fun W => by rw [hia]; exact pick8_calls W _ _ hx.a (by omega) (by omega))
  have HPB : Hid (∀ W, Calls Tryd.prog 30 #[.int .i64 x.m.b, .int .i64 (X.F.length : Int)] W fun e w' => e = .returned (.int .i64 (ib : Int)) ∧ Below W.heap.size W w') := Lib.hid (fun W => by rw [hib]; exact pick8_calls W _ _ hx.b (by omega) (by omega))
  have HCE : Hid (∀ W, Below w.heap.size w W → W.cell? ⟨fb, 0, none⟩ = some (.slice (some ⟨g, 0, none⟩) X.F.length cap) ∧ (W.cell? ⟨g, ia * 11 + 10, none⟩ = some (.bool xa.live) ∧ W.cell? ⟨g, ia * 11 + 8, none⟩ = some (.int .i64 (upI xa.up)) ∧ W.cell? ⟨g, ia * 11 + 9, none⟩ = some da ∧ W.cell? ⟨g, ia * 11, none⟩ = some (.int .u32 (xa.sl : Int)) ∧ W.cell? ⟨g, ia * 11 + 1, none⟩ = some (.int .u32 (xa.gn : Int))) ∧ (W.cell? ⟨g, ib * 11 + 10, none⟩ = some (.bool xb.live) ∧ W.cell? ⟨g, ib * 11 + 9, none⟩ = some db ∧ W.cell? ⟨g, ib * 11, none⟩ = some (.int .u32 (xb.sl : Int)) ∧ W.cell? ⟨g, ib * 11 + 1, none⟩ = some (.int .u32 (xb.gn : Int)))) := Lib.hid (fun W b => ⟨(b.cell (p := ⟨fb, 0, none⟩) l0).trans b0, ⟨(b.cell (p := ⟨g, _, none⟩) l1).trans y10, (b.cell (p := ⟨g, _, none⟩) l1).trans y8, (b.cell (p := ⟨g, _, none⟩) l1).trans y9, (b.cell (p := ⟨g, _, none⟩) l1).trans y0, (b.cell (p := ⟨g, _, none⟩) l1).trans y1⟩, (b.cell (p := ⟨g, _, none⟩) l1).trans z10, (b.cell (p := ⟨g, _, none⟩) l1).trans z9, (b.cell (p := ⟨g, _, none⟩) l1).trans z0, (b.cell (p := ⟨g, _, none⟩) l1).trans z1⟩)
  have HRR := Lib.hid (And.intro hRa hRb)
  have hdsa : ∃ a c, da = .slice a xa.down.length c := h.f.dshape (List.mem_of_getElem? hRa)
  have hdsb : ∃ a c, db = .slice a xb.down.length c := h.f.dshape (List.mem_of_getElem? hRb)
  have hxback := hx.back
  have hdla := h.down_len ha
  have hdlb := h.down_len hb
  have HE := Lib.hid e
  have HM : Hid (moveF X.F x.m = X.F) := Lib.hid (by rw [hmv]; rw [if_pos (.inl hl)])
  clear ha hb h b0 e y0 y1 y8 y9 y10 z0 z1 z8 z9 z10 hRa hRb hia hib
  generalize x.un.length = ul
  generalize x.ua = ua
  generalize x.uc = uc
  generalize x.nm = nm at *
  obtain ⟨V, hV⟩ : ∃ V, V = w.alloc (.cells #[.int .i64 x.m.kind, .int .i64 x.m.a, .int .i64 x.m.b, .int .i64 x.m.back, .string nm, .slice ua ul uc] 76) := ⟨_, rfl⟩
  have bV : Below w.heap.size w V := by rw [hV]; exact (by repeat (first | exact Below.refl _ _ | assumption | refine Below.drew ?_ | refine below_drewN ?_ _ | refine Below.alloc ?_ (by simp <;> omega) _ | refine Below.setCell ?_ (by simp <;> omega) _ | (apply bl_trans; assumption; (simp <;> omega))))
  have hV0 : V.heap[w.heap.size]? = some (.cells #[.int .i64 x.m.kind, .int .i64 x.m.a, .int .i64 x.m.b, .int .i64 x.m.back, .string nm, .slice ua ul uc] 76 (0, 0)) := by rw [hV]; exact Go.heap_alloc_new w _
  have HX := Lib.hid (And.intro hV0 bV)
  have HSW : Hid (∀ W, Below V.heap.size V W → (W.cell? ⟨w.heap.size, 0, none⟩ = some (.int .i64 x.m.kind) ∧ W.cell? ⟨w.heap.size, 1, none⟩ = some (.int .i64 x.m.a) ∧ W.cell? ⟨w.heap.size, 2, none⟩ = some (.int .i64 x.m.b) ∧ W.cell? ⟨w.heap.size, 3, none⟩ = some (.int .i64 x.m.back)) ∧ Below w.heap.size w W) := Lib.hid (fun W bb => by
    have h1 := (bb.block _ (lt_of_some HX.out.1)).trans HX.out.1
    exact ⟨⟨cell_blk h1 0 rfl, cell_blk h1 1 rfl, cell_blk h1 2 rfl, cell_blk h1 3 rfl⟩, HX.out.2.trans (bb.mono HX.out.2.size)⟩)
  have HD0 : Hid (Below V.heap.size V V.drew) := Lib.hid (Below.refl _ _).drew
  have hV2 := hV
  clear hV hV0 bV
  obtain ⟨n, hn⟩ : ∃ n, n = X.F.length := ⟨_, rfl⟩
  rw [← hn] at HPA HPB HCE hlen hlenb hfew
  have HNL := Lib.hid hn
  clear hn
  go_enter Tryd.func39, Tryd.ntmps39
  go_wp2_with fail
  rw [← hV2]
  clear hV2
  go_region_held3 (fun W => W.cell? ⟨w.heap.size, 1, none⟩ = some (.int .i64 x.m.a) ∧ W.cell? ⟨fb, 0, none⟩ = some (.slice (some ⟨g, 0, none⟩) n cap)) (first | exact ⟨(HSW.out _ HB1.out).1.2.1, (HCE.out _ (HSW.out _ HB1.out).2).1⟩ | exact ⟨(HSW.out _ HD0.out).1.2.1, (HCE.out _ (HSW.out _ HD0.out).2).1⟩) (first | (go_at_call 30; refine (HPA.out _).mono ?_; rintro e w1 ⟨rfl, b1⟩; have HB1 := Lib.hid (HD0.out.trans (b1.mono HD0.out.size))))
  clear b1
  have HD1 : Hid (Below V.heap.size V w1.drew) := Lib.hid HB1.out.drew
  go_wp2_with fail
  go_region_held3 (fun W => W.cell? ⟨w.heap.size, 2, none⟩ = some (.int .i64 x.m.b) ∧ W.cell? ⟨fb, 0, none⟩ = some (.slice (some ⟨g, 0, none⟩) n cap)) (first | exact ⟨(HSW.out _ HB2.out).1.2.2.1, (HCE.out _ (HSW.out _ HB2.out).2).1⟩ | exact ⟨(HSW.out _ HD1.out).1.2.2.1, (HCE.out _ (HSW.out _ HD1.out).2).1⟩) (first | (go_at_call 30; refine (HPB.out _).mono ?_; rintro e w2 ⟨rfl, b2⟩; have HB2 := Lib.hid (HD1.out.trans (b2.mono HD1.out.size))))
  clear b2 HB1 HD0 HD1
  have HLOW := Lib.hid (HSW.out _ HB2.out).2
  obtain ⟨m0, m1, m2, m3⟩ := (HSW.out _ HB2.out).1
  obtain ⟨b0, ⟨y10, y8, y9, y0, y1⟩, z10, z9, z0, z1⟩ := HCE.out _ HLOW.out
  have hs1 := HLOW.out.size
  rw [hl] at y10
  clear hl hmv
  go_wp2_with fail
  go_ret
  exact ⟨rfl, H.out.stay HM.out HLOW.out⟩
end
section
variable {B : Nat} {Q : Nat → Prop} {w w' : World} {tb fb : Nat} {X : TX} {R : List RN} {rv : Value}
set_option maxHeartbeats 8000000 in
theorem moved_db (h : Both B Q w tb fb X R rv) {x : MkV} (hx : MkB x) {ia ib : Nat} (hia : ia = pick8 x.m.a X.F.length) (hib : ib = pick8 x.m.b X.F.length) {xa xb : FN} (ha : X.F[ia]? = some xa) (hb : X.F[ib]? = some xb) (hl : xa.live = true) (hl2 : xb.live = false) :
    Calls Tryd.prog 39 #[.pointer (some ⟨tb, 0, none⟩), .pointer (some ⟨fb, 0, none⟩), x.v] w fun e w' => e = .returned (.bool true) ∧ MvPost B w x.m tb fb X rv w' := by
  show Calls Tryd.prog 39 #[.pointer (some ⟨tb, 0, none⟩), .pointer (some ⟨fb, 0, none⟩), .agg #[.int .i64 x.m.kind, .int .i64 x.m.a, .int .i64 x.m.b, .int .i64 x.m.back, .string x.nm, .slice x.ua x.un.length x.uc]] w fun e w' => e = .returned (.bool true) ∧ MvPost B w x.m tb fb X rv w'
  have H := Lib.hid h
  have HAB := Lib.hid (And.intro ha hb)
  have hmv := move_at hia hib ha hb
  have hlen := (List.getElem?_eq_some_iff.1 ha).1
  have hlenb := (List.getElem?_eq_some_iff.1 hb).1
  have hfew := h.few
  have b0 := h.f.b0
  obtain ⟨g, cap, Pa, da, e, hRa, y0, y1, y8, y9, y10⟩ := h.f.get ha
  obtain ⟨g', cap', Pb, db, e', hRb, z0, z1, z8, z9, z10⟩ := h.f.get hb
  rw [e] at e'
  cases e'
  rw [e] at b0
  have l0 := lt_of_some h.f.blk
  have l1 := cell_lt y0
  simp only at l1
  have HPA : Hid (∀ W, Calls Tryd.prog 30 #[.int .i64 x.m.a, .int .i64 (X.F.length : Int)] W fun e w' => e = .returned (.int .i64 (ia : Int)) ∧ Below W.heap.size W w') := Lib.hid (fun W => by rw [hia]; exact pick8_calls W _ _ hx.a (by omega) (by omega))
  have HPB : Hid (∀ W, Calls Tryd.prog 30 #[.int .i64 x.m.b, .int .i64 (X.F.length : Int)] W fun e w' => e = .returned (.int .i64 (ib : Int)) ∧ Below W.heap.size W w') := Lib.hid (fun W => by rw [hib]; exact pick8_calls W _ _ hx.b (by omega) (by omega))
  have HCE : Hid (∀ W, Below w.heap.size w W → W.cell? ⟨fb, 0, none⟩ = some (.slice (some ⟨g, 0, none⟩) X.F.length cap) ∧ (W.cell? ⟨g, ia * 11 + 10, none⟩ = some (.bool xa.live) ∧ W.cell? ⟨g, ia * 11 + 8, none⟩ = some (.int .i64 (upI xa.up)) ∧ W.cell? ⟨g, ia * 11 + 9, none⟩ = some da ∧ W.cell? ⟨g, ia * 11, none⟩ = some (.int .u32 (xa.sl : Int)) ∧ W.cell? ⟨g, ia * 11 + 1, none⟩ = some (.int .u32 (xa.gn : Int))) ∧ (W.cell? ⟨g, ib * 11 + 10, none⟩ = some (.bool xb.live) ∧ W.cell? ⟨g, ib * 11 + 9, none⟩ = some db ∧ W.cell? ⟨g, ib * 11, none⟩ = some (.int .u32 (xb.sl : Int)) ∧ W.cell? ⟨g, ib * 11 + 1, none⟩ = some (.int .u32 (xb.gn : Int)))) := Lib.hid (fun W b => ⟨(b.cell (p := ⟨fb, 0, none⟩) l0).trans b0, ⟨(b.cell (p := ⟨g, _, none⟩) l1).trans y10, (b.cell (p := ⟨g, _, none⟩) l1).trans y8, (b.cell (p := ⟨g, _, none⟩) l1).trans y9, (b.cell (p := ⟨g, _, none⟩) l1).trans y0, (b.cell (p := ⟨g, _, none⟩) l1).trans y1⟩, (b.cell (p := ⟨g, _, none⟩) l1).trans z10, (b.cell (p := ⟨g, _, none⟩) l1).trans z9, (b.cell (p := ⟨g, _, none⟩) l1).trans z0, (b.cell (p := ⟨g, _, none⟩) l1).trans z1⟩)
  have HRR := Lib.hid (And.intro hRa hRb)
  have hdsa : ∃ a c, da = .slice a xa.down.length c := h.f.dshape (List.mem_of_getElem? hRa)
  have hdsb : ∃ a c, db = .slice a xb.down.length c := h.f.dshape (List.mem_of_getElem? hRb)
  have hxback := hx.back
  have hdla := h.down_len ha
  have hdlb := h.down_len hb
  have HE := Lib.hid e
  have HM : Hid (moveF X.F x.m = X.F) := Lib.hid (by rw [hmv]; rw [if_pos (.inr hl2)])
  clear ha hb h b0 e y0 y1 y8 y9 y10 z0 z1 z8 z9 z10 hRa hRb hia hib
  generalize x.un.length = ul
  generalize x.ua = ua
  generalize x.uc = uc
  generalize x.nm = nm at *
  obtain ⟨V, hV⟩ : ∃ V, V = w.alloc (.cells #[.int .i64 x.m.kind, .int .i64 x.m.a, .int .i64 x.m.b, .int .i64 x.m.back, .string nm, .slice ua ul uc] 76) := ⟨_, rfl⟩
  have bV : Below w.heap.size w V := by rw [hV]; exact (by repeat (first | exact Below.refl _ _ | assumption | refine Below.drew ?_ | refine below_drewN ?_ _ | refine Below.alloc ?_ (by simp <;> omega) _ | refine Below.setCell ?_ (by simp <;> omega) _ | (apply bl_trans; assumption; (simp <;> omega))))
  have hV0 : V.heap[w.heap.size]? = some (.cells #[.int .i64 x.m.kind, .int .i64 x.m.a, .int .i64 x.m.b, .int .i64 x.m.back, .string nm, .slice ua ul uc] 76 (0, 0)) := by rw [hV]; exact Go.heap_alloc_new w _
  have HX := Lib.hid (And.intro hV0 bV)
  have HSW : Hid (∀ W, Below V.heap.size V W → (W.cell? ⟨w.heap.size, 0, none⟩ = some (.int .i64 x.m.kind) ∧ W.cell? ⟨w.heap.size, 1, none⟩ = some (.int .i64 x.m.a) ∧ W.cell? ⟨w.heap.size, 2, none⟩ = some (.int .i64 x.m.b) ∧ W.cell? ⟨w.heap.size, 3, none⟩ = some (.int .i64 x.m.back)) ∧ Below w.heap.size w W) := Lib.hid (fun W bb => by
    have h1 := (bb.block _ (lt_of_some HX.out.1)).trans HX.out.1
    exact ⟨⟨cell_blk h1 0 rfl, cell_blk h1 1 rfl, cell_blk h1 2 rfl, cell_blk h1 3 rfl⟩, HX.out.2.trans (bb.mono HX.out.2.size)⟩)
  have HD0 : Hid (Below V.heap.size V V.drew) := Lib.hid (Below.refl _ _).drew
  have hV2 := hV
  clear hV hV0 bV
  obtain ⟨n, hn⟩ : ∃ n, n = X.F.length := ⟨_, rfl⟩
  rw [← hn] at HPA HPB HCE hlen hlenb hfew
  have HNL := Lib.hid hn
  clear hn
  go_enter Tryd.func39, Tryd.ntmps39
  go_wp2_with fail
  rw [← hV2]
  clear hV2
  go_region_held3 (fun W => W.cell? ⟨w.heap.size, 1, none⟩ = some (.int .i64 x.m.a) ∧ W.cell? ⟨fb, 0, none⟩ = some (.slice (some ⟨g, 0, none⟩) n cap)) (first | exact ⟨(HSW.out _ HB1.out).1.2.1, (HCE.out _ (HSW.out _ HB1.out).2).1⟩ | exact ⟨(HSW.out _ HD0.out).1.2.1, (HCE.out _ (HSW.out _ HD0.out).2).1⟩) (first | (go_at_call 30; refine (HPA.out _).mono ?_; rintro e w1 ⟨rfl, b1⟩; have HB1 := Lib.hid (HD0.out.trans (b1.mono HD0.out.size))))
  clear b1
  have HD1 : Hid (Below V.heap.size V w1.drew) := Lib.hid HB1.out.drew
  go_wp2_with fail
  go_region_held3 (fun W => W.cell? ⟨w.heap.size, 2, none⟩ = some (.int .i64 x.m.b) ∧ W.cell? ⟨fb, 0, none⟩ = some (.slice (some ⟨g, 0, none⟩) n cap)) (first | exact ⟨(HSW.out _ HB2.out).1.2.2.1, (HCE.out _ (HSW.out _ HB2.out).2).1⟩ | exact ⟨(HSW.out _ HD1.out).1.2.2.1, (HCE.out _ (HSW.out _ HD1.out).2).1⟩) (first | (go_at_call 30; refine (HPB.out _).mono ?_; rintro e w2 ⟨rfl, b2⟩; have HB2 := Lib.hid (HD1.out.trans (b2.mono HD1.out.size))))
  clear b2 HB1 HD0 HD1
  have HLOW := Lib.hid (HSW.out _ HB2.out).2
  obtain ⟨m0, m1, m2, m3⟩ := (HSW.out _ HB2.out).1
  obtain ⟨b0, ⟨y10, y8, y9, y0, y1⟩, z10, z9, z0, z1⟩ := HCE.out _ HLOW.out
  have hs1 := HLOW.out.size
  rw [hl] at y10
  rw [hl2] at z10
  clear hl hl2 hmv
  go_wp2_with fail
  go_ret
  exact ⟨rfl, H.out.stay HM.out HLOW.out⟩
end
section
variable {B : Nat} {Q : Nat → Prop} {w w' : World} {tb fb : Nat} {X : TX} {R : List RN} {rv : Value}
set_option maxHeartbeats 8000000 in
theorem moved_no (h : Both B Q w tb fb X R rv) {x : MkV} (hx : MkB x) {ia ib : Nat} (hia : ia = pick8 x.m.a X.F.length) (hib : ib = pick8 x.m.b X.F.length) {xa xb : FN} (ha : X.F[ia]? = some xa) (hb : X.F[ib]? = some xb) (hl : xa.live = true) (hl2 : xb.live = true) (h6 : x.m.kind ≠ 6) (h7 : x.m.kind ≠ 7) (h8 : x.m.kind ≠ 8) :
    Calls Tryd.prog 39 #[.pointer (some ⟨tb, 0, none⟩), .pointer (some ⟨fb, 0, none⟩), x.v] w fun e w' => e = .returned (.bool true) ∧ MvPost B w x.m tb fb X rv w' := by
  show Calls Tryd.prog 39 #[.pointer (some ⟨tb, 0, none⟩), .pointer (some ⟨fb, 0, none⟩), .agg #[.int .i64 x.m.kind, .int .i64 x.m.a, .int .i64 x.m.b, .int .i64 x.m.back, .string x.nm, .slice x.ua x.un.length x.uc]] w fun e w' => e = .returned (.bool true) ∧ MvPost B w x.m tb fb X rv w'
  have H := Lib.hid h
  have HAB := Lib.hid (And.intro ha hb)
  have hmv := move_at hia hib ha hb
  have hlen := (List.getElem?_eq_some_iff.1 ha).1
  have hlenb := (List.getElem?_eq_some_iff.1 hb).1
  have hfew := h.few
  have b0 := h.f.b0
  obtain ⟨g, cap, Pa, da, e, hRa, y0, y1, y8, y9, y10⟩ := h.f.get ha
  obtain ⟨g', cap', Pb, db, e', hRb, z0, z1, z8, z9, z10⟩ := h.f.get hb
  rw [e] at e'
  cases e'
  rw [e] at b0
  have l0 := lt_of_some h.f.blk
  have l1 := cell_lt y0
  simp only at l1
  have HPA : Hid (∀ W, Calls Tryd.prog 30 #[.int .i64 x.m.a, .int .i64 (X.F.length : Int)] W fun e w' => e = .returned (.int .i64 (ia : Int)) ∧ Below W.heap.size W w') := Lib.hid (fun W => by rw [hia]; exact pick8_calls W _ _ hx.a (by omega) (by omega))
  have HPB : Hid (∀ W, Calls Tryd.prog 30 #[.int .i64 x.m.b, .int .i64 (X.F.length : Int)] W fun e w' => e = .returned (.int .i64 (ib : Int)) ∧ Below W.heap.size W w') := Lib.hid (fun W => by rw [hib]; exact pick8_calls W _ _ hx.b (by omega) (by omega))
  have HCE : Hid (∀ W, Below w.heap.size w W → W.cell? ⟨fb, 0, none⟩ = some (.slice (some ⟨g, 0, none⟩) X.F.length cap) ∧ (W.cell? ⟨g, ia * 11 + 10, none⟩ = some (.bool xa.live) ∧ W.cell? ⟨g, ia * 11 + 8, none⟩ = some (.int .i64 (upI xa.up)) ∧ W.cell? ⟨g, ia * 11 + 9, none⟩ = some da ∧ W.cell? ⟨g, ia * 11, none⟩ = some (.int .u32 (xa.sl : Int)) ∧ W.cell? ⟨g, ia * 11 + 1, none⟩ = some (.int .u32 (xa.gn : Int))) ∧ (W.cell? ⟨g, ib * 11 + 10, none⟩ = some (.bool xb.live) ∧ W.cell? ⟨g, ib * 11 + 9, none⟩ = some db ∧ W.cell? ⟨g, ib * 11, none⟩ = some (.int .u32 (xb.sl : Int)) ∧ W.cell? ⟨g, ib * 11 + 1, none⟩ = some (.int .u32 (xb.gn : Int)))) := Lib.hid (fun W b => ⟨(b.cell (p := ⟨fb, 0, none⟩) l0).trans b0, ⟨(b.cell (p := ⟨g, _, none⟩) l1).trans y10, (b.cell (p := ⟨g, _, none⟩) l1).trans y8, (b.cell (p := ⟨g, _, none⟩) l1).trans y9, (b.cell (p := ⟨g, _, none⟩) l1).trans y0, (b.cell (p := ⟨g, _, none⟩) l1).trans y1⟩, (b.cell (p := ⟨g, _, none⟩) l1).trans z10, (b.cell (p := ⟨g, _, none⟩) l1).trans z9, (b.cell (p := ⟨g, _, none⟩) l1).trans z0, (b.cell (p := ⟨g, _, none⟩) l1).trans z1⟩)
  have HRR := Lib.hid (And.intro hRa hRb)
  have hdsa : ∃ a c, da = .slice a xa.down.length c := h.f.dshape (List.mem_of_getElem? hRa)
  have hdsb : ∃ a c, db = .slice a xb.down.length c := h.f.dshape (List.mem_of_getElem? hRb)
  have hxback := hx.back
  have hdla := h.down_len ha
  have hdlb := h.down_len hb
  have HE := Lib.hid e
  have HM : Hid (moveF X.F x.m = X.F) := Lib.hid (by rw [hmv]; rw [if_neg (fun h => by rcases h with h | h <;> simp [hl, hl2] at h)]; rw [if_neg h6, if_neg h7, if_neg h8])
  clear ha hb h b0 e y0 y1 y8 y9 y10 z0 z1 z8 z9 z10 hRa hRb hia hib
  generalize x.un.length = ul
  generalize x.ua = ua
  generalize x.uc = uc
  generalize x.nm = nm at *
  obtain ⟨V, hV⟩ : ∃ V, V = w.alloc (.cells #[.int .i64 x.m.kind, .int .i64 x.m.a, .int .i64 x.m.b, .int .i64 x.m.back, .string nm, .slice ua ul uc] 76) := ⟨_, rfl⟩
  have bV : Below w.heap.size w V := by rw [hV]; exact (by repeat (first | exact Below.refl _ _ | assumption | refine Below.drew ?_ | refine below_drewN ?_ _ | refine Below.alloc ?_ (by simp <;> omega) _ | refine Below.setCell ?_ (by simp <;> omega) _ | (apply bl_trans; assumption; (simp <;> omega))))
  have hV0 : V.heap[w.heap.size]? = some (.cells #[.int .i64 x.m.kind, .int .i64 x.m.a, .int .i64 x.m.b, .int .i64 x.m.back, .string nm, .slice ua ul uc] 76 (0, 0)) := by rw [hV]; exact Go.heap_alloc_new w _
  have HX := Lib.hid (And.intro hV0 bV)
  have HSW : Hid (∀ W, Below V.heap.size V W → (W.cell? ⟨w.heap.size, 0, none⟩ = some (.int .i64 x.m.kind) ∧ W.cell? ⟨w.heap.size, 1, none⟩ = some (.int .i64 x.m.a) ∧ W.cell? ⟨w.heap.size, 2, none⟩ = some (.int .i64 x.m.b) ∧ W.cell? ⟨w.heap.size, 3, none⟩ = some (.int .i64 x.m.back)) ∧ Below w.heap.size w W) := Lib.hid (fun W bb => by
    have h1 := (bb.block _ (lt_of_some HX.out.1)).trans HX.out.1
    exact ⟨⟨cell_blk h1 0 rfl, cell_blk h1 1 rfl, cell_blk h1 2 rfl, cell_blk h1 3 rfl⟩, HX.out.2.trans (bb.mono HX.out.2.size)⟩)
  have HD0 : Hid (Below V.heap.size V V.drew) := Lib.hid (Below.refl _ _).drew
  have hV2 := hV
  clear hV hV0 bV
  obtain ⟨n, hn⟩ : ∃ n, n = X.F.length := ⟨_, rfl⟩
  rw [← hn] at HPA HPB HCE hlen hlenb hfew
  have HNL := Lib.hid hn
  clear hn
  go_enter Tryd.func39, Tryd.ntmps39
  go_wp2_with fail
  rw [← hV2]
  clear hV2
  go_region_held3 (fun W => W.cell? ⟨w.heap.size, 1, none⟩ = some (.int .i64 x.m.a) ∧ W.cell? ⟨fb, 0, none⟩ = some (.slice (some ⟨g, 0, none⟩) n cap)) (first | exact ⟨(HSW.out _ HB1.out).1.2.1, (HCE.out _ (HSW.out _ HB1.out).2).1⟩ | exact ⟨(HSW.out _ HD0.out).1.2.1, (HCE.out _ (HSW.out _ HD0.out).2).1⟩) (first | (go_at_call 30; refine (HPA.out _).mono ?_; rintro e w1 ⟨rfl, b1⟩; have HB1 := Lib.hid (HD0.out.trans (b1.mono HD0.out.size))))
  clear b1
  have HD1 : Hid (Below V.heap.size V w1.drew) := Lib.hid HB1.out.drew
  go_wp2_with fail
  go_region_held3 (fun W => W.cell? ⟨w.heap.size, 2, none⟩ = some (.int .i64 x.m.b) ∧ W.cell? ⟨fb, 0, none⟩ = some (.slice (some ⟨g, 0, none⟩) n cap)) (first | exact ⟨(HSW.out _ HB2.out).1.2.2.1, (HCE.out _ (HSW.out _ HB2.out).2).1⟩ | exact ⟨(HSW.out _ HD1.out).1.2.2.1, (HCE.out _ (HSW.out _ HD1.out).2).1⟩) (first | (go_at_call 30; refine (HPB.out _).mono ?_; rintro e w2 ⟨rfl, b2⟩; have HB2 := Lib.hid (HD1.out.trans (b2.mono HD1.out.size))))
  clear b2 HB1 HD0 HD1
  have HLOW := Lib.hid (HSW.out _ HB2.out).2
  obtain ⟨m0, m1, m2, m3⟩ := (HSW.out _ HB2.out).1
  obtain ⟨b0, ⟨y10, y8, y9, y0, y1⟩, z10, z9, z0, z1⟩ := HCE.out _ HLOW.out
  have hs1 := HLOW.out.size
  rw [hl] at y10
  rw [hl2] at z10
  have HL := Lib.hid (And.intro hl hl2)
  clear hl hl2 hmv
  have k6 : (x.m.kind == 6) = false := by simpa using h6
  have k7 : (x.m.kind == 7) = false := by simpa using h7
  have k8 : (x.m.kind == 8) = false := by simpa using h8
  go_wp2_with fail
  go_ret
  exact ⟨rfl, H.out.stay HM.out HLOW.out⟩
end
section
variable {B : Nat} {Q : Nat → Prop} {w w' : World} {tb fb : Nat} {X : TX} {R : List RN} {rv : Value}
set_option maxHeartbeats 8000000 in
theorem moved_7n (h : Both B Q w tb fb X R rv) {x : MkV} (hx : MkB x) {ia ib : Nat} (hia : ia = pick8 x.m.a X.F.length) (hib : ib = pick8 x.m.b X.F.length) {xa xb : FN} (ha : X.F[ia]? = some xa) (hb : X.F[ib]? = some xb) (hl : xa.live = true) (hl2 : xb.live = true) (hk : x.m.kind = 7) (hu : xa.up = none) :
    Calls Tryd.prog 39 #[.pointer (some ⟨tb, 0, none⟩), .pointer (some ⟨fb, 0, none⟩), x.v] w fun e w' => e = .returned (.bool true) ∧ MvPost B w x.m tb fb X rv w' := by
  show Calls Tryd.prog 39 #[.pointer (some ⟨tb, 0, none⟩), .pointer (some ⟨fb, 0, none⟩), .agg #[.int .i64 x.m.kind, .int .i64 x.m.a, .int .i64 x.m.b, .int .i64 x.m.back, .string x.nm, .slice x.ua x.un.length x.uc]] w fun e w' => e = .returned (.bool true) ∧ MvPost B w x.m tb fb X rv w'
  rw [hk]
  have H := Lib.hid h
  have HAB := Lib.hid (And.intro ha hb)
  have hmv := move_at hia hib ha hb
  have hlen := (List.getElem?_eq_some_iff.1 ha).1
  have hlenb := (List.getElem?_eq_some_iff.1 hb).1
  have hfew := h.few
  have b0 := h.f.b0
  obtain ⟨g, cap, Pa, da, e, hRa, y0, y1, y8, y9, y10⟩ := h.f.get ha
  obtain ⟨g', cap', Pb, db, e', hRb, z0, z1, z8, z9, z10⟩ := h.f.get hb
  rw [e] at e'
  cases e'
  rw [e] at b0
  have l0 := lt_of_some h.f.blk
  have l1 := cell_lt y0
  simp only at l1
  have HPA : Hid (∀ W, Calls Tryd.prog 30 #[.int .i64 x.m.a, .int .i64 (X.F.length : Int)] W fun e w' => e = .returned (.int .i64 (ia : Int)) ∧ Below W.heap.size W w') := Lib.hid (fun W => by rw [hia]; exact pick8_calls W _ _ hx.a (by omega) (by omega))
  have HPB : Hid (∀ W, Calls Tryd.prog 30 #[.int .i64 x.m.b, .int .i64 (X.F.length : Int)] W fun e w' => e = .returned (.int .i64 (ib : Int)) ∧ Below W.heap.size W w') := Lib.hid (fun W => by rw [hib]; exact pick8_calls W _ _ hx.b (by omega) (by omega))
  have HCE : Hid (∀ W, Below w.heap.size w W → W.cell? ⟨fb, 0, none⟩ = some (.slice (some ⟨g, 0, none⟩) X.F.length cap) ∧ (W.cell? ⟨g, ia * 11 + 10, none⟩ = some (.bool xa.live) ∧ W.cell? ⟨g, ia * 11 + 8, none⟩ = some (.int .i64 (upI xa.up)) ∧ W.cell? ⟨g, ia * 11 + 9, none⟩ = some da ∧ W.cell? ⟨g, ia * 11, none⟩ = some (.int .u32 (xa.sl : Int)) ∧ W.cell? ⟨g, ia * 11 + 1, none⟩ = some (.int .u32 (xa.gn : Int))) ∧ (W.cell? ⟨g, ib * 11 + 10, none⟩ = some (.bool xb.live) ∧ W.cell? ⟨g, ib * 11 + 9, none⟩ = some db ∧ W.cell? ⟨g, ib * 11, none⟩ = some (.int .u32 (xb.sl : Int)) ∧ W.cell? ⟨g, ib * 11 + 1, none⟩ = some (.int .u32 (xb.gn : Int)))) := Lib.hid (fun W b => ⟨(b.cell (p := ⟨fb, 0, none⟩) l0).trans b0, ⟨(b.cell (p := ⟨g, _, none⟩) l1).trans y10, (b.cell (p := ⟨g, _, none⟩) l1).trans y8, (b.cell (p := ⟨g, _, none⟩) l1).trans y9, (b.cell (p := ⟨g, _, none⟩) l1).trans y0, (b.cell (p := ⟨g, _, none⟩) l1).trans y1⟩, (b.cell (p := ⟨g, _, none⟩) l1).trans z10, (b.cell (p := ⟨g, _, none⟩) l1).trans z9, (b.cell (p := ⟨g, _, none⟩) l1).trans z0, (b.cell (p := ⟨g, _, none⟩) l1).trans z1⟩)
  have HRR := Lib.hid (And.intro hRa hRb)
  have hdsa : ∃ a c, da = .slice a xa.down.length c := h.f.dshape (List.mem_of_getElem? hRa)
  have hdsb : ∃ a c, db = .slice a xb.down.length c := h.f.dshape (List.mem_of_getElem? hRb)
  have hxback := hx.back
  have hdla := h.down_len ha
  have hdlb := h.down_len hb
  have HE := Lib.hid e
  have HM : Hid (moveF X.F x.m = X.F) := Lib.hid (by rw [hmv]; rw [if_neg (fun h => by rcases h with h | h <;> simp [hl, hl2] at h)]; rw [if_neg (by omega), if_pos hk, hu])
  clear ha hb h b0 e y0 y1 y8 y9 y10 z0 z1 z8 z9 z10 hRa hRb hia hib
  generalize x.un.length = ul
  generalize x.ua = ua
  generalize x.uc = uc
  generalize x.nm = nm at *
  obtain ⟨V, hV⟩ : ∃ V, V = w.alloc (.cells #[.int .i64 7, .int .i64 x.m.a, .int .i64 x.m.b, .int .i64 x.m.back, .string nm, .slice ua ul uc] 76) := ⟨_, rfl⟩
  have bV : Below w.heap.size w V := by rw [hV]; exact (by repeat (first | exact Below.refl _ _ | assumption | refine Below.drew ?_ | refine below_drewN ?_ _ | refine Below.alloc ?_ (by simp <;> omega) _ | refine Below.setCell ?_ (by simp <;> omega) _ | (apply bl_trans; assumption; (simp <;> omega))))
  have hV0 : V.heap[w.heap.size]? = some (.cells #[.int .i64 7, .int .i64 x.m.a, .int .i64 x.m.b, .int .i64 x.m.back, .string nm, .slice ua ul uc] 76 (0, 0)) := by rw [hV]; exact Go.heap_alloc_new w _
  have HX := Lib.hid (And.intro hV0 bV)
  have HSW : Hid (∀ W, Below V.heap.size V W → (W.cell? ⟨w.heap.size, 0, none⟩ = some (.int .i64 7) ∧ W.cell? ⟨w.heap.size, 1, none⟩ = some (.int .i64 x.m.a) ∧ W.cell? ⟨w.heap.size, 2, none⟩ = some (.int .i64 x.m.b) ∧ W.cell? ⟨w.heap.size, 3, none⟩ = some (.int .i64 x.m.back)) ∧ Below w.heap.size w W) := Lib.hid (fun W bb => by
    have h1 := (bb.block _ (lt_of_some HX.out.1)).trans HX.out.1
    exact ⟨⟨cell_blk h1 0 rfl, cell_blk h1 1 rfl, cell_blk h1 2 rfl, cell_blk h1 3 rfl⟩, HX.out.2.trans (bb.mono HX.out.2.size)⟩)
  have HD0 : Hid (Below V.heap.size V V.drew) := Lib.hid (Below.refl _ _).drew
  have hV2 := hV
  clear hV hV0 bV
  obtain ⟨n, hn⟩ : ∃ n, n = X.F.length := ⟨_, rfl⟩
  rw [← hn] at HPA HPB HCE hlen hlenb hfew
  have HNL := Lib.hid hn
  clear hn
  go_enter Tryd.func39, Tryd.ntmps39
  go_wp2_with fail
  rw [← hV2]
  clear hV2
  go_region_held3 (fun W => W.cell? ⟨w.heap.size, 1, none⟩ = some (.int .i64 x.m.a) ∧ W.cell? ⟨fb, 0, none⟩ = some (.slice (some ⟨g, 0, none⟩) n cap)) (first | exact ⟨(HSW.out _ HB1.out).1.2.1, (HCE.out _ (HSW.out _ HB1.out).2).1⟩ | exact ⟨(HSW.out _ HD0.out).1.2.1, (HCE.out _ (HSW.out _ HD0.out).2).1⟩) (first | (go_at_call 30; refine (HPA.out _).mono ?_; rintro e w1 ⟨rfl, b1⟩; have HB1 := Lib.hid (HD0.out.trans (b1.mono HD0.out.size))))
  clear b1
  have HD1 : Hid (Below V.heap.size V w1.drew) := Lib.hid HB1.out.drew
  go_wp2_with fail
  go_region_held3 (fun W => W.cell? ⟨w.heap.size, 2, none⟩ = some (.int .i64 x.m.b) ∧ W.cell? ⟨fb, 0, none⟩ = some (.slice (some ⟨g, 0, none⟩) n cap)) (first | exact ⟨(HSW.out _ HB2.out).1.2.2.1, (HCE.out _ (HSW.out _ HB2.out).2).1⟩ | exact ⟨(HSW.out _ HD1.out).1.2.2.1, (HCE.out _ (HSW.out _ HD1.out).2).1⟩) (first | (go_at_call 30; refine (HPB.out _).mono ?_; rintro e w2 ⟨rfl, b2⟩; have HB2 := Lib.hid (HD1.out.trans (b2.mono HD1.out.size))))
  clear b2 HB1 HD0 HD1
  have HLOW := Lib.hid (HSW.out _ HB2.out).2
  obtain ⟨m0, m1, m2, m3⟩ := (HSW.out _ HB2.out).1
  obtain ⟨b0, ⟨y10, y8, y9, y0, y1⟩, z10, z9, z0, z1⟩ := HCE.out _ HLOW.out
  have hs1 := HLOW.out.size
  have e8 : upI xa.up = -1 := by rw [hu]; rfl
  rw [e8] at y8
  clear e8 hu hk
  rw [hl] at y10
  rw [hl2] at z10
  have HL := Lib.hid (And.intro hl hl2)
  clear hl hl2 hmv
  go_wp2_with fail
  go_ret
  exact ⟨rfl, H.out.stay HM.out HLOW.out⟩
end
section
variable {B : Nat} {Q : Nat → Prop} {w w' : World} {tb fb : Nat} {X : TX} {R : List RN} {rv : Value}
set_option maxHeartbeats 8000000 in
theorem moved_7c (h : Both B Q w tb fb X R rv) {x : MkV} (hx : MkB x) {ia ib : Nat} (hia : ia = pick8 x.m.a X.F.length) (hib : ib = pick8 x.m.b X.F.length) {xa xb : FN} (ha : X.F[ia]? = some xa) (hb : X.F[ib]? = some xb) (hl : xa.live = true) (hl2 : xb.live = true) (hk : x.m.kind = 7) {u : Nat} (hu : xa.up = some u) :
    Calls Tryd.prog 39 #[.pointer (some ⟨tb, 0, none⟩), .pointer (some ⟨fb, 0, none⟩), x.v] w fun e w' => e = .returned (.bool true) ∧ MvPost B w x.m tb fb X rv w' := by
  show Calls Tryd.prog 39 #[.pointer (some ⟨tb, 0, none⟩), .pointer (some ⟨fb, 0, none⟩), .agg #[.int .i64 x.m.kind, .int .i64 x.m.a, .int .i64 x.m.b, .int .i64 x.m.back, .string x.nm, .slice x.ua x.un.length x.uc]] w fun e w' => e = .returned (.bool true) ∧ MvPost B w x.m tb fb X rv w'
  rw [hk]
  have H := Lib.hid h
  have HAB := Lib.hid (And.intro ha hb)
  have hmv := move_at hia hib ha hb
  have hlen := (List.getElem?_eq_some_iff.1 ha).1
  have hlenb := (List.getElem?_eq_some_iff.1 hb).1
  have hfew := h.few
  have b0 := h.f.b0
  obtain ⟨g, cap, Pa, da, e, hRa, y0, y1, y8, y9, y10⟩ := h.f.get ha
  obtain ⟨g', cap', Pb, db, e', hRb, z0, z1, z8, z9, z10⟩ := h.f.get hb
  rw [e] at e'
  cases e'
  rw [e] at b0
  have l0 := lt_of_some h.f.blk
  have l1 := cell_lt y0
  simp only at l1
  have HPA : Hid (∀ W, Calls Tryd.prog 30 #[.int .i64 x.m.a, .int .i64 (X.F.length : Int)] W fun e w' => e = .returned (.int .i64 (ia : Int)) ∧ Below W.heap.size W w') := Lib.hid (fun W => by rw [hia]; exact pick8_calls W _ _ hx.a (by omega) (by omega))
  have HPB : Hid (∀ W, Calls Tryd.prog 30 #[.int .i64 x.m.b, .int .i64 (X.F.length : Int)] W fun e w' => e = .returned (.int .i64 (ib : Int)) ∧ Below W.heap.size W w') := Lib.hid (fun W => by rw [hib]; exact pick8_calls W _ _ hx.b (by omega) (by omega))
  have HCE : Hid (∀ W, Below w.heap.size w W → W.cell? ⟨fb, 0, none⟩ = some (.slice (some ⟨g, 0, none⟩) X.F.length cap) ∧ (W.cell? ⟨g, ia * 11 + 10, none⟩ = some (.bool xa.live) ∧ W.cell? ⟨g, ia * 11 + 8, none⟩ = some (.int .i64 (upI xa.up)) ∧ W.cell? ⟨g, ia * 11 + 9, none⟩ = some da ∧ W.cell? ⟨g, ia * 11, none⟩ = some (.int .u32 (xa.sl : Int)) ∧ W.cell? ⟨g, ia * 11 + 1, none⟩ = some (.int .u32 (xa.gn : Int))) ∧ (W.cell? ⟨g, ib * 11 + 10, none⟩ = some (.bool xb.live) ∧ W.cell? ⟨g, ib * 11 + 9, none⟩ = some db ∧ W.cell? ⟨g, ib * 11, none⟩ = some (.int .u32 (xb.sl : Int)) ∧ W.cell? ⟨g, ib * 11 + 1, none⟩ = some (.int .u32 (xb.gn : Int)))) := Lib.hid (fun W b => ⟨(b.cell (p := ⟨fb, 0, none⟩) l0).trans b0, ⟨(b.cell (p := ⟨g, _, none⟩) l1).trans y10, (b.cell (p := ⟨g, _, none⟩) l1).trans y8, (b.cell (p := ⟨g, _, none⟩) l1).trans y9, (b.cell (p := ⟨g, _, none⟩) l1).trans y0, (b.cell (p := ⟨g, _, none⟩) l1).trans y1⟩, (b.cell (p := ⟨g, _, none⟩) l1).trans z10, (b.cell (p := ⟨g, _, none⟩) l1).trans z9, (b.cell (p := ⟨g, _, none⟩) l1).trans z0, (b.cell (p := ⟨g, _, none⟩) l1).trans z1⟩)
  have HRR := Lib.hid (And.intro hRa hRb)
  have hdsa : ∃ a c, da = .slice a xa.down.length c := h.f.dshape (List.mem_of_getElem? hRa)
  have hdsb : ∃ a c, db = .slice a xb.down.length c := h.f.dshape (List.mem_of_getElem? hRb)
  have hxback := hx.back
  have hdla := h.down_len ha
  have hdlb := h.down_len hb
  have HE := Lib.hid e
  have HM : Hid (cutF X.F ia u = moveF X.F x.m) := Lib.hid (by rw [hmv]; rw [if_neg (fun h => by rcases h with h | h <;> simp [hl, hl2] at h)]; rw [if_neg (by omega), if_pos hk, hu])
  obtain ⟨xu, hxu, hxul, hmem⟩ := h.t.fok.upd ia xa u ha hu
  have hne : ia ≠ u := by
    rintro rfl
    obtain ⟨l, hl'⟩ := h.t.fok.acyc ia xa ha
    have h1 := hl'
    cases h1 with
    | root a b => rw [ha] at a; cases a; rw [hu] at b; cases b
    | up a b c =>
      rw [ha] at a; cases a; rw [hu] at b; cases b
      have := c.det hl'
      have := congrArg List.length this
      simp at this
  obtain ⟨d1, d2, hd⟩ := List.append_of_mem hmem
  have HCUT : Hid (∀ W, Below w.heap.size w W → Calls Tryd.prog 72 #[.pointer (some ⟨fb, 0, none⟩), .int .i64 (ia : Int)] W fun e w' => e = .returned (.tuple #[]) ∧ (∃ R', FoAt B (fun k => Q k ∨ W.heap.size ≤ k ∧ k < w'.heap.size) w' fb (cutF X.F ia u) R' rv ∧ R'.map (fun r => r.2.1) = R.map (fun r => r.2.1)) ∧ FrG [69] Q W w') := Lib.hid (fun W b => rcut_calls (h.f.below b) (Nat.le_trans h.base b.size) ha hxu hne hu (by have := h.down_len hxu; omega))
  have HUNL : Hid (∀ W W3, Below w.heap.size w W → FrG [69] Q W W3 → Calls Tryd.prog 73 #[.pointer (some ⟨tb, 0, none⟩), .agg #[.int .u32 (xa.sl : Int), .int .u32 (xa.gn : Int)]] W3 fun e w' => e = .returned (.int .i64 0) ∧ TreeAt B Q w' tb { X with F := cutF X.F ia u } ∧ FrG [120] Q W3 w') := Lib.hid (fun W W3 b f => unlink_ok ((h.t.below b).refStep f (fun e he => .inr (List.mem_singleton.1 he))) hxu hxul ha hl hu hd)
  have HCE3 : Hid (∀ (Q2 : Nat → Prop) (W : World) R', FoAt B Q2 W fb (cutF X.F ia u) R' rv → W.cell? ⟨fb, 0, none⟩ = some (.slice (some ⟨g, 0, none⟩) X.F.length cap) ∧ W.cell? ⟨g, ia * 11, none⟩ = some (.int .u32 (xa.sl : Int)) ∧ W.cell? ⟨g, ia * 11 + 1, none⟩ = some (.int .u32 (xa.gn : Int))) := Lib.hid (fun Q2 W R' hf => by
    have hga : (cutF X.F ia u)[ia]? = some { xa with up := none } := by rw [cutF_at hne, if_pos rfl, ha]; rfl
    obtain ⟨g2, cap2, P2, dv2, e2, _, q0, q1, _⟩ := hf.get hga
    have hb0 := hf.b0
    rw [e] at hb0
    rw [e, cutF_len] at e2
    simp only [Value.slice.injEq, Option.some.injEq, Addr.mk.injEq, and_true, true_and] at e2
    obtain ⟨rfl, rfl⟩ := e2
    exact ⟨hb0, q0, q1⟩)
  clear ha hb h b0 e y0 y1 y8 y9 y10 z0 z1 z8 z9 z10 hRa hRb hia hib
  generalize x.un.length = ul
  generalize x.ua = ua
  generalize x.uc = uc
  generalize x.nm = nm at *
  obtain ⟨V, hV⟩ : ∃ V, V = w.alloc (.cells #[.int .i64 7, .int .i64 x.m.a, .int .i64 x.m.b, .int .i64 x.m.back, .string nm, .slice ua ul uc] 76) := ⟨_, rfl⟩
  have bV : Below w.heap.size w V := by rw [hV]; exact (by repeat (first | exact Below.refl _ _ | assumption | refine Below.drew ?_ | refine below_drewN ?_ _ | refine Below.alloc ?_ (by simp <;> omega) _ | refine Below.setCell ?_ (by simp <;> omega) _ | (apply bl_trans; assumption; (simp <;> omega))))
  have hV0 : V.heap[w.heap.size]? = some (.cells #[.int .i64 7, .int .i64 x.m.a, .int .i64 x.m.b, .int .i64 x.m.back, .string nm, .slice ua ul uc] 76 (0, 0)) := by rw [hV]; exact Go.heap_alloc_new w _
  have HX := Lib.hid (And.intro hV0 bV)
  have HSW : Hid (∀ W, Below V.heap.size V W → (W.cell? ⟨w.heap.size, 0, none⟩ = some (.int .i64 7) ∧ W.cell? ⟨w.heap.size, 1, none⟩ = some (.int .i64 x.m.a) ∧ W.cell? ⟨w.heap.size, 2, none⟩ = some (.int .i64 x.m.b) ∧ W.cell? ⟨w.heap.size, 3, none⟩ = some (.int .i64 x.m.back)) ∧ Below w.heap.size w W) := Lib.hid (fun W bb => by
    have h1 := (bb.block _ (lt_of_some HX.out.1)).trans HX.out.1
    exact ⟨⟨cell_blk h1 0 rfl, cell_blk h1 1 rfl, cell_blk h1 2 rfl, cell_blk h1 3 rfl⟩, HX.out.2.trans (bb.mono HX.out.2.size)⟩)
  have HD0 : Hid (Below V.heap.size V V.drew) := Lib.hid (Below.refl _ _).drew
  have hV2 := hV
  clear hV hV0 bV
  obtain ⟨n, hn⟩ : ∃ n, n = X.F.length := ⟨_, rfl⟩
  rw [← hn] at HPA HPB HCE hlen hlenb hfew
  have HNL := Lib.hid hn
  clear hn
  go_enter Tryd.func39, Tryd.ntmps39
  go_wp2_with fail
  rw [← hV2]
  clear hV2
  go_region_held3 (fun W => W.cell? ⟨w.heap.size, 1, none⟩ = some (.int .i64 x.m.a) ∧ W.cell? ⟨fb, 0, none⟩ = some (.slice (some ⟨g, 0, none⟩) n cap)) (first | exact ⟨(HSW.out _ HB1.out).1.2.1, (HCE.out _ (HSW.out _ HB1.out).2).1⟩ | exact ⟨(HSW.out _ HD0.out).1.2.1, (HCE.out _ (HSW.out _ HD0.out).2).1⟩) (first | (go_at_call 30; refine (HPA.out _).mono ?_; rintro e w1 ⟨rfl, b1⟩; have HB1 := Lib.hid (HD0.out.trans (b1.mono HD0.out.size))))
  clear b1
  have HD1 : Hid (Below V.heap.size V w1.drew) := Lib.hid HB1.out.drew
  go_wp2_with fail
  go_region_held3 (fun W => W.cell? ⟨w.heap.size, 2, none⟩ = some (.int .i64 x.m.b) ∧ W.cell? ⟨fb, 0, none⟩ = some (.slice (some ⟨g, 0, none⟩) n cap)) (first | exact ⟨(HSW.out _ HB2.out).1.2.2.1, (HCE.out _ (HSW.out _ HB2.out).2).1⟩ | exact ⟨(HSW.out _ HD1.out).1.2.2.1, (HCE.out _ (HSW.out _ HD1.out).2).1⟩) (first | (go_at_call 30; refine (HPB.out _).mono ?_; rintro e w2 ⟨rfl, b2⟩; have HB2 := Lib.hid (HD1.out.trans (b2.mono HD1.out.size))))
  clear b2 HB1 HD0 HD1
  have HLOW := Lib.hid (HSW.out _ HB2.out).2
  obtain ⟨m0, m1, m2, m3⟩ := (HSW.out _ HB2.out).1
  obtain ⟨b0, ⟨y10, y8, y9, y0, y1⟩, z10, z9, z0, z1⟩ := HCE.out _ HLOW.out
  have hs1 := HLOW.out.size
  rw [hl] at y10
  rw [hl2] at z10
  have e8 : upI xa.up = (u : Int) := by rw [hu]; rfl
  rw [e8] at y8
  have un : ¬ ((u : Int) < 0) := by omega
  have ud : decide ((u : Int) < 0) = false := by simp
  rw [← HNL.out] at HCE3
  clear e8 hu hk hl hl2 hmv hxu hxul hmem hd hne
  go_wp2_with (first | (go_at_call 72; refine (HCUT.out _ HLOW.out).mono ?_; rintro e w3 ⟨rfl, ⟨R', hf3, hR3⟩, f3⟩; have HF3 := Lib.hid (And.intro hf3 (And.intro hR3 f3)); obtain ⟨p0, p1, p2⟩ := HCE3.out _ _ _ hf3; have pl := cell_lt p1; have pf := cell_lt p0; clear hf3 hR3 f3) | (go_at_call 73; refine (HUNL.out _ _ HLOW.out HF3.out.2.2).mono ?_; rintro e w4 ⟨rfl, ht4, f4⟩; have HT4 := Lib.hid (And.intro ht4 f4); clear ht4 f4))
  go_ret
  have hb2 := H.out.below HLOW.out
  exact ⟨rfl, _, _, _, hb2.step2 HF3.out.1 HF3.out.2.2 HT4.out.1 HT4.out.2 HF3.out.2.1 (cutF_len _ _ _), HM.out, (HLOW.out.mono H.out.base).trans (hb2.low2 HF3.out.2.2 HT4.out.2)⟩
end
section
variable {B : Nat} {Q : Nat → Prop} {w w' : World} {tb fb : Nat} {X : TX} {R : List RN} {rv : Value}
set_option maxHeartbeats 8000000 in
theorem moved_8u (h : Both B Q w tb fb X R rv) {x : MkV} (hx : MkB x) {ia ib : Nat} (hia : ia = pick8 x.m.a X.F.length) (hib : ib = pick8 x.m.b X.F.length) {xa xb : FN} (ha : X.F[ia]? = some xa) (hb : X.F[ib]? = some xb) (hl : xa.live = true) (hl2 : xb.live = true) (hk : x.m.kind = 8) {u : Nat} (hu : xa.up = some u) :
    Calls Tryd.prog 39 #[.pointer (some ⟨tb, 0, none⟩), .pointer (some ⟨fb, 0, none⟩), x.v] w fun e w' => e = .returned (.bool true) ∧ MvPost B w x.m tb fb X rv w' := by
  show Calls Tryd.prog 39 #[.pointer (some ⟨tb, 0, none⟩), .pointer (some ⟨fb, 0, none⟩), .agg #[.int .i64 x.m.kind, .int .i64 x.m.a, .int .i64 x.m.b, .int .i64 x.m.back, .string x.nm, .slice x.ua x.un.length x.uc]] w fun e w' => e = .returned (.bool true) ∧ MvPost B w x.m tb fb X rv w'
  rw [hk]
  have H := Lib.hid h
  have HAB := Lib.hid (And.intro ha hb)
  have hmv := move_at hia hib ha hb
  have hlen := (List.getElem?_eq_some_iff.1 ha).1
  have hlenb := (List.getElem?_eq_some_iff.1 hb).1
  have hfew := h.few
  have b0 := h.f.b0
  obtain ⟨g, cap, Pa, da, e, hRa, y0, y1, y8, y9, y10⟩ := h.f.get ha
  obtain ⟨g', cap', Pb, db, e', hRb, z0, z1, z8, z9, z10⟩ := h.f.get hb
  rw [e] at e'
  cases e'
  rw [e] at b0
  have l0 := lt_of_some h.f.blk
  have l1 := cell_lt y0
  simp only at l1
  have HPA : Hid (∀ W, Calls Tryd.prog 30 #[.int .i64 x.m.a, .int .i64 (X.F.length : Int)] W fun e w' => e = .returned (.int .i64 (ia : Int)) ∧ Below W.heap.size W w') := Lib.hid (fun W => by rw [hia]; exact pick8_calls W _ _ hx.a (by omega) (by omega))
  have HPB : Hid (∀ W, Calls Tryd.prog 30 #[.int .i64 x.m.b, .int .i64 (X.F.length : Int)] W fun e w' => e = .returned (.int .i64 (ib : Int)) ∧ Below W.heap.size W w') := Lib.hid (fun W => by rw [hib]; exact pick8_calls W _ _ hx.b (by omega) (by omega))
  have HCE : Hid (∀ W, Below w.heap.size w W → W.cell? ⟨fb, 0, none⟩ = some (.slice (some ⟨g, 0, none⟩) X.F.length cap) ∧ (W.cell? ⟨g, ia * 11 + 10, none⟩ = some (.bool xa.live) ∧ W.cell? ⟨g, ia * 11 + 8, none⟩ = some (.int .i64 (upI xa.up)) ∧ W.cell? ⟨g, ia * 11 + 9, none⟩ = some da ∧ W.cell? ⟨g, ia * 11, none⟩ = some (.int .u32 (xa.sl : Int)) ∧ W.cell? ⟨g, ia * 11 + 1, none⟩ = some (.int .u32 (xa.gn : Int))) ∧ (W.cell? ⟨g, ib * 11 + 10, none⟩ = some (.bool xb.live) ∧ W.cell? ⟨g, ib * 11 + 9, none⟩ = some db ∧ W.cell? ⟨g, ib * 11, none⟩ = some (.int .u32 (xb.sl : Int)) ∧ W.cell? ⟨g, ib * 11 + 1, none⟩ = some (.int .u32 (xb.gn : Int)))) := Lib.hid (fun W b => ⟨(b.cell (p := ⟨fb, 0, none⟩) l0).trans b0, ⟨(b.cell (p := ⟨g, _, none⟩) l1).trans y10, (b.cell (p := ⟨g, _, none⟩) l1).trans y8, (b.cell (p := ⟨g, _, none⟩) l1).trans y9, (b.cell (p := ⟨g, _, none⟩) l1).trans y0, (b.cell (p := ⟨g, _, none⟩) l1).trans y1⟩, (b.cell (p := ⟨g, _, none⟩) l1).trans z10, (b.cell (p := ⟨g, _, none⟩) l1).trans z9, (b.cell (p := ⟨g, _, none⟩) l1).trans z0, (b.cell (p := ⟨g, _, none⟩) l1).trans z1⟩)
  have HRR := Lib.hid (And.intro hRa hRb)
  have hdsa : ∃ a c, da = .slice a xa.down.length c := h.f.dshape (List.mem_of_getElem? hRa)
  have hdsb : ∃ a c, db = .slice a xb.down.length c := h.f.dshape (List.mem_of_getElem? hRb)
  have hxback := hx.back
  have hdla := h.down_len ha
  have hdlb := h.down_len hb
  have HE := Lib.hid e
  have HM : Hid (moveF X.F x.m = X.F) := Lib.hid (by rw [hmv]; rw [if_neg (fun h => by rcases h with h | h <;> simp [hl, hl2] at h)]; rw [if_neg (by omega), if_neg (by omega), if_pos hk, if_pos (.inl (by rw [hu]; rfl))])
  clear ha hb h b0 e y0 y1 y8 y9 y10 z0 z1 z8 z9 z10 hRa hRb hia hib
  generalize x.un.length = ul
  generalize x.ua = ua
  generalize x.uc = uc
  generalize x.nm = nm at *
  obtain ⟨V, hV⟩ : ∃ V, V = w.alloc (.cells #[.int .i64 8, .int .i64 x.m.a, .int .i64 x.m.b, .int .i64 x.m.back, .string nm, .slice ua ul uc] 76) := ⟨_, rfl⟩
  have bV : Below w.heap.size w V := by rw [hV]; exact (by repeat (first | exact Below.refl _ _ | assumption | refine Below.drew ?_ | refine below_drewN ?_ _ | refine Below.alloc ?_ (by simp <;> omega) _ | refine Below.setCell ?_ (by simp <;> omega) _ | (apply bl_trans; assumption; (simp <;> omega))))
  have hV0 : V.heap[w.heap.size]? = some (.cells #[.int .i64 8, .int .i64 x.m.a, .int .i64 x.m.b, .int .i64 x.m.back, .string nm, .slice ua ul uc] 76 (0, 0)) := by rw [hV]; exact Go.heap_alloc_new w _
  have HX := Lib.hid (And.intro hV0 bV)
  have HSW : Hid (∀ W, Below V.heap.size V W → (W.cell? ⟨w.heap.size, 0, none⟩ = some (.int .i64 8) ∧ W.cell? ⟨w.heap.size, 1, none⟩ = some (.int .i64 x.m.a) ∧ W.cell? ⟨w.heap.size, 2, none⟩ = some (.int .i64 x.m.b) ∧ W.cell? ⟨w.heap.size, 3, none⟩ = some (.int .i64 x.m.back)) ∧ Below w.heap.size w W) := Lib.hid (fun W bb => by
    have h1 := (bb.block _ (lt_of_some HX.out.1)).trans HX.out.1
    exact ⟨⟨cell_blk h1 0 rfl, cell_blk h1 1 rfl, cell_blk h1 2 rfl, cell_blk h1 3 rfl⟩, HX.out.2.trans (bb.mono HX.out.2.size)⟩)
  have HD0 : Hid (Below V.heap.size V V.drew) := Lib.hid (Below.refl _ _).drew
  have hV2 := hV
  clear hV hV0 bV
  obtain ⟨n, hn⟩ : ∃ n, n = X.F.length := ⟨_, rfl⟩
  rw [← hn] at HPA HPB HCE hlen hlenb hfew
  have HNL := Lib.hid hn
  clear hn
  go_enter Tryd.func39, Tryd.ntmps39
  go_wp2_with fail
  rw [← hV2]
  clear hV2
  go_region_held3 (fun W => W.cell? ⟨w.heap.size, 1, none⟩ = some (.int .i64 x.m.a) ∧ W.cell? ⟨fb, 0, none⟩ = some (.slice (some ⟨g, 0, none⟩) n cap)) (first | exact ⟨(HSW.out _ HB1.out).1.2.1, (HCE.out _ (HSW.out _ HB1.out).2).1⟩ | exact ⟨(HSW.out _ HD0.out).1.2.1, (HCE.out _ (HSW.out _ HD0.out).2).1⟩) (first | (go_at_call 30; refine (HPA.out _).mono ?_; rintro e w1 ⟨rfl, b1⟩; have HB1 := Lib.hid (HD0.out.trans (b1.mono HD0.out.size))))
  clear b1
  have HD1 : Hid (Below V.heap.size V w1.drew) := Lib.hid HB1.out.drew
  go_wp2_with fail
  go_region_held3 (fun W => W.cell? ⟨w.heap.size, 2, none⟩ = some (.int .i64 x.m.b) ∧ W.cell? ⟨fb, 0, none⟩ = some (.slice (some ⟨g, 0, none⟩) n cap)) (first | exact ⟨(HSW.out _ HB2.out).1.2.2.1, (HCE.out _ (HSW.out _ HB2.out).2).1⟩ | exact ⟨(HSW.out _ HD1.out).1.2.2.1, (HCE.out _ (HSW.out _ HD1.out).2).1⟩) (first | (go_at_call 30; refine (HPB.out _).mono ?_; rintro e w2 ⟨rfl, b2⟩; have HB2 := Lib.hid (HD1.out.trans (b2.mono HD1.out.size))))
  clear b2 HB1 HD0 HD1
  have HLOW := Lib.hid (HSW.out _ HB2.out).2
  obtain ⟨m0, m1, m2, m3⟩ := (HSW.out _ HB2.out).1
  obtain ⟨b0, ⟨y10, y8, y9, y0, y1⟩, z10, z9, z0, z1⟩ := HCE.out _ HLOW.out
  have hs1 := HLOW.out.size
  have e8 : upI xa.up = (u : Int) := by rw [hu]; rfl
  rw [e8] at y8
  have un : ¬ ((u : Int) < 0) := by omega
  have ud : decide (0 ≤ (u : Int)) = true := by simp
  clear e8 hu hk
  rw [hl] at y10
  rw [hl2] at z10
  have HL := Lib.hid (And.intro hl hl2)
  clear hl hl2 hmv
  go_wp2_with fail
  go_ret
  exact ⟨rfl, H.out.stay HM.out HLOW.out⟩
end
section
variable {B : Nat} {Q : Nat → Prop} {w w' : World} {tb fb : Nat} {X : TX} {R : List RN} {rv : Value}
set_option maxHeartbeats 8000000 in
theorem moved_8d (h : Both B Q w tb fb X R rv) {x : MkV} (hx : MkB x) {ia ib : Nat} (hia : ia = pick8 x.m.a X.F.length) (hib : ib = pick8 x.m.b X.F.length) {xa xb : FN} (ha : X.F[ia]? = some xa) (hb : X.F[ib]? = some xb) (hl : xa.live = true) (hl2 : xb.live = true) (hk : x.m.kind = 8) (hu : xa.up = none) (hd : xa.down ≠ []) :
    Calls Tryd.prog 39 #[.pointer (some ⟨tb, 0, none⟩), .pointer (some ⟨fb, 0, none⟩), x.v] w fun e w' => e = .returned (.bool true) ∧ MvPost B w x.m tb fb X rv w' := by
  show Calls Tryd.prog 39 #[.pointer (some ⟨tb, 0, none⟩), .pointer (some ⟨fb, 0, none⟩), .agg #[.int .i64 x.m.kind, .int .i64 x.m.a, .int .i64 x.m.b, .int .i64 x.m.back, .string x.nm, .slice x.ua x.un.length x.uc]] w fun e w' => e = .returned (.bool true) ∧ MvPost B w x.m tb fb X rv w'
  rw [hk]
  have H := Lib.hid h
  have HAB := Lib.hid (And.intro ha hb)
  have hmv := move_at hia hib ha hb
  have hlen := (List.getElem?_eq_some_iff.1 ha).1
  have hlenb := (List.getElem?_eq_some_iff.1 hb).1
  have hfew := h.few
  have b0 := h.f.b0
  obtain ⟨g, cap, Pa, da, e, hRa, y0, y1, y8, y9, y10⟩ := h.f.get ha
  obtain ⟨g', cap', Pb, db, e', hRb, z0, z1, z8, z9, z10⟩ := h.f.get hb
  rw [e] at e'
  cases e'
  rw [e] at b0
  have l0 := lt_of_some h.f.blk
  have l1 := cell_lt y0
  simp only at l1
  have HPA : Hid (∀ W, Calls Tryd.prog 30 #[.int .i64 x.m.a, .int .i64 (X.F.length : Int)] W fun e w' => e = .returned (.int .i64 (ia : Int)) ∧ Below W.heap.size W w') := Lib.hid (fun W => by rw [hia]; exact pick8_calls W _ _ hx.a (by omega) (by omega))
  have HPB : Hid (∀ W, Calls Tryd.prog 30 #[.int .i64 x.m.b, .int .i64 (X.F.length : Int)] W fun e w' => e = .returned (.int .i64 (ib : Int)) ∧ Below W.heap.size W w') := Lib.hid (fun W => by rw [hib]; exact pick8_calls W _ _ hx.b (by omega) (by omega))
  have HCE : Hid (∀ W, Below w.heap.size w W → W.cell? ⟨fb, 0, none⟩ = some (.slice (some ⟨g, 0, none⟩) X.F.length cap) ∧ (W.cell? ⟨g, ia * 11 + 10, none⟩ = some (.bool xa.live) ∧ W.cell? ⟨g, ia * 11 + 8, none⟩ = some (.int .i64 (upI xa.up)) ∧ W.cell? ⟨g, ia * 11 + 9, none⟩ = some da ∧ W.cell? ⟨g, ia * 11, none⟩ = some (.int .u32 (xa.sl : Int)) ∧ W.cell? ⟨g, ia * 11 + 1, none⟩ = some (.int .u32 (xa.gn : Int))) ∧ (W.cell? ⟨g, ib * 11 + 10, none⟩ = some (.bool xb.live) ∧ W.cell? ⟨g, ib * 11 + 9, none⟩ = some db ∧ W.cell? ⟨g, ib * 11, none⟩ = some (.int .u32 (xb.sl : Int)) ∧ W.cell? ⟨g, ib * 11 + 1, none⟩ = some (.int .u32 (xb.gn : Int)))) := Lib.hid (fun W b => ⟨(b.cell (p := ⟨fb, 0, none⟩) l0).trans b0, ⟨(b.cell (p := ⟨g, _, none⟩) l1).trans y10, (b.cell (p := ⟨g, _, none⟩) l1).trans y8, (b.cell (p := ⟨g, _, none⟩) l1).trans y9, (b.cell (p := ⟨g, _, none⟩) l1).trans y0, (b.cell (p := ⟨g, _, none⟩) l1).trans y1⟩, (b.cell (p := ⟨g, _, none⟩) l1).trans z10, (b.cell (p := ⟨g, _, none⟩) l1).trans z9, (b.cell (p := ⟨g, _, none⟩) l1).trans z0, (b.cell (p := ⟨g, _, none⟩) l1).trans z1⟩)
  have HRR := Lib.hid (And.intro hRa hRb)
  have hdsa : ∃ a c, da = .slice a xa.down.length c := h.f.dshape (List.mem_of_getElem? hRa)
  have hdsb : ∃ a c, db = .slice a xb.down.length c := h.f.dshape (List.mem_of_getElem? hRb)
  have hxback := hx.back
  have hdla := h.down_len ha
  have hdlb := h.down_len hb
  have HE := Lib.hid e
  have HM : Hid (moveF X.F x.m = X.F) := Lib.hid (by rw [hmv]; rw [if_neg (fun h => by rcases h with h | h <;> simp [hl, hl2] at h)]; rw [if_neg (by omega), if_neg (by omega), if_pos hk, if_pos (.inr (by cases hdd : xa.down with | nil => exact absurd hdd hd | cons a l => rfl))])
  obtain ⟨dla, dlc, hda⟩ := hdsa
  have hdp : 0 < xa.down.length := List.length_pos_iff.2 hd
  rw [hda] at HCE
  clear ha hb h b0 e y0 y1 y8 y9 y10 z0 z1 z8 z9 z10 hRa hRb hia hib
  generalize x.un.length = ul
  generalize x.ua = ua
  generalize x.uc = uc
  generalize x.nm = nm at *
  obtain ⟨V, hV⟩ : ∃ V, V = w.alloc (.cells #[.int .i64 8, .int .i64 x.m.a, .int .i64 x.m.b, .int .i64 x.m.back, .string nm, .slice ua ul uc] 76) := ⟨_, rfl⟩
  have bV : Below w.heap.size w V := by rw [hV]; exact (by repeat (first | exact Below.refl _ _ | assumption | refine Below.drew ?_ | refine below_drewN ?_ _ | refine Below.alloc ?_ (by simp <;> omega) _ | refine Below.setCell ?_ (by simp <;> omega) _ | (apply bl_trans; assumption; (simp <;> omega))))
  have hV0 : V.heap[w.heap.size]? = some (.cells #[.int .i64 8, .int .i64 x.m.a, .int .i64 x.m.b, .int .i64 x.m.back, .string nm, .slice ua ul uc] 76 (0, 0)) := by rw [hV]; exact Go.heap_alloc_new w _
  have HX := Lib.hid (And.intro hV0 bV)
  have HSW : Hid (∀ W, Below V.heap.size V W → (W.cell? ⟨w.heap.size, 0, none⟩ = some (.int .i64 8) ∧ W.cell? ⟨w.heap.size, 1, none⟩ = some (.int .i64 x.m.a) ∧ W.cell? ⟨w.heap.size, 2, none⟩ = some (.int .i64 x.m.b) ∧ W.cell? ⟨w.heap.size, 3, none⟩ = some (.int .i64 x.m.back)) ∧ Below w.heap.size w W) := Lib.hid (fun W bb => by
    have h1 := (bb.block _ (lt_of_some HX.out.1)).trans HX.out.1
    exact ⟨⟨cell_blk h1 0 rfl, cell_blk h1 1 rfl, cell_blk h1 2 rfl, cell_blk h1 3 rfl⟩, HX.out.2.trans (bb.mono HX.out.2.size)⟩)
  have HD0 : Hid (Below V.heap.size V V.drew) := Lib.hid (Below.refl _ _).drew
  have hV2 := hV
  clear hV hV0 bV
  obtain ⟨n, hn⟩ : ∃ n, n = X.F.length := ⟨_, rfl⟩
  rw [← hn] at HPA HPB HCE hlen hlenb hfew
  have HNL := Lib.hid hn
  clear hn
  go_enter Tryd.func39, Tryd.ntmps39
  go_wp2_with fail
  rw [← hV2]
  clear hV2
  go_region_held3 (fun W => W.cell? ⟨w.heap.size, 1, none⟩ = some (.int .i64 x.m.a) ∧ W.cell? ⟨fb, 0, none⟩ = some (.slice (some ⟨g, 0, none⟩) n cap)) (first | exact ⟨(HSW.out _ HB1.out).1.2.1, (HCE.out _ (HSW.out _ HB1.out).2).1⟩ | exact ⟨(HSW.out _ HD0.out).1.2.1, (HCE.out _ (HSW.out _ HD0.out).2).1⟩) (first | (go_at_call 30; refine (HPA.out _).mono ?_; rintro e w1 ⟨rfl, b1⟩; have HB1 := Lib.hid (HD0.out.trans (b1.mono HD0.out.size))))
  clear b1
  have HD1 : Hid (Below V.heap.size V w1.drew) := Lib.hid HB1.out.drew
  go_wp2_with fail
  go_region_held3 (fun W => W.cell? ⟨w.heap.size, 2, none⟩ = some (.int .i64 x.m.b) ∧ W.cell? ⟨fb, 0, none⟩ = some (.slice (some ⟨g, 0, none⟩) n cap)) (first | exact ⟨(HSW.out _ HB2.out).1.2.2.1, (HCE.out _ (HSW.out _ HB2.out).2).1⟩ | exact ⟨(HSW.out _ HD1.out).1.2.2.1, (HCE.out _ (HSW.out _ HD1.out).2).1⟩) (first | (go_at_call 30; refine (HPB.out _).mono ?_; rintro e w2 ⟨rfl, b2⟩; have HB2 := Lib.hid (HD1.out.trans (b2.mono HD1.out.size))))
  clear b2 HB1 HD0 HD1
  have HLOW := Lib.hid (HSW.out _ HB2.out).2
  obtain ⟨m0, m1, m2, m3⟩ := (HSW.out _ HB2.out).1
  obtain ⟨b0, ⟨y10, y8, y9, y0, y1⟩, z10, z9, z0, z1⟩ := HCE.out _ HLOW.out
  have hs1 := HLOW.out.size
  have e8 : upI xa.up = -1 := by rw [hu]; rfl
  rw [e8] at y8
  obtain ⟨dn, hdn⟩ : ∃ d, d = xa.down.length := ⟨_, rfl⟩
  rw [← hdn] at y9 hdp
  have dd : decide (0 < dn) = true := by simp; omega
  have dd2 : ¬ (dn = 0) := by omega
  clear e8 hu hk hd hdn
  rw [hl] at y10
  rw [hl2] at z10
  have HL := Lib.hid (And.intro hl hl2)
  clear hl hl2 hmv
  go_wp2_with fail
  go_ret
  exact ⟨rfl, H.out.stay HM.out HLOW.out⟩
end
section
variable {B : Nat} {Q : Nat → Prop} {w w' : World} {tb fb : Nat} {X : TX} {R : List RN} {rv : Value}
set_option maxHeartbeats 8000000 in
theorem moved_8k (h : Both B Q w tb fb X R rv) {x : MkV} (hx : MkB x) {ia ib : Nat} (hia : ia = pick8 x.m.a X.F.length) (hib : ib = pick8 x.m.b X.F.length) {xa xb : FN} (ha : X.F[ia]? = some xa) (hb : X.F[ib]? = some xb) (hl : xa.live = true) (hl2 : xb.live = true) (hk : x.m.kind = 8) (hu : xa.up = none) (hd : xa.down = []) :
    Calls Tryd.prog 39 #[.pointer (some ⟨tb, 0, none⟩), .pointer (some ⟨fb, 0, none⟩), x.v] w fun e w' => e = .returned (.bool true) ∧ MvPost B w x.m tb fb X rv w' := by
  show Calls Tryd.prog 39 #[.pointer (some ⟨tb, 0, none⟩), .pointer (some ⟨fb, 0, none⟩), .agg #[.int .i64 x.m.kind, .int .i64 x.m.a, .int .i64 x.m.b, .int .i64 x.m.back, .string x.nm, .slice x.ua x.un.length x.uc]] w fun e w' => e = .returned (.bool true) ∧ MvPost B w x.m tb fb X rv w'
  rw [hk]
  have H := Lib.hid h
  have HAB := Lib.hid (And.intro ha hb)
  have hmv := move_at hia hib ha hb
  have hlen := (List.getElem?_eq_some_iff.1 ha).1
  have hlenb := (List.getElem?_eq_some_iff.1 hb).1
  have hfew := h.few
  have b0 := h.f.b0
  obtain ⟨g, cap, Pa, da, e, hRa, y0, y1, y8, y9, y10⟩ := h.f.get ha
  obtain ⟨g', cap', Pb, db, e', hRb, z0, z1, z8, z9, z10⟩ := h.f.get hb
  rw [e] at e'
  cases e'
  rw [e] at b0
  have l0 := lt_of_some h.f.blk
  have l1 := cell_lt y0
  simp only at l1
  have HPA : Hid (∀ W, Calls Tryd.prog 30 #[.int .i64 x.m.a, .int .i64 (X.F.length : Int)] W fun e w' => e = .returned (.int .i64 (ia : Int)) ∧ Below W.heap.size W w') := Lib.hid (fun W => by rw [hia]; exact pick8_calls W _ _ hx.a (by omega) (by omega))
  have HPB : Hid (∀ W, Calls Tryd.prog 30 #[.int .i64 x.m.b, .int .i64 (X.F.length : Int)] W fun e w' => e = .returned (.int .i64 (ib : Int)) ∧ Below W.heap.size W w') := Lib.hid (fun W => by rw [hib]; exact pick8_calls W _ _ hx.b (by omega) (by omega))
  have HCE : Hid (∀ W, Below w.heap.size w W → W.cell? ⟨fb, 0, none⟩ = some (.slice (some ⟨g, 0, none⟩) X.F.length cap) ∧ (W.cell? ⟨g, ia * 11 + 10, none⟩ = some (.bool xa.live) ∧ W.cell? ⟨g, ia * 11 + 8, none⟩ = some (.int .i64 (upI xa.up)) ∧ W.cell? ⟨g, ia * 11 + 9, none⟩ = some da ∧ W.cell? ⟨g, ia * 11, none⟩ = some (.int .u32 (xa.sl : Int)) ∧ W.cell? ⟨g, ia * 11 + 1, none⟩ = some (.int .u32 (xa.gn : Int))) ∧ (W.cell? ⟨g, ib * 11 + 10, none⟩ = some (.bool xb.live) ∧ W.cell? ⟨g, ib * 11 + 9, none⟩ = some db ∧ W.cell? ⟨g, ib * 11, none⟩ = some (.int .u32 (xb.sl : Int)) ∧ W.cell? ⟨g, ib * 11 + 1, none⟩ = some (.int .u32 (xb.gn : Int)))) := Lib.hid (fun W b => ⟨(b.cell (p := ⟨fb, 0, none⟩) l0).trans b0, ⟨(b.cell (p := ⟨g, _, none⟩) l1).trans y10, (b.cell (p := ⟨g, _, none⟩) l1).trans y8, (b.cell (p := ⟨g, _, none⟩) l1).trans y9, (b.cell (p := ⟨g, _, none⟩) l1).trans y0, (b.cell (p := ⟨g, _, none⟩) l1).trans y1⟩, (b.cell (p := ⟨g, _, none⟩) l1).trans z10, (b.cell (p := ⟨g, _, none⟩) l1).trans z9, (b.cell (p := ⟨g, _, none⟩) l1).trans z0, (b.cell (p := ⟨g, _, none⟩) l1).trans z1⟩)
  have HRR := Lib.hid (And.intro hRa hRb)
  have hdsa : ∃ a c, da = .slice a xa.down.length c := h.f.dshape (List.mem_of_getElem? hRa)
  have hdsb : ∃ a c, db = .slice a xb.down.length c := h.f.dshape (List.mem_of_getElem? hRb)
  have hxback := hx.back
  have hdla := h.down_len ha
  have hdlb := h.down_len hb
  have HE := Lib.hid e
  have HM : Hid (Kill X.F ia = moveF X.F x.m) := Lib.hid (by rw [hmv]; rw [if_neg (fun h => by rcases h with h | h <;> simp [hl, hl2] at h)]; rw [if_neg (by omega), if_neg (by omega), if_pos hk, if_neg (by rw [hu, hd]; simp)])
  obtain ⟨dla, dlc, hda⟩ := hdsa
  rw [hd] at hda
  have hda : da = .slice dla 0 dlc := hda
  have HDA := Lib.hid hda
  have hcurg : ∃ cur, w.heap[g]? = some (.cells cur 69 (0, 0)) := by
    obtain ⟨cur, hcur, _⟩ := rwBlk (by have := h.f.row; rw [h.f.len, e] at this; exact this)
    exact ⟨cur, hcur⟩
  obtain ⟨cur, hcur⟩ := hcurg
  have hfg : fb ≠ g := by
    rintro rfl
    have h1 := h.f.blk
    rw [hcur] at h1
    have := congrArg (fun o => o.map oty) h1
    simp [oty] at this
  have HFZ : Hid (∀ W, Below w.heap.size w W → ∀ o, W.frozen? ⟨g, o, none⟩ = false) := Lib.hid (fun W b o => (b.frozen (p := ⟨g, o, none⟩) l1).trans (free_blk hcur o))
  have HST : Hid (∀ W, Below w.heap.size w W → FoAt B Q (W.setCell ⟨g, ia * 11 + 10, none⟩ (.bool false)) fb (Kill X.F ia) (R.set ia ({ xa with live := false }, Pa, da)) rv ∧ FrG [69] Q W (W.setCell ⟨g, ia * 11 + 10, none⟩ (.bool false))) := Lib.hid (fun W b => by
    have h2 := h.f.below b
    rw [e] at h2 ⊢
    have hset : Kill X.F ia = X.F.set ia { xa with live := false } := by
      apply List.ext_getElem?
      intro j
      rw [kill_at, List.getElem?_set]
      by_cases hj : j = ia
      · subst hj; rw [if_pos rfl, if_pos rfl, ha]; simp [hlen]
      · rw [if_neg hj, if_neg (fun h => hj h.symm)]
    rw [hset]
    exact h2.stored (r := (xa, Pa, da)) (r' := ({ xa with live := false }, Pa, da)) hRa (by decide) rfl rfl (show W.ownsRow B 3 1 da xa.down.length (icells xa.down) ∧ _ from h2.down (xa, Pa, da) (List.mem_of_getElem? hRa)))
  have HDR : Hid (∀ W, TreeAt B Q W tb X → Calls Tryd.prog 74 #[.pointer (some ⟨tb, 0, none⟩), .agg #[.int .u32 (xa.sl : Int), .int .u32 (xa.gn : Int)]] W fun e w' => ∃ fv : Value, e = .returned (.int .i64 0) ∧ TreeAt B (fun k => Q k ∨ W.heap.size ≤ k ∧ k < w'.heap.size) w' tb ⟨Kill X.F ia, X.M, (X.T.drop none xa.sl xa.gn).1, X.ab, X.hv, fv⟩ ∧ FrG [145, 150, 29, 112, 31] Q W w') := Lib.hid (fun W ht => drop_ok ht ha hl hu hd)
  clear ha hb h b0 e y0 y1 y8 y9 y10 z0 z1 z8 z9 z10 hRa hRb hia hib
  generalize x.un.length = ul
  generalize x.ua = ua
  generalize x.uc = uc
  generalize x.nm = nm at *
  obtain ⟨V, hV⟩ : ∃ V, V = w.alloc (.cells #[.int .i64 8, .int .i64 x.m.a, .int .i64 x.m.b, .int .i64 x.m.back, .string nm, .slice ua ul uc] 76) := ⟨_, rfl⟩
  have bV : Below w.heap.size w V := by rw [hV]; exact (by repeat (first | exact Below.refl _ _ | assumption | refine Below.drew ?_ | refine below_drewN ?_ _ | refine Below.alloc ?_ (by simp <;> omega) _ | refine Below.setCell ?_ (by simp <;> omega) _ | (apply bl_trans; assumption; (simp <;> omega))))
  have hV0 : V.heap[w.heap.size]? = some (.cells #[.int .i64 8, .int .i64 x.m.a, .int .i64 x.m.b, .int .i64 x.m.back, .string nm, .slice ua ul uc] 76 (0, 0)) := by rw [hV]; exact Go.heap_alloc_new w _
  have HX := Lib.hid (And.intro hV0 bV)
  have HSW : Hid (∀ W, Below V.heap.size V W → (W.cell? ⟨w.heap.size, 0, none⟩ = some (.int .i64 8) ∧ W.cell? ⟨w.heap.size, 1, none⟩ = some (.int .i64 x.m.a) ∧ W.cell? ⟨w.heap.size, 2, none⟩ = some (.int .i64 x.m.b) ∧ W.cell? ⟨w.heap.size, 3, none⟩ = some (.int .i64 x.m.back)) ∧ Below w.heap.size w W) := Lib.hid (fun W bb => by
    have h1 := (bb.block _ (lt_of_some HX.out.1)).trans HX.out.1
    exact ⟨⟨cell_blk h1 0 rfl, cell_blk h1 1 rfl, cell_blk h1 2 rfl, cell_blk h1 3 rfl⟩, HX.out.2.trans (bb.mono HX.out.2.size)⟩)
  have HD0 : Hid (Below V.heap.size V V.drew) := Lib.hid (Below.refl _ _).drew
  have hV2 := hV
  clear hV hV0 bV
  obtain ⟨n, hn⟩ : ∃ n, n = X.F.length := ⟨_, rfl⟩
  rw [← hn] at HPA HPB HCE hlen hlenb hfew
  have HNL := Lib.hid hn
  clear hn
  go_enter Tryd.func39, Tryd.ntmps39
  go_wp2_with fail
  rw [← hV2]
  clear hV2
  go_region_held3 (fun W => W.cell? ⟨w.heap.size, 1, none⟩ = some (.int .i64 x.m.a) ∧ W.cell? ⟨fb, 0, none⟩ = some (.slice (some ⟨g, 0, none⟩) n cap)) (first | exact ⟨(HSW.out _ HB1.out).1.2.1, (HCE.out _ (HSW.out _ HB1.out).2).1⟩ | exact ⟨(HSW.out _ HD0.out).1.2.1, (HCE.out _ (HSW.out _ HD0.out).2).1⟩) (first | (go_at_call 30; refine (HPA.out _).mono ?_; rintro e w1 ⟨rfl, b1⟩; have HB1 := Lib.hid (HD0.out.trans (b1.mono HD0.out.size))))
  clear b1
  have HD1 : Hid (Below V.heap.size V w1.drew) := Lib.hid HB1.out.drew
  go_wp2_with fail
  go_region_held3 (fun W => W.cell? ⟨w.heap.size, 2, none⟩ = some (.int .i64 x.m.b) ∧ W.cell? ⟨fb, 0, none⟩ = some (.slice (some ⟨g, 0, none⟩) n cap)) (first | exact ⟨(HSW.out _ HB2.out).1.2.2.1, (HCE.out _ (HSW.out _ HB2.out).2).1⟩ | exact ⟨(HSW.out _ HD1.out).1.2.2.1, (HCE.out _ (HSW.out _ HD1.out).2).1⟩) (first | (go_at_call 30; refine (HPB.out _).mono ?_; rintro e w2 ⟨rfl, b2⟩; have HB2 := Lib.hid (HD1.out.trans (b2.mono HD1.out.size))))
  clear b2 HB1 HD0 HD1
  have HLOW := Lib.hid (HSW.out _ HB2.out).2
  obtain ⟨m0, m1, m2, m3⟩ := (HSW.out _ HB2.out).1
  obtain ⟨b0, ⟨y10, y8, y9, y0, y1⟩, z10, z9, z0, z1⟩ := HCE.out _ HLOW.out
  have hs1 := HLOW.out.size
  have hfz := HFZ.out _ HLOW.out
  rw [HDA.out] at y9
  have HTS := Lib.hid (((H.out.below HLOW.out).t).refStep (HST.out _ HLOW.out).2 (fun e he => .inr (List.mem_singleton.1 he)))
  have e8 : upI xa.up = -1 := by rw [hu]; rfl
  rw [e8] at y8
  rw [hl] at y10
  rw [hl2] at z10
  have lg2 : g < w2.heap.size := Nat.lt_of_lt_of_le l1 hs1
  have lf2 : fb < w2.heap.size := Nat.lt_of_lt_of_le l0 hs1
  clear e8 hu hk hl hl2 hmv hd hda hcur
  go_wp2_with (first | (go_at_call 74; refine (HDR.out _ HTS.out).mono ?_; rintro e w4 ⟨fv, rfl, ht4, f4⟩; have HT4 := Lib.hid (And.intro ht4 f4); clear ht4 f4))
  go_ret
  have hb2 := H.out.below HLOW.out
  have hst := HST.out _ HLOW.out
  exact ⟨rfl, _, _, _, hb2.kill hst.1 hst.2 HT4.out.1 HT4.out.2 HRR.out.1 rfl, HM.out, (HLOW.out.mono H.out.base).trans (hb2.lowk hst.2 HT4.out.2)⟩
end
end Go.Proofs.YtelhnaphkbpakaaDoor
