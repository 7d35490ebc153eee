/- Part 33 of the proof of TpP: lemmas. -/
import Derived.Test.YtelhnaphkbpakaaDoorMp32
namespace Go.Proofs.YtelhnaphkbpakaaDoor
open Go.RowKit
set_option linter.unusedVariables false
set_option maxRecDepth 100000
noncomputable def lkB (R : List RN) (a b : Nat) : Bool := @decide (∃ r s, R[a]? = some r ∧ R[b]? = some s ∧ LikeP r.2.1 s.2.1) (Classical.propDecidable _)
theorem lkB_iff {R : List RN} {a b : Nat} {r s : RN} (hr : R[a]? = some r) (hs : R[b]? = some s) : lkB R a b = true ↔ LikeP r.2.1 s.2.1 := by
 unfold lkB
 rw [@decide_eq_true_eq _ (Classical.propDecidable _)]
 constructor
 ·rintro ⟨r', s', h1, h2, h3⟩
  rw [hr] at h1
  rw [hs] at h2
  cases h1
  cases h2
  exact h3
 ·intro h
  exact ⟨r, s, hr, hs, h⟩
theorem zip_take {α : Type} {A B : List α} {f : α × α → Bool} {j : Nat} {x y : α} (hx : A[j]? = some x) (hy : B[j]? = some y) : ((A.zip B).take (j + 1)).all f = (((A.zip B).take j).all f && f (x, y)) := by
 have e : (A.zip B)[j]? = some (x, y) := by rw [List.getElem?_zip_eq_some]; exact ⟨hx, hy⟩
 rw [List.take_add_one, e, List.all_append]
 simp
theorem all_take_false {α : Type} {l : List α} {f : α → Bool} {j : Nat} (h : (l.take j).all f = false) : l.all f = false := by
 cases e : l.all f with
 | false => rfl
 | true =>
  rw [List.all_eq_true] at e
  have : (l.take j).all f = true := List.all_eq_true.2 (fun x hx => e x (List.mem_of_mem_take hx))
  rw [h] at this
  cases this
theorem FoAt.has_cells {B : Nat} {Q : Nat → Prop} {w : World} {fb : Nat} {F : For} {R : List RN} {rv : Value} (h : FoAt B Q w fb F R rv) {k : Nat} {r : RN} (hr : R[k]? = some r) :
  ∃ g cap, rv = .slice (some ⟨g, 0, none⟩) F.length cap ∧ w.cell? ⟨g, k * 11 + 2, none⟩ = some (.int .i64 r.2.1.kind) ∧ w.cell? ⟨g, k * 11 + 3, none⟩ = some (.string r.2.1.name) ∧ w.cell? ⟨g, k * 11 + 4, none⟩ = some (.slice r.2.1.da r.2.1.data.length r.2.1.dc) ∧
   w.cell? ⟨g, k * 11 + 5, none⟩ = some (.slice r.2.1.aa r.2.1.L.length r.2.1.ac) ∧ w.cell? ⟨g, k * 11 + 6, none⟩ = some (.int .u32 r.2.1.slot) ∧ w.cell? ⟨g, k * 11 + 7, none⟩ = some (.int .u32 r.2.1.gen) ∧ w.cell? ⟨g, k * 11 + 9, none⟩ = some r.2.2 := by
 obtain ⟨g, cap, e, hc⟩ := h.cells hr
 exact ⟨g, cap, e, hc 2 _ rfl, hc 3 _ rfl, hc 4 _ rfl, hc 5 _ rfl, hc 6 _ rfl, hc 7 _ rfl, hc 9 _ rfl⟩
structure RCs (W : World) (fb g fl cap k : Nat) (kd : Int) (nm : ByteArray) (da : Option Addr) (dl dc : Nat) (aa : Option Addr) (al ac : Nat) (sl ge : Int) (dv : Value) : Prop where
 c0 : W.cell? ⟨fb, 0, none⟩ = some (.slice (some ⟨g, 0, none⟩) fl cap)
 c2 : W.cell? ⟨g, k * 11 + 2, none⟩ = some (.int .i64 kd)
 c3 : W.cell? ⟨g, k * 11 + 3, none⟩ = some (.string nm)
 c4 : W.cell? ⟨g, k * 11 + 4, none⟩ = some (.slice da dl dc)
 c5 : W.cell? ⟨g, k * 11 + 5, none⟩ = some (.slice aa al ac)
 c6 : W.cell? ⟨g, k * 11 + 6, none⟩ = some (.int .u32 sl)
 c7 : W.cell? ⟨g, k * 11 + 7, none⟩ = some (.int .u32 ge)
 c9 : W.cell? ⟨g, k * 11 + 9, none⟩ = some dv
section
variable {B : Nat} {Q : Nat → Prop} {w w' : World} {fb : Nat} {F : For} {R : List RN} {rv : Value}
set_option maxHeartbeats 8000000 in
theorem requal_calls (h : FoAt B Q w fb F R rv) (ok : FOk F) (hbd : ∀ r ∈ R, r.2.1.L.length ≤ 1099511627776) : ∀ a, a < F.length → ∀ b, b < F.length → ∀ W, Below w.heap.size w W → Calls Tryd.prog 21 #[.pointer (some ⟨fb, 0, none⟩), .int .i64 (a : Int), .int .i64 (b : Int)] W fun e w' => e = .returned (.bool (eqD F (lkB R) a b)) ∧ Below W.heap.size W w' := by
 refine ok.kids_ind (fun a ha ih b hb W hW => ?_)
 have HOK := Lib.hid ok
 have h := h.below hW
 have hbig := h.big
 obtain ⟨x, hx⟩ : ∃ x, F[a]? = some x := ⟨_, List.getElem?_eq_getElem ha⟩
 obtain ⟨y, hy⟩ : ∃ y, F[b]? = some y := ⟨_, List.getElem?_eq_getElem hb⟩
 obtain ⟨M, dv, hRa⟩ := h.at hx
 obtain ⟨N, dw, hRb⟩ := h.at hy
 have hMn := (h.has _ (List.mem_of_getElem? hRa)).now
 have hNn := (h.has _ (List.mem_of_getElem? hRb)).now
 have bM := hbd _ (List.mem_of_getElem? hRa)
 have bN := hbd _ (List.mem_of_getElem? hRb)
 obtain ⟨lx, dcx, edv0⟩ := h.dshape (List.mem_of_getElem? hRa)
 obtain ⟨ly, dcy, edw0⟩ := h.dshape (List.mem_of_getElem? hRb)
 have edv : dv = .slice lx x.down.length dcx := edv0
 have edw : dw = .slice ly y.down.length dcy := edw0
 clear edv0 edw0
 obtain ⟨g, cap, e, z2, z3, z4, z5, z6, z7, z9⟩ := h.has_cells hRa
 obtain ⟨g', cap', e', y2, y3, y4, y5, y6, y7, y9⟩ := h.has_cells hRb
 rw [e] at e'
 simp only [Value.slice.injEq, Option.some.injEq, Addr.mk.injEq, and_true, true_and] at e'
 obtain ⟨eg, ec⟩ := e'
 subst eg ec
 have b0 := h.b0
 rw [e] at b0
 simp only at z2 z3 z4 z5 z6 z7 z9 y2 y3 y4 y5 y6 y7 y9
 have HL : Hid (∀ W', Below W.heap.size W W' → Calls Tryd.prog 51 #[M.v, N.v] W' (BPost (LikeP M N) W')) := Lib.hid (fun W' bb => rlike_calls W' M N (hMn.below bb) (hNn.below bb) bM bN)
 have HLB : Hid (lkB R a b = true ↔ LikeP M N) := Lib.hid (lkB_iff hRa hRb)
 have hda : dnOf F (some a) = x.down := by unfold dnOf; simp [hx]
 have hdb : dnOf F (some b) = y.down := by unfold dnOf; simp [hy]
 have HEQ : Hid (eqD F (lkB R) a b = (lkB R a b && decide (x.down.length = y.down.length) && (x.down.zip y.down).all (fun p => eqD F (lkB R) p.1 p.2))) := Lib.hid (by rw [eqD_eq ok ha, hda, hdb])
 have HIH : Hid (∀ c ∈ x.down, ∀ d ∈ y.down, ∀ W', Below W.heap.size W W' → Calls Tryd.prog 21 #[.pointer (some ⟨fb, 0, none⟩), .int .i64 (c : Int), .int .i64 (d : Int)] W' fun e w' => e = .returned (.bool (eqD F (lkB R) c d)) ∧ Below W'.heap.size W' w') := Lib.hid (fun c hc d hd W' bb => ih c (by rw [hda]; exact hc) d (HOK.out.kid_up (k := b) (c := d) (by rw [hdb]; exact hd)).2 W' (hW.trans (bb.mono hW.size)))
 have H := Lib.hid h
 have HKA : Hid (∀ W', Below W.heap.size W W' → ∀ (j c : Nat), x.down[j]? = some c → ∃ dg dcap, dv = .slice (some ⟨dg, 0, none⟩) x.down.length dcap ∧ W'.cell? ⟨dg, j, none⟩ = some (.int .i64 (c : Int))) := Lib.hid (fun W' bb j c hc => (H.out.below bb).kid (List.mem_of_getElem? hRa) hc)
 have HKB : Hid (∀ W', Below W.heap.size W W' → ∀ (j c : Nat), y.down[j]? = some c → ∃ dg dcap, dw = .slice (some ⟨dg, 0, none⟩) y.down.length dcap ∧ W'.cell? ⟨dg, j, none⟩ = some (.int .i64 (c : Int))) := Lib.hid (fun W' bb j c hc => (H.out.below bb).kid (List.mem_of_getElem? hRb) hc)
 have hnx : x.down.length ≤ F.length := nodup_bound F.length x.down (HOK.out.nd a x hx) (fun m hm => (HOK.out.kid_up (k := a) (c := m) (by rw [hda]; exact hm)).2)
 have hny : y.down.length ≤ F.length := nodup_bound F.length y.down (HOK.out.nd b y hy) (fun m hm => (HOK.out.kid_up (k := b) (c := m) (by rw [hdb]; exact hm)).2)
 obtain ⟨n, hn⟩ : ∃ n, n = x.down.length := ⟨_, rfl⟩
 obtain ⟨n2, hn2⟩ : ∃ n, n = y.down.length := ⟨_, rfl⟩
 have HN := Lib.hid (And.intro hn hn2)
 rw [← hn] at edv hnx
 rw [← hn2] at edw hny
 obtain ⟨k, nm, da, dc, data, aa, ac, LL, sl, ge⟩ := M
 obtain ⟨k2, nm2, da2, dc2, data2, aa2, ac2, LL2, sl2, ge2⟩ := N
 simp only at z2 z3 z4 z5 z6 z7 y2 y3 y4 y5 y6 y7
 simp only [Nd.v, Nd.cells] at HL
 obtain ⟨m, em⟩ : ∃ m, m = data.length := ⟨_, rfl⟩
 obtain ⟨m2, em2⟩ : ∃ m, m = data2.length := ⟨_, rfl⟩
 obtain ⟨q, eq⟩ : ∃ m, m = LL.length := ⟨_, rfl⟩
 obtain ⟨q2, eq2⟩ : ∃ m, m = LL2.length := ⟨_, rfl⟩
 rw [← em] at z4
 rw [← em2] at y4
 rw [← eq] at z5
 rw [← eq2] at y5
 rw [← em, ← em2, ← eq, ← eq2] at HL
 obtain ⟨P, hP⟩ : ∃ P, P = LikeP ⟨k, nm, da, dc, data, aa, ac, LL, sl, ge⟩ ⟨k2, nm2, da2, dc2, data2, aa2, ac2, LL2, sl2, ge2⟩ := ⟨_, rfl⟩
 rw [← hP] at HL HLB
 obtain ⟨fl, hfl⟩ : ∃ n, n = F.length := ⟨_, rfl⟩
 rw [← hfl] at ha hb hbig hnx hny b0
 have hA : RCs W fb g fl cap a k nm da m dc aa q ac sl ge dv := ⟨b0, z2, z3, z4, z5, z6, z7, z9⟩
 have hB : RCs W fb g fl cap b k2 nm2 da2 m2 dc2 aa2 q2 ac2 sl2 ge2 dw := ⟨b0, y2, y3, y4, y5, y6, y7, y9⟩
 have l0 := cell_lt b0
 have l1 := cell_lt z2
 have HC : Hid (∀ W', Below W.heap.size W W' → RCs W' fb g fl cap a k nm da m dc aa q ac sl ge dv ∧ RCs W' fb g fl cap b k2 nm2 da2 m2 dc2 aa2 q2 ac2 sl2 ge2 dw) := Lib.hid (fun W' bb =>
  ⟨⟨(bb.cell (p := ⟨fb, 0, none⟩) l0).trans b0, (bb.cell (p := ⟨g, _, none⟩) (show g < _ from l1)).trans z2, (bb.cell (p := ⟨g, _, none⟩) (show g < _ from l1)).trans z3, (bb.cell (p := ⟨g, _, none⟩) (show g < _ from l1)).trans z4, (bb.cell (p := ⟨g, _, none⟩) (show g < _ from l1)).trans z5, (bb.cell (p := ⟨g, _, none⟩) (show g < _ from l1)).trans z6, (bb.cell (p := ⟨g, _, none⟩) (show g < _ from l1)).trans z7, (bb.cell (p := ⟨g, _, none⟩) (show g < _ from l1)).trans z9⟩,
   ⟨(bb.cell (p := ⟨fb, 0, none⟩) l0).trans b0, (bb.cell (p := ⟨g, _, none⟩) (show g < _ from l1)).trans y2, (bb.cell (p := ⟨g, _, none⟩) (show g < _ from l1)).trans y3, (bb.cell (p := ⟨g, _, none⟩) (show g < _ from l1)).trans y4, (bb.cell (p := ⟨g, _, none⟩) (show g < _ from l1)).trans y5, (bb.cell (p := ⟨g, _, none⟩) (show g < _ from l1)).trans y6, (bb.cell (p := ⟨g, _, none⟩) (show g < _ from l1)).trans y7, (bb.cell (p := ⟨g, _, none⟩) (show g < _ from l1)).trans y9⟩⟩)
 subst edv edw
 obtain ⟨rr, hrr⟩ : ∃ r, r = eqD F (lkB R) a b := ⟨_, rfl⟩
 rw [← hrr] at HEQ ⊢
 have HF := Lib.hid (And.intro hfl hP)
 clear h hx hy hRa hRb hMn hNn bM bN z2 z3 z4 z5 z6 z7 z9 y2 y3 y4 y5 y6 y7 y9 e b0 hda hdb ih hn hn2 em em2 eq eq2 hP hfl hA hB l0 l1 hrr ok
 have HS : Hid (∀ W', Below W.heap.size W W' → W'.cell? ⟨fb, 0, none⟩ = some (.slice (some ⟨g, 0, none⟩) fl cap) ∧ W'.cell? ⟨g, a * 11 + 2, none⟩ = some (.int .i64 k) ∧ W'.cell? ⟨g, a * 11 + 3, none⟩ = some (.string nm) ∧ W'.cell? ⟨g, a * 11 + 4, none⟩ = some (.slice da m dc) ∧ W'.cell? ⟨g, a * 11 + 5, none⟩ = some (.slice aa q ac) ∧ W'.cell? ⟨g, a * 11 + 6, none⟩ = some (.int .u32 sl) ∧ W'.cell? ⟨g, a * 11 + 7, none⟩ = some (.int .u32 ge) ∧ W'.cell? ⟨g, b * 11 + 2, none⟩ = some (.int .i64 k2) ∧ W'.cell? ⟨g, b * 11 + 3, none⟩ = some (.string nm2) ∧ W'.cell? ⟨g, b * 11 + 4, none⟩ = some (.slice da2 m2 dc2) ∧ W'.cell? ⟨g, b * 11 + 5, none⟩ = some (.slice aa2 q2 ac2) ∧ W'.cell? ⟨g, b * 11 + 6, none⟩ = some (.int .u32 sl2) ∧ W'.cell? ⟨g, b * 11 + 7, none⟩ = some (.int .u32 ge2)) := Lib.hid (fun W' bb => by obtain ⟨⟨c0, c2, c3, c4, c5, c6, c7, c9⟩, ⟨_, d2, d3, d4, d5, d6, d7, d9⟩⟩ := HC.out W' bb; exact ⟨c0, c2, c3, c4, c5, c6, c7, d2, d3, d4, d5, d6, d7⟩)
 have HD0 : Hid (Below W.heap.size W W.drew) := Lib.hid (Below.refl _ W).drew
 go_enter Tryd.func21, Tryd.ntmps21
 go_wp2_with fail
 go_region_held3 (fun W' => W'.cell? ⟨fb, 0, none⟩ = some (.slice (some ⟨g, 0, none⟩) fl cap) ∧ W'.cell? ⟨g, a * 11 + 2, none⟩ = some (.int .i64 k) ∧ W'.cell? ⟨g, a * 11 + 3, none⟩ = some (.string nm) ∧ W'.cell? ⟨g, a * 11 + 4, none⟩ = some (.slice da m dc) ∧ W'.cell? ⟨g, a * 11 + 5, none⟩ = some (.slice aa q ac) ∧ W'.cell? ⟨g, a * 11 + 6, none⟩ = some (.int .u32 sl) ∧ W'.cell? ⟨g, a * 11 + 7, none⟩ = some (.int .u32 ge) ∧ W'.cell? ⟨g, b * 11 + 2, none⟩ = some (.int .i64 k2) ∧ W'.cell? ⟨g, b * 11 + 3, none⟩ = some (.string nm2) ∧ W'.cell? ⟨g, b * 11 + 4, none⟩ = some (.slice da2 m2 dc2) ∧ W'.cell? ⟨g, b * 11 + 5, none⟩ = some (.slice aa2 q2 ac2) ∧ W'.cell? ⟨g, b * 11 + 6, none⟩ = some (.int .u32 sl2) ∧ W'.cell? ⟨g, b * 11 + 7, none⟩ = some (.int .u32 ge2)) (first | exact HS.out _ HB1.out | exact HS.out _ HD0.out) (first | (go_at_call 51; refine (HL.out _ HD0.out).mono ?_; rintro e w1 ⟨r, rfl, hr, b1⟩; have HR := Lib.hid hr; have HB1 := Lib.hid (HD0.out.trans (b1.mono HD0.out.size)); clear b1 hr))
 obtain ⟨⟨c0, _, _, _, _, _, _, c9⟩, ⟨_, _, _, _, _, _, _, d9⟩⟩ := HC.out _ HB1.out
 cases r with
 | false =>
  have HE0 : Hid (rr = false) := Lib.hid (by
   have : lkB R a b = false := by
    cases e : lkB R a b with
    | false => rfl
    | true => exact absurd (HR.out.2 (HLB.out.1 e)) (by simp)
   rw [HEQ.out, this]; rfl)
  clear c0 c9 d9
  go_wp2_with fail
  go_quiet (fail)
  go_wp2_with fail
  try rw [Exit.noGoto_ret]
  go_ret
  exact ⟨by rw [HE0.out]; rfl, below_drewN HB1.out nq⟩
 | true =>
  have HE1 : Hid (rr = (decide (n = n2) && (x.down.zip y.down).all (fun p => eqD F (lkB R) p.1 p.2))) := Lib.hid (by
   rw [HEQ.out, HLB.out.2 (HR.out.1 rfl), ← HN.out.1, ← HN.out.2]; rfl)
  clear HEQ HLB HR HL HS HF
  have HNN : Hid (n = x.down.length ∧ n2 = y.down.length) := HN
  by_cases hnn : n = n2
  ·subst hnn
   go_wp2_with fail
   go_quiet (fail)
   have HBQ := Lib.hid (below_drewN HB1.out nq)
   go_wp2_with fail
   go_loopg [8] n (fun mm v8 wr => ∃ j : Nat, v8 = .int .i64 (j : Int) ∧ Hid ((j + mm = n ∧ Below W.heap.size W wr) ∧ ((x.down.zip y.down).take j).all (fun p => eqD F (lkB R) p.1 p.2) = true))
   case atStart => exact ⟨0, rfl, Lib.hid ⟨⟨by omega, HBQ.out⟩, by simp⟩⟩
   case round =>
    obtain ⟨j, rfl, hw⟩ := hrel
    obtain ⟨⟨c0, _, _, _, _, _, _, c9⟩, ⟨_, _, _, _, _, _, _, d9⟩⟩ := HC.out wr hw.out.1.2
    have hsum := hw.out.1.1
    by_cases hj : j < n
    ·obtain ⟨c, hc⟩ : ∃ c, x.down[j]? = some c := ⟨_, List.getElem?_eq_getElem (by have := HNN.out.1; omega)⟩
     obtain ⟨d, hd⟩ : ∃ c, y.down[j]? = some c := ⟨_, List.getElem?_eq_getElem (by have := HNN.out.2; omega)⟩
     obtain ⟨dg, dcap, e1, zc⟩ := HKA.out wr hw.out.1.2 j c hc
     obtain ⟨dg2, dcap2, e2, zd⟩ := HKB.out wr hw.out.1.2 j d hd
     rw [← HNN.out.1] at e1
     rw [← HNN.out.2] at e2
     rw [e1] at c9
     rw [e2] at d9
     obtain ⟨ec, hec⟩ : ∃ e, e = eqD F (lkB R) c d := ⟨_, rfl⟩
     have HCL : Hid (∀ W', Below W.heap.size W W' → Calls Tryd.prog 21 #[.pointer (some ⟨fb, 0, none⟩), .int .i64 (c : Int), .int .i64 (d : Int)] W' fun e w' => e = .returned (.bool ec) ∧ Below W'.heap.size W' w') := Lib.hid (fun W' bb => by rw [hec]; exact HIH.out c (List.mem_of_getElem? hc) d (List.mem_of_getElem? hd) W' bb)
     have HZ : Hid (((x.down.zip y.down).take (j + 1)).all (fun p => eqD F (lkB R) p.1 p.2) = ec) := Lib.hid (by rw [zip_take hc hd, hw.out.2, hec]; rfl)
     have ql : decide (j < n) = true := by simp; omega
     have wk : IntKind.i64.wrap ((j : Int) + 1) = (j : Int) + 1 := IntWalk.i64_in _ (by omega)
     have HJ : Hid (j + 1 + (gk - 1) = n) := Lib.hid (by omega)
     have HM : Hid (gk - 1 < gk) := Lib.hid (by omega)
     have HWR := Lib.hid hw.out.1.2
     have HS2 : Hid (∀ W', Below W.heap.size W W' → Below wr.heap.size wr W' → W'.cell? ⟨fb, 0, none⟩ = some (.slice (some ⟨g, 0, none⟩) fl cap) ∧ W'.cell? ⟨g, a * 11 + 9, none⟩ = some (.slice (some ⟨dg, 0, none⟩) n dcap) ∧ W'.cell? ⟨g, b * 11 + 9, none⟩ = some (.slice (some ⟨dg2, 0, none⟩) n dcap2) ∧ W'.cell? ⟨dg, j, none⟩ = some (.int .i64 (c : Int)) ∧ W'.cell? ⟨dg2, j, none⟩ = some (.int .i64 (d : Int))) := Lib.hid (fun W' bb bw =>
      ⟨(HC.out W' bb).1.c0, by rw [← e1]; exact (HC.out W' bb).1.c9, by rw [← e2]; exact (HC.out W' bb).2.c9, (bw.cell (p := ⟨dg, j, none⟩) (cell_lt zc)).trans zc, (bw.cell (p := ⟨dg2, j, none⟩) (cell_lt zd)).trans zd⟩)
     have HD2 : Hid (Below W.heap.size W wr.drew ∧ Below wr.heap.size wr wr.drew) := Lib.hid ⟨HWR.out.drew, (Below.refl _ _).drew⟩
     clear hec hc hd e1 e2 zc zd HC HKA HKB HIH
     go_wp2_with fail
     go_region_held3 (fun W' => W'.cell? ⟨fb, 0, none⟩ = some (.slice (some ⟨g, 0, none⟩) fl cap) ∧ W'.cell? ⟨g, a * 11 + 9, none⟩ = some (.slice (some ⟨dg, 0, none⟩) n dcap) ∧ W'.cell? ⟨g, b * 11 + 9, none⟩ = some (.slice (some ⟨dg2, 0, none⟩) n dcap2) ∧ W'.cell? ⟨dg, j, none⟩ = some (.int .i64 (c : Int)) ∧ W'.cell? ⟨dg2, j, none⟩ = some (.int .i64 (d : Int))) (first | exact HS2.out _ HB2.out.1 HB2.out.2 | exact HS2.out _ HD2.out.1 HD2.out.2) (first | (go_at_call 21; refine (HCL.out _ HD2.out.1).mono ?_; rintro e w2 ⟨rfl, b2⟩; have HB2 := Lib.hid (And.intro (HD2.out.1.trans (b2.mono HD2.out.1.size)) (HD2.out.2.trans (b2.mono HD2.out.2.size))); clear b2))
     cases ec with
     | false =>
      have HE0 : Hid (rr = false) := Lib.hid (by rw [HE1.out, all_take_false HZ.out, Bool.and_false])
      go_wp2_with fail
      try rw [Exit.noGoto_ret]
      go_ret
      exact ⟨by rw [HE0.out]; rfl, HB2.out.1⟩
     | true =>
      go_wp2_with fail
      go_roundg (gk - 1)
      case measure => exact HM.out
      case rel => exact ⟨j + 1, by go_num, Lib.hid ⟨⟨HJ.out, HB2.out.1⟩, HZ.out⟩⟩
    ·have hjn : j = n := by omega
     have ql : decide (j < n) = false := by simp; omega
     have HE0 : Hid (rr = true) := Lib.hid (by
      have h1 := hw.out.2
      rw [List.take_of_length_le (by rw [List.length_zip, ← HNN.out.1, ← HNN.out.2]; omega)] at h1
      rw [HE1.out, h1]; simp)
     have HWR := Lib.hid hw.out.1.2
     go_wp2_with fail
     try rw [Exit.noGoto_ret]
     go_ret
     exact ⟨by rw [HE0.out]; rfl, HWR.out⟩
  ·have q4 : ((n : Int) == (n2 : Int)) = false := by simp; omega
   have HE0 : Hid (rr = false) := Lib.hid (by rw [HE1.out, decide_eq_false hnn]; rfl)
   go_wp2_with fail
   go_quiet (fail)
   go_wp2_with fail
   try rw [Exit.noGoto_ret]
   go_ret
   exact ⟨by rw [HE0.out]; rfl, below_drewN HB1.out nq⟩
end
end Go.Proofs.YtelhnaphkbpakaaDoor
