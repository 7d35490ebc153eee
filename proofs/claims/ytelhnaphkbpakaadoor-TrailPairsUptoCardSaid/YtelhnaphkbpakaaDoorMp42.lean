/- Part 42 of the proof of TpP: lemmas. -/
import Derived.Test.YtelhnaphkbpakaaDoorMp41
namespace Go.Proofs.YtelhnaphkbpakaaDoor
open Go.RowKit Go.Shelf
attribute [local go_sem] Oper.semAt_some
set_option linter.unusedVariables false
set_option maxRecDepth 100000
section
variable {B : Nat} {Q : Nat → Prop} {w : World} {tb fb : Nat} {X : TX} {R : List RN} {rv : Value}
structure EqN (X : TX) (R : List RN) (w : World) (tb r : Nat) (sr gr : Nat) (L : List Nat) (i k : Nat) (x : FN) (rn : RN) (pl : Nat) : Prop where
 at_ : L[i]? = some k
 hx : X.F[k]? = some x
 live : x.live = true
 hr : R[k]? = some rn
 good : GoodN rn.2.1
 dep : dep X.F k = dep X.F r + pl
 node : ∀ W, Below w.heap.size w W → Calls Tryd.prog 45 #[.pointer (some ⟨tb, 0, none⟩), .agg #[.int .u32 (x.sl : Int), .int .u32 (x.gn : Int)]] W fun e w' => ∃ M : Nd, e = .returned (.tuple #[.agg #[.int .i64 M.kind, .string M.name, .slice M.da M.data.length M.dc, .slice M.aa M.L.length M.ac, .int .u32 M.slot, .int .u32 M.gen], .int .i64 0]) ∧ (M.c = rn.2.1.c ∧ M.L.length ≤ 1099511627776 ∧ NdIn w' M) ∧ Below W.heap.size W w'
 depth : ∀ W, Below w.heap.size w W → Calls Tryd.prog 47 #[.pointer (some ⟨tb, 0, none⟩), .agg #[.int .u32 (x.sl : Int), .int .u32 (x.gn : Int)], .agg #[.int .u32 (sr : Int), .int .u32 (gr : Int)]] W fun e w' => e = .returned (.int .i64 (pl : Int)) ∧ Below W.heap.size W w'
 step : ∀ W, Below w.heap.size w W → Calls Tryd.prog 48 #[.pointer (some ⟨tb, 0, none⟩), .agg #[.int .u32 (x.sl : Int), .int .u32 (x.gn : Int)], .agg #[.int .u32 (sr : Int), .int .u32 (gr : Int)]] W fun e w' => e = .returned (.agg #[.int .u32 ((hd X.F L[i + 1]?).1 : Int), .int .u32 ((hd X.F L[i + 1]?).2 : Int)]) ∧ Below W.heap.size W w'
 bound : 1 ≤ x.sl ∧ x.sl ≤ 4294967295 ∧ x.gn ≤ 4294967295
theorem eqN_at (h : Both B Q w tb fb X R rv) (hz : NoneAt w) {r : Nat} {xr : FN} (hr : X.F[r]? = some xr) (hrl : xr.live = true) {i k : Nat} (hk : (preD X.F r)[i]? = some k) : ∃ x rn pl, EqN X R w tb r xr.sl xr.gn (preD X.F r) i k x rn pl := by
 have ok := h.t.fok
 have hrlen := (List.getElem?_eq_some_iff.1 hr).1
 have hmem := List.mem_of_getElem? hk
 obtain ⟨x, hx, hl⟩ := preD_live ok r hrlen ⟨xr, hr, hrl⟩ k hmem
 obtain ⟨l, hc⟩ := ok.acyc k x hx
 have hin := (mem_preD ok hrlen hc).1 hmem
 obtain ⟨p, q, e⟩ := List.append_of_mem hin
 obtain ⟨rn, h1, h2, h3⟩ := node_ref h hx hl
 obtain ⟨nb, P, _, _, b1, b2, b3⟩ := h.t.rw.at_live hx hl
 have hi := (List.getElem?_eq_some_iff.1 hk).1
 have hsplit : preD X.F r = (preD X.F r).take i ++ k :: (preD X.F r).drop (i + 1) := by
  have e1 : (preD X.F r).drop i = k :: (preD X.F r).drop (i + 1) := by
   rw [List.drop_eq_getElem_cons hi]
   congr 1
   have := List.getElem?_eq_getElem hi
   rw [hk] at this
   exact (Option.some.inj this).symm
  rw [← e1, List.take_append_drop]
 have hst := step_next ok r hrlen hsplit hc
 rw [List.head?_drop] at hst
 refine ⟨x, rn, p.length, hk, hx, hl, h1, h2, dep_idx hc e, h3, fun W b => depthT_calls (h.t.below b) hx hl hr hrl (by rw [← e]; exact hc), fun W b => ?_, b1, by omega, b3⟩
 rw [hst]
 exact stepT_calls (h.t.below b) (hz.below b) hx hl hr hrl hc
set_option maxHeartbeats 16000000 in
theorem equalT_calls (h : Both B Q w tb fb X R rv) (hz : NoneAt w) {ka kb : Nat} {xa xb : FN} (ha : X.F[ka]? = some xa) (hal : xa.live = true) (hb : X.F[kb]? = some xb) (hbl : xb.live = true) :
  Calls Tryd.prog 16 #[.pointer (some ⟨tb, 0, none⟩), .agg #[.int .u32 (xa.sl : Int), .int .u32 (xa.gn : Int)], .agg #[.int .u32 (xb.sl : Int), .int .u32 (xb.gn : Int)]] w fun e w' => e = .returned (.tuple #[.bool (eqD X.F (lkB R) ka kb), .int .i64 0]) ∧ Below w.heap.size w w' := by
 have ok := h.t.fok
 have hka := (List.getElem?_eq_some_iff.1 ha).1
 have hkb := (List.getElem?_eq_some_iff.1 hb).1
 have HZ := Lib.hid hz
 have HTB := Lib.hid h
 have HNA : Hid (∀ (i k : Nat), (preD X.F ka)[i]? = some k → ∃ x rn pl, EqN X R w tb ka xa.sl xa.gn (preD X.F ka) i k x rn pl) := Lib.hid (fun i k hk => eqN_at h hz ha hal hk)
 have HNB : Hid (∀ (i k : Nat), (preD X.F kb)[i]? = some k → ∃ x rn pl, EqN X R w tb kb xb.sl xb.gn (preD X.F kb) i k x rn pl) := Lib.hid (fun i k hk => eqN_at h hz hb hbl hk)
 have HFAIL : Hid (∀ i x y, (preD X.F ka)[i]? = some x → (preD X.F kb)[i]? = some y → ¬ Side X.F (lkB R) (dep X.F ka) (dep X.F kb) x y → eqD X.F (lkB R) ka kb = false) := Lib.hid (fun i x y h1 h2 h3 => eqD_fails ok hka hkb h1 h2 h3)
 have HENDS : Hid (∀ n, (∀ i x y, i < n → (preD X.F ka)[i]? = some x → (preD X.F kb)[i]? = some y → Side X.F (lkB R) (dep X.F ka) (dep X.F kb) x y) → ((preD X.F ka).length = n ∨ (preD X.F kb).length = n) → eqD X.F (lkB R) ka kb = decide ((preD X.F ka).length = (preD X.F kb).length)) := Lib.hid (fun n h1 h2 => eqD_ends ok hka hkb h1 h2)
 have HLV : Hid (∀ W gb, Below w.heap.size w W → W.heap[gb]? = some (.cells #[.int .u32 (xa.sl : Int), .int .u32 (xa.gn : Int), .int .u32 (xb.sl : Int), .int .u32 (xb.gn : Int)] 31 (0, 0)) → Calls Tryd.prog 40 #[.pointer (some ⟨tb, 0, none⟩), .slice (some ⟨gb, 0, none⟩) 2 2] W fun e w' => e = .returned (.int .i64 0) ∧ Below W.heap.size W w') := Lib.hid (fun W gb b hg => lives2_calls (h.t.below b).rw ha hal hb hbl hg)
 have HHD : Hid (hd X.F (preD X.F ka)[0]? = (xa.sl, xa.gn) ∧ hd X.F (preD X.F kb)[0]? = (xb.sl, xb.gn)) := Lib.hid ⟨by rw [preD_eq ok hka]; exact hd_some ha, by rw [preD_eq ok hkb]; exact hd_some hb⟩
 have HLEN : Hid ((preD X.F ka).length ≤ X.F.length) := Lib.hid (preD_len ok hka)
 obtain ⟨rr, hrr⟩ : ∃ r, r = eqD X.F (lkB R) ka kb := ⟨_, rfl⟩
 rw [← hrr] at HFAIL HENDS ⊢
 obtain ⟨La, hLa⟩ : ∃ l, l = preD X.F ka := ⟨_, rfl⟩
 obtain ⟨Lb, hLb⟩ : ∃ l, l = preD X.F kb := ⟨_, rfl⟩
 rw [← hLa] at HNA HFAIL HENDS HHD HLEN
 rw [← hLb] at HNB HFAIL HENDS HHD
 clear h hz ha hal hb hbl ok hka hkb hrr hLa hLb
 generalize xa.sl = sa at *
 generalize xa.gn = ga at *
 generalize xb.sl = sb at *
 generalize xb.gn = gb at *
 obtain ⟨V0, hV0⟩ : ∃ V, V = (w.alloc (.cells #[.int .u32 (sa : Int), .int .u32 (ga : Int)] 31)).alloc (.cells #[.int .u32 (sb : Int), .int .u32 (gb : Int)] 31) := ⟨_, rfl⟩
 have bV0 : Below w.heap.size w V0 := by rw [hV0]; exact ((Below.refl _ w).alloc (Nat.le_refl _) _).alloc (by simp) _
 have x4 : V0.heap[w.heap.size]? = some (.cells #[.int .u32 (sa : Int), .int .u32 (ga : Int)] 31 (0, 0)) := by rw [hV0]; exact (alloc_2nd _ _).1
 have x5 : V0.heap[w.heap.size + 1]? = some (.cells #[.int .u32 (sb : Int), .int .u32 (gb : Int)] 31 (0, 0)) := by rw [hV0]; exact (alloc_2nd _ _).2
 have HX0 := Lib.hid (And.intro bV0 (And.intro x4 x5))
 have HLC := Lib.hid (HLV.out _ _ (bV0.alloc bV0.size (.cells #[.int .u32 (sa : Int), .int .u32 (ga : Int), .int .u32 (sb : Int), .int .u32 (gb : Int)] 31)) (Go.heap_alloc_new V0 _))
 have c0 := cell_blk x4 0 rfl
 have c1 := cell_blk x4 1 rfl
 have c2 := cell_blk x5 0 rfl
 have c3 := cell_blk x5 1 rfl
 have hV2 := hV0
 clear hV0 bV0 x4 x5 HLV
 go_enter Tryd.func16, Tryd.ntmps16
 go_upto_region 1 with fail
 rw [← hV2]
 clear hV2
 go_upto_region 4 with (go_at_call 40; refine HLC.out.mono ?_; rintro e w1 ⟨rfl, b1⟩; have HB1 := Lib.hid ((Below.refl V0.heap.size V0).alloc (Nat.le_refl _) _ |>.trans (b1.mono (by simp))); clear b1)
 generalize hwq : w.heap.size = n4 at *
 have HW1 : Hid (Below n4 w w1 ∧ w1.heap[n4]? = some (.cells #[.int .u32 (sa : Int), .int .u32 (ga : Int)] 31 (0, 0)) ∧ w1.heap[n4 + 1]? = some (.cells #[.int .u32 (sb : Int), .int .u32 (gb : Int)] 31 (0, 0))) := Lib.hid ⟨HX0.out.1.trans (HB1.out.mono (by have := HX0.out.1.size; omega)), (HB1.out.block _ (lt_of_some HX0.out.2.1)).trans HX0.out.2.1, (HB1.out.block _ (lt_of_some HX0.out.2.2)).trans HX0.out.2.2⟩
 clear HX0 HB1 HLC c0 c1 c2 c3
 have HS4 : Hid (∀ W, Below w1.heap.size w1 W → W.cell? ⟨n4, 0, none⟩ = some (.int .u32 (sa : Int)) ∧ W.cell? ⟨n4, 1, none⟩ = some (.int .u32 (ga : Int)) ∧ W.cell? ⟨n4 + 1, 0, none⟩ = some (.int .u32 (sb : Int)) ∧ W.cell? ⟨n4 + 1, 1, none⟩ = some (.int .u32 (gb : Int))) := Lib.hid (fun W b => by
  have h1 := (b.block _ (lt_of_some HW1.out.2.1)).trans HW1.out.2.1
  have h2 := (b.block _ (lt_of_some HW1.out.2.2)).trans HW1.out.2.2
  exact ⟨cell_blk h1 0 rfl, cell_blk h1 1 rfl, cell_blk h2 0 rfl, cell_blk h2 1 rfl⟩)
 go_cut [9, 10] from 71 (fun v9 v10 wc => ∃ b9 b10, (v9 = .pointer (some ⟨b9, 0, none⟩) ∧ v10 = .pointer (some ⟨b10, 0, none⟩)) ∧ Hid (EqI w1 X.F b9 b10 La[0]? Lb[0]? wc))
 case first =>
  go_region_held3 (fun W => W.cell? ⟨n4, 0, none⟩ = some (.int .u32 (sa : Int)) ∧ W.cell? ⟨n4, 1, none⟩ = some (.int .u32 (ga : Int)) ∧ W.cell? ⟨n4 + 1, 0, none⟩ = some (.int .u32 (sb : Int)) ∧ W.cell? ⟨n4 + 1, 1, none⟩ = some (.int .u32 (gb : Int))) ((refine HS4.out _ ?_; (repeat (first | exact Below.refl _ _ | refine Below.drew ?_ | refine Below.setCell ?_ (Nat.le_refl _) _ | refine Below.setCell ?_ (Nat.le_succ _) _ | refine Below.alloc ?_ (by simp) _)))) (fail)
  all_goals go_wp2_with fail
  all_goals go_meet
  all_goals first | exact ⟨w1.heap.size, w1.heap.size + 1, ⟨rfl, rfl⟩, Lib.hid ⟨(((Below.refl _ w1).alloc (Nat.le_refl _) _).alloc (by simp) _).drew, by rw [HHD.out.1]; exact (alloc_2nd _ _).1, by rw [HHD.out.2]; exact (alloc_2nd _ _).2, Nat.le_refl _, Nat.le_succ _, by omega⟩⟩ | exact ⟨w1.heap.size + 1, w1.heap.size, ⟨rfl, rfl⟩, Lib.hid ⟨(((Below.refl _ w1).alloc (Nat.le_refl _) _).alloc (by simp) _).drew, by rw [HHD.out.1]; exact (alloc_2nd _ _).2, by rw [HHD.out.2]; exact (alloc_2nd _ _).1, Nat.le_succ _, Nat.le_refl _, by omega⟩⟩
 case rest =>
  obtain ⟨b9, b10, ⟨rfl, rfl⟩, hE0⟩ := hcut
  generalize wc = w2 at *
  clear HHD
  go_wp2_with fail
  go_loopg [12] La.length (fun m v12 wr => ∃ i : Nat, True ∧ Hid ((i + m = La.length ∧ i ≤ Lb.length) ∧ EqI w1 X.F b9 b10 La[i]? Lb[i]? wr ∧ ∀ (j x y : Nat), j < i → La[j]? = some x → Lb[j]? = some y → Side X.F (lkB R) (dep X.F ka) (dep X.F kb) x y))
  case atStart => exact ⟨0, trivial, Lib.hid ⟨⟨by omega, by omega⟩, hE0.out, fun j x y hj => absurd hj (Nat.not_lt_zero _)⟩⟩
  case round =>
   obtain ⟨i, _, hw⟩ := hrel
   have hsum := hw.out.1.1
   have HLW : Hid (Below n4 w wr) := Lib.hid (HW1.out.1.trans (hw.out.2.1.low.mono (by have := HW1.out.1.size; omega)))
   have HLW0 : Hid (Below w.heap.size w wr) := Lib.hid (by rw [hwq]; exact HLW.out)
   have n0 := (HZ.out.below HLW0.out).a
   have n1 := (HZ.out.below HLW0.out).b
   have y0 := cell_blk hw.out.2.1.x9 0 rfl
   have y1 := cell_blk hw.out.2.1.x9 1 rfl
   have z0 := cell_blk hw.out.2.1.x10 0 rfl
   have z1 := cell_blk hw.out.2.1.x10 1 rfl
   have q0 : hEq 0 0 0 0 = true := hEq_true rfl rfl
   cases hk : La[i]? with
   | none =>
    rw [hk, hd_none] at y0 y1
    have hli : La.length = i := by have := List.getElem?_eq_none_iff.1 hk; omega
    have hrr := HENDS.out i hw.out.2.2 (.inl hli)
    cases hm : Lb[i]? with
    | none =>
     rw [hm, hd_none] at z0 z1
     have HR : Hid (rr = true) := Lib.hid (by
      rw [hrr]
      have := List.getElem?_eq_none_iff.1 hm
      have := hw.out.1.2
      exact decide_eq_true (by omega))
     clear hrr hli hsum
     go_wp2_with fail
     try rw [Exit.noGoto_ret]
     go_ret2
     exact ⟨by rw [HR.out]; rfl, HLW.out⟩
    | some m =>
     obtain ⟨y, rn2, pl2, hE2⟩ := HNB.out i m hm
     have hb2 := hE2.bound
     rw [hm, hd_some hE2.hx] at z0 z1
     have q2 : hEq 0 0 (y.sl : Int) (y.gn : Int) = false := hEq_false (.inl (by omega))
     have HR : Hid (rr = false) := Lib.hid (by
      rw [hrr]
      have := (List.getElem?_eq_some_iff.1 hm).1
      exact decide_eq_false (by omega))
     clear hrr hli hsum hE2
     go_wp2_with fail
     try rw [Exit.noGoto_ret]
     go_ret2
     exact ⟨by rw [HR.out]; rfl, HLW.out⟩
   | some k =>
    obtain ⟨x, rn, pl, hE1⟩ := HNA.out i k hk
    have hb1 := hE1.bound
    rw [hk, hd_some hE1.hx] at y0 y1
    have q1 : hEq (x.sl : Int) (x.gn : Int) 0 0 = false := hEq_false (.inl (by omega))
    cases hm : Lb[i]? with
    | none =>
     rw [hm, hd_none] at z0 z1
     have HR : Hid (rr = false) := Lib.hid (by
      have h2 := List.getElem?_eq_none_iff.1 hm
      have h3 := hw.out.1.2
      rw [HENDS.out i hw.out.2.2 (.inr (by omega))]
      have := (List.getElem?_eq_some_iff.1 hk).1
      exact decide_eq_false (by omega))
     clear hsum hE1
     go_wp2_with fail
     try rw [Exit.noGoto_ret]
     go_ret2
     exact ⟨by rw [HR.out]; rfl, HLW.out⟩
    | some m =>
     obtain ⟨y, rn2, pl2, hE2⟩ := HNB.out i m hm
     have hb2 := hE2.bound
     rw [hm, hd_some hE2.hx] at z0 z1
     have q2 : hEq (y.sl : Int) (y.gn : Int) 0 0 = false := hEq_false (.inl (by omega))
     have HE1 := Lib.hid hE1
     have HE2 := Lib.hid hE2
     have HEI : Hid (EqI w1 X.F b9 b10 (some k) (some m) wr) := Lib.hid (by rw [← hk, ← hm]; exact hw.out.2.1)
     have HSI := Lib.hid hw.out.2.2
     have HM : Hid (gk - 1 < gk) := Lib.hid (by have := (List.getElem?_eq_some_iff.1 hk).1; omega)
     have HSM : Hid (i + 1 + (gk - 1) = La.length ∧ i + 1 ≤ Lb.length) := Lib.hid (by have := (List.getElem?_eq_some_iff.1 hk).1; have := (List.getElem?_eq_some_iff.1 hm).1; omega)
     have HND1 : Hid (∀ W, Below wr.heap.size wr W → Calls Tryd.prog 45 #[.pointer (some ⟨tb, 0, none⟩), .agg #[.int .u32 (x.sl : Int), .int .u32 (x.gn : Int)]] W fun e w' => ∃ M : Nd, e = .returned (.tuple #[.agg #[.int .i64 M.kind, .string M.name, .slice M.da M.data.length M.dc, .slice M.aa M.L.length M.ac, .int .u32 M.slot, .int .u32 M.gen], .int .i64 0]) ∧ (M.c = rn.2.1.c ∧ M.L.length ≤ 1099511627776 ∧ NdIn w' M) ∧ Below W.heap.size W w') := Lib.hid (fun W b => HE1.out.node W (HLW0.out.trans (b.mono HLW0.out.size)))
     have HND2 : Hid (∀ W, Below wr.heap.size wr W → Calls Tryd.prog 45 #[.pointer (some ⟨tb, 0, none⟩), .agg #[.int .u32 (y.sl : Int), .int .u32 (y.gn : Int)]] W fun e w' => ∃ M : Nd, e = .returned (.tuple #[.agg #[.int .i64 M.kind, .string M.name, .slice M.da M.data.length M.dc, .slice M.aa M.L.length M.ac, .int .u32 M.slot, .int .u32 M.gen], .int .i64 0]) ∧ (M.c = rn2.2.1.c ∧ M.L.length ≤ 1099511627776 ∧ NdIn w' M) ∧ Below W.heap.size W w') := Lib.hid (fun W b => HE2.out.node W (HLW0.out.trans (b.mono HLW0.out.size)))
     have HLL := Lib.hid (And.intro hk hm)
     have HR0 : Hid (Below wr.heap.size wr wr) := Lib.hid (Below.refl _ _)
     have lz := lt_of_some HEI.out.x10
     clear hw hsum hE1 hE2 hk hm HENDS HNA HNB
     go_upto_region 8 with (first | (have hh := HB3; go_at_call 45; refine (HND2.out _ (HB3.out.1.alloc HB3.out.1.size _)).mono ?_; rintro e w4 ⟨N, rfl, hN, b4⟩; have HB4 := Lib.hid (And.intro ((HB3.out.1.alloc HB3.out.1.size _).trans (b4.mono (HB3.out.1.alloc HB3.out.1.size _).size)) (And.intro hN ((b4.block _ (lt_of_some (Go.heap_alloc_new w3 _))).trans (Go.heap_alloc_new w3 (.cells #[.int .i64 M.kind, .string M.name, .slice M.da M.data.length M.dc, .slice M.aa M.L.length M.ac, .int .u32 M.slot, .int .u32 M.gen] 66))))); have HM4 := Lib.hid (HB3.out.2.2.2.below (((Below.refl w3.heap.size w3).alloc (Nat.le_refl _) _).trans (b4.mono (by simp)))); clear b4 hh hN) | (go_at_call 45; refine (HND1.out _ HR0.out).mono ?_; rintro e w3 ⟨M, rfl, hM, b3⟩; have HB3 := Lib.hid (And.intro (HR0.out.trans (b3.mono HR0.out.size)) hM); have hx3 := (b3.block _ (lt_of_some HEI.out.x10)).trans HEI.out.x10; have k0 := cell_blk hx3 0 rfl; have k1 := cell_blk hx3 1 rfl; rw [hd_some HE2.out.hx] at k0 k1; have lk := lt_of_some hx3; clear b3 hM hx3))
     obtain ⟨lk, hlk⟩ : ∃ l, l = lkB R k m := ⟨_, rfl⟩
     have HDE : Hid (∀ W, Below (w4.alloc (.cells #[.int .i64 N.kind, .string N.name, .slice N.da N.data.length N.dc, .slice N.aa N.L.length N.ac, .int .u32 N.slot, .int .u32 N.gen] 66)).heap.size (w4.alloc (.cells #[.int .i64 N.kind, .string N.name, .slice N.da N.data.length N.dc, .slice N.aa N.L.length N.ac, .int .u32 N.slot, .int .u32 N.gen] 66)) W → Calls Tryd.prog 46 #[.agg #[.int .i64 M.kind, .string M.name, .slice M.da M.data.length M.dc, .slice M.aa M.L.length M.ac, .int .u32 M.slot, .int .u32 M.gen], .agg #[.int .i64 N.kind, .string N.name, .slice N.da N.data.length N.dc, .slice N.aa N.L.length N.ac, .int .u32 N.slot, .int .u32 N.gen]] W fun e w' => e = .returned (.bool lk) ∧ Below W.heap.size W w') := Lib.hid (fun W b => by
      have bb := ((Below.refl w4.heap.size w4).alloc (Nat.le_refl _) _).trans (b.mono (by simp))
      refine (equal_calls W M N (HM4.out.below bb) (HB4.out.2.1.2.2.below bb) HB3.out.2.2.1 HB4.out.2.1.2.1).mono ?_
      rintro e w' ⟨r, rfl, hr, b2⟩
      refine ⟨?_, b2⟩
      have h1 : (r = true) ↔ (lk = true) := by
       rw [hr, HB3.out.2.1, HB4.out.2.1.1, ← likeP_eqD HE1.out.good.2, hlk, lkB_iff HE1.out.hr HE2.out.hr]
      have : r = lk := by cases r <;> cases lk <;> simp_all
      rw [this])
     have HLK := Lib.hid hlk
     have HBW : Hid (Below wr.heap.size wr (w4.alloc (.cells #[.int .i64 N.kind, .string N.name, .slice N.da N.data.length N.dc, .slice N.aa N.L.length N.ac, .int .u32 N.slot, .int .u32 N.gen] 66)) ∧ (w4.alloc (.cells #[.int .i64 N.kind, .string N.name, .slice N.da N.data.length N.dc, .slice N.aa N.L.length N.ac, .int .u32 N.slot, .int .u32 N.gen] 66)).heap[w3.heap.size]? = some (.cells #[.int .i64 M.kind, .string M.name, .slice M.da M.data.length M.dc, .slice M.aa M.L.length M.ac, .int .u32 M.slot, .int .u32 M.gen] 66 (0, 0)) ∧ (w4.alloc (.cells #[.int .i64 N.kind, .string N.name, .slice N.da N.data.length N.dc, .slice N.aa N.L.length N.ac, .int .u32 N.slot, .int .u32 N.gen] 66)).heap[w4.heap.size]? = some (.cells #[.int .i64 N.kind, .string N.name, .slice N.da N.data.length N.dc, .slice N.aa N.L.length N.ac, .int .u32 N.slot, .int .u32 N.gen] 66 (0, 0))) := Lib.hid ⟨HB4.out.1.alloc HB4.out.1.size _, alloc_blk HB4.out.2.2 _, Go.heap_alloc_new w4 _⟩
     clear hlk k0 k1 n0 n1 y0 y1 z0 z1 HM4 lz
     generalize w4.alloc (.cells #[.int .i64 N.kind, .string N.name, .slice N.da N.data.length N.dc, .slice N.aa N.L.length N.ac, .int .u32 N.slot, .int .u32 N.gen] 66) = wz at HDE HBW ⊢
     clear HB3 HB4
     generalize M.data.length = dl1 at HDE HBW ⊢
     generalize M.L.length = al1 at HDE HBW ⊢
     generalize N.data.length = dl2 at HDE HBW ⊢
     generalize N.L.length = al2 at HDE HBW ⊢
     generalize w3.heap.size = b11 at HBW ⊢
     generalize w4.heap.size = b13 at HBW ⊢
     have HX9 : Hid (hd X.F (some k) = (x.sl, x.gn) ∧ hd X.F (some m) = (y.sl, y.gn)) := Lib.hid ⟨hd_some HE1.out.hx, hd_some HE2.out.hx⟩
     have HDP1 : Hid (∀ W, Below wz.heap.size wz W → Calls Tryd.prog 47 #[.pointer (some ⟨tb, 0, none⟩), .agg #[.int .u32 (x.sl : Int), .int .u32 (x.gn : Int)], .agg #[.int .u32 (sa : Int), .int .u32 (ga : Int)]] W fun e w' => e = .returned (.int .i64 (pl : Int)) ∧ Below W.heap.size W w') := Lib.hid (fun W b => HE1.out.depth W (HLW0.out.trans ((HBW.out.1.trans (b.mono HBW.out.1.size)).mono HLW0.out.size)))
     have HDP2 : Hid (∀ W, Below wz.heap.size wz W → Calls Tryd.prog 47 #[.pointer (some ⟨tb, 0, none⟩), .agg #[.int .u32 (y.sl : Int), .int .u32 (y.gn : Int)], .agg #[.int .u32 (sb : Int), .int .u32 (gb : Int)]] W fun e w' => e = .returned (.int .i64 (pl2 : Int)) ∧ Below W.heap.size W w') := Lib.hid (fun W b => HE2.out.depth W (HLW0.out.trans ((HBW.out.1.trans (b.mono HBW.out.1.size)).mono HLW0.out.size)))
     have HST1 : Hid (∀ W, Below wz.heap.size wz W → Calls Tryd.prog 48 #[.pointer (some ⟨tb, 0, none⟩), .agg #[.int .u32 (x.sl : Int), .int .u32 (x.gn : Int)], .agg #[.int .u32 (sa : Int), .int .u32 (ga : Int)]] W fun e w' => e = .returned (.agg #[.int .u32 ((hd X.F La[i + 1]?).1 : Int), .int .u32 ((hd X.F La[i + 1]?).2 : Int)]) ∧ Below W.heap.size W w') := Lib.hid (fun W b => HE1.out.step W (HLW0.out.trans ((HBW.out.1.trans (b.mono HBW.out.1.size)).mono HLW0.out.size)))
     have HST2 : Hid (∀ W, Below wz.heap.size wz W → Calls Tryd.prog 48 #[.pointer (some ⟨tb, 0, none⟩), .agg #[.int .u32 (y.sl : Int), .int .u32 (y.gn : Int)], .agg #[.int .u32 (sb : Int), .int .u32 (gb : Int)]] W fun e w' => e = .returned (.agg #[.int .u32 ((hd X.F Lb[i + 1]?).1 : Int), .int .u32 ((hd X.F Lb[i + 1]?).2 : Int)]) ∧ Below W.heap.size W w') := Lib.hid (fun W b => HE2.out.step W (HLW0.out.trans ((HBW.out.1.trans (b.mono HBW.out.1.size)).mono HLW0.out.size)))
     have HSD : Hid (Side X.F (lkB R) (dep X.F ka) (dep X.F kb) k m ↔ lk = true ∧ pl = pl2) := Lib.hid (by
      unfold Side
      rw [HE1.out.dep, HE2.out.dep, ← HLK.out]
      constructor
      ·rintro ⟨h1, h2⟩; exact ⟨h1, by omega⟩
      ·rintro ⟨h1, h2⟩; exact ⟨h1, by omega⟩)
     have HEZ : Hid (∀ W, Below wz.heap.size wz W → EqI w1 X.F b9 b10 (some k) (some m) W) := Lib.hid (fun W b => HEI.out.below (HBW.out.1.trans (b.mono HBW.out.1.size)))
     have HSZ : Hid (∀ W, Below wz.heap.size wz W → (W.cell? ⟨b9, 0, none⟩ = some (.int .u32 (x.sl : Int)) ∧ W.cell? ⟨b9, 1, none⟩ = some (.int .u32 (x.gn : Int)) ∧ W.cell? ⟨b10, 0, none⟩ = some (.int .u32 (y.sl : Int)) ∧ W.cell? ⟨b10, 1, none⟩ = some (.int .u32 (y.gn : Int))) ∧ (W.cell? ⟨n4, 0, none⟩ = some (.int .u32 (sa : Int)) ∧ W.cell? ⟨n4, 1, none⟩ = some (.int .u32 (ga : Int)) ∧ W.cell? ⟨n4 + 1, 0, none⟩ = some (.int .u32 (sb : Int)) ∧ W.cell? ⟨n4 + 1, 1, none⟩ = some (.int .u32 (gb : Int)))) := Lib.hid (fun W b => by
      have hE := HEZ.out W b
      have e0 := cell_blk hE.x9 0 rfl
      have e1 := cell_blk hE.x9 1 rfl
      have e2 := cell_blk hE.x10 0 rfl
      have e3 := cell_blk hE.x10 1 rfl
      rw [HX9.out.1] at e0 e1
      rw [HX9.out.2] at e2 e3
      exact ⟨⟨e0, e1, e2, e3⟩, HS4.out W hE.low⟩)
     have HS8 : Hid (∀ W, Below wz.heap.size wz W → W.cell? ⟨b11, 0, none⟩ = some (.int .i64 M.kind) ∧ W.cell? ⟨b11, 1, none⟩ = some (.string M.name) ∧ W.cell? ⟨b11, 2, none⟩ = some (.slice M.da dl1 M.dc) ∧ W.cell? ⟨b11, 3, none⟩ = some (.slice M.aa al1 M.ac) ∧ W.cell? ⟨b11, 4, none⟩ = some (.int .u32 M.slot) ∧ W.cell? ⟨b11, 5, none⟩ = some (.int .u32 M.gen) ∧ W.cell? ⟨b13, 0, none⟩ = some (.int .i64 N.kind) ∧ W.cell? ⟨b13, 1, none⟩ = some (.string N.name) ∧ W.cell? ⟨b13, 2, none⟩ = some (.slice N.da dl2 N.dc) ∧ W.cell? ⟨b13, 3, none⟩ = some (.slice N.aa al2 N.ac) ∧ W.cell? ⟨b13, 4, none⟩ = some (.int .u32 N.slot) ∧ W.cell? ⟨b13, 5, none⟩ = some (.int .u32 N.gen) ∧ W.cell? ⟨b9, 0, none⟩ = some (.int .u32 (x.sl : Int)) ∧ W.cell? ⟨b9, 1, none⟩ = some (.int .u32 (x.gn : Int)) ∧ W.cell? ⟨b10, 0, none⟩ = some (.int .u32 (y.sl : Int)) ∧ W.cell? ⟨b10, 1, none⟩ = some (.int .u32 (y.gn : Int)) ∧ W.cell? ⟨n4, 0, none⟩ = some (.int .u32 (sa : Int)) ∧ W.cell? ⟨n4, 1, none⟩ = some (.int .u32 (ga : Int)) ∧ W.cell? ⟨n4 + 1, 0, none⟩ = some (.int .u32 (sb : Int)) ∧ W.cell? ⟨n4 + 1, 1, none⟩ = some (.int .u32 (gb : Int))) := Lib.hid (fun W b => by
      have h1 := (b.block _ (lt_of_some HBW.out.2.1)).trans HBW.out.2.1
      have h2 := (b.block _ (lt_of_some HBW.out.2.2)).trans HBW.out.2.2
      obtain ⟨⟨e0, e1, e2, e3⟩, e4, e5, e6, e7⟩ := HSZ.out W b
      exact ⟨cell_blk h1 0 rfl, cell_blk h1 1 rfl, cell_blk h1 2 rfl, cell_blk h1 3 rfl, cell_blk h1 4 rfl, cell_blk h1 5 rfl, cell_blk h2 0 rfl, cell_blk h2 1 rfl, cell_blk h2 2 rfl, cell_blk h2 3 rfl, cell_blk h2 4 rfl, cell_blk h2 5 rfl, e0, e1, e2, e3, e4, e5, e6, e7⟩)
     have HD8 : Hid (Below wz.heap.size wz wz.drew) := Lib.hid (Below.refl _ _).drew
     clear HND1 HND2 HE1 HE2 HEI HX9 HLK hb1 hb2
     cases lk with
     | false =>
      have HR : Hid (rr = false) := Lib.hid (HFAIL.out i k m HLL.out.1 HLL.out.2 (fun hs => by have := (HSD.out.1 hs).1; cases this))
      go_cut [59] from 71 (fun v59 wc => v59 = .bool true ∧ Hid (Below wz.heap.size wz wc))
      case first =>
       refine wp_region_noPanic ?_
       refine wp_region_until_drew (S := (fun W => W.cell? ⟨b11, 0, none⟩ = some (.int .i64 M.kind) ∧ W.cell? ⟨b11, 1, none⟩ = some (.string M.name) ∧ W.cell? ⟨b11, 2, none⟩ = some (.slice M.da dl1 M.dc) ∧ W.cell? ⟨b11, 3, none⟩ = some (.slice M.aa al1 M.ac) ∧ W.cell? ⟨b11, 4, none⟩ = some (.int .u32 M.slot) ∧ W.cell? ⟨b11, 5, none⟩ = some (.int .u32 M.gen) ∧ W.cell? ⟨b13, 0, none⟩ = some (.int .i64 N.kind) ∧ W.cell? ⟨b13, 1, none⟩ = some (.string N.name) ∧ W.cell? ⟨b13, 2, none⟩ = some (.slice N.da dl2 N.dc) ∧ W.cell? ⟨b13, 3, none⟩ = some (.slice N.aa al2 N.ac) ∧ W.cell? ⟨b13, 4, none⟩ = some (.int .u32 N.slot) ∧ W.cell? ⟨b13, 5, none⟩ = some (.int .u32 N.gen) ∧ W.cell? ⟨b9, 0, none⟩ = some (.int .u32 (x.sl : Int)) ∧ W.cell? ⟨b9, 1, none⟩ = some (.int .u32 (x.gn : Int)) ∧ W.cell? ⟨b10, 0, none⟩ = some (.int .u32 (y.sl : Int)) ∧ W.cell? ⟨b10, 1, none⟩ = some (.int .u32 (y.gn : Int)) ∧ W.cell? ⟨n4, 0, none⟩ = some (.int .u32 (sa : Int)) ∧ W.cell? ⟨n4, 1, none⟩ = some (.int .u32 (ga : Int)) ∧ W.cell? ⟨n4 + 1, 0, none⟩ = some (.int .u32 (sb : Int)) ∧ W.cell? ⟨n4 + 1, 1, none⟩ = some (.int .u32 (gb : Int)))) (k := 14) (by kernel_rfl) ?_
       refine wpAnyU_take (i := 0) (v := ?_) [2, 3, 4, 14] rfl (by kernel_rfl) (by kernel_rfl) (by kernel_rfl) (by kernel_rfl) (by kernel_rfl) (by kernel_rfl) (by kernel_rfl) (fun _ _ _ h => h) (Or.inl ⟨by kernel_rfl, ?_⟩) (HS8.out _ HD8.out) ?_
       rotate_left
       ·intro w hSw; (try dsimp only at hSw); go_simp; try with_reducible rfl
       refine wpAnyU_take (i := 1) (v := ?_) [2, 3, 4, 14] rfl (by kernel_rfl) (by kernel_rfl) (by kernel_rfl) (by kernel_rfl) (by kernel_rfl) (by kernel_rfl) (by kernel_rfl) (fun _ _ _ h => h) (Or.inl ⟨by kernel_rfl, ?_⟩) (HS8.out _ HD8.out) ?_
       rotate_left
       ·intro w hSw; (try dsimp only at hSw); go_simp; try with_reducible rfl
       refine wpAnyU_one (i := 2) (by kernel_rfl) rfl (fun K' hK => ?_)
       go_simp
       go_at_call 46
       refine (HDE.out _ HD8.out).mono ?_
       rintro e w5 ⟨rfl, b5⟩
       have HB5 := Lib.hid (HD8.out.trans (b5.mono HD8.out.size))
       refine hK.out _ _ (fun _ _ => HS8.out _ HB5.out) ?_
       clear hK K' b5
       refine wpAnyU_one (i := 3) (by kernel_rfl) rfl (fun K' hK => ?_)
       go_simp
       refine hK.out _ _ (fun _ _ => HS8.out _ HB5.out) ?_
       clear hK K'
       refine wpAnyU_one (i := 4) (by kernel_rfl) rfl (fun K' hK => ?_)
       go_simp
       refine hK.out _ _ (fun _ _ => HS8.out _ HB5.out) ?_
       clear hK K'
       refine wpAnyU_take (i := 5) [8, 12, 13, 14] rfl (by kernel_rfl) (by kernel_rfl) (by kernel_rfl) (by kernel_rfl) (by kernel_rfl) (by kernel_rfl) (by kernel_rfl) (fun _ _ _ h => h) (Or.inr ⟨by kernel_rfl, rfl⟩) (HS8.out _ HB5.out) ?_
       refine wpAnyU_take (i := 6) [8, 12, 13, 14] rfl (by kernel_rfl) (by kernel_rfl) (by kernel_rfl) (by kernel_rfl) (by kernel_rfl) (by kernel_rfl) (by kernel_rfl) (fun _ _ _ h => h) (Or.inr ⟨by kernel_rfl, rfl⟩) (HS8.out _ HB5.out) ?_
       refine wpAnyU_take (i := 7) [8, 12, 13, 14] rfl (by kernel_rfl) (by kernel_rfl) (by kernel_rfl) (by kernel_rfl) (by kernel_rfl) (by kernel_rfl) (by kernel_rfl) (fun _ _ _ h => h) (Or.inr ⟨by kernel_rfl, rfl⟩) (HS8.out _ HB5.out) ?_
       refine wpAnyU_take (i := 9) [12, 13, 14] rfl (by kernel_rfl) (by kernel_rfl) (by kernel_rfl) (by kernel_rfl) (by kernel_rfl) (by kernel_rfl) (by kernel_rfl) (fun _ _ _ h => h) (Or.inr ⟨by kernel_rfl, rfl⟩) (HS8.out _ HB5.out) ?_
       refine wpAnyU_take (i := 10) [12, 13, 14] rfl (by kernel_rfl) (by kernel_rfl) (by kernel_rfl) (by kernel_rfl) (by kernel_rfl) (by kernel_rfl) (by kernel_rfl) (fun _ _ _ h => h) (Or.inr ⟨by kernel_rfl, rfl⟩) (HS8.out _ HB5.out) ?_
       refine wpAnyU_take (i := 11) [12, 13, 14] rfl (by kernel_rfl) (by kernel_rfl) (by kernel_rfl) (by kernel_rfl) (by kernel_rfl) (by kernel_rfl) (by kernel_rfl) (fun _ _ _ h => h) (Or.inr ⟨by kernel_rfl, rfl⟩) (HS8.out _ HB5.out) ?_
       refine wpAnyU_one (i := 8) (by kernel_rfl) rfl (fun K' hK => ?_)
       rw [if_neg (show ¬ Region.wanted _ _ = true from fun e => absurd (e.symm.trans (show _ = false by kernel_rfl)) (by decide))]
       refine hK.out _ _ (fun _ _ => HS8.out _ HB5.out) ?_
       clear hK K'
       refine wpAnyU_one (i := 12) (by kernel_rfl) rfl (fun K' hK => ?_)
       rw [if_neg (show ¬ Region.wanted _ _ = true from fun e => absurd (e.symm.trans (show _ = false by kernel_rfl)) (by decide))]
       refine hK.out _ _ (fun _ _ => HS8.out _ HB5.out) ?_
       clear hK K'
       refine wpAnyU_one (i := 13) (by kernel_rfl) rfl (fun K' hK => ?_)
       rw [if_neg (show ¬ Region.wanted _ _ = true from fun e => absurd (e.symm.trans (show _ = false by kernel_rfl)) (by decide))]
       refine hK.out _ _ (fun _ _ => HS8.out _ HB5.out) ?_
       clear hK K'
       refine wpAnyU_one (i := 14) (by kernel_rfl) rfl (fun K' hK => ?_)
       go_simp
       refine hK.out _ _ (fun _ h => absurd rfl h) ?_
       clear hK K'
       refine wpAnyU_done (by kernel_rfl) ?_ _
       refine NoPanic.normal ?_
       go_wp2_with fail
       go_meet
       exact ⟨rfl, HB5⟩
      case rest =>
       obtain ⟨rfl, hwy⟩ := hcut
       have HLE : Hid (Below n4 w wc ∧ Below w.heap.size w wc) := Lib.hid ⟨HLW.out.trans ((HBW.out.1.trans (hwy.out.mono HBW.out.1.size)).mono (by have := HLW.out.size; omega)), HLW0.out.trans ((HBW.out.1.trans (hwy.out.mono HBW.out.1.size)).mono HLW0.out.size)⟩
       go_wp2_with fail
       try rw [Exit.noGoto_ret]
       go_ret2
       exact ⟨by rw [HR.out]; rfl, by first | exact HLE.out.2 | exact HLE.out.1⟩
     | true =>
      by_cases hpl : pl = pl2
      ·subst hpl
       have q5 : ((pl : Int) == (pl : Int)) = true := by simp
       have HSK : Hid (Side X.F (lkB R) (dep X.F ka) (dep X.F kb) k m) := Lib.hid (HSD.out.2 ⟨rfl, rfl⟩)
       go_cut [59] from 71 (fun v59 wc => v59 = .bool false ∧ Hid (Below wz.heap.size wz wc))
       case first =>
        go_region_held3 (fun W => W.cell? ⟨b11, 0, none⟩ = some (.int .i64 M.kind) ∧ W.cell? ⟨b11, 1, none⟩ = some (.string M.name) ∧ W.cell? ⟨b11, 2, none⟩ = some (.slice M.da dl1 M.dc) ∧ W.cell? ⟨b11, 3, none⟩ = some (.slice M.aa al1 M.ac) ∧ W.cell? ⟨b11, 4, none⟩ = some (.int .u32 M.slot) ∧ W.cell? ⟨b11, 5, none⟩ = some (.int .u32 M.gen) ∧ W.cell? ⟨b13, 0, none⟩ = some (.int .i64 N.kind) ∧ W.cell? ⟨b13, 1, none⟩ = some (.string N.name) ∧ W.cell? ⟨b13, 2, none⟩ = some (.slice N.da dl2 N.dc) ∧ W.cell? ⟨b13, 3, none⟩ = some (.slice N.aa al2 N.ac) ∧ W.cell? ⟨b13, 4, none⟩ = some (.int .u32 N.slot) ∧ W.cell? ⟨b13, 5, none⟩ = some (.int .u32 N.gen) ∧ W.cell? ⟨b9, 0, none⟩ = some (.int .u32 (x.sl : Int)) ∧ W.cell? ⟨b9, 1, none⟩ = some (.int .u32 (x.gn : Int)) ∧ W.cell? ⟨b10, 0, none⟩ = some (.int .u32 (y.sl : Int)) ∧ W.cell? ⟨b10, 1, none⟩ = some (.int .u32 (y.gn : Int)) ∧ W.cell? ⟨n4, 0, none⟩ = some (.int .u32 (sa : Int)) ∧ W.cell? ⟨n4, 1, none⟩ = some (.int .u32 (ga : Int)) ∧ W.cell? ⟨n4 + 1, 0, none⟩ = some (.int .u32 (sb : Int)) ∧ W.cell? ⟨n4 + 1, 1, none⟩ = some (.int .u32 (gb : Int))) (first | exact HS8.out _ HB7.out | exact HS8.out _ HB6.out | exact HS8.out _ HB5.out | exact HS8.out _ HD8.out) (first | (have hh := HB6; go_at_call 47; refine (HDP2.out _ HB6.out).mono ?_; rintro e w7 ⟨rfl, b7⟩; have HB7 := Lib.hid (HB6.out.trans (b7.mono HB6.out.size)); clear b7 hh) | (have hh := HB5; go_at_call 47; refine (HDP1.out _ HB5.out).mono ?_; rintro e w6 ⟨rfl, b6⟩; have HB6 := Lib.hid (HB5.out.trans (b6.mono HB5.out.size)); clear b6 hh) | (go_at_call 46; refine (HDE.out _ HD8.out).mono ?_; rintro e w5 ⟨rfl, b5⟩; have HB5 := Lib.hid (HD8.out.trans (b5.mono HD8.out.size)); clear b5))
        all_goals go_wp2_with fail
        all_goals go_meet
        all_goals first | exact ⟨rfl, HB7⟩ | exact ⟨rfl, HB5⟩
       case rest =>
        obtain ⟨rfl, hwy⟩ := hcut
        generalize wc = wy at *
        have HS10 : Hid (∀ W, Below wy.heap.size wy W → W.cell? ⟨b9, 0, none⟩ = some (.int .u32 (x.sl : Int)) ∧ W.cell? ⟨b9, 1, none⟩ = some (.int .u32 (x.gn : Int)) ∧ W.cell? ⟨b10, 0, none⟩ = some (.int .u32 (y.sl : Int)) ∧ W.cell? ⟨b10, 1, none⟩ = some (.int .u32 (y.gn : Int)) ∧ W.cell? ⟨n4, 0, none⟩ = some (.int .u32 (sa : Int)) ∧ W.cell? ⟨n4, 1, none⟩ = some (.int .u32 (ga : Int)) ∧ W.cell? ⟨n4 + 1, 0, none⟩ = some (.int .u32 (sb : Int)) ∧ W.cell? ⟨n4 + 1, 1, none⟩ = some (.int .u32 (gb : Int))) := Lib.hid (fun W b => by
         obtain ⟨⟨e0, e1, e2, e3⟩, e4, e5, e6, e7⟩ := HSZ.out W (hwy.out.trans (b.mono hwy.out.size))
         exact ⟨e0, e1, e2, e3, e4, e5, e6, e7⟩)
        have HT1 : Hid (∀ W, Below wy.heap.size wy W → Calls Tryd.prog 48 #[.pointer (some ⟨tb, 0, none⟩), .agg #[.int .u32 (x.sl : Int), .int .u32 (x.gn : Int)], .agg #[.int .u32 (sa : Int), .int .u32 (ga : Int)]] W fun e w' => e = .returned (.agg #[.int .u32 ((hd X.F La[i + 1]?).1 : Int), .int .u32 ((hd X.F La[i + 1]?).2 : Int)]) ∧ Below W.heap.size W w') := Lib.hid (fun W b => HST1.out W (hwy.out.trans (b.mono hwy.out.size)))
        have HT2 : Hid (∀ W, Below wy.heap.size wy W → Calls Tryd.prog 48 #[.pointer (some ⟨tb, 0, none⟩), .agg #[.int .u32 (y.sl : Int), .int .u32 (y.gn : Int)], .agg #[.int .u32 (sb : Int), .int .u32 (gb : Int)]] W fun e w' => e = .returned (.agg #[.int .u32 ((hd X.F Lb[i + 1]?).1 : Int), .int .u32 ((hd X.F Lb[i + 1]?).2 : Int)]) ∧ Below W.heap.size W w') := Lib.hid (fun W b => HST2.out W (hwy.out.trans (b.mono hwy.out.size)))
        have HDY : Hid (Below wy.heap.size wy wy.drew) := Lib.hid (Below.refl _ _).drew
        have hS10 := HS10.out _ HDY.out
        clear HDE HDP1 HDP2 HST1 HST2 HS8 HSZ HSD HFAIL HBW HD8
        go_upto_region 10 with fail
        refine wp_region_noPanic ?_
        refine wp_region_until_drew (S := (fun W => W.cell? ⟨b9, 0, none⟩ = some (.int .u32 (x.sl : Int)) ∧ W.cell? ⟨b9, 1, none⟩ = some (.int .u32 (x.gn : Int)) ∧ W.cell? ⟨b10, 0, none⟩ = some (.int .u32 (y.sl : Int)) ∧ W.cell? ⟨b10, 1, none⟩ = some (.int .u32 (y.gn : Int)) ∧ W.cell? ⟨n4, 0, none⟩ = some (.int .u32 (sa : Int)) ∧ W.cell? ⟨n4, 1, none⟩ = some (.int .u32 (ga : Int)) ∧ W.cell? ⟨n4 + 1, 0, none⟩ = some (.int .u32 (sb : Int)) ∧ W.cell? ⟨n4 + 1, 1, none⟩ = some (.int .u32 (gb : Int)))) (k := 8) (by kernel_rfl) ?_
        refine wpAnyU_take (i := 0) (v := ?_) [3, 7, 8, 9] rfl (by kernel_rfl) (by kernel_rfl) (by kernel_rfl) (by kernel_rfl) (by kernel_rfl) (by kernel_rfl) (by kernel_rfl) (fun _ _ _ h => h) (Or.inl ⟨by kernel_rfl, ?_⟩) hS10 ?_
        rotate_left
        ·intro w hSw; (try dsimp only at hSw); go_simp; try with_reducible rfl
        refine wpAnyU_take (i := 1) (v := ?_) [3, 7, 8, 9] rfl (by kernel_rfl) (by kernel_rfl) (by kernel_rfl) (by kernel_rfl) (by kernel_rfl) (by kernel_rfl) (by kernel_rfl) (fun _ _ _ h => h) (Or.inl ⟨by kernel_rfl, ?_⟩) hS10 ?_
        rotate_left
        ·intro w hSw; (try dsimp only at hSw); go_simp; try with_reducible rfl
        refine wpAnyU_take (i := 2) (v := ?_) [3, 7, 8, 9] rfl (by kernel_rfl) (by kernel_rfl) (by kernel_rfl) (by kernel_rfl) (by kernel_rfl) (by kernel_rfl) (by kernel_rfl) (fun _ _ _ h => h) (Or.inl ⟨by kernel_rfl, ?_⟩) hS10 ?_
        rotate_left
        ·intro w hSw; (try dsimp only at hSw); go_simp; try with_reducible rfl
        refine wpAnyU_take (i := 4) (v := ?_) [7, 8, 9] rfl (by kernel_rfl) (by kernel_rfl) (by kernel_rfl) (by kernel_rfl) (by kernel_rfl) (by kernel_rfl) (by kernel_rfl) (fun _ _ _ h => h) (Or.inl ⟨by kernel_rfl, ?_⟩) hS10 ?_
        rotate_left
        ·intro w hSw; (try dsimp only at hSw); go_simp; try with_reducible rfl
        refine wpAnyU_take (i := 5) (v := ?_) [7, 8, 9] rfl (by kernel_rfl) (by kernel_rfl) (by kernel_rfl) (by kernel_rfl) (by kernel_rfl) (by kernel_rfl) (by kernel_rfl) (fun _ _ _ h => h) (Or.inl ⟨by kernel_rfl, ?_⟩) hS10 ?_
        rotate_left
        ·intro w hSw; (try dsimp only at hSw); go_simp; try with_reducible rfl
        refine wpAnyU_take (i := 6) (v := ?_) [7, 8, 9] rfl (by kernel_rfl) (by kernel_rfl) (by kernel_rfl) (by kernel_rfl) (by kernel_rfl) (by kernel_rfl) (by kernel_rfl) (fun _ _ _ h => h) (Or.inl ⟨by kernel_rfl, ?_⟩) hS10 ?_
        rotate_left
        ·intro w hSw; (try dsimp only at hSw); go_simp; try with_reducible rfl
        refine wpAnyU_one (i := 3) (by kernel_rfl) rfl (fun K' hK => ?_)
        go_simp
        go_at_call 48
        refine (HT1.out _ HDY.out).mono ?_
        rintro e w8 ⟨rfl, b8⟩
        have HB8 := Lib.hid (HDY.out.trans (b8.mono HDY.out.size))
        refine hK.out _ _ (fun _ _ => (HS10.out _ HB8.out)) ?_
        clear hK K' b8
        refine wpAnyU_one (i := 7) (by kernel_rfl) rfl (fun K' hK => ?_)
        go_simp
        go_at_call 48
        refine (HT2.out _ HB8.out).mono ?_
        rintro e w9 ⟨rfl, b9x⟩
        have HB9 := Lib.hid (HB8.out.trans (b9x.mono HB8.out.size))
        refine hK.out _ _ (fun _ _ => (HS10.out _ HB9.out)) ?_
        clear hK K' b9x
        have hE9 := HEZ.out _ (hwy.out.trans (HB9.out.mono hwy.out.size))
        have HE9 := Lib.hid hE9
        have f0 := free_blk hE9.x9 0
        have f1 := free_blk hE9.x9 1
        have f2 := free_blk hE9.x10 0
        have f3 := free_blk hE9.x10 1
        obtain ⟨e0, e1, e2, e3, _⟩ := HS10.out _ HB9.out
        have l9 := lt_of_some hE9.x9
        have l10 := lt_of_some hE9.x10
        have hne := hE9.ne
        have hne2 := Ne.symm hE9.ne
        clear hE9 hS10
        refine wpAnyU_one (i := 8) (by kernel_rfl) rfl (fun K' hK => ?_)
        go_simp
        refine hK.out _ _ (fun _ h => absurd rfl h) ?_
        clear hK K'
        refine wpAnyU_one (i := 9) (by kernel_rfl) rfl (fun K' hK => ?_)
        go_simp
        refine hK.out _ _ (fun h _ => absurd (h.symm.trans (by kernel_rfl) : false = true) (by decide)) ?_
        clear hK K'
        refine wpAnyU_done (by kernel_rfl) ?_ _
        refine NoPanic.normal ?_
        go_wp2_with fail
        go_roundg (gk - 1)
        case measure => exact HM.out
        case rel => exact ⟨i + 1, trivial, Lib.hid ⟨HSM.out, HE9.out.put _ _, fun j x' y' hj h1 h2 => by
         by_cases e : j = i
         ·subst e
          rw [HLL.out.1] at h1
          rw [HLL.out.2] at h2
          cases h1
          cases h2
          exact HSK.out
         ·exact HSI.out j x' y' (by omega) h1 h2⟩⟩
      ·have q5 : ((pl : Int) == (pl2 : Int)) = false := by simp; omega
       have q6 : ((pl : Int) != (pl2 : Int)) = true := by simp; omega
       have HR : Hid (rr = false) := Lib.hid (HFAIL.out i k m HLL.out.1 HLL.out.2 (fun hs => hpl (HSD.out.1 hs).2))
       go_cut [59] from 71 (fun v59 wc => v59 = .bool true ∧ Hid (Below wz.heap.size wz wc))
       case first =>
        go_region_held3 (fun W => W.cell? ⟨b11, 0, none⟩ = some (.int .i64 M.kind) ∧ W.cell? ⟨b11, 1, none⟩ = some (.string M.name) ∧ W.cell? ⟨b11, 2, none⟩ = some (.slice M.da dl1 M.dc) ∧ W.cell? ⟨b11, 3, none⟩ = some (.slice M.aa al1 M.ac) ∧ W.cell? ⟨b11, 4, none⟩ = some (.int .u32 M.slot) ∧ W.cell? ⟨b11, 5, none⟩ = some (.int .u32 M.gen) ∧ W.cell? ⟨b13, 0, none⟩ = some (.int .i64 N.kind) ∧ W.cell? ⟨b13, 1, none⟩ = some (.string N.name) ∧ W.cell? ⟨b13, 2, none⟩ = some (.slice N.da dl2 N.dc) ∧ W.cell? ⟨b13, 3, none⟩ = some (.slice N.aa al2 N.ac) ∧ W.cell? ⟨b13, 4, none⟩ = some (.int .u32 N.slot) ∧ W.cell? ⟨b13, 5, none⟩ = some (.int .u32 N.gen) ∧ W.cell? ⟨b9, 0, none⟩ = some (.int .u32 (x.sl : Int)) ∧ W.cell? ⟨b9, 1, none⟩ = some (.int .u32 (x.gn : Int)) ∧ W.cell? ⟨b10, 0, none⟩ = some (.int .u32 (y.sl : Int)) ∧ W.cell? ⟨b10, 1, none⟩ = some (.int .u32 (y.gn : Int)) ∧ W.cell? ⟨n4, 0, none⟩ = some (.int .u32 (sa : Int)) ∧ W.cell? ⟨n4, 1, none⟩ = some (.int .u32 (ga : Int)) ∧ W.cell? ⟨n4 + 1, 0, none⟩ = some (.int .u32 (sb : Int)) ∧ W.cell? ⟨n4 + 1, 1, none⟩ = some (.int .u32 (gb : Int))) (first | exact HS8.out _ HB7.out | exact HS8.out _ HB6.out | exact HS8.out _ HB5.out | exact HS8.out _ HD8.out) (first | (have hh := HB6; go_at_call 47; refine (HDP2.out _ HB6.out).mono ?_; rintro e w7 ⟨rfl, b7⟩; have HB7 := Lib.hid (HB6.out.trans (b7.mono HB6.out.size)); clear b7 hh) | (have hh := HB5; go_at_call 47; refine (HDP1.out _ HB5.out).mono ?_; rintro e w6 ⟨rfl, b6⟩; have HB6 := Lib.hid (HB5.out.trans (b6.mono HB5.out.size)); clear b6 hh) | (go_at_call 46; refine (HDE.out _ HD8.out).mono ?_; rintro e w5 ⟨rfl, b5⟩; have HB5 := Lib.hid (HD8.out.trans (b5.mono HD8.out.size)); clear b5))
        all_goals go_wp2_with fail
        all_goals go_meet
        all_goals first | exact ⟨rfl, HB7⟩ | exact ⟨rfl, HB5⟩
       case rest =>
        obtain ⟨rfl, hwy⟩ := hcut
        have HLE : Hid (Below n4 w wc ∧ Below w.heap.size w wc) := Lib.hid ⟨HLW.out.trans ((HBW.out.1.trans (hwy.out.mono HBW.out.1.size)).mono (by have := HLW.out.size; omega)), HLW0.out.trans ((HBW.out.1.trans (hwy.out.mono HBW.out.1.size)).mono HLW0.out.size)⟩
        go_wp2_with fail
        try rw [Exit.noGoto_ret]
        go_ret2
        exact ⟨by rw [HR.out]; rfl, by first | exact HLE.out.2 | exact HLE.out.1⟩
end
end Go.Proofs.YtelhnaphkbpakaaDoor
