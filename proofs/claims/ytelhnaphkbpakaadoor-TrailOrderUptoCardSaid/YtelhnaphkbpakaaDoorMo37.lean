/- The law's TrailOrder walked: a script, and the number of a node. -/
import Derived.Deep.RegionHeld3
import Derived.Test.YtelhnaphkbpakaaDoorMo36
namespace Go.Proofs.YtelhnaphkbpakaaDoor
open Go.RowKit Go.Shelf
attribute [local go_sem] Oper.semAt_some
set_option linter.unusedVariables false
set_option maxRecDepth 100000

theorem MksIn.below {w W : World} {a : Option Addr} {L : List MkV} (h : MksIn w a L) (b : Below w.heap.size w W) : MksIn W a L :=
  ⟨fun i x hx => by
    obtain ⟨k, off, e, hc⟩ := h.at_ i x hx
    exact ⟨k, off, e, fun j v hv => (b.cell (p := ⟨k, off + i * 6 + j, none⟩) (cell_lt (hc j v hv))).trans (hc j v hv)⟩,
   fun x hx => ⟨(h.ok x hx).1, (h.ok x hx).2.1.keep (fun k o hk => (b.block k (lt_of_some hk)).trans hk), (h.ok x hx).2.2⟩⟩
set_option maxHeartbeats 16000000 in
theorem trailOrder_in {w : World} (hz : NoneAt w) {a : Option Addr} {L : List MkV} {cap : Nat} (hL : MksIn w a L) (hlen : L.length ≤ 1099511627776) (hnode : ∀ x ∈ L, 1 ≤ x.m.kind → x.m.kind ≤ 5 → NodeC x) {wh : Int} (hwh : -9223372036854775808 ≤ wh ∧ wh ≤ 9223372036854775807) :
    CallsIn Fence.wide 12 Tryd.prog 6 #[.slice a L.length cap, .int .i64 wh] w fun e w' => e = .returned (.bool true) ∧ Below w.heap.size w w' := by
  have HZ := Lib.hid hz
  have HW8 := Lib.hid hwh
  have HAW := Lib.hid (awake8_true w hz)
  have HGR : Hid (∀ W, Below w.heap.size w W → Calls Tryd.prog 9 #[.slice a L.length cap] W fun e w' => ∃ tb fb, e = .returned (.tuple #[.pointer (some ⟨tb, 0, none⟩), .pointer (some ⟨fb, 0, none⟩), .bool true]) ∧ GrPost W L tb fb w') := Lib.hid (fun W b => grown_calls (hL.below b) hlen hnode)
  clear hz hL hnode hwh
  obtain ⟨ln, hln⟩ : ∃ n, n = L.length := ⟨_, rfl⟩
  rw [← hln] at HGR ⊢
  clear hln hlen
  refine callsIn_of_wp_marks Tryd.func6 rfl trivial ?_ rfl
  simp only [Tryd.ntmps6, List.size_toArray, List.length_cons, List.length_nil, Nat.reduceAdd, Nat.reduceSub, Array.replicate_succ, Array.replicate_zero, List.push_toArray, List.append_toArray, List.nil_append, List.cons_append]
  refine wpIn_wide.2 ?_
  go_upto_if 52 with (first | (go_at_call 8; refine HAW.out.mono ?_; rintro e w1 ⟨rfl, b1⟩; have HB1 := Lib.hid b1; clear b1) | (go_at_call 9; refine (HGR.out _ HB1.out).mono ?_; rintro e w2 ⟨tb, fb, rfl, Q, X, R, rv, i, hB, _, _, hlow⟩; have HB := Lib.hid hB; have HB2 := Lib.hid (HB1.out.trans (hlow.mono HB1.out.size)); obtain ⟨ra, rcap, hrv⟩ := hB.f.shape; have b0 := hB.f.b0; rw [hrv] at b0; have HRV := Lib.hid hrv; obtain ⟨fl, hfl⟩ : ∃ n, n = X.F.length := ⟨_, rfl⟩; rw [← hfl] at b0; have HFL := Lib.hid hfl; clear hB hlow hrv hfl))
  by_cases hz0 : fl = 0
  · subst hz0
    go_wp2_with fail
    exact ⟨_, results_tmp rfl _ _ _, rfl, HB2.out⟩
  have hz1 : ((fl : Int) == 0) = false := by simp; omega
  have hz2 : ¬ ((fl : Int) = 0) := by omega
  have hlow2 := HB2.out
  have hfew := HB.out.few
  rw [← HFL.out] at hfew
  have HPK : Hid (∀ W, Calls Tryd.prog 30 #[.int .i64 wh, .int .i64 (fl : Int)] W fun e w' => e = .returned (.int .i64 ((pick8 wh fl : Nat) : Int)) ∧ Below W.heap.size W w') := Lib.hid (fun W => pick8_calls W wh fl HW8.out (by omega) (by omega))
  have hpl : pick8 wh fl < X.F.length := by rw [← HFL.out]; exact pick8_lt wh (by omega)
  obtain ⟨k, hk⟩ : ∃ k, k = pick8 wh fl := ⟨_, rfl⟩
  rw [← hk] at HPK hpl
  clear hk
  obtain ⟨x, hx⟩ : ∃ x, X.F[k]? = some x := ⟨_, List.getElem?_eq_getElem hpl⟩
  obtain ⟨g, gcap, P, dv, hrv, hR, c0, c1, c8, c9, c10⟩ := HB.out.f.get hx
  obtain ⟨rfl, rfl⟩ : ra = some ⟨g, 0, none⟩ ∧ rcap = gcap := by
    have := HRV.out.symm.trans hrv
    simp only [Value.slice.injEq] at this
    exact ⟨this.1, this.2.2⟩
  have hkl : k < fl := by rw [HFL.out]; exact hpl
  have HXK := Lib.hid hx
  clear hlow2 hpl hx hrv hR HRV c8 c9
  go_upto_if 68 with (go_at_call 30; refine (HPK.out _).mono ?_; rintro e w3 ⟨rfl, b3⟩; have b0' := (b3.cell (p := ⟨fb, 0, none⟩) (cell_lt b0)).trans b0; have d0 := (b3.cell (p := ⟨g, k * 11, none⟩) (cell_lt c0)).trans c0; have d1 := (b3.cell (p := ⟨g, k * 11 + 1, none⟩) (cell_lt c1)).trans c1; have d10 := (b3.cell (p := ⟨g, k * 11 + 10, none⟩) (cell_lt c10)).trans c10; have HB3 := Lib.hid (HB2.out.trans (b3.mono HB2.out.size)); have HBB := Lib.hid (HB.out.below b3); clear b3)
  cases hxl : x.live with
  | false =>
    rw [hxl] at d10
    go_wp2_with fail
    exact ⟨_, results_tmp rfl _ _ _, rfl, HB3.out⟩
  | true =>
    rw [hxl] at d10
    go_wp2_with (go_at_call 26; refine (downT_calls _ _ _ _).mono ?_; rintro e w4 ⟨rfl, rfl⟩)
    have hTB := HBB.out.t
    have hz3 := HZ.out.below HB3.out
    have hpl : k < X.F.length := (List.getElem?_eq_some_iff.1 HXK.out).1
    have hlen200 : (preD X.F k).length ≤ 200 := Nat.le_trans (preD_len hTB.fok hpl) HB.out.few
    have a0 := alloc_blk (alloc_blk (alloc_blk (Go.heap_alloc_new w3 (.cells #[.int .u32 (x.sl : Int), .int .u32 (x.gn : Int)] 31)) (.cells #[.slice none 0 0] 70)) (.cells #[.pointer (some ⟨tb, 0, none⟩)] 25)) (.cells #[.int .u32 (x.sl : Int), .int .u32 (x.gn : Int)] 31)
    have a1 := alloc_blk (alloc_blk (alloc2_blk w3 (.cells #[.int .u32 (x.sl : Int), .int .u32 (x.gn : Int)] 31) (.cells #[.slice none 0 0] 70)) (.cells #[.pointer (some ⟨tb, 0, none⟩)] 25)) (.cells #[.int .u32 (x.sl : Int), .int .u32 (x.gn : Int)] 31)
    have a2 := alloc_blk (alloc3_bt w3 (.cells #[.int .u32 (x.sl : Int), .int .u32 (x.gn : Int)] 31) (.cells #[.slice none 0 0] 70) (.cells #[.pointer (some ⟨tb, 0, none⟩)] 25)).2.2 (.cells #[.int .u32 (x.sl : Int), .int .u32 (x.gn : Int)] 31)
    have a3 := Go.heap_alloc_new (((w3.alloc (.cells #[.int .u32 (x.sl : Int), .int .u32 (x.gn : Int)] 31)).alloc (.cells #[.slice none 0 0] 70)).alloc (.cells #[.pointer (some ⟨tb, 0, none⟩)] 25)) (.cells #[.int .u32 (x.sl : Int), .int .u32 (x.gn : Int)] 31)
    rw [show (((w3.alloc (.cells #[.int .u32 (x.sl : Int), .int .u32 (x.gn : Int)] 31)).alloc (.cells #[.slice none 0 0] 70)).alloc (.cells #[.pointer (some ⟨tb, 0, none⟩)] 25)).heap.size = w3.heap.size + 1 + 1 + 1 by simp] at a3
    have hw0 : Below w3.heap.size w3 ((((w3.alloc (.cells #[.int .u32 (x.sl : Int), .int .u32 (x.gn : Int)] 31)).alloc (.cells #[.slice none 0 0] 70)).alloc (.cells #[.pointer (some ⟨tb, 0, none⟩)] 25)).alloc (.cells #[.int .u32 (x.sl : Int), .int .u32 (x.gn : Int)] 31)) := ((((Below.refl _ w3).alloc (Nat.le_refl _) _).alloc (by simp) _).alloc (by simp; omega) _).alloc (by simp; omega) _
    have hN : ((((w3.alloc (.cells #[.int .u32 (x.sl : Int), .int .u32 (x.gn : Int)] 31)).alloc (.cells #[.slice none 0 0] 70)).alloc (.cells #[.pointer (some ⟨tb, 0, none⟩)] 25)).alloc (.cells #[.int .u32 (x.sl : Int), .int .u32 (x.gn : Int)] 31)).heap.size = w3.heap.size + 1 + 1 + 1 + 1 := by simp
    generalize hW : ((((w3.alloc (.cells #[.int .u32 (x.sl : Int), .int .u32 (x.gn : Int)] 31)).alloc (.cells #[.slice none 0 0] 70)).alloc (.cells #[.pointer (some ⟨tb, 0, none⟩)] 25)).alloc (.cells #[.int .u32 (x.sl : Int), .int .u32 (x.gn : Int)] 31)) = W0 at hw0 hN a0 a1 a2 a3 ⊢
    have hs0 := hw0.size
    have hst := down1_seqB hTB hz3 HXK.out hxl 11 (by omega) hw0 a2 a3
    have hstart : ∀ b C, Below W0.heap.size W0 C → W0.heap.size + 1 < b → b < C.heap.size → OlB X.F w3 w3.heap.size (w3.heap.size + 1) W0.heap.size x.sl x.gn b [] C := fun b C bC h1 h2 =>
      ⟨⟨by omega, bC.size⟩, .slice none 0 0, ⟨hw0.trans (bC.mono hs0), (bC.block _ (lt_of_some a0)).trans a0, (bC.block _ (lt_of_some a1)).trans a1, World.ownsRow_nil _ _ _ _⟩, by simp [Value.ownBlock]⟩
    have hWR := Lib.hid hW
    clear hW
    refine (wpIn_wide (n := 12)).1 ?_
    refine range_B1 rfl (by decide) (gf := 56) (lb := #[.pointer (some ⟨w3.heap.size + 1 + 1, 0, none⟩), .pointer (some ⟨w3.heap.size + 1 + 1 + 1, 0, none⟩)]) rfl trivial (enters_of Tryd.func56 (by kernel_rfl) rfl)
      hst (fun h k => h.trans k) (kpS_b hs0) (Below.refl _ _) (fun _ => rfl)
      (OlB X.F w3 w3.heap.size (w3.heap.size + 1) W0.heap.size x.sl x.gn) (fun _ _ _ _ => False) (fun b => olB_own (by omega) (by omega) hs0 b) (fun _ _ _ _ _ _ hs _ _ => hs) (olB_abide (by omega) (by omega) hs0) (fun _ _ _ _ _ _ hs _ _ => hs) hstart
      12 (fun m => #[.int .u32 ((hd X.F (some m)).1 : Int), .int .u32 ((hd X.F (some m)).2 : Int)]) 31 ?assign ?body ?done ?stop
    case stop =>
      rintro D b c pre W _ _ h _
      exact h.elim
    case assign =>
      rintro l b pre m W K h1 h2 hI hK
      simp only [encK]
      gi_wp2
      have hWs : w3.heap.size ≤ W.heap.size := by have := hI.1.2; omega
      have hk := hK W.heap.size _ ((KeepsOthers.alloc _ _).from _) ⟨(Below.refl _ W).alloc hWs _, fun k c t fz _ e => alloc_blk e _⟩ ((olB_own (by omega) (by omega) hs0 b).alloc _ hI) (Go.heap_alloc_new W (.cells #[.int .u32 ((hd X.F (some m)).1 : Int), .int .u32 ((hd X.F (some m)).2 : Int)] 31))
      simpa [encK] using hk
    case body =>
      as_aux_lemma =>
        rintro l b pre m xb W h1 h2 hI hxb hpf
        obtain ⟨⟨hb0, hWN⟩, v, hO, hne⟩ := hI
        have hpl2 : pre.length + 1 ≤ 200 := by have := hpf.length_le; simp at this; omega
        have c0' := cell_blk hO.box 0 rfl
        have lT := lt_of_some hO.box
        have x0 := cell_blk hxb 0 rfl
        have x1 := cell_blk hxb 1 rfl
        have hrow := hO.row
        have hlt := hrow.lt
        obtain ⟨i0, hi0, hzi0, hzi1, hzi2⟩ := info_parts infoH
        have hm1 : pre.length + 1 ≤ maxLen := by have : maxLen = 9223372036854775807 := rfl; omega
        have hm2 : (pre.length + 1) * 8 ≤ 140737488355328 := by omega
        have HO := Lib.hid (And.intro hO (And.intro hne (And.intro hlt hb0)))
        have hbase : ∀ o, W0.heap.size ≤ (W.alloc o).heap.size := fun o => by simp; omega
        simp only [encK]
        gi_wp2_with (gi_at_builtin; refine wpListIn_append_lies _ rfl (.tmp 81) (.tmp 83) 70 rfl W0.heap.size 31 i0 _ 2 8 Tryd.underlying70 hi0 hzi0 hzi1 hzi2 rfl (by omega) v pre.length (hcells X.F pre) rfl (hrow.alloc _) ⟨W.heap.size, 0, none⟩ 1 1 [.int .u32 ((hd X.F (some m)).1 : Int), .int .u32 ((hd X.F (some m)).2 : Int)] rfl rfl (World.news_of_block (cs := #[.int .u32 ((hd X.F (some m)).1 : Int), .int .u32 ((hd X.F (some m)).2 : Int)]) (t := 31) (fr := (0, 0)) (Go.heap_alloc_new W _)) (by simp [Value.oneCell']) (by omega) hm1 hm2 (hbase _) (W.heap.size + 1) (by simp) ?_; intro g2 c2 w5 hown2 hg2 hat2 hlt2; have hbox2 := (hg2.block _ (Nat.lt_of_lt_of_le lT (by simp)) (fun e => by have := (hlt _ e.symm).1; omega)).trans (alloc_blk HO.out.1.box _); have z0 := cell_blk hbox2 0 rfl; have f0 := free_blk hbox2 0)
        have hs5 := hg2.size
        have hs5' : W.heap.size + 1 ≤ w5.heap.size := by simpa using hs5
        have hcells : ∀ (j : Nat) (o : Obj), v.ownBlock = some j → (W.alloc (.cells #[.int .u32 ((hd X.F (some m)).1 : Int), .int .u32 ((hd X.F (some m)).2 : Int)] 31)).heap[j]? = some o → o.isCells = true := fun j o hj ho => by
          cases hc : o.isCells with
          | true => rfl
          | false => exact absurd hj (row_notcells (HO.out.1.row.alloc _) ho hc)
        have hle5 : Below w3.heap.size w3 w5 := (HO.out.1.low.alloc HO.out.1.low.size _).trans (grown_below hg2 (fun y e => by have := (HO.out.2.2.1 y e).1; omega) (by simp; have := HO.out.1.low.size; omega))
        have hle6 : Below w3.heap.size W w5 := ((Below.refl _ W).alloc HO.out.1.low.size _).trans (grown_below hg2 (fun y e => by have := (HO.out.2.2.1 y e).1; omega) (by simp; have := HO.out.1.low.size; omega))
        have hkeep : ∀ (j : Nat) (o : Obj), v.ownBlock ≠ some j → j ≠ w3.heap.size + 1 → W.heap[j]? = some o → (w5.setCell ⟨w3.heap.size + 1, 0, none⟩ (.slice (some ⟨g2, 0, none⟩) (pre.length + 1) c2)).heap[j]? = some o := fun j o h3 h4 ho => by
          rw [heap_setCell_other _ _ _ _ h4]
          exact (hg2.block _ (Nat.lt_of_lt_of_le (lt_of_some ho) (by simp)) (fun e => h3 e.symm)).trans (alloc_blk ho _)
        have hgne : g2 ≠ w3.heap.size + 1 ∧ g2 ≠ b := by
          rcases hat2 with h | h
          · have h5 := (HO.out.2.2.1 _ h).1
            exact ⟨by omega, fun e => HO.out.2.1 (by rw [h, e])⟩
          · omega
        refine ⟨(((KeepsOthers.alloc W _).trans (KeepsOthers.of_grownBy hg2 hcells)).trans (KeepsOthers.setCell _ _ _)).from _, ⟨hle6.setCell (Nat.le_succ _) _, fun j c t fz hj e => ?_⟩, ⟨HO.out.2.2.2, by simp; omega⟩, .slice (some ⟨g2, 0, none⟩) (pre.length + 1) c2, ⟨hle5.setCell (Nat.le_succ _) _, ?_, ?_, ?_⟩, ?_⟩
        · refine hkeep j _ (fun h5 => ?_) ?_ e
          · rcases hj with rfl | rfl | rfl
            · exact HO.out.2.1 h5
            · have := (HO.out.2.2.1 _ h5).1; omega
            · have := (HO.out.2.2.1 _ h5).1; omega
          · rcases hj with rfl | rfl | rfl
            · have := HO.out.2.2.2; omega
            · omega
            · omega
        · exact hkeep _ _ (fun h5 => by have := (HO.out.2.2.1 _ h5).1; omega) (by omega) HO.out.1.hb
        · exact set_blk hbox2 0 _
        · have h6 := rwSet hown2 ⟨w3.heap.size + 1, 0, none⟩ (by simp [Value.ownBlock]; exact hgne.1) (.slice (some ⟨g2, 0, none⟩) (pre.length + 1) c2)
          rw [hcells_app, List.length_append]
          exact h6
        · simp [Value.ownBlock]
          exact hgne.2
    case done =>
      rintro D b W hD hI hK
      obtain ⟨⟨hb0, hWN⟩, v, hO, hne⟩ := hI
      obtain ⟨g2, cap2, e, sz, p, hOW⟩ := ord_facts hTB hz3 HXK.out hxl HB.out.few hO
      have HK := Lib.hid (And.intro hK hD)
      have HLW := Lib.hid (HB3.out.trans (hO.low.mono HB3.out.size))
      have HHW := Lib.hid hWN
      have HD8 : Hid (w.heap.size ≤ D) := Lib.hid (by have := HB3.out.size; omega)
      obtain ⟨n, hn⟩ : ∃ n, n = (preD X.F k).length := ⟨_, rfl⟩
      rw [← hn] at hOW
      clear hK hO hne hb0 hstart hst a0 a1 a2 a3 hTB hz3 hpl hlen200 hn HXK HBB HPK HB HAW HGR HFL hz1 hz2 hfew hxl d0 d1 d10 b0' c0 c1 c10 b0 hkl hz0
      have HO := Lib.hid hOW
      have hpos := hOW.pos
      have hfw := hOW.few
      have r0 := cell_blk hOW.root 0 rfl
      have r1 := cell_blk hOW.root 1 rfl
      have e0 := hOW.e0
      generalize x.sl = sr at *
      generalize x.gn = gr at *
      clear hOW
      go_wp2_with fail
      go_loopg [14] n (fun m v wr => ∃ i : Nat, v = .int .i64 (i : Int) ∧ Hid (i + m = n ∧ Below W.heap.size W wr) ∧ wr.heap[W.heap.size]? = some (.cells #[.int .u32 ((e i).1 : Int), .int .u32 ((e i).2 : Int)] 31 (0, 0)))
      case atStart => exact ⟨0, rfl, Lib.hid ⟨by omega, (Below.refl _ W).alloc (Nat.le_refl _) _⟩, by rw [e0]; exact Go.heap_alloc_new W _⟩
      case round =>
        obtain ⟨i, rfl, hw, hx⟩ := hrel
        have hsum := hw.out.1
        have HBL := Lib.hid hw.out.2
        have x0 := cell_blk hx 0 rfl
        have x1 := cell_blk hx 1 rfl
        have hbox := (HBL.out.block _ (lt_of_some HO.out.box)).trans HO.out.box
        have hroot := (HBL.out.block _ (lt_of_some HO.out.root)).trans HO.out.root
        have y0 := cell_blk hbox 0 rfl
        have t0 := cell_blk hroot 0 rfl
        have t1 := cell_blk hroot 1 rfl
        have HY := Lib.hid (And.intro hx (And.intro hbox hroot))
        clear hx hbox hroot hw r0 r1
        by_cases hi : i < n
        · have q1 : decide ((i : Int) < (n : Int)) = true := by simp; omega
          obtain ⟨hc0, hc1⟩ := HO.out.row i hi
          have u0 := (HBL.out.cell (p := ⟨g2, i * 2, none⟩) (cell_lt hc0)).trans hc0
          have u1 := (HBL.out.cell (p := ⟨g2, i * 2 + 1, none⟩) (cell_lt hc1)).trans hc1
          have q2 : hEq ((e i).1 : Int) ((e i).2 : Int) ((e i).1 : Int) ((e i).2 : Int) = true := hEq_true rfl rfl
          have HNX : Hid (∀ Wr, Below W.heap.size W Wr → Calls Tryd.prog 23 #[.pointer (some ⟨tb, 0, none⟩), .agg #[.int .u32 ((e i).1 : Int), .int .u32 ((e i).2 : Int)], .agg #[.int .u32 (sr : Int), .int .u32 (gr : Int)]] Wr fun x w' => x = .returned (.tuple #[.agg #[.int .u32 ((e (i + 1)).1 : Int), .int .u32 ((e (i + 1)).2 : Int)], .int .i64 0]) ∧ Below Wr.heap.size Wr w') := Lib.hid (fun Wr b => HO.out.next Wr b i hi)
          have HC01 := Lib.hid (And.intro hc0 hc1)
          have HM : Hid (gk - 1 < gk) := Lib.hid (by omega)
          have HSM : Hid (i + 1 + (gk - 1) = n) := Lib.hid (by omega)
          have wk : IntKind.i64.wrap ((i : Int) + 1) = (i : Int) + 1 := IntWalk.i64_in _ (by omega)
          clear hc0 hc1
          go_wp2_with fail
          go_quiet (fail)
          have HBQ := Lib.hid (below_drewN HBL.out nq)
          have NEXT : True := trivial
          by_cases hi0 : i = 0
          · as_aux_lemma =>
              have q3 : decide ((0 : Int) < (i : Int)) = false := by simp; omega
              have q4 : ¬ (0 < i) := by omega
              clear hi0
              go_wp2_with (go_at_call 23; refine (HNX.out _ HBQ.out).mono ?_; rintro x w5 ⟨rfl, b5⟩; have HB5 := Lib.hid (HBQ.out.trans (b5.mono HBQ.out.size)); have hx5 := (b5.block _ (lt_of_some HY.out.1)).trans HY.out.1; have l5 := lt_of_some hx5; have z0 := cell_blk hx5 0 rfl; have z1 := cell_blk hx5 1 rfl; have f0 := free_blk hx5 0; have f1 := free_blk hx5 1; have HX5 := Lib.hid hx5; clear b5 hx5)
              go_roundg (gk - 1)
              case measure => exact HM.out
              case rel => exact ⟨i + 1, by go_num, Lib.hid ⟨HSM.out, ((HB5.out.setCell (Nat.le_refl _) _).setCell (Nat.le_refl _) _).alloc (by simp; exact HB5.out.size) _⟩, alloc_blk (set_blk (set_blk HX5.out 0 _) 1 _) _⟩
          · as_aux_lemma =>
              have q3 : decide ((0 : Int) < (i : Int)) = true := by simp; omega
              have q4 : 0 < i := by omega
              obtain ⟨i1, hi1⟩ : ∃ i1, i1 + 1 = i := ⟨i - 1, by omega⟩
              have wk2 : IntKind.i64.wrap ((i : Int) - 1) = (i1 : Int) := (IntWalk.i64_in _ (by omega)).trans (by omega)
              have hi1n : i1 < n := by omega
              have HPV : Hid (∀ Wr, Below W.heap.size W Wr → Calls Tryd.prog 24 #[.pointer (some ⟨tb, 0, none⟩), .agg #[.int .u32 ((e i).1 : Int), .int .u32 ((e i).2 : Int)], .agg #[.int .u32 (sr : Int), .int .u32 (gr : Int)]] Wr fun x w' => x = .returned (.tuple #[.agg #[.int .u32 ((e i1).1 : Int), .int .u32 ((e i1).2 : Int)], .int .i64 0]) ∧ Below Wr.heap.size Wr w') := Lib.hid (fun Wr b => by rw [← hi1]; exact HO.out.prev Wr b i1 (by omega))
              have q5 : hEq ((e i1).1 : Int) ((e i1).2 : Int) ((e i1).1 : Int) ((e i1).2 : Int) = true := hEq_true rfl rfl
              have HR1 := Lib.hid (HO.out.row i1 hi1n)
              clear hi1 hi0
              go_wp2_with (first | (go_at_call 24; refine (HPV.out _ (HB5.out.alloc HB5.out.size _)).mono ?_; rintro x w6 ⟨rfl, b6⟩; have HB6 := Lib.hid ((HB5.out.alloc HB5.out.size _).trans (b6.mono (HB5.out.alloc HB5.out.size _).size)); have hx6 := (b6.block _ (Nat.lt_of_lt_of_le (lt_of_some HX5.out.1) ((Below.refl w5.heap.size w5).alloc (Nat.le_refl _) _).size)).trans (alloc_blk HX5.out.1 _); have l6 := lt_of_some hx6; have z0 := cell_blk hx6 0 rfl; have z1 := cell_blk hx6 1 rfl; have f0 := free_blk hx6 0; have f1 := free_blk hx6 1; have hn6 := (b6.block _ (lt_of_some (Go.heap_alloc_new w5 _))).trans (Go.heap_alloc_new w5 (.cells #[.int .u32 ((e (i + 1)).1 : Int), .int .u32 ((e (i + 1)).2 : Int)] 31)); have n0 := cell_blk hn6 0 rfl; have n1 := cell_blk hn6 1 rfl; have ln6 := lt_of_some hn6; have hbox6 := (HB6.out.block _ (lt_of_some HO.out.box)).trans HO.out.box; have v0 := cell_blk hbox6 0 rfl; have lb6 := lt_of_some hbox6; have k0 := (HB6.out.cell (p := ⟨g2, i1 * 2, none⟩) (cell_lt HR1.out.1)).trans HR1.out.1; have k1 := (HB6.out.cell (p := ⟨g2, i1 * 2 + 1, none⟩) (cell_lt HR1.out.2)).trans HR1.out.2; have lk6 := cell_lt k0; have HX6 := Lib.hid (And.intro hx6 hn6); clear b6 hx6 hn6 hbox6) | (go_at_call 23; refine (HNX.out _ HBQ.out).mono ?_; rintro x w5 ⟨rfl, b5⟩; have HB5 := Lib.hid (HBQ.out.trans (b5.mono HBQ.out.size)); have hx5 := (b5.block _ (lt_of_some HY.out.1)).trans HY.out.1; have hr5 := (b5.block _ (lt_of_some HY.out.2.2)).trans HY.out.2.2; have l5 := lt_of_some hx5; have a0 := cell_blk hx5 0 rfl; have a1 := cell_blk hx5 1 rfl; have b0 := cell_blk hr5 0 rfl; have b1 := cell_blk hr5 1 rfl; have lr5 := lt_of_some hr5; have HX5 := Lib.hid (And.intro hx5 trivial); clear b5 hx5 hr5))
              go_quiet (fail)
              go_wp2_with fail
              go_roundg (gk - 1)
              case measure => exact HM.out
              case rel => exact ⟨i + 1, by go_num, Lib.hid ⟨HSM.out, ((below_drewN (HB6.out.alloc HB6.out.size _) nq).setCell (Nat.le_refl _) _).setCell (Nat.le_refl _) _⟩, set_blk (set_blk (alloc_blk HX6.out.1 _) 0 _) 1 _⟩
        · have q1 : decide ((i : Int) < (n : Int)) = false := by simp; omega
          have hi2 : ¬ (i < n) := hi
          obtain rfl : i = n := by omega
          rw [HO.out.en] at x0 x1
          replace x0 : wr.cell? ⟨W.heap.size, 0, none⟩ = some (.int .u32 0) := x0
          replace x1 : wr.cell? ⟨W.heap.size, 1, none⟩ = some (.int .u32 0) := x1
          have q2 : hEq 0 0 0 0 = true := hEq_true rfl rfl
          have q3 : decide ((200 : Int) < (i : Int)) = false := by simp; omega
          have q4 : ¬ (200 < i) := by omega
          clear hsum hi
          go_wp2_with fail
          clear x0 x1 t0 t1 y0 q2 q3 q4 hi2 q1 e0 HY
          go_loopg [19] i (fun m v wx => ∃ i' : Nat, v = .int .i64 (i' : Int) ∧ Hid (i' + m = i ∧ Below W.heap.size W wx))
          case atStart => exact ⟨0, rfl, Lib.hid ⟨by omega, HBL.out⟩⟩
          case round =>
            obtain ⟨s, rfl, hw⟩ := hrel
            have hsum := hw.out.1
            have HBX := Lib.hid hw.out.2
            clear hw
            have hbx := (HBX.out.block _ (lt_of_some HO.out.box)).trans HO.out.box
            have y0 := cell_blk hbx 0 rfl
            have lbx := lt_of_some hbx
            clear hbx
            have HEND : Hid (Below w.heap.size w wr) := Lib.hid (HLW.out.trans (HBX.out.mono HLW.out.size))
            by_cases hs : s < i
            · have q1 : decide ((s : Int) < (i : Int)) = true := by simp; omega
              by_cases h40 : s < 40
              · have q2 : decide ((s : Int) < 40) = true := by simp; omega
                obtain ⟨hc0, hc1⟩ := HO.out.row s hs
                have u0 := (HBX.out.cell (p := ⟨g2, s * 2, none⟩) (cell_lt hc0)).trans hc0
                have u1 := (HBX.out.cell (p := ⟨g2, s * 2 + 1, none⟩) (cell_lt hc1)).trans hc1
                have HC01 := Lib.hid (And.intro hc0 hc1)
                have HSZ : Hid (∀ Wr, Below W.heap.size W Wr → Calls Tryd.prog 25 #[.pointer (some ⟨tb, 0, none⟩), .agg #[.int .u32 ((e s).1 : Int), .int .u32 ((e s).2 : Int)]] Wr fun x w' => x = .returned (.tuple #[.int .i64 (sz s : Int), .int .i64 0]) ∧ Below Wr.heap.size Wr w') := Lib.hid (fun Wr b => HO.out.size Wr b s hs)
                have HM : Hid (gk - 1 < gk) := Lib.hid (by omega)
                have HSM : Hid (s + 1 + (gk - 1) = i) := Lib.hid (by omega)
                have wk : IntKind.i64.wrap ((s : Int) + 1) = (s : Int) + 1 := IntWalk.i64_in _ (by omega)
                obtain ⟨go1, rfl⟩ : ∃ g, g = gk := ⟨_, rfl⟩
                have HHS := Lib.hid hs
                clear hc0 hc1 hsum HEND hs h40
                go_wp2_with (go_at_call 25; refine (HSZ.out _ HBX.out).mono ?_; rintro x w5 ⟨rfl, b5⟩; have HB5 := Lib.hid (HBX.out.trans (b5.mono HBX.out.size)); clear b5)
                clear y0 u0 u1 lbx q1 q2
                go_loopg [22] i (fun m v wx => ∃ j : Nat, v = .int .i64 (j : Int) ∧ Hid (j + m = i ∧ Below W.heap.size W wx))
                case atStart => exact ⟨0, rfl, Lib.hid ⟨by omega, HB5.out⟩⟩
                case round =>
                  as_aux_lemma =>
                    obtain ⟨j, rfl, hw⟩ := hrel
                    have hsum := hw.out.1
                    have HBW := Lib.hid hw.out.2
                    clear hw
                    have hbx := (HBW.out.block _ (lt_of_some HO.out.box)).trans HO.out.box
                    have y0 := cell_blk hbx 0 rfl
                    have lbx := lt_of_some hbx
                    clear hbx
                    by_cases hj : j < i
                    · have q3 : decide ((j : Int) < (i : Int)) = true := by simp; omega
                      have HCELL : Hid (∀ Wx, Below W.heap.size W Wx → Wx.cell? ⟨w3.heap.size + 1, 0, none⟩ = some (.slice (some ⟨g2, 0, none⟩) i cap2) ∧ Wx.cell? ⟨g2, s * 2, none⟩ = some (.int .u32 ((e s).1 : Int)) ∧ Wx.cell? ⟨g2, s * 2 + 1, none⟩ = some (.int .u32 ((e s).2 : Int)) ∧ Wx.cell? ⟨g2, j * 2, none⟩ = some (.int .u32 ((e j).1 : Int)) ∧ Wx.cell? ⟨g2, j * 2 + 1, none⟩ = some (.int .u32 ((e j).2 : Int))) := Lib.hid (fun Wx b => by
                        obtain ⟨d0, d1⟩ := HO.out.row j hj
                        have hb := (b.block _ (lt_of_some HO.out.box)).trans HO.out.box
                        exact ⟨cell_blk hb 0 rfl, (b.cell (p := ⟨g2, s * 2, none⟩) (cell_lt HC01.out.1)).trans HC01.out.1, (b.cell (p := ⟨g2, s * 2 + 1, none⟩) (cell_lt HC01.out.2)).trans HC01.out.2, (b.cell (p := ⟨g2, j * 2, none⟩) (cell_lt d0)).trans d0, (b.cell (p := ⟨g2, j * 2 + 1, none⟩) (cell_lt d1)).trans d1⟩)
                      obtain ⟨ca, cb, cc, cd, ce, k1, k2, k3, k4, k5, k6, k7⟩ := ord_cases s j (sz s)
                      have K5 := Lib.hid k5
                      have K7 := Lib.hid k7
                      obtain ⟨cm, hcm⟩ : ∃ c, c = cmI s j := ⟨_, rfl⟩
                      rw [← hcm] at k7
                      have KC := Lib.hid k7
                      obtain ⟨px, hpx⟩ : ∃ x, x = p s j := ⟨_, rfl⟩
                      obtain ⟨py, hpy⟩ : ∃ x, x = p j s := ⟨_, rfl⟩
                      have HTU : Hid (Turned px py) := Lib.hid (by rw [hpx, hpy]; exact HO.out.turned s j HHS.out hj)
                      have HCM : Hid (∀ Wr, Below W.heap.size W Wr → Calls Tryd.prog 12 #[.pointer (some ⟨tb, 0, none⟩), .agg #[.int .u32 ((e s).1 : Int), .int .u32 ((e s).2 : Int)], .agg #[.int .u32 ((e j).1 : Int), .int .u32 ((e j).2 : Int)]] Wr fun x w' => x = .returned (.tuple #[.int .i64 cm, .bool true, .int .i64 0]) ∧ Below Wr.heap.size Wr w') := Lib.hid (fun Wr b => by rw [hcm]; exact HO.out.cmp Wr b s j HHS.out hj)
                      have HCO : Hid (∀ Wr, Below W.heap.size W Wr → Calls Tryd.prog 14 #[.pointer (some ⟨tb, 0, none⟩), .agg #[.int .u32 ((e s).1 : Int), .int .u32 ((e s).2 : Int)], .agg #[.int .u32 ((e j).1 : Int), .int .u32 ((e j).2 : Int)]] Wr fun x w' => x = .returned (.tuple #[.bool (cd && ce), .int .i64 0]) ∧ Below Wr.heap.size Wr w') := Lib.hid (fun Wr b => by rw [← k6]; exact HO.out.con Wr b s j HHS.out hj)
                      have HPX : Hid (∀ Wr, Below W.heap.size W Wr → Calls Tryd.prog 13 #[.pointer (some ⟨tb, 0, none⟩), .agg #[.int .u32 ((e s).1 : Int), .int .u32 ((e s).2 : Int)], .agg #[.int .u32 ((e j).1 : Int), .int .u32 ((e j).2 : Int)]] Wr fun x w' => x = .returned (.tuple #[.int .i64 px, .int .i64 0]) ∧ Below Wr.heap.size Wr w') := Lib.hid (fun Wr b => by rw [hpx]; exact HO.out.posn Wr b s j HHS.out hj)
                      have HPY : Hid (∀ Wr, Below W.heap.size W Wr → Calls Tryd.prog 13 #[.pointer (some ⟨tb, 0, none⟩), .agg #[.int .u32 ((e j).1 : Int), .int .u32 ((e j).2 : Int)], .agg #[.int .u32 ((e s).1 : Int), .int .u32 ((e s).2 : Int)]] Wr fun x w' => x = .returned (.tuple #[.int .i64 py, .int .i64 0]) ∧ Below Wr.heap.size Wr w') := Lib.hid (fun Wr b => by rw [hpy]; exact HO.out.posn Wr b j s hj HHS.out)
                      have HKK := Lib.hid (And.intro k1 (And.intro k2 (And.intro k3 k4)))
                      have HM2 : Hid (gk - 1 < gk) := Lib.hid (by omega)
                      have HSM2 : Hid (j + 1 + (gk - 1) = i) := Lib.hid (by omega)
                      have wk2 : IntKind.i64.wrap ((j : Int) + 1) = (j : Int) + 1 := IntWalk.i64_in _ (by omega)
                      have hss := HHS.out
                      have hszb := HO.out.szb s hss
                      have wk3 : IntKind.i64.wrap ((s : Int) + (sz s : Int)) = ((s + sz s : Nat) : Int) := (IntWalk.i64_in _ (by omega)).trans (by omega)
                      have HWK3 := Lib.hid wk3
                      clear k1 k2 k3 k4 k5 k6 k7 hcm hpx hpy hsum hss hszb wk3
                      have HD0 : Hid (Below W.heap.size W wr.drew) := Lib.hid HBW.out.drew
                      go_wp2_with fail
                      go_region_held3 (fun Wx => Wx.cell? ⟨w3.heap.size + 1, 0, none⟩ = some (.slice (some ⟨g2, 0, none⟩) i cap2) ∧ Wx.cell? ⟨g2, s * 2, none⟩ = some (.int .u32 ((e s).1 : Int)) ∧ Wx.cell? ⟨g2, s * 2 + 1, none⟩ = some (.int .u32 ((e s).2 : Int)) ∧ Wx.cell? ⟨g2, j * 2, none⟩ = some (.int .u32 ((e j).1 : Int)) ∧ Wx.cell? ⟨g2, j * 2 + 1, none⟩ = some (.int .u32 ((e j).2 : Int))) (first | exact HCELL.out _ HX1.out | exact HCELL.out _ HD0.out) (first | (go_at_call 12; refine (HCM.out _ HD0.out).mono ?_; rintro r x1 ⟨rfl, b1⟩; have HX1 := Lib.hid (HD0.out.trans (b1.mono HD0.out.size))))
                      clear b1
                      have HD1 : Hid (Below W.heap.size W x1.drew) := Lib.hid HX1.out.drew
                      go_wp2_with fail
                      go_region_held3 (fun Wx => Wx.cell? ⟨w3.heap.size + 1, 0, none⟩ = some (.slice (some ⟨g2, 0, none⟩) i cap2) ∧ Wx.cell? ⟨g2, s * 2, none⟩ = some (.int .u32 ((e s).1 : Int)) ∧ Wx.cell? ⟨g2, s * 2 + 1, none⟩ = some (.int .u32 ((e s).2 : Int)) ∧ Wx.cell? ⟨g2, j * 2, none⟩ = some (.int .u32 ((e j).1 : Int)) ∧ Wx.cell? ⟨g2, j * 2 + 1, none⟩ = some (.int .u32 ((e j).2 : Int))) (first | exact HCELL.out _ HX2.out | exact HCELL.out _ HD1.out) (first | (go_at_call 14; refine (HCO.out _ HD1.out).mono ?_; rintro r x2 ⟨rfl, b2⟩; have HX2 := Lib.hid (HD1.out.trans (b2.mono HD1.out.size))))
                      clear b2
                      have HD2 : Hid (Below W.heap.size W x2.drew) := Lib.hid HX2.out.drew
                      go_wp2_with fail
                      go_region_held3 (fun Wx => Wx.cell? ⟨w3.heap.size + 1, 0, none⟩ = some (.slice (some ⟨g2, 0, none⟩) i cap2) ∧ Wx.cell? ⟨g2, s * 2, none⟩ = some (.int .u32 ((e s).1 : Int)) ∧ Wx.cell? ⟨g2, s * 2 + 1, none⟩ = some (.int .u32 ((e s).2 : Int)) ∧ Wx.cell? ⟨g2, j * 2, none⟩ = some (.int .u32 ((e j).1 : Int)) ∧ Wx.cell? ⟨g2, j * 2 + 1, none⟩ = some (.int .u32 ((e j).2 : Int))) (first | exact HCELL.out _ HX3.out | exact HCELL.out _ HD2.out) (first | (go_at_call 13; refine (HPX.out _ HD2.out).mono ?_; rintro r x3 ⟨rfl, b3⟩; have HX3 := Lib.hid (HD2.out.trans (b3.mono HD2.out.size))))
                      clear b3
                      have HD3 : Hid (Below W.heap.size W x3.drew) := Lib.hid HX3.out.drew
                      go_wp2_with fail
                      go_region_held3 (fun Wx => Wx.cell? ⟨w3.heap.size + 1, 0, none⟩ = some (.slice (some ⟨g2, 0, none⟩) i cap2) ∧ Wx.cell? ⟨g2, s * 2, none⟩ = some (.int .u32 ((e s).1 : Int)) ∧ Wx.cell? ⟨g2, s * 2 + 1, none⟩ = some (.int .u32 ((e s).2 : Int)) ∧ Wx.cell? ⟨g2, j * 2, none⟩ = some (.int .u32 ((e j).1 : Int)) ∧ Wx.cell? ⟨g2, j * 2 + 1, none⟩ = some (.int .u32 ((e j).2 : Int))) (first | exact HCELL.out _ HX4.out | exact HCELL.out _ HD3.out) (first | (go_at_call 13; refine (HPY.out _ HD3.out).mono ?_; rintro r x4 ⟨rfl, b4⟩; have HX4 := Lib.hid (HD3.out.trans (b4.mono HD3.out.size))))
                      clear b4
                      clear HCELL HCM HCO HPX HPY HD0 HD1 HD2 HD3 HX1 HX2 HX3
                      go_upto_region 44 with fail
                      go_cut [32] from 216 to 241 (fun v32 wc => v32 = .bool true ∧ x4 = wc)
                      case first =>
                        as_aux_lemma =>
                          obtain ⟨k1, k2, k3, k4⟩ := HKK.out
                          rcases KC.out with ⟨rfl, rfl, rfl, rfl, rfl, hlt⟩ | ⟨rfl, rfl, rfl, rfl, rfl, rfl⟩ | ⟨rfl, rfl, rfl, rfl, rfl, hlt⟩
                          · have n1 : ¬ s = j := by omega
                            have n2 : ¬ j < s := by omega
                            go_wp2_with fail
                            go_meet
                            exact ⟨rfl, rfl⟩
                          · go_wp2_with fail
                            go_meet
                            exact ⟨rfl, rfl⟩
                          · have n1 : ¬ s = j := by omega
                            have n2 : ¬ s < j := by omega
                            go_wp2_with fail
                            go_meet
                            exact ⟨rfl, rfl⟩
                      case rest =>
                        as_aux_lemma =>
                          obtain ⟨rfl, rfl⟩ := hcut
                          go_upto_region 45 with fail
                          go_cut [33] from 241 to 280 (fun v33 wc => v33 = .bool true ∧ x4 = wc)
                          case first =>
                            as_aux_lemma =>
                              rcases HTU.out with ⟨rfl, rfl⟩ | ⟨rfl, rfl⟩ | ⟨rfl, rfl⟩ | ⟨rfl, rfl⟩ | ⟨rfl, rfl⟩ <;> (go_wp2_with fail; go_meet; exact ⟨rfl, rfl⟩)
                          case rest =>
                            obtain ⟨rfl, rfl⟩ := hcut
                            obtain ⟨_, _, _, k4⟩ := HKK.out
                            have k5 := K5.out
                            have wk3 := HWK3.out
                            obtain ⟨sz1, hsz1⟩ : ∃ z : Nat, z = s + sz s := ⟨_, rfl⟩
                            rw [← hsz1] at k5 wk3
                            clear hsz1
                            by_cases hle : s ≤ j
                            · obtain rfl : cd = true := by rw [← k4]; simp; omega
                              by_cases hce : j < sz1
                              · obtain rfl : ce = true := by rw [← k5]; simp; omega
                                go_wp2_with fail
                                go_roundg (gk - 1)
                                case measure => exact HM2.out
                                case rel => exact ⟨j + 1, by go_num, Lib.hid ⟨HSM2.out, HX4.out⟩⟩
                              · obtain rfl : ce = false := by rw [← k5]; simp; omega
                                go_wp2_with fail
                                go_roundg (gk - 1)
                                case measure => exact HM2.out
                                case rel => exact ⟨j + 1, by go_num, Lib.hid ⟨HSM2.out, HX4.out⟩⟩
                            · obtain rfl : cd = false := by rw [← k4]; simp; omega
                              go_wp2_with fail
                              go_roundg (gk - 1)
                              case measure => exact HM2.out
                              case rel => exact ⟨j + 1, by go_num, Lib.hid ⟨HSM2.out, HX4.out⟩⟩
                    · have q3 : decide ((j : Int) < (i : Int)) = false := by simp; omega
                      go_wp2_with fail
                      go_roundg (go1 - 1)
                      case measure => exact HM.out
                      case rel => exact ⟨s + 1, by go_num, Lib.hid ⟨HSM.out, HBW.out⟩⟩
              · have q2 : decide ((s : Int) < 40) = false := by simp; omega
                go_wp2_with fail
                have hkd := (HBX.out.block D (lt_of_some HK.out.1)).trans HK.out.1
                refine ⟨by simp, .inl ⟨_, _, rfl, run_takeDeferred hkd, ?_⟩⟩
                exact ⟨_, results_tmp rfl _ _ _, rfl, HEND.out.trans (belowK_b (w := w) (Nat.le_refl _) wr D _ _ HD8.out hkd rfl rfl)⟩
            · have q1 : decide ((s : Int) < (i : Int)) = false := by simp; omega
              go_wp2_with fail
              have hkd := (HBX.out.block D (lt_of_some HK.out.1)).trans HK.out.1
              refine ⟨by simp, .inl ⟨_, _, rfl, run_takeDeferred hkd, ?_⟩⟩
              exact ⟨_, results_tmp rfl _ _ _, rfl, HEND.out.trans (belowK_b (w := w) (Nat.le_refl _) wr D _ _ HD8.out hkd rfl rfl)⟩
end Go.Proofs.YtelhnaphkbpakaaDoor

