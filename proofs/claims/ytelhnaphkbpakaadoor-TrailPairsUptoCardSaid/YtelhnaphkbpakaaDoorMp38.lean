/- Part 38 of the proof of TpP: lemmas. -/
import Derived.Test.YtelhnaphkbpakaaDoorMp37
namespace Go.Proofs.YtelhnaphkbpakaaDoor
open Go.RowKit
set_option linter.unusedVariables false
set_option maxRecDepth 100000
theorem hrow_cell {F : For} {w : World} {base g n c : Nat} {l : List Nat} (h : w.ownsRow base 31 2 (.slice (some ⟨g, 0, none⟩) n c) n (hcells F l)) (hn : n = l.length) {j k : Nat} (hj : l[j]? = some k) :
    w.cell? ⟨g, j * 2, none⟩ = some (.int .u32 ((hd F (some k)).1 : Int)) ∧ w.cell? ⟨g, j * 2 + 1, none⟩ = some (.int .u32 ((hd F (some k)).2 : Int)) := by
  obtain ⟨h1, h2⟩ := hcells_at (F := F) hj
  have hl := (List.getElem?_eq_some_iff.1 hj).1
  exact ⟨by rw [h.cellAt (j * 2) (by omega), h1], by rw [h.cellAt (j * 2 + 1) (by omega), h2]⟩
theorem Chain.lives {F : For} (ok : FOk F) {k : Nat} {l : List Nat} (h : Chain F k l) {x : FN} (hx : F[k]? = some x) (hl : x.live = true) : ∀ m ∈ l, ∃ y : FN, F[m]? = some y ∧ y.live = true := by
  induction h generalizing x with
  | @root k y hy hu => intro m hm; simp at hm; subst hm; exact ⟨x, hx, hl⟩
  | @up k u y l hy hu hc ih =>
    intro m hm
    rcases List.mem_cons.1 hm with rfl | hm
    · exact ⟨x, hx, hl⟩
    · obtain ⟨z, hz, hzl, _⟩ := ok.upd k y u hy hu
      exact ih hz hzl m hm
theorem TreeRw.hd_inj {B : Nat} {Q : Nat → Prop} {w : World} {tb : Nat} {X : TX} {Lf : Nat → Nat → Nat × Nat} (h : TreeRw B Q w tb X Lf) {p q : Nat} (hp : ∃ y : FN, X.F[p]? = some y ∧ y.live = true) (hq : ∃ y : FN, X.F[q]? = some y ∧ y.live = true) :
    hEq ((hd X.F (some p)).1 : Int) ((hd X.F (some p)).2 : Int) ((hd X.F (some q)).1 : Int) ((hd X.F (some q)).2 : Int) = decide (p = q) := by
  obtain ⟨x, hx, hxl⟩ := hp
  obtain ⟨y, hy, hyl⟩ := hq
  rw [hd_some hx, hd_some hy]
  by_cases e : p = q
  · subst e
    rw [hx] at hy
    cases hy
    rw [decide_eq_true rfl]
    exact hEq_true rfl rfl
  · rw [decide_eq_false e]
    exact hEq_false (.inl (fun h2 => e (h.hinj hx hy hxl hyl (by simp only at h2; omega))))
theorem alloc3_at (w : World) (a b c : Obj) : (((w.alloc a).alloc b).alloc c).heap[w.heap.size]? = some a ∧ (((w.alloc a).alloc b).alloc c).heap[w.heap.size + 1]? = some b ∧ (((w.alloc a).alloc b).alloc c).heap[w.heap.size + 2]? = some c := by
  refine ⟨alloc_blk (alloc_blk (Go.heap_alloc_new w a) b) c, alloc_blk (alloc2_blk w a b) c, ?_⟩
  have := Go.heap_alloc_new ((w.alloc a).alloc b) c
  simpa using this
theorem alloc3_lo (w : World) (a b c : Obj) : Below w.heap.size w (((w.alloc a).alloc b).alloc c) := (((Below.refl _ w).alloc (Nat.le_refl _) a).alloc (by simp) b).alloc (by simp; omega) c
def CW (F : For) (la lb : List Nat) (g1 g2 : Nat) (W : World) : Prop :=
  (∀ j k, la[j]? = some k → W.cell? ⟨g1, j * 2, none⟩ = some (.int .u32 ((hd F (some k)).1 : Int)) ∧ W.cell? ⟨g1, j * 2 + 1, none⟩ = some (.int .u32 ((hd F (some k)).2 : Int))) ∧
  (∀ j k, lb[j]? = some k → W.cell? ⟨g2, j * 2, none⟩ = some (.int .u32 ((hd F (some k)).1 : Int)) ∧ W.cell? ⟨g2, j * 2 + 1, none⟩ = some (.int .u32 ((hd F (some k)).2 : Int)))
section
variable {B : Nat} {Q : Nat → Prop} {w w' : World} {tb : Nat} {X : TX}
set_option maxHeartbeats 8000000 in
theorem compareT_calls (h : TreeAt B Q w tb X) (hz : NoneAt w) {ka kb ra rb : Nat} {xa xb : FN} (ha : X.F[ka]? = some xa) (hal : xa.live = true) (hb : X.F[kb]? = some xb) (hbl : xb.live = true) {la lb : List Nat} (hca : Chain X.F ka la) (hcb : Chain X.F kb lb) (hra : la.getLast? = some ra) (hrb : lb.getLast? = some rb)
    {rc : Int} {ro : Bool} (hres : (ra ≠ rb → rc = 0 ∧ ro = false) ∧ (ra = rb → rc = cmpP (preD X.F ra) ka kb ∧ ro = true)) :
    Calls Tryd.prog 12 #[.pointer (some ⟨tb, 0, none⟩), .agg #[.int .u32 (xa.sl : Int), .int .u32 (xa.gn : Int)], .agg #[.int .u32 (xb.sl : Int), .int .u32 (xb.gn : Int)]] w fun e w' => e = .returned (.tuple #[.int .i64 rc, .bool ro, .int .i64 0]) ∧ Below w.heap.size w w' := by
  have HT := Lib.hid h
  have HRES := Lib.hid hres
  have HCH := Lib.hid (And.intro hca hcb)
  have HLV : Hid ((∀ m ∈ la, ∃ y : FN, X.F[m]? = some y ∧ y.live = true) ∧ (∀ m ∈ lb, ∃ y : FN, X.F[m]? = some y ∧ y.live = true)) := Lib.hid ⟨hca.lives h.fok ha hal, hcb.lives h.fok hb hbl⟩
  have HAB1 : Hid (∀ W, Below w.heap.size w W → Calls Tryd.prog 41 #[.pointer (some ⟨tb, 0, none⟩), .agg #[.int .u32 (xa.sl : Int), .int .u32 (xa.gn : Int)]] W fun e w' => ∃ g c, e = .returned (.slice (some ⟨g, 0, none⟩) la.length c) ∧ w'.ownsRow W.heap.size 31 2 (.slice (some ⟨g, 0, none⟩) la.length c) la.length (hcells X.F la) ∧ Below W.heap.size W w') := Lib.hid (fun W b => (above_calls (h.below b) (hz.below b) ha hal hca).mono (by
    rintro e w' ⟨v, rfl, h1, h2⟩
    obtain ⟨g, c, rfl⟩ := row_pos h1 (by obtain ⟨t, ht⟩ := hca.ne_nil; rw [ht]; simp)
    exact ⟨g, c, rfl, h1, h2⟩))
  have HAB2 : Hid (∀ W, Below w.heap.size w W → Calls Tryd.prog 41 #[.pointer (some ⟨tb, 0, none⟩), .agg #[.int .u32 (xb.sl : Int), .int .u32 (xb.gn : Int)]] W fun e w' => ∃ g c, e = .returned (.slice (some ⟨g, 0, none⟩) lb.length c) ∧ w'.ownsRow W.heap.size 31 2 (.slice (some ⟨g, 0, none⟩) lb.length c) lb.length (hcells X.F lb) ∧ Below W.heap.size W w') := Lib.hid (fun W b => (above_calls (h.below b) (hz.below b) hb hbl hcb).mono (by
    rintro e w' ⟨v, rfl, h1, h2⟩
    obtain ⟨g, c, rfl⟩ := row_pos h1 (by obtain ⟨t, ht⟩ := hcb.ne_nil; rw [ht]; simp)
    exact ⟨g, c, rfl, h1, h2⟩))
  have HAH : Hid (∀ p q, (∃ y : FN, X.F[p]? = some y ∧ y.live = true) → (∃ y : FN, X.F[q]? = some y ∧ y.live = true) → ∀ W, Below w.heap.size w W → Calls Tryd.prog 42 #[.pointer (some ⟨tb, 0, none⟩), .agg #[.int .u32 ((hd X.F (some p)).1 : Int), .int .u32 ((hd X.F (some p)).2 : Int)], .agg #[.int .u32 ((hd X.F (some q)).1 : Int), .int .u32 ((hd X.F (some q)).2 : Int)]] W fun e w' => e = .returned (.bool (decide (idxF X.F p < idxF X.F q))) ∧ Below W.heap.size W w') := Lib.hid (fun p q ⟨y, hy, hyl⟩ ⟨z, hz, hzl⟩ W b => by
    rw [hd_some hy, hd_some hz]
    exact aheadT_calls (h.below b) hy hyl hz hzl)
  obtain ⟨nba, Pa, hma, hata, hsla, hs2a, hg2a⟩ := h.rw.at_live ha hal
  obtain ⟨nbb, Pb, hmb, hatb, hslb, hs2b, hg2b⟩ := h.rw.at_live hb hbl
  have HLI : Hid (∀ W gb, Below w.heap.size w W → HRow W gb [(xa.sl, xa.gn), (xb.sl, xb.gn)] → Calls Tryd.prog 40 #[.pointer (some ⟨tb, 0, none⟩), .slice (some ⟨gb, 0, none⟩) 2 2] W fun e w' => e = .returned (.int .i64 0) ∧ Below W.heap.size W w') := Lib.hid (fun W gb b hr => lives_calls (h.rw.below b) hr (by simp) (.inl ⟨rfl, by
    intro p hp
    rcases List.mem_cons.1 hp with rfl | hp
    · exact ⟨ka, xa, ha, hal, rfl, rfl⟩
    · obtain rfl := List.mem_singleton.1 hp; exact ⟨kb, xb, hb, hbl, rfl, rfl⟩⟩))
  have HDL : Hid (la.getLast? = some ra ∧ lb.getLast? = some rb) := Lib.hid ⟨hra, hrb⟩
  have hbig := h.rw.big
  have hla := hca.len
  have hlb := hcb.len
  have HHR : Hid (∀ W gb, W.heap[gb]? = some (.cells #[.int .u32 (xa.sl : Int), .int .u32 (xa.gn : Int), .int .u32 (xb.sl : Int), .int .u32 (xb.gn : Int)] 31 (0, 0)) → HRow W gb [(xa.sl, xa.gn), (xb.sl, xb.gn)]) := Lib.hid (fun W gb hgb => ⟨fun j p hp => by
    match j, hp with
    | 0, hp => cases hp; exact ⟨cell_blk hgb 0 rfl, cell_blk hgb 1 rfl⟩
    | 1, hp => cases hp; exact ⟨cell_blk hgb 2 rfl, cell_blk hgb 3 rfl⟩
    | j + 2, hp => simp at hp, by
    intro p hp
    rcases List.mem_cons.1 hp with rfl | hp
    · exact ⟨by simp only; omega, by simp only; omega⟩
    · obtain rfl := List.mem_singleton.1 hp; exact ⟨by simp only; omega, by simp only; omega⟩⟩)
  obtain ⟨n, hn⟩ : ∃ n, n = la.length := ⟨_, rfl⟩
  obtain ⟨m, hm⟩ : ∃ m, m = lb.length := ⟨_, rfl⟩
  have HNM := Lib.hid (And.intro hn hm)
  rw [← hn] at HAB1 hla
  rw [← hm] at HAB2 hlb
  clear hma hata hsla hs2a hg2a hmb hatb hslb hs2b hg2b h hz ha hal hb hbl hca hcb hra hrb hres hn hm
  generalize xa.sl = sa at *
  generalize xa.gn = ga at *
  generalize xb.sl = sb at *
  generalize xb.gn = gb at *
  obtain ⟨V, hV⟩ : ∃ V, V = ((w.alloc (.cells #[.int .u32 (sa : Int), .int .u32 (ga : Int)] 31)).alloc (.cells #[.int .u32 (sb : Int), .int .u32 (gb : Int)] 31)).alloc (.cells #[.int .u32 (sa : Int), .int .u32 (ga : Int), .int .u32 (sb : Int), .int .u32 (gb : Int)] 31) := ⟨_, rfl⟩
  have bV : Below w.heap.size w V := by rw [hV]; exact alloc3_lo _ _ _ _
  have hx := alloc3_at w (.cells #[.int .u32 (sa : Int), .int .u32 (ga : Int)] 31) (.cells #[.int .u32 (sb : Int), .int .u32 (gb : Int)] 31) (.cells #[.int .u32 (sa : Int), .int .u32 (ga : Int), .int .u32 (sb : Int), .int .u32 (gb : Int)] 31)
  rw [← hV] at hx
  have HX := Lib.hid (And.intro hx bV)
  have HSW : Hid (∀ W, Below V.heap.size V W → (W.cell? ⟨w.heap.size, 0, none⟩ = some (.int .u32 (sa : Int)) ∧ W.cell? ⟨w.heap.size, 1, none⟩ = some (.int .u32 (ga : Int)) ∧ W.cell? ⟨w.heap.size + 1, 0, none⟩ = some (.int .u32 (sb : Int)) ∧ W.cell? ⟨w.heap.size + 1, 1, none⟩ = some (.int .u32 (gb : Int))) ∧ Below w.heap.size w W) := Lib.hid (fun W bb => by
    have h1 := (bb.block _ (lt_of_some HX.out.1.1)).trans HX.out.1.1
    have h2 := (bb.block _ (lt_of_some HX.out.1.2.1)).trans HX.out.1.2.1
    exact ⟨⟨cell_blk h1 0 rfl, cell_blk h1 1 rfl, cell_blk h2 0 rfl, cell_blk h2 1 rfl⟩, HX.out.2.trans (bb.mono HX.out.2.size)⟩)
  have HLL : Hid (Calls Tryd.prog 40 #[.pointer (some ⟨tb, 0, none⟩), .slice (some ⟨w.heap.size + 2, 0, none⟩) 2 2] V fun e w' => e = .returned (.int .i64 0) ∧ Below V.heap.size V w') := Lib.hid (HLI.out V _ HX.out.2 (HHR.out V _ HX.out.1.2.2))
  have hV2 := hV
  clear hV hx bV
  go_enter Tryd.func12, Tryd.ntmps12
  go_wp2_with fail
  rw [← hV2]
  clear hV2
  go_wp2_with (go_at_call 40; refine HLL.out.mono ?_; rintro e w1 ⟨rfl, b1⟩; have HB1 := Lib.hid b1; clear b1)
  go_region_held3 (fun W => (W.cell? ⟨w.heap.size, 0, none⟩ = some (.int .u32 (sa : Int)) ∧ W.cell? ⟨w.heap.size, 1, none⟩ = some (.int .u32 (ga : Int)) ∧ W.cell? ⟨w.heap.size + 1, 0, none⟩ = some (.int .u32 (sb : Int)) ∧ W.cell? ⟨w.heap.size + 1, 1, none⟩ = some (.int .u32 (gb : Int)))) (first | exact (HSW.out _ HB3.out).1 | exact (HSW.out _ HB2.out).1 | exact (HSW.out _ HB1.out.drew).1) (first | (have hh := HB2; go_at_call 41; refine (HAB2.out _ (HSW.out _ HB2.out).2).mono ?_; rintro e w3 ⟨g2, c2, rfl, hr2, b3⟩; have HB3 := Lib.hid (HB2.out.trans (b3.mono HB2.out.size)); have HR2 := Lib.hid (And.intro hr2 (row_below HR1.out b3))) | (go_at_call 41; refine (HAB1.out _ (HSW.out _ HB1.out.drew).2).mono ?_; rintro e w2 ⟨g1, c1, rfl, hr1, b2⟩; have HB2 := Lib.hid (HB1.out.drew.trans (b2.mono HB1.out.size)); have HR1 := Lib.hid hr1))
  have HCW : Hid (CW X.F la lb g1 g2 w3) := Lib.hid ⟨fun j k hj => hrow_cell HR2.out.2 HNM.out.1 hj, fun j k hj => hrow_cell HR2.out.1 HNM.out.2 hj⟩
  have HLOW : Hid (Below w.heap.size w w3) := Lib.hid (HSW.out _ HB3.out).2
  have hc1 : n ≤ c1 := (row_cap HR2.out.2).2.1
  have hc2 : m ≤ c2 := (row_cap HR2.out.1).2.1
  have HC1 := Lib.hid hc1
  have HC2 := Lib.hid hc2
  clear HB1 HB2 HB3 HR1 HR2 hh b2 b3 hr1 hr2 HX HLL HSW HLI HHR
  obtain ⟨p, hp, hpe⟩ : ∃ p, la[p]? = some ra ∧ n = p + 1 := by
    obtain ⟨t, ht⟩ := HCH.out.1.ne_nil
    refine ⟨la.length - 1, by rw [← List.getLast?_eq_getElem?]; exact HDL.out.1, ?_⟩
    rw [HNM.out.1, ht]; simp
  obtain ⟨q, hq, hqe⟩ : ∃ q, lb[q]? = some rb ∧ m = q + 1 := by
    obtain ⟨t, ht⟩ := HCH.out.2.ne_nil
    refine ⟨lb.length - 1, by rw [← List.getLast?_eq_getElem?]; exact HDL.out.2, ?_⟩
    rw [HNM.out.2, ht]; simp
  have hpn : p < n := by omega
  have hqm : q < m := by omega
  have wn : IntKind.i64.wrap ((n : Int) - 1) = (p : Int) := by rw [show ((n : Int) - 1) = (p : Int) by omega]; exact IntWalk.i64_in _ (by omega)
  have wm : IntKind.i64.wrap ((m : Int) - 1) = (q : Int) := by rw [show ((m : Int) - 1) = (q : Int) by omega]; exact IntWalk.i64_in _ (by omega)
  obtain ⟨x0, x1⟩ := HCW.out.1 p ra hp
  obtain ⟨y0, y1⟩ := HCW.out.2 q rb hq
  have lx := cell_lt x0
  have ly := cell_lt y0
  simp only at lx ly
  have hE := HT.out.rw.hd_inj (HLV.out.1 ra (List.mem_of_getElem? hp)) (HLV.out.2 rb (List.mem_of_getElem? hq))
  have HHE := Lib.hid hE
  clear hpe hqe hp hq hE
  by_cases hr : ra = rb
  · have q1 : hEq ((hd X.F (some ra)).1 : Int) ((hd X.F (some ra)).2 : Int) ((hd X.F (some rb)).1 : Int) ((hd X.F (some rb)).2 : Int) = true := by rw [HHE.out]; exact decide_eq_true hr
    have HR := Lib.hid hr
    have HRC := Lib.hid (HRES.out.2 hr)
    clear hr HRES HHE
    go_wp2_with fail
    go_quiet (fail)
    go_wp2_with fail
    clear x0 x1 y0 y1 q1 wn wm lx ly hpn hqm
    go_loopg [10, 11] n (fun k v10 v11 wr => ∃ (j : Nat), v10 = .slice (some ⟨g1, 0, none⟩) k c1 ∧ v11 = .slice (some ⟨g2, 0, none⟩) j c2 ∧ Hid (∃ xs ys s, Ways la lb xs ys s ∧ xs.length = k ∧ ys.length = j ∧ CW X.F la lb g1 g2 wr ∧ Below w.heap.size w wr))
    case atStart => exact ⟨m, rfl, rfl, Lib.hid ⟨la, lb, [], ⟨by simp, by simp⟩, HNM.out.1.symm, HNM.out.2.symm, HCW.out, below_drewN HLOW.out _⟩⟩
    case round =>
      obtain ⟨j, rfl, rfl, hw⟩ := hrel
      obtain ⟨xs, ys, s, hws, hxl, hyl, hcw, hlow⟩ := hw.out
      have HWS := Lib.hid (And.intro hws (And.intro hxl hyl))
      have HC := Lib.hid hcw
      have HLO := Lib.hid hlow
      have hkn : gk ≤ n := by have := congrArg List.length hws.a; simp at this; have := HNM.out.1; omega
      have hjm : j ≤ m := by have := congrArg List.length hws.b; simp at this; have := HNM.out.2; omega
      have hgl : la.getLast? = some ra ∧ lb.getLast? = some ra := ⟨HDL.out.1, by rw [HR.out]; exact HDL.out.2⟩
      have HG := Lib.hid hgl
      clear hw hws hcw hlow hgl
      by_cases hk0 : gk = 0
      · subst hk0
        have hxs : xs = [] := List.eq_nil_of_length_eq_zero hxl
        have hm := HWS.out.1.meet (F := X.F) HG.out.1 HG.out.2 (fun xs' p ys' q e _ => by rw [hxs] at e; simp at e)
        obtain ⟨k1, k2, k3, k4⟩ := cmp_meet HT.out.fok HCH.out.1 HCH.out.2 hm.1 hm.2
        by_cases hj0 : j = 0
        · subst hj0
          have HV : Hid (rc = 0) := Lib.hid (by rw [HRC.out.1]; exact k1 hxs (List.eq_nil_of_length_eq_zero hyl))
          clear k1 k2 k3 k4 hm hxs hxl hyl hkn hjm
          go_wp2_with fail
          go_quiet (fail)
          have hb3 := below_drewN HLO.out nq
          go_wp2_with fail
          try rw [Exit.noGoto_ret]
          go_ret3
          exact ⟨by rw [HRC.out.2, HV.out]; rfl, hb3⟩
        · have HV : Hid (rc = -1) := Lib.hid (by rw [HRC.out.1]; exact k2 hxs (fun e => hj0 (by rw [← hyl, e]; rfl)))
          have d1 : decide (0 < j) = true := by simp; omega
          have d2 : ((j : Int) == 0) = false := by simp; omega
          have d4 : ¬ (j = 0) := by omega
          have d3 : ¬ ((j : Int) = 0) := by omega
          clear k1 k2 k3 k4 hm hxs hxl hyl hkn hjm hj0
          go_wp2_with fail
          go_quiet (fail)
          have hb3 := below_drewN HLO.out nq
          go_wp2_with fail
          try rw [Exit.noGoto_ret]
          go_ret3
          exact ⟨by rw [HRC.out.2, HV.out]; rfl, hb3⟩
      · have e1 : decide (0 < gk) = true := by simp; omega
        have e2 : ((gk : Int) == 0) = false := by simp; omega
        have e4 : ¬ (gk = 0) := by omega
        have e3 : ¬ ((gk : Int) = 0) := by omega
        by_cases hj0 : j = 0
        · subst hj0
          have hys : ys = [] := List.eq_nil_of_length_eq_zero hyl
          have hm := HWS.out.1.meet (F := X.F) HG.out.1 HG.out.2 (fun xs' p ys' q _ e => by rw [hys] at e; simp at e)
          obtain ⟨k1, k2, k3, k4⟩ := cmp_meet HT.out.fok HCH.out.1 HCH.out.2 hm.1 hm.2
          have HV : Hid (rc = 1) := Lib.hid (by rw [HRC.out.1]; exact k3 (fun e => hk0 (by rw [← hxl, e]; rfl)) hys)
          clear k1 k2 k3 k4 hm hys hxl hyl hkn hjm hk0
          go_wp2_with fail
          go_quiet (fail)
          have hb3 := below_drewN HLO.out nq
          go_wp2_with fail
          try rw [Exit.noGoto_ret]
          go_ret3
          exact ⟨by rw [HRC.out.2, HV.out]; rfl, hb3⟩
        · have d1 : decide (0 < j) = true := by simp; omega
          have d2 : ((j : Int) == 0) = false := by simp; omega
          have d4 : ¬ (j = 0) := by omega
          have d3 : ¬ ((j : Int) = 0) := by omega
          obtain ⟨xs', p, hxp⟩ := last_ne (l := xs) (fun e => hk0 (by rw [← hxl, e]; rfl))
          obtain ⟨ys', q, hyp⟩ := last_ne (l := ys) (fun e => hj0 (by rw [← hyl, e]; rfl))
          obtain ⟨i1, hi1⟩ : ∃ i, i = xs'.length := ⟨_, rfl⟩
          obtain ⟨i2, hi2⟩ : ∃ i, i = ys'.length := ⟨_, rfl⟩
          have hpa : la[i1]? = some p := by rw [HWS.out.1.a, hxp, hi1]; simp
          have hqb : lb[i2]? = some q := by rw [HWS.out.1.b, hyp, hi2]; simp
          obtain ⟨x0, x1⟩ := HC.out.1 i1 p hpa
          obtain ⟨y0, y1⟩ := HC.out.2 i2 q hqb
          have hg1 : gk = i1 + 1 := by rw [← hxl, hxp, hi1]; simp
          have hg2 : j = i2 + 1 := by rw [← hyl, hyp, hi2]; simp
          have lx := cell_lt x0
          have ly := cell_lt y0
          simp only at lx ly
          have l1 : i1 < gk := by omega
          have l2 : i2 < j := by omega
          have l3 : i1 ≤ c1 := by omega
          have l4 : i2 ≤ c2 := by omega
          have wn : IntKind.i64.wrap ((gk : Int) - 1) = (i1 : Int) := by rw [show ((gk : Int) - 1) = (i1 : Int) by omega]; exact IntWalk.i64_in _ (by omega)
          have wm : IntKind.i64.wrap ((j : Int) - 1) = (i2 : Int) := by rw [show ((j : Int) - 1) = (i2 : Int) by omega]; exact IntWalk.i64_in _ (by omega)
          have hpl := HLV.out.1 p (List.mem_of_getElem? hpa)
          have hql := HLV.out.2 q (List.mem_of_getElem? hqb)
          have hE := HT.out.rw.hd_inj hpl hql
          by_cases hpq : p = q
          · have q1 : hEq ((hd X.F (some p)).1 : Int) ((hd X.F (some p)).2 : Int) ((hd X.F (some q)).1 : Int) ((hd X.F (some q)).2 : Int) = true := by rw [hE]; exact decide_eq_true hpq
            have HNX : Hid (Ways la lb xs' ys' (p :: s) ∧ xs'.length = i1 ∧ ys'.length = i2) := Lib.hid ⟨by
              have := HWS.out.1
              rw [hxp, hyp, ← hpq] at this
              exact this.next, hi1.symm, hi2.symm⟩
            have HM : Hid (i1 < gk) := Lib.hid l1
            clear hxp hyp hpa hqb hg1 hg2 hpl hql hE hpq hi1 hi2 hxl hyl hk0 hj0
            go_wp2_with fail
            go_quiet (fail)
            go_wp2_with fail
            go_quiet (fail)
            go_wp2_with fail
            go_roundg i1
            case measure => exact HM.out
            case rel => exact ⟨i2, by go_num, by go_num, Lib.hid ⟨xs', ys', p :: s, HNX.out.1, HNX.out.2.1, HNX.out.2.2, HC.out, below_drewN (below_drewN HLO.out _) _⟩⟩
          · have q1 : hEq ((hd X.F (some p)).1 : Int) ((hd X.F (some p)).2 : Int) ((hd X.F (some q)).1 : Int) ((hd X.F (some q)).2 : Int) = false := by rw [hE]; exact decide_eq_false hpq
            have hm := HWS.out.1.meet (F := X.F) HG.out.1 HG.out.2 (fun xs'' p' ys'' q' e f h => hpq (by
              rw [hxp] at e; rw [hyp] at f
              have e := List.append_inj' e rfl
              have f := List.append_inj' f rfl
              simp at e f
              rw [e.2, f.2, h]))
            obtain ⟨k1, k2, k3, k4⟩ := cmp_meet HT.out.fok HCH.out.1 HCH.out.2 hm.1 hm.2
            have k4 := k4 xs' p ys' q hxp hyp
            have HAQ : Hid (∀ W, Below w.heap.size w W → Calls Tryd.prog 42 #[.pointer (some ⟨tb, 0, none⟩), .agg #[.int .u32 ((hd X.F (some p)).1 : Int), .int .u32 ((hd X.F (some p)).2 : Int)], .agg #[.int .u32 ((hd X.F (some q)).1 : Int), .int .u32 ((hd X.F (some q)).2 : Int)]] W fun e w' => e = .returned (.bool (decide (idxF X.F p < idxF X.F q))) ∧ Below W.heap.size W w') := Lib.hid (HAH.out p q hpl hql)
            have HS4 := Lib.hid (And.intro x0 (And.intro x1 (And.intro y0 y1)))
            clear k1 k2 k3 hm hxp hyp hpa hqb hg1 hg2 hpl hql hE hpq hi1 hi2 hxl hyl hk0 hj0
            by_cases hix : idxF X.F p < idxF X.F q
            · have HV : Hid (rc = -1) := Lib.hid (by rw [HRC.out.1, k4, if_pos hix])
              rw [decide_eq_true hix] at HAQ
              clear k4 hix
              go_wp2_with fail
              go_quiet (fail)
              have HB3 := Lib.hid (below_drewN HLO.out nq)
              have HS5 : Hid (∀ W, Below wr.heap.size wr W → (fun W => W.cell? ⟨g1, i1 * 2, none⟩ = some (.int .u32 ((hd X.F (some p)).1 : Int)) ∧ W.cell? ⟨g1, i1 * 2 + 1, none⟩ = some (.int .u32 ((hd X.F (some p)).2 : Int)) ∧ W.cell? ⟨g2, i2 * 2, none⟩ = some (.int .u32 ((hd X.F (some q)).1 : Int)) ∧ W.cell? ⟨g2, i2 * 2 + 1, none⟩ = some (.int .u32 ((hd X.F (some q)).2 : Int))) W) := Lib.hid (fun W b => ⟨(b.cell (p := ⟨g1, i1 * 2, none⟩) lx).trans HS4.out.1, (b.cell (p := ⟨g1, i1 * 2 + 1, none⟩) lx).trans HS4.out.2.1, (b.cell (p := ⟨g2, i2 * 2, none⟩) ly).trans HS4.out.2.2.1, (b.cell (p := ⟨g2, i2 * 2 + 1, none⟩) ly).trans HS4.out.2.2.2⟩)
              go_wp2_with fail
              go_region_held3 (fun W => W.cell? ⟨g1, i1 * 2, none⟩ = some (.int .u32 ((hd X.F (some p)).1 : Int)) ∧ W.cell? ⟨g1, i1 * 2 + 1, none⟩ = some (.int .u32 ((hd X.F (some p)).2 : Int)) ∧ W.cell? ⟨g2, i2 * 2, none⟩ = some (.int .u32 ((hd X.F (some q)).1 : Int)) ∧ W.cell? ⟨g2, i2 * 2 + 1, none⟩ = some (.int .u32 ((hd X.F (some q)).2 : Int))) (first | exact HS5.out _ HB5.out | exact HS4.out) (first | (go_at_call 42; refine (HAQ.out _ HB3.out.drew).mono ?_; rintro e w5 ⟨rfl, b5⟩; have HB5 := Lib.hid ((below_drewN (Below.refl wr.heap.size wr) nq).drew.trans b5); have HB6 := Lib.hid (HB3.out.drew.trans (b5.mono HB3.out.size))))
              go_wp2_with fail
              try rw [Exit.noGoto_ret]
              go_ret3
              exact ⟨by rw [HRC.out.2, HV.out]; rfl, HB6.out⟩
            · have HV : Hid (rc = 1) := Lib.hid (by rw [HRC.out.1, k4, if_neg hix])
              rw [decide_eq_false hix] at HAQ
              clear k4 hix
              go_wp2_with fail
              go_quiet (fail)
              have HB3 := Lib.hid (below_drewN HLO.out nq)
              have HS5 : Hid (∀ W, Below wr.heap.size wr W → (fun W => W.cell? ⟨g1, i1 * 2, none⟩ = some (.int .u32 ((hd X.F (some p)).1 : Int)) ∧ W.cell? ⟨g1, i1 * 2 + 1, none⟩ = some (.int .u32 ((hd X.F (some p)).2 : Int)) ∧ W.cell? ⟨g2, i2 * 2, none⟩ = some (.int .u32 ((hd X.F (some q)).1 : Int)) ∧ W.cell? ⟨g2, i2 * 2 + 1, none⟩ = some (.int .u32 ((hd X.F (some q)).2 : Int))) W) := Lib.hid (fun W b => ⟨(b.cell (p := ⟨g1, i1 * 2, none⟩) lx).trans HS4.out.1, (b.cell (p := ⟨g1, i1 * 2 + 1, none⟩) lx).trans HS4.out.2.1, (b.cell (p := ⟨g2, i2 * 2, none⟩) ly).trans HS4.out.2.2.1, (b.cell (p := ⟨g2, i2 * 2 + 1, none⟩) ly).trans HS4.out.2.2.2⟩)
              go_wp2_with fail
              go_region_held3 (fun W => W.cell? ⟨g1, i1 * 2, none⟩ = some (.int .u32 ((hd X.F (some p)).1 : Int)) ∧ W.cell? ⟨g1, i1 * 2 + 1, none⟩ = some (.int .u32 ((hd X.F (some p)).2 : Int)) ∧ W.cell? ⟨g2, i2 * 2, none⟩ = some (.int .u32 ((hd X.F (some q)).1 : Int)) ∧ W.cell? ⟨g2, i2 * 2 + 1, none⟩ = some (.int .u32 ((hd X.F (some q)).2 : Int))) (first | exact HS5.out _ HB5.out | exact HS4.out) (first | (go_at_call 42; refine (HAQ.out _ HB3.out.drew).mono ?_; rintro e w5 ⟨rfl, b5⟩; have HB5 := Lib.hid ((below_drewN (Below.refl wr.heap.size wr) nq).drew.trans b5); have HB6 := Lib.hid (HB3.out.drew.trans (b5.mono HB3.out.size))))
              go_wp2_with fail
              try rw [Exit.noGoto_ret]
              go_ret3
              exact ⟨by rw [HRC.out.2, HV.out]; rfl, HB6.out⟩
  · have q1 : hEq ((hd X.F (some ra)).1 : Int) ((hd X.F (some ra)).2 : Int) ((hd X.F (some rb)).1 : Int) ((hd X.F (some rb)).2 : Int) = false := by rw [HHE.out]; exact decide_eq_false hr
    have HRC := Lib.hid (HRES.out.1 hr)
    clear hr HRES HHE
    go_wp2_with fail
    go_quiet (fail)
    go_wp2_with fail
    go_ret3
    exact ⟨by rw [HRC.out.1, HRC.out.2]; rfl, below_drewN HLOW.out _⟩
end
end Go.Proofs.YtelhnaphkbpakaaDoor
