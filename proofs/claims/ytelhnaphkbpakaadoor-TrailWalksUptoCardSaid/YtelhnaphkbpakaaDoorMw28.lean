/- The lowest one that has two nodes: the first of the one's way up that lies in the other's. No program. trail.Common over a tree in memory: the lowest one that has both. trail's Contains, within, Next over a tree in memory, of nodes that live. trail's functions of two handles, one of them of no node that lives. trail's within, Next, Prev, Size where there is nothing to tell. The node ahead of another one in the order: the last one of what its sibling ahead has, or its parent. No program. trail.Prev over a tree in memory, of nodes that live. -/
import Derived.Test.YtelhnaphkbpakaaDoorMw27
namespace Go.Proofs.YtelhnaphkbpakaaDoor
set_option linter.unusedVariables false

/-- Ahead of where two ways part none lies in the other. -/
theorem parted {F : For} {a b : Nat} {la lb xs ys s : List Nat} (ha : Chain F a la) (hb : Chain F b lb) (hw : Ways la lb xs ys s) (ht : ∀ xs' p ys' q, xs = xs' ++ [p] → ys = ys' ++ [q] → p ≠ q) : ∀ u ∈ xs, u ∉ lb := by
  intro u hu hm
  obtain ⟨x1, x2, e1⟩ := List.append_of_mem hu
  obtain ⟨y1, y2, e2⟩ := List.append_of_mem hm
  have h1 : Chain F u (u :: (x2 ++ s)) := ha.at (a := x1) (b := x2 ++ s) (by rw [hw.a, e1]; simp)
  have h2 : Chain F u (u :: y2) := hb.at e2
  have h3 : x2 ++ s = y2 := by have := h1.det h2; injection this
  subst h3
  have h4 : ys ++ s = (y1 ++ u :: x2) ++ s := by rw [← hw.b, e2]; simp
  have h5 : ys = y1 ++ u :: x2 := List.append_cancel_right h4
  obtain ⟨t, z, e⟩ := last_ne (l := u :: x2) (by simp)
  exact ht (x1 ++ t) z (y1 ++ t) z (by rw [e1, e]; simp) (by rw [h5, e]; simp) rfl
/-- The first of the one's way up that lies in the other's. -/
theorem common_find {F : For} {a b : Nat} {la lb xs ys s : List Nat} (ha : Chain F a la) (hb : Chain F b lb) (hw : Ways la lb xs ys s) (ht : ∀ xs' p ys' q, xs = xs' ++ [p] → ys = ys' ++ [q] → p ≠ q) : la.find? (fun u => decide (u ∈ lb)) = s.head? := by
  have hn := parted ha hb hw ht
  rw [hw.a, List.find?_append]
  have h0 : xs.find? (fun u => decide (u ∈ lb)) = none := List.find?_eq_none.2 (fun u hu => by simpa using hn u hu)
  rw [h0, Option.none_or]
  cases s with
  | nil => rfl
  | cons v t => rw [List.find?_cons_of_pos (by rw [hw.b]; simp)]; rfl
/-- Walked from the front on: what was passed does not lie in the other's way. -/
theorem find_at {la lb p q : List Nat} {u : Nat} (h : la = p ++ u :: q) (hp : ∀ x ∈ p, x ∉ lb) (hu : u ∈ lb) : la.find? (fun u => decide (u ∈ lb)) = some u := by
  rw [h, List.find?_append]
  have h0 : p.find? (fun u => decide (u ∈ lb)) = none := List.find?_eq_none.2 (fun u hu => by simpa using hp u hu)
  rw [h0, Option.none_or, List.find?_cons_of_pos (by simpa using hu)]
theorem find_none {la lb : List Nat} (hp : ∀ x ∈ la, x ∉ lb) : la.find? (fun u => decide (u ∈ lb)) = none := List.find?_eq_none.2 (fun u hu => by simpa using hp u hu)
end Go.Proofs.YtelhnaphkbpakaaDoor

namespace Go.Proofs.YtelhnaphkbpakaaDoor
open Go.RowKit
set_option linter.unusedVariables false
set_option maxRecDepth 100000

theorem alloc4_at (w : World) (a b c d : Obj) : ((((w.alloc a).alloc b).alloc c).alloc d).heap[w.heap.size]? = some a ∧ ((((w.alloc a).alloc b).alloc c).alloc d).heap[w.heap.size + 1]? = some b ∧ ((((w.alloc a).alloc b).alloc c).alloc d).heap[w.heap.size + 2]? = some c ∧ ((((w.alloc a).alloc b).alloc c).alloc d).heap[w.heap.size + 3]? = some d := by
  obtain ⟨h1, h2, h3⟩ := alloc3_at w a b c
  refine ⟨alloc_blk h1 d, alloc_blk h2 d, alloc_blk h3 d, ?_⟩
  have := Go.heap_alloc_new (((w.alloc a).alloc b).alloc c) d
  simpa using this
theorem CW.set {F : For} {la lb : List Nat} {g1 g2 : Nat} {W : World} (h : CW F la lb g1 g2 W) (a : Addr) (v : Value) (h1 : g1 ≠ a.block) (h2 : g2 ≠ a.block) : CW F la lb g1 g2 (W.setCell a v) :=
  ⟨fun j k hj => ⟨(set_cell_ne v h1).trans (h.1 j k hj).1, (set_cell_ne v h1).trans (h.1 j k hj).2⟩, fun j k hj => ⟨(set_cell_ne v h2).trans (h.2 j k hj).1, (set_cell_ne v h2).trans (h.2 j k hj).2⟩⟩
theorem CW.below {F : For} {la lb : List Nat} {g1 g2 : Nat} {W W' : World} (h : CW F la lb g1 g2 W) (b : Below W.heap.size W W') : CW F la lb g1 g2 W' :=
  ⟨fun j k hj => ⟨(b.cell (p := ⟨g1, j * 2, none⟩) (cell_lt (h.1 j k hj).1)).trans (h.1 j k hj).1, (b.cell (p := ⟨g1, j * 2 + 1, none⟩) (cell_lt (h.1 j k hj).2)).trans (h.1 j k hj).2⟩, fun j k hj => ⟨(b.cell (p := ⟨g2, j * 2, none⟩) (cell_lt (h.2 j k hj).1)).trans (h.2 j k hj).1, (b.cell (p := ⟨g2, j * 2 + 1, none⟩) (cell_lt (h.2 j k hj).2)).trans (h.2 j k hj).2⟩⟩
/-- What holds at the head of a round of Common. -/
structure CmR (F : For) (w : World) (la lb : List Nat) (g1 g2 L0 k j : Nat) (W : World) (xs ys s : List Nat) : Prop where
  ways : Ways la lb xs ys s
  xl : xs.length = k
  yl : ys.length = j
  cw : CW F la lb g1 g2 W
  low : Below w.heap.size w W
  box : W.heap[L0]? = some (.cells #[.int .u32 ((hd F s.head?).1 : Int), .int .u32 ((hd F s.head?).2 : Int)] 31 (0, 0))
  res : W.heap[w.heap.size + 1 + 1]? = some (.cells #[.int .u32 0, .int .u32 0] 31 (0, 0))

section
variable {B : Nat} {Q : Nat → Prop} {w w' : World} {tb : Nat} {X : TX}
set_option maxHeartbeats 8000000 in
theorem commonT_calls (h : TreeAt B Q w tb X) (hz : NoneAt w) {ka kb : Nat} {xa xb : FN} (ha : X.F[ka]? = some xa) (hal : xa.live = true) (hb : X.F[kb]? = some xb) (hbl : xb.live = true) {la lb : List Nat} (hca : Chain X.F ka la) (hcb : Chain X.F kb lb) {ro : Option Nat} (hres : ro = la.find? (fun u => decide (u ∈ lb))) :
    Calls Tryd.prog 15 #[.pointer (some ⟨tb, 0, none⟩), .agg #[.int .u32 (xa.sl : Int), .int .u32 (xa.gn : Int)], .agg #[.int .u32 (xb.sl : Int), .int .u32 (xb.gn : Int)]] w fun e w' => e = .returned (.tuple #[.agg #[.int .u32 ((hd X.F ro).1 : Int), .int .u32 ((hd X.F ro).2 : Int)], .int .i64 0]) ∧ Below w.heap.size w w' := by
  have HT := Lib.hid h
  have HZ := Lib.hid hz
  have HRES := Lib.hid hres
  have HCH := Lib.hid (And.intro hca hcb)
  have HLV : Hid ((∀ m ∈ la, ∃ y : FN, X.F[m]? = some y ∧ y.live = true) ∧ (∀ m ∈ lb, ∃ y : FN, X.F[m]? = some y ∧ y.live = true)) := Lib.hid ⟨hca.lives h.fok ha hal, hcb.lives h.fok hb hbl⟩
  have HAB1 : Hid (∀ W, Below w.heap.size w W → Calls Tryd.prog 41 #[.pointer (some ⟨tb, 0, none⟩), .agg #[.int .u32 (xa.sl : Int), .int .u32 (xa.gn : Int)]] W fun e w' => ∃ g c, e = .returned (.slice (some ⟨g, 0, none⟩) la.length c) ∧ w'.ownsRow W.heap.size 31 2 (.slice (some ⟨g, 0, none⟩) la.length c) la.length (hcells X.F la) ∧ Below W.heap.size W w') := Lib.hid (fun W b => (above_calls (h.below b) (hz.below b) ha hal hca).mono (by
    rintro e w' ⟨v, rfl, h1, h2⟩
    obtain ⟨g, c, rfl⟩ := row_pos h1 (by obtain ⟨t, ht⟩ := hca.ne_nil; rw [ht]; simp)
    exact ⟨g, c, rfl, h1, h2⟩))
  have HAB2 : Hid (∀ W, Below w.heap.size w W → Calls Tryd.prog 41 #[.pointer (some ⟨tb, 0, none⟩), .agg #[.int .u32 (xb.sl : Int), .int .u32 (xb.gn : Int)]] W fun e w' => ∃ g c, e = .returned (.slice (some ⟨g, 0, none⟩) lb.length c) ∧ w'.ownsRow W.heap.size 31 2 (.slice (some ⟨g, 0, none⟩) lb.length c) lb.length (hcells X.F lb) ∧ Below W.heap.size W w') := Lib.hid (fun W b => (above_calls (h.below b) (hz.below b) hb hbl hcb).mono (by
    rintro e w' ⟨v, rfl, h1, h2⟩
    obtain ⟨g, c, rfl⟩ := row_pos h1 (by obtain ⟨t, ht⟩ := hcb.ne_nil; rw [ht]; simp)
    exact ⟨g, c, rfl, h1, h2⟩))
  obtain ⟨nba, Pa, hma, hata, hsla, hs2a, hg2a⟩ := h.rw.at_live ha hal
  obtain ⟨nbb, Pb, hmb, hatb, hslb, hs2b, hg2b⟩ := h.rw.at_live hb hbl
  have HLI : Hid (∀ W gb, Below w.heap.size w W → HRow W gb [(xa.sl, xa.gn), (xb.sl, xb.gn)] → Calls Tryd.prog 40 #[.pointer (some ⟨tb, 0, none⟩), .slice (some ⟨gb, 0, none⟩) 2 2] W fun e w' => e = .returned (.int .i64 0) ∧ Below W.heap.size W w') := Lib.hid (fun W gb b hr => lives_calls (h.rw.below b) hr (by simp) (.inl ⟨rfl, by
    intro p hp
    rcases List.mem_cons.1 hp with rfl | hp
    · exact ⟨ka, xa, ha, hal, rfl, rfl⟩
    · obtain rfl := List.mem_singleton.1 hp; exact ⟨kb, xb, hb, hbl, rfl, rfl⟩⟩))
  have hbig := h.rw.big
  have hla := hca.len
  have hlb := hcb.len
  have hl0 : 0 < la.length ∧ 0 < lb.length := by
    obtain ⟨t, ht⟩ := hca.ne_nil
    obtain ⟨u, hu⟩ := hcb.ne_nil
    rw [ht, hu]; simp
  have HHR : Hid (∀ W gb, W.heap[gb]? = some (.cells #[.int .u32 (xa.sl : Int), .int .u32 (xa.gn : Int), .int .u32 (xb.sl : Int), .int .u32 (xb.gn : Int)] 31 (0, 0)) → HRow W gb [(xa.sl, xa.gn), (xb.sl, xb.gn)]) := Lib.hid (fun W gb hgb => ⟨fun j p hp => by
    match j, hp with
    | 0, hp => cases hp; exact ⟨cell_blk hgb 0 rfl, cell_blk hgb 1 rfl⟩
    | 1, hp => cases hp; exact ⟨cell_blk hgb 2 rfl, cell_blk hgb 3 rfl⟩
    | j + 2, hp => simp at hp, by
    intro p hp
    rcases List.mem_cons.1 hp with rfl | hp
    · exact ⟨by simp only; omega, by simp only; omega⟩
    · obtain rfl := List.mem_singleton.1 hp; exact ⟨by simp only; omega, by simp only; omega⟩⟩)
  obtain ⟨n, hn⟩ : ∃ n, n = la.length := ⟨_, rfl⟩
  obtain ⟨m, hm⟩ : ∃ m, m = lb.length := ⟨_, rfl⟩
  have HNM := Lib.hid (And.intro hn hm)
  have HL0 := Lib.hid hl0
  rw [← hn] at HAB1 hla
  rw [← hm] at HAB2 hlb
  clear hma hata hsla hs2a hg2a hmb hatb hslb hs2b hg2b h hz ha hal hb hbl hca hcb hres hn hm hl0
  generalize xa.sl = sa at *
  generalize xa.gn = ga at *
  generalize xb.sl = sb at *
  generalize xb.gn = gb at *
  obtain ⟨V, hV⟩ : ∃ V, V = (((w.alloc (.cells #[.int .u32 (sa : Int), .int .u32 (ga : Int)] 31)).alloc (.cells #[.int .u32 (sb : Int), .int .u32 (gb : Int)] 31)).alloc (.cells #[.int .u32 0, .int .u32 0] 31)).alloc (.cells #[.int .u32 (sa : Int), .int .u32 (ga : Int), .int .u32 (sb : Int), .int .u32 (gb : Int)] 31) := ⟨_, rfl⟩
  have bV : Below w.heap.size w V := by rw [hV]; exact (alloc3_lo _ _ _ _).alloc (by simp; omega) _
  have hx := alloc4_at w (.cells #[.int .u32 (sa : Int), .int .u32 (ga : Int)] 31) (.cells #[.int .u32 (sb : Int), .int .u32 (gb : Int)] 31) (.cells #[.int .u32 0, .int .u32 0] 31) (.cells #[.int .u32 (sa : Int), .int .u32 (ga : Int), .int .u32 (sb : Int), .int .u32 (gb : Int)] 31)
  rw [← hV] at hx
  have HX := Lib.hid (And.intro hx bV)
  have HSW : Hid (∀ W, Below V.heap.size V W → (W.cell? ⟨w.heap.size, 0, none⟩ = some (.int .u32 (sa : Int)) ∧ W.cell? ⟨w.heap.size, 1, none⟩ = some (.int .u32 (ga : Int)) ∧ W.cell? ⟨w.heap.size + 1, 0, none⟩ = some (.int .u32 (sb : Int)) ∧ W.cell? ⟨w.heap.size + 1, 1, none⟩ = some (.int .u32 (gb : Int))) ∧ Below w.heap.size w W ∧ W.heap[w.heap.size + 1 + 1]? = some (.cells #[.int .u32 0, .int .u32 0] 31 (0, 0))) := Lib.hid (fun W bb => by
    have h1 := (bb.block _ (lt_of_some HX.out.1.1)).trans HX.out.1.1
    have h2 := (bb.block _ (lt_of_some HX.out.1.2.1)).trans HX.out.1.2.1
    have h3 := (bb.block _ (lt_of_some HX.out.1.2.2.1)).trans HX.out.1.2.2.1
    exact ⟨⟨cell_blk h1 0 rfl, cell_blk h1 1 rfl, cell_blk h2 0 rfl, cell_blk h2 1 rfl⟩, HX.out.2.trans (bb.mono HX.out.2.size), h3⟩)
  have HLL : Hid (Calls Tryd.prog 40 #[.pointer (some ⟨tb, 0, none⟩), .slice (some ⟨w.heap.size + 3, 0, none⟩) 2 2] V fun e w' => e = .returned (.int .i64 0) ∧ Below V.heap.size V w') := Lib.hid (HLI.out V _ HX.out.2 (HHR.out V _ HX.out.1.2.2.2))
  have hV2 := hV
  clear hV hx bV
  go_enter Tryd.func15, Tryd.ntmps15
  go_wp2_with fail
  rw [← hV2]
  clear hV2
  go_wp2_with (go_at_call 40; refine HLL.out.mono ?_; rintro e w1 ⟨rfl, b1⟩; have HB1 := Lib.hid b1; clear b1)
  go_region_held3 (fun W => (W.cell? ⟨w.heap.size, 0, none⟩ = some (.int .u32 (sa : Int)) ∧ W.cell? ⟨w.heap.size, 1, none⟩ = some (.int .u32 (ga : Int)) ∧ W.cell? ⟨w.heap.size + 1, 0, none⟩ = some (.int .u32 (sb : Int)) ∧ W.cell? ⟨w.heap.size + 1, 1, none⟩ = some (.int .u32 (gb : Int)))) (first | exact (HSW.out _ HB3.out).1 | exact (HSW.out _ HB2.out).1 | exact (HSW.out _ HB1.out.drew).1) (first | (have hh := HB2; go_at_call 41; refine (HAB2.out _ (HSW.out _ HB2.out).2.1).mono ?_; rintro e w3 ⟨g2, c2, rfl, hr2, b3⟩; have HB3 := Lib.hid (HB2.out.trans (b3.mono HB2.out.size)); have HR2 := Lib.hid (And.intro hr2 (row_below HR1.out b3))) | (go_at_call 41; refine (HAB1.out _ (HSW.out _ HB1.out.drew).2.1).mono ?_; rintro e w2 ⟨g1, c1, rfl, hr1, b2⟩; have HB2 := Lib.hid (HB1.out.drew.trans (b2.mono HB1.out.size)); have HR1 := Lib.hid hr1))
  have HCW : Hid (CW X.F la lb g1 g2 w3) := Lib.hid ⟨fun j k hj => hrow_cell HR2.out.2 HNM.out.1 hj, fun j k hj => hrow_cell HR2.out.1 HNM.out.2 hj⟩
  have HLOW : Hid (Below w.heap.size w w3) := Lib.hid (HSW.out _ HB3.out).2.1
  have HZR : Hid (w3.heap[w.heap.size + 1 + 1]? = some (.cells #[.int .u32 0, .int .u32 0] 31 (0, 0))) := Lib.hid (HSW.out _ HB3.out).2.2
  have hc1 : n ≤ c1 := (row_cap HR2.out.2).2.1
  have hc2 : m ≤ c2 := (row_cap HR2.out.1).2.1
  have HC1 := Lib.hid hc1
  have HC2 := Lib.hid hc2
  have HGL : Hid (g1 < w3.heap.size ∧ g2 < w3.heap.size) := Lib.hid ⟨by
    obtain ⟨c, hc⟩ : ∃ c, la[0]? = some c := ⟨_, List.getElem?_eq_getElem HL0.out.1⟩
    exact cell_lt (HCW.out.1 0 c hc).1, by
    obtain ⟨c, hc⟩ : ∃ c, lb[0]? = some c := ⟨_, List.getElem?_eq_getElem HL0.out.2⟩
    exact cell_lt (HCW.out.2 0 c hc).1⟩
  have n0 := (HZ.out.below HLOW.out).a
  have n1 := (HZ.out.below HLOW.out).b
  have nl := cell_lt n0
  clear HB1 HB2 HB3 HR1 HR2 hh b2 b3 hr1 hr2 HX HLL HSW HLI HHR
  go_wp2_with fail
  clear n0 n1 nl
  go_loopg [9, 10] n (fun k v9 v10 wr => ∃ (j : Nat) (xs ys s : List Nat), v9 = .slice (some ⟨g1, 0, none⟩) k c1 ∧ v10 = .slice (some ⟨g2, 0, none⟩) j c2 ∧ Hid (CmR X.F w la lb g1 g2 w3.heap.size k j wr xs ys s))
  case atStart => exact ⟨m, la, lb, [], rfl, rfl, Lib.hid ⟨⟨by simp, by simp⟩, HNM.out.1.symm, HNM.out.2.symm, HCW.out.below ((Below.refl _ w3).alloc (Nat.le_refl _) _), HLOW.out.alloc HLOW.out.size _, Go.heap_alloc_new w3 _, alloc_blk HZR.out _⟩⟩
  case round =>
    obtain ⟨j, xs, ys, s, rfl, rfl, hw⟩ := hrel
    have hws := hw.out.ways
    have hxl := hw.out.xl
    have hyl := hw.out.yl
    have HLO := Lib.hid hw.out.low
    have HC := Lib.hid hw.out.cw
    have HRS := Lib.hid hw.out.res
    have hkn : gk ≤ n := by have := congrArg List.length hws.a; simp at this; have := HNM.out.1; omega
    have hjm : j ≤ m := by have := congrArg List.length hws.b; simp at this; have := HNM.out.2; omega
    obtain ⟨hs, hhs⟩ : ∃ x, x = (hd X.F s.head?).1 := ⟨_, rfl⟩
    obtain ⟨hg, hhg⟩ : ∃ x, x = (hd X.F s.head?).2 := ⟨_, rfl⟩
    have HBX : Hid (wr.heap[w3.heap.size]? = some (.cells #[.int .u32 (hs : Int), .int .u32 (hg : Int)] 31 (0, 0))) := Lib.hid (by rw [hhs, hhg]; exact hw.out.box)
    have HSG : Hid (Ending.returned (.tuple #[.agg #[.int .u32 (hs : Int), .int .u32 (hg : Int)], .int .i64 0]) = Ending.returned (.tuple #[.agg #[.int .u32 ((hd X.F s.head?).1 : Int), .int .u32 ((hd X.F s.head?).2 : Int)], .int .i64 0])) := Lib.hid (by rw [hhs, hhg])
    have HEX : Hid ((∀ xs' p ys' q, xs = xs' ++ [p] → ys = ys' ++ [q] → p ≠ q) → ro = s.head?) := Lib.hid (fun ht => by rw [HRES.out]; exact common_find HCH.out.1 HCH.out.2 hw.out.ways ht)
    clear hw hhs hhg
    by_cases hk0 : gk = 0
    · subst hk0
      have hxs : xs = [] := List.eq_nil_of_length_eq_zero hxl
      have HV : Hid (ro = s.head?) := Lib.hid (HEX.out (fun xs' p ys' q e _ => by rw [hxs] at e; simp at e))
      clear hxs hws hxl hyl hkn hjm HEX
      go_wp2_with fail
      go_quiet (fail)
      have hbx : (wr.drewN nq).heap[w3.heap.size]? = some (.cells #[.int .u32 (hs : Int), .int .u32 (hg : Int)] 31 (0, 0)) := HBX.out
      have hrs : (wr.drewN nq).heap[w.heap.size + 1 + 1]? = some (.cells #[.int .u32 0, .int .u32 0] 31 (0, 0)) := HRS.out
      have z0 := cell_blk hbx 0 rfl
      have z1 := cell_blk hbx 1 rfl
      have r0 := cell_blk hrs 0 rfl
      have r1 := cell_blk hrs 1 rfl
      have f0 := free_blk hrs 0
      have f1 := free_blk hrs 1
      have lz := lt_of_some hbx
      have lr := lt_of_some hrs
      have hb3 := below_drewN HLO.out nq
      have hF := set_blk (set_blk hrs 0 (.int .u32 (hs : Int))) 1 (.int .u32 (hg : Int))
      have HF := Lib.hid hF
      clear hbx hrs hF
      go_wp2_with fail
      have y0' := cell_blk HF.out 0 rfl
      have y1' := cell_blk HF.out 1 rfl
      try rw [Exit.noGoto_ret]
      exact bodyPost_ret (v := .tuple #[.agg #[.int .u32 (hs : Int), .int .u32 (hg : Int)], .int .i64 0]) (by simp [results, Tryd.results15, go_sem, y0', y1']) rfl ⟨by rw [HV.out]; exact HSG.out, (hb3.setCell (by show w.heap.size ≤ w.heap.size + 1 + 1; omega) _).setCell (by show w.heap.size ≤ w.heap.size + 1 + 1; omega) _⟩
    · have e1 : decide (0 < gk) = true := by simp; omega
      have e4 : ¬ (gk = 0) := by omega
      by_cases hj0 : j = 0
      · subst hj0
        have hys : ys = [] := List.eq_nil_of_length_eq_zero hyl
        have HV : Hid (ro = s.head?) := Lib.hid (HEX.out (fun xs' p ys' q _ e => by rw [hys] at e; simp at e))
        clear hys hws hxl hyl hkn hjm HEX hk0
        go_wp2_with fail
        go_quiet (fail)
        have hbx : (wr.drewN nq).heap[w3.heap.size]? = some (.cells #[.int .u32 (hs : Int), .int .u32 (hg : Int)] 31 (0, 0)) := HBX.out
        have hrs : (wr.drewN nq).heap[w.heap.size + 1 + 1]? = some (.cells #[.int .u32 0, .int .u32 0] 31 (0, 0)) := HRS.out
        have z0 := cell_blk hbx 0 rfl
        have z1 := cell_blk hbx 1 rfl
        have r0 := cell_blk hrs 0 rfl
        have r1 := cell_blk hrs 1 rfl
        have f0 := free_blk hrs 0
        have f1 := free_blk hrs 1
        have lz := lt_of_some hbx
        have lr := lt_of_some hrs
        have hb3 := below_drewN HLO.out nq
        have hF := set_blk (set_blk hrs 0 (.int .u32 (hs : Int))) 1 (.int .u32 (hg : Int))
        have HF := Lib.hid hF
        clear hbx hrs hF
        go_wp2_with fail
        have y0' := cell_blk HF.out 0 rfl
        have y1' := cell_blk HF.out 1 rfl
        try rw [Exit.noGoto_ret]
        exact bodyPost_ret (v := .tuple #[.agg #[.int .u32 (hs : Int), .int .u32 (hg : Int)], .int .i64 0]) (by simp [results, Tryd.results15, go_sem, y0', y1']) rfl ⟨by rw [HV.out]; exact HSG.out, (hb3.setCell (by show w.heap.size ≤ w.heap.size + 1 + 1; omega) _).setCell (by show w.heap.size ≤ w.heap.size + 1 + 1; omega) _⟩
      · have d1 : decide (0 < j) = true := by simp; omega
        have d4 : ¬ (j = 0) := by omega
        obtain ⟨xs', p, hxp⟩ := last_ne (l := xs) (fun e => hk0 (by rw [← hxl, e]; rfl))
        obtain ⟨ys', q, hyp⟩ := last_ne (l := ys) (fun e => hj0 (by rw [← hyl, e]; rfl))
        obtain ⟨i1, hi1⟩ : ∃ i, i = xs'.length := ⟨_, rfl⟩
        obtain ⟨i2, hi2⟩ : ∃ i, i = ys'.length := ⟨_, rfl⟩
        have hpa : la[i1]? = some p := by rw [hws.a, hxp, hi1]; simp
        have hqb : lb[i2]? = some q := by rw [hws.b, hyp, hi2]; simp
        obtain ⟨x0, x1⟩ := HC.out.1 i1 p hpa
        obtain ⟨y0, y1⟩ := HC.out.2 i2 q hqb
        have hg1 : gk = i1 + 1 := by rw [← hxl, hxp, hi1]; simp
        have hg2 : j = i2 + 1 := by rw [← hyl, hyp, hi2]; simp
        have lx := cell_lt x0
        have ly := cell_lt y0
        simp only at lx ly
        have l1 : i1 < gk := by omega
        have l2 : i2 < j := by omega
        have l3 : i1 ≤ c1 := by omega
        have l4 : i2 ≤ c2 := by omega
        have wn : IntKind.i64.wrap ((gk : Int) - 1) = (i1 : Int) := by rw [show ((gk : Int) - 1) = (i1 : Int) by omega]; exact IntWalk.i64_in _ (by omega)
        have wm : IntKind.i64.wrap ((j : Int) - 1) = (i2 : Int) := by rw [show ((j : Int) - 1) = (i2 : Int) by omega]; exact IntWalk.i64_in _ (by omega)
        have hpl := HLV.out.1 p (List.mem_of_getElem? hpa)
        have hql := HLV.out.2 q (List.mem_of_getElem? hqb)
        have hE := HT.out.rw.hd_inj hpl hql
        by_cases hpq : p = q
        · have q1 : hEq ((hd X.F (some p)).1 : Int) ((hd X.F (some p)).2 : Int) ((hd X.F (some q)).1 : Int) ((hd X.F (some q)).2 : Int) = true := by rw [hE]; exact decide_eq_true hpq
          have HNX : Hid (Ways la lb xs' ys' (p :: s) ∧ xs'.length = i1 ∧ ys'.length = i2) := Lib.hid ⟨by
            have := hws
            rw [hxp, hyp, ← hpq] at this
            exact this.next, hi1.symm, hi2.symm⟩
          have HM : Hid (i1 < gk) := Lib.hid l1
          have hbw := HBX.out
          have hrw := HRS.out
          have f0 := free_blk hbw 0
          have f1 := free_blk hbw 1
          have lz := lt_of_some hbw
          have HNE : Hid (g1 ≠ w3.heap.size ∧ g2 ≠ w3.heap.size ∧ w.heap.size + 1 + 1 ≠ w3.heap.size ∧ w.heap.size ≤ w3.heap.size) := Lib.hid ⟨Nat.ne_of_lt HGL.out.1, Nat.ne_of_lt HGL.out.2, Nat.ne_of_lt (lt_of_some HZR.out), HLOW.out.size⟩
          have HX0 := Lib.hid (And.intro x0 x1)
          clear hbw hrw hws hxp hyp hpa hqb hg1 hg2 hpl hql hE hpq hi1 hi2 hxl hyl hk0 hj0 HEX
          go_wp2_with fail
          go_quiet (fail)
          have hbx : (wr.drewN nq).heap[w3.heap.size]? = some (.cells #[.int .u32 (hs : Int), .int .u32 (hg : Int)] 31 (0, 0)) := HBX.out
          have hrs : (wr.drewN nq).heap[w.heap.size + 1 + 1]? = some (.cells #[.int .u32 0, .int .u32 0] 31 (0, 0)) := HRS.out
          have z0 := cell_blk hbx 0 rfl
          have z1 := cell_blk hbx 1 rfl
          have f2 := free_blk hbx 0
          have f3 := free_blk hbx 1
          have x2 : (wr.drewN nq).cell? ⟨g1, i1 * 2, none⟩ = some (.int .u32 ((hd X.F (some p)).1 : Int)) := HX0.out.1
          have x3 : (wr.drewN nq).cell? ⟨g1, i1 * 2 + 1, none⟩ = some (.int .u32 ((hd X.F (some p)).2 : Int)) := HX0.out.2
          have hb3 := below_drewN HLO.out nq
          have hcw : CW X.F la lb g1 g2 (wr.drewN nq) := HC.out
          have HD := Lib.hid (And.intro hbx (And.intro hrs (And.intro hb3 hcw)))
          clear hbx hrs hb3 hcw
          go_wp2_with fail
          go_quiet (fail)
          go_wp2_with fail
          go_roundg i1
          case measure => exact HM.out
          case rel => exact ⟨i2, xs', ys', p :: s, by go_num, by go_num, Lib.hid ⟨HNX.out.1, HNX.out.2.1, HNX.out.2.2, (HD.out.2.2.2.set ⟨w3.heap.size, 0, none⟩ _ HNE.out.1 HNE.out.2.1).set ⟨w3.heap.size, 1, none⟩ _ HNE.out.1 HNE.out.2.1, below_drewN ((HD.out.2.2.1.setCell HNE.out.2.2.2 _).setCell HNE.out.2.2.2 _) _, set_blk (set_blk HD.out.1 0 _) 1 _, ((heap_setCell_other _ _ _ _ HNE.out.2.2.1).trans (heap_setCell_other _ _ _ _ HNE.out.2.2.1)).trans HD.out.2.1⟩⟩
        · have q1 : hEq ((hd X.F (some p)).1 : Int) ((hd X.F (some p)).2 : Int) ((hd X.F (some q)).1 : Int) ((hd X.F (some q)).2 : Int) = false := by rw [hE]; exact decide_eq_false hpq
          have HV : Hid (ro = s.head?) := Lib.hid (HEX.out (fun xs'' p' ys'' q' e f h => hpq (by
            rw [hxp] at e; rw [hyp] at f
            have e := List.append_inj' e rfl
            have f := List.append_inj' f rfl
            simp at e f
            rw [e.2, f.2, h])))
          clear hws hxp hyp hpa hqb hg1 hg2 hpl hql hE hpq hi1 hi2 hxl hyl hk0 hj0 HEX
          go_wp2_with fail
          go_quiet (fail)
          have hbx : (wr.drewN nq).heap[w3.heap.size]? = some (.cells #[.int .u32 (hs : Int), .int .u32 (hg : Int)] 31 (0, 0)) := HBX.out
          have hrs : (wr.drewN nq).heap[w.heap.size + 1 + 1]? = some (.cells #[.int .u32 0, .int .u32 0] 31 (0, 0)) := HRS.out
          have z0 := cell_blk hbx 0 rfl
          have z1 := cell_blk hbx 1 rfl
          have r0 := cell_blk hrs 0 rfl
          have r1 := cell_blk hrs 1 rfl
          have f0 := free_blk hrs 0
          have f1 := free_blk hrs 1
          have lz := lt_of_some hbx
          have lr := lt_of_some hrs
          have hb3 := below_drewN HLO.out nq
          have hF := set_blk (set_blk hrs 0 (.int .u32 (hs : Int))) 1 (.int .u32 (hg : Int))
          have HF := Lib.hid hF
          clear hbx hrs hF
          go_wp2_with fail
          have y0' := cell_blk HF.out 0 rfl
          have y1' := cell_blk HF.out 1 rfl
          try rw [Exit.noGoto_ret]
          exact bodyPost_ret (v := .tuple #[.agg #[.int .u32 (hs : Int), .int .u32 (hg : Int)], .int .i64 0]) (by simp [results, Tryd.results15, go_sem, y0', y1']) rfl ⟨by rw [HV.out]; exact HSG.out, (hb3.setCell (by show w.heap.size ≤ w.heap.size + 1 + 1; omega) _).setCell (by show w.heap.size ≤ w.heap.size + 1 + 1; omega) _⟩
end
end Go.Proofs.YtelhnaphkbpakaaDoor

namespace Go.Proofs.YtelhnaphkbpakaaDoor
open Go.RowKit
set_option linter.unusedVariables false
set_option maxRecDepth 100000

section
variable {B : Nat} {Q : Nat → Prop} {w w' : World} {tb : Nat} {X : TX} {Lf : Nat → Nat → Nat × Nat}
theorem lives2_calls (h : TreeRw B Q w tb X Lf) {ka kb : Nat} {xa xb : FN} (ha : X.F[ka]? = some xa) (hal : xa.live = true) (hb : X.F[kb]? = some xb) (hbl : xb.live = true) {gb : Nat} (hgb : w.heap[gb]? = some (.cells #[.int .u32 (xa.sl : Int), .int .u32 (xa.gn : Int), .int .u32 (xb.sl : Int), .int .u32 (xb.gn : Int)] 31 (0, 0))) :
    Calls Tryd.prog 40 #[.pointer (some ⟨tb, 0, none⟩), .slice (some ⟨gb, 0, none⟩) 2 2] w fun e w' => e = .returned (.int .i64 0) ∧ Below w.heap.size w w' := by
  obtain ⟨nba, Pa, hma, hata, hsla, hs2a, hg2a⟩ := h.at_live ha hal
  obtain ⟨nbb, Pb, hmb, hatb, hslb, hs2b, hg2b⟩ := h.at_live hb hbl
  have hr : HRow w gb [(xa.sl, xa.gn), (xb.sl, xb.gn)] := ⟨fun j p hp => by
    match j, hp with
    | 0, hp => cases hp; exact ⟨cell_blk hgb 0 rfl, cell_blk hgb 1 rfl⟩
    | 1, hp => cases hp; exact ⟨cell_blk hgb 2 rfl, cell_blk hgb 3 rfl⟩
    | j + 2, hp => simp at hp, by
    intro p hp
    rcases List.mem_cons.1 hp with rfl | hp
    · exact ⟨by simp only; omega, by simp only; omega⟩
    · obtain rfl := List.mem_singleton.1 hp; exact ⟨by simp only; omega, by simp only; omega⟩⟩
  exact lives_calls h hr (by simp) (.inl ⟨rfl, by
    intro p hp
    rcases List.mem_cons.1 hp with rfl | hp
    · exact ⟨ka, xa, ha, hal, rfl, rfl⟩
    · obtain rfl := List.mem_singleton.1 hp; exact ⟨kb, xb, hb, hbl, rfl, rfl⟩⟩)
end
section
variable {B : Nat} {Q : Nat → Prop} {w w' : World} {tb : Nat} {X : TX}
set_option maxHeartbeats 4000000 in
theorem containsT_calls (h : TreeAt B Q w tb X) (hz : NoneAt w) {ka kb : Nat} {xa xb : FN} (ha : X.F[ka]? = some xa) (hal : xa.live = true) (hb : X.F[kb]? = some xb) (hbl : xb.live = true) {cb : List Nat} (hcb : Chain X.F kb (kb :: cb)) :
    Calls Tryd.prog 14 #[.pointer (some ⟨tb, 0, none⟩), .agg #[.int .u32 (xa.sl : Int), .int .u32 (xa.gn : Int)], .agg #[.int .u32 (xb.sl : Int), .int .u32 (xb.gn : Int)]] w fun e w' => e = .returned (.tuple #[.bool (decide (ka ∈ kb :: cb)), .int .i64 0]) ∧ Below w.heap.size w w' := by
  have HL2 : Hid (∀ W gb, Below w.heap.size w W → W.heap[gb]? = some (.cells #[.int .u32 (xa.sl : Int), .int .u32 (xa.gn : Int), .int .u32 (xb.sl : Int), .int .u32 (xb.gn : Int)] 31 (0, 0)) → Calls Tryd.prog 40 #[.pointer (some ⟨tb, 0, none⟩), .slice (some ⟨gb, 0, none⟩) 2 2] W fun e w' => e = .returned (.int .i64 0) ∧ Below W.heap.size W w') := Lib.hid (fun W gb b hgb => lives2_calls (h.rw.below b) ha hal hb hbl hgb)
  have HH2 : Hid (∀ W, Below w.heap.size w W → Calls Tryd.prog 44 #[.pointer (some ⟨tb, 0, none⟩), .agg #[.int .u32 (xa.sl : Int), .int .u32 (xa.gn : Int)], .agg #[.int .u32 (xb.sl : Int), .int .u32 (xb.gn : Int)]] W fun e w' => e = .returned (.bool (decide (ka ∈ cb))) ∧ Below W.heap.size W w') := Lib.hid (fun W b => hasT_calls (h.below b) (hz.below b) ha hal hb hbl hcb)
  have hE := h.rw.hd_inj ⟨xa, ha, hal⟩ ⟨xb, hb, hbl⟩
  rw [hd_some ha, hd_some hb] at hE
  simp only at hE
  have HE : Hid (hEq (xa.sl : Int) (xa.gn : Int) (xb.sl : Int) (xb.gn : Int) = decide (ka = kb)) := Lib.hid hE
  obtain ⟨r, hr⟩ : ∃ r, r = decide (ka ∈ kb :: cb) := ⟨_, rfl⟩
  rw [← hr]
  have HR := Lib.hid hr
  clear h hz ha hal hb hbl hcb hE hr
  generalize xa.sl = sa at *
  generalize xa.gn = ga at *
  generalize xb.sl = sb at *
  generalize xb.gn = gb at *
  obtain ⟨V, hV⟩ : ∃ V, V = ((w.alloc (.cells #[.int .u32 (sa : Int), .int .u32 (ga : Int)] 31)).alloc (.cells #[.int .u32 (sb : Int), .int .u32 (gb : Int)] 31)).alloc (.cells #[.int .u32 (sa : Int), .int .u32 (ga : Int), .int .u32 (sb : Int), .int .u32 (gb : Int)] 31) := ⟨_, rfl⟩
  have bV : Below w.heap.size w V := by rw [hV]; exact alloc3_lo _ _ _ _
  have hx := alloc3_bt w (.cells #[.int .u32 (sa : Int), .int .u32 (ga : Int)] 31) (.cells #[.int .u32 (sb : Int), .int .u32 (gb : Int)] 31) (.cells #[.int .u32 (sa : Int), .int .u32 (ga : Int), .int .u32 (sb : Int), .int .u32 (gb : Int)] 31)
  rw [← hV] at hx
  have HX := Lib.hid (And.intro hx bV)
  have hV2 := hV
  clear hV hx bV
  go_enter Tryd.func14, Tryd.ntmps14
  go_wp2_with fail
  rw [← hV2]
  clear hV2
  by_cases e : ka = kb
  · have q : hEq (sa : Int) (ga : Int) (sb : Int) (gb : Int) = true := by rw [HE.out]; exact decide_eq_true e
    have HRR : Hid (r = true) := Lib.hid (by rw [HR.out]; exact decide_eq_true (by rw [e]; simp))
    clear e HE
    go_wp2_with (go_at_call 40; refine (HL2.out V _ HX.out.2 HX.out.1.2.2).mono ?_; rintro e w1 ⟨rfl, b1⟩; have HB1 := Lib.hid (HX.out.2.trans (b1.mono HX.out.2.size)); have h1 := (b1.block _ (lt_of_some HX.out.1.1)).trans HX.out.1.1; have h2 := (b1.block _ (lt_of_some HX.out.1.2.1)).trans HX.out.1.2.1; have c0 := cell_blk h1 0 rfl; have c1 := cell_blk h1 1 rfl; have c2 := cell_blk h2 0 rfl; have c3 := cell_blk h2 1 rfl; clear b1 h1 h2)
    go_ret2
    exact ⟨by rw [HRR.out]; rfl, HB1.out⟩
  · have q : hEq (sa : Int) (ga : Int) (sb : Int) (gb : Int) = false := by rw [HE.out]; exact decide_eq_false e
    have HRR : Hid (r = decide (ka ∈ cb)) := Lib.hid (by rw [HR.out]; simp [e])
    clear e HE
    go_wp2_with (first | (go_at_call 40; refine (HL2.out V _ HX.out.2 HX.out.1.2.2).mono ?_; rintro e w1 ⟨rfl, b1⟩; have HB1 := Lib.hid (HX.out.2.trans (b1.mono HX.out.2.size)); have h1 := (b1.block _ (lt_of_some HX.out.1.1)).trans HX.out.1.1; have h2 := (b1.block _ (lt_of_some HX.out.1.2.1)).trans HX.out.1.2.1; have c0 := cell_blk h1 0 rfl; have c1 := cell_blk h1 1 rfl; have c2 := cell_blk h2 0 rfl; have c3 := cell_blk h2 1 rfl; clear b1 h1 h2) | (go_at_call 44; refine (HH2.out _ HB1.out).mono ?_; rintro e w2 ⟨rfl, b2⟩; have HB2 := Lib.hid (HB1.out.trans (b2.mono HB1.out.size)); clear b2))
    go_ret2
    exact ⟨by rw [HRR.out]; rfl, HB2.out⟩
set_option maxHeartbeats 4000000 in
theorem withinT_calls (h : TreeAt B Q w tb X) (hz : NoneAt w) {k r : Nat} {xk xr : FN} (hk : X.F[k]? = some xk) (hkl : xk.live = true) (hr : X.F[r]? = some xr) (hrl : xr.live = true) {c : List Nat} (hc : Chain X.F k (k :: c)) {e0 : Int} (he : (r ∈ k :: c ∧ e0 = 0) ∨ (r ∉ k :: c ∧ e0 = 1)) :
    Calls Tryd.prog 52 #[.pointer (some ⟨tb, 0, none⟩), .agg #[.int .u32 (xk.sl : Int), .int .u32 (xk.gn : Int)], .agg #[.int .u32 (xr.sl : Int), .int .u32 (xr.gn : Int)]] w fun e w' => e = .returned (.int .i64 e0) ∧ Below w.heap.size w w' := by
  have HC : Hid (∀ W, Below w.heap.size w W → Calls Tryd.prog 14 #[.pointer (some ⟨tb, 0, none⟩), .agg #[.int .u32 (xr.sl : Int), .int .u32 (xr.gn : Int)], .agg #[.int .u32 (xk.sl : Int), .int .u32 (xk.gn : Int)]] W fun e w' => e = .returned (.tuple #[.bool (decide (r ∈ k :: c)), .int .i64 0]) ∧ Below W.heap.size W w') := Lib.hid (fun W b => containsT_calls (h.below b) (hz.below b) hr hrl hk hkl hc)
  clear h hz hk hkl hr hrl hc
  generalize xk.sl = sa at *
  generalize xk.gn = ga at *
  generalize xr.sl = sb at *
  generalize xr.gn = gb at *
  have HB0 : Hid (Below w.heap.size w ((w.alloc (.cells #[.int .u32 (sa : Int), .int .u32 (ga : Int)] 31)).alloc (.cells #[.int .u32 (sb : Int), .int .u32 (gb : Int)] 31))) := Lib.hid (((Below.refl _ w).alloc (Nat.le_refl _) _).alloc (by simp) _)
  rcases he with ⟨hm, rfl⟩ | ⟨hm, rfl⟩
  · rw [decide_eq_true hm] at HC
    clear hm
    go_enter Tryd.func52, Tryd.ntmps52
    go_wp2_with (go_at_call 14; refine (HC.out _ HB0.out).mono ?_; rintro e w1 ⟨rfl, b1⟩; have HB1 := Lib.hid (HB0.out.trans (b1.mono HB0.out.size)); clear b1)
    go_ret
    exact ⟨rfl, HB1.out⟩
  · rw [decide_eq_false hm] at HC
    clear hm
    go_enter Tryd.func52, Tryd.ntmps52
    go_wp2_with (go_at_call 14; refine (HC.out _ HB0.out).mono ?_; rintro e w1 ⟨rfl, b1⟩; have HB1 := Lib.hid (HB0.out.trans (b1.mono HB0.out.size)); clear b1)
    go_ret
    exact ⟨rfl, HB1.out⟩
set_option maxHeartbeats 4000000 in
theorem nextT_calls (h : TreeAt B Q w tb X) (hz : NoneAt w) {k r : Nat} {xk xr : FN} (hk : X.F[k]? = some xk) (hkl : xk.live = true) (hr : X.F[r]? = some xr) (hrl : xr.live = true) {c : List Nat} (hc : Chain X.F k (k :: c)) (hm : r ∈ k :: c) :
    Calls Tryd.prog 23 #[.pointer (some ⟨tb, 0, none⟩), .agg #[.int .u32 (xk.sl : Int), .int .u32 (xk.gn : Int)], .agg #[.int .u32 (xr.sl : Int), .int .u32 (xr.gn : Int)]] w fun e w' => e = .returned (.tuple #[.agg #[.int .u32 ((hd X.F (stepO X.F r k (k :: c))).1 : Int), .int .u32 ((hd X.F (stepO X.F r k (k :: c))).2 : Int)], .int .i64 0]) ∧ Below w.heap.size w w' := by
  have HW : Hid (∀ W, Below w.heap.size w W → Calls Tryd.prog 52 #[.pointer (some ⟨tb, 0, none⟩), .agg #[.int .u32 (xk.sl : Int), .int .u32 (xk.gn : Int)], .agg #[.int .u32 (xr.sl : Int), .int .u32 (xr.gn : Int)]] W fun e w' => e = .returned (.int .i64 0) ∧ Below W.heap.size W w') := Lib.hid (fun W b => withinT_calls (h.below b) (hz.below b) hk hkl hr hrl hc (.inl ⟨hm, rfl⟩))
  have HS : Hid (∀ W, Below w.heap.size w W → Calls Tryd.prog 48 #[.pointer (some ⟨tb, 0, none⟩), .agg #[.int .u32 (xk.sl : Int), .int .u32 (xk.gn : Int)], .agg #[.int .u32 (xr.sl : Int), .int .u32 (xr.gn : Int)]] W fun e w' => e = .returned (.agg #[.int .u32 ((hd X.F (stepO X.F r k (k :: c))).1 : Int), .int .u32 ((hd X.F (stepO X.F r k (k :: c))).2 : Int)]) ∧ Below W.heap.size W w') := Lib.hid (fun W b => stepT_calls (h.below b) (hz.below b) hk hkl hr hrl hc)
  clear h hz hk hkl hr hrl hc hm
  generalize (hd X.F (stepO X.F r k (k :: c))).1 = n1 at *
  generalize (hd X.F (stepO X.F r k (k :: c))).2 = n2 at *
  generalize xk.sl = s at *
  generalize xk.gn = g at *
  generalize xr.sl = s1 at *
  generalize xr.gn = g1 at *
  obtain ⟨a1, a2, a3⟩ := alloc3_bt w (.cells #[.int .u32 (s : Int), .int .u32 (g : Int)] 31) (.cells #[.int .u32 (s1 : Int), .int .u32 (g1 : Int)] 31) (.cells #[.int .u32 0, .int .u32 0] 31)
  have HA := Lib.hid (And.intro (And.intro a1 (And.intro a2 a3)) (alloc3_lo w (.cells #[.int .u32 (s : Int), .int .u32 (g : Int)] 31) (.cells #[.int .u32 (s1 : Int), .int .u32 (g1 : Int)] 31) (.cells #[.int .u32 0, .int .u32 0] 31)))
  clear a1 a2 a3
  go_enter Tryd.func23, Tryd.ntmps23
  go_wp2_with (first | (go_at_call 52; refine (HW.out _ HA.out.2).mono ?_; rintro e w1 ⟨rfl, b1⟩; have HB1 := Lib.hid (HA.out.2.trans (b1.mono HA.out.2.size)); have h1 := (b1.block _ (lt_of_some HA.out.1.1)).trans HA.out.1.1; have h2 := (b1.block _ (lt_of_some HA.out.1.2.1)).trans HA.out.1.2.1; have h3 := (b1.block _ (lt_of_some HA.out.1.2.2)).trans HA.out.1.2.2; have c0 := cell_blk h1 0 rfl; have c1 := cell_blk h1 1 rfl; have c2 := cell_blk h2 0 rfl; have c3 := cell_blk h2 1 rfl; have HX3 := Lib.hid h3; clear b1 h1 h2 h3) | (go_at_call 48; refine (HS.out _ HB1.out).mono ?_; rintro e w2 ⟨rfl, b2⟩; have HB2 := Lib.hid (HB1.out.trans (b2.mono HB1.out.size)); have hx := (b2.block _ (lt_of_some HX3.out)).trans HX3.out; have e0 := cell_blk hx 0 rfl; have e1 := cell_blk hx 1 rfl; have f0 := free_blk hx 0; have f1 := free_blk hx 1; have HX := Lib.hid hx; clear b2 hx))
  have hF := set_blk (set_blk HX.out 0 (.int .u32 (n1 : Int))) 1 (.int .u32 (n2 : Int))
  have z0 := cell_blk hF 0 rfl
  have z1 := cell_blk hF 1 rfl
  exact bodyPost_ret (v := .tuple #[.agg #[.int .u32 (n1 : Int), .int .u32 (n2 : Int)], .int .i64 0]) (by simp [results, Tryd.results23, go_sem, z0, z1]) rfl ⟨rfl, (HB2.out.setCell (by simp only; omega) _).setCell (by simp only; omega) _⟩
end
end Go.Proofs.YtelhnaphkbpakaaDoor

namespace Go.Proofs.YtelhnaphkbpakaaDoor
open Go.RowKit
set_option linter.unusedVariables false
set_option maxRecDepth 100000

/-- Two handles, one at least of no node that lives. -/
structure Dead2 (F : For) (sa ga sb gb : Nat) : Prop where
  bd : sa ≤ 4294967295 ∧ ga ≤ 4294967295 ∧ sb ≤ 4294967295 ∧ gb ≤ 4294967295
  no : ¬ Lv F sa ga ∨ ¬ Lv F sb gb
section
variable {B : Nat} {Q : Nat → Prop} {w w' : World} {tb : Nat} {X : TX} {Lf : Nat → Nat → Nat × Nat} {sa ga sb gb : Nat}
theorem lives2_dead (h : TreeRw B Q w tb X Lf) (hd : Dead2 X.F sa ga sb gb) {bb : Nat} (hgb : w.heap[bb]? = some (.cells #[.int .u32 (sa : Int), .int .u32 (ga : Int), .int .u32 (sb : Int), .int .u32 (gb : Int)] 31 (0, 0))) :
    Calls Tryd.prog 40 #[.pointer (some ⟨tb, 0, none⟩), .slice (some ⟨bb, 0, none⟩) 2 2] w fun e w' => e = .returned (.int .i64 51) ∧ Below w.heap.size w w' := by
  have hbd := hd.bd
  have hr : HRow w bb [(sa, ga), (sb, gb)] := ⟨fun j p hp => by
    match j, hp with
    | 0, hp => cases hp; exact ⟨cell_blk hgb 0 rfl, cell_blk hgb 1 rfl⟩
    | 1, hp => cases hp; exact ⟨cell_blk hgb 2 rfl, cell_blk hgb 3 rfl⟩
    | j + 2, hp => simp at hp, by
    intro p hp
    rcases List.mem_cons.1 hp with rfl | hp
    · exact ⟨by simp only; omega, by simp only; omega⟩
    · obtain rfl := List.mem_singleton.1 hp; exact ⟨by simp only; omega, by simp only; omega⟩⟩
  rcases hd.no with hn | hn
  · exact lives_calls h hr (by simp) (.inr ⟨rfl, (sa, ga), by simp, hn⟩)
  · exact lives_calls h hr (by simp) (.inr ⟨rfl, (sb, gb), by simp, hn⟩)
set_option maxHeartbeats 2000000 in
theorem compareT_dead (h : TreeRw B Q w tb X Lf) (hz : NoneAt w) (hd : Dead2 X.F sa ga sb gb) :
    Calls Tryd.prog 12 #[.pointer (some ⟨tb, 0, none⟩), .agg #[.int .u32 (sa : Int), .int .u32 (ga : Int)], .agg #[.int .u32 (sb : Int), .int .u32 (gb : Int)]] w fun e w' => e = .returned (.tuple #[.int .i64 0, .bool false, .int .i64 51]) ∧ Below w.heap.size w w' := by
  have hlo : Below w.heap.size w (((w.alloc (.cells #[.int .u32 (sa : Int), .int .u32 (ga : Int)] 31)).alloc (.cells #[.int .u32 (sb : Int), .int .u32 (gb : Int)] 31)).alloc (.cells #[.int .u32 (sa : Int), .int .u32 (ga : Int), .int .u32 (sb : Int), .int .u32 (gb : Int)] 31)) := alloc3_lo _ _ _ _
  have HLI := Lib.hid (lives2_dead (h.below hlo) hd (by have := (alloc3_at w (.cells #[.int .u32 (sa : Int), .int .u32 (ga : Int)] 31) (.cells #[.int .u32 (sb : Int), .int .u32 (gb : Int)] 31) (.cells #[.int .u32 (sa : Int), .int .u32 (ga : Int), .int .u32 (sb : Int), .int .u32 (gb : Int)] 31)).2.2; exact this))
  have HLO := Lib.hid hlo
  have HZ := Lib.hid hz
  clear h hd hlo hz
  go_enter Tryd.func12, Tryd.ntmps12
  go_wp2_with (go_at_call 40; refine HLI.out.mono ?_; rintro e w1 ⟨rfl, b1⟩; have HB1 := Lib.hid (HLO.out.trans (b1.mono HLO.out.size)); have n0 := (HZ.out.below HB1.out).a; have n1 := (HZ.out.below HB1.out).b; have nl := cell_lt n0; clear b1)
  try rw [Exit.noGoto_ret]
  go_ret3
  exact ⟨rfl, HB1.out⟩
set_option maxHeartbeats 2000000 in
theorem containsT_dead (h : TreeRw B Q w tb X Lf) (hz : NoneAt w) (hd : Dead2 X.F sa ga sb gb) :
    Calls Tryd.prog 14 #[.pointer (some ⟨tb, 0, none⟩), .agg #[.int .u32 (sa : Int), .int .u32 (ga : Int)], .agg #[.int .u32 (sb : Int), .int .u32 (gb : Int)]] w fun e w' => e = .returned (.tuple #[.bool false, .int .i64 51]) ∧ Below w.heap.size w w' := by
  have hlo : Below w.heap.size w (((w.alloc (.cells #[.int .u32 (sa : Int), .int .u32 (ga : Int)] 31)).alloc (.cells #[.int .u32 (sb : Int), .int .u32 (gb : Int)] 31)).alloc (.cells #[.int .u32 (sa : Int), .int .u32 (ga : Int), .int .u32 (sb : Int), .int .u32 (gb : Int)] 31)) := alloc3_lo _ _ _ _
  have HLI := Lib.hid (lives2_dead (h.below hlo) hd (by have := (alloc3_at w (.cells #[.int .u32 (sa : Int), .int .u32 (ga : Int)] 31) (.cells #[.int .u32 (sb : Int), .int .u32 (gb : Int)] 31) (.cells #[.int .u32 (sa : Int), .int .u32 (ga : Int), .int .u32 (sb : Int), .int .u32 (gb : Int)] 31)).2.2; exact this))
  have HLO := Lib.hid hlo
  have HZ := Lib.hid hz
  clear h hd hlo hz
  go_enter Tryd.func14, Tryd.ntmps14
  go_wp2_with (go_at_call 40; refine HLI.out.mono ?_; rintro e w1 ⟨rfl, b1⟩; have HB1 := Lib.hid (HLO.out.trans (b1.mono HLO.out.size)); have n0 := (HZ.out.below HB1.out).a; have n1 := (HZ.out.below HB1.out).b; have nl := cell_lt n0; clear b1)
  try rw [Exit.noGoto_ret]
  go_ret2
  exact ⟨rfl, HB1.out⟩
set_option maxHeartbeats 2000000 in
theorem equalT_dead (h : TreeRw B Q w tb X Lf) (hz : NoneAt w) (hd : Dead2 X.F sa ga sb gb) :
    Calls Tryd.prog 16 #[.pointer (some ⟨tb, 0, none⟩), .agg #[.int .u32 (sa : Int), .int .u32 (ga : Int)], .agg #[.int .u32 (sb : Int), .int .u32 (gb : Int)]] w fun e w' => e = .returned (.tuple #[.bool false, .int .i64 51]) ∧ Below w.heap.size w w' := by
  have hlo : Below w.heap.size w (((w.alloc (.cells #[.int .u32 (sa : Int), .int .u32 (ga : Int)] 31)).alloc (.cells #[.int .u32 (sb : Int), .int .u32 (gb : Int)] 31)).alloc (.cells #[.int .u32 (sa : Int), .int .u32 (ga : Int), .int .u32 (sb : Int), .int .u32 (gb : Int)] 31)) := alloc3_lo _ _ _ _
  have HLI := Lib.hid (lives2_dead (h.below hlo) hd (by have := (alloc3_at w (.cells #[.int .u32 (sa : Int), .int .u32 (ga : Int)] 31) (.cells #[.int .u32 (sb : Int), .int .u32 (gb : Int)] 31) (.cells #[.int .u32 (sa : Int), .int .u32 (ga : Int), .int .u32 (sb : Int), .int .u32 (gb : Int)] 31)).2.2; exact this))
  have HLO := Lib.hid hlo
  have HZ := Lib.hid hz
  clear h hd hlo hz
  go_enter Tryd.func16, Tryd.ntmps16
  go_wp2_with (go_at_call 40; refine HLI.out.mono ?_; rintro e w1 ⟨rfl, b1⟩; have HB1 := Lib.hid (HLO.out.trans (b1.mono HLO.out.size)); have n0 := (HZ.out.below HB1.out).a; have n1 := (HZ.out.below HB1.out).b; have nl := cell_lt n0; clear b1)
  try rw [Exit.noGoto_ret]
  go_ret2
  exact ⟨rfl, HB1.out⟩
set_option maxHeartbeats 2000000 in
theorem commonT_dead (h : TreeRw B Q w tb X Lf) (hz : NoneAt w) (hd : Dead2 X.F sa ga sb gb) :
    Calls Tryd.prog 15 #[.pointer (some ⟨tb, 0, none⟩), .agg #[.int .u32 (sa : Int), .int .u32 (ga : Int)], .agg #[.int .u32 (sb : Int), .int .u32 (gb : Int)]] w fun e w' => e = .returned (.tuple #[.agg #[.int .u32 0, .int .u32 0], .int .i64 51]) ∧ Below w.heap.size w w' := by
  have hlo : Below w.heap.size w ((((w.alloc (.cells #[.int .u32 (sa : Int), .int .u32 (ga : Int)] 31)).alloc (.cells #[.int .u32 (sb : Int), .int .u32 (gb : Int)] 31)).alloc (.cells #[.int .u32 0, .int .u32 0] 31)).alloc (.cells #[.int .u32 (sa : Int), .int .u32 (ga : Int), .int .u32 (sb : Int), .int .u32 (gb : Int)] 31)) := (alloc3_lo _ _ _ _).alloc (by simp; omega) _
  have HLI := Lib.hid (lives2_dead (h.below hlo) hd (by have := (alloc4_at w (.cells #[.int .u32 (sa : Int), .int .u32 (ga : Int)] 31) (.cells #[.int .u32 (sb : Int), .int .u32 (gb : Int)] 31) (.cells #[.int .u32 0, .int .u32 0] 31) (.cells #[.int .u32 (sa : Int), .int .u32 (ga : Int), .int .u32 (sb : Int), .int .u32 (gb : Int)] 31)).2.2.2; exact this))
  have HLO := Lib.hid hlo
  have HZ := Lib.hid hz
  clear h hd hlo hz
  go_enter Tryd.func15, Tryd.ntmps15
  go_wp2_with (go_at_call 40; refine HLI.out.mono ?_; rintro e w1 ⟨rfl, b1⟩; have HB1 := Lib.hid (HLO.out.trans (b1.mono HLO.out.size)); have n0 := (HZ.out.below HB1.out).a; have n1 := (HZ.out.below HB1.out).b; have nl := cell_lt n0; have hr := (b1.block _ (lt_of_some (alloc4_at w (.cells #[.int .u32 (sa : Int), .int .u32 (ga : Int)] 31) (.cells #[.int .u32 (sb : Int), .int .u32 (gb : Int)] 31) (.cells #[.int .u32 0, .int .u32 0] 31) (.cells #[.int .u32 (sa : Int), .int .u32 (ga : Int), .int .u32 (sb : Int), .int .u32 (gb : Int)] 31)).2.2.1)).trans (alloc4_at w (.cells #[.int .u32 (sa : Int), .int .u32 (ga : Int)] 31) (.cells #[.int .u32 (sb : Int), .int .u32 (gb : Int)] 31) (.cells #[.int .u32 0, .int .u32 0] 31) (.cells #[.int .u32 (sa : Int), .int .u32 (ga : Int), .int .u32 (sb : Int), .int .u32 (gb : Int)] 31)).2.2.1; have r0 := cell_blk hr 0 rfl; have r1 := cell_blk hr 1 rfl; have f0 := free_blk hr 0; have f1 := free_blk hr 1; have lr := lt_of_some hr; have HR := Lib.hid hr; clear hr; clear b1)
  have hF := set_blk (set_blk HR.out 0 (.int .u32 0)) 1 (.int .u32 0)
  have z0 := cell_blk hF 0 rfl
  have z1 := cell_blk hF 1 rfl
  try rw [Exit.noGoto_ret]
  exact bodyPost_ret (v := .tuple #[.agg #[.int .u32 0, .int .u32 0], .int .i64 51]) (by simp [results, Tryd.results15, go_sem, z0, z1]) rfl ⟨rfl, (HB1.out.setCell (by show w.heap.size ≤ w.heap.size + 1 + 1; omega) _).setCell (by show w.heap.size ≤ w.heap.size + 1 + 1; omega) _⟩
set_option maxHeartbeats 2000000 in
theorem positionT_dead (h : TreeRw B Q w tb X Lf) (hz : NoneAt w) (hd : Dead2 X.F sa ga sb gb) :
    Calls Tryd.prog 13 #[.pointer (some ⟨tb, 0, none⟩), .agg #[.int .u32 (sa : Int), .int .u32 (ga : Int)], .agg #[.int .u32 (sb : Int), .int .u32 (gb : Int)]] w fun e w' => e = .returned (.tuple #[.int .i64 0, .int .i64 51]) ∧ Below w.heap.size w w' := by
  have hlo : Below w.heap.size w ((w.alloc (.cells #[.int .u32 (sa : Int), .int .u32 (ga : Int)] 31)).alloc (.cells #[.int .u32 (sb : Int), .int .u32 (gb : Int)] 31)) := ((Below.refl _ w).alloc (Nat.le_refl _) _).alloc (by simp) _
  have HCM := Lib.hid (compareT_dead (h.below hlo) (hz.below hlo) hd)
  have HLO := Lib.hid hlo
  clear h hd hlo hz
  go_enter Tryd.func13, Tryd.ntmps13
  go_wp2_with (go_at_call 12; refine HCM.out.mono ?_; rintro e w1 ⟨rfl, b1⟩; have HB1 := Lib.hid (HLO.out.trans (b1.mono HLO.out.size)); clear b1)
  try rw [Exit.noGoto_ret]
  go_ret2
  exact ⟨rfl, HB1.out⟩
end
end Go.Proofs.YtelhnaphkbpakaaDoor

namespace Go.Proofs.YtelhnaphkbpakaaDoor
open Go.RowKit
set_option linter.unusedVariables false
set_option maxRecDepth 100000

section
variable {B : Nat} {Q : Nat → Prop} {w w' : World} {tb : Nat} {X : TX} {Lf : Nat → Nat → Nat × Nat} {sa ga sb gb : Nat}
set_option maxHeartbeats 2000000 in
theorem withinT_dead (h : TreeRw B Q w tb X Lf) (hz : NoneAt w) (hd : Dead2 X.F sb gb sa ga) :
    Calls Tryd.prog 52 #[.pointer (some ⟨tb, 0, none⟩), .agg #[.int .u32 (sa : Int), .int .u32 (ga : Int)], .agg #[.int .u32 (sb : Int), .int .u32 (gb : Int)]] w fun e w' => e = .returned (.int .i64 51) ∧ Below w.heap.size w w' := by
  have hlo : Below w.heap.size w ((w.alloc (.cells #[.int .u32 (sa : Int), .int .u32 (ga : Int)] 31)).alloc (.cells #[.int .u32 (sb : Int), .int .u32 (gb : Int)] 31)) := ((Below.refl _ w).alloc (Nat.le_refl _) _).alloc (by simp) _
  have HCM := Lib.hid (containsT_dead (h.below hlo) (hz.below hlo) hd)
  have HLO := Lib.hid hlo
  clear h hd hlo hz
  go_enter Tryd.func52, Tryd.ntmps52
  go_wp2_with (go_at_call 14; refine HCM.out.mono ?_; rintro e w1 ⟨rfl, b1⟩; have HB1 := Lib.hid (HLO.out.trans (b1.mono HLO.out.size)); clear b1)
  try rw [Exit.noGoto_ret]
  go_ret
  exact ⟨rfl, HB1.out⟩
set_option maxHeartbeats 2000000 in
theorem nextT_bad (hz : NoneAt w) {ec : Int} (hec : ec ≠ 0) (hw : ∀ W, Below w.heap.size w W → Calls Tryd.prog 52 #[.pointer (some ⟨tb, 0, none⟩), .agg #[.int .u32 (sa : Int), .int .u32 (ga : Int)], .agg #[.int .u32 (sb : Int), .int .u32 (gb : Int)]] W fun e w' => e = .returned (.int .i64 ec) ∧ Below W.heap.size W w') :
    Calls Tryd.prog 23 #[.pointer (some ⟨tb, 0, none⟩), .agg #[.int .u32 (sa : Int), .int .u32 (ga : Int)], .agg #[.int .u32 (sb : Int), .int .u32 (gb : Int)]] w fun e w' => e = .returned (.tuple #[.agg #[.int .u32 0, .int .u32 0], .int .i64 ec]) ∧ Below w.heap.size w w' := by
  have hlo : Below w.heap.size w (((w.alloc (.cells #[.int .u32 (sa : Int), .int .u32 (ga : Int)] 31)).alloc (.cells #[.int .u32 (sb : Int), .int .u32 (gb : Int)] 31)).alloc (.cells #[.int .u32 0, .int .u32 0] 31)) := alloc3_lo _ _ _ _
  obtain ⟨x1, x2, x3⟩ := alloc3_at w (.cells #[.int .u32 (sa : Int), .int .u32 (ga : Int)] 31) (.cells #[.int .u32 (sb : Int), .int .u32 (gb : Int)] 31) (.cells #[.int .u32 0, .int .u32 0] 31)
  have HX := Lib.hid (And.intro x1 (And.intro x2 x3))
  have HLO := Lib.hid hlo
  have HW := Lib.hid (hw _ hlo)
  have HZ := Lib.hid hz
  have e1 : (ec == 0) = false := by simp [hec]
  have e2 : (ec != 0) = true := by simp [hec]
  have e3 : ¬ (ec = 0) := hec
  clear hec
  clear hz hw hlo x1 x2 x3
  go_enter Tryd.func23, Tryd.ntmps23
  go_wp2_with (go_at_call 52; refine HW.out.mono ?_; rintro e w1 ⟨rfl, b1⟩; have HB1 := Lib.hid (HLO.out.trans (b1.mono HLO.out.size)); have n0 := (HZ.out.below HB1.out).a; have n1 := (HZ.out.below HB1.out).b; have nl := cell_lt n0; have hr := (b1.block _ (lt_of_some HX.out.2.2)).trans HX.out.2.2; have r0 := cell_blk hr 0 rfl; have r1 := cell_blk hr 1 rfl; have f0 := free_blk hr 0; have f1 := free_blk hr 1; have lr := lt_of_some hr; have ha := (b1.block _ (lt_of_some HX.out.1)).trans HX.out.1; have a0 := cell_blk ha 0 rfl; have a1 := cell_blk ha 1 rfl; have hb := (b1.block _ (lt_of_some HX.out.2.1)).trans HX.out.2.1; have c0 := cell_blk hb 0 rfl; have c1 := cell_blk hb 1 rfl; have HR := Lib.hid hr; clear hr ha hb b1)
  have hF := set_blk (set_blk HR.out 0 (.int .u32 0)) 1 (.int .u32 0)
  have z0 := cell_blk hF 0 rfl
  have z1 := cell_blk hF 1 rfl
  try rw [Exit.noGoto_ret]
  exact bodyPost_ret (v := .tuple #[.agg #[.int .u32 0, .int .u32 0], .int .i64 ec]) (by simp [results, Tryd.results23, go_sem, z0, z1]) rfl ⟨rfl, (HB1.out.setCell (by show w.heap.size ≤ w.heap.size + 1 + 1; omega) _).setCell (by show w.heap.size ≤ w.heap.size + 1 + 1; omega) _⟩
set_option maxHeartbeats 2000000 in
theorem prevT_bad (hz : NoneAt w) {ec : Int} (hec : ec ≠ 0) (hw : ∀ W, Below w.heap.size w W → Calls Tryd.prog 52 #[.pointer (some ⟨tb, 0, none⟩), .agg #[.int .u32 (sa : Int), .int .u32 (ga : Int)], .agg #[.int .u32 (sb : Int), .int .u32 (gb : Int)]] W fun e w' => e = .returned (.int .i64 ec) ∧ Below W.heap.size W w') :
    Calls Tryd.prog 24 #[.pointer (some ⟨tb, 0, none⟩), .agg #[.int .u32 (sa : Int), .int .u32 (ga : Int)], .agg #[.int .u32 (sb : Int), .int .u32 (gb : Int)]] w fun e w' => e = .returned (.tuple #[.agg #[.int .u32 0, .int .u32 0], .int .i64 ec]) ∧ Below w.heap.size w w' := by
  have hlo : Below w.heap.size w (((w.alloc (.cells #[.int .u32 (sa : Int), .int .u32 (ga : Int)] 31)).alloc (.cells #[.int .u32 (sb : Int), .int .u32 (gb : Int)] 31)).alloc (.cells #[.int .u32 0, .int .u32 0] 31)) := alloc3_lo _ _ _ _
  obtain ⟨x1, x2, x3⟩ := alloc3_at w (.cells #[.int .u32 (sa : Int), .int .u32 (ga : Int)] 31) (.cells #[.int .u32 (sb : Int), .int .u32 (gb : Int)] 31) (.cells #[.int .u32 0, .int .u32 0] 31)
  have HX := Lib.hid (And.intro x1 (And.intro x2 x3))
  have HLO := Lib.hid hlo
  have HW := Lib.hid (hw _ hlo)
  have HZ := Lib.hid hz
  have e1 : (ec == 0) = false := by simp [hec]
  have e2 : (ec != 0) = true := by simp [hec]
  have e3 : ¬ (ec = 0) := hec
  clear hec
  clear hz hw hlo x1 x2 x3
  go_enter Tryd.func24, Tryd.ntmps24
  go_wp2_with (go_at_call 52; refine HW.out.mono ?_; rintro e w1 ⟨rfl, b1⟩; have HB1 := Lib.hid (HLO.out.trans (b1.mono HLO.out.size)); have n0 := (HZ.out.below HB1.out).a; have n1 := (HZ.out.below HB1.out).b; have nl := cell_lt n0; have hr := (b1.block _ (lt_of_some HX.out.2.2)).trans HX.out.2.2; have r0 := cell_blk hr 0 rfl; have r1 := cell_blk hr 1 rfl; have f0 := free_blk hr 0; have f1 := free_blk hr 1; have lr := lt_of_some hr; have ha := (b1.block _ (lt_of_some HX.out.1)).trans HX.out.1; have a0 := cell_blk ha 0 rfl; have a1 := cell_blk ha 1 rfl; have hb := (b1.block _ (lt_of_some HX.out.2.1)).trans HX.out.2.1; have c0 := cell_blk hb 0 rfl; have c1 := cell_blk hb 1 rfl; have HR := Lib.hid hr; clear hr ha hb b1)
  have hF := set_blk (set_blk HR.out 0 (.int .u32 0)) 1 (.int .u32 0)
  have z0 := cell_blk hF 0 rfl
  have z1 := cell_blk hF 1 rfl
  try rw [Exit.noGoto_ret]
  exact bodyPost_ret (v := .tuple #[.agg #[.int .u32 0, .int .u32 0], .int .i64 ec]) (by simp [results, Tryd.results24, go_sem, z0, z1]) rfl ⟨rfl, (HB1.out.setCell (by show w.heap.size ≤ w.heap.size + 1 + 1; omega) _).setCell (by show w.heap.size ≤ w.heap.size + 1 + 1; omega) _⟩
set_option maxHeartbeats 2000000 in
theorem prevT_root (hz : NoneAt w) (he : sa = sb ∧ ga = gb) (hw : ∀ W, Below w.heap.size w W → Calls Tryd.prog 52 #[.pointer (some ⟨tb, 0, none⟩), .agg #[.int .u32 (sa : Int), .int .u32 (ga : Int)], .agg #[.int .u32 (sb : Int), .int .u32 (gb : Int)]] W fun e w' => e = .returned (.int .i64 0) ∧ Below W.heap.size W w') :
    Calls Tryd.prog 24 #[.pointer (some ⟨tb, 0, none⟩), .agg #[.int .u32 (sa : Int), .int .u32 (ga : Int)], .agg #[.int .u32 (sb : Int), .int .u32 (gb : Int)]] w fun e w' => e = .returned (.tuple #[.agg #[.int .u32 0, .int .u32 0], .int .i64 0]) ∧ Below w.heap.size w w' := by
  have hlo : Below w.heap.size w (((w.alloc (.cells #[.int .u32 (sa : Int), .int .u32 (ga : Int)] 31)).alloc (.cells #[.int .u32 (sb : Int), .int .u32 (gb : Int)] 31)).alloc (.cells #[.int .u32 0, .int .u32 0] 31)) := alloc3_lo _ _ _ _
  obtain ⟨x1, x2, x3⟩ := alloc3_at w (.cells #[.int .u32 (sa : Int), .int .u32 (ga : Int)] 31) (.cells #[.int .u32 (sb : Int), .int .u32 (gb : Int)] 31) (.cells #[.int .u32 0, .int .u32 0] 31)
  have HX := Lib.hid (And.intro x1 (And.intro x2 x3))
  have HLO := Lib.hid hlo
  have HW := Lib.hid (hw _ hlo)
  have HZ := Lib.hid hz
  have e1 : hEq (sa : Int) (ga : Int) (sb : Int) (gb : Int) = true := hEq_true (by rw [he.1]) (by rw [he.2])
  clear he
  clear hz hw hlo x1 x2 x3
  go_enter Tryd.func24, Tryd.ntmps24
  go_wp2_with (go_at_call 52; refine HW.out.mono ?_; rintro e w1 ⟨rfl, b1⟩; have HB1 := Lib.hid (HLO.out.trans (b1.mono HLO.out.size)); have n0 := (HZ.out.below HB1.out).a; have n1 := (HZ.out.below HB1.out).b; have nl := cell_lt n0; have hr := (b1.block _ (lt_of_some HX.out.2.2)).trans HX.out.2.2; have r0 := cell_blk hr 0 rfl; have r1 := cell_blk hr 1 rfl; have f0 := free_blk hr 0; have f1 := free_blk hr 1; have lr := lt_of_some hr; have ha := (b1.block _ (lt_of_some HX.out.1)).trans HX.out.1; have a0 := cell_blk ha 0 rfl; have a1 := cell_blk ha 1 rfl; have hb := (b1.block _ (lt_of_some HX.out.2.1)).trans HX.out.2.1; have c0 := cell_blk hb 0 rfl; have c1 := cell_blk hb 1 rfl; have HR := Lib.hid hr; clear hr ha hb b1)
  have hF := set_blk (set_blk HR.out 0 (.int .u32 0)) 1 (.int .u32 0)
  have z0 := cell_blk hF 0 rfl
  have z1 := cell_blk hF 1 rfl
  try rw [Exit.noGoto_ret]
  exact bodyPost_ret (v := .tuple #[.agg #[.int .u32 0, .int .u32 0], .int .i64 0]) (by simp [results, Tryd.results24, go_sem, z0, z1]) rfl ⟨rfl, (HB1.out.setCell (by show w.heap.size ≤ w.heap.size + 1 + 1; omega) _).setCell (by show w.heap.size ≤ w.heap.size + 1 + 1; omega) _⟩
set_option maxHeartbeats 2000000 in
theorem sizeT_dead (h : TreeRw B Q w tb X Lf) (hbd : sa ≤ 4294967295 ∧ ga ≤ 4294967295) (hd : ¬ Lv X.F sa ga) :
    Calls Tryd.prog 25 #[.pointer (some ⟨tb, 0, none⟩), .agg #[.int .u32 (sa : Int), .int .u32 (ga : Int)]] w fun e w' => e = .returned (.tuple #[.int .i64 0, .int .i64 51]) ∧ Below w.heap.size w w' := by
  have hlo : Below w.heap.size w ((w.alloc (.cells #[.int .u32 (sa : Int), .int .u32 (ga : Int)] 31)).alloc (.cells #[.int .u32 (sa : Int), .int .u32 (ga : Int)] 31)) := ((Below.refl _ w).alloc (Nat.le_refl _) _).alloc (by simp) _
  have hgb : ((w.alloc (.cells #[.int .u32 (sa : Int), .int .u32 (ga : Int)] 31)).alloc (.cells #[.int .u32 (sa : Int), .int .u32 (ga : Int)] 31)).heap[w.heap.size + 1]? = some (.cells #[.int .u32 (sa : Int), .int .u32 (ga : Int)] 31 (0, 0)) := alloc2_blk w _ _
  have hrow : HRow ((w.alloc (.cells #[.int .u32 (sa : Int), .int .u32 (ga : Int)] 31)).alloc (.cells #[.int .u32 (sa : Int), .int .u32 (ga : Int)] 31)) (w.heap.size + 1) [(sa, ga)] := ⟨fun j p hp => by
    match j, hp with
    | 0, hp => cases hp; exact ⟨cell_blk hgb 0 rfl, cell_blk hgb 1 rfl⟩
    | j + 1, hp => simp at hp, by
    intro p hp
    obtain rfl := List.mem_singleton.1 hp; exact ⟨by simp only; omega, by simp only; omega⟩⟩
  have HLI : Hid (Calls Tryd.prog 40 #[.pointer (some ⟨tb, 0, none⟩), .slice (some ⟨w.heap.size + 1, 0, none⟩) 1 1] ((w.alloc (.cells #[.int .u32 (sa : Int), .int .u32 (ga : Int)] 31)).alloc (.cells #[.int .u32 (sa : Int), .int .u32 (ga : Int)] 31)) fun e w' => e = .returned (.int .i64 51) ∧ Below ((w.alloc (.cells #[.int .u32 (sa : Int), .int .u32 (ga : Int)] 31)).alloc (.cells #[.int .u32 (sa : Int), .int .u32 (ga : Int)] 31)).heap.size ((w.alloc (.cells #[.int .u32 (sa : Int), .int .u32 (ga : Int)] 31)).alloc (.cells #[.int .u32 (sa : Int), .int .u32 (ga : Int)] 31)) w') := Lib.hid (lives_calls (h.below hlo) hrow (by simp) (.inr ⟨rfl, (sa, ga), by simp, hd⟩))
  have HLO := Lib.hid hlo
  clear h hd hlo hgb hrow
  go_enter Tryd.func25, Tryd.ntmps25
  go_wp2_with (go_at_call 40; refine HLI.out.mono ?_; rintro e w1 ⟨rfl, b1⟩; have HB1 := Lib.hid (HLO.out.trans (b1.mono HLO.out.size)); clear b1)
  try rw [Exit.noGoto_ret]
  go_ret2
  exact ⟨rfl, HB1.out⟩
end
end Go.Proofs.YtelhnaphkbpakaaDoor

namespace Go.Proofs.YtelhnaphkbpakaaDoor
set_option linter.unusedVariables false

theorem getLast_flat {l : List Nat} {f : Nat → List Nat} {c : Nat} (h : l.getLast? = some c) (hc : f c ≠ []) : (l.flatMap f).getLast? = (f c).getLast? := by
  rcases List.eq_nil_or_concat l with rfl | ⟨t, x, rfl⟩
  · cases h
  · rw [List.concat_eq_append] at h ⊢
    obtain rfl : x = c := by simpa using h
    rw [List.flatMap_append, List.getLast?_append]
    cases hl : (List.flatMap f [x]).getLast? with
    | none =>
      have := List.getLast?_eq_none_iff.1 hl
      simp at this
      exact absurd this hc
    | some v =>
      have e : List.flatMap f [x] = f x := by simp
      rw [e] at hl
      rw [hl]
      rfl
/-- The last one of the order beneath a node. -/
theorem last_down {F : For} (ok : FOk F) {k : Nat} (hk : k < F.length) : (∀ c, lkO F k 2 = some c → (preD F k).getLast? = (preD F c).getLast?) ∧ (lkO F k 2 = none → preD F k = [k]) := by
  have e := preD_eq ok hk
  refine ⟨fun c hc => ?_, fun hn => ?_⟩
  · have hc : (dnOf F (some k)).getLast? = some c := hc
    have hm : c ∈ dnOf F (some k) := List.mem_of_getLast? hc
    have hcl := (ok.kid_up hm).2
    obtain ⟨t, ht⟩ := preD_head ok hcl
    have h1 := getLast_flat (f := preD F) hc (by rw [ht]; simp)
    rw [e, ← h1]
    have hne : (dnOf F (some k)).flatMap (preD F) ≠ [] := by
      intro h0
      rw [h0] at h1
      rw [ht] at h1
      simp at h1
      exact absurd h1.symm (by simp)
    rw [show k :: (dnOf F (some k)).flatMap (preD F) = [k] ++ (dnOf F (some k)).flatMap (preD F) from rfl, List.getLast?_append]
    cases hl : ((dnOf F (some k)).flatMap (preD F)).getLast? with
    | none => exact absurd (List.getLast?_eq_none_iff.1 hl) hne
    | some v => rfl
  · have hn : (dnOf F (some k)).getLast? = none := hn
    rw [e, List.getLast?_eq_none_iff.1 hn]
    rfl
/-- What stands ahead of a node in the order is the last of its sibling ahead, or its parent. -/
theorem step_prev {F : For} (ok : FOk F) : ∀ v, v < F.length → ∀ {m : Nat} {p q : List Nat}, preD F v = p ++ m :: q → m ≠ v → (∀ s, lkO F m 3 = some s → p.getLast? = (preD F s).getLast?) ∧ (lkO F m 3 = none → p.getLast? = upOf F m) := by
  refine ok.kids_ind (fun v hv ih m p q hs hmv => ?_)
  have hnd := preD_nodup ok v hv
  have hm : m ∈ preD F v := by rw [hs]; simp
  rw [preD_eq ok hv] at hm
  rcases List.mem_cons.1 hm with h1 | hm
  · exact absurd h1 hmv
  obtain ⟨c, hc, hm⟩ := List.mem_flatMap.1 hm
  obtain ⟨x, y, hxy⟩ := List.append_of_mem hc
  obtain ⟨p', q', hpq⟩ := List.append_of_mem hm
  have hcu := ok.kid_up hc
  have h2 : preD F v = (v :: x.flatMap (preD F) ++ p') ++ m :: (q' ++ y.flatMap (preD F)) := by
    rw [preD_eq ok hv, hxy, List.flatMap_append, List.flatMap_cons, hpq]
    simp
  obtain ⟨hp, _⟩ := split_once hnd hs h2
  subst hp
  by_cases hmc : m = c
  · subst hmc
    have hp' : p' = [] := by
      obtain ⟨t, ht⟩ := preD_head ok hcu.2
      exact (split_once (p' := []) (q' := t) (preD_nodup ok m hcu.2) hpq ht).1
    subst hp'
    have hnx : m ∉ x := by
      have h8 : (dnOf F (some v)).Nodup := by have := (ok.sibs m).1; rw [hcu.1] at this; exact this
      rw [hxy] at h8
      exact fun h => (List.nodup_append.1 h8).2.2 m h m (by simp) rfl
    have h7 : lkO F m 3 = x.getLast? := by
      show prevOf (dnOf F (upOf F m)) m = _
      rw [hcu.1, hxy]
      exact prev_split hnx
    rw [h7, List.append_nil, hcu.1]
    refine ⟨fun s hs' => ?_, fun hn => ?_⟩
    · have hsm : s ∈ dnOf F (some v) := by rw [hxy]; exact List.mem_append_left _ (List.mem_of_getLast? hs')
      obtain ⟨t, ht⟩ := preD_head ok (ok.kid_up hsm).2
      have h3 := getLast_flat (f := preD F) hs' (by rw [ht]; simp)
      rw [← h3, show v :: x.flatMap (preD F) = [v] ++ x.flatMap (preD F) from rfl, List.getLast?_append]
      cases hl : (x.flatMap (preD F)).getLast? with
      | none =>
        rw [hl, ht] at h3
        have := List.getLast?_eq_none_iff.1 h3.symm
        cases this
      | some v => rfl
    · rw [List.getLast?_eq_none_iff.1 hn]
      rfl
  · have hne : p' ≠ [] := by
      rintro rfl
      obtain ⟨t, ht⟩ := preD_head ok hcu.2
      rw [ht] at hpq
      simp at hpq
      exact hmc hpq.1.symm
    obtain ⟨k1, k2⟩ := ih c hc hpq hmc
    have e : (v :: x.flatMap (preD F) ++ p').getLast? = p'.getLast? := by
      rw [List.getLast?_append]
      cases hl : p'.getLast? with
      | none => exact absurd (List.getLast?_eq_none_iff.1 hl) hne
      | some v => rfl
    rw [e]
    exact ⟨k1, k2⟩
end Go.Proofs.YtelhnaphkbpakaaDoor

namespace Go.Proofs.YtelhnaphkbpakaaDoor
open Go.RowKit
set_option linter.unusedVariables false
set_option maxRecDepth 100000

theorem preD_kid_len {F : For} (ok : FOk F) {k c : Nat} (hk : k < F.length) (hc : c ∈ dnOf F (some k)) : (preD F c).length < (preD F k).length := by
  obtain ⟨x, y, e⟩ := List.append_of_mem hc
  rw [preD_eq ok hk, e]
  simp
  omega
theorem FOk.last_live {F : For} (ok : FOk F) {k c : Nat} (h : lkO F k 2 = some c) : ∃ x : FN, F[c]? = some x ∧ x.live = true := by
  have hm : c ∈ dnOf F (some k) := List.mem_of_getLast? h
  unfold dnOf at hm
  simp only [Option.bind_some] at hm
  cases hk : F[k]? with
  | none => rw [hk] at hm; cases hm
  | some y =>
    rw [hk] at hm
    obtain ⟨x, hx, _, hl⟩ := ok.dn k y hk c hm
    exact ⟨x, hx, hl⟩
theorem FOk.ahead_live {F : For} (ok : FOk F) {k c : Nat} (h : lkO F k 3 = some c) : ∃ x : FN, F[c]? = some x ∧ x.live = true := by
  have h1 : prevOf (dnOf F (upOf F k)) k = some c := h
  unfold prevOf at h1
  split at h1
  · cases h1
  · exact ((ok.sibs k).2.2 c (List.mem_of_getElem? h1)).2
section
variable {B : Nat} {Q : Nat → Prop} {w w' : World} {tb : Nat} {X : TX}
set_option maxHeartbeats 8000000 in
theorem prevT_calls (h : TreeAt B Q w tb X) (hz : NoneAt w) {k r t : Nat} {xk xr xt : FN} (hk : X.F[k]? = some xk) (hkl : xk.live = true) (hr : X.F[r]? = some xr) (hrl : xr.live = true) {c : List Nat} (hc : Chain X.F k (k :: c)) (hm : r ∈ k :: c) (hne : k ≠ r) {p q : List Nat} (hp : preD X.F r = p ++ k :: q) (ht : p.getLast? = some t) (hxt : X.F[t]? = some xt) :
    Calls Tryd.prog 24 #[.pointer (some ⟨tb, 0, none⟩), .agg #[.int .u32 (xk.sl : Int), .int .u32 (xk.gn : Int)], .agg #[.int .u32 (xr.sl : Int), .int .u32 (xr.gn : Int)]] w fun e w' => e = .returned (.tuple #[.agg #[.int .u32 (xt.sl : Int), .int .u32 (xt.gn : Int)], .int .i64 0]) ∧ Below w.heap.size w w' := by
  have HT := Lib.hid h
  have HZ := Lib.hid hz
  have ok := Lib.hid h.fok
  have hrlen := (List.getElem?_eq_some_iff.1 hr).1
  obtain ⟨sp1, sp2⟩ := step_prev h.fok r hrlen hp hne
  have HSP := Lib.hid (And.intro sp1 (And.intro sp2 (And.intro ht hxt)))
  have HW : Hid (∀ W, Below w.heap.size w W → Calls Tryd.prog 52 #[.pointer (some ⟨tb, 0, none⟩), .agg #[.int .u32 (xk.sl : Int), .int .u32 (xk.gn : Int)], .agg #[.int .u32 (xr.sl : Int), .int .u32 (xr.gn : Int)]] W fun e w' => e = .returned (.int .i64 0) ∧ Below W.heap.size W w') := Lib.hid (fun W b => withinT_calls (h.below b) (hz.below b) hk hkl hr hrl hc (.inl ⟨hm, rfl⟩))
  have HA3 : Hid (∀ W, Below w.heap.size w W → Calls Tryd.prog 53 #[.pointer (some ⟨tb, 0, none⟩), .agg #[.int .u32 (xk.sl : Int), .int .u32 (xk.gn : Int)]] W fun e w' => e = .returned (.tuple #[.agg #[.int .u32 ((hd X.F (lkO X.F k 3)).1 : Int), .int .u32 ((hd X.F (lkO X.F k 3)).2 : Int)], .int .i64 0]) ∧ Below W.heap.size W w') := Lib.hid (fun W b => ahead_live (h.rw.below b) hk hkl)
  have HPA : Hid (∀ W, Below w.heap.size w W → Calls Tryd.prog 54 #[.pointer (some ⟨tb, 0, none⟩), .agg #[.int .u32 (xk.sl : Int), .int .u32 (xk.gn : Int)]] W fun e w' => e = .returned (.tuple #[.agg #[.int .u32 ((hd X.F (upOf X.F k)).1 : Int), .int .u32 ((hd X.F (upOf X.F k)).2 : Int)], .int .i64 0]) ∧ Below W.heap.size W w') := Lib.hid (fun W b => parent_live (h.rw.below b) hk hkl)
  have hE := h.rw.hd_inj ⟨xk, hk, hkl⟩ ⟨xr, hr, hrl⟩
  rw [hd_some hk, hd_some hr, decide_eq_false hne] at hE
  have qE : hEq (xk.sl : Int) (xk.gn : Int) (xr.sl : Int) (xr.gn : Int) = false := hE
  clear h hz hk hkl hr hrl hc hm hne hp ht hxt hE sp1 sp2 hrlen
  obtain ⟨ts, hts⟩ : ∃ s, s = xt.sl := ⟨_, rfl⟩
  obtain ⟨tg, htg⟩ : ∃ s, s = xt.gn := ⟨_, rfl⟩
  rw [← hts, ← htg]
  have HTS := Lib.hid (And.intro hts htg)
  clear hts htg
  generalize xk.sl = s at *
  generalize xk.gn = g at *
  generalize xr.sl = s1 at *
  generalize xr.gn = g1 at *
  obtain ⟨a1, a2, a3⟩ := alloc3_bt w (.cells #[.int .u32 (s : Int), .int .u32 (g : Int)] 31) (.cells #[.int .u32 (s1 : Int), .int .u32 (g1 : Int)] 31) (.cells #[.int .u32 0, .int .u32 0] 31)
  have HA := Lib.hid (And.intro (And.intro a1 (And.intro a2 a3)) (alloc3_lo w (.cells #[.int .u32 (s : Int), .int .u32 (g : Int)] 31) (.cells #[.int .u32 (s1 : Int), .int .u32 (g1 : Int)] 31) (.cells #[.int .u32 0, .int .u32 0] 31)))
  clear a1 a2 a3
  have WARM : True := trivial
  cases hl3 : lkO X.F k 3 with
  | none =>
    have hup : upOf X.F k = some t := by rw [← HSP.out.2.1 hl3]; exact HSP.out.2.2.1
    rw [hl3, hd_none] at HA3
    rw [hup, hd_some HSP.out.2.2.2, ← HTS.out.1, ← HTS.out.2] at HPA
    have q0 : hEq 0 0 0 0 = true := hEq_true rfl rfl
    clear hl3 hup
    go_enter Tryd.func24, Tryd.ntmps24
    go_wp2_with (first | (go_at_call 52; refine (HW.out _ HA.out.2).mono ?_; rintro e w1 ⟨rfl, b1⟩; have HB1 := Lib.hid (HA.out.2.trans (b1.mono HA.out.2.size)); have h1 := (b1.block _ (lt_of_some HA.out.1.1)).trans HA.out.1.1; have h2 := (b1.block _ (lt_of_some HA.out.1.2.1)).trans HA.out.1.2.1; have h3 := (b1.block _ (lt_of_some HA.out.1.2.2)).trans HA.out.1.2.2; have c0 := cell_blk h1 0 rfl; have c1 := cell_blk h1 1 rfl; have c2 := cell_blk h2 0 rfl; have c3 := cell_blk h2 1 rfl; have HX1 := Lib.hid (And.intro h1 h3); clear b1 h1 h2 h3) | (go_at_call 53; refine (HA3.out _ HB1.out).mono ?_; rintro e w2 ⟨rfl, b2⟩; have HB2 := Lib.hid (HB1.out.trans (b2.mono HB1.out.size)); have h1 := (b2.block _ (lt_of_some HX1.out.1)).trans HX1.out.1; have h3 := (b2.block _ (lt_of_some HX1.out.2)).trans HX1.out.2; have n0 := (HZ.out.below HB2.out).a; have n1 := (HZ.out.below HB2.out).b; have nl := cell_lt n0; have d0 := cell_blk h1 0 rfl; have d1 := cell_blk h1 1 rfl; have dl := lt_of_some h1; have hn3 : w.heap.size + 1 + 1 ≠ w2.heap.size := Nat.ne_of_lt (lt_of_some h3); have hn4 : w2.heap.size ≠ w.heap.size + 1 + 1 := Ne.symm hn3; have HX2 := Lib.hid h3; clear b2 h1 h3) | (go_at_call 54; refine (HPA.out _ (HB2.out.alloc HB2.out.size _)).mono ?_; rintro e w3 ⟨rfl, b3⟩; have HB3 := Lib.hid ((HB2.out.alloc HB2.out.size _).trans (b3.mono (HB2.out.alloc HB2.out.size _).size)); have h9 := (b3.block _ (lt_of_some (Go.heap_alloc_new w2 _))).trans (Go.heap_alloc_new w2 (.cells #[.int .u32 0, .int .u32 0] 31)); have h3 := (b3.block _ (Nat.lt_of_lt_of_le (lt_of_some HX2.out) ((Below.refl w2.heap.size w2).alloc (Nat.le_refl _) _).size)).trans (alloc_blk HX2.out _); have m0 := free_blk h9 0; have m1 := free_blk h9 1; have m2 := cell_blk h9 0 rfl; have m3 := cell_blk h9 1 rfl; have e0 := cell_blk h3 0 rfl; have e1 := cell_blk h3 1 rfl; have f0 := free_blk h3 0; have f1 := free_blk h3 1; have l9 := lt_of_some h9; have l3 := lt_of_some h3; have HX3 := Lib.hid (And.intro h9 h3); clear b3 h9 h3))
    have hs2 := HB2.out.size
    have hF3 : ((w3.setCell ⟨w2.heap.size, 0, none⟩ (.int .u32 (ts : Int))).setCell ⟨w2.heap.size, 1, none⟩ (.int .u32 (tg : Int))).heap[w.heap.size + 1 + 1]? = some (.cells #[.int .u32 0, .int .u32 0] 31 (0, 0)) := by rw [heap_setCell_other _ _ _ _ hn3, heap_setCell_other _ _ _ _ hn3]; exact HX3.out.2
    have hF := set_blk (set_blk hF3 0 (.int .u32 (ts : Int))) 1 (.int .u32 (tg : Int))
    have z0 := cell_blk hF 0 rfl
    have z1 := cell_blk hF 1 rfl
    exact bodyPost_ret (v := .tuple #[.agg #[.int .u32 (ts : Int), .int .u32 (tg : Int)], .int .i64 0]) (by simp [results, Tryd.results24, go_sem, z0, z1]) rfl ⟨rfl, (((HB3.out.setCell hs2 _).setCell hs2 _).setCell (by simp only; omega) _).setCell (by simp only; omega) _⟩
  | some s3 =>
    obtain ⟨x3, k3, k3l⟩ := ok.out.ahead_live hl3
    have hl := HSP.out.1 s3 hl3
    have H0 : Hid ((preD X.F s3).getLast? = some t) := Lib.hid (by rw [← hl]; exact HSP.out.2.2.1)
    rw [hl3, hd_some k3] at HA3
    obtain ⟨nb, P, hmm, hat, hsl, hs2, hg2⟩ := HT.out.rw.at_live k3 k3l
    have q0 : hEq (x3.sl : Int) (x3.gn : Int) 0 0 = false := hEq_false (.inl (by omega))
    have H3 := Lib.hid (And.intro k3 k3l)
    clear hl3 k3 k3l hl hmm hat hsl hs2 hg2
    go_enter Tryd.func24, Tryd.ntmps24
    go_wp2_with (first | (go_at_call 52; refine (HW.out _ HA.out.2).mono ?_; rintro e w1 ⟨rfl, b1⟩; have HB1 := Lib.hid (HA.out.2.trans (b1.mono HA.out.2.size)); have h1 := (b1.block _ (lt_of_some HA.out.1.1)).trans HA.out.1.1; have h2 := (b1.block _ (lt_of_some HA.out.1.2.1)).trans HA.out.1.2.1; have h3 := (b1.block _ (lt_of_some HA.out.1.2.2)).trans HA.out.1.2.2; have c0 := cell_blk h1 0 rfl; have c1 := cell_blk h1 1 rfl; have c2 := cell_blk h2 0 rfl; have c3 := cell_blk h2 1 rfl; have HX1 := Lib.hid (And.intro h1 h3); clear b1 h1 h2 h3) | (go_at_call 53; refine (HA3.out _ HB1.out).mono ?_; rintro e w2 ⟨rfl, b2⟩; have HB2 := Lib.hid (HB1.out.trans (b2.mono HB1.out.size)); have h3 := (b2.block _ (lt_of_some HX1.out.2)).trans HX1.out.2; have n0 := (HZ.out.below HB2.out).a; have n1 := (HZ.out.below HB2.out).b; have nl := cell_lt n0; have HX2 := Lib.hid h3; clear b2 h3))
    clear q0 n0 n1 nl c0 c1 c2 c3 qE
    go_loopg [12] (preD X.F s3).length (fun n v wr => ∃ (y : Nat) (xy : FN), Hid (X.F[y]? = some xy ∧ xy.live = true ∧ (preD X.F y).getLast? = some t ∧ (preD X.F y).length = n ∧ Below w.heap.size w wr) ∧ wr.heap[w2.heap.size]? = some (.cells #[.int .u32 (xy.sl : Int), .int .u32 (xy.gn : Int)] 31 (0, 0)) ∧ wr.heap[w.heap.size + 1 + 1]? = some (.cells #[.int .u32 0, .int .u32 0] 31 (0, 0)))
    case atStart => exact ⟨s3, x3, Lib.hid ⟨H3.out.1, H3.out.2, H0.out, rfl, HB2.out.alloc HB2.out.size _⟩, Go.heap_alloc_new w2 _, alloc_blk HX2.out _⟩
    case round =>
      obtain ⟨y, xy, hw, hx, hz⟩ := hrel
      have x0 := cell_blk hx 0 rfl
      have x1 := cell_blk hx 1 rfl
      have u0 := cell_blk hz 0 rfl
      have u1 := cell_blk hz 1 rfl
      have f0 := free_blk hz 0
      have f1 := free_blk hz 1
      have g0 := free_blk hx 0
      have g1' := free_blk hx 1
      have lx := lt_of_some hx
      have lz := lt_of_some hz
      have HY := Lib.hid (And.intro hx hz)
      have hlow := hw.out.2.2.2.2
      have HLO := Lib.hid hlow
      have hsz := hlow.size
      have hne := Nat.ne_of_lt (lt_of_some HX2.out)
      have hyl := (List.getElem?_eq_some_iff.1 hw.out.1).1
      obtain ⟨ld1, ld2⟩ := last_down ok.out hyl
      have HLA : Hid (∀ W, Below w.heap.size w W → Calls Tryd.prog 55 #[.pointer (some ⟨tb, 0, none⟩), .agg #[.int .u32 (xy.sl : Int), .int .u32 (xy.gn : Int)]] W fun e w' => e = .returned (.tuple #[.agg #[.int .u32 ((hd X.F (lkO X.F y 2)).1 : Int), .int .u32 ((hd X.F (lkO X.F y 2)).2 : Int)], .int .i64 0]) ∧ Below W.heap.size W w') := Lib.hid (fun W b => last_live (HT.out.rw.below b) hw.out.1 hw.out.2.1)
      clear hx hz hlow
      cases hl2 : lkO X.F y 2 with
      | none =>
        have hyt : y = t := by
          have h1 := ld2 hl2
          have h2 := hw.out.2.2.1
          rw [h1] at h2
          simpa using h2
        have hxe : xy.sl = ts ∧ xy.gn = tg := by
          have h1 := hw.out.1
          rw [hyt, HSP.out.2.2.2] at h1
          cases h1
          exact ⟨HTS.out.1.symm, HTS.out.2.symm⟩
        rw [hl2, hd_none] at HLA
        have q0 : hEq 0 0 0 0 = true := hEq_true rfl rfl
        have HXE := Lib.hid hxe
        clear hl2 ld1 ld2 hyt hxe
        go_wp2_with (go_at_call 55; refine (HLA.out _ HLO.out).mono ?_; rintro e w3 ⟨rfl, b3⟩; have HB3 := Lib.hid (HLO.out.trans (b3.mono HLO.out.size)); have n0 := (HZ.out.below HB3.out).a; have n1 := (HZ.out.below HB3.out).b; have nl := cell_lt n0; have h1 := (b3.block _ (lt_of_some HY.out.1)).trans HY.out.1; have h3 := (b3.block _ (lt_of_some HY.out.2)).trans HY.out.2; have d0 := cell_blk h1 0 rfl; have d1 := cell_blk h1 1 rfl; have dl := lt_of_some h1; have e0 := cell_blk h3 0 rfl; have e1 := cell_blk h3 1 rfl; have m0 := free_blk h3 0; have m1 := free_blk h3 1; have l3 := lt_of_some h3; have HX3 := Lib.hid h3; clear b3 h1 h3)
        have hF := alloc_blk (set_blk (set_blk HX3.out 0 (.int .u32 (xy.sl : Int))) 1 (.int .u32 (xy.gn : Int))) (.cells #[.int .u32 0, .int .u32 0] 31)
        have z0 := cell_blk hF 0 rfl
        have z1 := cell_blk hF 1 rfl
        try rw [Exit.noGoto_ret]
        exact bodyPost_ret (v := .tuple #[.agg #[.int .u32 (xy.sl : Int), .int .u32 (xy.gn : Int)], .int .i64 0]) (by simp [results, Tryd.results24, go_sem, z0, z1]) rfl ⟨by rw [HXE.out.1, HXE.out.2], ((HB3.out.setCell (by simp only; omega) _).setCell (by simp only; omega) _).alloc (by simp; exact HB3.out.size) _⟩
      | some c2 =>
        have h9 := ld1 c2 hl2
        obtain ⟨xc, hxc, hxcl⟩ := ok.out.last_live hl2
        have hcm : c2 ∈ dnOf X.F (some y) := List.mem_of_getLast? hl2
        have hml := preD_kid_len ok.out hyl hcm
        rw [hl2, hd_some hxc] at HLA
        obtain ⟨nb', P', hm', hat', hsl', hs2', hg2'⟩ := HT.out.rw.at_live hxc hxcl
        have q2 : hEq (xc.sl : Int) (xc.gn : Int) 0 0 = false := hEq_false (.inl (by omega))
        have HNX := Lib.hid (And.intro hxc (And.intro hxcl (h9 ▸ hw.out.2.2.1)))
        have HM : Hid ((preD X.F c2).length < gk) := Lib.hid (by rw [← hw.out.2.2.2.1]; exact hml)
        clear hw hl2 ld1 ld2 h9 hxc hxcl hcm hml hm' hat' hs2' hg2'
        go_wp2_with (go_at_call 55; refine (HLA.out _ HLO.out).mono ?_; rintro e w3 ⟨rfl, b3⟩; have HB3 := Lib.hid (HLO.out.trans (b3.mono HLO.out.size)); have n0 := (HZ.out.below HB3.out).a; have n1 := (HZ.out.below HB3.out).b; have nl := cell_lt n0; have h1 := (b3.block _ (lt_of_some HY.out.1)).trans HY.out.1; have h3 := (b3.block _ (lt_of_some HY.out.2)).trans HY.out.2; have d0 := free_blk h1 0; have d1 := free_blk h1 1; have d2 := cell_blk h1 0 rfl; have d3 := cell_blk h1 1 rfl; have dl := lt_of_some h1; have HX3 := Lib.hid (And.intro h1 h3); clear b3 h1 h3)
        go_roundg (preD X.F c2).length
        case measure => exact HM.out
        case rel => exact ⟨c2, xc, Lib.hid ⟨HNX.out.1, HNX.out.2.1, HNX.out.2.2, rfl, ((HB3.out.setCell HB2.out.size _).setCell HB2.out.size _).alloc (by simp; exact HB3.out.size) _⟩, alloc_blk (set_blk (set_blk HX3.out.1 0 _) 1 _) _, alloc_blk (by rw [heap_setCell_other _ _ _ _ hne, heap_setCell_other _ _ _ _ hne]; exact HX3.out.2) _⟩
end
end Go.Proofs.YtelhnaphkbpakaaDoor

