/- trail's above over a tree in memory: a node and all that have it. trail's has and ahead over a tree in memory. The order of a forest's nodes: each ahead of those beneath it. No program. Which of two nodes stands ahead, by their ways up. No program. Which of two nodes stands ahead, as a number. No program. The reference's forest walked: Handle, Root, Has. The reference's forest walked: At, place. The reference's forest changed: a node put behind the last, a cell of a node written. Made walked. The reference's forest: Hang walked. -/
import Derived.Deep.RegionLaw
import Derived.Deep.AppendLies
import Derived.Deep.DeepMust
import Derived.Test.YtelhnaphkbpakaaDoorMw18
namespace Go.Proofs.YtelhnaphkbpakaaDoor
open Go.RowKit
set_option linter.unusedVariables false
set_option maxRecDepth 100000

/-- The variable trail.none, as it lies. -/
structure NoneAt (w : World) : Prop where
  a : w.cell? ⟨0, 0, none⟩ = some (.int .u32 0)
  b : w.cell? ⟨0, 1, none⟩ = some (.int .u32 0)
theorem NoneAt.below {w w' : World} (h : NoneAt w) (b : Below w.heap.size w w') : NoneAt w' := ⟨(b.cell (p := ⟨0, 0, none⟩) (cell_lt h.a)).trans h.a, (b.cell (p := ⟨0, 1, none⟩) (cell_lt h.b)).trans h.b⟩
theorem NoneAt.lt {w : World} (h : NoneAt w) : 0 < w.heap.size := cell_lt h.a
def hcell (F : For) (k : Nat) : List Value := [.int .u32 ((hd F (some k)).1 : Int), .int .u32 ((hd F (some k)).2 : Int)]
def hcells (F : For) (l : List Nat) : List Value := l.flatMap (hcell F)
theorem hcells_len (F : For) (l : List Nat) : (hcells F l).length = l.length * 2 := by
  induction l with
  | nil => rfl
  | cons k l ih =>
    show (hcell F k ++ hcells F l).length = _
    rw [List.length_append, ih]
    simp [hcell]
    omega
theorem hcells_app (F : For) (a b : List Nat) : hcells F (a ++ b) = hcells F a ++ hcells F b := by simp [hcells]
theorem hcells_at {F : For} {l : List Nat} {j k : Nat} (h : l[j]? = some k) : (hcells F l)[j * 2]? = some (.int .u32 ((hd F (some k)).1 : Int)) ∧ (hcells F l)[j * 2 + 1]? = some (.int .u32 ((hd F (some k)).2 : Int)) := by
  induction l generalizing j with
  | nil => simp at h
  | cons y l ih =>
    have e : hcells F (y :: l) = .int .u32 ((hd F (some y)).1 : Int) :: .int .u32 ((hd F (some y)).2 : Int) :: hcells F l := rfl
    cases j with
    | zero =>
      obtain rfl : y = k := by simpa using h
      rw [e]
      exact ⟨rfl, rfl⟩
    | succ i =>
      have h2 : l[i]? = some k := by simpa using h
      have h3 := ih h2
      rw [e, show (i + 1) * 2 = i * 2 + 1 + 1 by omega, show i * 2 + 1 + 1 + 1 = (i * 2 + 1) + 1 + 1 by omega]
      simpa using h3
/-- What holds at the head of a round of above. -/
structure AbR (F : For) (w : World) (l : List Nat) (n : Nat) (W : World) (cur : Option Nat) (rest pre : List Nat) (v : Value) : Prop where
  low : Below w.heap.size w W
  len : rest.length = n
  on : Rest F cur rest
  all : l = pre ++ rest
  live : ∀ k, cur = some k → ∃ x : FN, F[k]? = some x ∧ x.live = true
  row : W.ownsRow (w.heap.size + 1) 31 2 v pre.length (hcells F pre)

section
variable {B : Nat} {Q : Nat → Prop} {w w' : World} {tb : Nat} {X : TX}
set_option maxHeartbeats 4000000 in
theorem above_calls (h : TreeAt B Q w tb X) (hz : NoneAt w) {k : Nat} {x : FN} (hx : X.F[k]? = some x) (hxl : x.live = true) {l : List Nat} (hc : Chain X.F k l) :
    Calls Tryd.prog 41 #[.pointer (some ⟨tb, 0, none⟩), .agg #[.int .u32 (x.sl : Int), .int .u32 (x.gn : Int)]] w fun e w' => ∃ v, e = .returned v ∧ w'.ownsRow w.heap.size 31 2 v l.length (hcells X.F l) ∧ Below w.heap.size w w' := by
  have HT := Lib.hid h
  have HZ := Lib.hid hz
  have hz0' := hz.lt
  have ok := Lib.hid h.fok
  have hbig := h.rw.big
  have hll := hc.len
  have hu0 : hd X.F (some k) = (x.sl, x.gn) := hd_some hx
  obtain ⟨s, hs⟩ : ∃ s, s = x.sl := ⟨_, rfl⟩
  obtain ⟨g, hg⟩ : ∃ g, g = x.gn := ⟨_, rfl⟩
  rw [← hs, ← hg]
  rw [← hs, ← hg] at hu0
  obtain ⟨i0, hi0, hz0, hz1, hz2⟩ := info_parts infoH
  obtain ⟨V, hV⟩ : ∃ V, V = w.alloc (.cells #[.int .u32 (s : Int), .int .u32 (g : Int)] 31) := ⟨_, rfl⟩
  have bV : Below w.heap.size w V := by rw [hV]; exact (by repeat (first | exact Below.refl _ _ | assumption | refine Below.drew ?_ | refine below_drewN ?_ _ | refine Below.alloc ?_ (by simp <;> omega) _ | refine Below.setCell ?_ (by simp <;> omega) _ | (apply bl_trans; assumption; (simp <;> omega))))
  have hxx : V.heap[w.heap.size]? = some (.cells #[.int .u32 (s : Int), .int .u32 (g : Int)] 31 (0, 0)) := by rw [hV]; exact Go.heap_alloc_new w _
  have H0 : Hid (AbR X.F w l l.length V (some k) l [] (.slice none 0 0) ∧ hd X.F (some k) = (s, g)) := Lib.hid ⟨⟨bV, rfl, hc, rfl, fun k' hk => by cases hk; exact ⟨_, hx, hxl⟩, World.ownsRow_nil _ _ _ _⟩, hu0⟩
  have HX := Lib.hid hxx
  obtain ⟨n, hn⟩ : ∃ n, n = l.length := ⟨_, rfl⟩
  have HN := Lib.hid hn
  rw [← hn] at hll
  have hV2 := hV
  clear hV hxx bV h hx hxl hu0 hs hg hc hz hn
  go_enter Tryd.func41, Tryd.ntmps41
  go_wp2_with fail
  rw [← hV2]
  clear hV2
  go_loopg [5] n (fun n' v wr => ∃ (cur : Option Nat) (rest pre : List Nat), Hid (AbR X.F w l n' wr cur rest pre v) ∧ wr.heap[w.heap.size]? = some (.cells #[.int .u32 ((hd X.F cur).1 : Int), .int .u32 ((hd X.F cur).2 : Int)] 31 (0, 0)))
  case atStart => exact ⟨some k, l, [], Lib.hid (by rw [HN.out]; exact H0.out.1), by rw [H0.out.2]; exact HX.out⟩
  case round =>
    obtain ⟨cur, rest, pre, hw, hxx⟩ := hrel
    have x0 := cell_blk hxx 0 rfl
    have x1 := cell_blk hxx 1 rfl
    have HY := Lib.hid hxx
    simp at x0 x1
    have n0 := (HZ.out.below hw.out.low).a
    have n1 := (HZ.out.below hw.out.low).b
    clear hxx
    cases cur with
    | none =>
      rw [hd_none] at x0 x1
      simp at x0 x1
      have q0 : hEq 0 0 0 0 = true := hEq_true rfl rfl
      have HEND : Hid (pre = l) := Lib.hid (by
        have h2 : rest = [] := hw.out.on
        rw [hw.out.all, h2]; simp)
      go_wp2_with fail
      try rw [Exit.noGoto_ret]
      go_ret
      exact ⟨_, rfl, by rw [← HEND.out]; exact hw.out.row.mono (Nat.le_succ _), hw.out.low⟩
    | some c =>
      obtain ⟨xk, hk, hkl⟩ := hw.out.live c rfl
      have e := hd_some hk
      rw [e] at x0 x1
      obtain ⟨nb, P, hm, hat, hsl, hs2, hg2⟩ := HT.out.rw.at_live hk hkl
      have q0 : hEq (xk.sl : Int) (xk.gn : Int) 0 0 = false := hEq_false (.inl (by omega))
      have HF : Hid (∀ W, Below w.heap.size w W → Calls Tryd.prog 54 #[.pointer (some ⟨tb, 0, none⟩), .agg #[.int .u32 (xk.sl : Int), .int .u32 (xk.gn : Int)]] W fun e w' =>
          e = .returned (.tuple #[.agg #[.int .u32 ((hd X.F (upOf X.F c)).1 : Int), .int .u32 ((hd X.F (upOf X.F c)).2 : Int)], .int .i64 0]) ∧ Below W.heap.size W w') := Lib.hid (fun W b => parent_live (HT.out.rw.below b) hk hkl)
      obtain ⟨rt, e1, e2⟩ := hw.out.on.next
      have hlen : pre.length + rest.length = n := by rw [HN.out, hw.out.all]; simp
      have hgk := hw.out.len
      have hrl : rest.length = rt.length + 1 := by rw [e1]; rfl
      have HM : Hid (rt.length < gk) := Lib.hid (by omega)
      have HC : Hid (hcells X.F (pre ++ [c]) = hcells X.F pre ++ [.int .u32 (xk.sl : Int), .int .u32 (xk.gn : Int)]) := Lib.hid (by
        rw [hcells_app]
        have : hcells X.F [c] = [.int .u32 (xk.sl : Int), .int .u32 (xk.gn : Int)] := by
          show hcell X.F c ++ [] = _
          unfold hcell
          rw [e]; rfl
        rw [this])
      have HNX : Hid (∀ W v, Below w.heap.size w W → W.ownsRow (w.heap.size + 1) 31 2 v (pre.length + 1) (hcells X.F (pre ++ [c])) → AbR X.F w l rt.length W (upOf X.F c) rt (pre ++ [c]) v) := Lib.hid (fun W v b hrow => ⟨b, rfl, e2, by rw [hw.out.all, e1]; simp, fun k' hk' => ok.out.up_live hk', by simpa using hrow⟩)
      have HL := Lib.hid hw.out.low
      have hs1 := hw.out.low.size
      have hs1b : w.heap.size + 1 ≤ wr.heap.size := lt_of_some HY.out
      have hs1a : ∀ o, w.heap.size + 1 ≤ (wr.alloc o).heap.size := fun o => Nat.le_trans hs1b ((Below.refl wr.heap.size wr).alloc (Nat.le_refl _) o).size
      have hrow := hw.out.row
      have lx := lt_of_some HY.out
      generalize hpl : pre.length = pl at *
      have hm1 : pl + 1 ≤ maxLen := by unfold maxLen; omega
      have hm2 : (pl + 1) * 8 ≤ 140737488355328 := by omega
      have HE := Lib.hid e
      clear hk hkl e hm hat hsl hs2 hg2 e1 e2 hw hpl hlen hrl
      go_wp2_with (first | (at_builtin; (refine wpList_append_lies _ rfl (.tmp 9) (.tmp 11) 70 rfl (w.heap.size + 1) 31 i0 _ 2 8 Tryd.underlying70 hi0 hz0 hz1 hz2 rfl (by omega) _ pl _ rfl (hrow.alloc _) ⟨wr.heap.size, 0, none⟩ 1 1 [.int .u32 (xk.sl : Int), .int .u32 (xk.gn : Int)] rfl rfl (World.news_of_block (cs := #[.int .u32 (xk.sl : Int), .int .u32 (xk.gn : Int)]) (t := 31) (fr := (0, 0)) (Go.heap_alloc_new wr _)) (by simp [Value.oneCell']) (by omega) hm1 hm2 (hs1a _) (wr.heap.size + 1) (by simp) ?_; intro g2 c2 w2 hown2 hg2 hat2 hlt2; have hb2 : Below w.heap.size w w2 := (HL.out.alloc hs1 _).trans (grown_below hg2 (fun x e => Nat.le_trans (Nat.le_succ _) (hrow.lt x e).1) (Nat.le_trans (Nat.le_succ _) (hs1a _))); have hx2 := (hg2.block _ (Nat.lt_of_lt_of_le lx ((Below.refl wr.heap.size wr).alloc (Nat.le_refl _) _).size) (fun e => by have := (hrow.lt _ e.symm).1; omega)).trans (alloc_blk HY.out _); have y0 := cell_blk hx2 0 rfl; have y1 := cell_blk hx2 1 rfl; rw [HE.out] at y0 y1; simp at y0 y1; have HX2 := Lib.hid hx2; have HB2 := Lib.hid hb2; have HOWN := Lib.hid (HC.out.symm ▸ hown2); clear hat2 hlt2 hx2 hb2 hown2)) | (go_at_call 54; refine (HF.out _ HB2.out).mono ?_; rintro e w3 ⟨rfl, b3⟩; have hx3 := (b3.block _ (lt_of_some HX2.out)).trans HX2.out; have z0 := cell_blk hx3 0 rfl; have z1 := cell_blk hx3 1 rfl; have f0 := free_blk hx3 0; have f1 := free_blk hx3 1; have HX3 := Lib.hid hx3; have HB3 := Lib.hid (HB2.out.trans (b3.mono HB2.out.size)); have HO3 := Lib.hid (row_below HOWN.out b3); clear b3 hx3))
      go_roundg rt.length
      case measure => exact HM.out
      case rel =>
        have hf : ∀ u v, FrG [31] (fun b => b = w.heap.size) w3 ((w3.setCell ⟨w.heap.size, 0, none⟩ u).setCell ⟨w.heap.size, 1, none⟩ v) := fun u v => FrG.set (Q := fun b => b = w.heap.size) (FrG.set (Q := fun b => b = w.heap.size) (FrG.refl _ _ _) (a := ⟨w.heap.size, 0, none⟩) (.inl rfl) HX3.out (List.mem_singleton.2 rfl) u) (a := ⟨w.heap.size, 1, none⟩) (.inl rfl) (set_blk HX3.out 0 u) (List.mem_singleton.2 rfl) v
        exact ⟨upOf X.F c, rt, pre ++ [c], Lib.hid (HNX.out _ _ ((HB3.out.setCell (Nat.le_refl _) _).setCell (Nat.le_refl _) _) ((hf _ _).rowQ HO3.out (fun b hb e => by have := (HO3.out.lt b hb).1; omega))), set_blk (set_blk HX3.out 0 _) 1 _⟩
end
end Go.Proofs.YtelhnaphkbpakaaDoor

namespace Go.Proofs.YtelhnaphkbpakaaDoor
open Go.RowKit
set_option linter.unusedVariables false
set_option maxRecDepth 100000

/-- What holds at the head of a round of has. -/
structure HsR (F : For) (w : World) (a : Nat) (c : List Nat) (n : Nat) (W : World) (cur : Option Nat) (rest : List Nat) : Prop where
  low : Below w.heap.size w W
  len : rest.length = n
  on : Rest F cur rest
  mem : a ∈ c ↔ a ∈ rest.tail
  live : ∀ k, cur = some k → ∃ x : FN, F[k]? = some x ∧ x.live = true

section
variable {B : Nat} {Q : Nat → Prop} {w w' : World} {tb : Nat} {X : TX}
set_option maxHeartbeats 4000000 in
theorem hasT_calls (h : TreeAt B Q w tb X) (hz : NoneAt w) {ka kb : Nat} {xa xb : FN} (ha : X.F[ka]? = some xa) (hal : xa.live = true) (hb : X.F[kb]? = some xb) (hbl : xb.live = true) {c : List Nat} (hc : Chain X.F kb (kb :: c)) :
    Calls Tryd.prog 44 #[.pointer (some ⟨tb, 0, none⟩), .agg #[.int .u32 (xa.sl : Int), .int .u32 (xa.gn : Int)], .agg #[.int .u32 (xb.sl : Int), .int .u32 (xb.gn : Int)]] w fun e w' => e = .returned (.bool (decide (ka ∈ c))) ∧ Below w.heap.size w w' := by
  have HT := Lib.hid h
  have HZ := Lib.hid hz
  have ok := Lib.hid h.fok
  have HA := Lib.hid (And.intro ha hal)
  have hu0 : hd X.F (some kb) = (xb.sl, xb.gn) := hd_some hb
  obtain ⟨nba, Pa, hma, hata, hsla, hs2a, hg2a⟩ := h.rw.at_live ha hal
  obtain ⟨s, hs⟩ : ∃ s, s = xb.sl := ⟨_, rfl⟩
  obtain ⟨g, hg⟩ : ∃ g, g = xb.gn := ⟨_, rfl⟩
  obtain ⟨s1, hs1⟩ : ∃ s, s = xa.sl := ⟨_, rfl⟩
  obtain ⟨g1, hg1⟩ : ∃ g, g = xa.gn := ⟨_, rfl⟩
  obtain ⟨r, hr⟩ : ∃ r, r = decide (ka ∈ c) := ⟨_, rfl⟩
  rw [← hs, ← hg, ← hs1, ← hg1, ← hr]
  rw [← hs1] at hsla
  have HS := Lib.hid (And.intro hs1 (And.intro hg1 hr))
  obtain ⟨V, hV⟩ : ∃ V, V = (w.alloc (.cells #[.int .u32 (s1 : Int), .int .u32 (g1 : Int)] 31)).alloc (.cells #[.int .u32 (s : Int), .int .u32 (g : Int)] 31) := ⟨_, rfl⟩
  have bV : Below w.heap.size w V := by rw [hV]; exact (by repeat (first | exact Below.refl _ _ | assumption | refine Below.drew ?_ | refine below_drewN ?_ _ | refine Below.alloc ?_ (by simp <;> omega) _ | refine Below.setCell ?_ (by simp <;> omega) _ | (apply bl_trans; assumption; (simp <;> omega))))
  have hx : V.heap[w.heap.size + 1]? = some (.cells #[.int .u32 (s : Int), .int .u32 (g : Int)] 31 (0, 0)) := by rw [hV]; exact alloc2_blk w _ _
  have hy : V.heap[w.heap.size]? = some (.cells #[.int .u32 (s1 : Int), .int .u32 (g1 : Int)] 31 (0, 0)) := by rw [hV]; exact alloc_blk (Go.heap_alloc_new w _) _
  have H0 : Hid (HsR X.F w ka c (kb :: c).length V (some kb) (kb :: c) ∧ hd X.F (some kb) = (s, g)) := Lib.hid ⟨⟨bV, rfl, hc, Iff.rfl, fun k hk => by cases hk; exact ⟨_, hb, hbl⟩⟩, by rw [hs, hg]; exact hu0⟩
  have HX := Lib.hid (And.intro hx hy)
  have hV2 := hV
  clear hV hx hy bV h ha hal hb hbl hu0 hs hg hs1 hg1 hr hc hma hata hs2a hg2a hz
  go_enter Tryd.func44, Tryd.ntmps44
  go_wp2_with fail
  rw [← hV2]
  clear hV2
  go_loopg [6] (kb :: c).length (fun n v wr => v = .bool false ∧ ∃ (cur : Option Nat) (rest : List Nat), Hid (HsR X.F w ka c n wr cur rest) ∧ wr.heap[w.heap.size + 1]? = some (.cells #[.int .u32 ((hd X.F cur).1 : Int), .int .u32 ((hd X.F cur).2 : Int)] 31 (0, 0)) ∧ wr.heap[w.heap.size]? = some (.cells #[.int .u32 (s1 : Int), .int .u32 (g1 : Int)] 31 (0, 0)))
  case atStart => exact ⟨rfl, some kb, kb :: c, Lib.hid H0.out.1, by rw [H0.out.2]; exact HX.out.1, HX.out.2⟩
  case round =>
    obtain ⟨rfl, cur, rest, hw, hx, hy⟩ := hrel
    have y0 := cell_blk hy 0 rfl
    have y1 := cell_blk hy 1 rfl
    have x0 := cell_blk hx 0 rfl
    have x1 := cell_blk hx 1 rfl
    have HY := Lib.hid (And.intro hx hy)
    have n0 := (HZ.out.below hw.out.low).a
    have n1 := (HZ.out.below hw.out.low).b
    simp at x0 x1 y0 y1
    clear hx hy
    cases cur with
    | none =>
      rw [hd_none] at x0 x1
      simp at x0 x1
      have q0 : hEq 0 0 0 0 = true := hEq_true rfl rfl
      have HR : Hid (r = false) := Lib.hid (by
        have h2 : rest = [] := hw.out.on
        rw [HS.out.2.2]
        exact decide_eq_false (fun hm => by have := hw.out.mem.1 hm; rw [h2] at this; cases this))
      go_wp2_with fail
      try rw [Exit.noGoto_ret]
      go_ret
      exact ⟨by rw [HR.out]; rfl, hw.out.low⟩
    | some k =>
      obtain ⟨xk, hk, hkl⟩ := hw.out.live k rfl
      have e := hd_some hk
      rw [e] at x0 x1
      obtain ⟨nb, P, hm, hat, hsl, hs2, hg2⟩ := HT.out.rw.at_live hk hkl
      have q0 : hEq (xk.sl : Int) (xk.gn : Int) 0 0 = false := hEq_false (.inl (by omega))
      obtain ⟨rt, e1, e2⟩ := hw.out.on.next
      have hgk := hw.out.len
      have HM : Hid (rt.length < gk) := Lib.hid (by rw [← hgk, e1]; simp)
      have HF : Hid (∀ W, Below w.heap.size w W → Calls Tryd.prog 54 #[.pointer (some ⟨tb, 0, none⟩), .agg #[.int .u32 (xk.sl : Int), .int .u32 (xk.gn : Int)]] W fun e w' =>
          e = .returned (.tuple #[.agg #[.int .u32 ((hd X.F (upOf X.F k)).1 : Int), .int .u32 ((hd X.F (upOf X.F k)).2 : Int)], .int .i64 0]) ∧ Below W.heap.size W w') := Lib.hid (fun W b => parent_live (HT.out.rw.below b) hk hkl)
      have HL := Lib.hid hw.out.low
      have HMEM : Hid (ka ∈ c ↔ ka ∈ rt) := Lib.hid (by rw [hw.out.mem, e1]; rfl)
      by_cases hka : upOf X.F k = some ka
      · have q1 : hEq ((hd X.F (upOf X.F k)).1 : Int) ((hd X.F (upOf X.F k)).2 : Int) (s1 : Int) (g1 : Int) = true := by
          rw [hka, hd_some HA.out.1]
          exact hEq_true (by rw [HS.out.1]) (by rw [HS.out.2.1])
        have HR : Hid (r = true) := Lib.hid (by
          rw [HS.out.2.2]
          refine decide_eq_true (HMEM.out.2 ?_)
          rw [hka] at e2
          have e2 : Chain X.F ka rt := e2
          obtain ⟨t, ht⟩ := e2.ne_nil
          rw [ht]; simp)
        clear hk hkl e hm hat hsl hs2 hg2 e1 e2 hw hka
        go_wp2_with (go_at_call 54; refine (HF.out _ HL.out).mono ?_; rintro e w3 ⟨rfl, b3⟩; have hx3 := (b3.block _ (lt_of_some HY.out.1)).trans HY.out.1; have hy3 := (b3.block _ (lt_of_some HY.out.2)).trans HY.out.2; have z0 := cell_blk hx3 0 rfl; have z1 := cell_blk hx3 1 rfl; have f0 := free_blk hx3 0; have f1 := free_blk hx3 1; have v0 := cell_blk hy3 0 rfl; have v1 := cell_blk hy3 1 rfl; have HB3 := Lib.hid (HL.out.trans (b3.mono HL.out.size)); clear b3 hx3 hy3)
        try rw [Exit.noGoto_ret]
        go_ret
        exact ⟨by rw [HR.out]; rfl, (HB3.out.setCell (Nat.le_succ _) _).setCell (Nat.le_succ _) _⟩
      · have q1 : hEq ((hd X.F (upOf X.F k)).1 : Int) ((hd X.F (upOf X.F k)).2 : Int) (s1 : Int) (g1 : Int) = false := by
          refine hEq_false ?_
          cases hup : upOf X.F k with
          | none => rw [hd_none]; exact .inl (by simp only; omega)
          | some u =>
            obtain ⟨xu, hxu, hxul⟩ := ok.out.up_live hup
            rw [hd_some hxu]
            refine .inl (fun e => hka ?_)
            rw [hup]
            congr 1
            exact HT.out.rw.hinj hxu HA.out.1 hxul HA.out.2 (by have := HS.out.1; simp only at e; omega)
        have HNX : Hid (∀ W, Below w.heap.size w W → HsR X.F w ka c rt.length W (upOf X.F k) rt) := Lib.hid (fun W b => ⟨b, rfl, e2, by
          rw [HMEM.out]
          cases hup : upOf X.F k with
          | none => rw [hup] at e2; have e2 : rt = [] := e2; rw [e2]; rfl
          | some u =>
            rw [hup] at e2
            have e2 : Chain X.F u rt := e2
            obtain ⟨t, ht⟩ := e2.ne_nil
            rw [ht]
            have : ka ≠ u := fun e => hka (by rw [hup, e])
            simp [this], fun k' hk' => ok.out.up_live hk'⟩)
        clear hk hkl e hm hat hsl hs2 hg2 e1 e2 hw hka
        go_wp2_with (go_at_call 54; refine (HF.out _ HL.out).mono ?_; rintro e w3 ⟨rfl, b3⟩; have hx3 := (b3.block _ (lt_of_some HY.out.1)).trans HY.out.1; have hy3 := (b3.block _ (lt_of_some HY.out.2)).trans HY.out.2; have z0 := cell_blk hx3 0 rfl; have z1 := cell_blk hx3 1 rfl; have f0 := free_blk hx3 0; have f1 := free_blk hx3 1; have v0 := cell_blk hy3 0 rfl; have v1 := cell_blk hy3 1 rfl; have HXY := Lib.hid (And.intro hx3 hy3); have HB3 := Lib.hid (HL.out.trans (b3.mono HL.out.size)); clear b3 hx3 hy3)
        go_roundg rt.length
        case measure => exact HM.out
        case rel => exact ⟨rfl, upOf X.F k, rt, Lib.hid (HNX.out _ ((HB3.out.setCell (Nat.le_succ _) _).setCell (Nat.le_succ _) _)), set_blk (set_blk HXY.out.1 0 _) 1 _, by rw [heap_setCell_other _ _ _ _ (by simp), heap_setCell_other _ _ _ _ (by simp)]; exact HXY.out.2⟩
set_option maxHeartbeats 2000000 in
theorem aheadT_calls (h : TreeAt B Q w tb X) {ka kb : Nat} {xa xb : FN} (ha : X.F[ka]? = some xa) (hal : xa.live = true) (hb : X.F[kb]? = some xb) (hbl : xb.live = true) :
    Calls Tryd.prog 42 #[.pointer (some ⟨tb, 0, none⟩), .agg #[.int .u32 (xa.sl : Int), .int .u32 (xa.gn : Int)], .agg #[.int .u32 (xb.sl : Int), .int .u32 (xb.gn : Int)]] w fun e w' => e = .returned (.bool (decide (idxF X.F ka < idxF X.F kb))) ∧ Below w.heap.size w w' := by
  have HA : Hid (∀ W, Below w.heap.size w W → Calls Tryd.prog 75 #[.pointer (some ⟨tb, 0, none⟩), .agg #[.int .u32 (xa.sl : Int), .int .u32 (xa.gn : Int)]] W fun e w' => e = .returned (.tuple #[.int .i64 (idxF X.F ka : Int), .int .i64 0]) ∧ Below W.heap.size W w') := Lib.hid (fun W b => index_live (h.below b) ha hal)
  have HB : Hid (∀ W, Below w.heap.size w W → Calls Tryd.prog 75 #[.pointer (some ⟨tb, 0, none⟩), .agg #[.int .u32 (xb.sl : Int), .int .u32 (xb.gn : Int)]] W fun e w' => e = .returned (.tuple #[.int .i64 (idxF X.F kb : Int), .int .i64 0]) ∧ Below W.heap.size W w') := Lib.hid (fun W b => index_live (h.below b) hb hbl)
  generalize idxF X.F ka = i at *
  generalize idxF X.F kb = j at *
  generalize xa.sl = s at *
  generalize xa.gn = g at *
  generalize xb.sl = s1 at *
  generalize xb.gn = g1 at *
  obtain ⟨p, hp⟩ : ∃ p, p = decide (i < j) := ⟨_, rfl⟩
  rw [← hp]
  have HPQ := Lib.hid hp
  clear hp h ha hal hb hbl
  obtain ⟨V, hV⟩ : ∃ V, V = (w.alloc (.cells #[.int .u32 (s : Int), .int .u32 (g : Int)] 31)).alloc (.cells #[.int .u32 (s1 : Int), .int .u32 (g1 : Int)] 31) := ⟨_, rfl⟩
  have bV : Below w.heap.size w V := by rw [hV]; exact (by repeat (first | exact Below.refl _ _ | assumption | refine Below.drew ?_ | refine below_drewN ?_ _ | refine Below.alloc ?_ (by simp <;> omega) _ | refine Below.setCell ?_ (by simp <;> omega) _ | (apply bl_trans; assumption; (simp <;> omega))))
  have hx : V.heap[w.heap.size + 1]? = some (.cells #[.int .u32 (s1 : Int), .int .u32 (g1 : Int)] 31 (0, 0)) := by rw [hV]; exact alloc2_blk w _ _
  have hy : V.heap[w.heap.size]? = some (.cells #[.int .u32 (s : Int), .int .u32 (g : Int)] 31 (0, 0)) := by rw [hV]; exact alloc_blk (Go.heap_alloc_new w _) _
  have HX := Lib.hid (And.intro hx (And.intro hy bV))
  have x0 := cell_blk hx 0 rfl
  have x1 := cell_blk hx 1 rfl
  have y0 := cell_blk hy 0 rfl
  have y1 := cell_blk hy 1 rfl
  have hV2 := hV
  clear hV hx hy bV
  go_enter Tryd.func42, Tryd.ntmps42
  go_wp2_with fail
  rw [← hV2]
  clear hV2
  go_wp2_with (first | (have hh := HW1; go_at_call 75; refine (HB.out _ HW1.out).mono ?_; rintro e w2 ⟨rfl, b2⟩; have HW2 := Lib.hid (HW1.out.trans (b2.mono HW1.out.size)); clear b2) | (go_at_call 75; refine (HA.out _ HX.out.2.2).mono ?_; rintro e w1 ⟨rfl, b1⟩; have HW1 := Lib.hid (HX.out.2.2.trans (b1.mono HX.out.2.2.size)); have hx3 := (b1.block _ (lt_of_some HX.out.1)).trans HX.out.1; have z0 := cell_blk hx3 0 rfl; have z1 := cell_blk hx3 1 rfl; clear b1 hx3))
  go_ret
  exact ⟨by rw [HPQ.out]; rfl, HW2.out⟩
end
end Go.Proofs.YtelhnaphkbpakaaDoor

namespace Go.Proofs.YtelhnaphkbpakaaDoor
set_option linter.unusedVariables false

def pre (F : For) : Nat → Nat → List Nat
  | 0, k => [k]
  | n + 1, k => k :: (dnOf F (some k)).flatMap (pre F n)
def preD (F : For) (k : Nat) : List Nat := pre F F.length k
theorem FOk.kid_up {F : For} (h : FOk F) {k c : Nat} (hc : c ∈ dnOf F (some k)) : upOf F c = some k ∧ c < F.length := by
  unfold dnOf at hc
  simp only [Option.bind_some] at hc
  cases hk : F[k]? with
  | none => rw [hk] at hc; cases hc
  | some y =>
    rw [hk] at hc
    obtain ⟨x, hx, hu, _⟩ := h.dn k y hk c hc
    exact ⟨by unfold upOf; rw [hx]; exact hu, (List.getElem?_eq_some_iff.1 hx).1⟩
theorem Chain.kid {F : For} {k c : Nat} {l : List Nat} (h : Chain F k l) (hu : upOf F c = some k) : Chain F c (c :: l) := by
  unfold upOf at hu
  obtain ⟨x, hx, e⟩ := Option.bind_eq_some_iff.1 hu
  exact .up hx e h
theorem flatMap_cg {l : List Nat} {f g : Nat → List Nat} (h : ∀ c ∈ l, f c = g c) : l.flatMap f = l.flatMap g := by
  induction l with
  | nil => rfl
  | cons x l ih => rw [List.flatMap_cons, List.flatMap_cons, h x (by simp), ih (fun c hc => h c (List.mem_cons_of_mem _ hc))]
theorem pre_stable {F : For} (ok : FOk F) : ∀ (n k : Nat) (l : List Nat), Chain F k l → F.length ≤ n + l.length → pre F n k = pre F (n + 1) k := by
  intro n
  induction n with
  | zero =>
    intro k l hc hl
    show [k] = k :: (dnOf F (some k)).flatMap (pre F 0)
    have : dnOf F (some k) = [] := by
      cases e : dnOf F (some k) with
      | nil => rfl
      | cons c t =>
        have h1 := hc.kid (ok.kid_up (k := k) (c := c) (by rw [e]; simp)).1
        have := h1.len
        simp at this hl
        omega
    rw [this]; rfl
  | succ n ih =>
    intro k l hc hl
    show k :: (dnOf F (some k)).flatMap (pre F n) = k :: (dnOf F (some k)).flatMap (pre F (n + 1))
    congr 1
    refine flatMap_cg (fun c hm => ?_)
    exact ih c (c :: l) (hc.kid (ok.kid_up hm).1) (by simp; omega)
theorem preD_eq {F : For} (ok : FOk F) {k : Nat} (hk : k < F.length) : preD F k = k :: (dnOf F (some k)).flatMap (preD F) := by
  obtain ⟨l, hl⟩ := ok.acyc k _ (List.getElem?_eq_getElem hk)
  unfold preD
  exact pre_stable ok _ k l hl (by omega)
/-- What holds of a node where it holds of its children holds of all. -/
theorem FOk.kids_ind {F : For} (ok : FOk F) {P : Nat → Prop} (h : ∀ k, k < F.length → (∀ c ∈ dnOf F (some k), P c) → P k) : ∀ k, k < F.length → P k := by
  have : ∀ n k l, Chain F k l → F.length ≤ n + l.length → P k := by
    intro n
    induction n with
    | zero =>
      intro k l hc hl
      refine h k (hc.mem_lt k (by obtain ⟨t, ht⟩ := hc.ne_nil; rw [ht]; simp)) (fun c hm => ?_)
      have h1 := (hc.kid (ok.kid_up hm).1).len
      simp at h1 hl
      omega
    | succ n ih =>
      intro k l hc hl
      refine h k (hc.mem_lt k (by obtain ⟨t, ht⟩ := hc.ne_nil; rw [ht]; simp)) (fun c hm => ?_)
      exact ih c (c :: l) (hc.kid (ok.kid_up hm).1) (by simp; omega)
  intro k hk
  obtain ⟨l, hl⟩ := ok.acyc k _ (List.getElem?_eq_getElem hk)
  exact this F.length k l hl (by omega)
theorem preD_self {F : For} (ok : FOk F) {k : Nat} (hk : k < F.length) : k ∈ preD F k := by rw [preD_eq ok hk]; simp
theorem preD_lt {F : For} (ok : FOk F) {k m : Nat} (hk : k < F.length) : m ∈ preD F k → m < F.length := by
  refine ok.kids_ind (P := fun k => m ∈ preD F k → m < F.length) (fun k hk ih hm => ?_) k hk
  rw [preD_eq ok hk] at hm
  rcases List.mem_cons.1 hm with rfl | hm
  · exact hk
  · obtain ⟨c, hc, hm⟩ := List.mem_flatMap.1 hm
    exact ih c hc hm
/-- Beneath a node, or it: the node stands on the way up. -/
theorem mem_preD {F : For} (ok : FOk F) {k m : Nat} {l : List Nat} (hk : k < F.length) (hl : Chain F m l) : m ∈ preD F k ↔ k ∈ l := by
  constructor
  · revert m l
    refine ok.kids_ind (P := fun k => ∀ {m l}, Chain F m l → m ∈ preD F k → k ∈ l) (fun k hk ih m l hl hm => ?_) k hk
    rw [preD_eq ok hk] at hm
    rcases List.mem_cons.1 hm with rfl | hm
    · obtain ⟨t, ht⟩ := hl.ne_nil; rw [ht]; simp
    · obtain ⟨c, hc, hm⟩ := List.mem_flatMap.1 hm
      have h1 := ih c hc hl hm
      obtain ⟨a, b, e⟩ := List.append_of_mem h1
      have h2 := hl.at e
      obtain ⟨hu, _⟩ := ok.kid_up hc
      unfold upOf at hu
      obtain ⟨x, hx, eu⟩ := Option.bind_eq_some_iff.1 hu
      cases h2 with
      | root hx' hu' => rw [hx] at hx'; cases hx'; rw [eu] at hu'; cases hu'
      | up hx' hu' hc' =>
        rw [hx] at hx'; cases hx'; rw [eu] at hu'; cases hu'
        obtain ⟨t, ht⟩ := hc'.ne_nil
        rw [e, ht]; simp
  · intro hm
    have key : ∀ {m : Nat} {l : List Nat}, Chain F m l → k ∈ l → m ∈ preD F k := by
      intro m l h
      induction h with
      | @root m x hx hu => intro hm; simp at hm; subst hm; exact preD_self ok hk
      | @up m u x l hx hu hc ih =>
        intro hm
        rcases List.mem_cons.1 hm with rfl | hm
        · exact preD_self ok hk
        · have h1 := ih hm
          -- u is beneath k; m is a child of u
          have hcu : m ∈ dnOf F (some u) := by
            obtain ⟨y, hy, _, h3⟩ := ok.upd m x u hx hu
            unfold dnOf; simp [hy]; exact h3
          have hul : u < F.length := preD_lt ok hk h1
          have : ∀ k, k < F.length → u ∈ preD F k → m ∈ preD F k := by
            refine ok.kids_ind (fun k hk ih hm => ?_)
            rw [preD_eq ok hk] at hm ⊢
            rcases List.mem_cons.1 hm with rfl | hm
            · exact List.mem_cons_of_mem _ (List.mem_flatMap.2 ⟨m, hcu, preD_self ok (ok.kid_up hcu).2⟩)
            · obtain ⟨c, hc, hm⟩ := List.mem_flatMap.1 hm
              exact List.mem_cons_of_mem _ (List.mem_flatMap.2 ⟨c, hc, ih c hc hm⟩)
          exact this k hk h1
    exact key hl hm
/-- a stands ahead of b in a list. -/
def Ahead (l : List Nat) (a b : Nat) : Prop := ∃ x y z, l = x ++ a :: y ++ b :: z
theorem Ahead.amid {l : List Nat} {a b : Nat} (h : Ahead l a b) (p q : List Nat) : Ahead (p ++ l ++ q) a b := by
  obtain ⟨x, y, z, rfl⟩ := h
  exact ⟨p ++ x, y, z ++ q, by simp⟩
theorem Ahead.of_parts {p q r s t : List Nat} {a b : Nat} (ha : a ∈ q) (hb : b ∈ s) : Ahead (p ++ q ++ r ++ s ++ t) a b := by
  obtain ⟨x, y, rfl⟩ := List.append_of_mem ha
  obtain ⟨u, v, rfl⟩ := List.append_of_mem hb
  exact ⟨p ++ x, y ++ r ++ u, v ++ t, by simp⟩
theorem Ahead.idx {l : List Nat} {a b : Nat} (h : Ahead l a b) (hn : l.Nodup) : l.idxOf a < l.idxOf b := by
  obtain ⟨x, y, z, rfl⟩ := h
  have h0 := List.nodup_append.1 hn
  have h1 := List.nodup_append.1 h0.1
  have ha : a ∉ x := fun hm => h1.2.2 a hm a (by simp) rfl
  have hb : b ∉ x ++ a :: y := fun hm => h0.2.2 b hm b (by simp) rfl
  rw [idx_split hb]
  have : x ++ a :: y ++ b :: z = x ++ a :: (y ++ b :: z) := by simp
  rw [this, idx_split ha]
  simp
/-- Beneath a node of the order its own order stands in one piece. -/
theorem preD_infix {F : For} (ok : FOk F) {v : Nat} (hv : v < F.length) : ∀ k, k < F.length → v ∈ preD F k → ∃ p q, preD F k = p ++ preD F v ++ q := by
  refine ok.kids_ind (fun k hk ih hm => ?_)
  by_cases e : v = k
  · subst e; exact ⟨[], [], by simp⟩
  · rw [preD_eq ok hk] at hm ⊢
    rcases List.mem_cons.1 hm with h1 | hm
    · exact absurd h1 e
    · obtain ⟨c, hc, hm⟩ := List.mem_flatMap.1 hm
      obtain ⟨p, q, h2⟩ := ih c hc hm
      obtain ⟨l1, l2, h3⟩ := List.append_of_mem hc
      refine ⟨k :: l1.flatMap (preD F) ++ p, q ++ l2.flatMap (preD F), ?_⟩
      rw [h3, List.flatMap_append, List.flatMap_cons, h2]
      simp
theorem preD_nodup {F : For} (ok : FOk F) : ∀ k, k < F.length → (preD F k).Nodup := by
  refine ok.kids_ind (fun k hk ih => ?_)
  rw [preD_eq ok hk]
  obtain ⟨lk, hlk⟩ := ok.acyc k _ (List.getElem?_eq_getElem hk)
  refine List.nodup_cons.2 ⟨fun hm => ?_, ?_⟩
  · obtain ⟨c, hc, hm⟩ := List.mem_flatMap.1 hm
    have h1 := (mem_preD ok (ok.kid_up hc).2 hlk).1 hm
    have h2 := (hlk.kid (ok.kid_up hc).1).nodup
    exact (List.nodup_cons.1 h2).1 h1
  · have hnd : (dnOf F (some k)).Nodup := by
      unfold dnOf
      simp only [Option.bind_some]
      cases hy : F[k]? with
      | none => exact List.nodup_nil
      | some y => exact ok.nd k y hy
    have hkid : ∀ c ∈ dnOf F (some k), upOf F c = some k ∧ c < F.length := fun c hc => ok.kid_up hc
    revert ih hnd hkid
    generalize dnOf F (some k) = cs
    intro ih hnd hkid
    induction cs with
    | nil => simp
    | cons c cs ihc =>
      rw [List.flatMap_cons]
      have h1 := List.nodup_cons.1 hnd
      refine List.nodup_append.2 ⟨ih c (by simp), ihc (fun d hd => ih d (List.mem_cons_of_mem _ hd)) h1.2 (fun d hd => hkid d (List.mem_cons_of_mem _ hd)), ?_⟩
      rintro m hm m' hm' rfl
      obtain ⟨d, hd, hm'⟩ := List.mem_flatMap.1 hm'
      have hcl := (hkid c (by simp)).2
      have hdl := (hkid d (List.mem_cons_of_mem _ hd)).2
      have hml := preD_lt ok hcl hm
      obtain ⟨l, hl⟩ := ok.acyc m _ (List.getElem?_eq_getElem hml)
      have e1 := (mem_preD ok hcl hl).1 hm
      have e2 := (mem_preD ok hdl hl).1 hm'
      -- both on one way: their rests are one, so they are one
      obtain ⟨a, b, ea⟩ := List.append_of_mem e1
      obtain ⟨a', b', eb⟩ := List.append_of_mem e2
      have k1 := hl.at ea
      have k2 := hl.at eb
      have c1 := k1.det (hlk.kid (hkid c (by simp)).1)
      have c2 := k2.det (hlk.kid (hkid d (List.mem_cons_of_mem _ hd)).1)
      simp at c1 c2
      subst c1 c2
      rw [ea] at eb
      have hlen : a.length = a'.length := by have := congrArg List.length eb; simp at this; omega
      have := (List.append_inj eb hlen).2
      simp at this
      exact h1.1 (this ▸ hd)
end Go.Proofs.YtelhnaphkbpakaaDoor

namespace Go.Proofs.YtelhnaphkbpakaaDoor
set_option linter.unusedVariables false

theorem idx_ahead {l : List Nat} {a b : Nat} (ha : a ∈ l) (hb : b ∈ l) (h : l.idxOf a < l.idxOf b) : Ahead l a b := by
  obtain ⟨x, y, e, hn⟩ : ∃ x y, l = x ++ a :: y ∧ a ∉ x := by
    have hl := List.idxOf_lt_length_of_mem ha
    refine ⟨l.take (l.idxOf a), l.drop (l.idxOf a + 1), ?_, ?_⟩
    · have h1 : l[l.idxOf a] = a := List.getElem_idxOf hl
      conv => lhs; rw [← List.take_append_drop (l.idxOf a) l, List.drop_eq_getElem_cons hl, h1]
    · intro hm
      obtain ⟨j, hj, e⟩ := List.mem_iff_getElem.1 hm
      rw [List.getElem_take] at e
      have hj2 : j < l.idxOf a := by rw [List.length_take] at hj; omega
      have := List.not_of_lt_findIdx (p := fun x => x == a) (xs := l) (i := j) (by simpa [List.idxOf] using hj2)
      simp at this
      exact this e
  subst e
  have h1 : (x ++ a :: y).idxOf a = x.length := idx_split hn
  rw [h1] at h
  have hbx : b ∉ x := by
    intro hm
    have : (x ++ a :: y).idxOf b = x.idxOf b := by rw [List.idxOf_append, if_pos hm]
    rw [this] at h
    have := List.idxOf_lt_length_of_mem hm
    omega
  have hby : b ∈ y := by
    rcases List.mem_append.1 hb with hb | hb
    · exact absurd hb hbx
    · rcases List.mem_cons.1 hb with rfl | hb
      · rw [h1] at h; omega
      · exact hb
  obtain ⟨u, v, e⟩ := List.append_of_mem hby
  exact ⟨x, u, v, by rw [e]; simp⟩
theorem ahead_kids {F : For} (ok : FOk F) {v p q a b : Nat} (hv : v < F.length) (hp : p ∈ dnOf F (some v)) (hq : q ∈ dnOf F (some v)) (h : (dnOf F (some v)).idxOf p < (dnOf F (some v)).idxOf q) (ha : a ∈ preD F p) (hb : b ∈ preD F q) : Ahead (preD F v) a b := by
  obtain ⟨x, y, z, e⟩ := idx_ahead hp hq h
  rw [preD_eq ok hv, e]
  have : v :: (x ++ p :: y ++ q :: z).flatMap (preD F) = (v :: x.flatMap (preD F)) ++ preD F p ++ y.flatMap (preD F) ++ preD F q ++ z.flatMap (preD F) := by simp
  rw [this]
  exact Ahead.of_parts ha hb
theorem Ahead.up {F : For} (ok : FOk F) {r v a b : Nat} (hr : r < F.length) (hv : v < F.length) (hm : v ∈ preD F r) (h : Ahead (preD F v) a b) : Ahead (preD F r) a b := by
  obtain ⟨p, q, e⟩ := preD_infix ok hv r hr hm
  rw [e]; exact h.amid p q
theorem ahead_head {F : For} (ok : FOk F) {v b : Nat} (hv : v < F.length) (hb : b ∈ preD F v) (hne : b ≠ v) : Ahead (preD F v) v b := by
  rw [preD_eq ok hv] at hb ⊢
  rcases List.mem_cons.1 hb with h | h
  · exact absurd h hne
  · obtain ⟨x, y, e⟩ := List.append_of_mem h
    exact ⟨[], x, y, by rw [e]; rfl⟩
/-- Two ways that meet: what stands on the one ahead of the meeting. -/
structure Meet (F : For) (la lb xs ys s : List Nat) : Prop where
  a : la = xs ++ s
  b : lb = ys ++ s
  ne : s ≠ []
  top : ∀ xs' p ys' q, xs = xs' ++ [p] → ys = ys' ++ [q] → p ≠ q
theorem last_ne {α : Type} {l : List α} (h : l ≠ []) : ∃ t x, l = t ++ [x] := by
  rcases List.eq_nil_or_concat l with e | ⟨t, x, e⟩
  · exact absurd e h
  · exact ⟨t, x, by rw [e, List.concat_eq_append]⟩
theorem meet_up {F : For} {k : Nat} {xs s : List Nat} {p v : Nat} {t : List Nat} (h : Chain F k (xs ++ [p] ++ s)) (hs : s = v :: t) : upOf F p = some v ∧ Chain F v s := by
  subst hs
  have h1 : Chain F p (p :: v :: t) := h.at (a := xs) (by simp)
  cases h1 with
  | up hx hu hc =>
    obtain ⟨t', e⟩ := hc.ne_nil
    simp at e
    obtain ⟨e1, e2⟩ := e
    refine ⟨by unfold upOf; rw [hx]; exact hu.trans (by rw [e1]), ?_⟩
    rw [← e1] at hc
    exact e1 ▸ hc
theorem cmp_ways {F : For} (ok : FOk F) {a b r : Nat} {la lb xs ys s : List Nat} (ha : Chain F a la) (hb : Chain F b lb) (hm : Meet F la lb xs ys s) (hr : s.getLast? = some r) :
    (xs = [] → ys = [] → a = b) ∧ (xs = [] → ys ≠ [] → Ahead (preD F r) a b) ∧ (xs ≠ [] → ys = [] → Ahead (preD F r) b a) ∧
    (∀ xs' p ys' q, xs = xs' ++ [p] → ys = ys' ++ [q] → (idxF F p < idxF F q → Ahead (preD F r) a b) ∧ (¬ idxF F p < idxF F q → Ahead (preD F r) b a)) := by
  obtain ⟨v, t, hs⟩ : ∃ v t, s = v :: t := by cases h : s with
    | nil => exact absurd h hm.ne
    | cons v t => exact ⟨v, t, rfl⟩
  have hv : Chain F v s := by
    have h1 := hm.a
    rw [hs] at h1 ⊢
    exact ha.at h1
  have hvl : v < F.length := hv.mem_lt v (by rw [hs]; simp)
  have hrl : r < F.length := hv.mem_lt r (List.mem_of_getLast? hr)
  have hvr : v ∈ preD F r := (mem_preD ok hrl hv).2 (List.mem_of_getLast? hr)
  have hva : a ∈ preD F v := (mem_preD ok hvl ha).2 (by rw [hm.a, hs]; simp)
  have hvb : b ∈ preD F v := (mem_preD ok hvl hb).2 (by rw [hm.b, hs]; simp)
  have head : ∀ {k : Nat} {l zs : List Nat}, Chain F k l → l = zs ++ s → (zs = [] → k = v) ∧ (zs ≠ [] → k ≠ v) := by
    intro k l zs h e
    obtain ⟨t', ht'⟩ := h.ne_nil
    refine ⟨fun hz => ?_, fun hz hk => ?_⟩
    · rw [hz, hs, ht'] at e; simp at e; exact e.1
    · subst hk
      have h1 := h.det hv
      rw [e] at h1
      have := congrArg List.length h1
      simp at this
      exact hz this
  have kid : ∀ {k : Nat} {l zs : List Nat} {p : Nat}, Chain F k l → l = zs ++ [p] ++ s → p ∈ dnOf F (some v) ∧ k ∈ preD F p := by
    intro k l zs p h e
    obtain ⟨hu, _⟩ := meet_up (e ▸ h) hs
    obtain ⟨y, hy, hd, hmem⟩ := ok.kid hu
    have hpl : p < F.length := h.mem_lt p (by rw [e]; simp)
    exact ⟨by rw [hd]; exact hmem, (mem_preD ok hpl h).2 (by rw [e]; simp)⟩
  refine ⟨fun h1 h2 => ((head ha hm.a).1 h1).trans ((head hb hm.b).1 h2).symm, fun h1 h2 => ?_, fun h1 h2 => ?_, ?_⟩
  · have e := (head ha hm.a).1 h1
    have hn := (head hb hm.b).2 h2
    rw [e]
    exact (ahead_head ok hvl hvb hn).up ok hrl hvl hvr
  · have e := (head hb hm.b).1 h2
    have hn := (head ha hm.a).2 h1
    rw [e]
    exact (ahead_head ok hvl hva hn).up ok hrl hvl hvr
  · intro xs' p ys' q e1 e2
    obtain ⟨hp, hap⟩ := kid ha (by rw [hm.a, e1])
    obtain ⟨hq, hbq⟩ := kid hb (by rw [hm.b, e2])
    have hpu := (ok.kid_up hp).1
    have hqu := (ok.kid_up hq).1
    have ip : idxF F p = (dnOf F (some v)).idxOf p := by unfold idxF; rw [hpu]
    have iq : idxF F q = (dnOf F (some v)).idxOf q := by unfold idxF; rw [hqu]
    rw [ip, iq]
    refine ⟨fun h => (ahead_kids ok hvl hp hq h hap hbq).up ok hrl hvl hvr, fun h => ?_⟩
    have hne : (dnOf F (some v)).idxOf p ≠ (dnOf F (some v)).idxOf q := by
      intro e
      have l1 := List.idxOf_lt_length_of_mem hp
      have l2 := List.idxOf_lt_length_of_mem hq
      have g1 : (dnOf F (some v))[(dnOf F (some v)).idxOf p] = p := List.getElem_idxOf l1
      have g2 : (dnOf F (some v))[(dnOf F (some v)).idxOf q] = q := List.getElem_idxOf l2
      have : p = q := by rw [← g1, ← g2]; congr 1
      exact hm.top xs' p ys' q e1 e2 this
    exact (ahead_kids ok hvl hq hp (by omega) hbq hap).up ok hrl hvl hvr
end Go.Proofs.YtelhnaphkbpakaaDoor

namespace Go.Proofs.YtelhnaphkbpakaaDoor
set_option linter.unusedVariables false

def cmpP (l : List Nat) (a b : Nat) : Int := if l.idxOf a < l.idxOf b then -1 else if l.idxOf b < l.idxOf a then 1 else 0
theorem cmpP_self (l : List Nat) (a : Nat) : cmpP l a a = 0 := by simp [cmpP]
theorem cmpP_ahead {l : List Nat} {a b : Nat} (h : Ahead l a b) (hn : l.Nodup) : cmpP l a b = -1 := by unfold cmpP; rw [if_pos (h.idx hn)]
theorem cmpP_behind {l : List Nat} {a b : Nat} (h : Ahead l b a) (hn : l.Nodup) : cmpP l a b = 1 := by
  have := h.idx hn
  unfold cmpP
  rw [if_neg (by omega), if_pos this]
theorem cmp_meet {F : For} (ok : FOk F) {a b r : Nat} {la lb xs ys s : List Nat} (ha : Chain F a la) (hb : Chain F b lb) (hm : Meet F la lb xs ys s) (hr : s.getLast? = some r) :
    (xs = [] → ys = [] → cmpP (preD F r) a b = 0) ∧ (xs = [] → ys ≠ [] → cmpP (preD F r) a b = -1) ∧ (xs ≠ [] → ys = [] → cmpP (preD F r) a b = 1) ∧
    (∀ xs' p ys' q, xs = xs' ++ [p] → ys = ys' ++ [q] → cmpP (preD F r) a b = if idxF F p < idxF F q then -1 else 1) := by
  obtain ⟨h1, h2, h3, h4⟩ := cmp_ways ok ha hb hm hr
  have hrl : r < F.length := by
    have : r ∈ la := by rw [hm.a]; exact List.mem_append_right _ (List.mem_of_getLast? hr)
    exact ha.mem_lt r this
  have hn := preD_nodup ok r hrl
  refine ⟨fun e f => by rw [h1 e f]; exact cmpP_self _ _, fun e f => cmpP_ahead (h2 e f) hn, fun e f => cmpP_behind (h3 e f) hn, fun xs' p ys' q e f => ?_⟩
  obtain ⟨k1, k2⟩ := h4 xs' p ys' q e f
  by_cases c : idxF F p < idxF F q
  · rw [if_pos c]; exact cmpP_ahead (k1 c) hn
  · rw [if_neg c]; exact cmpP_behind (k2 c) hn
/-- The two ways as far as they were walked from their ends on. -/
structure Ways (la lb xs ys s : List Nat) : Prop where
  a : la = xs ++ s
  b : lb = ys ++ s
theorem Ways.meet {F : For} {la lb xs ys s : List Nat} (h : Ways la lb xs ys s) {r : Nat} (ha : la.getLast? = some r) (hb : lb.getLast? = some r) (ht : ∀ xs' p ys' q, xs = xs' ++ [p] → ys = ys' ++ [q] → p ≠ q) : Meet F la lb xs ys s ∧ s.getLast? = some r := by
  have hs : s ≠ [] := by
    intro hs
    have e1 := h.a
    have e2 := h.b
    rw [hs, List.append_nil] at e1 e2
    subst e1 e2
    rcases List.eq_nil_or_concat la with e | ⟨t, p, e⟩
    · rw [e] at ha; cases ha
    · rcases List.eq_nil_or_concat lb with e' | ⟨t', q, e'⟩
      · rw [e'] at hb; cases hb
      · rw [List.concat_eq_append] at e e'
        rw [e, List.getLast?_append] at ha
        rw [e', List.getLast?_append] at hb
        simp at ha hb
        exact ht t p t' q e e' (ha.trans hb.symm)
  refine ⟨⟨h.a, h.b, hs, ht⟩, ?_⟩
  rw [h.a, List.getLast?_append] at ha
  cases e : s.getLast? with
  | none => exact absurd (List.getLast?_eq_none_iff.1 e) hs
  | some v => rw [e] at ha; simpa using ha
theorem Ways.next {la lb xs ys s : List Nat} {p : Nat} (h : Ways la lb (xs ++ [p]) (ys ++ [p]) s) : Ways la lb xs ys (p :: s) := ⟨by rw [h.a]; simp, by rw [h.b]; simp⟩
end Go.Proofs.YtelhnaphkbpakaaDoor

namespace Go.Proofs.YtelhnaphkbpakaaDoor
open Go.RowKit
set_option linter.unusedVariables false
set_option maxRecDepth 100000

section
variable {B : Nat} {Q : Nat → Prop} {w w' : World} {fb : Nat} {F : For} {R : List RN} {rv : Value}
theorem rhandle_calls (h : FoAt B Q w fb F R rv) {k : Nat} {x : FN} (hx : F[k]? = some x) :
    Calls Tryd.prog 19 #[.pointer (some ⟨fb, 0, none⟩), .int .i64 (k : Int)] w fun e w' => e = .returned (.agg #[.int .u32 (x.sl : Int), .int .u32 (x.gn : Int)]) ∧ Below w.heap.size w w' := by
  have hk := (List.getElem?_eq_some_iff.1 hx).1
  have hbig := h.big
  have b0 := h.b0
  obtain ⟨g, cap, P, dv, e, hR, y0, y1, y8, y9, y10⟩ := h.get hx
  rw [e] at b0
  have l0 := cell_lt b0
  have l1 := cell_lt y0
  have kn : ¬ ((k : Int) < 0) := by omega
  have kd : decide ((k : Int) < 0) = false := by simp
  generalize F.length = n at *
  obtain ⟨s, hs⟩ : ∃ s, s = x.sl := ⟨_, rfl⟩
  obtain ⟨u, hu⟩ : ∃ u, u = x.gn := ⟨_, rfl⟩
  rw [← hs] at y0 ⊢
  rw [← hu] at y1 ⊢
  simp only at l0 l1
  clear h e y8 y9 y10 hR hx hs hu
  go_enter Tryd.func19, Tryd.ntmps19
  go_wp2_with fail
  have hX4 := set_blk (set_blk (Go.heap_alloc_new w (.cells #[.int .u32 0, .int .u32 0] 31)) 0 (.int .u32 (s : Int))) 1 (.int .u32 (u : Int))
  exact bodyPost_ret (v := .agg #[.int .u32 (s : Int), .int .u32 (u : Int)]) (by simp [results, Tryd.results19, go_sem]) rfl ⟨rfl, (by repeat (first | exact Below.refl _ _ | assumption | refine Below.drew ?_ | refine below_drewN ?_ _ | refine Below.alloc ?_ (by simp <;> omega) _ | refine Below.setCell ?_ (by simp <;> omega) _ | (apply bl_trans; assumption; (simp <;> omega))))⟩
theorem rhandle_none (w : World) (fb : Nat) {i : Int} (hi : i < 0) :
    Calls Tryd.prog 19 #[.pointer (some ⟨fb, 0, none⟩), .int .i64 i] w fun e w' => e = .returned (.agg #[.int .u32 0, .int .u32 0]) ∧ Below w.heap.size w w' := by
  have kd : decide (i < 0) = true := by simp [hi]
  go_enter Tryd.func19, Tryd.ntmps19
  go_wp2_with fail
  have hX4 := set_blk (set_blk (Go.heap_alloc_new w (.cells #[.int .u32 0, .int .u32 0] 31)) 0 (.int .u32 0)) 1 (.int .u32 0)
  exact bodyPost_ret (v := .agg #[.int .u32 0, .int .u32 0]) (by simp [results, Tryd.results19, go_sem]) rfl ⟨rfl, (by repeat (first | exact Below.refl _ _ | assumption | refine Below.drew ?_ | refine below_drewN ?_ _ | refine Below.alloc ?_ (by simp <;> omega) _ | refine Below.setCell ?_ (by simp <;> omega) _ | (apply bl_trans; assumption; (simp <;> omega))))⟩

theorem rroot_calls (h : FoAt B Q w fb F R rv) {k r : Nat} {l : List Nat} (hc : Chain F k l) (hr : l.getLast? = some r) :
    Calls Tryd.prog 49 #[.pointer (some ⟨fb, 0, none⟩), .int .i64 (k : Int)] w fun e w' => e = .returned (.int .i64 (r : Int)) ∧ Below w.heap.size w w' := by
  have H := Lib.hid h
  have hbig := h.big
  have H0 := Lib.hid (And.intro hc hr)
  clear hc hr h
  go_enter Tryd.func49, Tryd.ntmps49
  go_wp2_with fail
  go_loopg [1] l.length (fun n v wr => ∃ (j : Nat) (rest : List Nat), v = .int .i64 (j : Int) ∧ Hid (Chain F j rest ∧ rest.getLast? = some r ∧ rest.length = n ∧ Below w.heap.size w wr))
  case atStart => exact ⟨k, l, rfl, Lib.hid ⟨H0.out.1, H0.out.2, rfl, Below.refl _ _⟩⟩
  case round =>
    obtain ⟨j, rest, rfl, hw⟩ := hrel
    have h2 := H.out.below hw.out.2.2.2
    have hjx : ∃ x, F[j]? = some x := by cases hw.out.1 with | root a b => exact ⟨_, a⟩ | up a b c => exact ⟨_, a⟩
    obtain ⟨x, hx⟩ := hjx
    have hj := (List.getElem?_eq_some_iff.1 hx).1
    have b0 := h2.b0
    obtain ⟨g, cap, P, dv, e, hR, y0, y1, y8, y9, y10⟩ := h2.get hx
    rw [e] at b0
    clear e h2 y0 y1 y9 y10
    cases hu : x.up with
    | none =>
      have e8 : upI x.up = -1 := by rw [hu]; rfl
      rw [e8] at y8
      have hres : r = j := by
        cases hw.out.1 with
        | root a b => have := hw.out.2.1; simp at this; exact this.symm
        | up a b c => rw [hx] at a; cases a; rw [hu] at b; cases b
      have HR := Lib.hid hres
      clear hres hu e8 hx
      go_wp2_with fail
      try rw [Exit.noGoto_ret]
      go_ret
      exact ⟨by rw [HR.out]; rfl, hw.out.2.2.2⟩
    | some u =>
      have e8 : upI x.up = (u : Int) := by rw [hu]; rfl
      rw [e8] at y8
      have hN : ∃ l', Chain F u l' ∧ l'.getLast? = some r ∧ l'.length < gk := by
        cases hw.out.1 with
        | root a b => rw [hx] at a; cases a; rw [hu] at b; cases b
        | up a b c =>
          rw [hx] at a; cases a; rw [hu] at b; cases b
          rename_i l'
          have h1 := hw.out.2.1
          have h2 := hw.out.2.2.1
          obtain ⟨t, rfl⟩ := c.ne_nil
          refine ⟨_, c, by rw [← h1]; simp [List.getLast?_cons_cons], by rw [← h2]; simp⟩
      obtain ⟨l', hl1, hl2, hl3⟩ := hN
      have HN := Lib.hid (And.intro hl1 (And.intro hl2 hl3))
      have un : ¬ ((u : Int) < 0) := by omega
      have ud : decide (0 ≤ (u : Int)) = true := by simp
      clear hl1 hl2 hl3 hu e8 hx
      go_wp2_with fail
      go_roundg l'.length
      case measure => exact HN.out.2.2
      case rel => exact ⟨u, l', rfl, Lib.hid ⟨HN.out.1, HN.out.2.1, rfl, hw.out.2.2.2⟩⟩
theorem rhas_calls (h : FoAt B Q w fb F R rv) {a b : Nat} {c : List Nat} (hc : Chain F b (b :: c)) :
    Calls Tryd.prog 18 #[.pointer (some ⟨fb, 0, none⟩), .int .i64 (a : Int), .int .i64 (b : Int)] w fun e w' => e = .returned (.bool (decide (a ∈ c))) ∧ Below w.heap.size w w' := by
  have H := Lib.hid h
  have hbig := h.big
  obtain ⟨p, hp⟩ : ∃ p, p = decide (a ∈ c) := ⟨_, rfl⟩
  rw [← hp]
  have HP := Lib.hid hp
  have hbx : ∃ x, F[b]? = some x ∧ ((x.up = none ∧ c = []) ∨ ∃ u, x.up = some u ∧ Chain F u c) := by
    cases hc with
    | root a b => exact ⟨_, a, .inl ⟨b, rfl⟩⟩
    | up a b c => exact ⟨_, a, .inr ⟨_, b, c⟩⟩
  obtain ⟨x, hx, hcu⟩ := hbx
  have hb := (List.getElem?_eq_some_iff.1 hx).1
  have HC := Lib.hid hcu
  have b0 := h.b0
  obtain ⟨g, cap, P, dv, e, hR, y0, y1, y8, y9, y10⟩ := h.get hx
  rw [e] at b0
  clear hp hcu h e y0 y1 y9 y10 hR
  go_enter Tryd.func18, Tryd.ntmps18
  go_wp2_with fail
  clear b0 y8
  go_loopg [7] c.length (fun n v wr => ∃ (o : Option Nat) (rest : List Nat), v = .int .i64 (upI o) ∧ Hid (((o = none ∧ rest = []) ∨ ∃ u, o = some u ∧ Chain F u rest) ∧ (a ∈ c ↔ a ∈ rest) ∧ rest.length = n ∧ Below w.heap.size w wr))
  case atStart => exact ⟨x.up, c, rfl, Lib.hid ⟨HC.out, Iff.rfl, rfl, Below.refl _ _⟩⟩
  case round =>
    obtain ⟨o, rest, rfl, hw⟩ := hrel
    cases o with
    | none =>
      have hres : p = false := by
        rcases hw.out.1 with ⟨_, e⟩ | ⟨u, e, _⟩
        · rw [HP.out]; exact decide_eq_false (fun hm => by have := hw.out.2.1.1 hm; rw [e] at this; cases this)
        · cases e
      have HR := Lib.hid hres
      clear hres
      have e8 : upI none = -1 := rfl
      rw [e8]
      clear e8
      go_wp2_with fail
      try rw [Exit.noGoto_ret]
      go_ret
      exact ⟨by rw [HR.out]; rfl, hw.out.2.2.2⟩
    | some u =>
      have hN : ∃ y, F[u]? = some y ∧ ∃ t, rest = u :: t ∧ ((y.up = none ∧ t = []) ∨ ∃ v, y.up = some v ∧ Chain F v t) := by
        rcases hw.out.1 with ⟨e, _⟩ | ⟨u', e, hc⟩
        · cases e
        · cases e
          cases hc with
          | root a b => exact ⟨_, a, [], rfl, .inl ⟨b, rfl⟩⟩
          | up a b c => exact ⟨_, a, _, rfl, .inr ⟨_, b, c⟩⟩
      obtain ⟨y, hy, t, ht, hct⟩ := hN
      have hul := (List.getElem?_eq_some_iff.1 hy).1
      have h2 := H.out.below hw.out.2.2.2
      have b0 := h2.b0
      obtain ⟨g2, cap2, P2, dv2, e2, hR2, z0, z1, z8, z9, z10⟩ := h2.get hy
      rw [e2] at b0
      have eu : upI (some u) = (u : Int) := rfl
      rw [eu]
      have ud : decide (0 ≤ (u : Int)) = true := by simp
      clear e2 h2 z0 z1 z9 z10 hR2 eu
      by_cases hua : u = a
      · have hres : p = true := by
          rw [HP.out]; exact decide_eq_true (hw.out.2.1.2 (by rw [ht, hua]; simp))
        have HR := Lib.hid hres
        have q1 : ((u : Int) == (a : Int)) = true := by simp [hua]
        clear hres ht hct
        subst hua
        go_wp2_with fail
        try rw [Exit.noGoto_ret]
        go_ret
        exact ⟨by rw [HR.out]; rfl, hw.out.2.2.2⟩
      · have q1 : ((u : Int) == (a : Int)) = false := by simp; omega
        have q2 : ¬ ((u : Int) = (a : Int)) := by omega
        have HN := Lib.hid (And.intro hct (And.intro (show a ∈ c ↔ a ∈ t by rw [hw.out.2.1, ht]; simp [Ne.symm hua]) (show t.length < gk by have := hw.out.2.2.1; rw [ht] at this; simp at this; omega)))
        clear hct ht
        go_wp2_with fail
        go_roundg t.length
        case measure => exact HN.out.2.2
        case rel => exact ⟨y.up, t, rfl, Lib.hid ⟨HN.out.1, HN.out.2.1, rfl, hw.out.2.2.2⟩⟩
end
end Go.Proofs.YtelhnaphkbpakaaDoor

namespace Go.Proofs.YtelhnaphkbpakaaDoor
open Go.RowKit
set_option linter.unusedVariables false
set_option maxRecDepth 100000

def isH (s g : Nat) (x : FN) : Bool := x.live && decide (x.sl = s ∧ x.gn = g)
def atI (F : For) (s g : Nat) : Int := match F.findIdx? (isH s g) with | some k => (k : Int) | none => -1
theorem atI_some {F : For} {s g k : Nat} {x : FN} (hx : F[k]? = some x) (hp : isH s g x = true) (hb : ∀ j, j < k → ∀ y, F[j]? = some y → isH s g y = false) : atI F s g = (k : Int) := by
  have e : F.findIdx? (isH s g) = some k := by
    obtain ⟨hk, e⟩ := List.getElem?_eq_some_iff.1 hx
    rw [List.findIdx?_eq_some_iff_getElem]
    refine ⟨hk, by rw [e]; exact hp, fun j hj => ?_⟩
    rw [hb j hj _ (List.getElem?_eq_getElem (by omega))]; simp
  unfold atI
  rw [e]
theorem atI_none {F : For} {s g : Nat} (hb : ∀ j, j < F.length → ∀ y, F[j]? = some y → isH s g y = false) : atI F s g = -1 := by
  have e : F.findIdx? (isH s g) = none := by
    rw [List.findIdx?_eq_none_iff]
    intro x hx
    obtain ⟨j, hj, e⟩ := List.getElem_of_mem hx
    exact hb j hj x (by rw [List.getElem?_eq_getElem hj, e])
  unfold atI
  rw [e]
section
variable {B : Nat} {Q : Nat → Prop} {w w' : World} {fb : Nat} {F : For} {R : List RN} {rv : Value}
set_option maxHeartbeats 2000000 in
theorem rat_calls (h : FoAt B Q w fb F R rv) (s g : Nat) :
    Calls Tryd.prog 11 #[.pointer (some ⟨fb, 0, none⟩), .agg #[.int .u32 (s : Int), .int .u32 (g : Int)]] w fun e w' => e = .returned (.int .i64 (atI F s g)) ∧ Below w.heap.size w w' := by
  have H := Lib.hid h
  have hbig := h.big
  obtain ⟨r, hr⟩ : ∃ r, r = atI F s g := ⟨_, rfl⟩
  rw [← hr]
  have HR0 := Lib.hid hr
  obtain ⟨V, hV⟩ : ∃ V, V = w.alloc (.cells #[.int .u32 (s : Int), .int .u32 (g : Int)] 31) := ⟨_, rfl⟩
  have bV : Below w.heap.size w V := by rw [hV]; exact (by repeat (first | exact Below.refl _ _ | assumption | refine Below.drew ?_ | refine below_drewN ?_ _ | refine Below.alloc ?_ (by simp <;> omega) _ | refine Below.setCell ?_ (by simp <;> omega) _ | (apply bl_trans; assumption; (simp <;> omega))))
  have hx : V.heap[w.heap.size]? = some (.cells #[.int .u32 (s : Int), .int .u32 (g : Int)] 31 (0, 0)) := by rw [hV]; exact Go.heap_alloc_new w _
  have HV := Lib.hid (And.intro bV hx)
  have hV2 := hV
  clear hV bV hx h hr
  go_enter Tryd.func11, Tryd.ntmps11
  go_wp2_with fail
  rw [← hV2]
  clear hV2
  go_loopg [5] F.length (fun n v wr => ∃ (k : Nat), v = .int .i64 (k : Int) ∧ Hid (k + n = F.length ∧ (∀ j, j < k → ∀ y, F[j]? = some y → isH s g y = false) ∧ Below w.heap.size w wr ∧ wr.heap[w.heap.size]? = some (.cells #[.int .u32 (s : Int), .int .u32 (g : Int)] 31 (0, 0))))
  case atStart => exact ⟨0, rfl, Lib.hid ⟨by omega, fun j hj => by omega, HV.out.1, HV.out.2⟩⟩
  case round =>
    obtain ⟨k, rfl, hw⟩ := hrel
    have h2 := H.out.below hw.out.2.2.1
    have b0 := h2.b0
    have x0 : wr.cell? ⟨w.heap.size, 0, none⟩ = some (.int .u32 (s : Int)) := cell_blk hw.out.2.2.2 0 rfl
    have x1 : wr.cell? ⟨w.heap.size, 1, none⟩ = some (.int .u32 (g : Int)) := cell_blk hw.out.2.2.2 1 rfl
    have hsum := hw.out.1
    by_cases hk : k < F.length
    · obtain ⟨x, hx⟩ : ∃ x, F[k]? = some x := ⟨_, List.getElem?_eq_getElem hk⟩
      obtain ⟨gb, cap, P, dv, e, hR, y0, y1, y8, y9, y10⟩ := h2.get hx
      rw [e] at b0
      clear e h2 y8 y9 hR
      have HX := Lib.hid hx
      have ql : decide ((k : Int) < (F.length : Int)) = true := by simp; omega
      have wk : IntKind.i64.wrap ((k : Int) + 1) = (k : Int) + 1 := IntWalk.i64_in _ (by omega)
      have HB : ∀ n, Hid (Below w.heap.size w (wr.drewN n)) := fun n => Lib.hid (below_drewN hw.out.2.2.1 n)
      cases hl : x.live with
      | false =>
        rw [hl] at y10
        have HN : Hid (isH s g x = false) := Lib.hid (by unfold isH; rw [hl]; rfl)
        clear hx hl
        go_wp2_with fail
        go_quiet (fail)
        go_wp2_with fail
        go_roundg (gk - 1)
        case measure => omega
        case rel => exact ⟨k + 1, by go_num, Lib.hid ⟨by omega, fun j hj y hy => by
            rcases Nat.lt_succ_iff_lt_or_eq.1 hj with hj | rfl
            · exact hw.out.2.1 j hj y hy
            · rw [HX.out] at hy; cases hy; exact HN.out, (HB _).out, hw.out.2.2.2⟩⟩
      | true =>
        rw [hl] at y10
        by_cases hp : x.sl = s ∧ x.gn = g
        · have q1 : hEq (x.sl : Int) (x.gn : Int) (s : Int) (g : Int) = true := hEq_true (by omega) (by omega)
          have hres : r = (k : Int) := by
            rw [HR0.out]
            exact atI_some hx (by unfold isH; rw [hl]; simp [hp]) hw.out.2.1
          have HRR := Lib.hid hres
          clear hres hx hl hp
          go_wp2_with fail
          go_quiet (fail)
          go_wp2_with fail
          try rw [Exit.noGoto_ret]
          go_ret
          exact ⟨by rw [HRR.out]; rfl, (HB _).out⟩
        · have q1 : hEq (x.sl : Int) (x.gn : Int) (s : Int) (g : Int) = false := hEq_false (by omega)
          have HN : Hid (isH s g x = false) := Lib.hid (by unfold isH; rw [hl]; simp; omega)
          clear hx hl hp
          go_wp2_with fail
          go_quiet (fail)
          go_wp2_with fail
          go_roundg (gk - 1)
          case measure => omega
          case rel => exact ⟨k + 1, by go_num, Lib.hid ⟨by omega, fun j hj y hy => by
              rcases Nat.lt_succ_iff_lt_or_eq.1 hj with hj | rfl
              · exact hw.out.2.1 j hj y hy
              · rw [HX.out] at hy; cases hy; exact HN.out, (HB _).out, hw.out.2.2.2⟩⟩
    · obtain ⟨a, cap, e⟩ := h2.shape
      rw [e] at b0
      clear e h2
      have ql : decide ((k : Int) < (F.length : Int)) = false := by simp; omega
      have hres : r = -1 := by
        rw [HR0.out]
        exact atI_none (fun j hj y hy => hw.out.2.1 j (by omega) y hy)
      have HRR := Lib.hid hres
      clear hres
      go_wp2_with fail
      try rw [Exit.noGoto_ret]
      go_ret
      exact ⟨by rw [HRR.out]; rfl, hw.out.2.2.1⟩
/-- place: where a number stands in a row, none: -1. -/
def plI (L : List Nat) (v : Nat) : Int := if v ∈ L then (L.idxOf v : Int) else -1
theorem rplace_calls {base : Nat} {lv : Value} {L : List Nat} (h : w.ownsRow base 3 1 lv L.length (icells L)) (hL : L.length ≤ 9223372036854775807) (v : Nat) :
    Calls Tryd.prog 50 #[lv, .int .i64 (v : Int)] w fun e w' => e = .returned (.int .i64 (plI L v)) ∧ Below w.heap.size w w' := by
  obtain ⟨r, hr⟩ : ∃ r, r = plI L v := ⟨_, rfl⟩
  rw [← hr]
  have HR0 := Lib.hid hr
  have hsh : ∃ a cap, lv = .slice a L.length cap := by
    rcases h.2 with ⟨e, hn⟩ | ⟨gb, cap, cur, e, _⟩
    · exact ⟨none, 0, by rw [e, hn]⟩
    · exact ⟨_, cap, e⟩
  obtain ⟨la, cap, rfl⟩ := hsh
  have HC : Hid (∀ (j c : Nat), L[j]? = some c → ∃ gb, la = some ⟨gb, 0, none⟩ ∧ w.cell? ⟨gb, j, none⟩ = some (.int .i64 (c : Int))) := Lib.hid (fun j c hj => by
    have hk := (List.getElem?_eq_some_iff.1 hj).1
    have e1 : (icells L)[j]? = some (.int .i64 (c : Int)) := by unfold icells; rw [List.getElem?_map, hj]; rfl
    rcases h.2 with ⟨e, hn⟩ | ⟨gb, cap', cur, e, _⟩
    · omega
    · cases e
      exact ⟨gb, rfl, by rw [h.cellAt j (by omega), e1]⟩)
  clear h hr
  go_enter Tryd.func50, Tryd.ntmps50
  go_wp2_with fail
  go_loopg [5] L.length (fun n u wr => ∃ (k : Nat), u = .int .i64 (k : Int) ∧ wr = w ∧ Hid (k + n = L.length ∧ v ∉ L.take k))
  case atStart => exact ⟨0, rfl, rfl, Lib.hid ⟨by omega, by simp⟩⟩
  case round =>
    obtain ⟨k, rfl, rfl, hw⟩ := hrel
    have hsum := hw.out.1
    by_cases hk : k < L.length
    · obtain ⟨c, hc⟩ : ∃ c, L[k]? = some c := ⟨_, List.getElem?_eq_getElem hk⟩
      obtain ⟨gb, rfl, y0⟩ := HC.out k c hc
      have ql : decide ((k : Int) < (L.length : Int)) = true := by simp; omega
      have wk : IntKind.i64.wrap ((k : Int) + 1) = (k : Int) + 1 := IntWalk.i64_in _ (by omega)
      have hsplit : L = L.take k ++ c :: L.drop (k + 1) := by
        obtain ⟨hk', e⟩ := List.getElem?_eq_some_iff.1 hc
        rw [← e, ← List.drop_eq_getElem_cons hk', List.take_append_drop]
      by_cases hcv : c = v
      · have hres : r = (k : Int) := by
          rw [HR0.out]
          subst hcv
          unfold plI
          rw [if_pos (List.mem_of_getElem? hc)]
          congr 1
          have e1 : (L.take k ++ c :: L.drop (k + 1)).idxOf c = k := by
            rw [List.idxOf_append, if_neg hw.out.2, List.idxOf_cons_self, List.length_take]; omega
          rw [← hsplit] at e1
          exact e1
        have HRR := Lib.hid hres
        clear hres hc hsplit
        subst hcv
        go_wp2_with fail
        try rw [Exit.noGoto_ret]
        go_ret
        exact ⟨by rw [HRR.out]; rfl, Below.refl _ _⟩
      · have q2 : ¬ ((c : Int) = (v : Int)) := by omega
        have q1 : ((c : Int) == (v : Int)) = false := by simp; omega
        have HN : Hid (v ∉ L.take (k + 1)) := Lib.hid (by
          rw [List.take_add_one, hc]; simp only [Option.toList_some, List.mem_append, List.mem_singleton, not_or]
          exact ⟨hw.out.2, fun e => hcv e.symm⟩)
        clear hc hsplit
        go_wp2_with fail
        go_roundg (gk - 1)
        case measure => omega
        case rel => exact ⟨k + 1, by go_num, rfl, Lib.hid ⟨by omega, HN.out⟩⟩
    · have ql : decide ((k : Int) < (L.length : Int)) = false := by simp; omega
      have hres : r = -1 := by
        rw [HR0.out]
        unfold plI
        rw [if_neg (fun hm => hw.out.2 (by rw [List.take_of_length_le (by omega)]; exact hm))]
      have HRR := Lib.hid hres
      clear hres
      go_wp2_with fail
      try rw [Exit.noGoto_ret]
      go_ret
      exact ⟨by rw [HRR.out]; rfl, Below.refl _ _⟩
end
end Go.Proofs.YtelhnaphkbpakaaDoor

namespace Go.Proofs.YtelhnaphkbpakaaDoor
open Go.RowKit
set_option linter.unusedVariables false
set_option maxRecDepth 100000

theorem infoFoN : (Tryd.prog.info? 69).map (fun i => (i.zero, i.size, i.bytes)) = some (some (.agg #[.int .u32 0, .int .u32 0, .int .i64 0, .string ⟨#[]⟩, .slice none 0 0, .slice none 0 0, .int .u32 0, .int .u32 0, .int .i64 0, .slice none 0 0, .bool false]), 11, 128) := by kernel_rfl
section
variable {B : Nat} {Q : Nat → Prop} {w w' : World} {fb : Nat} {F : For} {R : List RN} {rv : Value}
theorem rcells_one (r : RN) (h : ∃ a n c, r.2.2 = .slice a n c) : ∀ u ∈ rcells r, u.oneCell' = true := by
  obtain ⟨a, n, c, e⟩ := h
  intro u hu
  unfold rcells at hu
  rw [e] at hu
  simp only [List.mem_cons, List.not_mem_nil, or_false] at hu
  rcases hu with rfl | rfl | rfl | rfl | rfl | rfl | rfl | rfl | rfl | rfl | rfl <;> rfl
/-- A node put behind the last one. -/
theorem FoAt.pushed (h : FoAt B Q w fb F R rv) {w3 w4 : World} {r : RN} (hl : Below w.heap.size w w3) (hgrow : w3.grownBy w4 rv.ownBlock) {gg cap : Nat}
    (hown1 : w4.ownsRow B 69 11 (.slice (some ⟨gg, 0, none⟩) (R.length + 1) cap) (R.length + 1) (R.flatMap rcells ++ rcells r)) (hat : rv.ownBlock = some gg ∨ w.heap.size ≤ gg)
    (hd : r.1.down = [] ∧ r.2.2 = .slice none 0 0) (hP : NdK Q w r.2.1) (hbig : F.length < 1099511627776) :
    FoAt B (fun k => Q k ∨ w.heap.size ≤ k ∧ k < (w4.setCell ⟨fb, 0, none⟩ (.slice (some ⟨gg, 0, none⟩) (R.length + 1) cap)).heap.size) (w4.setCell ⟨fb, 0, none⟩ (.slice (some ⟨gg, 0, none⟩) (R.length + 1) cap)) fb (F ++ [r.1]) (R ++ [r]) (.slice (some ⟨gg, 0, none⟩) (R.length + 1) cap) ∧
    FrG [61, 69] Q w (w4.setCell ⟨fb, 0, none⟩ (.slice (some ⟨gg, 0, none⟩) (R.length + 1) cap)) := by
  have hrow3 := (h.below hl).row
  have f0 : FrG [69] Q w w3 := FrG.of_below hl
  have f1 : FrG [69] Q w w4 := f0.append hrow3 (fun k hk => .inl (h.rq k hk)) (by decide) hgrow
  have hb4 := f1.blk h.blk (by decide)
  have f2 : FrG [61, 69] Q w (w4.setCell ⟨fb, 0, none⟩ (.slice (some ⟨gg, 0, none⟩) (R.length + 1) cap)) := (f1.mono (T' := [61, 69]) (by decide) (fun _ h => h)).set (a := ⟨fb, 0, none⟩) (.inl h.own.1) hb4 (by decide) _
  have f3 : FrG [61] (fun k => k = fb) w4 (w4.setCell ⟨fb, 0, none⟩ (.slice (some ⟨gg, 0, none⟩) (R.length + 1) cap)) := (FrG.refl [61] (fun k => k = fb) w4).set (a := ⟨fb, 0, none⟩) (.inl rfl) hb4 (List.mem_singleton.2 rfl) _
  have hlt := hown1.lt gg rfl
  refine ⟨⟨by rw [List.map_append, h.eq]; rfl, by simp; omega, ⟨.inl h.own.1, h.own.2⟩, set_blk hb4 0 _, ?_, ?_, ?_, ?_⟩, f2⟩
  · rw [List.flatMap_append]
    have : [r].flatMap rcells = rcells r := by simp
    rw [this, List.length_append]
    exact f3.row hown1 (by decide)
  · intro k hk
    cases hk
    rcases hat with e | e
    · exact .inl (h.rq _ e)
    · exact .inr ⟨e, by simpa using hlt.2⟩
  · intro q hq
    rcases List.mem_append.1 hq with hq | hq
    · exact ⟨f2.row (h.down q hq).1 (by decide), fun k hk => .inl ((h.down q hq).2 k hk)⟩
    · obtain rfl := List.mem_singleton.1 hq
      rw [hd.1, hd.2]
      exact ⟨World.ownsRow_nil _ _ _ _, fun k hk => by cases hk⟩
  · intro q hq
    rcases List.mem_append.1 hq with hq | hq
    · exact (h.has q hq).frg f2
    · obtain rfl := List.mem_singleton.1 hq
      exact hP.frg f2
theorem NdK.set {P : Nd} (h : NdK Q w P) {a : Addr} (ha : Q a.block) (v : Value) : NdK Q (w.setCell a v) P := fun W hW => h W (fun k o hk ho => hW k o hk (by
  by_cases e : k = a.block
  · subst e; exact (hk ha).elim
  · exact set_other ho e v))
/-- A cell of a node written. -/
theorem FoAt.stored {g cap n : Nat} (h : FoAt B Q w fb F R (.slice (some ⟨g, 0, none⟩) n cap)) {k : Nat} {r r' : RN} (hr : R[k]? = some r) {j : Nat} (hj : j < 11) {v : Value} (hs : rcells r' = (rcells r).set j v) (hp : r'.2.1 = r.2.1)
    (hd : w.ownsRow B 3 1 r'.2.2 r'.1.down.length (icells r'.1.down) ∧ ∀ k, r'.2.2.ownBlock = some k → Q k) :
    FoAt B Q (w.setCell ⟨g, k * 11 + j, none⟩ v) fb (F.set k r'.1) (R.set k r') (.slice (some ⟨g, 0, none⟩) n cap) ∧ FrG [69] Q w (w.setCell ⟨g, k * 11 + j, none⟩ v) := by
  have hn : n = R.length := by obtain ⟨a, c, e⟩ := h.shape; cases e; exact h.len.symm
  subst hn
  obtain ⟨cur, hcur, _⟩ := rwBlk h.row
  have hg : Q g := h.rq g rfl
  have f : FrG [69] Q w (w.setCell ⟨g, k * 11 + j, none⟩ v) := (FrG.refl [69] Q w).set (a := ⟨g, k * 11 + j, none⟩) (.inl hg) hcur (by decide) _
  refine ⟨⟨?_, by simpa using h.big, h.own, f.blk h.blk (by decide), ?_, h.rq, ?_, ?_⟩, f⟩
  · rw [List.map_set, h.eq]
  · rw [fl_set rcells_len hr j hj hs, List.length_set]
    exact (h.row.stored _ v).1
  · intro q hq
    rcases List.mem_or_eq_of_mem_set hq with hq | rfl
    · exact ⟨f.row (h.down q hq).1 (by decide), (h.down q hq).2⟩
    · exact ⟨f.row hd.1 (by decide), hd.2⟩
  · intro q hq
    rcases List.mem_or_eq_of_mem_set hq with hq | rfl
    · exact (h.has q hq).set hg v
    · rw [hp]; exact (h.has r (List.mem_of_getElem? hr)).set hg v
set_option maxHeartbeats 2000000 in
theorem rmade_calls (h : FoAt B Q w fb F R rv) (hB : B ≤ w.heap.size) (s g : Nat) (P : Nd) (hP : NdK Q w P) (hbig : F.length < 1099511627776) :
    Calls Tryd.prog 38 #[.pointer (some ⟨fb, 0, none⟩), .agg #[.int .u32 (s : Int), .int .u32 (g : Int)], P.v] w fun e w' => ∃ rv' : Value, e = .returned (.tuple #[]) ∧
      FoAt B (fun k => Q k ∨ w.heap.size ≤ k ∧ k < w'.heap.size) w' fb (Made F s g) (R ++ [(⟨s, g, none, [], true⟩, P, .slice none 0 0)]) rv' ∧ FrG [61, 69] Q w w' := by
  have H := Lib.hid h
  have HP := Lib.hid hP
  have HBG := Lib.hid hbig
  have hl := h.len
  have hRl : R.length < 1099511627776 := by omega
  obtain ⟨kd, nm, da, dc, dl, aa, ac, al, sl, gn⟩ := P
  obtain ⟨V, hV⟩ : ∃ V, V = (w.alloc (.cells #[.int .u32 (s : Int), .int .u32 (g : Int)] 31)).alloc (.cells #[.int .i64 kd, .string nm, .slice da dl.length dc, .slice aa al.length ac, .int .u32 sl, .int .u32 gn] 66) := ⟨_, rfl⟩
  have bV : Below w.heap.size w V := by rw [hV]; exact (by repeat (first | exact Below.refl _ _ | assumption | refine Below.drew ?_ | refine below_drewN ?_ _ | refine Below.alloc ?_ (by simp <;> omega) _ | refine Below.setCell ?_ (by simp <;> omega) _ | (apply bl_trans; assumption; (simp <;> omega))))
  have hx : V.heap[w.heap.size]? = some (.cells #[.int .u32 (s : Int), .int .u32 (g : Int)] 31 (0, 0)) := by rw [hV]; exact alloc_blk (Go.heap_alloc_new w _) _
  have hy : V.heap[w.heap.size + 1]? = some (.cells #[.int .i64 kd, .string nm, .slice da dl.length dc, .slice aa al.length ac, .int .u32 sl, .int .u32 gn] 66 (0, 0)) := by rw [hV]; exact alloc2_blk w _ _
  have h2 := h.below bV
  have b0 := h2.b0
  have fr0 := free_blk h2.blk 0
  have x0 := cell_blk hx 0 rfl
  have x1 := cell_blk hx 1 rfl
  have y0 := cell_blk hy 0 rfl
  have y1 := cell_blk hy 1 rfl
  have y2 := cell_blk hy 2 rfl
  have y3 := cell_blk hy 3 rfl
  have y4 := cell_blk hy 4 rfl
  have y5 := cell_blk hy 5 rfl
  simp at x0 x1 y0 y1 y2 y3 y4 y5
  have HV := Lib.hid (And.intro bV h2)
  have HROW := Lib.hid h2.row
  have HFR := Lib.hid h2.blk
  have ltf : fb < V.heap.size := lt_of_some h2.blk
  have hBV : B ≤ V.heap.size := Nat.le_trans hB bV.size
  have hbV : w.heap.size ≤ V.heap.size := bV.size
  clear h2
  obtain ⟨i0, hi0, hz0, hz1, hz2⟩ := info_parts infoFoN
  have hV2 := hV
  clear hV hx hy bV h hP
  show Calls Tryd.prog 38 #[.pointer (some ⟨fb, 0, none⟩), .agg #[.int .u32 (s : Int), .int .u32 (g : Int)], .agg #[.int .i64 kd, .string nm, .slice da dl.length dc, .slice aa al.length ac, .int .u32 sl, .int .u32 gn]] w _
  go_enter Tryd.func38, Tryd.ntmps38
  go_wp2_with fail
  rw [← hV2]
  clear hV2
  go_region_law ((refine step_append_lies _ (by rfl) _ _ 59 (by rfl) B 69 i0 _ 11 128 Tryd.underlying59 hi0 hz0 hz1 hz2 rfl (by omega) rv _ _ (by rfl) ((HROW.out.alloc _).drew) ⟨V.heap.size, 0, none⟩ 1 1 (rcells (⟨s, g, none, [], true⟩, ⟨kd, nm, da, dc, dl, aa, ac, al, sl, gn⟩, .slice none 0 0)) (by rfl) (by rfl) (World.news_of_block (cs := (rcells (⟨s, g, none, [], true⟩, ⟨kd, nm, da, dc, dl, aa, ac, al, sl, gn⟩, .slice none 0 0)).toArray) (t := 69) (fr := (0, 0)) (Go.heap_alloc_new V _)) (rcells_one _ ⟨_, _, _, rfl⟩) (by omega) (by unfold maxLen; omega) (by omega) (by simp; omega) (V.heap.size + 1) (by simp) ?_; intro gg cap1 w4 hown1 hgrow hat hlt; have nb1 := (hgrow.block fb (by simp; omega) (row_ne HROW.out HFR.out (by decide))).trans (alloc_blk HFR.out _); have q1 := cell_blk nb1 0 rfl; have q2 := free_blk nb1 0))
  all_goals have HZ := Lib.hid (H.out.pushed (w3 := (V.alloc (.cells #[.int .u32 (s : Int), .int .u32 (g : Int), .int .i64 kd, .string nm, .slice da dl.length dc, .slice aa al.length ac, .int .u32 sl, .int .u32 gn, .int .i64 (-1), .slice none 0 0, .bool true] 69)).drew) (r := (⟨s, g, none, [], true⟩, ⟨kd, nm, da, dc, dl, aa, ac, al, sl, gn⟩, .slice none 0 0)) ((HV.out.1.alloc hbV _).drew) hgrow hown1 (hat.imp id (fun e => by omega)) ⟨rfl, rfl⟩ HP.out HBG.out)
  all_goals clear hgrow hown1 hat nb1
  all_goals go_wp2_with fail
  all_goals go_end0
  all_goals have HZ2 := HZ.out
  all_goals rw [hl] at HZ2
  all_goals exact ⟨rfl, ⟨_, HZ2.1⟩, HZ2.2⟩
end
end Go.Proofs.YtelhnaphkbpakaaDoor

namespace Go.Proofs.YtelhnaphkbpakaaDoor
open Go.RowKit
set_option linter.unusedVariables false
set_option maxRecDepth 100000

theorem infoInt : (Tryd.prog.info? 3).map (fun i => (i.zero, i.size, i.bytes)) = some (some (.int .i64 0), 1, 8) := by kernel_rfl
theorem icells_len (l : List Nat) : (icells l).length = l.length := by simp [icells]
theorem icells_one (l : List Nat) : ∀ u ∈ icells l, u.oneCell' = true := by
  intro u hu
  obtain ⟨j, _, rfl⟩ := List.mem_map.1 hu
  rfl
theorem icells_app (a b : List Nat) : icells (a ++ b) = icells a ++ icells b := by simp [icells]
theorem icells_at {l : List Nat} {j : Nat} {u : Value} (h : (icells l)[j]? = some u) : ∃ c, l[j]? = some c ∧ u = .int .i64 (c : Int) := by
  unfold icells at h
  rw [List.getElem?_map, Option.map_eq_some_iff] at h
  obtain ⟨c, h1, h2⟩ := h
  exact ⟨c, h1, h2.symm⟩
theorem news1 (w : World) (v : Value) (t : TypeId) : 1 = 0 ∨ ∃ ad, some (⟨w.heap.size, 0, none⟩ : Addr) = some ad ∧ ∀ j u, [v][j]? = some u → (w.alloc (.cells #[v] t)).cell? (ad.add j) = some u :=
  .inr ⟨_, rfl, World.news_of_block (cs := #[v]) (t := t) (fr := (0, 0)) (Go.heap_alloc_new w _)⟩
theorem hng_set {F : For} {i u p : Nat} {xi xu : FN} (hi : F[i]? = some xi) (hu : F[u]? = some xu) (hne : i ≠ u) :
    (F.set u { xu with down := ins xu.down p i }).set i { xi with up := some u } = hng F i u p := by
  apply List.ext_getElem?
  intro k
  have hil := (List.getElem?_eq_some_iff.1 hi).1
  have hul := (List.getElem?_eq_some_iff.1 hu).1
  rw [hng_at hne, List.getElem?_set]
  by_cases hk : k = i
  · subst hk
    simp only [hi, Option.map_some, List.length_set, hil, if_true]
  · rw [if_neg (fun e => hk e.symm), if_neg hk, List.getElem?_set]
    by_cases hk2 : k = u
    · subst hk2; simp only [hu, Option.map_some, hul, if_true]
    · rw [if_neg (fun e => hk2 e.symm), if_neg hk2]
section
variable {B : Nat} {Q : Nat → Prop} {w w' : World} {fb : Nat} {F : For} {R : List RN} {rv : Value}
/-- The two stores of Hang, behind whatever leaves the reference alone. -/
theorem FoAt.hung (h : FoAt B Q w fb F R rv) {w3 : World} (hl : Below w.heap.size w w3) {i u p : Nat} {xi xu : FN} (hi : F[i]? = some xi) (hu : F[u]? = some xu) (hne : i ≠ u) {lv : Value} (hB : B ≤ w.heap.size)
    (hrow : w3.ownsRow w.heap.size 3 1 lv (ins xu.down p i).length (icells (ins xu.down p i))) {g cap : Nat} (hrv : rv = .slice (some ⟨g, 0, none⟩) F.length cap) :
    let W := (w3.setCell ⟨g, u * 11 + 9, none⟩ lv).setCell ⟨g, i * 11 + 8, none⟩ (.int .i64 (u : Int))
    ∃ R', FoAt B (fun k => Q k ∨ w.heap.size ≤ k ∧ k < W.heap.size) W fb (hng F i u p) R' rv ∧ R'.map (fun r => r.2.1) = R.map (fun r => r.2.1) ∧ FrG [69] Q w W := by
  intro W
  subst hrv
  obtain ⟨Pu, du, hRu⟩ := h.at hu
  obtain ⟨Pi, di, hRi⟩ := h.at hi
  have hs3 := hl.size
  have h3 : FoAt B (fun k => Q k ∨ w.heap.size ≤ k ∧ k < w3.heap.size) w3 fb F R (.slice (some ⟨g, 0, none⟩) F.length cap) :=
    (h.frg (FrG.of_below (T := []) hl) (by simp) (by simp) (by simp))
  have hm := List.mem_of_getElem? hRu
  obtain ⟨h4, f4⟩ := h3.stored hRu (r' := ({ xu with down := ins xu.down p i }, Pu, lv)) (j := 9) (by omega) rfl rfl ⟨hrow.mono hB, fun k hk => .inr (hrow.lt k hk)⟩
  have hRi' : (R.set u ({ xu with down := ins xu.down p i }, Pu, lv))[i]? = some (xi, Pi, di) := by
    rw [List.getElem?_set, if_neg (fun e => hne e.symm)]; exact hRi
  have hdi := h4.down _ (List.mem_of_getElem? hRi')
  obtain ⟨h5, f5⟩ := h4.stored hRi' (r' := ({ xi with up := some u }, Pi, di)) (j := 8) (v := .int .i64 (u : Int)) (by omega) rfl rfl hdi
  have hf : FrG [69] Q w W := ((FrG.of_below (T := [69]) (Q := Q) hl).trans f4 (fun k hk => hk.imp id (fun e => e.1))).trans f5 (fun k hk => hk.imp id (fun e => e.1))
  have hsz : W.heap.size = w3.heap.size := by show ((w3.setCell _ _).setCell _ _).heap.size = _; simp
  refine ⟨(R.set u ({ xu with down := ins xu.down p i }, Pu, lv)).set i ({ xi with up := some u }, Pi, di), ?_, ?_, hf⟩
  · rw [hsz, ← hng_set hi hu hne]
    exact h5
  · rw [List.map_set, List.map_set]
    apply List.ext_getElem?
    intro k
    rw [List.getElem?_set, List.getElem?_set]
    simp only [List.length_set, List.length_map]
    split
    · rename_i e; subst e
      have := (List.getElem?_eq_some_iff.1 hRi).1
      simp only [this, if_true, List.getElem?_map, hRi, Option.map_some]
    · split
      · rename_i e; subst e
        have := (List.getElem?_eq_some_iff.1 hRu).1
        simp only [this, if_true, List.getElem?_map, hRu, Option.map_some]
      · rfl
set_option maxHeartbeats 2000000 in
theorem rhang_calls (h : FoAt B Q w fb F R rv) (hB : B ≤ w.heap.size) {i u back : Nat} {xi xu : FN} (hi : F[i]? = some xi) (hu : F[u]? = some xu) (hne : i ≠ u) (hb : back ≤ xu.down.length) (hd : xu.down.length ≤ 1099511627776) :
    Calls Tryd.prog 70 #[.pointer (some ⟨fb, 0, none⟩), .int .i64 (i : Int), .int .i64 (u : Int), .int .i64 (back : Int)] w fun e w' => e = .returned (.tuple #[]) ∧
      (∃ R', FoAt B (fun k => Q k ∨ w.heap.size ≤ k ∧ k < w'.heap.size) w' fb (hng F i u (xu.down.length - back)) R' rv ∧ R'.map (fun r => r.2.1) = R.map (fun r => r.2.1)) ∧ FrG [69] Q w w' := by
  have H := Lib.hid h
  have HI := Lib.hid (And.intro hi (And.intro hu hne))
  have hbig := h.big
  have hil := (List.getElem?_eq_some_iff.1 hi).1
  have hul := (List.getElem?_eq_some_iff.1 hu).1
  have b0 := h.b0
  obtain ⟨g, cap, Pu, du, e, hRu, z0, z1, z8, z9, z10⟩ := h.get hu
  obtain ⟨g', cap', Pi, di, e', hRi, y0, y1, y8, y9, y10⟩ := h.get hi
  rw [e] at e'
  cases e'
  rw [e] at b0
  have HE := Lib.hid e
  have hdown := (h.down _ (List.mem_of_getElem? hRu)).1
  obtain ⟨p, hp⟩ : ∃ p, p = xu.down.length - back := ⟨_, rfl⟩
  rw [← hp]
  have l0 := lt_of_some h.blk
  obtain ⟨cur, hcur, _⟩ := rwBlk (by have := h.row; rw [h.len, e] at this; exact this)
  have l1 := lt_of_some hcur
  have HBL := Lib.hid (And.intro h.blk hcur)
  have hpn : p ≤ xu.down.length := by omega
  have hpb : ((xu.down.length : Int) - (back : Int)) = (p : Int) := by omega
  have wp0 : IntKind.i64.wrap ((p : Nat) : Int) = (p : Int) := IntWalk.i64_in _ (by omega)
  have fzN : ∀ o, w.frozen? ⟨g, o, none⟩ = false := fun o => free_blk hcur o
  obtain ⟨i0, hi0, hz0, hz1, hz2⟩ := info_parts infoInt
  clear hp hi hu z0 z1 z8 z10 y0 y1 y9 y10 hRi
  have HD := Lib.hid hdown
  obtain ⟨n, hne2⟩ : ∃ n, n = xu.down.length := ⟨_, rfl⟩
  have HNE := Lib.hid hne2
  rw [← hne2] at hpn hpb hd hb
  have hsh := hdown.2
  have HZ9 := Lib.hid z9
  clear h hRu hcur z9 HBL hdown
  rcases hsh with ⟨e2, hn⟩ | ⟨dg, dcap, dcur, e2, hdb, hdblk, hdc, hdm, hds, hdx⟩
  · have e2 : du = _ := e2
    subst e2
    have hn : xu.down.length = 0 := hn
    have hnil : xu.down = [] := List.eq_nil_of_length_eq_zero hn
    have hn0 : n = 0 := by omega
    have hp0 : p = 0 := by omega
    subst hn0
    subst hp0
    have z9 := HZ9.out
    have wsub : IntKind.i64.wrap ((0 : Int) - (back : Int)) = 0 := by rw [show ((0 : Int) - (back : Int)) = 0 by omega]; rfl
    have hbk : back = 0 := by omega
    subst hbk
    have hm1 : 0 + 1 ≤ maxLen := by unfold maxLen; omega
    have eL : (ins xu.down 0 i).length = 0 + 1 + 0 := by rw [hnil]; rfl
    have eI : icells (ins xu.down 0 i) = [] ++ [.int .i64 (i : Int)] ++ [] := by
      rw [hnil]; rfl
    have HL := Lib.hid (And.intro eL eI)
    have HLB : Hid (∀ W, Below w.heap.size w W → (W.cell? ⟨fb, 0, none⟩ = some (.slice (some ⟨g, 0, none⟩) F.length cap) ∧ W.cell? ⟨g, u * 11 + 9, none⟩ = some (.slice none 0 0) ∧ W.cell? ⟨g, i * 11 + 8, none⟩ = some (.int .i64 (upI xi.up))) ∧ (∀ o, W.frozen? ⟨g, o, none⟩ = false)) := Lib.hid (fun W b => ⟨⟨(b.cell (p := ⟨fb, 0, none⟩) l0).trans b0, (b.cell (p := ⟨g, _, none⟩) l1).trans z9, (b.cell (p := ⟨g, _, none⟩) l1).trans y8⟩, fun o => (b.frozen (p := ⟨g, o, none⟩) l1).trans (fzN o)⟩)
    have hs0 : ∀ o, w.heap.size ≤ (w.alloc o).heap.size := fun o => ((Below.refl w.heap.size w).alloc (Nat.le_refl _) o).size
    clear hn eL eI hnil wsub wp0 hpb hb hd hpn hne2
    go_enter Tryd.func70, Tryd.ntmps70
    go_wp2_with (at_builtin; (first | (refine wpList_append_lies _ rfl (.tmp 29) (.tmp 31) 67 rfl w.heap.size 3 i0 _ 1 8 Tryd.underlying67 hi0 hz0 hz1 hz2 rfl Nat.one_pos (.slice none 0 0) 0 [] rfl (World.ownsRow_nil _ _ _ _) ⟨w.heap.size, 0, none⟩ 1 1 [.int .i64 (i : Int)] rfl rfl (World.news_of_block (cs := #[.int .i64 (i : Int)]) (t := 3) (fr := (0, 0)) (Go.heap_alloc_new w _)) (icells_one [i]) Nat.one_pos hm1 (by omega) (hs0 _) (w.heap.size + 1) (by simp) ?_; intro g2 c2 w2 hown2 hg2 hat2 hlt2; obtain ⟨v2, hv2⟩ : ∃ v, v = Value.slice (some ⟨g2, 0, none⟩) (0 + 1) c2 := ⟨_, rfl⟩; rw [← hv2] at hown2 ⊢; clear hv2 hat2 hlt2; have hb2 : Below w.heap.size w w2 := ((Below.refl w.heap.size w).alloc (Nat.le_refl _) _).trans (grown_below hg2 (fun x e => (by cases e)) (hs0 _)); have hs2 := hb2.size) | (go_loud (refine wpList_append_any _ rfl (.tmp 33) (.tmp 36) 67 rfl w.heap.size 3 i0 _ 1 8 Tryd.underlying67 hi0 hz0 hz1 hz2 rfl Nat.one_pos v2 (0 + 1) ([] ++ [.int .i64 (i : Int)]) rfl hown2 none 0 0 [] rfl rfl (.inl rfl) (icells_one []) (by unfold maxLen; omega) (by omega) hs2 ?_); intro a3 c3 w3 hown3 hg3; have hb3 : Below w.heap.size w w3 := hb2.trans (grown_below hg3 (fun x e => (hown2.lt x e).1) hs2); have k1 := (HLB.out w3 hb3).1.1; have k2 := (HLB.out w3 hb3).1.2.1; have k3 := (HLB.out w3 hb3).1.2.2; have fz3 := (HLB.out w3 hb3).2)))
    all_goals have HF := H.out.hung hb3 HI.out.1 HI.out.2.1 HI.out.2.2 hB (p := 0) (lv := .slice a3 (0 + 1 + 0) c3) (by rw [HL.out.1, HL.out.2]; exact hown3) HE.out
    all_goals go_end0
    all_goals obtain ⟨R', h1, h2, h3⟩ := HF
    all_goals rw [HE.out] at h1
    all_goals exact ⟨rfl, ⟨R', h1, h2⟩, h3⟩
  · have e2 : du = .slice (some ⟨dg, 0, none⟩) n dcap := by rw [hne2]; exact e2
    have z9 : w.cell? ⟨g, u * 11 + 9, none⟩ = some (.slice (some ⟨dg, 0, none⟩) n dcap) := by rw [← e2]; exact HZ9.out
    have hndc : n ≤ dcap := by rw [hne2]; exact hdc
    have hpd : p ≤ dcap := by omega
    have wsub : IntKind.i64.wrap ((n : Int) - (back : Int)) = (p : Int) := by rw [hpb]; exact wp0
    have qmax : (if 0 < p then (p : Int) else 0) = (p : Int) := by split <;> omega
    have hm1 : p + 1 ≤ maxLen := by unfold maxLen; omega
    have hm2 : (p + 1) * 8 ≤ 140737488355328 := by omega
    have HCL : Hid (∀ W, Below w.heap.size w W → ∀ j v, (icells xu.down)[j]? = some v → W.cell? ⟨dg, j, none⟩ = some v) := Lib.hid (fun W b j v hv => by
      have hj := (List.getElem?_eq_some_iff.1 hv).1
      rw [icells_len] at hj
      have h1 := HD.out
      rw [e2, hne2] at h1
      exact (b.cell (p := ⟨dg, j, none⟩) (lt_of_some hdblk)).trans ((h1.cellAt j (by omega)).trans hv))
    have HT1 : Hid (∀ j v, (icells (xu.down.take p))[j]? = some v → w.cell? ((⟨dg, 0, none⟩ : Addr).add j) = some v) := Lib.hid (fun j v hv => by
      have hadd : (⟨dg, 0, none⟩ : Addr).add j = ⟨dg, j, none⟩ := by unfold Addr.add; split <;> simp_all
      rw [hadd]
      refine HCL.out w (Below.refl _ _) j v ?_
      unfold icells at hv ⊢
      rw [List.map_take, List.getElem?_take] at hv
      split at hv
      · exact hv
      · cases hv)
    have HT2 : Hid (∀ W, Below w.heap.size w W → ∀ j v, (icells (xu.down.drop p))[j]? = some v → W.cell? ((⟨dg, p, none⟩ : Addr).add j) = some v) := Lib.hid (fun W b j v hv => by
      have hadd : (⟨dg, p, none⟩ : Addr).add j = ⟨dg, p + j, none⟩ := by unfold Addr.add; split <;> simp_all
      rw [hadd]
      refine HCL.out W b _ v ?_
      unfold icells at hv ⊢
      rw [List.map_drop, List.getElem?_drop] at hv
      exact hv)
    have HS3 : Hid (∀ W, Below w.heap.size w W → (n - p = 0 ∨ ∃ ad, (if dcap = p then some (⟨dg, 0, none⟩ : Addr) else some ⟨dg, p, none⟩) = some ad ∧ ∀ j v, (icells (xu.down.drop p))[j]? = some v → W.cell? (ad.add j) = some v)) := Lib.hid (fun W b => by
      by_cases hc : dcap = p
      · exact .inl (by omega)
      · exact .inr ⟨_, by rw [if_neg hc], HT2.out W b⟩)
    have tl : (icells (xu.down.take p)).length = p * 1 := by rw [icells_len, List.length_take]; omega
    have dl : (icells (xu.down.drop p)).length = (n - p) * 1 := by rw [icells_len, List.length_drop]; omega
    have HLB : Hid (∀ W, Below w.heap.size w W → (W.cell? ⟨fb, 0, none⟩ = some (.slice (some ⟨g, 0, none⟩) F.length cap) ∧ W.cell? ⟨g, u * 11 + 9, none⟩ = some (.slice (some ⟨dg, 0, none⟩) n dcap) ∧ W.cell? ⟨g, i * 11 + 8, none⟩ = some (.int .i64 (upI xi.up))) ∧ (∀ o, W.frozen? ⟨g, o, none⟩ = false)) := Lib.hid (fun W b => ⟨⟨(b.cell (p := ⟨fb, 0, none⟩) l0).trans b0, (b.cell (p := ⟨g, _, none⟩) l1).trans z9, (b.cell (p := ⟨g, _, none⟩) l1).trans y8⟩, fun o => (b.frozen (p := ⟨g, o, none⟩) l1).trans (fzN o)⟩)
    clear e2 hdblk hds hdx hne2 hdc
    have eL : (ins xu.down p i).length = p + 1 + (n - p) := by unfold ins; have := HNE.out; simp; omega
    have eI : icells (ins xu.down p i) = icells (xu.down.take p) ++ [.int .i64 (i : Int)] ++ icells (xu.down.drop p) := by unfold ins icells; simp
    have HL := Lib.hid (And.intro eL eI)
    go_enter Tryd.func70, Tryd.ntmps70
    go_wp2_with (at_builtin; (first | (refine wpList_append_any _ rfl (.tmp 24) (.tmp 27) 67 rfl w.heap.size 3 i0 _ 1 8 Tryd.underlying67 hi0 hz0 hz1 hz2 rfl (by omega) (.slice none 0 0) 0 [] rfl (World.ownsRow_nil _ _ _ _) (some ⟨dg, 0, none⟩) p dcap (icells (xu.down.take p)) rfl tl (.inr ⟨_, rfl, HT1.out⟩) (icells_one _) (by unfold maxLen; omega) (by omega) (Nat.le_refl _) ?_; intro a1 c1 w1 hown1 hg1; obtain ⟨v1, hv1⟩ : ∃ v, v = Value.slice a1 (0 + p) c1 := ⟨_, rfl⟩; rw [← hv1] at hown1 ⊢; clear hv1; have hown1' : w1.ownsRow w.heap.size 3 1 v1 p (icells (xu.down.take p)) := (by simpa using hown1); clear hown1; have hb1 : Below w.heap.size w w1 := grown_below hg1 (fun x e => (by cases e)) (Nat.le_refl _); have hs1 := hb1.size; have hs1a : ∀ o, w.heap.size ≤ (w1.alloc o).heap.size := (fun o => Nat.le_trans hs1 ((Below.refl w1.heap.size w1).alloc (Nat.le_refl _) o).size)) | (refine wpList_append_lies _ rfl (.tmp 29) (.tmp 31) 67 rfl w.heap.size 3 i0 _ 1 8 Tryd.underlying67 hi0 hz0 hz1 hz2 rfl Nat.one_pos v1 p _ rfl (hown1'.alloc _) ⟨w1.heap.size, 0, none⟩ 1 1 [.int .i64 (i : Int)] rfl rfl (World.news_of_block (cs := #[.int .i64 (i : Int)]) (t := 3) (fr := (0, 0)) (Go.heap_alloc_new w1 _)) (icells_one [i]) Nat.one_pos hm1 hm2 (hs1a _) (w1.heap.size + 1) (by simp) ?_; intro g2 c2 w2 hown2 hg2 hat2 hlt2; obtain ⟨v2, hv2⟩ : ∃ v, v = Value.slice (some ⟨g2, 0, none⟩) (p + 1) c2 := ⟨_, rfl⟩; rw [← hv2] at hown2 ⊢; clear hv2 hat2 hlt2; go_loud (have hb2 : Below w.heap.size w w2 := (hb1.alloc hs1 _).trans (grown_below hg2 (fun x e => (hown1'.lt x e).1) (hs1a _))); have hs2 := hb2.size) | (go_loud (refine wpList_append_any _ rfl (.tmp 33) (.tmp 36) 67 rfl w.heap.size 3 i0 _ 1 8 Tryd.underlying67 hi0 hz0 hz1 hz2 rfl (by omega) v2 (p + 1) (icells (xu.down.take p) ++ [.int .i64 (i : Int)]) rfl hown2 _ _ _ (icells (xu.down.drop p)) rfl dl (HS3.out w2 hb2) (icells_one _) (by unfold maxLen; omega) (by omega) hs2 ?_); intro a3 c3 w3 hown3 hg3; have hb3 : Below w.heap.size w w3 := hb2.trans (grown_below hg3 (fun x e => (hown2.lt x e).1) hs2); have k1 := (HLB.out w3 hb3).1.1; have k2 := (HLB.out w3 hb3).1.2.1; have k3 := (HLB.out w3 hb3).1.2.2; have fz3 := (HLB.out w3 hb3).2)))
    all_goals have HF := H.out.hung hb3 HI.out.1 HI.out.2.1 HI.out.2.2 hB (p := p) (lv := .slice a3 (p + 1 + (n - p)) c3) (by rw [HL.out.1, HL.out.2]; exact hown3) HE.out
    all_goals go_end0
    all_goals obtain ⟨R', h1, h2, h3⟩ := HF
    all_goals rw [HE.out] at h1
    all_goals exact ⟨rfl, ⟨R', h1, h2⟩, h3⟩
end
end Go.Proofs.YtelhnaphkbpakaaDoor

