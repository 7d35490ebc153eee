/- Part 22 of the proof of RoP: lemmas. -/
import Derived.Test.YtelhnaphkbpakaaDoorMr21
namespace Go.Proofs.YtelhnaphkbpakaaDoor
open Go.RowKit
set_option linter.unusedVariables false
set_option maxRecDepth 100000
theorem FOk.first_live {F : For} (ok : FOk F) {k c : Nat} (h : lkO F k 1 = some c) : ∃ x : FN, F[c]? = some x ∧ x.live = true := by
  have hm : c ∈ dnOf F (some k) := List.mem_of_head? h
  unfold dnOf at hm
  simp only [Option.bind_some] at hm
  cases hk : F[k]? with
  | none => rw [hk] at hm; cases hm
  | some y =>
    rw [hk] at hm
    obtain ⟨x, hx, _, hl⟩ := ok.dn k y hk c hm
    exact ⟨x, hx, hl⟩
theorem FOk.behind_live {F : For} (ok : FOk F) {k c : Nat} (h : lkO F k 4 = some c) : ∃ x : FN, F[c]? = some x ∧ x.live = true := by
  have hm : c ∈ dnOf F (upOf F k) := List.mem_of_getElem? h
  exact ((ok.sibs k).2.2 c hm).2
theorem climb_some {F : For} {r m b : Nat} {rt : List Nat} (h : m ≠ r) (h4 : lkO F m 4 = some b) : climb F r (m :: rt) = some b := by unfold climb; rw [if_neg h, h4]
theorem climb_none {F : For} {r m : Nat} {rt : List Nat} (h : m ≠ r) (h4 : lkO F m 4 = none) : climb F r (m :: rt) = climb F r rt := by conv => lhs; unfold climb; rw [if_neg h, h4]
structure StR (F : For) (w : World) (r : Nat) (l : List Nat) (n : Nat) (W : World) (cur : Option Nat) (rest : List Nat) : Prop where
  low : Below w.heap.size w W
  len : rest.length = n
  on : Rest F cur rest
  res : climb F r l = climb F r rest
  live : ∀ k, cur = some k → ∃ x : FN, F[k]? = some x ∧ x.live = true
theorem alloc3_bt (w : World) (a b c : Obj) : (((w.alloc a).alloc b).alloc c).heap[w.heap.size]? = some a ∧ (((w.alloc a).alloc b).alloc c).heap[w.heap.size + 1]? = some b ∧ (((w.alloc a).alloc b).alloc c).heap[w.heap.size + 1 + 1]? = some c := alloc3_at w a b c
section
variable {B : Nat} {Q : Nat → Prop} {w w' : World} {tb : Nat} {X : TX}
set_option maxHeartbeats 8000000 in
theorem stepT_calls (h : TreeAt B Q w tb X) (hz : NoneAt w) {k r : Nat} {xk xr : FN} (hk : X.F[k]? = some xk) (hkl : xk.live = true) (hr : X.F[r]? = some xr) (hrl : xr.live = true) {l : List Nat} (hc : Chain X.F k l) :
    Calls Tryd.prog 48 #[.pointer (some ⟨tb, 0, none⟩), .agg #[.int .u32 (xk.sl : Int), .int .u32 (xk.gn : Int)], .agg #[.int .u32 (xr.sl : Int), .int .u32 (xr.gn : Int)]] w fun e w' => e = .returned (.agg #[.int .u32 ((hd X.F (stepO X.F r k l)).1 : Int), .int .u32 ((hd X.F (stepO X.F r k l)).2 : Int)]) ∧ Below w.heap.size w w' := by
  have HT := Lib.hid h
  have HZ := Lib.hid hz
  have ok := Lib.hid h.fok
  have HRR := Lib.hid (And.intro hr hrl)
  have hu0 : hd X.F (some k) = (xk.sl, xk.gn) := hd_some hk
  obtain ⟨nba, Pa, hma, hata, hsla, hs2a, hg2a⟩ := h.rw.at_live hr hrl
  have HF1 : Hid (∀ W, Below w.heap.size w W → Calls Tryd.prog 87 #[.pointer (some ⟨tb, 0, none⟩), .agg #[.int .u32 (xk.sl : Int), .int .u32 (xk.gn : Int)]] W fun e w' => e = .returned (.tuple #[.agg #[.int .u32 ((hd X.F (lkO X.F k 1)).1 : Int), .int .u32 ((hd X.F (lkO X.F k 1)).2 : Int)], .int .i64 0]) ∧ Below W.heap.size W w') := Lib.hid (fun W b => first_live (h.rw.below b) hk hkl)
  obtain ⟨o, ho⟩ : ∃ o, o = hd X.F (stepO X.F r k l) := ⟨_, rfl⟩
  rw [← ho]
  have HO := Lib.hid ho
  obtain ⟨s, hs⟩ : ∃ s, s = xk.sl := ⟨_, rfl⟩
  obtain ⟨g, hg⟩ : ∃ g, g = xk.gn := ⟨_, rfl⟩
  obtain ⟨s1, hs1⟩ : ∃ s, s = xr.sl := ⟨_, rfl⟩
  obtain ⟨g1, hg1⟩ : ∃ g, g = xr.gn := ⟨_, rfl⟩
  rw [← hs, ← hg, ← hs1, ← hg1]
  rw [← hs, ← hg] at HF1
  rw [← hs1] at hsla
  have HS := Lib.hid (And.intro hs1 hg1)
  obtain ⟨V, hV⟩ : ∃ V, V = ((w.alloc (.cells #[.int .u32 (s : Int), .int .u32 (g : Int)] 31)).alloc (.cells #[.int .u32 (s1 : Int), .int .u32 (g1 : Int)] 31)).alloc (.cells #[.int .u32 0, .int .u32 0] 31) := ⟨_, rfl⟩
  have bV : Below w.heap.size w V := by rw [hV]; exact alloc3_lo _ _ _ _
  have hx := alloc3_bt w (.cells #[.int .u32 (s : Int), .int .u32 (g : Int)] 31) (.cells #[.int .u32 (s1 : Int), .int .u32 (g1 : Int)] 31) (.cells #[.int .u32 0, .int .u32 0] 31)
  rw [← hV] at hx
  have HX := Lib.hid (And.intro hx bV)
  have H0 : Hid (∀ W, Below V.heap.size V W → StR X.F w r l l.length W (some k) l) := Lib.hid (fun W b => ⟨bV.trans (b.mono bV.size), rfl, hc, rfl, fun k' e => by cases e; exact ⟨_, hk, hkl⟩⟩)
  have HD : Hid (hd X.F (some k) = (s, g)) := Lib.hid (by rw [hs, hg]; exact hu0)
  have hlt := (lt_of_some hx.2.2)
  have v0 := cell_blk hx.1 0 rfl
  have v1 := cell_blk hx.1 1 rfl
  have hV2 := hV
  clear hV hx bV h hk hkl hr hrl hu0 hs hg hs1 hg1 hc hma hata hs2a hg2a hz ho
  go_enter Tryd.func48, Tryd.ntmps48
  go_wp2_with fail
  rw [← hV2]
  clear hV2
  cases hl1 : lkO X.F k 1 with
  | some c =>
    obtain ⟨xc, hxc, hxcl⟩ := ok.out.first_live hl1
    rw [hl1, hd_some hxc] at HF1
    obtain ⟨nb, P, hm, hat, hsl, hs2, hg2⟩ := HT.out.rw.at_live hxc hxcl
    have q0 : hEq (xc.sl : Int) (xc.gn : Int) 0 0 = false := hEq_false (.inl (by omega))
    have HR : Hid (o = (xc.sl, xc.gn)) := Lib.hid (by
      rw [HO.out]; unfold stepO; rw [hl1]; exact hd_some hxc)
    clear hxc hxcl hm hat hs2 hg2 hl1
    go_wp2_with (go_at_call 87; refine (HF1.out _ HX.out.2).mono ?_; rintro e w1 ⟨rfl, b1⟩; have n0 := (HZ.out.below (HX.out.2.trans (b1.mono HX.out.2.size))).a; have n1 := (HZ.out.below (HX.out.2.trans (b1.mono HX.out.2.size))).b; have nl := cell_lt n0; have hx3 := (b1.block _ (lt_of_some HX.out.1.2.2)).trans HX.out.1.2.2; have u0 := cell_blk hx3 0 rfl; have u1 := cell_blk hx3 1 rfl; have f0 := free_blk hx3 0; have f1 := free_blk hx3 1; have ul := lt_of_some hx3; have HX3 := Lib.hid hx3; have HB1 := Lib.hid (HX.out.2.trans (b1.mono HX.out.2.size)); clear b1 hx3)
    have hF := alloc_blk (set_blk (set_blk HX3.out 0 (.int .u32 (xc.sl : Int))) 1 (.int .u32 (xc.gn : Int))) (.cells #[.int .u32 (xc.sl : Int), .int .u32 (xc.gn : Int)] 31)
    have z0 := cell_blk hF 0 rfl
    have z1 := cell_blk hF 1 rfl
    exact bodyPost_ret (v := .agg #[.int .u32 (xc.sl : Int), .int .u32 (xc.gn : Int)]) (by simp [results, Tryd.results48, go_sem, z0, z1]) rfl ⟨by rw [HR.out], ((HB1.out.setCell (by simp only; omega) _).setCell (by simp only; omega) _).alloc (by simp; exact HB1.out.size) _⟩
  | none =>
    rw [hl1, hd_none] at HF1
    simp only at HF1
    have q9 : hEq 0 0 0 0 = true := hEq_true rfl rfl
    have HR : Hid (o = hd X.F (climb X.F r l)) := Lib.hid (by rw [HO.out]; unfold stepO; rw [hl1])
    clear hl1
    go_wp2_with (go_at_call 87; refine (HF1.out _ HX.out.2).mono ?_; rintro e w1 ⟨rfl, b1⟩; have n0 := (HZ.out.below (HX.out.2.trans (b1.mono HX.out.2.size))).a; have n1 := (HZ.out.below (HX.out.2.trans (b1.mono HX.out.2.size))).b; have nl := cell_lt n0; have hx3 := (b1.block _ (lt_of_some HX.out.1.1)).trans HX.out.1.1; have hy3 := (b1.block _ (lt_of_some HX.out.1.2.1)).trans HX.out.1.2.1; have hz3 := (b1.block _ (lt_of_some HX.out.1.2.2)).trans HX.out.1.2.2; have ul := lt_of_some hz3; have HX3 := Lib.hid (And.intro hx3 (And.intro hy3 hz3)); have HB0 := Lib.hid b1; have HB1 := Lib.hid (HX.out.2.trans (b1.mono HX.out.2.size)); clear b1 hx3 hy3 hz3)
    clear q9 n0 n1 nl ul v0 v1
    go_loopg [10] l.length (fun n v wr => ∃ (cur : Option Nat) (rest : List Nat), Hid (StR X.F w r l n wr cur rest) ∧ wr.heap[w.heap.size]? = some (.cells #[.int .u32 ((hd X.F cur).1 : Int), .int .u32 ((hd X.F cur).2 : Int)] 31 (0, 0)) ∧ wr.heap[w.heap.size + 1]? = some (.cells #[.int .u32 (s1 : Int), .int .u32 (g1 : Int)] 31 (0, 0)) ∧ wr.heap[w.heap.size + 1 + 1]? = some (.cells #[.int .u32 0, .int .u32 0] 31 (0, 0)))
    case atStart => exact ⟨some k, l, Lib.hid (H0.out _ (HB0.out.alloc HB0.out.size _)), by rw [HD.out]; exact alloc_blk HX3.out.1 _, alloc_blk HX3.out.2.1 _, alloc_blk HX3.out.2.2 _⟩
    case round =>
      obtain ⟨cur, rest, hw, hx, hy, hz⟩ := hrel
      have x0 := cell_blk hx 0 rfl
      have x1 := cell_blk hx 1 rfl
      have y0 := cell_blk hy 0 rfl
      have y1 := cell_blk hy 1 rfl
      have u0 := cell_blk hz 0 rfl
      have u1 := cell_blk hz 1 rfl
      have f0 := free_blk hz 0
      have f1 := free_blk hz 1
      have g0 := free_blk hx 0
      have g1' := free_blk hx 1
      have lz := lt_of_some hz
      have HY := Lib.hid (And.intro hx (And.intro hy hz))
      have n0 := (HZ.out.below hw.out.low).a
      have n1 := (HZ.out.below hw.out.low).b
      have nl := cell_lt n0
      have HL := Lib.hid hw.out.low
      clear hx hy hz
      cases cur with
      | none =>
        rw [hd_none] at x0 x1
        have x0 : wr.cell? ⟨w.heap.size, 0, none⟩ = some (.int .u32 0) := x0
        have x1 : wr.cell? ⟨w.heap.size, 1, none⟩ = some (.int .u32 0) := x1
        have q0 : hEq 0 0 0 0 = true := hEq_true rfl rfl
        have q1 : hEq 0 0 (s1 : Int) (g1 : Int) = false := hEq_false (.inl (by omega))
        have HRR : Hid (o = (0, 0)) := Lib.hid (by
          have h2 : rest = [] := hw.out.on
          rw [HR.out, hw.out.res, h2]; rfl)
        clear hw
        go_wp2_with fail
        have hF := set_blk (set_blk HY.out.2.2 0 (.int .u32 0)) 1 (.int .u32 0)
        have z0 := cell_blk hF 0 rfl
        have z1 := cell_blk hF 1 rfl
        try rw [Exit.noGoto_ret]
        exact bodyPost_ret (v := .agg #[.int .u32 0, .int .u32 0]) (by simp [results, Tryd.results48, go_sem, z0, z1]) rfl ⟨by rw [HRR.out]; rfl, (HL.out.setCell (by simp only; omega) _).setCell (by simp only; omega) _⟩
      | some m =>
        obtain ⟨xm, hm, hml⟩ := hw.out.live m rfl
        have e := hd_some hm
        rw [e] at x0 x1
        try simp only at x0 x1
        have HE := Lib.hid e
        obtain ⟨nb, P, hmm, hat, hsl, hs2, hg2⟩ := HT.out.rw.at_live hm hml
        obtain ⟨rt, e1, e2⟩ := hw.out.on.next
        have q0 : hEq (xm.sl : Int) (xm.gn : Int) 0 0 = false := hEq_false (.inl (by omega))
        by_cases hmr : m = r
        · have q1 : hEq (xm.sl : Int) (xm.gn : Int) (s1 : Int) (g1 : Int) = true := by
            subst hmr
            have := hm.symm.trans HRR.out.1
            cases this
            exact hEq_true (by rw [HS.out.1]) (by rw [HS.out.2])
          have HRE : Hid (o = (0, 0)) := Lib.hid (by
            rw [HR.out, hw.out.res, e1]; unfold climb; rw [if_pos hmr]; rfl)
          clear hw hm hml e hmm hat hs2 hg2 e1 e2 hmr
          go_wp2_with fail
          have hF := set_blk (set_blk HY.out.2.2 0 (.int .u32 0)) 1 (.int .u32 0)
          have z0 := cell_blk hF 0 rfl
          have z1 := cell_blk hF 1 rfl
          try rw [Exit.noGoto_ret]
          exact bodyPost_ret (v := .agg #[.int .u32 0, .int .u32 0]) (by simp [results, Tryd.results48, go_sem, z0, z1]) rfl ⟨by rw [HRE.out]; rfl, (HL.out.setCell (by simp only; omega) _).setCell (by simp only; omega) _⟩
        · have q1 : hEq (xm.sl : Int) (xm.gn : Int) (s1 : Int) (g1 : Int) = false := hEq_false (.inl (fun e => hmr (HT.out.rw.hinj hm HRR.out.1 hml HRR.out.2 (by have := HS.out.1; omega))))
          have HBE : Hid (∀ W, Below w.heap.size w W → Calls Tryd.prog 59 #[.pointer (some ⟨tb, 0, none⟩), .agg #[.int .u32 (xm.sl : Int), .int .u32 (xm.gn : Int)]] W fun e w' => e = .returned (.tuple #[.agg #[.int .u32 ((hd X.F (lkO X.F m 4)).1 : Int), .int .u32 ((hd X.F (lkO X.F m 4)).2 : Int)], .int .i64 0]) ∧ Below W.heap.size W w') := Lib.hid (fun W b => behind_live (HT.out.rw.below b) hm hml)
          have HPA : Hid (∀ W, Below w.heap.size w W → Calls Tryd.prog 54 #[.pointer (some ⟨tb, 0, none⟩), .agg #[.int .u32 (xm.sl : Int), .int .u32 (xm.gn : Int)]] W fun e w' => e = .returned (.tuple #[.agg #[.int .u32 ((hd X.F (upOf X.F m)).1 : Int), .int .u32 ((hd X.F (upOf X.F m)).2 : Int)], .int .i64 0]) ∧ Below W.heap.size W w') := Lib.hid (fun W b => parent_live (HT.out.rw.below b) hm hml)
          cases hl4 : lkO X.F m 4 with
          | some c =>
            have hcl : climb X.F r rest = some c := by rw [e1]; exact climb_some hmr hl4
            obtain ⟨xc, hxc, hxcl⟩ := ok.out.behind_live hl4
            rw [hl4, hd_some hxc] at HBE
            obtain ⟨nb', P', hm', hat', hsl', hs2', hg2'⟩ := HT.out.rw.at_live hxc hxcl
            have q2 : hEq (xc.sl : Int) (xc.gn : Int) 0 0 = false := hEq_false (.inl (by omega))
            have HRE : Hid (o = (xc.sl, xc.gn)) := Lib.hid (by rw [HR.out, hw.out.res, hcl]; exact hd_some hxc)
            clear hw hm hml e hmm hat hs2 hg2 e1 e2 hmr hcl hl4 hxc hxcl hm' hat' hs2' hg2'
            go_wp2_with (go_at_call 59; refine (HBE.out _ HL.out).mono ?_; rintro e w1 ⟨rfl, b1⟩; have n0' := (HZ.out.below (HL.out.trans (b1.mono HL.out.size))).a; have n1' := (HZ.out.below (HL.out.trans (b1.mono HL.out.size))).b; have nl' := cell_lt n0'; have hz3 := (b1.block _ (lt_of_some HY.out.2.2)).trans HY.out.2.2; have u0' := cell_blk hz3 0 rfl; have u1' := cell_blk hz3 1 rfl; have f0' := free_blk hz3 0; have f1' := free_blk hz3 1; have ul' := lt_of_some hz3; have HZ3 := Lib.hid hz3; have HB2 := Lib.hid (HL.out.trans (b1.mono HL.out.size)); clear b1 hz3)
            have hF := alloc_blk (set_blk (set_blk HZ3.out 0 (.int .u32 (xc.sl : Int))) 1 (.int .u32 (xc.gn : Int))) (.cells #[.int .u32 (xc.sl : Int), .int .u32 (xc.gn : Int)] 31)
            have z0 := cell_blk hF 0 rfl
            have z1 := cell_blk hF 1 rfl
            try rw [Exit.noGoto_ret]
            exact bodyPost_ret (v := .agg #[.int .u32 (xc.sl : Int), .int .u32 (xc.gn : Int)]) (by simp [results, Tryd.results48, go_sem, z0, z1]) rfl ⟨by rw [HRE.out], ((HB2.out.setCell (by simp only; omega) _).setCell (by simp only; omega) _).alloc (by simp; exact HB2.out.size) _⟩
          | none =>
            have hcl : climb X.F r rest = climb X.F r rt := by rw [e1]; exact climb_none hmr hl4
            rw [hl4, hd_none] at HBE
            have q2 : hEq 0 0 0 0 = true := hEq_true rfl rfl
            have HM : Hid (rt.length < gk) := Lib.hid (by rw [← hw.out.len, e1]; simp)
            have HNX : Hid (∀ W, Below w.heap.size w W → StR X.F w r l rt.length W (upOf X.F m) rt) := Lib.hid (fun W b => ⟨b, rfl, e2, by rw [hw.out.res, hcl], fun k' hk' => ok.out.up_live hk'⟩)
            clear hw hm hml e hmm hat hs2 hg2 e1 e2 hmr hcl hl4
            go_wp2_with (first | (have hh := HB2; go_at_call 54; refine (HPA.out _ (HB2.out.alloc HB2.out.size _)).mono ?_; rintro e w2 ⟨rfl, b2⟩; have hx4 := (b2.block _ (Nat.lt_of_lt_of_le (lt_of_some HZ3.out.1) ((Below.refl w1.heap.size w1).alloc (Nat.le_refl _) _).size)).trans (alloc_blk HZ3.out.1 _); have hy4 := (b2.block _ (Nat.lt_of_lt_of_le (lt_of_some HZ3.out.2.1) ((Below.refl w1.heap.size w1).alloc (Nat.le_refl _) _).size)).trans (alloc_blk HZ3.out.2.1 _); have hz4 := (b2.block _ (Nat.lt_of_lt_of_le (lt_of_some HZ3.out.2.2) ((Below.refl w1.heap.size w1).alloc (Nat.le_refl _) _).size)).trans (alloc_blk HZ3.out.2.2 _); have s0' := cell_blk hx4 0 rfl; have s1' := cell_blk hx4 1 rfl; rw [HE.out] at s0' s1'; have r0' := free_blk hx4 0; have r1' := free_blk hx4 1; have HB4 := Lib.hid ((HB2.out.alloc HB2.out.size _).trans (b2.mono (HB2.out.alloc HB2.out.size _).size)); have HZ4 := Lib.hid (And.intro hx4 (And.intro hy4 hz4)); clear b2 hx4 hy4 hz4) | (go_at_call 59; refine (HBE.out _ HL.out).mono ?_; rintro e w1 ⟨rfl, b1⟩; have n0' := (HZ.out.below (HL.out.trans (b1.mono HL.out.size))).a; have n1' := (HZ.out.below (HL.out.trans (b1.mono HL.out.size))).b; have nl' := cell_lt n0'; have hx3 := (b1.block _ (lt_of_some HY.out.1)).trans HY.out.1; have hy3 := (b1.block _ (lt_of_some HY.out.2.1)).trans HY.out.2.1; have hz3 := (b1.block _ (lt_of_some HY.out.2.2)).trans HY.out.2.2; have t0' := cell_blk hx3 0 rfl; have t1' := cell_blk hx3 1 rfl; rw [HE.out] at t0' t1'; have tl' := lt_of_some hx3; have HZ3 := Lib.hid (And.intro hx3 (And.intro hy3 hz3)); have HB2 := Lib.hid (HL.out.trans (b1.mono HL.out.size)); clear b1 hx3 hy3 hz3))
            go_roundg rt.length
            case measure => exact HM.out
            case rel => exact ⟨upOf X.F m, rt, Lib.hid (HNX.out _ ((HB4.out.setCell (Nat.le_refl _) _).setCell (Nat.le_refl _) _)), set_blk (set_blk HZ4.out.1 0 _) 1 _, by rw [heap_setCell_other _ _ _ _ (by simp), heap_setCell_other _ _ _ _ (by simp)]; exact HZ4.out.2.1, by rw [heap_setCell_other _ _ _ _ (by simp; omega), heap_setCell_other _ _ _ _ (by simp; omega)]; exact HZ4.out.2.2⟩
end
end Go.Proofs.YtelhnaphkbpakaaDoor
