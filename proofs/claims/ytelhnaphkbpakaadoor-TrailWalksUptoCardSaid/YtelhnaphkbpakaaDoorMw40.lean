/- trail.Up's closure: it tells the nodes of the order from beneath, one by one. -/
import Derived.Test.YtelhnaphkbpakaaDoorMw39
namespace Go.Proofs.YtelhnaphkbpakaaDoor
open Go.RowKit Go.Shelf
attribute [local go_sem] Oper.semAt_some
set_option linter.unusedVariables false
set_option maxRecDepth 100000

/-- What holds at the head of a round of the closure. -/
structure UpR (F : For) (L : List Nat) (n0 B0 Bt Bh bx tb sr gr : Nat) (w0 : World) (J : List Nat → World → Prop) (n : Nat) (W : World) (pre : List Nat) (cur : Nat) (rest : List Nat) : Prop where
  len : rest.length + 1 = n
  all : L = pre ++ cur :: rest
  j : J pre W
  low : Below w0.heap.size w0 W
  new : B0 ≤ bx ∧ B0 ≤ W.heap.size
  box : W.heap[bx]? = some (.cells #[.int .u32 ((hd F (some cur)).1 : Int), .int .u32 ((hd F (some cur)).2 : Int)] 31 (0, 0))
  bt : W.heap[Bt]? = some (.cells #[.pointer (some ⟨tb, 0, none⟩)] 25 (0, 0))
  bh : W.heap[Bh]? = some (.cells #[.int .u32 (sr : Int), .int .u32 (gr : Int)] 31 (0, 0))
/-- What stands behind a node of the order from beneath. -/
theorem up_next {F : For} (ok : FOk F) {r : Nat} {xr : FN} (hr : F[r]? = some xr) (hrl : xr.live = true) : ∀ pre m rest, postD F r = pre ++ m :: rest → ∃ xm, F[m]? = some xm ∧ xm.live = true ∧ (m = r → rest = []) ∧ (m ≠ r → ∃ t rest' xt, rest = t :: rest' ∧ F[t]? = some xt ∧ xt.live = true ∧ ((∃ b xb, lkO F m 4 = some b ∧ F[b]? = some xb ∧ xb.live = true ∧ (postD F b).head? = some t) ∨ (lkO F m 4 = none ∧ upOf F m = some t))) := by
  intro pre m rest e
  have hrlen := (List.getElem?_eq_some_iff.1 hr).1
  have lv : ∀ m ∈ postD F r, ∃ x : FN, F[m]? = some x ∧ x.live = true := fun m hm => preD_live ok r hrlen ⟨xr, hr, hrl⟩ m ((postD_mem ok hrlen).1 hm)
  obtain ⟨xm, hm, hml⟩ := lv m (by rw [e]; simp)
  refine ⟨xm, hm, hml, fun h => by subst h; exact post_last ok hrlen e, fun hne => ?_⟩
  obtain ⟨s1, s2⟩ := post_step ok r hrlen e hne
  have hn : rest ≠ [] := by
    intro h
    subst h
    have h1 : (postD F r).getLast? = some m := by rw [e]; simp
    rw [postD_eq ok hrlen] at h1
    simp at h1
    exact hne h1.symm
  cases rest with
  | nil => exact absurd rfl hn
  | cons t rest' =>
    obtain ⟨xt, ht, htl⟩ := lv t (by rw [e]; simp)
    refine ⟨t, rest', xt, rfl, ht, htl, ?_⟩
    cases hb : lkO F m 4 with
    | some b =>
      obtain ⟨xb, h1, h2⟩ := ok.behind_live hb
      exact .inl ⟨b, xb, rfl, h1, h2, (s1 b hb).symm⟩
    | none => exact .inr ⟨rfl, (s2 hb).symm⟩

section
variable {B : Nat} {Q : Nat → Prop} {w w0 : World} {tb : Nat} {X : TX}
set_option maxHeartbeats 8000000 in
theorem up1_seq (h : TreeAt B Q w0 tb X) (hz : NoneAt w0) {r : Nat} {xr : FN} (hr : X.F[r]? = some xr) (hrl : xr.live = true) (n : Nat) (hn : 1 ≤ n) {Bt Bh : Nat} (hB : Below w0.heap.size w0 w)
    (hBt : w.heap[Bt]? = some (.cells #[.pointer (some ⟨tb, 0, none⟩)] 25 (0, 0))) (hBh : w.heap[Bh]? = some (.cells #[.int .u32 (xr.sl : Int), .int .u32 (xr.gn : Int)] 31 (0, 0))) :
    SeqT [31] Fence.wide n Tryd.prog 57 #[.pointer (some ⟨Bt, 0, none⟩), .pointer (some ⟨Bh, 0, none⟩)] (encK X.F) (KpD w0.heap.size) (postD X.F r) w := by
  intro l J Jx W hW hJ hJx hY h0
  have ok := h.fok
  have hrlen := (List.getElem?_eq_some_iff.1 hr).1
  obtain ⟨nba, Pa, hma, hata, hsla, hs2a, hg2a⟩ := h.rw.at_live hr hrl
  have HT := Lib.hid h
  have HZ := Lib.hid hz
  have HY := Lib.hid hY
  have HJ := Lib.hid hJ
  have HNEXT := Lib.hid (up_next ok hr hrl)
  have HLI : Hid (∀ W1 gb, Below w0.heap.size w0 W1 → HRow W1 gb [(xr.sl, xr.gn)] → Calls Tryd.prog 40 #[.pointer (some ⟨tb, 0, none⟩), .slice (some ⟨gb, 0, none⟩) 1 1] W1 fun e w' => e = .returned (.int .i64 0) ∧ Below W1.heap.size W1 w') := Lib.hid (fun W1 gb b hr1 => lives_calls (h.rw.below b) hr1 (by simp) (.inl ⟨rfl, by
    intro p hp
    obtain rfl := List.mem_singleton.1 hp
    exact ⟨r, xr, hr, hrl, rfl, rfl⟩⟩))
  have HHR : Hid (∀ W1 gb, W1.heap[gb]? = some (.cells #[.int .u32 (xr.sl : Int), .int .u32 (xr.gn : Int)] 31 (0, 0)) → HRow W1 gb [(xr.sl, xr.gn)]) := Lib.hid (fun W1 gb hgb => ⟨fun j p hp => by
    match j, hp with
    | 0, hp => cases hp; exact ⟨cell_blk hgb 0 rfl, cell_blk hgb 1 rfl⟩
    | j + 1, hp => simp at hp, by
    intro p hp
    obtain rfl := List.mem_singleton.1 hp; exact ⟨by simp only; omega, by simp only; omega⟩⟩)
  have HLW : Hid (∀ W1, Below w0.heap.size w0 W1 → ∀ k xk t xt, X.F[k]? = some xk → xk.live = true → (postD X.F k).head? = some t → X.F[t]? = some xt → Calls Tryd.prog 58 #[.pointer (some ⟨tb, 0, none⟩), .agg #[.int .u32 (xk.sl : Int), .int .u32 (xk.gn : Int)]] W1 fun e w' => e = .returned (.agg #[.int .u32 (xt.sl : Int), .int .u32 (xt.gn : Int)]) ∧ Below W1.heap.size W1 w') := Lib.hid (fun W1 b k xk t xt h1 h2 h3 h4 => lowestT_calls (h.below b) (hz.below b) h1 h2 h3 h4)
  have HBE : Hid (∀ W1, Below w0.heap.size w0 W1 → ∀ k xk, X.F[k]? = some xk → xk.live = true → Calls Tryd.prog 59 #[.pointer (some ⟨tb, 0, none⟩), .agg #[.int .u32 (xk.sl : Int), .int .u32 (xk.gn : Int)]] W1 fun e w' => e = .returned (.tuple #[.agg #[.int .u32 ((hd X.F (lkO X.F k 4)).1 : Int), .int .u32 ((hd X.F (lkO X.F k 4)).2 : Int)], .int .i64 0]) ∧ Below W1.heap.size W1 w') := Lib.hid (fun W1 b k xk h1 h2 => behind_live (h.rw.below b) h1 h2)
  have HPA : Hid (∀ W1, Below w0.heap.size w0 W1 → ∀ k xk, X.F[k]? = some xk → xk.live = true → Calls Tryd.prog 54 #[.pointer (some ⟨tb, 0, none⟩), .agg #[.int .u32 (xk.sl : Int), .int .u32 (xk.gn : Int)]] W1 fun e w' => e = .returned (.tuple #[.agg #[.int .u32 ((hd X.F (upOf X.F k)).1 : Int), .int .u32 ((hd X.F (upOf X.F k)).2 : Int)], .int .i64 0]) ∧ Below W1.heap.size W1 w') := Lib.hid (fun W1 b k xk h1 h2 => parent_live (h.rw.below b) h1 h2)
  have HIN : Hid (∀ m xm, X.F[m]? = some xm → xm.live = true → hEq (xm.sl : Int) (xm.gn : Int) (xr.sl : Int) (xr.gn : Int) = decide (m = r)) := Lib.hid (fun m xm h1 h2 => by
    have hE := h.rw.hd_inj ⟨xm, h1, h2⟩ ⟨xr, hr, hrl⟩
    rw [hd_some h1, hd_some hr] at hE
    exact hE)
  obtain ⟨c0, rest0, hhead⟩ : ∃ c t, postD X.F r = c :: t := by
    cases e : postD X.F r with
    | nil => exact absurd e (postD_ne ok hrlen)
    | cons c t => exact ⟨c, t, rfl⟩
  obtain ⟨xc0, hc0, hc0l, _, _⟩ := HNEXT.out [] c0 rest0 hhead
  have HL0 : Hid (∀ W1, Below w0.heap.size w0 W1 → Calls Tryd.prog 58 #[.pointer (some ⟨tb, 0, none⟩), .agg #[.int .u32 (xr.sl : Int), .int .u32 (xr.gn : Int)]] W1 fun e w' => e = .returned (.agg #[.int .u32 (xc0.sl : Int), .int .u32 (xc0.gn : Int)]) ∧ Below W1.heap.size W1 w') := Lib.hid (fun W1 b => HLW.out W1 b r xr c0 xc0 hr hrl (by rw [hhead]; rfl) hc0)
  have HHD := Lib.hid (And.intro hhead (hd_some hc0))
  have bt0 := (hW.block _ (lt_of_some hBt)).trans hBt
  have bh0 := (hW.block _ (lt_of_some hBh)).trans hBh
  have bW := hB.trans (hW.mono hB.size)
  have HW0 := Lib.hid (And.intro bt0 (And.intro bh0 (And.intro bW h0)))
  have c0' := cell_blk bt0 0 rfl
  have c1 := cell_blk bh0 0 rfl
  have c2 := cell_blk bh0 1 rfl
  have lbt := lt_of_some bt0
  have lbh := lt_of_some bh0
  simp at c0' c1 c2
  clear h hz hr hrl hB hBt hBh hW hJ hJx hY h0 hma hata hsla hs2a hg2a ok hhead bt0 bh0 bW hc0 hc0l
  generalize xr.sl = sr at *
  generalize xr.gn = gr at *
  generalize xc0.sl = sc at *
  generalize xc0.gn = gc at *
  have hro : Fence.wide.round = none := rfl
  refine callsIn_of_wp Tryd.func57 rfl trivial ?_ rfl
  simp only [Tryd.ntmps57, List.size_toArray, List.length_cons, List.length_nil, Nat.reduceAdd, Nat.reduceSub, Array.replicate_succ, Array.replicate_zero, List.push_toArray, List.append_toArray, List.nil_append, List.cons_append]
  have HLC : Hid (Calls Tryd.prog 40 #[.pointer (some ⟨tb, 0, none⟩), .slice (some ⟨W.heap.size, 0, none⟩) 1 1] (W.alloc (.cells #[.int .u32 (sr : Int), .int .u32 (gr : Int)] 31)) fun e w' => e = .returned (.int .i64 0) ∧ Below (W.alloc (.cells #[.int .u32 (sr : Int), .int .u32 (gr : Int)] 31)).heap.size (W.alloc (.cells #[.int .u32 (sr : Int), .int .u32 (gr : Int)] 31)) w') := Lib.hid (HLI.out _ _ (HW0.out.2.2.1.alloc HW0.out.2.2.1.size _) (HHR.out _ _ (Go.heap_alloc_new W _)))
  gi_wp2_with (refine ⟨trivial, ?_⟩; first | (gi_at_call 40; refine (callsIn_wide.2 HLC.out).mono ?_; rintro e w1 ⟨rfl, b1⟩; have HB1 := Lib.hid (((Below.refl W.heap.size W).alloc (Nat.le_refl _) _).trans (b1.mono ((Below.refl W.heap.size W).alloc (Nat.le_refl _) _).size)); have d0' := (HB1.out.cell (p := ⟨Bt, 0, none⟩) lbt).trans c0'; have d0 := (HB1.out.cell (p := ⟨Bh, 0, none⟩) lbh).trans c1; have d1 := (HB1.out.cell (p := ⟨Bh, 1, none⟩) lbh).trans c2; clear b1) | (gi_at_call 58; refine (callsIn_wide.2 (HL0.out _ (HW0.out.2.2.1.trans (HB1.out.mono HW0.out.2.2.1.size)))).mono ?_; rintro e w2 ⟨rfl, b2⟩; have HB2 := Lib.hid (HB1.out.trans (b2.mono HB1.out.size)); clear b2))
  clear d0' d0 d1 c0' c1 c2 lbt lbh
  have HLOW2 := Lib.hid (HW0.out.2.2.1.trans ((HB2.out.alloc HB2.out.size (.cells #[.int .u32 (sc : Int), .int .u32 (gc : Int)] 31)).mono HW0.out.2.2.1.size))
  gi_loopg [6] (postD X.F r).length (fun n v wr => ∃ (pre : List Nat) (cur : Nat) (rest : List Nat), Hid (UpR X.F (postD X.F r) w0.heap.size W.heap.size Bt Bh w2.heap.size tb sr gr w0 J n wr pre cur rest))
  case atStart =>
    have hbel : Below W.heap.size W (w2.alloc (.cells #[.int .u32 (sc : Int), .int .u32 (gc : Int)] 31)) := HB2.out.alloc HB2.out.size _
    exact ⟨[], c0, rest0, Lib.hid ⟨by rw [HHD.out.1]; rfl, HHD.out.1, HJ.out [] W _ HW0.out.2.2.2 (FrT.of_below hbel), HLOW2.out, ⟨HB2.out.size, hbel.size⟩, by rw [HHD.out.2]; exact Go.heap_alloc_new w2 _, (hbel.block _ (lt_of_some HW0.out.1)).trans HW0.out.1, (hbel.block _ (lt_of_some HW0.out.2.1)).trans HW0.out.2.1⟩⟩
  case round =>
    obtain ⟨pre, cur, rest, hw⟩ := hrel
    obtain ⟨xm, hm, hml, hend, hgo⟩ := HNEXT.out pre cur rest hw.out.all
    have e := hd_some hm
    have x0 := cell_blk hw.out.box 0 rfl
    have x1 := cell_blk hw.out.box 1 rfl
    replace x0 : wr.cell? ⟨w2.heap.size, 0, none⟩ = some (.int .u32 (xm.sl : Int)) := by have := x0; rw [e] at this; exact this
    replace x1 : wr.cell? ⟨w2.heap.size, 1, none⟩ = some (.int .u32 (xm.gn : Int)) := by have := x1; rw [e] at this; exact this
    have hpf : pre ++ [cur] <+: postD X.F r := ⟨rest, by rw [hw.out.all]; simp⟩
    obtain ⟨fn, tmps, assign, body, hy, hR⟩ := HY.out pre cur wr hw.out.j hpf
    unfold encK at hy
    rw [e] at hy
    simp only at hy
    have hE := HIN.out cur xm hm hml
    have HPF := Lib.hid hpf
    have HE := Lib.hid e
    have HNW := Lib.hid hw.out.new.1
    by_cases hcr : cur = r
    · have HL : Hid (postD X.F r = pre ++ [cur]) := Lib.hid (by rw [hw.out.all, hend hcr])
      rw [decide_eq_true hcr] at hE
      clear hm hml hend hgo e hpf hcr
      gi_wp2
      refine hR.mono ?_
      rintro e W3 (⟨rfl, hJ3, hk3⟩ | ⟨rfl, hJx3⟩)
      · have hbx3 := hk3.box _ _ _ _ (.inl rfl) hw.out.box
        have hbh3 := hk3.box _ _ _ _ (.inl rfl) hw.out.bh
        have y0 := cell_blk hbx3 0 rfl
        have y1 := cell_blk hbx3 1 rfl
        have r0 := cell_blk hbh3 0 rfl
        have r1 := cell_blk hbh3 1 rfl
        rw [HE.out] at y0 y1
        have H3 := Lib.hid hJ3
        clear hbx3 hbh3 hJ3 hk3
        gi_wp2
        go_end0
        exact ⟨⟨_, rfl⟩, .inl (by rw [HL.out]; exact H3.out)⟩
      · have HX3 := Lib.hid hJx3
        clear hJx3
        gi_wp2
        go_end0
        exact ⟨⟨_, rfl⟩, .inr ⟨_, HPF.out, HX3.out⟩⟩
    · obtain ⟨t, rest', xt, hrest, hxt, hxtl, hcase⟩ := hgo hcr
      rw [decide_eq_false hcr] at hE
      have HALL : Hid (postD X.F r = (pre ++ [cur]) ++ t :: rest') := Lib.hid (by rw [hw.out.all, hrest]; simp)
      have HM : Hid (rest'.length + 1 < gk) := Lib.hid (by have := hw.out.len; rw [hrest] at this; simp at this; omega)
      have HT1 : Hid (hd X.F (some t) = (xt.sl, xt.gn)) := Lib.hid (hd_some hxt)
      have HBEK := Lib.hid (fun W1 b => HBE.out W1 b cur xm hm hml)
      have HPAK := Lib.hid (fun W1 b => HPA.out W1 b cur xm hm hml)
      rcases hcase with ⟨b, xb, hlk, hxb, hxbl, hpo⟩ | ⟨hlk, hup⟩
      · obtain ⟨nb, P, hm', hat, hsl, hs2, hg2⟩ := HT.out.rw.at_live hxb hxbl
        have q0 : hEq (xb.sl : Int) (xb.gn : Int) 0 0 = false := hEq_false (.inl (by omega))
        rw [hlk, hd_some hxb] at HBEK
        have HLWB := Lib.hid (fun W1 bb => HLW.out W1 bb b xb t xt hxb hxbl hpo hxt)
        clear hm hml hend hgo e hpf hcr hrest hxt hxtl hlk hxb hxbl hpo hm' hat hsl hs2 hg2 HPAK
        gi_wp2
        refine hR.mono ?_
        rintro e W3 (⟨rfl, hJ3, hk3⟩ | ⟨rfl, hJx3⟩)
        · have hbx3 := hk3.box _ _ _ _ (.inl rfl) hw.out.box
          have hbt3 := hk3.box _ _ _ _ (.inr rfl) hw.out.bt
          have hbh3 := hk3.box _ _ _ _ (.inl rfl) hw.out.bh
          have HLO3 := Lib.hid (hw.out.low.trans hk3.below)
          have H3 := Lib.hid (And.intro hbx3 (And.intro hbt3 (And.intro hbh3 hJ3)))
          have HNW3 : Hid (W.heap.size ≤ W3.heap.size) := Lib.hid (Nat.le_trans hw.out.new.2 hk3.below.size)
          have y0 := cell_blk hbx3 0 rfl
          have y1 := cell_blk hbx3 1 rfl
          have t0 := cell_blk hbt3 0 rfl
          have r0 := cell_blk hbh3 0 rfl
          have r1 := cell_blk hbh3 1 rfl
          rw [HE.out] at y0 y1
          clear hbx3 hbt3 hbh3 hJ3 hk3
          gi_wp2_with (refine ⟨trivial, ?_⟩; first | (gi_at_call 59; refine (callsIn_wide.2 (HBEK.out W3 HLO3.out)).mono ?_; rintro e w4 ⟨rfl, b4⟩; have hbt4 := (b4.block _ (lt_of_some H3.out.2.1)).trans H3.out.2.1; have t4 := cell_blk hbt4 0 rfl; have l4 := lt_of_some hbt4; have H4 := Lib.hid b4; have n0 := (HZ.out.below (HLO3.out.trans (b4.mono HLO3.out.size))).a; have n1 := (HZ.out.below (HLO3.out.trans (b4.mono HLO3.out.size))).b; have nl := cell_lt n0; clear b4 hbt4) | (gi_at_call 58; refine (callsIn_wide.2 (HLWB.out _ ((HLO3.out.trans (H4.out.mono HLO3.out.size)).alloc (Nat.le_trans HLO3.out.size H4.out.size) _))).mono ?_; rintro e w5 ⟨rfl, b5⟩; have hb35 := (H4.out.alloc H4.out.size _).trans (b5.mono (H4.out.alloc H4.out.size _).size); have hbx5 := (hb35.block _ (lt_of_some H3.out.1)).trans H3.out.1; have f0 := free_blk hbx5 0; have f1 := free_blk hbx5 1; have z0 := cell_blk hbx5 0 rfl; have z1 := cell_blk hbx5 1 rfl; have lz := lt_of_some hbx5; have H5 := Lib.hid (And.intro hbx5 hb35); clear hbx5 hb35 b5))
          gi_roundg (rest'.length + 1)
          case measure => exact HM.out
          case rel =>
            have frt : ∀ u v, FrT [31] W.heap.size W3 ((w5.setCell ⟨w2.heap.size, 0, none⟩ u).setCell ⟨w2.heap.size, 1, none⟩ v) := fun u v => ((FrT.of_below H5.out.2).set (a := ⟨w2.heap.size, 0, none⟩) HNW.out H5.out.1 (List.mem_singleton.2 rfl) u).set (a := ⟨w2.heap.size, 1, none⟩) HNW.out (set_blk H5.out.1 0 u) (List.mem_singleton.2 rfl) v
            have hlo : ∀ u v, Below w0.heap.size w0 ((w5.setCell ⟨w2.heap.size, 0, none⟩ u).setCell ⟨w2.heap.size, 1, none⟩ v) := fun u v => by
              have h1 := HW0.out.2.2.1.size
              have h2 := HNW.out
              have h3 := HLO3.out.size
              exact ((HLO3.out.trans (H5.out.2.mono h3)).setCell (by show w0.heap.size ≤ w2.heap.size; omega) u).setCell (by show w0.heap.size ≤ w2.heap.size; omega) v
            refine ⟨pre ++ [cur], t, rest', Lib.hid ⟨rfl, HALL.out, HJ.out _ W3 _ H3.out.2.2.2 (frt _ _), hlo _ _, ⟨HNW.out, by simp; exact Nat.le_trans HNW3.out H5.out.2.size⟩, ?_, (frt _ _).block _ _ H3.out.2.1 (.inr (fun e he => by cases he; decide)), (frt _ _).block _ _ H3.out.2.2.1 (.inl (lt_of_some HW0.out.2.1))⟩⟩
            rw [HT1.out]
            exact set_blk (set_blk H5.out.1 0 _) 1 _
        · have HX3 := Lib.hid hJx3
          clear hJx3
          gi_wp2
          go_end0
          exact ⟨⟨_, rfl⟩, .inr ⟨_, HPF.out, HX3.out⟩⟩
      · have q0 : hEq 0 0 0 0 = true := hEq_true rfl rfl
        rw [hlk, hd_none] at HBEK
        rw [hup, hd_some hxt] at HPAK
        clear hm hml hend hgo e hpf hcr hrest hxt hxtl hlk hup
        gi_wp2
        refine hR.mono ?_
        rintro e W3 (⟨rfl, hJ3, hk3⟩ | ⟨rfl, hJx3⟩)
        · have hbx3 := hk3.box _ _ _ _ (.inl rfl) hw.out.box
          have hbt3 := hk3.box _ _ _ _ (.inr rfl) hw.out.bt
          have hbh3 := hk3.box _ _ _ _ (.inl rfl) hw.out.bh
          have HLO3 := Lib.hid (hw.out.low.trans hk3.below)
          have H3 := Lib.hid (And.intro hbx3 (And.intro hbt3 (And.intro hbh3 hJ3)))
          have HNW3 : Hid (W.heap.size ≤ W3.heap.size) := Lib.hid (Nat.le_trans hw.out.new.2 hk3.below.size)
          have y0 := cell_blk hbx3 0 rfl
          have y1 := cell_blk hbx3 1 rfl
          have t0 := cell_blk hbt3 0 rfl
          have r0 := cell_blk hbh3 0 rfl
          have r1 := cell_blk hbh3 1 rfl
          rw [HE.out] at y0 y1
          clear hbx3 hbt3 hbh3 hJ3 hk3
          gi_wp2_with (refine ⟨trivial, ?_⟩; first | (gi_at_call 59; refine (callsIn_wide.2 (HBEK.out W3 HLO3.out)).mono ?_; rintro e w4 ⟨rfl, b4⟩; have hbt4 := (b4.block _ (lt_of_some H3.out.2.1)).trans H3.out.2.1; have t4 := cell_blk hbt4 0 rfl; have l4 := lt_of_some hbt4; have hbx4 := (b4.block _ (lt_of_some H3.out.1)).trans H3.out.1; have s0 := cell_blk hbx4 0 rfl; have s1 := cell_blk hbx4 1 rfl; rw [HE.out] at s0 s1; have l5 := lt_of_some hbx4; have H4 := Lib.hid b4; have n0 := (HZ.out.below (HLO3.out.trans (b4.mono HLO3.out.size))).a; have n1 := (HZ.out.below (HLO3.out.trans (b4.mono HLO3.out.size))).b; have nl := cell_lt n0; clear b4 hbt4 hbx4) | (gi_at_call 54; refine (callsIn_wide.2 (HPAK.out _ ((HLO3.out.trans (H4.out.mono HLO3.out.size)).alloc (Nat.le_trans HLO3.out.size H4.out.size) _))).mono ?_; rintro e w5 ⟨rfl, b5⟩; have hb35 := (H4.out.alloc H4.out.size _).trans (b5.mono (H4.out.alloc H4.out.size _).size); have hbx5 := (hb35.block _ (lt_of_some H3.out.1)).trans H3.out.1; have f0 := free_blk hbx5 0; have f1 := free_blk hbx5 1; have z0 := cell_blk hbx5 0 rfl; have z1 := cell_blk hbx5 1 rfl; have lz := lt_of_some hbx5; have H5 := Lib.hid (And.intro hbx5 hb35); clear hbx5 hb35 b5))
          gi_roundg (rest'.length + 1)
          case measure => exact HM.out
          case rel =>
            have frt : ∀ u v, FrT [31] W.heap.size W3 ((w5.setCell ⟨w2.heap.size, 0, none⟩ u).setCell ⟨w2.heap.size, 1, none⟩ v) := fun u v => ((FrT.of_below H5.out.2).set (a := ⟨w2.heap.size, 0, none⟩) HNW.out H5.out.1 (List.mem_singleton.2 rfl) u).set (a := ⟨w2.heap.size, 1, none⟩) HNW.out (set_blk H5.out.1 0 u) (List.mem_singleton.2 rfl) v
            have hlo : ∀ u v, Below w0.heap.size w0 ((w5.setCell ⟨w2.heap.size, 0, none⟩ u).setCell ⟨w2.heap.size, 1, none⟩ v) := fun u v => by
              have h1 := HW0.out.2.2.1.size
              have h2 := HNW.out
              have h3 := HLO3.out.size
              exact ((HLO3.out.trans (H5.out.2.mono h3)).setCell (by show w0.heap.size ≤ w2.heap.size; omega) u).setCell (by show w0.heap.size ≤ w2.heap.size; omega) v
            refine ⟨pre ++ [cur], t, rest', Lib.hid ⟨rfl, HALL.out, HJ.out _ W3 _ H3.out.2.2.2 (frt _ _), hlo _ _, ⟨HNW.out, by simp; exact Nat.le_trans HNW3.out H5.out.2.size⟩, ?_, (frt _ _).block _ _ H3.out.2.1 (.inr (fun e he => by cases he; decide)), (frt _ _).block _ _ H3.out.2.2.1 (.inl (lt_of_some HW0.out.2.1))⟩⟩
            rw [HT1.out]
            exact set_blk (set_blk H5.out.1 0 _) 1 _
        · have HX3 := Lib.hid hJx3
          clear hJx3
          gi_wp2
          go_end0
          exact ⟨⟨_, rfl⟩, .inr ⟨_, HPF.out, HX3.out⟩⟩
end
end Go.Proofs.YtelhnaphkbpakaaDoor

