/- Part 23 of the proof of RoP: lemmas. -/
import Derived.Sort.LoopGhostIn
import Derived.Test.YtelhnaphkbpakaaDoorMr22
namespace Go.Proofs.YtelhnaphkbpakaaDoor
open Go.RowKit Go.Shelf
attribute [local go_sem] Oper.semAt_some
set_option linter.unusedVariables false
set_option maxRecDepth 100000
structure KpD (n0 : Nat) (W W' : World) : Prop where
  below : Below n0 W W'
  box : ∀ (k : Nat) (c : Array Value) (t : TypeId) (fz : Nat × Nat), t = 31 ∨ t = 25 → W.heap[k]? = some (.cells c t fz) → W'.heap[k]? = some (.cells c t fz)
theorem KpD.trans {n0 : Nat} {A B C : World} (h : KpD n0 A B) (k : KpD n0 B C) : KpD n0 A C := ⟨h.below.trans k.below, fun i c t fz ht e => k.box i c t fz ht (h.box i c t fz ht e)⟩
theorem kpD_b {n0 : Nat} {w : World} (hn : n0 ≤ w.heap.size) (W : World) (l : Nat) (o o' : Obj) (hl : w.heap.size ≤ l) (h : W.heap[l]? = some o) (h1 : o.isCells = false) (h2 : o.isWalk = false) : KpD n0 W (W.putObj l o') :=
  ⟨belowK_b hn W l o o' hl h h1 h2, fun k c t fz _ e => (World.putObj_heap_other (fun e1 => by subst e1; rw [h] at e; cases e; cases h1)).trans e⟩
def encK (F : For) (k : Nat) : Array Value := #[.agg #[.int .u32 ((hd F (some k)).1 : Int), .int .u32 ((hd F (some k)).2 : Int)]]
theorem preD_live {F : For} (ok : FOk F) : ∀ r, r < F.length → (∃ x : FN, F[r]? = some x ∧ x.live = true) → ∀ m ∈ preD F r, ∃ x : FN, F[m]? = some x ∧ x.live = true := by
  refine ok.kids_ind (fun r hr ih hl m hm => ?_)
  rw [preD_eq ok hr] at hm
  rcases List.mem_cons.1 hm with rfl | hm
  · exact hl
  · obtain ⟨c, hc, hm⟩ := List.mem_flatMap.1 hm
    refine ih c hc ?_ m hm
    obtain ⟨y, hy, _⟩ := hl
    have hc2 : c ∈ y.down := by unfold dnOf at hc; rw [show (some r).bind (fun k => F[k]?) = some y from hy] at hc; exact hc
    obtain ⟨x, hx, _, hxl⟩ := ok.dn r y hy c hc2
    exact ⟨x, hx, hxl⟩
structure DnR (F : For) (L : List Nat) (n0 B0 Bt Bh tb sr gr : Nat) (w0 : World) (J : List Nat → World → Prop) (n : Nat) (W : World) (b : Nat) (pre rest : List Nat) : Prop where
  len : rest.length = n
  all : L = pre ++ rest
  j : J pre W
  low : Below w0.heap.size w0 W
  new : B0 ≤ b ∧ B0 ≤ W.heap.size
  box : W.heap[b]? = some (.cells #[.int .u32 ((hd F rest.head?).1 : Int), .int .u32 ((hd F rest.head?).2 : Int)] 31 (0, 0))
  bt : W.heap[Bt]? = some (.cells #[.pointer (some ⟨tb, 0, none⟩)] 25 (0, 0))
  bh : W.heap[Bh]? = some (.cells #[.int .u32 (sr : Int), .int .u32 (gr : Int)] 31 (0, 0))
section
variable {B : Nat} {Q : Nat → Prop} {w w0 : World} {tb : Nat} {X : TX}
set_option maxHeartbeats 8000000 in
theorem down1_seq (h : TreeAt B Q w0 tb X) (hz : NoneAt w0) {r : Nat} {xr : FN} (hr : X.F[r]? = some xr) (hrl : xr.live = true) (n : Nat) (hn : 1 ≤ n) {Bt Bh : Nat} (hB : Below w0.heap.size w0 w)
    (hBt : w.heap[Bt]? = some (.cells #[.pointer (some ⟨tb, 0, none⟩)] 25 (0, 0))) (hBh : w.heap[Bh]? = some (.cells #[.int .u32 (xr.sl : Int), .int .u32 (xr.gn : Int)] 31 (0, 0))) :
    SeqT [31] Fence.wide n Tryd.prog 56 #[.pointer (some ⟨Bt, 0, none⟩), .pointer (some ⟨Bh, 0, none⟩)] (encK X.F) (KpD w0.heap.size) (preD X.F r) w := by
  intro l J Jx W hW hJ hJx hY h0
  have ok := h.fok
  have hrlen := (List.getElem?_eq_some_iff.1 hr).1
  obtain ⟨nba, Pa, hma, hata, hsla, hs2a, hg2a⟩ := h.rw.at_live hr hrl
  have HT := Lib.hid h
  have HZ := Lib.hid hz
  have HY := Lib.hid hY
  have HJ := Lib.hid hJ
  have HLV : Hid (∀ m ∈ preD X.F r, ∃ x : FN, X.F[m]? = some x ∧ x.live = true) := Lib.hid (preD_live ok r hrlen ⟨xr, hr, hrl⟩)
  have HNEXT : Hid (∀ pre k rest, preD X.F r = pre ++ k :: rest → ∃ xk l, X.F[k]? = some xk ∧ xk.live = true ∧ Chain X.F k l ∧ rest.head? = stepO X.F r k l) := Lib.hid (fun pre k rest e => by
    obtain ⟨xk, hk, hkl⟩ := HLV.out k (by rw [e]; simp)
    obtain ⟨l, hl⟩ := ok.acyc k xk hk
    exact ⟨xk, l, hk, hkl, hl, step_next ok r hrlen e hl⟩)
  have HLI : Hid (∀ W1 gb, Below w0.heap.size w0 W1 → HRow W1 gb [(xr.sl, xr.gn)] → Calls Tryd.prog 40 #[.pointer (some ⟨tb, 0, none⟩), .slice (some ⟨gb, 0, none⟩) 1 1] W1 fun e w' => e = .returned (.int .i64 0) ∧ Below W1.heap.size W1 w') := Lib.hid (fun W1 gb b hr1 => lives_calls (h.rw.below b) hr1 (by simp) (.inl ⟨rfl, by
    intro p hp
    obtain rfl := List.mem_singleton.1 hp
    exact ⟨r, xr, hr, hrl, rfl, rfl⟩⟩))
  have HHR : Hid (∀ W1 gb, W1.heap[gb]? = some (.cells #[.int .u32 (xr.sl : Int), .int .u32 (xr.gn : Int)] 31 (0, 0)) → HRow W1 gb [(xr.sl, xr.gn)]) := Lib.hid (fun W1 gb hgb => ⟨fun j p hp => by
    match j, hp with
    | 0, hp => cases hp; exact ⟨cell_blk hgb 0 rfl, cell_blk hgb 1 rfl⟩
    | j + 1, hp => simp at hp, by
    intro p hp
    obtain rfl := List.mem_singleton.1 hp; exact ⟨by simp only; omega, by simp only; omega⟩⟩)
  have HST : Hid (∀ W1, Below w0.heap.size w0 W1 → ∀ k xk l, X.F[k]? = some xk → xk.live = true → Chain X.F k l → Calls Tryd.prog 48 #[.pointer (some ⟨tb, 0, none⟩), .agg #[.int .u32 (xk.sl : Int), .int .u32 (xk.gn : Int)], .agg #[.int .u32 (xr.sl : Int), .int .u32 (xr.gn : Int)]] W1 fun e w' => e = .returned (.agg #[.int .u32 ((hd X.F (stepO X.F r k l)).1 : Int), .int .u32 ((hd X.F (stepO X.F r k l)).2 : Int)]) ∧ Below W1.heap.size W1 w') := Lib.hid (fun W1 b k xk l hk hkl hl => stepT_calls (h.below b) (hz.below b) hk hkl hr hrl hl)
  have hhead : (preD X.F r).head? = some r := by obtain ⟨t, ht⟩ := preD_head ok hrlen; rw [ht]; rfl
  have HHD : Hid (hd X.F (preD X.F r).head? = (xr.sl, xr.gn)) := Lib.hid (by rw [hhead]; exact hd_some hr)
  have bt0 := (hW.block _ (lt_of_some hBt)).trans hBt
  have bh0 := (hW.block _ (lt_of_some hBh)).trans hBh
  have bW := hB.trans (hW.mono hB.size)
  have HW0 := Lib.hid (And.intro bt0 (And.intro bh0 (And.intro bW h0)))
  have HRB : Hid (xr.sl ≤ 4294967295 ∧ 1 ≤ xr.sl) := Lib.hid ⟨by omega, by omega⟩
  have c0 := cell_blk bt0 0 rfl
  have c1 := cell_blk bh0 0 rfl
  have c2 := cell_blk bh0 1 rfl
  have lbt := lt_of_some bt0
  have lbh := lt_of_some bh0
  simp at c0 c1 c2
  clear h hz hr hrl hB hBt hBh hW hJ hJx hY h0 hma hata hsla hs2a hg2a ok hhead bt0 bh0 bW
  generalize xr.sl = sr at *
  generalize xr.gn = gr at *
  have hro : Fence.wide.round = none := rfl
  refine callsIn_of_wp Tryd.func56 rfl trivial ?_ rfl
  simp only [Tryd.ntmps56, List.size_toArray, List.length_cons, List.length_nil, Nat.reduceAdd, Nat.reduceSub, Array.replicate_succ, Array.replicate_zero, List.push_toArray, List.append_toArray, List.nil_append, List.cons_append]
  have HLC : Hid (Calls Tryd.prog 40 #[.pointer (some ⟨tb, 0, none⟩), .slice (some ⟨W.heap.size, 0, none⟩) 1 1] (W.alloc (.cells #[.int .u32 (sr : Int), .int .u32 (gr : Int)] 31)) fun e w' => e = .returned (.int .i64 0) ∧ Below (W.alloc (.cells #[.int .u32 (sr : Int), .int .u32 (gr : Int)] 31)).heap.size (W.alloc (.cells #[.int .u32 (sr : Int), .int .u32 (gr : Int)] 31)) w') := Lib.hid (HLI.out _ _ (HW0.out.2.2.1.alloc HW0.out.2.2.1.size _) (HHR.out _ _ (Go.heap_alloc_new W _)))
  gi_wp2_with (refine ⟨trivial, ?_⟩; gi_at_call 40; refine (callsIn_wide.2 HLC.out).mono ?_; rintro e w1 ⟨rfl, b1⟩; have HB1 := Lib.hid (((Below.refl W.heap.size W).alloc (Nat.le_refl _) _).trans (b1.mono ((Below.refl W.heap.size W).alloc (Nat.le_refl _) _).size)); have d0 := (HB1.out.cell (p := ⟨Bh, 0, none⟩) lbh).trans c1; have d1 := (HB1.out.cell (p := ⟨Bh, 1, none⟩) lbh).trans c2; clear b1)
  have HN0 : Hid (∀ W1, Below w0.heap.size w0 W1 → NoneAt W1) := Lib.hid (fun W1 b => HZ.out.below b)
  clear d0 d1 c0 c1 c2 lbt lbh
  gi_loopg [4] (preD X.F r).length (fun n v wr => ∃ (b : Nat) (pre rest : List Nat), v = .pointer (some ⟨b, 0, none⟩) ∧ Hid (DnR X.F (preD X.F r) w0.heap.size W.heap.size Bt Bh tb sr gr w0 J n wr b pre rest))
  case atStart =>
    have hbel : Below W.heap.size W (w1.alloc (.cells #[.int .u32 (sr : Int), .int .u32 (gr : Int)] 31)) := HB1.out.alloc HB1.out.size _
    exact ⟨w1.heap.size, [], preD X.F r, rfl, Lib.hid ⟨rfl, rfl, HJ.out [] W _ HW0.out.2.2.2 (FrT.of_below hbel), HW0.out.2.2.1.trans (hbel.mono HW0.out.2.2.1.size), ⟨HB1.out.size, hbel.size⟩, by rw [HHD.out]; exact Go.heap_alloc_new w1 _, (hbel.block _ (lt_of_some HW0.out.1)).trans HW0.out.1, (hbel.block _ (lt_of_some HW0.out.2.1)).trans HW0.out.2.1⟩⟩
  case round =>
    obtain ⟨b, pre, rest, rfl, hw⟩ := hrel
    have x0 := cell_blk hw.out.box 0 rfl
    have x1 := cell_blk hw.out.box 1 rfl
    have n0 := (HN0.out wr hw.out.low).a
    have n1 := (HN0.out wr hw.out.low).b
    cases rest with
    | nil =>
      replace x0 : wr.cell? ⟨b, 0, none⟩ = some (.int .u32 0) := x0
      replace x1 : wr.cell? ⟨b, 1, none⟩ = some (.int .u32 0) := x1
      have q0 : hEq 0 0 0 0 = true := hEq_true rfl rfl
      have HE : Hid (J (preD X.F r) wr) := Lib.hid (by have := hw.out.all; rw [List.append_nil] at this; rw [this]; exact hw.out.j)
      gi_wp2
      refine ⟨fun _ h => (by cases h), ?_⟩
      gi_wp2
      go_end0
      exact ⟨⟨_, rfl⟩, .inl HE.out⟩
    | cons k rest' =>
      obtain ⟨xk, lk, hk, hkl, hlk, hnx⟩ := HNEXT.out pre k rest' hw.out.all
      obtain ⟨nb, P, hm, hat, hsl, hs2, hg2⟩ := HT.out.rw.at_live hk hkl
      have e := hd_some hk
      replace x0 : wr.cell? ⟨b, 0, none⟩ = some (.int .u32 (xk.sl : Int)) := by have := x0; rw [show hd X.F (k :: rest').head? = (xk.sl, xk.gn) from e] at this; exact this
      replace x1 : wr.cell? ⟨b, 1, none⟩ = some (.int .u32 (xk.gn : Int)) := by have := x1; rw [show hd X.F (k :: rest').head? = (xk.sl, xk.gn) from e] at this; exact this
      have q0 : hEq (xk.sl : Int) (xk.gn : Int) 0 0 = false := hEq_false (.inl (by omega))
      have hpf : pre ++ [k] <+: preD X.F r := ⟨rest', by rw [hw.out.all]; simp⟩
      obtain ⟨fn, tmps, assign, body, hy, hR⟩ := HY.out pre k wr hw.out.j hpf
      unfold encK at hy
      rw [e] at hy
      simp only at hy
      have HSTK : Hid (∀ W1, Below w0.heap.size w0 W1 → Calls Tryd.prog 48 #[.pointer (some ⟨tb, 0, none⟩), .agg #[.int .u32 (xk.sl : Int), .int .u32 (xk.gn : Int)], .agg #[.int .u32 (sr : Int), .int .u32 (gr : Int)]] W1 fun e w' => e = .returned (.agg #[.int .u32 ((hd X.F rest'.head?).1 : Int), .int .u32 ((hd X.F rest'.head?).2 : Int)]) ∧ Below W1.heap.size W1 w') := Lib.hid (fun W1 b => by rw [hnx]; exact HST.out W1 b k xk lk hk hkl hlk)
      have HALL : Hid (preD X.F r = (pre ++ [k]) ++ rest') := Lib.hid (by rw [hw.out.all]; simp)
      have HPF := Lib.hid hpf
      have HM : Hid (rest'.length < gk) := Lib.hid (by have := hw.out.len; rw [← this]; simp)
      have HE := Lib.hid e
      clear hk hkl hlk hnx e hm hat hsl hs2 hg2 hpf
      gi_wp2
      refine hR.mono ?_
      rintro e W3 (⟨rfl, hJ3, hk3⟩ | ⟨rfl, hJx3⟩)
      · have hbx3 := hk3.box _ _ _ _ (.inl rfl) hw.out.box
        have hbt3 := hk3.box _ _ _ _ (.inr rfl) hw.out.bt
        have hbh3 := hk3.box _ _ _ _ (.inl rfl) hw.out.bh
        have HLO3 := Lib.hid (hw.out.low.trans hk3.below)
        have H3 := Lib.hid (And.intro hbx3 (And.intro hbt3 (And.intro hbh3 hJ3)))
        have y0 := cell_blk hbx3 0 rfl
        have y1 := cell_blk hbx3 1 rfl
        have t0 := cell_blk hbt3 0 rfl
        have r0 := cell_blk hbh3 0 rfl
        have r1 := cell_blk hbh3 1 rfl
        rw [show hd X.F (k :: rest').head? = (xk.sl, xk.gn) from HE.out] at y0 y1
        have hn1 := hw.out.new
        have HNW := Lib.hid hn1
        have HNW3 : Hid (W.heap.size ≤ W3.heap.size) := Lib.hid (Nat.le_trans hn1.2 hk3.below.size)
        clear hbx3 hbt3 hbh3 hJ3 hk3 hn1
        gi_wp2_with (refine ⟨trivial, ?_⟩; gi_at_call 48; refine (callsIn_wide.2 (HSTK.out W3 HLO3.out)).mono ?_; rintro e w4 ⟨rfl, b4⟩; have hbx4 := (b4.block _ (lt_of_some H3.out.1)).trans H3.out.1; have z0 := cell_blk hbx4 0 rfl; have z1 := cell_blk hbx4 1 rfl; have f0 := free_blk hbx4 0; have f1 := free_blk hbx4 1; have lz := lt_of_some hbx4; have H4 := Lib.hid (And.intro hbx4 b4); clear hbx4 b4)
        gi_roundg rest'.length
        case measure => exact HM.out
        case rel =>
          have frt : ∀ u v c, FrT [31] W.heap.size W3 (((w4.setCell ⟨b, 0, none⟩ u).setCell ⟨b, 1, none⟩ v).alloc c) := fun u v c => (((FrT.of_below H4.out.2).set (a := ⟨b, 0, none⟩) HNW.out.1 H4.out.1 (List.mem_singleton.2 rfl) u).set (a := ⟨b, 1, none⟩) HNW.out.1 (set_blk H4.out.1 0 u) (List.mem_singleton.2 rfl) v).alloc c
          have hlo : ∀ u v c, Below w0.heap.size w0 (((w4.setCell ⟨b, 0, none⟩ u).setCell ⟨b, 1, none⟩ v).alloc c) := fun u v c => by
            have h1 := HW0.out.2.2.1.size
            have h2 := HNW.out.1
            have h3 := HLO3.out.size
            have h4 := H4.out.2.size
            exact (((HLO3.out.trans (H4.out.2.mono h3)).setCell (by show w0.heap.size ≤ b; omega) u).setCell (by show w0.heap.size ≤ b; omega) v).alloc (by simp; omega) c
          refine ⟨w4.heap.size, pre ++ [k], rest', rfl, Lib.hid ⟨rfl, HALL.out, HJ.out _ W3 _ H3.out.2.2.2 (frt _ _ _), hlo _ _ _, ⟨?_, ?_⟩, ?_, (frt _ _ _).block _ _ H3.out.2.1 (.inr (fun e he => by cases he; decide)), (frt _ _ _).block _ _ H3.out.2.2.1 (.inl (lt_of_some HW0.out.2.1))⟩⟩
          · exact Nat.le_trans HNW3.out H4.out.2.size
          · simp
            have := HNW3.out
            have := H4.out.2.size
            omega
          · have := Go.heap_alloc_new ((w4.setCell ⟨b, 0, none⟩ (.int .u32 ((hd X.F rest'.head?).1 : Int))).setCell ⟨b, 1, none⟩ (.int .u32 ((hd X.F rest'.head?).2 : Int))) (.cells #[.int .u32 ((hd X.F rest'.head?).1 : Int), .int .u32 ((hd X.F rest'.head?).2 : Int)] 31)
            simpa using this
      · have HX3 := Lib.hid hJx3
        clear hJx3
        gi_wp2
        go_end0
        exact ⟨⟨_, rfl⟩, .inr ⟨_, HPF.out, HX3.out⟩⟩
end
theorem downT_calls (w : World) (o : Option Addr) (s g : Int) :
    Calls Tryd.prog 26 #[.pointer o, .agg #[.int .u32 s, .int .u32 g]] w fun e w' => e = .returned (.func (.func 56) #[] #[.pointer (some ⟨w.heap.size, 0, none⟩), .pointer (some ⟨w.heap.size + 1, 0, none⟩)]) ∧ w' = (w.alloc (.cells #[.pointer o] 25)).alloc (.cells #[.int .u32 s, .int .u32 g] 31) := by
  go_enter Tryd.func26, Tryd.ntmps26
  go_wp2
  go_ret
  exact ⟨rfl, rfl⟩
theorem FrT.lowB {T : List TypeId} {B n : Nat} {A C : World} (f : FrT T B A C) (hn : n ≤ B) (hA : n ≤ A.heap.size) : Below n A C :=
  ⟨f.os, f.tape, f.output, f.size, fun k hk => by
    have e : A.heap[k]? = some A.heap[k] := Array.getElem?_eq_getElem (by omega)
    rw [e]; exact f.block k _ e (.inl (by omega))⟩
section
variable {B : Nat} {Q : Nat → Prop} {w : World} {tb : Nat} {X : TX}
end
end Go.Proofs.YtelhnaphkbpakaaDoor
