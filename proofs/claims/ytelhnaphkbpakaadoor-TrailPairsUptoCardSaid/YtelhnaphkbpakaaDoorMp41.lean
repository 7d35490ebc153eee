/- Part 41 of the proof of TpP: lemmas. -/
import Derived.Sort.LoopGhostIn
import Derived.OrdersHeld
import Derived.Deep.RegionHeld
import Derived.Test.YtelhnaphkbpakaaDoorMp40
namespace Go.Proofs.YtelhnaphkbpakaaDoor
open Go.RowKit
set_option linter.unusedVariables false
set_option maxRecDepth 100000
section
variable {B : Nat} {Q : Nat → Prop} {w w' : World} {tb : Nat} {X : TX} {Lf : Nat → Nat → Nat × Nat}
theorem lives2_calls (h : TreeRw B Q w tb X Lf) {ka kb : Nat} {xa xb : FN} (ha : X.F[ka]? = some xa) (hal : xa.live = true) (hb : X.F[kb]? = some xb) (hbl : xb.live = true) {gb : Nat} (hgb : w.heap[gb]? = some (.cells #[.int .u32 (xa.sl : Int), .int .u32 (xa.gn : Int), .int .u32 (xb.sl : Int), .int .u32 (xb.gn : Int)] 31 (0, 0))) :
    Calls Tryd.prog 40 #[.pointer (some ⟨tb, 0, none⟩), .slice (some ⟨gb, 0, none⟩) 2 2] w fun e w' => e = .returned (.int .i64 0) ∧ Below w.heap.size w w' := by
  obtain ⟨nba, Pa, hma, hata, hsla, hs2a, hg2a⟩ := h.at_live ha hal
  obtain ⟨nbb, Pb, hmb, hatb, hslb, hs2b, hg2b⟩ := h.at_live hb hbl
  have hr : HRow w gb [(xa.sl, xa.gn), (xb.sl, xb.gn)] := ⟨fun j p hp => by
    match j, hp with
    | 0, hp => cases hp; exact ⟨cell_blk hgb 0 rfl, cell_blk hgb 1 rfl⟩
    | 1, hp => cases hp; exact ⟨cell_blk hgb 2 rfl, cell_blk hgb 3 rfl⟩
    | j + 2, hp => simp at hp, by
    intro p hp
    rcases List.mem_cons.1 hp with rfl | hp
    · exact ⟨by simp only; omega, by simp only; omega⟩
    · obtain rfl := List.mem_singleton.1 hp; exact ⟨by simp only; omega, by simp only; omega⟩⟩
  exact lives_calls h hr (by simp) (.inl ⟨rfl, by
    intro p hp
    rcases List.mem_cons.1 hp with rfl | hp
    · exact ⟨ka, xa, ha, hal, rfl, rfl⟩
    · obtain rfl := List.mem_singleton.1 hp; exact ⟨kb, xb, hb, hbl, rfl, rfl⟩⟩)
end
section
variable {B : Nat} {Q : Nat → Prop} {w w' : World} {tb : Nat} {X : TX}
set_option maxHeartbeats 4000000 in
theorem containsT_calls (h : TreeAt B Q w tb X) (hz : NoneAt w) {ka kb : Nat} {xa xb : FN} (ha : X.F[ka]? = some xa) (hal : xa.live = true) (hb : X.F[kb]? = some xb) (hbl : xb.live = true) {cb : List Nat} (hcb : Chain X.F kb (kb :: cb)) :
    Calls Tryd.prog 14 #[.pointer (some ⟨tb, 0, none⟩), .agg #[.int .u32 (xa.sl : Int), .int .u32 (xa.gn : Int)], .agg #[.int .u32 (xb.sl : Int), .int .u32 (xb.gn : Int)]] w fun e w' => e = .returned (.tuple #[.bool (decide (ka ∈ kb :: cb)), .int .i64 0]) ∧ Below w.heap.size w w' := by
  have HL2 : Hid (∀ W gb, Below w.heap.size w W → W.heap[gb]? = some (.cells #[.int .u32 (xa.sl : Int), .int .u32 (xa.gn : Int), .int .u32 (xb.sl : Int), .int .u32 (xb.gn : Int)] 31 (0, 0)) → Calls Tryd.prog 40 #[.pointer (some ⟨tb, 0, none⟩), .slice (some ⟨gb, 0, none⟩) 2 2] W fun e w' => e = .returned (.int .i64 0) ∧ Below W.heap.size W w') := Lib.hid (fun W gb b hgb => lives2_calls (h.rw.below b) ha hal hb hbl hgb)
  have HH2 : Hid (∀ W, Below w.heap.size w W → Calls Tryd.prog 44 #[.pointer (some ⟨tb, 0, none⟩), .agg #[.int .u32 (xa.sl : Int), .int .u32 (xa.gn : Int)], .agg #[.int .u32 (xb.sl : Int), .int .u32 (xb.gn : Int)]] W fun e w' => e = .returned (.bool (decide (ka ∈ cb))) ∧ Below W.heap.size W w') := Lib.hid (fun W b => hasT_calls (h.below b) (hz.below b) ha hal hb hbl hcb)
  have hE := h.rw.hd_inj ⟨xa, ha, hal⟩ ⟨xb, hb, hbl⟩
  rw [hd_some ha, hd_some hb] at hE
  simp only at hE
  have HE : Hid (hEq (xa.sl : Int) (xa.gn : Int) (xb.sl : Int) (xb.gn : Int) = decide (ka = kb)) := Lib.hid hE
  obtain ⟨r, hr⟩ : ∃ r, r = decide (ka ∈ kb :: cb) := ⟨_, rfl⟩
  rw [← hr]
  have HR := Lib.hid hr
  clear h hz ha hal hb hbl hcb hE hr
  generalize xa.sl = sa at *
  generalize xa.gn = ga at *
  generalize xb.sl = sb at *
  generalize xb.gn = gb at *
  obtain ⟨V, hV⟩ : ∃ V, V = ((w.alloc (.cells #[.int .u32 (sa : Int), .int .u32 (ga : Int)] 31)).alloc (.cells #[.int .u32 (sb : Int), .int .u32 (gb : Int)] 31)).alloc (.cells #[.int .u32 (sa : Int), .int .u32 (ga : Int), .int .u32 (sb : Int), .int .u32 (gb : Int)] 31) := ⟨_, rfl⟩
  have bV : Below w.heap.size w V := by rw [hV]; exact alloc3_lo _ _ _ _
  have hx := alloc3_bt w (.cells #[.int .u32 (sa : Int), .int .u32 (ga : Int)] 31) (.cells #[.int .u32 (sb : Int), .int .u32 (gb : Int)] 31) (.cells #[.int .u32 (sa : Int), .int .u32 (ga : Int), .int .u32 (sb : Int), .int .u32 (gb : Int)] 31)
  rw [← hV] at hx
  have HX := Lib.hid (And.intro hx bV)
  have hV2 := hV
  clear hV hx bV
  go_enter Tryd.func14, Tryd.ntmps14
  go_wp2_with fail
  rw [← hV2]
  clear hV2
  by_cases e : ka = kb
  · have q : hEq (sa : Int) (ga : Int) (sb : Int) (gb : Int) = true := by rw [HE.out]; exact decide_eq_true e
    have HRR : Hid (r = true) := Lib.hid (by rw [HR.out]; exact decide_eq_true (by rw [e]; simp))
    clear e HE
    go_wp2_with (go_at_call 40; refine (HL2.out V _ HX.out.2 HX.out.1.2.2).mono ?_; rintro e w1 ⟨rfl, b1⟩; have HB1 := Lib.hid (HX.out.2.trans (b1.mono HX.out.2.size)); have h1 := (b1.block _ (lt_of_some HX.out.1.1)).trans HX.out.1.1; have h2 := (b1.block _ (lt_of_some HX.out.1.2.1)).trans HX.out.1.2.1; have c0 := cell_blk h1 0 rfl; have c1 := cell_blk h1 1 rfl; have c2 := cell_blk h2 0 rfl; have c3 := cell_blk h2 1 rfl; clear b1 h1 h2)
    go_ret2
    exact ⟨by rw [HRR.out]; rfl, HB1.out⟩
  · have q : hEq (sa : Int) (ga : Int) (sb : Int) (gb : Int) = false := by rw [HE.out]; exact decide_eq_false e
    have HRR : Hid (r = decide (ka ∈ cb)) := Lib.hid (by rw [HR.out]; simp [e])
    clear e HE
    go_wp2_with (first | (go_at_call 40; refine (HL2.out V _ HX.out.2 HX.out.1.2.2).mono ?_; rintro e w1 ⟨rfl, b1⟩; have HB1 := Lib.hid (HX.out.2.trans (b1.mono HX.out.2.size)); have h1 := (b1.block _ (lt_of_some HX.out.1.1)).trans HX.out.1.1; have h2 := (b1.block _ (lt_of_some HX.out.1.2.1)).trans HX.out.1.2.1; have c0 := cell_blk h1 0 rfl; have c1 := cell_blk h1 1 rfl; have c2 := cell_blk h2 0 rfl; have c3 := cell_blk h2 1 rfl; clear b1 h1 h2) | (go_at_call 44; refine (HH2.out _ HB1.out).mono ?_; rintro e w2 ⟨rfl, b2⟩; have HB2 := Lib.hid (HB1.out.trans (b2.mono HB1.out.size)); clear b2))
    go_ret2
    exact ⟨by rw [HRR.out]; rfl, HB2.out⟩
end
section
variable {B : Nat} {Q : Nat → Prop} {w w' : World} {tb : Nat} {X : TX}
set_option maxHeartbeats 4000000 in
theorem depthT_calls (h : TreeAt B Q w tb X) {k r : Nat} {xk xr : FN} (hk : X.F[k]? = some xk) (hkl : xk.live = true) (hr : X.F[r]? = some xr) (hrl : xr.live = true) {p q : List Nat} (hc : Chain X.F k (p ++ r :: q)) :
    Calls Tryd.prog 47 #[.pointer (some ⟨tb, 0, none⟩), .agg #[.int .u32 (xk.sl : Int), .int .u32 (xk.gn : Int)], .agg #[.int .u32 (xr.sl : Int), .int .u32 (xr.gn : Int)]] w fun e w' => e = .returned (.int .i64 (p.length : Int)) ∧ Below w.heap.size w w' := by
  have HT := Lib.hid h
  have ok := Lib.hid h.fok
  have hbig := h.rw.big
  have hlen := hc.len
  have HN := Lib.hid hc.nodup
  have hpl : p.length < X.F.length := by simp at hlen; omega
  have H0 := Lib.hid (And.intro hk (And.intro hkl hc))
  have HIN : Hid (∀ m xm, X.F[m]? = some xm → xm.live = true → hEq (xm.sl : Int) (xm.gn : Int) (xr.sl : Int) (xr.gn : Int) = decide (m = r)) := Lib.hid (fun m xm h1 h2 => by
    have hE := h.rw.hd_inj ⟨xm, h1, h2⟩ ⟨xr, hr, hrl⟩
    rw [hd_some h1, hd_some hr] at hE
    exact hE)
  obtain ⟨n, hn⟩ : ∃ n, n = p.length := ⟨_, rfl⟩
  rw [← hn] at hpl ⊢
  have HPN := Lib.hid hn
  clear h hk hkl hr hrl hc hlen hn
  obtain ⟨s, hs⟩ : ∃ s, s = xk.sl := ⟨_, rfl⟩
  obtain ⟨g, hg⟩ : ∃ s, s = xk.gn := ⟨_, rfl⟩
  rw [← hs, ← hg]
  have HS := Lib.hid (And.intro hs hg)
  clear hs hg
  generalize xr.sl = sr at *
  generalize xr.gn = gr at *
  have HA := Lib.hid (And.intro (alloc_blk (Go.heap_alloc_new w (.cells #[.int .u32 (s : Int), .int .u32 (g : Int)] 31)) (.cells #[.int .u32 (sr : Int), .int .u32 (gr : Int)] 31)) (And.intro (alloc2_blk w (.cells #[.int .u32 (s : Int), .int .u32 (g : Int)] 31) (.cells #[.int .u32 (sr : Int), .int .u32 (gr : Int)] 31)) (((Below.refl _ w).alloc (Nat.le_refl _) (.cells #[.int .u32 (s : Int), .int .u32 (g : Int)] 31)).alloc (by simp) (.cells #[.int .u32 (sr : Int), .int .u32 (gr : Int)] 31))))
  have WARM : True := trivial
  go_enter Tryd.func47, Tryd.ntmps47
  go_wp2_with fail
  go_loopg [7] n (fun m v wr => ∃ (j cur : Nat) (xc : FN), v = .int .i64 (j : Int) ∧ Hid (X.F[cur]? = some xc ∧ xc.live = true ∧ (∃ rest, Chain X.F cur (rest ++ r :: q) ∧ (rest ++ r :: q).Nodup ∧ rest.length = m) ∧ j + m = n ∧ Below w.heap.size w wr) ∧ wr.heap[w.heap.size]? = some (.cells #[.int .u32 (xc.sl : Int), .int .u32 (xc.gn : Int)] 31 (0, 0)) ∧ wr.heap[w.heap.size + 1]? = some (.cells #[.int .u32 (sr : Int), .int .u32 (gr : Int)] 31 (0, 0)))
  case atStart => exact ⟨0, k, xk, rfl, Lib.hid ⟨H0.out.1, H0.out.2.1, ⟨p, H0.out.2.2, HN.out, HPN.out.symm⟩, by omega, HA.out.2.2⟩, by rw [← HS.out.1, ← HS.out.2]; exact HA.out.1, HA.out.2.1⟩
  case round =>
    obtain ⟨j, cur, xc, rfl, hw, hx, hz⟩ := hrel
    have x0 := cell_blk hx 0 rfl
    have x1 := cell_blk hx 1 rfl
    have u0 := cell_blk hz 0 rfl
    have u1 := cell_blk hz 1 rfl
    have lx := lt_of_some hx
    have HY := Lib.hid (And.intro hx hz)
    have HLO := Lib.hid hw.out.2.2.2.2
    obtain ⟨rest, hch, hnd, hrl⟩ := hw.out.2.2.1
    have hsum := hw.out.2.2.2.1
    have hE := HIN.out cur xc hw.out.1 hw.out.2.1
    clear hx hz
    cases rest with
    | nil =>
      obtain ⟨t, ht⟩ := hch.ne_nil
      have hcr : cur = r := by simp at ht; exact ht.1.symm
      have hjn : j = n := by simp at hrl; omega
      rw [decide_eq_true hcr] at hE
      clear hch hnd ht hcr hrl
      subst hjn
      go_wp2_with fail
      try rw [Exit.noGoto_ret]
      go_ret
      exact ⟨rfl, HLO.out⟩
    | cons c rest' =>
      obtain ⟨t, ht⟩ := hch.ne_nil
      have hcc : c = cur := by simp at ht; exact ht.1
      subst hcc
      have hne : c ≠ r := by
        intro e
        subst e
        rw [List.cons_append, List.nodup_cons] at hnd
        exact hnd.1 (by simp)
      rw [decide_eq_false hne] at hE
      have hup : ∃ u, upOf X.F c = some u ∧ Chain X.F u (rest' ++ r :: q) := by
        generalize hl : c :: rest' ++ r :: q = L at hch
        cases hch with
        | root a b => simp at hl
        | up a b c' =>
          simp at hl
          refine ⟨_, by unfold upOf; rw [a]; exact b, ?_⟩
          rw [hl]; exact c'
      obtain ⟨u, hu, hcu⟩ := hup
      obtain ⟨xu, hxu, hxul⟩ := ok.out.up_live hu
      have HPA : Hid (∀ W, Below w.heap.size w W → Calls Tryd.prog 54 #[.pointer (some ⟨tb, 0, none⟩), .agg #[.int .u32 (xc.sl : Int), .int .u32 (xc.gn : Int)]] W fun e w' => e = .returned (.tuple #[.agg #[.int .u32 (xu.sl : Int), .int .u32 (xu.gn : Int)], .int .i64 0]) ∧ Below W.heap.size W w') := Lib.hid (fun W b => by
        have := parent_live (HT.out.rw.below b) hw.out.1 hw.out.2.1
        have e0 : toH X.F c 0 = (xu.sl, xu.gn) := by show hd X.F (upOf X.F c) = _; rw [hu]; exact hd_some hxu
        rw [e0] at this
        exact this)
      have HNX := Lib.hid (And.intro hxu (And.intro hxul (And.intro hcu (by rw [List.cons_append, List.nodup_cons] at hnd; exact hnd.2 : (rest' ++ r :: q).Nodup))))
      have HM : Hid (rest'.length < gk ∧ j + 1 + rest'.length = n) := Lib.hid (by simp at hrl; omega)
      have hjn : j < n := by simp at hrl; omega
      have wk : IntKind.i64.wrap ((j : Int) + 1) = (j : Int) + 1 := IntWalk.i64_in _ (by omega)
      clear hw hch hnd ht hne hu hcu hxu hxul hrl hsum
      go_wp2_with (go_at_call 54; refine (HPA.out _ HLO.out).mono ?_; rintro e w3 ⟨rfl, b3⟩; have HB3 := Lib.hid (HLO.out.trans (b3.mono HLO.out.size)); have h1 := (b3.block _ (lt_of_some HY.out.1)).trans HY.out.1; have h3 := (b3.block _ (lt_of_some HY.out.2)).trans HY.out.2; have d0 := free_blk h1 0; have d1 := free_blk h1 1; have d2 := cell_blk h1 0 rfl; have d3 := cell_blk h1 1 rfl; have dl := lt_of_some h1; have HX3 := Lib.hid (And.intro h1 h3); clear b3 h1 h3)
      have hne : w.heap.size + 1 ≠ w.heap.size := by omega
      go_roundg rest'.length
      case measure => exact HM.out.1
      case rel => exact ⟨j + 1, u, xu, by go_num, Lib.hid ⟨HNX.out.1, HNX.out.2.1, ⟨rest', HNX.out.2.2.1, HNX.out.2.2.2, rfl⟩, HM.out.2, (HB3.out.setCell (Nat.le_refl _) _).setCell (Nat.le_refl _) _⟩, set_blk (set_blk HX3.out.1 0 _) 1 _, by rw [heap_setCell_other _ _ _ _ hne, heap_setCell_other _ _ _ _ hne]; exact HX3.out.2⟩
end
end Go.Proofs.YtelhnaphkbpakaaDoor
namespace Go.Proofs.YtelhnaphkbpakaaDoor
open Go.RowKit
set_option linter.unusedVariables false
def AbideT {β : Type} (T : List TypeId) (B : Nat) (J : β → World → Prop) : Prop := ∀ s A C, J s A → FrT T B A C → J s C
def SeqT {α : Type} (T : List TypeId) (F : Fence) (n : Nat) (P : Program) (g : Nat) (lb : Array Value) (encs : α → Array Value) (Kp : World → World → Prop) (L : List α) (w : World) : Prop :=
  ∀ (l : Nat) (J Jx : List α → World → Prop) (W : World), Below w.heap.size w W → AbideT T W.heap.size J → AbideT T W.heap.size Jx →
    (∀ pre x W1, J pre W1 → pre ++ [x] <+: L → YieldAt F (n - 1) P l (encs x) W1 fun e W' => (e = .returned (.bool true) ∧ J (pre ++ [x]) W' ∧ Kp W1 W') ∨ (e = .returned (.bool false) ∧ Jx (pre ++ [x]) W')) →
    J [] W → CallsIn F n P g (#[.func (.yield l) #[] #[]] ++ lb) W fun e W' => (∃ v, e = .returned v) ∧ (J L W' ∨ ∃ pre, pre <+: L ∧ Jx pre W')
structure LoopAt (k : Nat) (r : Loop) (W : World) : Prop where
  d : W.heap[k]? = some (.deferred (some []))
  r : W.heap[k + 1]? = some (.loop r)
theorem LoopAt.lt {k : Nat} {r : Loop} {W : World} (h : LoopAt k r W) : k + 1 < W.heap.size := lt_of_some h.r
theorem LoopAt.frt {k B : Nat} {r : Loop} {T : List TypeId} {A C : World} (h : LoopAt k r A) (f : FrT T B A C) : LoopAt k r C :=
  ⟨f.block _ _ h.d (.inr (fun e he => by cases he)), f.block _ _ h.r (.inr (fun e he => by cases he))⟩
theorem LoopAt.from {k B : Nat} {r : Loop} {A C : World} (h : LoopAt k r A) (f : KeepsFrom B A C) (hB : B ≤ k) : LoopAt k r C :=
  ⟨f.same _ _ hB h.d rfl, f.same _ _ (Nat.le_succ_of_le hB) h.r rfl⟩
theorem LoopAt.put {k : Nat} {r : Loop} {A : World} (h : LoopAt k r A) (r' : Loop) : LoopAt k r' (A.putObj (k + 1) (.loop r')) :=
  ⟨(World.putObj_heap_other (by omega)).trans h.d, World.putObj_heap_same h.lt⟩
theorem range_T {F : Fence} {n : Nat} {P : Program} {α : Type} {g : Operand} {ps : Array Tmp} {assign body : Code} {Q : Exit → Act → World → Prop} {a : Act} {w : World} {T : List TypeId}
    (hro : F.round = none) (h1 : 1 ≤ n) {gf : Nat} {lb : Array Value} (hg : a.eval g = .func (.func gf) #[] lb) (hFg : F.fn gf) (eg : ∀ args w, (callFunc gf args).run P w = .ok (.enter gf args) w)
    {encs : α → Array Value} {Kp : World → World → Prop} {L : List α} {w0 : World} (hseq : SeqT T F (n - 1) P gf lb encs Kp L w0)
    (hKt : ∀ {A B C : World}, Kp A B → Kp B C → Kp A C) (hKb : ∀ (W : World) (k : Nat) (o o' : Obj), w.heap.size ≤ k → W.heap[k]? = some o → o.isCells = false → o.isWalk = false → Kp W (W.putObj k o')) (hb0 : Below w0.heap.size w0 w) (hps : ∀ x, (encs x).size = ps.size)
    (I : List α → World → Prop) (Ix : Code → List α → World → Prop) (hI : OwnFrom w.heap.size I) (hIx : ∀ c, OwnFrom w.heap.size (Ix c)) (hIT : AbideT T w.heap.size I) (hIxT : ∀ c, AbideT T w.heap.size (Ix c)) (h0 : I [] w) (a₁ : α → Act)
    (hassign : ∀ (l : Nat) (x : α) (W : World) (K : Act → World → Prop), K (a₁ x) W →
      assign.wpIn (F.inRound l) (n - 1 - 1) P (Exit.then K (fun _ _ _ => False)) { tmps := (ps.zip (encs x)).foldl (fun t (p, v) => t.setIfInBounds p v) a.tmps, defers := [] } W)
    (hbody : ∀ (l : Nat) (pre : List α) (x : α) (W : World), I pre W → pre ++ [x] <+: L → body.wpIn (F.inRound l) (n - 1 - 1) P (ownPostG w.heap.size Kp I Ix (pre ++ [x]) W) (a₁ x) W)
    (hdone : ∀ (D : Nat) (W : World), w.heap.size ≤ D → I L W → W.heap[D]? = some (.deferred (some [])) → Q .normal { a with defers := { target := .collected D, args := #[] } :: a.defers } W)
    (hstop : ∀ (D : Nat) (c : Code) (pre : List α) (W : World), w.heap.size ≤ D → pre <+: L → Ix c pre W → W.heap[D]? = some (.deferred (some [])) → c.wpIn F n P Q { a with defers := { target := .collected D, args := #[] } :: a.defers } W) :
    (Code.rangeFunc g ps assign body).wpIn F n P Q a w := by
  refine wpIn_rangeFunc (fun fn hfn => ?_)
  rw [hro]
  obtain ⟨mk, hmk⟩ : ∃ mk : LoopState → Option Code → Loop, mk = fun st pe => { state := st, pending := pe, fn, tmps := a.tmps, params := ps, assign, body, defers := w.heap.size } := ⟨_, rfl⟩
  have hms : ∀ st pe, (mk st pe).state = st ∧ (mk st pe).params = ps ∧ (mk st pe).pending = pe := fun st pe => by rw [hmk]; exact ⟨rfl, rfl, rfl⟩
  obtain ⟨k, hk⟩ : ∃ k, k = w.heap.size := ⟨_, rfl⟩
  obtain ⟨W1, hW1⟩ : ∃ W1, W1 = (w.alloc (.deferred (some []))).alloc (.loop (mk .ready none)) := ⟨_, rfl⟩
  have hL1 : LoopAt k (mk .ready none) W1 := by
    rw [hW1, hk]
    refine ⟨alloc_blk (World.alloc_heap_new w _) _, ?_⟩
    have := World.alloc_heap_new (w.alloc (.deferred (some []))) (.loop (mk .ready none))
    simpa using this
  have hs1 : W1.heap.size = k + 1 + 1 := by rw [hW1, hk]; simp
  have hI1 : I [] W1 := by rw [hW1]; exact hI.alloc _ (hI.alloc _ h0)
  have hb1 : Below w0.heap.size w0 W1 := by
    rw [hW1]
    exact hb0.trans ((((Below.refl _ w).alloc (Nat.le_refl _) _).alloc (by simp) _).mono hb0.size)
  have wide : ∀ {β : Type} {J : β → World → Prop}, AbideT T w.heap.size J → AbideT T W1.heap.size J := fun hJ s A C hs f => hJ s A C hs ⟨f.os, f.tape, f.output, f.size, fun b o hb ho => f.block b o hb (ho.imp (fun x => by omega) id)⟩
  have hputI : ∀ {s : List α} {A : World} {r r' : Loop}, I s A → LoopAt k r A → I s (A.putObj (k + 1) (.loop r')) := fun hs hl => hI.putObj _ hs (by omega) hl.r rfl
  have hputX : ∀ {c : Code} {s : List α} {A : World} {r r' : Loop}, Ix c s A → LoopAt k r A → Ix c s (A.putObj (k + 1) (.loop r')) := fun hs hl => (hIx _).putObj _ hs (by omega) hl.r rfl
  refine ⟨k + 1, [{ target := .collected k, args := #[] }], W1, { target := .fn (.func gf) lb, args := #[.func (.yield (k + 1)) #[] #[]] }, W1, gf, #[.func (.yield (k + 1)) #[] #[]] ++ lb, W1, ?_, ?_, ?_, ?_, fun _ => h1, ?_⟩
  · rw [hW1, hmk, hk]; exact run_enterLoop_outer _ _ _ _ _
  · simp only [resolve, hg]
    simp [go_sem]
  · intro f' hf'
    simp [Target.leads] at hf'
    subst hf'
    exact hFg
  · simp [invoke, go_sem, eg]
  refine (hseq (k + 1) (fun pre W => I pre W ∧ LoopAt k (mk .ready none) W) (fun pre W => ∃ c, Ix c pre W ∧ LoopAt k (mk .done (some c)) W) W1 hb1
    (fun s A C hs f => ⟨wide hIT s A C hs.1 f, hs.2.frt f⟩) (fun s A C hs f => let ⟨c, h, hl⟩ := hs; ⟨c, wide (hIxT c) s A C h f, hl.frt f⟩) ?_ ⟨hI1, hL1⟩).mono ?_
  · rintro pre x W ⟨hi, hl⟩ hpre
    have hy := run_yield (P := P) (args := encs x) hl.r (by rw [(hms _ _).2.1]; exact hps x)
    rw [hmk] at hy
    refine ⟨fn, _, assign, body, hy, roundIn_of_wpIn hfn (hassign _ x W _ ⟨_, run_beginRound hl.r (hms _ _).1, ?_⟩)⟩
    have e1 : ({ mk .ready none with state := .busy } : Loop) = mk .busy none := by rw [hmk]
    rw [e1]
    have hl2 := hl.put (mk .busy none)
    have hk2 : Kp W (W.putObj (k + 1) (.loop (mk .busy none))) := hKb _ _ _ _ (by omega) hl.r rfl rfl
    refine wpIn_mono (hbody _ pre x _ (hputI hi hl) hpre) ?_
    have away : ∀ (c : Code) (W3 : World), KeepsFrom w.heap.size (W.putObj (k + 1) (.loop (mk .busy none))) W3 → Ix c (pre ++ [x]) W3 →
        ∃ v w', (Instr.endRound (k + 1) (some c)).run P W3 = .ok v w' ∧ ((Ending.returned v = .returned (.bool true) ∧ (I (pre ++ [x]) w' ∧ LoopAt k (mk .ready none) w') ∧ Kp W w') ∨ (Ending.returned v = .returned (.bool false) ∧ ∃ c, Ix c (pre ++ [x]) w' ∧ LoopAt k (mk .done (some c)) w')) := fun c W3 hkf hx3 => by
      have hl3 := hl2.from hkf (by omega)
      have hr : (Instr.endRound (k + 1) (some c)).run P W3 = .ok (.bool false) (W3.putObj (k + 1) (.loop (mk .done (some c)))) := by
        rw [run_endRound (P := P) (some c) hl3.r, hmk]; rfl
      exact ⟨_, _, hr, .inr ⟨rfl, c, hputX hx3 hl3, hl3.put _⟩⟩
    rintro e a3 W3 hp
    cases e with
    | normal =>
      obtain ⟨hkf, hkp, hi3⟩ := hp
      have hl3 := hl2.from hkf (by omega)
      have hr : (Instr.endRound (k + 1) none).run P W3 = .ok (.bool true) (W3.putObj (k + 1) (.loop (mk .ready none))) := by
        rw [run_endRound (P := P) none hl3.r, hmk]; rfl
      exact ⟨_, _, hr, .inl ⟨rfl, ⟨hputI hi3 hl3, hl3.put _⟩, hKt (hKt hk2 hkp) (hKb _ _ _ _ (by omega) hl3.r rfl rfl)⟩⟩
    | ret => exact away _ W3 hp.1 hp.2
    | exit id => exact away _ W3 hp.1 hp.2
    | goto t => exact away _ W3 hp.1 hp.2
    | panic ch => exact hp.elim
    | outgrown => exact hp.elim
  · rintro e W2 ⟨⟨v, rfl⟩, (⟨hi, hl⟩ | ⟨pre, hpre, c, hx, hl⟩)⟩
    · have hr := run_endLoop (P := P) hl.r (by rw [(hms _ _).1]; simp)
      rw [(hms _ _).2.2] at hr
      exact ⟨none, _, hr, hdone k _ (by omega) (hputI hi hl) (hl.put _).d⟩
    · have hr := run_endLoop (P := P) hl.r (by rw [(hms _ _).1]; simp)
      rw [(hms _ _).2.2] at hr
      exact ⟨some c, _, hr, hstop k c pre _ (by omega) hpre (hputX hx hl) (hl.put _).d⟩
end Go.Proofs.YtelhnaphkbpakaaDoor
namespace Go.Proofs.YtelhnaphkbpakaaDoor
open Go.RowKit Go.Shelf
attribute [local go_sem] Oper.semAt_some
set_option linter.unusedVariables false
set_option maxRecDepth 100000
structure KpD (n0 : Nat) (W W' : World) : Prop where
  below : Below n0 W W'
  box : ∀ (k : Nat) (c : Array Value) (t : TypeId) (fz : Nat × Nat), t = 31 ∨ t = 25 → W.heap[k]? = some (.cells c t fz) → W'.heap[k]? = some (.cells c t fz)
theorem KpD.trans {n0 : Nat} {A B C : World} (h : KpD n0 A B) (k : KpD n0 B C) : KpD n0 A C := ⟨h.below.trans k.below, fun i c t fz ht e => k.box i c t fz ht (h.box i c t fz ht e)⟩
theorem kpD_b {n0 : Nat} {w : World} (hn : n0 ≤ w.heap.size) (W : World) (l : Nat) (o o' : Obj) (hl : w.heap.size ≤ l) (h : W.heap[l]? = some o) (h1 : o.isCells = false) (h2 : o.isWalk = false) : KpD n0 W (W.putObj l o') :=
  ⟨belowK_b hn W l o o' hl h h1 h2, fun k c t fz _ e => (World.putObj_heap_other (fun e1 => by subst e1; rw [h] at e; cases e; cases h1)).trans e⟩
def encK (F : For) (k : Nat) : Array Value := #[.agg #[.int .u32 ((hd F (some k)).1 : Int), .int .u32 ((hd F (some k)).2 : Int)]]
theorem preD_live {F : For} (ok : FOk F) : ∀ r, r < F.length → (∃ x : FN, F[r]? = some x ∧ x.live = true) → ∀ m ∈ preD F r, ∃ x : FN, F[m]? = some x ∧ x.live = true := by
  refine ok.kids_ind (fun r hr ih hl m hm => ?_)
  rw [preD_eq ok hr] at hm
  rcases List.mem_cons.1 hm with rfl | hm
  · exact hl
  · obtain ⟨c, hc, hm⟩ := List.mem_flatMap.1 hm
    refine ih c hc ?_ m hm
    obtain ⟨y, hy, _⟩ := hl
    have hc2 : c ∈ y.down := by unfold dnOf at hc; rw [show (some r).bind (fun k => F[k]?) = some y from hy] at hc; exact hc
    obtain ⟨x, hx, _, hxl⟩ := ok.dn r y hy c hc2
    exact ⟨x, hx, hxl⟩
structure DnR (F : For) (L : List Nat) (n0 B0 Bt Bh tb sr gr : Nat) (w0 : World) (J : List Nat → World → Prop) (n : Nat) (W : World) (b : Nat) (pre rest : List Nat) : Prop where
  len : rest.length = n
  all : L = pre ++ rest
  j : J pre W
  low : Below w0.heap.size w0 W
  new : B0 ≤ b ∧ B0 ≤ W.heap.size
  box : W.heap[b]? = some (.cells #[.int .u32 ((hd F rest.head?).1 : Int), .int .u32 ((hd F rest.head?).2 : Int)] 31 (0, 0))
  bt : W.heap[Bt]? = some (.cells #[.pointer (some ⟨tb, 0, none⟩)] 25 (0, 0))
  bh : W.heap[Bh]? = some (.cells #[.int .u32 (sr : Int), .int .u32 (gr : Int)] 31 (0, 0))
section
variable {B : Nat} {Q : Nat → Prop} {w w0 : World} {tb : Nat} {X : TX}
set_option maxHeartbeats 8000000 in
theorem down1_seq (h : TreeAt B Q w0 tb X) (hz : NoneAt w0) {r : Nat} {xr : FN} (hr : X.F[r]? = some xr) (hrl : xr.live = true) (n : Nat) (hn : 1 ≤ n) {Bt Bh : Nat} (hB : Below w0.heap.size w0 w)
    (hBt : w.heap[Bt]? = some (.cells #[.pointer (some ⟨tb, 0, none⟩)] 25 (0, 0))) (hBh : w.heap[Bh]? = some (.cells #[.int .u32 (xr.sl : Int), .int .u32 (xr.gn : Int)] 31 (0, 0))) :
    SeqT [31] Fence.wide n Tryd.prog 56 #[.pointer (some ⟨Bt, 0, none⟩), .pointer (some ⟨Bh, 0, none⟩)] (encK X.F) (KpD w0.heap.size) (preD X.F r) w := by
  intro l J Jx W hW hJ hJx hY h0
  have ok := h.fok
  have hrlen := (List.getElem?_eq_some_iff.1 hr).1
  obtain ⟨nba, Pa, hma, hata, hsla, hs2a, hg2a⟩ := h.rw.at_live hr hrl
  have HT := Lib.hid h
  have HZ := Lib.hid hz
  have HY := Lib.hid hY
  have HJ := Lib.hid hJ
  have HLV : Hid (∀ m ∈ preD X.F r, ∃ x : FN, X.F[m]? = some x ∧ x.live = true) := Lib.hid (preD_live ok r hrlen ⟨xr, hr, hrl⟩)
  have HNEXT : Hid (∀ pre k rest, preD X.F r = pre ++ k :: rest → ∃ xk l, X.F[k]? = some xk ∧ xk.live = true ∧ Chain X.F k l ∧ rest.head? = stepO X.F r k l) := Lib.hid (fun pre k rest e => by
    obtain ⟨xk, hk, hkl⟩ := HLV.out k (by rw [e]; simp)
    obtain ⟨l, hl⟩ := ok.acyc k xk hk
    exact ⟨xk, l, hk, hkl, hl, step_next ok r hrlen e hl⟩)
  have HLI : Hid (∀ W1 gb, Below w0.heap.size w0 W1 → HRow W1 gb [(xr.sl, xr.gn)] → Calls Tryd.prog 40 #[.pointer (some ⟨tb, 0, none⟩), .slice (some ⟨gb, 0, none⟩) 1 1] W1 fun e w' => e = .returned (.int .i64 0) ∧ Below W1.heap.size W1 w') := Lib.hid (fun W1 gb b hr1 => lives_calls (h.rw.below b) hr1 (by simp) (.inl ⟨rfl, by
    intro p hp
    obtain rfl := List.mem_singleton.1 hp
    exact ⟨r, xr, hr, hrl, rfl, rfl⟩⟩))
  have HHR : Hid (∀ W1 gb, W1.heap[gb]? = some (.cells #[.int .u32 (xr.sl : Int), .int .u32 (xr.gn : Int)] 31 (0, 0)) → HRow W1 gb [(xr.sl, xr.gn)]) := Lib.hid (fun W1 gb hgb => ⟨fun j p hp => by
    match j, hp with
    | 0, hp => cases hp; exact ⟨cell_blk hgb 0 rfl, cell_blk hgb 1 rfl⟩
    | j + 1, hp => simp at hp, by
    intro p hp
    obtain rfl := List.mem_singleton.1 hp; exact ⟨by simp only; omega, by simp only; omega⟩⟩)
  have HST : Hid (∀ W1, Below w0.heap.size w0 W1 → ∀ k xk l, X.F[k]? = some xk → xk.live = true → Chain X.F k l → Calls Tryd.prog 48 #[.pointer (some ⟨tb, 0, none⟩), .agg #[.int .u32 (xk.sl : Int), .int .u32 (xk.gn : Int)], .agg #[.int .u32 (xr.sl : Int), .int .u32 (xr.gn : Int)]] W1 fun e w' => e = .returned (.agg #[.int .u32 ((hd X.F (stepO X.F r k l)).1 : Int), .int .u32 ((hd X.F (stepO X.F r k l)).2 : Int)]) ∧ Below W1.heap.size W1 w') := Lib.hid (fun W1 b k xk l hk hkl hl => stepT_calls (h.below b) (hz.below b) hk hkl hr hrl hl)
  have hhead : (preD X.F r).head? = some r := by obtain ⟨t, ht⟩ := preD_head ok hrlen; rw [ht]; rfl
  have HHD : Hid (hd X.F (preD X.F r).head? = (xr.sl, xr.gn)) := Lib.hid (by rw [hhead]; exact hd_some hr)
  have bt0 := (hW.block _ (lt_of_some hBt)).trans hBt
  have bh0 := (hW.block _ (lt_of_some hBh)).trans hBh
  have bW := hB.trans (hW.mono hB.size)
  have HW0 := Lib.hid (And.intro bt0 (And.intro bh0 (And.intro bW h0)))
  have HRB : Hid (xr.sl ≤ 4294967295 ∧ 1 ≤ xr.sl) := Lib.hid ⟨by omega, by omega⟩
  have c0 := cell_blk bt0 0 rfl
  have c1 := cell_blk bh0 0 rfl
  have c2 := cell_blk bh0 1 rfl
  have lbt := lt_of_some bt0
  have lbh := lt_of_some bh0
  simp at c0 c1 c2
  clear h hz hr hrl hB hBt hBh hW hJ hJx hY h0 hma hata hsla hs2a hg2a ok hhead bt0 bh0 bW
  generalize xr.sl = sr at *
  generalize xr.gn = gr at *
  have hro : Fence.wide.round = none := rfl
  refine callsIn_of_wp Tryd.func56 rfl trivial ?_ rfl
  simp only [Tryd.ntmps56, List.size_toArray, List.length_cons, List.length_nil, Nat.reduceAdd, Nat.reduceSub, Array.replicate_succ, Array.replicate_zero, List.push_toArray, List.append_toArray, List.nil_append, List.cons_append]
  have HLC : Hid (Calls Tryd.prog 40 #[.pointer (some ⟨tb, 0, none⟩), .slice (some ⟨W.heap.size, 0, none⟩) 1 1] (W.alloc (.cells #[.int .u32 (sr : Int), .int .u32 (gr : Int)] 31)) fun e w' => e = .returned (.int .i64 0) ∧ Below (W.alloc (.cells #[.int .u32 (sr : Int), .int .u32 (gr : Int)] 31)).heap.size (W.alloc (.cells #[.int .u32 (sr : Int), .int .u32 (gr : Int)] 31)) w') := Lib.hid (HLI.out _ _ (HW0.out.2.2.1.alloc HW0.out.2.2.1.size _) (HHR.out _ _ (Go.heap_alloc_new W _)))
  gi_wp2_with (refine ⟨trivial, ?_⟩; gi_at_call 40; refine (callsIn_wide.2 HLC.out).mono ?_; rintro e w1 ⟨rfl, b1⟩; have HB1 := Lib.hid (((Below.refl W.heap.size W).alloc (Nat.le_refl _) _).trans (b1.mono ((Below.refl W.heap.size W).alloc (Nat.le_refl _) _).size)); have d0 := (HB1.out.cell (p := ⟨Bh, 0, none⟩) lbh).trans c1; have d1 := (HB1.out.cell (p := ⟨Bh, 1, none⟩) lbh).trans c2; clear b1)
  have HN0 : Hid (∀ W1, Below w0.heap.size w0 W1 → NoneAt W1) := Lib.hid (fun W1 b => HZ.out.below b)
  clear d0 d1 c0 c1 c2 lbt lbh
  gi_loopg [4] (preD X.F r).length (fun n v wr => ∃ (b : Nat) (pre rest : List Nat), v = .pointer (some ⟨b, 0, none⟩) ∧ Hid (DnR X.F (preD X.F r) w0.heap.size W.heap.size Bt Bh tb sr gr w0 J n wr b pre rest))
  case atStart =>
    have hbel : Below W.heap.size W (w1.alloc (.cells #[.int .u32 (sr : Int), .int .u32 (gr : Int)] 31)) := HB1.out.alloc HB1.out.size _
    exact ⟨w1.heap.size, [], preD X.F r, rfl, Lib.hid ⟨rfl, rfl, HJ.out [] W _ HW0.out.2.2.2 (FrT.of_below hbel), HW0.out.2.2.1.trans (hbel.mono HW0.out.2.2.1.size), ⟨HB1.out.size, hbel.size⟩, by rw [HHD.out]; exact Go.heap_alloc_new w1 _, (hbel.block _ (lt_of_some HW0.out.1)).trans HW0.out.1, (hbel.block _ (lt_of_some HW0.out.2.1)).trans HW0.out.2.1⟩⟩
  case round =>
    obtain ⟨b, pre, rest, rfl, hw⟩ := hrel
    have x0 := cell_blk hw.out.box 0 rfl
    have x1 := cell_blk hw.out.box 1 rfl
    have n0 := (HN0.out wr hw.out.low).a
    have n1 := (HN0.out wr hw.out.low).b
    cases rest with
    | nil =>
      replace x0 : wr.cell? ⟨b, 0, none⟩ = some (.int .u32 0) := x0
      replace x1 : wr.cell? ⟨b, 1, none⟩ = some (.int .u32 0) := x1
      have q0 : hEq 0 0 0 0 = true := hEq_true rfl rfl
      have HE : Hid (J (preD X.F r) wr) := Lib.hid (by have := hw.out.all; rw [List.append_nil] at this; rw [this]; exact hw.out.j)
      gi_wp2
      refine ⟨fun _ h => (by cases h), ?_⟩
      gi_wp2
      go_end0
      exact ⟨⟨_, rfl⟩, .inl HE.out⟩
    | cons k rest' =>
      obtain ⟨xk, lk, hk, hkl, hlk, hnx⟩ := HNEXT.out pre k rest' hw.out.all
      obtain ⟨nb, P, hm, hat, hsl, hs2, hg2⟩ := HT.out.rw.at_live hk hkl
      have e := hd_some hk
      replace x0 : wr.cell? ⟨b, 0, none⟩ = some (.int .u32 (xk.sl : Int)) := by have := x0; rw [show hd X.F (k :: rest').head? = (xk.sl, xk.gn) from e] at this; exact this
      replace x1 : wr.cell? ⟨b, 1, none⟩ = some (.int .u32 (xk.gn : Int)) := by have := x1; rw [show hd X.F (k :: rest').head? = (xk.sl, xk.gn) from e] at this; exact this
      have q0 : hEq (xk.sl : Int) (xk.gn : Int) 0 0 = false := hEq_false (.inl (by omega))
      have hpf : pre ++ [k] <+: preD X.F r := ⟨rest', by rw [hw.out.all]; simp⟩
      obtain ⟨fn, tmps, assign, body, hy, hR⟩ := HY.out pre k wr hw.out.j hpf
      unfold encK at hy
      rw [e] at hy
      simp only at hy
      have HSTK : Hid (∀ W1, Below w0.heap.size w0 W1 → Calls Tryd.prog 48 #[.pointer (some ⟨tb, 0, none⟩), .agg #[.int .u32 (xk.sl : Int), .int .u32 (xk.gn : Int)], .agg #[.int .u32 (sr : Int), .int .u32 (gr : Int)]] W1 fun e w' => e = .returned (.agg #[.int .u32 ((hd X.F rest'.head?).1 : Int), .int .u32 ((hd X.F rest'.head?).2 : Int)]) ∧ Below W1.heap.size W1 w') := Lib.hid (fun W1 b => by rw [hnx]; exact HST.out W1 b k xk lk hk hkl hlk)
      have HALL : Hid (preD X.F r = (pre ++ [k]) ++ rest') := Lib.hid (by rw [hw.out.all]; simp)
      have HPF := Lib.hid hpf
      have HM : Hid (rest'.length < gk) := Lib.hid (by have := hw.out.len; rw [← this]; simp)
      have HE := Lib.hid e
      clear hk hkl hlk hnx e hm hat hsl hs2 hg2 hpf
      gi_wp2
      refine hR.mono ?_
      rintro e W3 (⟨rfl, hJ3, hk3⟩ | ⟨rfl, hJx3⟩)
      · have hbx3 := hk3.box _ _ _ _ (.inl rfl) hw.out.box
        have hbt3 := hk3.box _ _ _ _ (.inr rfl) hw.out.bt
        have hbh3 := hk3.box _ _ _ _ (.inl rfl) hw.out.bh
        have HLO3 := Lib.hid (hw.out.low.trans hk3.below)
        have H3 := Lib.hid (And.intro hbx3 (And.intro hbt3 (And.intro hbh3 hJ3)))
        have y0 := cell_blk hbx3 0 rfl
        have y1 := cell_blk hbx3 1 rfl
        have t0 := cell_blk hbt3 0 rfl
        have r0 := cell_blk hbh3 0 rfl
        have r1 := cell_blk hbh3 1 rfl
        rw [show hd X.F (k :: rest').head? = (xk.sl, xk.gn) from HE.out] at y0 y1
        have hn1 := hw.out.new
        have HNW := Lib.hid hn1
        have HNW3 : Hid (W.heap.size ≤ W3.heap.size) := Lib.hid (Nat.le_trans hn1.2 hk3.below.size)
        clear hbx3 hbt3 hbh3 hJ3 hk3 hn1
        gi_wp2_with (refine ⟨trivial, ?_⟩; gi_at_call 48; refine (callsIn_wide.2 (HSTK.out W3 HLO3.out)).mono ?_; rintro e w4 ⟨rfl, b4⟩; have hbx4 := (b4.block _ (lt_of_some H3.out.1)).trans H3.out.1; have z0 := cell_blk hbx4 0 rfl; have z1 := cell_blk hbx4 1 rfl; have f0 := free_blk hbx4 0; have f1 := free_blk hbx4 1; have lz := lt_of_some hbx4; have H4 := Lib.hid (And.intro hbx4 b4); clear hbx4 b4)
        gi_roundg rest'.length
        case measure => exact HM.out
        case rel =>
          have frt : ∀ u v c, FrT [31] W.heap.size W3 (((w4.setCell ⟨b, 0, none⟩ u).setCell ⟨b, 1, none⟩ v).alloc c) := fun u v c => (((FrT.of_below H4.out.2).set (a := ⟨b, 0, none⟩) HNW.out.1 H4.out.1 (List.mem_singleton.2 rfl) u).set (a := ⟨b, 1, none⟩) HNW.out.1 (set_blk H4.out.1 0 u) (List.mem_singleton.2 rfl) v).alloc c
          have hlo : ∀ u v c, Below w0.heap.size w0 (((w4.setCell ⟨b, 0, none⟩ u).setCell ⟨b, 1, none⟩ v).alloc c) := fun u v c => by
            have h1 := HW0.out.2.2.1.size
            have h2 := HNW.out.1
            have h3 := HLO3.out.size
            have h4 := H4.out.2.size
            exact (((HLO3.out.trans (H4.out.2.mono h3)).setCell (by show w0.heap.size ≤ b; omega) u).setCell (by show w0.heap.size ≤ b; omega) v).alloc (by simp; omega) c
          refine ⟨w4.heap.size, pre ++ [k], rest', rfl, Lib.hid ⟨rfl, HALL.out, HJ.out _ W3 _ H3.out.2.2.2 (frt _ _ _), hlo _ _ _, ⟨?_, ?_⟩, ?_, (frt _ _ _).block _ _ H3.out.2.1 (.inr (fun e he => by cases he; decide)), (frt _ _ _).block _ _ H3.out.2.2.1 (.inl (lt_of_some HW0.out.2.1))⟩⟩
          · exact Nat.le_trans HNW3.out H4.out.2.size
          · simp
            have := HNW3.out
            have := H4.out.2.size
            omega
          · have := Go.heap_alloc_new ((w4.setCell ⟨b, 0, none⟩ (.int .u32 ((hd X.F rest'.head?).1 : Int))).setCell ⟨b, 1, none⟩ (.int .u32 ((hd X.F rest'.head?).2 : Int))) (.cells #[.int .u32 ((hd X.F rest'.head?).1 : Int), .int .u32 ((hd X.F rest'.head?).2 : Int)] 31)
            simpa using this
      · have HX3 := Lib.hid hJx3
        clear hJx3
        gi_wp2
        go_end0
        exact ⟨⟨_, rfl⟩, .inr ⟨_, HPF.out, HX3.out⟩⟩
end
end Go.Proofs.YtelhnaphkbpakaaDoor
namespace Go.Proofs.YtelhnaphkbpakaaDoor
open Go
set_option linter.unusedVariables false
section
variable {P : Program} {ops : Array Oper} {Q : Exit → Act → World → Prop} {md : Region.Mode} {S : World → Prop} {k : Nat}
def wpAnyU (P : Program) (md : Region.Mode) (ops : Array Oper) (Q : Exit → Act → World → Prop) (S : World → Prop) (k : Nat) : Nat → Array Bool → Act → World → Prop
  | 0, l, a, w => Region.ready md ops l = [] ∧ Q .normal a w
  | f + 1, l, a, w => (Region.ready md ops l = [] → Q .normal a w) ∧
    ∀ i ∈ Region.ready md ops l, wpOp P ops Q i (fun a' w' => (l.getD k false = false → i ≠ k → S w') ∧ wpAnyU P md ops Q S k f (l.setIfInBounds i true) a' w') a w
theorem wpAny_of_until : ∀ (f : Nat) (l : Array Bool) (a : Act) (w : World), wpAnyU P md ops Q S k f l a w → wpAny P md ops Q f l a w
  | 0, _, _, _, h => h
  | f + 1, _, _, _, h => ⟨h.1, fun i hi => wpOp_mono (fun a' w' h' => wpAny_of_until f _ a' w' h'.2) (h.2 i hi)⟩
def waits (md : Region.Mode) (ops : Array Oper) (bs : List Nat) (i : Nat) : Bool := bs.all fun k => match ops[k]? with
  | some o => o.after.any (fun e => Region.binds md e && (e.on == i || bs.contains e.on))
  | none => false
theorem waits_spec {bs : List Nat} {i k : Nat} (h : waits md ops bs i = true) (hk : k ∈ bs) {o : Oper} (ho : ops[k]? = some o) : ∃ e ∈ o.after, Region.binds md e = true ∧ (e.on = i ∨ e.on ∈ bs) := by
  unfold waits at h
  rw [List.all_eq_true] at h
  have h := h k hk
  rw [ho] at h
  simp only [Array.any_eq_true'] at h
  obtain ⟨e, he, h2⟩ := h
  simp only [Bool.and_eq_true, Bool.or_eq_true, beq_iff_eq, List.contains_iff_mem] at h2
  exact ⟨e, he, h2.1, h2.2⟩
theorem wpAnyU_first {bs : List Nat} {i : Nat} {oi : Oper} {v : Value} (hi : ops[i]? = some oi) (hib : i ∉ bs) (hkb : k ∈ bs) (hk : waits md ops bs i = true) (hsel : ∀ (j : Nat) (o : Oper) cs b, ops[j]? = some o → o.op ≠ .select cs b)
    (hQ : ∀ c a w, Q (.panic c) (a.put oi.dst v) w → Q (.panic c) a w) :
    ∀ (f : Nat) (l : Array Bool) (a : Act) (w : World),
      (∀ j oj, ops[j]? = some oj → j ≠ i → l.getD j true = false → (∀ e ∈ oj.after, Region.binds md e = true → e.on ≠ i) → oi.apart ops oj = true) →
      i ∈ Region.ready md ops l → (∀ b ∈ bs, l.getD b false = false) → YieldsIf P ops S oi v a → S w →
      wpAnyU P md ops Q S k f (l.setIfInBounds i true) (a.put oi.dst v) w → wpAnyU P md ops Q S k (f + 1) l a w := by
  intro f
  have hik : i ≠ k := fun e => hib (e ▸ hkb)
  induction f with
  | zero =>
    intro l a w _ hr _ hy hS H
    refine ⟨fun h => (by rw [h] at hr; cases hr), fun j hj => ?_⟩
    by_cases hji : j = i
    · subst hji; exact hy.wpOp hi hS ⟨fun _ _ => hS, H⟩
    · have := ready_mono hj hji
      rw [H.1] at this
      cases this
  | succ f ih =>
    intro l a w hfree hr hkl hy hS H
    refine ⟨fun h => (by rw [h] at hr; cases hr), fun j hj => ?_⟩
    by_cases hji : j = i
    · subst hji; exact hy.wpOp hi hS ⟨fun _ _ => hS, H⟩
    · have h1 := H.2 j (ready_mono hj hji)
      obtain ⟨hjun, oj, hoj, hall⟩ := mem_ready.1 hj
      have hlist : ∀ x, l.getD x true = false ∨ l.getD x false = false → ∀ e ∈ oj.after, Region.binds md e = true → e.on = x → l.getD x false = false → False := fun x _ e he hb heq h0 => by
        have h1 := hall e he hb
        rw [heq, h0] at h1
        cases h1
      have hnot : ∀ e ∈ oj.after, Region.binds md e = true → e.on ≠ i := fun e he hb heq => by
        have h1 := hall e he hb
        have h0 := (mem_ready.1 hr).1
        rw [heq] at h1
        rcases Nat.lt_or_ge i l.size with h' | h'
        · simp [h'] at h0 h1; rw [h0] at h1; cases h1
        · simp [Array.getElem?_eq_none h'] at h1
      have hjb : j ∉ bs := fun hm => by
        obtain ⟨e, he, hb, hon⟩ := waits_spec hk hm hoj
        rcases hon with hon | hon
        · exact hnot e he hb hon
        · exact hlist _ (Or.inr (hkl _ hon)) e he hb rfl (hkl _ hon)
      have hjk : j ≠ k := fun e => hjb (e ▸ hkb)
      have h2 := wpOp_putIf hoj (hfree j oj hoj hji hjun hnot) (fun cs b => hsel i oi cs b hi) (fun cs b => hsel j oj cs b hoj) hQ hy h1
      have hfree' : ∀ k' ok, ops[k']? = some ok → k' ≠ i → (l.setIfInBounds j true).getD k' true = false →
          (∀ e ∈ ok.after, Region.binds md e = true → e.on ≠ i) → oi.apart ops ok = true := fun k' ok hk' hki hun hno => by
        refine hfree k' ok hk' hki ?_ hno
        by_cases hjk' : j = k'
        · subst hjk'; exact hjun
        · rw [getD_set_ne true hjk'] at hun; exact hun
      refine wpOp_mono (fun a' w' h3 => ?_) h2
      have hS' : S w' := h3.2.1 (by rw [getD_set_ne false hik]; exact hkl k hkb) hjk
      refine ⟨fun _ _ => hS', ih (l.setIfInBounds j true) a' w' hfree' (ready_mono hr (Ne.symm hji)) (fun b hb => by
        have hne : j ≠ b := fun e => hjb (by rw [e]; exact hb)
        rw [getD_set_ne false hne]; exact hkl b hb) h3.1 hS' ?_⟩
      rw [Array.setIfInBounds_comm _ _ hji]
      exact h3.2.2
theorem wpAnyU_take {i : Nat} {oi : Oper} {v : Value} {f : Nat} {l : Array Bool} {a : Act} {w : World} (bs : List Nat) (hi : ops[i]? = some oi) (hib : bs.contains i = false) (hkb : bs.contains k = true) (hk : waits md ops bs i = true) (hkl : bs.all (fun b => !l.getD b false) = true)
    (hs : Region.noSelect ops = true) (hf : Region.free md ops l i = true) (hr : (Region.ready md ops l).contains i = true)
    (hQ : ∀ c a w, Q (.panic c) (a.put oi.dst v) w → Q (.panic c) a w) (hy : YieldsIf P ops S oi v a) (hS : S w)
    (h : wpAnyU P md ops Q S k f (l.setIfInBounds i true) (a.put oi.dst v) w) : wpAnyU P md ops Q S k (f + 1) l a w :=
  wpAnyU_first (bs := bs) hi (fun hm => by rw [List.contains_iff_mem.2 hm] at hib; cases hib) (List.contains_iff_mem.1 hkb) hk (Region.noSelect_spec hs) hQ f l a w (Region.free_spec hi hf) (by simpa using hr) (fun b hb => by
    have := (List.all_eq_true.1 hkl) b hb
    cases hg : l.getD b false with
    | true => rw [hg] at this; cases this
    | false => rfl) hy hS h
theorem wpAnyU_one {i : Nat} {o : Oper} {f : Nat} {l : Array Bool} {a : Act} {w : World} (hr : Region.ready md ops l = [i]) (ho : ops[i]? = some o)
    (h : ∀ K' : Act → World → Prop, Shut (∀ a w, (l.getD k false = false → i ≠ k → S w) → wpAnyU P md ops Q S k f (l.setIfInBounds i true) a w → K' a w) → if Region.wanted o (yielded ops a.tmps) = true then Oper.wp P o a w K' Q else K' (a.put o.dst undef) w) :
    wpAnyU P md ops Q S k (f + 1) l a w := by
  refine And.intro (fun h0 => ?_) (fun j hj => ?_)
  · rw [hr] at h0
    cases h0
  · rw [hr] at hj
    obtain rfl : j = i := by simpa using hj
    exact wpOp_step ho (fun K' hK => h K' (fun a w hS hW => hK a w ⟨hS, hW⟩))
theorem wpAnyU_done {l : Array Bool} {a : Act} {w : World} (hr : Region.ready md ops l = []) (h : Q .normal a w) : ∀ f, wpAnyU P md ops Q S k f l a w
  | 0 => ⟨hr, h⟩
  | _ + 1 => ⟨fun _ => h, by rw [hr]; simp⟩
theorem wp_region_until_drew {id : Nat} {a : Act} {w : World} (hm : P.follows .mixedOrders = true)
    (h : wpAnyU P .any ops Q S k ops.size (Array.replicate ops.size false) a w.drew) : (Code.region id ops true).wp P Q a w :=
  wp_region_any hm (wpAny_of_until _ _ _ _ h)
end
end Go.Proofs.YtelhnaphkbpakaaDoor
namespace Go.Proofs.YtelhnaphkbpakaaDoor
open Go.RowKit Go.Shelf
attribute [local go_sem] Oper.semAt_some
set_option linter.unusedVariables false
set_option maxRecDepth 100000
theorem alloc_2nd {w : World} (a b : Obj) : ((w.alloc a).alloc b).heap[w.heap.size]? = some a ∧ ((w.alloc a).alloc b).heap[w.heap.size + 1]? = some b := ⟨alloc2_at w a b, by have := Go.heap_alloc_new (w.alloc a) b; rwa [World.size_alloc] at this⟩
theorem set_far {w : World} {b c : Nat} (h : b ≠ c) (j : Nat) (v : Value) : (w.setCell ⟨c, j, none⟩ v).heap[b]? = w.heap[b]? := heap_setCell_other _ _ _ _ h
structure EqI (V : World) (F : For) (b9 b10 : Nat) (o p : Option Nat) (W : World) : Prop where
  low : Below V.heap.size V W
  x9 : W.heap[b9]? = some (.cells #[.int .u32 ((hd F o).1 : Int), .int .u32 ((hd F o).2 : Int)] 31 (0, 0))
  x10 : W.heap[b10]? = some (.cells #[.int .u32 ((hd F p).1 : Int), .int .u32 ((hd F p).2 : Int)] 31 (0, 0))
  n9 : V.heap.size ≤ b9
  n10 : V.heap.size ≤ b10
  ne : b9 ≠ b10
theorem EqI.below {V W W' : World} {F : For} {b9 b10 : Nat} {o p : Option Nat} (h : EqI V F b9 b10 o p W) (b : Below W.heap.size W W') : EqI V F b9 b10 o p W' :=
  ⟨h.low.trans (b.mono h.low.size), (b.block _ (lt_of_some h.x9)).trans h.x9, (b.block _ (lt_of_some h.x10)).trans h.x10, h.n9, h.n10, h.ne⟩
theorem EqI.put {V W : World} {F : For} {b9 b10 : Nat} {o p : Option Nat} (h : EqI V F b9 b10 o p W) (o' p' : Option Nat) :
    EqI V F b9 b10 o' p' ((((W.setCell ⟨b9, 0, none⟩ (.int .u32 ((hd F o').1 : Int))).setCell ⟨b9, 1, none⟩ (.int .u32 ((hd F o').2 : Int))).setCell ⟨b10, 0, none⟩ (.int .u32 ((hd F p').1 : Int))).setCell ⟨b10, 1, none⟩ (.int .u32 ((hd F p').2 : Int))) := by
  have h1 : ((W.setCell ⟨b9, 0, none⟩ (.int .u32 ((hd F o').1 : Int))).setCell ⟨b9, 1, none⟩ (.int .u32 ((hd F o').2 : Int))).heap[b10]? = some (.cells #[.int .u32 ((hd F p).1 : Int), .int .u32 ((hd F p).2 : Int)] 31 (0, 0)) := (set_far (Ne.symm h.ne) 1 _).trans ((set_far (Ne.symm h.ne) 0 _).trans h.x10)
  have h2 : ((W.setCell ⟨b9, 0, none⟩ (.int .u32 ((hd F o').1 : Int))).setCell ⟨b9, 1, none⟩ (.int .u32 ((hd F o').2 : Int))).heap[b9]? = some (.cells #[.int .u32 ((hd F o').1 : Int), .int .u32 ((hd F o').2 : Int)] 31 (0, 0)) := set_blk (set_blk h.x9 0 _) 1 _
  exact ⟨(((h.low.setCell h.n9 _).setCell h.n9 _).setCell h.n10 _).setCell h.n10 _, (set_far h.ne 1 _).trans ((set_far h.ne 0 _).trans h2), set_blk (set_blk h1 0 _) 1 _, h.n9, h.n10, h.ne⟩
theorem Nd.Same.bd {M N : Nd} (h : M.Same N) {b : Nat} (hb : N.Bd b) : M.Bd b :=
  ⟨by rw [h.data]; exact hb.data, by rw [h.len]; exact hb.attrs, fun x hx => by
    have hm : attrOf x ∈ N.L.map attrOf := by rw [← h.attrs]; exact List.mem_map_of_mem hx
    obtain ⟨y, hy, e⟩ := List.mem_map.1 hm
    have : x.val = y.val := (congrArg Prod.snd e).symm
    rw [this]
    exact hb.val y hy⟩
section
variable {B : Nat} {Q : Nat → Prop} {w : World} {tb fb : Nat} {X : TX} {R : List RN} {rv : Value}
theorem node_ref (h : Both B Q w tb fb X R rv) {k : Nat} {x : FN} (hx : X.F[k]? = some x) (hl : x.live = true) : ∃ r : RN, R[k]? = some r ∧ GoodN r.2.1 ∧ ∀ W, Below w.heap.size w W →
    Calls Tryd.prog 45 #[.pointer (some ⟨tb, 0, none⟩), .agg #[.int .u32 (x.sl : Int), .int .u32 (x.gn : Int)]] W fun e w' => ∃ M : Nd, e = .returned (.tuple #[.agg #[.int .i64 M.kind, .string M.name, .slice M.da M.data.length M.dc, .slice M.aa M.L.length M.ac, .int .u32 M.slot, .int .u32 M.gen], .int .i64 0]) ∧ (M.c = r.2.1.c ∧ M.L.length ≤ 1099511627776 ∧ NdIn w' M) ∧ Below W.heap.size W w' := by
  obtain ⟨nb, P, hm, _⟩ := h.t.rw.at_live hx hl
  obtain ⟨N, dv, hr⟩ := h.f.at hx
  obtain ⟨hs, hg⟩ := h.same k nb P _ hm hr
  refine ⟨_, hr, hg, fun W b => (node_live (h.t.below b).rw hx hl hm (hs.bd hg.1)).mono ?_⟩
  rintro e w' ⟨M, rfl, h1, h2, h3⟩
  have hc : M.c = N.c := h1.c.trans hs.c
  refine ⟨M, rfl, ⟨hc, ?_, h2.nd⟩, h3⟩
  have : M.L.length = N.L.length := by
    have := congrArg (fun c : NC => c.attrs.length) hc
    simpa [Nd.c] using this
  rw [this]
  exact hg.1.attrs
end
end Go.Proofs.YtelhnaphkbpakaaDoor
