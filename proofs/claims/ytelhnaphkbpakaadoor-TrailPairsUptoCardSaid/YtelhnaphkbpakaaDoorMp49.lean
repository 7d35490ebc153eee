/- Part 49 of the proof of TpP: lemmas. -/
import Derived.Test.YtelhnaphkbpakaaDoorMp48
namespace Go.Proofs.YtelhnaphkbpakaaDoor
open Go.RowKit
set_option linter.unusedVariables false
set_option maxRecDepth 100000
section
variable {B : Nat} {Q : Nat → Prop} {w w' : World} {fb : Nat} {F : For} {R : List RN} {rv : Value}
set_option maxHeartbeats 2000000 in
theorem handle_by (h : FoAt B Q w fb F R rv) {wh : Int} {s g : Nat} (hc : F.length = 0 ∨ wh < -1000) :
    Calls Tryd.prog 10 #[.pointer (some ⟨fb, 0, none⟩), .int .i64 wh, .agg #[.int .u32 (s : Int), .int .u32 (g : Int)]] w fun e w' => e = .returned (.agg #[.int .u32 (s : Int), .int .u32 (g : Int)]) ∧ Below w.heap.size w w' := by
  have b0 := h.b0
  have hl := h.len
  obtain ⟨ra, rc, hrv⟩ := h.shape
  rw [hrv] at b0
  obtain ⟨n, hn⟩ : ∃ n, n = F.length := ⟨_, rfl⟩
  rw [← hn] at b0 hc
  have l0 := cell_lt b0
  clear h hl hrv hn
  by_cases hz : n = 0
  · subst hz
    clear hc
    go_enter Tryd.func10, Tryd.ntmps10
    go_wp2_with fail
    have hX4 := alloc2_blk w (.cells #[.int .u32 (s : Int), .int .u32 (g : Int)] 31) (.cells #[.int .u32 (s : Int), .int .u32 (g : Int)] 31)
    have z0 := cell_blk hX4 0 rfl
    have z1 := cell_blk hX4 1 rfl
    exact bodyPost_ret (v := .agg #[.int .u32 (s : Int), .int .u32 (g : Int)]) (by simp [results, Tryd.results10, go_sem, z0, z1]) rfl ⟨rfl, ((Below.refl _ w).alloc (Nat.le_refl _) _).alloc (by simp) _⟩
  · have hw := hc.resolve_left hz
    have q1 : ((n : Int) == 0) = false := by simp [hz]
    have q2 : decide (wh < -1000) = true := decide_eq_true hw
    have q3 : ¬ ((n : Int) = 0) := by omega
    clear hc
    go_enter Tryd.func10, Tryd.ntmps10
    go_wp2_with fail
    have hX4 := alloc2_blk w (.cells #[.int .u32 (s : Int), .int .u32 (g : Int)] 31) (.cells #[.int .u32 (s : Int), .int .u32 (g : Int)] 31)
    have z0 := cell_blk hX4 0 rfl
    have z1 := cell_blk hX4 1 rfl
    exact bodyPost_ret (v := .agg #[.int .u32 (s : Int), .int .u32 (g : Int)]) (by simp [results, Tryd.results10, go_sem, z0, z1]) rfl ⟨rfl, ((Below.refl _ w).alloc (Nat.le_refl _) _).alloc (by simp) _⟩
set_option maxHeartbeats 2000000 in
theorem handle_of (h : FoAt B Q w fb F R rv) {wh : Int} (hwh : -9223372036854775808 ≤ wh ∧ wh ≤ 9223372036854775807) {s g : Nat} (hn0 : 0 < F.length) (h1 : ¬ wh < -1000) {x : FN} (hx : F[pick8 wh F.length]? = some x) :
    Calls Tryd.prog 10 #[.pointer (some ⟨fb, 0, none⟩), .int .i64 wh, .agg #[.int .u32 (s : Int), .int .u32 (g : Int)]] w fun e w' => e = .returned (.agg #[.int .u32 (x.sl : Int), .int .u32 (x.gn : Int)]) ∧ Below w.heap.size w w' := by
  have b0 := h.b0
  have hbig := h.big
  obtain ⟨gr, cap, P, dv, e, hR, y0, y1, y8, y9, y10⟩ := h.get hx
  rw [e] at b0
  have hpk := pick8_lt wh hn0
  have HPK := Lib.hid (fun W => pick8_calls W wh F.length hwh hn0 (by omega))
  obtain ⟨n, hn⟩ : ∃ n, n = F.length := ⟨_, rfl⟩
  obtain ⟨k, hk⟩ : ∃ k, k = pick8 wh F.length := ⟨_, rfl⟩
  rw [← hk] at y0 y1 hpk HPK
  rw [← hn] at b0 hn0 hbig hpk HPK
  obtain ⟨a, ha⟩ : ∃ a, a = x.sl := ⟨_, rfl⟩
  obtain ⟨b, hb⟩ : ∃ a, a = x.gn := ⟨_, rfl⟩
  rw [← ha] at y0 ⊢
  rw [← hb] at y1 ⊢
  have l0 := cell_lt b0
  have l1 := cell_lt y0
  have q1 : ((n : Int) == 0) = false := by simp; omega
  have q2 : decide (wh < -1000) = false := decide_eq_false h1
  have q3 : ¬ ((n : Int) = 0) := by omega
  have HC : Hid (∀ W, Below w.heap.size w W → W.cell? ⟨fb, 0, none⟩ = some (.slice (some ⟨gr, 0, none⟩) n cap) ∧ W.cell? ⟨gr, k * 11, none⟩ = some (.int .u32 (a : Int)) ∧ W.cell? ⟨gr, k * 11 + 1, none⟩ = some (.int .u32 (b : Int))) := Lib.hid (fun W bb => ⟨(bb.cell (p := ⟨fb, 0, none⟩) l0).trans b0, (bb.cell (p := ⟨gr, k * 11, none⟩) l1).trans y0, (bb.cell (p := ⟨gr, k * 11 + 1, none⟩) l1).trans y1⟩)
  have hlo : Below w.heap.size w ((w.alloc (.cells #[.int .u32 (s : Int), .int .u32 (g : Int)] 31)).alloc (.cells #[.int .u32 0, .int .u32 0] 31)) := ((Below.refl _ w).alloc (Nat.le_refl _) _).alloc (by simp) _
  have HLO := Lib.hid hlo
  have HZ := Lib.hid (alloc2_blk w (.cells #[.int .u32 (s : Int), .int .u32 (g : Int)] 31) (.cells #[.int .u32 0, .int .u32 0] 31))
  clear h e hR y8 y9 y10 hx hn hk ha hb hlo
  go_enter Tryd.func10, Tryd.ntmps10
  go_wp2_with fail
  generalize hV : (w.alloc (.cells #[.int .u32 (s : Int), .int .u32 (g : Int)] 31)).alloc (.cells #[.int .u32 0, .int .u32 0] 31) = V at *
  have HVC := Lib.hid (HC.out V HLO.out)
  have HLD := Lib.hid HLO.out.drew
  have HZD : Hid (V.drew.heap[w.heap.size + 1]? = some (.cells #[.int .u32 0, .int .u32 0] 31 (0, 0))) := Lib.hid HZ.out
  go_region_held3 (fun W => W.cell? ⟨fb, 0, none⟩ = some (.slice (some ⟨gr, 0, none⟩) n cap) ∧ W.cell? ⟨gr, k * 11, none⟩ = some (.int .u32 (a : Int)) ∧ W.cell? ⟨gr, k * 11 + 1, none⟩ = some (.int .u32 (b : Int))) (first | exact HC.out _ ((HB1.out.setCell (Nat.le_succ _) _).setCell (Nat.le_succ _) _) | exact HC.out _ HB1.out | exact HVC.out) (first | (go_at_call 30; refine (HPK.out _).mono ?_; rintro e w1 ⟨rfl, b1⟩; have HB1 := Lib.hid (HLD.out.trans (b1.mono HLD.out.size)); have hz := (b1.block _ (lt_of_some HZD.out)).trans HZD.out; have r0 := cell_blk hz 0 rfl; have r1 := cell_blk hz 1 rfl; have f0 := free_blk hz 0; have f1 := free_blk hz 1; have lr := lt_of_some hz; have HZ1 := Lib.hid hz; clear hz))
  go_wp2_with fail
  have hF := set_blk (set_blk HZ1.out 0 (.int .u32 (a : Int))) 1 (.int .u32 (b : Int))
  have z0 := cell_blk hF 0 rfl
  have z1 := cell_blk hF 1 rfl
  try rw [Exit.noGoto_ret]
  exact bodyPost_ret (v := .agg #[.int .u32 (a : Int), .int .u32 (b : Int)]) (by simp [results, Tryd.results10, go_sem, z0, z1]) rfl ⟨rfl, (HB1.out.setCell (Nat.le_succ _) _).setCell (Nat.le_succ _) _⟩
end
end Go.Proofs.YtelhnaphkbpakaaDoor
namespace Go.Proofs.YtelhnaphkbpakaaDoor
open Go.RowKit Go.Shelf
set_option linter.unusedVariables false
set_option maxRecDepth 100000
theorem atI_cases (F : For) (s g : Nat) : (atI F s g = -1 ∧ ¬ Lv F s g) ∨ ∃ (k : Nat) (x : FN), atI F s g = (k : Int) ∧ F[k]? = some x ∧ x.live = true ∧ x.sl = s ∧ x.gn = g := by
  unfold atI
  cases h : F.findIdx? (isH s g) with
  | none =>
    refine .inl ⟨rfl, ?_⟩
    rintro ⟨k, x, hx, hl, hs, hg⟩
    have := List.findIdx?_eq_none_iff.1 h x (List.mem_of_getElem? hx)
    simp [isH, hl, hs, hg] at this
  | some k =>
    obtain ⟨hk, hp, _⟩ := List.findIdx?_eq_some_iff_getElem.1 h
    simp only [isH, Bool.and_eq_true, decide_eq_true_eq] at hp
    exact .inr ⟨k, F[k], rfl, List.getElem?_eq_getElem hk, hp.1, hp.2.1, hp.2.2⟩
section
variable {B B' : Nat} {Q Q' : Nat → Prop} {w : World} {tb fb : Nat} {X : TX} {R : List RN} {rv : Value}
theorem rhandle_o (h : FoAt B' Q' w fb X.F R rv) {o : Option Nat} (ho : ∀ m, o = some m → m < X.F.length) :
    Calls Tryd.prog 19 #[.pointer (some ⟨fb, 0, none⟩), .int .i64 (upI o)] w fun e w' => e = .returned (.agg #[.int .u32 ((hd X.F o).1 : Int), .int .u32 ((hd X.F o).2 : Int)]) ∧ Below w.heap.size w w' := by
  cases o with
  | none => exact rhandle_none w fb (by decide)
  | some m =>
    have hx : X.F[m]? = some (X.F[m]'(ho m rfl)) := List.getElem?_eq_getElem _
    have e := hd_some hx
    rw [e]
    exact rhandle_calls h hx
end
structure AkV where
  a : Int
  b : Int
  c : Int
  e : Int
  s : Nat
  g : Nat
def AkV.cells (x : AkV) : List Value := [.int .i64 x.a, .int .i64 x.b, .int .i64 x.c, .int .i64 x.e, .int .u32 (x.s : Int), .int .u32 (x.g : Int)]
structure AkB (x : AkV) : Prop where
  a : -9223372036854775808 ≤ x.a ∧ x.a ≤ 9223372036854775807
  b : -9223372036854775808 ≤ x.b ∧ x.b ≤ 9223372036854775807
  c : -9223372036854775808 ≤ x.c ∧ x.c ≤ 9223372036854775807
  h : x.s ≤ 4294967295 ∧ x.g ≤ 4294967295
structure AksIn (w : World) (ad : Option Addr) (K : List AkV) : Prop where
  at_ : ∀ (i : Nat) (x : AkV), K[i]? = some x → ∃ k off, ad = some ⟨k, off, none⟩ ∧ ∀ j v, x.cells[j]? = some v → w.cell? ⟨k, off + i * 6 + j, none⟩ = some v
  ok : ∀ x ∈ K, AkB x
theorem AksIn.below {w W : World} {a : Option Addr} {K : List AkV} (h : AksIn w a K) (b : Below w.heap.size w W) : AksIn W a K :=
  ⟨fun i x hx => by
    obtain ⟨k, off, e, hc⟩ := h.at_ i x hx
    exact ⟨k, off, e, fun j v hv => (b.cell (p := ⟨k, off + i * 6 + j, none⟩) (cell_lt (hc j v hv))).trans (hc j v hv)⟩, h.ok⟩
theorem MksIn.low {w W : World} {a : Option Addr} {L : List MkV} (h : MksIn w a L) (b : Below w.heap.size w W) : MksIn W a L :=
  ⟨fun i x hx => by
    obtain ⟨k, off, e, hc⟩ := h.at_ i x hx
    exact ⟨k, off, e, fun j v hv => (b.cell (p := ⟨k, off + i * 6 + j, none⟩) (cell_lt (hc j v hv))).trans (hc j v hv)⟩,
   fun x hx => ⟨(h.ok x hx).1, (h.ok x hx).2.1.keep (fun k o hk => (b.block k (lt_of_some hk)).trans hk), (h.ok x hx).2.2⟩⟩
section
variable {B B' : Nat} {Q Q' : Nat → Prop} {w : World} {tb fb : Nat} {X : TX} {F : For} {R : List RN} {rv : Value}
theorem handle_any (h : FoAt B Q w fb F R rv) (hb : BdH F) {wh : Int} (hwh : -9223372036854775808 ≤ wh ∧ wh ≤ 9223372036854775807) {s g : Nat} (hsg : s ≤ 4294967295 ∧ g ≤ 4294967295) :
    ∃ sa ga : Nat, (sa ≤ 4294967295 ∧ ga ≤ 4294967295) ∧ ∀ W, Below w.heap.size w W → Calls Tryd.prog 10 #[.pointer (some ⟨fb, 0, none⟩), .int .i64 wh, .agg #[.int .u32 (s : Int), .int .u32 (g : Int)]] W fun e w' => e = .returned (.agg #[.int .u32 (sa : Int), .int .u32 (ga : Int)]) ∧ Below W.heap.size W w' := by
  by_cases hc : F.length = 0 ∨ wh < -1000
  · exact ⟨s, g, hsg, fun W b => handle_by (h.below b) hc⟩
  · have h0 : 0 < F.length := by omega
    have hx : F[pick8 wh F.length]? = some (F[pick8 wh F.length]'(pick8_lt wh h0)) := List.getElem?_eq_getElem _
    exact ⟨_, _, hb _ (List.mem_of_getElem? hx), fun W b => handle_of (h.below b) hwh h0 (by omega) hx⟩
end
end Go.Proofs.YtelhnaphkbpakaaDoor
namespace Go.Proofs.YtelhnaphkbpakaaDoor
set_option linter.unusedVariables false
theorem parted {F : For} {a b : Nat} {la lb xs ys s : List Nat} (ha : Chain F a la) (hb : Chain F b lb) (hw : Ways la lb xs ys s) (ht : ∀ xs' p ys' q, xs = xs' ++ [p] → ys = ys' ++ [q] → p ≠ q) : ∀ u ∈ xs, u ∉ lb := by
  intro u hu hm
  obtain ⟨x1, x2, e1⟩ := List.append_of_mem hu
  obtain ⟨y1, y2, e2⟩ := List.append_of_mem hm
  have h1 : Chain F u (u :: (x2 ++ s)) := ha.at (a := x1) (b := x2 ++ s) (by rw [hw.a, e1]; simp)
  have h2 : Chain F u (u :: y2) := hb.at e2
  have h3 : x2 ++ s = y2 := by have := h1.det h2; injection this
  subst h3
  have h4 : ys ++ s = (y1 ++ u :: x2) ++ s := by rw [← hw.b, e2]; simp
  have h5 : ys = y1 ++ u :: x2 := List.append_cancel_right h4
  obtain ⟨t, z, e⟩ := last_ne (l := u :: x2) (by simp)
  exact ht (x1 ++ t) z (y1 ++ t) z (by rw [e1, e]; simp) (by rw [h5, e]; simp) rfl
theorem common_find {F : For} {a b : Nat} {la lb xs ys s : List Nat} (ha : Chain F a la) (hb : Chain F b lb) (hw : Ways la lb xs ys s) (ht : ∀ xs' p ys' q, xs = xs' ++ [p] → ys = ys' ++ [q] → p ≠ q) : la.find? (fun u => decide (u ∈ lb)) = s.head? := by
  have hn := parted ha hb hw ht
  rw [hw.a, List.find?_append]
  have h0 : xs.find? (fun u => decide (u ∈ lb)) = none := List.find?_eq_none.2 (fun u hu => by simpa using hn u hu)
  rw [h0, Option.none_or]
  cases s with
  | nil => rfl
  | cons v t => rw [List.find?_cons_of_pos (by rw [hw.b]; simp)]; rfl
theorem find_at {la lb p q : List Nat} {u : Nat} (h : la = p ++ u :: q) (hp : ∀ x ∈ p, x ∉ lb) (hu : u ∈ lb) : la.find? (fun u => decide (u ∈ lb)) = some u := by
  rw [h, List.find?_append]
  have h0 : p.find? (fun u => decide (u ∈ lb)) = none := List.find?_eq_none.2 (fun u hu => by simpa using hp u hu)
  rw [h0, Option.none_or, List.find?_cons_of_pos (by simpa using hu)]
theorem find_none {la lb : List Nat} (hp : ∀ x ∈ la, x ∉ lb) : la.find? (fun u => decide (u ∈ lb)) = none := List.find?_eq_none.2 (fun u hu => by simpa using hp u hu)
end Go.Proofs.YtelhnaphkbpakaaDoor
namespace Go.Proofs.YtelhnaphkbpakaaDoor
open Go.RowKit
set_option linter.unusedVariables false
set_option maxRecDepth 100000
theorem alloc4_at (w : World) (a b c d : Obj) : ((((w.alloc a).alloc b).alloc c).alloc d).heap[w.heap.size]? = some a ∧ ((((w.alloc a).alloc b).alloc c).alloc d).heap[w.heap.size + 1]? = some b ∧ ((((w.alloc a).alloc b).alloc c).alloc d).heap[w.heap.size + 2]? = some c ∧ ((((w.alloc a).alloc b).alloc c).alloc d).heap[w.heap.size + 3]? = some d := by
  obtain ⟨h1, h2, h3⟩ := alloc3_at w a b c
  refine ⟨alloc_blk h1 d, alloc_blk h2 d, alloc_blk h3 d, ?_⟩
  have := Go.heap_alloc_new (((w.alloc a).alloc b).alloc c) d
  simpa using this
theorem CW.set {F : For} {la lb : List Nat} {g1 g2 : Nat} {W : World} (h : CW F la lb g1 g2 W) (a : Addr) (v : Value) (h1 : g1 ≠ a.block) (h2 : g2 ≠ a.block) : CW F la lb g1 g2 (W.setCell a v) :=
  ⟨fun j k hj => ⟨(set_cell_ne v h1).trans (h.1 j k hj).1, (set_cell_ne v h1).trans (h.1 j k hj).2⟩, fun j k hj => ⟨(set_cell_ne v h2).trans (h.2 j k hj).1, (set_cell_ne v h2).trans (h.2 j k hj).2⟩⟩
theorem CW.below {F : For} {la lb : List Nat} {g1 g2 : Nat} {W W' : World} (h : CW F la lb g1 g2 W) (b : Below W.heap.size W W') : CW F la lb g1 g2 W' :=
  ⟨fun j k hj => ⟨(b.cell (p := ⟨g1, j * 2, none⟩) (cell_lt (h.1 j k hj).1)).trans (h.1 j k hj).1, (b.cell (p := ⟨g1, j * 2 + 1, none⟩) (cell_lt (h.1 j k hj).2)).trans (h.1 j k hj).2⟩, fun j k hj => ⟨(b.cell (p := ⟨g2, j * 2, none⟩) (cell_lt (h.2 j k hj).1)).trans (h.2 j k hj).1, (b.cell (p := ⟨g2, j * 2 + 1, none⟩) (cell_lt (h.2 j k hj).2)).trans (h.2 j k hj).2⟩⟩
structure CmR (F : For) (w : World) (la lb : List Nat) (g1 g2 L0 k j : Nat) (W : World) (xs ys s : List Nat) : Prop where
  ways : Ways la lb xs ys s
  xl : xs.length = k
  yl : ys.length = j
  cw : CW F la lb g1 g2 W
  low : Below w.heap.size w W
  box : W.heap[L0]? = some (.cells #[.int .u32 ((hd F s.head?).1 : Int), .int .u32 ((hd F s.head?).2 : Int)] 31 (0, 0))
  res : W.heap[w.heap.size + 1 + 1]? = some (.cells #[.int .u32 0, .int .u32 0] 31 (0, 0))
section
variable {B : Nat} {Q : Nat → Prop} {w w' : World} {tb : Nat} {X : TX}
set_option maxHeartbeats 8000000 in
theorem commonT_calls (h : TreeAt B Q w tb X) (hz : NoneAt w) {ka kb : Nat} {xa xb : FN} (ha : X.F[ka]? = some xa) (hal : xa.live = true) (hb : X.F[kb]? = some xb) (hbl : xb.live = true) {la lb : List Nat} (hca : Chain X.F ka la) (hcb : Chain X.F kb lb) {ro : Option Nat} (hres : ro = la.find? (fun u => decide (u ∈ lb))) :
    Calls Tryd.prog 15 #[.pointer (some ⟨tb, 0, none⟩), .agg #[.int .u32 (xa.sl : Int), .int .u32 (xa.gn : Int)], .agg #[.int .u32 (xb.sl : Int), .int .u32 (xb.gn : Int)]] w fun e w' => e = .returned (.tuple #[.agg #[.int .u32 ((hd X.F ro).1 : Int), .int .u32 ((hd X.F ro).2 : Int)], .int .i64 0]) ∧ Below w.heap.size w w' := by
  have HT := Lib.hid h
  have HZ := Lib.hid hz
  have HRES := Lib.hid hres
  have HCH := Lib.hid (And.intro hca hcb)
  have HLV : Hid ((∀ m ∈ la, ∃ y : FN, X.F[m]? = some y ∧ y.live = true) ∧ (∀ m ∈ lb, ∃ y : FN, X.F[m]? = some y ∧ y.live = true)) := Lib.hid ⟨hca.lives h.fok ha hal, hcb.lives h.fok hb hbl⟩
  have HAB1 : Hid (∀ W, Below w.heap.size w W → Calls Tryd.prog 41 #[.pointer (some ⟨tb, 0, none⟩), .agg #[.int .u32 (xa.sl : Int), .int .u32 (xa.gn : Int)]] W fun e w' => ∃ g c, e = .returned (.slice (some ⟨g, 0, none⟩) la.length c) ∧ w'.ownsRow W.heap.size 31 2 (.slice (some ⟨g, 0, none⟩) la.length c) la.length (hcells X.F la) ∧ Below W.heap.size W w') := Lib.hid (fun W b => (above_calls (h.below b) (hz.below b) ha hal hca).mono (by
    rintro e w' ⟨v, rfl, h1, h2⟩
    obtain ⟨g, c, rfl⟩ := row_pos h1 (by obtain ⟨t, ht⟩ := hca.ne_nil; rw [ht]; simp)
    exact ⟨g, c, rfl, h1, h2⟩))
  have HAB2 : Hid (∀ W, Below w.heap.size w W → Calls Tryd.prog 41 #[.pointer (some ⟨tb, 0, none⟩), .agg #[.int .u32 (xb.sl : Int), .int .u32 (xb.gn : Int)]] W fun e w' => ∃ g c, e = .returned (.slice (some ⟨g, 0, none⟩) lb.length c) ∧ w'.ownsRow W.heap.size 31 2 (.slice (some ⟨g, 0, none⟩) lb.length c) lb.length (hcells X.F lb) ∧ Below W.heap.size W w') := Lib.hid (fun W b => (above_calls (h.below b) (hz.below b) hb hbl hcb).mono (by
    rintro e w' ⟨v, rfl, h1, h2⟩
    obtain ⟨g, c, rfl⟩ := row_pos h1 (by obtain ⟨t, ht⟩ := hcb.ne_nil; rw [ht]; simp)
    exact ⟨g, c, rfl, h1, h2⟩))
  obtain ⟨nba, Pa, hma, hata, hsla, hs2a, hg2a⟩ := h.rw.at_live ha hal
  obtain ⟨nbb, Pb, hmb, hatb, hslb, hs2b, hg2b⟩ := h.rw.at_live hb hbl
  have HLI : Hid (∀ W gb, Below w.heap.size w W → HRow W gb [(xa.sl, xa.gn), (xb.sl, xb.gn)] → Calls Tryd.prog 40 #[.pointer (some ⟨tb, 0, none⟩), .slice (some ⟨gb, 0, none⟩) 2 2] W fun e w' => e = .returned (.int .i64 0) ∧ Below W.heap.size W w') := Lib.hid (fun W gb b hr => lives_calls (h.rw.below b) hr (by simp) (.inl ⟨rfl, by
    intro p hp
    rcases List.mem_cons.1 hp with rfl | hp
    · exact ⟨ka, xa, ha, hal, rfl, rfl⟩
    · obtain rfl := List.mem_singleton.1 hp; exact ⟨kb, xb, hb, hbl, rfl, rfl⟩⟩))
  have hbig := h.rw.big
  have hla := hca.len
  have hlb := hcb.len
  have hl0 : 0 < la.length ∧ 0 < lb.length := by
    obtain ⟨t, ht⟩ := hca.ne_nil
    obtain ⟨u, hu⟩ := hcb.ne_nil
    rw [ht, hu]; simp
  have HHR : Hid (∀ W gb, W.heap[gb]? = some (.cells #[.int .u32 (xa.sl : Int), .int .u32 (xa.gn : Int), .int .u32 (xb.sl : Int), .int .u32 (xb.gn : Int)] 31 (0, 0)) → HRow W gb [(xa.sl, xa.gn), (xb.sl, xb.gn)]) := Lib.hid (fun W gb hgb => ⟨fun j p hp => by
    match j, hp with
    | 0, hp => cases hp; exact ⟨cell_blk hgb 0 rfl, cell_blk hgb 1 rfl⟩
    | 1, hp => cases hp; exact ⟨cell_blk hgb 2 rfl, cell_blk hgb 3 rfl⟩
    | j + 2, hp => simp at hp, by
    intro p hp
    rcases List.mem_cons.1 hp with rfl | hp
    · exact ⟨by simp only; omega, by simp only; omega⟩
    · obtain rfl := List.mem_singleton.1 hp; exact ⟨by simp only; omega, by simp only; omega⟩⟩)
  obtain ⟨n, hn⟩ : ∃ n, n = la.length := ⟨_, rfl⟩
  obtain ⟨m, hm⟩ : ∃ m, m = lb.length := ⟨_, rfl⟩
  have HNM := Lib.hid (And.intro hn hm)
  have HL0 := Lib.hid hl0
  rw [← hn] at HAB1 hla
  rw [← hm] at HAB2 hlb
  clear hma hata hsla hs2a hg2a hmb hatb hslb hs2b hg2b h hz ha hal hb hbl hca hcb hres hn hm hl0
  generalize xa.sl = sa at *
  generalize xa.gn = ga at *
  generalize xb.sl = sb at *
  generalize xb.gn = gb at *
  obtain ⟨V, hV⟩ : ∃ V, V = (((w.alloc (.cells #[.int .u32 (sa : Int), .int .u32 (ga : Int)] 31)).alloc (.cells #[.int .u32 (sb : Int), .int .u32 (gb : Int)] 31)).alloc (.cells #[.int .u32 0, .int .u32 0] 31)).alloc (.cells #[.int .u32 (sa : Int), .int .u32 (ga : Int), .int .u32 (sb : Int), .int .u32 (gb : Int)] 31) := ⟨_, rfl⟩
  have bV : Below w.heap.size w V := by rw [hV]; exact (alloc3_lo _ _ _ _).alloc (by simp; omega) _
  have hx := alloc4_at w (.cells #[.int .u32 (sa : Int), .int .u32 (ga : Int)] 31) (.cells #[.int .u32 (sb : Int), .int .u32 (gb : Int)] 31) (.cells #[.int .u32 0, .int .u32 0] 31) (.cells #[.int .u32 (sa : Int), .int .u32 (ga : Int), .int .u32 (sb : Int), .int .u32 (gb : Int)] 31)
  rw [← hV] at hx
  have HX := Lib.hid (And.intro hx bV)
  have HSW : Hid (∀ W, Below V.heap.size V W → (W.cell? ⟨w.heap.size, 0, none⟩ = some (.int .u32 (sa : Int)) ∧ W.cell? ⟨w.heap.size, 1, none⟩ = some (.int .u32 (ga : Int)) ∧ W.cell? ⟨w.heap.size + 1, 0, none⟩ = some (.int .u32 (sb : Int)) ∧ W.cell? ⟨w.heap.size + 1, 1, none⟩ = some (.int .u32 (gb : Int))) ∧ Below w.heap.size w W ∧ W.heap[w.heap.size + 1 + 1]? = some (.cells #[.int .u32 0, .int .u32 0] 31 (0, 0))) := Lib.hid (fun W bb => by
    have h1 := (bb.block _ (lt_of_some HX.out.1.1)).trans HX.out.1.1
    have h2 := (bb.block _ (lt_of_some HX.out.1.2.1)).trans HX.out.1.2.1
    have h3 := (bb.block _ (lt_of_some HX.out.1.2.2.1)).trans HX.out.1.2.2.1
    exact ⟨⟨cell_blk h1 0 rfl, cell_blk h1 1 rfl, cell_blk h2 0 rfl, cell_blk h2 1 rfl⟩, HX.out.2.trans (bb.mono HX.out.2.size), h3⟩)
  have HLL : Hid (Calls Tryd.prog 40 #[.pointer (some ⟨tb, 0, none⟩), .slice (some ⟨w.heap.size + 3, 0, none⟩) 2 2] V fun e w' => e = .returned (.int .i64 0) ∧ Below V.heap.size V w') := Lib.hid (HLI.out V _ HX.out.2 (HHR.out V _ HX.out.1.2.2.2))
  have hV2 := hV
  clear hV hx bV
  go_enter Tryd.func15, Tryd.ntmps15
  go_wp2_with fail
  rw [← hV2]
  clear hV2
  go_wp2_with (go_at_call 40; refine HLL.out.mono ?_; rintro e w1 ⟨rfl, b1⟩; have HB1 := Lib.hid b1; clear b1)
  go_region_held3 (fun W => (W.cell? ⟨w.heap.size, 0, none⟩ = some (.int .u32 (sa : Int)) ∧ W.cell? ⟨w.heap.size, 1, none⟩ = some (.int .u32 (ga : Int)) ∧ W.cell? ⟨w.heap.size + 1, 0, none⟩ = some (.int .u32 (sb : Int)) ∧ W.cell? ⟨w.heap.size + 1, 1, none⟩ = some (.int .u32 (gb : Int)))) (first | exact (HSW.out _ HB3.out).1 | exact (HSW.out _ HB2.out).1 | exact (HSW.out _ HB1.out.drew).1) (first | (have hh := HB2; go_at_call 41; refine (HAB2.out _ (HSW.out _ HB2.out).2.1).mono ?_; rintro e w3 ⟨g2, c2, rfl, hr2, b3⟩; have HB3 := Lib.hid (HB2.out.trans (b3.mono HB2.out.size)); have HR2 := Lib.hid (And.intro hr2 (row_below HR1.out b3))) | (go_at_call 41; refine (HAB1.out _ (HSW.out _ HB1.out.drew).2.1).mono ?_; rintro e w2 ⟨g1, c1, rfl, hr1, b2⟩; have HB2 := Lib.hid (HB1.out.drew.trans (b2.mono HB1.out.size)); have HR1 := Lib.hid hr1))
  have HCW : Hid (CW X.F la lb g1 g2 w3) := Lib.hid ⟨fun j k hj => hrow_cell HR2.out.2 HNM.out.1 hj, fun j k hj => hrow_cell HR2.out.1 HNM.out.2 hj⟩
  have HLOW : Hid (Below w.heap.size w w3) := Lib.hid (HSW.out _ HB3.out).2.1
  have HZR : Hid (w3.heap[w.heap.size + 1 + 1]? = some (.cells #[.int .u32 0, .int .u32 0] 31 (0, 0))) := Lib.hid (HSW.out _ HB3.out).2.2
  have hc1 : n ≤ c1 := (row_cap HR2.out.2).2.1
  have hc2 : m ≤ c2 := (row_cap HR2.out.1).2.1
  have HC1 := Lib.hid hc1
  have HC2 := Lib.hid hc2
  have HGL : Hid (g1 < w3.heap.size ∧ g2 < w3.heap.size) := Lib.hid ⟨by
    obtain ⟨c, hc⟩ : ∃ c, la[0]? = some c := ⟨_, List.getElem?_eq_getElem HL0.out.1⟩
    exact cell_lt (HCW.out.1 0 c hc).1, by
    obtain ⟨c, hc⟩ : ∃ c, lb[0]? = some c := ⟨_, List.getElem?_eq_getElem HL0.out.2⟩
    exact cell_lt (HCW.out.2 0 c hc).1⟩
  have n0 := (HZ.out.below HLOW.out).a
  have n1 := (HZ.out.below HLOW.out).b
  have nl := cell_lt n0
  clear HB1 HB2 HB3 HR1 HR2 hh b2 b3 hr1 hr2 HX HLL HSW HLI HHR
  go_wp2_with fail
  clear n0 n1 nl
  go_loopg [9, 10] n (fun k v9 v10 wr => ∃ (j : Nat) (xs ys s : List Nat), v9 = .slice (some ⟨g1, 0, none⟩) k c1 ∧ v10 = .slice (some ⟨g2, 0, none⟩) j c2 ∧ Hid (CmR X.F w la lb g1 g2 w3.heap.size k j wr xs ys s))
  case atStart => exact ⟨m, la, lb, [], rfl, rfl, Lib.hid ⟨⟨by simp, by simp⟩, HNM.out.1.symm, HNM.out.2.symm, HCW.out.below ((Below.refl _ w3).alloc (Nat.le_refl _) _), HLOW.out.alloc HLOW.out.size _, Go.heap_alloc_new w3 _, alloc_blk HZR.out _⟩⟩
  case round =>
    obtain ⟨j, xs, ys, s, rfl, rfl, hw⟩ := hrel
    have hws := hw.out.ways
    have hxl := hw.out.xl
    have hyl := hw.out.yl
    have HLO := Lib.hid hw.out.low
    have HC := Lib.hid hw.out.cw
    have HRS := Lib.hid hw.out.res
    have hkn : gk ≤ n := by have := congrArg List.length hws.a; simp at this; have := HNM.out.1; omega
    have hjm : j ≤ m := by have := congrArg List.length hws.b; simp at this; have := HNM.out.2; omega
    obtain ⟨hs, hhs⟩ : ∃ x, x = (hd X.F s.head?).1 := ⟨_, rfl⟩
    obtain ⟨hg, hhg⟩ : ∃ x, x = (hd X.F s.head?).2 := ⟨_, rfl⟩
    have HBX : Hid (wr.heap[w3.heap.size]? = some (.cells #[.int .u32 (hs : Int), .int .u32 (hg : Int)] 31 (0, 0))) := Lib.hid (by rw [hhs, hhg]; exact hw.out.box)
    have HSG : Hid (Ending.returned (.tuple #[.agg #[.int .u32 (hs : Int), .int .u32 (hg : Int)], .int .i64 0]) = Ending.returned (.tuple #[.agg #[.int .u32 ((hd X.F s.head?).1 : Int), .int .u32 ((hd X.F s.head?).2 : Int)], .int .i64 0])) := Lib.hid (by rw [hhs, hhg])
    have HEX : Hid ((∀ xs' p ys' q, xs = xs' ++ [p] → ys = ys' ++ [q] → p ≠ q) → ro = s.head?) := Lib.hid (fun ht => by rw [HRES.out]; exact common_find HCH.out.1 HCH.out.2 hw.out.ways ht)
    clear hw hhs hhg
    by_cases hk0 : gk = 0
    · subst hk0
      have hxs : xs = [] := List.eq_nil_of_length_eq_zero hxl
      have HV : Hid (ro = s.head?) := Lib.hid (HEX.out (fun xs' p ys' q e _ => by rw [hxs] at e; simp at e))
      clear hxs hws hxl hyl hkn hjm HEX
      go_wp2_with fail
      go_quiet (fail)
      have hbx : (wr.drewN nq).heap[w3.heap.size]? = some (.cells #[.int .u32 (hs : Int), .int .u32 (hg : Int)] 31 (0, 0)) := HBX.out
      have hrs : (wr.drewN nq).heap[w.heap.size + 1 + 1]? = some (.cells #[.int .u32 0, .int .u32 0] 31 (0, 0)) := HRS.out
      have z0 := cell_blk hbx 0 rfl
      have z1 := cell_blk hbx 1 rfl
      have r0 := cell_blk hrs 0 rfl
      have r1 := cell_blk hrs 1 rfl
      have f0 := free_blk hrs 0
      have f1 := free_blk hrs 1
      have lz := lt_of_some hbx
      have lr := lt_of_some hrs
      have hb3 := below_drewN HLO.out nq
      have hF := set_blk (set_blk hrs 0 (.int .u32 (hs : Int))) 1 (.int .u32 (hg : Int))
      have HF := Lib.hid hF
      clear hbx hrs hF
      go_wp2_with fail
      have y0' := cell_blk HF.out 0 rfl
      have y1' := cell_blk HF.out 1 rfl
      try rw [Exit.noGoto_ret]
      exact bodyPost_ret (v := .tuple #[.agg #[.int .u32 (hs : Int), .int .u32 (hg : Int)], .int .i64 0]) (by simp [results, Tryd.results15, go_sem, y0', y1']) rfl ⟨by rw [HV.out]; exact HSG.out, (hb3.setCell (by show w.heap.size ≤ w.heap.size + 1 + 1; omega) _).setCell (by show w.heap.size ≤ w.heap.size + 1 + 1; omega) _⟩
    · have e1 : decide (0 < gk) = true := by simp; omega
      have e4 : ¬ (gk = 0) := by omega
      by_cases hj0 : j = 0
      · subst hj0
        have hys : ys = [] := List.eq_nil_of_length_eq_zero hyl
        have HV : Hid (ro = s.head?) := Lib.hid (HEX.out (fun xs' p ys' q _ e => by rw [hys] at e; simp at e))
        clear hys hws hxl hyl hkn hjm HEX hk0
        go_wp2_with fail
        go_quiet (fail)
        have hbx : (wr.drewN nq).heap[w3.heap.size]? = some (.cells #[.int .u32 (hs : Int), .int .u32 (hg : Int)] 31 (0, 0)) := HBX.out
        have hrs : (wr.drewN nq).heap[w.heap.size + 1 + 1]? = some (.cells #[.int .u32 0, .int .u32 0] 31 (0, 0)) := HRS.out
        have z0 := cell_blk hbx 0 rfl
        have z1 := cell_blk hbx 1 rfl
        have r0 := cell_blk hrs 0 rfl
        have r1 := cell_blk hrs 1 rfl
        have f0 := free_blk hrs 0
        have f1 := free_blk hrs 1
        have lz := lt_of_some hbx
        have lr := lt_of_some hrs
        have hb3 := below_drewN HLO.out nq
        have hF := set_blk (set_blk hrs 0 (.int .u32 (hs : Int))) 1 (.int .u32 (hg : Int))
        have HF := Lib.hid hF
        clear hbx hrs hF
        go_wp2_with fail
        have y0' := cell_blk HF.out 0 rfl
        have y1' := cell_blk HF.out 1 rfl
        try rw [Exit.noGoto_ret]
        exact bodyPost_ret (v := .tuple #[.agg #[.int .u32 (hs : Int), .int .u32 (hg : Int)], .int .i64 0]) (by simp [results, Tryd.results15, go_sem, y0', y1']) rfl ⟨by rw [HV.out]; exact HSG.out, (hb3.setCell (by show w.heap.size ≤ w.heap.size + 1 + 1; omega) _).setCell (by show w.heap.size ≤ w.heap.size + 1 + 1; omega) _⟩
      · have d1 : decide (0 < j) = true := by simp; omega
        have d4 : ¬ (j = 0) := by omega
        obtain ⟨xs', p, hxp⟩ := last_ne (l := xs) (fun e => hk0 (by rw [← hxl, e]; rfl))
        obtain ⟨ys', q, hyp⟩ := last_ne (l := ys) (fun e => hj0 (by rw [← hyl, e]; rfl))
        obtain ⟨i1, hi1⟩ : ∃ i, i = xs'.length := ⟨_, rfl⟩
        obtain ⟨i2, hi2⟩ : ∃ i, i = ys'.length := ⟨_, rfl⟩
        have hpa : la[i1]? = some p := by rw [hws.a, hxp, hi1]; simp
        have hqb : lb[i2]? = some q := by rw [hws.b, hyp, hi2]; simp
        obtain ⟨x0, x1⟩ := HC.out.1 i1 p hpa
        obtain ⟨y0, y1⟩ := HC.out.2 i2 q hqb
        have hg1 : gk = i1 + 1 := by rw [← hxl, hxp, hi1]; simp
        have hg2 : j = i2 + 1 := by rw [← hyl, hyp, hi2]; simp
        have lx := cell_lt x0
        have ly := cell_lt y0
        simp only at lx ly
        have l1 : i1 < gk := by omega
        have l2 : i2 < j := by omega
        have l3 : i1 ≤ c1 := by omega
        have l4 : i2 ≤ c2 := by omega
        have wn : IntKind.i64.wrap ((gk : Int) - 1) = (i1 : Int) := by rw [show ((gk : Int) - 1) = (i1 : Int) by omega]; exact IntWalk.i64_in _ (by omega)
        have wm : IntKind.i64.wrap ((j : Int) - 1) = (i2 : Int) := by rw [show ((j : Int) - 1) = (i2 : Int) by omega]; exact IntWalk.i64_in _ (by omega)
        have hpl := HLV.out.1 p (List.mem_of_getElem? hpa)
        have hql := HLV.out.2 q (List.mem_of_getElem? hqb)
        have hE := HT.out.rw.hd_inj hpl hql
        by_cases hpq : p = q
        · have q1 : hEq ((hd X.F (some p)).1 : Int) ((hd X.F (some p)).2 : Int) ((hd X.F (some q)).1 : Int) ((hd X.F (some q)).2 : Int) = true := by rw [hE]; exact decide_eq_true hpq
          have HNX : Hid (Ways la lb xs' ys' (p :: s) ∧ xs'.length = i1 ∧ ys'.length = i2) := Lib.hid ⟨by
            have := hws
            rw [hxp, hyp, ← hpq] at this
            exact this.next, hi1.symm, hi2.symm⟩
          have HM : Hid (i1 < gk) := Lib.hid l1
          have hbw := HBX.out
          have hrw := HRS.out
          have f0 := free_blk hbw 0
          have f1 := free_blk hbw 1
          have lz := lt_of_some hbw
          have HNE : Hid (g1 ≠ w3.heap.size ∧ g2 ≠ w3.heap.size ∧ w.heap.size + 1 + 1 ≠ w3.heap.size ∧ w.heap.size ≤ w3.heap.size) := Lib.hid ⟨Nat.ne_of_lt HGL.out.1, Nat.ne_of_lt HGL.out.2, Nat.ne_of_lt (lt_of_some HZR.out), HLOW.out.size⟩
          have HX0 := Lib.hid (And.intro x0 x1)
          clear hbw hrw hws hxp hyp hpa hqb hg1 hg2 hpl hql hE hpq hi1 hi2 hxl hyl hk0 hj0 HEX
          go_wp2_with fail
          go_quiet (fail)
          have hbx : (wr.drewN nq).heap[w3.heap.size]? = some (.cells #[.int .u32 (hs : Int), .int .u32 (hg : Int)] 31 (0, 0)) := HBX.out
          have hrs : (wr.drewN nq).heap[w.heap.size + 1 + 1]? = some (.cells #[.int .u32 0, .int .u32 0] 31 (0, 0)) := HRS.out
          have z0 := cell_blk hbx 0 rfl
          have z1 := cell_blk hbx 1 rfl
          have f2 := free_blk hbx 0
          have f3 := free_blk hbx 1
          have x2 : (wr.drewN nq).cell? ⟨g1, i1 * 2, none⟩ = some (.int .u32 ((hd X.F (some p)).1 : Int)) := HX0.out.1
          have x3 : (wr.drewN nq).cell? ⟨g1, i1 * 2 + 1, none⟩ = some (.int .u32 ((hd X.F (some p)).2 : Int)) := HX0.out.2
          have hb3 := below_drewN HLO.out nq
          have hcw : CW X.F la lb g1 g2 (wr.drewN nq) := HC.out
          have HD := Lib.hid (And.intro hbx (And.intro hrs (And.intro hb3 hcw)))
          clear hbx hrs hb3 hcw
          go_wp2_with fail
          go_quiet (fail)
          go_wp2_with fail
          go_roundg i1
          case measure => exact HM.out
          case rel => exact ⟨i2, xs', ys', p :: s, by go_num, by go_num, Lib.hid ⟨HNX.out.1, HNX.out.2.1, HNX.out.2.2, (HD.out.2.2.2.set ⟨w3.heap.size, 0, none⟩ _ HNE.out.1 HNE.out.2.1).set ⟨w3.heap.size, 1, none⟩ _ HNE.out.1 HNE.out.2.1, below_drewN ((HD.out.2.2.1.setCell HNE.out.2.2.2 _).setCell HNE.out.2.2.2 _) _, set_blk (set_blk HD.out.1 0 _) 1 _, ((heap_setCell_other _ _ _ _ HNE.out.2.2.1).trans (heap_setCell_other _ _ _ _ HNE.out.2.2.1)).trans HD.out.2.1⟩⟩
        · have q1 : hEq ((hd X.F (some p)).1 : Int) ((hd X.F (some p)).2 : Int) ((hd X.F (some q)).1 : Int) ((hd X.F (some q)).2 : Int) = false := by rw [hE]; exact decide_eq_false hpq
          have HV : Hid (ro = s.head?) := Lib.hid (HEX.out (fun xs'' p' ys'' q' e f h => hpq (by
            rw [hxp] at e; rw [hyp] at f
            have e := List.append_inj' e rfl
            have f := List.append_inj' f rfl
            simp at e f
            rw [e.2, f.2, h])))
          clear hws hxp hyp hpa hqb hg1 hg2 hpl hql hE hpq hi1 hi2 hxl hyl hk0 hj0 HEX
          go_wp2_with fail
          go_quiet (fail)
          have hbx : (wr.drewN nq).heap[w3.heap.size]? = some (.cells #[.int .u32 (hs : Int), .int .u32 (hg : Int)] 31 (0, 0)) := HBX.out
          have hrs : (wr.drewN nq).heap[w.heap.size + 1 + 1]? = some (.cells #[.int .u32 0, .int .u32 0] 31 (0, 0)) := HRS.out
          have z0 := cell_blk hbx 0 rfl
          have z1 := cell_blk hbx 1 rfl
          have r0 := cell_blk hrs 0 rfl
          have r1 := cell_blk hrs 1 rfl
          have f0 := free_blk hrs 0
          have f1 := free_blk hrs 1
          have lz := lt_of_some hbx
          have lr := lt_of_some hrs
          have hb3 := below_drewN HLO.out nq
          have hF := set_blk (set_blk hrs 0 (.int .u32 (hs : Int))) 1 (.int .u32 (hg : Int))
          have HF := Lib.hid hF
          clear hbx hrs hF
          go_wp2_with fail
          have y0' := cell_blk HF.out 0 rfl
          have y1' := cell_blk HF.out 1 rfl
          try rw [Exit.noGoto_ret]
          exact bodyPost_ret (v := .tuple #[.agg #[.int .u32 (hs : Int), .int .u32 (hg : Int)], .int .i64 0]) (by simp [results, Tryd.results15, go_sem, y0', y1']) rfl ⟨by rw [HV.out]; exact HSG.out, (hb3.setCell (by show w.heap.size ≤ w.heap.size + 1 + 1; omega) _).setCell (by show w.heap.size ≤ w.heap.size + 1 + 1; omega) _⟩
end
structure Dead2 (F : For) (sa ga sb gb : Nat) : Prop where
  bd : sa ≤ 4294967295 ∧ ga ≤ 4294967295 ∧ sb ≤ 4294967295 ∧ gb ≤ 4294967295
  no : ¬ Lv F sa ga ∨ ¬ Lv F sb gb
section
variable {B : Nat} {Q : Nat → Prop} {w w' : World} {tb : Nat} {X : TX} {Lf : Nat → Nat → Nat × Nat} {sa ga sb gb : Nat}
theorem lives2_dead (h : TreeRw B Q w tb X Lf) (hd : Dead2 X.F sa ga sb gb) {bb : Nat} (hgb : w.heap[bb]? = some (.cells #[.int .u32 (sa : Int), .int .u32 (ga : Int), .int .u32 (sb : Int), .int .u32 (gb : Int)] 31 (0, 0))) :
    Calls Tryd.prog 40 #[.pointer (some ⟨tb, 0, none⟩), .slice (some ⟨bb, 0, none⟩) 2 2] w fun e w' => e = .returned (.int .i64 51) ∧ Below w.heap.size w w' := by
  have hbd := hd.bd
  have hr : HRow w bb [(sa, ga), (sb, gb)] := ⟨fun j p hp => by
    match j, hp with
    | 0, hp => cases hp; exact ⟨cell_blk hgb 0 rfl, cell_blk hgb 1 rfl⟩
    | 1, hp => cases hp; exact ⟨cell_blk hgb 2 rfl, cell_blk hgb 3 rfl⟩
    | j + 2, hp => simp at hp, by
    intro p hp
    rcases List.mem_cons.1 hp with rfl | hp
    · exact ⟨by simp only; omega, by simp only; omega⟩
    · obtain rfl := List.mem_singleton.1 hp; exact ⟨by simp only; omega, by simp only; omega⟩⟩
  rcases hd.no with hn | hn
  · exact lives_calls h hr (by simp) (.inr ⟨rfl, (sa, ga), by simp, hn⟩)
  · exact lives_calls h hr (by simp) (.inr ⟨rfl, (sb, gb), by simp, hn⟩)
set_option maxHeartbeats 2000000 in
theorem compareT_dead (h : TreeRw B Q w tb X Lf) (hz : NoneAt w) (hd : Dead2 X.F sa ga sb gb) :
    Calls Tryd.prog 12 #[.pointer (some ⟨tb, 0, none⟩), .agg #[.int .u32 (sa : Int), .int .u32 (ga : Int)], .agg #[.int .u32 (sb : Int), .int .u32 (gb : Int)]] w fun e w' => e = .returned (.tuple #[.int .i64 0, .bool false, .int .i64 51]) ∧ Below w.heap.size w w' := by
  have hlo : Below w.heap.size w (((w.alloc (.cells #[.int .u32 (sa : Int), .int .u32 (ga : Int)] 31)).alloc (.cells #[.int .u32 (sb : Int), .int .u32 (gb : Int)] 31)).alloc (.cells #[.int .u32 (sa : Int), .int .u32 (ga : Int), .int .u32 (sb : Int), .int .u32 (gb : Int)] 31)) := alloc3_lo _ _ _ _
  have HLI := Lib.hid (lives2_dead (h.below hlo) hd (by have := (alloc3_at w (.cells #[.int .u32 (sa : Int), .int .u32 (ga : Int)] 31) (.cells #[.int .u32 (sb : Int), .int .u32 (gb : Int)] 31) (.cells #[.int .u32 (sa : Int), .int .u32 (ga : Int), .int .u32 (sb : Int), .int .u32 (gb : Int)] 31)).2.2; exact this))
  have HLO := Lib.hid hlo
  have HZ := Lib.hid hz
  clear h hd hlo hz
  go_enter Tryd.func12, Tryd.ntmps12
  go_wp2_with (go_at_call 40; refine HLI.out.mono ?_; rintro e w1 ⟨rfl, b1⟩; have HB1 := Lib.hid (HLO.out.trans (b1.mono HLO.out.size)); have n0 := (HZ.out.below HB1.out).a; have n1 := (HZ.out.below HB1.out).b; have nl := cell_lt n0; clear b1)
  try rw [Exit.noGoto_ret]
  go_ret3
  exact ⟨rfl, HB1.out⟩
set_option maxHeartbeats 2000000 in
theorem containsT_dead (h : TreeRw B Q w tb X Lf) (hz : NoneAt w) (hd : Dead2 X.F sa ga sb gb) :
    Calls Tryd.prog 14 #[.pointer (some ⟨tb, 0, none⟩), .agg #[.int .u32 (sa : Int), .int .u32 (ga : Int)], .agg #[.int .u32 (sb : Int), .int .u32 (gb : Int)]] w fun e w' => e = .returned (.tuple #[.bool false, .int .i64 51]) ∧ Below w.heap.size w w' := by
  have hlo : Below w.heap.size w (((w.alloc (.cells #[.int .u32 (sa : Int), .int .u32 (ga : Int)] 31)).alloc (.cells #[.int .u32 (sb : Int), .int .u32 (gb : Int)] 31)).alloc (.cells #[.int .u32 (sa : Int), .int .u32 (ga : Int), .int .u32 (sb : Int), .int .u32 (gb : Int)] 31)) := alloc3_lo _ _ _ _
  have HLI := Lib.hid (lives2_dead (h.below hlo) hd (by have := (alloc3_at w (.cells #[.int .u32 (sa : Int), .int .u32 (ga : Int)] 31) (.cells #[.int .u32 (sb : Int), .int .u32 (gb : Int)] 31) (.cells #[.int .u32 (sa : Int), .int .u32 (ga : Int), .int .u32 (sb : Int), .int .u32 (gb : Int)] 31)).2.2; exact this))
  have HLO := Lib.hid hlo
  have HZ := Lib.hid hz
  clear h hd hlo hz
  go_enter Tryd.func14, Tryd.ntmps14
  go_wp2_with (go_at_call 40; refine HLI.out.mono ?_; rintro e w1 ⟨rfl, b1⟩; have HB1 := Lib.hid (HLO.out.trans (b1.mono HLO.out.size)); have n0 := (HZ.out.below HB1.out).a; have n1 := (HZ.out.below HB1.out).b; have nl := cell_lt n0; clear b1)
  try rw [Exit.noGoto_ret]
  go_ret2
  exact ⟨rfl, HB1.out⟩
set_option maxHeartbeats 2000000 in
theorem equalT_dead (h : TreeRw B Q w tb X Lf) (hz : NoneAt w) (hd : Dead2 X.F sa ga sb gb) :
    Calls Tryd.prog 16 #[.pointer (some ⟨tb, 0, none⟩), .agg #[.int .u32 (sa : Int), .int .u32 (ga : Int)], .agg #[.int .u32 (sb : Int), .int .u32 (gb : Int)]] w fun e w' => e = .returned (.tuple #[.bool false, .int .i64 51]) ∧ Below w.heap.size w w' := by
  have hlo : Below w.heap.size w (((w.alloc (.cells #[.int .u32 (sa : Int), .int .u32 (ga : Int)] 31)).alloc (.cells #[.int .u32 (sb : Int), .int .u32 (gb : Int)] 31)).alloc (.cells #[.int .u32 (sa : Int), .int .u32 (ga : Int), .int .u32 (sb : Int), .int .u32 (gb : Int)] 31)) := alloc3_lo _ _ _ _
  have HLI := Lib.hid (lives2_dead (h.below hlo) hd (by have := (alloc3_at w (.cells #[.int .u32 (sa : Int), .int .u32 (ga : Int)] 31) (.cells #[.int .u32 (sb : Int), .int .u32 (gb : Int)] 31) (.cells #[.int .u32 (sa : Int), .int .u32 (ga : Int), .int .u32 (sb : Int), .int .u32 (gb : Int)] 31)).2.2; exact this))
  have HLO := Lib.hid hlo
  have HZ := Lib.hid hz
  clear h hd hlo hz
  go_enter Tryd.func16, Tryd.ntmps16
  go_wp2_with (go_at_call 40; refine HLI.out.mono ?_; rintro e w1 ⟨rfl, b1⟩; have HB1 := Lib.hid (HLO.out.trans (b1.mono HLO.out.size)); have n0 := (HZ.out.below HB1.out).a; have n1 := (HZ.out.below HB1.out).b; have nl := cell_lt n0; clear b1)
  try rw [Exit.noGoto_ret]
  go_ret2
  exact ⟨rfl, HB1.out⟩
set_option maxHeartbeats 2000000 in
theorem commonT_dead (h : TreeRw B Q w tb X Lf) (hz : NoneAt w) (hd : Dead2 X.F sa ga sb gb) :
    Calls Tryd.prog 15 #[.pointer (some ⟨tb, 0, none⟩), .agg #[.int .u32 (sa : Int), .int .u32 (ga : Int)], .agg #[.int .u32 (sb : Int), .int .u32 (gb : Int)]] w fun e w' => e = .returned (.tuple #[.agg #[.int .u32 0, .int .u32 0], .int .i64 51]) ∧ Below w.heap.size w w' := by
  have hlo : Below w.heap.size w ((((w.alloc (.cells #[.int .u32 (sa : Int), .int .u32 (ga : Int)] 31)).alloc (.cells #[.int .u32 (sb : Int), .int .u32 (gb : Int)] 31)).alloc (.cells #[.int .u32 0, .int .u32 0] 31)).alloc (.cells #[.int .u32 (sa : Int), .int .u32 (ga : Int), .int .u32 (sb : Int), .int .u32 (gb : Int)] 31)) := (alloc3_lo _ _ _ _).alloc (by simp; omega) _
  have HLI := Lib.hid (lives2_dead (h.below hlo) hd (by have := (alloc4_at w (.cells #[.int .u32 (sa : Int), .int .u32 (ga : Int)] 31) (.cells #[.int .u32 (sb : Int), .int .u32 (gb : Int)] 31) (.cells #[.int .u32 0, .int .u32 0] 31) (.cells #[.int .u32 (sa : Int), .int .u32 (ga : Int), .int .u32 (sb : Int), .int .u32 (gb : Int)] 31)).2.2.2; exact this))
  have HLO := Lib.hid hlo
  have HZ := Lib.hid hz
  clear h hd hlo hz
  go_enter Tryd.func15, Tryd.ntmps15
  go_wp2_with (go_at_call 40; refine HLI.out.mono ?_; rintro e w1 ⟨rfl, b1⟩; have HB1 := Lib.hid (HLO.out.trans (b1.mono HLO.out.size)); have n0 := (HZ.out.below HB1.out).a; have n1 := (HZ.out.below HB1.out).b; have nl := cell_lt n0; have hr := (b1.block _ (lt_of_some (alloc4_at w (.cells #[.int .u32 (sa : Int), .int .u32 (ga : Int)] 31) (.cells #[.int .u32 (sb : Int), .int .u32 (gb : Int)] 31) (.cells #[.int .u32 0, .int .u32 0] 31) (.cells #[.int .u32 (sa : Int), .int .u32 (ga : Int), .int .u32 (sb : Int), .int .u32 (gb : Int)] 31)).2.2.1)).trans (alloc4_at w (.cells #[.int .u32 (sa : Int), .int .u32 (ga : Int)] 31) (.cells #[.int .u32 (sb : Int), .int .u32 (gb : Int)] 31) (.cells #[.int .u32 0, .int .u32 0] 31) (.cells #[.int .u32 (sa : Int), .int .u32 (ga : Int), .int .u32 (sb : Int), .int .u32 (gb : Int)] 31)).2.2.1; have r0 := cell_blk hr 0 rfl; have r1 := cell_blk hr 1 rfl; have f0 := free_blk hr 0; have f1 := free_blk hr 1; have lr := lt_of_some hr; have HR := Lib.hid hr; clear hr; clear b1)
  have hF := set_blk (set_blk HR.out 0 (.int .u32 0)) 1 (.int .u32 0)
  have z0 := cell_blk hF 0 rfl
  have z1 := cell_blk hF 1 rfl
  try rw [Exit.noGoto_ret]
  exact bodyPost_ret (v := .tuple #[.agg #[.int .u32 0, .int .u32 0], .int .i64 51]) (by simp [results, Tryd.results15, go_sem, z0, z1]) rfl ⟨rfl, (HB1.out.setCell (by show w.heap.size ≤ w.heap.size + 1 + 1; omega) _).setCell (by show w.heap.size ≤ w.heap.size + 1 + 1; omega) _⟩
set_option maxHeartbeats 2000000 in
theorem positionT_dead (h : TreeRw B Q w tb X Lf) (hz : NoneAt w) (hd : Dead2 X.F sa ga sb gb) :
    Calls Tryd.prog 13 #[.pointer (some ⟨tb, 0, none⟩), .agg #[.int .u32 (sa : Int), .int .u32 (ga : Int)], .agg #[.int .u32 (sb : Int), .int .u32 (gb : Int)]] w fun e w' => e = .returned (.tuple #[.int .i64 0, .int .i64 51]) ∧ Below w.heap.size w w' := by
  have hlo : Below w.heap.size w ((w.alloc (.cells #[.int .u32 (sa : Int), .int .u32 (ga : Int)] 31)).alloc (.cells #[.int .u32 (sb : Int), .int .u32 (gb : Int)] 31)) := ((Below.refl _ w).alloc (Nat.le_refl _) _).alloc (by simp) _
  have HCM := Lib.hid (compareT_dead (h.below hlo) (hz.below hlo) hd)
  have HLO := Lib.hid hlo
  clear h hd hlo hz
  go_enter Tryd.func13, Tryd.ntmps13
  go_wp2_with (go_at_call 12; refine HCM.out.mono ?_; rintro e w1 ⟨rfl, b1⟩; have HB1 := Lib.hid (HLO.out.trans (b1.mono HLO.out.size)); clear b1)
  try rw [Exit.noGoto_ret]
  go_ret2
  exact ⟨rfl, HB1.out⟩
end
section
variable {B : Nat} {Q : Nat → Prop} {w w' : World} {fb : Nat} {F : For} {R : List RN} {rv : Value}
set_option maxHeartbeats 4000000 in
theorem rcommon_calls (h : FoAt B Q w fb F R rv) {a b : Nat} {la lb : List Nat} (ha : Chain F a la) (hb : Chain F b lb) :
    Calls Tryd.prog 20 #[.pointer (some ⟨fb, 0, none⟩), .int .i64 (a : Int), .int .i64 (b : Int)] w fun e w' => e = .returned (.int .i64 (upI (la.find? (fun u => decide (u ∈ lb))))) ∧ Below w.heap.size w w' := by
  have H := Lib.hid h
  have hbig := h.big
  obtain ⟨c, rfl⟩ := hb.ne_nil
  have HC := Lib.hid (And.intro ha hb)
  obtain ⟨r, hr⟩ : ∃ r, r = la.find? (fun u => decide (u ∈ b :: c)) := ⟨_, rfl⟩
  rw [← hr]
  have HR := Lib.hid hr
  have HHAS : Hid (∀ W u, Below w.heap.size w W → Calls Tryd.prog 18 #[.pointer (some ⟨fb, 0, none⟩), .int .i64 ((u : Nat) : Int), .int .i64 (b : Int)] W fun e w' => e = .returned (.bool (decide (u ∈ c))) ∧ Below W.heap.size W w') := Lib.hid (fun W u bb => rhas_calls (h.below bb) hb)
  clear h ha hb hr
  go_enter Tryd.func20, Tryd.ntmps20
  go_wp2_with fail
  go_loopg [7, 8] la.length (fun n v7 v8 wr => ∃ (o : Option Nat) (pre rest : List Nat), v7 = .int .i64 (upI o) ∧ Hid (((o = none ∧ rest = []) ∨ ∃ u, o = some u ∧ Chain F u rest) ∧ la = pre ++ rest ∧ (∀ x ∈ pre, x ∉ b :: c) ∧ rest.length = n ∧ Below w.heap.size w wr))
  case atStart => exact ⟨some a, [], la, rfl, Lib.hid ⟨.inr ⟨a, rfl, HC.out.1⟩, rfl, by simp, rfl, Below.refl _ _⟩⟩
  case round =>
    obtain ⟨o, pre, rest, rfl, hw⟩ := hrel
    cases o with
    | none =>
      have hres : r = none := by
        rcases hw.out.1 with ⟨_, e⟩ | ⟨u, e, _⟩
        · rw [HR.out, hw.out.2.1, e, List.append_nil]; exact find_none hw.out.2.2.1
        · cases e
      have HRR := Lib.hid hres
      clear hres
      have e8 : upI none = -1 := rfl
      rw [e8]
      clear e8
      go_wp2_with fail
      try rw [Exit.noGoto_ret]
      go_ret
      exact ⟨by rw [HRR.out]; rfl, hw.out.2.2.2.2⟩
    | some u =>
      have hN : ∃ y, F[u]? = some y ∧ ∃ t, rest = u :: t ∧ ((y.up = none ∧ t = []) ∨ ∃ v, y.up = some v ∧ Chain F v t) := by
        rcases hw.out.1 with ⟨e, _⟩ | ⟨u', e, hc⟩
        · cases e
        · cases e
          cases hc with
          | root a b => exact ⟨_, a, [], rfl, .inl ⟨b, rfl⟩⟩
          | up a b c => exact ⟨_, a, _, rfl, .inr ⟨_, b, c⟩⟩
      obtain ⟨y, hy, t, ht, hct⟩ := hN
      have hul := (List.getElem?_eq_some_iff.1 hy).1
      have hlow := hw.out.2.2.2.2
      have eu : upI (some u) = (u : Int) := rfl
      rw [eu]
      have ud : decide (0 ≤ (u : Int)) = true := by simp
      by_cases hm : u ∈ b :: c
      · have HRR : Hid (r = some u) := Lib.hid (by rw [HR.out]; exact find_at (by rw [hw.out.2.1, ht]) hw.out.2.2.1 hm)
        by_cases hub : u = b
        · have q1 : ((u : Int) == (b : Int)) = true := by simp [hub]
          have HU : Hid (∀ W, Below w.heap.size w W → Calls Tryd.prog 18 #[.pointer (some ⟨fb, 0, none⟩), .int .i64 ((u : Nat) : Int), .int .i64 (b : Int)] W fun e w' => e = .returned (.bool (decide (u ∈ c))) ∧ Below W.heap.size W w') := Lib.hid (fun W bb => HHAS.out W u bb)
          have HB := Lib.hid hub
          have HLO := Lib.hid hlow
          clear hct ht hm hub eu hlow hul
          go_wp2_with (go_at_call 18; refine (HU.out _ HLO.out).mono ?_; rintro e w1 ⟨rfl, b1⟩; have HB1 := Lib.hid (HLO.out.trans (b1.mono HLO.out.size)); clear b1)
          try rw [Exit.noGoto_ret]
          go_ret
          exact ⟨by rw [HRR.out]; rfl, HB1.out⟩
        · have q1 : ((u : Int) == (b : Int)) = false := by simp; omega
          have q2 : ¬ ((u : Int) = (b : Int)) := by omega
          have huc : u ∈ c := (List.mem_cons.1 hm).resolve_left hub
          have HU : Hid (∀ W, Below w.heap.size w W → Calls Tryd.prog 18 #[.pointer (some ⟨fb, 0, none⟩), .int .i64 ((u : Nat) : Int), .int .i64 (b : Int)] W fun e w' => e = .returned (.bool true) ∧ Below W.heap.size W w') := Lib.hid (fun W bb => (HHAS.out W u bb).mono (by
            rintro e w' ⟨rfl, h2⟩
            exact ⟨by rw [decide_eq_true huc], h2⟩))
          have HLO := Lib.hid hlow
          clear hct ht hm hub eu hlow huc hul
          go_wp2_with (go_at_call 18; refine (HU.out _ HLO.out).mono ?_; rintro e w1 ⟨rfl, b1⟩; have HB1 := Lib.hid (HLO.out.trans (b1.mono HLO.out.size)); clear b1)
          try rw [Exit.noGoto_ret]
          go_ret
          exact ⟨by rw [HRR.out]; rfl, HB1.out⟩
      · have hub : u ≠ b := fun e => hm (by rw [e]; simp)
        have q1 : ((u : Int) == (b : Int)) = false := by simp; omega
        have q2 : ¬ ((u : Int) = (b : Int)) := by omega
        have huc : u ∉ c := fun h => hm (List.mem_cons_of_mem _ h)
        have HU : Hid (∀ W, Below w.heap.size w W → Calls Tryd.prog 18 #[.pointer (some ⟨fb, 0, none⟩), .int .i64 ((u : Nat) : Int), .int .i64 (b : Int)] W fun e w' => e = .returned (.bool false) ∧ Below W.heap.size W w') := Lib.hid (fun W bb => (HHAS.out W u bb).mono (by
          rintro e w' ⟨rfl, h2⟩
          exact ⟨by rw [decide_eq_false huc], h2⟩))
        have HLO := Lib.hid hlow
        have HN := Lib.hid (And.intro hct (And.intro (show la = (pre ++ [u]) ++ t by rw [hw.out.2.1, ht]; simp) (And.intro (show ∀ x ∈ pre ++ [u], x ∉ b :: c by
          intro x hx
          rcases List.mem_append.1 hx with hx | hx
          · exact hw.out.2.2.1 x hx
          · obtain rfl := List.mem_singleton.1 hx; exact hm) (show t.length < gk by have := hw.out.2.2.2.1; rw [ht] at this; simp at this; omega))))
        have HGET : Hid (∀ W, Below w.heap.size w W → ∃ g cap, W.cell? ⟨fb, 0, none⟩ = some (.slice (some ⟨g, 0, none⟩) F.length cap) ∧ W.cell? ⟨g, u * 11 + 8, none⟩ = some (.int .i64 (upI y.up))) := Lib.hid (fun W bb => by
          have h2 := H.out.below bb
          have b0 := h2.b0
          obtain ⟨g2, cap2, P2, dv2, e2, hR2, z0, z1, z8, z9, z10⟩ := h2.get hy
          rw [e2] at b0
          exact ⟨g2, cap2, b0, z8⟩)
        clear hct ht hm hub eu hlow huc hy
        go_wp2_with (go_at_call 18; refine (HU.out _ HLO.out).mono ?_; rintro e w1 ⟨rfl, b1⟩; have HB1 := Lib.hid (HLO.out.trans (b1.mono HLO.out.size)); obtain ⟨g2, cap2, b0, z8⟩ := HGET.out w1 HB1.out; clear b1)
        go_roundg t.length
        case measure => exact HN.out.2.2.2
        case rel => exact ⟨y.up, pre ++ [u], t, rfl, Lib.hid ⟨HN.out.1, HN.out.2.1, HN.out.2.2.1, rfl, HB1.out⟩⟩
theorem plI_mem {L : List Nat} {v : Nat} (h : v ∈ L) : plI L v = (L.idxOf v : Int) := by unfold plI; rw [if_pos h]
set_option maxHeartbeats 4000000 in
theorem rcompare_calls (h : FoAt B Q w fb F R rv) (ok : FOk F) {a b ra rb : Nat} {la lb : List Nat} (ha : Chain F a la) (hb : Chain F b lb) (hra : la.getLast? = some ra) (hrb : lb.getLast? = some rb)
    {rc : Int} {ro : Bool} (hres : (ra ≠ rb → rc = 0 ∧ ro = false) ∧ (ra = rb → rc = cmpP (preD F ra) a b ∧ ro = true)) :
    Calls Tryd.prog 17 #[.pointer (some ⟨fb, 0, none⟩), .int .i64 (a : Int), .int .i64 (b : Int)] w fun e w' => e = .returned (.tuple #[.int .i64 rc, .bool ro]) ∧ Below w.heap.size w w' := by
  have hbig := h.big
  have hrl : ra < F.length := ha.mem_lt ra (List.mem_of_getLast? hra)
  have HRA : Hid (∀ W, Below w.heap.size w W → Calls Tryd.prog 49 #[.pointer (some ⟨fb, 0, none⟩), .int .i64 (a : Int)] W fun e w' => e = .returned (.int .i64 (ra : Int)) ∧ Below W.heap.size W w') := Lib.hid (fun W bb => rroot_calls (h.below bb) ha hra)
  have HRB : Hid (∀ W, Below w.heap.size w W → Calls Tryd.prog 49 #[.pointer (some ⟨fb, 0, none⟩), .int .i64 (b : Int)] W fun e w' => e = .returned (.int .i64 (rb : Int)) ∧ Below W.heap.size W w') := Lib.hid (fun W bb => rroot_calls (h.below bb) hb hrb)
  have HDN : Hid (∀ W, Below w.heap.size w W → Calls Tryd.prog 31 #[.pointer (some ⟨fb, 0, none⟩), .int .i64 (ra : Int)] W fun e w' => ∃ v, e = .returned v ∧ w'.ownsRow W.heap.size 3 1 v (preD F ra).length (icells (preD F ra)) ∧ Below W.heap.size W w') := Lib.hid (fun W bb => rdown_calls h ok ra hrl W bb)
  have hpl : (preD F ra).length ≤ 9223372036854775807 := by have := preD_len ok hrl; omega
  have HPL : Hid (∀ W v u, W.ownsRow w.heap.size 3 1 v (preD F ra).length (icells (preD F ra)) → Calls Tryd.prog 50 #[v, .int .i64 ((u : Nat) : Int)] W fun e w' => e = .returned (.int .i64 (plI (preD F ra) u)) ∧ Below W.heap.size W w') := Lib.hid (fun W v u hv => rplace_calls hv hpl u)
  have WARM : True := trivial
  by_cases hr : ra = rb
  · have HRES := Lib.hid (hres.2 hr)
    have e1 : plI (preD F ra) a = ((preD F ra).idxOf a : Int) := plI_mem ((mem_preD ok hrl ha).2 (List.mem_of_getLast? hra))
    have e2 : plI (preD F ra) b = ((preD F ra).idxOf b : Int) := plI_mem ((mem_preD ok hrl hb).2 (by rw [hr]; exact List.mem_of_getLast? hrb))
    obtain ⟨x, hx⟩ : ∃ x, x = (preD F ra).idxOf a := ⟨_, rfl⟩
    obtain ⟨y, hy⟩ : ∃ x, x = (preD F ra).idxOf b := ⟨_, rfl⟩
    rw [← hx] at e1
    rw [← hy] at e2
    have HPA : Hid (∀ W v, W.ownsRow w.heap.size 3 1 v (preD F ra).length (icells (preD F ra)) → Calls Tryd.prog 50 #[v, .int .i64 (a : Int)] W fun e w' => e = .returned (.int .i64 (x : Int)) ∧ Below W.heap.size W w') := Lib.hid (fun W v hv => by have := HPL.out W v a hv; rw [e1] at this; exact this)
    have HPB : Hid (∀ W v, W.ownsRow w.heap.size 3 1 v (preD F ra).length (icells (preD F ra)) → Calls Tryd.prog 50 #[v, .int .i64 (b : Int)] W fun e w' => e = .returned (.int .i64 (y : Int)) ∧ Below W.heap.size W w') := Lib.hid (fun W v hv => by have := HPL.out W v b hv; rw [e2] at this; exact this)
    have HC : Hid (rc = if x < y then -1 else if y < x then 1 else 0) := Lib.hid (by rw [HRES.out.1]; unfold cmpP; rw [← hx, ← hy])
    rw [← hr] at HRB
    clear h ok ha hb hra hrb hres hr e1 e2 hx hy hpl hrl HPL
    rw [HRES.out.2]
    have q0 : ((ra : Int) == (ra : Int)) = true := by simp
    by_cases c1 : x < y
    · rw [if_pos c1] at HC
      have d1 : decide ((x : Int) < (y : Int)) = true := by simp; omega
      rw [HC.out]
      go_enter Tryd.func17, Tryd.ntmps17
      go_wp2_with (first | (have hh := HB4; (go_at_call 50; refine (HPB.out _ _ HB4.out.1).mono ?_; rintro e w5 ⟨rfl, b5⟩; have HB5 := Lib.hid (HB4.out.2.trans (b5.mono HB4.out.2.size)); clear b5)) | (have hh := HB3; (go_at_call 50; refine (HPA.out _ _ HB3.out.1).mono ?_; rintro e w4 ⟨rfl, b4⟩; have HB4 := Lib.hid (And.intro (row_below HB3.out.1 b4) (HB3.out.2.trans (b4.mono HB3.out.2.size))); clear b4)) | (go_at_call 31; refine (HDN.out _ HB2.out).mono ?_; rintro e w3 ⟨v, rfl, hv, b3⟩; have HB3 := Lib.hid (And.intro (hv.mono HB2.out.size) (HB2.out.trans (b3.mono HB2.out.size))); clear b3 hv) | (have hh := HB1; (go_at_call 49; refine (HRB.out _ HB1.out).mono ?_; rintro e w2 ⟨rfl, b2⟩; have HB2 := Lib.hid (HB1.out.trans (b2.mono HB1.out.size)); clear b2)) | (go_at_call 49; refine (HRA.out _ (Below.refl _ _)).mono ?_; rintro e w1 ⟨rfl, b1⟩; have HB1 := Lib.hid b1; clear b1))
      try rw [Exit.noGoto_ret]
      go_ret2
      exact ⟨rfl, HB5.out⟩
    · rw [if_neg c1] at HC
      have d1 : decide ((x : Int) < (y : Int)) = false := by simp; omega
      have d1' : ¬ ((x : Int) < (y : Int)) := by omega
      by_cases c2 : y < x
      · rw [if_pos c2] at HC
        have d2 : decide ((y : Int) < (x : Int)) = true := by simp; omega
        rw [HC.out]
        go_enter Tryd.func17, Tryd.ntmps17
        go_wp2_with (first | (have hh := HB4; (go_at_call 50; refine (HPB.out _ _ HB4.out.1).mono ?_; rintro e w5 ⟨rfl, b5⟩; have HB5 := Lib.hid (HB4.out.2.trans (b5.mono HB4.out.2.size)); clear b5)) | (have hh := HB3; (go_at_call 50; refine (HPA.out _ _ HB3.out.1).mono ?_; rintro e w4 ⟨rfl, b4⟩; have HB4 := Lib.hid (And.intro (row_below HB3.out.1 b4) (HB3.out.2.trans (b4.mono HB3.out.2.size))); clear b4)) | (go_at_call 31; refine (HDN.out _ HB2.out).mono ?_; rintro e w3 ⟨v, rfl, hv, b3⟩; have HB3 := Lib.hid (And.intro (hv.mono HB2.out.size) (HB2.out.trans (b3.mono HB2.out.size))); clear b3 hv) | (have hh := HB1; (go_at_call 49; refine (HRB.out _ HB1.out).mono ?_; rintro e w2 ⟨rfl, b2⟩; have HB2 := Lib.hid (HB1.out.trans (b2.mono HB1.out.size)); clear b2)) | (go_at_call 49; refine (HRA.out _ (Below.refl _ _)).mono ?_; rintro e w1 ⟨rfl, b1⟩; have HB1 := Lib.hid b1; clear b1))
        try rw [Exit.noGoto_ret]
        go_ret2
        exact ⟨rfl, HB5.out⟩
      · rw [if_neg c2] at HC
        have d2 : decide ((y : Int) < (x : Int)) = false := by simp; omega
        have d2' : ¬ ((y : Int) < (x : Int)) := by omega
        rw [HC.out]
        go_enter Tryd.func17, Tryd.ntmps17
        go_wp2_with (first | (have hh := HB4; (go_at_call 50; refine (HPB.out _ _ HB4.out.1).mono ?_; rintro e w5 ⟨rfl, b5⟩; have HB5 := Lib.hid (HB4.out.2.trans (b5.mono HB4.out.2.size)); clear b5)) | (have hh := HB3; (go_at_call 50; refine (HPA.out _ _ HB3.out.1).mono ?_; rintro e w4 ⟨rfl, b4⟩; have HB4 := Lib.hid (And.intro (row_below HB3.out.1 b4) (HB3.out.2.trans (b4.mono HB3.out.2.size))); clear b4)) | (go_at_call 31; refine (HDN.out _ HB2.out).mono ?_; rintro e w3 ⟨v, rfl, hv, b3⟩; have HB3 := Lib.hid (And.intro (hv.mono HB2.out.size) (HB2.out.trans (b3.mono HB2.out.size))); clear b3 hv) | (have hh := HB1; (go_at_call 49; refine (HRB.out _ HB1.out).mono ?_; rintro e w2 ⟨rfl, b2⟩; have HB2 := Lib.hid (HB1.out.trans (b2.mono HB1.out.size)); clear b2)) | (go_at_call 49; refine (HRA.out _ (Below.refl _ _)).mono ?_; rintro e w1 ⟨rfl, b1⟩; have HB1 := Lib.hid b1; clear b1))
        try rw [Exit.noGoto_ret]
        go_ret2
        exact ⟨rfl, HB5.out⟩
  · have HRES := Lib.hid (hres.1 hr)
    have q0 : ((rb : Int) == (ra : Int)) = false := by simp; omega
    have q1 : ¬ ((rb : Int) = (ra : Int)) := by omega
    clear h ok ha hb hra hrb hres hr hpl hrl HPL HDN
    rw [HRES.out.1, HRES.out.2]
    go_enter Tryd.func17, Tryd.ntmps17
    go_wp2_with (first | (have hh := HB1; (go_at_call 49; refine (HRB.out _ HB1.out).mono ?_; rintro e w2 ⟨rfl, b2⟩; have HB2 := Lib.hid (HB1.out.trans (b2.mono HB1.out.size)); clear b2)) | (go_at_call 49; refine (HRA.out _ (Below.refl _ _)).mono ?_; rintro e w1 ⟨rfl, b1⟩; have HB1 := Lib.hid b1; clear b1))
    try rw [Exit.noGoto_ret]
    go_ret2
    exact ⟨rfl, HB2.out⟩
theorem rposition_calls (h : FoAt B Q w fb F R rv) (ok : FOk F) {a b ra rb : Nat} {ca cb : List Nat} (ha : Chain F a (a :: ca)) (hb : Chain F b (b :: cb)) (hra : (a :: ca).getLast? = some ra) (hrb : (b :: cb).getLast? = some rb) :
    Calls Tryd.prog 22 #[.pointer (some ⟨fb, 0, none⟩), .int .i64 (a : Int), .int .i64 (b : Int)] w fun e w' => e = .returned (.int .i64 (posF F a b ra rb ca cb)) ∧ Below w.heap.size w w' := by
  obtain ⟨rp, hrp⟩ : ∃ r, r = posF F a b ra rb ca cb := ⟨_, rfl⟩
  rw [← hrp]
  obtain ⟨rc, hrc⟩ : ∃ r : Int, r = if ra = rb then cmpP (preD F ra) a b else 0 := ⟨_, rfl⟩
  obtain ⟨ro, hro⟩ : ∃ r : Bool, r = decide (ra = rb) := ⟨_, rfl⟩
  have HCM : Hid (∀ W, Below w.heap.size w W → Calls Tryd.prog 17 #[.pointer (some ⟨fb, 0, none⟩), .int .i64 (a : Int), .int .i64 (b : Int)] W fun e w' => e = .returned (.tuple #[.int .i64 rc, .bool ro]) ∧ Below W.heap.size W w') := Lib.hid (fun W bb => rcompare_calls (h.below bb) ok ha hb hra hrb ⟨fun e => ⟨by rw [hrc, if_neg e], by rw [hro]; exact decide_eq_false e⟩, fun e => ⟨by rw [hrc, if_pos e], by rw [hro]; exact decide_eq_true e⟩⟩)
  have HH1 : Hid (∀ W, Below w.heap.size w W → Calls Tryd.prog 18 #[.pointer (some ⟨fb, 0, none⟩), .int .i64 (b : Int), .int .i64 (a : Int)] W fun e w' => e = .returned (.bool (decide (b ∈ ca))) ∧ Below W.heap.size W w') := Lib.hid (fun W bb => rhas_calls (h.below bb) ha)
  have HH2 : Hid (∀ W, Below w.heap.size w W → Calls Tryd.prog 18 #[.pointer (some ⟨fb, 0, none⟩), .int .i64 (a : Int), .int .i64 (b : Int)] W fun e w' => e = .returned (.bool (decide (a ∈ cb))) ∧ Below W.heap.size W w') := Lib.hid (fun W bb => rhas_calls (h.below bb) hb)
  have HP := Lib.hid hrp
  have HRC := Lib.hid hrc
  obtain ⟨up, hup⟩ : ∃ u, u = decide (b ∈ ca) := ⟨_, rfl⟩
  obtain ⟨dn, hdn⟩ : ∃ u, u = decide (a ∈ cb) := ⟨_, rfl⟩
  rw [← hup] at HH1
  rw [← hdn] at HH2
  have HUD := Lib.hid (And.intro hup (And.intro hdn hro))
  have WARM : True := trivial
  clear h ok ha hb hra hrb hrp hrc hup hdn hro
  by_cases e1 : a = b
  · have HR : Hid (rp = 0) := Lib.hid (by rw [HP.out]; unfold posF; rw [if_pos e1])
    have q : ((a : Int) == (b : Int)) = true := by simp [e1]
    clear e1
    go_enter Tryd.func22, Tryd.ntmps22
    go_wp2_with (first | (have hh := HB2; (go_at_call 18; refine (HH2.out _ HB2.out).mono ?_; rintro e w3 ⟨rfl, b3⟩; have HB3 := Lib.hid (HB2.out.trans (b3.mono HB2.out.size)); clear b3)) | (have hh := HB1; (go_at_call 18; refine (HH1.out _ HB1.out).mono ?_; rintro e w2 ⟨rfl, b2⟩; have HB2 := Lib.hid (HB1.out.trans (b2.mono HB1.out.size)); clear b2)) | (go_at_call 17; refine (HCM.out _ (Below.refl _ _)).mono ?_; rintro e w1 ⟨rfl, b1⟩; have HB1 := Lib.hid b1; clear b1))
    try rw [Exit.noGoto_ret]
    go_ret
    exact ⟨by rw [HR.out]; rfl, HB3.out⟩
  have E1 := Lib.hid e1
  have q : ((a : Int) == (b : Int)) = false := by simp; omega
  have q' : ¬ ((a : Int) = (b : Int)) := by omega
  clear e1
  cases ro with
  | false =>
    have e2 : ra ≠ rb := of_decide_eq_false HUD.out.2.2.symm
    have E2 := Lib.hid e2
    clear e2
    by_cases e3 : b < a
    · have HR : Hid (rp = 35) := Lib.hid (by rw [HP.out]; unfold posF; rw [if_neg E1.out, if_pos E2.out, if_pos e3])
      have d2 : decide ((b : Int) < (a : Int)) = true := by simp; omega
      have d1 : (b : Int) < (a : Int) := by omega
      clear e3
      go_enter Tryd.func22, Tryd.ntmps22
      go_wp2_with (first | (have hh := HB2; (go_at_call 18; refine (HH2.out _ HB2.out).mono ?_; rintro e w3 ⟨rfl, b3⟩; have HB3 := Lib.hid (HB2.out.trans (b3.mono HB2.out.size)); clear b3)) | (have hh := HB1; (go_at_call 18; refine (HH1.out _ HB1.out).mono ?_; rintro e w2 ⟨rfl, b2⟩; have HB2 := Lib.hid (HB1.out.trans (b2.mono HB1.out.size)); clear b2)) | (go_at_call 17; refine (HCM.out _ (Below.refl _ _)).mono ?_; rintro e w1 ⟨rfl, b1⟩; have HB1 := Lib.hid b1; clear b1))
      try rw [Exit.noGoto_ret]
      go_ret
      exact ⟨by rw [HR.out]; rfl, HB3.out⟩
    · have HR : Hid (rp = 37) := Lib.hid (by rw [HP.out]; unfold posF; rw [if_neg E1.out, if_pos E2.out, if_neg e3])
      have d2 : decide ((b : Int) < (a : Int)) = false := by simp; omega
      have d1 : ¬ ((b : Int) < (a : Int)) := by omega
      clear e3
      go_enter Tryd.func22, Tryd.ntmps22
      go_wp2_with (first | (have hh := HB2; (go_at_call 18; refine (HH2.out _ HB2.out).mono ?_; rintro e w3 ⟨rfl, b3⟩; have HB3 := Lib.hid (HB2.out.trans (b3.mono HB2.out.size)); clear b3)) | (have hh := HB1; (go_at_call 18; refine (HH1.out _ HB1.out).mono ?_; rintro e w2 ⟨rfl, b2⟩; have HB2 := Lib.hid (HB1.out.trans (b2.mono HB1.out.size)); clear b2)) | (go_at_call 17; refine (HCM.out _ (Below.refl _ _)).mono ?_; rintro e w1 ⟨rfl, b1⟩; have HB1 := Lib.hid b1; clear b1))
      try rw [Exit.noGoto_ret]
      go_ret
      exact ⟨by rw [HR.out]; rfl, HB3.out⟩
  | true =>
    have e2 : ra = rb := of_decide_eq_true HUD.out.2.2.symm
    have E2 := Lib.hid e2
    clear e2
    cases up with
    | true =>
      have HR : Hid (rp = 10) := Lib.hid (by rw [HP.out]; unfold posF; rw [if_neg E1.out, if_neg (fun h => h E2.out), if_pos (of_decide_eq_true HUD.out.1.symm)])
      go_enter Tryd.func22, Tryd.ntmps22
      go_wp2_with (first | (have hh := HB2; (go_at_call 18; refine (HH2.out _ HB2.out).mono ?_; rintro e w3 ⟨rfl, b3⟩; have HB3 := Lib.hid (HB2.out.trans (b3.mono HB2.out.size)); clear b3)) | (have hh := HB1; (go_at_call 18; refine (HH1.out _ HB1.out).mono ?_; rintro e w2 ⟨rfl, b2⟩; have HB2 := Lib.hid (HB1.out.trans (b2.mono HB1.out.size)); clear b2)) | (go_at_call 17; refine (HCM.out _ (Below.refl _ _)).mono ?_; rintro e w1 ⟨rfl, b1⟩; have HB1 := Lib.hid b1; clear b1))
      try rw [Exit.noGoto_ret]
      go_ret
      exact ⟨by rw [HR.out]; rfl, HB3.out⟩
    | false =>
      cases dn with
      | true =>
        have HR : Hid (rp = 20) := Lib.hid (by rw [HP.out]; unfold posF; rw [if_neg E1.out, if_neg (fun h => h E2.out), if_neg (of_decide_eq_false HUD.out.1.symm), if_pos (of_decide_eq_true HUD.out.2.1.symm)])
        go_enter Tryd.func22, Tryd.ntmps22
        go_wp2_with (first | (have hh := HB2; (go_at_call 18; refine (HH2.out _ HB2.out).mono ?_; rintro e w3 ⟨rfl, b3⟩; have HB3 := Lib.hid (HB2.out.trans (b3.mono HB2.out.size)); clear b3)) | (have hh := HB1; (go_at_call 18; refine (HH1.out _ HB1.out).mono ?_; rintro e w2 ⟨rfl, b2⟩; have HB2 := Lib.hid (HB1.out.trans (b2.mono HB1.out.size)); clear b2)) | (go_at_call 17; refine (HCM.out _ (Below.refl _ _)).mono ?_; rintro e w1 ⟨rfl, b1⟩; have HB1 := Lib.hid b1; clear b1))
        try rw [Exit.noGoto_ret]
        go_ret
        exact ⟨by rw [HR.out]; rfl, HB3.out⟩
      | false =>
        by_cases e5 : 0 < rc
        · have HR : Hid (rp = 2) := Lib.hid (by
            have h5 := e5
            rw [HRC.out, if_pos E2.out] at h5
            rw [HP.out]; unfold posF; rw [if_neg E1.out, if_neg (fun h => h E2.out), if_neg (of_decide_eq_false HUD.out.1.symm), if_neg (of_decide_eq_false HUD.out.2.1.symm), if_pos h5])
          have d5 : decide (0 < rc) = true := decide_eq_true e5
          go_enter Tryd.func22, Tryd.ntmps22
          go_wp2_with (first | (have hh := HB2; (go_at_call 18; refine (HH2.out _ HB2.out).mono ?_; rintro e w3 ⟨rfl, b3⟩; have HB3 := Lib.hid (HB2.out.trans (b3.mono HB2.out.size)); clear b3)) | (have hh := HB1; (go_at_call 18; refine (HH1.out _ HB1.out).mono ?_; rintro e w2 ⟨rfl, b2⟩; have HB2 := Lib.hid (HB1.out.trans (b2.mono HB1.out.size)); clear b2)) | (go_at_call 17; refine (HCM.out _ (Below.refl _ _)).mono ?_; rintro e w1 ⟨rfl, b1⟩; have HB1 := Lib.hid b1; clear b1))
          try rw [Exit.noGoto_ret]
          go_ret
          exact ⟨by rw [HR.out]; rfl, HB3.out⟩
        · have HR : Hid (rp = 4) := Lib.hid (by
            have h5 := e5
            rw [HRC.out, if_pos E2.out] at h5
            rw [HP.out]; unfold posF; rw [if_neg E1.out, if_neg (fun h => h E2.out), if_neg (of_decide_eq_false HUD.out.1.symm), if_neg (of_decide_eq_false HUD.out.2.1.symm), if_neg h5])
          have d5 : decide (0 < rc) = false := decide_eq_false e5
          go_enter Tryd.func22, Tryd.ntmps22
          go_wp2_with (first | (have hh := HB2; (go_at_call 18; refine (HH2.out _ HB2.out).mono ?_; rintro e w3 ⟨rfl, b3⟩; have HB3 := Lib.hid (HB2.out.trans (b3.mono HB2.out.size)); clear b3)) | (have hh := HB1; (go_at_call 18; refine (HH1.out _ HB1.out).mono ?_; rintro e w2 ⟨rfl, b2⟩; have HB2 := Lib.hid (HB1.out.trans (b2.mono HB1.out.size)); clear b2)) | (go_at_call 17; refine (HCM.out _ (Below.refl _ _)).mono ?_; rintro e w1 ⟨rfl, b1⟩; have HB1 := Lib.hid b1; clear b1))
          try rw [Exit.noGoto_ret]
          go_ret
          exact ⟨by rw [HR.out]; rfl, HB3.out⟩
end
abbrev hV (s g : Nat) : Value := .agg #[.int .u32 (s : Int), .int .u32 (g : Int)]
structure PrR (w : World) (tb sa ga sb gb : Nat) (c : Int) (one : Bool) (p : Int) (inn : Bool) (l1 l2 : Nat) (same : Bool) (e : Int) : Prop where
  cmp : ∀ W, Below w.heap.size w W → Calls Tryd.prog 12 #[.pointer (some ⟨tb, 0, none⟩), .agg #[.int .u32 (sa : Int), .int .u32 (ga : Int)], .agg #[.int .u32 (sb : Int), .int .u32 (gb : Int)]] W fun r w' => r = .returned (.tuple #[.int .i64 c, .bool one, .int .i64 e]) ∧ Below W.heap.size W w'
  pos : ∀ W, Below w.heap.size w W → Calls Tryd.prog 13 #[.pointer (some ⟨tb, 0, none⟩), .agg #[.int .u32 (sa : Int), .int .u32 (ga : Int)], .agg #[.int .u32 (sb : Int), .int .u32 (gb : Int)]] W fun r w' => r = .returned (.tuple #[.int .i64 p, .int .i64 e]) ∧ Below W.heap.size W w'
  con : ∀ W, Below w.heap.size w W → Calls Tryd.prog 14 #[.pointer (some ⟨tb, 0, none⟩), .agg #[.int .u32 (sa : Int), .int .u32 (ga : Int)], .agg #[.int .u32 (sb : Int), .int .u32 (gb : Int)]] W fun r w' => r = .returned (.tuple #[.bool inn, .int .i64 e]) ∧ Below W.heap.size W w'
  com : ∀ W, Below w.heap.size w W → Calls Tryd.prog 15 #[.pointer (some ⟨tb, 0, none⟩), .agg #[.int .u32 (sa : Int), .int .u32 (ga : Int)], .agg #[.int .u32 (sb : Int), .int .u32 (gb : Int)]] W fun r w' => r = .returned (.tuple #[.agg #[.int .u32 (l1 : Int), .int .u32 (l2 : Int)], .int .i64 e]) ∧ Below W.heap.size W w'
  eql : ∀ W, Below w.heap.size w W → Calls Tryd.prog 16 #[.pointer (some ⟨tb, 0, none⟩), .agg #[.int .u32 (sa : Int), .int .u32 (ga : Int)], .agg #[.int .u32 (sb : Int), .int .u32 (gb : Int)]] W fun r w' => r = .returned (.tuple #[.bool same, .int .i64 e]) ∧ Below W.heap.size W w'
structure PrD (w : World) (fb ka kb : Nat) (c : Int) (one : Bool) (p : Int) (wi : Bool) (lo : Int) (l1 l2 : Nat) (same : Bool) : Prop where
  cmp : ∀ W, Below w.heap.size w W → Calls Tryd.prog 17 #[.pointer (some ⟨fb, 0, none⟩), .int .i64 (ka : Int), .int .i64 (kb : Int)] W fun r w' => r = .returned (.tuple #[.int .i64 c, .bool one]) ∧ Below W.heap.size W w'
  pos : ∀ W, Below w.heap.size w W → Calls Tryd.prog 22 #[.pointer (some ⟨fb, 0, none⟩), .int .i64 (ka : Int), .int .i64 (kb : Int)] W fun r w' => r = .returned (.int .i64 p) ∧ Below W.heap.size W w'
  has : ∀ W, Below w.heap.size w W → Calls Tryd.prog 18 #[.pointer (some ⟨fb, 0, none⟩), .int .i64 (ka : Int), .int .i64 (kb : Int)] W fun r w' => r = .returned (.bool wi) ∧ Below W.heap.size W w'
  com : ∀ W, Below w.heap.size w W → Calls Tryd.prog 20 #[.pointer (some ⟨fb, 0, none⟩), .int .i64 (ka : Int), .int .i64 (kb : Int)] W fun r w' => r = .returned (.int .i64 lo) ∧ Below W.heap.size W w'
  han : ∀ W, Below w.heap.size w W → Calls Tryd.prog 19 #[.pointer (some ⟨fb, 0, none⟩), .int .i64 lo] W fun r w' => r = .returned (.agg #[.int .u32 (l1 : Int), .int .u32 (l2 : Int)]) ∧ Below W.heap.size W w'
  eql : ∀ W, Below w.heap.size w W → Calls Tryd.prog 21 #[.pointer (some ⟨fb, 0, none⟩), .int .i64 (ka : Int), .int .i64 (kb : Int)] W fun r w' => r = .returned (.bool same) ∧ Below W.heap.size W w'
section
variable {B : Nat} {Q : Nat → Prop} {w : World} {tb fb : Nat} {X : TX} {R : List RN} {rv : Value}
theorem Both.rbd (h : Both B Q w tb fb X R rv) : ∀ r ∈ R, r.2.1.L.length ≤ 1099511627776 := by
  intro r hr
  obtain ⟨k, hk⟩ := List.mem_iff_getElem?.1 hr
  have hl : k < X.M.length := by
    have := (List.getElem?_eq_some_iff.1 hk).1
    rw [h.t.rw.lenM, ← h.f.len]; exact this
  obtain ⟨nb, P⟩ : Nat × Nd := X.M[k]
  have hm : X.M[k]? = some X.M[k] := List.getElem?_eq_getElem hl
  exact (h.same k X.M[k].1 X.M[k].2 r hm hk).2.1.attrs
set_option maxHeartbeats 1000000 in
theorem pairs_round (h : Both B Q w tb fb X R rv) (hz : NoneAt w) {sa ga sb gb : Nat} (hsa : sa ≤ 4294967295 ∧ ga ≤ 4294967295) (hsb : sb ≤ 4294967295 ∧ gb ≤ 4294967295) :
    ((atI X.F sa ga < 0 ∨ atI X.F sb gb < 0) ∧ PrR w tb sa ga sb gb 0 false 0 false 0 0 false 51) ∨
    ∃ (ka kb : Nat) (c : Int) (one : Bool) (p : Int) (inn wi : Bool) (lo : Int) (l1 l2 : Nat) (same : Bool), (atI X.F sa ga = (ka : Int) ∧ atI X.F sb gb = (kb : Int)) ∧ PrR w tb sa ga sb gb c one p inn l1 l2 same 0 ∧ PrD w fb ka kb c one p wi lo l1 l2 same ∧ inn = (decide (ka = kb) || wi) := by
  have ok := h.t.fok
  have dead : (¬ Lv X.F sa ga ∨ ¬ Lv X.F sb gb) → PrR w tb sa ga sb gb 0 false 0 false 0 0 false 51 := fun hd => by
    have hd2 : Dead2 X.F sa ga sb gb := ⟨⟨hsa.1, hsa.2, hsb.1, hsb.2⟩, hd⟩
    exact ⟨fun W b => compareT_dead (h.t.below b).rw (hz.below b) hd2, fun W b => positionT_dead (h.t.below b).rw (hz.below b) hd2, fun W b => containsT_dead (h.t.below b).rw (hz.below b) hd2, fun W b => commonT_dead (h.t.below b).rw (hz.below b) hd2, fun W b => equalT_dead (h.t.below b).rw (hz.below b) hd2⟩
  rcases atI_cases X.F sa ga with ⟨e1, hn⟩ | ⟨ka, xa, e1, ha, hal, rfl, rfl⟩
  · exact .inl ⟨.inl (by rw [e1]; decide), dead (.inl hn)⟩
  rcases atI_cases X.F sb gb with ⟨e2, hn⟩ | ⟨kb, xb, e2, hb, hbl, rfl, rfl⟩
  · exact .inl ⟨.inr (by rw [e2]; decide), dead (.inr hn)⟩
  right
  obtain ⟨la, hla⟩ := ok.acyc ka xa ha
  obtain ⟨ca, rfl⟩ := hla.ne_nil
  obtain ⟨lb, hlb⟩ := ok.acyc kb xb hb
  obtain ⟨cb, rfl⟩ := hlb.ne_nil
  obtain ⟨pa, ra, xra, era, _, _⟩ := hla.last
  obtain ⟨pb, rb, xrb, erb, _, _⟩ := hlb.last
  have hra : (ka :: ca).getLast? = some ra := by rw [era]; simp
  have hrb : (kb :: cb).getLast? = some rb := by rw [erb]; simp
  have hka := (List.getElem?_eq_some_iff.1 ha).1
  have hkb := (List.getElem?_eq_some_iff.1 hb).1
  obtain ⟨c, one, hres⟩ : ∃ (c : Int) (one : Bool), (ra ≠ rb → c = 0 ∧ one = false) ∧ (ra = rb → c = cmpP (preD X.F ra) ka kb ∧ one = true) := by
    by_cases e : ra = rb
    · exact ⟨_, true, fun hne => absurd e hne, fun _ => ⟨rfl, rfl⟩⟩
    · exact ⟨0, false, fun _ => ⟨rfl, rfl⟩, fun he => absurd he e⟩
  have hlo : ∀ m, (ka :: ca).find? (fun u => decide (u ∈ kb :: cb)) = some m → m < X.F.length := fun m hm => hla.mem_lt m (List.mem_of_find?_eq_some hm)
  refine ⟨ka, kb, c, one, posF X.F ka kb ra rb ca cb, decide (ka ∈ kb :: cb), decide (ka ∈ cb), upI ((ka :: ca).find? (fun u => decide (u ∈ kb :: cb))), (hd X.F ((ka :: ca).find? (fun u => decide (u ∈ kb :: cb)))).1, (hd X.F ((ka :: ca).find? (fun u => decide (u ∈ kb :: cb)))).2, eqD X.F (lkB R) ka kb, ⟨e1, e2⟩, ⟨?_, ?_, ?_, ?_, ?_⟩, ⟨?_, ?_, ?_, ?_, ?_, ?_⟩, ?_⟩
  · exact fun W b => compareT_calls (h.t.below b) (hz.below b) ha hal hb hbl hla hlb hra hrb hres
  · exact fun W b => positionT_calls (h.t.below b) (hz.below b) ha hal hb hbl hla hlb hra hrb
  · exact fun W b => containsT_calls (h.t.below b) (hz.below b) ha hal hb hbl hlb
  · exact fun W b => commonT_calls (h.t.below b) (hz.below b) ha hal hb hbl hla hlb rfl
  · exact fun W b => equalT_calls (h.below b) (hz.below b) ha hal hb hbl
  · exact fun W b => rcompare_calls (h.f.below b) ok hla hlb hra hrb hres
  · exact fun W b => rposition_calls (h.f.below b) ok hla hlb hra hrb
  · exact fun W b => rhas_calls (h.f.below b) hlb
  · exact fun W b => rcommon_calls (h.f.below b) hla hlb
  · exact fun W b => rhandle_o (h.f.below b) hlo
  · exact fun W b => requal_calls h.f ok h.rbd ka hka kb hkb W b
  · rw [Bool.eq_iff_iff]
    simp
end
end Go.Proofs.YtelhnaphkbpakaaDoor
namespace Go.Proofs.YtelhnaphkbpakaaDoor
open Go.RowKit Go.Shelf
attribute [local go_sem] Oper.semAt_some
set_option linter.unusedVariables false
set_option maxRecDepth 100000
theorem downT_calls (w : World) (o : Option Addr) (s g : Int) :
    Calls Tryd.prog 26 #[.pointer o, .agg #[.int .u32 s, .int .u32 g]] w fun e w' => e = .returned (.func (.func 56) #[] #[.pointer (some ⟨w.heap.size, 0, none⟩), .pointer (some ⟨w.heap.size + 1, 0, none⟩)]) ∧ w' = (w.alloc (.cells #[.pointer o] 25)).alloc (.cells #[.int .u32 s, .int .u32 g] 31) := by
  go_enter Tryd.func26, Tryd.ntmps26
  go_wp2
  go_ret
  exact ⟨rfl, rfl⟩
structure SzI (w : World) (C : Nat) (pre : List Nat) (W : World) : Prop where
  box : W.heap[C]? = some (.cells #[.int .i64 (pre.length : Int)] 3 (0, 0))
  low : Below w.heap.size w W
theorem FrT.lowB {T : List TypeId} {B n : Nat} {A C : World} (f : FrT T B A C) (hn : n ≤ B) (hA : n ≤ A.heap.size) : Below n A C :=
  ⟨f.os, f.tape, f.output, f.size, fun k hk => by
    have e : A.heap[k]? = some A.heap[k] := Array.getElem?_eq_getElem (by omega)
    rw [e]; exact f.block k _ e (.inl (by omega))⟩
section
variable {B : Nat} {Q : Nat → Prop} {w : World} {tb : Nat} {X : TX}
set_option maxHeartbeats 8000000 in
theorem sizeT_calls (h : TreeAt B Q w tb X) (hz : NoneAt w) {r : Nat} {xr : FN} (hr : X.F[r]? = some xr) (hrl : xr.live = true) :
    Calls Tryd.prog 25 #[.pointer (some ⟨tb, 0, none⟩), .agg #[.int .u32 (xr.sl : Int), .int .u32 (xr.gn : Int)]] w fun e w' => e = .returned (.tuple #[.int .i64 ((preD X.F r).length : Int), .int .i64 0]) ∧ Below w.heap.size w w' := by
  refine (callsIn_wide (n := 10)).1 ?_
  have ok := h.fok
  have hrlen := (List.getElem?_eq_some_iff.1 hr).1
  have hplen := preD_len ok hrlen
  have hbig := h.rw.big
  obtain ⟨nba, Pa, hma, hata, hsla, hs2a, hg2a⟩ := h.rw.at_live hr hrl
  have HT := Lib.hid h
  have HZ := Lib.hid hz
  have HLI : Hid (∀ W1 gb, Below w.heap.size w W1 → HRow W1 gb [(xr.sl, xr.gn)] → Calls Tryd.prog 40 #[.pointer (some ⟨tb, 0, none⟩), .slice (some ⟨gb, 0, none⟩) 1 1] W1 fun e w' => e = .returned (.int .i64 0) ∧ Below W1.heap.size W1 w') := Lib.hid (fun W1 gb b hr1 => lives_calls (h.rw.below b) hr1 (by simp) (.inl ⟨rfl, by
    intro p hp
    obtain rfl := List.mem_singleton.1 hp
    exact ⟨r, xr, hr, hrl, rfl, rfl⟩⟩))
  have HHR : Hid (∀ W1 gb, W1.heap[gb]? = some (.cells #[.int .u32 (xr.sl : Int), .int .u32 (xr.gn : Int)] 31 (0, 0)) → HRow W1 gb [(xr.sl, xr.gn)]) := Lib.hid (fun W1 gb hgb => ⟨fun j p hp => by
    match j, hp with
    | 0, hp => cases hp; exact ⟨cell_blk hgb 0 rfl, cell_blk hgb 1 rfl⟩
    | j + 1, hp => simp at hp, by
    intro p hp
    obtain rfl := List.mem_singleton.1 hp; exact ⟨by simp only; omega, by simp only; omega⟩⟩)
  have HSEQ : Hid (∀ W Bt Bh, Below w.heap.size w W → W.heap[Bt]? = some (.cells #[.pointer (some ⟨tb, 0, none⟩)] 25 (0, 0)) → W.heap[Bh]? = some (.cells #[.int .u32 (xr.sl : Int), .int .u32 (xr.gn : Int)] 31 (0, 0)) → SeqT [31] Fence.wide 9 Tryd.prog 56 #[.pointer (some ⟨Bt, 0, none⟩), .pointer (some ⟨Bh, 0, none⟩)] (encK X.F) (KpD w.heap.size) (preD X.F r) W) := Lib.hid (fun W Bt Bh b h1 h2 => down1_seq h hz hr hrl 9 (by omega) b h1 h2)
  obtain ⟨L, hL⟩ : ∃ L, L = preD X.F r := ⟨_, rfl⟩
  rw [← hL] at HSEQ hplen ⊢
  have HBG : Hid (L.length ≤ 1099511627776) := Lib.hid (by omega)
  clear h hz hr hrl hma hata hsla hs2a hg2a ok hrlen hplen hbig hL
  generalize xr.sl = s at *
  generalize xr.gn = g at *
  obtain ⟨V, hV⟩ : ∃ V, V = (w.alloc (.cells #[.int .u32 (s : Int), .int .u32 (g : Int)] 31)).alloc (.cells #[.int .u32 (s : Int), .int .u32 (g : Int)] 31) := ⟨_, rfl⟩
  have bV : Below w.heap.size w V := by rw [hV]; exact (by repeat (first | exact Below.refl _ _ | assumption | refine Below.drew ?_ | refine below_drewN ?_ _ | refine Below.alloc ?_ (by simp <;> omega) _ | refine Below.setCell ?_ (by simp <;> omega) _ | (apply bl_trans; assumption; (simp <;> omega))))
  have hx : V.heap[w.heap.size + 1]? = some (.cells #[.int .u32 (s : Int), .int .u32 (g : Int)] 31 (0, 0)) := by rw [hV]; exact alloc2_blk w _ _
  have hy : V.heap[w.heap.size]? = some (.cells #[.int .u32 (s : Int), .int .u32 (g : Int)] 31 (0, 0)) := by rw [hV]; exact alloc_blk (Go.heap_alloc_new w _) _
  have HX := Lib.hid (And.intro hx (And.intro hy bV))
  have HLC := Lib.hid (HLI.out V _ bV (HHR.out V _ hx))
  have hV2 := hV
  clear hV hx hy bV
  have hro : Fence.wide.round = none := rfl
  refine callsIn_of_wp_marks Tryd.func25 rfl trivial ?_ rfl
  simp only [Tryd.ntmps25, List.size_toArray, List.length_cons, List.length_nil, Nat.reduceAdd, Nat.reduceSub, Array.replicate_succ, Array.replicate_zero, List.push_toArray, List.append_toArray, List.nil_append, List.cons_append]
  gi_wp2
  rw [← hV2]
  clear hV2
  gi_wp2_with (first | (refine ⟨trivial, ?_⟩; gi_at_call 40; refine (callsIn_wide.2 HLC.out).mono ?_; rintro e w1 ⟨rfl, b1⟩; have HB1 := Lib.hid (HX.out.2.2.trans (b1.mono HX.out.2.2.size)); have hy1 := (b1.block _ (lt_of_some HX.out.2.1)).trans HX.out.2.1; have c0 := cell_blk hy1 0 rfl; have c1 := cell_blk hy1 1 rfl; have lc := lt_of_some hy1; clear b1 hy1) | (refine ⟨trivial, ?_⟩; gi_at_call 26; refine (callsIn_wide.2 (downT_calls _ _ _ _)).mono ?_; rintro e w2 ⟨rfl, rfl⟩))
  have hb1 : Below w.heap.size w w1 := HB1.out
  have hs1 := hb1.size
  have hw0 : Below w.heap.size w (((w1.alloc (.cells #[.int .i64 0] 3)).alloc (.cells #[.pointer (some ⟨tb, 0, none⟩)] 25)).alloc (.cells #[.int .u32 (s : Int), .int .u32 (g : Int)] 31)) := ((hb1.alloc hs1 _).alloc (by simp; omega) _).alloc (by simp; omega) _
  obtain ⟨a1, a2, a3⟩ := alloc3_bt w1 (.cells #[.int .i64 0] 3) (.cells #[.pointer (some ⟨tb, 0, none⟩)] 25) (.cells #[.int .u32 (s : Int), .int .u32 (g : Int)] 31)
  generalize hW : ((w1.alloc (.cells #[.int .i64 0] 3)).alloc (.cells #[.pointer (some ⟨tb, 0, none⟩)] 25)).alloc (.cells #[.int .u32 (s : Int), .int .u32 (g : Int)] 31) = W0 at hw0 a1 a2 a3 ⊢
  have hs0 := hw0.size
  have hst := HSEQ.out W0 _ _ hw0 a2 a3
  have hI0 : SzI w w1.heap.size [] W0 := ⟨a1, hw0⟩
  have hC : w1.heap.size < W0.heap.size := lt_of_some a1
  clear hW a2 a3
  refine range_T (T := [31]) rfl (by decide) (gf := 56) (lb := #[.pointer (some ⟨w1.heap.size + 1, 0, none⟩), .pointer (some ⟨w1.heap.size + 1 + 1, 0, none⟩)]) rfl trivial (enters_of Tryd.func56 (by kernel_rfl) rfl)
    hst (fun h k => h.trans k) (kpD_b hs0) (Below.refl _ _) (fun _ => rfl)
    (SzI w w1.heap.size) (fun _ _ _ => False) ?own (fun _ _ _ _ _ hs _ _ => hs) ?abide (fun _ _ _ _ hs _ => hs) hI0
    (fun k => { tmps := #[.pointer (some ⟨tb, 0, none⟩), .agg #[.int .u32 (s : Int), .int .u32 (g : Int)], undef, .pointer (some ⟨w.heap.size, 0, none⟩), .int .i64 0, .int .i64 0, .int .i64 0, .pointer (some ⟨w1.heap.size, 0, none⟩), .pointer (some ⟨tb, 0, none⟩), .agg #[.int .u32 (s : Int), .int .u32 (g : Int)], .slice (some ⟨w.heap.size + 1, 0, none⟩) 1 1, .int .i64 0, .int .i64 0, .bool false, undef, .pointer (some ⟨tb, 0, none⟩), .agg #[.int .u32 (s : Int), .int .u32 (g : Int)], .func (.func 56) #[] #[.pointer (some ⟨w1.heap.size + 1, 0, none⟩), .pointer (some ⟨w1.heap.size + 1 + 1, 0, none⟩)], .agg #[.int .u32 ((hd X.F (some k)).1 : Int), .int .u32 ((hd X.F (some k)).2 : Int)], undef, undef, undef], defers := [] }) ?assign ?body ?done ?stop
  case own =>
    intro pre A C row hs hg hr
    refine ⟨(hg.block _ (lt_of_some hs.box) (fun e => ?_)).trans hs.box, hs.low.trans (grown_below hg (fun x e => by have := (hr x e).1; omega) hs.low.size)⟩
    obtain ⟨_, o, ho, hc⟩ := hr _ e.symm
    rw [hs.box] at ho
    cases ho
    cases hc
  case abide =>
    intro pre A C hs f
    exact ⟨f.block _ _ hs.box (.inr (fun e he => by cases he; decide)), hs.low.trans (f.lowB hs0 hs.low.size)⟩
  case assign =>
    intro l x W K hK
    simp only [encK]
    gi_wp2
    simpa using hK
  case body =>
    rintro l pre x W hI hpf
    have c0 := cell_blk hI.box 0 rfl
    have f0 := free_blk hI.box 0
    have lC := lt_of_some hI.box
    have hpl : pre.length + 1 ≤ L.length := by have := hpf.length_le; simpa using this
    have HI := Lib.hid hI
    have wp1 : IntKind.i64.wrap ((pre.length : Int) + 1) = (pre.length : Int) + 1 := IntWalk.i64_in _ (by have := HBG.out; omega)
    clear hI hpf
    gi_wp2
    have hbx : (W.setCell ⟨w1.heap.size, 0, none⟩ (.int .i64 ((pre.length : Int) + 1))).heap[w1.heap.size]? = some (.cells #[.int .i64 ((pre ++ [x]).length : Int)] 3 (0, 0)) := by
      have := set_blk HI.out.box 0 (.int .i64 ((pre.length : Int) + 1))
      simpa using this
    refine ⟨(KeepsOthers.setCell _ _ _).from _, ⟨(Below.refl _ _).setCell hs1 _, fun k c t fz ht e => ?_⟩, ⟨hbx, HI.out.low.setCell hs1 _⟩⟩
    have hk : k ≠ w1.heap.size := by
      rintro rfl
      rw [HI.out.box] at e
      cases e
      rcases ht with h | h <;> cases h
    rw [heap_setCell_other _ _ _ _ hk]
    exact e
  case done =>
    rintro D W hD hI hK
    have c0 := cell_blk hI.box 0 rfl
    have HI := Lib.hid hI
    clear hI
    gi_wp2
    refine ⟨by simp, .inl ⟨_, _, rfl, run_takeDeferred hK, ?_⟩⟩
    exact ⟨_, results_tmp2 rfl _ _ _, rfl, HI.out.low.trans (belowK_b (w := w) (Nat.le_refl _) W D _ _ (by omega) hK rfl rfl)⟩
  case stop =>
    rintro D c pre W _ _ h _
    exact h.elim
end
end Go.Proofs.YtelhnaphkbpakaaDoor
namespace Go.Proofs.YtelhnaphkbpakaaDoor
open Go.RowKit
set_option linter.unusedVariables false
set_option maxRecDepth 100000
theorem fgt_pre (F : For) : ∀ n k, pre (fgt F) n k = pre F n k := by
  have hd : ∀ k, dnOf (fgt F) (some k) = dnOf F (some k) := fun k => by
    unfold dnOf
    simp only [Option.bind_some, fgt_at]
    cases F[k]? <;> rfl
  intro n
  induction n with
  | zero => intro k; rfl
  | succ n ih =>
    intro k
    show k :: (dnOf (fgt F) (some k)).flatMap (pre (fgt F) n) = k :: (dnOf F (some k)).flatMap (pre F n)
    rw [hd]
    congr 1
    exact flatMap_cg (fun c _ => ih c)
theorem fgt_preD (F : For) (k : Nat) : preD (fgt F) k = preD F k := by unfold preD; rw [fgt_len, fgt_pre]
def mk8 (k a b : Int) : MkV := ⟨⟨k, a, b, 0⟩, ⟨#[]⟩, none, 0, []⟩
def L10 : List MkV := [mk8 4 0 0, mk8 1 0 0, mk8 2 0 0, mk8 1 0 0, mk8 2 0 0, mk8 1 0 0, mk8 6 1 0, mk8 6 2 1, mk8 6 3 1, mk8 6 4 3]
def G10 : For := [⟨0, 0, none, [1], true⟩, ⟨0, 0, some 0, [2, 3], true⟩, ⟨0, 0, some 1, [], true⟩, ⟨0, 0, some 1, [4], true⟩, ⟨0, 0, some 3, [], true⟩, ⟨0, 0, none, [], true⟩]
theorem run10 : runS (L10.map MkV.m) = G10 := by kernel_rfl
theorem pre10 : preD G10 0 = [0, 1, 2, 3, 4] := by kernel_rfl
theorem mks10 (w : World) : MksIn (w.alloc (.cells (L10.flatMap MkV.cells).toArray 76)) (some ⟨w.heap.size, 0, none⟩) L10 := by
  refine ⟨fun i x hx => ⟨w.heap.size, 0, rfl, fun j v hv => ?_⟩, fun x hx => ?_⟩
  · have hj : j < 6 := (List.getElem?_eq_some_iff.1 hv).1
    have e1 := fl_at (f := MkV.cells) (k := 6) (fun _ => rfl) hx j hj
    refine cell_blk (Go.heap_alloc_new w _) (0 + i * 6 + j) ?_
    rw [Nat.zero_add, List.getElem?_toArray, e1, hv]
  · have : ∀ k a b, (-9223372036854775808 ≤ a ∧ a ≤ 9223372036854775807) → (-9223372036854775808 ≤ b ∧ b ≤ 9223372036854775807) → MkB (mk8 k a b) ∧ Sl16 (w.alloc (.cells (L10.flatMap MkV.cells).toArray 76)) (mk8 k a b).ua (mk8 k a b).un ∧ (mk8 k a b).un.length ≤ (mk8 k a b).uc ∧ (mk8 k a b).uc ≤ 9223372036854775807 ∧ (mk8 k a b).un.length ≤ 1099511627776 := fun k a b ha hb =>
      ⟨⟨by show 0 ≤ _; omega, ha, hb, by show -9223372036854775808 ≤ (0 : Int) ∧ (0 : Int) ≤ 9223372036854775807; omega⟩, Sl16.nil _ _, Nat.le_refl _, by show 0 ≤ _; omega, by show 0 ≤ _; omega⟩
    simp only [L10, List.mem_cons, List.not_mem_nil, or_false] at hx
    rcases hx with rfl | rfl | rfl | rfl | rfl | rfl | rfl | rfl | rfl | rfl <;> exact this _ _ _ (by omega) (by omega)
theorem node10 : ∀ x ∈ L10, 1 ≤ x.m.kind → x.m.kind ≤ 5 → NodeC x := by
  intro x hx h1 h2
  simp only [L10, List.mem_cons, List.not_mem_nil, or_false] at hx
  rcases hx with rfl | rfl | rfl | rfl | rfl | rfl | rfl | rfl | rfl | rfl
  · exact nodeC4 rfl
  · exact nodeC1 rfl
  · exact nodeC2 rfl
  · exact nodeC1 rfl
  · exact nodeC2 rfl
  · exact nodeC1 rfl
  all_goals exact absurd h2 (by decide)
theorem forest10 {F : For} {i : Nat} (h : fgt F = runS ((L10.map MkV.m).take i)) (hi : L10.length ≤ i ∨ 200 ≤ F.length) : fgt F = G10 := by
  have hl : F.length ≤ 10 := by
    have h1 : (runS ((L10.map MkV.m).take i)).length ≤ 0 + ((L10.map MkV.m).take i).length := runS_len ((L10.map MkV.m).take i) []
    have h2 : F.length = (runS ((L10.map MkV.m).take i)).length := by rw [← h, fgt_len]
    have h3 : ((L10.map MkV.m).take i).length ≤ 10 := by rw [List.length_take, List.length_map]; exact Nat.min_le_right _ _
    omega
  rcases hi with hi | hi
  · rw [h, List.take_of_length_le (by rw [List.length_map]; exact hi), run10]
  · omega
theorem at10 {F : For} (h : fgt F = G10) {k : Nat} {y : FN} (hy : G10[k]? = some y) : ∃ x : FN, F[k]? = some x ∧ x.up = y.up ∧ x.down = y.down ∧ x.live = y.live := by
  rw [← h, fgt_at, Option.map_eq_some_iff] at hy
  obtain ⟨x, hx, rfl⟩ := hy
  exact ⟨x, hx, rfl, rfl, rfl⟩
structure Aw10 (tb fb g cap : Nat) (h0 h2 h4 h5 : Nat × Nat) (W : World) : Prop where
  f : W.cell? ⟨fb, 0, none⟩ = some (.slice (some ⟨g, 0, none⟩) 6 cap)
  a0 : W.cell? ⟨g, 0, none⟩ = some (.int .u32 (h0.1 : Int)) ∧ W.cell? ⟨g, 1, none⟩ = some (.int .u32 (h0.2 : Int))
  a2 : W.cell? ⟨g, 22, none⟩ = some (.int .u32 (h2.1 : Int)) ∧ W.cell? ⟨g, 23, none⟩ = some (.int .u32 (h2.2 : Int))
  a4 : W.cell? ⟨g, 44, none⟩ = some (.int .u32 (h4.1 : Int)) ∧ W.cell? ⟨g, 45, none⟩ = some (.int .u32 (h4.2 : Int))
  a5 : W.cell? ⟨g, 55, none⟩ = some (.int .u32 (h5.1 : Int)) ∧ W.cell? ⟨g, 56, none⟩ = some (.int .u32 (h5.2 : Int))
  cmp : Calls Tryd.prog 12 #[.pointer (some ⟨tb, 0, none⟩), .agg #[.int .u32 (h4.1 : Int), .int .u32 (h4.2 : Int)], .agg #[.int .u32 (h2.1 : Int), .int .u32 (h2.2 : Int)]] W fun e w' => e = .returned (.tuple #[.int .i64 1, .bool true, .int .i64 0]) ∧ Below W.heap.size W w'
  pos : Calls Tryd.prog 13 #[.pointer (some ⟨tb, 0, none⟩), .agg #[.int .u32 (h2.1 : Int), .int .u32 (h2.2 : Int)], .agg #[.int .u32 (h5.1 : Int), .int .u32 (h5.2 : Int)]] W fun e w' => e = .returned (.tuple #[.int .i64 37, .int .i64 0]) ∧ Below W.heap.size W w'
  siz : Calls Tryd.prog 25 #[.pointer (some ⟨tb, 0, none⟩), .agg #[.int .u32 (h0.1 : Int), .int .u32 (h0.2 : Int)]] W fun e w' => e = .returned (.tuple #[.int .i64 5, .int .i64 0]) ∧ Below W.heap.size W w'
theorem aw10 {w w2 : World} {tb fb : Nat} (hp : GrPost w L10 tb fb w2) (hz : NoneAt w2) : ∃ g cap h0 h2 h4 h5, ∀ W, Below w2.heap.size w2 W → Aw10 tb fb g cap h0 h2 h4 h5 W := by
  obtain ⟨Q, X, R, rv, i, hb, hf, hi, hl⟩ := hp
  have hG := forest10 hf hi
  have hlen : X.F.length = 6 := by have := congrArg List.length hG; rw [fgt_len] at this; exact this
  obtain ⟨x0, k0, u0, d0, v0⟩ := at10 hG (k := 0) rfl
  obtain ⟨x1, k1, u1, d1, v1⟩ := at10 hG (k := 1) rfl
  obtain ⟨x2, k2, u2, d2, v2⟩ := at10 hG (k := 2) rfl
  obtain ⟨x3, k3, u3, d3, v3⟩ := at10 hG (k := 3) rfl
  obtain ⟨x4, k4, u4, d4, v4⟩ := at10 hG (k := 4) rfl
  obtain ⟨x5, k5, u5, d5, v5⟩ := at10 hG (k := 5) rfl
  have c0 : Chain X.F 0 [0] := .root k0 u0
  have c1 : Chain X.F 1 [1, 0] := .up k1 u1 c0
  have c2 : Chain X.F 2 [2, 1, 0] := .up k2 u2 c1
  have c3 : Chain X.F 3 [3, 1, 0] := .up k3 u3 c1
  have c4 : Chain X.F 4 [4, 3, 1, 0] := .up k4 u4 c3
  have c5 : Chain X.F 5 [5] := .root k5 u5
  have hpre : preD X.F 0 = [0, 1, 2, 3, 4] := by rw [← fgt_preD, hG, pre10]
  obtain ⟨g, cap, P, dv, e, _⟩ := hb.f.get k0
  refine ⟨g, cap, (x0.sl, x0.gn), (x2.sl, x2.gn), (x4.sl, x4.gn), (x5.sl, x5.gn), fun W b => ?_⟩
  have hb2 := hb.below b
  have hz2 := hz.below b
  have cell : ∀ (k : Nat) (x : FN), X.F[k]? = some x → W.cell? ⟨g, k * 11, none⟩ = some (.int .u32 (x.sl : Int)) ∧ W.cell? ⟨g, k * 11 + 1, none⟩ = some (.int .u32 (x.gn : Int)) := fun k x hx => by
    obtain ⟨g2, cap2, P2, dv2, e2, _, q0, q1, _⟩ := hb2.f.get hx
    rw [e] at e2
    simp only [Value.slice.injEq, Option.some.injEq, Addr.mk.injEq, and_true, true_and] at e2
    obtain ⟨rfl, rfl⟩ := e2
    exact ⟨q0, q1⟩
  refine ⟨?_, cell 0 x0 k0, cell 2 x2 k2, cell 4 x4 k4, cell 5 x5 k5, ?_, ?_, ?_⟩
  · have := hb2.f.b0
    rw [e, hlen] at this
    exact this
  · refine compareT_calls hb2.t hz2 k4 v4 k2 v2 c4 c2 (ra := 0) (rb := 0) rfl rfl ⟨fun h => absurd rfl h, fun _ => ⟨?_, rfl⟩⟩
    rw [hpre]
    rfl
  · have := positionT_calls hb2.t hz2 k2 v2 k5 v5 (ra := 0) (rb := 5) c2 c5 rfl rfl
    rw [show posF X.F 2 5 0 5 [1, 0] [] = 37 from by unfold posF; simp] at this
    exact this
  · have := sizeT_calls hb2.t hz2 k0 v0
    rw [hpre] at this
    exact this
set_option maxHeartbeats 8000000 in
theorem awake8_true (w : World) (hz : NoneAt w) :
    Calls Tryd.prog 8 #[] w fun e w' => e = .returned (.bool true) ∧ Below w.heap.size w w' := by
  have HZ := Lib.hid hz
  have HG : Hid (Calls Tryd.prog 9 #[.slice (some ⟨w.heap.size, 0, none⟩) 10 10] (w.alloc (.cells (L10.flatMap MkV.cells).toArray 76)) fun e w' => ∃ tb fb, e = .returned (.tuple #[.pointer (some ⟨tb, 0, none⟩), .pointer (some ⟨fb, 0, none⟩), .bool true]) ∧ GrPost (w.alloc (.cells (L10.flatMap MkV.cells).toArray 76)) L10 tb fb w') := Lib.hid (grown_calls (mks10 w) (by show 10 ≤ _; omega) node10)
  have bV : Below w.heap.size w (w.alloc (.cells (L10.flatMap MkV.cells).toArray 76)) := (Below.refl _ _).alloc (Nat.le_refl _) _
  have HV := Lib.hid bV
  clear bV hz
  go_enter Tryd.func8, Tryd.ntmps8
  go_wp2_with (go_at_call 9; refine HG.out.mono ?_; rintro e w2 ⟨tb, fb, rfl, hp⟩; have HB2 : Hid (Below w.heap.size w w2) := Lib.hid (by obtain ⟨_, _, _, _, _, _, _, _, hl⟩ := hp; exact HV.out.trans (hl.mono HV.out.size)); obtain ⟨g, cap, ⟨s0, g0⟩, ⟨s2, g2⟩, ⟨s4, g4⟩, ⟨s5, g5⟩, ha⟩ := aw10 hp (HZ.out.below HB2.out); have HA := Lib.hid ha; have q := ha w2 (Below.refl _ _); have b0 := q.f; have y0 := q.a0.1; have y1 := q.a0.2; have y2 := q.a2.1; have y3 := q.a2.2; have y4 := q.a4.1; have y5 := q.a4.2; have y6 := q.a5.1; have y7 := q.a5.2; have lb := cell_lt b0; have lg := cell_lt y0; simp only at y0 y1 y2 y3 y4 y5 y6 y7 lb lg; clear hp ha q)
  go_wp2_with (first | (go_at_call 12; refine (HA.out _ (alloc3_lo w2 (.cells #[.int .u32 (s2 : Int), .int .u32 (g2 : Int)] 31) (.cells #[.int .u32 (s4 : Int), .int .u32 (g4 : Int)] 31) (.cells #[.int .u32 (s5 : Int), .int .u32 (g5 : Int)] 31))).cmp.mono ?_; rintro e w3 ⟨rfl, b3⟩; obtain ⟨p1, p2, p3⟩ := alloc3_bt w2 (.cells #[.int .u32 (s2 : Int), .int .u32 (g2 : Int)] 31) (.cells #[.int .u32 (s4 : Int), .int .u32 (g4 : Int)] 31) (.cells #[.int .u32 (s5 : Int), .int .u32 (g5 : Int)] 31); have hq1 := (b3.block _ (lt_of_some p1)).trans p1; have hq3 := (b3.block _ (lt_of_some p3)).trans p3; have t0 := cell_blk hq1 0 rfl; have t1 := cell_blk hq1 1 rfl; have t2 := cell_blk hq3 0 rfl; have t3 := cell_blk hq3 1 rfl; have HB3 := Lib.hid ((alloc3_lo w2 (.cells #[.int .u32 (s2 : Int), .int .u32 (g2 : Int)] 31) (.cells #[.int .u32 (s4 : Int), .int .u32 (g4 : Int)] 31) (.cells #[.int .u32 (s5 : Int), .int .u32 (g5 : Int)] 31)).trans (b3.mono (alloc3_lo w2 (.cells #[.int .u32 (s2 : Int), .int .u32 (g2 : Int)] 31) (.cells #[.int .u32 (s4 : Int), .int .u32 (g4 : Int)] 31) (.cells #[.int .u32 (s5 : Int), .int .u32 (g5 : Int)] 31)).size)); clear b3 p1 p2 p3 hq1 hq3) | (go_at_call 13; refine (HA.out _ HB3.out).pos.mono ?_; rintro e w4 ⟨rfl, b4⟩; have HB4 := Lib.hid (HB3.out.trans (b4.mono HB3.out.size)); have c0 := (HA.out _ HB4.out).f; have c1 := (HA.out _ HB4.out).a0.1; have c2 := (HA.out _ HB4.out).a0.2; simp only at c1 c2; clear b4) | (go_at_call 25; refine (HA.out _ HB4.out).siz.mono ?_; rintro e w5 ⟨rfl, b5⟩; have HB5 := Lib.hid (HB4.out.trans (b5.mono HB4.out.size)); clear b5))
  go_ret
  exact ⟨rfl, HB2.out.trans (HB5.out.mono HB2.out.size)⟩
end Go.Proofs.YtelhnaphkbpakaaDoor
