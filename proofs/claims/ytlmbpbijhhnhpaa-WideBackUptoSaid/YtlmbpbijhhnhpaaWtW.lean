/- WideTexts walked. -/
import Derived.Test.YtlmbpbijhhnhpaaWd25
import Derived.Test.YtlmbpbijhhnhpaaWd26
import Derived.Test.YtlmbpbijhhnhpaaWd27
import Derived.Test.YtlmbpbijhhnhpaaWd18
import Derived.Test.YtlmbpbijhhnhpaaAp3
import Derived.Deep.DeepCutAuto
import Derived.Deep.CutBlock
import Derived.Laws.EntriesVeiled
import Derived.Maps.OwnIn
namespace Go.Proofs.Ytlmbpbijhhnhpaa
open Go.RowKit Go.Shelf
attribute [local go_sem] Oper.semAt_some
set_option linter.unusedVariables false
set_option maxRecDepth 100000

theorem under88 : Try.prog.underlying 88 = some (.func #[146] #[] false) := by kernel_rfl
theorem eql_func88 (fn : Fn) (x y : Array Value) (w : World) : (binOp .eql 88 (.func fn x y) .nilFunc).run Try.prog w = .ok (.bool false) w := by
  have h : ∀ d : Nat, (Op.equalIn (d + 1) 88 (.func fn x y) .nilFunc).run Try.prog w = .ok false w := fun d => by
    simp [Op.equalIn, run_underlying under88]
  simp only [binOp]
  simp [Op.equal, Op.maxDepth, h 9999]
theorem store_funcW (P : Program) (w : World) (a : Addr) (fn : Fn) (x y : Array Value) (m : Mode) : (store a (.func fn x y) m).run P w = stored P w a (.func fn x y) m := run_store P w a _ m rfl
attribute [local go_sem] eql_func88 store_funcW
theorem row_belowT {w w' : World} {base : Nat} {e : TypeId} {size : Nat} {v : Value} {n : Nat} {xs : List Value} (h : w.ownsRow base e size v n xs) (b : Below w.heap.size w w') : w'.ownsRow base e size v n xs := (FrT.of_below (T := []) (B := 0) b).row h (by simp)

/-- The box of the bad pieces: those so far. -/
structure BdI (W1 : World) (bb : Nat) (l : List Pc) (w : World) : Prop where
  box : ∃ a cap, w.heap[bb]? = some (.cells #[.slice a l.length cap] 83 (0, 0)) ∧ w.ownsRow (bb + 1) 86 4 (.slice a l.length cap) l.length (pcRow l)
  bel : Below bb W1 w
  size : bb + 1 ≤ w.heap.size
theorem BdI.push {W1 w w3 : World} {bb : Nat} {l : List Pc} {x : Pc} {a : Option Addr} {n cap g c3 : Nat} {o : Obj} (h : BdI W1 bb l w) (hs : bb ≤ W1.heap.size) (hbx : w.heap[bb]? = some (.cells #[.slice a n cap] 83 (0, 0))) (hrow : w.ownsRow (bb + 1) 86 4 (.slice a n cap) n (pcRow l)) (hn : n = l.length)
    (hown : w3.ownsRow (bb + 1) 86 4 (.slice (some ⟨g, 0, none⟩) (n + 1) c3) (n + 1) (pcRow l ++ pcCells x)) (hgrow : (w.alloc o).grownBy w3 (Value.slice a n cap).ownBlock) :
    BdI W1 bb (l ++ [x]) (w3.setCell ⟨bb, 0, none⟩ (.slice (some ⟨g, 0, none⟩) (n + 1) c3)) := by
  subst hn
  have hb3 := rwApp hrow hgrow hbx (by decide)
  have hsz := h.size
  have e : (l ++ [x]).length = l.length + 1 := by simp
  refine ⟨⟨_, _, by rw [e]; exact set_blk hb3 0 _, ?_⟩, ?_, ?_⟩
  · rw [e, show pcRow (l ++ [x]) = pcRow l ++ pcCells x by simp [pcRow]]
    exact rwOther hown hb3 (by decide) 0 _
  · have f : FrT [86] (bb + 1) w w3 := ((FrT.refl _ _ _).alloc o).append (hrow.alloc o) (Nat.le_refl _) (by simp) hgrow
    exact (h.bel.trans ((f.below hsz).mono (by omega))).setCell (p := ⟨bb, 0, none⟩) (by simp) _
  · have := hgrow.size
    simp at this ⊢
    omega
theorem BdI.drewB {W1 w : World} {bb : Nat} {l : List Pc} (h : BdI W1 bb l w) : BdI W1 bb l w.drew := by
  obtain ⟨a, c, h1, h2⟩ := h.box
  exact ⟨⟨a, c, h1, h2.drew⟩, h.bel.trans (Below.refl _ _).drew, h.size⟩
theorem badL_take {l : List Pc} {k : Nat} {x : Pc} (h : l[k]? = some x) : badL (l.take (k + 1)) = badL (l.take k) ++ if x.ok then [] else [x] := by
  rw [List.take_add_one, h]
  exact badL_snoc _ _

def cDt (D : Nat) : Deferred := { target := .collected D, args := #[] }
structure TurnT (P : World) (b turn bt : Nat) (Ds : List Nat) (W : World) : Prop where
  le : turn ≤ 2
  box : W.heap[bt]? = some (.cells #[.int .i64 (turn : Int)] 3 (0, 0))
  bt : b + 1 + 1 ≤ bt
  size : b + 1 + 1 ≤ P.heap.size
  bel : Below P.heap.size P W
  len : Ds.length = turn
  nodup : Ds.Nodup
  defs : ∀ D ∈ Ds, W.heap[D]? = some (.deferred (some [])) ∧ P.heap.size ≤ D
def turnT (a : Act) (w : World) : Nat := match a.tmps.getD 15 undef with
  | .pointer (some p) => match w.cell? p with
    | some v => (intOf v).toNat
    | none => 0
  | _ => 0
theorem turnT_eq {a : Act} {w : World} {bt turn : Nat} (h : a.tmps.getD 15 undef = .pointer (some ⟨bt, 0, none⟩)) (hb : w.heap[bt]? = some (.cells #[.int .i64 (turn : Int)] 3 (0, 0))) : turnT a w = turn := by
  have c := cell_blk hb 0 rfl
  unfold turnT
  rw [h]
  simp at c
  simp [c, intOf]
theorem TurnT.next {P : World} {b turn bt D : Nat} {Ds : List Nat} {wr W : World} (h : TurnT P b turn bt Ds wr) (hlt : turn < 2) (hb : Below P.heap.size P W) (hD : W.heap[D]? = some (.deferred (some []))) (hP : P.heap.size ≤ D) (hf : ∀ x ∈ Ds, x < D) (hd : ∀ x ∈ Ds, W.heap[x]? = some (.deferred (some []))) :
    TurnT P b (turn + 1) W.heap.size (D :: Ds) (W.alloc (.cells #[.int .i64 ((turn : Int) + 1)] 3)) :=
  ⟨hlt, by have := Go.heap_alloc_new W (.cells #[.int .i64 ((turn : Int) + 1)] 3); simpa using this, Nat.le_trans h.size hb.size, h.size, hb.alloc hb.size _, by simp [h.len], List.nodup_cons.2 ⟨fun hm => Nat.lt_irrefl _ (hf D hm), h.nodup⟩, fun x hx => by
    rcases List.mem_cons.1 hx with rfl | hx
    · exact ⟨alloc_blk hD _, hP⟩
    · exact ⟨alloc_blk (hd x hx) _, (h.defs x hx).2⟩⟩
/-- What holds in a turn's loop. -/
structure UbT (P : World) (turn bt bn : Nat) (Ds : List Nat) (lf : Bool) (m : Nat) (W : World) : Prop where
  bel : Below P.heap.size P W
  box : W.heap[bt]? = some (.cells #[.int .i64 (turn : Int)] 3 (0, 0))
  num : W.heap[bn]? = some (.cells #[.int .i64 (m : Int)] 3 (0, 0))
  left : W.heap[bn + 1]? = some (.cells #[.bool lf] 4 (0, 0))
  defs : ∀ D ∈ Ds, W.heap[D]? = some (.deferred (some []))
theorem ubT_own {β : Type} (P : World) (turn bt bn : Nat) (Ds : List Nat) (lf : Bool) (f : β → Nat) (D0 : Nat) (hP : P.heap.size ≤ D0) (hD : ∀ D ∈ Ds, D < D0) : OwnFrom D0 (fun s W => UbT P turn bt bn Ds lf (f s) W) := fun s X Y row hs hg hr =>
  ⟨hs.bel.grown hg hs.bel.size (fun k e => Nat.le_trans hP (hr k e).1), blkGrow hs.box hg (fun r e => (hr r e).2), blkGrow hs.num hg (fun r e => (hr r e).2), blkGrow hs.left hg (fun r e => (hr r e).2), fun D h => by
    refine (hg.block D (lt_of_some (hs.defs D h)) (fun e => ?_)).trans (hs.defs D h)
    have := (hr D e.symm).1
    have := hD D h
    omega⟩
theorem kpY_own {β : Type} (t n0 D : Nat) (W0 : World) (h1 : n0 ≤ W0.heap.size) (h2 : W0.heap.size ≤ D) : OwnFrom D (fun (_ : β) W => KpY t n0 W0 W) := fun s X Y row hs hg hr => by
  have hn : ∀ (k : Nat) (o : Obj), W0.heap[k]? = some o → X.heap[k]? = some o → Y.heap[k]? = some o := fun k o hk hx => by
    refine (hg.block k (lt_of_some hx) (fun e => ?_)).trans hx
    have := (hr k e.symm).1
    have := lt_of_some hk
    omega
  exact ⟨hs.below.grown hg (Nat.le_trans h1 hs.below.size) (fun k e => Nat.le_trans (Nat.le_trans h1 h2) (hr k e).1), ⟨Nat.le_trans hs.walks.size hg.size, fun k o hk ho => hn k o hk (hs.walks.same k o hk ho)⟩, fun k c fz e => hn k _ e (hs.box k c fz e)⟩
theorem kpY_set {t n0 : Nat} {W : World} {a : Addr} (v : Value) (h : n0 ≤ a.block) {c : Array Value} {e : TypeId} {fz : Nat × Nat} (hb : W.heap[a.block]? = some (.cells c e fz)) (he : e ≠ t) : KpY t n0 W (W.setCell a v) :=
  ⟨(Below.refl _ W).setCell h v, KeepsWalks.setCell _ _ _, fun k c' fz' hk => set_other hk (ne_blk hk hb (Ne.symm he)) v⟩
theorem prefixT {α : Type} {pre L : List α} {x y : α} (hy : L[pre.length]? = some y) (h : pre ++ [x] <+: L) : x = y := by
  obtain ⟨r, rfl⟩ := h
  simp at hy
  exact hy
theorem bad_row_slot {w : World} {B : Nat} {l : List Pc} {a : Option Addr} {cap : Nat} (h : w.ownsRow B 86 4 (.slice a l.length cap) l.length (pcRow l)) {k : Nat} {x : Pc} (hk : l[k]? = some x) :
    ∃ g, a = some ⟨g, 0, none⟩ ∧ g < w.heap.size ∧ w.cell? ⟨g, k * 4, none⟩ = some (.int .i64 (x.p : Int)) ∧ w.cell? ⟨g, k * 4 + 1, none⟩ = some (.int .i64 (x.n : Int)) := by
  have hl : k < l.length := (List.getElem?_eq_some_iff.1 hk).1
  obtain ⟨g, cap', hv, _⟩ := h.form (by omega)
  obtain ⟨rfl, rfl⟩ : a = some ⟨g, 0, none⟩ ∧ cap = cap' := by simpa using hv
  have c (j : Nat) (hj : j < 4) := (h.cellAt (k * 4 + j) (fl_lt hl hj)).trans (fl_at pcCells_len hk j hj)
  have c0 := c 0 (by omega)
  have c1 := c 1 (by omega)
  simp [pcCells] at c0 c1
  exact ⟨g, rfl, block_lt_of_cell c0, c0, c1⟩

set_option maxHeartbeats 8000000 in
theorem texts_in (w : World) (s : ByteArray) (hs : s.size ≤ 1048576) (leave : Int) (hb1 : -9223372036854775808 ≤ leave ∧ leave ≤ 9223372036854775807) :
    CallsIn Fence.wide 9 Try.prog 8 #[.string s, .int .i64 leave] w fun e w' => e = .returned (.bool true) ∧ Below w.heap.size w w' := by
  clear hb1
  obtain ⟨U, hU⟩ : ∃ U, U = fromPc (pcs s) := ⟨_, rfl⟩
  have HU := Lib.hid hU
  obtain ⟨n, hn⟩ : ∃ n, n = U.length := ⟨_, rfl⟩
  have HN := Lib.hid hn
  have hnb : n ≤ 2097152 := by
    rw [hn, hU]
    have h1 := fromPc_len (pcs s)
    have h2 := pcs_len s
    omega
  clear hU hn
  refine callsIn_of_wp_marks Try.func8 rfl trivial ?_ rfl
  simp only [Try.ntmps8, List.size_toArray, List.length_cons, List.length_nil, Nat.reduceAdd, Nat.reduceSub, Array.replicate_succ, Array.replicate_zero, List.push_toArray, List.append_toArray, List.nil_append, List.cons_append]
  gi_wp2_with fail
  refine ⟨trivial, ?_⟩
  refine (callsIn_wide.2 (alive_true _)).mono ?_
  rintro e w1 ⟨rfl, b1⟩
  have hB : Below w.heap.size w ((w.alloc (.cells #[.int .i64 leave] 3)).alloc (.cells #[.bool false] 4)) := ((Below.refl _ w).alloc (Nat.le_refl _) _).alloc (by simp) _
  have hs1 : w.heap.size + 1 + 1 ≤ w1.heap.size := by have := b1.size; simp at this; omega
  have B1 := Lib.hid (hB.trans (b1.mono (by simp; omega)))
  have X0 := Lib.hid ((b1.block w.heap.size (by simp; omega)).trans (alloc_blk (Go.heap_alloc_new w (.cells #[.int .i64 leave] 3)) (.cells #[.bool false] 4)))
  have X1 : Hid (w1.heap[w.heap.size + 1]? = some (.cells #[.bool false] 4 (0, 0))) := Lib.hid ((b1.block (w.heap.size + 1) (by simp)).trans (by have := Go.heap_alloc_new (w.alloc (.cells #[.int .i64 leave] 3)) (.cells #[.bool false] 4); rwa [World.size_alloc] at this))
  clear hB b1
  gi_wp2_with fail
  refine ⟨trivial, ?_⟩
  refine (callsIn_wide.2 (from_calls s (by omega) _)).mono ?_
  rw [← HU.out, ← HN.out]
  rintro e w2 ⟨a1, rfl, hc, b2⟩
  have hs2 : w1.heap.size ≤ w2.heap.size := b2.size
  have B2 := Lib.hid (B1.out.trans (b2.mono (by omega)))
  have Y0 := Lib.hid ((b2.block _ (lt_of_some X0.out)).trans X0.out)
  have Y1 := Lib.hid ((b2.block _ (lt_of_some X1.out)).trans X1.out)
  obtain ⟨c1, hr1⟩ := hc.row
  rw [← HN.out] at hr1
  have R1 := Lib.hid hr1
  have hbnd := hc.bnd
  have BND := Lib.hid hbnd
  clear b2 hc X0 X1 B1 hr1 hbnd
  gi_wp2_with fail
  refine ⟨trivial, ?_⟩
  refine (callsIn_wide.2 (from_calls s (by omega) _)).mono ?_
  rw [← HU.out, ← HN.out]
  rintro e w3 ⟨a2, rfl, hc, b3⟩
  have hs3 : w2.heap.size ≤ w3.heap.size := b3.size
  have B3 := Lib.hid (B2.out.trans (b3.mono (by omega)))
  have X0 := Lib.hid ((b3.block _ (lt_of_some Y0.out)).trans Y0.out)
  have X1 := Lib.hid ((b3.block _ (lt_of_some Y1.out)).trans Y1.out)
  have R1' := Lib.hid (row_belowT R1.out b3)
  have LB := Lib.hid (fun x hx => (R1.out.lt x hx).2)
  obtain ⟨c2, hr2⟩ := hc.row
  rw [← HN.out] at hr2
  have R2 := Lib.hid hr2
  clear b3 hc Y0 Y1 B2 hr2 R1
  gi_wp2_with fail
  refine ⟨trivial, ?_⟩
  refine (callsIn_wide.2 (ref_from s (by omega) _)).mono ?_
  rw [← HU.out, ← HN.out]
  rintro e w4 ⟨a3, c3, rfl, _, hr3, b4⟩
  have hs4 : w3.heap.size ≤ w4.heap.size := b4.size
  have B4 := Lib.hid (B3.out.trans (b4.mono (by omega)))
  have Y0 := Lib.hid ((b4.block _ (lt_of_some X0.out)).trans X0.out)
  have Y1 := Lib.hid ((b4.block _ (lt_of_some X1.out)).trans X1.out)
  have R1 := Lib.hid (row_belowT R1'.out b4)
  have R2' := Lib.hid (row_belowT R2.out b4)
  have R3 := Lib.hid hr3
  clear b4 X0 X1 B3 hr3 R1' R2
  have S1 : Hid (Sl16 w4 a1 U) := Lib.hid (sl16_of_row (more := []) (n := 0) (by simpa using R1.out) (by rw [HN.out]; exact Nat.le_refl _) BND.out (by rw [← HN.out]; omega))
  have S3 : Hid (Sl16 w4 a3 U) := Lib.hid (sl16_of_row (more := []) (n := 0) (by simpa using R3.out) (by rw [HN.out]; exact Nat.le_refl _) BND.out (by rw [← HN.out]; omega))
  gi_wp2_with fail
  refine ⟨trivial, ?_⟩
  rw [HN.out]
  refine (callsIn_wide.2 (ref_same _ _ S1.out S3.out)).mono ?_
  rw [decide_eq_true rfl, ← HN.out]
  rintro e w5 ⟨rfl, k1, rfl⟩
  obtain ⟨w5, hw5⟩ : ∃ w5, w5 = w4.drewN k1 := ⟨_, rfl⟩
  have b5 : Below w4.heap.size w4 w5 := by rw [hw5]; exact (by repeat (first | exact Below.refl _ _ | assumption | refine Below.drew ?_ | refine below_drewN ?_ _ | refine Below.alloc ?_ (by simp <;> omega) _ | refine Below.setCell ?_ (by simp <;> omega) _ | (apply bl_trans; assumption; (simp <;> omega))))
  rw [← hw5]
  have hs5 : w4.heap.size ≤ w5.heap.size := b5.size
  have B5 := Lib.hid (B4.out.trans (b5.mono (by omega)))
  have X0 := Lib.hid ((b5.block _ (lt_of_some Y0.out)).trans Y0.out)
  have X1 := Lib.hid ((b5.block _ (lt_of_some Y1.out)).trans Y1.out)
  have R1' := Lib.hid (row_belowT R1.out b5)
  have R2 := Lib.hid (row_belowT R2'.out b5)
  have R3' := Lib.hid (row_belowT R3.out b5)
  clear b5 Y0 Y1 B4 R1 R2' R3 S1 S3 hw5
  gi_wp2_with fail
  refine ⟨trivial, ?_⟩
  refine (callsIn_wide.2 (over_turns R1'.out (by omega) (by omega))).mono ?_
  rintro e w6 ⟨⟨ov, rfl⟩, hg⟩
  have hs6 : w5.heap.size ≤ w6.heap.size := hg.size
  have B6 := Lib.hid (B5.out.trans (grown_below hg (B := w.heap.size) (fun x hx => Nat.le_trans (by omega) (R1'.out.lt x hx).1) (by omega)))
  have Y0 := Lib.hid (grown_blk hg X0.out (fun he => by have := (R1'.out.lt _ he).1; omega))
  have Y1 := Lib.hid (grown_blk hg X1.out (fun he => by have := (R1'.out.lt _ he).1; omega))
  have R2' := Lib.hid (grown_row hg R2.out (fun x hx he => by have := LB.out x he; have := (R2.out.lt x hx).1; omega))
  have R3 := Lib.hid (grown_row hg R3'.out (fun x hx he => by have := LB.out x he; have := (R3'.out.lt x hx).1; omega))
  clear hg X0 X1 B5 R1' R2 R3' LB
  have S2 : Hid (Sl16 w6 a2 U) := Lib.hid (sl16_of_row (more := []) (n := 0) (by simpa using R2'.out) (by rw [HN.out]; exact Nat.le_refl _) BND.out (by rw [← HN.out]; omega))
  have S3 : Hid (Sl16 w6 a3 U) := Lib.hid (sl16_of_row (more := []) (n := 0) (by simpa using R3.out) (by rw [HN.out]; exact Nat.le_refl _) BND.out (by rw [← HN.out]; omega))
  gi_wp2_with fail
  refine ⟨trivial, ?_⟩
  rw [HN.out]
  refine (callsIn_wide.2 (ref_same _ _ S2.out S3.out)).mono ?_
  rw [decide_eq_true rfl, ← HN.out]
  rintro e w7 ⟨rfl, k2, rfl⟩
  have F7 : Hid ((w6.drewN k2).heap[w.heap.size]? = some (.cells #[.int .i64 leave] 3 (0, 0)) ∧ (w6.drewN k2).heap[w.heap.size + 1]? = some (.cells #[.bool false] 4 (0, 0)) ∧ Below w.heap.size w (w6.drewN k2) ∧ w.heap.size + 1 + 1 ≤ (w6.drewN k2).heap.size) :=
    Lib.hid ⟨Y0.out, Y1.out, B6.out.trans (by repeat (first | exact Below.refl _ _ | assumption | refine Below.drew ?_ | refine below_drewN ?_ _ | refine Below.alloc ?_ (by simp <;> omega) _ | refine Below.setCell ?_ (by simp <;> omega) _ | (apply bl_trans; assumption; (simp <;> omega)))), by show _ ≤ w6.heap.size; omega⟩
  generalize w6.drewN k2 = w7 at F7 ⊢
  clear Y0 Y1 B6 R2' R3 S2 S3 HN BND hs1 hs2 hs3 hs4 hs5 hs6 hnb HU
  gi_wp2_with fail
  refine ⟨trivial, ?_⟩
  refine (callsIn_wide.2 (ref_pieces s (by omega) _)).mono ?_
  rintro e w8 ⟨lv, rfl, hL⟩
  -- PIECES
  obtain ⟨la, lc, rfl⟩ := rwSlice hL.row
  obtain ⟨M, hM⟩ : ∃ M, M = (pcs s).length := ⟨_, rfl⟩
  have hMl : M ≤ 1048576 := by rw [hM]; have := pcs_len s; omega
  rw [← hM] at hL ⊢
  have HM := Lib.hid hM
  have hb8 : Below w7.heap.size w7 w8 := hL.bel
  have F8 : Hid (w8.heap[w.heap.size]? = some (.cells #[.int .i64 leave] 3 (0, 0)) ∧ w8.heap[w.heap.size + 1]? = some (.cells #[.bool false] 4 (0, 0)) ∧ Below w.heap.size w w8 ∧ w.heap.size + 1 + 1 ≤ w8.heap.size ∧ PcI w7 (pcs s) (.slice la M lc) w8) :=
    Lib.hid ⟨(hb8.block _ (lt_of_some F7.out.1)).trans F7.out.1, (hb8.block _ (lt_of_some F7.out.2.1)).trans F7.out.2.1, F7.out.2.2.1.trans (hb8.mono (by have := F7.out.2.2.2; omega)), by have := hb8.size; have := F7.out.2.2.2; omega, hL⟩
  clear hb8 F7 hL hM
  gi_wp2_with fail
  obtain ⟨bb, hbb⟩ : ∃ bb, bb = w8.heap.size := ⟨_, rfl⟩
  have hI0 : BdI w8 bb [] (w8.alloc (.cells #[.slice none 0 0] 83)) := ⟨⟨none, 0, by rw [hbb]; exact Go.heap_alloc_new w8 _, World.ownsRow_nil _ _ _ _⟩, by rw [hbb]; exact (Below.refl _ w8).alloc (Nat.le_refl _) _, by rw [hbb]; simp⟩
  have HBB := Lib.hid hbb
  rw [← hbb]
  generalize w8.alloc (.cells #[.slice none 0 0] 83) = w9 at hI0 ⊢
  have HI0 := Lib.hid hI0
  clear hbb hI0
  obtain ⟨i86, hi86, ha1, ha2, ha3⟩ := info_parts info86
  gi_loopw [13] (fun v wr => ∃ k : Nat, k ≤ M ∧ v = .int .i64 (k : Nat) ∧ BdI w8 bb (badL ((pcs s).take k)) wr) (fun v _ => M - (intOf v).toNat)
  case atStart => exact ⟨0, Nat.zero_le _, rfl, HI0.out⟩
  case round =>
    obtain ⟨k, hk, rfl, hI⟩ := hrel
    have HI := Lib.hid hI
    by_cases hlt : k < M
    · obtain ⟨x, hx⟩ : ∃ x, (pcs s)[k]? = some x := ⟨_, List.getElem?_eq_getElem (by rw [← HM.out]; exact hlt)⟩
      obtain ⟨g, _, hv, hg, c0, c1, c2, c3⟩ := F8.out.2.2.2.2.slot hx
      rw [← HM.out] at hv
      obtain ⟨rfl, rfl⟩ : la = some ⟨g, 0, none⟩ ∧ lc = _ := by simpa using hv
      rw [← HBB.out] at hg
      have d0 := (hI.bel.cell (p := ⟨g, k * 4, none⟩) hg).trans c0
      have d1 := (hI.bel.cell (p := ⟨g, k * 4 + 1, none⟩) hg).trans c1
      have d2 := (hI.bel.cell (p := ⟨g, k * 4 + 2, none⟩) hg).trans c2
      have d3 := (hI.bel.cell (p := ⟨g, k * 4 + 3, none⟩) hg).trans c3
      have hts := badL_take hx
      have p1 : (k : Int) < (M : Int) := by omega
      have p2 : (0 : Int) ≤ (k : Int) := by omega
      obtain ⟨ba, bc, hbx, hrow⟩ := hI.box
      have hsz := hI.size
      have HTS := Lib.hid hts
      clear hx c0 c1 c2 c3 hv hts hI
      cases hok : x.ok with
      | true =>
        rw [hok] at d2 HTS
        clear hok hbx hrow
        gi_wp2
        go_roundw
        case rel => exact ⟨k + 1, hlt, by go_num, by rw [HTS.out]; simpa using HI.out⟩
        case measure => simp [intOf]; omega
      | false =>
        rw [hok] at d2 HTS
        have cb := cell_blk hbx 0 rfl
        have hbl : (badL ((pcs s).take k)).length ≤ M := by
          have h1 := List.length_filter_le (fun x : Pc => !x.ok) ((pcs s).take k)
          have h2 : ((pcs s).take k).length ≤ k := by simp; omega
          unfold badL
          omega
        obtain ⟨nn, hnn⟩ : ∃ nn, nn = (badL ((pcs s).take k)).length := ⟨_, rfl⟩
        rw [← hnn] at hbx hrow hbl cb
        simp at cb
        have HR := Lib.hid (And.intro hbx (And.intro hrow hnn))
        have hxe : (⟨x.p, x.n, false, x.c⟩ : Pc) = x := by cases x; simp at hok; subst hok; rfl
        have HXE := Lib.hid hxe
        clear hok hbx hrow hnn hxe
        have hbbl : bb < wr.heap.size := by omega
        gi_upto_region 16 with (fail)
        refine wpIn_region_any (by kernel_rfl) ?_
        change wpAnyIn _ _ _ _ _ _ _ _ _ (World.drew _)
        refine wpAnyIn_all (rs := [0, 1, 2]) (by kernel_rfl) (by simp) (fun i hi => ?_)
        have hi' : i = 0 ∨ i = 1 ∨ i = 2 := by simpa using hi
        clear hi
        rcases hi' with rfl | rfl | rfl
        · refine wpOpIn_step rfl (fun K hK => ?_)
          go_simp
          refine hK _ _ ?_
          clear hK K
          refine wpAnyIn_all (rs := [1, 2]) (by kernel_rfl) (by simp) (fun i hi => ?_)
          have hi' : i = 1 ∨ i = 2 := by simpa using hi
          clear hi
          rcases hi' with rfl | rfl
          · refine wpOpIn_step rfl (fun K hK => ?_)
            go_simp
            refine hK _ _ ?_
            clear hK K
            refine wpAnyIn_all (rs := [2]) (by kernel_rfl) (by simp) (fun i hi => ?_)
            obtain rfl : i = 2 := by simpa using hi
            clear hi
            refine wpOpIn_step rfl (fun K hK => ?_)
            go_simp
            refine hK _ _ ?_
            clear hK K
            refine wpAnyIn_all (rs := [3]) (by kernel_rfl) (by simp) (fun i hi => ?_)
            obtain rfl : i = 3 := by simpa using hi
            clear hi
            refine wpOpIn_step rfl (fun K hK => ?_)
            go_simp
            refine hK _ _ ?_
            clear hK K
            refine wpAnyIn_all (rs := [4]) (by kernel_rfl) (by simp) (fun i hi => ?_)
            obtain rfl : i = 4 := by simpa using hi
            clear hi
            refine wpOpIn_step rfl (fun K hK => ?_)
            go_simp
            refine hK _ _ ?_
            clear hK K
            refine wpAnyIn_all (rs := [5]) (by kernel_rfl) (by simp) (fun i hi => ?_)
            obtain rfl : i = 5 := by simpa using hi
            clear hi
            refine wpOpIn_step rfl (fun K hK => ?_)
            go_simp
            refine hK _ _ ?_
            clear hK K
            refine wpAnyIn_all (rs := [6]) (by kernel_rfl) (by simp) (fun i hi => ?_)
            obtain rfl : i = 6 := by simpa using hi
            clear hi
            refine wpOpIn_step rfl (fun K hK => ?_)
            refine stepIn_append_lies _ rfl (.tmp 60) (.tmp 65) 83 rfl (bb + 1) 86 i86 _ 4 24 Try.underlying83 hi86 ha1 ha2 ha3 rfl (by omega) (.slice ba nn bc) nn _ rfl ((HR.out.2.1.drew).alloc _) ⟨wr.heap.size, 0, none⟩ 1 1 [.int .i64 (x.p : Int), .int .i64 (x.n : Int), .bool false, .int .i32 (x.c : Int)] rfl rfl (World.news_of_block (cs := #[.int .i64 (x.p : Int), .int .i64 (x.n : Int), .bool false, .int .i32 (x.c : Int)]) (t := 86) (fr := (0, 0)) (Go.heap_alloc_new wr.drew _)) (by simp [Value.oneCell']) (by omega) (by unfold maxLen; omega) (by omega) (by simp; omega) ?_
            intro g3 c3 w3 hown3 hgrow3
            refine hK _ _ ?_
            clear hK K
            have hb3 := rwApp (w := wr.drew) HR.out.2.1.drew hgrow3 HR.out.1 (by decide)
            have e1 := cell_blk hb3 0 rfl
            have e2 := free_blk hb3 0
            have e3 := lt_of_some hb3
            have HF := Lib.hid ((HI.out.drewB).push (x := ⟨x.p, x.n, false, x.c⟩) (by rw [HBB.out]; exact Nat.le_refl _) HR.out.1 HR.out.2.1.drew HR.out.2.2 hown3 hgrow3)
            clear hown3 hgrow3 hb3 cb
            refine wpAnyIn_all (rs := [7]) (by kernel_rfl) (by simp) (fun i hi => ?_)
            obtain rfl : i = 7 := by simpa using hi
            clear hi
            refine wpOpIn_step rfl (fun K hK => ?_)
            go_simp
            refine hK _ _ ?_
            clear hK K
            refine wpAnyIn_done (by kernel_rfl) ?_ _
            gi_wp2
            go_roundw
            case rel => exact ⟨k + 1, hlt, by go_num, by rw [HTS.out]; have h := HF.out; rw [HXE.out] at h; simpa using h⟩
            case measure => simp [intOf]; omega
          · refine wpOpIn_step rfl (fun K hK => ?_)
            go_simp
            refine hK _ _ ?_
            clear hK K
            refine wpAnyIn_all (rs := [1]) (by kernel_rfl) (by simp) (fun i hi => ?_)
            obtain rfl : i = 1 := by simpa using hi
            clear hi
            refine wpOpIn_step rfl (fun K hK => ?_)
            go_simp
            refine hK _ _ ?_
            clear hK K
            refine wpAnyIn_all (rs := [3]) (by kernel_rfl) (by simp) (fun i hi => ?_)
            obtain rfl : i = 3 := by simpa using hi
            clear hi
            refine wpOpIn_step rfl (fun K hK => ?_)
            go_simp
            refine hK _ _ ?_
            clear hK K
            refine wpAnyIn_all (rs := [4]) (by kernel_rfl) (by simp) (fun i hi => ?_)
            obtain rfl : i = 4 := by simpa using hi
            clear hi
            refine wpOpIn_step rfl (fun K hK => ?_)
            go_simp
            refine hK _ _ ?_
            clear hK K
            refine wpAnyIn_all (rs := [5]) (by kernel_rfl) (by simp) (fun i hi => ?_)
            obtain rfl : i = 5 := by simpa using hi
            clear hi
            refine wpOpIn_step rfl (fun K hK => ?_)
            go_simp
            refine hK _ _ ?_
            clear hK K
            refine wpAnyIn_all (rs := [6]) (by kernel_rfl) (by simp) (fun i hi => ?_)
            obtain rfl : i = 6 := by simpa using hi
            clear hi
            refine wpOpIn_step rfl (fun K hK => ?_)
            refine stepIn_append_lies _ rfl (.tmp 60) (.tmp 65) 83 rfl (bb + 1) 86 i86 _ 4 24 Try.underlying83 hi86 ha1 ha2 ha3 rfl (by omega) (.slice ba nn bc) nn _ rfl ((HR.out.2.1.drew).alloc _) ⟨wr.heap.size, 0, none⟩ 1 1 [.int .i64 (x.p : Int), .int .i64 (x.n : Int), .bool false, .int .i32 (x.c : Int)] rfl rfl (World.news_of_block (cs := #[.int .i64 (x.p : Int), .int .i64 (x.n : Int), .bool false, .int .i32 (x.c : Int)]) (t := 86) (fr := (0, 0)) (Go.heap_alloc_new wr.drew _)) (by simp [Value.oneCell']) (by omega) (by unfold maxLen; omega) (by omega) (by simp; omega) ?_
            intro g3 c3 w3 hown3 hgrow3
            refine hK _ _ ?_
            clear hK K
            have hb3 := rwApp (w := wr.drew) HR.out.2.1.drew hgrow3 HR.out.1 (by decide)
            have e1 := cell_blk hb3 0 rfl
            have e2 := free_blk hb3 0
            have e3 := lt_of_some hb3
            have HF := Lib.hid ((HI.out.drewB).push (x := ⟨x.p, x.n, false, x.c⟩) (by rw [HBB.out]; exact Nat.le_refl _) HR.out.1 HR.out.2.1.drew HR.out.2.2 hown3 hgrow3)
            clear hown3 hgrow3 hb3 cb
            refine wpAnyIn_all (rs := [7]) (by kernel_rfl) (by simp) (fun i hi => ?_)
            obtain rfl : i = 7 := by simpa using hi
            clear hi
            refine wpOpIn_step rfl (fun K hK => ?_)
            go_simp
            refine hK _ _ ?_
            clear hK K
            refine wpAnyIn_done (by kernel_rfl) ?_ _
            gi_wp2
            go_roundw
            case rel => exact ⟨k + 1, hlt, by go_num, by rw [HTS.out]; have h := HF.out; rw [HXE.out] at h; simpa using h⟩
            case measure => simp [intOf]; omega
        · refine wpOpIn_step rfl (fun K hK => ?_)
          go_simp
          refine hK _ _ ?_
          clear hK K
          refine wpAnyIn_all (rs := [0, 2]) (by kernel_rfl) (by simp) (fun i hi => ?_)
          have hi' : i = 0 ∨ i = 2 := by simpa using hi
          clear hi
          rcases hi' with rfl | rfl
          · refine wpOpIn_step rfl (fun K hK => ?_)
            go_simp
            refine hK _ _ ?_
            clear hK K
            refine wpAnyIn_all (rs := [2]) (by kernel_rfl) (by simp) (fun i hi => ?_)
            obtain rfl : i = 2 := by simpa using hi
            clear hi
            refine wpOpIn_step rfl (fun K hK => ?_)
            go_simp
            refine hK _ _ ?_
            clear hK K
            refine wpAnyIn_all (rs := [3]) (by kernel_rfl) (by simp) (fun i hi => ?_)
            obtain rfl : i = 3 := by simpa using hi
            clear hi
            refine wpOpIn_step rfl (fun K hK => ?_)
            go_simp
            refine hK _ _ ?_
            clear hK K
            refine wpAnyIn_all (rs := [4]) (by kernel_rfl) (by simp) (fun i hi => ?_)
            obtain rfl : i = 4 := by simpa using hi
            clear hi
            refine wpOpIn_step rfl (fun K hK => ?_)
            go_simp
            refine hK _ _ ?_
            clear hK K
            refine wpAnyIn_all (rs := [5]) (by kernel_rfl) (by simp) (fun i hi => ?_)
            obtain rfl : i = 5 := by simpa using hi
            clear hi
            refine wpOpIn_step rfl (fun K hK => ?_)
            go_simp
            refine hK _ _ ?_
            clear hK K
            refine wpAnyIn_all (rs := [6]) (by kernel_rfl) (by simp) (fun i hi => ?_)
            obtain rfl : i = 6 := by simpa using hi
            clear hi
            refine wpOpIn_step rfl (fun K hK => ?_)
            refine stepIn_append_lies _ rfl (.tmp 60) (.tmp 65) 83 rfl (bb + 1) 86 i86 _ 4 24 Try.underlying83 hi86 ha1 ha2 ha3 rfl (by omega) (.slice ba nn bc) nn _ rfl ((HR.out.2.1.drew).alloc _) ⟨wr.heap.size, 0, none⟩ 1 1 [.int .i64 (x.p : Int), .int .i64 (x.n : Int), .bool false, .int .i32 (x.c : Int)] rfl rfl (World.news_of_block (cs := #[.int .i64 (x.p : Int), .int .i64 (x.n : Int), .bool false, .int .i32 (x.c : Int)]) (t := 86) (fr := (0, 0)) (Go.heap_alloc_new wr.drew _)) (by simp [Value.oneCell']) (by omega) (by unfold maxLen; omega) (by omega) (by simp; omega) ?_
            intro g3 c3 w3 hown3 hgrow3
            refine hK _ _ ?_
            clear hK K
            have hb3 := rwApp (w := wr.drew) HR.out.2.1.drew hgrow3 HR.out.1 (by decide)
            have e1 := cell_blk hb3 0 rfl
            have e2 := free_blk hb3 0
            have e3 := lt_of_some hb3
            have HF := Lib.hid ((HI.out.drewB).push (x := ⟨x.p, x.n, false, x.c⟩) (by rw [HBB.out]; exact Nat.le_refl _) HR.out.1 HR.out.2.1.drew HR.out.2.2 hown3 hgrow3)
            clear hown3 hgrow3 hb3 cb
            refine wpAnyIn_all (rs := [7]) (by kernel_rfl) (by simp) (fun i hi => ?_)
            obtain rfl : i = 7 := by simpa using hi
            clear hi
            refine wpOpIn_step rfl (fun K hK => ?_)
            go_simp
            refine hK _ _ ?_
            clear hK K
            refine wpAnyIn_done (by kernel_rfl) ?_ _
            gi_wp2
            go_roundw
            case rel => exact ⟨k + 1, hlt, by go_num, by rw [HTS.out]; have h := HF.out; rw [HXE.out] at h; simpa using h⟩
            case measure => simp [intOf]; omega
          · refine wpOpIn_step rfl (fun K hK => ?_)
            go_simp
            refine hK _ _ ?_
            clear hK K
            refine wpAnyIn_all (rs := [0, 3]) (by kernel_rfl) (by simp) (fun i hi => ?_)
            have hi' : i = 0 ∨ i = 3 := by simpa using hi
            clear hi
            rcases hi' with rfl | rfl
            · refine wpOpIn_step rfl (fun K hK => ?_)
              go_simp
              refine hK _ _ ?_
              clear hK K
              refine wpAnyIn_all (rs := [3]) (by kernel_rfl) (by simp) (fun i hi => ?_)
              obtain rfl : i = 3 := by simpa using hi
              clear hi
              refine wpOpIn_step rfl (fun K hK => ?_)
              go_simp
              refine hK _ _ ?_
              clear hK K
              refine wpAnyIn_all (rs := [4]) (by kernel_rfl) (by simp) (fun i hi => ?_)
              obtain rfl : i = 4 := by simpa using hi
              clear hi
              refine wpOpIn_step rfl (fun K hK => ?_)
              go_simp
              refine hK _ _ ?_
              clear hK K
              refine wpAnyIn_all (rs := [5]) (by kernel_rfl) (by simp) (fun i hi => ?_)
              obtain rfl : i = 5 := by simpa using hi
              clear hi
              refine wpOpIn_step rfl (fun K hK => ?_)
              go_simp
              refine hK _ _ ?_
              clear hK K
              refine wpAnyIn_all (rs := [6]) (by kernel_rfl) (by simp) (fun i hi => ?_)
              obtain rfl : i = 6 := by simpa using hi
              clear hi
              refine wpOpIn_step rfl (fun K hK => ?_)
              refine stepIn_append_lies _ rfl (.tmp 60) (.tmp 65) 83 rfl (bb + 1) 86 i86 _ 4 24 Try.underlying83 hi86 ha1 ha2 ha3 rfl (by omega) (.slice ba nn bc) nn _ rfl ((HR.out.2.1.drew).alloc _) ⟨wr.heap.size, 0, none⟩ 1 1 [.int .i64 (x.p : Int), .int .i64 (x.n : Int), .bool false, .int .i32 (x.c : Int)] rfl rfl (World.news_of_block (cs := #[.int .i64 (x.p : Int), .int .i64 (x.n : Int), .bool false, .int .i32 (x.c : Int)]) (t := 86) (fr := (0, 0)) (Go.heap_alloc_new wr.drew _)) (by simp [Value.oneCell']) (by omega) (by unfold maxLen; omega) (by omega) (by simp; omega) ?_
              intro g3 c3 w3 hown3 hgrow3
              refine hK _ _ ?_
              clear hK K
              have hb3 := rwApp (w := wr.drew) HR.out.2.1.drew hgrow3 HR.out.1 (by decide)
              have e1 := cell_blk hb3 0 rfl
              have e2 := free_blk hb3 0
              have e3 := lt_of_some hb3
              have HF := Lib.hid ((HI.out.drewB).push (x := ⟨x.p, x.n, false, x.c⟩) (by rw [HBB.out]; exact Nat.le_refl _) HR.out.1 HR.out.2.1.drew HR.out.2.2 hown3 hgrow3)
              clear hown3 hgrow3 hb3 cb
              refine wpAnyIn_all (rs := [7]) (by kernel_rfl) (by simp) (fun i hi => ?_)
              obtain rfl : i = 7 := by simpa using hi
              clear hi
              refine wpOpIn_step rfl (fun K hK => ?_)
              go_simp
              refine hK _ _ ?_
              clear hK K
              refine wpAnyIn_done (by kernel_rfl) ?_ _
              gi_wp2
              go_roundw
              case rel => exact ⟨k + 1, hlt, by go_num, by rw [HTS.out]; have h := HF.out; rw [HXE.out] at h; simpa using h⟩
              case measure => simp [intOf]; omega
            · refine wpOpIn_step rfl (fun K hK => ?_)
              go_simp
              refine hK _ _ ?_
              clear hK K
              refine wpAnyIn_all (rs := [0, 4]) (by kernel_rfl) (by simp) (fun i hi => ?_)
              have hi' : i = 0 ∨ i = 4 := by simpa using hi
              clear hi
              rcases hi' with rfl | rfl
              · refine wpOpIn_step rfl (fun K hK => ?_)
                go_simp
                refine hK _ _ ?_
                clear hK K
                refine wpAnyIn_all (rs := [4]) (by kernel_rfl) (by simp) (fun i hi => ?_)
                obtain rfl : i = 4 := by simpa using hi
                clear hi
                refine wpOpIn_step rfl (fun K hK => ?_)
                go_simp
                refine hK _ _ ?_
                clear hK K
                refine wpAnyIn_all (rs := [5]) (by kernel_rfl) (by simp) (fun i hi => ?_)
                obtain rfl : i = 5 := by simpa using hi
                clear hi
                refine wpOpIn_step rfl (fun K hK => ?_)
                go_simp
                refine hK _ _ ?_
                clear hK K
                refine wpAnyIn_all (rs := [6]) (by kernel_rfl) (by simp) (fun i hi => ?_)
                obtain rfl : i = 6 := by simpa using hi
                clear hi
                refine wpOpIn_step rfl (fun K hK => ?_)
                refine stepIn_append_lies _ rfl (.tmp 60) (.tmp 65) 83 rfl (bb + 1) 86 i86 _ 4 24 Try.underlying83 hi86 ha1 ha2 ha3 rfl (by omega) (.slice ba nn bc) nn _ rfl ((HR.out.2.1.drew).alloc _) ⟨wr.heap.size, 0, none⟩ 1 1 [.int .i64 (x.p : Int), .int .i64 (x.n : Int), .bool false, .int .i32 (x.c : Int)] rfl rfl (World.news_of_block (cs := #[.int .i64 (x.p : Int), .int .i64 (x.n : Int), .bool false, .int .i32 (x.c : Int)]) (t := 86) (fr := (0, 0)) (Go.heap_alloc_new wr.drew _)) (by simp [Value.oneCell']) (by omega) (by unfold maxLen; omega) (by omega) (by simp; omega) ?_
                intro g3 c3 w3 hown3 hgrow3
                refine hK _ _ ?_
                clear hK K
                have hb3 := rwApp (w := wr.drew) HR.out.2.1.drew hgrow3 HR.out.1 (by decide)
                have e1 := cell_blk hb3 0 rfl
                have e2 := free_blk hb3 0
                have e3 := lt_of_some hb3
                have HF := Lib.hid ((HI.out.drewB).push (x := ⟨x.p, x.n, false, x.c⟩) (by rw [HBB.out]; exact Nat.le_refl _) HR.out.1 HR.out.2.1.drew HR.out.2.2 hown3 hgrow3)
                clear hown3 hgrow3 hb3 cb
                refine wpAnyIn_all (rs := [7]) (by kernel_rfl) (by simp) (fun i hi => ?_)
                obtain rfl : i = 7 := by simpa using hi
                clear hi
                refine wpOpIn_step rfl (fun K hK => ?_)
                go_simp
                refine hK _ _ ?_
                clear hK K
                refine wpAnyIn_done (by kernel_rfl) ?_ _
                gi_wp2
                go_roundw
                case rel => exact ⟨k + 1, hlt, by go_num, by rw [HTS.out]; have h := HF.out; rw [HXE.out] at h; simpa using h⟩
                case measure => simp [intOf]; omega
              · refine wpOpIn_step rfl (fun K hK => ?_)
                go_simp
                refine hK _ _ ?_
                clear hK K
                refine wpAnyIn_all (rs := [0, 5]) (by kernel_rfl) (by simp) (fun i hi => ?_)
                have hi' : i = 0 ∨ i = 5 := by simpa using hi
                clear hi
                rcases hi' with rfl | rfl
                · refine wpOpIn_step rfl (fun K hK => ?_)
                  go_simp
                  refine hK _ _ ?_
                  clear hK K
                  refine wpAnyIn_all (rs := [5]) (by kernel_rfl) (by simp) (fun i hi => ?_)
                  obtain rfl : i = 5 := by simpa using hi
                  clear hi
                  refine wpOpIn_step rfl (fun K hK => ?_)
                  go_simp
                  refine hK _ _ ?_
                  clear hK K
                  refine wpAnyIn_all (rs := [6]) (by kernel_rfl) (by simp) (fun i hi => ?_)
                  obtain rfl : i = 6 := by simpa using hi
                  clear hi
                  refine wpOpIn_step rfl (fun K hK => ?_)
                  refine stepIn_append_lies _ rfl (.tmp 60) (.tmp 65) 83 rfl (bb + 1) 86 i86 _ 4 24 Try.underlying83 hi86 ha1 ha2 ha3 rfl (by omega) (.slice ba nn bc) nn _ rfl ((HR.out.2.1.drew).alloc _) ⟨wr.heap.size, 0, none⟩ 1 1 [.int .i64 (x.p : Int), .int .i64 (x.n : Int), .bool false, .int .i32 (x.c : Int)] rfl rfl (World.news_of_block (cs := #[.int .i64 (x.p : Int), .int .i64 (x.n : Int), .bool false, .int .i32 (x.c : Int)]) (t := 86) (fr := (0, 0)) (Go.heap_alloc_new wr.drew _)) (by simp [Value.oneCell']) (by omega) (by unfold maxLen; omega) (by omega) (by simp; omega) ?_
                  intro g3 c3 w3 hown3 hgrow3
                  refine hK _ _ ?_
                  clear hK K
                  have hb3 := rwApp (w := wr.drew) HR.out.2.1.drew hgrow3 HR.out.1 (by decide)
                  have e1 := cell_blk hb3 0 rfl
                  have e2 := free_blk hb3 0
                  have e3 := lt_of_some hb3
                  have HF := Lib.hid ((HI.out.drewB).push (x := ⟨x.p, x.n, false, x.c⟩) (by rw [HBB.out]; exact Nat.le_refl _) HR.out.1 HR.out.2.1.drew HR.out.2.2 hown3 hgrow3)
                  clear hown3 hgrow3 hb3 cb
                  refine wpAnyIn_all (rs := [7]) (by kernel_rfl) (by simp) (fun i hi => ?_)
                  obtain rfl : i = 7 := by simpa using hi
                  clear hi
                  refine wpOpIn_step rfl (fun K hK => ?_)
                  go_simp
                  refine hK _ _ ?_
                  clear hK K
                  refine wpAnyIn_done (by kernel_rfl) ?_ _
                  gi_wp2
                  go_roundw
                  case rel => exact ⟨k + 1, hlt, by go_num, by rw [HTS.out]; have h := HF.out; rw [HXE.out] at h; simpa using h⟩
                  case measure => simp [intOf]; omega
                · refine wpOpIn_step rfl (fun K hK => ?_)
                  go_simp
                  refine hK _ _ ?_
                  clear hK K
                  refine wpAnyIn_all (rs := [0]) (by kernel_rfl) (by simp) (fun i hi => ?_)
                  obtain rfl : i = 0 := by simpa using hi
                  clear hi
                  refine wpOpIn_step rfl (fun K hK => ?_)
                  go_simp
                  refine hK _ _ ?_
                  clear hK K
                  refine wpAnyIn_all (rs := [6]) (by kernel_rfl) (by simp) (fun i hi => ?_)
                  obtain rfl : i = 6 := by simpa using hi
                  clear hi
                  refine wpOpIn_step rfl (fun K hK => ?_)
                  refine stepIn_append_lies _ rfl (.tmp 60) (.tmp 65) 83 rfl (bb + 1) 86 i86 _ 4 24 Try.underlying83 hi86 ha1 ha2 ha3 rfl (by omega) (.slice ba nn bc) nn _ rfl ((HR.out.2.1.drew).alloc _) ⟨wr.heap.size, 0, none⟩ 1 1 [.int .i64 (x.p : Int), .int .i64 (x.n : Int), .bool false, .int .i32 (x.c : Int)] rfl rfl (World.news_of_block (cs := #[.int .i64 (x.p : Int), .int .i64 (x.n : Int), .bool false, .int .i32 (x.c : Int)]) (t := 86) (fr := (0, 0)) (Go.heap_alloc_new wr.drew _)) (by simp [Value.oneCell']) (by omega) (by unfold maxLen; omega) (by omega) (by simp; omega) ?_
                  intro g3 c3 w3 hown3 hgrow3
                  refine hK _ _ ?_
                  clear hK K
                  have hb3 := rwApp (w := wr.drew) HR.out.2.1.drew hgrow3 HR.out.1 (by decide)
                  have e1 := cell_blk hb3 0 rfl
                  have e2 := free_blk hb3 0
                  have e3 := lt_of_some hb3
                  have HF := Lib.hid ((HI.out.drewB).push (x := ⟨x.p, x.n, false, x.c⟩) (by rw [HBB.out]; exact Nat.le_refl _) HR.out.1 HR.out.2.1.drew HR.out.2.2 hown3 hgrow3)
                  clear hown3 hgrow3 hb3 cb
                  refine wpAnyIn_all (rs := [7]) (by kernel_rfl) (by simp) (fun i hi => ?_)
                  obtain rfl : i = 7 := by simpa using hi
                  clear hi
                  refine wpOpIn_step rfl (fun K hK => ?_)
                  go_simp
                  refine hK _ _ ?_
                  clear hK K
                  refine wpAnyIn_done (by kernel_rfl) ?_ _
                  gi_wp2
                  go_roundw
                  case rel => exact ⟨k + 1, hlt, by go_num, by rw [HTS.out]; have h := HF.out; rw [HXE.out] at h; simpa using h⟩
                  case measure => simp [intOf]; omega
        · refine wpOpIn_step rfl (fun K hK => ?_)
          go_simp
          refine hK _ _ ?_
          clear hK K
          refine wpAnyIn_all (rs := [0, 1]) (by kernel_rfl) (by simp) (fun i hi => ?_)
          have hi' : i = 0 ∨ i = 1 := by simpa using hi
          clear hi
          rcases hi' with rfl | rfl
          · refine wpOpIn_step rfl (fun K hK => ?_)
            go_simp
            refine hK _ _ ?_
            clear hK K
            refine wpAnyIn_all (rs := [1]) (by kernel_rfl) (by simp) (fun i hi => ?_)
            obtain rfl : i = 1 := by simpa using hi
            clear hi
            refine wpOpIn_step rfl (fun K hK => ?_)
            go_simp
            refine hK _ _ ?_
            clear hK K
            refine wpAnyIn_all (rs := [3]) (by kernel_rfl) (by simp) (fun i hi => ?_)
            obtain rfl : i = 3 := by simpa using hi
            clear hi
            refine wpOpIn_step rfl (fun K hK => ?_)
            go_simp
            refine hK _ _ ?_
            clear hK K
            refine wpAnyIn_all (rs := [4]) (by kernel_rfl) (by simp) (fun i hi => ?_)
            obtain rfl : i = 4 := by simpa using hi
            clear hi
            refine wpOpIn_step rfl (fun K hK => ?_)
            go_simp
            refine hK _ _ ?_
            clear hK K
            refine wpAnyIn_all (rs := [5]) (by kernel_rfl) (by simp) (fun i hi => ?_)
            obtain rfl : i = 5 := by simpa using hi
            clear hi
            refine wpOpIn_step rfl (fun K hK => ?_)
            go_simp
            refine hK _ _ ?_
            clear hK K
            refine wpAnyIn_all (rs := [6]) (by kernel_rfl) (by simp) (fun i hi => ?_)
            obtain rfl : i = 6 := by simpa using hi
            clear hi
            refine wpOpIn_step rfl (fun K hK => ?_)
            refine stepIn_append_lies _ rfl (.tmp 60) (.tmp 65) 83 rfl (bb + 1) 86 i86 _ 4 24 Try.underlying83 hi86 ha1 ha2 ha3 rfl (by omega) (.slice ba nn bc) nn _ rfl ((HR.out.2.1.drew).alloc _) ⟨wr.heap.size, 0, none⟩ 1 1 [.int .i64 (x.p : Int), .int .i64 (x.n : Int), .bool false, .int .i32 (x.c : Int)] rfl rfl (World.news_of_block (cs := #[.int .i64 (x.p : Int), .int .i64 (x.n : Int), .bool false, .int .i32 (x.c : Int)]) (t := 86) (fr := (0, 0)) (Go.heap_alloc_new wr.drew _)) (by simp [Value.oneCell']) (by omega) (by unfold maxLen; omega) (by omega) (by simp; omega) ?_
            intro g3 c3 w3 hown3 hgrow3
            refine hK _ _ ?_
            clear hK K
            have hb3 := rwApp (w := wr.drew) HR.out.2.1.drew hgrow3 HR.out.1 (by decide)
            have e1 := cell_blk hb3 0 rfl
            have e2 := free_blk hb3 0
            have e3 := lt_of_some hb3
            have HF := Lib.hid ((HI.out.drewB).push (x := ⟨x.p, x.n, false, x.c⟩) (by rw [HBB.out]; exact Nat.le_refl _) HR.out.1 HR.out.2.1.drew HR.out.2.2 hown3 hgrow3)
            clear hown3 hgrow3 hb3 cb
            refine wpAnyIn_all (rs := [7]) (by kernel_rfl) (by simp) (fun i hi => ?_)
            obtain rfl : i = 7 := by simpa using hi
            clear hi
            refine wpOpIn_step rfl (fun K hK => ?_)
            go_simp
            refine hK _ _ ?_
            clear hK K
            refine wpAnyIn_done (by kernel_rfl) ?_ _
            gi_wp2
            go_roundw
            case rel => exact ⟨k + 1, hlt, by go_num, by rw [HTS.out]; have h := HF.out; rw [HXE.out] at h; simpa using h⟩
            case measure => simp [intOf]; omega
          · refine wpOpIn_step rfl (fun K hK => ?_)
            go_simp
            refine hK _ _ ?_
            clear hK K
            refine wpAnyIn_all (rs := [0, 3]) (by kernel_rfl) (by simp) (fun i hi => ?_)
            have hi' : i = 0 ∨ i = 3 := by simpa using hi
            clear hi
            rcases hi' with rfl | rfl
            · refine wpOpIn_step rfl (fun K hK => ?_)
              go_simp
              refine hK _ _ ?_
              clear hK K
              refine wpAnyIn_all (rs := [3]) (by kernel_rfl) (by simp) (fun i hi => ?_)
              obtain rfl : i = 3 := by simpa using hi
              clear hi
              refine wpOpIn_step rfl (fun K hK => ?_)
              go_simp
              refine hK _ _ ?_
              clear hK K
              refine wpAnyIn_all (rs := [4]) (by kernel_rfl) (by simp) (fun i hi => ?_)
              obtain rfl : i = 4 := by simpa using hi
              clear hi
              refine wpOpIn_step rfl (fun K hK => ?_)
              go_simp
              refine hK _ _ ?_
              clear hK K
              refine wpAnyIn_all (rs := [5]) (by kernel_rfl) (by simp) (fun i hi => ?_)
              obtain rfl : i = 5 := by simpa using hi
              clear hi
              refine wpOpIn_step rfl (fun K hK => ?_)
              go_simp
              refine hK _ _ ?_
              clear hK K
              refine wpAnyIn_all (rs := [6]) (by kernel_rfl) (by simp) (fun i hi => ?_)
              obtain rfl : i = 6 := by simpa using hi
              clear hi
              refine wpOpIn_step rfl (fun K hK => ?_)
              refine stepIn_append_lies _ rfl (.tmp 60) (.tmp 65) 83 rfl (bb + 1) 86 i86 _ 4 24 Try.underlying83 hi86 ha1 ha2 ha3 rfl (by omega) (.slice ba nn bc) nn _ rfl ((HR.out.2.1.drew).alloc _) ⟨wr.heap.size, 0, none⟩ 1 1 [.int .i64 (x.p : Int), .int .i64 (x.n : Int), .bool false, .int .i32 (x.c : Int)] rfl rfl (World.news_of_block (cs := #[.int .i64 (x.p : Int), .int .i64 (x.n : Int), .bool false, .int .i32 (x.c : Int)]) (t := 86) (fr := (0, 0)) (Go.heap_alloc_new wr.drew _)) (by simp [Value.oneCell']) (by omega) (by unfold maxLen; omega) (by omega) (by simp; omega) ?_
              intro g3 c3 w3 hown3 hgrow3
              refine hK _ _ ?_
              clear hK K
              have hb3 := rwApp (w := wr.drew) HR.out.2.1.drew hgrow3 HR.out.1 (by decide)
              have e1 := cell_blk hb3 0 rfl
              have e2 := free_blk hb3 0
              have e3 := lt_of_some hb3
              have HF := Lib.hid ((HI.out.drewB).push (x := ⟨x.p, x.n, false, x.c⟩) (by rw [HBB.out]; exact Nat.le_refl _) HR.out.1 HR.out.2.1.drew HR.out.2.2 hown3 hgrow3)
              clear hown3 hgrow3 hb3 cb
              refine wpAnyIn_all (rs := [7]) (by kernel_rfl) (by simp) (fun i hi => ?_)
              obtain rfl : i = 7 := by simpa using hi
              clear hi
              refine wpOpIn_step rfl (fun K hK => ?_)
              go_simp
              refine hK _ _ ?_
              clear hK K
              refine wpAnyIn_done (by kernel_rfl) ?_ _
              gi_wp2
              go_roundw
              case rel => exact ⟨k + 1, hlt, by go_num, by rw [HTS.out]; have h := HF.out; rw [HXE.out] at h; simpa using h⟩
              case measure => simp [intOf]; omega
            · refine wpOpIn_step rfl (fun K hK => ?_)
              go_simp
              refine hK _ _ ?_
              clear hK K
              refine wpAnyIn_all (rs := [0, 4]) (by kernel_rfl) (by simp) (fun i hi => ?_)
              have hi' : i = 0 ∨ i = 4 := by simpa using hi
              clear hi
              rcases hi' with rfl | rfl
              · refine wpOpIn_step rfl (fun K hK => ?_)
                go_simp
                refine hK _ _ ?_
                clear hK K
                refine wpAnyIn_all (rs := [4]) (by kernel_rfl) (by simp) (fun i hi => ?_)
                obtain rfl : i = 4 := by simpa using hi
                clear hi
                refine wpOpIn_step rfl (fun K hK => ?_)
                go_simp
                refine hK _ _ ?_
                clear hK K
                refine wpAnyIn_all (rs := [5]) (by kernel_rfl) (by simp) (fun i hi => ?_)
                obtain rfl : i = 5 := by simpa using hi
                clear hi
                refine wpOpIn_step rfl (fun K hK => ?_)
                go_simp
                refine hK _ _ ?_
                clear hK K
                refine wpAnyIn_all (rs := [6]) (by kernel_rfl) (by simp) (fun i hi => ?_)
                obtain rfl : i = 6 := by simpa using hi
                clear hi
                refine wpOpIn_step rfl (fun K hK => ?_)
                refine stepIn_append_lies _ rfl (.tmp 60) (.tmp 65) 83 rfl (bb + 1) 86 i86 _ 4 24 Try.underlying83 hi86 ha1 ha2 ha3 rfl (by omega) (.slice ba nn bc) nn _ rfl ((HR.out.2.1.drew).alloc _) ⟨wr.heap.size, 0, none⟩ 1 1 [.int .i64 (x.p : Int), .int .i64 (x.n : Int), .bool false, .int .i32 (x.c : Int)] rfl rfl (World.news_of_block (cs := #[.int .i64 (x.p : Int), .int .i64 (x.n : Int), .bool false, .int .i32 (x.c : Int)]) (t := 86) (fr := (0, 0)) (Go.heap_alloc_new wr.drew _)) (by simp [Value.oneCell']) (by omega) (by unfold maxLen; omega) (by omega) (by simp; omega) ?_
                intro g3 c3 w3 hown3 hgrow3
                refine hK _ _ ?_
                clear hK K
                have hb3 := rwApp (w := wr.drew) HR.out.2.1.drew hgrow3 HR.out.1 (by decide)
                have e1 := cell_blk hb3 0 rfl
                have e2 := free_blk hb3 0
                have e3 := lt_of_some hb3
                have HF := Lib.hid ((HI.out.drewB).push (x := ⟨x.p, x.n, false, x.c⟩) (by rw [HBB.out]; exact Nat.le_refl _) HR.out.1 HR.out.2.1.drew HR.out.2.2 hown3 hgrow3)
                clear hown3 hgrow3 hb3 cb
                refine wpAnyIn_all (rs := [7]) (by kernel_rfl) (by simp) (fun i hi => ?_)
                obtain rfl : i = 7 := by simpa using hi
                clear hi
                refine wpOpIn_step rfl (fun K hK => ?_)
                go_simp
                refine hK _ _ ?_
                clear hK K
                refine wpAnyIn_done (by kernel_rfl) ?_ _
                gi_wp2
                go_roundw
                case rel => exact ⟨k + 1, hlt, by go_num, by rw [HTS.out]; have h := HF.out; rw [HXE.out] at h; simpa using h⟩
                case measure => simp [intOf]; omega
              · refine wpOpIn_step rfl (fun K hK => ?_)
                go_simp
                refine hK _ _ ?_
                clear hK K
                refine wpAnyIn_all (rs := [0, 5]) (by kernel_rfl) (by simp) (fun i hi => ?_)
                have hi' : i = 0 ∨ i = 5 := by simpa using hi
                clear hi
                rcases hi' with rfl | rfl
                · refine wpOpIn_step rfl (fun K hK => ?_)
                  go_simp
                  refine hK _ _ ?_
                  clear hK K
                  refine wpAnyIn_all (rs := [5]) (by kernel_rfl) (by simp) (fun i hi => ?_)
                  obtain rfl : i = 5 := by simpa using hi
                  clear hi
                  refine wpOpIn_step rfl (fun K hK => ?_)
                  go_simp
                  refine hK _ _ ?_
                  clear hK K
                  refine wpAnyIn_all (rs := [6]) (by kernel_rfl) (by simp) (fun i hi => ?_)
                  obtain rfl : i = 6 := by simpa using hi
                  clear hi
                  refine wpOpIn_step rfl (fun K hK => ?_)
                  refine stepIn_append_lies _ rfl (.tmp 60) (.tmp 65) 83 rfl (bb + 1) 86 i86 _ 4 24 Try.underlying83 hi86 ha1 ha2 ha3 rfl (by omega) (.slice ba nn bc) nn _ rfl ((HR.out.2.1.drew).alloc _) ⟨wr.heap.size, 0, none⟩ 1 1 [.int .i64 (x.p : Int), .int .i64 (x.n : Int), .bool false, .int .i32 (x.c : Int)] rfl rfl (World.news_of_block (cs := #[.int .i64 (x.p : Int), .int .i64 (x.n : Int), .bool false, .int .i32 (x.c : Int)]) (t := 86) (fr := (0, 0)) (Go.heap_alloc_new wr.drew _)) (by simp [Value.oneCell']) (by omega) (by unfold maxLen; omega) (by omega) (by simp; omega) ?_
                  intro g3 c3 w3 hown3 hgrow3
                  refine hK _ _ ?_
                  clear hK K
                  have hb3 := rwApp (w := wr.drew) HR.out.2.1.drew hgrow3 HR.out.1 (by decide)
                  have e1 := cell_blk hb3 0 rfl
                  have e2 := free_blk hb3 0
                  have e3 := lt_of_some hb3
                  have HF := Lib.hid ((HI.out.drewB).push (x := ⟨x.p, x.n, false, x.c⟩) (by rw [HBB.out]; exact Nat.le_refl _) HR.out.1 HR.out.2.1.drew HR.out.2.2 hown3 hgrow3)
                  clear hown3 hgrow3 hb3 cb
                  refine wpAnyIn_all (rs := [7]) (by kernel_rfl) (by simp) (fun i hi => ?_)
                  obtain rfl : i = 7 := by simpa using hi
                  clear hi
                  refine wpOpIn_step rfl (fun K hK => ?_)
                  go_simp
                  refine hK _ _ ?_
                  clear hK K
                  refine wpAnyIn_done (by kernel_rfl) ?_ _
                  gi_wp2
                  go_roundw
                  case rel => exact ⟨k + 1, hlt, by go_num, by rw [HTS.out]; have h := HF.out; rw [HXE.out] at h; simpa using h⟩
                  case measure => simp [intOf]; omega
                · refine wpOpIn_step rfl (fun K hK => ?_)
                  go_simp
                  refine hK _ _ ?_
                  clear hK K
                  refine wpAnyIn_all (rs := [0]) (by kernel_rfl) (by simp) (fun i hi => ?_)
                  obtain rfl : i = 0 := by simpa using hi
                  clear hi
                  refine wpOpIn_step rfl (fun K hK => ?_)
                  go_simp
                  refine hK _ _ ?_
                  clear hK K
                  refine wpAnyIn_all (rs := [6]) (by kernel_rfl) (by simp) (fun i hi => ?_)
                  obtain rfl : i = 6 := by simpa using hi
                  clear hi
                  refine wpOpIn_step rfl (fun K hK => ?_)
                  refine stepIn_append_lies _ rfl (.tmp 60) (.tmp 65) 83 rfl (bb + 1) 86 i86 _ 4 24 Try.underlying83 hi86 ha1 ha2 ha3 rfl (by omega) (.slice ba nn bc) nn _ rfl ((HR.out.2.1.drew).alloc _) ⟨wr.heap.size, 0, none⟩ 1 1 [.int .i64 (x.p : Int), .int .i64 (x.n : Int), .bool false, .int .i32 (x.c : Int)] rfl rfl (World.news_of_block (cs := #[.int .i64 (x.p : Int), .int .i64 (x.n : Int), .bool false, .int .i32 (x.c : Int)]) (t := 86) (fr := (0, 0)) (Go.heap_alloc_new wr.drew _)) (by simp [Value.oneCell']) (by omega) (by unfold maxLen; omega) (by omega) (by simp; omega) ?_
                  intro g3 c3 w3 hown3 hgrow3
                  refine hK _ _ ?_
                  clear hK K
                  have hb3 := rwApp (w := wr.drew) HR.out.2.1.drew hgrow3 HR.out.1 (by decide)
                  have e1 := cell_blk hb3 0 rfl
                  have e2 := free_blk hb3 0
                  have e3 := lt_of_some hb3
                  have HF := Lib.hid ((HI.out.drewB).push (x := ⟨x.p, x.n, false, x.c⟩) (by rw [HBB.out]; exact Nat.le_refl _) HR.out.1 HR.out.2.1.drew HR.out.2.2 hown3 hgrow3)
                  clear hown3 hgrow3 hb3 cb
                  refine wpAnyIn_all (rs := [7]) (by kernel_rfl) (by simp) (fun i hi => ?_)
                  obtain rfl : i = 7 := by simpa using hi
                  clear hi
                  refine wpOpIn_step rfl (fun K hK => ?_)
                  go_simp
                  refine hK _ _ ?_
                  clear hK K
                  refine wpAnyIn_done (by kernel_rfl) ?_ _
                  gi_wp2
                  go_roundw
                  case rel => exact ⟨k + 1, hlt, by go_num, by rw [HTS.out]; have h := HF.out; rw [HXE.out] at h; simpa using h⟩
                  case measure => simp [intOf]; omega
    · have e : (pcs s).take k = pcs s := List.take_of_length_le (by rw [← HM.out]; omega)
      rw [e] at HI
      clear hI e
      gi_wp2_with (refine ⟨trivial, ?_⟩; gi_at_call 50; refine (callsIn_wide.2 (bad_calls s _)).mono ?_; rintro e w' ⟨rfl, rfl⟩)
      obtain ⟨b, hb⟩ : ∃ b, b = wr.heap.size := ⟨_, rfl⟩
      obtain ⟨P, hP⟩ : ∃ P, P = (wr.alloc (.cells #[.string s] 9)).alloc (.cells #[.func (.func 76) #[] #[.pointer (some ⟨wr.heap.size, 0, none⟩)]] 88) := ⟨_, rfl⟩
      have hPs : P.heap.size = b + 1 + 1 := by rw [hP, hb]; simp
      have hbP : Below wr.heap.size wr P := by rw [hP]; exact ((Below.refl _ wr).alloc (Nat.le_refl _) _).alloc (by simp) _
      have hwb : w.heap.size + 1 + 1 ≤ bb := by rw [HBB.out]; exact F8.out.2.2.2.1
      have hbbb : bb + 1 ≤ b := by rw [hb]; exact HI.out.size
      obtain ⟨ba, bc, hbx, hrow⟩ := HI.out.box
      obtain ⟨Nb, hNb⟩ : ∃ Nb, Nb = (badL (pcs s)).length := ⟨_, rfl⟩
      have hNbl : Nb ≤ 1048576 := by
        rw [hNb]
        have h1 := List.length_filter_le (fun x : Pc => !x.ok) (pcs s)
        have h2 := pcs_len s
        unfold badL
        omega
      have HNb := Lib.hid hNb
      have FP : Hid (P.heap[w.heap.size]? = some (.cells #[.int .i64 leave] 3 (0, 0)) ∧ P.heap[w.heap.size + 1]? = some (.cells #[.bool false] 4 (0, 0)) ∧ Below w.heap.size w P ∧ w.heap.size + 1 + 1 ≤ b ∧ P.heap[bb]? = some (.cells #[.slice ba Nb bc] 83 (0, 0)) ∧
          (∀ k x, (badL (pcs s))[k]? = some x → ∃ g, ba = some ⟨g, 0, none⟩ ∧ g < P.heap.size ∧ P.cell? ⟨g, k * 4, none⟩ = some (.int .i64 (x.p : Int)) ∧ P.cell? ⟨g, k * 4 + 1, none⟩ = some (.int .i64 (x.n : Int))) ∧
          P.heap[b]? = some (.cells #[.string s] 9 (0, 0)) ∧ P.heap[b + 1]? = some (.cells #[.func (.func 76) #[] #[.pointer (some ⟨b, 0, none⟩)]] 88 (0, 0))) := by
        have h8 : Below bb w8 wr := HI.out.bel
        have hlt8 : bb ≤ w8.heap.size := by rw [HBB.out]; exact Nat.le_refl _
        refine Lib.hid ⟨(hbP.block _ (by omega)).trans ((h8.block _ (by omega)).trans F8.out.1), (hbP.block _ (by omega)).trans ((h8.block _ (by omega)).trans F8.out.2.1), (F8.out.2.2.1.trans (h8.mono (by omega))).trans (hbP.mono (by omega)), by omega, by rw [hNb]; exact (hbP.block _ (by omega)).trans hbx, ?_, by rw [hP, hb]; exact alloc_blk (Go.heap_alloc_new wr _) _, by rw [hP, hb]; have := Go.heap_alloc_new (wr.alloc (.cells #[.string s] 9)) (.cells #[.func (.func 76) #[] #[.pointer (some ⟨wr.heap.size, 0, none⟩)]] 88); rwa [World.size_alloc] at this⟩
        intro k x hx
        obtain ⟨g, hga, hg1, hg2, hg3⟩ := bad_row_slot hrow hx
        exact ⟨g, hga, by have := hbP.size; omega, (hbP.cell (p := ⟨g, k * 4, none⟩) hg1).trans hg2, (hbP.cell (p := ⟨g, k * 4 + 1, none⟩) hg1).trans hg3⟩
      rw [← hP, ← hb]
      clear hP hbP hb hbx hrow HI F8 hNb
      -- TURNS
      refine wpIn_loop (fun a' w' => ∃ (turn bt : Nat) (Ds : List Nat), ∃ u1 u2 u5 u6 u7 u8 u9 u10 u11 u13 u16 u17 u18 u19 u20 u21 u22 u23 u24 u25 u26 u27 u28 u29 u30 u31 u32 u33 u34 u35 u36 u37 u38 u39 u40 u41 u42 u43 u44 u45 u46 u47 u48 u49 u50 u51 u52 u53 u54 u55 u56 u57 u58 u59 u60 u61 u62 u63 u64 u65 u66 u67 u68 u69 u70 u71 u72 u73 u74 u75 u76 u77 u78 u79 u80 u81 u82 u83 u84 u85 u86 u87 u88 u89 u90 u91 u92 u93 u94 u95 u96 u97 u98 u99 u100 u101 u102 u103 u104 u105 u106 u107 u108 u109 u110 u111 u112 u113 u114 u115 u116 u117 u118 u119 u120 u121 u122 u123 u124 u125 u126 : Value, TurnT P b turn bt Ds w' ∧ a' = { tmps := List.toArray (.string s :: u1 :: u2 :: .pointer (some ⟨w.heap.size, 0, none⟩) :: .pointer (some ⟨w.heap.size + 1, 0, none⟩) :: u5 :: u6 :: u7 :: u8 :: u9 :: u10 :: u11 :: .pointer (some ⟨bb, 0, none⟩) :: u13 :: .pointer (some ⟨b + 1, 0, none⟩) :: .pointer (some ⟨bt, 0, none⟩) :: u16 :: u17 :: u18 :: u19 :: u20 :: u21 :: u22 :: u23 :: u24 :: u25 :: u26 :: u27 :: u28 :: u29 :: u30 :: u31 :: u32 :: u33 :: u34 :: u35 :: u36 :: u37 :: u38 :: u39 :: u40 :: u41 :: u42 :: u43 :: u44 :: u45 :: u46 :: u47 :: u48 :: u49 :: u50 :: u51 :: u52 :: u53 :: u54 :: u55 :: u56 :: u57 :: u58 :: u59 :: u60 :: u61 :: u62 :: u63 :: u64 :: u65 :: u66 :: u67 :: u68 :: u69 :: u70 :: u71 :: u72 :: u73 :: u74 :: u75 :: u76 :: u77 :: u78 :: u79 :: u80 :: u81 :: u82 :: u83 :: u84 :: u85 :: u86 :: u87 :: u88 :: u89 :: u90 :: u91 :: u92 :: u93 :: u94 :: u95 :: u96 :: u97 :: u98 :: u99 :: u100 :: u101 :: u102 :: u103 :: u104 :: u105 :: u106 :: u107 :: u108 :: u109 :: u110 :: u111 :: u112 :: u113 :: u114 :: u115 :: u116 :: u117 :: u118 :: u119 :: u120 :: u121 :: u122 :: u123 :: u124 :: u125 :: u126 :: []), defers := Ds.map cDt }) (fun a' w' => 2 - turnT a' w') ?_ ?_
      · refine ⟨0, b + 1 + 1, [], ?_⟩
        (repeat apply Exists.intro)
        exact ⟨⟨Nat.zero_le _, by rw [← hPs]; exact Go.heap_alloc_new P _, Nat.le_refl _, by rw [hPs]; exact Nat.le_refl _, (Below.refl _ P).alloc (Nat.le_refl _) _, rfl, List.nodup_nil, fun D h => by cases h⟩, rfl⟩
      · intro a0 wr hinv
        obtain ⟨turn, bt, Ds, hinv⟩ := hinv
        obtain ⟨u1, hinv⟩ := hinv
        obtain ⟨u2, hinv⟩ := hinv
        obtain ⟨u5, hinv⟩ := hinv
        obtain ⟨u6, hinv⟩ := hinv
        obtain ⟨u7, hinv⟩ := hinv
        obtain ⟨u8, hinv⟩ := hinv
        obtain ⟨u9, hinv⟩ := hinv
        obtain ⟨u10, hinv⟩ := hinv
        obtain ⟨u11, hinv⟩ := hinv
        obtain ⟨u13, hinv⟩ := hinv
        obtain ⟨u16, hinv⟩ := hinv
        obtain ⟨u17, hinv⟩ := hinv
        obtain ⟨u18, hinv⟩ := hinv
        obtain ⟨u19, hinv⟩ := hinv
        obtain ⟨u20, hinv⟩ := hinv
        obtain ⟨u21, hinv⟩ := hinv
        obtain ⟨u22, hinv⟩ := hinv
        obtain ⟨u23, hinv⟩ := hinv
        obtain ⟨u24, hinv⟩ := hinv
        obtain ⟨u25, hinv⟩ := hinv
        obtain ⟨u26, hinv⟩ := hinv
        obtain ⟨u27, hinv⟩ := hinv
        obtain ⟨u28, hinv⟩ := hinv
        obtain ⟨u29, hinv⟩ := hinv
        obtain ⟨u30, hinv⟩ := hinv
        obtain ⟨u31, hinv⟩ := hinv
        obtain ⟨u32, hinv⟩ := hinv
        obtain ⟨u33, hinv⟩ := hinv
        obtain ⟨u34, hinv⟩ := hinv
        obtain ⟨u35, hinv⟩ := hinv
        obtain ⟨u36, hinv⟩ := hinv
        obtain ⟨u37, hinv⟩ := hinv
        obtain ⟨u38, hinv⟩ := hinv
        obtain ⟨u39, hinv⟩ := hinv
        obtain ⟨u40, hinv⟩ := hinv
        obtain ⟨u41, hinv⟩ := hinv
        obtain ⟨u42, hinv⟩ := hinv
        obtain ⟨u43, hinv⟩ := hinv
        obtain ⟨u44, hinv⟩ := hinv
        obtain ⟨u45, hinv⟩ := hinv
        obtain ⟨u46, hinv⟩ := hinv
        obtain ⟨u47, hinv⟩ := hinv
        obtain ⟨u48, hinv⟩ := hinv
        obtain ⟨u49, hinv⟩ := hinv
        obtain ⟨u50, hinv⟩ := hinv
        obtain ⟨u51, hinv⟩ := hinv
        obtain ⟨u52, hinv⟩ := hinv
        obtain ⟨u53, hinv⟩ := hinv
        obtain ⟨u54, hinv⟩ := hinv
        obtain ⟨u55, hinv⟩ := hinv
        obtain ⟨u56, hinv⟩ := hinv
        obtain ⟨u57, hinv⟩ := hinv
        obtain ⟨u58, hinv⟩ := hinv
        obtain ⟨u59, hinv⟩ := hinv
        obtain ⟨u60, hinv⟩ := hinv
        obtain ⟨u61, hinv⟩ := hinv
        obtain ⟨u62, hinv⟩ := hinv
        obtain ⟨u63, hinv⟩ := hinv
        obtain ⟨u64, hinv⟩ := hinv
        obtain ⟨u65, hinv⟩ := hinv
        obtain ⟨u66, hinv⟩ := hinv
        obtain ⟨u67, hinv⟩ := hinv
        obtain ⟨u68, hinv⟩ := hinv
        obtain ⟨u69, hinv⟩ := hinv
        obtain ⟨u70, hinv⟩ := hinv
        obtain ⟨u71, hinv⟩ := hinv
        obtain ⟨u72, hinv⟩ := hinv
        obtain ⟨u73, hinv⟩ := hinv
        obtain ⟨u74, hinv⟩ := hinv
        obtain ⟨u75, hinv⟩ := hinv
        obtain ⟨u76, hinv⟩ := hinv
        obtain ⟨u77, hinv⟩ := hinv
        obtain ⟨u78, hinv⟩ := hinv
        obtain ⟨u79, hinv⟩ := hinv
        obtain ⟨u80, hinv⟩ := hinv
        obtain ⟨u81, hinv⟩ := hinv
        obtain ⟨u82, hinv⟩ := hinv
        obtain ⟨u83, hinv⟩ := hinv
        obtain ⟨u84, hinv⟩ := hinv
        obtain ⟨u85, hinv⟩ := hinv
        obtain ⟨u86, hinv⟩ := hinv
        obtain ⟨u87, hinv⟩ := hinv
        obtain ⟨u88, hinv⟩ := hinv
        obtain ⟨u89, hinv⟩ := hinv
        obtain ⟨u90, hinv⟩ := hinv
        obtain ⟨u91, hinv⟩ := hinv
        obtain ⟨u92, hinv⟩ := hinv
        obtain ⟨u93, hinv⟩ := hinv
        obtain ⟨u94, hinv⟩ := hinv
        obtain ⟨u95, hinv⟩ := hinv
        obtain ⟨u96, hinv⟩ := hinv
        obtain ⟨u97, hinv⟩ := hinv
        obtain ⟨u98, hinv⟩ := hinv
        obtain ⟨u99, hinv⟩ := hinv
        obtain ⟨u100, hinv⟩ := hinv
        obtain ⟨u101, hinv⟩ := hinv
        obtain ⟨u102, hinv⟩ := hinv
        obtain ⟨u103, hinv⟩ := hinv
        obtain ⟨u104, hinv⟩ := hinv
        obtain ⟨u105, hinv⟩ := hinv
        obtain ⟨u106, hinv⟩ := hinv
        obtain ⟨u107, hinv⟩ := hinv
        obtain ⟨u108, hinv⟩ := hinv
        obtain ⟨u109, hinv⟩ := hinv
        obtain ⟨u110, hinv⟩ := hinv
        obtain ⟨u111, hinv⟩ := hinv
        obtain ⟨u112, hinv⟩ := hinv
        obtain ⟨u113, hinv⟩ := hinv
        obtain ⟨u114, hinv⟩ := hinv
        obtain ⟨u115, hinv⟩ := hinv
        obtain ⟨u116, hinv⟩ := hinv
        obtain ⟨u117, hinv⟩ := hinv
        obtain ⟨u118, hinv⟩ := hinv
        obtain ⟨u119, hinv⟩ := hinv
        obtain ⟨u120, hinv⟩ := hinv
        obtain ⟨u121, hinv⟩ := hinv
        obtain ⟨u122, hinv⟩ := hinv
        obtain ⟨u123, hinv⟩ := hinv
        obtain ⟨u124, hinv⟩ := hinv
        obtain ⟨u125, hinv⟩ := hinv
        obtain ⟨u126, hinv⟩ := hinv
        obtain ⟨hT, rfl⟩ := hinv
        have c15 := cell_blk hT.box 0 rfl
        have hbtl := lt_of_some hT.box
        have hbt := hT.bt
        have hPsz := hT.bel.size
        have csq := cell_blk ((hT.bel.block (b + 1) (by omega)).trans FP.out.2.2.2.2.2.2.2) 0 rfl
        simp at c15 csq
        by_cases hlt : turn < 2
        · have p1 : (turn : Int) < 2 := by omega
          have hb1lt : b + 1 < wr.heap.size := by omega
          have hb1lt2 : b + 1 < wr.heap.size + 1 := by omega
          have HT := Lib.hid hT
          clear hT
          gi_wp2_with fail
          have hw0 : Below P.heap.size P ((wr.alloc (.cells #[.int .i64 0] 3)).alloc (.cells #[.bool false] 4)) := (HT.out.bel.alloc hPsz _).alloc (by simp; omega) _
          have hI0 : UbT P turn bt wr.heap.size Ds false 0 ((wr.alloc (.cells #[.int .i64 0] 3)).alloc (.cells #[.bool false] 4)) :=
            ⟨hw0, alloc_blk (alloc_blk HT.out.box _) _, alloc_blk (Go.heap_alloc_new wr _) _, by have := Go.heap_alloc_new (wr.alloc (.cells #[.int .i64 0] 3)) (.cells #[.bool false] 4); rwa [World.size_alloc] at this, fun D h => alloc_blk (alloc_blk (HT.out.defs D h).1 _) _⟩
          have hst := bad_stops 8 b s (by omega) (w0 := P) ((wr.alloc (.cells #[.int .i64 0] 3)).alloc (.cells #[.bool false] 4)) ((hw0.block _ (by omega)).trans FP.out.2.2.2.2.2.2.1)
          generalize hW0 : ((wr.alloc (.cells #[.int .i64 0] 3)).alloc (.cells #[.bool false] 4)) = W0 at hw0 hI0 hst ⊢
          have hW0s : W0.heap.size = wr.heap.size + 1 + 1 := by rw [← hW0]; simp
          have hDs : ∀ D ∈ Ds, D < W0.heap.size := fun D h => by have := lt_of_some (HT.out.defs D h).1; omega
          have HDS := Lib.hid hDs
          clear hW0 c15 csq
          refine wpIn_rangeFunc_ownH rfl (by decide) (gf := 76) (lb := #[.pointer (some ⟨b, 0, none⟩)]) rfl trivial (enters_of Try.func76 (by kernel_rfl) rfl)
            hst (fun h k => h.trans k) (kpY_b (by omega)) (Below.refl _ _) (fun _ => rfl)
            (fun pre W => UbT P turn bt wr.heap.size Ds false pre.length W) (fun c pre W => (c = .exit 4 ∧ UbT P turn bt wr.heap.size Ds true pre.length W) ∨ (c = .ret ∧ ¬ pre <+: badL (pcs s))) (ubT_own _ _ _ _ _ _ _ _ (by omega) hDs)
            (fun c s X Y row hs hg hr => hs.imp (fun h => ⟨h.1, ubT_own P turn bt wr.heap.size Ds true List.length W0.heap.size (by omega) HDS.out s X Y row h.2 hg hr⟩) id) hI0
            (fun x a' _ => a' = { tmps := List.toArray (.string s :: u1 :: u2 :: .pointer (some ⟨w.heap.size, 0, none⟩) :: .pointer (some ⟨w.heap.size + 1, 0, none⟩) :: u5 :: u6 :: u7 :: u8 :: u9 :: u10 :: u11 :: .pointer (some ⟨bb, 0, none⟩) :: u13 :: .pointer (some ⟨b + 1, 0, none⟩) :: .pointer (some ⟨bt, 0, none⟩) :: .pointer (some ⟨wr.heap.size, 0, none⟩) :: .pointer (some ⟨wr.heap.size + 1, 0, none⟩) :: .int .i64 (x.p : Int) :: .int .i64 (x.n : Int) :: u20 :: u21 :: u22 :: u23 :: u24 :: u25 :: u26 :: u27 :: u28 :: u29 :: u30 :: u31 :: u32 :: u33 :: u34 :: u35 :: u36 :: u37 :: u38 :: u39 :: u40 :: u41 :: u42 :: u43 :: u44 :: u45 :: u46 :: u47 :: u48 :: u49 :: u50 :: u51 :: u52 :: u53 :: u54 :: u55 :: u56 :: u57 :: u58 :: u59 :: u60 :: u61 :: u62 :: u63 :: u64 :: u65 :: u66 :: u67 :: u68 :: u69 :: u70 :: .int .i64 (turn : Int) :: .bool true :: u73 :: u74 :: .func (.func 76) #[] #[.pointer (some ⟨b, 0, none⟩)] :: .int .i64 (x.p : Int) :: .int .i64 (x.n : Int) :: u78 :: u79 :: u80 :: u81 :: u82 :: u83 :: u84 :: u85 :: u86 :: u87 :: u88 :: u89 :: u90 :: u91 :: u92 :: u93 :: u94 :: u95 :: u96 :: u97 :: u98 :: u99 :: u100 :: u101 :: u102 :: u103 :: u104 :: u105 :: u106 :: u107 :: u108 :: u109 :: u110 :: u111 :: u112 :: u113 :: u114 :: u115 :: u116 :: u117 :: u118 :: u119 :: u120 :: u121 :: u122 :: u123 :: u124 :: u125 :: u126 :: []), defers := [] }) (fun _ _ _ _ _ _ hs _ _ => hs) ?assign ?body ?done ?stop
          case assign =>
            intro l pre x W K hI hK
            simp only [encBd]
            gi_wp2
            exact hK _ _ ((KeepsOthers.refl _).from _) (KpY.refl _ _ _) hI rfl
          case body =>
            rintro l pre x a' W hl ⟨r, hr⟩ hI rfl hlt2
            obtain ⟨y, hy⟩ : ∃ y, (badL (pcs s))[pre.length]? = some y := ⟨_, List.getElem?_eq_getElem hlt2⟩
            obtain ⟨gu, rfl, hgl, k0, k1⟩ := FP.out.2.2.2.2.2.1 _ _ hy
            obtain ⟨y0, hy0⟩ : ∃ y0, (badL (pcs s))[0]? = some y0 := ⟨_, List.getElem?_eq_getElem (by omega)⟩
            obtain ⟨_, hgu, _, kk0, _⟩ := FP.out.2.2.2.2.2.1 _ _ hy0
            cases hgu
            rw [← HNb.out] at hlt2
            obtain ⟨m', hm'⟩ : ∃ m', m' = pre.length := ⟨_, rfl⟩
            rw [← hm'] at k0 k1 hlt2 hI
            have z0 := (hI.bel.cell (p := ⟨gu, m' * 4, none⟩) hgl).trans k0
            have z1 := (hI.bel.cell (p := ⟨gu, m' * 4 + 1, none⟩) hgl).trans k1
            have cb := cell_blk ((hI.bel.block bb (by omega)).trans FP.out.2.2.2.2.1) 0 rfl
            have cv := cell_blk ((hI.bel.block w.heap.size (by omega)).trans FP.out.1) 0 rfl
            have hcr := (hI.bel.block (w.heap.size + 1) (by omega)).trans FP.out.2.1
            have cr := cell_blk hcr 0 rfl
            have fr := free_blk hcr 0
            have cn := cell_blk hI.num 0 rfl
            have fn := free_blk hI.num 0
            have cl := cell_blk hI.left 0 rfl
            have fl := free_blk hI.left 0
            have ct := cell_blk hI.box 0 rfl
            have ln := lt_of_some hI.num
            have ll := lt_of_some hI.left
            have lr := lt_of_some hcr
            have csq := cell_blk ((hI.bel.block (b + 1) (by omega)).trans FP.out.2.2.2.2.2.2.2) 0 rfl
            simp at cb cv cr cn cl ct csq
            have p2 : (m' : Int) < (Nb : Int) := by omega
            have p3 : (0 : Int) ≤ (m' : Int) := by omega
            have hNb2 : Nb ≤ 1048576 := hNbl
            have q1 : IntKind.i64.wrap ((m' : Int) + 1) = (m' : Int) + 1 := IntWalk.i64_in _ (by omega)
            have hne1 : w.heap.size < wr.heap.size := by omega
            have hne2 : bb < wr.heap.size := by omega
            have hne3 : b + 1 < wr.heap.size := by omega
            have HY := Lib.hid hy
            have HY0 := Lib.hid hy0
            have HI := Lib.hid hI
            have HM' := Lib.hid hm'
            have HRR := Lib.hid hr
            have HK0 := Lib.hid kk0
            clear hI hy hy0 k0 k1 kk0 hm' hr hcr
            by_cases hp : x.p = y.p
            · have q2 : ((x.p : Int) != (y.p : Int)) = false := by simp [hp]
              by_cases hc : x.n = y.n
              · have q3 : ((x.n : Int) != (y.n : Int)) = false := by simp [hc]
                have hI1 : UbT P turn bt wr.heap.size Ds false (m' + 1) (W.setCell ⟨wr.heap.size, 0, none⟩ (.int .i64 ((m' : Int) + 1))) :=
                  ⟨HI.out.bel.setCell (p := ⟨wr.heap.size, 0, none⟩) (by simp; omega) _, set_other HI.out.box (by simp; omega) _, by rw [set_blk HI.out.num]; rfl, set_other HI.out.left (by simp) _, fun D h => set_other (HI.out.defs D h) (by have := HDS.out D h; simp; have := lt_of_some (HT.out.defs D h).1; omega) _⟩
                have hK1 : KpY 146 P.heap.size W (W.setCell ⟨wr.heap.size, 0, none⟩ (.int .i64 ((m' : Int) + 1))) := kpY_set _ (by simp; omega) HI.out.num (by decide)
                have hO1 : KeepsOthers W (W.setCell ⟨wr.heap.size, 0, none⟩ (.int .i64 ((m' : Int) + 1))) := KeepsOthers.setCell _ _ _
                have HI1 := Lib.hid (And.intro hI1 (And.intro hK1 hO1))
                clear hI1 hK1 hO1 hp hc
                have hpl : (pre ++ [x]).length = m' + 1 := by rw [HM'.out]; simp
                have HPL := Lib.hid hpl
                clear hpl
                by_cases ht : turn = 0 ∧ (m' : Int) + 1 = leave
                · have q4 : ((turn : Int) == 0) = true := by simp [ht.1]
                  have q5 : ((m' : Int) + 1 == leave) = true := by simp [ht.2]
                  clear ht
                  gi_wp2
                  refine ⟨((KeepsOthers.setCell _ _ _).trans (KeepsOthers.setCell _ _ _)).from _, .inl ⟨rfl, ?_⟩⟩
                  rw [HPL.out]
                  exact ⟨HI1.out.1.bel.setCell (p := ⟨wr.heap.size + 1, 0, none⟩) (by simp; omega) _, set_other HI1.out.1.box (by simp; omega) _, set_other HI1.out.1.num (by simp) _, by rw [set_blk HI1.out.1.left]; rfl, fun D h => set_other (HI1.out.1.defs D h) (by have := lt_of_some (HT.out.defs D h).1; simp; omega) _⟩
                · have hor : (((turn : Int) == 0) = true ∧ ((m' : Int) + 1 == leave) = false) ∨ ((turn : Int) == 0) = false := by
                    by_cases h0 : turn = 0
                    · left; exact ⟨by simp [h0], by simp; exact fun e => ht ⟨h0, e⟩⟩
                    · right; simp; omega
                  clear ht
                  rcases hor with ⟨q4, q5⟩ | q4
                  · gi_wp2
                    have hr2 : (W.setCell ⟨wr.heap.size, 0, none⟩ (.int .i64 ((m' : Int) + 1))).heap[l]? = some (.loop r) := HI1.out.2.2.same _ _ HRR.out rfl
                    have hst2 := bad_stops 6 b s (by omega) (w0 := P) (W.setCell ⟨wr.heap.size, 0, none⟩ (.int .i64 ((m' : Int) + 1))) ((HI1.out.1.bel.block _ (by omega)).trans FP.out.2.2.2.2.2.2.1)
                    have hsz2 : (W.setCell ⟨wr.heap.size, 0, none⟩ (.int .i64 ((m' : Int) + 1))).heap.size = W.heap.size := by simp
                    have hI3 := And.intro HI1.out.1 (And.intro HI1.out.2.1 (HI1.out.2.2.from W0.heap.size))
                    generalize hW2 : (W.setCell ⟨wr.heap.size, 0, none⟩ (.int .i64 ((m' : Int) + 1))) = W2 at hr2 hst2 hsz2 hI3 ⊢
                    have hPW : P.heap.size ≤ W.heap.size := HI.out.bel.size
                    have hDW : ∀ D ∈ Ds, D < W2.heap.size := fun D h => lt_of_some (hI3.1.defs D h)
                    clear hW2 cn fn cl fl ct cb cv cr fr csq z0 z1 ln ll lr
                    refine wpIn_rangeFunc_ownN (l₀ := l) (r₀ := r) rfl hr2 (by decide) (gf := 76) (lb := #[.pointer (some ⟨b, 0, none⟩)]) rfl trivial (enters_of Try.func76 (by kernel_rfl) rfl)
                      (hst2.inRound l) (fun h k => h.trans k) (kpY_b (by omega)) (Below.refl _ _) (fun _ => rfl)
                      (fun pre' W' => pre' = [] ∧ UbT P turn bt wr.heap.size Ds false (m' + 1) W' ∧ KpY 146 P.heap.size W W' ∧ KeepsFrom W0.heap.size W W')
                      (fun c pre' W' => (c = .exit 6 ∧ UbT P turn bt wr.heap.size Ds false (m' + 1) W' ∧ KpY 146 P.heap.size W W' ∧ KeepsFrom W0.heap.size W W') ∨ (c = .ret ∧ ¬ pre' <+: badL (pcs s)))
                      (fun q X Y row hs hg hr => ⟨hs.1, ubT_own P turn bt wr.heap.size Ds false (fun _ : List Pc => m' + 1) W2.heap.size (by omega) hDW q X Y row hs.2.1 hg hr, kpY_own 146 P.heap.size W2.heap.size W hPW (by omega) q X Y row hs.2.2.1 hg hr, ownFrom_keepsFrom (by omega) q X Y row hs.2.2.2 hg hr⟩)
                      (fun c q X Y row hs hg hr => hs.imp (fun h => ⟨h.1, ubT_own P turn bt wr.heap.size Ds false (fun _ : List Pc => m' + 1) W2.heap.size (by omega) hDW q X Y row h.2.1 hg hr, kpY_own 146 P.heap.size W2.heap.size W hPW (by omega) q X Y row h.2.2.1 hg hr, ownFrom_keepsFrom (by omega) q X Y row h.2.2.2 hg hr⟩) id)
                      ⟨rfl, hI3⟩
                      (fun x2 a' _ => ∃ v78 v79 v80 v81 v82 v83 v84 v85 v86 v87 v88 v89 v90 v91 v92 v93 v94 v95 v96 v97 v98 v99 v100 v101 v102 v103 v104 v105 v106 v107 v108 : Value, a' = { tmps := List.toArray (.string s :: u1 :: u2 :: .pointer (some ⟨w.heap.size, 0, none⟩) :: .pointer (some ⟨w.heap.size + 1, 0, none⟩) :: u5 :: u6 :: u7 :: u8 :: u9 :: u10 :: u11 :: .pointer (some ⟨bb, 0, none⟩) :: u13 :: .pointer (some ⟨b + 1, 0, none⟩) :: .pointer (some ⟨bt, 0, none⟩) :: .pointer (some ⟨wr.heap.size, 0, none⟩) :: .pointer (some ⟨wr.heap.size + 1, 0, none⟩) :: .int .i64 (x.p : Int) :: .int .i64 (x.n : Int) :: .int .i64 (x2.p : Int) :: u21 :: u22 :: u23 :: u24 :: u25 :: u26 :: u27 :: u28 :: u29 :: u30 :: u31 :: u32 :: u33 :: u34 :: u35 :: u36 :: u37 :: u38 :: u39 :: u40 :: u41 :: u42 :: u43 :: u44 :: u45 :: u46 :: u47 :: u48 :: u49 :: u50 :: u51 :: u52 :: u53 :: u54 :: u55 :: u56 :: u57 :: u58 :: u59 :: u60 :: u61 :: u62 :: u63 :: u64 :: u65 :: u66 :: u67 :: u68 :: u69 :: u70 :: .int .i64 (turn : Int) :: .bool true :: u73 :: u74 :: .func (.func 76) #[] #[.pointer (some ⟨b, 0, none⟩)] :: .int .i64 (x.p : Int) :: .int .i64 (x.n : Int) :: v78 :: v79 :: v80 :: v81 :: v82 :: v83 :: v84 :: v85 :: v86 :: v87 :: v88 :: v89 :: v90 :: v91 :: v92 :: v93 :: v94 :: v95 :: v96 :: v97 :: v98 :: v99 :: v100 :: v101 :: v102 :: v103 :: v104 :: v105 :: v106 :: v107 :: v108 :: .func (.func 76) #[] #[.pointer (some ⟨b, 0, none⟩)] :: .int .i64 (x2.p : Int) :: .int .i64 (x2.n : Int) :: u112 :: u113 :: u114 :: u115 :: u116 :: u117 :: u118 :: u119 :: u120 :: u121 :: u122 :: u123 :: u124 :: u125 :: u126 :: []), defers := [] })
                      (fun _ _ _ _ _ _ hs _ _ => hs) ?assign3a ?body3a ?done3a ?stop3a
                    case assign3a =>
                      intro l2 pre' x2 W' K hI2 hK
                      simp only [encBd]
                      gi_wp2
                      refine hK _ _ ((KeepsOthers.refl _).from _) (KpY.refl _ _ _) hI2 ?_
                      (repeat apply Exists.intro)
                      rfl
                    case body3a =>
                      rintro l2 pre' x2 a2 W' hl2 ⟨r2, hr2'⟩ ⟨rfl, hU3, hk3, hf3⟩ hax hlt3
                      obtain ⟨v78, hax⟩ := hax
                      obtain ⟨v79, hax⟩ := hax
                      obtain ⟨v80, hax⟩ := hax
                      obtain ⟨v81, hax⟩ := hax
                      obtain ⟨v82, hax⟩ := hax
                      obtain ⟨v83, hax⟩ := hax
                      obtain ⟨v84, hax⟩ := hax
                      obtain ⟨v85, hax⟩ := hax
                      obtain ⟨v86, hax⟩ := hax
                      obtain ⟨v87, hax⟩ := hax
                      obtain ⟨v88, hax⟩ := hax
                      obtain ⟨v89, hax⟩ := hax
                      obtain ⟨v90, hax⟩ := hax
                      obtain ⟨v91, hax⟩ := hax
                      obtain ⟨v92, hax⟩ := hax
                      obtain ⟨v93, hax⟩ := hax
                      obtain ⟨v94, hax⟩ := hax
                      obtain ⟨v95, hax⟩ := hax
                      obtain ⟨v96, hax⟩ := hax
                      obtain ⟨v97, hax⟩ := hax
                      obtain ⟨v98, hax⟩ := hax
                      obtain ⟨v99, hax⟩ := hax
                      obtain ⟨v100, hax⟩ := hax
                      obtain ⟨v101, hax⟩ := hax
                      obtain ⟨v102, hax⟩ := hax
                      obtain ⟨v103, hax⟩ := hax
                      obtain ⟨v104, hax⟩ := hax
                      obtain ⟨v105, hax⟩ := hax
                      obtain ⟨v106, hax⟩ := hax
                      obtain ⟨v107, hax⟩ := hax
                      obtain ⟨v108, hax⟩ := hax
                      subst hax
                      have hH := Lib.hid (And.intro hU3 (And.intro hk3 hf3))
                      have cb := cell_blk ((hU3.bel.block bb (by omega)).trans FP.out.2.2.2.2.1) 0 rfl
                      have cz := (hU3.bel.cell (p := ⟨gu, 0 * 4, none⟩) hgl).trans HK0.out
                      have hcr := (hU3.bel.block (w.heap.size + 1) (by omega)).trans FP.out.2.1
                      have cr := cell_blk hcr 0 rfl
                      have fr := free_blk hcr 0
                      have lr := lt_of_some hcr
                      have p0 : 0 < Nb := by omega
                      simp at cb cz cr
                      clear hU3 hk3 hf3 hcr hr2'
                      by_cases hz : x2.p = y0.p
                      · have q2 : ((x2.p : Int) != (y0.p : Int)) = false := by simp [hz]
                        clear hz
                        gi_wp2
                        exact ⟨(KeepsOthers.refl _).from _, .inl ⟨rfl, hH.out⟩⟩
                      · have q2 : ((x2.p : Int) != (y0.p : Int)) = true := by simp; omega
                        have hF : ¬ [] ++ [x2] <+: badL (pcs s) := fun h => hz (by rw [prefixT (pre := []) HY0.out h])
                        have HF := Lib.hid hF
                        clear hz hF
                        gi_wp2
                        exact ⟨(KeepsOthers.setCell _ _ _).from _, .inr ⟨rfl, HF.out⟩⟩
                    case done3a =>
                      rintro ys W' rfl ⟨_, hU3, hk3, hf3⟩
                      have hH := Lib.hid (And.intro hf3 (And.intro hk3 hU3))
                      clear hU3 hk3 hf3
                      gi_wp2
                      refine ⟨hH.out.1, hH.out.2.1, ?_⟩
                      show UbT P turn bt wr.heap.size Ds false (pre ++ [x]).length W'
                      rw [HPL.out]
                      exact hH.out.2.2
                    case stop3a =>
                      rintro c pre' W' hpre (⟨rfl, hU3, hk3, hf3⟩ | ⟨_, hF⟩)
                      · have hH := Lib.hid (And.intro hf3 (And.intro hk3 hU3))
                        clear hU3 hk3 hf3
                        gi_wp2
                        refine ⟨hH.out.1, hH.out.2.1, ?_⟩
                        show UbT P turn bt wr.heap.size Ds false (pre ++ [x]).length W'
                        rw [HPL.out]
                        exact hH.out.2.2
                      · exact absurd hpre hF
                  · gi_wp2
                    have hr2 : (W.setCell ⟨wr.heap.size, 0, none⟩ (.int .i64 ((m' : Int) + 1))).heap[l]? = some (.loop r) := HI1.out.2.2.same _ _ HRR.out rfl
                    have hst2 := bad_stops 6 b s (by omega) (w0 := P) (W.setCell ⟨wr.heap.size, 0, none⟩ (.int .i64 ((m' : Int) + 1))) ((HI1.out.1.bel.block _ (by omega)).trans FP.out.2.2.2.2.2.2.1)
                    have hsz2 : (W.setCell ⟨wr.heap.size, 0, none⟩ (.int .i64 ((m' : Int) + 1))).heap.size = W.heap.size := by simp
                    have hI3 := And.intro HI1.out.1 (And.intro HI1.out.2.1 (HI1.out.2.2.from W0.heap.size))
                    generalize hW2 : (W.setCell ⟨wr.heap.size, 0, none⟩ (.int .i64 ((m' : Int) + 1))) = W2 at hr2 hst2 hsz2 hI3 ⊢
                    have hPW : P.heap.size ≤ W.heap.size := HI.out.bel.size
                    have hDW : ∀ D ∈ Ds, D < W2.heap.size := fun D h => lt_of_some (hI3.1.defs D h)
                    clear hW2 cn fn cl fl ct cb cv cr fr csq z0 z1 ln ll lr
                    refine wpIn_rangeFunc_ownN (l₀ := l) (r₀ := r) rfl hr2 (by decide) (gf := 76) (lb := #[.pointer (some ⟨b, 0, none⟩)]) rfl trivial (enters_of Try.func76 (by kernel_rfl) rfl)
                      (hst2.inRound l) (fun h k => h.trans k) (kpY_b (by omega)) (Below.refl _ _) (fun _ => rfl)
                      (fun pre' W' => pre' = [] ∧ UbT P turn bt wr.heap.size Ds false (m' + 1) W' ∧ KpY 146 P.heap.size W W' ∧ KeepsFrom W0.heap.size W W')
                      (fun c pre' W' => (c = .exit 6 ∧ UbT P turn bt wr.heap.size Ds false (m' + 1) W' ∧ KpY 146 P.heap.size W W' ∧ KeepsFrom W0.heap.size W W') ∨ (c = .ret ∧ ¬ pre' <+: badL (pcs s)))
                      (fun q X Y row hs hg hr => ⟨hs.1, ubT_own P turn bt wr.heap.size Ds false (fun _ : List Pc => m' + 1) W2.heap.size (by omega) hDW q X Y row hs.2.1 hg hr, kpY_own 146 P.heap.size W2.heap.size W hPW (by omega) q X Y row hs.2.2.1 hg hr, ownFrom_keepsFrom (by omega) q X Y row hs.2.2.2 hg hr⟩)
                      (fun c q X Y row hs hg hr => hs.imp (fun h => ⟨h.1, ubT_own P turn bt wr.heap.size Ds false (fun _ : List Pc => m' + 1) W2.heap.size (by omega) hDW q X Y row h.2.1 hg hr, kpY_own 146 P.heap.size W2.heap.size W hPW (by omega) q X Y row h.2.2.1 hg hr, ownFrom_keepsFrom (by omega) q X Y row h.2.2.2 hg hr⟩) id)
                      ⟨rfl, hI3⟩
                      (fun x2 a' _ => ∃ v78 v79 v80 v81 v82 v83 v84 v85 v86 v87 v88 v89 v90 v91 v92 v93 v94 v95 v96 v97 v98 v99 v100 v101 v102 v103 v104 v105 v106 v107 v108 : Value, a' = { tmps := List.toArray (.string s :: u1 :: u2 :: .pointer (some ⟨w.heap.size, 0, none⟩) :: .pointer (some ⟨w.heap.size + 1, 0, none⟩) :: u5 :: u6 :: u7 :: u8 :: u9 :: u10 :: u11 :: .pointer (some ⟨bb, 0, none⟩) :: u13 :: .pointer (some ⟨b + 1, 0, none⟩) :: .pointer (some ⟨bt, 0, none⟩) :: .pointer (some ⟨wr.heap.size, 0, none⟩) :: .pointer (some ⟨wr.heap.size + 1, 0, none⟩) :: .int .i64 (x.p : Int) :: .int .i64 (x.n : Int) :: .int .i64 (x2.p : Int) :: u21 :: u22 :: u23 :: u24 :: u25 :: u26 :: u27 :: u28 :: u29 :: u30 :: u31 :: u32 :: u33 :: u34 :: u35 :: u36 :: u37 :: u38 :: u39 :: u40 :: u41 :: u42 :: u43 :: u44 :: u45 :: u46 :: u47 :: u48 :: u49 :: u50 :: u51 :: u52 :: u53 :: u54 :: u55 :: u56 :: u57 :: u58 :: u59 :: u60 :: u61 :: u62 :: u63 :: u64 :: u65 :: u66 :: u67 :: u68 :: u69 :: u70 :: .int .i64 (turn : Int) :: .bool true :: u73 :: u74 :: .func (.func 76) #[] #[.pointer (some ⟨b, 0, none⟩)] :: .int .i64 (x.p : Int) :: .int .i64 (x.n : Int) :: v78 :: v79 :: v80 :: v81 :: v82 :: v83 :: v84 :: v85 :: v86 :: v87 :: v88 :: v89 :: v90 :: v91 :: v92 :: v93 :: v94 :: v95 :: v96 :: v97 :: v98 :: v99 :: v100 :: v101 :: v102 :: v103 :: v104 :: v105 :: v106 :: v107 :: v108 :: .func (.func 76) #[] #[.pointer (some ⟨b, 0, none⟩)] :: .int .i64 (x2.p : Int) :: .int .i64 (x2.n : Int) :: u112 :: u113 :: u114 :: u115 :: u116 :: u117 :: u118 :: u119 :: u120 :: u121 :: u122 :: u123 :: u124 :: u125 :: u126 :: []), defers := [] })
                      (fun _ _ _ _ _ _ hs _ _ => hs) ?assign3b ?body3b ?done3b ?stop3b
                    case assign3b =>
                      intro l2 pre' x2 W' K hI2 hK
                      simp only [encBd]
                      gi_wp2
                      refine hK _ _ ((KeepsOthers.refl _).from _) (KpY.refl _ _ _) hI2 ?_
                      (repeat apply Exists.intro)
                      rfl
                    case body3b =>
                      rintro l2 pre' x2 a2 W' hl2 ⟨r2, hr2'⟩ ⟨rfl, hU3, hk3, hf3⟩ hax hlt3
                      obtain ⟨v78, hax⟩ := hax
                      obtain ⟨v79, hax⟩ := hax
                      obtain ⟨v80, hax⟩ := hax
                      obtain ⟨v81, hax⟩ := hax
                      obtain ⟨v82, hax⟩ := hax
                      obtain ⟨v83, hax⟩ := hax
                      obtain ⟨v84, hax⟩ := hax
                      obtain ⟨v85, hax⟩ := hax
                      obtain ⟨v86, hax⟩ := hax
                      obtain ⟨v87, hax⟩ := hax
                      obtain ⟨v88, hax⟩ := hax
                      obtain ⟨v89, hax⟩ := hax
                      obtain ⟨v90, hax⟩ := hax
                      obtain ⟨v91, hax⟩ := hax
                      obtain ⟨v92, hax⟩ := hax
                      obtain ⟨v93, hax⟩ := hax
                      obtain ⟨v94, hax⟩ := hax
                      obtain ⟨v95, hax⟩ := hax
                      obtain ⟨v96, hax⟩ := hax
                      obtain ⟨v97, hax⟩ := hax
                      obtain ⟨v98, hax⟩ := hax
                      obtain ⟨v99, hax⟩ := hax
                      obtain ⟨v100, hax⟩ := hax
                      obtain ⟨v101, hax⟩ := hax
                      obtain ⟨v102, hax⟩ := hax
                      obtain ⟨v103, hax⟩ := hax
                      obtain ⟨v104, hax⟩ := hax
                      obtain ⟨v105, hax⟩ := hax
                      obtain ⟨v106, hax⟩ := hax
                      obtain ⟨v107, hax⟩ := hax
                      obtain ⟨v108, hax⟩ := hax
                      subst hax
                      have hH := Lib.hid (And.intro hU3 (And.intro hk3 hf3))
                      have cb := cell_blk ((hU3.bel.block bb (by omega)).trans FP.out.2.2.2.2.1) 0 rfl
                      have cz := (hU3.bel.cell (p := ⟨gu, 0 * 4, none⟩) hgl).trans HK0.out
                      have hcr := (hU3.bel.block (w.heap.size + 1) (by omega)).trans FP.out.2.1
                      have cr := cell_blk hcr 0 rfl
                      have fr := free_blk hcr 0
                      have lr := lt_of_some hcr
                      have p0 : 0 < Nb := by omega
                      simp at cb cz cr
                      clear hU3 hk3 hf3 hcr hr2'
                      by_cases hz : x2.p = y0.p
                      · have q2 : ((x2.p : Int) != (y0.p : Int)) = false := by simp [hz]
                        clear hz
                        gi_wp2
                        exact ⟨(KeepsOthers.refl _).from _, .inl ⟨rfl, hH.out⟩⟩
                      · have q2 : ((x2.p : Int) != (y0.p : Int)) = true := by simp; omega
                        have hF : ¬ [] ++ [x2] <+: badL (pcs s) := fun h => hz (by rw [prefixT (pre := []) HY0.out h])
                        have HF := Lib.hid hF
                        clear hz hF
                        gi_wp2
                        exact ⟨(KeepsOthers.setCell _ _ _).from _, .inr ⟨rfl, HF.out⟩⟩
                    case done3b =>
                      rintro ys W' rfl ⟨_, hU3, hk3, hf3⟩
                      have hH := Lib.hid (And.intro hf3 (And.intro hk3 hU3))
                      clear hU3 hk3 hf3
                      gi_wp2
                      refine ⟨hH.out.1, hH.out.2.1, ?_⟩
                      show UbT P turn bt wr.heap.size Ds false (pre ++ [x]).length W'
                      rw [HPL.out]
                      exact hH.out.2.2
                    case stop3b =>
                      rintro c pre' W' hpre (⟨rfl, hU3, hk3, hf3⟩ | ⟨_, hF⟩)
                      · have hH := Lib.hid (And.intro hf3 (And.intro hk3 hU3))
                        clear hU3 hk3 hf3
                        gi_wp2
                        refine ⟨hH.out.1, hH.out.2.1, ?_⟩
                        show UbT P turn bt wr.heap.size Ds false (pre ++ [x]).length W'
                        rw [HPL.out]
                        exact hH.out.2.2
                      · exact absurd hpre hF
              · have q3 : ((x.n : Int) != (y.n : Int)) = true := by simp; omega
                have hF : ¬ pre ++ [x] <+: badL (pcs s) := fun h => hc (by rw [prefixT HY.out h])
                have HF := Lib.hid hF
                clear hc hp hF
                gi_wp2
                exact ⟨(KeepsOthers.setCell _ _ _).from _, .inr ⟨rfl, HF.out⟩⟩
            · have q2 : ((x.p : Int) != (y.p : Int)) = true := by simp; omega
              have hF : ¬ pre ++ [x] <+: badL (pcs s) := fun h => hp (by rw [prefixT HY.out h])
              have HF := Lib.hid hF
              clear hp hF
              gi_wp2
              exact ⟨(KeepsOthers.setCell _ _ _).from _, .inr ⟨rfl, HF.out⟩⟩
          case done =>
            rintro D ys W hD rfl hI hK
            have cb := cell_blk ((hI.bel.block bb (by omega)).trans FP.out.2.2.2.2.1) 0 rfl
            have cn := cell_blk hI.num 0 rfl
            have cl := cell_blk hI.left 0 rfl
            have ct := cell_blk hI.box 0 rfl
            have hW2 : P.heap.size ≤ W.heap.size := hI.bel.size
            simp at cb cn cl ct
            rw [← HNb.out] at cn
            have HI := Lib.hid hI
            have HK := Lib.hid hK
            have HDD := Lib.hid hD
            have q1 : IntKind.i64.wrap ((turn : Int) + 1) = (turn : Int) + 1 := IntWalk.i64_in _ (by omega)
            clear hI hK hD
            gi_wp2
            have hnx := HT.out.next hlt HI.out.bel HK.out (by have := HDD.out; omega) (fun x hx => by have := HDS.out x hx; have := HDD.out; omega) HI.out.defs
            refine ⟨⟨turn + 1, W.heap.size, D :: Ds, ?_⟩, ?_⟩
            · (repeat apply Exists.intro)
              exact ⟨hnx, rfl⟩
            · rw [turnT_eq (turn := turn + 1) (bt := W.heap.size) rfl hnx.box, turnT_eq (turn := turn) (bt := bt) rfl HT.out.box]
              omega
          case stop =>
            rintro D c pre W hD hpre hIx hK
            rcases hIx with ⟨rfl, hI⟩ | ⟨_, hF⟩
            ·
              have cb := cell_blk ((hI.bel.block bb (by omega)).trans FP.out.2.2.2.2.1) 0 rfl
              have cn := cell_blk hI.num 0 rfl
              have cl := cell_blk hI.left 0 rfl
              have ct := cell_blk hI.box 0 rfl
              have hW2 : P.heap.size ≤ W.heap.size := hI.bel.size
              simp at cb cn cl ct
              have HI := Lib.hid hI
              have HK := Lib.hid hK
              have HDD := Lib.hid hD
              have q1 : IntKind.i64.wrap ((turn : Int) + 1) = (turn : Int) + 1 := IntWalk.i64_in _ (by omega)
              clear hI hK hD
              gi_wp2
              have hnx := HT.out.next hlt HI.out.bel HK.out (by have := HDD.out; omega) (fun x hx => by have := HDS.out x hx; have := HDD.out; omega) HI.out.defs
              refine ⟨⟨turn + 1, W.heap.size, D :: Ds, ?_⟩, ?_⟩
              · (repeat apply Exists.intro)
                exact ⟨hnx, rfl⟩
              · rw [turnT_eq (turn := turn + 1) (bt := W.heap.size) rfl hnx.box, turnT_eq (turn := turn) (bt := bt) rfl HT.out.box]
                omega
            · exact absurd hpre hF
        · have hturn : turn = 2 := by have := hT.le; omega
          subst hturn
          obtain ⟨D2, D1, rfl⟩ : ∃ D2 D1, Ds = [D2, D1] := by
            have := hT.len
            match Ds, this with
            | [x, y], _ => exact ⟨x, y, rfl⟩
          have hr := (hT.bel.block (w.heap.size + 1) (by omega)).trans FP.out.2.1
          have hn21 : D2 ≠ D1 := by have := hT.nodup; simp at this; exact this
          have d2 := (hT.defs D2 (by simp)).1
          have d1 := (hT.defs D1 (by simp)).1
          have HT := Lib.hid hT
          have HR := Lib.hid (And.intro hr (And.intro d2 (And.intro d1 hn21)))
          have cr := cell_blk hr 0 rfl
          have fr := free_blk hr 0
          have lr := lt_of_some hr
          simp at cr
          clear hT hr d1 d2 hn21 hlt csq
          gi_wp2
          have hk2 : (wr.setCell ⟨w.heap.size + 1, 0, none⟩ (.bool true)).heap[D2]? = some (.deferred (some [])) := (KeepsOthers.setCell wr _ _).same _ _ HR.out.2.1 rfl
          have hk1 : (wr.setCell ⟨w.heap.size + 1, 0, none⟩ (.bool true)).heap[D1]? = some (.deferred (some [])) := (KeepsOthers.setCell wr _ _).same _ _ HR.out.2.2.1 rfl
          have hc := World.cell?_setCell_same' wr ⟨w.heap.size + 1, 0, none⟩ (.bool true) (by rw [cr]; rfl)
          have hk1' := (World.putObj_heap_other (w := wr.setCell ⟨w.heap.size + 1, 0, none⟩ (.bool true)) (r := D2) (o := .deferred none) (fun e => HR.out.2.2.2 e.symm)).trans hk1
          have hc2 := cell_kept hc (grownBy_putObj' _ D2 (.deferred none)) (fun r e => by cases e; exact ⟨_, hk2, rfl⟩)
          have hc3 := cell_kept hc2 (grownBy_putObj' _ D1 (.deferred none)) (fun r e => by cases e; exact ⟨_, hk1', rfl⟩)
          refine ⟨by simp, .inl ⟨_, _, rfl, run_takeDeferred hk2, ?_⟩⟩
          refine ⟨by simp, .inl ⟨_, _, rfl, run_takeDeferred hk1', ?_⟩⟩
          have hP2 := (HT.out.defs D2 (by simp)).2
          have hP1 := (HT.out.defs D1 (by simp)).2
          have hb1 : Below w.heap.size w (wr.setCell ⟨w.heap.size + 1, 0, none⟩ (.bool true)) := (FP.out.2.2.1.trans (HT.out.bel.mono (by omega))).setCell (p := ⟨w.heap.size + 1, 0, none⟩) (by simp) _
          refine ⟨.bool true, ?_, rfl, hb1.trans ((belowK_b (w := w) (Nat.le_refl _) _ D2 _ _ (by omega) hk2 rfl rfl).trans (belowK_b (w := w) (Nat.le_refl _) _ D1 _ _ (by omega) hk1' rfl rfl))⟩
          simp [results, Try.f8, go_sem, hc3]

theorem texts_walk (w : World) (s : ByteArray) (hs : s.size ≤ 1048576) (leave : Int) (hb1 : -9223372036854775808 ≤ leave ∧ leave ≤ 9223372036854775807) :
    Calls Try.prog 8 #[.string s, .int .i64 leave] w fun e w' => e = .returned (.bool true) ∧ Below w.heap.size w w' := callsIn_wide.1 (texts_in w s hs leave hb1)
end Go.Proofs.Ytlmbpbijhhnhpaa
