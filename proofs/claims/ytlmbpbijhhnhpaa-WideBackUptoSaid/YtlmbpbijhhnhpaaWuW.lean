/- WideUnits walked. -/
import Derived.Test.YtlmbpbijhhnhpaaWd22
import Derived.Test.YtlmbpbijhhnhpaaWd18
import Derived.Test.YtlmbpbijhhnhpaaWd4
import Derived.Test.YtlmbpbijhhnhpaaAp2
import Derived.Deep.DeepCutAuto
import Derived.Deep.CutBlock
namespace Go.Proofs.Ytlmbpbijhhnhpaa
open Go.RowKit Go.Shelf
attribute [local go_sem] Oper.semAt_some
set_option linter.unusedVariables false
set_option maxRecDepth 100000

theorem under95 : Try.prog.underlying 95 = some (.func #[149] #[] false) := by kernel_rfl
theorem eql_func95 (fn : Fn) (x y : Array Value) (w : World) : (binOp .eql 95 (.func fn x y) .nilFunc).run Try.prog w = .ok (.bool false) w := by
  have h : ∀ d : Nat, (Op.equalIn (d + 1) 95 (.func fn x y) .nilFunc).run Try.prog w = .ok false w := fun d => by
    simp [Op.equalIn, run_underlying under95]
  simp only [binOp]
  simp [Op.equal, Op.maxDepth, h 9999]
attribute [local go_sem] eql_func95
theorem ob_eq (a : Option Addr) (n c n' c' : Nat) : (Value.slice a n c).ownBlock = (Value.slice a n' c').ownBlock := by cases a <;> rfl

theorem lone_calls (w : World) {a : Option Addr} {us : List Nat} (cap : Nat) (hA : Sl16 w a us) (hl : us.length ≤ 1099511627776) :
    Calls Try.prog 51 #[.slice a us.length cap] w fun e w' => ∃ pa pc, e = .returned (.slice pa (loneL (uns us)).length (loneL (uns us)).length) ∧ w'.ownsRow w.heap.size 3 1 (.slice pa (loneL (uns us)).length pc) (loneL (uns us)).length (encP (loneL (uns us))) ∧ Below w.heap.size w w' := callsIn_wide.1 (lone_in w cap hA hl)

theorem lent_grown {B : Nat} {w w' : World} {a : Option Addr} {cap : Nat} {us : List Nat} {g : Option Nat} (h : Lent B w a cap us) (hg : w.grownBy w' g) (hne : ∀ x, (Value.slice a (us.length + 2) cap).ownBlock = some x → g ≠ some x) : Lent B w' a cap us :=
  ⟨grown_row hg h.row hne, h.bnd, h.len⟩
theorem row_below {w w' : World} {base : Nat} {e : TypeId} {size : Nat} {v : Value} {n : Nat} {xs : List Value} (h : w.ownsRow base e size v n xs) (b : Below w.heap.size w w') : w'.ownsRow base e size v n xs := (FrT.of_below (T := []) (B := 0) b).row h (by simp)

/-- A deferred row of a loop over an iterator. -/
def cD (D : Nat) : Deferred := { target := .collected D, args := #[] }
/-- What holds at the head of a turn. -/
structure TurnI (P : World) (b turn bt : Nat) (Ds : List Nat) (W : World) : Prop where
  le : turn ≤ 2
  box : W.heap[bt]? = some (.cells #[.int .i64 (turn : Int)] 3 (0, 0))
  bt : b + 1 + 1 ≤ bt
  size : b + 1 + 1 ≤ P.heap.size
  bel : Below P.heap.size P W
  len : Ds.length = turn
  nodup : Ds.Nodup
  defs : ∀ D ∈ Ds, W.heap[D]? = some (.deferred (some [])) ∧ P.heap.size ≤ D
def turnOf (a : Act) (w : World) : Nat := match a.tmps.getD 16 undef with
  | .pointer (some p) => match w.cell? p with
    | some v => (intOf v).toNat
    | none => 0
  | _ => 0

theorem turnOf_eq {a : Act} {w : World} {bt turn : Nat} (h : a.tmps.getD 16 undef = .pointer (some ⟨bt, 0, none⟩)) (hb : w.heap[bt]? = some (.cells #[.int .i64 (turn : Int)] 3 (0, 0))) : turnOf a w = turn := by
  have c := cell_blk hb 0 rfl
  unfold turnOf
  rw [h]
  simp at c
  simp [c, intOf]
theorem TurnI.next {P : World} {b turn bt D : Nat} {Ds : List Nat} {wr W : World} (h : TurnI P b turn bt Ds wr) (hlt : turn < 2) (hb : Below P.heap.size P W) (hD : W.heap[D]? = some (.deferred (some []))) (hP : P.heap.size ≤ D) (hf : ∀ x ∈ Ds, x < D) (hd : ∀ x ∈ Ds, W.heap[x]? = some (.deferred (some []))) :
    TurnI P b (turn + 1) W.heap.size (D :: Ds) (W.alloc (.cells #[.int .i64 ((turn : Int) + 1)] 3)) :=
  ⟨hlt, by have := Go.heap_alloc_new W (.cells #[.int .i64 ((turn : Int) + 1)] 3); simpa using this, Nat.le_trans h.size hb.size, h.size, hb.alloc hb.size _, by simp [h.len], List.nodup_cons.2 ⟨fun hm => Nat.lt_irrefl _ (hf D hm), h.nodup⟩, fun x hx => by
    rcases List.mem_cons.1 hx with rfl | hx
    · exact ⟨alloc_blk hD _, hP⟩
    · exact ⟨alloc_blk (hd x hx) _, (h.defs x hx).2⟩⟩

structure UbI (P : World) (turn bt bn : Nat) (Ds : List Nat) (lf : Bool) (pre : List Un) (W : World) : Prop where
  bel : Below P.heap.size P W
  box : W.heap[bt]? = some (.cells #[.int .i64 (turn : Int)] 3 (0, 0))
  num : W.heap[bn]? = some (.cells #[.int .i64 (pre.length : Int)] 3 (0, 0))
  left : W.heap[bn + 1]? = some (.cells #[.bool lf] 4 (0, 0))
  defs : ∀ D ∈ Ds, W.heap[D]? = some (.deferred (some []))
theorem ubI_own (P : World) (turn bt bn : Nat) (Ds : List Nat) (lf : Bool) (D0 : Nat) (hP : P.heap.size ≤ D0) (hD : ∀ D ∈ Ds, D < D0) : OwnFrom D0 (UbI P turn bt bn Ds lf) := fun s X Y row hs hg hr =>
  ⟨hs.bel.grown hg hs.bel.size (fun k e => Nat.le_trans hP (hr k e).1), blkGrow hs.box hg (fun r e => (hr r e).2), blkGrow hs.num hg (fun r e => (hr r e).2), blkGrow hs.left hg (fun r e => (hr r e).2), fun D h => by
    refine (hg.block D (lt_of_some (hs.defs D h)) (fun e => ?_)).trans (hs.defs D h)
    have := (hr D e.symm).1
    have := hD D h
    omega⟩
theorem prefix_at {α : Type} {pre L : List α} {x y : α} (hy : L[pre.length]? = some y) (h : pre ++ [x] <+: L) : x = y := by
  obtain ⟨r, rfl⟩ := h
  simp at hy
  exact hy

set_option maxHeartbeats 8000000 in
theorem units_in (w : World) {a : Option Addr} {us : List Nat} (ca : Nat) (ha : Sl16 w a us) (hu : us.length ≤ 1048576) (leave : Int) (hb1 : -9223372036854775808 ≤ leave ∧ leave ≤ 9223372036854775807) :
    CallsIn Fence.wide 9 Try.prog 9 #[.slice a us.length ca, .int .i64 leave] w fun e w' => e = .returned (.bool true) ∧ Below w.heap.size w w' := by
  have HA := Lib.hid ha
  obtain ⟨n, hn⟩ : ∃ n, n = us.length := ⟨_, rfl⟩
  have HN := Lib.hid hn
  rw [← hn] at hu ⊢
  clear ha hn hb1
  refine callsIn_of_wp_marks Try.func9 rfl trivial ?_ rfl
  simp only [Try.ntmps9, List.size_toArray, List.length_cons, List.length_nil, Nat.reduceAdd, Nat.reduceSub, Array.replicate_succ, Array.replicate_zero, List.push_toArray, List.append_toArray, List.nil_append, List.cons_append]
  gi_wp2_with fail
  refine ⟨trivial, ?_⟩
  refine (callsIn_wide.2 (alive_true _)).mono ?_
  rintro e w1 ⟨rfl, b1⟩
  have hB : Below w.heap.size w ((w.alloc (.cells #[.int .i64 leave] 3)).alloc (.cells #[.bool false] 4)) := ((Below.refl _ w).alloc (Nat.le_refl _) _).alloc (by simp) _
  have hs1 : w.heap.size + 1 + 1 ≤ w1.heap.size := by have := b1.size; simp at this; omega
  have B1 := Lib.hid (hB.trans (b1.mono (by simp; omega)))
  have X0 := Lib.hid ((b1.block w.heap.size (by simp; omega)).trans (alloc_blk (Go.heap_alloc_new w (.cells #[.int .i64 leave] 3)) (.cells #[.bool false] 4)))
  have X1 : Hid (w1.heap[w.heap.size + 1]? = some (.cells #[.bool false] 4 (0, 0))) := Lib.hid ((b1.block (w.heap.size + 1) (by simp)).trans (by have := Go.heap_alloc_new (w.alloc (.cells #[.int .i64 leave] 3)) (.cells #[.bool false] 4); rwa [World.size_alloc] at this))
  have HA1 := Lib.hid (HA.out.below B1.out)
  clear hB b1
  gi_wp2_with fail
  refine ⟨trivial, ?_⟩
  rw [HN.out]
  refine (callsIn_wide.2 (lent_lends ca HA1.out (by rw [← HN.out]; exact hu))).mono ?_
  rw [← HN.out]
  rintro e w2 ⟨ax, cx, rfl, hx, b2⟩
  have hs2 : w1.heap.size ≤ w2.heap.size := b2.size
  have B2 := Lib.hid (B1.out.trans (b2.mono (by omega)))
  have Y0 := Lib.hid ((b2.block _ (lt_of_some X0.out)).trans X0.out)
  have Y1 := Lib.hid ((b2.block _ (lt_of_some X1.out)).trans X1.out)
  have HX2 := Lib.hid hx
  clear b2 hx X0 X1 HA1 B1
  gi_wp2_with fail
  refine ⟨trivial, ?_⟩
  rw [HN.out]
  refine (callsIn_wide.2 (text_calls w2 cx HX2.out.sl (by rw [← HN.out]; omega))).mono ?_
  rw [← HN.out]
  rintro e w3 ⟨rfl, b3⟩
  have hs3 : w2.heap.size ≤ w3.heap.size := b3.size
  have B3 := Lib.hid (B2.out.trans (b3.mono (by omega)))
  have X0 := Lib.hid ((b3.block _ (lt_of_some Y0.out)).trans Y0.out)
  have X1 := Lib.hid ((b3.block _ (lt_of_some Y1.out)).trans Y1.out)
  have HX3 := Lib.hid (HX2.out.below b3)
  clear b3 Y0 Y1 HX2 B2
  generalize hS : strB (textU (uns us)) = S
  have HS := Lib.hid hS
  clear hS
  gi_wp2_with fail
  refine ⟨trivial, ?_⟩
  rw [HN.out]
  refine (callsIn_wide.2 (lone_calls w3 cx HX3.out.sl (by rw [← HN.out]; omega))).mono ?_
  rw [← HN.out]
  obtain ⟨L, hL⟩ : ∃ L, L = loneL (uns us) := ⟨_, rfl⟩
  have hLn : L.length ≤ n := by rw [hL, HN.out]; exact Nat.le_trans (loneL_len _) (uns_len _)
  have HL := Lib.hid hL
  rw [← hL]
  clear hL
  obtain ⟨m, hm⟩ : ∃ m, m = L.length := ⟨_, rfl⟩
  rw [← hm] at hLn ⊢
  have HM := Lib.hid hm
  clear hm
  rintro e w4 ⟨la, lc, rfl, hl, b4⟩
  have hs4 : w3.heap.size ≤ w4.heap.size := b4.size
  have B4 := Lib.hid (B3.out.trans (b4.mono (by omega)))
  have Y0 := Lib.hid ((b4.block _ (lt_of_some X0.out)).trans X0.out)
  have Y1 := Lib.hid ((b4.block _ (lt_of_some X1.out)).trans X1.out)
  have HX4 := Lib.hid (HX3.out.below b4)
  have HL4 := Lib.hid hl
  have LB := Lib.hid (fun x hx => (hl.lt x hx).2)
  clear b4 X0 X1 HX3 B3 hl
  gi_wp2_with fail
  refine ⟨trivial, ?_⟩
  rw [HN.out]
  refine (callsIn_wide.2 (lone_calls w4 cx HX4.out.sl (by rw [← HN.out]; omega))).mono ?_
  rw [← HN.out, ← HL.out, ← HM.out]
  rintro e w5 ⟨ma, mc, rfl, hl, b5⟩
  have hs5 : w4.heap.size ≤ w5.heap.size := b5.size
  have B5 := Lib.hid (B4.out.trans (b5.mono (by omega)))
  have X0 := Lib.hid ((b5.block _ (lt_of_some Y0.out)).trans Y0.out)
  have X1 := Lib.hid ((b5.block _ (lt_of_some Y1.out)).trans Y1.out)
  have HX5 := Lib.hid (HX4.out.below b5)
  have HL5 := Lib.hid (row_below HL4.out b5)
  have HM5 := Lib.hid hl
  have HA5 := Lib.hid (HA.out.below B5.out)
  clear b5 Y0 Y1 HX4 B4 hl HL4
  gi_wp2_with fail
  refine ⟨trivial, ?_⟩
  rw [HN.out]
  refine (callsIn_wide.2 (ref_lone ca HA5.out (by rw [← HN.out]; omega))).mono ?_
  rw [← HN.out, ← HL.out, ← HM.out]
  rintro e w6 ⟨wa, wc, rfl, hl, b6⟩
  have hs6 : w5.heap.size ≤ w6.heap.size := b6.size
  have B6 := Lib.hid (B5.out.trans (b6.mono (by omega)))
  have Y0 := Lib.hid ((b6.block _ (lt_of_some X0.out)).trans X0.out)
  have Y1 := Lib.hid ((b6.block _ (lt_of_some X1.out)).trans X1.out)
  have HX6 := Lib.hid (HX5.out.below b6)
  have HL6 := Lib.hid (row_below HL5.out b6)
  have HM6 := Lib.hid (row_below HM5.out b6)
  have HW6 := Lib.hid hl
  have HA6 := Lib.hid (HA.out.below B6.out)
  clear b6 X0 X1 HX5 B5 hl HL5 HM5 HA5
  gi_wp2_with fail
  refine ⟨trivial, ?_⟩
  rw [HN.out]
  refine (callsIn_wide.2 (ref_text ca HA6.out (by rw [← HN.out]; omega))).mono ?_
  rw [← HN.out, HS.out]
  rintro e w7 ⟨rfl, b7⟩
  have hs7 : w6.heap.size ≤ w7.heap.size := b7.size
  have B7 := Lib.hid (B6.out.trans (b7.mono (by omega)))
  have X0 := Lib.hid ((b7.block _ (lt_of_some Y0.out)).trans Y0.out)
  have X1 := Lib.hid ((b7.block _ (lt_of_some Y1.out)).trans Y1.out)
  have HX7 := Lib.hid (HX6.out.below b7)
  have HL7 := Lib.hid (row_below HL6.out b7)
  have HM7 := Lib.hid (row_below HM6.out b7)
  have HW7 := Lib.hid (row_below HW6.out b7)
  clear b7 Y0 Y1 HX6 B6 HL6 HM6 HW6 HA6
  have NEW : Hid (∀ x, (Value.slice wa m wc).ownBlock = some x → (Value.slice la m lc).ownBlock ≠ some x) := Lib.hid (fun x hx he => by
    have h1 := (HW7.out.lt x hx).1
    have h2 := LB.out x he
    omega)
  have NEM : Hid (∀ x, (Value.slice ma m mc).ownBlock = some x → (Value.slice la m lc).ownBlock ≠ some x) := Lib.hid (fun x hx he => by
    have h1 := (HM7.out.lt x hx).1
    have h2 := LB.out x he
    omega)
  gi_wp2_with fail
  gi_loopw [11] (fun v wr => ∃ (i : Nat) (xs : List Value), v = .int .i64 (i : Nat) ∧ i ≤ m ∧ (∀ j, i ≤ j → xs[j]? = (encP L)[j]?) ∧ wr.ownsRow w3.heap.size 3 1 (.slice la m lc) m xs ∧ w7.grownBy wr (Value.slice la m lc).ownBlock) (fun v _ => m - (intOf v).toNat)
  case atStart => exact ⟨0, encP L, rfl, Nat.zero_le _, fun _ _ => rfl, HL7.out, grown_self _ _⟩
  case round =>
    obtain ⟨i, xs, rfl, hi, hxs, hrow, hgr⟩ := hrel
    by_cases hlt : i < m
    · have hrw := grown_row hgr HW7.out NEW.out
      obtain ⟨g, _, hv, _, hgl⟩ := hrow.form (by omega)
      obtain ⟨gw, _, hv', _, hgwl⟩ := hrw.form (by omega)
      obtain ⟨rfl, rfl⟩ : la = some ⟨g, 0, none⟩ ∧ lc = _ := by simpa using hv
      obtain ⟨rfl, rfl⟩ : wa = some ⟨gw, 0, none⟩ ∧ wc = _ := by simpa using hv'
      obtain ⟨p, hp⟩ : ∃ p, L[i]? = some p := ⟨_, List.getElem?_eq_getElem (by rw [← HM.out]; exact hlt)⟩
      have hpe : (encP L)[i]? = some (.int .i64 (p : Int)) := by simp [encP, hp]
      have c0 := (hrow.cellAt i (by omega)).trans ((hxs i (Nat.le_refl _)).trans hpe)
      have c1 := (hrw.cellAt i (by omega)).trans hpe
      have f0 := hrow.frozenAt i
      have p1 : (i : Int) < (m : Int) := by omega
      have p2 : (0 : Int) ≤ (i : Int) := by omega
      have q1 : ((p : Int) != (p : Int)) = false := by simp
      have HR := Lib.hid (And.intro hrow (And.intro hxs hgr))
      clear hrow hxs hgr hrw hp hpe hv hv'
      gi_wp2_with fail
      gi_quiet (fail)
      gi_wp2_with fail
      go_roundw
      case rel =>
        refine ⟨i + 1, xs.set i (.int .i64 (-7)), by go_num, hlt, fun j hj => ?_, ?_, ?_⟩
        · rw [List.getElem?_set_ne (by omega)]
          exact HR.out.2.1 j (by omega)
        · exact (World.ownsRow.stored (w := wr.drewN nq) HR.out.1 i (.int .i64 (-7))).1
        · exact grown_trans HR.out.2.2 (grown_trans (grown_drewN wr nq _) (grown_set (wr.drewN nq) ⟨g, i, none⟩ _) (fun x e => by cases e; exact .inl rfl)) (fun x e => by cases e; exact .inl rfl)
      case measure => simp [intOf]; omega
    · have HR := Lib.hid (And.intro hrow hgr)
      clear hrow hgr hxs
      obtain ⟨i3, hi3, ha1, ha2, ha3⟩ := info_parts info3w
      have hwr : w7.heap.size ≤ wr.heap.size := HR.out.2.size
      gi_wp2_with fail
      gi_loopw [8, 12] (fun v8 v wr => ∃ (i k : Nat) (xs : List Value), v = .int .i64 (i : Nat) ∧ i ≤ 9 ∧ k = m + i ∧ AppOk wr w3.heap.size 3 v8 k xs ∧ (∀ x, v8.ownBlock = some x → (Value.slice la m lc).ownBlock = some x ∨ w7.heap.size ≤ x) ∧ w7.grownBy wr (Value.slice la m lc).ownBlock) (fun _ v _ => 9 - (intOf v).toNat)
      case atStart => exact ⟨0, m, xs, rfl, by omega, rfl, .inr ⟨la, lc, rfl, HR.out.1⟩, fun x hx => .inl ((ob_eq _ _ _ _ _).trans hx), HR.out.2⟩
      case round =>
        clear HR hwr
        obtain ⟨i, k, xs, rfl, hi, hk, happ, hwh, hgr⟩ := hrel
        obtain ⟨sa, sc, rfl⟩ := happ.slice
        have hsz : w7.heap.size ≤ wr.heap.size := hgr.size
        have HR := Lib.hid (And.intro happ (And.intro hwh hgr))
        have HK := Lib.hid hk
        have hkb : k ≤ 1048585 := by omega
        clear happ hwh hgr hk
        by_cases hlt : i < 9
        · have p1 : (i : Int) < 9 := by omega
          gi_wp2_with (gi_at_builtin; refine wpListIn_append_ok _ rfl (.tmp 76) (.tmp 77) 24 rfl w3.heap.size 3 i3 _ 8 Try.underlying24 hi3 ha1 ha2 ha3 rfl _ k xs rfl (HR.out.1.alloc _) ⟨wr.heap.size, 0, none⟩ 1 1 [.int .i64 (-8)] rfl rfl (World.news_of_block (cs := #[.int .i64 (-8)]) (t := 3) (fr := (0, 0)) (Go.heap_alloc_new wr _)) (by simp [Value.oneCell']) (by omega) (by unfold maxLen; omega) (by omega) (by simp; omega) ?_)
          intro g c' w8 hown hgrow hwhere
          have HO := Lib.hid (And.intro hown (And.intro hgrow hwhere))
          clear hown hgrow hwhere
          gi_wp2
          go_roundw
          case rel =>
            refine ⟨i + 1, k + 1, xs ++ [.int .i64 (-8)], by go_num, hlt, by rw [HK.out]; omega, .inl HO.out.1, fun x hx => ?_, ?_⟩
            · rcases HO.out.2.2 with h | h
              · exact HR.out.2.1 x (h.trans hx)
              · right
                have hx' : g = x := by simpa [Value.ownBlock] using hx
                have h2 : wr.heap.size + 1 ≤ g := h
                omega
            · refine grown_trans HR.out.2.2 (grown_trans (grown_alloc wr _ _) HO.out.2.1 (fun x e => .inl e)) (fun x e => HR.out.2.1 x e)
          case measure => simp [intOf]; omega
        · have p1 : ¬ (i : Int) < 9 := by omega
          have HG := Lib.hid HR.out.2.2
          have hBw : Below w3.heap.size w7 wr := grown_below HG.out (fun x hx => (HL7.out.lt x hx).1) (by omega)
          have hX0 := grown_blk HG.out X0.out (fun he => by have := (HL7.out.lt _ he).1; omega)
          have hX1 := grown_blk HG.out X1.out (fun he => by have := (HL7.out.lt _ he).1; omega)
          have hXL := lent_grown HX7.out HG.out (fun x hx he => by
            rcases rwRowNe HX7.out.row HL7.out (by decide) with h | h
            · rw [h] at hx; cases hx
            · exact h (hx.trans he.symm))
          have hMr := grown_row HG.out HM7.out NEM.out
          have hWr := grown_row HG.out HW7.out NEW.out
          have hBr := B7.out.trans (hBw.mono (by omega))
          have F := Lib.hid (And.intro hX0 (And.intro hX1 (And.intro hXL (And.intro hMr (And.intro hWr hBr)))))
          clear hBw HR hX0 hX1 hXL hMr hWr hBr HL7 HM7 HW7 HX7 X0 X1 B7 HG NEM NEW LB
          gi_wp2_with fail
          gi_loopw [13] (fun v wr2 => ∃ (i q : Nat), v = .int .i64 (i : Nat) ∧ i ≤ m ∧ wr.drewN q = wr2) (fun v _ => m - (intOf v).toNat)
          case atStart => exact ⟨0, 0, rfl, Nat.zero_le _, rfl⟩
          case round =>
            obtain ⟨i, q, rfl, hi, rfl⟩ := hrel
            by_cases hlt : i < m
            · have hrm := F.out.2.2.2.1
              have hrw := F.out.2.2.2.2.1
              obtain ⟨g, _, hv, _, hgl⟩ := hrm.form (by omega)
              obtain ⟨gw, _, hv', _, hgwl⟩ := hrw.form (by omega)
              obtain ⟨rfl, rfl⟩ : ma = some ⟨g, 0, none⟩ ∧ mc = _ := by simpa using hv
              obtain ⟨rfl, rfl⟩ : wa = some ⟨gw, 0, none⟩ ∧ wc = _ := by simpa using hv'
              obtain ⟨p, hp⟩ : ∃ p, L[i]? = some p := ⟨_, List.getElem?_eq_getElem (by rw [← HM.out]; exact hlt)⟩
              have hpe : (encP L)[i]? = some (.int .i64 (p : Int)) := by simp [encP, hp]
              have c0 : wr.cell? ⟨g, i, none⟩ = some (.int .i64 (p : Int)) := (hrm.cellAt i (by omega)).trans hpe
              have c1 : wr.cell? ⟨gw, i, none⟩ = some (.int .i64 (p : Int)) := (hrw.cellAt i (by omega)).trans hpe
              have p1 : (i : Int) < (m : Int) := by omega
              have p2 : (0 : Int) ≤ (i : Int) := by omega
              have q1 : ((p : Int) != (p : Int)) = false := by simp
              clear hrm hrw hp hpe hv hv'
              gi_wp2_with fail
              gi_quiet (fail)
              gi_wp2_with fail
              go_roundw
              case rel => exact ⟨i + 1, q + nq, by go_num, hlt, rfl⟩
              case measure => simp [intOf]; omega
            · obtain ⟨W, hW⟩ : ∃ W, W = wr.drewN q := ⟨_, rfl⟩
              have hb : Below wr.heap.size wr W := by rw [hW]; exact (by repeat (first | exact Below.refl _ _ | assumption | refine Below.drew ?_ | refine below_drewN ?_ _ | refine Below.alloc ?_ (by simp <;> omega) _ | refine Below.setCell ?_ (by simp <;> omega) _ | (apply bl_trans; assumption; (simp <;> omega))))
              rw [← hW]
              have F2 : Hid (W.heap[w.heap.size]? = some (.cells #[.int .i64 leave] 3 (0, 0)) ∧ W.heap[w.heap.size + 1]? = some (.cells #[.bool false] 4 (0, 0)) ∧ Lent w1.heap.size W ax cx us ∧ Below w.heap.size w W ∧ w.heap.size + 1 + 1 ≤ W.heap.size) :=
                Lib.hid ⟨by rw [hW]; exact F.out.1, by rw [hW]; exact F.out.2.1, F.out.2.2.1.below hb, F.out.2.2.2.2.2.trans (hb.mono (by omega)), by have := hb.size; omega⟩
              have hA := HA.out.below F2.out.2.2.2.1
              clear hW hb F hi
              gi_wp2_with fail
              refine ⟨trivial, ?_⟩
              rw [HN.out]
              refine (callsIn_wide.2 (ref_units ca hA (by rw [← HN.out]; omega))).mono ?_
              rw [← HN.out]
              rintro e w9 ⟨uv, rfl, hU⟩
              obtain ⟨ua, uc, rfl⟩ := rwSlice hU.row
              obtain ⟨N, hNN⟩ : ∃ N, N = (uns us).length := ⟨_, rfl⟩
              have HNN := Lib.hid hNN
              rw [← hNN] at hU ⊢
              have hb9 : Below W.heap.size W w9 := hU.bel
              have F3 : Hid (w9.heap[w.heap.size]? = some (.cells #[.int .i64 leave] 3 (0, 0)) ∧ w9.heap[w.heap.size + 1]? = some (.cells #[.bool false] 4 (0, 0)) ∧ Lent w1.heap.size w9 ax cx us ∧ Below w.heap.size w w9 ∧ w.heap.size + 1 + 1 ≤ w9.heap.size ∧ UnI W (uns us) (.slice ua N uc) w9) :=
                Lib.hid ⟨(hb9.block _ (lt_of_some F2.out.1)).trans F2.out.1, (hb9.block _ (lt_of_some F2.out.2.1)).trans F2.out.2.1, F2.out.2.2.1.below hb9, F2.out.2.2.2.1.trans (hb9.mono (by have := F2.out.2.2.2.2; omega)), by have := hb9.size; have := F2.out.2.2.2.2; omega, hU⟩
              clear hU hb9 hA hNN F2
              gi_wp2_with (refine ⟨trivial, ?_⟩; gi_at_call 55; refine (callsIn_wide.2 (points_calls _ _ _ _)).mono ?_; rintro e w' ⟨rfl, rfl⟩)
              -- TURNS
              have hP : ∃ P, P = (w9.alloc (.cells #[.slice ua N uc] 92)).alloc (.cells #[.slice ax n cx] 73) := ⟨_, rfl⟩
              obtain ⟨P, hP⟩ := hP
              obtain ⟨b, hb⟩ : ∃ b, b = w9.heap.size := ⟨_, rfl⟩
              have hPs : P.heap.size = b + 1 + 1 := by rw [hP, hb]; simp
              have hbP : Below w9.heap.size w9 P := by rw [hP]; exact ((Below.refl _ w9).alloc (Nat.le_refl _) _).alloc (by simp) _
              have FP : Hid (P.heap[w.heap.size]? = some (.cells #[.int .i64 leave] 3 (0, 0)) ∧ P.heap[w.heap.size + 1]? = some (.cells #[.bool false] 4 (0, 0)) ∧ Lent w1.heap.size P ax cx us ∧ Below w.heap.size w P ∧ w.heap.size + 1 + 1 ≤ b ∧ UnI W (uns us) (.slice ua N uc) P ∧ P.heap[b]? = some (.cells #[.slice ua N uc] 92 (0, 0)) ∧ P.heap[b + 1]? = some (.cells #[.slice ax n cx] 73 (0, 0))) :=
                Lib.hid ⟨(hbP.block _ (lt_of_some F3.out.1)).trans F3.out.1, (hbP.block _ (lt_of_some F3.out.2.1)).trans F3.out.2.1, F3.out.2.2.1.below hbP, F3.out.2.2.2.1.trans (hbP.mono (by have := F3.out.2.2.2.2.1; omega)), by rw [hb]; exact F3.out.2.2.2.2.1,
                  F3.out.2.2.2.2.2.keep (FrT.of_below (T := []) (B := W.heap.size) hbP) (by simp) (Nat.le_refl _), by rw [hP, hb]; exact alloc_blk (Go.heap_alloc_new w9 _) _, by rw [hP, hb]; have := Go.heap_alloc_new (w9.alloc (.cells #[.slice ua N uc] 92)) (.cells #[.slice ax n cx] 73); rwa [World.size_alloc] at this⟩
              rw [← hP, ← hb]
              clear hP hbP F3 hb
              refine wpIn_loop (fun a' w' => ∃ (turn bt : Nat) (Ds : List Nat), ∃ u1 u2 u5 u7 u8 u9 u10 u11 u12 u13 u17 u18 u19 u20 u21 u22 u23 u24 u25 u26 u27 u28 u29 u30 u31 u32 u33 u34 u35 u36 u37 u38 u39 u40 u41 u42 u43 u44 u45 u46 u47 u48 u49 u50 u51 u52 u53 u54 u55 u56 u57 u58 u59 u60 u61 u62 u63 u64 u65 u66 u67 u68 u69 u70 u71 u72 u73 u74 u75 u76 u77 u78 u79 u80 u81 u82 u83 u84 u85 u86 u87 u88 u89 u90 u91 u92 u93 u94 u95 u96 u97 u98 u99 u100 u101 u102 u103 u104 u105 u106 u107 u108 u109 u110 u111 u112 u113 u114 u115 u116 u117 u118 u119 u120 u121 u122 u123 u124 u125 u126 u127 u128 u129 u130 u131 u132 u133 u134 u135 u136 u137 u138 u139 u140 u141 u142 u143 u144 u145 u146 u147 u148 u149 : Value, TurnI P b turn bt Ds w' ∧ a' = { tmps := List.toArray (.slice a n ca :: u1 :: u2 :: .pointer (some ⟨w.heap.size, 0, none⟩) :: .pointer (some ⟨w.heap.size + 1, 0, none⟩) :: u5 :: .slice ax n cx :: u7 :: u8 :: u9 :: u10 :: u11 :: u12 :: u13 :: .pointer (some ⟨b, 0, none⟩) :: .func (.func 80) #[] #[.pointer (some ⟨b + 1, 0, none⟩)] :: .pointer (some ⟨bt, 0, none⟩) :: u17 :: u18 :: u19 :: u20 :: u21 :: u22 :: u23 :: u24 :: u25 :: u26 :: u27 :: u28 :: u29 :: u30 :: u31 :: u32 :: u33 :: u34 :: u35 :: u36 :: u37 :: u38 :: u39 :: u40 :: u41 :: u42 :: u43 :: u44 :: u45 :: u46 :: u47 :: u48 :: u49 :: u50 :: u51 :: u52 :: u53 :: u54 :: u55 :: u56 :: u57 :: u58 :: u59 :: u60 :: u61 :: u62 :: u63 :: u64 :: u65 :: u66 :: u67 :: u68 :: u69 :: u70 :: u71 :: u72 :: u73 :: u74 :: u75 :: u76 :: u77 :: u78 :: u79 :: u80 :: u81 :: u82 :: u83 :: u84 :: u85 :: u86 :: u87 :: u88 :: u89 :: u90 :: u91 :: u92 :: u93 :: u94 :: u95 :: u96 :: u97 :: u98 :: u99 :: u100 :: u101 :: u102 :: u103 :: u104 :: u105 :: u106 :: u107 :: u108 :: u109 :: u110 :: u111 :: u112 :: u113 :: u114 :: u115 :: u116 :: u117 :: u118 :: u119 :: u120 :: u121 :: u122 :: u123 :: u124 :: u125 :: u126 :: u127 :: u128 :: u129 :: u130 :: u131 :: u132 :: u133 :: u134 :: u135 :: u136 :: u137 :: u138 :: u139 :: u140 :: u141 :: u142 :: u143 :: u144 :: u145 :: u146 :: u147 :: u148 :: u149 :: []), defers := Ds.map cD }) (fun a' w' => 2 - turnOf a' w') ?_ ?_
              · refine ⟨0, b + 1 + 1, [], _, _, _, _, _, _, _, _, _, _, _, _, _, _, _, _, _, _, _, _, _, _, _, _, _, _, _, _, _, _, _, _, _, _, _, _, _, _, _, _, _, _, _, _, _, _, _, _, _, _, _, _, _, _, _, _, _, _, _, _, _, _, _, _, _, _, _, _, _, _, _, _, _, _, _, _, _, _, _, _, _, _, _, _, _, _, _, _, _, _, _, _, _, _, _, _, _, _, _, _, _, _, _, _, _, _, _, _, _, _, _, _, _, _, _, _, _, _, _, _, _, _, _, _, _, _, _, _, _, _, _, _, _, _, _, _, _, _, _, _, _, _, _, ⟨Nat.zero_le _, by rw [← hPs]; exact Go.heap_alloc_new P _, Nat.le_refl _, by rw [hPs]; exact Nat.le_refl _, (Below.refl _ P).alloc (Nat.le_refl _) _, rfl, List.nodup_nil, fun D h => by cases h⟩, rfl⟩
              · intro a0 wr hinv
                obtain ⟨turn, bt, Ds, hinv⟩ := hinv
                obtain ⟨u1, hinv⟩ := hinv
                obtain ⟨u2, hinv⟩ := hinv
                obtain ⟨u5, hinv⟩ := hinv
                obtain ⟨u7, hinv⟩ := hinv
                obtain ⟨u8, hinv⟩ := hinv
                obtain ⟨u9, hinv⟩ := hinv
                obtain ⟨u10, hinv⟩ := hinv
                obtain ⟨u11, hinv⟩ := hinv
                obtain ⟨u12, hinv⟩ := hinv
                obtain ⟨u13, hinv⟩ := hinv
                obtain ⟨u17, hinv⟩ := hinv
                obtain ⟨u18, hinv⟩ := hinv
                obtain ⟨u19, hinv⟩ := hinv
                obtain ⟨u20, hinv⟩ := hinv
                obtain ⟨u21, hinv⟩ := hinv
                obtain ⟨u22, hinv⟩ := hinv
                obtain ⟨u23, hinv⟩ := hinv
                obtain ⟨u24, hinv⟩ := hinv
                obtain ⟨u25, hinv⟩ := hinv
                obtain ⟨u26, hinv⟩ := hinv
                obtain ⟨u27, hinv⟩ := hinv
                obtain ⟨u28, hinv⟩ := hinv
                obtain ⟨u29, hinv⟩ := hinv
                obtain ⟨u30, hinv⟩ := hinv
                obtain ⟨u31, hinv⟩ := hinv
                obtain ⟨u32, hinv⟩ := hinv
                obtain ⟨u33, hinv⟩ := hinv
                obtain ⟨u34, hinv⟩ := hinv
                obtain ⟨u35, hinv⟩ := hinv
                obtain ⟨u36, hinv⟩ := hinv
                obtain ⟨u37, hinv⟩ := hinv
                obtain ⟨u38, hinv⟩ := hinv
                obtain ⟨u39, hinv⟩ := hinv
                obtain ⟨u40, hinv⟩ := hinv
                obtain ⟨u41, hinv⟩ := hinv
                obtain ⟨u42, hinv⟩ := hinv
                obtain ⟨u43, hinv⟩ := hinv
                obtain ⟨u44, hinv⟩ := hinv
                obtain ⟨u45, hinv⟩ := hinv
                obtain ⟨u46, hinv⟩ := hinv
                obtain ⟨u47, hinv⟩ := hinv
                obtain ⟨u48, hinv⟩ := hinv
                obtain ⟨u49, hinv⟩ := hinv
                obtain ⟨u50, hinv⟩ := hinv
                obtain ⟨u51, hinv⟩ := hinv
                obtain ⟨u52, hinv⟩ := hinv
                obtain ⟨u53, hinv⟩ := hinv
                obtain ⟨u54, hinv⟩ := hinv
                obtain ⟨u55, hinv⟩ := hinv
                obtain ⟨u56, hinv⟩ := hinv
                obtain ⟨u57, hinv⟩ := hinv
                obtain ⟨u58, hinv⟩ := hinv
                obtain ⟨u59, hinv⟩ := hinv
                obtain ⟨u60, hinv⟩ := hinv
                obtain ⟨u61, hinv⟩ := hinv
                obtain ⟨u62, hinv⟩ := hinv
                obtain ⟨u63, hinv⟩ := hinv
                obtain ⟨u64, hinv⟩ := hinv
                obtain ⟨u65, hinv⟩ := hinv
                obtain ⟨u66, hinv⟩ := hinv
                obtain ⟨u67, hinv⟩ := hinv
                obtain ⟨u68, hinv⟩ := hinv
                obtain ⟨u69, hinv⟩ := hinv
                obtain ⟨u70, hinv⟩ := hinv
                obtain ⟨u71, hinv⟩ := hinv
                obtain ⟨u72, hinv⟩ := hinv
                obtain ⟨u73, hinv⟩ := hinv
                obtain ⟨u74, hinv⟩ := hinv
                obtain ⟨u75, hinv⟩ := hinv
                obtain ⟨u76, hinv⟩ := hinv
                obtain ⟨u77, hinv⟩ := hinv
                obtain ⟨u78, hinv⟩ := hinv
                obtain ⟨u79, hinv⟩ := hinv
                obtain ⟨u80, hinv⟩ := hinv
                obtain ⟨u81, hinv⟩ := hinv
                obtain ⟨u82, hinv⟩ := hinv
                obtain ⟨u83, hinv⟩ := hinv
                obtain ⟨u84, hinv⟩ := hinv
                obtain ⟨u85, hinv⟩ := hinv
                obtain ⟨u86, hinv⟩ := hinv
                obtain ⟨u87, hinv⟩ := hinv
                obtain ⟨u88, hinv⟩ := hinv
                obtain ⟨u89, hinv⟩ := hinv
                obtain ⟨u90, hinv⟩ := hinv
                obtain ⟨u91, hinv⟩ := hinv
                obtain ⟨u92, hinv⟩ := hinv
                obtain ⟨u93, hinv⟩ := hinv
                obtain ⟨u94, hinv⟩ := hinv
                obtain ⟨u95, hinv⟩ := hinv
                obtain ⟨u96, hinv⟩ := hinv
                obtain ⟨u97, hinv⟩ := hinv
                obtain ⟨u98, hinv⟩ := hinv
                obtain ⟨u99, hinv⟩ := hinv
                obtain ⟨u100, hinv⟩ := hinv
                obtain ⟨u101, hinv⟩ := hinv
                obtain ⟨u102, hinv⟩ := hinv
                obtain ⟨u103, hinv⟩ := hinv
                obtain ⟨u104, hinv⟩ := hinv
                obtain ⟨u105, hinv⟩ := hinv
                obtain ⟨u106, hinv⟩ := hinv
                obtain ⟨u107, hinv⟩ := hinv
                obtain ⟨u108, hinv⟩ := hinv
                obtain ⟨u109, hinv⟩ := hinv
                obtain ⟨u110, hinv⟩ := hinv
                obtain ⟨u111, hinv⟩ := hinv
                obtain ⟨u112, hinv⟩ := hinv
                obtain ⟨u113, hinv⟩ := hinv
                obtain ⟨u114, hinv⟩ := hinv
                obtain ⟨u115, hinv⟩ := hinv
                obtain ⟨u116, hinv⟩ := hinv
                obtain ⟨u117, hinv⟩ := hinv
                obtain ⟨u118, hinv⟩ := hinv
                obtain ⟨u119, hinv⟩ := hinv
                obtain ⟨u120, hinv⟩ := hinv
                obtain ⟨u121, hinv⟩ := hinv
                obtain ⟨u122, hinv⟩ := hinv
                obtain ⟨u123, hinv⟩ := hinv
                obtain ⟨u124, hinv⟩ := hinv
                obtain ⟨u125, hinv⟩ := hinv
                obtain ⟨u126, hinv⟩ := hinv
                obtain ⟨u127, hinv⟩ := hinv
                obtain ⟨u128, hinv⟩ := hinv
                obtain ⟨u129, hinv⟩ := hinv
                obtain ⟨u130, hinv⟩ := hinv
                obtain ⟨u131, hinv⟩ := hinv
                obtain ⟨u132, hinv⟩ := hinv
                obtain ⟨u133, hinv⟩ := hinv
                obtain ⟨u134, hinv⟩ := hinv
                obtain ⟨u135, hinv⟩ := hinv
                obtain ⟨u136, hinv⟩ := hinv
                obtain ⟨u137, hinv⟩ := hinv
                obtain ⟨u138, hinv⟩ := hinv
                obtain ⟨u139, hinv⟩ := hinv
                obtain ⟨u140, hinv⟩ := hinv
                obtain ⟨u141, hinv⟩ := hinv
                obtain ⟨u142, hinv⟩ := hinv
                obtain ⟨u143, hinv⟩ := hinv
                obtain ⟨u144, hinv⟩ := hinv
                obtain ⟨u145, hinv⟩ := hinv
                obtain ⟨u146, hinv⟩ := hinv
                obtain ⟨u147, hinv⟩ := hinv
                obtain ⟨u148, hinv⟩ := hinv
                obtain ⟨u149, hinv⟩ := hinv
                obtain ⟨hT, rfl⟩ := hinv
                have c16 := cell_blk hT.box 0 rfl
                have hbtl := lt_of_some hT.box
                have hbt := hT.bt
                have hPsz := hT.bel.size
                simp at c16
                by_cases hlt : turn < 2
                · have p1 : (turn : Int) < 2 := by omega
                  have HT := Lib.hid hT
                  clear hT
                  gi_wp2_with fail
                  have hw0 : Below P.heap.size P ((wr.alloc (.cells #[.int .i64 0] 3)).alloc (.cells #[.bool false] 4)) := (HT.out.bel.alloc hPsz _).alloc (by simp; omega) _
                  have hI0 : UbI P turn bt wr.heap.size Ds false [] ((wr.alloc (.cells #[.int .i64 0] 3)).alloc (.cells #[.bool false] 4)) :=
                    ⟨hw0, alloc_blk (alloc_blk HT.out.box _) _, alloc_blk (Go.heap_alloc_new wr _) _, by have := Go.heap_alloc_new (wr.alloc (.cells #[.int .i64 0] 3)) (.cells #[.bool false] 4); rwa [World.size_alloc] at this, fun D h => alloc_blk (alloc_blk (HT.out.defs D h).1 _) _⟩
                  have hst := points_stops id (uns us) 8 (by decide) (b + 1) (cap := cx) FP.out.2.2.1.sl (List.map_id _) _ hw0 (by rw [← HN.out]; exact (hw0.block _ (by omega)).trans FP.out.2.2.2.2.2.2.2)
                  generalize hW0 : ((wr.alloc (.cells #[.int .i64 0] 3)).alloc (.cells #[.bool false] 4)) = W0 at hw0 hI0 hst ⊢
                  have hW0s : W0.heap.size = wr.heap.size + 1 + 1 := by rw [← hW0]; simp
                  have hDs : ∀ D ∈ Ds, D < W0.heap.size := fun D h => by have := lt_of_some (HT.out.defs D h).1; omega
                  have HDS := Lib.hid hDs
                  clear hW0 c16
                  refine wpIn_rangeFunc_ownF rfl (by decide) (gf := 80) (lb := #[.pointer (some ⟨b + 1, 0, none⟩)]) rfl trivial (enters_of Try.func80 (by kernel_rfl) rfl)
                    hst (fun h k => h.trans k) (kpX_b (by omega) (by omega)) (Below.refl _ _) (fun _ => rfl)
                    (UbI P turn bt wr.heap.size Ds false) (fun c pre W => (c = .exit 8 ∧ UbI P turn bt wr.heap.size Ds true pre W) ∨ (c = .ret ∧ ¬ pre <+: uns us)) (ubI_own _ _ _ _ _ _ _ (by omega) hDs)
                    (fun c s X Y row hs hg hr => hs.imp (fun h => ⟨h.1, ubI_own P turn bt wr.heap.size Ds true W0.heap.size (by omega) HDS.out s X Y row h.2 hg hr⟩) id) hI0
                    (fun x => { tmps := List.toArray (.slice a n ca :: u1 :: u2 :: .pointer (some ⟨w.heap.size, 0, none⟩) :: .pointer (some ⟨w.heap.size + 1, 0, none⟩) :: u5 :: .slice ax n cx :: u7 :: u8 :: u9 :: u10 :: u11 :: u12 :: u13 :: .pointer (some ⟨b, 0, none⟩) :: .func (.func 80) #[] #[.pointer (some ⟨b + 1, 0, none⟩)] :: .pointer (some ⟨bt, 0, none⟩) :: .pointer (some ⟨wr.heap.size, 0, none⟩) :: .pointer (some ⟨wr.heap.size + 1, 0, none⟩) :: .int .i64 (x.p : Int) :: .int .i32 (x.c : Int) :: u21 :: u22 :: u23 :: u24 :: u25 :: u26 :: u27 :: u28 :: u29 :: u30 :: u31 :: u32 :: u33 :: u34 :: u35 :: u36 :: u37 :: u38 :: u39 :: u40 :: u41 :: u42 :: u43 :: u44 :: u45 :: u46 :: u47 :: u48 :: u49 :: u50 :: u51 :: u52 :: u53 :: u54 :: u55 :: u56 :: u57 :: u58 :: u59 :: u60 :: u61 :: u62 :: u63 :: u64 :: u65 :: u66 :: u67 :: u68 :: u69 :: u70 :: u71 :: u72 :: u73 :: u74 :: u75 :: u76 :: u77 :: u78 :: u79 :: u80 :: u81 :: u82 :: u83 :: u84 :: u85 :: u86 :: u87 :: u88 :: u89 :: u90 :: u91 :: u92 :: u93 :: u94 :: u95 :: u96 :: u97 :: u98 :: u99 :: .int .i64 (turn : Int) :: .bool true :: u102 :: u103 :: .func (.func 80) #[] #[.pointer (some ⟨b + 1, 0, none⟩)] :: .int .i64 (x.p : Int) :: .int .i32 (x.c : Int) :: u107 :: u108 :: u109 :: u110 :: u111 :: u112 :: u113 :: u114 :: u115 :: u116 :: u117 :: u118 :: u119 :: u120 :: u121 :: u122 :: u123 :: u124 :: u125 :: u126 :: u127 :: u128 :: u129 :: u130 :: u131 :: u132 :: u133 :: u134 :: u135 :: u136 :: u137 :: u138 :: u139 :: u140 :: u141 :: u142 :: u143 :: u144 :: u145 :: u146 :: u147 :: u148 :: u149 :: []), defers := [] }) ?assign ?body ?done ?stop
                  case assign =>
                    intro l x W K hK
                    simp only [encU, id]
                    gi_wp2
                    exact hK
                  case body =>
                    rintro l pre x W hI hlt2
                    obtain ⟨y, hy⟩ : ∃ y, (uns us)[pre.length]? = some y := ⟨_, List.getElem?_eq_getElem hlt2⟩
                    obtain ⟨gu, _, hv, hgl, k0, k1, k2, k3⟩ := FP.out.2.2.2.2.2.1.slot hy
                    rw [← HNN.out] at hv hlt2
                    obtain ⟨rfl, rfl⟩ : ua = some ⟨gu, 0, none⟩ ∧ uc = _ := by simpa using hv
                    obtain ⟨m', hm'⟩ : ∃ m', m' = pre.length := ⟨_, rfl⟩
                    rw [← hm'] at k0 k2 hlt2
                    have z0 := (hI.bel.cell (p := ⟨gu, m' * 4, none⟩) hgl).trans k0
                    have z2 := (hI.bel.cell (p := ⟨gu, m' * 4 + 2, none⟩) hgl).trans k2
                    have cb := cell_blk ((hI.bel.block b (by omega)).trans FP.out.2.2.2.2.2.2.1) 0 rfl
                    have cv := cell_blk ((hI.bel.block w.heap.size (by have := FP.out.2.2.2.2.1; omega)).trans FP.out.1) 0 rfl
                    have cr := cell_blk ((hI.bel.block (w.heap.size + 1) (by have := FP.out.2.2.2.2.1; omega)).trans FP.out.2.1) 0 rfl
                    have fr := free_blk ((hI.bel.block (w.heap.size + 1) (by have := FP.out.2.2.2.2.1; omega)).trans FP.out.2.1) 0
                    have cn := cell_blk hI.num 0 rfl
                    have fn := free_blk hI.num 0
                    have cl := cell_blk hI.left 0 rfl
                    have fl := free_blk hI.left 0
                    have ct := cell_blk hI.box 0 rfl
                    have ln := lt_of_some hI.num
                    have ll := lt_of_some hI.left
                    have lr := lt_of_some ((hI.bel.block (w.heap.size + 1) (by have := FP.out.2.2.2.2.1; omega)).trans FP.out.2.1)
                    simp at cb cv cr cn cl ct
                    rw [← hm'] at cn
                    have p2 : (m' : Int) < (N : Int) := by omega
                    have p3 : (0 : Int) ≤ (m' : Int) := by omega
                    have hNb : N ≤ 1048576 := by rw [HNN.out]; have := uns_len us; rw [← HN.out] at this; omega
                    have q1 : IntKind.i64.wrap ((m' : Int) + 1) = (m' : Int) + 1 := IntWalk.i64_in _ (by omega)
                    have hne1 : w.heap.size < wr.heap.size := by have := FP.out.2.2.2.2.1; omega
                    have HY := Lib.hid hy
                    have HI := Lib.hid hI
                    have HM' := Lib.hid hm'
                    clear hI hy k0 k1 k2 k3 hv hm'
                    by_cases hp : x.p = y.p
                    · have q2 : ((x.p : Int) != (y.p : Int)) = false := by simp [hp]
                      by_cases hc : x.c = y.c
                      · have q3 : ((x.c : Int) != (y.c : Int)) = false := by simp [hc]
                        have hI1 : UbI P turn bt wr.heap.size Ds false (pre ++ [x]) (W.setCell ⟨wr.heap.size, 0, none⟩ (.int .i64 ((m' : Int) + 1))) :=
                          ⟨HI.out.bel.setCell (p := ⟨wr.heap.size, 0, none⟩) (by simp; omega) _, set_other HI.out.box (by simp; omega) _, by rw [set_blk HI.out.num]; simp [HM'.out], set_other HI.out.left (by simp) _, fun D h => set_other (HI.out.defs D h) (by have := HDS.out D h; simp; have := lt_of_some (HT.out.defs D h).1; omega) _⟩
                        have hK1 : KpX P.heap.size (b + 1) W (W.setCell ⟨wr.heap.size, 0, none⟩ (.int .i64 ((m' : Int) + 1))) :=
                          ⟨(Below.refl _ W).setCell (p := ⟨wr.heap.size, 0, none⟩) (by simp; omega) _, fun o e => set_other e (by simp; omega) _⟩
                        have HI1 := Lib.hid (And.intro hI1 hK1)
                        clear hI1 hK1 hp hc
                        by_cases ht : turn = 0 ∧ (m' : Int) + 1 = leave
                        · have q4 : ((turn : Int) == 0) = true := by simp [ht.1]
                          have q5 : ((m' : Int) + 1 == leave) = true := by simp [ht.2]
                          clear ht
                          gi_wp2
                          refine ⟨(KeepsOthers.setCell _ _ _).trans (KeepsOthers.setCell _ _ _), .inl ⟨rfl, ?_⟩⟩
                          exact ⟨HI1.out.1.bel.setCell (p := ⟨wr.heap.size + 1, 0, none⟩) (by simp; omega) _, set_other HI1.out.1.box (by simp; omega) _, set_other HI1.out.1.num (by simp) _, by rw [set_blk HI1.out.1.left]; rfl, fun D h => set_other (HI1.out.1.defs D h) (by have := lt_of_some (HT.out.defs D h).1; simp; omega) _⟩
                        · by_cases h0 : turn = 0
                          · have q4 : ((turn : Int) == 0) = true := by simp [h0]
                            have q5 : ((m' : Int) + 1 == leave) = false := by simp; exact fun e => ht ⟨h0, e⟩
                            clear ht h0
                            gi_wp2
                            exact ⟨KeepsOthers.setCell _ _ _, HI1.out.2, HI1.out.1⟩
                          · have q4 : ((turn : Int) == 0) = false := by simp; omega
                            clear ht h0
                            gi_wp2
                            exact ⟨KeepsOthers.setCell _ _ _, HI1.out.2, HI1.out.1⟩
                      · have q3 : ((x.c : Int) != (y.c : Int)) = true := by simp; omega
                        have hF : ¬ pre ++ [x] <+: uns us := fun h => hc (by rw [prefix_at HY.out h])
                        have HF := Lib.hid hF
                        clear hc hp hF
                        gi_wp2
                        exact ⟨KeepsOthers.setCell _ _ _, .inr ⟨rfl, HF.out⟩⟩
                    · have q2 : ((x.p : Int) != (y.p : Int)) = true := by simp; omega
                      have hF : ¬ pre ++ [x] <+: uns us := fun h => hp (by rw [prefix_at HY.out h])
                      have HF := Lib.hid hF
                      clear hp hF
                      gi_wp2
                      exact ⟨KeepsOthers.setCell _ _ _, .inr ⟨rfl, HF.out⟩⟩
                  case done =>
                    rintro D ys W hD rfl hI hK
                    have cb := cell_blk ((hI.bel.block b (by omega)).trans FP.out.2.2.2.2.2.2.1) 0 rfl
                    have cn := cell_blk hI.num 0 rfl
                    have cl := cell_blk hI.left 0 rfl
                    have ct := cell_blk hI.box 0 rfl
                    have hW2 : P.heap.size ≤ W.heap.size := hI.bel.size
                    simp at cb cn cl ct
                    rw [← HNN.out] at cn
                    have HI := Lib.hid hI
                    have HK := Lib.hid hK
                    have HDD := Lib.hid hD
                    have q1 : IntKind.i64.wrap ((turn : Int) + 1) = (turn : Int) + 1 := IntWalk.i64_in _ (by omega)
                    clear hI hK hD
                    gi_wp2
                    have hnx := HT.out.next hlt HI.out.bel HK.out (by have := HDD.out; omega) (fun x hx => by have := HDS.out x hx; have := HDD.out; omega) HI.out.defs
                    refine ⟨⟨turn + 1, W.heap.size, D :: Ds, ?_⟩, ?_⟩
                    · (repeat apply Exists.intro)
                      exact ⟨hnx, rfl⟩
                    · rw [turnOf_eq (turn := turn + 1) (bt := W.heap.size) rfl hnx.box, turnOf_eq (turn := turn) (bt := bt) rfl HT.out.box]
                      omega
                  case stop =>
                    rintro D c pre W hD hpre hIx hK
                    rcases hIx with ⟨rfl, hI⟩ | ⟨_, hF⟩
                    ·
                      have cb := cell_blk ((hI.bel.block b (by omega)).trans FP.out.2.2.2.2.2.2.1) 0 rfl
                      have cn := cell_blk hI.num 0 rfl
                      have cl := cell_blk hI.left 0 rfl
                      have ct := cell_blk hI.box 0 rfl
                      have hW2 : P.heap.size ≤ W.heap.size := hI.bel.size
                      simp at cb cn cl ct
                      have HI := Lib.hid hI
                      have HK := Lib.hid hK
                      have HDD := Lib.hid hD
                      have q1 : IntKind.i64.wrap ((turn : Int) + 1) = (turn : Int) + 1 := IntWalk.i64_in _ (by omega)
                      clear hI hK hD
                      gi_wp2
                      have hnx := HT.out.next hlt HI.out.bel HK.out (by have := HDD.out; omega) (fun x hx => by have := HDS.out x hx; have := HDD.out; omega) HI.out.defs
                      refine ⟨⟨turn + 1, W.heap.size, D :: Ds, ?_⟩, ?_⟩
                      · (repeat apply Exists.intro)
                        exact ⟨hnx, rfl⟩
                      · rw [turnOf_eq (turn := turn + 1) (bt := W.heap.size) rfl hnx.box, turnOf_eq (turn := turn) (bt := bt) rfl HT.out.box]
                        omega
                    · exact absurd hpre hF
                · have hturn : turn = 2 := by have := hT.le; omega
                  subst hturn
                  obtain ⟨D2, D1, rfl⟩ : ∃ D2 D1, Ds = [D2, D1] := by
                    have := hT.len
                    match Ds, this with
                    | [x, y], _ => exact ⟨x, y, rfl⟩
                  have hb0 := hT.bel.block (w.heap.size + 1) (by have := FP.out.2.2.2.2.1; omega)
                  have hr := hb0.trans FP.out.2.1
                  have hn21 : D2 ≠ D1 := by have := hT.nodup; simp at this; exact this
                  have d2 := (hT.defs D2 (by simp)).1
                  have d1 := (hT.defs D1 (by simp)).1
                  have hXL := FP.out.2.2.1.below hT.bel
                  have hAL := HA.out.below (FP.out.2.2.2.1.trans (hT.bel.mono (by have := FP.out.2.2.2.2.1; omega)))
                  have HT := Lib.hid hT
                  have HR := Lib.hid (And.intro hr (And.intro d2 (And.intro d1 hn21)))
                  have cr := cell_blk hr 0 rfl
                  have fr := free_blk hr 0
                  have lr := lt_of_some hr
                  have hkeep := kept_true ca cx hXL hAL
                  rw [← HN.out] at hkeep
                  have HKP := Lib.hid hkeep
                  simp at cr
                  clear hT hr hb0 d1 d2 hn21 hXL hAL hkeep hlt
                  gi_wp2_with (refine ⟨trivial, ?_⟩; gi_at_call 42; refine (callsIn_wide.2 HKP.out).mono ?_; rintro e w' ⟨rfl, k9, rfl⟩)
                  have hk2 : (((wr.drewN k9).setCell ⟨w.heap.size + 1, 0, none⟩ (.bool true))).heap[D2]? = some (.deferred (some [])) := (KeepsOthers.setCell (wr.drewN k9) _ _).same _ _ HR.out.2.1 rfl
                  have hk1 : (((wr.drewN k9).setCell ⟨w.heap.size + 1, 0, none⟩ (.bool true))).heap[D1]? = some (.deferred (some [])) := (KeepsOthers.setCell (wr.drewN k9) _ _).same _ _ HR.out.2.2.1 rfl
                  have hc := World.cell?_setCell_same' (wr.drewN k9) ⟨w.heap.size + 1, 0, none⟩ (.bool true) (by show (wr.cell? _).isSome = true; rw [cr]; rfl)
                  have hk1' := (World.putObj_heap_other (w := (wr.drewN k9).setCell ⟨w.heap.size + 1, 0, none⟩ (.bool true)) (r := D2) (o := .deferred none) (fun e => HR.out.2.2.2 e.symm)).trans hk1
                  have hc2 := cell_kept hc (grownBy_putObj' _ D2 (.deferred none)) (fun r e => by cases e; exact ⟨_, hk2, rfl⟩)
                  have hc3 := cell_kept hc2 (grownBy_putObj' _ D1 (.deferred none)) (fun r e => by cases e; exact ⟨_, hk1', rfl⟩)
                  refine ⟨by simp, .inl ⟨_, _, rfl, run_takeDeferred hk2, ?_⟩⟩
                  refine ⟨by simp, .inl ⟨_, _, rfl, run_takeDeferred hk1', ?_⟩⟩
                  have hP2 := (HT.out.defs D2 (by simp)).2
                  have hP1 := (HT.out.defs D1 (by simp)).2
                  have hwb := FP.out.2.2.2.2.1
                  have hb1 : Below w.heap.size w ((wr.drewN k9).setCell ⟨w.heap.size + 1, 0, none⟩ (.bool true)) := (FP.out.2.2.2.1.trans ((HT.out.bel.mono (by omega)).trans (by repeat (first | exact Below.refl _ _ | assumption | refine Below.drew ?_ | refine below_drewN ?_ _ | refine Below.alloc ?_ (by simp <;> omega) _ | refine Below.setCell ?_ (by simp <;> omega) _ | (apply bl_trans; assumption; (simp <;> omega)))))).setCell (p := ⟨w.heap.size + 1, 0, none⟩) (by simp) _
                  refine ⟨.bool true, ?_, rfl, hb1.trans ((belowK_b (w := w) (Nat.le_refl _) _ D2 _ _ (by omega) hk2 rfl rfl).trans (belowK_b (w := w) (Nat.le_refl _) _ D1 _ _ (by omega) hk1' rfl rfl))⟩
                  simp [results, Try.f9, go_sem, hc3]

theorem units_walk (w : World) {a : Option Addr} {us : List Nat} (ca : Nat) (ha : Sl16 w a us) (hu : us.length ≤ 1048576) (leave : Int) (hb1 : -9223372036854775808 ≤ leave ∧ leave ≤ 9223372036854775807) :
    Calls Try.prog 9 #[.slice a us.length ca, .int .i64 leave] w fun e w' => e = .returned (.bool true) ∧ Below w.heap.size w w' := callsIn_wide.1 (units_in w ca ha hu leave hb1)
end Go.Proofs.Ytlmbpbijhhnhpaa
