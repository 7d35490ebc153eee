/- The program's Share: room shared out. -/
import Derived.Test.YtohmmkkbfiembaaFw4
import Derived.Test.YtohmmkkbfiembaaFs3
import Derived.Test.YtohmmkkbfiembaaHu
import Derived.StillTailTactics
namespace Go.Proofs.Ytohmmkkbfiembaa
open Go.RowKit Go.Shelf
attribute [local go_sem] Oper.semAt_some
attribute [local go_sem] run_store_float
set_option linter.unusedVariables false
set_option maxRecDepth 100000

theorem SlF.of_below {w w' : World} {a : Option Addr} {n B : Nat} {f : Nat → Nat} (h : SlF w a n f) (b : Below B w w') (hB : w.heap.size ≤ B) : SlF w' a n f := h.below (b.mono hB)
/-- Behind the first three rows: the boxes tell them. -/
structure R5 (w W : World) (rb bb lb hb nb n room : Nat) (tb tl th : Nat → Nat) (bs lo hi : Nat) : Prop where
  low : Below w.heap.size w W
  r : W.heap[rb]? = some (.cells #[fl room] 23 (0, 0))
  b : W.heap[bb]? = some (.cells #[.slice (some ⟨bs, 0, none⟩) n n] 24 (0, 0))
  l : W.heap[lb]? = some (.cells #[.slice (some ⟨lo, 0, none⟩) n n] 24 (0, 0))
  h : W.heap[hb]? = some (.cells #[.slice (some ⟨hi, 0, none⟩) n n] 24 (0, 0))
  n' : W.heap[nb]? = some (.cells #[.int .i64 (n : Int)] 3 (0, 0))
  fb : Fl W bs n tb
  fl : Fl W lo n tl
  fh : Fl W hi n th
  ord : w.heap.size ≤ rb ∧ rb < bb ∧ bb < lb ∧ lb < hb ∧ hb < nb ∧ nb < bs ∧ bs < lo ∧ lo < hi ∧ hi < W.heap.size
/-- Ahead of them. -/
structure R4 (w W : World) (rb bb lb hb nb n room : Nat) (s1 s4 s5 : Value) : Prop where
  low : Below w.heap.size w W
  r : W.heap[rb]? = some (.cells #[fl room] 23 (0, 0))
  b : W.heap[bb]? = some (.cells #[s1] 24 (0, 0))
  l : W.heap[lb]? = some (.cells #[s4] 24 (0, 0))
  h : W.heap[hb]? = some (.cells #[s5] 24 (0, 0))
  n' : W.heap[nb]? = some (.cells #[.int .i64 (n : Int)] 3 (0, 0))
  ord : w.heap.size ≤ rb ∧ rb < bb ∧ bb < lb ∧ lb < hb ∧ hb < nb ∧ nb + 1 = W.heap.size

theorem R5.make {w W W' w6 w7 w8 : World} {rb bb lb hb nb n room bs lo hi : Nat} {s1 s4 s5 : Value} {tb tl th : Nat → Nat} {Q3 Q5 : Prop} (h : R4 w W rb bb lb hb nb n room s1 s4 s5)
    (f1 : Fl w6 bs n tb ∧ Below bs W' w6 ∧ Below W.heap.size W W') (f3 : Fl w7 lo n tl ∧ Below lo w6 w7 ∧ Q3) (f5 : Fl w8 hi n th ∧ Below hi w7 w8 ∧ Q5) (e1 : bs = W'.heap.size) (e3 : lo = w6.heap.size) (e5 : hi = w7.heap.size) :
    R5 w (((w8.setCell ⟨bb, 0, none⟩ (.slice (some ⟨bs, 0, none⟩) n n)).setCell ⟨lb, 0, none⟩ (.slice (some ⟨lo, 0, none⟩) n n)).setCell ⟨hb, 0, none⟩ (.slice (some ⟨hi, 0, none⟩) n n)) rb bb lb hb nb n room tb tl th bs lo hi := by
  subst e1 e3 e5
  have l6 := f1.1.lt
  have l7 := f3.1.lt
  have l8 := f5.1.lt
  have s1 := f1.2.2.size
  obtain ⟨o1, o2, o3, o4, o5, o6⟩ := h.ord
  have b8 : Below W.heap.size W w8 := (f1.2.2.trans (f1.2.1.mono s1)).trans ((f3.2.1.mono (by omega)).trans (f5.2.1.mono (by omega)))
  have g6 : Fl w8 W'.heap.size n tb := ((f3.2.1.trans (f5.2.1.mono (by omega))).block _ l6).trans f1.1
  have g7 : Fl w8 w6.heap.size n tl := (f5.2.1.block _ l7).trans f3.1
  have gg := fun (k : Nat) (o : Obj) (e : W.heap[k]? = some o) => (b8.block k (lt_of_some e)).trans e
  have lw := h.low.size
  have x1 := set_blk (gg _ _ h.b) 0 (.slice (some ⟨W'.heap.size, 0, none⟩) n n)
  have x2 := set_blk (set_other (gg _ _ h.l) (a := ⟨bb, 0, none⟩) (show lb ≠ bb by omega) (.slice (some ⟨W'.heap.size, 0, none⟩) n n)) 0 (.slice (some ⟨w6.heap.size, 0, none⟩) n n)
  have x3 := set_blk (set_other (set_other (gg _ _ h.h) (a := ⟨bb, 0, none⟩) (show hb ≠ bb by omega) (.slice (some ⟨W'.heap.size, 0, none⟩) n n)) (a := ⟨lb, 0, none⟩) (show hb ≠ lb by omega) (.slice (some ⟨w6.heap.size, 0, none⟩) n n)) 0 (.slice (some ⟨w7.heap.size, 0, none⟩) n n)
  have far : ∀ (k : Nat) (o : Obj), k ≠ bb → k ≠ lb → k ≠ hb → w8.heap[k]? = some o → _ := fun k o n1 n2 n3 e => set_other (set_other (set_other e (a := ⟨bb, 0, none⟩) n1 (.slice (some ⟨W'.heap.size, 0, none⟩) n n)) (a := ⟨lb, 0, none⟩) n2 (.slice (some ⟨w6.heap.size, 0, none⟩) n n)) (a := ⟨hb, 0, none⟩) n3 (.slice (some ⟨w7.heap.size, 0, none⟩) n n)
  have q1 : w.heap.size ≤ bb := by omega
  have q2 : w.heap.size ≤ lb := by omega
  have q3 : w.heap.size ≤ hb := by omega
  refine ⟨?_, ?_, ?_, ?_, ?_, ?_, ?_, ?_, ?_, ?_⟩
  · exact (((h.low.trans (b8.mono lw)).setCell (show w.heap.size ≤ Addr.block ⟨bb, 0, none⟩ from q1) _).setCell (show w.heap.size ≤ Addr.block ⟨lb, 0, none⟩ from q2) _).setCell (show w.heap.size ≤ Addr.block ⟨hb, 0, none⟩ from q3) _
  · exact far _ _ (by omega) (by omega) (by omega) (gg _ _ h.r)
  · exact set_other (set_other x1 (a := ⟨lb, 0, none⟩) (show bb ≠ lb by omega) _) (a := ⟨hb, 0, none⟩) (show bb ≠ hb by omega) _
  · exact set_other x2 (a := ⟨hb, 0, none⟩) (show lb ≠ hb by omega) _
  · exact x3
  · exact far _ _ (by omega) (by omega) (by omega) (gg _ _ h.n')
  · exact far _ _ (by omega) (by omega) (by omega) g6
  · exact far _ _ (by omega) (by omega) (by omega) g7
  · exact far _ _ (by omega) (by omega) (by omega) f5.1
  · simp
    omega

/-- All that stays, behind the sizes' box sb: the boxes, the rows; the row sz of the sizes and what lies behind sb may change. -/
structure StW (t : Told) (w W : World) (rb bb lb hb nb bs lo hi gr sh sz sb n : Nat) : Prop where
  low : Below w.heap.size w W
  r : W.heap[rb]? = some (.cells #[fl t.rm] 23 (0, 0))
  b : W.heap[bb]? = some (.cells #[.slice (some ⟨bs, 0, none⟩) n n] 24 (0, 0))
  l : W.heap[lb]? = some (.cells #[.slice (some ⟨lo, 0, none⟩) n n] 24 (0, 0))
  h : W.heap[hb]? = some (.cells #[.slice (some ⟨hi, 0, none⟩) n n] 24 (0, 0))
  n' : W.heap[nb]? = some (.cells #[.int .i64 (n : Int)] 3 (0, 0))
  s : W.heap[sb]? = some (.cells #[.slice (some ⟨sz, 0, none⟩) n n] 24 (0, 0))
  fb : Fl W bs n t.b
  fl : Fl W lo n t.l
  fh : Fl W hi n t.h
  fg : Fl W gr n t.g
  fs : Fl W sh n t.s
  ord : w.heap.size ≤ rb ∧ rb < bb ∧ bb < lb ∧ lb < hb ∧ hb < nb ∧ nb < bs ∧ bs < lo ∧ lo < hi ∧ hi < gr ∧ gr < sh ∧ sh < sz ∧ sz + 1 = sb ∧ sb < W.heap.size
theorem StW.onl {t : Told} {w W W' : World} {rb bb lb hb nb bs lo hi gr sh sz sb n : Nat} (h : StW t w W rb bb lb hb nb bs lo hi gr sh sz sb n) (o : Onl (fun k => k = sz ∨ sb < k) W W') : StW t w W' rb bb lb hb nb bs lo hi gr sh sz sb n := by
  obtain ⟨o1, o2, o3, o4, o5, o6, o7, o8, o9, o10, o11, o12, o13⟩ := h.ord
  have hs := o.size
  have ne : ∀ k, k < sz → ¬ (k = sz ∨ sb < k) := fun k hk hc => by omega
  have nes : ¬ (sb = sz ∨ sb < sb) := by omega
  exact ⟨h.low.trans (o.low h.low.size (fun k hk => by omega)), o.block _ _ (ne _ (by omega)) h.r, o.block _ _ (ne _ (by omega)) h.b, o.block _ _ (ne _ (by omega)) h.l, o.block _ _ (ne _ (by omega)) h.h, o.block _ _ (ne _ (by omega)) h.n', o.block _ _ nes h.s, o.fl h.fb (ne _ (by omega)), o.fl h.fl (ne _ (by omega)), o.fl h.fh (ne _ (by omega)), o.fl h.fg (ne _ (by omega)), o.fl h.fs (ne _ (by omega)),
    ⟨o1, o2, o3, o4, o5, o6, o7, o8, o9, o10, o11, o12, by omega⟩⟩
/-- Behind the two rows of factors, the sizes' row and its box. -/
theorem StW.make {t : Told} {w wc w6 w7 : World} {rb bb lb hb nb n bs lo hi : Nat} (h : R5 w wc rb bb lb hb nb n t.rm t.b t.l t.h bs lo hi) (g1 : Fl w6 wc.heap.size n t.g) (b1 : Below wc.heap.size wc w6) (g2 : Fl w7 w6.heap.size n t.s) (b2 : Below w6.heap.size w6 w7) :
    StW t w ((w7.alloc (.cells (vc n (fun _ => 0)) 23)).alloc (.cells #[.slice (some ⟨w7.heap.size, 0, none⟩) n n] 24)) rb bb lb hb nb bs lo hi wc.heap.size w6.heap.size w7.heap.size (w7.heap.size + 1) n := by
  obtain ⟨o1, o2, o3, o4, o5, o6, o7, o8, o9⟩ := h.ord
  have l1 := g1.lt
  have l2 := g2.lt
  have s1 := b1.size
  have b12 : Below wc.heap.size wc w7 := b1.trans (b2.mono s1)
  have up : ∀ (k : Nat) (o : Obj), wc.heap[k]? = some o → ((w7.alloc (.cells (vc n (fun _ => 0)) 23)).alloc (.cells #[.slice (some ⟨w7.heap.size, 0, none⟩) n n] 24)).heap[k]? = some o := fun k o e => alloc_blk (alloc_blk ((b12.block k (lt_of_some e)).trans e) _) _
  have e1 : (w7.alloc (.cells (vc n (fun _ => 0)) 23)).heap.size = w7.heap.size + 1 := by simp
  have g3 := Go.heap_alloc_new (w7.alloc (.cells (vc n (fun _ => 0)) 23)) (.cells #[.slice (some ⟨w7.heap.size, 0, none⟩) n n] 24)
  rw [e1] at g3
  have lw := h.low.size
  refine ⟨?_, up _ _ h.r, up _ _ h.b, up _ _ h.l, up _ _ h.h, up _ _ h.n', g3, up _ _ h.fb, up _ _ h.fl, up _ _ h.fh, alloc_blk (alloc_blk ((b2.block _ l1).trans g1) _) _, alloc_blk (alloc_blk g2 _) _, ?_⟩
  · exact ((h.low.trans (b12.mono lw)).alloc (by omega) _).alloc (by simp; omega) _
  · simp
    omega

theorem cntF_true {i : Nat} {F : Nat → Bool} (h : F i = true) : cnt (i + 1) F = cnt i F := by
  show cnt i F + (if F i = true then 0 else 1) = _
  rw [if_pos h]; rfl
theorem cntF_false {i : Nat} {F : Nat → Bool} (h : F i = false) : ((cnt (i + 1) F : Nat) : Int) = (cnt i F : Int) + 1 := by
  have : cnt (i + 1) F = cnt i F + 1 := by
    show cnt i F + (if F i = true then 0 else 1) = _
    rw [h, if_neg (by decide)]
  rw [this]; rfl
theorem nextB {i : Nat} {F : Nat → Bool} {b : Bool} (h : F i = b) (j : Nat) : (if j = i then b else (if j < i then F j else false)) = (if j < i + 1 then F j else false) := by
  by_cases e : j = i
  · subst e
    rw [if_pos rfl, if_pos (Nat.lt_succ_self _)]; exact h.symm
  · rw [if_neg e]
    by_cases h1 : j < i
    · have h2 : j < i + 1 := by omega
      rw [if_pos h1, if_pos h2]
    · have h2 : ¬ j < i + 1 := by omega
      rw [if_neg h1, if_neg h2]

/-- A sum, as it lies: none is no number. -/
def vRel (o : Option Nat) (v : Value) : Prop := match o with | some a => v = fl a | none => ∃ x, v = fl x ∧ NaN' x
theorem add_none_left {x y : Nat} (h : NaN' x) : Ieee.double.add x y = none := by
  obtain ⟨s, f, e⟩ := read_nan h
  unfold Ieee.Format.add
  rw [e]
  rfl
theorem run_add_none {x y : Nat} (h : Ieee.double.add x y = none) (w : World) : ∃ r, NaN' r ∧ ∀ t, (binOp .add t (fl x) (fl y)).run Try.prog w = .ok (fl r) w.drew := by
  refine ⟨(Question.nanBits .f64 x y).cut (w.tape w.drawn (.nanBits .f64 x y)), ?_, fun t => ?_⟩
  · obtain ⟨T, hT⟩ : ∃ T, T = w.tape w.drawn (.nanBits .f64 x y) := ⟨_, rfl⟩
    rw [← hT]
    have e : (Question.nanBits .f64 x y).cut T = T % 2 * 2 ^ 63 + 9218868437227405312 + 1 + T / 2 % (2 ^ 52 - 1) := rfl
    rw [e]
    obtain ⟨u, hu⟩ : ∃ u, u = T % 2 := ⟨_, rfl⟩
    obtain ⟨r, hr⟩ : ∃ r, r = T / 2 % (2 ^ 52 - 1) := ⟨_, rfl⟩
    have h1 : u = 0 ∨ u = 1 := by omega
    have h2 : r < 2 ^ 52 - 1 := by rw [hr]; exact Nat.mod_lt _ (by decide)
    rw [← hu, ← hr]
    clear hu hr hT e
    unfold NaN'
    rcases h1 with rfl | rfl <;> omega
  · have h' : FloatKind.f64.format.add x y = none := h
    simp [binOp, Op.floatArith, h', Question.forced]
theorem sumO_true {o : Nat → Nat} {F : Nat → Bool} {i : Nat} (h : F i = true) : sumO o F (i + 1) = sumO o F i := by
  show (if F i = true then _ else _) = _
  rw [if_pos h]
theorem sumO_false {o : Nat → Nat} {F : Nat → Bool} {i : Nat} (h : F i = false) : sumO o F (i + 1) = (sumO o F i).bind fun a => Ieee.double.add a (o i) := by
  show (if F i = true then _ else _) = _
  rw [h, if_neg (by decide)]
theorem nan_cmp {x y : Nat} (h : NaN' x) : FloatKind.f64.format.order x y = none := by
  obtain ⟨s, f, e⟩ := read_nan h
  show Ieee.double.order x y = none
  unfold Ieee.Format.order
  rw [e]
  rfl
theorem vRel.pick {o : Option Nat} {v : Value} (h : vRel o v) : ∃ x, v = fl x ∧ (FloatKind.f64.format.order x 0 == some .gt) = posO o ∧ (FloatKind.f64.format.order x 0 == some .lt) = negO o := by
  cases o with
  | some a => exact ⟨a, h, rfl, rfl⟩
  | none =>
    obtain ⟨x, h1, h2⟩ := h
    refine ⟨x, h1, ?_, ?_⟩ <;> rw [nan_cmp h2] <;> rfl
theorem Num.leq {x : Nat} (h : Num x) : (FloatKind.f64.format.order x 0 == some .lt || FloatKind.f64.format.order x 0 == some .eq) = !gtD x 0 := by
  have hc : ∃ c, FloatKind.f64.format.order x 0 = some c := by
    rcases h.cases with hf | hi
    · exact ⟨_, order_fin hf fin0⟩
    · exact ⟨_, order_inf hi fin0⟩
  obtain ⟨c, hc⟩ := hc
  unfold gtD od
  rw [hc]
  cases c <;> rfl
theorem Num.geq {x : Nat} (h : Num x) : (FloatKind.f64.format.order x 0 == some .gt || FloatKind.f64.format.order x 0 == some .eq) = !ltD x 0 := by
  have hc : ∃ c, FloatKind.f64.format.order x 0 = some c := by
    rcases h.cases with hf | hi
    · exact ⟨_, order_fin hf fin0⟩
    · exact ⟨_, order_inf hi fin0⟩
  obtain ⟨c, hc⟩ := hc
  unfold ltD od
  rw [hc]
  cases c <;> rfl
/-- Of what is frozen anew those ahead of i. -/
def mixF (G F : Nat → Bool) (i j : Nat) : Bool := if j < i then G j else F j
theorem mixF_at {G F : Nat → Bool} {i : Nat} : mixF G F i i = F i := by unfold mixF; rw [if_neg (Nat.lt_irrefl i)]
theorem mixF_same {G F : Nat → Bool} {i : Nat} (h : G i = F i) (j : Nat) : mixF G F i j = mixF G F (i + 1) j := by
  unfold mixF
  by_cases e : j = i
  · subst e; rw [if_neg (Nat.lt_irrefl _), if_pos (Nat.lt_succ_self _), h]
  · by_cases h1 : j < i
    · have h2 : j < i + 1 := by omega
      rw [if_pos h1, if_pos h2]
    · have h2 : ¬ j < i + 1 := by omega
      rw [if_neg h1, if_neg h2]
theorem mixF_set {G F : Nat → Bool} {i : Nat} (h : G i = true) (j : Nat) : (if j = i then true else mixF G F i j) = mixF G F (i + 1) j := by
  unfold mixF
  by_cases e : j = i
  · subst e; rw [if_pos rfl, if_pos (Nat.lt_succ_self _), h]
  · rw [if_neg e]
    by_cases h1 : j < i
    · have h2 : j < i + 1 := by omega
      rw [if_pos h1, if_pos h2]
    · have h2 : ¬ j < i + 1 := by omega
      rw [if_neg h1, if_neg h2]

theorem mixC_same {n : Nat} {G F : Nat → Bool} {i : Nat} (h : G i = F i) : cnt n (mixF G F i) = cnt n (mixF G F (i + 1)) := cnt_congr (fun j _ => mixF_same h j)
theorem mixC_set {n : Nat} {G F : Nat → Bool} {i : Nat} (hi : i < n) (h : G i = true) (hz : F i = false) : ((cnt n (mixF G F (i + 1)) : Nat) : Int) = (cnt n (mixF G F i) : Int) - 1 ∧ True := by
  have := cnt_upd (n := n) (i := i) (F := mixF G F i) (G := mixF G F (i + 1)) hi (by rw [mixF_at]; exact hz) (by unfold mixF; rw [if_pos (Nat.lt_succ_self _)]; exact h) (fun j hj => by
    have := mixF_set (F := F) h j
    rw [if_neg hj] at this
    exact this)
  exact ⟨by omega, trivial⟩
theorem cnt_pos_of {n i : Nat} {F : Nat → Bool} (hi : i < n) (h : F i = false) : 0 < cnt n F := by
  rcases Nat.eq_zero_or_pos (cnt n F) with h0 | h0
  · rw [cnt_zero h0 i hi] at h; cases h
  · exact h0

set_option maxHeartbeats 200000000 in
theorem share_calls (w : World) {t : Told} (o : ToldOk t) {a1 a2 a3 a4 a5 : Option Addr} {p1 p2 p3 p4 p5 : Nat} (h1 : SlF w a1 t.n t.B) (h2 : SlF w a2 t.n t.G) (h3 : SlF w a3 t.n t.S) (h4 : SlF w a4 t.n t.L) (h5 : SlF w a5 t.n t.H)
    (k1 : t.n ≤ p1 ∧ p1 ≤ 9223372036854775807) (k2 : t.n ≤ p2 ∧ p2 ≤ 9223372036854775807) (k3 : t.n ≤ p3 ∧ p3 ≤ 9223372036854775807) (k4 : t.n ≤ p4 ∧ p4 ≤ 9223372036854775807) (k5 : t.n ≤ p5 ∧ p5 ≤ 9223372036854775807) :
    Calls Try.prog 9 #[fl t.room, .slice a1 t.n p1, .slice a2 t.n p2, .slice a3 t.n p3, .slice a4 t.n p4, .slice a5 t.n p5] w
      fun e w' => ∃ b, e = .returned (.tuple #[.slice (some ⟨b, 0, none⟩) t.n t.n, .int .i64 0]) ∧ w.heap.size ≤ b ∧ Fl w' b t.n t.sizes ∧ Below w.heap.size w w' := by
  have HT := Lib.hid o
  have HA := Lib.hid (And.intro h1 (And.intro h2 (And.intro h3 (And.intro h4 h5))))
  have HK := Lib.hid (And.intro k1 (And.intro k2 (And.intro k3 (And.intro k4 k5))))
  obtain ⟨n, hn⟩ : ∃ n, n = t.n := ⟨_, rfl⟩
  obtain ⟨room, hroom⟩ : ∃ n, n = t.room := ⟨_, rfl⟩
  rw [← hn, ← hroom]
  rw [← hn] at HA HK
  have HN := Lib.hid (And.intro hn hroom)
  have HNB : Hid (n ≤ 1048578) := Lib.hid (by rw [hn]; exact o.n)
  have HU := Lib.hid (fun W => usedB_calls W room)
  clear o h1 h2 h3 h4 h5 k1 k2 k3 k4 k5 hn hroom
  go_enter Try.func9, Try.ntmps9
  go_wp2_with (go_at_call 23; refine (HU.out _).mono ?_; rintro e w1 ⟨rfl, rfl⟩)
  obtain ⟨W, hW⟩ : ∃ W, W = (((((w.alloc (.cells #[.float .f64 (usedD room)] 23)).alloc (.cells #[.slice a1 n p1] 24)).alloc (.cells #[.slice a4 n p4] 24)).alloc (.cells #[.slice a5 n p5] 24)).alloc (.cells #[.int .i64 (n : Int)] 3)) := ⟨_, rfl⟩
  obtain ⟨N, hN⟩ : ∃ N, N = w.heap.size := ⟨_, rfl⟩
  have hr4 : R4 w W N (N + 1) (N + 1 + 1) (N + 1 + 1 + 1) (N + 1 + 1 + 1 + 1) n (usedD room) (.slice a1 n p1) (.slice a4 n p4) (.slice a5 n p5) := by
    have e1 : (w.alloc (.cells #[.float .f64 (usedD room)] 23)).heap.size = N + 1 := by simp [hN]
    have e2 : ((w.alloc (.cells #[.float .f64 (usedD room)] 23)).alloc (.cells #[.slice a1 n p1] 24)).heap.size = N + 1 + 1 := by simp [hN]
    have e3 : (((w.alloc (.cells #[.float .f64 (usedD room)] 23)).alloc (.cells #[.slice a1 n p1] 24)).alloc (.cells #[.slice a4 n p4] 24)).heap.size = N + 1 + 1 + 1 := by simp [hN]
    have e4 : ((((w.alloc (.cells #[.float .f64 (usedD room)] 23)).alloc (.cells #[.slice a1 n p1] 24)).alloc (.cells #[.slice a4 n p4] 24)).alloc (.cells #[.slice a5 n p5] 24)).heap.size = N + 1 + 1 + 1 + 1 := by simp [hN]
    have g0 := Go.heap_alloc_new w (.cells #[.float .f64 (usedD room)] 23)
    have g1 := Go.heap_alloc_new (w.alloc (.cells #[.float .f64 (usedD room)] 23)) (.cells #[.slice a1 n p1] 24)
    have g2 := Go.heap_alloc_new ((w.alloc (.cells #[.float .f64 (usedD room)] 23)).alloc (.cells #[.slice a1 n p1] 24)) (.cells #[.slice a4 n p4] 24)
    have g3 := Go.heap_alloc_new (((w.alloc (.cells #[.float .f64 (usedD room)] 23)).alloc (.cells #[.slice a1 n p1] 24)).alloc (.cells #[.slice a4 n p4] 24)) (.cells #[.slice a5 n p5] 24)
    have g4 := Go.heap_alloc_new ((((w.alloc (.cells #[.float .f64 (usedD room)] 23)).alloc (.cells #[.slice a1 n p1] 24)).alloc (.cells #[.slice a4 n p4] 24)).alloc (.cells #[.slice a5 n p5] 24)) (.cells #[.int .i64 (n : Int)] 3)
    rw [← hN] at g0
    rw [e1] at g1
    rw [e2] at g2
    rw [e3] at g3
    rw [e4] at g4
    refine ⟨?_, ?_, ?_, ?_, ?_, ?_, ?_⟩
    · rw [hW]
      exact ((((((Below.refl _ w).alloc (Nat.le_refl _) _).alloc (by simp) _).alloc (by simp; omega) _).alloc (by simp; omega) _)).alloc (by simp; omega) _
    · rw [hW]; exact alloc_blk (alloc_blk (alloc_blk (alloc_blk g0 _) _) _) _
    · rw [hW]; exact alloc_blk (alloc_blk (alloc_blk g1 _) _) _
    · rw [hW]; exact alloc_blk (alloc_blk g2 _) _
    · rw [hW]; exact alloc_blk g3 _
    · rw [hW]; exact g4
    · rw [hW]; simp [hN]
  rw [← hW, ← hN]
  obtain ⟨bb, hbb⟩ : ∃ x, x = N + 1 := ⟨_, rfl⟩
  rw [← hbb] at hr4 ⊢
  obtain ⟨lb, hlb⟩ : ∃ x, x = bb + 1 := ⟨_, rfl⟩
  rw [← hlb] at hr4 ⊢
  obtain ⟨hb, hhb⟩ : ∃ x, x = lb + 1 := ⟨_, rfl⟩
  rw [← hhb] at hr4 ⊢
  obtain ⟨nb, hnb⟩ : ∃ x, x = hb + 1 := ⟨_, rfl⟩
  rw [← hnb] at hr4 ⊢
  clear hW hbb hlb hhb hnb
  have hNN := Lib.hid hN
  clear hN
  have HR4 := Lib.hid hr4
  have HB0 := Lib.hid hr4
  have HU1 : Hid (∀ X, Below W.heap.size W X → Calls Try.prog 24 #[.slice a1 n p1, .bool false] X fun e w' => e = .returned (.slice (some ⟨X.heap.size, 0, none⟩) n n) ∧ Fl w' X.heap.size n t.b ∧ Below X.heap.size X w') := Lib.hid (fun X b => used_calls X a1 n p1 t.B false (HA.out.1.of_below (HR4.out.low.trans (b.mono HR4.out.low.size)) (Nat.le_refl _)) HK.out.1 HNB.out)
  have HU3 : Hid (∀ X, Below W.heap.size W X → Calls Try.prog 24 #[.slice a4 n p4, .bool false] X fun e w' => e = .returned (.slice (some ⟨X.heap.size, 0, none⟩) n n) ∧ Fl w' X.heap.size n t.l ∧ Below X.heap.size X w') := Lib.hid (fun X b => used_calls X a4 n p4 t.L false (HA.out.2.2.2.1.of_below (HR4.out.low.trans (b.mono HR4.out.low.size)) (Nat.le_refl _)) HK.out.2.2.2.1 HNB.out)
  have HU5 : Hid (∀ X, Below W.heap.size W X → Calls Try.prog 24 #[.slice a5 n p5, .bool false] X fun e w' => e = .returned (.slice (some ⟨X.heap.size, 0, none⟩) n n) ∧ Fl w' X.heap.size n t.h ∧ Below X.heap.size X w') := Lib.hid (fun X b => used_calls X a5 n p5 t.H false (HA.out.2.2.2.2.of_below (HR4.out.low.trans (b.mono HR4.out.low.size)) (Nat.le_refl _)) HK.out.2.2.2.2 HNB.out)
  have HCEL : Hid (∀ X, Below W.heap.size W X → X.cell? ⟨bb, 0, none⟩ = some (.slice a1 n p1) ∧ X.cell? ⟨lb, 0, none⟩ = some (.slice a4 n p4) ∧ X.cell? ⟨hb, 0, none⟩ = some (.slice a5 n p5)) := Lib.hid (fun X b => ⟨cell_blk ((b.block _ (lt_of_some HR4.out.b)).trans HR4.out.b) 0 rfl, cell_blk ((b.block _ (lt_of_some HR4.out.l)).trans HR4.out.l) 0 rfl, cell_blk ((b.block _ (lt_of_some HR4.out.h)).trans HR4.out.h) 0 rfl⟩)
  have HFZ : Hid (∀ X, Below W.heap.size W X → X.frozen? ⟨bb, 0, none⟩ = false ∧ X.frozen? ⟨lb, 0, none⟩ = false ∧ X.frozen? ⟨hb, 0, none⟩ = false) := Lib.hid (fun X b => ⟨free_blk ((b.block _ (lt_of_some HR4.out.b)).trans HR4.out.b) 0, free_blk ((b.block _ (lt_of_some HR4.out.l)).trans HR4.out.l) 0, free_blk ((b.block _ (lt_of_some HR4.out.h)).trans HR4.out.h) 0⟩)
  clear hr4
  go_cut [] (fun wc => ∃ bs lo hi, R5 w wc N bb lb hb nb n (usedD room) t.b t.l t.h bs lo hi)
  case first =>
    have HCU : Hid (Below W.heap.size W W.drew) := Lib.hid (Below.refl _ W).drew
    obtain ⟨x1, x2, x3⟩ := HCEL.out _ HCU.out
    refine wp_region_noPanic ?_
    refine wp_region_until_drew (S := (fun X => X.cell? ⟨bb, 0, none⟩ = some (.slice a1 n p1) ∧ X.cell? ⟨lb, 0, none⟩ = some (.slice a4 n p4) ∧ X.cell? ⟨hb, 0, none⟩ = some (.slice a5 n p5))) (k := 6) (by kernel_rfl) ?_
    refine wpAnyU_take (i := 0) (v := ?_) [1, 3, 5, 6, 7, 8] rfl (by kernel_rfl) (by kernel_rfl) (by kernel_rfl) (by kernel_rfl) (by kernel_rfl) (by kernel_rfl) (by kernel_rfl) (fun _ _ _ h => h) (Or.inl ⟨by kernel_rfl, ?_⟩) ⟨x1, x2, x3⟩ ?_
    rotate_left
    · intro w hSw; (try dsimp only at hSw); go_simp; try with_reducible rfl
    refine wpAnyU_take (i := 2) (v := ?_) [3, 5, 6, 7, 8] rfl (by kernel_rfl) (by kernel_rfl) (by kernel_rfl) (by kernel_rfl) (by kernel_rfl) (by kernel_rfl) (by kernel_rfl) (fun _ _ _ h => h) (Or.inl ⟨by kernel_rfl, ?_⟩) ⟨x1, x2, x3⟩ ?_
    rotate_left
    · intro w hSw; (try dsimp only at hSw); go_simp; try with_reducible rfl
    refine wpAnyU_take (i := 4) (v := ?_) [5, 6, 7, 8] rfl (by kernel_rfl) (by kernel_rfl) (by kernel_rfl) (by kernel_rfl) (by kernel_rfl) (by kernel_rfl) (by kernel_rfl) (fun _ _ _ h => h) (Or.inl ⟨by kernel_rfl, ?_⟩) ⟨x1, x2, x3⟩ ?_
    rotate_left
    · intro w hSw; (try dsimp only at hSw); go_simp; try with_reducible rfl
    refine wpAnyU_one (i := 1) (by kernel_rfl) rfl (fun K' hK => ?_)
    go_simp
    go_at_call 24
    refine (HU1.out _ HCU.out).mono ?_
    rintro e w6 ⟨rfl, f1, b1⟩
    have HF1 := Lib.hid (And.intro f1 (And.intro b1 HCU.out))
    replace HCU := Lib.hid (HCU.out.trans (b1.mono HCU.out.size))
    refine hK.out _ _ (fun _ _ => HCEL.out _ HCU.out) ?_
    clear hK K' f1 b1
    refine wpAnyU_one (i := 3) (by kernel_rfl) rfl (fun K' hK => ?_)
    go_simp
    go_at_call 24
    refine (HU3.out _ HCU.out).mono ?_
    rintro e w7 ⟨rfl, f3, b3⟩
    have HF3 := Lib.hid (And.intro f3 (And.intro b3 HCU.out))
    replace HCU := Lib.hid (HCU.out.trans (b3.mono HCU.out.size))
    refine hK.out _ _ (fun _ _ => HCEL.out _ HCU.out) ?_
    clear hK K' f3 b3
    refine wpAnyU_one (i := 5) (by kernel_rfl) rfl (fun K' hK => ?_)
    go_simp
    go_at_call 24
    refine (HU5.out _ HCU.out).mono ?_
    rintro e w8 ⟨rfl, f5, b5⟩
    have HF5 := Lib.hid (And.intro f5 (And.intro b5 HCU.out))
    replace HCU := Lib.hid (HCU.out.trans (b5.mono HCU.out.size))
    refine hK.out _ _ (fun _ _ => HCEL.out _ HCU.out) ?_
    clear hK K' f5 b5
    have v1 := HCEL.out _ HCU.out
    obtain ⟨v1, v2, v3⟩ := v1
    have hfz := HFZ.out _ HCU.out
    obtain ⟨z1, z2, z3⟩ := hfz
    obtain ⟨_, _, d1, d2, _⟩ := HR4.out.ord
    have d3 : lb ≠ bb := by omega
    have d4 : hb ≠ bb := by omega
    have d5 : hb ≠ lb := by omega
    clear d1 d2
    refine wpAnyU_one (i := 6) (by kernel_rfl) rfl (fun K' hK => ?_)
    go_simp
    refine hK.out _ _ (fun _ h => absurd rfl h) ?_
    clear hK K'
    refine wpAnyU_one (i := 7) (by kernel_rfl) rfl (fun K' hK => ?_)
    go_simp
    refine hK.out _ _ (fun h _ => absurd (h.symm.trans (by kernel_rfl) : false = true) (by decide)) ?_
    clear hK K'
    refine wpAnyU_one (i := 8) (by kernel_rfl) rfl (fun K' hK => ?_)
    go_simp
    refine hK.out _ _ (fun h _ => absurd (h.symm.trans (by kernel_rfl) : false = true) (by decide)) ?_
    clear hK K'
    refine wpAnyU_done (by kernel_rfl) ?_ _
    refine NoPanic.normal ?_
    go_wp2_with fail
    go_meet
    exact ⟨W.heap.size, w6.heap.size, w7.heap.size, R5.make (W' := W.drew) HB0.out HF1.out HF3.out HF5.out rfl rfl rfl⟩
  case rest =>
    obtain ⟨bs, lo, hi0, hR⟩ := hcut
    have HR5 := Lib.hid hR
    have HG2 := Lib.hid (used_calls wc a2 n p2 t.G true (HA.out.2.1.of_below hR.low (Nat.le_refl _)) HK.out.2.1 HNB.out)
    have HG3 : Hid (∀ X, Below wc.heap.size wc X → Calls Try.prog 24 #[.slice a3 n p3, .bool true] X fun e w' => e = .returned (.slice (some ⟨X.heap.size, 0, none⟩) n n) ∧ Fl w' X.heap.size n t.s ∧ Below X.heap.size X w') := Lib.hid (fun X b => used_calls X a3 n p3 t.S true (HA.out.2.2.1.of_below (HR5.out.low.trans (b.mono HR5.out.low.size)) (Nat.le_refl _)) HK.out.2.2.1 HNB.out)
    have hmk := make_fl n (by have := HNB.out; omega)
    have hmb := make_b n (by have := HNB.out; omega)
    have cn := cell_blk hR.n' 0 rfl
    clear hR HU1 HU3 HU5 HCEL HFZ HR4 HB0
    go_upto_region 8 with (first | (have hh := q6; go_at_call 24; refine (HG3.out _ HW6.out.2).mono ?_; rintro e w7 ⟨rfl, f7, b7⟩; have HW7 := Lib.hid (And.intro f7 b7); have cn7 := cell_blk ((((HW6.out.2.trans (b7.mono HW6.out.2.size)).block _ (lt_of_some HR5.out.n'))).trans HR5.out.n') 0 rfl; clear f7 b7) | (go_at_call 24; refine HG2.out.mono ?_; rintro e w6 ⟨rfl, f6, b6⟩; have HW6 := Lib.hid (And.intro f6 b6); clear f6 b6; have q6 : True := trivial))
    have hst := StW.make (by rw [HN.out.2] at HR5; exact HR5.out) HW6.out.1 HW6.out.2 HW7.out.1 HW7.out.2
    have hz0 : Fl ((w7.alloc (.cells (vc n (fun _ => 0)) 23)).alloc (.cells #[.slice (some ⟨w7.heap.size, 0, none⟩) n n] 24)) w7.heap.size n (fun _ => 0) := alloc_blk (Go.heap_alloc_new w7 _) _
    obtain ⟨W0, hW0⟩ : ∃ x, x = ((w7.alloc (.cells (vc n (fun _ => 0)) 23)).alloc (.cells #[.slice (some ⟨w7.heap.size, 0, none⟩) n n] 24)) := ⟨_, rfl⟩
    rw [← hW0] at hst hz0 ⊢
    obtain ⟨sb, hsb⟩ : ∃ x, x = w7.heap.size + 1 := ⟨_, rfl⟩
    rw [← hsb] at hst ⊢
    obtain ⟨sz, hsz⟩ : ∃ x, x = w7.heap.size := ⟨_, rfl⟩
    rw [← hsz] at hst hz0 ⊢
    obtain ⟨gr, hgr⟩ : ∃ x, x = wc.heap.size := ⟨_, rfl⟩
    rw [← hgr] at hst ⊢
    obtain ⟨sh, hsh⟩ : ∃ x, x = w6.heap.size := ⟨_, rfl⟩
    rw [← hsh] at hst ⊢
    have HST := Lib.hid hst
    have HZ0 := Lib.hid hz0
    clear hW0 hsb hsz hgr hsh cn cn7 HG2 HG3 q6 HR5 HW6 HW7 hst hz0 HA HK HU
    -- the sizes, held between their bounds
    have HSUM := Lib.hid (fun i (hi : i < n) => HT.out.sum i (by rw [← HN.out.1]; exact hi))
    have HBT : Hid (∀ i, i < n → ∀ X, Calls Try.prog 25 #[fl (t.l i), fl (t.b i), fl (t.h i)] X fun e w' => e = .returned (fl (t.Sz0 i)) ∧ X = w') := Lib.hid (fun i hi X => by
      have hi' : i < t.n := by rw [← HN.out.1]; exact hi
      exact btwB_calls X (t.l i) (t.b i) (t.h i) (usedF_bd (HT.out.L i hi')).num (usedF_bd (HT.out.B i hi')).num (usedF_bd (HT.out.H i hi')).num)
    obtain ⟨A, hA⟩ : ∃ A, A = sumF t.Sz0 := ⟨_, rfl⟩
    have hA0 : A 0 = 0 := by rw [hA]; rfl
    rw [← hA] at HSUM
    have HAA := Lib.hid hA
    clear hA
    have cnb := cell_blk HST.out.n' 0 rfl
    go_wp2_with fail
    go_loopg [16, 68] n (fun m v u wr => ∃ i : Nat, u = .int .i64 (i : Int) ∧ v = fl (A i) ∧ Hid (i + m = n ∧ Onl (fun k => k = sz ∨ sb < k) W0 wr) ∧ Fl wr sz n (fun j => if j < i then t.Sz0 j else 0))
    case atStart => exact ⟨0, rfl, by rw [hA0], Lib.hid ⟨by omega, Onl.refl _ _⟩, HZ0.out.congr (fun j _ => by simp)⟩
    case round =>
      obtain ⟨i, rfl, rfl, hw, hx⟩ := hrel
      have hsum := hw.out.1
      have HO := Lib.hid hw.out.2
      have HX := Lib.hid hx
      clear hw hx cnb
      have hn := HNB.out
      have q0 : IntKind.i64.wrap ((i : Int) + 1) = (i : Int) + 1 := IntWalk.i64_in _ (by omega)
      have hS := HST.out.onl HO.out
      by_cases hi : i < n
      · have HM : Hid (gk - 1 < gk) := Lib.hid (by omega)
        have HSM : Hid (i + 1 + (gk - 1) = n) := Lib.hid (by omega)
        have hb0 := HBT.out i hi
        obtain ⟨o1, o2, o3, o4, o5, o6, o7, o8, o9, o10, o11, o12, o13⟩ := hS.ord
        have c1 : wr.drew.cell? ⟨sb, 0, none⟩ = some (.slice (some ⟨sz, 0, none⟩) n n) := cell_blk hS.s 0 rfl
        have c2 : wr.drew.cell? ⟨lb, 0, none⟩ = some (.slice (some ⟨lo, 0, none⟩) n n) := cell_blk hS.l 0 rfl
        have c3 : wr.drew.cell? ⟨bb, 0, none⟩ = some (.slice (some ⟨bs, 0, none⟩) n n) := cell_blk hS.b 0 rfl
        have c4 : wr.drew.cell? ⟨hb, 0, none⟩ = some (.slice (some ⟨hi0, 0, none⟩) n n) := cell_blk hS.h 0 rfl
        have c5 : wr.drew.cell? ⟨lo, i, none⟩ = some (fl (t.l i)) := hS.fl.cell hi
        have c6 : wr.drew.cell? ⟨bs, i, none⟩ = some (fl (t.b i)) := hS.fb.cell hi
        have c7 : wr.drew.cell? ⟨hi0, i, none⟩ = some (fl (t.h i)) := hS.fh.cell hi
        have z0 : wr.drew.cell? ⟨sz, i, none⟩ = some (fl 0) := by have := HX.out.cell hi; rwa [if_neg (Nat.lt_irrefl i)] at this
        have zf : wr.drew.frozen? ⟨sz, i, none⟩ = false := free_blk HX.out i
        have ne := fun (b k : Nat) (u v : Value) (hb : b ≠ sz) (hc : wr.cell? ⟨b, k, none⟩ = some u) => (set_cell_ne (w := wr) (a := ⟨sz, i, none⟩) (p := ⟨b, k, none⟩) v hb).trans hc
        have y1 : (wr.setCell ⟨sz, i, none⟩ (fl (t.Sz0 i))).drew.cell? ⟨sb, 0, none⟩ = _ := ne _ _ _ _ (show sb ≠ sz by omega) c1
        have y2 : (wr.setCell ⟨sz, i, none⟩ (fl (t.Sz0 i))).drew.cell? ⟨lb, 0, none⟩ = _ := ne _ _ _ _ (show lb ≠ sz by omega) c2
        have y3 : (wr.setCell ⟨sz, i, none⟩ (fl (t.Sz0 i))).drew.cell? ⟨bb, 0, none⟩ = _ := ne _ _ _ _ (show bb ≠ sz by omega) c3
        have y4 : (wr.setCell ⟨sz, i, none⟩ (fl (t.Sz0 i))).drew.cell? ⟨hb, 0, none⟩ = _ := ne _ _ _ _ (show hb ≠ sz by omega) c4
        have y5 : (wr.setCell ⟨sz, i, none⟩ (fl (t.Sz0 i))).drew.cell? ⟨lo, i, none⟩ = _ := ne _ _ _ _ (show lo ≠ sz by omega) c5
        have y6 : (wr.setCell ⟨sz, i, none⟩ (fl (t.Sz0 i))).drew.cell? ⟨bs, i, none⟩ = _ := ne _ _ _ _ (show bs ≠ sz by omega) c6
        have y7 : (wr.setCell ⟨sz, i, none⟩ (fl (t.Sz0 i))).drew.cell? ⟨hi0, i, none⟩ = _ := ne _ _ _ _ (show hi0 ≠ sz by omega) c7
        have HB := Lib.hid hb0
        have hop := hadd (HSUM.out i hi)
        have HI := Lib.hid hi
        have hsz0 : (wr.setCell ⟨sz, i, none⟩ (fl (t.Sz0 i))).drew.cell? ⟨sz, i, none⟩ = some (fl (t.Sz0 i)) := by have := (HX.out.set i (t.Sz0 i)).cell hi; rwa [if_pos rfl] at this
        obtain ⟨v, hv⟩ : ∃ v, v = t.Sz0 i := ⟨_, rfl⟩
        rw [← hv] at y1 y2 y3 y4 y5 y6 y7 HB hop hsz0
        have HV := Lib.hid hv
        clear hv hb0 o1 o2 o3 o4 o5 o6 o7 o8 o9 o10 o11 o12 o13 hS ne
        go_wp2_with fail
        go_region_held3 (fun W => W.cell? ⟨sb, 0, none⟩ = some (.slice (some ⟨sz, 0, none⟩) n n) ∧ W.cell? ⟨lb, 0, none⟩ = some (.slice (some ⟨lo, 0, none⟩) n n) ∧ W.cell? ⟨bb, 0, none⟩ = some (.slice (some ⟨bs, 0, none⟩) n n) ∧ W.cell? ⟨hb, 0, none⟩ = some (.slice (some ⟨hi0, 0, none⟩) n n) ∧ W.cell? ⟨lo, i, none⟩ = some (fl (t.l i)) ∧ W.cell? ⟨bs, i, none⟩ = some (fl (t.b i)) ∧ W.cell? ⟨hi0, i, none⟩ = some (fl (t.h i))) (first | exact ⟨c1, c2, c3, c4, c5, c6, c7⟩ | exact ⟨y1, y2, y3, y4, y5, y6, y7⟩) (first | (go_at_call 25; refine (HB.out _).mono ?_; rintro e w1 ⟨rfl, rfl⟩))
        clear c1 c2 c3 c4 c5 c6 c7 z0 zf y2 y3 y4 y5 y6 y7
        go_wp2_with (simp only [hop])
        go_roundg (gk - 1)
        case measure => exact HM.out
        case rel => exact ⟨i + 1, by go_num, rfl, Lib.hid ⟨HSM.out, (HO.out.set (.inl rfl) _).drew⟩, (HX.out.set i v).congr (fun j hj => by
          by_cases e : j = i
          · subst e; rw [if_pos rfl, if_pos (Nat.lt_succ_self _)]; exact HV.out
          · rw [if_neg e]
            by_cases h : j < i
            · have h2 : j < i + 1 := by omega
              rw [if_pos h, if_pos h2]
            · have h2 : ¬ j < i + 1 := by omega
              rw [if_neg h, if_neg h2])⟩
      · have hin : i = n := by omega
        have hx := HX.out
        rw [hin] at hx
        have hx' : Fl wr sz n t.Sz0 := hx.congr (fun j hj => by rw [if_pos hj])
        have HST1 := Lib.hid hS
        have HSZ := Lib.hid hx'
        clear hx hx' hS HX HO HST HZ0 HBT HSUM
        rw [hin]
        clear hi hsum hin i q0
        have hg : t.grow = (FloatKind.f64.format.order (A n) (t.rm) == some .lt) := by rw [HAA.out, HN.out.1]; rfl
        obtain ⟨g, hgg⟩ : ∃ g, g = t.grow := ⟨_, rfl⟩
        have hop : (FloatKind.f64.format.order (A n) (t.rm) == some .lt) = g := by rw [hgg, hg]
        have HG := Lib.hid hgg
        obtain ⟨An, hAn⟩ : ∃ x, x = A n := ⟨_, rfl⟩
        rw [← hAn] at hop ⊢
        clear hg hgg hAn hA0 HAA
        have cr := cell_blk HST1.out.r 0 rfl
        go_upto_if 98 with fail
        obtain ⟨w0, hw0⟩ : ∃ x, x = wr := ⟨_, rfl⟩
        rw [← hw0] at HST1 HSZ ⊢
        clear hw0
        obtain ⟨fc, hfc⟩ : ∃ x, x = if g = true then gr else sh := ⟨_, rfl⟩
        have hfcl : Fl w0 fc n t.fac ∧ hi0 < fc ∧ fc < sz := by
          have hor := HST1.out.ord
          rw [hfc]
          cases g with
          | true => rw [if_pos rfl]; exact ⟨HST1.out.fg.congr (fun j _ => by unfold Told.fac; rw [← HG.out, if_pos rfl]), by omega, by omega⟩
          | false => rw [if_neg (by decide)]; exact ⟨HST1.out.fs.congr (fun j _ => by unfold Told.fac; rw [← HG.out, if_neg (by decide)]), by omega, by omega⟩
        have HFC := Lib.hid hfcl
        have HFE := Lib.hid hfc
        clear hfcl hfc cr hop
        go_cut [19] (fun v wc => v = .slice (some ⟨fc, 0, none⟩) n n ∧ w0 = wc)
        case first =>
          have h := HFE.out
          cases g with
          | true =>
            rw [if_pos rfl] at h
            subst h
            go_wp2_with fail
            go_meet
            exact ⟨rfl, rfl⟩
          | false =>
            rw [if_neg (by decide)] at h
            subst h
            go_wp2_with fail
            go_meet
            exact ⟨rfl, rfl⟩
        case rest =>
          obtain ⟨rfl, rfl⟩ := hcut
          clear HFE
          have cnb := cell_blk HST1.out.n' 0 rfl
          have hB0 : Bl ((w0.alloc (.cells (vb n (fun _ => false)) 4)).alloc (.cells #[.slice (some ⟨w0.heap.size, 0, none⟩) n n] 56)) w0.heap.size n (fun _ => false) := alloc_blk (Go.heap_alloc_new w0 _) _
          have hZ0 : ((w0.alloc (.cells (vb n (fun _ => false)) 4)).alloc (.cells #[.slice (some ⟨w0.heap.size, 0, none⟩) n n] 56)).heap[w0.heap.size + 1]? = some (.cells #[.slice (some ⟨w0.heap.size, 0, none⟩) n n] 56 (0, 0)) := by
            have := Go.heap_alloc_new (w0.alloc (.cells (vb n (fun _ => false)) 4)) (.cells #[.slice (some ⟨w0.heap.size, 0, none⟩) n n] 56)
            rwa [show (w0.alloc (.cells (vb n (fun _ => false)) 4)).heap.size = w0.heap.size + 1 by simp] at this
          have hbe : Below w0.heap.size w0 ((w0.alloc (.cells (vb n (fun _ => false)) 4)).alloc (.cells #[.slice (some ⟨w0.heap.size, 0, none⟩) n n] 56)) := ((Below.refl _ w0).alloc (Nat.le_refl _) _).alloc (by simp) _
          go_upto_region 21 with fail
          obtain ⟨W2, hW2⟩ : ∃ x, x = ((w0.alloc (.cells (vb n (fun _ => false)) 4)).alloc (.cells #[.slice (some ⟨w0.heap.size, 0, none⟩) n n] 56)) := ⟨_, rfl⟩
          rw [← hW2] at hB0 hZ0 hbe ⊢
          obtain ⟨zb, hzb⟩ : ∃ x, x = w0.heap.size + 1 := ⟨_, rfl⟩
          rw [← hzb] at hZ0 ⊢
          have hfzb : sb < w0.heap.size := HST1.out.ord.2.2.2.2.2.2.2.2.2.2.2.2
          have hst2 := HST1.out.onl (Onl.of_below hbe)
          have hsz2 : Fl W2 sz n t.Sz0 := (hbe.block _ HSZ.out.lt).trans HSZ.out
          have hfc2 : Fl W2 fc n t.fac := (hbe.block _ HFC.out.1.lt).trans HFC.out.1
          obtain ⟨fz, hfz⟩ : ∃ x, x = w0.heap.size := ⟨_, rfl⟩
          rw [← hfz] at hB0 hZ0 hfzb hzb ⊢
          have HID := Lib.hid (And.intro hfzb (And.intro hzb HFC.out.2))
          have HST2 := Lib.hid hst2
          have HR2 := Lib.hid (And.intro hsz2 (And.intro hfc2 hZ0))
          have HB2 := Lib.hid hB0
          clear hB0 hZ0 hbe hW2 hzb hfzb hst2 hsz2 hfc2 hfz HST1 HSZ HFC cnb
          have cnb := cell_blk HST2.out.n' 0 rfl
          go_wp2_with fail
          go_loopg [21, 103] n (fun m v u wr => ∃ i : Nat, u = .int .i64 (i : Int) ∧ v = .int .i64 (cnt i t.Fz0 : Int) ∧ Hid (i + m = n ∧ Onl (fun k => k = fz) W2 wr) ∧ Bl wr fz n (fun j => if j < i then t.Fz0 j else false))
          case atStart => exact ⟨0, rfl, rfl, Lib.hid ⟨by omega, Onl.refl _ _⟩, HB2.out.congr (fun j _ => by simp)⟩
          case round =>
            obtain ⟨i, rfl, rfl, hw, hx⟩ := hrel
            have hsum := hw.out.1
            have HO := Lib.hid hw.out.2
            have HX := Lib.hid hx
            clear hw hx cnb
            have hn := HNB.out
            have q0 : IntKind.i64.wrap ((i : Int) + 1) = (i : Int) + 1 := IntWalk.i64_in _ (by omega)
            have hcl := cnt_le i t.Fz0
            have q1 : IntKind.i64.wrap ((cnt i t.Fz0 : Int) + 1) = (cnt i t.Fz0 : Int) + 1 := IntWalk.i64_in _ (by omega)
            have hS := HST2.out.onl (HO.out.mono (fun k hk => by rw [hk]; exact .inr HID.out.1))
            by_cases hi : i < n
            · have HM : Hid (gk - 1 < gk) := Lib.hid (by omega)
              have HSM : Hid (i + 1 + (gk - 1) = n) := Lib.hid (by omega)
              obtain ⟨o1, o2, o3, o4, o5, o6, o7, o8, o9, o10, o11, o12, o13⟩ := HST2.out.ord
              obtain ⟨j1, j2, j3, j4⟩ := HID.out
              have c1 : wr.drew.cell? ⟨zb, 0, none⟩ = some (.slice (some ⟨fz, 0, none⟩) n n) := cell_blk (HO.out.block _ _ (show zb ≠ fz by omega) HR2.out.2.2) 0 rfl
              have c2 : wr.drew.cell? ⟨fc, i, none⟩ = some (fl (t.fac i)) := (HO.out.fl HR2.out.2.1 (show fc ≠ fz by omega)).cell hi
              have c3 : wr.drew.cell? ⟨bb, 0, none⟩ = some (.slice (some ⟨bs, 0, none⟩) n n) := cell_blk hS.b 0 rfl
              have c4 : wr.drew.cell? ⟨bs, i, none⟩ = some (fl (t.b i)) := hS.fb.cell hi
              have c5 : wr.drew.cell? ⟨sb, 0, none⟩ = some (.slice (some ⟨sz, 0, none⟩) n n) := cell_blk hS.s 0 rfl
              have c6 : wr.drew.cell? ⟨sz, i, none⟩ = some (fl (t.Sz0 i)) := (HO.out.fl HR2.out.1 (show sz ≠ fz by omega)).cell hi
              have z0 : wr.drew.cell? ⟨fz, i, none⟩ = some (.bool false) := by have := HX.out.cell hi; rwa [if_neg (Nat.lt_irrefl i)] at this
              have zf : wr.drew.frozen? ⟨fz, i, none⟩ = false := free_blk HX.out i
              have ne := fun (b k : Nat) (u v : Value) (hb : b ≠ fz) (hc : wr.cell? ⟨b, k, none⟩ = some u) => (set_cell_ne (w := wr) (a := ⟨fz, i, none⟩) (p := ⟨b, k, none⟩) v hb).trans hc
              have HY : Hid (∀ v : Bool, _ ∧ _ ∧ _ ∧ _ ∧ _ ∧ _) := Lib.hid (fun v : Bool => And.intro (show (wr.setCell ⟨fz, i, none⟩ (.bool v)).drew.cell? ⟨zb, 0, none⟩ = _ from ne _ _ _ _ (show zb ≠ fz by omega) c1) (And.intro (show (wr.setCell ⟨fz, i, none⟩ (.bool v)).drew.cell? ⟨fc, i, none⟩ = _ from ne _ _ _ _ (show fc ≠ fz by omega) c2) (And.intro (show (wr.setCell ⟨fz, i, none⟩ (.bool v)).drew.cell? ⟨bb, 0, none⟩ = _ from ne _ _ _ _ (show bb ≠ fz by omega) c3) (And.intro (show (wr.setCell ⟨fz, i, none⟩ (.bool v)).drew.cell? ⟨bs, i, none⟩ = _ from ne _ _ _ _ (show bs ≠ fz by omega) c4) (And.intro (show (wr.setCell ⟨fz, i, none⟩ (.bool v)).drew.cell? ⟨sb, 0, none⟩ = _ from ne _ _ _ _ (show sb ≠ fz by omega) c5) (show (wr.setCell ⟨fz, i, none⟩ (.bool v)).drew.cell? ⟨sz, i, none⟩ = _ from ne _ _ _ _ (show sz ≠ fz by omega) c6))))))
              have HZV : Hid (∀ v : Bool, (wr.setCell ⟨fz, i, none⟩ (.bool v)).drew.cell? ⟨fz, i, none⟩ = some (.bool v)) := Lib.hid (fun v => by have := (HX.out.set i v).cell hi; rwa [if_pos rfl] at this)
              obtain ⟨e0, he0⟩ : ∃ b, (FloatKind.f64.format.order (t.fac i) 0 == some .eq) = b := ⟨_, rfl⟩
              obtain ⟨e1, he1⟩ : ∃ b, (FloatKind.f64.format.order (t.b i) (t.Sz0 i) == some .gt) = b := ⟨_, rfl⟩
              obtain ⟨e2, he2⟩ : ∃ b, (FloatKind.f64.format.order (t.b i) (t.Sz0 i) == some .lt) = b := ⟨_, rfl⟩
              have E0 : eqD (t.fac i) 0 = e0 := he0
              have E1 : gtD (t.b i) (t.Sz0 i) = e1 := he1
              have E2 : ltD (t.b i) (t.Sz0 i) = e2 := he2
              have EG := HG.out
              have HEE := Lib.hid (And.intro E0 (And.intro E1 (And.intro E2 EG)))
              clear o1 o2 o3 o4 o5 o6 o7 o8 o9 o10 o11 o12 o13 j1 j2 j3 j4 hS ne E0 E1 E2 EG hcl
              cases e0 with
              | true =>
                obtain ⟨y1, y2, y3, y4, y5, y6⟩ := HY.out true
                have hzv := HZV.out true
                go_wp2_with fail
                refine wp_region_noPanic ?_
                refine wp_region_held_drew (S := (fun W => W.cell? ⟨zb, 0, none⟩ = some (.slice (some ⟨fz, 0, none⟩) n n) ∧ W.cell? ⟨fc, i, none⟩ = some (fl (t.fac i)) ∧ W.cell? ⟨bb, 0, none⟩ = some (.slice (some ⟨bs, 0, none⟩) n n) ∧ W.cell? ⟨bs, i, none⟩ = some (fl (t.b i)) ∧ W.cell? ⟨sb, 0, none⟩ = some (.slice (some ⟨sz, 0, none⟩) n n) ∧ W.cell? ⟨sz, i, none⟩ = some (fl (t.Sz0 i)))) (by kernel_rfl) ⟨c1, c2, c3, c4, c5, c6⟩ (fun hHeld => ?_)
                refine wpAnyH_take (i := 0) (v := ?_) rfl (by kernel_rfl) (by kernel_rfl) (by kernel_rfl) (fun _ _ _ h => h) (Or.inl ⟨by kernel_rfl, ?_⟩) (by assumption) ?_
                rotate_left
                · intro w hSw; (try dsimp only at hSw); go_simp; try with_reducible rfl
                refine wpAnyH_take (i := 1) (v := ?_) rfl (by kernel_rfl) (by kernel_rfl) (by kernel_rfl) (fun _ _ _ h => h) (Or.inl ⟨by kernel_rfl, ?_⟩) (by assumption) ?_
                rotate_left
                · intro w hSw; (try dsimp only at hSw); go_simp; try with_reducible rfl
                refine wpAnyH_take (i := 2) (v := ?_) rfl (by kernel_rfl) (by kernel_rfl) (by kernel_rfl) (fun _ _ _ h => h) (Or.inl ⟨by kernel_rfl, ?_⟩) (by assumption) ?_
                rotate_left
                · intro w hSw; (try dsimp only at hSw); go_simp; try with_reducible rfl
                refine wpAnyH_take (i := 3) (v := ?_) rfl (by kernel_rfl) (by kernel_rfl) (by kernel_rfl) (fun _ _ _ h => h) (Or.inl ⟨by kernel_rfl, ?_⟩) (by assumption) ?_
                rotate_left
                · intro w hSw; (try dsimp only at hSw); go_simp; try with_reducible rfl
                refine wpAnyH_take (i := 4) (v := ?_) rfl (by kernel_rfl) (by kernel_rfl) (by kernel_rfl) (fun _ _ _ h => h) (Or.inl ⟨by kernel_rfl, ?_⟩) (by assumption) ?_
                rotate_left
                · intro w hSw; (try dsimp only at hSw); go_simp; try with_reducible rfl
                refine wpAnyH_take (i := 5) (v := ?_) rfl (by kernel_rfl) (by kernel_rfl) (by kernel_rfl) (fun _ _ _ h => h) (Or.inl ⟨by kernel_rfl, ?_⟩) (by assumption) ?_
                rotate_left
                · intro w hSw; (try dsimp only at hSw); go_simp; try with_reducible rfl
                refine wpAnyH_take (i := 6) (v := ?_) rfl (by kernel_rfl) (by kernel_rfl) (by kernel_rfl) (fun _ _ _ h => h) (Or.inl ⟨by kernel_rfl, ?_⟩) (by assumption) ?_
                rotate_left
                · intro w hSw; (try dsimp only at hSw); go_simp; try with_reducible rfl
                refine wpAnyH_take (i := 7) (v := ?_) rfl (by kernel_rfl) (by kernel_rfl) (by kernel_rfl) (fun _ _ _ h => h) (Or.inl ⟨by kernel_rfl, ?_⟩) (by assumption) ?_
                rotate_left
                · intro w hSw; (try dsimp only at hSw); go_simp; try with_reducible rfl
                refine wpAnyH_take (i := 8) rfl (by kernel_rfl) (by kernel_rfl) (by kernel_rfl) (fun _ _ _ h => h) (Or.inr ⟨by kernel_rfl, rfl⟩) (by assumption) ?_
                refine wpAnyH_take (i := 9) rfl (by kernel_rfl) (by kernel_rfl) (by kernel_rfl) (fun _ _ _ h => h) (Or.inr ⟨by kernel_rfl, rfl⟩) (by assumption) ?_
                refine wpAnyH_take (i := 10) rfl (by kernel_rfl) (by kernel_rfl) (by kernel_rfl) (fun _ _ _ h => h) (Or.inr ⟨by kernel_rfl, rfl⟩) (by assumption) ?_
                refine wpAnyH_take (i := 11) rfl (by kernel_rfl) (by kernel_rfl) (by kernel_rfl) (fun _ _ _ h => h) (Or.inr ⟨by kernel_rfl, rfl⟩) (by assumption) ?_
                refine wpAnyH_take (i := 12) rfl (by kernel_rfl) (by kernel_rfl) (by kernel_rfl) (fun _ _ _ h => h) (Or.inr ⟨by kernel_rfl, rfl⟩) (by assumption) ?_
                refine wpAnyH_take (i := 13) rfl (by kernel_rfl) (by kernel_rfl) (by kernel_rfl) (fun _ _ _ h => h) (Or.inr ⟨by kernel_rfl, rfl⟩) (by assumption) ?_
                refine wpAnyH_take (i := 14) rfl (by kernel_rfl) (by kernel_rfl) (by kernel_rfl) (fun _ _ _ h => h) (Or.inr ⟨by kernel_rfl, rfl⟩) (by assumption) ?_
                refine wpAnyH_take (i := 15) rfl (by kernel_rfl) (by kernel_rfl) (by kernel_rfl) (fun _ _ _ h => h) (Or.inr ⟨by kernel_rfl, rfl⟩) (by assumption) ?_
                refine wpAnyH_take (i := 16) rfl (by kernel_rfl) (by kernel_rfl) (by kernel_rfl) (fun _ _ _ h => h) (Or.inr ⟨by kernel_rfl, rfl⟩) (by assumption) ?_
                refine wpAnyH_take (i := 17) rfl (by kernel_rfl) (by kernel_rfl) (by kernel_rfl) (fun _ _ _ h => h) (Or.inr ⟨by kernel_rfl, rfl⟩) (by assumption) ?_
                refine wpAnyH_take (i := 18) rfl (by kernel_rfl) (by kernel_rfl) (by kernel_rfl) (fun _ _ _ h => h) (Or.inr ⟨by kernel_rfl, rfl⟩) (by assumption) ?_
                refine wpAnyH_take (i := 19) rfl (by kernel_rfl) (by kernel_rfl) (by kernel_rfl) (fun _ _ _ h => h) (Or.inr ⟨by kernel_rfl, rfl⟩) (by assumption) ?_
                refine wpAnyH_take (i := 20) (v := ?_) rfl (by kernel_rfl) (by kernel_rfl) (by kernel_rfl) (fun _ _ _ h => h) (Or.inl ⟨by kernel_rfl, ?_⟩) (by assumption) ?_
                rotate_left
                · intro w hSw; (try dsimp only at hSw); go_simp; try with_reducible rfl
                refine wpAnyH_take (i := 21) (v := ?_) rfl (by kernel_rfl) (by kernel_rfl) (by kernel_rfl) (fun _ _ _ h => h) (Or.inl ⟨by kernel_rfl, ?_⟩) (by assumption) ?_
                rotate_left
                · intro w hSw; (try dsimp only at hSw); go_simp; try with_reducible rfl
                refine wpAnyH_take (i := 22) rfl (by kernel_rfl) (by kernel_rfl) (by kernel_rfl) (fun _ _ _ h => h) (Or.inr ⟨by kernel_rfl, rfl⟩) (by assumption) ?_
                refine wpAnyH_take (i := 23) rfl (by kernel_rfl) (by kernel_rfl) (by kernel_rfl) (fun _ _ _ h => h) (Or.inr ⟨by kernel_rfl, rfl⟩) (by assumption) ?_
                refine wpAnyH_take (i := 24) rfl (by kernel_rfl) (by kernel_rfl) (by kernel_rfl) (fun _ _ _ h => h) (Or.inr ⟨by kernel_rfl, rfl⟩) (by assumption) ?_
                refine wpAnyH_take (i := 25) rfl (by kernel_rfl) (by kernel_rfl) (by kernel_rfl) (fun _ _ _ h => h) (Or.inr ⟨by kernel_rfl, rfl⟩) (by assumption) ?_
                refine wpAnyH_take (i := 26) rfl (by kernel_rfl) (by kernel_rfl) (by kernel_rfl) (fun _ _ _ h => h) (Or.inr ⟨by kernel_rfl, rfl⟩) (by assumption) ?_
                refine wpAnyH_take (i := 27) rfl (by kernel_rfl) (by kernel_rfl) (by kernel_rfl) (fun _ _ _ h => h) (Or.inr ⟨by kernel_rfl, rfl⟩) (by assumption) ?_
                refine wpAnyH_take (i := 28) rfl (by kernel_rfl) (by kernel_rfl) (by kernel_rfl) (fun _ _ _ h => h) (Or.inr ⟨by kernel_rfl, rfl⟩) (by assumption) ?_
                refine wpAnyH_take (i := 29) rfl (by kernel_rfl) (by kernel_rfl) (by kernel_rfl) (fun _ _ _ h => h) (Or.inr ⟨by kernel_rfl, rfl⟩) (by assumption) ?_
                refine wpAnyH_take (i := 30) rfl (by kernel_rfl) (by kernel_rfl) (by kernel_rfl) (fun _ _ _ h => h) (Or.inr ⟨by kernel_rfl, rfl⟩) (by assumption) ?_
                refine wpAnyH_take (i := 31) rfl (by kernel_rfl) (by kernel_rfl) (by kernel_rfl) (fun _ _ _ h => h) (Or.inr ⟨by kernel_rfl, rfl⟩) (by assumption) ?_
                refine wpAnyH_take (i := 32) rfl (by kernel_rfl) (by kernel_rfl) (by kernel_rfl) (fun _ _ _ h => h) (Or.inr ⟨by kernel_rfl, rfl⟩) (by assumption) ?_
                refine wpAnyH_take (i := 33) rfl (by kernel_rfl) (by kernel_rfl) (by kernel_rfl) (fun _ _ _ h => h) (Or.inr ⟨by kernel_rfl, rfl⟩) (by assumption) ?_
                refine wpAnyH_take (i := 34) rfl (by kernel_rfl) (by kernel_rfl) (by kernel_rfl) (fun _ _ _ h => h) (Or.inr ⟨by kernel_rfl, rfl⟩) (by assumption) ?_
                refine wpAnyH_take (i := 35) (v := ?_) rfl (by kernel_rfl) (by kernel_rfl) (by kernel_rfl) (fun _ _ _ h => h) (Or.inl ⟨by kernel_rfl, ?_⟩) (by assumption) ?_
                rotate_left
                · intro w hSw; (try dsimp only at hSw); go_simp; try with_reducible rfl
                refine wpAnyH_take (i := 36) (v := ?_) rfl (by kernel_rfl) (by kernel_rfl) (by kernel_rfl) (fun _ _ _ h => h) (Or.inl ⟨by kernel_rfl, ?_⟩) (by assumption) ?_
                rotate_left
                · intro w hSw; (try dsimp only at hSw); go_simp; try with_reducible rfl
                refine wpAnyH_ready (rs := [37]) (by kernel_rfl) (by simp) ?_
                refine AllReadyH.cons rfl (fun K' hK => ?_) AllReadyH.nil
                go_simp
                refine hK.out _ _ ⟨y1, y2, y3, y4, y5, y6⟩ (fun hHeld => ?_)
                clear hK K'
                refine wpAnyH_done (by kernel_rfl) ?_ _
                refine NoPanic.normal ?_
                clear c1 c2 c3 c4 c5 c6 z0 zf y2 y3 y4 y5 y6
                go_wp2_with fail
                go_roundg (gk - 1)
                case measure => exact HM.out
                case rel => exact ⟨i + 1, by go_num, by rw [cntF_true (by unfold Told.Fz0; rw [HEE.out.1]; rfl)], Lib.hid ⟨HSM.out, (HO.out.set rfl _).drew⟩, (HX.out.set i true).congr (fun j hj => nextB (by unfold Told.Fz0; rw [HEE.out.1]; rfl) j)⟩
              | false =>
                cases g with
                | true =>
                  cases e1 with
                  | true =>
                    obtain ⟨y1, y2, y3, y4, y5, y6⟩ := HY.out true
                    have hzv := HZV.out true
                    go_wp2_with fail
                    refine wp_region_noPanic ?_
                    refine wp_region_held_drew (S := (fun W => W.cell? ⟨zb, 0, none⟩ = some (.slice (some ⟨fz, 0, none⟩) n n) ∧ W.cell? ⟨fc, i, none⟩ = some (fl (t.fac i)) ∧ W.cell? ⟨bb, 0, none⟩ = some (.slice (some ⟨bs, 0, none⟩) n n) ∧ W.cell? ⟨bs, i, none⟩ = some (fl (t.b i)) ∧ W.cell? ⟨sb, 0, none⟩ = some (.slice (some ⟨sz, 0, none⟩) n n) ∧ W.cell? ⟨sz, i, none⟩ = some (fl (t.Sz0 i)))) (by kernel_rfl) ⟨c1, c2, c3, c4, c5, c6⟩ (fun hHeld => ?_)
                    refine wpAnyH_take (i := 0) (v := ?_) rfl (by kernel_rfl) (by kernel_rfl) (by kernel_rfl) (fun _ _ _ h => h) (Or.inl ⟨by kernel_rfl, ?_⟩) (by assumption) ?_
                    rotate_left
                    · intro w hSw; (try dsimp only at hSw); go_simp; try with_reducible rfl
                    refine wpAnyH_take (i := 1) (v := ?_) rfl (by kernel_rfl) (by kernel_rfl) (by kernel_rfl) (fun _ _ _ h => h) (Or.inl ⟨by kernel_rfl, ?_⟩) (by assumption) ?_
                    rotate_left
                    · intro w hSw; (try dsimp only at hSw); go_simp; try with_reducible rfl
                    refine wpAnyH_take (i := 2) (v := ?_) rfl (by kernel_rfl) (by kernel_rfl) (by kernel_rfl) (fun _ _ _ h => h) (Or.inl ⟨by kernel_rfl, ?_⟩) (by assumption) ?_
                    rotate_left
                    · intro w hSw; (try dsimp only at hSw); go_simp; try with_reducible rfl
                    refine wpAnyH_take (i := 3) (v := ?_) rfl (by kernel_rfl) (by kernel_rfl) (by kernel_rfl) (fun _ _ _ h => h) (Or.inl ⟨by kernel_rfl, ?_⟩) (by assumption) ?_
                    rotate_left
                    · intro w hSw; (try dsimp only at hSw); go_simp; try with_reducible rfl
                    refine wpAnyH_take (i := 4) (v := ?_) rfl (by kernel_rfl) (by kernel_rfl) (by kernel_rfl) (fun _ _ _ h => h) (Or.inl ⟨by kernel_rfl, ?_⟩) (by assumption) ?_
                    rotate_left
                    · intro w hSw; (try dsimp only at hSw); go_simp; try with_reducible rfl
                    refine wpAnyH_take (i := 5) (v := ?_) rfl (by kernel_rfl) (by kernel_rfl) (by kernel_rfl) (fun _ _ _ h => h) (Or.inl ⟨by kernel_rfl, ?_⟩) (by assumption) ?_
                    rotate_left
                    · intro w hSw; (try dsimp only at hSw); go_simp; try with_reducible rfl
                    refine wpAnyH_take (i := 6) (v := ?_) rfl (by kernel_rfl) (by kernel_rfl) (by kernel_rfl) (fun _ _ _ h => h) (Or.inl ⟨by kernel_rfl, ?_⟩) (by assumption) ?_
                    rotate_left
                    · intro w hSw; (try dsimp only at hSw); go_simp; try with_reducible rfl
                    refine wpAnyH_take (i := 7) (v := ?_) rfl (by kernel_rfl) (by kernel_rfl) (by kernel_rfl) (fun _ _ _ h => h) (Or.inl ⟨by kernel_rfl, ?_⟩) (by assumption) ?_
                    rotate_left
                    · intro w hSw; (try dsimp only at hSw); go_simp; try with_reducible rfl
                    refine wpAnyH_take (i := 8) (v := ?_) rfl (by kernel_rfl) (by kernel_rfl) (by kernel_rfl) (fun _ _ _ h => h) (Or.inl ⟨by kernel_rfl, ?_⟩) (by assumption) ?_
                    rotate_left
                    · intro w hSw; (try dsimp only at hSw); go_simp; try with_reducible rfl
                    refine wpAnyH_take (i := 9) (v := ?_) rfl (by kernel_rfl) (by kernel_rfl) (by kernel_rfl) (fun _ _ _ h => h) (Or.inl ⟨by kernel_rfl, ?_⟩) (by assumption) ?_
                    rotate_left
                    · intro w hSw; (try dsimp only at hSw); go_simp; try with_reducible rfl
                    refine wpAnyH_take (i := 10) (v := ?_) rfl (by kernel_rfl) (by kernel_rfl) (by kernel_rfl) (fun _ _ _ h => h) (Or.inl ⟨by kernel_rfl, ?_⟩) (by assumption) ?_
                    rotate_left
                    · intro w hSw; (try dsimp only at hSw); go_simp; try with_reducible rfl
                    refine wpAnyH_take (i := 11) (v := ?_) rfl (by kernel_rfl) (by kernel_rfl) (by kernel_rfl) (fun _ _ _ h => h) (Or.inl ⟨by kernel_rfl, ?_⟩) (by assumption) ?_
                    rotate_left
                    · intro w hSw; (try dsimp only at hSw); go_simp; try with_reducible rfl
                    refine wpAnyH_take (i := 12) (v := ?_) rfl (by kernel_rfl) (by kernel_rfl) (by kernel_rfl) (fun _ _ _ h => h) (Or.inl ⟨by kernel_rfl, ?_⟩) (by assumption) ?_
                    rotate_left
                    · intro w hSw; (try dsimp only at hSw); go_simp; try with_reducible rfl
                    refine wpAnyH_take (i := 13) (v := ?_) rfl (by kernel_rfl) (by kernel_rfl) (by kernel_rfl) (fun _ _ _ h => h) (Or.inl ⟨by kernel_rfl, ?_⟩) (by assumption) ?_
                    rotate_left
                    · intro w hSw; (try dsimp only at hSw); go_simp; try with_reducible rfl
                    refine wpAnyH_take (i := 14) (v := ?_) rfl (by kernel_rfl) (by kernel_rfl) (by kernel_rfl) (fun _ _ _ h => h) (Or.inl ⟨by kernel_rfl, ?_⟩) (by assumption) ?_
                    rotate_left
                    · intro w hSw; (try dsimp only at hSw); go_simp; try with_reducible rfl
                    refine wpAnyH_take (i := 15) (v := ?_) rfl (by kernel_rfl) (by kernel_rfl) (by kernel_rfl) (fun _ _ _ h => h) (Or.inl ⟨by kernel_rfl, ?_⟩) (by assumption) ?_
                    rotate_left
                    · intro w hSw; (try dsimp only at hSw); go_simp; try with_reducible rfl
                    refine wpAnyH_take (i := 16) (v := ?_) rfl (by kernel_rfl) (by kernel_rfl) (by kernel_rfl) (fun _ _ _ h => h) (Or.inl ⟨by kernel_rfl, ?_⟩) (by assumption) ?_
                    rotate_left
                    · intro w hSw; (try dsimp only at hSw); go_simp; try with_reducible rfl
                    refine wpAnyH_take (i := 17) (v := ?_) rfl (by kernel_rfl) (by kernel_rfl) (by kernel_rfl) (fun _ _ _ h => h) (Or.inl ⟨by kernel_rfl, ?_⟩) (by assumption) ?_
                    rotate_left
                    · intro w hSw; (try dsimp only at hSw); go_simp; try with_reducible rfl
                    refine wpAnyH_take (i := 18) (v := ?_) rfl (by kernel_rfl) (by kernel_rfl) (by kernel_rfl) (fun _ _ _ h => h) (Or.inl ⟨by kernel_rfl, ?_⟩) (by assumption) ?_
                    rotate_left
                    · intro w hSw; (try dsimp only at hSw); go_simp; try with_reducible rfl
                    refine wpAnyH_take (i := 19) (v := ?_) rfl (by kernel_rfl) (by kernel_rfl) (by kernel_rfl) (fun _ _ _ h => h) (Or.inl ⟨by kernel_rfl, ?_⟩) (by assumption) ?_
                    rotate_left
                    · intro w hSw; (try dsimp only at hSw); go_simp; try with_reducible rfl
                    refine wpAnyH_take (i := 20) (v := ?_) rfl (by kernel_rfl) (by kernel_rfl) (by kernel_rfl) (fun _ _ _ h => h) (Or.inl ⟨by kernel_rfl, ?_⟩) (by assumption) ?_
                    rotate_left
                    · intro w hSw; (try dsimp only at hSw); go_simp; try with_reducible rfl
                    refine wpAnyH_take (i := 21) (v := ?_) rfl (by kernel_rfl) (by kernel_rfl) (by kernel_rfl) (fun _ _ _ h => h) (Or.inl ⟨by kernel_rfl, ?_⟩) (by assumption) ?_
                    rotate_left
                    · intro w hSw; (try dsimp only at hSw); go_simp; try with_reducible rfl
                    refine wpAnyH_take (i := 22) rfl (by kernel_rfl) (by kernel_rfl) (by kernel_rfl) (fun _ _ _ h => h) (Or.inr ⟨by kernel_rfl, rfl⟩) (by assumption) ?_
                    refine wpAnyH_take (i := 23) rfl (by kernel_rfl) (by kernel_rfl) (by kernel_rfl) (fun _ _ _ h => h) (Or.inr ⟨by kernel_rfl, rfl⟩) (by assumption) ?_
                    refine wpAnyH_take (i := 24) rfl (by kernel_rfl) (by kernel_rfl) (by kernel_rfl) (fun _ _ _ h => h) (Or.inr ⟨by kernel_rfl, rfl⟩) (by assumption) ?_
                    refine wpAnyH_take (i := 25) rfl (by kernel_rfl) (by kernel_rfl) (by kernel_rfl) (fun _ _ _ h => h) (Or.inr ⟨by kernel_rfl, rfl⟩) (by assumption) ?_
                    refine wpAnyH_take (i := 26) rfl (by kernel_rfl) (by kernel_rfl) (by kernel_rfl) (fun _ _ _ h => h) (Or.inr ⟨by kernel_rfl, rfl⟩) (by assumption) ?_
                    refine wpAnyH_take (i := 27) rfl (by kernel_rfl) (by kernel_rfl) (by kernel_rfl) (fun _ _ _ h => h) (Or.inr ⟨by kernel_rfl, rfl⟩) (by assumption) ?_
                    refine wpAnyH_take (i := 28) rfl (by kernel_rfl) (by kernel_rfl) (by kernel_rfl) (fun _ _ _ h => h) (Or.inr ⟨by kernel_rfl, rfl⟩) (by assumption) ?_
                    refine wpAnyH_take (i := 29) rfl (by kernel_rfl) (by kernel_rfl) (by kernel_rfl) (fun _ _ _ h => h) (Or.inr ⟨by kernel_rfl, rfl⟩) (by assumption) ?_
                    refine wpAnyH_take (i := 30) rfl (by kernel_rfl) (by kernel_rfl) (by kernel_rfl) (fun _ _ _ h => h) (Or.inr ⟨by kernel_rfl, rfl⟩) (by assumption) ?_
                    refine wpAnyH_take (i := 31) rfl (by kernel_rfl) (by kernel_rfl) (by kernel_rfl) (fun _ _ _ h => h) (Or.inr ⟨by kernel_rfl, rfl⟩) (by assumption) ?_
                    refine wpAnyH_take (i := 32) rfl (by kernel_rfl) (by kernel_rfl) (by kernel_rfl) (fun _ _ _ h => h) (Or.inr ⟨by kernel_rfl, rfl⟩) (by assumption) ?_
                    refine wpAnyH_take (i := 33) rfl (by kernel_rfl) (by kernel_rfl) (by kernel_rfl) (fun _ _ _ h => h) (Or.inr ⟨by kernel_rfl, rfl⟩) (by assumption) ?_
                    refine wpAnyH_take (i := 34) rfl (by kernel_rfl) (by kernel_rfl) (by kernel_rfl) (fun _ _ _ h => h) (Or.inr ⟨by kernel_rfl, rfl⟩) (by assumption) ?_
                    refine wpAnyH_take (i := 35) (v := ?_) rfl (by kernel_rfl) (by kernel_rfl) (by kernel_rfl) (fun _ _ _ h => h) (Or.inl ⟨by kernel_rfl, ?_⟩) (by assumption) ?_
                    rotate_left
                    · intro w hSw; (try dsimp only at hSw); go_simp; try with_reducible rfl
                    refine wpAnyH_take (i := 36) (v := ?_) rfl (by kernel_rfl) (by kernel_rfl) (by kernel_rfl) (fun _ _ _ h => h) (Or.inl ⟨by kernel_rfl, ?_⟩) (by assumption) ?_
                    rotate_left
                    · intro w hSw; (try dsimp only at hSw); go_simp; try with_reducible rfl
                    refine wpAnyH_ready (rs := [37]) (by kernel_rfl) (by simp) ?_
                    refine AllReadyH.cons rfl (fun K' hK => ?_) AllReadyH.nil
                    go_simp
                    refine hK.out _ _ ⟨y1, y2, y3, y4, y5, y6⟩ (fun hHeld => ?_)
                    clear hK K'
                    refine wpAnyH_done (by kernel_rfl) ?_ _
                    refine NoPanic.normal ?_
                    clear c1 c2 c3 c4 c5 c6 z0 zf y2 y3 y4 y5 y6
                    go_wp2_with fail
                    go_roundg (gk - 1)
                    case measure => exact HM.out
                    case rel => exact ⟨i + 1, by go_num, by rw [cntF_true (by unfold Told.Fz0; rw [HEE.out.1, HEE.out.2.1, HEE.out.2.2.1, ← HEE.out.2.2.2]; rfl)], Lib.hid ⟨HSM.out, (HO.out.set rfl _).drew⟩, (HX.out.set i true).congr (fun j hj => nextB (by unfold Told.Fz0; rw [HEE.out.1, HEE.out.2.1, HEE.out.2.2.1, ← HEE.out.2.2.2]; rfl) j)⟩
                  | false =>
                    obtain ⟨y1, y2, y3, y4, y5, y6⟩ := HY.out false
                    have hzv := HZV.out false
                    go_wp2_with fail
                    refine wp_region_noPanic ?_
                    refine wp_region_held_drew (S := (fun W => W.cell? ⟨zb, 0, none⟩ = some (.slice (some ⟨fz, 0, none⟩) n n) ∧ W.cell? ⟨fc, i, none⟩ = some (fl (t.fac i)) ∧ W.cell? ⟨bb, 0, none⟩ = some (.slice (some ⟨bs, 0, none⟩) n n) ∧ W.cell? ⟨bs, i, none⟩ = some (fl (t.b i)) ∧ W.cell? ⟨sb, 0, none⟩ = some (.slice (some ⟨sz, 0, none⟩) n n) ∧ W.cell? ⟨sz, i, none⟩ = some (fl (t.Sz0 i)))) (by kernel_rfl) ⟨c1, c2, c3, c4, c5, c6⟩ (fun hHeld => ?_)
                    refine wpAnyH_take (i := 0) (v := ?_) rfl (by kernel_rfl) (by kernel_rfl) (by kernel_rfl) (fun _ _ _ h => h) (Or.inl ⟨by kernel_rfl, ?_⟩) (by assumption) ?_
                    rotate_left
                    · intro w hSw; (try dsimp only at hSw); go_simp; try with_reducible rfl
                    refine wpAnyH_take (i := 1) (v := ?_) rfl (by kernel_rfl) (by kernel_rfl) (by kernel_rfl) (fun _ _ _ h => h) (Or.inl ⟨by kernel_rfl, ?_⟩) (by assumption) ?_
                    rotate_left
                    · intro w hSw; (try dsimp only at hSw); go_simp; try with_reducible rfl
                    refine wpAnyH_take (i := 2) (v := ?_) rfl (by kernel_rfl) (by kernel_rfl) (by kernel_rfl) (fun _ _ _ h => h) (Or.inl ⟨by kernel_rfl, ?_⟩) (by assumption) ?_
                    rotate_left
                    · intro w hSw; (try dsimp only at hSw); go_simp; try with_reducible rfl
                    refine wpAnyH_take (i := 3) (v := ?_) rfl (by kernel_rfl) (by kernel_rfl) (by kernel_rfl) (fun _ _ _ h => h) (Or.inl ⟨by kernel_rfl, ?_⟩) (by assumption) ?_
                    rotate_left
                    · intro w hSw; (try dsimp only at hSw); go_simp; try with_reducible rfl
                    refine wpAnyH_take (i := 4) (v := ?_) rfl (by kernel_rfl) (by kernel_rfl) (by kernel_rfl) (fun _ _ _ h => h) (Or.inl ⟨by kernel_rfl, ?_⟩) (by assumption) ?_
                    rotate_left
                    · intro w hSw; (try dsimp only at hSw); go_simp; try with_reducible rfl
                    refine wpAnyH_take (i := 5) (v := ?_) rfl (by kernel_rfl) (by kernel_rfl) (by kernel_rfl) (fun _ _ _ h => h) (Or.inl ⟨by kernel_rfl, ?_⟩) (by assumption) ?_
                    rotate_left
                    · intro w hSw; (try dsimp only at hSw); go_simp; try with_reducible rfl
                    refine wpAnyH_take (i := 6) (v := ?_) rfl (by kernel_rfl) (by kernel_rfl) (by kernel_rfl) (fun _ _ _ h => h) (Or.inl ⟨by kernel_rfl, ?_⟩) (by assumption) ?_
                    rotate_left
                    · intro w hSw; (try dsimp only at hSw); go_simp; try with_reducible rfl
                    refine wpAnyH_take (i := 7) (v := ?_) rfl (by kernel_rfl) (by kernel_rfl) (by kernel_rfl) (fun _ _ _ h => h) (Or.inl ⟨by kernel_rfl, ?_⟩) (by assumption) ?_
                    rotate_left
                    · intro w hSw; (try dsimp only at hSw); go_simp; try with_reducible rfl
                    refine wpAnyH_take (i := 8) (v := ?_) rfl (by kernel_rfl) (by kernel_rfl) (by kernel_rfl) (fun _ _ _ h => h) (Or.inl ⟨by kernel_rfl, ?_⟩) (by assumption) ?_
                    rotate_left
                    · intro w hSw; (try dsimp only at hSw); go_simp; try with_reducible rfl
                    refine wpAnyH_take (i := 9) (v := ?_) rfl (by kernel_rfl) (by kernel_rfl) (by kernel_rfl) (fun _ _ _ h => h) (Or.inl ⟨by kernel_rfl, ?_⟩) (by assumption) ?_
                    rotate_left
                    · intro w hSw; (try dsimp only at hSw); go_simp; try with_reducible rfl
                    refine wpAnyH_take (i := 10) (v := ?_) rfl (by kernel_rfl) (by kernel_rfl) (by kernel_rfl) (fun _ _ _ h => h) (Or.inl ⟨by kernel_rfl, ?_⟩) (by assumption) ?_
                    rotate_left
                    · intro w hSw; (try dsimp only at hSw); go_simp; try with_reducible rfl
                    refine wpAnyH_take (i := 11) (v := ?_) rfl (by kernel_rfl) (by kernel_rfl) (by kernel_rfl) (fun _ _ _ h => h) (Or.inl ⟨by kernel_rfl, ?_⟩) (by assumption) ?_
                    rotate_left
                    · intro w hSw; (try dsimp only at hSw); go_simp; try with_reducible rfl
                    refine wpAnyH_take (i := 12) (v := ?_) rfl (by kernel_rfl) (by kernel_rfl) (by kernel_rfl) (fun _ _ _ h => h) (Or.inl ⟨by kernel_rfl, ?_⟩) (by assumption) ?_
                    rotate_left
                    · intro w hSw; (try dsimp only at hSw); go_simp; try with_reducible rfl
                    refine wpAnyH_take (i := 13) (v := ?_) rfl (by kernel_rfl) (by kernel_rfl) (by kernel_rfl) (fun _ _ _ h => h) (Or.inl ⟨by kernel_rfl, ?_⟩) (by assumption) ?_
                    rotate_left
                    · intro w hSw; (try dsimp only at hSw); go_simp; try with_reducible rfl
                    refine wpAnyH_take (i := 14) (v := ?_) rfl (by kernel_rfl) (by kernel_rfl) (by kernel_rfl) (fun _ _ _ h => h) (Or.inl ⟨by kernel_rfl, ?_⟩) (by assumption) ?_
                    rotate_left
                    · intro w hSw; (try dsimp only at hSw); go_simp; try with_reducible rfl
                    refine wpAnyH_take (i := 15) (v := ?_) rfl (by kernel_rfl) (by kernel_rfl) (by kernel_rfl) (fun _ _ _ h => h) (Or.inl ⟨by kernel_rfl, ?_⟩) (by assumption) ?_
                    rotate_left
                    · intro w hSw; (try dsimp only at hSw); go_simp; try with_reducible rfl
                    refine wpAnyH_take (i := 16) (v := ?_) rfl (by kernel_rfl) (by kernel_rfl) (by kernel_rfl) (fun _ _ _ h => h) (Or.inl ⟨by kernel_rfl, ?_⟩) (by assumption) ?_
                    rotate_left
                    · intro w hSw; (try dsimp only at hSw); go_simp; try with_reducible rfl
                    refine wpAnyH_take (i := 17) (v := ?_) rfl (by kernel_rfl) (by kernel_rfl) (by kernel_rfl) (fun _ _ _ h => h) (Or.inl ⟨by kernel_rfl, ?_⟩) (by assumption) ?_
                    rotate_left
                    · intro w hSw; (try dsimp only at hSw); go_simp; try with_reducible rfl
                    refine wpAnyH_take (i := 18) (v := ?_) rfl (by kernel_rfl) (by kernel_rfl) (by kernel_rfl) (fun _ _ _ h => h) (Or.inl ⟨by kernel_rfl, ?_⟩) (by assumption) ?_
                    rotate_left
                    · intro w hSw; (try dsimp only at hSw); go_simp; try with_reducible rfl
                    refine wpAnyH_take (i := 19) (v := ?_) rfl (by kernel_rfl) (by kernel_rfl) (by kernel_rfl) (fun _ _ _ h => h) (Or.inl ⟨by kernel_rfl, ?_⟩) (by assumption) ?_
                    rotate_left
                    · intro w hSw; (try dsimp only at hSw); go_simp; try with_reducible rfl
                    refine wpAnyH_take (i := 20) (v := ?_) rfl (by kernel_rfl) (by kernel_rfl) (by kernel_rfl) (fun _ _ _ h => h) (Or.inl ⟨by kernel_rfl, ?_⟩) (by assumption) ?_
                    rotate_left
                    · intro w hSw; (try dsimp only at hSw); go_simp; try with_reducible rfl
                    refine wpAnyH_take (i := 21) (v := ?_) rfl (by kernel_rfl) (by kernel_rfl) (by kernel_rfl) (fun _ _ _ h => h) (Or.inl ⟨by kernel_rfl, ?_⟩) (by assumption) ?_
                    rotate_left
                    · intro w hSw; (try dsimp only at hSw); go_simp; try with_reducible rfl
                    refine wpAnyH_take (i := 22) (v := ?_) rfl (by kernel_rfl) (by kernel_rfl) (by kernel_rfl) (fun _ _ _ h => h) (Or.inl ⟨by kernel_rfl, ?_⟩) (by assumption) ?_
                    rotate_left
                    · intro w hSw; (try dsimp only at hSw); go_simp; try with_reducible rfl
                    refine wpAnyH_take (i := 23) (v := ?_) rfl (by kernel_rfl) (by kernel_rfl) (by kernel_rfl) (fun _ _ _ h => h) (Or.inl ⟨by kernel_rfl, ?_⟩) (by assumption) ?_
                    rotate_left
                    · intro w hSw; (try dsimp only at hSw); go_simp; try with_reducible rfl
                    refine wpAnyH_take (i := 24) (v := ?_) rfl (by kernel_rfl) (by kernel_rfl) (by kernel_rfl) (fun _ _ _ h => h) (Or.inl ⟨by kernel_rfl, ?_⟩) (by assumption) ?_
                    rotate_left
                    · intro w hSw; (try dsimp only at hSw); go_simp; try with_reducible rfl
                    refine wpAnyH_take (i := 25) rfl (by kernel_rfl) (by kernel_rfl) (by kernel_rfl) (fun _ _ _ h => h) (Or.inr ⟨by kernel_rfl, rfl⟩) (by assumption) ?_
                    refine wpAnyH_take (i := 26) rfl (by kernel_rfl) (by kernel_rfl) (by kernel_rfl) (fun _ _ _ h => h) (Or.inr ⟨by kernel_rfl, rfl⟩) (by assumption) ?_
                    refine wpAnyH_take (i := 27) rfl (by kernel_rfl) (by kernel_rfl) (by kernel_rfl) (fun _ _ _ h => h) (Or.inr ⟨by kernel_rfl, rfl⟩) (by assumption) ?_
                    refine wpAnyH_take (i := 28) rfl (by kernel_rfl) (by kernel_rfl) (by kernel_rfl) (fun _ _ _ h => h) (Or.inr ⟨by kernel_rfl, rfl⟩) (by assumption) ?_
                    refine wpAnyH_take (i := 29) rfl (by kernel_rfl) (by kernel_rfl) (by kernel_rfl) (fun _ _ _ h => h) (Or.inr ⟨by kernel_rfl, rfl⟩) (by assumption) ?_
                    refine wpAnyH_take (i := 30) rfl (by kernel_rfl) (by kernel_rfl) (by kernel_rfl) (fun _ _ _ h => h) (Or.inr ⟨by kernel_rfl, rfl⟩) (by assumption) ?_
                    refine wpAnyH_take (i := 31) rfl (by kernel_rfl) (by kernel_rfl) (by kernel_rfl) (fun _ _ _ h => h) (Or.inr ⟨by kernel_rfl, rfl⟩) (by assumption) ?_
                    refine wpAnyH_take (i := 32) rfl (by kernel_rfl) (by kernel_rfl) (by kernel_rfl) (fun _ _ _ h => h) (Or.inr ⟨by kernel_rfl, rfl⟩) (by assumption) ?_
                    refine wpAnyH_take (i := 33) rfl (by kernel_rfl) (by kernel_rfl) (by kernel_rfl) (fun _ _ _ h => h) (Or.inr ⟨by kernel_rfl, rfl⟩) (by assumption) ?_
                    refine wpAnyH_take (i := 34) (v := ?_) rfl (by kernel_rfl) (by kernel_rfl) (by kernel_rfl) (fun _ _ _ h => h) (Or.inl ⟨by kernel_rfl, ?_⟩) (by assumption) ?_
                    rotate_left
                    · intro w hSw; (try dsimp only at hSw); go_simp; try with_reducible rfl
                    refine wpAnyH_take (i := 35) (v := ?_) rfl (by kernel_rfl) (by kernel_rfl) (by kernel_rfl) (fun _ _ _ h => h) (Or.inl ⟨by kernel_rfl, ?_⟩) (by assumption) ?_
                    rotate_left
                    · intro w hSw; (try dsimp only at hSw); go_simp; try with_reducible rfl
                    refine wpAnyH_take (i := 36) (v := ?_) rfl (by kernel_rfl) (by kernel_rfl) (by kernel_rfl) (fun _ _ _ h => h) (Or.inl ⟨by kernel_rfl, ?_⟩) (by assumption) ?_
                    rotate_left
                    · intro w hSw; (try dsimp only at hSw); go_simp; try with_reducible rfl
                    refine wpAnyH_ready (rs := [37]) (by kernel_rfl) (by simp) ?_
                    refine AllReadyH.cons rfl (fun K' hK => ?_) AllReadyH.nil
                    go_simp
                    refine hK.out _ _ ⟨y1, y2, y3, y4, y5, y6⟩ (fun hHeld => ?_)
                    clear hK K'
                    refine wpAnyH_done (by kernel_rfl) ?_ _
                    refine NoPanic.normal ?_
                    clear c1 c2 c3 c4 c5 c6 z0 zf y2 y3 y4 y5 y6
                    go_wp2_with fail
                    go_roundg (gk - 1)
                    case measure => exact HM.out
                    case rel => exact ⟨i + 1, by go_num, by rw [cntF_false (by unfold Told.Fz0; rw [HEE.out.1, HEE.out.2.1, HEE.out.2.2.1, ← HEE.out.2.2.2]; rfl)], Lib.hid ⟨HSM.out, (HO.out.set rfl _).drew⟩, (HX.out.set i false).congr (fun j hj => nextB (by unfold Told.Fz0; rw [HEE.out.1, HEE.out.2.1, HEE.out.2.2.1, ← HEE.out.2.2.2]; rfl) j)⟩
                | false =>
                  cases e2 with
                  | true =>
                    obtain ⟨y1, y2, y3, y4, y5, y6⟩ := HY.out true
                    have hzv := HZV.out true
                    go_wp2_with fail
                    refine wp_region_noPanic ?_
                    refine wp_region_held_drew (S := (fun W => W.cell? ⟨zb, 0, none⟩ = some (.slice (some ⟨fz, 0, none⟩) n n) ∧ W.cell? ⟨fc, i, none⟩ = some (fl (t.fac i)) ∧ W.cell? ⟨bb, 0, none⟩ = some (.slice (some ⟨bs, 0, none⟩) n n) ∧ W.cell? ⟨bs, i, none⟩ = some (fl (t.b i)) ∧ W.cell? ⟨sb, 0, none⟩ = some (.slice (some ⟨sz, 0, none⟩) n n) ∧ W.cell? ⟨sz, i, none⟩ = some (fl (t.Sz0 i)))) (by kernel_rfl) ⟨c1, c2, c3, c4, c5, c6⟩ (fun hHeld => ?_)
                    refine wpAnyH_take (i := 0) (v := ?_) rfl (by kernel_rfl) (by kernel_rfl) (by kernel_rfl) (fun _ _ _ h => h) (Or.inl ⟨by kernel_rfl, ?_⟩) (by assumption) ?_
                    rotate_left
                    · intro w hSw; (try dsimp only at hSw); go_simp; try with_reducible rfl
                    refine wpAnyH_take (i := 1) (v := ?_) rfl (by kernel_rfl) (by kernel_rfl) (by kernel_rfl) (fun _ _ _ h => h) (Or.inl ⟨by kernel_rfl, ?_⟩) (by assumption) ?_
                    rotate_left
                    · intro w hSw; (try dsimp only at hSw); go_simp; try with_reducible rfl
                    refine wpAnyH_take (i := 2) (v := ?_) rfl (by kernel_rfl) (by kernel_rfl) (by kernel_rfl) (fun _ _ _ h => h) (Or.inl ⟨by kernel_rfl, ?_⟩) (by assumption) ?_
                    rotate_left
                    · intro w hSw; (try dsimp only at hSw); go_simp; try with_reducible rfl
                    refine wpAnyH_take (i := 3) (v := ?_) rfl (by kernel_rfl) (by kernel_rfl) (by kernel_rfl) (fun _ _ _ h => h) (Or.inl ⟨by kernel_rfl, ?_⟩) (by assumption) ?_
                    rotate_left
                    · intro w hSw; (try dsimp only at hSw); go_simp; try with_reducible rfl
                    refine wpAnyH_take (i := 4) (v := ?_) rfl (by kernel_rfl) (by kernel_rfl) (by kernel_rfl) (fun _ _ _ h => h) (Or.inl ⟨by kernel_rfl, ?_⟩) (by assumption) ?_
                    rotate_left
                    · intro w hSw; (try dsimp only at hSw); go_simp; try with_reducible rfl
                    refine wpAnyH_take (i := 5) (v := ?_) rfl (by kernel_rfl) (by kernel_rfl) (by kernel_rfl) (fun _ _ _ h => h) (Or.inl ⟨by kernel_rfl, ?_⟩) (by assumption) ?_
                    rotate_left
                    · intro w hSw; (try dsimp only at hSw); go_simp; try with_reducible rfl
                    refine wpAnyH_take (i := 6) (v := ?_) rfl (by kernel_rfl) (by kernel_rfl) (by kernel_rfl) (fun _ _ _ h => h) (Or.inl ⟨by kernel_rfl, ?_⟩) (by assumption) ?_
                    rotate_left
                    · intro w hSw; (try dsimp only at hSw); go_simp; try with_reducible rfl
                    refine wpAnyH_take (i := 7) (v := ?_) rfl (by kernel_rfl) (by kernel_rfl) (by kernel_rfl) (fun _ _ _ h => h) (Or.inl ⟨by kernel_rfl, ?_⟩) (by assumption) ?_
                    rotate_left
                    · intro w hSw; (try dsimp only at hSw); go_simp; try with_reducible rfl
                    refine wpAnyH_take (i := 8) (v := ?_) rfl (by kernel_rfl) (by kernel_rfl) (by kernel_rfl) (fun _ _ _ h => h) (Or.inl ⟨by kernel_rfl, ?_⟩) (by assumption) ?_
                    rotate_left
                    · intro w hSw; (try dsimp only at hSw); go_simp; try with_reducible rfl
                    refine wpAnyH_take (i := 9) (v := ?_) rfl (by kernel_rfl) (by kernel_rfl) (by kernel_rfl) (fun _ _ _ h => h) (Or.inl ⟨by kernel_rfl, ?_⟩) (by assumption) ?_
                    rotate_left
                    · intro w hSw; (try dsimp only at hSw); go_simp; try with_reducible rfl
                    refine wpAnyH_take (i := 10) rfl (by kernel_rfl) (by kernel_rfl) (by kernel_rfl) (fun _ _ _ h => h) (Or.inr ⟨by kernel_rfl, rfl⟩) (by assumption) ?_
                    refine wpAnyH_take (i := 11) rfl (by kernel_rfl) (by kernel_rfl) (by kernel_rfl) (fun _ _ _ h => h) (Or.inr ⟨by kernel_rfl, rfl⟩) (by assumption) ?_
                    refine wpAnyH_take (i := 12) rfl (by kernel_rfl) (by kernel_rfl) (by kernel_rfl) (fun _ _ _ h => h) (Or.inr ⟨by kernel_rfl, rfl⟩) (by assumption) ?_
                    refine wpAnyH_take (i := 13) rfl (by kernel_rfl) (by kernel_rfl) (by kernel_rfl) (fun _ _ _ h => h) (Or.inr ⟨by kernel_rfl, rfl⟩) (by assumption) ?_
                    refine wpAnyH_take (i := 14) rfl (by kernel_rfl) (by kernel_rfl) (by kernel_rfl) (fun _ _ _ h => h) (Or.inr ⟨by kernel_rfl, rfl⟩) (by assumption) ?_
                    refine wpAnyH_take (i := 15) rfl (by kernel_rfl) (by kernel_rfl) (by kernel_rfl) (fun _ _ _ h => h) (Or.inr ⟨by kernel_rfl, rfl⟩) (by assumption) ?_
                    refine wpAnyH_take (i := 16) rfl (by kernel_rfl) (by kernel_rfl) (by kernel_rfl) (fun _ _ _ h => h) (Or.inr ⟨by kernel_rfl, rfl⟩) (by assumption) ?_
                    refine wpAnyH_take (i := 17) rfl (by kernel_rfl) (by kernel_rfl) (by kernel_rfl) (fun _ _ _ h => h) (Or.inr ⟨by kernel_rfl, rfl⟩) (by assumption) ?_
                    refine wpAnyH_take (i := 18) rfl (by kernel_rfl) (by kernel_rfl) (by kernel_rfl) (fun _ _ _ h => h) (Or.inr ⟨by kernel_rfl, rfl⟩) (by assumption) ?_
                    refine wpAnyH_take (i := 19) (v := ?_) rfl (by kernel_rfl) (by kernel_rfl) (by kernel_rfl) (fun _ _ _ h => h) (Or.inl ⟨by kernel_rfl, ?_⟩) (by assumption) ?_
                    rotate_left
                    · intro w hSw; (try dsimp only at hSw); go_simp; try with_reducible rfl
                    refine wpAnyH_take (i := 20) (v := ?_) rfl (by kernel_rfl) (by kernel_rfl) (by kernel_rfl) (fun _ _ _ h => h) (Or.inl ⟨by kernel_rfl, ?_⟩) (by assumption) ?_
                    rotate_left
                    · intro w hSw; (try dsimp only at hSw); go_simp; try with_reducible rfl
                    refine wpAnyH_take (i := 21) (v := ?_) rfl (by kernel_rfl) (by kernel_rfl) (by kernel_rfl) (fun _ _ _ h => h) (Or.inl ⟨by kernel_rfl, ?_⟩) (by assumption) ?_
                    rotate_left
                    · intro w hSw; (try dsimp only at hSw); go_simp; try with_reducible rfl
                    refine wpAnyH_take (i := 22) (v := ?_) rfl (by kernel_rfl) (by kernel_rfl) (by kernel_rfl) (fun _ _ _ h => h) (Or.inl ⟨by kernel_rfl, ?_⟩) (by assumption) ?_
                    rotate_left
                    · intro w hSw; (try dsimp only at hSw); go_simp; try with_reducible rfl
                    refine wpAnyH_take (i := 23) (v := ?_) rfl (by kernel_rfl) (by kernel_rfl) (by kernel_rfl) (fun _ _ _ h => h) (Or.inl ⟨by kernel_rfl, ?_⟩) (by assumption) ?_
                    rotate_left
                    · intro w hSw; (try dsimp only at hSw); go_simp; try with_reducible rfl
                    refine wpAnyH_take (i := 24) (v := ?_) rfl (by kernel_rfl) (by kernel_rfl) (by kernel_rfl) (fun _ _ _ h => h) (Or.inl ⟨by kernel_rfl, ?_⟩) (by assumption) ?_
                    rotate_left
                    · intro w hSw; (try dsimp only at hSw); go_simp; try with_reducible rfl
                    refine wpAnyH_take (i := 25) (v := ?_) rfl (by kernel_rfl) (by kernel_rfl) (by kernel_rfl) (fun _ _ _ h => h) (Or.inl ⟨by kernel_rfl, ?_⟩) (by assumption) ?_
                    rotate_left
                    · intro w hSw; (try dsimp only at hSw); go_simp; try with_reducible rfl
                    refine wpAnyH_take (i := 26) (v := ?_) rfl (by kernel_rfl) (by kernel_rfl) (by kernel_rfl) (fun _ _ _ h => h) (Or.inl ⟨by kernel_rfl, ?_⟩) (by assumption) ?_
                    rotate_left
                    · intro w hSw; (try dsimp only at hSw); go_simp; try with_reducible rfl
                    refine wpAnyH_take (i := 27) (v := ?_) rfl (by kernel_rfl) (by kernel_rfl) (by kernel_rfl) (fun _ _ _ h => h) (Or.inl ⟨by kernel_rfl, ?_⟩) (by assumption) ?_
                    rotate_left
                    · intro w hSw; (try dsimp only at hSw); go_simp; try with_reducible rfl
                    refine wpAnyH_take (i := 28) (v := ?_) rfl (by kernel_rfl) (by kernel_rfl) (by kernel_rfl) (fun _ _ _ h => h) (Or.inl ⟨by kernel_rfl, ?_⟩) (by assumption) ?_
                    rotate_left
                    · intro w hSw; (try dsimp only at hSw); go_simp; try with_reducible rfl
                    refine wpAnyH_take (i := 29) (v := ?_) rfl (by kernel_rfl) (by kernel_rfl) (by kernel_rfl) (fun _ _ _ h => h) (Or.inl ⟨by kernel_rfl, ?_⟩) (by assumption) ?_
                    rotate_left
                    · intro w hSw; (try dsimp only at hSw); go_simp; try with_reducible rfl
                    refine wpAnyH_take (i := 30) (v := ?_) rfl (by kernel_rfl) (by kernel_rfl) (by kernel_rfl) (fun _ _ _ h => h) (Or.inl ⟨by kernel_rfl, ?_⟩) (by assumption) ?_
                    rotate_left
                    · intro w hSw; (try dsimp only at hSw); go_simp; try with_reducible rfl
                    refine wpAnyH_take (i := 31) (v := ?_) rfl (by kernel_rfl) (by kernel_rfl) (by kernel_rfl) (fun _ _ _ h => h) (Or.inl ⟨by kernel_rfl, ?_⟩) (by assumption) ?_
                    rotate_left
                    · intro w hSw; (try dsimp only at hSw); go_simp; try with_reducible rfl
                    refine wpAnyH_take (i := 32) (v := ?_) rfl (by kernel_rfl) (by kernel_rfl) (by kernel_rfl) (fun _ _ _ h => h) (Or.inl ⟨by kernel_rfl, ?_⟩) (by assumption) ?_
                    rotate_left
                    · intro w hSw; (try dsimp only at hSw); go_simp; try with_reducible rfl
                    refine wpAnyH_take (i := 33) (v := ?_) rfl (by kernel_rfl) (by kernel_rfl) (by kernel_rfl) (fun _ _ _ h => h) (Or.inl ⟨by kernel_rfl, ?_⟩) (by assumption) ?_
                    rotate_left
                    · intro w hSw; (try dsimp only at hSw); go_simp; try with_reducible rfl
                    refine wpAnyH_take (i := 34) (v := ?_) rfl (by kernel_rfl) (by kernel_rfl) (by kernel_rfl) (fun _ _ _ h => h) (Or.inl ⟨by kernel_rfl, ?_⟩) (by assumption) ?_
                    rotate_left
                    · intro w hSw; (try dsimp only at hSw); go_simp; try with_reducible rfl
                    refine wpAnyH_take (i := 35) (v := ?_) rfl (by kernel_rfl) (by kernel_rfl) (by kernel_rfl) (fun _ _ _ h => h) (Or.inl ⟨by kernel_rfl, ?_⟩) (by assumption) ?_
                    rotate_left
                    · intro w hSw; (try dsimp only at hSw); go_simp; try with_reducible rfl
                    refine wpAnyH_take (i := 36) (v := ?_) rfl (by kernel_rfl) (by kernel_rfl) (by kernel_rfl) (fun _ _ _ h => h) (Or.inl ⟨by kernel_rfl, ?_⟩) (by assumption) ?_
                    rotate_left
                    · intro w hSw; (try dsimp only at hSw); go_simp; try with_reducible rfl
                    refine wpAnyH_ready (rs := [37]) (by kernel_rfl) (by simp) ?_
                    refine AllReadyH.cons rfl (fun K' hK => ?_) AllReadyH.nil
                    go_simp
                    refine hK.out _ _ ⟨y1, y2, y3, y4, y5, y6⟩ (fun hHeld => ?_)
                    clear hK K'
                    refine wpAnyH_done (by kernel_rfl) ?_ _
                    refine NoPanic.normal ?_
                    clear c1 c2 c3 c4 c5 c6 z0 zf y2 y3 y4 y5 y6
                    go_wp2_with fail
                    go_roundg (gk - 1)
                    case measure => exact HM.out
                    case rel => exact ⟨i + 1, by go_num, by rw [cntF_true (by unfold Told.Fz0; rw [HEE.out.1, HEE.out.2.1, HEE.out.2.2.1, ← HEE.out.2.2.2]; rfl)], Lib.hid ⟨HSM.out, (HO.out.set rfl _).drew⟩, (HX.out.set i true).congr (fun j hj => nextB (by unfold Told.Fz0; rw [HEE.out.1, HEE.out.2.1, HEE.out.2.2.1, ← HEE.out.2.2.2]; rfl) j)⟩
                  | false =>
                    obtain ⟨y1, y2, y3, y4, y5, y6⟩ := HY.out false
                    have hzv := HZV.out false
                    go_wp2_with fail
                    refine wp_region_noPanic ?_
                    refine wp_region_held_drew (S := (fun W => W.cell? ⟨zb, 0, none⟩ = some (.slice (some ⟨fz, 0, none⟩) n n) ∧ W.cell? ⟨fc, i, none⟩ = some (fl (t.fac i)) ∧ W.cell? ⟨bb, 0, none⟩ = some (.slice (some ⟨bs, 0, none⟩) n n) ∧ W.cell? ⟨bs, i, none⟩ = some (fl (t.b i)) ∧ W.cell? ⟨sb, 0, none⟩ = some (.slice (some ⟨sz, 0, none⟩) n n) ∧ W.cell? ⟨sz, i, none⟩ = some (fl (t.Sz0 i)))) (by kernel_rfl) ⟨c1, c2, c3, c4, c5, c6⟩ (fun hHeld => ?_)
                    refine wpAnyH_take (i := 0) (v := ?_) rfl (by kernel_rfl) (by kernel_rfl) (by kernel_rfl) (fun _ _ _ h => h) (Or.inl ⟨by kernel_rfl, ?_⟩) (by assumption) ?_
                    rotate_left
                    · intro w hSw; (try dsimp only at hSw); go_simp; try with_reducible rfl
                    refine wpAnyH_take (i := 1) (v := ?_) rfl (by kernel_rfl) (by kernel_rfl) (by kernel_rfl) (fun _ _ _ h => h) (Or.inl ⟨by kernel_rfl, ?_⟩) (by assumption) ?_
                    rotate_left
                    · intro w hSw; (try dsimp only at hSw); go_simp; try with_reducible rfl
                    refine wpAnyH_take (i := 2) (v := ?_) rfl (by kernel_rfl) (by kernel_rfl) (by kernel_rfl) (fun _ _ _ h => h) (Or.inl ⟨by kernel_rfl, ?_⟩) (by assumption) ?_
                    rotate_left
                    · intro w hSw; (try dsimp only at hSw); go_simp; try with_reducible rfl
                    refine wpAnyH_take (i := 3) (v := ?_) rfl (by kernel_rfl) (by kernel_rfl) (by kernel_rfl) (fun _ _ _ h => h) (Or.inl ⟨by kernel_rfl, ?_⟩) (by assumption) ?_
                    rotate_left
                    · intro w hSw; (try dsimp only at hSw); go_simp; try with_reducible rfl
                    refine wpAnyH_take (i := 4) (v := ?_) rfl (by kernel_rfl) (by kernel_rfl) (by kernel_rfl) (fun _ _ _ h => h) (Or.inl ⟨by kernel_rfl, ?_⟩) (by assumption) ?_
                    rotate_left
                    · intro w hSw; (try dsimp only at hSw); go_simp; try with_reducible rfl
                    refine wpAnyH_take (i := 5) (v := ?_) rfl (by kernel_rfl) (by kernel_rfl) (by kernel_rfl) (fun _ _ _ h => h) (Or.inl ⟨by kernel_rfl, ?_⟩) (by assumption) ?_
                    rotate_left
                    · intro w hSw; (try dsimp only at hSw); go_simp; try with_reducible rfl
                    refine wpAnyH_take (i := 6) (v := ?_) rfl (by kernel_rfl) (by kernel_rfl) (by kernel_rfl) (fun _ _ _ h => h) (Or.inl ⟨by kernel_rfl, ?_⟩) (by assumption) ?_
                    rotate_left
                    · intro w hSw; (try dsimp only at hSw); go_simp; try with_reducible rfl
                    refine wpAnyH_take (i := 7) (v := ?_) rfl (by kernel_rfl) (by kernel_rfl) (by kernel_rfl) (fun _ _ _ h => h) (Or.inl ⟨by kernel_rfl, ?_⟩) (by assumption) ?_
                    rotate_left
                    · intro w hSw; (try dsimp only at hSw); go_simp; try with_reducible rfl
                    refine wpAnyH_take (i := 8) (v := ?_) rfl (by kernel_rfl) (by kernel_rfl) (by kernel_rfl) (fun _ _ _ h => h) (Or.inl ⟨by kernel_rfl, ?_⟩) (by assumption) ?_
                    rotate_left
                    · intro w hSw; (try dsimp only at hSw); go_simp; try with_reducible rfl
                    refine wpAnyH_take (i := 9) (v := ?_) rfl (by kernel_rfl) (by kernel_rfl) (by kernel_rfl) (fun _ _ _ h => h) (Or.inl ⟨by kernel_rfl, ?_⟩) (by assumption) ?_
                    rotate_left
                    · intro w hSw; (try dsimp only at hSw); go_simp; try with_reducible rfl
                    refine wpAnyH_take (i := 10) rfl (by kernel_rfl) (by kernel_rfl) (by kernel_rfl) (fun _ _ _ h => h) (Or.inr ⟨by kernel_rfl, rfl⟩) (by assumption) ?_
                    refine wpAnyH_take (i := 11) rfl (by kernel_rfl) (by kernel_rfl) (by kernel_rfl) (fun _ _ _ h => h) (Or.inr ⟨by kernel_rfl, rfl⟩) (by assumption) ?_
                    refine wpAnyH_take (i := 12) rfl (by kernel_rfl) (by kernel_rfl) (by kernel_rfl) (fun _ _ _ h => h) (Or.inr ⟨by kernel_rfl, rfl⟩) (by assumption) ?_
                    refine wpAnyH_take (i := 13) rfl (by kernel_rfl) (by kernel_rfl) (by kernel_rfl) (fun _ _ _ h => h) (Or.inr ⟨by kernel_rfl, rfl⟩) (by assumption) ?_
                    refine wpAnyH_take (i := 14) rfl (by kernel_rfl) (by kernel_rfl) (by kernel_rfl) (fun _ _ _ h => h) (Or.inr ⟨by kernel_rfl, rfl⟩) (by assumption) ?_
                    refine wpAnyH_take (i := 15) rfl (by kernel_rfl) (by kernel_rfl) (by kernel_rfl) (fun _ _ _ h => h) (Or.inr ⟨by kernel_rfl, rfl⟩) (by assumption) ?_
                    refine wpAnyH_take (i := 16) rfl (by kernel_rfl) (by kernel_rfl) (by kernel_rfl) (fun _ _ _ h => h) (Or.inr ⟨by kernel_rfl, rfl⟩) (by assumption) ?_
                    refine wpAnyH_take (i := 17) rfl (by kernel_rfl) (by kernel_rfl) (by kernel_rfl) (fun _ _ _ h => h) (Or.inr ⟨by kernel_rfl, rfl⟩) (by assumption) ?_
                    refine wpAnyH_take (i := 18) rfl (by kernel_rfl) (by kernel_rfl) (by kernel_rfl) (fun _ _ _ h => h) (Or.inr ⟨by kernel_rfl, rfl⟩) (by assumption) ?_
                    refine wpAnyH_take (i := 19) (v := ?_) rfl (by kernel_rfl) (by kernel_rfl) (by kernel_rfl) (fun _ _ _ h => h) (Or.inl ⟨by kernel_rfl, ?_⟩) (by assumption) ?_
                    rotate_left
                    · intro w hSw; (try dsimp only at hSw); go_simp; try with_reducible rfl
                    refine wpAnyH_take (i := 20) (v := ?_) rfl (by kernel_rfl) (by kernel_rfl) (by kernel_rfl) (fun _ _ _ h => h) (Or.inl ⟨by kernel_rfl, ?_⟩) (by assumption) ?_
                    rotate_left
                    · intro w hSw; (try dsimp only at hSw); go_simp; try with_reducible rfl
                    refine wpAnyH_take (i := 21) (v := ?_) rfl (by kernel_rfl) (by kernel_rfl) (by kernel_rfl) (fun _ _ _ h => h) (Or.inl ⟨by kernel_rfl, ?_⟩) (by assumption) ?_
                    rotate_left
                    · intro w hSw; (try dsimp only at hSw); go_simp; try with_reducible rfl
                    refine wpAnyH_take (i := 22) (v := ?_) rfl (by kernel_rfl) (by kernel_rfl) (by kernel_rfl) (fun _ _ _ h => h) (Or.inl ⟨by kernel_rfl, ?_⟩) (by assumption) ?_
                    rotate_left
                    · intro w hSw; (try dsimp only at hSw); go_simp; try with_reducible rfl
                    refine wpAnyH_take (i := 23) (v := ?_) rfl (by kernel_rfl) (by kernel_rfl) (by kernel_rfl) (fun _ _ _ h => h) (Or.inl ⟨by kernel_rfl, ?_⟩) (by assumption) ?_
                    rotate_left
                    · intro w hSw; (try dsimp only at hSw); go_simp; try with_reducible rfl
                    refine wpAnyH_take (i := 24) (v := ?_) rfl (by kernel_rfl) (by kernel_rfl) (by kernel_rfl) (fun _ _ _ h => h) (Or.inl ⟨by kernel_rfl, ?_⟩) (by assumption) ?_
                    rotate_left
                    · intro w hSw; (try dsimp only at hSw); go_simp; try with_reducible rfl
                    refine wpAnyH_take (i := 25) (v := ?_) rfl (by kernel_rfl) (by kernel_rfl) (by kernel_rfl) (fun _ _ _ h => h) (Or.inl ⟨by kernel_rfl, ?_⟩) (by assumption) ?_
                    rotate_left
                    · intro w hSw; (try dsimp only at hSw); go_simp; try with_reducible rfl
                    refine wpAnyH_take (i := 26) (v := ?_) rfl (by kernel_rfl) (by kernel_rfl) (by kernel_rfl) (fun _ _ _ h => h) (Or.inl ⟨by kernel_rfl, ?_⟩) (by assumption) ?_
                    rotate_left
                    · intro w hSw; (try dsimp only at hSw); go_simp; try with_reducible rfl
                    refine wpAnyH_take (i := 27) (v := ?_) rfl (by kernel_rfl) (by kernel_rfl) (by kernel_rfl) (fun _ _ _ h => h) (Or.inl ⟨by kernel_rfl, ?_⟩) (by assumption) ?_
                    rotate_left
                    · intro w hSw; (try dsimp only at hSw); go_simp; try with_reducible rfl
                    refine wpAnyH_take (i := 28) (v := ?_) rfl (by kernel_rfl) (by kernel_rfl) (by kernel_rfl) (fun _ _ _ h => h) (Or.inl ⟨by kernel_rfl, ?_⟩) (by assumption) ?_
                    rotate_left
                    · intro w hSw; (try dsimp only at hSw); go_simp; try with_reducible rfl
                    refine wpAnyH_take (i := 29) (v := ?_) rfl (by kernel_rfl) (by kernel_rfl) (by kernel_rfl) (fun _ _ _ h => h) (Or.inl ⟨by kernel_rfl, ?_⟩) (by assumption) ?_
                    rotate_left
                    · intro w hSw; (try dsimp only at hSw); go_simp; try with_reducible rfl
                    refine wpAnyH_take (i := 30) (v := ?_) rfl (by kernel_rfl) (by kernel_rfl) (by kernel_rfl) (fun _ _ _ h => h) (Or.inl ⟨by kernel_rfl, ?_⟩) (by assumption) ?_
                    rotate_left
                    · intro w hSw; (try dsimp only at hSw); go_simp; try with_reducible rfl
                    refine wpAnyH_take (i := 31) (v := ?_) rfl (by kernel_rfl) (by kernel_rfl) (by kernel_rfl) (fun _ _ _ h => h) (Or.inl ⟨by kernel_rfl, ?_⟩) (by assumption) ?_
                    rotate_left
                    · intro w hSw; (try dsimp only at hSw); go_simp; try with_reducible rfl
                    refine wpAnyH_take (i := 32) (v := ?_) rfl (by kernel_rfl) (by kernel_rfl) (by kernel_rfl) (fun _ _ _ h => h) (Or.inl ⟨by kernel_rfl, ?_⟩) (by assumption) ?_
                    rotate_left
                    · intro w hSw; (try dsimp only at hSw); go_simp; try with_reducible rfl
                    refine wpAnyH_take (i := 33) (v := ?_) rfl (by kernel_rfl) (by kernel_rfl) (by kernel_rfl) (fun _ _ _ h => h) (Or.inl ⟨by kernel_rfl, ?_⟩) (by assumption) ?_
                    rotate_left
                    · intro w hSw; (try dsimp only at hSw); go_simp; try with_reducible rfl
                    refine wpAnyH_take (i := 34) (v := ?_) rfl (by kernel_rfl) (by kernel_rfl) (by kernel_rfl) (fun _ _ _ h => h) (Or.inl ⟨by kernel_rfl, ?_⟩) (by assumption) ?_
                    rotate_left
                    · intro w hSw; (try dsimp only at hSw); go_simp; try with_reducible rfl
                    refine wpAnyH_take (i := 35) (v := ?_) rfl (by kernel_rfl) (by kernel_rfl) (by kernel_rfl) (fun _ _ _ h => h) (Or.inl ⟨by kernel_rfl, ?_⟩) (by assumption) ?_
                    rotate_left
                    · intro w hSw; (try dsimp only at hSw); go_simp; try with_reducible rfl
                    refine wpAnyH_take (i := 36) (v := ?_) rfl (by kernel_rfl) (by kernel_rfl) (by kernel_rfl) (fun _ _ _ h => h) (Or.inl ⟨by kernel_rfl, ?_⟩) (by assumption) ?_
                    rotate_left
                    · intro w hSw; (try dsimp only at hSw); go_simp; try with_reducible rfl
                    refine wpAnyH_ready (rs := [37]) (by kernel_rfl) (by simp) ?_
                    refine AllReadyH.cons rfl (fun K' hK => ?_) AllReadyH.nil
                    go_simp
                    refine hK.out _ _ ⟨y1, y2, y3, y4, y5, y6⟩ (fun hHeld => ?_)
                    clear hK K'
                    refine wpAnyH_done (by kernel_rfl) ?_ _
                    refine NoPanic.normal ?_
                    clear c1 c2 c3 c4 c5 c6 z0 zf y2 y3 y4 y5 y6
                    go_wp2_with fail
                    go_roundg (gk - 1)
                    case measure => exact HM.out
                    case rel => exact ⟨i + 1, by go_num, by rw [cntF_false (by unfold Told.Fz0; rw [HEE.out.1, HEE.out.2.1, HEE.out.2.2.1, ← HEE.out.2.2.2]; rfl)], Lib.hid ⟨HSM.out, (HO.out.set rfl _).drew⟩, (HX.out.set i false).congr (fun j hj => nextB (by unfold Told.Fz0; rw [HEE.out.1, HEE.out.2.1, HEE.out.2.2.1, ← HEE.out.2.2.2]; rfl) j)⟩
            · as_aux_lemma =>
                have hin : i = n := by omega
                have hx := HX.out
                rw [hin] at hx
                have hb3 : Bl wr fz n t.Fz0 := hx.congr (fun j hj => by rw [if_pos hj])
                obtain ⟨o1, o2, o3, o4, o5, o6, o7, o8, o9, o10, o11, o12, o13⟩ := HST2.out.ord
                obtain ⟨j1, j2, j3, j4⟩ := HID.out
                have hz3 := HO.out.block _ _ (show zb ≠ fz by omega) HR2.out.2.2
                have hs3 := HO.out.fl HR2.out.1 (show sz ≠ fz by omega)
                have hf3 := HO.out.fl HR2.out.2.1 (show fc ≠ fz by omega)
                have HOR := Lib.hid (And.intro (And.intro o1 (And.intro o2 (And.intro o3 (And.intro o4 (And.intro o5 (And.intro o6 (And.intro o7 (And.intro o8 (And.intro o9 (And.intro o10 (And.intro o11 (And.intro o12 o13)))))))))))) (And.intro j1 (And.intro j2 (And.intro j3 j4))))
                have HS3 := Lib.hid hS
                have HR3 := Lib.hid (And.intro hz3 (And.intro hs3 (And.intro hf3 hb3)))
                obtain ⟨W3, hW3⟩ : ∃ x, x = wr := ⟨_, rfl⟩
                rw [← hW3] at HS3 HR3
                rw [hin]
                clear hi hsum hin q0 q1 hcl hx hb3 o1 o2 o3 o4 o5 o6 o7 o8 o9 o10 o11 o12 o13 j1 j2 j3 j4 hz3 hs3 hf3 hS HX HO HST2 HR2 HB2 HID
                -- all that stays from here on
                have HSTAY : Hid (∀ X, Onl (fun k => k = sz ∨ k = fz ∨ zb < k) W3 X → StW t w X N bb lb hb nb bs lo hi0 gr sh sz sb n ∧ X.heap[zb]? = some (.cells #[.slice (some ⟨fz, 0, none⟩) n n] 56 (0, 0)) ∧ Fl X fc n t.fac) := Lib.hid (fun X o => by
                  have ho := HOR.out
                  exact ⟨HS3.out.onl (o.mono (fun k hk => by omega)), o.block _ _ (by omega) HR3.out.1, o.fl HR3.out.2.2.1 (by omega)⟩)
                have HLEFT : Hid (∀ k X, Onl (fun k => k = sz ∨ k = fz ∨ zb < k) W3 X → Fl X sz n (t.st k).1 → Bl X fz n (t.st k).2 → Calls Try.prog 26 #[.pointer (some ⟨N, 0, none⟩), .pointer (some ⟨nb, 0, none⟩), .pointer (some ⟨zb, 0, none⟩), .pointer (some ⟨sb, 0, none⟩), .pointer (some ⟨bb, 0, none⟩)] X fun e w' => e = .returned (fl (leftF t.rm (t.st k).1 t.b (t.st k).2 n)) ∧ X = w') := Lib.hid (fun k X o h1 h2 => by
                  obtain ⟨g1, g2, g3⟩ := HSTAY.out X o
                  have hn1 := HN.out.1
                  exact left_calls X (HNB.out) (usedD_bd (by have := HT.out.room; omega)) (fun i hi => (HT.out.shs k).Sz i (by rw [hn1] at hi; exact hi)) (fun i hi => usedF_bd (HT.out.B i (by rw [hn1] at hi; exact hi))) (cell_blk g1.r 0 rfl) (cell_blk g1.n' 0 rfl) (cell_blk g2 0 rfl) (cell_blk g1.s 0 rfl) (cell_blk g1.b 0 rfl) h2 h1 g1.fb)
                go_wp2_with (go_at_call 26; rw [← hW3]; refine (HLEFT.out 0 W3 (Onl.refl _ _) HR3.out.2.1 HR3.out.2.2.2).mono ?_; rintro e w1 ⟨rfl, rfl⟩)
                try rw [← hW3]
                clear hmb hW3
                obtain ⟨F, hF⟩ : ∃ F, F = leftF t.rm (t.st 0).1 t.b (t.st 0).2 n := ⟨_, rfl⟩
                rw [← hF]
                have HFF : Hid (F = t.shr.first) := Lib.hid (by rw [hF, HN.out.1]; rfl)
                clear hF
                go_loopg [21] (cnt n t.Fz0) (fun m v wr => ∃ k, v = .int .i64 (m : Int) ∧ Hid (m = cnt n (t.st k).2 ∧ Onl (fun k => k = sz ∨ k = fz ∨ zb < k) W3 wr) ∧ Fl wr sz n (t.st k).1 ∧ Bl wr fz n (t.st k).2)
                case atStart => exact ⟨0, rfl, Lib.hid ⟨rfl, Onl.refl _ _⟩, HR3.out.2.1, HR3.out.2.2.2⟩
                case round =>
                  obtain ⟨k, rfl, hw, hs, hb'⟩ := hrel
                  have hgk := hw.out.1
                  have HO := Lib.hid hw.out.2
                  have HX := Lib.hid (And.intro hs hb')
                  clear hw hs hb'
                  obtain ⟨g1, g2, g3⟩ := HSTAY.out wr HO.out
                  obtain ⟨gm, rfl⟩ : ∃ g, g = gk := ⟨_, rfl⟩
                  rcases Nat.eq_zero_or_pos gm with h0 | h0
                  · have c1 := cell_blk g1.s 0 rfl
                    have HG1 := Lib.hid g1
                    have q : decide ((0 : Int) < (gm : Int)) = false := by simp; omega
                    have hc0 : cnt t.n (t.st k).2 = 0 := by rw [← HN.out.1, ← hgk]; exact h0
                    have hq : ¬ 0 < gm := by omega
                    clear g1 g2 g3 hgk h0
                    go_wp2_with fail
                    refine bodyPost_ret (v := .tuple #[.slice (some ⟨sz, 0, none⟩) n n, .int .i64 0]) (by simp [results, Try.results9, go_sem]) rfl ?_
                    exact ⟨sz, rfl, by have := HOR.out; omega, HX.out.1.congr (fun i hi => HT.out.done hc0 i (by rw [← HN.out.1]; exact hi)), HG1.out.low⟩
                  · have HGK := Lib.hid (And.intro hgk h0)
                    have q : decide ((0 : Int) < (gm : Int)) = true := by simp; omega
                    have cn := cell_blk g1.n' 0 rfl
                    have ln := lt_of_some g1.n'
                    clear hgk g1 g2 g3
                    go_upto_region 32 with fail
                    clear q h0 cn ln
                    have hbe : Below wr.heap.size wr ((wr.alloc (.cells (vc n (fun _ => 0)) 23)).alloc (.cells #[.slice (some ⟨wr.heap.size, 0, none⟩) n n] 24)) := ((Below.refl _ wr).alloc (Nat.le_refl _) _).alloc (by simp) _
                    have hov : Fl ((wr.alloc (.cells (vc n (fun _ => 0)) 23)).alloc (.cells #[.slice (some ⟨wr.heap.size, 0, none⟩) n n] 24)) wr.heap.size n (fun _ => 0) := alloc_blk (Go.heap_alloc_new wr _) _
                    have hob : ((wr.alloc (.cells (vc n (fun _ => 0)) 23)).alloc (.cells #[.slice (some ⟨wr.heap.size, 0, none⟩) n n] 24)).heap[wr.heap.size + 1]? = some (.cells #[.slice (some ⟨wr.heap.size, 0, none⟩) n n] 24 (0, 0)) := by
                      have := Go.heap_alloc_new (wr.alloc (.cells (vc n (fun _ => 0)) 23)) (.cells #[.slice (some ⟨wr.heap.size, 0, none⟩) n n] 24)
                      rwa [show (wr.alloc (.cells (vc n (fun _ => 0)) 23)).heap.size = wr.heap.size + 1 by simp] at this
                    have hzl : zb < wr.heap.size := by have := HSTAY.out wr HO.out; exact lt_of_some this.2.1
                    obtain ⟨W4, hW4⟩ : ∃ x, x = ((wr.alloc (.cells (vc n (fun _ => 0)) 23)).alloc (.cells #[.slice (some ⟨wr.heap.size, 0, none⟩) n n] 24)) := ⟨_, rfl⟩
                    rw [← hW4] at hbe hov hob ⊢
                    clear hW4
                    have ho4 : Onl (fun k => k = sz ∨ k = fz ∨ zb < k) W3 W4 := HO.out.trans (Onl.of_below hbe)
                    have hs4 : Fl W4 sz n (t.st k).1 := (hbe.block _ HX.out.1.lt).trans HX.out.1
                    have hb4 : Bl W4 fz n (t.st k).2 := (hbe.block _ HX.out.2.lt).trans HX.out.2
                    obtain ⟨ob, hobe⟩ : ∃ x, x = wr.heap.size + 1 := ⟨_, rfl⟩
                    rw [← hobe] at hob ⊢
                    obtain ⟨ov, hove⟩ : ∃ x, x = wr.heap.size := ⟨_, rfl⟩
                    rw [← hove] at hov hob hobe hzl ⊢
                    clear hove hbe
                    obtain ⟨g1, g2, g3⟩ := HSTAY.out W4 ho4
                    have hor := HOR.out
                    have HL := Lib.hid (HLEFT.out k W4.drew ho4.drew hs4 hb4)
                    have HSL : ShL W4.drew t.shr lb hb sb ob lo hi0 bs fc sz ov := by
                      have hn1 : t.shr.n = n := HN.out.1.symm
                      refine ⟨?_, ?_, ?_, ?_, ?_, ?_, ?_, ?_, ?_, ?_⟩
                      · rw [hn1]; exact cell_blk g1.l 0 rfl
                      · rw [hn1]; exact cell_blk g1.h 0 rfl
                      · rw [hn1]; exact cell_blk g1.s 0 rfl
                      · rw [hn1]; exact cell_blk hob 0 rfl
                      · rw [hn1]; exact g1.fl
                      · rw [hn1]; exact g1.fh
                      · rw [hn1]; exact g1.fb
                      · rw [hn1]; exact g3
                      · intro x hx
                        simp only [List.mem_cons, List.mem_nil_iff, or_false] at hx
                        omega
                      · omega
                    have hsp := spread_calls W4.drew HT.out.shk (HT.out.shs k) (fz := fz) HSL (by rw [show t.shr.n = n from HN.out.1.symm]; exact hs4) (by rw [show t.shr.n = n from HN.out.1.symm]; exact hov) (by rw [show t.shr.n = n from HN.out.1.symm]; exact hb4)
                    rw [show t.shr.n = n from HN.out.1.symm, ← HFF.out, show t.shr.growing = g from HG.out.symm] at hsp
                    have HSP := Lib.hid hsp
                    have c1 : W4.drew.cell? ⟨bb, 0, none⟩ = some (.slice (some ⟨bs, 0, none⟩) n n) := cell_blk g1.b 0 rfl
                    have c2 : W4.drew.cell? ⟨zb, 0, none⟩ = some (.slice (some ⟨fz, 0, none⟩) n n) := cell_blk g2 0 rfl
                    have nb1 : ¬ (bb = sz ∨ bb = ov) := by omega
                    have nz1 : ¬ (zb = sz ∨ zb = ov) := by omega
                    have HIX := Lib.hid (And.intro hobe hzl)
                    have H4 := Lib.hid (And.intro ho4 (And.intro hs4 (And.intro hb4 hob)))
                    clear g1 g2 g3 hor HSL hsp hobe hzl ho4 hs4 hb4 hov hob
                    go_cut [] (fun wc => Hid (Fl wc sz n (t.shr.turnS (t.st k).1 (t.st k).2) ∧ Fl wc ov n (fun j => if (t.st k).2 j = true then 0 else t.shr.over (t.st k).1 (t.st k).2 j) ∧ Onl (fun k => k = sz ∨ k = ov) W4.drew wc))
                    case first =>
                      go_region_held3 (fun W => W.cell? ⟨bb, 0, none⟩ = some (.slice (some ⟨bs, 0, none⟩) n n) ∧ W.cell? ⟨zb, 0, none⟩ = some (.slice (some ⟨fz, 0, none⟩) n n)) (first | exact ⟨c1, c2⟩ | exact ⟨HS6.out.2.2.cell c1 nb1, HS6.out.2.2.cell c2 nz1⟩) (first | (go_at_call 26; refine HL.out.mono ?_; rintro e w5 ⟨rfl, rfl⟩) | (go_at_call 27; refine HSP.out.mono ?_; rintro e w6 ⟨rfl, s1, s2, s3⟩; have HS6 := Lib.hid (And.intro s1 (And.intro s2 s3)); clear s1 s2 s3))
                      all_goals go_wp2_with fail
                      all_goals go_meet
                      all_goals exact HS6
                    case rest =>
                    have HS6 := hcut
                    obtain ⟨w6, hw6⟩ : ∃ x, x = wc := ⟨_, rfl⟩
                    rw [← hw6] at HS6 ⊢
                    clear hcut hw6
                    have H6 : Hid (Fl w6 sz n (t.shr.turnS (t.st k).1 (t.st k).2) ∧ Fl w6 ov n (fun j => if (t.st k).2 j = true then 0 else t.shr.over (t.st k).1 (t.st k).2 j) ∧ Onl (fun k => k = sz ∨ k = fz ∨ zb < k) W3 w6 ∧ Onl (fun k => k = sz ∨ k = ov) W4 w6) := Lib.hid (by
                      have h1 := HIX.out
                      refine ⟨HS6.out.1, HS6.out.2.1, ?_, ((Onl.refl _ W4).drew).trans HS6.out.2.2⟩
                      exact (H4.out.1.drew).trans (HS6.out.2.2.mono (fun x hx => by omega)))
                    have hor := HOR.out
                    have hix := HIX.out
                    have hb6 : Bl w6 fz n (t.st k).2 := H6.out.2.2.2.bl H4.out.2.2.1 (by omega)
                    have ho6 : w6.heap[ob]? = some (.cells #[.slice (some ⟨ov, 0, none⟩) n n] 24 (0, 0)) := H6.out.2.2.2.block _ _ (by omega) H4.out.2.2.2
                    obtain ⟨g1, g2, g3⟩ := HSTAY.out w6 H6.out.2.2.1
                    have HB6 := Lib.hid (And.intro hb6 (And.intro ho6 (And.intro g1 g2)))
                    have nfz : fz ≠ ov ∧ fz ≠ sz ∧ ov ≠ fz ∧ ob ≠ fz ∧ zb ≠ fz ∧ nb ≠ fz := by omega
                    have HNF := Lib.hid nfz
                    have cn := cell_blk g1.n' 0 rfl
                    obtain ⟨V, hV⟩ : ∃ V, V = t.shr.turnV (t.st k).1 (t.st k).2 := ⟨_, rfl⟩
                    have HV : Hid (V = sumO (t.shr.over (t.st k).1 (t.st k).2) (t.st k).2 n) := Lib.hid (by rw [hV, HN.out.1]; rfl)
                    have HOV : Hid (∀ i, i < n → (t.st k).2 i = false → Num (t.shr.over (t.st k).1 (t.st k).2 i)) := Lib.hid (fun i hi hz => (HT.out.shk.over (HT.out.shs k) (by rw [HN.out.1] at hi; exact hi) hz).2)
                    have HVV := Lib.hid hV
                    clear hor hix hb6 ho6 g1 g2 g3 c1 c2 nb1 nz1 HS6 HSP HL H4 nfz hV
                    go_wp2_with fail
                    go_loopg [26, 168] n (fun m v u wr => ∃ i : Nat, u = .int .i64 (i : Int) ∧ vRel (sumO (t.shr.over (t.st k).1 (t.st k).2) (t.st k).2 i) v ∧ Hid (i + m = n ∧ Onl (fun _ => False) w6 wr))
                    case atStart => exact ⟨0, rfl, rfl, Lib.hid ⟨by omega, Onl.refl _ _⟩⟩
                    case round =>
                      obtain ⟨i, rfl, hv, hw⟩ := hrel
                      have hsum := hw.out.1
                      have HO7 := Lib.hid hw.out.2
                      clear hw cn
                      have hn := HNB.out
                      have q0 : IntKind.i64.wrap ((i : Int) + 1) = (i : Int) + 1 := IntWalk.i64_in _ (by omega)
                      by_cases hi : i < n
                      · have HM : Hid (gk - 1 < gk) := Lib.hid (by omega)
                        have HSM : Hid (i + 1 + (gk - 1) = n) := Lib.hid (by omega)
                        have x1 := (HO7.out.bl HB6.out.1 id).cell hi
                        have x2 := cell_blk (HO7.out.block _ _ id HB6.out.2.2.2) 0 rfl
                        have x3 := cell_blk (HO7.out.block _ _ id HB6.out.2.1) 0 rfl
                        have x4 := (HO7.out.fl H6.out.2.1 id).cell hi
                        have HVI := Lib.hid hv
                        cases hz : (t.st k).2 i with
                        | true =>
                          rw [hz] at x1
                          have hse := sumO_true (o := t.shr.over (t.st k).1 (t.st k).2) hz
                          clear hz hv x4
                          go_wp2_with fail
                          go_roundg (gk - 1)
                          case measure => exact HM.out
                          case rel => exact ⟨i + 1, by go_num, by rw [hse]; exact HVI.out, Lib.hid ⟨HSM.out, HO7.out⟩⟩
                        | false =>
                          have hse := sumO_false (o := t.shr.over (t.st k).1 (t.st k).2) hz
                          have hno := HOV.out i hi hz
                          rw [hz] at x1
                          rw [hz, if_neg (by decide)] at x4
                          clear hz
                          obtain ⟨ovi, hovi⟩ : ∃ x, x = t.shr.over (t.st k).1 (t.st k).2 i := ⟨_, rfl⟩
                          rw [← hovi] at x4 hse hno
                          clear hovi
                          have hex : ∃ x r y, u26 = fl x ∧ (∀ tt, (binOp .add tt (fl x) (fl ovi)).run Try.prog wr = .ok (fl r) y) ∧ Onl (fun _ => False) w6 y ∧ vRel (sumO (t.shr.over (t.st k).1 (t.st k).2) (t.st k).2 (i + 1)) (fl r) := by
                            rw [hse]
                            have hv := HVI.out
                            cases hs : sumO (t.shr.over (t.st k).1 (t.st k).2) (t.st k).2 i with
                            | none =>
                              rw [hs] at hv
                              obtain ⟨x, e1, e2⟩ := hv
                              obtain ⟨r, h1, h2⟩ := run_add_none (add_none_left (y := ovi) e2) wr
                              exact ⟨x, r, _, e1, h2, HO7.out.drew, r, rfl, h1⟩
                            | some a =>
                              rw [hs] at hv
                              cases hr : Ieee.double.add a ovi with
                              | none =>
                                obtain ⟨r, h1, h2⟩ := run_add_none hr wr
                                refine ⟨a, r, _, hv, h2, HO7.out.drew, ?_⟩
                                show vRel (Ieee.double.add a ovi) _
                                rw [hr]
                                exact ⟨r, rfl, h1⟩
                              | some r =>
                                refine ⟨a, r, wr, hv, fun tt => hadd hr tt wr, HO7.out, ?_⟩
                                show vRel (Ieee.double.add a ovi) _
                                rw [hr]
                                rfl
                          obtain ⟨x, r, y, rfl, hop, hy, hvr⟩ := hex
                          have HYY := Lib.hid (And.intro hy hvr)
                          clear hy hvr hv hse hno
                          go_wp2_with (simp only [hop])
                          go_roundg (gk - 1)
                          case measure => exact HM.out
                          case rel => exact ⟨i + 1, by go_num, HYY.out.2, Lib.hid ⟨HSM.out, HYY.out.1⟩⟩
                      · have hin : i = n := by omega
                        have hv2 := hv
                        rw [hin, ← HV.out] at hv2
                        obtain ⟨xv, rfl, hp, hq⟩ := hv2.pick
                        have H7 : Hid (Onl (fun k => k = sz ∨ k = fz ∨ zb < k) W3 wr ∧ Fl wr sz n (t.shr.turnS (t.st k).1 (t.st k).2) ∧ Fl wr ov n (fun j => if (t.st k).2 j = true then 0 else t.shr.over (t.st k).1 (t.st k).2 j) ∧ Bl wr fz n (t.st k).2 ∧ wr.heap[ob]? = some (.cells #[.slice (some ⟨ov, 0, none⟩) n n] 24 (0, 0)) ∧ StW t w wr N bb lb hb nb bs lo hi0 gr sh sz sb n ∧ wr.heap[zb]? = some (.cells #[.slice (some ⟨fz, 0, none⟩) n n] 56 (0, 0))) := Lib.hid (by
                          have o7 := H6.out.2.2.1.trans (HO7.out.mono (P' := (fun k => k = sz ∨ k = fz ∨ zb < k)) (fun x hx => hx.elim))
                          obtain ⟨g1, g2, _⟩ := HSTAY.out wr o7
                          exact ⟨o7, HO7.out.fl H6.out.1 id, HO7.out.fl H6.out.2.1 id, HO7.out.bl HB6.out.1 id, HO7.out.block _ _ id HB6.out.2.1, g1, g2⟩)
                        obtain ⟨pv, hpv⟩ : ∃ b, b = posO V := ⟨_, rfl⟩
                        obtain ⟨qv, hqv⟩ : ∃ b, b = negO V := ⟨_, rfl⟩
                        rw [← hpv] at hp
                        rw [← hqv] at hq
                        have HPQ := Lib.hid (And.intro hpv (And.intro hqv HVV.out))
                        have cn := cell_blk H7.out.2.2.2.2.2.1.n' 0 rfl
                        obtain ⟨w7, hw7⟩ : ∃ x, x = wr := ⟨_, rfl⟩
                        rw [hin]
                        clear hi hsum hin hv hv2 hpv hqv H6 HB6 HO7 HV q0 i
                        go_wp2_with fail
                        rw [← hw7] at H7 ⊢
                        clear hw7 cn
                        have HHP := Lib.hid (And.intro hp hq)
                        clear hp hq
                        go_loopg [21, 184] n (fun m v u wr => ∃ i : Nat, u = .int .i64 (i : Int) ∧ v = .int .i64 ((cnt n (mixF (t.shr.turnF (t.st k).1 (t.st k).2) (t.st k).2 i) : Nat) : Int) ∧ Hid (i + m = n ∧ Onl (fun x => x = fz) w7 wr) ∧ Bl wr fz n (mixF (t.shr.turnF (t.st k).1 (t.st k).2) (t.st k).2 i))
                        case atStart => exact ⟨0, rfl, by rw [HGK.out.1]; rfl, Lib.hid ⟨by omega, Onl.refl _ _⟩, H7.out.2.2.2.1⟩
                        case round =>
                          obtain ⟨i, rfl, rfl, hw, hx⟩ := hrel
                          have hsum := hw.out.1
                          have HO8 := Lib.hid hw.out.2
                          have HX8 := Lib.hid hx
                          clear hw hx
                          have hn := HNB.out
                          have q0 : IntKind.i64.wrap ((i : Int) + 1) = (i : Int) + 1 := IntWalk.i64_in _ (by omega)
                          have hnf := HNF.out
                          by_cases hi : i < n
                          · have HM : Hid (gk - 1 < gk) := Lib.hid (by omega)
                            have HSM : Hid (i + 1 + (gk - 1) = n) := Lib.hid (by omega)
                            have x1 := HX8.out.cell hi
                            rw [mixF_at] at x1
                            have x2 := cell_blk (HO8.out.block _ _ hnf.2.2.2.2.1 H7.out.2.2.2.2.2.2) 0 rfl
                            have x3 := cell_blk (HO8.out.block _ _ hnf.2.2.2.1 H7.out.2.2.2.2.1) 0 rfl
                            have x4 := (HO8.out.fl H7.out.2.2.1 hnf.2.2.1).cell hi
                            have xf := free_blk HX8.out i
                            cases hz : (t.st k).2 i with
                            | true =>
                              rw [hz] at x1
                              have hfr : t.shr.turnF (t.st k).1 (t.st k).2 i = (t.st k).2 i := (turnF_mono hz).trans hz.symm
                              have HFR := Lib.hid hfr
                              clear hz hfr x4 hnf
                              go_wp2_with fail
                              go_roundg (gk - 1)
                              case measure => exact HM.out
                              case rel => exact ⟨i + 1, by go_num, by rw [mixC_same (n := n) HFR.out], Lib.hid ⟨HSM.out, HO8.out⟩, HX8.out.congr (fun j _ => mixF_same HFR.out j)⟩
                            | false =>
                              rw [hz] at x1
                              rw [hz, if_neg (by decide)] at x4
                              have hno := HOV.out i hi hz
                              have hpos : 0 < cnt n (mixF (t.shr.turnF (t.st k).1 (t.st k).2) (t.st k).2 i) := cnt_pos_of hi (by rw [mixF_at]; exact hz)
                              have hcl := cnt_le n (mixF (t.shr.turnF (t.st k).1 (t.st k).2) (t.st k).2 i)
                              have q1 : IntKind.i64.wrap ((cnt n (mixF (t.shr.turnF (t.st k).1 (t.st k).2) (t.st k).2 i) : Int) - 1) = (cnt n (mixF (t.shr.turnF (t.st k).1 (t.st k).2) (t.st k).2 i) : Int) - 1 := IntWalk.i64_in _ (by omega)
                              have hle := hno.leq
                              have hge := hno.geq
                              obtain ⟨lev, hlev⟩ : ∃ b, b = !gtD (t.shr.over (t.st k).1 (t.st k).2 i) 0 := ⟨_, rfl⟩
                              obtain ⟨gev, hgev⟩ : ∃ b, b = !ltD (t.shr.over (t.st k).1 (t.st k).2 i) 0 := ⟨_, rfl⟩
                              rw [← hlev] at hle
                              rw [← hgev] at hge
                              have HFR : Hid (t.shr.turnF (t.st k).1 (t.st k).2 i = (!(pv && lev) && !(qv && gev))) := Lib.hid (by
                                unfold Shr.turnF
                                rw [hz, ← HPQ.out.2.2, Bool.false_or, HPQ.out.1, HPQ.out.2.1, hlev, hgev]
                                rfl)
                              have HZ := Lib.hid hz
                              obtain ⟨hp, hq⟩ := HHP.out
                              clear hz hno hpos hcl hlev hgev hnf HPQ HHP
                              obtain ⟨ovi, hovi⟩ : ∃ x, x = t.shr.over (t.st k).1 (t.st k).2 i := ⟨_, rfl⟩
                              rw [← hovi] at x4 hle hge
                              clear hovi
                              cases pv with
                              | false =>
                                cases qv with
                                | false =>
                                  have hfr : t.shr.turnF (t.st k).1 (t.st k).2 i = true := by
                                    rw [HFR.out]
                                    rfl
                                  go_wp2_with fail
                                  go_roundg (gk - 1)
                                  case measure => exact HM.out
                                  case rel => exact ⟨i + 1, by go_num, by rw [(mixC_set hi hfr HZ.out).1], Lib.hid ⟨HSM.out, HO8.out.set rfl _⟩, (HX8.out.set i true).congr (fun j _ => mixF_set hfr j)⟩
                                | true =>
                                  cases gev with
                                  | false =>
                                    have hfr : t.shr.turnF (t.st k).1 (t.st k).2 i = true := by
                                      rw [HFR.out]
                                      rfl
                                    go_wp2_with fail
                                    go_roundg (gk - 1)
                                    case measure => exact HM.out
                                    case rel => exact ⟨i + 1, by go_num, by rw [(mixC_set hi hfr HZ.out).1], Lib.hid ⟨HSM.out, HO8.out.set rfl _⟩, (HX8.out.set i true).congr (fun j _ => mixF_set hfr j)⟩
                                  | true =>
                                    have hfr : t.shr.turnF (t.st k).1 (t.st k).2 i = false := by
                                      rw [HFR.out]
                                      rfl
                                    go_wp2_with fail
                                    go_roundg (gk - 1)
                                    case measure => exact HM.out
                                    case rel => exact ⟨i + 1, by go_num, by rw [mixC_same (n := n) (hfr.trans HZ.out.symm)], Lib.hid ⟨HSM.out, HO8.out⟩, HX8.out.congr (fun j _ => mixF_same (hfr.trans HZ.out.symm) j)⟩
                              | true =>
                                cases lev with
                                | false =>
                                    cases qv with
                                    | false =>
                                      have hfr : t.shr.turnF (t.st k).1 (t.st k).2 i = true := by
                                        rw [HFR.out]
                                        rfl
                                      go_wp2_with fail
                                      go_roundg (gk - 1)
                                      case measure => exact HM.out
                                      case rel => exact ⟨i + 1, by go_num, by rw [(mixC_set hi hfr HZ.out).1], Lib.hid ⟨HSM.out, HO8.out.set rfl _⟩, (HX8.out.set i true).congr (fun j _ => mixF_set hfr j)⟩
                                    | true =>
                                      cases gev with
                                      | false =>
                                        have hfr : t.shr.turnF (t.st k).1 (t.st k).2 i = true := by
                                          rw [HFR.out]
                                          rfl
                                        go_wp2_with fail
                                        go_roundg (gk - 1)
                                        case measure => exact HM.out
                                        case rel => exact ⟨i + 1, by go_num, by rw [(mixC_set hi hfr HZ.out).1], Lib.hid ⟨HSM.out, HO8.out.set rfl _⟩, (HX8.out.set i true).congr (fun j _ => mixF_set hfr j)⟩
                                      | true =>
                                        have hfr : t.shr.turnF (t.st k).1 (t.st k).2 i = false := by
                                          rw [HFR.out]
                                          rfl
                                        go_wp2_with fail
                                        go_roundg (gk - 1)
                                        case measure => exact HM.out
                                        case rel => exact ⟨i + 1, by go_num, by rw [mixC_same (n := n) (hfr.trans HZ.out.symm)], Lib.hid ⟨HSM.out, HO8.out⟩, HX8.out.congr (fun j _ => mixF_same (hfr.trans HZ.out.symm) j)⟩
                                | true =>
                                    cases qv with
                                    | false =>
                                      have hfr : t.shr.turnF (t.st k).1 (t.st k).2 i = false := by
                                        rw [HFR.out]
                                        rfl
                                      go_wp2_with fail
                                      go_roundg (gk - 1)
                                      case measure => exact HM.out
                                      case rel => exact ⟨i + 1, by go_num, by rw [mixC_same (n := n) (hfr.trans HZ.out.symm)], Lib.hid ⟨HSM.out, HO8.out⟩, HX8.out.congr (fun j _ => mixF_same (hfr.trans HZ.out.symm) j)⟩
                                    | true =>
                                      cases gev with
                                      | false =>
                                        have hfr : t.shr.turnF (t.st k).1 (t.st k).2 i = false := by
                                          rw [HFR.out]
                                          rfl
                                        go_wp2_with fail
                                        go_roundg (gk - 1)
                                        case measure => exact HM.out
                                        case rel => exact ⟨i + 1, by go_num, by rw [mixC_same (n := n) (hfr.trans HZ.out.symm)], Lib.hid ⟨HSM.out, HO8.out⟩, HX8.out.congr (fun j _ => mixF_same (hfr.trans HZ.out.symm) j)⟩
                                      | true =>
                                        have hfr : t.shr.turnF (t.st k).1 (t.st k).2 i = false := by
                                          rw [HFR.out]
                                          rfl
                                        go_wp2_with fail
                                        go_roundg (gk - 1)
                                        case measure => exact HM.out
                                        case rel => exact ⟨i + 1, by go_num, by rw [mixC_same (n := n) (hfr.trans HZ.out.symm)], Lib.hid ⟨HSM.out, HO8.out⟩, HX8.out.congr (fun j _ => mixF_same (hfr.trans HZ.out.symm) j)⟩
                          · have hin : i = n := by omega
                            have hb8 : Bl wr fz n (t.shr.turnF (t.st k).1 (t.st k).2) := by
                              have := HX8.out
                              rw [hin] at this
                              exact this.congr (fun j hj => by unfold mixF; rw [if_pos hj])
                            have hc8 : cnt n (mixF (t.shr.turnF (t.st k).1 (t.st k).2) (t.st k).2 i) = cnt n (t.st (k + 1)).2 := by
                              rw [hin]
                              exact cnt_congr (fun j hj => by unfold mixF; rw [if_pos hj]; rfl)
                            have HB8 := Lib.hid hb8
                            rw [hc8]
                            have hlt : cnt n (t.st (k + 1)).2 < gm := by
                              have h1 := HGK.out
                              rw [h1.1]
                              have := HT.out.less k (by rw [← HN.out.1, ← h1.1]; exact h1.2)
                              rw [← HN.out.1] at this
                              exact this
                            have HLT := Lib.hid hlt
                            have hnq : ¬ i < n := hi
                            clear hc8 hb8 hlt hin hnf
                            go_wp2_with fail
                            go_roundg (cnt n (t.st (k + 1)).2)
                            case measure => exact HLT.out
                            case rel => exact ⟨k + 1, rfl, Lib.hid ⟨rfl, H7.out.1.trans (HO8.out.mono (fun x hx => .inr (.inl hx)))⟩, HO8.out.fl H7.out.2.1 (Ne.symm HNF.out.2.1), HB8.out⟩
end Go.Proofs.Ytohmmkkbfiembaa
