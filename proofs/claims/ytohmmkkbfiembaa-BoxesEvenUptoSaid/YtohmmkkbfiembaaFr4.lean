/- The document's share. -/
import Derived.Test.YtohmmkkbfiembaaFr3
import Derived.Test.YtohmmkkbfiembaaFs3
import Derived.Test.YtohmmkkbfiembaaAp7
namespace Go.Proofs.Ytohmmkkbfiembaa
open Go.RowKit Go.Shelf
attribute [local go_sem] Oper.semAt_some
attribute [local go_sem] run_store_float
set_option linter.unusedVariables false
set_option maxRecDepth 100000

def blist (n : Nat) (f : Nat → Bool) : List Value := (List.range n).map (fun i => .bool (f i))
theorem blist_succ (n : Nat) (f : Nat → Bool) : blist (n + 1) f = blist n f ++ [.bool (f n)] := by unfold blist; rw [List.range_succ, List.map_append]; rfl
/-- A row that a call owns: none at all, or at the head of a block. -/
theorem flg_of_own {w : World} {base n : Nat} {v : Value} {f : Nat → Nat} (h : w.ownsRow base 23 1 v n (flist n f)) (B : Nat) (hB : w.heap.size ≤ B) (hb : base ≤ w.heap.size) :
    ∃ a b c, v = .slice a n c ∧ (0 < n → a = some ⟨b, 0, none⟩ ∧ b < w.heap.size) ∧ base ≤ b ∧ (b < w.heap.size ∨ b = B) ∧ FlG w b n f := by
  rcases h.2 with ⟨rfl, hn⟩ | ⟨g, cap, cur, rfl, hbg, hg, _⟩
  · exact ⟨none, B, 0, by rw [hn], fun h => by omega, by omega, .inr rfl, fun h => by omega⟩
  · obtain ⟨h1, h2, h3⟩ := flg_of_row h
    exact ⟨_, g, cap, rfl, fun _ => ⟨rfl, h3⟩, hbg, .inl h3, h1⟩
theorem blg_of_own {w : World} {base n : Nat} {v : Value} {f : Nat → Bool} (h : w.ownsRow base 4 1 v n (blist n f)) (B : Nat) (hB : w.heap.size ≤ B) (hb : base ≤ w.heap.size) :
    ∃ a b c, v = .slice a n c ∧ (0 < n → a = some ⟨b, 0, none⟩ ∧ b < w.heap.size) ∧ base ≤ b ∧ (b < w.heap.size ∨ b = B) ∧ BlG w b n f := by
  rcases h.2 with ⟨rfl, hn⟩ | ⟨g, cap, cur, rfl, hbg, hg, _⟩
  · exact ⟨none, B, 0, by rw [hn], fun h => by omega, by omega, .inr rfl, fun h => by omega⟩
  · refine ⟨_, g, cap, rfl, fun _ => ⟨rfl, lt_of_some hg⟩, hbg, .inl (lt_of_some hg), fun _ => ⟨cur, hg, fun i hi => ?_⟩⟩
    have h3 := h.cellAt i (by omega)
    have h4 : (blist n f)[i]? = some (.bool (f i)) := by unfold blist; simp [hi]
    have h5 := cell_of_row w g i cur 4 (0, 0) hg
    rw [h4] at h3
    exact h5.symm.trans h3
theorem onl_ge {B : Nat} {w w' : World} (h : Below B w w') : Onl (fun k => B ≤ k) w w' := ⟨h.os, h.tape, h.output, h.size, fun k o hk ho => (h.block k (by omega)).trans ho⟩
/-- What is told lies: the share's block, the rows ahead of it. -/
structure R4M (t : Told) (n rm : Nat) (w W : World) (sp bs lo hi cb cl ch : Nat) (g : Bool) (x1 x4 x7 x8 x9 : Value) : Prop where
  low : Below w.heap.size w W
  cell : W.heap[sp]? = some (.cells #[fl rm, x1, .bool g, .slice (some ⟨bs, 0, none⟩) n cb, x4, .slice (some ⟨lo, 0, none⟩) n cl, .slice (some ⟨hi, 0, none⟩) n ch, x7, x8, x9] 62 (0, 0))
  hb : FlG W bs n t.b
  hl : FlG W lo n t.l
  hh : FlG W hi n t.h
  ord : w.heap.size ≤ bs ∧ w.heap.size ≤ lo ∧ w.heap.size ≤ hi ∧ bs < sp ∧ lo < sp ∧ hi < sp ∧ sp < W.heap.size
section
variable {t : Told} {n rm : Nat} {w W W' : World} {sp bs lo hi cb cl ch : Nat} {g : Bool} {x1 x4 x7 x8 x9 : Value}
/-- Only blocks behind the share's changed. -/
theorem R4M.below (h : R4M t n rm w W sp bs lo hi cb cl ch g x1 x4 x7 x8 x9) (b : Below (sp + 1) W W') : R4M t n rm w W' sp bs lo hi cb cl ch g x1 x4 x7 x8 x9 := by
  obtain ⟨o1, o2, o3, o4, o5, o6, o7⟩ := h.ord
  have hs := b.size
  exact ⟨h.low.trans (b.mono (by omega)), (b.block _ (by omega)).trans h.cell, h.hb.keep (fun o ho => (b.block _ (by omega)).trans ho), h.hl.keep (fun o ho => (b.block _ (by omega)).trans ho), h.hh.keep (fun o ho => (b.block _ (by omega)).trans ho), o1, o2, o3, o4, o5, o6, by omega⟩
theorem R4M.drew (h : R4M t n rm w W sp bs lo hi cb cl ch g x1 x4 x7 x8 x9) : R4M t n rm w W.drew sp bs lo hi cb cl ch g x1 x4 x7 x8 x9 := h.below (Below.refl _ W).drew
theorem R4M.put (h : R4M t n rm w W sp bs lo hi cb cl ch g x1 x4 x7 x8 x9) (k : Nat) (u : Value) {g' : Bool} {y1 y4 y7 y8 y9 : Value}
    (e : (#[fl rm, x1, .bool g, .slice (some ⟨bs, 0, none⟩) n cb, x4, .slice (some ⟨lo, 0, none⟩) n cl, .slice (some ⟨hi, 0, none⟩) n ch, x7, x8, x9] : Array Value).setIfInBounds k u = #[fl rm, y1, .bool g', .slice (some ⟨bs, 0, none⟩) n cb, y4, .slice (some ⟨lo, 0, none⟩) n cl, .slice (some ⟨hi, 0, none⟩) n ch, y7, y8, y9]) :
    R4M t n rm w (W.setCell ⟨sp, k, none⟩ u) sp bs lo hi cb cl ch g' y1 y4 y7 y8 y9 := by
  obtain ⟨o1, o2, o3, o4, o5, o6, o7⟩ := h.ord
  have o := Onl.set (P := fun k => k = sp) (Onl.refl _ W) (a := ⟨sp, k, none⟩) rfl u
  refine ⟨h.low.setCell (by show _ ≤ sp; omega) _, ?_, o.flg h.hb (by omega), o.flg h.hl (by omega), o.flg h.hh (by omega), o1, o2, o3, o4, o5, o6, by simpa using o7⟩
  rw [← e]
  exact set_blk h.cell k u
end
theorem own_below {w w' : World} {base n size : Nat} {e : TypeId} {v : Value} {xs : List Value} (h : w.ownsRow base e size v n xs) (b : Below w.heap.size w w') : w'.ownsRow base e size v n xs := by
  refine ⟨h.1, ?_⟩
  rcases h.2 with h' | ⟨g, cap, cur, rfl, hbg, hg, rest⟩
  · exact .inl h'
  · exact .inr ⟨g, cap, cur, rfl, hbg, (b.block _ (lt_of_some hg)).trans hg, rest⟩
set_option maxHeartbeats 4000000 in
theorem share18_calls (w : World) {t : Told} (o : ToldOk t) {a1 a2 a3 a4 a5 : Option Addr} {p1 p2 p3 p4 p5 : Nat} (h1 : SlF w a1 t.n t.B) (h2 : SlF w a2 t.n t.G) (h3 : SlF w a3 t.n t.S) (h4 : SlF w a4 t.n t.L) (h5 : SlF w a5 t.n t.H)
    (k1 : t.n ≤ p1 ∧ p1 ≤ 9223372036854775807) (k2 : t.n ≤ p2 ∧ p2 ≤ 9223372036854775807) (k3 : t.n ≤ p3 ∧ p3 ≤ 9223372036854775807) (k4 : t.n ≤ p4 ∧ p4 ≤ 9223372036854775807) (k5 : t.n ≤ p5 ∧ p5 ≤ 9223372036854775807) :
    Calls Try.prog 10 #[fl t.room, .slice a1 t.n p1, .slice a2 t.n p2, .slice a3 t.n p3, .slice a4 t.n p4, .slice a5 t.n p5] w
      fun e w' => ∃ a b c, e = .returned (.tuple #[.slice a t.n c, .int .i64 0]) ∧ (0 < t.n → a = some ⟨b, 0, none⟩) ∧ w.heap.size ≤ b ∧ FlG w' b t.n t.sizes ∧ Below w.heap.size w w' := by
  have HT := Lib.hid o
  have HA := Lib.hid (And.intro h1 (And.intro h2 (And.intro h3 (And.intro h4 h5))))
  have HK := Lib.hid (And.intro k1 (And.intro k2 (And.intro k3 (And.intro k4 k5))))
  obtain ⟨n, hn⟩ : ∃ n, n = t.n := ⟨_, rfl⟩
  obtain ⟨room, hroom⟩ : ∃ n, n = t.room := ⟨_, rfl⟩
  rw [← hn, ← hroom]
  rw [← hn] at HA HK
  have HN := Lib.hid (And.intro hn hroom)
  have HNB : Hid (n ≤ 1048578) := Lib.hid (by rw [hn]; exact o.n)
  have HU := Lib.hid (fun W => usedR_calls W room)
  have HU1 := Lib.hid (usedR18_calls w a1 n p1 t.B false HA.out.1 HK.out.1 HNB.out)
  have HU4 := Lib.hid (fun W (b : Below w.heap.size w W) => usedR18_calls W a4 n p4 t.L false (HA.out.2.2.2.1.below b) HK.out.2.2.2.1 HNB.out)
  have HU5 := Lib.hid (fun W (b : Below w.heap.size w W) => usedR18_calls W a5 n p5 t.H false (HA.out.2.2.2.2.below b) HK.out.2.2.2.2 HNB.out)
  clear o h1 h2 h3 h4 h5 k1 k2 k3 k4 k5 hn hroom
  go_enter Try.func10, Try.ntmps10
  go_upto_region 5 with (first | (have hh := g2; go_at_call 30; refine (HU5.out _ (B1.out.2.2.trans (B2.out.2.2.mono B1.out.2.2.size))).mono ?_; rintro e w3 ⟨hi0, ch, rfl, m1, m2, m3, m4⟩; have B3 := Lib.hid (And.intro m1 (And.intro (And.intro m2 m3) m4)); clear m1 m2 m3 m4) | (have hh := g1; go_at_call 30; refine (HU4.out _ B1.out.2.2).mono ?_; rintro e w2 ⟨lo, cl, rfl, m1, m2, m3, m4⟩; have B2 := Lib.hid (And.intro m1 (And.intro (And.intro m2 m3) m4)); clear m1 m2 m3 m4; have g2 : True := trivial) | (go_at_call 30; refine HU1.out.mono ?_; rintro e w1 ⟨bs, cb, rfl, m1, m2, m3, m4⟩; have B1 := Lib.hid (And.intro m1 (And.intro (And.intro m2 m3) m4)); clear m1 m2 m3 m4; have g1 : True := trivial) | (go_at_call 29; refine (HU.out _).mono ?_; rintro e w0 ⟨rfl, rfl⟩))
  have hR : R4M t n (usedD room) w (w3.alloc (.cells #[fl (usedD room), fl 0, .bool false, .slice (some ⟨bs, 0, none⟩) n cb, .slice none 0 0, .slice (some ⟨lo, 0, none⟩) n cl, .slice (some ⟨hi0, 0, none⟩) n ch, .slice none 0 0, .slice none 0 0, .slice none 0 0] 62)) w3.heap.size bs lo hi0 cb cl ch false (fl 0) (.slice none 0 0) (.slice none 0 0) (.slice none 0 0) (.slice none 0 0) := by
    obtain ⟨b1, ⟨m1, l1⟩, z1⟩ := B1.out
    obtain ⟨b2, ⟨m2, l2⟩, z2⟩ := B2.out
    obtain ⟨b3, ⟨m3, l3⟩, z3⟩ := B3.out
    have s1 := z1.size
    have s2 := z2.size
    have s3 := z3.size
    refine ⟨((z1.trans (z2.mono s1)).trans (z3.mono (by omega))).alloc (by omega) _, Go.heap_alloc_new w3 _, b1.keep (fun o ho => alloc_blk ((z3.block _ (by omega)).trans ((z2.block _ l1).trans ho)) _), b2.keep (fun o ho => alloc_blk ((z3.block _ l2).trans ho) _), b3.keep (fun o ho => alloc_blk ho _), m1, by omega, by omega, by omega, by omega, l3, by simp⟩
  have HR0 := Lib.hid hR
  clear hR
  obtain ⟨W0, hW0⟩ : ∃ W0, W0 = (w3.alloc (.cells #[fl (usedD room), fl 0, .bool false, .slice (some ⟨bs, 0, none⟩) n cb, .slice none 0 0, .slice (some ⟨lo, 0, none⟩) n cl, .slice (some ⟨hi0, 0, none⟩) n ch, .slice none 0 0, .slice none 0 0, .slice none 0 0] 62)) := ⟨_, rfl⟩
  obtain ⟨sp, hsp⟩ : ∃ x, x = w3.heap.size := ⟨_, rfl⟩
  rw [← hsp, ← hW0] at HR0
  try rw [← hW0]
  try rw [← hsp]
  clear hW0 hsp HU HU1 HU4 HU5 B1 B2 B3
  obtain ⟨rm, hrm⟩ : ∃ x, x = usedD room := ⟨_, rfl⟩
  rw [← hrm] at HR0
  have HRM : Hid (rm = t.rm) := Lib.hid (by rw [hrm, HN.out.2]; rfl)
  clear hrm
  -- the sizes, held between their bounds
  have HSUM := Lib.hid (fun i (hi : i < n) => HT.out.sum i (by rw [← HN.out.1]; exact hi))
  have HBT : Hid (∀ i, i < n → ∀ X, Calls Try.prog 31 #[fl (t.l i), fl (t.b i), fl (t.h i)] X fun e w' => e = .returned (fl (t.Sz0 i)) ∧ X = w') := Lib.hid (fun i hi X => by
    have hi' : i < t.n := by rw [← HN.out.1]; exact hi
    exact btwR_calls X (t.l i) (t.b i) (t.h i) (usedF_bd (HT.out.L i hi')).num (usedF_bd (HT.out.B i hi')).num (usedF_bd (HT.out.H i hi')).num)
  obtain ⟨A, hA⟩ : ∃ A, A = sumF t.Sz0 := ⟨_, rfl⟩
  have hA0 : A 0 = 0 := by rw [hA]; rfl
  rw [← hA] at HSUM
  have HAA := Lib.hid hA
  clear hA
  obtain ⟨i0, hi0', hz0, hz1, hz2⟩ := infoP infoF
  go_wp2_with fail
  go_loopg [16, 17] n (fun m v u wr => ∃ (i : Nat) (x7 : Value), u = .int .i64 (i : Int) ∧ v = fl (A i) ∧ Hid (i + m = n ∧ R4M t n rm w wr sp bs lo hi0 cb cl ch false (fl 0) (.slice none 0 0) x7 (.slice none 0 0) (.slice none 0 0)) ∧ wr.ownsRow (sp + 1) 23 1 x7 i (flist i t.Sz0))
  case atStart => exact ⟨0, _, rfl, by rw [hA0], Lib.hid ⟨by omega, HR0.out⟩, World.ownsRow_nil _ _ _ _⟩
  case round =>
    obtain ⟨i, x7, rfl, rfl, hw, hrow⟩ := hrel
    have hsum := hw.out.1
    have HR := Lib.hid hw.out.2
    have HW := Lib.hid hrow
    clear hw hrow
    have hn := HNB.out
    have q0 : IntKind.i64.wrap ((i : Int) + 1) = (i : Int) + 1 := IntWalk.i64_in _ (by omega)
    by_cases hi : i < n
    · have HM : Hid (gk - 1 < gk) := Lib.hid (by omega)
      have HSM : Hid (i + 1 + (gk - 1) = n) := Lib.hid (by omega)
      have HB := Lib.hid (HBT.out i hi)
      have hop := hadd (HSUM.out i hi)
      have c3 : wr.drew.cell? ⟨sp, 3, none⟩ = some (.slice (some ⟨bs, 0, none⟩) n cb) := cell_blk HR.out.cell 3 rfl
      have c5 : wr.drew.cell? ⟨sp, 5, none⟩ = some (.slice (some ⟨lo, 0, none⟩) n cl) := cell_blk HR.out.cell 5 rfl
      have c6 : wr.drew.cell? ⟨sp, 6, none⟩ = some (.slice (some ⟨hi0, 0, none⟩) n ch) := cell_blk HR.out.cell 6 rfl
      have e3 : wr.drew.cell? ⟨bs, i, none⟩ = some (fl (t.b i)) := HR.out.hb.cell hi
      have e5 : wr.drew.cell? ⟨lo, i, none⟩ = some (fl (t.l i)) := HR.out.hl.cell hi
      have e6 : wr.drew.cell? ⟨hi0, i, none⟩ = some (fl (t.h i)) := HR.out.hh.cell hi
      obtain ⟨v, hv⟩ : ∃ v, v = t.Sz0 i := ⟨_, rfl⟩
      rw [← hv] at HB hop
      have HV := Lib.hid hv
      clear hv
      go_wp2_with fail
      go_region_held3 (fun W => W.cell? ⟨sp, 3, none⟩ = some (.slice (some ⟨bs, 0, none⟩) n cb) ∧ W.cell? ⟨sp, 5, none⟩ = some (.slice (some ⟨lo, 0, none⟩) n cl) ∧ W.cell? ⟨sp, 6, none⟩ = some (.slice (some ⟨hi0, 0, none⟩) n ch) ∧ W.cell? ⟨bs, i, none⟩ = some (fl (t.b i)) ∧ W.cell? ⟨lo, i, none⟩ = some (fl (t.l i)) ∧ W.cell? ⟨hi0, i, none⟩ = some (fl (t.h i))) (exact ⟨c3, c5, c6, e3, e5, e6⟩) (first | (go_at_call 31; refine (HB.out _).mono ?_; rintro e w1 ⟨rfl, rfl⟩))
      clear c3 c5 c6 e3 e5 e6
      go_upto_region 10 with fail
      obtain ⟨Y, hY⟩ : ∃ Y, Y = wr.drew := ⟨_, rfl⟩
      have HRY : Hid (R4M t n rm w Y sp bs lo hi0 cb cl ch false (fl 0) (.slice none 0 0) x7 (.slice none 0 0) (.slice none 0 0) ∧ Y.ownsRow (sp + 1) 23 1 x7 i (flist i t.Sz0)) := Lib.hid (by rw [hY]; exact ⟨HR.out.drew, HW.out⟩)
      rw [← hY]
      have d7 := cell_blk HRY.out.1.cell 7 rfl
      have hsz : sp + 1 ≤ Y.heap.size := HRY.out.1.ord.2.2.2.2.2.2
      have hmx : i + 1 ≤ maxLen := by have : maxLen = 9223372036854775807 := rfl; omega
      have hby : (i + 1) * 8 ≤ 140737488355328 := by omega
      clear hY HR HW hi
      go_wp2_with (first | (at_builtin; refine wpList_append_lies _ rfl (.tmp 86) (.tmp 88) 24 rfl (sp + 1) 23 i0 (fl 0) 1 8 Try.underlying24 hi0' hz0 hz1 hz2 rfl (by omega) x7 i (flist i t.Sz0) rfl (HRY.out.2.alloc _) ⟨Y.heap.size, 0, none⟩ 1 1 [fl v] rfl rfl (World.news_of_block (cs := #[fl v]) (t := 23) (fr := (0, 0)) (Go.heap_alloc_new Y _)) (by simp [Value.oneCell']) (by omega) hmx hby (by simp; omega) (Y.heap.size + 1) (by simp) ?_; intro g2 c2 w5 hown2 hg2 hat2 hlt2; have hb5 := (((Below.refl (sp + 1) Y).alloc hsz _).trans (grown_below hg2 (fun y e => (HRY.out.2.lt y e).1) (by simp; omega))); have h5 := HRY.out.1.below hb5; have d5 := cell_blk h5.cell 7 rfl; have f5 := free_blk h5.cell 7; have HR5 := Lib.hid (And.intro h5 hown2); clear hown2 hg2 hat2 hlt2 hb5 h5))
      go_roundg (gk - 1)
      case measure => exact HM.out
      case rel => exact ⟨i + 1, _, by go_num, rfl, Lib.hid ⟨HSM.out, HR5.out.1.put 7 _ rfl⟩, by rw [flist_succ, ← HV.out]; exact rwOther HR5.out.2 HR5.out.1.cell (by decide) 7 _⟩
    · have hin : i = n := by omega
      have hr := HW.out
      rw [hin] at hr
      have HF := Lib.hid (And.intro HR.out hr)
      rw [hin]
      clear hi hsum hin hr HR HW HBT HSUM q0 HR0 hA0
      have hg : t.grow = (FloatKind.f64.format.order (A n) rm == some .lt) := by rw [HAA.out, HN.out.1, HRM.out]; rfl
      obtain ⟨g, hgg⟩ : ∃ g, g = t.grow := ⟨_, rfl⟩
      have hop : (FloatKind.f64.format.order (A n) rm == some .lt) = g := by rw [hgg, hg]
      have HG := Lib.hid hgg
      obtain ⟨An, hAn⟩ : ∃ x, x = A n := ⟨_, rfl⟩
      rw [← hAn] at hop ⊢
      clear hg hgg hAn HAA
      have hmk := make_fl n (by omega)
      have d8 := cell_blk (alloc_blk HF.out.1.cell (.cells (vc n (fun _ => 0)) 23)) 8 rfl
      have f8 := free_blk (alloc_blk HF.out.1.cell (.cells (vc n (fun _ => 0)) 23)) 8
      go_upto_region 13 with fail
      have HX := Lib.hid (⟨(HF.out.1.below ((Below.refl (sp + 1) wr).alloc HF.out.1.ord.2.2.2.2.2.2 (.cells (vc n (fun _ => 0)) 23))).put 8 (.slice (some ⟨wr.heap.size, 0, none⟩) n n) rfl, rwOther (HF.out.2.alloc _) (alloc_blk HF.out.1.cell _) (by decide) 8 _, (set_other (Go.heap_alloc_new wr _) (a := ⟨sp, 8, none⟩) (by show wr.heap.size ≠ sp; have := HF.out.1.ord.2.2.2.2.2.2; omega) _)⟩ : R4M t n rm w ((wr.alloc (.cells (vc n (fun _ => 0)) 23)).setCell ⟨sp, 8, none⟩ (.slice (some ⟨wr.heap.size, 0, none⟩) n n)) sp bs lo hi0 cb cl ch false (fl 0) (.slice none 0 0) x7 (.slice (some ⟨wr.heap.size, 0, none⟩) n n) (.slice none 0 0) ∧ ((wr.alloc (.cells (vc n (fun _ => 0)) 23)).setCell ⟨sp, 8, none⟩ (.slice (some ⟨wr.heap.size, 0, none⟩) n n)).ownsRow (sp + 1) 23 1 x7 n (flist n t.Sz0) ∧ Fl ((wr.alloc (.cells (vc n (fun _ => 0)) 23)).setCell ⟨sp, 8, none⟩ (.slice (some ⟨wr.heap.size, 0, none⟩) n n)) wr.heap.size n (fun _ => 0))
      have HOV : Hid (sp < wr.heap.size) := Lib.hid HF.out.1.ord.2.2.2.2.2.2
      have HOW : Hid (∀ y, x7.ownBlock = some y → y < wr.heap.size) := Lib.hid (fun y e => (HF.out.2.lt y e).2)
      obtain ⟨W1, hW1⟩ : ∃ x, x = ((wr.alloc (.cells (vc n (fun _ => 0)) 23)).setCell ⟨sp, 8, none⟩ (.slice (some ⟨wr.heap.size, 0, none⟩) n n)) := ⟨_, rfl⟩
      obtain ⟨ov, hov⟩ : ∃ x, x = wr.heap.size := ⟨_, rfl⟩
      rw [← hov] at HX HOV HOW hW1
      rw [← hW1] at HX
      try rw [← hov]
      try rw [← hW1]
      clear hW1 hov hmk d8 f8 HF
      -- growing, what is factored
      have d0 := cell_blk HX.out.1.cell 0 rfl
      have d2 := cell_blk HX.out.1.cell 2 rfl
      have f2 := free_blk HX.out.1.cell 2
      go_upto_region 14 with (simp only [hop])
      have HX2 := Lib.hid (⟨HX.out.1.put 2 (.bool g) rfl, rwOther HX.out.2.1 HX.out.1.cell (by decide) 2 _, set_other HX.out.2.2 (a := ⟨sp, 2, none⟩) (by show ov ≠ sp; have := HOV.out; omega) _⟩ : R4M t n rm w (W1.setCell ⟨sp, 2, none⟩ (.bool g)) sp bs lo hi0 cb cl ch g (fl 0) (.slice none 0 0) x7 (.slice (some ⟨ov, 0, none⟩) n n) (.slice none 0 0) ∧ (W1.setCell ⟨sp, 2, none⟩ (.bool g)).ownsRow (sp + 1) 23 1 x7 n (flist n t.Sz0) ∧ Fl (W1.setCell ⟨sp, 2, none⟩ (.bool g)) ov n (fun _ => 0))
      obtain ⟨W2, hW2⟩ : ∃ x, x = (W1.setCell ⟨sp, 2, none⟩ (.bool g)) := ⟨_, rfl⟩
      rw [← hW2] at HX2
      try rw [← hW2]
      clear hW2 HX d0 d2 f2 hop
      have HUS := Lib.hid (fun W (b : Below w.heap.size w W) => usedR18_calls W a3 n p3 t.S true (HA.out.2.2.1.below b) HK.out.2.2.1 HNB.out)
      have HUG := Lib.hid (fun W (b : Below w.heap.size w W) => usedR18_calls W a2 n p2 t.G true (HA.out.2.1.below b) HK.out.2.1 HNB.out)
      have hs2 := HX2.out.1.ord.2.2.2.2.2.2
      go_upto_if 117 with (go_at_call 30; refine (HUS.out _ HX2.out.1.low).mono ?_; rintro e w6 ⟨sh, cs, rfl, m1, m2, m3, m4⟩; have h6 := HX2.out.1.below (m4.mono hs2); have d4 := cell_blk h6.cell 4 rfl; have f4 := free_blk h6.cell 4; have d2 := cell_blk (h6.put 4 (.slice (some ⟨sh, 0, none⟩) n cs) rfl).cell 2 rfl; have B6 := Lib.hid (And.intro m1 (And.intro (And.intro m2 m3) (And.intro m4 h6))); clear m1 m2 m3 m4 h6)
      have HX3 := Lib.hid (⟨B6.out.2.2.2.put 4 (.slice (some ⟨sh, 0, none⟩) n cs) rfl, rwOther (own_below HX2.out.2.1 B6.out.2.2.1) B6.out.2.2.2.cell (by decide) 4 _, set_other ((B6.out.2.2.1.block _ HX2.out.2.2.lt).trans HX2.out.2.2) (a := ⟨sp, 4, none⟩) (by show ov ≠ sp; have := HOV.out; omega) _, B6.out.1.keep (fun o ho => set_other ho (a := ⟨sp, 4, none⟩) (by show sh ≠ sp; have := B6.out.2.1.1; omega) _), by have := B6.out.2.1.1; have := HX2.out.2.2.lt; omega, by simpa using B6.out.2.1.2⟩ : R4M t n rm w (w6.setCell ⟨sp, 4, none⟩ (.slice (some ⟨sh, 0, none⟩) n cs)) sp bs lo hi0 cb cl ch g (fl 0) (.slice (some ⟨sh, 0, none⟩) n cs) x7 (.slice (some ⟨ov, 0, none⟩) n n) (.slice none 0 0) ∧ (w6.setCell ⟨sp, 4, none⟩ (.slice (some ⟨sh, 0, none⟩) n cs)).ownsRow (sp + 1) 23 1 x7 n (flist n t.Sz0) ∧ Fl (w6.setCell ⟨sp, 4, none⟩ (.slice (some ⟨sh, 0, none⟩) n cs)) ov n (fun _ => 0) ∧ FlG (w6.setCell ⟨sp, 4, none⟩ (.slice (some ⟨sh, 0, none⟩) n cs)) sh n t.s ∧ ov < sh ∧ sh < (w6.setCell ⟨sp, 4, none⟩ (.slice (some ⟨sh, 0, none⟩) n cs)).heap.size)
      obtain ⟨W3, hW3⟩ : ∃ x, x = (w6.setCell ⟨sp, 4, none⟩ (.slice (some ⟨sh, 0, none⟩) n cs)) := ⟨_, rfl⟩
      rw [← hW3] at HX3 d2
      try rw [← hW3]
      clear hW3 HX2 B6 d4 f4 hs2 HUS
      have hs3 := HX3.out.1.ord.2.2.2.2.2.2
      go_cut [] (fun wc => ∃ fc cf, R4M t n rm w wc sp bs lo hi0 cb cl ch g (fl 0) (.slice (some ⟨fc, 0, none⟩) n cf) x7 (.slice (some ⟨ov, 0, none⟩) n n) (.slice none 0 0) ∧ wc.ownsRow (sp + 1) 23 1 x7 n (flist n t.Sz0) ∧ Fl wc ov n (fun _ => 0) ∧ FlG wc fc n t.fac ∧ ov < fc ∧ fc < wc.heap.size)
      case first =>
        cases g with
        | true =>
          go_wp2_with (go_at_call 30; refine (HUG.out _ HX3.out.1.low).mono ?_; rintro e w7 ⟨gr, cg, rfl, m1, m2, m3, m4⟩; have h6 := HX3.out.1.below (m4.mono hs3); have d4 := cell_blk h6.cell 4 rfl; have f4 := free_blk h6.cell 4; have B6 := Lib.hid (And.intro m1 (And.intro (And.intro m2 m3) (And.intro m4 h6))); clear m1 m2 m3 m4 h6)
          go_meet
          exact ⟨gr, cg, B6.out.2.2.2.put 4 _ rfl, rwOther (own_below HX3.out.2.1 B6.out.2.2.1) B6.out.2.2.2.cell (by decide) 4 _, set_other ((B6.out.2.2.1.block _ HX3.out.2.2.1.lt).trans HX3.out.2.2.1) (a := ⟨sp, 4, none⟩) (by show ov ≠ sp; have := HOV.out; omega) _, (B6.out.1.keep (fun o ho => set_other ho (a := ⟨sp, 4, none⟩) (by show gr ≠ sp; have := B6.out.2.1.1; omega) _)).congr (fun j _ => by unfold Told.fac; rw [← HG.out, if_pos rfl]; rfl), by have := B6.out.2.1.1; have := HX3.out.2.2.1.lt; omega, by simpa using B6.out.2.1.2⟩
        | false =>
          go_wp2_with fail
          go_meet
          exact ⟨sh, cs, HX3.out.1, HX3.out.2.1, HX3.out.2.2.1, HX3.out.2.2.2.1.congr (fun j _ => by unfold Told.fac; rw [← HG.out, if_neg (by decide)]), HX3.out.2.2.2.2.1, HX3.out.2.2.2.2.2⟩
      case rest =>
        obtain ⟨fc, cf, hR4⟩ := hcut
        have HR4 := Lib.hid hR4
        clear hR4 HX3 d2 hs3 HUG HA HK
        obtain ⟨W4, hW4⟩ : ∃ x, x = wc := ⟨_, rfl⟩
        rw [← hW4] at HR4 ⊢
        clear hW4
        go_upto_region 17 with fail
        obtain ⟨b7, c7, HB7⟩ : ∃ b7 c7, Hid ((0 < n → x7 = .slice (some ⟨b7, 0, none⟩) n c7 ∧ b7 < W4.heap.size ∧ b7 ≠ ov ∧ b7 ≠ fc) ∧ sp < b7 ∧ FlG W4 b7 n t.Sz0 ∧ ∃ a7, x7 = .slice a7 n c7) := by
          obtain ⟨a7, b7, c7, h1, h2, h3, h4, h5⟩ := flg_of_own HR4.out.2.1 W4.heap.size (Nat.le_refl _) HR4.out.1.ord.2.2.2.2.2.2
          refine ⟨b7, c7, Lib.hid ⟨fun hn => ?_, by omega, h5, a7, h1⟩⟩
          obtain ⟨e1, e2⟩ := h2 hn
          subst e1
          have l1 := HOW.out b7 (by rw [h1]; rfl)
          have l2 := HR4.out.2.2.2.2.1
          exact ⟨h1, e2, by omega, by omega⟩
        obtain ⟨M, hM⟩ : ∃ M, M = W4.heap.size := ⟨_, rfl⟩
        rw [← hM] at HB7
        have HM4 := Lib.hid hM
        clear hM
        obtain ⟨iB, hb0, hbz0, hbz1, hbz2⟩ := infoP infoB
        go_wp2_with fail
        go_loopg [19] n (fun m u wr => ∃ (i : Nat) (x9 : Value), u = .int .i64 (i : Int) ∧ Hid (i + m = n ∧ Onl (fun k => k = sp ∨ M ≤ k) W4 wr ∧ R4M t n rm w wr sp bs lo hi0 cb cl ch g (fl 0) (.slice (some ⟨fc, 0, none⟩) n cf) x7 (.slice (some ⟨ov, 0, none⟩) n n) x9) ∧ wr.ownsRow M 4 1 x9 i (blist i t.Fz0))
        case atStart => exact ⟨0, _, rfl, Lib.hid ⟨by omega, Onl.refl _ _, HR4.out.1⟩, World.ownsRow_nil _ _ _ _⟩
        case round =>
          obtain ⟨i, x9, rfl, hw, hrow⟩ := hrel
          have hsum := hw.out.1
          have HO := Lib.hid hw.out.2.1
          have HR := Lib.hid hw.out.2.2
          have HW := Lib.hid hrow
          clear hw hrow
          have hn := HNB.out
          have q0 : IntKind.i64.wrap ((i : Int) + 1) = (i : Int) + 1 := IntWalk.i64_in _ (by omega)
          by_cases hi : i < n
          · have HM : Hid (gk - 1 < gk) := Lib.hid (by omega)
            have HSM : Hid (i + 1 + (gk - 1) = n) := Lib.hid (by omega)
            obtain ⟨rfl, h72, h73, h74⟩ := HB7.out.1 (by omega)
            have HC : Hid (∀ X y9, R4M t n rm w X sp bs lo hi0 cb cl ch g (fl 0) (.slice (some ⟨fc, 0, none⟩) n cf) (.slice (some ⟨b7, 0, none⟩) n c7) (.slice (some ⟨ov, 0, none⟩) n n) y9 → Onl (fun k => k = sp ∨ M ≤ k) W4 X → X.cell? ⟨sp, 4, none⟩ = some (.slice (some ⟨fc, 0, none⟩) n cf) ∧ X.cell? ⟨sp, 2, none⟩ = some (.bool g) ∧ X.cell? ⟨sp, 3, none⟩ = some (.slice (some ⟨bs, 0, none⟩) n cb) ∧ X.cell? ⟨sp, 7, none⟩ = some (.slice (some ⟨b7, 0, none⟩) n c7) ∧ X.cell? ⟨fc, i, none⟩ = some (fl (t.fac i)) ∧ X.cell? ⟨bs, i, none⟩ = some (fl (t.b i)) ∧ X.cell? ⟨b7, i, none⟩ = some (fl (t.Sz0 i))) := Lib.hid (fun X y9 r o => by
              have hfc : sp < fc ∧ fc < M := ⟨by have := HR4.out.2.2.2.2.1; have := HOV.out; omega, by rw [HM4.out]; exact HR4.out.2.2.2.2.2⟩
              have hb7 := HB7.out.2.1
              exact ⟨cell_blk r.cell 4 rfl, cell_blk r.cell 2 rfl, cell_blk r.cell 3 rfl, cell_blk r.cell 7 rfl, (o.flg HR4.out.2.2.2.1 (by omega)).cell hi, r.hb.cell hi, (o.flg HB7.out.2.2.1 (by omega)).cell hi⟩)
            have hmx : i + 1 ≤ maxLen := by have : maxLen = 9223372036854775807 := rfl; omega
            have hby : (i + 1) * 1 ≤ 140737488355328 := by omega
            have hMsp : sp + 1 ≤ M := by rw [HM4.out]; exact HR4.out.1.ord.2.2.2.2.2.2
            have hMs : M ≤ wr.drew.heap.size := by rw [HM4.out]; exact HO.out.size
            obtain ⟨c1, c2, c3, c4, c5, c6, c7'⟩ := HC.out wr.drew _ HR.out.drew HO.out.drew
            have d9 : wr.drew.cell? ⟨sp, 9, none⟩ = some x9 := cell_blk HR.out.drew.cell 9 rfl
            obtain ⟨e0, he0⟩ : ∃ b, (FloatKind.f64.format.order (t.fac i) 0 == some .eq) = b := ⟨_, rfl⟩
            obtain ⟨e1, he1⟩ : ∃ b, (FloatKind.f64.format.order (t.b i) (t.Sz0 i) == some .gt) = b := ⟨_, rfl⟩
            obtain ⟨e2, he2⟩ : ∃ b, (FloatKind.f64.format.order (t.b i) (t.Sz0 i) == some .lt) = b := ⟨_, rfl⟩
            have E0 : eqD (t.fac i) 0 = e0 := he0
            have E1 : gtD (t.b i) (t.Sz0 i) = e1 := he1
            have E2 : ltD (t.b i) (t.Sz0 i) = e2 := he2
            have EG := HG.out
            have HEE := Lib.hid (And.intro E0 (And.intro E1 (And.intro E2 EG)))
            have HAL : Hid (∀ b : Bool, R4M t n rm w (wr.drew.alloc (.cells #[.bool b] 4)) sp bs lo hi0 cb cl ch g (fl 0) (.slice (some ⟨fc, 0, none⟩) n cf) (.slice (some ⟨b7, 0, none⟩) n c7) (.slice (some ⟨ov, 0, none⟩) n n) x9 ∧ Onl (fun k => k = sp ∨ M ≤ k) W4 (wr.drew.alloc (.cells #[.bool b] 4))) := Lib.hid (fun b => ⟨HR.out.drew.below ((Below.refl _ _).alloc HR.out.drew.ord.2.2.2.2.2.2 _), HO.out.drew.trans (Onl.of_below ((Below.refl _ _).alloc (Nat.le_refl _) _))⟩)
            clear E0 E1 E2 EG h72 h73 h74
            cases e0 with
            | true =>
              have hF : t.Fz0 i = true := by
                unfold Told.Fz0
                rw [HEE.out.1]; rfl
              obtain ⟨a1, a2, a3, a4, a5, a6, a7⟩ := HC.out _ _ (HAL.out true).1 (HAL.out true).2
              have d9' : (wr.alloc (.cells #[.bool true] 4)).cell? ⟨sp, 9, none⟩ = some x9 := cell_blk (HAL.out true).1.cell 9 rfl
              go_wp2_with fail
              refine wp_region_noPanic ?_
              refine wp_region_held_drew (S := (fun W => W.cell? ⟨sp, 4, none⟩ = some (.slice (some ⟨fc, 0, none⟩) n cf) ∧ W.cell? ⟨sp, 2, none⟩ = some (.bool g) ∧ W.cell? ⟨sp, 3, none⟩ = some (.slice (some ⟨bs, 0, none⟩) n cb) ∧ W.cell? ⟨sp, 7, none⟩ = some (.slice (some ⟨b7, 0, none⟩) n c7) ∧ W.cell? ⟨fc, i, none⟩ = some (fl (t.fac i)) ∧ W.cell? ⟨bs, i, none⟩ = some (fl (t.b i)) ∧ W.cell? ⟨b7, i, none⟩ = some (fl (t.Sz0 i)))) (by kernel_rfl) ⟨c1, c2, c3, c4, c5, c6, c7'⟩ (fun hHeld => ?_)
              refine wpAnyH_take (i := 0) (v := ?_) rfl (by as_aux_lemma => kernel_rfl) (by as_aux_lemma => kernel_rfl) (by as_aux_lemma => kernel_rfl) (fun _ _ _ h => h) (Or.inl ⟨by kernel_rfl, ?_⟩) (by assumption) ?_
              rotate_left
              · intro w hSw; (try dsimp only at hSw); go_simp; try with_reducible rfl
              refine wpAnyH_take (i := 1) (v := ?_) rfl (by as_aux_lemma => kernel_rfl) (by as_aux_lemma => kernel_rfl) (by as_aux_lemma => kernel_rfl) (fun _ _ _ h => h) (Or.inl ⟨by kernel_rfl, ?_⟩) (by assumption) ?_
              rotate_left
              · intro w hSw; (try dsimp only at hSw); go_simp; try with_reducible rfl
              refine wpAnyH_take (i := 2) (v := ?_) rfl (by as_aux_lemma => kernel_rfl) (by as_aux_lemma => kernel_rfl) (by as_aux_lemma => kernel_rfl) (fun _ _ _ h => h) (Or.inl ⟨by kernel_rfl, ?_⟩) (by assumption) ?_
              rotate_left
              · intro w hSw; (try dsimp only at hSw); go_simp; try with_reducible rfl
              refine wpAnyH_take (i := 3) (v := ?_) rfl (by as_aux_lemma => kernel_rfl) (by as_aux_lemma => kernel_rfl) (by as_aux_lemma => kernel_rfl) (fun _ _ _ h => h) (Or.inl ⟨by kernel_rfl, ?_⟩) (by assumption) ?_
              rotate_left
              · intro w hSw; (try dsimp only at hSw); go_simp; try with_reducible rfl
              refine wpAnyH_take (i := 5) (v := ?_) rfl (by as_aux_lemma => kernel_rfl) (by as_aux_lemma => kernel_rfl) (by as_aux_lemma => kernel_rfl) (fun _ _ _ h => h) (Or.inl ⟨by kernel_rfl, ?_⟩) (by assumption) ?_
              rotate_left
              · intro w hSw; (try dsimp only at hSw); go_simp; try with_reducible rfl
              refine wpAnyH_take (i := 6) (v := ?_) rfl (by as_aux_lemma => kernel_rfl) (by as_aux_lemma => kernel_rfl) (by as_aux_lemma => kernel_rfl) (fun _ _ _ h => h) (Or.inl ⟨by kernel_rfl, ?_⟩) (by assumption) ?_
              rotate_left
              · intro w hSw; (try dsimp only at hSw); go_simp; try with_reducible rfl
              refine wpAnyH_take (i := 7) (v := ?_) rfl (by as_aux_lemma => kernel_rfl) (by as_aux_lemma => kernel_rfl) (by as_aux_lemma => kernel_rfl) (fun _ _ _ h => h) (Or.inl ⟨by kernel_rfl, ?_⟩) (by assumption) ?_
              rotate_left
              · intro w hSw; (try dsimp only at hSw); go_simp; try with_reducible rfl
              refine wpAnyH_take (i := 8) (v := ?_) rfl (by as_aux_lemma => kernel_rfl) (by as_aux_lemma => kernel_rfl) (by as_aux_lemma => kernel_rfl) (fun _ _ _ h => h) (Or.inl ⟨by kernel_rfl, ?_⟩) (by assumption) ?_
              rotate_left
              · intro w hSw; (try dsimp only at hSw); go_simp; try with_reducible rfl
              refine wpAnyH_take (i := 9) (v := ?_) rfl (by as_aux_lemma => kernel_rfl) (by as_aux_lemma => kernel_rfl) (by as_aux_lemma => kernel_rfl) (fun _ _ _ h => h) (Or.inl ⟨by kernel_rfl, ?_⟩) (by assumption) ?_
              rotate_left
              · intro w hSw; (try dsimp only at hSw); go_simp; try with_reducible rfl
              refine wpAnyH_take (i := 10) (v := ?_) rfl (by as_aux_lemma => kernel_rfl) (by as_aux_lemma => kernel_rfl) (by as_aux_lemma => kernel_rfl) (fun _ _ _ h => h) (Or.inl ⟨by kernel_rfl, ?_⟩) (by assumption) ?_
              rotate_left
              · intro w hSw; (try dsimp only at hSw); go_simp; try with_reducible rfl
              refine wpAnyH_take (i := 11) (v := ?_) rfl (by as_aux_lemma => kernel_rfl) (by as_aux_lemma => kernel_rfl) (by as_aux_lemma => kernel_rfl) (fun _ _ _ h => h) (Or.inl ⟨by kernel_rfl, ?_⟩) (by assumption) ?_
              rotate_left
              · intro w hSw; (try dsimp only at hSw); go_simp; try with_reducible rfl
              refine wpAnyH_take (i := 12) (v := ?_) rfl (by as_aux_lemma => kernel_rfl) (by as_aux_lemma => kernel_rfl) (by as_aux_lemma => kernel_rfl) (fun _ _ _ h => h) (Or.inl ⟨by kernel_rfl, ?_⟩) (by assumption) ?_
              rotate_left
              · intro w hSw; (try dsimp only at hSw); go_simp; try with_reducible rfl
              refine wpAnyH_take (i := 13) (v := ?_) rfl (by as_aux_lemma => kernel_rfl) (by as_aux_lemma => kernel_rfl) (by as_aux_lemma => kernel_rfl) (fun _ _ _ h => h) (Or.inl ⟨by kernel_rfl, ?_⟩) (by assumption) ?_
              rotate_left
              · intro w hSw; (try dsimp only at hSw); go_simp; try with_reducible rfl
              refine wpAnyH_take (i := 14) rfl (by as_aux_lemma => kernel_rfl) (by as_aux_lemma => kernel_rfl) (by as_aux_lemma => kernel_rfl) (fun _ _ _ h => h) (Or.inr ⟨by kernel_rfl, rfl⟩) (by assumption) ?_
              refine wpAnyH_take (i := 15) rfl (by as_aux_lemma => kernel_rfl) (by as_aux_lemma => kernel_rfl) (by as_aux_lemma => kernel_rfl) (fun _ _ _ h => h) (Or.inr ⟨by kernel_rfl, rfl⟩) (by assumption) ?_
              refine wpAnyH_take (i := 16) rfl (by as_aux_lemma => kernel_rfl) (by as_aux_lemma => kernel_rfl) (by as_aux_lemma => kernel_rfl) (fun _ _ _ h => h) (Or.inr ⟨by kernel_rfl, rfl⟩) (by assumption) ?_
              refine wpAnyH_take (i := 17) rfl (by as_aux_lemma => kernel_rfl) (by as_aux_lemma => kernel_rfl) (by as_aux_lemma => kernel_rfl) (fun _ _ _ h => h) (Or.inr ⟨by kernel_rfl, rfl⟩) (by assumption) ?_
              refine wpAnyH_take (i := 18) rfl (by as_aux_lemma => kernel_rfl) (by as_aux_lemma => kernel_rfl) (by as_aux_lemma => kernel_rfl) (fun _ _ _ h => h) (Or.inr ⟨by kernel_rfl, rfl⟩) (by assumption) ?_
              refine wpAnyH_take (i := 19) rfl (by as_aux_lemma => kernel_rfl) (by as_aux_lemma => kernel_rfl) (by as_aux_lemma => kernel_rfl) (fun _ _ _ h => h) (Or.inr ⟨by kernel_rfl, rfl⟩) (by assumption) ?_
              refine wpAnyH_take (i := 20) rfl (by as_aux_lemma => kernel_rfl) (by as_aux_lemma => kernel_rfl) (by as_aux_lemma => kernel_rfl) (fun _ _ _ h => h) (Or.inr ⟨by kernel_rfl, rfl⟩) (by assumption) ?_
              refine wpAnyH_take (i := 21) rfl (by as_aux_lemma => kernel_rfl) (by as_aux_lemma => kernel_rfl) (by as_aux_lemma => kernel_rfl) (fun _ _ _ h => h) (Or.inr ⟨by kernel_rfl, rfl⟩) (by assumption) ?_
              refine wpAnyH_take (i := 22) rfl (by as_aux_lemma => kernel_rfl) (by as_aux_lemma => kernel_rfl) (by as_aux_lemma => kernel_rfl) (fun _ _ _ h => h) (Or.inr ⟨by kernel_rfl, rfl⟩) (by assumption) ?_
              refine wpAnyH_take (i := 23) rfl (by as_aux_lemma => kernel_rfl) (by as_aux_lemma => kernel_rfl) (by as_aux_lemma => kernel_rfl) (fun _ _ _ h => h) (Or.inr ⟨by kernel_rfl, rfl⟩) (by assumption) ?_
              refine wpAnyH_take (i := 24) rfl (by as_aux_lemma => kernel_rfl) (by as_aux_lemma => kernel_rfl) (by as_aux_lemma => kernel_rfl) (fun _ _ _ h => h) (Or.inr ⟨by kernel_rfl, rfl⟩) (by assumption) ?_
              refine wpAnyH_take (i := 25) rfl (by as_aux_lemma => kernel_rfl) (by as_aux_lemma => kernel_rfl) (by as_aux_lemma => kernel_rfl) (fun _ _ _ h => h) (Or.inr ⟨by kernel_rfl, rfl⟩) (by assumption) ?_
              refine wpAnyH_take (i := 26) rfl (by as_aux_lemma => kernel_rfl) (by as_aux_lemma => kernel_rfl) (by as_aux_lemma => kernel_rfl) (fun _ _ _ h => h) (Or.inr ⟨by kernel_rfl, rfl⟩) (by assumption) ?_
              refine wpAnyH_take (i := 27) rfl (by as_aux_lemma => kernel_rfl) (by as_aux_lemma => kernel_rfl) (by as_aux_lemma => kernel_rfl) (fun _ _ _ h => h) (Or.inr ⟨by kernel_rfl, rfl⟩) (by assumption) ?_
              refine wpAnyH_take (i := 28) rfl (by as_aux_lemma => kernel_rfl) (by as_aux_lemma => kernel_rfl) (by as_aux_lemma => kernel_rfl) (fun _ _ _ h => h) (Or.inr ⟨by kernel_rfl, rfl⟩) (by assumption) ?_
              refine wpAnyH_take (i := 29) rfl (by as_aux_lemma => kernel_rfl) (by as_aux_lemma => kernel_rfl) (by as_aux_lemma => kernel_rfl) (fun _ _ _ h => h) (Or.inr ⟨by kernel_rfl, rfl⟩) (by assumption) ?_
              refine wpAnyH_take (i := 30) rfl (by as_aux_lemma => kernel_rfl) (by as_aux_lemma => kernel_rfl) (by as_aux_lemma => kernel_rfl) (fun _ _ _ h => h) (Or.inr ⟨by kernel_rfl, rfl⟩) (by assumption) ?_
              refine wpAnyH_take (i := 31) rfl (by as_aux_lemma => kernel_rfl) (by as_aux_lemma => kernel_rfl) (by as_aux_lemma => kernel_rfl) (fun _ _ _ h => h) (Or.inr ⟨by kernel_rfl, rfl⟩) (by assumption) ?_
              refine wpAnyH_take (i := 32) rfl (by as_aux_lemma => kernel_rfl) (by as_aux_lemma => kernel_rfl) (by as_aux_lemma => kernel_rfl) (fun _ _ _ h => h) (Or.inr ⟨by kernel_rfl, rfl⟩) (by assumption) ?_
              refine wpAnyH_take (i := 33) rfl (by as_aux_lemma => kernel_rfl) (by as_aux_lemma => kernel_rfl) (by as_aux_lemma => kernel_rfl) (fun _ _ _ h => h) (Or.inr ⟨by kernel_rfl, rfl⟩) (by assumption) ?_
              refine wpAnyH_take (i := 34) rfl (by as_aux_lemma => kernel_rfl) (by as_aux_lemma => kernel_rfl) (by as_aux_lemma => kernel_rfl) (fun _ _ _ h => h) (Or.inr ⟨by kernel_rfl, rfl⟩) (by assumption) ?_
              refine wpAnyH_take (i := 35) (v := ?_) rfl (by as_aux_lemma => kernel_rfl) (by as_aux_lemma => kernel_rfl) (by as_aux_lemma => kernel_rfl) (fun _ _ _ h => h) (Or.inl ⟨by kernel_rfl, ?_⟩) (by assumption) ?_
              rotate_left
              · intro w hSw; (try dsimp only at hSw); go_simp; try with_reducible rfl
              refine wpAnyH_take (i := 36) (v := ?_) rfl (by as_aux_lemma => kernel_rfl) (by as_aux_lemma => kernel_rfl) (by as_aux_lemma => kernel_rfl) (fun _ _ _ h => h) (Or.inl ⟨by kernel_rfl, ?_⟩) (by assumption) ?_
              rotate_left
              · intro w hSw; (try dsimp only at hSw); go_simp; try with_reducible rfl
              refine wpAnyH_take (i := 37) rfl (by as_aux_lemma => kernel_rfl) (by as_aux_lemma => kernel_rfl) (by as_aux_lemma => kernel_rfl) (fun _ _ _ h => h) (Or.inr ⟨by kernel_rfl, rfl⟩) (by assumption) ?_
              refine wpAnyH_take (i := 38) rfl (by as_aux_lemma => kernel_rfl) (by as_aux_lemma => kernel_rfl) (by as_aux_lemma => kernel_rfl) (fun _ _ _ h => h) (Or.inr ⟨by kernel_rfl, rfl⟩) (by assumption) ?_
              refine wpAnyH_take (i := 39) rfl (by as_aux_lemma => kernel_rfl) (by as_aux_lemma => kernel_rfl) (by as_aux_lemma => kernel_rfl) (fun _ _ _ h => h) (Or.inr ⟨by kernel_rfl, rfl⟩) (by assumption) ?_
              refine wpAnyH_take (i := 40) rfl (by as_aux_lemma => kernel_rfl) (by as_aux_lemma => kernel_rfl) (by as_aux_lemma => kernel_rfl) (fun _ _ _ h => h) (Or.inr ⟨by kernel_rfl, rfl⟩) (by assumption) ?_
              refine wpAnyH_take (i := 41) rfl (by as_aux_lemma => kernel_rfl) (by as_aux_lemma => kernel_rfl) (by as_aux_lemma => kernel_rfl) (fun _ _ _ h => h) (Or.inr ⟨by kernel_rfl, rfl⟩) (by assumption) ?_
              refine wpAnyH_take (i := 42) rfl (by as_aux_lemma => kernel_rfl) (by as_aux_lemma => kernel_rfl) (by as_aux_lemma => kernel_rfl) (fun _ _ _ h => h) (Or.inr ⟨by kernel_rfl, rfl⟩) (by assumption) ?_
              refine wpAnyH_take (i := 43) rfl (by as_aux_lemma => kernel_rfl) (by as_aux_lemma => kernel_rfl) (by as_aux_lemma => kernel_rfl) (fun _ _ _ h => h) (Or.inr ⟨by kernel_rfl, rfl⟩) (by assumption) ?_
              refine wpAnyH_take (i := 44) rfl (by as_aux_lemma => kernel_rfl) (by as_aux_lemma => kernel_rfl) (by as_aux_lemma => kernel_rfl) (fun _ _ _ h => h) (Or.inr ⟨by kernel_rfl, rfl⟩) (by assumption) ?_
              refine wpAnyH_take (i := 45) rfl (by as_aux_lemma => kernel_rfl) (by as_aux_lemma => kernel_rfl) (by as_aux_lemma => kernel_rfl) (fun _ _ _ h => h) (Or.inr ⟨by kernel_rfl, rfl⟩) (by assumption) ?_
              refine wpAnyH_take (i := 46) rfl (by as_aux_lemma => kernel_rfl) (by as_aux_lemma => kernel_rfl) (by as_aux_lemma => kernel_rfl) (fun _ _ _ h => h) (Or.inr ⟨by kernel_rfl, rfl⟩) (by assumption) ?_
              refine wpAnyH_take (i := 47) rfl (by as_aux_lemma => kernel_rfl) (by as_aux_lemma => kernel_rfl) (by as_aux_lemma => kernel_rfl) (fun _ _ _ h => h) (Or.inr ⟨by kernel_rfl, rfl⟩) (by assumption) ?_
              refine wpAnyH_take (i := 48) rfl (by as_aux_lemma => kernel_rfl) (by as_aux_lemma => kernel_rfl) (by as_aux_lemma => kernel_rfl) (fun _ _ _ h => h) (Or.inr ⟨by kernel_rfl, rfl⟩) (by assumption) ?_
              refine wpAnyH_take (i := 49) rfl (by as_aux_lemma => kernel_rfl) (by as_aux_lemma => kernel_rfl) (by as_aux_lemma => kernel_rfl) (fun _ _ _ h => h) (Or.inr ⟨by kernel_rfl, rfl⟩) (by assumption) ?_
              refine wpAnyH_take (i := 50) rfl (by as_aux_lemma => kernel_rfl) (by as_aux_lemma => kernel_rfl) (by as_aux_lemma => kernel_rfl) (fun _ _ _ h => h) (Or.inr ⟨by kernel_rfl, rfl⟩) (by assumption) ?_
              refine wpAnyH_take (i := 51) rfl (by as_aux_lemma => kernel_rfl) (by as_aux_lemma => kernel_rfl) (by as_aux_lemma => kernel_rfl) (fun _ _ _ h => h) (Or.inr ⟨by kernel_rfl, rfl⟩) (by assumption) ?_
              refine wpAnyH_take (i := 52) rfl (by as_aux_lemma => kernel_rfl) (by as_aux_lemma => kernel_rfl) (by as_aux_lemma => kernel_rfl) (fun _ _ _ h => h) (Or.inr ⟨by kernel_rfl, rfl⟩) (by assumption) ?_
              refine wpAnyH_take (i := 53) rfl (by as_aux_lemma => kernel_rfl) (by as_aux_lemma => kernel_rfl) (by as_aux_lemma => kernel_rfl) (fun _ _ _ h => h) (Or.inr ⟨by kernel_rfl, rfl⟩) (by assumption) ?_
              refine wpAnyH_take (i := 54) rfl (by as_aux_lemma => kernel_rfl) (by as_aux_lemma => kernel_rfl) (by as_aux_lemma => kernel_rfl) (fun _ _ _ h => h) (Or.inr ⟨by kernel_rfl, rfl⟩) (by assumption) ?_
              refine wpAnyH_take (i := 55) rfl (by as_aux_lemma => kernel_rfl) (by as_aux_lemma => kernel_rfl) (by as_aux_lemma => kernel_rfl) (fun _ _ _ h => h) (Or.inr ⟨by kernel_rfl, rfl⟩) (by assumption) ?_
              refine wpAnyH_take (i := 56) rfl (by as_aux_lemma => kernel_rfl) (by as_aux_lemma => kernel_rfl) (by as_aux_lemma => kernel_rfl) (fun _ _ _ h => h) (Or.inr ⟨by kernel_rfl, rfl⟩) (by assumption) ?_
              refine wpAnyH_take (i := 57) rfl (by as_aux_lemma => kernel_rfl) (by as_aux_lemma => kernel_rfl) (by as_aux_lemma => kernel_rfl) (fun _ _ _ h => h) (Or.inr ⟨by kernel_rfl, rfl⟩) (by assumption) ?_
              refine wpAnyH_take (i := 58) rfl (by as_aux_lemma => kernel_rfl) (by as_aux_lemma => kernel_rfl) (by as_aux_lemma => kernel_rfl) (fun _ _ _ h => h) (Or.inr ⟨by kernel_rfl, rfl⟩) (by assumption) ?_
              refine wpAnyH_take (i := 59) (v := ?_) rfl (by as_aux_lemma => kernel_rfl) (by as_aux_lemma => kernel_rfl) (by as_aux_lemma => kernel_rfl) (fun _ _ _ h => h) (Or.inl ⟨by kernel_rfl, ?_⟩) (by assumption) ?_
              rotate_left
              · intro w hSw; (try dsimp only at hSw); go_simp; try with_reducible rfl
              refine wpAnyH_ready (rs := [4, 60]) (by kernel_rfl) (by simp) ?_
              refine AllReadyH.cons rfl (fun K' hK => ?_) (AllReadyH.cons rfl (fun K' hK => ?_) AllReadyH.nil)
              · go_simp
                refine hK.out _ _ ⟨c1, c2, c3, c4, c5, c6, c7'⟩ (fun hHeld => ?_)
                clear hK K'
                refine wpAnyH_ready (rs := [60]) (by kernel_rfl) (by simp) ?_
                refine AllReadyH.cons rfl (fun K' hK => ?_) AllReadyH.nil
                go_simp
                refine hK.out _ _ ⟨a1, a2, a3, a4, a5, a6, a7⟩ (fun hHeld => ?_)
                clear hK K'
                refine wpAnyH_ready (rs := [61]) (by kernel_rfl) (by simp) ?_
                refine AllReadyH.cons rfl (fun K' hK => ?_) AllReadyH.nil
                refine step_append_any _ rfl (.tmp 132) (.tmp 188) 56 rfl M 4 iB _ 1 1 Try.underlying56 hb0 hbz0 hbz1 hbz2 rfl (by omega) x9 i (blist i t.Fz0) rfl (HW.out.alloc _) (some ⟨wr.heap.size, 0, none⟩) 1 1 [.bool true] rfl rfl (.inr ⟨_, rfl, World.news_of_block (cs := #[.bool true]) (t := 4) (fr := (0, 0)) (Go.heap_alloc_new wr _)⟩) (by simp [Value.oneCell']) hmx hby (Nat.le_trans hMs (by simp)) ?_
                intro g6 k6 w6 hown6 hgrow6
                have hb6 := grown_below hgrow6 (fun y e => (HW.out.lt y e).1) (Nat.le_trans hMs (by simp))
                have hX6 := (HAL.out true).1.below (hb6.mono hMsp)
                have hO6 := (HAL.out true).2.trans ((onl_ge hb6).mono (fun k hk => .inr hk))
                obtain ⟨z1, z2, z3, z4, z5, z6, z7⟩ := HC.out w6 _ hX6 hO6
                have d9w := cell_blk hX6.cell 9 rfl
                have f9w := free_blk hX6.cell 9
                have hX7 := hX6.put 9 (.slice g6 (i + 1) k6) rfl
                have hO7 := hO6.set (a := ⟨sp, 9, none⟩) (.inl rfl) (.slice g6 (i + 1) k6)
                obtain ⟨y1, y2, y3, y4, y5, y6, y7⟩ := HC.out _ _ hX7 hO7
                have HL := Lib.hid (And.intro hX7 (And.intro hO7 (rwOther hown6 hX6.cell (by decide) 9 (.slice g6 (i + 1) k6))))
                clear hown6 hgrow6 hb6 hX6 hO6 hX7 hO7
                refine hK.out _ _ ⟨z1, z2, z3, z4, z5, z6, z7⟩ (fun hHeld => ?_)
                clear hK K'
                refine wpAnyH_take (i := 62) (v := ?_) rfl (by as_aux_lemma => kernel_rfl) (by as_aux_lemma => kernel_rfl) (by as_aux_lemma => kernel_rfl) (fun _ _ _ h => h) (Or.inl ⟨by kernel_rfl, ?_⟩) (by assumption) ?_
                rotate_left
                · intro w hSw; (try dsimp only at hSw); go_simp; try with_reducible rfl
                refine wpAnyH_take (i := 63) (v := ?_) rfl (by as_aux_lemma => kernel_rfl) (by as_aux_lemma => kernel_rfl) (by as_aux_lemma => kernel_rfl) (fun _ _ _ h => h) (Or.inl ⟨by kernel_rfl, ?_⟩) (by assumption) ?_
                rotate_left
                · intro w hSw; (try dsimp only at hSw); go_simp; try with_reducible rfl
                refine wpAnyH_ready (rs := [64]) (by kernel_rfl) (by simp) ?_
                refine AllReadyH.cons rfl (fun K' hK => ?_) AllReadyH.nil
                go_simp
                refine hK.out _ _ ⟨y1, y2, y3, y4, y5, y6, y7⟩ (fun hHeld => ?_)
                clear hK K'
                refine wpAnyH_done (by kernel_rfl) ?_ _
                refine NoPanic.normal ?_
                clear c1 c2 c3 c4 c5 c6 c7' z1 z2 z3 z4 z5 z6 z7 y1 y2 y3 y4 y5 y6 y7 d9 d9' d9w f9w
                go_wp2_with fail
                go_roundg (gk - 1)
                case measure => exact HM.out
                case rel => exact ⟨i + 1, _, by go_num, Lib.hid ⟨HSM.out, HL.out.2.1, HL.out.1⟩, by rw [blist_succ, hF]; exact HL.out.2.2⟩
              · go_simp
                refine hK.out _ _ ⟨a1, a2, a3, a4, a5, a6, a7⟩ (fun hHeld => ?_)
                clear hK K'
                refine wpAnyH_ready (rs := [4]) (by kernel_rfl) (by simp) ?_
                refine AllReadyH.cons rfl (fun K' hK => ?_) AllReadyH.nil
                go_simp
                refine hK.out _ _ ⟨a1, a2, a3, a4, a5, a6, a7⟩ (fun hHeld => ?_)
                clear hK K'
                refine wpAnyH_ready (rs := [61]) (by kernel_rfl) (by simp) ?_
                refine AllReadyH.cons rfl (fun K' hK => ?_) AllReadyH.nil
                refine step_append_any _ rfl (.tmp 132) (.tmp 188) 56 rfl M 4 iB _ 1 1 Try.underlying56 hb0 hbz0 hbz1 hbz2 rfl (by omega) x9 i (blist i t.Fz0) rfl (HW.out.alloc _) (some ⟨wr.heap.size, 0, none⟩) 1 1 [.bool true] rfl rfl (.inr ⟨_, rfl, World.news_of_block (cs := #[.bool true]) (t := 4) (fr := (0, 0)) (Go.heap_alloc_new wr _)⟩) (by simp [Value.oneCell']) hmx hby (Nat.le_trans hMs (by simp)) ?_
                intro g6 k6 w6 hown6 hgrow6
                have hb6 := grown_below hgrow6 (fun y e => (HW.out.lt y e).1) (Nat.le_trans hMs (by simp))
                have hX6 := (HAL.out true).1.below (hb6.mono hMsp)
                have hO6 := (HAL.out true).2.trans ((onl_ge hb6).mono (fun k hk => .inr hk))
                obtain ⟨z1, z2, z3, z4, z5, z6, z7⟩ := HC.out w6 _ hX6 hO6
                have d9w := cell_blk hX6.cell 9 rfl
                have f9w := free_blk hX6.cell 9
                have hX7 := hX6.put 9 (.slice g6 (i + 1) k6) rfl
                have hO7 := hO6.set (a := ⟨sp, 9, none⟩) (.inl rfl) (.slice g6 (i + 1) k6)
                obtain ⟨y1, y2, y3, y4, y5, y6, y7⟩ := HC.out _ _ hX7 hO7
                have HL := Lib.hid (And.intro hX7 (And.intro hO7 (rwOther hown6 hX6.cell (by decide) 9 (.slice g6 (i + 1) k6))))
                clear hown6 hgrow6 hb6 hX6 hO6 hX7 hO7
                refine hK.out _ _ ⟨z1, z2, z3, z4, z5, z6, z7⟩ (fun hHeld => ?_)
                clear hK K'
                refine wpAnyH_take (i := 62) (v := ?_) rfl (by as_aux_lemma => kernel_rfl) (by as_aux_lemma => kernel_rfl) (by as_aux_lemma => kernel_rfl) (fun _ _ _ h => h) (Or.inl ⟨by kernel_rfl, ?_⟩) (by assumption) ?_
                rotate_left
                · intro w hSw; (try dsimp only at hSw); go_simp; try with_reducible rfl
                refine wpAnyH_take (i := 63) (v := ?_) rfl (by as_aux_lemma => kernel_rfl) (by as_aux_lemma => kernel_rfl) (by as_aux_lemma => kernel_rfl) (fun _ _ _ h => h) (Or.inl ⟨by kernel_rfl, ?_⟩) (by assumption) ?_
                rotate_left
                · intro w hSw; (try dsimp only at hSw); go_simp; try with_reducible rfl
                refine wpAnyH_ready (rs := [64]) (by kernel_rfl) (by simp) ?_
                refine AllReadyH.cons rfl (fun K' hK => ?_) AllReadyH.nil
                go_simp
                refine hK.out _ _ ⟨y1, y2, y3, y4, y5, y6, y7⟩ (fun hHeld => ?_)
                clear hK K'
                refine wpAnyH_done (by kernel_rfl) ?_ _
                refine NoPanic.normal ?_
                clear c1 c2 c3 c4 c5 c6 c7' z1 z2 z3 z4 z5 z6 z7 y1 y2 y3 y4 y5 y6 y7 d9 d9' d9w f9w
                go_wp2_with fail
                go_roundg (gk - 1)
                case measure => exact HM.out
                case rel => exact ⟨i + 1, _, by go_num, Lib.hid ⟨HSM.out, HL.out.2.1, HL.out.1⟩, by rw [blist_succ, hF]; exact HL.out.2.2⟩
            | false =>
              cases g with
              | true =>
                cases e1 with
                | true =>
                  have hF : t.Fz0 i = true := by
                    unfold Told.Fz0
                    rw [HEE.out.1, ← HEE.out.2.2.2, HEE.out.2.1, HEE.out.2.2.1]; rfl
                  obtain ⟨a1, a2, a3, a4, a5, a6, a7⟩ := HC.out _ _ (HAL.out true).1 (HAL.out true).2
                  have d9' : (wr.alloc (.cells #[.bool true] 4)).cell? ⟨sp, 9, none⟩ = some x9 := cell_blk (HAL.out true).1.cell 9 rfl
                  go_wp2_with fail
                  refine wp_region_noPanic ?_
                  refine wp_region_held_drew (S := (fun W => W.cell? ⟨sp, 4, none⟩ = some (.slice (some ⟨fc, 0, none⟩) n cf) ∧ W.cell? ⟨sp, 2, none⟩ = some (.bool true) ∧ W.cell? ⟨sp, 3, none⟩ = some (.slice (some ⟨bs, 0, none⟩) n cb) ∧ W.cell? ⟨sp, 7, none⟩ = some (.slice (some ⟨b7, 0, none⟩) n c7) ∧ W.cell? ⟨fc, i, none⟩ = some (fl (t.fac i)) ∧ W.cell? ⟨bs, i, none⟩ = some (fl (t.b i)) ∧ W.cell? ⟨b7, i, none⟩ = some (fl (t.Sz0 i)))) (by kernel_rfl) ⟨c1, c2, c3, c4, c5, c6, c7'⟩ (fun hHeld => ?_)
                  refine wpAnyH_take (i := 0) (v := ?_) rfl (by as_aux_lemma => kernel_rfl) (by as_aux_lemma => kernel_rfl) (by as_aux_lemma => kernel_rfl) (fun _ _ _ h => h) (Or.inl ⟨by kernel_rfl, ?_⟩) (by assumption) ?_
                  rotate_left
                  · intro w hSw; (try dsimp only at hSw); go_simp; try with_reducible rfl
                  refine wpAnyH_take (i := 1) (v := ?_) rfl (by as_aux_lemma => kernel_rfl) (by as_aux_lemma => kernel_rfl) (by as_aux_lemma => kernel_rfl) (fun _ _ _ h => h) (Or.inl ⟨by kernel_rfl, ?_⟩) (by assumption) ?_
                  rotate_left
                  · intro w hSw; (try dsimp only at hSw); go_simp; try with_reducible rfl
                  refine wpAnyH_take (i := 2) (v := ?_) rfl (by as_aux_lemma => kernel_rfl) (by as_aux_lemma => kernel_rfl) (by as_aux_lemma => kernel_rfl) (fun _ _ _ h => h) (Or.inl ⟨by kernel_rfl, ?_⟩) (by assumption) ?_
                  rotate_left
                  · intro w hSw; (try dsimp only at hSw); go_simp; try with_reducible rfl
                  refine wpAnyH_take (i := 3) (v := ?_) rfl (by as_aux_lemma => kernel_rfl) (by as_aux_lemma => kernel_rfl) (by as_aux_lemma => kernel_rfl) (fun _ _ _ h => h) (Or.inl ⟨by kernel_rfl, ?_⟩) (by assumption) ?_
                  rotate_left
                  · intro w hSw; (try dsimp only at hSw); go_simp; try with_reducible rfl
                  refine wpAnyH_take (i := 5) (v := ?_) rfl (by as_aux_lemma => kernel_rfl) (by as_aux_lemma => kernel_rfl) (by as_aux_lemma => kernel_rfl) (fun _ _ _ h => h) (Or.inl ⟨by kernel_rfl, ?_⟩) (by assumption) ?_
                  rotate_left
                  · intro w hSw; (try dsimp only at hSw); go_simp; try with_reducible rfl
                  refine wpAnyH_take (i := 6) (v := ?_) rfl (by as_aux_lemma => kernel_rfl) (by as_aux_lemma => kernel_rfl) (by as_aux_lemma => kernel_rfl) (fun _ _ _ h => h) (Or.inl ⟨by kernel_rfl, ?_⟩) (by assumption) ?_
                  rotate_left
                  · intro w hSw; (try dsimp only at hSw); go_simp; try with_reducible rfl
                  refine wpAnyH_take (i := 7) (v := ?_) rfl (by as_aux_lemma => kernel_rfl) (by as_aux_lemma => kernel_rfl) (by as_aux_lemma => kernel_rfl) (fun _ _ _ h => h) (Or.inl ⟨by kernel_rfl, ?_⟩) (by assumption) ?_
                  rotate_left
                  · intro w hSw; (try dsimp only at hSw); go_simp; try with_reducible rfl
                  refine wpAnyH_take (i := 8) (v := ?_) rfl (by as_aux_lemma => kernel_rfl) (by as_aux_lemma => kernel_rfl) (by as_aux_lemma => kernel_rfl) (fun _ _ _ h => h) (Or.inl ⟨by kernel_rfl, ?_⟩) (by assumption) ?_
                  rotate_left
                  · intro w hSw; (try dsimp only at hSw); go_simp; try with_reducible rfl
                  refine wpAnyH_take (i := 9) (v := ?_) rfl (by as_aux_lemma => kernel_rfl) (by as_aux_lemma => kernel_rfl) (by as_aux_lemma => kernel_rfl) (fun _ _ _ h => h) (Or.inl ⟨by kernel_rfl, ?_⟩) (by assumption) ?_
                  rotate_left
                  · intro w hSw; (try dsimp only at hSw); go_simp; try with_reducible rfl
                  refine wpAnyH_take (i := 10) (v := ?_) rfl (by as_aux_lemma => kernel_rfl) (by as_aux_lemma => kernel_rfl) (by as_aux_lemma => kernel_rfl) (fun _ _ _ h => h) (Or.inl ⟨by kernel_rfl, ?_⟩) (by assumption) ?_
                  rotate_left
                  · intro w hSw; (try dsimp only at hSw); go_simp; try with_reducible rfl
                  refine wpAnyH_take (i := 11) (v := ?_) rfl (by as_aux_lemma => kernel_rfl) (by as_aux_lemma => kernel_rfl) (by as_aux_lemma => kernel_rfl) (fun _ _ _ h => h) (Or.inl ⟨by kernel_rfl, ?_⟩) (by assumption) ?_
                  rotate_left
                  · intro w hSw; (try dsimp only at hSw); go_simp; try with_reducible rfl
                  refine wpAnyH_take (i := 12) (v := ?_) rfl (by as_aux_lemma => kernel_rfl) (by as_aux_lemma => kernel_rfl) (by as_aux_lemma => kernel_rfl) (fun _ _ _ h => h) (Or.inl ⟨by kernel_rfl, ?_⟩) (by assumption) ?_
                  rotate_left
                  · intro w hSw; (try dsimp only at hSw); go_simp; try with_reducible rfl
                  refine wpAnyH_take (i := 13) (v := ?_) rfl (by as_aux_lemma => kernel_rfl) (by as_aux_lemma => kernel_rfl) (by as_aux_lemma => kernel_rfl) (fun _ _ _ h => h) (Or.inl ⟨by kernel_rfl, ?_⟩) (by assumption) ?_
                  rotate_left
                  · intro w hSw; (try dsimp only at hSw); go_simp; try with_reducible rfl
                  refine wpAnyH_take (i := 14) (v := ?_) rfl (by as_aux_lemma => kernel_rfl) (by as_aux_lemma => kernel_rfl) (by as_aux_lemma => kernel_rfl) (fun _ _ _ h => h) (Or.inl ⟨by kernel_rfl, ?_⟩) (by assumption) ?_
                  rotate_left
                  · intro w hSw; (try dsimp only at hSw); go_simp; try with_reducible rfl
                  refine wpAnyH_take (i := 15) (v := ?_) rfl (by as_aux_lemma => kernel_rfl) (by as_aux_lemma => kernel_rfl) (by as_aux_lemma => kernel_rfl) (fun _ _ _ h => h) (Or.inl ⟨by kernel_rfl, ?_⟩) (by assumption) ?_
                  rotate_left
                  · intro w hSw; (try dsimp only at hSw); go_simp; try with_reducible rfl
                  refine wpAnyH_take (i := 16) (v := ?_) rfl (by as_aux_lemma => kernel_rfl) (by as_aux_lemma => kernel_rfl) (by as_aux_lemma => kernel_rfl) (fun _ _ _ h => h) (Or.inl ⟨by kernel_rfl, ?_⟩) (by assumption) ?_
                  rotate_left
                  · intro w hSw; (try dsimp only at hSw); go_simp; try with_reducible rfl
                  refine wpAnyH_take (i := 17) (v := ?_) rfl (by as_aux_lemma => kernel_rfl) (by as_aux_lemma => kernel_rfl) (by as_aux_lemma => kernel_rfl) (fun _ _ _ h => h) (Or.inl ⟨by kernel_rfl, ?_⟩) (by assumption) ?_
                  rotate_left
                  · intro w hSw; (try dsimp only at hSw); go_simp; try with_reducible rfl
                  refine wpAnyH_take (i := 18) (v := ?_) rfl (by as_aux_lemma => kernel_rfl) (by as_aux_lemma => kernel_rfl) (by as_aux_lemma => kernel_rfl) (fun _ _ _ h => h) (Or.inl ⟨by kernel_rfl, ?_⟩) (by assumption) ?_
                  rotate_left
                  · intro w hSw; (try dsimp only at hSw); go_simp; try with_reducible rfl
                  refine wpAnyH_take (i := 19) (v := ?_) rfl (by as_aux_lemma => kernel_rfl) (by as_aux_lemma => kernel_rfl) (by as_aux_lemma => kernel_rfl) (fun _ _ _ h => h) (Or.inl ⟨by kernel_rfl, ?_⟩) (by assumption) ?_
                  rotate_left
                  · intro w hSw; (try dsimp only at hSw); go_simp; try with_reducible rfl
                  refine wpAnyH_take (i := 20) (v := ?_) rfl (by as_aux_lemma => kernel_rfl) (by as_aux_lemma => kernel_rfl) (by as_aux_lemma => kernel_rfl) (fun _ _ _ h => h) (Or.inl ⟨by kernel_rfl, ?_⟩) (by assumption) ?_
                  rotate_left
                  · intro w hSw; (try dsimp only at hSw); go_simp; try with_reducible rfl
                  refine wpAnyH_take (i := 21) (v := ?_) rfl (by as_aux_lemma => kernel_rfl) (by as_aux_lemma => kernel_rfl) (by as_aux_lemma => kernel_rfl) (fun _ _ _ h => h) (Or.inl ⟨by kernel_rfl, ?_⟩) (by assumption) ?_
                  rotate_left
                  · intro w hSw; (try dsimp only at hSw); go_simp; try with_reducible rfl
                  refine wpAnyH_take (i := 22) (v := ?_) rfl (by as_aux_lemma => kernel_rfl) (by as_aux_lemma => kernel_rfl) (by as_aux_lemma => kernel_rfl) (fun _ _ _ h => h) (Or.inl ⟨by kernel_rfl, ?_⟩) (by assumption) ?_
                  rotate_left
                  · intro w hSw; (try dsimp only at hSw); go_simp; try with_reducible rfl
                  refine wpAnyH_take (i := 23) (v := ?_) rfl (by as_aux_lemma => kernel_rfl) (by as_aux_lemma => kernel_rfl) (by as_aux_lemma => kernel_rfl) (fun _ _ _ h => h) (Or.inl ⟨by kernel_rfl, ?_⟩) (by assumption) ?_
                  rotate_left
                  · intro w hSw; (try dsimp only at hSw); go_simp; try with_reducible rfl
                  refine wpAnyH_take (i := 24) (v := ?_) rfl (by as_aux_lemma => kernel_rfl) (by as_aux_lemma => kernel_rfl) (by as_aux_lemma => kernel_rfl) (fun _ _ _ h => h) (Or.inl ⟨by kernel_rfl, ?_⟩) (by assumption) ?_
                  rotate_left
                  · intro w hSw; (try dsimp only at hSw); go_simp; try with_reducible rfl
                  refine wpAnyH_take (i := 25) (v := ?_) rfl (by as_aux_lemma => kernel_rfl) (by as_aux_lemma => kernel_rfl) (by as_aux_lemma => kernel_rfl) (fun _ _ _ h => h) (Or.inl ⟨by kernel_rfl, ?_⟩) (by assumption) ?_
                  rotate_left
                  · intro w hSw; (try dsimp only at hSw); go_simp; try with_reducible rfl
                  refine wpAnyH_take (i := 26) (v := ?_) rfl (by as_aux_lemma => kernel_rfl) (by as_aux_lemma => kernel_rfl) (by as_aux_lemma => kernel_rfl) (fun _ _ _ h => h) (Or.inl ⟨by kernel_rfl, ?_⟩) (by assumption) ?_
                  rotate_left
                  · intro w hSw; (try dsimp only at hSw); go_simp; try with_reducible rfl
                  refine wpAnyH_take (i := 27) (v := ?_) rfl (by as_aux_lemma => kernel_rfl) (by as_aux_lemma => kernel_rfl) (by as_aux_lemma => kernel_rfl) (fun _ _ _ h => h) (Or.inl ⟨by kernel_rfl, ?_⟩) (by assumption) ?_
                  rotate_left
                  · intro w hSw; (try dsimp only at hSw); go_simp; try with_reducible rfl
                  refine wpAnyH_take (i := 28) (v := ?_) rfl (by as_aux_lemma => kernel_rfl) (by as_aux_lemma => kernel_rfl) (by as_aux_lemma => kernel_rfl) (fun _ _ _ h => h) (Or.inl ⟨by kernel_rfl, ?_⟩) (by assumption) ?_
                  rotate_left
                  · intro w hSw; (try dsimp only at hSw); go_simp; try with_reducible rfl
                  refine wpAnyH_take (i := 29) (v := ?_) rfl (by as_aux_lemma => kernel_rfl) (by as_aux_lemma => kernel_rfl) (by as_aux_lemma => kernel_rfl) (fun _ _ _ h => h) (Or.inl ⟨by kernel_rfl, ?_⟩) (by assumption) ?_
                  rotate_left
                  · intro w hSw; (try dsimp only at hSw); go_simp; try with_reducible rfl
                  refine wpAnyH_take (i := 30) (v := ?_) rfl (by as_aux_lemma => kernel_rfl) (by as_aux_lemma => kernel_rfl) (by as_aux_lemma => kernel_rfl) (fun _ _ _ h => h) (Or.inl ⟨by kernel_rfl, ?_⟩) (by assumption) ?_
                  rotate_left
                  · intro w hSw; (try dsimp only at hSw); go_simp; try with_reducible rfl
                  refine wpAnyH_take (i := 31) (v := ?_) rfl (by as_aux_lemma => kernel_rfl) (by as_aux_lemma => kernel_rfl) (by as_aux_lemma => kernel_rfl) (fun _ _ _ h => h) (Or.inl ⟨by kernel_rfl, ?_⟩) (by assumption) ?_
                  rotate_left
                  · intro w hSw; (try dsimp only at hSw); go_simp; try with_reducible rfl
                  refine wpAnyH_take (i := 32) (v := ?_) rfl (by as_aux_lemma => kernel_rfl) (by as_aux_lemma => kernel_rfl) (by as_aux_lemma => kernel_rfl) (fun _ _ _ h => h) (Or.inl ⟨by kernel_rfl, ?_⟩) (by assumption) ?_
                  rotate_left
                  · intro w hSw; (try dsimp only at hSw); go_simp; try with_reducible rfl
                  refine wpAnyH_take (i := 33) (v := ?_) rfl (by as_aux_lemma => kernel_rfl) (by as_aux_lemma => kernel_rfl) (by as_aux_lemma => kernel_rfl) (fun _ _ _ h => h) (Or.inl ⟨by kernel_rfl, ?_⟩) (by assumption) ?_
                  rotate_left
                  · intro w hSw; (try dsimp only at hSw); go_simp; try with_reducible rfl
                  refine wpAnyH_take (i := 34) (v := ?_) rfl (by as_aux_lemma => kernel_rfl) (by as_aux_lemma => kernel_rfl) (by as_aux_lemma => kernel_rfl) (fun _ _ _ h => h) (Or.inl ⟨by kernel_rfl, ?_⟩) (by assumption) ?_
                  rotate_left
                  · intro w hSw; (try dsimp only at hSw); go_simp; try with_reducible rfl
                  refine wpAnyH_take (i := 35) (v := ?_) rfl (by as_aux_lemma => kernel_rfl) (by as_aux_lemma => kernel_rfl) (by as_aux_lemma => kernel_rfl) (fun _ _ _ h => h) (Or.inl ⟨by kernel_rfl, ?_⟩) (by assumption) ?_
                  rotate_left
                  · intro w hSw; (try dsimp only at hSw); go_simp; try with_reducible rfl
                  refine wpAnyH_take (i := 36) (v := ?_) rfl (by as_aux_lemma => kernel_rfl) (by as_aux_lemma => kernel_rfl) (by as_aux_lemma => kernel_rfl) (fun _ _ _ h => h) (Or.inl ⟨by kernel_rfl, ?_⟩) (by assumption) ?_
                  rotate_left
                  · intro w hSw; (try dsimp only at hSw); go_simp; try with_reducible rfl
                  refine wpAnyH_take (i := 37) rfl (by as_aux_lemma => kernel_rfl) (by as_aux_lemma => kernel_rfl) (by as_aux_lemma => kernel_rfl) (fun _ _ _ h => h) (Or.inr ⟨by kernel_rfl, rfl⟩) (by assumption) ?_
                  refine wpAnyH_take (i := 38) rfl (by as_aux_lemma => kernel_rfl) (by as_aux_lemma => kernel_rfl) (by as_aux_lemma => kernel_rfl) (fun _ _ _ h => h) (Or.inr ⟨by kernel_rfl, rfl⟩) (by assumption) ?_
                  refine wpAnyH_take (i := 39) rfl (by as_aux_lemma => kernel_rfl) (by as_aux_lemma => kernel_rfl) (by as_aux_lemma => kernel_rfl) (fun _ _ _ h => h) (Or.inr ⟨by kernel_rfl, rfl⟩) (by assumption) ?_
                  refine wpAnyH_take (i := 40) rfl (by as_aux_lemma => kernel_rfl) (by as_aux_lemma => kernel_rfl) (by as_aux_lemma => kernel_rfl) (fun _ _ _ h => h) (Or.inr ⟨by kernel_rfl, rfl⟩) (by assumption) ?_
                  refine wpAnyH_take (i := 41) rfl (by as_aux_lemma => kernel_rfl) (by as_aux_lemma => kernel_rfl) (by as_aux_lemma => kernel_rfl) (fun _ _ _ h => h) (Or.inr ⟨by kernel_rfl, rfl⟩) (by assumption) ?_
                  refine wpAnyH_take (i := 42) rfl (by as_aux_lemma => kernel_rfl) (by as_aux_lemma => kernel_rfl) (by as_aux_lemma => kernel_rfl) (fun _ _ _ h => h) (Or.inr ⟨by kernel_rfl, rfl⟩) (by assumption) ?_
                  refine wpAnyH_take (i := 43) rfl (by as_aux_lemma => kernel_rfl) (by as_aux_lemma => kernel_rfl) (by as_aux_lemma => kernel_rfl) (fun _ _ _ h => h) (Or.inr ⟨by kernel_rfl, rfl⟩) (by assumption) ?_
                  refine wpAnyH_take (i := 44) rfl (by as_aux_lemma => kernel_rfl) (by as_aux_lemma => kernel_rfl) (by as_aux_lemma => kernel_rfl) (fun _ _ _ h => h) (Or.inr ⟨by kernel_rfl, rfl⟩) (by assumption) ?_
                  refine wpAnyH_take (i := 45) rfl (by as_aux_lemma => kernel_rfl) (by as_aux_lemma => kernel_rfl) (by as_aux_lemma => kernel_rfl) (fun _ _ _ h => h) (Or.inr ⟨by kernel_rfl, rfl⟩) (by assumption) ?_
                  refine wpAnyH_take (i := 46) rfl (by as_aux_lemma => kernel_rfl) (by as_aux_lemma => kernel_rfl) (by as_aux_lemma => kernel_rfl) (fun _ _ _ h => h) (Or.inr ⟨by kernel_rfl, rfl⟩) (by assumption) ?_
                  refine wpAnyH_take (i := 47) rfl (by as_aux_lemma => kernel_rfl) (by as_aux_lemma => kernel_rfl) (by as_aux_lemma => kernel_rfl) (fun _ _ _ h => h) (Or.inr ⟨by kernel_rfl, rfl⟩) (by assumption) ?_
                  refine wpAnyH_take (i := 48) rfl (by as_aux_lemma => kernel_rfl) (by as_aux_lemma => kernel_rfl) (by as_aux_lemma => kernel_rfl) (fun _ _ _ h => h) (Or.inr ⟨by kernel_rfl, rfl⟩) (by assumption) ?_
                  refine wpAnyH_take (i := 49) rfl (by as_aux_lemma => kernel_rfl) (by as_aux_lemma => kernel_rfl) (by as_aux_lemma => kernel_rfl) (fun _ _ _ h => h) (Or.inr ⟨by kernel_rfl, rfl⟩) (by assumption) ?_
                  refine wpAnyH_take (i := 50) rfl (by as_aux_lemma => kernel_rfl) (by as_aux_lemma => kernel_rfl) (by as_aux_lemma => kernel_rfl) (fun _ _ _ h => h) (Or.inr ⟨by kernel_rfl, rfl⟩) (by assumption) ?_
                  refine wpAnyH_take (i := 51) rfl (by as_aux_lemma => kernel_rfl) (by as_aux_lemma => kernel_rfl) (by as_aux_lemma => kernel_rfl) (fun _ _ _ h => h) (Or.inr ⟨by kernel_rfl, rfl⟩) (by assumption) ?_
                  refine wpAnyH_take (i := 52) rfl (by as_aux_lemma => kernel_rfl) (by as_aux_lemma => kernel_rfl) (by as_aux_lemma => kernel_rfl) (fun _ _ _ h => h) (Or.inr ⟨by kernel_rfl, rfl⟩) (by assumption) ?_
                  refine wpAnyH_take (i := 53) rfl (by as_aux_lemma => kernel_rfl) (by as_aux_lemma => kernel_rfl) (by as_aux_lemma => kernel_rfl) (fun _ _ _ h => h) (Or.inr ⟨by kernel_rfl, rfl⟩) (by assumption) ?_
                  refine wpAnyH_take (i := 54) rfl (by as_aux_lemma => kernel_rfl) (by as_aux_lemma => kernel_rfl) (by as_aux_lemma => kernel_rfl) (fun _ _ _ h => h) (Or.inr ⟨by kernel_rfl, rfl⟩) (by assumption) ?_
                  refine wpAnyH_take (i := 55) rfl (by as_aux_lemma => kernel_rfl) (by as_aux_lemma => kernel_rfl) (by as_aux_lemma => kernel_rfl) (fun _ _ _ h => h) (Or.inr ⟨by kernel_rfl, rfl⟩) (by assumption) ?_
                  refine wpAnyH_take (i := 56) rfl (by as_aux_lemma => kernel_rfl) (by as_aux_lemma => kernel_rfl) (by as_aux_lemma => kernel_rfl) (fun _ _ _ h => h) (Or.inr ⟨by kernel_rfl, rfl⟩) (by assumption) ?_
                  refine wpAnyH_take (i := 57) rfl (by as_aux_lemma => kernel_rfl) (by as_aux_lemma => kernel_rfl) (by as_aux_lemma => kernel_rfl) (fun _ _ _ h => h) (Or.inr ⟨by kernel_rfl, rfl⟩) (by assumption) ?_
                  refine wpAnyH_take (i := 58) rfl (by as_aux_lemma => kernel_rfl) (by as_aux_lemma => kernel_rfl) (by as_aux_lemma => kernel_rfl) (fun _ _ _ h => h) (Or.inr ⟨by kernel_rfl, rfl⟩) (by assumption) ?_
                  refine wpAnyH_take (i := 59) (v := ?_) rfl (by as_aux_lemma => kernel_rfl) (by as_aux_lemma => kernel_rfl) (by as_aux_lemma => kernel_rfl) (fun _ _ _ h => h) (Or.inl ⟨by kernel_rfl, ?_⟩) (by assumption) ?_
                  rotate_left
                  · intro w hSw; (try dsimp only at hSw); go_simp; try with_reducible rfl
                  refine wpAnyH_ready (rs := [4, 60]) (by kernel_rfl) (by simp) ?_
                  refine AllReadyH.cons rfl (fun K' hK => ?_) (AllReadyH.cons rfl (fun K' hK => ?_) AllReadyH.nil)
                  · go_simp
                    refine hK.out _ _ ⟨c1, c2, c3, c4, c5, c6, c7'⟩ (fun hHeld => ?_)
                    clear hK K'
                    refine wpAnyH_ready (rs := [60]) (by kernel_rfl) (by simp) ?_
                    refine AllReadyH.cons rfl (fun K' hK => ?_) AllReadyH.nil
                    go_simp
                    refine hK.out _ _ ⟨a1, a2, a3, a4, a5, a6, a7⟩ (fun hHeld => ?_)
                    clear hK K'
                    refine wpAnyH_ready (rs := [61]) (by kernel_rfl) (by simp) ?_
                    refine AllReadyH.cons rfl (fun K' hK => ?_) AllReadyH.nil
                    refine step_append_any _ rfl (.tmp 132) (.tmp 188) 56 rfl M 4 iB _ 1 1 Try.underlying56 hb0 hbz0 hbz1 hbz2 rfl (by omega) x9 i (blist i t.Fz0) rfl (HW.out.alloc _) (some ⟨wr.heap.size, 0, none⟩) 1 1 [.bool true] rfl rfl (.inr ⟨_, rfl, World.news_of_block (cs := #[.bool true]) (t := 4) (fr := (0, 0)) (Go.heap_alloc_new wr _)⟩) (by simp [Value.oneCell']) hmx hby (Nat.le_trans hMs (by simp)) ?_
                    intro g6 k6 w6 hown6 hgrow6
                    have hb6 := grown_below hgrow6 (fun y e => (HW.out.lt y e).1) (Nat.le_trans hMs (by simp))
                    have hX6 := (HAL.out true).1.below (hb6.mono hMsp)
                    have hO6 := (HAL.out true).2.trans ((onl_ge hb6).mono (fun k hk => .inr hk))
                    obtain ⟨z1, z2, z3, z4, z5, z6, z7⟩ := HC.out w6 _ hX6 hO6
                    have d9w := cell_blk hX6.cell 9 rfl
                    have f9w := free_blk hX6.cell 9
                    have hX7 := hX6.put 9 (.slice g6 (i + 1) k6) rfl
                    have hO7 := hO6.set (a := ⟨sp, 9, none⟩) (.inl rfl) (.slice g6 (i + 1) k6)
                    obtain ⟨y1, y2, y3, y4, y5, y6, y7⟩ := HC.out _ _ hX7 hO7
                    have HL := Lib.hid (And.intro hX7 (And.intro hO7 (rwOther hown6 hX6.cell (by decide) 9 (.slice g6 (i + 1) k6))))
                    clear hown6 hgrow6 hb6 hX6 hO6 hX7 hO7
                    refine hK.out _ _ ⟨z1, z2, z3, z4, z5, z6, z7⟩ (fun hHeld => ?_)
                    clear hK K'
                    refine wpAnyH_take (i := 62) (v := ?_) rfl (by as_aux_lemma => kernel_rfl) (by as_aux_lemma => kernel_rfl) (by as_aux_lemma => kernel_rfl) (fun _ _ _ h => h) (Or.inl ⟨by kernel_rfl, ?_⟩) (by assumption) ?_
                    rotate_left
                    · intro w hSw; (try dsimp only at hSw); go_simp; try with_reducible rfl
                    refine wpAnyH_take (i := 63) (v := ?_) rfl (by as_aux_lemma => kernel_rfl) (by as_aux_lemma => kernel_rfl) (by as_aux_lemma => kernel_rfl) (fun _ _ _ h => h) (Or.inl ⟨by kernel_rfl, ?_⟩) (by assumption) ?_
                    rotate_left
                    · intro w hSw; (try dsimp only at hSw); go_simp; try with_reducible rfl
                    refine wpAnyH_ready (rs := [64]) (by kernel_rfl) (by simp) ?_
                    refine AllReadyH.cons rfl (fun K' hK => ?_) AllReadyH.nil
                    go_simp
                    refine hK.out _ _ ⟨y1, y2, y3, y4, y5, y6, y7⟩ (fun hHeld => ?_)
                    clear hK K'
                    refine wpAnyH_done (by kernel_rfl) ?_ _
                    refine NoPanic.normal ?_
                    clear c1 c2 c3 c4 c5 c6 c7' z1 z2 z3 z4 z5 z6 z7 y1 y2 y3 y4 y5 y6 y7 d9 d9' d9w f9w
                    go_wp2_with fail
                    go_roundg (gk - 1)
                    case measure => exact HM.out
                    case rel => exact ⟨i + 1, _, by go_num, Lib.hid ⟨HSM.out, HL.out.2.1, HL.out.1⟩, by rw [blist_succ, hF]; exact HL.out.2.2⟩
                  · go_simp
                    refine hK.out _ _ ⟨a1, a2, a3, a4, a5, a6, a7⟩ (fun hHeld => ?_)
                    clear hK K'
                    refine wpAnyH_ready (rs := [4]) (by kernel_rfl) (by simp) ?_
                    refine AllReadyH.cons rfl (fun K' hK => ?_) AllReadyH.nil
                    go_simp
                    refine hK.out _ _ ⟨a1, a2, a3, a4, a5, a6, a7⟩ (fun hHeld => ?_)
                    clear hK K'
                    refine wpAnyH_ready (rs := [61]) (by kernel_rfl) (by simp) ?_
                    refine AllReadyH.cons rfl (fun K' hK => ?_) AllReadyH.nil
                    refine step_append_any _ rfl (.tmp 132) (.tmp 188) 56 rfl M 4 iB _ 1 1 Try.underlying56 hb0 hbz0 hbz1 hbz2 rfl (by omega) x9 i (blist i t.Fz0) rfl (HW.out.alloc _) (some ⟨wr.heap.size, 0, none⟩) 1 1 [.bool true] rfl rfl (.inr ⟨_, rfl, World.news_of_block (cs := #[.bool true]) (t := 4) (fr := (0, 0)) (Go.heap_alloc_new wr _)⟩) (by simp [Value.oneCell']) hmx hby (Nat.le_trans hMs (by simp)) ?_
                    intro g6 k6 w6 hown6 hgrow6
                    have hb6 := grown_below hgrow6 (fun y e => (HW.out.lt y e).1) (Nat.le_trans hMs (by simp))
                    have hX6 := (HAL.out true).1.below (hb6.mono hMsp)
                    have hO6 := (HAL.out true).2.trans ((onl_ge hb6).mono (fun k hk => .inr hk))
                    obtain ⟨z1, z2, z3, z4, z5, z6, z7⟩ := HC.out w6 _ hX6 hO6
                    have d9w := cell_blk hX6.cell 9 rfl
                    have f9w := free_blk hX6.cell 9
                    have hX7 := hX6.put 9 (.slice g6 (i + 1) k6) rfl
                    have hO7 := hO6.set (a := ⟨sp, 9, none⟩) (.inl rfl) (.slice g6 (i + 1) k6)
                    obtain ⟨y1, y2, y3, y4, y5, y6, y7⟩ := HC.out _ _ hX7 hO7
                    have HL := Lib.hid (And.intro hX7 (And.intro hO7 (rwOther hown6 hX6.cell (by decide) 9 (.slice g6 (i + 1) k6))))
                    clear hown6 hgrow6 hb6 hX6 hO6 hX7 hO7
                    refine hK.out _ _ ⟨z1, z2, z3, z4, z5, z6, z7⟩ (fun hHeld => ?_)
                    clear hK K'
                    refine wpAnyH_take (i := 62) (v := ?_) rfl (by as_aux_lemma => kernel_rfl) (by as_aux_lemma => kernel_rfl) (by as_aux_lemma => kernel_rfl) (fun _ _ _ h => h) (Or.inl ⟨by kernel_rfl, ?_⟩) (by assumption) ?_
                    rotate_left
                    · intro w hSw; (try dsimp only at hSw); go_simp; try with_reducible rfl
                    refine wpAnyH_take (i := 63) (v := ?_) rfl (by as_aux_lemma => kernel_rfl) (by as_aux_lemma => kernel_rfl) (by as_aux_lemma => kernel_rfl) (fun _ _ _ h => h) (Or.inl ⟨by kernel_rfl, ?_⟩) (by assumption) ?_
                    rotate_left
                    · intro w hSw; (try dsimp only at hSw); go_simp; try with_reducible rfl
                    refine wpAnyH_ready (rs := [64]) (by kernel_rfl) (by simp) ?_
                    refine AllReadyH.cons rfl (fun K' hK => ?_) AllReadyH.nil
                    go_simp
                    refine hK.out _ _ ⟨y1, y2, y3, y4, y5, y6, y7⟩ (fun hHeld => ?_)
                    clear hK K'
                    refine wpAnyH_done (by kernel_rfl) ?_ _
                    refine NoPanic.normal ?_
                    clear c1 c2 c3 c4 c5 c6 c7' z1 z2 z3 z4 z5 z6 z7 y1 y2 y3 y4 y5 y6 y7 d9 d9' d9w f9w
                    go_wp2_with fail
                    go_roundg (gk - 1)
                    case measure => exact HM.out
                    case rel => exact ⟨i + 1, _, by go_num, Lib.hid ⟨HSM.out, HL.out.2.1, HL.out.1⟩, by rw [blist_succ, hF]; exact HL.out.2.2⟩
                | false =>
                  have hF : t.Fz0 i = false := by
                    unfold Told.Fz0
                    rw [HEE.out.1, ← HEE.out.2.2.2, HEE.out.2.1, HEE.out.2.2.1]; rfl
                  obtain ⟨a1, a2, a3, a4, a5, a6, a7⟩ := HC.out _ _ (HAL.out false).1 (HAL.out false).2
                  have d9' : (wr.alloc (.cells #[.bool false] 4)).cell? ⟨sp, 9, none⟩ = some x9 := cell_blk (HAL.out false).1.cell 9 rfl
                  go_wp2_with fail
                  refine wp_region_noPanic ?_
                  refine wp_region_held_drew (S := (fun W => W.cell? ⟨sp, 4, none⟩ = some (.slice (some ⟨fc, 0, none⟩) n cf) ∧ W.cell? ⟨sp, 2, none⟩ = some (.bool true) ∧ W.cell? ⟨sp, 3, none⟩ = some (.slice (some ⟨bs, 0, none⟩) n cb) ∧ W.cell? ⟨sp, 7, none⟩ = some (.slice (some ⟨b7, 0, none⟩) n c7) ∧ W.cell? ⟨fc, i, none⟩ = some (fl (t.fac i)) ∧ W.cell? ⟨bs, i, none⟩ = some (fl (t.b i)) ∧ W.cell? ⟨b7, i, none⟩ = some (fl (t.Sz0 i)))) (by kernel_rfl) ⟨c1, c2, c3, c4, c5, c6, c7'⟩ (fun hHeld => ?_)
                  refine wpAnyH_take (i := 0) (v := ?_) rfl (by as_aux_lemma => kernel_rfl) (by as_aux_lemma => kernel_rfl) (by as_aux_lemma => kernel_rfl) (fun _ _ _ h => h) (Or.inl ⟨by kernel_rfl, ?_⟩) (by assumption) ?_
                  rotate_left
                  · intro w hSw; (try dsimp only at hSw); go_simp; try with_reducible rfl
                  refine wpAnyH_take (i := 1) (v := ?_) rfl (by as_aux_lemma => kernel_rfl) (by as_aux_lemma => kernel_rfl) (by as_aux_lemma => kernel_rfl) (fun _ _ _ h => h) (Or.inl ⟨by kernel_rfl, ?_⟩) (by assumption) ?_
                  rotate_left
                  · intro w hSw; (try dsimp only at hSw); go_simp; try with_reducible rfl
                  refine wpAnyH_take (i := 2) (v := ?_) rfl (by as_aux_lemma => kernel_rfl) (by as_aux_lemma => kernel_rfl) (by as_aux_lemma => kernel_rfl) (fun _ _ _ h => h) (Or.inl ⟨by kernel_rfl, ?_⟩) (by assumption) ?_
                  rotate_left
                  · intro w hSw; (try dsimp only at hSw); go_simp; try with_reducible rfl
                  refine wpAnyH_take (i := 3) (v := ?_) rfl (by as_aux_lemma => kernel_rfl) (by as_aux_lemma => kernel_rfl) (by as_aux_lemma => kernel_rfl) (fun _ _ _ h => h) (Or.inl ⟨by kernel_rfl, ?_⟩) (by assumption) ?_
                  rotate_left
                  · intro w hSw; (try dsimp only at hSw); go_simp; try with_reducible rfl
                  refine wpAnyH_take (i := 5) (v := ?_) rfl (by as_aux_lemma => kernel_rfl) (by as_aux_lemma => kernel_rfl) (by as_aux_lemma => kernel_rfl) (fun _ _ _ h => h) (Or.inl ⟨by kernel_rfl, ?_⟩) (by assumption) ?_
                  rotate_left
                  · intro w hSw; (try dsimp only at hSw); go_simp; try with_reducible rfl
                  refine wpAnyH_take (i := 6) (v := ?_) rfl (by as_aux_lemma => kernel_rfl) (by as_aux_lemma => kernel_rfl) (by as_aux_lemma => kernel_rfl) (fun _ _ _ h => h) (Or.inl ⟨by kernel_rfl, ?_⟩) (by assumption) ?_
                  rotate_left
                  · intro w hSw; (try dsimp only at hSw); go_simp; try with_reducible rfl
                  refine wpAnyH_take (i := 7) (v := ?_) rfl (by as_aux_lemma => kernel_rfl) (by as_aux_lemma => kernel_rfl) (by as_aux_lemma => kernel_rfl) (fun _ _ _ h => h) (Or.inl ⟨by kernel_rfl, ?_⟩) (by assumption) ?_
                  rotate_left
                  · intro w hSw; (try dsimp only at hSw); go_simp; try with_reducible rfl
                  refine wpAnyH_take (i := 8) (v := ?_) rfl (by as_aux_lemma => kernel_rfl) (by as_aux_lemma => kernel_rfl) (by as_aux_lemma => kernel_rfl) (fun _ _ _ h => h) (Or.inl ⟨by kernel_rfl, ?_⟩) (by assumption) ?_
                  rotate_left
                  · intro w hSw; (try dsimp only at hSw); go_simp; try with_reducible rfl
                  refine wpAnyH_take (i := 9) (v := ?_) rfl (by as_aux_lemma => kernel_rfl) (by as_aux_lemma => kernel_rfl) (by as_aux_lemma => kernel_rfl) (fun _ _ _ h => h) (Or.inl ⟨by kernel_rfl, ?_⟩) (by assumption) ?_
                  rotate_left
                  · intro w hSw; (try dsimp only at hSw); go_simp; try with_reducible rfl
                  refine wpAnyH_take (i := 10) (v := ?_) rfl (by as_aux_lemma => kernel_rfl) (by as_aux_lemma => kernel_rfl) (by as_aux_lemma => kernel_rfl) (fun _ _ _ h => h) (Or.inl ⟨by kernel_rfl, ?_⟩) (by assumption) ?_
                  rotate_left
                  · intro w hSw; (try dsimp only at hSw); go_simp; try with_reducible rfl
                  refine wpAnyH_take (i := 11) (v := ?_) rfl (by as_aux_lemma => kernel_rfl) (by as_aux_lemma => kernel_rfl) (by as_aux_lemma => kernel_rfl) (fun _ _ _ h => h) (Or.inl ⟨by kernel_rfl, ?_⟩) (by assumption) ?_
                  rotate_left
                  · intro w hSw; (try dsimp only at hSw); go_simp; try with_reducible rfl
                  refine wpAnyH_take (i := 12) (v := ?_) rfl (by as_aux_lemma => kernel_rfl) (by as_aux_lemma => kernel_rfl) (by as_aux_lemma => kernel_rfl) (fun _ _ _ h => h) (Or.inl ⟨by kernel_rfl, ?_⟩) (by assumption) ?_
                  rotate_left
                  · intro w hSw; (try dsimp only at hSw); go_simp; try with_reducible rfl
                  refine wpAnyH_take (i := 13) (v := ?_) rfl (by as_aux_lemma => kernel_rfl) (by as_aux_lemma => kernel_rfl) (by as_aux_lemma => kernel_rfl) (fun _ _ _ h => h) (Or.inl ⟨by kernel_rfl, ?_⟩) (by assumption) ?_
                  rotate_left
                  · intro w hSw; (try dsimp only at hSw); go_simp; try with_reducible rfl
                  refine wpAnyH_take (i := 14) (v := ?_) rfl (by as_aux_lemma => kernel_rfl) (by as_aux_lemma => kernel_rfl) (by as_aux_lemma => kernel_rfl) (fun _ _ _ h => h) (Or.inl ⟨by kernel_rfl, ?_⟩) (by assumption) ?_
                  rotate_left
                  · intro w hSw; (try dsimp only at hSw); go_simp; try with_reducible rfl
                  refine wpAnyH_take (i := 15) (v := ?_) rfl (by as_aux_lemma => kernel_rfl) (by as_aux_lemma => kernel_rfl) (by as_aux_lemma => kernel_rfl) (fun _ _ _ h => h) (Or.inl ⟨by kernel_rfl, ?_⟩) (by assumption) ?_
                  rotate_left
                  · intro w hSw; (try dsimp only at hSw); go_simp; try with_reducible rfl
                  refine wpAnyH_take (i := 16) (v := ?_) rfl (by as_aux_lemma => kernel_rfl) (by as_aux_lemma => kernel_rfl) (by as_aux_lemma => kernel_rfl) (fun _ _ _ h => h) (Or.inl ⟨by kernel_rfl, ?_⟩) (by assumption) ?_
                  rotate_left
                  · intro w hSw; (try dsimp only at hSw); go_simp; try with_reducible rfl
                  refine wpAnyH_take (i := 17) (v := ?_) rfl (by as_aux_lemma => kernel_rfl) (by as_aux_lemma => kernel_rfl) (by as_aux_lemma => kernel_rfl) (fun _ _ _ h => h) (Or.inl ⟨by kernel_rfl, ?_⟩) (by assumption) ?_
                  rotate_left
                  · intro w hSw; (try dsimp only at hSw); go_simp; try with_reducible rfl
                  refine wpAnyH_take (i := 18) (v := ?_) rfl (by as_aux_lemma => kernel_rfl) (by as_aux_lemma => kernel_rfl) (by as_aux_lemma => kernel_rfl) (fun _ _ _ h => h) (Or.inl ⟨by kernel_rfl, ?_⟩) (by assumption) ?_
                  rotate_left
                  · intro w hSw; (try dsimp only at hSw); go_simp; try with_reducible rfl
                  refine wpAnyH_take (i := 19) (v := ?_) rfl (by as_aux_lemma => kernel_rfl) (by as_aux_lemma => kernel_rfl) (by as_aux_lemma => kernel_rfl) (fun _ _ _ h => h) (Or.inl ⟨by kernel_rfl, ?_⟩) (by assumption) ?_
                  rotate_left
                  · intro w hSw; (try dsimp only at hSw); go_simp; try with_reducible rfl
                  refine wpAnyH_take (i := 20) (v := ?_) rfl (by as_aux_lemma => kernel_rfl) (by as_aux_lemma => kernel_rfl) (by as_aux_lemma => kernel_rfl) (fun _ _ _ h => h) (Or.inl ⟨by kernel_rfl, ?_⟩) (by assumption) ?_
                  rotate_left
                  · intro w hSw; (try dsimp only at hSw); go_simp; try with_reducible rfl
                  refine wpAnyH_take (i := 21) (v := ?_) rfl (by as_aux_lemma => kernel_rfl) (by as_aux_lemma => kernel_rfl) (by as_aux_lemma => kernel_rfl) (fun _ _ _ h => h) (Or.inl ⟨by kernel_rfl, ?_⟩) (by assumption) ?_
                  rotate_left
                  · intro w hSw; (try dsimp only at hSw); go_simp; try with_reducible rfl
                  refine wpAnyH_take (i := 22) (v := ?_) rfl (by as_aux_lemma => kernel_rfl) (by as_aux_lemma => kernel_rfl) (by as_aux_lemma => kernel_rfl) (fun _ _ _ h => h) (Or.inl ⟨by kernel_rfl, ?_⟩) (by assumption) ?_
                  rotate_left
                  · intro w hSw; (try dsimp only at hSw); go_simp; try with_reducible rfl
                  refine wpAnyH_take (i := 23) (v := ?_) rfl (by as_aux_lemma => kernel_rfl) (by as_aux_lemma => kernel_rfl) (by as_aux_lemma => kernel_rfl) (fun _ _ _ h => h) (Or.inl ⟨by kernel_rfl, ?_⟩) (by assumption) ?_
                  rotate_left
                  · intro w hSw; (try dsimp only at hSw); go_simp; try with_reducible rfl
                  refine wpAnyH_take (i := 24) (v := ?_) rfl (by as_aux_lemma => kernel_rfl) (by as_aux_lemma => kernel_rfl) (by as_aux_lemma => kernel_rfl) (fun _ _ _ h => h) (Or.inl ⟨by kernel_rfl, ?_⟩) (by assumption) ?_
                  rotate_left
                  · intro w hSw; (try dsimp only at hSw); go_simp; try with_reducible rfl
                  refine wpAnyH_take (i := 25) (v := ?_) rfl (by as_aux_lemma => kernel_rfl) (by as_aux_lemma => kernel_rfl) (by as_aux_lemma => kernel_rfl) (fun _ _ _ h => h) (Or.inl ⟨by kernel_rfl, ?_⟩) (by assumption) ?_
                  rotate_left
                  · intro w hSw; (try dsimp only at hSw); go_simp; try with_reducible rfl
                  refine wpAnyH_take (i := 26) (v := ?_) rfl (by as_aux_lemma => kernel_rfl) (by as_aux_lemma => kernel_rfl) (by as_aux_lemma => kernel_rfl) (fun _ _ _ h => h) (Or.inl ⟨by kernel_rfl, ?_⟩) (by assumption) ?_
                  rotate_left
                  · intro w hSw; (try dsimp only at hSw); go_simp; try with_reducible rfl
                  refine wpAnyH_take (i := 27) (v := ?_) rfl (by as_aux_lemma => kernel_rfl) (by as_aux_lemma => kernel_rfl) (by as_aux_lemma => kernel_rfl) (fun _ _ _ h => h) (Or.inl ⟨by kernel_rfl, ?_⟩) (by assumption) ?_
                  rotate_left
                  · intro w hSw; (try dsimp only at hSw); go_simp; try with_reducible rfl
                  refine wpAnyH_take (i := 28) (v := ?_) rfl (by as_aux_lemma => kernel_rfl) (by as_aux_lemma => kernel_rfl) (by as_aux_lemma => kernel_rfl) (fun _ _ _ h => h) (Or.inl ⟨by kernel_rfl, ?_⟩) (by assumption) ?_
                  rotate_left
                  · intro w hSw; (try dsimp only at hSw); go_simp; try with_reducible rfl
                  refine wpAnyH_take (i := 29) (v := ?_) rfl (by as_aux_lemma => kernel_rfl) (by as_aux_lemma => kernel_rfl) (by as_aux_lemma => kernel_rfl) (fun _ _ _ h => h) (Or.inl ⟨by kernel_rfl, ?_⟩) (by assumption) ?_
                  rotate_left
                  · intro w hSw; (try dsimp only at hSw); go_simp; try with_reducible rfl
                  refine wpAnyH_take (i := 30) (v := ?_) rfl (by as_aux_lemma => kernel_rfl) (by as_aux_lemma => kernel_rfl) (by as_aux_lemma => kernel_rfl) (fun _ _ _ h => h) (Or.inl ⟨by kernel_rfl, ?_⟩) (by assumption) ?_
                  rotate_left
                  · intro w hSw; (try dsimp only at hSw); go_simp; try with_reducible rfl
                  refine wpAnyH_take (i := 31) (v := ?_) rfl (by as_aux_lemma => kernel_rfl) (by as_aux_lemma => kernel_rfl) (by as_aux_lemma => kernel_rfl) (fun _ _ _ h => h) (Or.inl ⟨by kernel_rfl, ?_⟩) (by assumption) ?_
                  rotate_left
                  · intro w hSw; (try dsimp only at hSw); go_simp; try with_reducible rfl
                  refine wpAnyH_take (i := 32) (v := ?_) rfl (by as_aux_lemma => kernel_rfl) (by as_aux_lemma => kernel_rfl) (by as_aux_lemma => kernel_rfl) (fun _ _ _ h => h) (Or.inl ⟨by kernel_rfl, ?_⟩) (by assumption) ?_
                  rotate_left
                  · intro w hSw; (try dsimp only at hSw); go_simp; try with_reducible rfl
                  refine wpAnyH_take (i := 33) (v := ?_) rfl (by as_aux_lemma => kernel_rfl) (by as_aux_lemma => kernel_rfl) (by as_aux_lemma => kernel_rfl) (fun _ _ _ h => h) (Or.inl ⟨by kernel_rfl, ?_⟩) (by assumption) ?_
                  rotate_left
                  · intro w hSw; (try dsimp only at hSw); go_simp; try with_reducible rfl
                  refine wpAnyH_take (i := 34) (v := ?_) rfl (by as_aux_lemma => kernel_rfl) (by as_aux_lemma => kernel_rfl) (by as_aux_lemma => kernel_rfl) (fun _ _ _ h => h) (Or.inl ⟨by kernel_rfl, ?_⟩) (by assumption) ?_
                  rotate_left
                  · intro w hSw; (try dsimp only at hSw); go_simp; try with_reducible rfl
                  refine wpAnyH_take (i := 35) (v := ?_) rfl (by as_aux_lemma => kernel_rfl) (by as_aux_lemma => kernel_rfl) (by as_aux_lemma => kernel_rfl) (fun _ _ _ h => h) (Or.inl ⟨by kernel_rfl, ?_⟩) (by assumption) ?_
                  rotate_left
                  · intro w hSw; (try dsimp only at hSw); go_simp; try with_reducible rfl
                  refine wpAnyH_take (i := 36) (v := ?_) rfl (by as_aux_lemma => kernel_rfl) (by as_aux_lemma => kernel_rfl) (by as_aux_lemma => kernel_rfl) (fun _ _ _ h => h) (Or.inl ⟨by kernel_rfl, ?_⟩) (by assumption) ?_
                  rotate_left
                  · intro w hSw; (try dsimp only at hSw); go_simp; try with_reducible rfl
                  refine wpAnyH_take (i := 37) (v := ?_) rfl (by as_aux_lemma => kernel_rfl) (by as_aux_lemma => kernel_rfl) (by as_aux_lemma => kernel_rfl) (fun _ _ _ h => h) (Or.inl ⟨by kernel_rfl, ?_⟩) (by assumption) ?_
                  rotate_left
                  · intro w hSw; (try dsimp only at hSw); go_simp; try with_reducible rfl
                  refine wpAnyH_take (i := 38) (v := ?_) rfl (by as_aux_lemma => kernel_rfl) (by as_aux_lemma => kernel_rfl) (by as_aux_lemma => kernel_rfl) (fun _ _ _ h => h) (Or.inl ⟨by kernel_rfl, ?_⟩) (by assumption) ?_
                  rotate_left
                  · intro w hSw; (try dsimp only at hSw); go_simp; try with_reducible rfl
                  refine wpAnyH_take (i := 39) (v := ?_) rfl (by as_aux_lemma => kernel_rfl) (by as_aux_lemma => kernel_rfl) (by as_aux_lemma => kernel_rfl) (fun _ _ _ h => h) (Or.inl ⟨by kernel_rfl, ?_⟩) (by assumption) ?_
                  rotate_left
                  · intro w hSw; (try dsimp only at hSw); go_simp; try with_reducible rfl
                  refine wpAnyH_take (i := 40) (v := ?_) rfl (by as_aux_lemma => kernel_rfl) (by as_aux_lemma => kernel_rfl) (by as_aux_lemma => kernel_rfl) (fun _ _ _ h => h) (Or.inl ⟨by kernel_rfl, ?_⟩) (by assumption) ?_
                  rotate_left
                  · intro w hSw; (try dsimp only at hSw); go_simp; try with_reducible rfl
                  refine wpAnyH_take (i := 41) (v := ?_) rfl (by as_aux_lemma => kernel_rfl) (by as_aux_lemma => kernel_rfl) (by as_aux_lemma => kernel_rfl) (fun _ _ _ h => h) (Or.inl ⟨by kernel_rfl, ?_⟩) (by assumption) ?_
                  rotate_left
                  · intro w hSw; (try dsimp only at hSw); go_simp; try with_reducible rfl
                  refine wpAnyH_take (i := 42) (v := ?_) rfl (by as_aux_lemma => kernel_rfl) (by as_aux_lemma => kernel_rfl) (by as_aux_lemma => kernel_rfl) (fun _ _ _ h => h) (Or.inl ⟨by kernel_rfl, ?_⟩) (by assumption) ?_
                  rotate_left
                  · intro w hSw; (try dsimp only at hSw); go_simp; try with_reducible rfl
                  refine wpAnyH_take (i := 43) rfl (by as_aux_lemma => kernel_rfl) (by as_aux_lemma => kernel_rfl) (by as_aux_lemma => kernel_rfl) (fun _ _ _ h => h) (Or.inr ⟨by kernel_rfl, rfl⟩) (by assumption) ?_
                  refine wpAnyH_take (i := 44) rfl (by as_aux_lemma => kernel_rfl) (by as_aux_lemma => kernel_rfl) (by as_aux_lemma => kernel_rfl) (fun _ _ _ h => h) (Or.inr ⟨by kernel_rfl, rfl⟩) (by assumption) ?_
                  refine wpAnyH_take (i := 45) rfl (by as_aux_lemma => kernel_rfl) (by as_aux_lemma => kernel_rfl) (by as_aux_lemma => kernel_rfl) (fun _ _ _ h => h) (Or.inr ⟨by kernel_rfl, rfl⟩) (by assumption) ?_
                  refine wpAnyH_take (i := 46) rfl (by as_aux_lemma => kernel_rfl) (by as_aux_lemma => kernel_rfl) (by as_aux_lemma => kernel_rfl) (fun _ _ _ h => h) (Or.inr ⟨by kernel_rfl, rfl⟩) (by assumption) ?_
                  refine wpAnyH_take (i := 47) rfl (by as_aux_lemma => kernel_rfl) (by as_aux_lemma => kernel_rfl) (by as_aux_lemma => kernel_rfl) (fun _ _ _ h => h) (Or.inr ⟨by kernel_rfl, rfl⟩) (by assumption) ?_
                  refine wpAnyH_take (i := 48) rfl (by as_aux_lemma => kernel_rfl) (by as_aux_lemma => kernel_rfl) (by as_aux_lemma => kernel_rfl) (fun _ _ _ h => h) (Or.inr ⟨by kernel_rfl, rfl⟩) (by assumption) ?_
                  refine wpAnyH_take (i := 49) rfl (by as_aux_lemma => kernel_rfl) (by as_aux_lemma => kernel_rfl) (by as_aux_lemma => kernel_rfl) (fun _ _ _ h => h) (Or.inr ⟨by kernel_rfl, rfl⟩) (by assumption) ?_
                  refine wpAnyH_take (i := 50) rfl (by as_aux_lemma => kernel_rfl) (by as_aux_lemma => kernel_rfl) (by as_aux_lemma => kernel_rfl) (fun _ _ _ h => h) (Or.inr ⟨by kernel_rfl, rfl⟩) (by assumption) ?_
                  refine wpAnyH_take (i := 51) rfl (by as_aux_lemma => kernel_rfl) (by as_aux_lemma => kernel_rfl) (by as_aux_lemma => kernel_rfl) (fun _ _ _ h => h) (Or.inr ⟨by kernel_rfl, rfl⟩) (by assumption) ?_
                  refine wpAnyH_take (i := 52) rfl (by as_aux_lemma => kernel_rfl) (by as_aux_lemma => kernel_rfl) (by as_aux_lemma => kernel_rfl) (fun _ _ _ h => h) (Or.inr ⟨by kernel_rfl, rfl⟩) (by assumption) ?_
                  refine wpAnyH_take (i := 53) rfl (by as_aux_lemma => kernel_rfl) (by as_aux_lemma => kernel_rfl) (by as_aux_lemma => kernel_rfl) (fun _ _ _ h => h) (Or.inr ⟨by kernel_rfl, rfl⟩) (by assumption) ?_
                  refine wpAnyH_take (i := 54) rfl (by as_aux_lemma => kernel_rfl) (by as_aux_lemma => kernel_rfl) (by as_aux_lemma => kernel_rfl) (fun _ _ _ h => h) (Or.inr ⟨by kernel_rfl, rfl⟩) (by assumption) ?_
                  refine wpAnyH_take (i := 55) rfl (by as_aux_lemma => kernel_rfl) (by as_aux_lemma => kernel_rfl) (by as_aux_lemma => kernel_rfl) (fun _ _ _ h => h) (Or.inr ⟨by kernel_rfl, rfl⟩) (by assumption) ?_
                  refine wpAnyH_take (i := 56) rfl (by as_aux_lemma => kernel_rfl) (by as_aux_lemma => kernel_rfl) (by as_aux_lemma => kernel_rfl) (fun _ _ _ h => h) (Or.inr ⟨by kernel_rfl, rfl⟩) (by assumption) ?_
                  refine wpAnyH_take (i := 57) rfl (by as_aux_lemma => kernel_rfl) (by as_aux_lemma => kernel_rfl) (by as_aux_lemma => kernel_rfl) (fun _ _ _ h => h) (Or.inr ⟨by kernel_rfl, rfl⟩) (by assumption) ?_
                  refine wpAnyH_take (i := 58) (v := ?_) rfl (by as_aux_lemma => kernel_rfl) (by as_aux_lemma => kernel_rfl) (by as_aux_lemma => kernel_rfl) (fun _ _ _ h => h) (Or.inl ⟨by kernel_rfl, ?_⟩) (by assumption) ?_
                  rotate_left
                  · intro w hSw; (try dsimp only at hSw); go_simp; try with_reducible rfl
                  refine wpAnyH_take (i := 59) (v := ?_) rfl (by as_aux_lemma => kernel_rfl) (by as_aux_lemma => kernel_rfl) (by as_aux_lemma => kernel_rfl) (fun _ _ _ h => h) (Or.inl ⟨by kernel_rfl, ?_⟩) (by assumption) ?_
                  rotate_left
                  · intro w hSw; (try dsimp only at hSw); go_simp; try with_reducible rfl
                  refine wpAnyH_ready (rs := [4, 60]) (by kernel_rfl) (by simp) ?_
                  refine AllReadyH.cons rfl (fun K' hK => ?_) (AllReadyH.cons rfl (fun K' hK => ?_) AllReadyH.nil)
                  · go_simp
                    refine hK.out _ _ ⟨c1, c2, c3, c4, c5, c6, c7'⟩ (fun hHeld => ?_)
                    clear hK K'
                    refine wpAnyH_ready (rs := [60]) (by kernel_rfl) (by simp) ?_
                    refine AllReadyH.cons rfl (fun K' hK => ?_) AllReadyH.nil
                    go_simp
                    refine hK.out _ _ ⟨a1, a2, a3, a4, a5, a6, a7⟩ (fun hHeld => ?_)
                    clear hK K'
                    refine wpAnyH_ready (rs := [61]) (by kernel_rfl) (by simp) ?_
                    refine AllReadyH.cons rfl (fun K' hK => ?_) AllReadyH.nil
                    refine step_append_any _ rfl (.tmp 132) (.tmp 188) 56 rfl M 4 iB _ 1 1 Try.underlying56 hb0 hbz0 hbz1 hbz2 rfl (by omega) x9 i (blist i t.Fz0) rfl (HW.out.alloc _) (some ⟨wr.heap.size, 0, none⟩) 1 1 [.bool false] rfl rfl (.inr ⟨_, rfl, World.news_of_block (cs := #[.bool false]) (t := 4) (fr := (0, 0)) (Go.heap_alloc_new wr _)⟩) (by simp [Value.oneCell']) hmx hby (Nat.le_trans hMs (by simp)) ?_
                    intro g6 k6 w6 hown6 hgrow6
                    have hb6 := grown_below hgrow6 (fun y e => (HW.out.lt y e).1) (Nat.le_trans hMs (by simp))
                    have hX6 := (HAL.out false).1.below (hb6.mono hMsp)
                    have hO6 := (HAL.out false).2.trans ((onl_ge hb6).mono (fun k hk => .inr hk))
                    obtain ⟨z1, z2, z3, z4, z5, z6, z7⟩ := HC.out w6 _ hX6 hO6
                    have d9w := cell_blk hX6.cell 9 rfl
                    have f9w := free_blk hX6.cell 9
                    have hX7 := hX6.put 9 (.slice g6 (i + 1) k6) rfl
                    have hO7 := hO6.set (a := ⟨sp, 9, none⟩) (.inl rfl) (.slice g6 (i + 1) k6)
                    obtain ⟨y1, y2, y3, y4, y5, y6, y7⟩ := HC.out _ _ hX7 hO7
                    have HL := Lib.hid (And.intro hX7 (And.intro hO7 (rwOther hown6 hX6.cell (by decide) 9 (.slice g6 (i + 1) k6))))
                    clear hown6 hgrow6 hb6 hX6 hO6 hX7 hO7
                    refine hK.out _ _ ⟨z1, z2, z3, z4, z5, z6, z7⟩ (fun hHeld => ?_)
                    clear hK K'
                    refine wpAnyH_take (i := 62) (v := ?_) rfl (by as_aux_lemma => kernel_rfl) (by as_aux_lemma => kernel_rfl) (by as_aux_lemma => kernel_rfl) (fun _ _ _ h => h) (Or.inl ⟨by kernel_rfl, ?_⟩) (by assumption) ?_
                    rotate_left
                    · intro w hSw; (try dsimp only at hSw); go_simp; try with_reducible rfl
                    refine wpAnyH_take (i := 63) (v := ?_) rfl (by as_aux_lemma => kernel_rfl) (by as_aux_lemma => kernel_rfl) (by as_aux_lemma => kernel_rfl) (fun _ _ _ h => h) (Or.inl ⟨by kernel_rfl, ?_⟩) (by assumption) ?_
                    rotate_left
                    · intro w hSw; (try dsimp only at hSw); go_simp; try with_reducible rfl
                    refine wpAnyH_ready (rs := [64]) (by kernel_rfl) (by simp) ?_
                    refine AllReadyH.cons rfl (fun K' hK => ?_) AllReadyH.nil
                    go_simp
                    refine hK.out _ _ ⟨y1, y2, y3, y4, y5, y6, y7⟩ (fun hHeld => ?_)
                    clear hK K'
                    refine wpAnyH_done (by kernel_rfl) ?_ _
                    refine NoPanic.normal ?_
                    clear c1 c2 c3 c4 c5 c6 c7' z1 z2 z3 z4 z5 z6 z7 y1 y2 y3 y4 y5 y6 y7 d9 d9' d9w f9w
                    go_wp2_with fail
                    go_roundg (gk - 1)
                    case measure => exact HM.out
                    case rel => exact ⟨i + 1, _, by go_num, Lib.hid ⟨HSM.out, HL.out.2.1, HL.out.1⟩, by rw [blist_succ, hF]; exact HL.out.2.2⟩
                  · go_simp
                    refine hK.out _ _ ⟨a1, a2, a3, a4, a5, a6, a7⟩ (fun hHeld => ?_)
                    clear hK K'
                    refine wpAnyH_ready (rs := [4]) (by kernel_rfl) (by simp) ?_
                    refine AllReadyH.cons rfl (fun K' hK => ?_) AllReadyH.nil
                    go_simp
                    refine hK.out _ _ ⟨a1, a2, a3, a4, a5, a6, a7⟩ (fun hHeld => ?_)
                    clear hK K'
                    refine wpAnyH_ready (rs := [61]) (by kernel_rfl) (by simp) ?_
                    refine AllReadyH.cons rfl (fun K' hK => ?_) AllReadyH.nil
                    refine step_append_any _ rfl (.tmp 132) (.tmp 188) 56 rfl M 4 iB _ 1 1 Try.underlying56 hb0 hbz0 hbz1 hbz2 rfl (by omega) x9 i (blist i t.Fz0) rfl (HW.out.alloc _) (some ⟨wr.heap.size, 0, none⟩) 1 1 [.bool false] rfl rfl (.inr ⟨_, rfl, World.news_of_block (cs := #[.bool false]) (t := 4) (fr := (0, 0)) (Go.heap_alloc_new wr _)⟩) (by simp [Value.oneCell']) hmx hby (Nat.le_trans hMs (by simp)) ?_
                    intro g6 k6 w6 hown6 hgrow6
                    have hb6 := grown_below hgrow6 (fun y e => (HW.out.lt y e).1) (Nat.le_trans hMs (by simp))
                    have hX6 := (HAL.out false).1.below (hb6.mono hMsp)
                    have hO6 := (HAL.out false).2.trans ((onl_ge hb6).mono (fun k hk => .inr hk))
                    obtain ⟨z1, z2, z3, z4, z5, z6, z7⟩ := HC.out w6 _ hX6 hO6
                    have d9w := cell_blk hX6.cell 9 rfl
                    have f9w := free_blk hX6.cell 9
                    have hX7 := hX6.put 9 (.slice g6 (i + 1) k6) rfl
                    have hO7 := hO6.set (a := ⟨sp, 9, none⟩) (.inl rfl) (.slice g6 (i + 1) k6)
                    obtain ⟨y1, y2, y3, y4, y5, y6, y7⟩ := HC.out _ _ hX7 hO7
                    have HL := Lib.hid (And.intro hX7 (And.intro hO7 (rwOther hown6 hX6.cell (by decide) 9 (.slice g6 (i + 1) k6))))
                    clear hown6 hgrow6 hb6 hX6 hO6 hX7 hO7
                    refine hK.out _ _ ⟨z1, z2, z3, z4, z5, z6, z7⟩ (fun hHeld => ?_)
                    clear hK K'
                    refine wpAnyH_take (i := 62) (v := ?_) rfl (by as_aux_lemma => kernel_rfl) (by as_aux_lemma => kernel_rfl) (by as_aux_lemma => kernel_rfl) (fun _ _ _ h => h) (Or.inl ⟨by kernel_rfl, ?_⟩) (by assumption) ?_
                    rotate_left
                    · intro w hSw; (try dsimp only at hSw); go_simp; try with_reducible rfl
                    refine wpAnyH_take (i := 63) (v := ?_) rfl (by as_aux_lemma => kernel_rfl) (by as_aux_lemma => kernel_rfl) (by as_aux_lemma => kernel_rfl) (fun _ _ _ h => h) (Or.inl ⟨by kernel_rfl, ?_⟩) (by assumption) ?_
                    rotate_left
                    · intro w hSw; (try dsimp only at hSw); go_simp; try with_reducible rfl
                    refine wpAnyH_ready (rs := [64]) (by kernel_rfl) (by simp) ?_
                    refine AllReadyH.cons rfl (fun K' hK => ?_) AllReadyH.nil
                    go_simp
                    refine hK.out _ _ ⟨y1, y2, y3, y4, y5, y6, y7⟩ (fun hHeld => ?_)
                    clear hK K'
                    refine wpAnyH_done (by kernel_rfl) ?_ _
                    refine NoPanic.normal ?_
                    clear c1 c2 c3 c4 c5 c6 c7' z1 z2 z3 z4 z5 z6 z7 y1 y2 y3 y4 y5 y6 y7 d9 d9' d9w f9w
                    go_wp2_with fail
                    go_roundg (gk - 1)
                    case measure => exact HM.out
                    case rel => exact ⟨i + 1, _, by go_num, Lib.hid ⟨HSM.out, HL.out.2.1, HL.out.1⟩, by rw [blist_succ, hF]; exact HL.out.2.2⟩
              | false =>
                have hF : t.Fz0 i = e2 := by
                  unfold Told.Fz0
                  rw [HEE.out.1, ← HEE.out.2.2.2, HEE.out.2.1, HEE.out.2.2.1]; cases e2 <;> rfl
                obtain ⟨a1, a2, a3, a4, a5, a6, a7⟩ := HC.out _ _ (HAL.out e2).1 (HAL.out e2).2
                have d9' : (wr.alloc (.cells #[.bool e2] 4)).cell? ⟨sp, 9, none⟩ = some x9 := cell_blk (HAL.out e2).1.cell 9 rfl
                go_wp2_with fail
                refine wp_region_noPanic ?_
                refine wp_region_held_drew (S := (fun W => W.cell? ⟨sp, 4, none⟩ = some (.slice (some ⟨fc, 0, none⟩) n cf) ∧ W.cell? ⟨sp, 2, none⟩ = some (.bool false) ∧ W.cell? ⟨sp, 3, none⟩ = some (.slice (some ⟨bs, 0, none⟩) n cb) ∧ W.cell? ⟨sp, 7, none⟩ = some (.slice (some ⟨b7, 0, none⟩) n c7) ∧ W.cell? ⟨fc, i, none⟩ = some (fl (t.fac i)) ∧ W.cell? ⟨bs, i, none⟩ = some (fl (t.b i)) ∧ W.cell? ⟨b7, i, none⟩ = some (fl (t.Sz0 i)))) (by kernel_rfl) ⟨c1, c2, c3, c4, c5, c6, c7'⟩ (fun hHeld => ?_)
                refine wpAnyH_take (i := 0) (v := ?_) rfl (by as_aux_lemma => kernel_rfl) (by as_aux_lemma => kernel_rfl) (by as_aux_lemma => kernel_rfl) (fun _ _ _ h => h) (Or.inl ⟨by kernel_rfl, ?_⟩) (by assumption) ?_
                rotate_left
                · intro w hSw; (try dsimp only at hSw); go_simp; try with_reducible rfl
                refine wpAnyH_take (i := 1) (v := ?_) rfl (by as_aux_lemma => kernel_rfl) (by as_aux_lemma => kernel_rfl) (by as_aux_lemma => kernel_rfl) (fun _ _ _ h => h) (Or.inl ⟨by kernel_rfl, ?_⟩) (by assumption) ?_
                rotate_left
                · intro w hSw; (try dsimp only at hSw); go_simp; try with_reducible rfl
                refine wpAnyH_take (i := 2) (v := ?_) rfl (by as_aux_lemma => kernel_rfl) (by as_aux_lemma => kernel_rfl) (by as_aux_lemma => kernel_rfl) (fun _ _ _ h => h) (Or.inl ⟨by kernel_rfl, ?_⟩) (by assumption) ?_
                rotate_left
                · intro w hSw; (try dsimp only at hSw); go_simp; try with_reducible rfl
                refine wpAnyH_take (i := 3) (v := ?_) rfl (by as_aux_lemma => kernel_rfl) (by as_aux_lemma => kernel_rfl) (by as_aux_lemma => kernel_rfl) (fun _ _ _ h => h) (Or.inl ⟨by kernel_rfl, ?_⟩) (by assumption) ?_
                rotate_left
                · intro w hSw; (try dsimp only at hSw); go_simp; try with_reducible rfl
                refine wpAnyH_take (i := 5) (v := ?_) rfl (by as_aux_lemma => kernel_rfl) (by as_aux_lemma => kernel_rfl) (by as_aux_lemma => kernel_rfl) (fun _ _ _ h => h) (Or.inl ⟨by kernel_rfl, ?_⟩) (by assumption) ?_
                rotate_left
                · intro w hSw; (try dsimp only at hSw); go_simp; try with_reducible rfl
                refine wpAnyH_take (i := 6) (v := ?_) rfl (by as_aux_lemma => kernel_rfl) (by as_aux_lemma => kernel_rfl) (by as_aux_lemma => kernel_rfl) (fun _ _ _ h => h) (Or.inl ⟨by kernel_rfl, ?_⟩) (by assumption) ?_
                rotate_left
                · intro w hSw; (try dsimp only at hSw); go_simp; try with_reducible rfl
                refine wpAnyH_take (i := 7) (v := ?_) rfl (by as_aux_lemma => kernel_rfl) (by as_aux_lemma => kernel_rfl) (by as_aux_lemma => kernel_rfl) (fun _ _ _ h => h) (Or.inl ⟨by kernel_rfl, ?_⟩) (by assumption) ?_
                rotate_left
                · intro w hSw; (try dsimp only at hSw); go_simp; try with_reducible rfl
                refine wpAnyH_take (i := 8) (v := ?_) rfl (by as_aux_lemma => kernel_rfl) (by as_aux_lemma => kernel_rfl) (by as_aux_lemma => kernel_rfl) (fun _ _ _ h => h) (Or.inl ⟨by kernel_rfl, ?_⟩) (by assumption) ?_
                rotate_left
                · intro w hSw; (try dsimp only at hSw); go_simp; try with_reducible rfl
                refine wpAnyH_take (i := 9) (v := ?_) rfl (by as_aux_lemma => kernel_rfl) (by as_aux_lemma => kernel_rfl) (by as_aux_lemma => kernel_rfl) (fun _ _ _ h => h) (Or.inl ⟨by kernel_rfl, ?_⟩) (by assumption) ?_
                rotate_left
                · intro w hSw; (try dsimp only at hSw); go_simp; try with_reducible rfl
                refine wpAnyH_take (i := 10) (v := ?_) rfl (by as_aux_lemma => kernel_rfl) (by as_aux_lemma => kernel_rfl) (by as_aux_lemma => kernel_rfl) (fun _ _ _ h => h) (Or.inl ⟨by kernel_rfl, ?_⟩) (by assumption) ?_
                rotate_left
                · intro w hSw; (try dsimp only at hSw); go_simp; try with_reducible rfl
                refine wpAnyH_take (i := 11) (v := ?_) rfl (by as_aux_lemma => kernel_rfl) (by as_aux_lemma => kernel_rfl) (by as_aux_lemma => kernel_rfl) (fun _ _ _ h => h) (Or.inl ⟨by kernel_rfl, ?_⟩) (by assumption) ?_
                rotate_left
                · intro w hSw; (try dsimp only at hSw); go_simp; try with_reducible rfl
                refine wpAnyH_take (i := 12) (v := ?_) rfl (by as_aux_lemma => kernel_rfl) (by as_aux_lemma => kernel_rfl) (by as_aux_lemma => kernel_rfl) (fun _ _ _ h => h) (Or.inl ⟨by kernel_rfl, ?_⟩) (by assumption) ?_
                rotate_left
                · intro w hSw; (try dsimp only at hSw); go_simp; try with_reducible rfl
                refine wpAnyH_take (i := 13) (v := ?_) rfl (by as_aux_lemma => kernel_rfl) (by as_aux_lemma => kernel_rfl) (by as_aux_lemma => kernel_rfl) (fun _ _ _ h => h) (Or.inl ⟨by kernel_rfl, ?_⟩) (by assumption) ?_
                rotate_left
                · intro w hSw; (try dsimp only at hSw); go_simp; try with_reducible rfl
                refine wpAnyH_take (i := 14) (v := ?_) rfl (by as_aux_lemma => kernel_rfl) (by as_aux_lemma => kernel_rfl) (by as_aux_lemma => kernel_rfl) (fun _ _ _ h => h) (Or.inl ⟨by kernel_rfl, ?_⟩) (by assumption) ?_
                rotate_left
                · intro w hSw; (try dsimp only at hSw); go_simp; try with_reducible rfl
                refine wpAnyH_take (i := 15) (v := ?_) rfl (by as_aux_lemma => kernel_rfl) (by as_aux_lemma => kernel_rfl) (by as_aux_lemma => kernel_rfl) (fun _ _ _ h => h) (Or.inl ⟨by kernel_rfl, ?_⟩) (by assumption) ?_
                rotate_left
                · intro w hSw; (try dsimp only at hSw); go_simp; try with_reducible rfl
                refine wpAnyH_take (i := 16) (v := ?_) rfl (by as_aux_lemma => kernel_rfl) (by as_aux_lemma => kernel_rfl) (by as_aux_lemma => kernel_rfl) (fun _ _ _ h => h) (Or.inl ⟨by kernel_rfl, ?_⟩) (by assumption) ?_
                rotate_left
                · intro w hSw; (try dsimp only at hSw); go_simp; try with_reducible rfl
                refine wpAnyH_take (i := 17) (v := ?_) rfl (by as_aux_lemma => kernel_rfl) (by as_aux_lemma => kernel_rfl) (by as_aux_lemma => kernel_rfl) (fun _ _ _ h => h) (Or.inl ⟨by kernel_rfl, ?_⟩) (by assumption) ?_
                rotate_left
                · intro w hSw; (try dsimp only at hSw); go_simp; try with_reducible rfl
                refine wpAnyH_take (i := 18) (v := ?_) rfl (by as_aux_lemma => kernel_rfl) (by as_aux_lemma => kernel_rfl) (by as_aux_lemma => kernel_rfl) (fun _ _ _ h => h) (Or.inl ⟨by kernel_rfl, ?_⟩) (by assumption) ?_
                rotate_left
                · intro w hSw; (try dsimp only at hSw); go_simp; try with_reducible rfl
                refine wpAnyH_take (i := 19) rfl (by as_aux_lemma => kernel_rfl) (by as_aux_lemma => kernel_rfl) (by as_aux_lemma => kernel_rfl) (fun _ _ _ h => h) (Or.inr ⟨by kernel_rfl, rfl⟩) (by assumption) ?_
                refine wpAnyH_take (i := 20) rfl (by as_aux_lemma => kernel_rfl) (by as_aux_lemma => kernel_rfl) (by as_aux_lemma => kernel_rfl) (fun _ _ _ h => h) (Or.inr ⟨by kernel_rfl, rfl⟩) (by assumption) ?_
                refine wpAnyH_take (i := 21) rfl (by as_aux_lemma => kernel_rfl) (by as_aux_lemma => kernel_rfl) (by as_aux_lemma => kernel_rfl) (fun _ _ _ h => h) (Or.inr ⟨by kernel_rfl, rfl⟩) (by assumption) ?_
                refine wpAnyH_take (i := 22) rfl (by as_aux_lemma => kernel_rfl) (by as_aux_lemma => kernel_rfl) (by as_aux_lemma => kernel_rfl) (fun _ _ _ h => h) (Or.inr ⟨by kernel_rfl, rfl⟩) (by assumption) ?_
                refine wpAnyH_take (i := 23) rfl (by as_aux_lemma => kernel_rfl) (by as_aux_lemma => kernel_rfl) (by as_aux_lemma => kernel_rfl) (fun _ _ _ h => h) (Or.inr ⟨by kernel_rfl, rfl⟩) (by assumption) ?_
                refine wpAnyH_take (i := 24) rfl (by as_aux_lemma => kernel_rfl) (by as_aux_lemma => kernel_rfl) (by as_aux_lemma => kernel_rfl) (fun _ _ _ h => h) (Or.inr ⟨by kernel_rfl, rfl⟩) (by assumption) ?_
                refine wpAnyH_take (i := 25) rfl (by as_aux_lemma => kernel_rfl) (by as_aux_lemma => kernel_rfl) (by as_aux_lemma => kernel_rfl) (fun _ _ _ h => h) (Or.inr ⟨by kernel_rfl, rfl⟩) (by assumption) ?_
                refine wpAnyH_take (i := 26) rfl (by as_aux_lemma => kernel_rfl) (by as_aux_lemma => kernel_rfl) (by as_aux_lemma => kernel_rfl) (fun _ _ _ h => h) (Or.inr ⟨by kernel_rfl, rfl⟩) (by assumption) ?_
                refine wpAnyH_take (i := 27) rfl (by as_aux_lemma => kernel_rfl) (by as_aux_lemma => kernel_rfl) (by as_aux_lemma => kernel_rfl) (fun _ _ _ h => h) (Or.inr ⟨by kernel_rfl, rfl⟩) (by assumption) ?_
                refine wpAnyH_take (i := 28) rfl (by as_aux_lemma => kernel_rfl) (by as_aux_lemma => kernel_rfl) (by as_aux_lemma => kernel_rfl) (fun _ _ _ h => h) (Or.inr ⟨by kernel_rfl, rfl⟩) (by assumption) ?_
                refine wpAnyH_take (i := 29) rfl (by as_aux_lemma => kernel_rfl) (by as_aux_lemma => kernel_rfl) (by as_aux_lemma => kernel_rfl) (fun _ _ _ h => h) (Or.inr ⟨by kernel_rfl, rfl⟩) (by assumption) ?_
                refine wpAnyH_take (i := 30) rfl (by as_aux_lemma => kernel_rfl) (by as_aux_lemma => kernel_rfl) (by as_aux_lemma => kernel_rfl) (fun _ _ _ h => h) (Or.inr ⟨by kernel_rfl, rfl⟩) (by assumption) ?_
                refine wpAnyH_take (i := 31) rfl (by as_aux_lemma => kernel_rfl) (by as_aux_lemma => kernel_rfl) (by as_aux_lemma => kernel_rfl) (fun _ _ _ h => h) (Or.inr ⟨by kernel_rfl, rfl⟩) (by assumption) ?_
                refine wpAnyH_take (i := 32) rfl (by as_aux_lemma => kernel_rfl) (by as_aux_lemma => kernel_rfl) (by as_aux_lemma => kernel_rfl) (fun _ _ _ h => h) (Or.inr ⟨by kernel_rfl, rfl⟩) (by assumption) ?_
                refine wpAnyH_take (i := 33) rfl (by as_aux_lemma => kernel_rfl) (by as_aux_lemma => kernel_rfl) (by as_aux_lemma => kernel_rfl) (fun _ _ _ h => h) (Or.inr ⟨by kernel_rfl, rfl⟩) (by assumption) ?_
                refine wpAnyH_take (i := 34) (v := ?_) rfl (by as_aux_lemma => kernel_rfl) (by as_aux_lemma => kernel_rfl) (by as_aux_lemma => kernel_rfl) (fun _ _ _ h => h) (Or.inl ⟨by kernel_rfl, ?_⟩) (by assumption) ?_
                rotate_left
                · intro w hSw; (try dsimp only at hSw); go_simp; try with_reducible rfl
                refine wpAnyH_take (i := 35) (v := ?_) rfl (by as_aux_lemma => kernel_rfl) (by as_aux_lemma => kernel_rfl) (by as_aux_lemma => kernel_rfl) (fun _ _ _ h => h) (Or.inl ⟨by kernel_rfl, ?_⟩) (by assumption) ?_
                rotate_left
                · intro w hSw; (try dsimp only at hSw); go_simp; try with_reducible rfl
                refine wpAnyH_take (i := 36) (v := ?_) rfl (by as_aux_lemma => kernel_rfl) (by as_aux_lemma => kernel_rfl) (by as_aux_lemma => kernel_rfl) (fun _ _ _ h => h) (Or.inl ⟨by kernel_rfl, ?_⟩) (by assumption) ?_
                rotate_left
                · intro w hSw; (try dsimp only at hSw); go_simp; try with_reducible rfl
                refine wpAnyH_take (i := 37) (v := ?_) rfl (by as_aux_lemma => kernel_rfl) (by as_aux_lemma => kernel_rfl) (by as_aux_lemma => kernel_rfl) (fun _ _ _ h => h) (Or.inl ⟨by kernel_rfl, ?_⟩) (by assumption) ?_
                rotate_left
                · intro w hSw; (try dsimp only at hSw); go_simp; try with_reducible rfl
                refine wpAnyH_take (i := 38) (v := ?_) rfl (by as_aux_lemma => kernel_rfl) (by as_aux_lemma => kernel_rfl) (by as_aux_lemma => kernel_rfl) (fun _ _ _ h => h) (Or.inl ⟨by kernel_rfl, ?_⟩) (by assumption) ?_
                rotate_left
                · intro w hSw; (try dsimp only at hSw); go_simp; try with_reducible rfl
                refine wpAnyH_take (i := 39) (v := ?_) rfl (by as_aux_lemma => kernel_rfl) (by as_aux_lemma => kernel_rfl) (by as_aux_lemma => kernel_rfl) (fun _ _ _ h => h) (Or.inl ⟨by kernel_rfl, ?_⟩) (by assumption) ?_
                rotate_left
                · intro w hSw; (try dsimp only at hSw); go_simp; try with_reducible rfl
                refine wpAnyH_take (i := 40) (v := ?_) rfl (by as_aux_lemma => kernel_rfl) (by as_aux_lemma => kernel_rfl) (by as_aux_lemma => kernel_rfl) (fun _ _ _ h => h) (Or.inl ⟨by kernel_rfl, ?_⟩) (by assumption) ?_
                rotate_left
                · intro w hSw; (try dsimp only at hSw); go_simp; try with_reducible rfl
                refine wpAnyH_take (i := 41) (v := ?_) rfl (by as_aux_lemma => kernel_rfl) (by as_aux_lemma => kernel_rfl) (by as_aux_lemma => kernel_rfl) (fun _ _ _ h => h) (Or.inl ⟨by kernel_rfl, ?_⟩) (by assumption) ?_
                rotate_left
                · intro w hSw; (try dsimp only at hSw); go_simp; try with_reducible rfl
                refine wpAnyH_take (i := 42) (v := ?_) rfl (by as_aux_lemma => kernel_rfl) (by as_aux_lemma => kernel_rfl) (by as_aux_lemma => kernel_rfl) (fun _ _ _ h => h) (Or.inl ⟨by kernel_rfl, ?_⟩) (by assumption) ?_
                rotate_left
                · intro w hSw; (try dsimp only at hSw); go_simp; try with_reducible rfl
                refine wpAnyH_take (i := 43) (v := ?_) rfl (by as_aux_lemma => kernel_rfl) (by as_aux_lemma => kernel_rfl) (by as_aux_lemma => kernel_rfl) (fun _ _ _ h => h) (Or.inl ⟨by kernel_rfl, ?_⟩) (by assumption) ?_
                rotate_left
                · intro w hSw; (try dsimp only at hSw); go_simp; try with_reducible rfl
                refine wpAnyH_take (i := 44) (v := ?_) rfl (by as_aux_lemma => kernel_rfl) (by as_aux_lemma => kernel_rfl) (by as_aux_lemma => kernel_rfl) (fun _ _ _ h => h) (Or.inl ⟨by kernel_rfl, ?_⟩) (by assumption) ?_
                rotate_left
                · intro w hSw; (try dsimp only at hSw); go_simp; try with_reducible rfl
                refine wpAnyH_take (i := 45) (v := ?_) rfl (by as_aux_lemma => kernel_rfl) (by as_aux_lemma => kernel_rfl) (by as_aux_lemma => kernel_rfl) (fun _ _ _ h => h) (Or.inl ⟨by kernel_rfl, ?_⟩) (by assumption) ?_
                rotate_left
                · intro w hSw; (try dsimp only at hSw); go_simp; try with_reducible rfl
                refine wpAnyH_take (i := 46) (v := ?_) rfl (by as_aux_lemma => kernel_rfl) (by as_aux_lemma => kernel_rfl) (by as_aux_lemma => kernel_rfl) (fun _ _ _ h => h) (Or.inl ⟨by kernel_rfl, ?_⟩) (by assumption) ?_
                rotate_left
                · intro w hSw; (try dsimp only at hSw); go_simp; try with_reducible rfl
                refine wpAnyH_take (i := 47) (v := ?_) rfl (by as_aux_lemma => kernel_rfl) (by as_aux_lemma => kernel_rfl) (by as_aux_lemma => kernel_rfl) (fun _ _ _ h => h) (Or.inl ⟨by kernel_rfl, ?_⟩) (by assumption) ?_
                rotate_left
                · intro w hSw; (try dsimp only at hSw); go_simp; try with_reducible rfl
                refine wpAnyH_take (i := 48) (v := ?_) rfl (by as_aux_lemma => kernel_rfl) (by as_aux_lemma => kernel_rfl) (by as_aux_lemma => kernel_rfl) (fun _ _ _ h => h) (Or.inl ⟨by kernel_rfl, ?_⟩) (by assumption) ?_
                rotate_left
                · intro w hSw; (try dsimp only at hSw); go_simp; try with_reducible rfl
                refine wpAnyH_take (i := 49) (v := ?_) rfl (by as_aux_lemma => kernel_rfl) (by as_aux_lemma => kernel_rfl) (by as_aux_lemma => kernel_rfl) (fun _ _ _ h => h) (Or.inl ⟨by kernel_rfl, ?_⟩) (by assumption) ?_
                rotate_left
                · intro w hSw; (try dsimp only at hSw); go_simp; try with_reducible rfl
                refine wpAnyH_take (i := 50) (v := ?_) rfl (by as_aux_lemma => kernel_rfl) (by as_aux_lemma => kernel_rfl) (by as_aux_lemma => kernel_rfl) (fun _ _ _ h => h) (Or.inl ⟨by kernel_rfl, ?_⟩) (by assumption) ?_
                rotate_left
                · intro w hSw; (try dsimp only at hSw); go_simp; try with_reducible rfl
                refine wpAnyH_take (i := 51) (v := ?_) rfl (by as_aux_lemma => kernel_rfl) (by as_aux_lemma => kernel_rfl) (by as_aux_lemma => kernel_rfl) (fun _ _ _ h => h) (Or.inl ⟨by kernel_rfl, ?_⟩) (by assumption) ?_
                rotate_left
                · intro w hSw; (try dsimp only at hSw); go_simp; try with_reducible rfl
                refine wpAnyH_take (i := 52) (v := ?_) rfl (by as_aux_lemma => kernel_rfl) (by as_aux_lemma => kernel_rfl) (by as_aux_lemma => kernel_rfl) (fun _ _ _ h => h) (Or.inl ⟨by kernel_rfl, ?_⟩) (by assumption) ?_
                rotate_left
                · intro w hSw; (try dsimp only at hSw); go_simp; try with_reducible rfl
                refine wpAnyH_take (i := 53) (v := ?_) rfl (by as_aux_lemma => kernel_rfl) (by as_aux_lemma => kernel_rfl) (by as_aux_lemma => kernel_rfl) (fun _ _ _ h => h) (Or.inl ⟨by kernel_rfl, ?_⟩) (by assumption) ?_
                rotate_left
                · intro w hSw; (try dsimp only at hSw); go_simp; try with_reducible rfl
                refine wpAnyH_take (i := 54) (v := ?_) rfl (by as_aux_lemma => kernel_rfl) (by as_aux_lemma => kernel_rfl) (by as_aux_lemma => kernel_rfl) (fun _ _ _ h => h) (Or.inl ⟨by kernel_rfl, ?_⟩) (by assumption) ?_
                rotate_left
                · intro w hSw; (try dsimp only at hSw); go_simp; try with_reducible rfl
                refine wpAnyH_take (i := 55) (v := ?_) rfl (by as_aux_lemma => kernel_rfl) (by as_aux_lemma => kernel_rfl) (by as_aux_lemma => kernel_rfl) (fun _ _ _ h => h) (Or.inl ⟨by kernel_rfl, ?_⟩) (by assumption) ?_
                rotate_left
                · intro w hSw; (try dsimp only at hSw); go_simp; try with_reducible rfl
                refine wpAnyH_take (i := 56) (v := ?_) rfl (by as_aux_lemma => kernel_rfl) (by as_aux_lemma => kernel_rfl) (by as_aux_lemma => kernel_rfl) (fun _ _ _ h => h) (Or.inl ⟨by kernel_rfl, ?_⟩) (by assumption) ?_
                rotate_left
                · intro w hSw; (try dsimp only at hSw); go_simp; try with_reducible rfl
                refine wpAnyH_take (i := 57) (v := ?_) rfl (by as_aux_lemma => kernel_rfl) (by as_aux_lemma => kernel_rfl) (by as_aux_lemma => kernel_rfl) (fun _ _ _ h => h) (Or.inl ⟨by kernel_rfl, ?_⟩) (by assumption) ?_
                rotate_left
                · intro w hSw; (try dsimp only at hSw); go_simp; try with_reducible rfl
                refine wpAnyH_take (i := 58) (v := ?_) rfl (by as_aux_lemma => kernel_rfl) (by as_aux_lemma => kernel_rfl) (by as_aux_lemma => kernel_rfl) (fun _ _ _ h => h) (Or.inl ⟨by kernel_rfl, ?_⟩) (by assumption) ?_
                rotate_left
                · intro w hSw; (try dsimp only at hSw); go_simp; try with_reducible rfl
                refine wpAnyH_take (i := 59) (v := ?_) rfl (by as_aux_lemma => kernel_rfl) (by as_aux_lemma => kernel_rfl) (by as_aux_lemma => kernel_rfl) (fun _ _ _ h => h) (Or.inl ⟨by kernel_rfl, ?_⟩) (by assumption) ?_
                rotate_left
                · intro w hSw; (try dsimp only at hSw); go_simp; try with_reducible rfl
                refine wpAnyH_ready (rs := [4, 60]) (by kernel_rfl) (by simp) ?_
                refine AllReadyH.cons rfl (fun K' hK => ?_) (AllReadyH.cons rfl (fun K' hK => ?_) AllReadyH.nil)
                · go_simp
                  refine hK.out _ _ ⟨c1, c2, c3, c4, c5, c6, c7'⟩ (fun hHeld => ?_)
                  clear hK K'
                  refine wpAnyH_ready (rs := [60]) (by kernel_rfl) (by simp) ?_
                  refine AllReadyH.cons rfl (fun K' hK => ?_) AllReadyH.nil
                  go_simp
                  refine hK.out _ _ ⟨a1, a2, a3, a4, a5, a6, a7⟩ (fun hHeld => ?_)
                  clear hK K'
                  refine wpAnyH_ready (rs := [61]) (by kernel_rfl) (by simp) ?_
                  refine AllReadyH.cons rfl (fun K' hK => ?_) AllReadyH.nil
                  refine step_append_any _ rfl (.tmp 132) (.tmp 188) 56 rfl M 4 iB _ 1 1 Try.underlying56 hb0 hbz0 hbz1 hbz2 rfl (by omega) x9 i (blist i t.Fz0) rfl (HW.out.alloc _) (some ⟨wr.heap.size, 0, none⟩) 1 1 [.bool e2] rfl rfl (.inr ⟨_, rfl, World.news_of_block (cs := #[.bool e2]) (t := 4) (fr := (0, 0)) (Go.heap_alloc_new wr _)⟩) (by simp [Value.oneCell']) hmx hby (Nat.le_trans hMs (by simp)) ?_
                  intro g6 k6 w6 hown6 hgrow6
                  have hb6 := grown_below hgrow6 (fun y e => (HW.out.lt y e).1) (Nat.le_trans hMs (by simp))
                  have hX6 := (HAL.out e2).1.below (hb6.mono hMsp)
                  have hO6 := (HAL.out e2).2.trans ((onl_ge hb6).mono (fun k hk => .inr hk))
                  obtain ⟨z1, z2, z3, z4, z5, z6, z7⟩ := HC.out w6 _ hX6 hO6
                  have d9w := cell_blk hX6.cell 9 rfl
                  have f9w := free_blk hX6.cell 9
                  have hX7 := hX6.put 9 (.slice g6 (i + 1) k6) rfl
                  have hO7 := hO6.set (a := ⟨sp, 9, none⟩) (.inl rfl) (.slice g6 (i + 1) k6)
                  obtain ⟨y1, y2, y3, y4, y5, y6, y7⟩ := HC.out _ _ hX7 hO7
                  have HL := Lib.hid (And.intro hX7 (And.intro hO7 (rwOther hown6 hX6.cell (by decide) 9 (.slice g6 (i + 1) k6))))
                  clear hown6 hgrow6 hb6 hX6 hO6 hX7 hO7
                  refine hK.out _ _ ⟨z1, z2, z3, z4, z5, z6, z7⟩ (fun hHeld => ?_)
                  clear hK K'
                  refine wpAnyH_take (i := 62) (v := ?_) rfl (by as_aux_lemma => kernel_rfl) (by as_aux_lemma => kernel_rfl) (by as_aux_lemma => kernel_rfl) (fun _ _ _ h => h) (Or.inl ⟨by kernel_rfl, ?_⟩) (by assumption) ?_
                  rotate_left
                  · intro w hSw; (try dsimp only at hSw); go_simp; try with_reducible rfl
                  refine wpAnyH_take (i := 63) (v := ?_) rfl (by as_aux_lemma => kernel_rfl) (by as_aux_lemma => kernel_rfl) (by as_aux_lemma => kernel_rfl) (fun _ _ _ h => h) (Or.inl ⟨by kernel_rfl, ?_⟩) (by assumption) ?_
                  rotate_left
                  · intro w hSw; (try dsimp only at hSw); go_simp; try with_reducible rfl
                  refine wpAnyH_ready (rs := [64]) (by kernel_rfl) (by simp) ?_
                  refine AllReadyH.cons rfl (fun K' hK => ?_) AllReadyH.nil
                  go_simp
                  refine hK.out _ _ ⟨y1, y2, y3, y4, y5, y6, y7⟩ (fun hHeld => ?_)
                  clear hK K'
                  refine wpAnyH_done (by kernel_rfl) ?_ _
                  refine NoPanic.normal ?_
                  clear c1 c2 c3 c4 c5 c6 c7' z1 z2 z3 z4 z5 z6 z7 y1 y2 y3 y4 y5 y6 y7 d9 d9' d9w f9w
                  go_wp2_with fail
                  go_roundg (gk - 1)
                  case measure => exact HM.out
                  case rel => exact ⟨i + 1, _, by go_num, Lib.hid ⟨HSM.out, HL.out.2.1, HL.out.1⟩, by rw [blist_succ, hF]; exact HL.out.2.2⟩
                · go_simp
                  refine hK.out _ _ ⟨a1, a2, a3, a4, a5, a6, a7⟩ (fun hHeld => ?_)
                  clear hK K'
                  refine wpAnyH_ready (rs := [4]) (by kernel_rfl) (by simp) ?_
                  refine AllReadyH.cons rfl (fun K' hK => ?_) AllReadyH.nil
                  go_simp
                  refine hK.out _ _ ⟨a1, a2, a3, a4, a5, a6, a7⟩ (fun hHeld => ?_)
                  clear hK K'
                  refine wpAnyH_ready (rs := [61]) (by kernel_rfl) (by simp) ?_
                  refine AllReadyH.cons rfl (fun K' hK => ?_) AllReadyH.nil
                  refine step_append_any _ rfl (.tmp 132) (.tmp 188) 56 rfl M 4 iB _ 1 1 Try.underlying56 hb0 hbz0 hbz1 hbz2 rfl (by omega) x9 i (blist i t.Fz0) rfl (HW.out.alloc _) (some ⟨wr.heap.size, 0, none⟩) 1 1 [.bool e2] rfl rfl (.inr ⟨_, rfl, World.news_of_block (cs := #[.bool e2]) (t := 4) (fr := (0, 0)) (Go.heap_alloc_new wr _)⟩) (by simp [Value.oneCell']) hmx hby (Nat.le_trans hMs (by simp)) ?_
                  intro g6 k6 w6 hown6 hgrow6
                  have hb6 := grown_below hgrow6 (fun y e => (HW.out.lt y e).1) (Nat.le_trans hMs (by simp))
                  have hX6 := (HAL.out e2).1.below (hb6.mono hMsp)
                  have hO6 := (HAL.out e2).2.trans ((onl_ge hb6).mono (fun k hk => .inr hk))
                  obtain ⟨z1, z2, z3, z4, z5, z6, z7⟩ := HC.out w6 _ hX6 hO6
                  have d9w := cell_blk hX6.cell 9 rfl
                  have f9w := free_blk hX6.cell 9
                  have hX7 := hX6.put 9 (.slice g6 (i + 1) k6) rfl
                  have hO7 := hO6.set (a := ⟨sp, 9, none⟩) (.inl rfl) (.slice g6 (i + 1) k6)
                  obtain ⟨y1, y2, y3, y4, y5, y6, y7⟩ := HC.out _ _ hX7 hO7
                  have HL := Lib.hid (And.intro hX7 (And.intro hO7 (rwOther hown6 hX6.cell (by decide) 9 (.slice g6 (i + 1) k6))))
                  clear hown6 hgrow6 hb6 hX6 hO6 hX7 hO7
                  refine hK.out _ _ ⟨z1, z2, z3, z4, z5, z6, z7⟩ (fun hHeld => ?_)
                  clear hK K'
                  refine wpAnyH_take (i := 62) (v := ?_) rfl (by as_aux_lemma => kernel_rfl) (by as_aux_lemma => kernel_rfl) (by as_aux_lemma => kernel_rfl) (fun _ _ _ h => h) (Or.inl ⟨by kernel_rfl, ?_⟩) (by assumption) ?_
                  rotate_left
                  · intro w hSw; (try dsimp only at hSw); go_simp; try with_reducible rfl
                  refine wpAnyH_take (i := 63) (v := ?_) rfl (by as_aux_lemma => kernel_rfl) (by as_aux_lemma => kernel_rfl) (by as_aux_lemma => kernel_rfl) (fun _ _ _ h => h) (Or.inl ⟨by kernel_rfl, ?_⟩) (by assumption) ?_
                  rotate_left
                  · intro w hSw; (try dsimp only at hSw); go_simp; try with_reducible rfl
                  refine wpAnyH_ready (rs := [64]) (by kernel_rfl) (by simp) ?_
                  refine AllReadyH.cons rfl (fun K' hK => ?_) AllReadyH.nil
                  go_simp
                  refine hK.out _ _ ⟨y1, y2, y3, y4, y5, y6, y7⟩ (fun hHeld => ?_)
                  clear hK K'
                  refine wpAnyH_done (by kernel_rfl) ?_ _
                  refine NoPanic.normal ?_
                  clear c1 c2 c3 c4 c5 c6 c7' z1 z2 z3 z4 z5 z6 z7 y1 y2 y3 y4 y5 y6 y7 d9 d9' d9w f9w
                  go_wp2_with fail
                  go_roundg (gk - 1)
                  case measure => exact HM.out
                  case rel => exact ⟨i + 1, _, by go_num, Lib.hid ⟨HSM.out, HL.out.2.1, HL.out.1⟩, by rw [blist_succ, hF]; exact HL.out.2.2⟩
          · as_aux_lemma =>
              have hin : i = n := by omega
              have hr := HW.out
              rw [hin] at hr ⊢
              clear hi hsum hin q0 HW
              have hsp : sp < M := by rw [HM4.out]; exact HR4.out.1.ord.2.2.2.2.2.2
              obtain ⟨a9, b9, c9, h91, h92, h93, h94, h95⟩ := blg_of_own hr (wr.heap.size + 1) (by omega) (by rw [HM4.out]; exact HO.out.size)
              subst h91
              obtain ⟨a7, h7⟩ := HB7.out.2.2.2
              subst h7
              have hfc : ov < fc ∧ fc < M := ⟨HR4.out.2.2.2.2.1, by rw [HM4.out]; exact HR4.out.2.2.2.2.2⟩
              have hov := HOV.out
              have hwr : M ≤ wr.heap.size := by rw [HM4.out]; exact HO.out.size
              have hSF : ∃ sz fz, (0 < n → a7 = some ⟨sz, 0, none⟩ ∧ a9 = some ⟨fz, 0, none⟩) ∧ FlG wr sz n t.Sz0 ∧ BlG wr fz n t.Fz0 ∧ sp < sz ∧ sp < fz ∧ fc ≠ sz ∧ fc ≠ fz ∧ ov ≠ sz ∧ ov ≠ fz ∧ sz ≠ fz := by
                rcases Nat.eq_zero_or_pos n with h0 | h0
                · exact ⟨wr.heap.size, wr.heap.size + 1, fun h => by omega, fun h => by omega, fun h => by omega, by omega, by omega, by omega, by omega, by omega, by omega, by omega⟩
                · obtain ⟨e7, l7, n1, n2⟩ := HB7.out.1 h0
                  obtain ⟨e9, l9⟩ := h92 h0
                  injection e7 with e7
                  have q := HB7.out.2.1
                  exact ⟨b7, b9, fun _ => ⟨e7, e9⟩, HO.out.flg HB7.out.2.2.1 (by omega), h95, HB7.out.2.1, by omega, Ne.symm n2, by omega, Ne.symm n1, by omega, by omega⟩
              obtain ⟨sz, fz, pz, hz1, hz2, q1, q2, q3, q4, q5, q6, q7⟩ := hSF
              have HSF := Lib.hid (And.intro pz (And.intro hz1 (And.intro hz2 (And.intro q1 (And.intro q2 (And.intro q3 (And.intro q4 (And.intro q5 (And.intro q6 q7)))))))))
              have HWR := Lib.hid (And.intro HR.out (And.intro (HO.out.flg HR4.out.2.2.2.1 (show ¬ (fc = sp ∨ M ≤ fc) by omega)) ((HO.out.fl HR4.out.2.2.1 (show ¬ (ov = sp ∨ M ≤ ov) by omega)).asG)))
              have HFO : Hid (sp < ov ∧ ov < fc ∧ w.heap.size ≤ sp) := Lib.hid ⟨hov, hfc.1, by have := HR.out.ord; omega⟩
              clear pz hz1 hz2 q1 q2 q3 q4 q5 q6 q7 h92 h93 h94 h95 hr hsp hov hfc hwr HO HR4 HB7 HOW HOV HM4 HR
              have HLF := Lib.hid (left18_calls wr (sp := sp) (bs := bs) (sz := sz) (fz := fz) (n := n) (room := rm) (cb := cb) (cs := c7) (cf := c9) (Sz := t.Sz0) (Bs := t.b) (Fz := t.Fz0) (az := a7) (af := a9) HNB.out (by rw [HRM.out]; exact HT.out.shk.room) (fun i hi => (HT.out.shs 0).Sz i (by show i < t.n; rw [← HN.out.1]; exact hi)) (fun i hi => HT.out.shk.Bs i (by show i < t.n; rw [← HN.out.1]; exact hi)) HWR.out.1.cell HSF.out.1 HSF.out.2.2.1 HSF.out.2.1 HWR.out.1.hb)
              obtain ⟨lf, hlf⟩ : ∃ x, x = leftF rm t.Sz0 t.b t.Fz0 n := ⟨_, rfl⟩
              rw [← hlf] at HLF
              have HLE : Hid (lf = t.shr.first) := Lib.hid (by rw [hlf, HRM.out, HN.out.1]; rfl)
              clear hlf
              have d1 := cell_blk HWR.out.1.cell 1 rfl
              have f1 := free_blk HWR.out.1.cell 1
              go_upto_region 22 with (go_at_call 32; refine HLF.out.mono ?_; rintro e w8 ⟨rfl, rfl⟩)
              have HSH : Hid (ShM (wr.setCell ⟨sp, 1, none⟩ (fl lf)) t.shr sp bs fc lo hi0 sz ov fz cb cf cl ch c7 n c9 a7 a9 ∧ FlG (wr.setCell ⟨sp, 1, none⟩ (fl lf)) sz t.n t.Sz0 ∧ (∃ O, FlG (wr.setCell ⟨sp, 1, none⟩ (fl lf)) ov t.n O) ∧ BlG (wr.setCell ⟨sp, 1, none⟩ (fl lf)) fz t.n t.Fz0 ∧ Below w.heap.size w (wr.setCell ⟨sp, 1, none⟩ (fl lf))) := Lib.hid (by
                have r := HWR.out.1.put 1 (fl lf) rfl
                have o := Onl.set (P := fun k => k = sp) (Onl.refl _ wr) (a := ⟨sp, 1, none⟩) rfl (fl lf)
                obtain ⟨s1, s2, s3, s4, s5, s6, s7, s8, s9, s10⟩ := HSF.out
                obtain ⟨o1, o2, o3, o4, o5, o6, o7⟩ := r.ord
                have g1 := o.flg HWR.out.2.1 (show ¬ fc = sp by have := HFO.out; omega)
                have g2 := o.flg HWR.out.2.2 (show ¬ ov = sp by have := HFO.out; omega)
                have g3 := o.flg s2 (show ¬ sz = sp by omega)
                have g4 := o.blg s3 (show ¬ fz = sp by omega)
                have c := r.cell
                have hb := r.hb
                have hl := r.hl
                have hh := r.hh
                rw [HLE.out, HRM.out, HN.out.1, HG.out] at c
                rw [HN.out.1] at g1 g2 g3 g4 hb hl hh s1
                exact ⟨⟨by rw [HLE.out, HN.out.1]; exact c, by rw [HLE.out] at hb; rw [HLE.out]; exact hb, by rw [HLE.out] at g1; rw [HLE.out]; exact g1, by rw [HLE.out] at hl; rw [HLE.out]; exact hl, by rw [HLE.out] at hh; rw [HLE.out]; exact hh, fun k hk => by
                  have hfo := HFO.out
                  simp only [List.mem_cons, List.not_mem_nil, or_false] at hk
                  rcases hk with e | e | e | e | e <;> (refine ⟨?_, ?_, ?_⟩ <;> omega), ⟨Ne.symm s8, s10, s9⟩, s1⟩, g3, ⟨_, g2⟩, g4, r.low⟩)
              obtain ⟨W5, hW5⟩ : ∃ x, x = (wr.setCell ⟨sp, 1, none⟩ (fl lf)) := ⟨_, rfl⟩
              rw [← hW5] at HSH
              try rw [← hW5]
              have HLOW : Hid (∀ k, (k = sz ∨ k = ov ∨ k = fz) → w.heap.size ≤ k) := Lib.hid (fun k hk => by have h1 := HFO.out; have h2 := HSF.out; omega)
              clear hW5 HWR HLF d1 f1
              go_wp2_with fail
              go_loopg [20] (n + 1) (fun m u wr => ∃ k : Nat, u = .int .i64 (k : Int) ∧ Hid (k + m = n + 1 ∧ ShM wr t.shr sp bs fc lo hi0 sz ov fz cb cf cl ch c7 n c9 a7 a9 ∧ FlG wr sz t.n (t.st k).1 ∧ (∃ O, FlG wr ov t.n O) ∧ BlG wr fz t.n (t.st k).2 ∧ Below w.heap.size w wr))
              case atStart => exact ⟨0, rfl, Lib.hid ⟨by omega, HSH.out⟩⟩
              case round =>
                obtain ⟨k, rfl, hw⟩ := hrel
                have hsum := hw.out.1
                have HV := Lib.hid hw.out.2
                clear hw
                have hn := HNB.out
                have q0 : IntKind.i64.wrap ((k : Int) + 1) = (k : Int) + 1 := IntWalk.i64_in _ (by omega)
                by_cases hk : k ≤ n
                · have HM : Hid (gk - 1 < gk) := Lib.hid (by omega)
                  have HSM : Hid (k + 1 + (gk - 1) = n + 1) := Lib.hid (by omega)
                  have HTN : Hid (Calls Try.prog 33 #[.pointer (some ⟨sp, 0, none⟩)] wr fun e w' => e = .returned (.tuple #[]) ∧ FlG w' sz t.n (t.st (k + 1)).1 ∧ (∃ O', FlG w' ov t.n O') ∧ BlG w' fz t.n (t.st (k + 1)).2 ∧ Onl (fun k => k = sz ∨ k = ov ∨ k = fz) wr w') := Lib.hid (by
                    obtain ⟨v1, v2, ⟨O, v3⟩, v4, v5⟩ := HV.out
                    exact turn18_calls wr HT.out.shk (HT.out.shs k) v1 v2 v3 v4)
                  go_wp2_with (go_at_call 33; refine HTN.out.mono ?_; rintro e w9 ⟨rfl, m1, m2, m3, m4⟩; have H9 := Lib.hid (And.intro m1 (And.intro m2 (And.intro m3 m4))); clear m1 m2 m3 m4)
                  go_roundg (gk - 1)
                  case measure => exact HM.out
                  case rel => exact ⟨k + 1, by go_num, Lib.hid ⟨HSM.out, HV.out.1.onl H9.out.2.2.2, H9.out.1, H9.out.2.1, H9.out.2.2.1, HV.out.2.2.2.2.trans (H9.out.2.2.2.low HV.out.2.2.2.2.size HLOW.out)⟩⟩
                · have hke : k = n + 1 := by omega
                  have d7 := cell_blk HV.out.1.cell 7 rfl
                  have hsn : t.shr.n = n := HN.out.1.symm
                  rw [hsn] at d7
                  have HD : Hid (FlG wr sz n t.sizes) := Lib.hid (by
                    have h := HV.out.2.1
                    rw [HN.out.1]
                    exact h.congr (fun j hj => HT.out.done (by
                      rcases HT.out.within k with hh | hh
                      · rw [← HN.out.1] at hh; omega
                      · exact hh) j hj))
                  have HLO := HLOW.out sz (.inl rfl)
                  have HEND := Lib.hid (And.intro HLO (And.intro HSF.out.1 HV.out.2.2.2.2))
                  clear hke HLO hsn
                  go_wp2_with fail
                  go_ret2
                  exact ⟨a7, sz, c7, rfl, fun h => (HEND.out.2.1 h).1, HEND.out.1, HD.out, HEND.out.2.2⟩
end Go.Proofs.Ytohmmkkbfiembaa
