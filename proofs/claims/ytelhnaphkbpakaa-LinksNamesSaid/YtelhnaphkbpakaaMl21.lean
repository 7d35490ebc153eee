/- A node made in a slot that was never used; a text node. The chapter's examples on links: alive is true. LinksNames walked. -/
import Derived.Test.YtelhnaphkbpakaaMl20
namespace Go.Proofs.Ytelhnaphkbpakaa
open Go.RowKit
set_option linter.unusedVariables false
set_option maxRecDepth 100000

theorem text_nd {w : World} {b : Nat} {u : Nat} (hu : u ≤ 65535) (hb : w.heap[b]? = some (.cells #[.int .u16 (u : Int)] 45 (0, 0))) : NdIn w ⟨3, ⟨#[]⟩, some ⟨b, 0, none⟩, 1, [u], none, 0, [], 0, 0⟩ := by
  refine ⟨⟨fun i x hx => ?_, by simp⟩, SlA.nil _ _, (by decide : (⟨#[]⟩ : ByteArray).size ≤ 9223372036854775807), by simp⟩
  have h0 : i = 0 := by
    have := (List.getElem?_eq_some_iff.1 hx).1
    simp at this; exact this
  subst h0
  simp at hx
  subst hx
  exact ⟨hu, b, 0, rfl, lt_of_some hb, cell_blk hb 0 rfl⟩
theorem text_check (u : Nat) (b dc : Nat) (o : Option Addr) : checkD (⟨3, ⟨#[]⟩, o, dc, [u], none, 0, [], 0, 0⟩ : Nd).kind (⟨3, ⟨#[]⟩, o, dc, [u], none, 0, [], 0, 0⟩ : Nd).name (⟨3, ⟨#[]⟩, o, dc, [u], none, 0, [], 0, 0⟩ : Nd).data.length ((⟨3, ⟨#[]⟩, o, dc, [u], none, 0, [], 0, 0⟩ : Nd).L.map LA.name) = 0 := by
  show checkD 3 ⟨#[]⟩ 1 [] = 0
  have h1 : fitsD 3 ⟨#[]⟩ 1 0 = true := by simp [fitsD, noName]
  have h2 : goodA [] = true := rfl
  unfold checkD
  rw [h2]
  simp [h1]
theorem text_bd (u : Nat) (dc : Nat) (o : Option Addr) : (⟨3, ⟨#[]⟩, o, dc, [u], none, 0, [], 0, 0⟩ : Nd).Bd 1099511627776 := ⟨by simp, by simp, by simp⟩

section
variable {B : Nat} {Q : Nat → Prop} {w w' : World} {tb : Nat} {X : TX}
/-- A tree of which no node was ever dropped. -/
structure Grown (S n : Nat) (X : TX) (F : For) : Prop where
  f : X.F = F
  free : X.T.free = []
  len : X.T.all.length = n
  S : X.T.S = S
  cnt : X.T.count = n
  ret : X.T.ret = 0
theorem make_grow (h : TreeAt B Q w tb X) (N : Nd) (hN : NdIn w N) (hB : N.Bd 1099511627776) (hck : checkD N.kind N.name N.data.length (N.L.map LA.name) = 0) {S n : Nat} {F : For} (hg : Grown S n X F) (hn : n < S) (hbig : F.length < 1099511627776) :
    Calls Try.prog 39 #[.pointer (some ⟨tb, 0, none⟩), N.v] w fun e w' => ∃ (Q' : Nat → Prop) (X' : TX), e = .returned (.tuple #[.agg #[.int .u32 ((n + 1 : Nat) : Int), .int .u32 1], .int .i64 0]) ∧
      TreeAt B Q' w' tb X' ∧ Grown S (n + 1) X' (Made F (n + 1) 1) ∧ (∀ k, Q' k → Q k ∨ w.heap.size ≤ k ∧ k < w'.heap.size) ∧ FrG [141, 143, 26, 112, 28] Q w w' := by
  have ha : ∀ x, X.T.alloc x = ({ X.T with all := X.T.all ++ [(1, true, x)], count := X.T.count + 1 }, X.T.all.length + 1, 1, 0) := fun x => by
    have hl : X.T.all.length < X.T.S := by rw [hg.len, hg.S]; exact hn
    unfold TA.alloc
    rw [hg.free]
    simp [hl, hg.free]
  refine (make_calls h N hN hB hck (.inr (by rw [hg.len, hg.S]; exact hn)) (by rw [hg.f]; exact hbig)).mono ?_
  rintro e w' ⟨s, g, nb, P, hv, fv, rfl, hs, he, ht, hf⟩
  rw [ha] at he
  simp only [Prod.mk.injEq] at he
  obtain ⟨rfl, rfl, _⟩ := he
  rw [hg.len] at ht ⊢
  refine ⟨_, _, rfl, ht, ⟨?_, ?_, ?_, ?_, ?_, ?_⟩, fun k hk => hk, hf⟩
  · show Made X.F _ _ = _; rw [hg.f]
  · show (X.T.alloc _).1.free = []; rw [ha]; exact hg.free
  · show (X.T.alloc _).1.all.length = _; rw [ha]; simp [hg.len]
  · show (X.T.alloc _).1.S = _; rw [ha]; exact hg.S
  · show (X.T.alloc _).1.count = _; rw [ha]; show X.T.count + 1 = _; rw [hg.cnt]
  · show (X.T.alloc _).1.ret = _; rw [ha]; exact hg.ret
end

theorem text7_calls (w : World) (a : Option Addr) (n c : Nat) :
    Calls Try.prog 40 #[.slice a n c] w fun e w' => e = .returned (.agg #[.int .i64 3, .string ⟨#[]⟩, .slice a n c, .slice none 0 0, .int .u32 0, .int .u32 0]) ∧ Below w.heap.size w w' := by
  go_enter Try.func40, Try.ntmps40
  go_wp2_with fail
  exact bodyPost_ret (v := .agg #[.int .i64 3, .string ⟨#[]⟩, .slice a n c, .slice none 0 0, .int .u32 0, .int .u32 0]) (by simp [results, Try.results40, go_sem]) rfl ⟨rfl, (by repeat (first | exact Below.refl _ _ | assumption | refine Below.drew ?_ | refine below_drewN ?_ _ | refine Below.alloc ?_ (by simp <;> omega) _ | refine Below.setCell ?_ (by simp <;> omega) _ | (apply bl_trans; assumption; (simp <;> omega))))⟩
theorem make_text {B : Nat} {Q : Nat → Prop} {w : World} {tb : Nat} {X : TX} (h : TreeAt B Q w tb X) {b u : Nat} (hu : u ≤ 65535) (hb : w.heap[b]? = some (.cells #[.int .u16 (u : Int)] 45 (0, 0))) {S n : Nat} {F : For} (hg : Grown S n X F) (hn : n < S) (hbig : F.length < 1099511627776) (hq : ∀ k, Q k → B ≤ k ∧ k < w.heap.size) (r : Int) (hr : r = ((n + 1 : Nat) : Int)) :
    Calls Try.prog 39 #[.pointer (some ⟨tb, 0, none⟩), .agg #[.int .i64 3, .string ⟨#[]⟩, .slice (some ⟨b, 0, none⟩) 1 1, .slice none 0 0, .int .u32 0, .int .u32 0]] w fun e w' => ∃ (Q' : Nat → Prop) (X' : TX), e = .returned (.tuple #[.agg #[.int .u32 r, .int .u32 1], .int .i64 0]) ∧
      TreeAt B Q' w' tb X' ∧ Grown S (n + 1) X' (Made F (n + 1) 1) ∧ (∀ k, Q' k → B ≤ k ∧ k < w'.heap.size) ∧ (∀ k, k < w.heap.size → ¬ Q k → ¬ Q' k) ∧ FrG [141, 143, 26, 112, 28] Q w w' ∧ Below B w w' := by
  have hBw : B ≤ w.heap.size := Nat.le_trans h.rw.own.2 (Nat.le_of_lt (lt_of_some h.rw.blk))
  refine (make_grow h _ (text_nd hu hb) (text_bd u 1 _) (text_check u b 1 _) hg hn hbig).mono ?_
  rintro e w' ⟨Q', X', he, ht, hg', hq', hf⟩
  refine ⟨Q', X', by rw [hr]; exact he, ht, hg', fun k hk => ?_, fun k h1 h2 h3 => ?_, hf, hf.below hBw (fun k hk q => by have := (hq k q).1; omega)⟩
  · rcases hq' k hk with h1 | h1
    · exact ⟨(hq k h1).1, Nat.lt_of_lt_of_le (hq k h1).2 hf.size⟩
    · exact ⟨Nat.le_trans hBw h1.1, h1.2⟩
  · rcases hq' k h3 with h4 | h4
    · exact h2 h4
    · omega
end Go.Proofs.Ytelhnaphkbpakaa

namespace Go.Proofs.Ytelhnaphkbpakaa
open Go.RowKit
set_option linter.unusedVariables false
set_option maxRecDepth 100000

set_option maxHeartbeats 8000000 in
theorem alive7_true (w : World) : Calls Try.prog 10 #[] w fun e w' => e = .returned (.bool true) ∧ Below w.heap.size w w' := by
  have HN := Lib.hid (newT_calls 4 2 w.heap.size w (Nat.le_refl _) (by decide) (by decide) (by decide) (by decide))
  go_enter Try.func10, Try.ntmps10
  go_wp2_with fail
  refine HN.out.mono ?_
  rintro e w1 ⟨tb, ab, rfl, ht, b1⟩
  have HT1 := Lib.hid ht
  have HB1 := Lib.hid b1
  clear HN ht b1
  go_wp2_with fail
  obtain ⟨V1, hV1⟩ : ∃ U, U = w1.alloc (.cells #[.int .u16 1] 45) := ⟨_, rfl⟩
  rw [← hV1]
  have HA1 : Hid (V1.heap[w1.heap.size]? = some (.cells #[.int .u16 1] 45 (0, 0)) ∧ Below w1.heap.size w1 V1) := Lib.hid (by rw [hV1]; exact ⟨Go.heap_alloc_new w1 _, (Below.refl _ _).alloc (Nat.le_refl _) _⟩)
  clear hV1
  refine (text7_calls V1 _ _ _).mono ?_
  rintro e w2 ⟨rfl, b2⟩
  have HA2 : Hid (w2.heap[w1.heap.size]? = some (.cells #[.int .u16 1] 45 (0, 0)) ∧ Below w1.heap.size w1 w2) := Lib.hid ⟨(b2.block _ (lt_of_some HA1.out.1)).trans HA1.out.1, HA1.out.2.trans (b2.mono HA1.out.2.size)⟩
  clear b2 HA1
  go_wp2_with fail
  refine (make_text (HT1.out.below HA2.out.2) (u := 1) (by decide) HA2.out.1 (S := 4) (n := 0) (F := []) ⟨rfl, rfl, rfl, rfl, rfl, rfl⟩ (by decide) (by decide) (fun k hk => ⟨hk.1, Nat.lt_of_lt_of_le hk.2 HA2.out.2.size⟩) 1 rfl).mono ?_
  rintro e w3 ⟨Q3, X3, rfl, t3, g3, q3, _, _, b3⟩
  have HL3 : Hid (Below w.heap.size w w3) := Lib.hid ((HB1.out.trans (HA2.out.2.mono HB1.out.size)).trans b3)
  have HT3 := Lib.hid (And.intro t3 (And.intro g3 q3))
  clear t3 g3 q3 b3 HT1 HA2 HB1
  go_wp2_with fail
  obtain ⟨ca, hca⟩ : ∃ c, c = w3.heap.size := ⟨_, rfl⟩
  obtain ⟨V3, hV3⟩ : ∃ U, U = (w3.alloc (.cells #[.int .u32 1, .int .u32 1] 28)).alloc (.cells #[.int .u16 2] 45) := ⟨_, rfl⟩
  rw [← hV3]
  have HA3 : Hid (V3.heap[ca]? = some (.cells #[.int .u32 1, .int .u32 1] 28 (0, 0)) ∧ V3.heap[ca + 1]? = some (.cells #[.int .u16 2] 45 (0, 0)) ∧ Below w3.heap.size w3 V3) := Lib.hid (by
    rw [hV3, hca]; exact ⟨alloc_blk (Go.heap_alloc_new w3 _) _, alloc2_blk w3 _ _, ((Below.refl _ _).alloc (Nat.le_refl _) _).alloc (by simp) _⟩)
  have HC3 : Hid (¬ Q3 ca ∧ w.heap.size ≤ w3.heap.size) := Lib.hid ⟨fun q => by have := (HT3.out.2.2 ca q).2; omega, HL3.out.size⟩
  rw [← hca]
  clear hV3 hca
  refine (text7_calls V3 _ _ _).mono ?_
  rintro e w4 ⟨rfl, b4⟩
  have HA4 : Hid (w4.heap[ca]? = some (.cells #[.int .u32 1, .int .u32 1] 28 (0, 0)) ∧ w4.heap[ca + 1]? = some (.cells #[.int .u16 2] 45 (0, 0)) ∧ Below w3.heap.size w3 w4) := Lib.hid ⟨(b4.block _ (lt_of_some HA3.out.1)).trans HA3.out.1, (b4.block _ (lt_of_some HA3.out.2.1)).trans HA3.out.2.1, HA3.out.2.2.trans (b4.mono HA3.out.2.2.size)⟩
  clear b4 HA3
  go_wp2_with fail
  refine (make_text (HT3.out.1.below HA4.out.2.2) (u := 2) (by decide) HA4.out.2.1 (S := 4) (n := 1) HT3.out.2.1 (by decide) (by decide) (fun k hk => ⟨(HT3.out.2.2 k hk).1, Nat.lt_of_lt_of_le (HT3.out.2.2 k hk).2 HA4.out.2.2.size⟩) 2 rfl).mono ?_
  rintro e w5 ⟨Q5, X5, rfl, t5, g5, q5, n5, f5, b5⟩
  have HL5 : Hid (Below w.heap.size w w5) := Lib.hid ((HL3.out.trans (HA4.out.2.2.mono HL3.out.size)).trans b5)
  have HT5 := Lib.hid (And.intro t5 (And.intro g5 q5))
  have HC5 : Hid (w5.heap[ca]? = some (.cells #[.int .u32 1, .int .u32 1] 28 (0, 0)) ∧ ¬ Q5 ca) := Lib.hid ⟨f5.blkQ HA4.out.1 HC3.out.1, n5 ca (lt_of_some HA4.out.1) HC3.out.1⟩
  clear t5 g5 q5 n5 f5 b5 HT3 HA4 HL3 HC3
  go_wp2_with fail
  obtain ⟨cb, hcb⟩ : ∃ c, c = w5.heap.size := ⟨_, rfl⟩
  obtain ⟨V5, hV5⟩ : ∃ U, U = (w5.alloc (.cells #[.int .u32 2, .int .u32 1] 28)).alloc (.cells #[.int .u16 3] 45) := ⟨_, rfl⟩
  rw [← hV5]
  have HA5 : Hid (V5.heap[ca]? = some (.cells #[.int .u32 1, .int .u32 1] 28 (0, 0)) ∧ V5.heap[cb]? = some (.cells #[.int .u32 2, .int .u32 1] 28 (0, 0)) ∧ V5.heap[cb + 1]? = some (.cells #[.int .u16 3] 45 (0, 0)) ∧ Below w5.heap.size w5 V5) := Lib.hid (by
    rw [hV5, hcb]; exact ⟨alloc_blk (alloc_blk HC5.out.1 _) _, alloc_blk (Go.heap_alloc_new w5 _) _, alloc2_blk w5 _ _, ((Below.refl _ _).alloc (Nat.le_refl _) _).alloc (by simp) _⟩)
  have HC6 : Hid (¬ Q5 ca ∧ ¬ Q5 cb) := Lib.hid ⟨HC5.out.2, fun q => by have := (HT5.out.2.2 cb q).2; omega⟩
  rw [← hcb]
  clear hV5 hcb HC5
  refine (text7_calls V5 _ _ _).mono ?_
  rintro e w6 ⟨rfl, b6⟩
  have HA6 : Hid (w6.heap[ca]? = some (.cells #[.int .u32 1, .int .u32 1] 28 (0, 0)) ∧ w6.heap[cb]? = some (.cells #[.int .u32 2, .int .u32 1] 28 (0, 0)) ∧ w6.heap[cb + 1]? = some (.cells #[.int .u16 3] 45 (0, 0)) ∧ Below w5.heap.size w5 w6) := Lib.hid ⟨(b6.block _ (lt_of_some HA5.out.1)).trans HA5.out.1, (b6.block _ (lt_of_some HA5.out.2.1)).trans HA5.out.2.1, (b6.block _ (lt_of_some HA5.out.2.2.1)).trans HA5.out.2.2.1, HA5.out.2.2.2.trans (b6.mono HA5.out.2.2.2.size)⟩
  clear b6 HA5
  go_wp2_with fail
  refine (make_text (HT5.out.1.below HA6.out.2.2.2) (u := 3) (by decide) HA6.out.2.2.1 (S := 4) (n := 2) HT5.out.2.1 (by decide) (by decide) (fun k hk => ⟨(HT5.out.2.2 k hk).1, Nat.lt_of_lt_of_le (HT5.out.2.2 k hk).2 HA6.out.2.2.2.size⟩) 3 rfl).mono ?_
  rintro e w7 ⟨Q7, X7, rfl, t7, g7, q7, n7, f7, b7⟩
  have HL7 : Hid (Below w.heap.size w w7) := Lib.hid ((HL5.out.trans (HA6.out.2.2.2.mono HL5.out.size)).trans b7)
  have HT7 := Lib.hid (And.intro t7 (And.intro g7 q7))
  have HC7 : Hid (w7.heap[ca]? = some (.cells #[.int .u32 1, .int .u32 1] 28 (0, 0)) ∧ w7.heap[cb]? = some (.cells #[.int .u32 2, .int .u32 1] 28 (0, 0))) := Lib.hid ⟨f7.blkQ HA6.out.1 HC6.out.1, f7.blkQ HA6.out.2.1 HC6.out.2⟩
  clear t7 g7 q7 n7 f7 b7 HT5 HA6 HL5 HC6
  have a0 : w7.cell? ⟨ca, 0, none⟩ = some (.int .u32 1) := cell_blk HC7.out.1 0 rfl
  have a1 : w7.cell? ⟨ca, 1, none⟩ = some (.int .u32 1) := cell_blk HC7.out.1 1 rfl
  have b0 : w7.cell? ⟨cb, 0, none⟩ = some (.int .u32 2) := cell_blk HC7.out.2 0 rfl
  have b1 : w7.cell? ⟨cb, 1, none⟩ = some (.int .u32 1) := cell_blk HC7.out.2 1 rfl
  have la := lt_of_some HC7.out.1
  have lb := lt_of_some HC7.out.2
  go_wp2_with fail
  obtain ⟨cc, hcc⟩ : ∃ c, c = w7.heap.size := ⟨_, rfl⟩
  obtain ⟨V7, hV7⟩ : ∃ U, U = w7.alloc (.cells #[.int .u32 3, .int .u32 1] 28) := ⟨_, rfl⟩
  rw [← hV7]
  have HA7 : Hid (V7.heap[ca]? = some (.cells #[.int .u32 1, .int .u32 1] 28 (0, 0)) ∧ V7.heap[cb]? = some (.cells #[.int .u32 2, .int .u32 1] 28 (0, 0)) ∧ V7.heap[cc]? = some (.cells #[.int .u32 3, .int .u32 1] 28 (0, 0)) ∧ Below w7.heap.size w7 V7) := Lib.hid (by
    rw [hV7, hcc]; exact ⟨alloc_blk HC7.out.1 _, alloc_blk HC7.out.2 _, Go.heap_alloc_new w7 _, (Below.refl _ _).alloc (Nat.le_refl _) _⟩)
  rw [← hcc]
  clear hV7 hcc HC7 a0 a1 b0 b1 la lb
  have HT8 : Hid (TreeAt w.heap.size Q7 V7 tb X7) := Lib.hid (HT7.out.1.below HA7.out.2.2.2)
  have HL8 : Hid (Below w.heap.size w V7) := Lib.hid (HL7.out.trans (HA7.out.2.2.2.mono HL7.out.size))
  have HQ : Hid (∀ k, k < w.heap.size → ¬ Q7 k) := Lib.hid (fun k hk q => by have := (HT7.out.2.2 k q).1; omega)
  have HF7 : Hid (X7.F = [⟨1, 1, none, [], true⟩, ⟨2, 1, none, [], true⟩, ⟨3, 1, none, [], true⟩]) := Lib.hid HT7.out.2.1.f
  have HG7 : Hid (X7.T.count = 3 ∧ X7.T.S = 4 ∧ X7.T.ret = 0) := Lib.hid ⟨HT7.out.2.1.cnt, HT7.out.2.1.S, HT7.out.2.1.ret⟩
  clear HT7 HL7
  have HLINK1 : Hid (Calls Try.prog 41 #[.pointer (some ⟨tb, 0, none⟩), .agg #[.int .u32 1, .int .u32 1], .agg #[.int .u32 2, .int .u32 1], .agg #[.int .u32 0, .int .u32 0]] V7 fun e w' =>
      e = .returned (.int .i64 0) ∧ TreeAt w.heap.size Q7 w' tb { X7 with F := hng X7.F 1 0 0 } ∧ FrG [116] Q7 V7 w') := Lib.hid (
    link_ok HT8.out (u := 0) (i := 1) (xu := ⟨1, 1, none, [], true⟩) (xi := ⟨2, 1, none, [], true⟩) (by rw [HF7.out]; rfl) rfl (by rw [HF7.out]; rfl) rfl rfl (c := [0]) (.root (x := ⟨1, 1, none, [], true⟩) (by rw [HF7.out]; rfl) rfl) (by decide) (l1 := []) (l2 := []) rfl (bs := 0) (bg := 0) rfl)
  refine HLINK1.out.mono ?_
  rintro e w8 ⟨rfl, t8, f8⟩
  obtain ⟨X9, hX9⟩ : ∃ Y : TX, Y = { X7 with F := hng X7.F 1 0 0 } := ⟨_, rfl⟩
  rw [← hX9] at t8
  have HT9 := Lib.hid t8
  have HF8 : Hid (X9.F = [⟨1, 1, none, [1], true⟩, ⟨2, 1, some 0, [], true⟩, ⟨3, 1, none, [], true⟩]) := Lib.hid (by rw [hX9]; show hng X7.F 1 0 0 = _; rw [HF7.out]; rfl)
  have HG9 : Hid (X9.T.count = 3 ∧ X9.T.S = 4 ∧ X9.T.ret = 0) := Lib.hid (by rw [hX9]; exact HG7.out)
  clear hX9 HG7
  have HL9 : Hid (Below w.heap.size w w8) := Lib.hid (HL8.out.trans (f8.below HL8.out.size HQ.out))
  have HA8 : Hid (w8.heap[ca]? = some (.cells #[.int .u32 1, .int .u32 1] 28 (0, 0)) ∧ w8.heap[cb]? = some (.cells #[.int .u32 2, .int .u32 1] 28 (0, 0)) ∧ w8.heap[cc]? = some (.cells #[.int .u32 3, .int .u32 1] 28 (0, 0))) := Lib.hid ⟨f8.blk HA7.out.1 (by decide), f8.blk HA7.out.2.1 (by decide), f8.blk HA7.out.2.2.1 (by decide)⟩
  clear t8 f8 HT8 HL8 HA7 HLINK1 HF7
  have a0 : w8.cell? ⟨ca, 0, none⟩ = some (.int .u32 1) := cell_blk HA8.out.1 0 rfl
  have a1 : w8.cell? ⟨ca, 1, none⟩ = some (.int .u32 1) := cell_blk HA8.out.1 1 rfl
  have b0 : w8.cell? ⟨cb, 0, none⟩ = some (.int .u32 2) := cell_blk HA8.out.2.1 0 rfl
  have b1 : w8.cell? ⟨cb, 1, none⟩ = some (.int .u32 1) := cell_blk HA8.out.2.1 1 rfl
  have c0 : w8.cell? ⟨cc, 0, none⟩ = some (.int .u32 3) := cell_blk HA8.out.2.2 0 rfl
  have c1 : w8.cell? ⟨cc, 1, none⟩ = some (.int .u32 1) := cell_blk HA8.out.2.2 1 rfl
  go_wp2_with fail
  have HLINK2 : Hid (Calls Try.prog 41 #[.pointer (some ⟨tb, 0, none⟩), .agg #[.int .u32 1, .int .u32 1], .agg #[.int .u32 3, .int .u32 1], .agg #[.int .u32 2, .int .u32 1]] w8 fun e w' =>
      e = .returned (.int .i64 0) ∧ TreeAt w.heap.size Q7 w' tb { X9 with F := hng X9.F 2 0 0 } ∧ FrG [116] Q7 w8 w') := Lib.hid (
    link_ok HT9.out (u := 0) (i := 2) (xu := ⟨1, 1, none, [1], true⟩) (xi := ⟨3, 1, none, [], true⟩) (by rw [HF8.out]; rfl) rfl (by rw [HF8.out]; rfl) rfl rfl (c := [0]) (.root (x := ⟨1, 1, none, [1], true⟩) (by rw [HF8.out]; rfl) rfl) (by decide) (l1 := []) (l2 := [1]) rfl (bs := 2) (bg := 1) (by rw [HF8.out]; rfl))
  refine HLINK2.out.mono ?_
  rintro e w9 ⟨rfl, t9, f9⟩
  obtain ⟨Xa, hXa⟩ : ∃ Y : TX, Y = { X9 with F := hng X9.F 2 0 0 } := ⟨_, rfl⟩
  rw [← hXa] at t9
  have HTa := Lib.hid t9
  have HFa : Hid (Xa.F = [⟨1, 1, none, [2, 1], true⟩, ⟨2, 1, some 0, [], true⟩, ⟨3, 1, some 0, [], true⟩]) := Lib.hid (by rw [hXa]; show hng X9.F 2 0 0 = _; rw [HF8.out]; rfl)
  have HGa : Hid (Xa.T.count = 3 ∧ Xa.T.S = 4 ∧ Xa.T.ret = 0) := Lib.hid (by rw [hXa]; exact HG9.out)
  clear hXa HG9
  have HLa : Hid (Below w.heap.size w w9) := Lib.hid (HL9.out.trans (f9.below HL9.out.size HQ.out))
  have HAa : Hid (w9.heap[ca]? = some (.cells #[.int .u32 1, .int .u32 1] 28 (0, 0)) ∧ w9.heap[cb]? = some (.cells #[.int .u32 2, .int .u32 1] 28 (0, 0)) ∧ w9.heap[cc]? = some (.cells #[.int .u32 3, .int .u32 1] 28 (0, 0))) := Lib.hid ⟨f9.blk HA8.out.1 (by decide), f9.blk HA8.out.2.1 (by decide), f9.blk HA8.out.2.2 (by decide)⟩
  clear t9 f9 HT9 HL9 HA8 HLINK2 HF8 a0 a1 b0 b1 c0 c1
  have a0 : w9.cell? ⟨ca, 0, none⟩ = some (.int .u32 1) := cell_blk HAa.out.1 0 rfl
  have a1 : w9.cell? ⟨ca, 1, none⟩ = some (.int .u32 1) := cell_blk HAa.out.1 1 rfl
  have b0 : w9.cell? ⟨cb, 0, none⟩ = some (.int .u32 2) := cell_blk HAa.out.2.1 0 rfl
  have b1 : w9.cell? ⟨cb, 1, none⟩ = some (.int .u32 1) := cell_blk HAa.out.2.1 1 rfl
  have c0 : w9.cell? ⟨cc, 0, none⟩ = some (.int .u32 3) := cell_blk HAa.out.2.2 0 rfl
  have c1 : w9.cell? ⟨cc, 1, none⟩ = some (.int .u32 1) := cell_blk HAa.out.2.2 1 rfl
  go_wp2_with fail
  have HRING : Hid (Calls Try.prog 41 #[.pointer (some ⟨tb, 0, none⟩), .agg #[.int .u32 2, .int .u32 1], .agg #[.int .u32 1, .int .u32 1], .agg #[.int .u32 0, .int .u32 0]] w9 fun e w' => e = .returned (.int .i64 72) ∧ Below w9.heap.size w9 w') := Lib.hid (
    link_ring HTa.out (u := 1) (i := 0) (xu := ⟨2, 1, some 0, [], true⟩) (xi := ⟨1, 1, none, [2, 1], true⟩) (by rw [HFa.out]; rfl) rfl (by rw [HFa.out]; rfl) rfl (c := [1, 0]) (.up (x := ⟨2, 1, some 0, [], true⟩) (by rw [HFa.out]; rfl) rfl (.root (x := ⟨1, 1, none, [2, 1], true⟩) (by rw [HFa.out]; rfl) rfl)) (by decide))
  refine HRING.out.mono ?_
  rintro e w10 ⟨rfl, b10⟩
  have HTb : Hid (∀ W, Below w9.heap.size w9 W → TreeAt w.heap.size Q7 W tb Xa ∧ Below w.heap.size w W ∧ W.heap[ca]? = some (.cells #[.int .u32 1, .int .u32 1] 28 (0, 0)) ∧ W.heap[cb]? = some (.cells #[.int .u32 2, .int .u32 1] 28 (0, 0)) ∧ W.heap[cc]? = some (.cells #[.int .u32 3, .int .u32 1] 28 (0, 0))) := Lib.hid (fun W bb =>
    ⟨HTa.out.below bb, HLa.out.trans (bb.mono HLa.out.size), (bb.block _ (lt_of_some HAa.out.1)).trans HAa.out.1, (bb.block _ (lt_of_some HAa.out.2.1)).trans HAa.out.2.1, (bb.block _ (lt_of_some HAa.out.2.2)).trans HAa.out.2.2⟩)
  have HB10 := Lib.hid b10
  clear HTa HLa HAa HRING b10 a0 a1 b0 b1 c0 c1
  have a0 : w10.cell? ⟨ca, 0, none⟩ = some (.int .u32 1) := cell_blk (HTb.out _ HB10.out).2.2.1 0 rfl
  have a1 : w10.cell? ⟨ca, 1, none⟩ = some (.int .u32 1) := cell_blk (HTb.out _ HB10.out).2.2.1 1 rfl
  have b0 : w10.cell? ⟨cb, 0, none⟩ = some (.int .u32 2) := cell_blk (HTb.out _ HB10.out).2.2.2.1 0 rfl
  have b1 : w10.cell? ⟨cb, 1, none⟩ = some (.int .u32 1) := cell_blk (HTb.out _ HB10.out).2.2.2.1 1 rfl
  have c0 : w10.cell? ⟨cc, 0, none⟩ = some (.int .u32 3) := cell_blk (HTb.out _ HB10.out).2.2.2.2 0 rfl
  have c1 : w10.cell? ⟨cc, 1, none⟩ = some (.int .u32 1) := cell_blk (HTb.out _ HB10.out).2.2.2.2 1 rfl
  go_wp2_with fail
  have HIX : Hid (∀ W, Below w9.heap.size w9 W → Calls Try.prog 42 #[.pointer (some ⟨tb, 0, none⟩), .agg #[.int .u32 2, .int .u32 1]] W fun e w' => e = .returned (.tuple #[.int .i64 1, .int .i64 0]) ∧ Below W.heap.size W w') := Lib.hid (fun W bb => by
    have := index_live (HTb.out W bb).1 (k := 1) (x := ⟨2, 1, some 0, [], true⟩) (by rw [HFa.out]; rfl) rfl
    rw [show idxF Xa.F 1 = 1 by rw [HFa.out]; rfl] at this
    exact this)
  refine (HIX.out _ HB10.out).mono ?_
  rintro e w11 ⟨rfl, b11⟩
  have HB11 := Lib.hid (HB10.out.trans (b11.mono HB10.out.size))
  clear b11 HB10 a0 a1 b0 b1 c0 c1
  have a0 : w11.cell? ⟨ca, 0, none⟩ = some (.int .u32 1) := cell_blk (HTb.out _ HB11.out).2.2.1 0 rfl
  have a1 : w11.cell? ⟨ca, 1, none⟩ = some (.int .u32 1) := cell_blk (HTb.out _ HB11.out).2.2.1 1 rfl
  have b0 : w11.cell? ⟨cb, 0, none⟩ = some (.int .u32 2) := cell_blk (HTb.out _ HB11.out).2.2.2.1 0 rfl
  have b1 : w11.cell? ⟨cb, 1, none⟩ = some (.int .u32 1) := cell_blk (HTb.out _ HB11.out).2.2.2.1 1 rfl
  have c0 : w11.cell? ⟨cc, 0, none⟩ = some (.int .u32 3) := cell_blk (HTb.out _ HB11.out).2.2.2.2 0 rfl
  have c1 : w11.cell? ⟨cc, 1, none⟩ = some (.int .u32 1) := cell_blk (HTb.out _ HB11.out).2.2.2.2 1 rfl
  go_wp2_with fail
  have HFI : Hid (∀ W, Below w9.heap.size w9 W → Calls Try.prog 43 #[.pointer (some ⟨tb, 0, none⟩), .agg #[.int .u32 1, .int .u32 1]] W fun e w' => e = .returned (.tuple #[.agg #[.int .u32 3, .int .u32 1], .int .i64 0]) ∧ Below W.heap.size W w') := Lib.hid (fun W bb => by
    have := first_live (HTb.out W bb).1.rw (k := 0) (x := ⟨1, 1, none, [2, 1], true⟩) (by rw [HFa.out]; rfl) rfl
    rw [show toH Xa.F 0 1 = (3, 1) by rw [HFa.out]; rfl] at this
    exact this)
  refine (HFI.out _ HB11.out).mono ?_
  rintro e w12 ⟨rfl, b12⟩
  have HB12 := Lib.hid (HB11.out.trans (b12.mono HB11.out.size))
  clear b12 HB11 a0 a1 b0 b1 c0 c1
  have a0 : w12.cell? ⟨ca, 0, none⟩ = some (.int .u32 1) := cell_blk (HTb.out _ HB12.out).2.2.1 0 rfl
  have a1 : w12.cell? ⟨ca, 1, none⟩ = some (.int .u32 1) := cell_blk (HTb.out _ HB12.out).2.2.1 1 rfl
  have b0 : w12.cell? ⟨cb, 0, none⟩ = some (.int .u32 2) := cell_blk (HTb.out _ HB12.out).2.2.2.1 0 rfl
  have b1 : w12.cell? ⟨cb, 1, none⟩ = some (.int .u32 1) := cell_blk (HTb.out _ HB12.out).2.2.2.1 1 rfl
  have c0 : w12.cell? ⟨cc, 0, none⟩ = some (.int .u32 3) := cell_blk (HTb.out _ HB12.out).2.2.2.2 0 rfl
  have c1 : w12.cell? ⟨cc, 1, none⟩ = some (.int .u32 1) := cell_blk (HTb.out _ HB12.out).2.2.2.2 1 rfl
  have lc := lt_of_some (HTb.out _ HB12.out).2.2.2.2
  have q1 : hEq 3 1 3 1 = true := hEq_true rfl rfl
  have HCT : Hid (∀ W, Below w9.heap.size w9 W → Calls Try.prog 44 #[.pointer (some ⟨tb, 0, none⟩)] W fun e w' => e = .returned (.int .i64 3) ∧ Below W.heap.size W w') := Lib.hid (fun W bb => by
    have := countT_calls (HTb.out W bb).1.rw
    rw [HGa.out.1] at this
    exact this)
  have HLT : Hid (∀ W, Below w9.heap.size w9 W → Calls Try.prog 45 #[.pointer (some ⟨tb, 0, none⟩)] W fun e w' => e = .returned (.int .i64 1) ∧ Below W.heap.size W w') := Lib.hid (fun W bb => by
    have := leftT_calls (HTb.out W bb).1.rw
    rw [HGa.out.1, HGa.out.2.1, HGa.out.2.2] at this
    exact this)
  go_wp2_with fail
  have HB13 : Hid (Below w9.heap.size w9 (w12.alloc (.cells #[.int .u32 3, .int .u32 1] 28))) := Lib.hid (HB12.out.alloc HB12.out.size _)
  refine (HCT.out _ HB13.out).mono ?_
  rintro e w13 ⟨rfl, b13⟩
  have HB14 := Lib.hid (HB13.out.trans (b13.mono HB13.out.size))
  clear b13
  go_wp2_with fail
  refine (HLT.out _ HB14.out).mono ?_
  rintro e w14 ⟨rfl, b14⟩
  have HB15 := Lib.hid (HB14.out.trans (b14.mono HB14.out.size))
  clear b14
  go_wp2_with fail
  go_ret
  exact ⟨rfl, (HTb.out _ HB15.out).2.1⟩
end Go.Proofs.Ytelhnaphkbpakaa

namespace Go.Proofs.Ytelhnaphkbpakaa
open Go.RowKit
set_option linter.unusedVariables false
set_option maxRecDepth 100000
set_option maxHeartbeats 1000000 in
theorem linksNames_walk (w : World) : Calls Try.prog 3 #[] w fun e w' => e = .returned (.bool true) ∧ Below w.heap.size w w' := by
  go_enter Try.func3, Try.ntmps3
  go_wp2_with (go_at_call 10; refine (alive7_true w).mono ?_; rintro e w1 ⟨rfl, b1⟩)
  go_ret
  exact ⟨rfl, b1⟩
end Go.Proofs.Ytelhnaphkbpakaa

