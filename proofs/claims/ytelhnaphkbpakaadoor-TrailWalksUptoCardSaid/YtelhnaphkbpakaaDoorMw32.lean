/- A node made in a slot that was never used; a text node. The program's forest and the document's, beside one another. -/
import Derived.Test.YtelhnaphkbpakaaDoorMw31
namespace Go.Proofs.YtelhnaphkbpakaaDoor
open Go.RowKit
set_option linter.unusedVariables false
set_option maxRecDepth 100000

theorem text_nd {w : World} {b : Nat} {u : Nat} (hu : u ≤ 65535) (hb : w.heap[b]? = some (.cells #[.int .u16 (u : Int)] 128 (0, 0))) : NdIn w ⟨3, ⟨#[]⟩, some ⟨b, 0, none⟩, 1, [u], none, 0, [], 0, 0⟩ := by
  refine ⟨⟨fun i x hx => ?_, by simp⟩, SlA.nil _ _, (by decide : (⟨#[]⟩ : ByteArray).size ≤ 9223372036854775807), by simp⟩
  have h0 : i = 0 := by
    have := (List.getElem?_eq_some_iff.1 hx).1
    simp at this; exact this
  subst h0
  simp at hx
  subst hx
  exact ⟨hu, b, 0, rfl, lt_of_some hb, cell_blk hb 0 rfl⟩
theorem text_check (u : Nat) (b dc : Nat) (o : Option Addr) : checkD (⟨3, ⟨#[]⟩, o, dc, [u], none, 0, [], 0, 0⟩ : Nd).kind (⟨3, ⟨#[]⟩, o, dc, [u], none, 0, [], 0, 0⟩ : Nd).name (⟨3, ⟨#[]⟩, o, dc, [u], none, 0, [], 0, 0⟩ : Nd).data.length ((⟨3, ⟨#[]⟩, o, dc, [u], none, 0, [], 0, 0⟩ : Nd).L.map LA.name) = 0 := by
  show checkD 3 ⟨#[]⟩ 1 [] = 0
  have h1 : fitsD 3 ⟨#[]⟩ 1 0 = true := by simp [fitsD, noName]
  have h2 : goodA [] = true := rfl
  unfold checkD
  rw [h2]
  simp [h1]
theorem text_bd (u : Nat) (dc : Nat) (o : Option Addr) : (⟨3, ⟨#[]⟩, o, dc, [u], none, 0, [], 0, 0⟩ : Nd).Bd 1099511627776 := ⟨by simp, by simp, by simp⟩

section
variable {B : Nat} {Q : Nat → Prop} {w w' : World} {tb : Nat} {X : TX}
/-- A tree of which no node was ever dropped. -/
structure Grown (S n : Nat) (X : TX) (F : For) : Prop where
  f : X.F = F
  free : X.T.free = []
  len : X.T.all.length = n
  S : X.T.S = S
  cnt : X.T.count = n
  ret : X.T.ret = 0
theorem make_grow (h : TreeAt B Q w tb X) (N : Nd) (hN : NdIn w N) (hB : N.Bd 1099511627776) (hck : checkD N.kind N.name N.data.length (N.L.map LA.name) = 0) {S n : Nat} {F : For} (hg : Grown S n X F) (hn : n < S) (hbig : F.length < 1099511627776) :
    Calls Tryd.prog 37 #[.pointer (some ⟨tb, 0, none⟩), N.v] w fun e w' => ∃ (Q' : Nat → Prop) (X' : TX), e = .returned (.tuple #[.agg #[.int .u32 ((n + 1 : Nat) : Int), .int .u32 1], .int .i64 0]) ∧
      TreeAt B Q' w' tb X' ∧ Grown S (n + 1) X' (Made F (n + 1) 1) ∧ (∀ k, Q' k → Q k ∨ w.heap.size ≤ k ∧ k < w'.heap.size) ∧ FrG [145, 150, 29, 112, 31] Q w w' := by
  have ha : ∀ x, X.T.alloc x = ({ X.T with all := X.T.all ++ [(1, true, x)], count := X.T.count + 1 }, X.T.all.length + 1, 1, 0) := fun x => by
    have hl : X.T.all.length < X.T.S := by rw [hg.len, hg.S]; exact hn
    unfold TA.alloc
    rw [hg.free]
    simp [hl, hg.free]
  refine (make_calls h N hN hB hck (.inr (by rw [hg.len, hg.S]; exact hn)) (by rw [hg.f]; exact hbig)).mono ?_
  rintro e w' ⟨s, g, nb, P, hv, fv, rfl, hs, he, ht, hf⟩
  rw [ha] at he
  simp only [Prod.mk.injEq] at he
  obtain ⟨rfl, rfl, _⟩ := he
  rw [hg.len] at ht ⊢
  refine ⟨_, _, rfl, ht, ⟨?_, ?_, ?_, ?_, ?_, ?_⟩, fun k hk => hk, hf⟩
  · show Made X.F _ _ = _; rw [hg.f]
  · show (X.T.alloc _).1.free = []; rw [ha]; exact hg.free
  · show (X.T.alloc _).1.all.length = _; rw [ha]; simp [hg.len]
  · show (X.T.alloc _).1.S = _; rw [ha]; exact hg.S
  · show (X.T.alloc _).1.count = _; rw [ha]; show X.T.count + 1 = _; rw [hg.cnt]
  · show (X.T.alloc _).1.ret = _; rw [ha]; exact hg.ret
end

theorem make_text {B : Nat} {Q : Nat → Prop} {w : World} {tb : Nat} {X : TX} (h : TreeAt B Q w tb X) {b u : Nat} (hu : u ≤ 65535) (hb : w.heap[b]? = some (.cells #[.int .u16 (u : Int)] 128 (0, 0))) {S n : Nat} {F : For} (hg : Grown S n X F) (hn : n < S) (hbig : F.length < 1099511627776) (hq : ∀ k, Q k → B ≤ k ∧ k < w.heap.size) (r : Int) (hr : r = ((n + 1 : Nat) : Int)) :
    Calls Tryd.prog 37 #[.pointer (some ⟨tb, 0, none⟩), .agg #[.int .i64 3, .string ⟨#[]⟩, .slice (some ⟨b, 0, none⟩) 1 1, .slice none 0 0, .int .u32 0, .int .u32 0]] w fun e w' => ∃ (Q' : Nat → Prop) (X' : TX), e = .returned (.tuple #[.agg #[.int .u32 r, .int .u32 1], .int .i64 0]) ∧
      TreeAt B Q' w' tb X' ∧ Grown S (n + 1) X' (Made F (n + 1) 1) ∧ (∀ k, Q' k → B ≤ k ∧ k < w'.heap.size) ∧ (∀ k, k < w.heap.size → ¬ Q k → ¬ Q' k) ∧ FrG [145, 150, 29, 112, 31] Q w w' ∧ Below B w w' := by
  have hBw : B ≤ w.heap.size := Nat.le_trans h.rw.own.2 (Nat.le_of_lt (lt_of_some h.rw.blk))
  refine (make_grow h _ (text_nd hu hb) (text_bd u 1 _) (text_check u b 1 _) hg hn hbig).mono ?_
  rintro e w' ⟨Q', X', he, ht, hg', hq', hf⟩
  refine ⟨Q', X', by rw [hr]; exact he, ht, hg', fun k hk => ?_, fun k h1 h2 h3 => ?_, hf, hf.below hBw (fun k hk q => by have := (hq k q).1; omega)⟩
  · rcases hq' k hk with h1 | h1
    · exact ⟨(hq k h1).1, Nat.lt_of_lt_of_le (hq k h1).2 hf.size⟩
    · exact ⟨Nat.le_trans hBw h1.1, h1.2⟩
  · rcases hq' k h3 with h4 | h4
    · exact h2 h4
    · omega
end Go.Proofs.YtelhnaphkbpakaaDoor

namespace Go.Proofs.YtelhnaphkbpakaaDoor
open Go.RowKit
set_option linter.unusedVariables false
set_option maxRecDepth 100000

/-- A tree stands behind a step of the reference's. -/
theorem TreeAt.refStep {B : Nat} {Q Q' : Nat → Prop} {w w' : World} {tb : Nat} {X : TX} {T : List TypeId} (h : TreeAt B Q w tb X) (f : FrG T Q' w w') (hT : ∀ e ∈ T, e = 61 ∨ e = 69) : TreeAt B Q w' tb X := by
  have n : ∀ e, e ≠ 61 → e ≠ 69 → e ∉ T := fun e h1 h2 hm => (hT e hm).elim h1 h2
  have h0 := h.rw
  refine ⟨h.fok, h0.lenM, h0.few, h0.big, ?_, h0.own, f.blk h0.blk (n _ (by decide) (by decide)), ⟨?_, h0.had.2⟩, ⟨?_, h0.fre.2⟩, h0.slot, h0.used, ?_, h0.nbd, fun p hp => Nat.lt_of_lt_of_le (h0.nbl p hp) f.size⟩
  · obtain ⟨Qa, h1, h2, h3⟩ := h0.ar
    exact ⟨Qa, h1.kept f (n _ (by decide) (by decide)) (n _ (by decide) (by decide)) (n _ (by decide) (by decide)), fun k hk => ⟨(h2 k hk).1, Nat.lt_of_lt_of_le (h2 k hk).2 f.size⟩, h3⟩
  · obtain ⟨hc, h1⟩ := h0.had.1; exact ⟨hc, f.row h1 (n _ (by decide) (by decide))⟩
  · obtain ⟨hc, h1⟩ := h0.fre.1; exact ⟨hc, f.row h1 (n _ (by decide) (by decide))⟩
  · intro k x nb P h1 h2 h3
    obtain ⟨a1, a2, a3, a4⟩ := h0.node k x nb P h1 h2 h3
    exact ⟨a1, a2, f.blk a3 (n _ (by decide) (by decide)), a4.frg f (n _ (by decide) (by decide)) (n _ (by decide) (by decide))⟩
theorem TreeAt.mono {B : Nat} {Q Q' : Nat → Prop} {w : World} {tb : Nat} {X : TX} (h : TreeAt B Q w tb X) (hQ : ∀ k, Q k → Q' k) : TreeAt B Q' w tb X := ⟨h.fok, h.rw.mono hQ⟩

/-- A node that can be made: of few things, and as Check lets it. -/
def GoodN (N : Nd) : Prop := N.Bd 1099511627776 ∧ checkD N.kind N.name N.data.length (N.L.map LA.name) = 0
/-- Both forests, of one shape, in memory; all that they own lies in Q. -/
structure Both (B : Nat) (Q : Nat → Prop) (w : World) (tb fb : Nat) (X : TX) (R : List RN) (rv : Value) : Prop where
  t : TreeAt B Q w tb X
  f : FoAt B Q w fb X.F R rv
  q : ∀ k, Q k → B ≤ k ∧ k < w.heap.size
  S : X.T.S = 1000
  few : X.F.length ≤ 200
  same : ∀ (k : Nat) nb P r, X.M[k]? = some (nb, P) → R[k]? = some r → P.Same r.2.1 ∧ GoodN r.2.1

section
variable {B : Nat} {Q : Nat → Prop} {w w' : World} {tb fb : Nat} {X : TX} {R : List RN} {rv : Value}
theorem Both.base (h : Both B Q w tb fb X R rv) : B ≤ w.heap.size := by
  have := h.f.own
  have := lt_of_some h.f.blk
  omega
/-- Nothing was done but in new memory. -/
theorem Both.below (h : Both B Q w tb fb X R rv) (b : Below w.heap.size w w') : Both B Q w' tb fb X R rv :=
  ⟨h.t.below b, h.f.below b, fun k hk => ⟨(h.q k hk).1, Nat.lt_of_lt_of_le (h.q k hk).2 b.size⟩, h.S, h.few, h.same⟩
theorem FrG.lowQ {T : List TypeId} (f : FrG T Q w w') (h : ∀ k, Q k → B ≤ k ∧ k < w.heap.size) (hB : B ≤ w.heap.size) : Below B w w' := f.below hB (fun k hk hq => by have := (h k hq).1; omega)
theorem TA.drop_S {α : Type} (T : TA α) (z : α) (s g : Nat) : (T.drop z s g).1.S = T.S := by
  unfold TA.drop
  repeat (first | rfl | split)
theorem TA.alloc_S {α : Type} (T : TA α) (x : α) : (T.alloc x).1.S = T.S := by
  unfold TA.alloc
  repeat (first | rfl | split)
end
end Go.Proofs.YtelhnaphkbpakaaDoor

