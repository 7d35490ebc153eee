/- Part 46 of the proof of TpP: lemmas. -/
import Derived.Test.YtelhnaphkbpakaaDoorMp45
namespace Go.Proofs.YtelhnaphkbpakaaDoor
open Go.RowKit
set_option linter.unusedVariables false
set_option maxRecDepth 100000
section
variable {B : Nat} {Q : Nat → Prop} {w w' : World} {tb fb : Nat} {X : TX} {R : List RN} {rv : Value}
theorem moved_calls (h : Both B Q w tb fb X R rv) {x : MkV} (hx : MkB x) (hn : 0 < X.F.length) :
    Calls Tryd.prog 39 #[.pointer (some ⟨tb, 0, none⟩), .pointer (some ⟨fb, 0, none⟩), x.v] w fun e w' => e = .returned (.bool true) ∧ MvPost B w x.m tb fb X rv w' := by
  obtain ⟨ia, hia⟩ : ∃ i, i = pick8 x.m.a X.F.length := ⟨_, rfl⟩
  obtain ⟨ib, hib⟩ : ∃ i, i = pick8 x.m.b X.F.length := ⟨_, rfl⟩
  obtain ⟨xa, ha⟩ : ∃ y, X.F[ia]? = some y := ⟨_, List.getElem?_eq_getElem (by rw [hia]; exact pick8_lt _ hn)⟩
  obtain ⟨xb, hb⟩ : ∃ y, X.F[ib]? = some y := ⟨_, List.getElem?_eq_getElem (by rw [hib]; exact pick8_lt _ hn)⟩
  cases hl : xa.live with
  | false => exact moved_da h hx hia hib ha hb hl
  | true =>
  cases hl2 : xb.live with
  | false => exact moved_db h hx hia hib ha hb hl hl2
  | true =>
  by_cases h6 : x.m.kind = 6
  · obtain ⟨c, hc⟩ := h.t.fok.acyc ib xb hb
    obtain ⟨cb, rfl⟩ := hc.ne_nil
    by_cases hq : ia = ib
    · exact moved_6e h hx hia hib ha hb hl hl2 h6 hc hq
    · by_cases hm : ia ∈ cb
      · exact moved_6i h hx hia hib ha hb hl hl2 h6 hc hq hm
      · cases hu : xa.up with
        | some u => exact moved_6u h hx hia hib ha hb hl hl2 h6 hc hq hm hu
        | none =>
          rcases Nat.eq_zero_or_pos (pick8 x.m.back (xb.down.length + 1)) with hz | hp
          · exact moved_6h0 h hx hia hib ha hb hl hl2 h6 hc hq hm hu hz
          · exact moved_6h1 h hx hia hib ha hb hl hl2 h6 hc hq hm hu hp
  · by_cases h7 : x.m.kind = 7
    · cases hu : xa.up with
      | none => exact moved_7n h hx hia hib ha hb hl hl2 h7 hu
      | some u => exact moved_7c h hx hia hib ha hb hl hl2 h7 hu
    · by_cases h8 : x.m.kind = 8
      · cases hu : xa.up with
        | some u => exact moved_8u h hx hia hib ha hb hl hl2 h8 hu
        | none =>
          by_cases hd : xa.down = []
          · exact moved_8k h hx hia hib ha hb hl hl2 h8 hu hd
          · exact moved_8d h hx hia hib ha hb hl hl2 h8 hu hd
      · exact moved_no h hx hia hib ha hb hl hl2 h6 h7 h8
end
def MkV.cells (x : MkV) : List Value := [.int .i64 x.m.kind, .int .i64 x.m.a, .int .i64 x.m.b, .int .i64 x.m.back, .string x.nm, .slice x.ua x.un.length x.uc]
structure MksIn (w : World) (a : Option Addr) (L : List MkV) : Prop where
  at_ : ∀ i x, L[i]? = some x → ∃ b off, a = some ⟨b, off, none⟩ ∧ ∀ j v, x.cells[j]? = some v → w.cell? ⟨b, off + i * 6 + j, none⟩ = some v
  ok : ∀ x ∈ L, MkB x ∧ Sl16 w x.ua x.un ∧ x.un.length ≤ x.uc ∧ x.uc ≤ 9223372036854775807 ∧ x.un.length ≤ 1099511627776
theorem Sl16.keep {w W : World} {a : Option Addr} {us : List Nat} (h : Sl16 w a us) (hk : ∀ (k : Nat) (o : Obj), w.heap[k]? = some o → W.heap[k]? = some o) : Sl16 W a us :=
  ⟨fun i u hu => by
    obtain ⟨h1, b, off, h2, h3, h4⟩ := h.at_ i u hu
    have e : w.heap[b]? = some w.heap[b] := Array.getElem?_eq_getElem h3
    have e2 := hk b _ e
    refine ⟨h1, b, off, h2, lt_of_some e2, ?_⟩
    simp only [World.cell?] at h4 ⊢
    rw [e] at h4
    rw [e2]
    exact h4, h.len⟩
section
variable {B : Nat} {Q : Nat → Prop} {w w' : World} {tb fb : Nat} {X : TX} {R : List RN} {rv : Value}
theorem Both.mkIn (h : Both B Q w' tb fb X R rv) (b : Below B w w') (hB : w.heap.size ≤ B) {x : MkV} (hx : MkB x ∧ Sl16 w x.ua x.un ∧ x.un.length ≤ x.uc ∧ x.uc ≤ 9223372036854775807 ∧ x.un.length ≤ 1099511627776) : MkIn Q w' x :=
  ⟨fun W hW => hx.2.1.keep (fun k o hk => hW k o (fun hq => by have := (h.q k hq).1; have := lt_of_some hk; omega) ((b.block k (by have := lt_of_some hk; omega)).trans hk)), ⟨hx.2.2.1, hx.2.2.2.1⟩, hx.1.nm, hx.2.2.2.2, hx.1.a, hx.1.b, hx.1.back⟩
theorem Both.made (h : Both B Q w tb fb X R rv) {w1 w2 w3 : World} {N P : Nd} {s g nb : Nat} {hv fv rv' : Value} {T : List TypeId}
    (ht : TreeAt B (fun k => Q k ∨ w.heap.size ≤ k ∧ k < w1.heap.size) w1 tb ⟨Made X.F s g, X.M ++ [(nb, P)], (X.T.alloc (some ⟨nb, 0, none⟩)).1, X.ab, hv, fv⟩) (f1 : FrG T Q w w1) (b : Below w1.heap.size w1 w2)
    (hf : FoAt B (fun k => (Q k ∨ w.heap.size ≤ k ∧ k < w1.heap.size) ∨ w2.heap.size ≤ k ∧ k < w3.heap.size) w3 fb (Made X.F s g) (R ++ [(⟨s, g, none, [], true⟩, N, .slice none 0 0)]) rv') (f3 : FrG [61, 69] (fun k => Q k ∨ w.heap.size ≤ k ∧ k < w1.heap.size) w2 w3) (hs : P.Same N ∧ GoodN N) (hlt : X.F.length < 200) :
    Both B (fun k => (Q k ∨ w.heap.size ≤ k ∧ k < w1.heap.size) ∨ w2.heap.size ≤ k ∧ k < w3.heap.size) w3 tb fb ⟨Made X.F s g, X.M ++ [(nb, P)], (X.T.alloc (some ⟨nb, 0, none⟩)).1, X.ab, hv, fv⟩ (R ++ [(⟨s, g, none, [], true⟩, N, .slice none 0 0)]) rv' ∧ Below B w w3 := by
  have hb := h.base
  have s1 := f1.size
  have s2 := b.size
  have s3 := f3.size
  refine ⟨⟨((ht.below b).refStep f3 (fun e he => by simpa using he)).mono (fun k hk => .inl hk), hf, fun k hk => ?_, ?_, ?_, fun k nb' P' r hm hr => ?_⟩, ?_⟩
  · rcases hk with (hk | hk) | hk
    · exact ⟨(h.q k hk).1, by have := (h.q k hk).2; omega⟩
    · omega
    · omega
  · exact (TA.alloc_S _ _).trans h.S
  · show (Made X.F s g).length ≤ 200
    simp [Made]; omega
  · have hl1 := h.t.rw.lenM
    have hl2 := h.f.len
    by_cases hk : k < X.M.length
    · have hm : (X.M ++ [(nb, P)])[k]? = some (nb', P') := hm
      rw [List.getElem?_append_left hk] at hm
      rw [List.getElem?_append_left (by omega)] at hr
      exact h.same k nb' P' r hm hr
    · have hm : (X.M ++ [(nb, P)])[k]? = some (nb', P') := hm
      have hkl := (List.getElem?_eq_some_iff.1 hm).1
      simp at hkl
      have e : k = X.M.length := by omega
      subst e
      rw [List.getElem?_append_right (Nat.le_refl _), Nat.sub_self] at hm
      rw [List.getElem?_append_right (by omega), show X.M.length - R.length = 0 by omega] at hr
      cases hm
      cases hr
      exact hs
  · exact ((f1.below hb (fun k hk hq => by have := (h.q k hq).1; omega)).trans (b.mono (by omega))).trans (f3.below (by omega) (fun k hk hq => by
      rcases hq with hq | hq
      · have := (h.q k hq).1; omega
      · omega))
theorem Both.start {w w1 : World} {tb ab : Nat} (ht : TreeAt w.heap.size (fun k => w.heap.size ≤ k ∧ k < w1.heap.size) w1 tb ⟨[], [], TA.new 1000 3, ab, .slice none 0 0, .slice none 0 0⟩) (b : Below w.heap.size w w1) :
    Both w.heap.size (fun k => w.heap.size ≤ k ∧ k < w1.heap.size + 1) (w1.alloc (.cells #[.slice none 0 0] 61)) tb w1.heap.size ⟨[], [], TA.new 1000 3, ab, .slice none 0 0, .slice none 0 0⟩ [] (.slice none 0 0) := by
  have hs := b.size
  have b1 : Below w1.heap.size w1 (w1.alloc (.cells #[.slice none 0 0] 61)) := (Below.refl _ _).alloc (Nat.le_refl _) _
  refine ⟨(ht.below b1).mono (fun k hk => ⟨hk.1, by omega⟩), ⟨rfl, by simp, ⟨⟨hs, by omega⟩, hs⟩, Go.heap_alloc_new w1 _, World.ownsRow_nil _ _ _ _, fun k hk => (by cases hk), fun r hr => (by cases hr), fun r hr => (by cases hr)⟩, fun k hk => ⟨hk.1, by simpa using hk.2⟩, rfl, by simp, fun k nb P r hm => (by simp at hm)⟩
end
end Go.Proofs.YtelhnaphkbpakaaDoor
