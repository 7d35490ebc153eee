/- From: its closure: a code point's units are put behind those that are there. -/
import Derived.Test.YtlmbpbijhhnhpaaWd12
import Derived.Test.YtlmbpbijhhnhpaaWd3
import Derived.Test.YtlmbpbijhhnhpaaRw
namespace Go.Proofs.Ytlmbpbijhhnhpaa
open Go.RowKit Go.Shelf
set_option linter.unusedVariables false
set_option maxRecDepth 100000

/-- A code point's units. -/
def unitsOf (c : Nat) : List Nat := if 65535 < c then [55296 + (c - 65536) / 1024, 56320 + (c - 65536) % 1024] else [c]
def fromPc (l : List Pc) : List Nat := l.flatMap fun x => unitsOf x.c

/-- A box, and the units in the row that it holds. -/
structure Box16 (B bx : Nat) (us : List Nat) (w0 w : World) : Prop where
  row : ∃ a cap, w.heap[bx]? = some (.cells #[.slice a us.length cap] 73 (0, 0)) ∧ w.ownsRow B 79 1 (.slice a us.length cap) us.length (enc16 us)
  bnd : ∀ u ∈ us, u ≤ 65535
  bel : Below B w0 w
  le : B ≤ w.heap.size
  bx : B ≤ bx

theorem wraps_i32 (n : Int) (h0 : 0 ≤ n) (h1 : n < 2 ^ 31) : IntKind.i32.wrap n = n := IntWalk.i32_in _ (by simp at h1; omega)
theorem i32_and1023 {x : Int} (h₀ : 0 ≤ x) (h₁ : x < 2147483648) : bits .and .i32 x 1023 = x % 1024 := bits_mask .i32 31 (by decide) wraps_i32 10 (by decide) x h₀ h₁

theorem Box16.push {B bx : Nat} {us vs : List Nat} {w0 w w3 : World} {a : Option Addr} {n cap g c3 m : Nat} {o : Obj} {news : List Value} (h : Box16 B bx us w0 w) (hbx : w.heap[bx]? = some (.cells #[.slice a n cap] 73 (0, 0))) (hrow : w.ownsRow B 79 1 (.slice a n cap) n (enc16 us)) (hn : n = us.length)
    (hown : w3.ownsRow B 79 1 (.slice (some ⟨g, 0, none⟩) (n + m) c3) (n + m) (enc16 us ++ news)) (hgrow : (w.alloc o).grownBy w3 (Value.slice a n cap).ownBlock) (hnews : news = enc16 vs) (hb : ∀ u ∈ vs, u ≤ 65535) (hm : m = vs.length) :
    Box16 B bx (us ++ vs) w0 (w3.setCell ⟨bx, 0, none⟩ (.slice (some ⟨g, 0, none⟩) (n + m) c3)) ∧ KeepsWalks w (w3.setCell ⟨bx, 0, none⟩ (.slice (some ⟨g, 0, none⟩) (n + m) c3)) := by
  subst hn hnews hm
  have hb3 := rwApp hrow hgrow hbx (by decide)
  have f : FrT [79] B w w3 := ((FrT.refl _ _ _).alloc o).append (hrow.alloc o) (Nat.le_refl _) (by simp) hgrow
  have f2 : FrT [79, 73] B w (w3.setCell ⟨bx, 0, none⟩ (.slice (some ⟨g, 0, none⟩) (us.length + vs.length) c3)) := (f.mono (by simp) (Nat.le_refl _)).set h.bx hb3 (by simp) _
  have e : (us ++ vs).length = us.length + vs.length := by simp
  refine ⟨⟨⟨_, _, by rw [e]; exact set_blk hb3 0 _, ?_⟩, ?_, h.bel.trans (f2.below h.le), Nat.le_trans h.le f2.size, h.bx⟩, ?_⟩
  · rw [e, show enc16 (us ++ vs) = enc16 us ++ enc16 vs by simp [enc16]]
    exact rwOther hown hb3 (by decide) 0 _
  · intro u hu
    rcases List.mem_append.1 hu with hu | hu
    · exact h.bnd u hu
    · exact hb u hu
  · refine ((KeepsWalks.alloc w o).trans (KeepsWalks.of_grownBy hgrow ?_)).trans (KeepsWalks.setCell _ _ _)
    intro j x hj hx
    rcases (hrow.alloc o).2 with ⟨hv, _⟩ | ⟨g', cap', cur, hv, _, hg, _⟩
    · rw [hv] at hj; cases hj
    · rw [hv] at hj; cases hj; rw [hg] at hx; cases hx; rfl

set_option maxHeartbeats 2000000 in
theorem from_yield {B bx : Nat} {us : List Nat} {w0 w : World} (h : Box16 B bx us w0 w) (at_ n : Int) (c : Nat) (bad : Bool) (hc : c ≤ 1114111) (hl : us.length ≤ 35184372088832) :
    Calls Try.prog 70 #[.int .i64 at_, .int .i64 n, .int .i32 (c : Int), .bool bad, .pointer (some ⟨bx, 0, none⟩)] w fun e w' => e = .returned (.bool true) ∧ Box16 B bx (us ++ unitsOf c) w0 w' ∧ KeepsWalks w w' := by
  have H := Lib.hid h
  obtain ⟨a, cap, hbx, hrow⟩ := h.row
  have c0 := cell_blk hbx 0 rfl
  have f0 := free_blk hbx 0
  have hle := h.le
  have hbxl := lt_of_some hbx
  have HBX := Lib.hid hbx
  have HROW := Lib.hid hrow
  simp at c0
  obtain ⟨n, hn⟩ : ∃ n, n = us.length := ⟨_, rfl⟩
  rw [← hn] at c0 hl HBX HROW
  have HN := Lib.hid hn
  obtain ⟨i79, hi79, ha1, ha2, ha3⟩ := info_parts info79
  clear h hbx hrow hn
  by_cases h1 : 65535 < c
  · have p1 : (65535 : Int) < (c : Int) := by omega
    have hb1 : bits .and .i32 ((c : Int) - 65536) 1023 = ((c : Int) - 65536) % 1024 := i32_and1023 (by omega) (by omega)
    have e1 : Value.int .u16 (55296 + ((c : Int) - 65536) / 1024) = .int .u16 ((55296 + (c - 65536) / 1024 : Nat) : Int) := by congr 1; omega
    have e2 : Value.int .u16 (56320 + ((c : Int) - 65536) % 1024) = .int .u16 ((56320 + (c - 65536) % 1024 : Nat) : Int) := by congr 1; omega
    have E := Lib.hid (And.intro e1 e2)
    have HU := Lib.hid (show unitsOf c = [55296 + (c - 65536) / 1024, 56320 + (c - 65536) % 1024] by unfold unitsOf; rw [if_pos h1])
    clear e1 e2
    go_enter Try.func70, Try.ntmps70
    go_wp2_with (at_builtin; refine wpList_append_lies _ rfl (.tmp 14) (.tmp 23) 73 rfl B 79 i79 _ 1 2 Try.underlying73 hi79 ha1 ha2 ha3 rfl (by omega) _ n _ rfl (HROW.out.alloc _) ⟨w.heap.size, 0, none⟩ 2 2 [.int .u16 (55296 + ((c : Int) - 65536) / 1024), .int .u16 (56320 + ((c : Int) - 65536) % 1024)] rfl rfl (World.news_of_block (cs := #[.int .u16 (55296 + ((c : Int) - 65536) / 1024), .int .u16 (56320 + ((c : Int) - 65536) % 1024)]) (t := 79) (fr := (0, 0)) (Go.heap_alloc_new w _)) (by simp [Value.oneCell']) (by omega) (by unfold maxLen; omega) (by omega) (by simp; omega) _ rfl ?_)
    intro g3 c3 w3 hown3 hgrow3 hat3 hlt3
    have HF := Lib.hid (H.out.push HBX.out HROW.out HN.out hown3 hgrow3 (vs := [55296 + (c - 65536) / 1024, 56320 + (c - 65536) % 1024]) (by simp [enc16, E.out.1, E.out.2]) (by simp; omega) (by simp))
    have hb3 := rwApp HROW.out hgrow3 HBX.out (by decide)
    have c3 := cell_blk hb3 0 rfl
    have f3 := free_blk hb3 0
    have l3 := lt_of_some hb3
    clear c0 f0 hown3 hgrow3 hat3 hlt3 hb3
    go_wp2
    go_ret
    rw [HU.out]
    exact ⟨rfl, HF.out⟩
  · have p1 : ¬ (65535 : Int) < (c : Int) := by omega
    have q1 : (c : Int) ≤ 65535 := by omega
    have HU := Lib.hid (show unitsOf c = [c] by unfold unitsOf; rw [if_neg h1])
    go_enter Try.func70, Try.ntmps70
    go_wp2_with (at_builtin; refine wpList_append_lies _ rfl (.tmp 25) (.tmp 28) 73 rfl B 79 i79 _ 1 2 Try.underlying73 hi79 ha1 ha2 ha3 rfl (by omega) _ n _ rfl (HROW.out.alloc _) ⟨w.heap.size, 0, none⟩ 1 1 [.int .u16 (c : Int)] rfl rfl (World.news_of_block (cs := #[.int .u16 (c : Int)]) (t := 79) (fr := (0, 0)) (Go.heap_alloc_new w _)) (by simp [Value.oneCell']) (by omega) (by unfold maxLen; omega) (by omega) (by simp; omega) _ rfl ?_)
    intro g3 c3 w3 hown3 hgrow3 hat3 hlt3
    have HF := Lib.hid (H.out.push HBX.out HROW.out HN.out hown3 hgrow3 (vs := [c]) (by simp [enc16]) (by simp; omega) (by simp))
    have hb3 := rwApp HROW.out hgrow3 HBX.out (by decide)
    have c3 := cell_blk hb3 0 rfl
    have f3 := free_blk hb3 0
    have l3 := lt_of_some hb3
    clear c0 f0 hown3 hgrow3 hat3 hlt3 hb3
    go_wp2
    go_ret
    rw [HU.out]
    exact ⟨rfl, HF.out⟩
end Go.Proofs.Ytlmbpbijhhnhpaa
