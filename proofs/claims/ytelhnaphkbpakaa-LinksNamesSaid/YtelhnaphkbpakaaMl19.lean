/- Link: all ways at once; and the ring refused. A node more: the links of the others stay, it has none. No program. Check: may a node be so? A tree made; a node made. A tree with a node more, in memory. What the steps of Make behind the arena do, one by one. -/
import Derived.Maps.OwnOps
import Derived.Maps.Views
import Derived.Deep.CutBlock
import Derived.Test.YtelhnaphkbpakaaMl18
namespace Go.Proofs.Ytelhnaphkbpakaa
open Go.RowKit
set_option linter.unusedVariables false
set_option maxRecDepth 100000

section
variable {B : Nat} {Q : Nat → Prop} {w w' : World} {tb : Nat} {X : TX}
theorem link_ok (h : TreeAt B Q w tb X) {u i : Nat} {xu xi : FN} (hu : X.F[u]? = some xu) (hul : xu.live = true) (hi : X.F[i]? = some xi) (hil : xi.live = true) (hir : xi.up = none)
    {c : List Nat} (hc : Chain X.F u c) (hni : i ∉ c) {l1 l2 : List Nat} (hl : xu.down = l1 ++ l2) {bs bg : Nat} (hb : hd X.F l2.head? = (bs, bg)) :
    Calls Try.prog 41 #[.pointer (some ⟨tb, 0, none⟩), .agg #[.int .u32 (xu.sl : Int), .int .u32 (xu.gn : Int)], .agg #[.int .u32 (xi.sl : Int), .int .u32 (xi.gn : Int)], .agg #[.int .u32 (bs : Int), .int .u32 (bg : Int)]] w fun e w' =>
      e = .returned (.int .i64 0) ∧ TreeAt B Q w' tb { X with F := hng X.F i u l1.length } ∧ FrG [116] Q w w' := by
  cases hf : l1.getLast? with
  | none =>
    have h1 : l1 = [] := List.getLast?_eq_none_iff.1 hf
    cases hh : l2.head? with
    | none =>
      have h2 : l2 = [] := List.head?_eq_none_iff.1 hh
      rw [hh] at hb
      cases hb
      exact link_00 h hu hul hi hil hir hc hni hl h1 h2
    | some b =>
      rw [hh] at hb
      exact link_01 h hu hul hi hil hir hc hni hl h1 hh hb
  | some f =>
    cases hh : l2.head? with
    | none =>
      have h2 : l2 = [] := List.head?_eq_none_iff.1 hh
      rw [hh] at hb
      cases hb
      exact link_10 h hu hul hi hil hir hc hni hl hf rfl h2
    | some b =>
      rw [hh] at hb
      exact link_11 h hu hul hi hil hir hc hni hl hf rfl hh hb
set_option maxHeartbeats 8000000 in
/-- A node is not hung beneath one that it has. -/
theorem link_ring (h : TreeAt B Q w tb X) {u i : Nat} {xu xi : FN} (hu : X.F[u]? = some xu) (hul : xu.live = true) (hi : X.F[i]? = some xi) (hil : xi.live = true)
    {c : List Nat} (hc : Chain X.F u c) (hni : i ∈ c) :
    Calls Try.prog 41 #[.pointer (some ⟨tb, 0, none⟩), .agg #[.int .u32 (xu.sl : Int), .int .u32 (xu.gn : Int)], .agg #[.int .u32 (xi.sl : Int), .int .u32 (xi.gn : Int)], .agg #[.int .u32 0, .int .u32 0]] w fun e w' =>
      e = .returned (.int .i64 72) ∧ Below w.heap.size w w' := by
  have HT := Lib.hid h
  obtain ⟨nbp, Pp, hmp, _⟩ := h.rw.at_live hu hul
  obtain ⟨nbc, Pc, hmc, _⟩ := h.rw.at_live hi hil
  have hnp := (h.rw.node u xu nbp Pp hu hul hmp).2.2.1
  have hnc := (h.rw.node i xi nbc Pc hi hil hmc).2.2.1
  have HP : Hid (∀ (W : World) L, TreeRw B Q W tb X L → W.heap[nbp]? = some (.cells (ncells Pp (L u) (u + 1)) 116 (0, 0))) := Lib.hid (fun W L hW => (hW.node u xu nbp Pp hu hul hmp).2.2.1)
  have HGp : Hid (∀ W, Below w.heap.size w W → Calls Try.prog 81 #[.pointer (some ⟨X.ab, 0, none⟩), .agg #[.int .u32 (xu.sl : Int), .int .u32 (xu.gn : Int)]] W fun e w' => e = .returned (.tuple #[.pointer (some ⟨nbp, 0, none⟩), .int .i64 0]) ∧ Below W.heap.size W w') := Lib.hid (fun W bb => (h.rw.below bb).get_live hu hul hmp)
  have HGc : Hid (∀ W, Below w.heap.size w W → Calls Try.prog 81 #[.pointer (some ⟨X.ab, 0, none⟩), .agg #[.int .u32 (xi.sl : Int), .int .u32 (xi.gn : Int)]] W fun e w' => e = .returned (.tuple #[.pointer (some ⟨nbc, 0, none⟩), .int .i64 0]) ∧ Below W.heap.size W w') := Lib.hid (fun W bb => (h.rw.below bb).get_live hi hil hmc)
  have HWI : Hid (∀ W, Below w.heap.size w W → Calls Try.prog 83 #[.pointer (some ⟨tb, 0, none⟩), .agg #[.int .u32 (xu.sl : Int), .int .u32 (xu.gn : Int)], .agg #[.int .u32 (xi.sl : Int), .int .u32 (xi.gn : Int)]] W fun e w' => e = .returned (.bool true) ∧ Below W.heap.size W w') := Lib.hid (fun W bb => by
    have := within_calls (h.below bb) hu hul hi hil hc
    rw [decide_eq_true hni] at this
    exact this)
  have HFb : Hid (∀ W, Below w.heap.size w W → Calls Try.prog 82 #[.pointer (some ⟨tb, 0, none⟩), .agg #[.int .u32 0, .int .u32 0], .int .i64 0] W fun e w' => e = .returned (.tuple #[.agg #[.int .u32 0, .int .u32 0], .int .i64 51]) ∧ Below W.heap.size W w') := Lib.hid (fun W bb => follow_dead (h.rw.below bb) (s := 0) (g := 0) (by decide) (by decide) ((h.rw.below bb).no_zero 0) 0)
  obtain ⟨ls, lg, hlast⟩ : ∃ ls lg : Nat, toH X.F u 2 = (ls, lg) := ⟨_, _, rfl⟩
  have qz : hEq 0 0 0 0 = true := hEq_true rfl rfl
  have qu : hEq (xu.sl : Int) (xu.gn : Int) (xu.sl : Int) (xu.gn : Int) = true := hEq_true rfl rfl
  have c0 := cell_blk h.rw.blk 0 rfl
  have ltb := lt_of_some h.rw.blk
  have lnp := lt_of_some hnp
  have lnc := lt_of_some hnc
  simp at c0
  have HLT := Lib.hid (And.intro hlast True.intro)
  clear hlast h hu hul hi hil hc hni hmp hmc hnp hnc
  generalize xu.sl = us at *
  generalize xu.gn = ug at *
  generalize xi.sl = si at *
  generalize xi.gn = gi at *
  obtain ⟨V, hV⟩ : ∃ V, V = ((w.alloc (.cells #[.int .u32 (us : Int), .int .u32 (ug : Int)] 28)).alloc (.cells #[.int .u32 (si : Int), .int .u32 (gi : Int)] 28)).alloc (.cells #[.int .u32 0, .int .u32 0] 28) := ⟨_, rfl⟩
  have bV : Below w.heap.size w V := by rw [hV]; exact (by repeat (first | exact Below.refl _ _ | assumption | refine Below.drew ?_ | refine below_drewN ?_ _ | refine Below.alloc ?_ (by simp <;> omega) _ | refine Below.setCell ?_ (by simp <;> omega) _ | (apply bl_trans; assumption; (simp <;> omega))))
  have hx : LBx3 V w.heap.size (us, ug) (si, gi) (0, 0) := by rw [hV]; exact lbx3_alloc w us ug si gi 0 0
  have HX := Lib.hid (And.intro hx bV)
  have HSW : Hid (∀ W, Below V.heap.size V W → (W.cell? ⟨tb, 0, none⟩ = some (.pointer (some ⟨X.ab, 0, none⟩)) ∧ W.cell? ⟨w.heap.size, 0, none⟩ = some (.int .u32 (us : Int)) ∧ W.cell? ⟨w.heap.size, 1, none⟩ = some (.int .u32 (ug : Int)) ∧ W.cell? ⟨w.heap.size + 1, 0, none⟩ = some (.int .u32 (si : Int)) ∧ W.cell? ⟨w.heap.size + 1, 1, none⟩ = some (.int .u32 (gi : Int)) ∧ W.cell? ⟨w.heap.size + 2, 0, none⟩ = some (.int .u32 0) ∧ W.cell? ⟨w.heap.size + 2, 1, none⟩ = some (.int .u32 0)) ∧ Below w.heap.size w W ∧ LBx3 W w.heap.size (us, ug) (si, gi) (0, 0)) := Lib.hid (fun W bb => by
    obtain ⟨y0, y1, y2, y3, y4, y5⟩ := (HX.out.1.below bb).cells
    exact ⟨⟨((HX.out.2.trans (bb.mono HX.out.2.size)).cell (p := ⟨tb, 0, none⟩) ltb).trans c0, y0, y1, y2, y3, y4, y5⟩, HX.out.2.trans (bb.mono HX.out.2.size), HX.out.1.below bb⟩)
  have HD0 : Hid (Below V.heap.size V V.drew) := Lib.hid (Below.refl _ _).drew
  have hV2 := hV
  clear hV hx bV
  go_enter Try.func41, Try.ntmps41
  go_wp2_with fail
  rw [← hV2]
  clear hV2
  go_region_held3 (fun W => (W.cell? ⟨tb, 0, none⟩ = some (.pointer (some ⟨X.ab, 0, none⟩)) ∧ W.cell? ⟨w.heap.size, 0, none⟩ = some (.int .u32 (us : Int)) ∧ W.cell? ⟨w.heap.size, 1, none⟩ = some (.int .u32 (ug : Int)) ∧ W.cell? ⟨w.heap.size + 1, 0, none⟩ = some (.int .u32 (si : Int)) ∧ W.cell? ⟨w.heap.size + 1, 1, none⟩ = some (.int .u32 (gi : Int)) ∧ W.cell? ⟨w.heap.size + 2, 0, none⟩ = some (.int .u32 0) ∧ W.cell? ⟨w.heap.size + 2, 1, none⟩ = some (.int .u32 0))) (first | exact (HSW.out _ HD0.out).1 | exact (HSW.out _ HB1.out).1) (first | (go_at_call 81; refine (HGp.out _ (HSW.out _ HD0.out).2.1).mono ?_; rintro e w1 ⟨rfl, b1⟩; have HB1 := Lib.hid (HD0.out.trans (b1.mono HD0.out.size))))
  clear b1
  have HD1 : Hid (Below V.heap.size V w1.drew) := Lib.hid HB1.out.drew
  go_wp2_with fail
  go_region_held3 (fun W => (W.cell? ⟨tb, 0, none⟩ = some (.pointer (some ⟨X.ab, 0, none⟩)) ∧ W.cell? ⟨w.heap.size, 0, none⟩ = some (.int .u32 (us : Int)) ∧ W.cell? ⟨w.heap.size, 1, none⟩ = some (.int .u32 (ug : Int)) ∧ W.cell? ⟨w.heap.size + 1, 0, none⟩ = some (.int .u32 (si : Int)) ∧ W.cell? ⟨w.heap.size + 1, 1, none⟩ = some (.int .u32 (gi : Int)) ∧ W.cell? ⟨w.heap.size + 2, 0, none⟩ = some (.int .u32 0) ∧ W.cell? ⟨w.heap.size + 2, 1, none⟩ = some (.int .u32 0))) (first | exact (HSW.out _ HD1.out).1 | exact (HSW.out _ HB2.out).1) (first | (go_at_call 81; refine (HGc.out _ (HSW.out _ HD1.out).2.1).mono ?_; rintro e w2 ⟨rfl, b1⟩; have HB2 := Lib.hid (HD1.out.trans (b1.mono HD1.out.size))))
  clear b1 HD0 HD1 HB1
  obtain ⟨d0, y0, y1, y2, y3, y4, y5⟩ := (HSW.out _ HB2.out).1
  have n0 : w2.cell? ⟨nbp, 10, none⟩ = some (.int .u32 ((toH X.F u 2).1 : Int)) := cell_blk (HP.out w2 _ (HT.out.rw.below (HSW.out _ HB2.out).2.1)) 10 rfl
  have n1 : w2.cell? ⟨nbp, 11, none⟩ = some (.int .u32 ((toH X.F u 2).2 : Int)) := cell_blk (HP.out w2 _ (HT.out.rw.below (HSW.out _ HB2.out).2.1)) 11 rfl
  rw [HLT.out.1] at n0 n1
  simp at n0 n1
  have lz2 : w.heap.size + 2 < w2.heap.size := lt_of_some (HSW.out _ HB2.out).2.2.x2
  go_wp2_with fail
  obtain ⟨V3, hV3⟩ : ∃ U, U = w2.alloc (.cells #[.int .u32 (ls : Int), .int .u32 (lg : Int)] 28) := ⟨_, rfl⟩
  rw [← hV3]
  obtain ⟨bx, hbx⟩ : ∃ z, z = w2.heap.size := ⟨_, rfl⟩
  have hfx : V3.heap[bx]? = some (.cells #[.int .u32 (ls : Int), .int .u32 (lg : Int)] 28 (0, 0)) := by rw [hV3, hbx]; exact Go.heap_alloc_new w2 _
  have HB3 : Hid (Below V.heap.size V V3) := Lib.hid (by rw [hV3]; exact HB2.out.alloc HB2.out.size _)
  have lbx : V.heap.size ≤ bx := by rw [hbx]; exact HB2.out.size
  have lzx : w.heap.size + 2 < bx := by rw [hbx]; exact lz2
  rw [← hbx]
  have HFX := Lib.hid hfx
  clear hV3 hbx lz2 HB2 hfx n0 n1 d0 y0 y1 y2 y3 y4 y5
  have HFX5 := HFX
  have HB5 := HB3
  clear HFX HB3
  refine (HFb.out _ (HSW.out _ HB5.out).2.1).mono ?_
  rintro e w4 ⟨rfl, b4⟩
  have HB6 := Lib.hid (HB5.out.trans (b4.mono HB5.out.size))
  have HFX6 := Lib.hid ((b4.block _ (lt_of_some HFX5.out)).trans HFX5.out)
  clear b4 HB5 HFX5
  obtain ⟨d0, y0, y1, y2, y3, y4, y5⟩ := (HSW.out _ HB6.out).1
  have lz4 : bx < w4.heap.size := lt_of_some HFX6.out
  have l4a : w.heap.size < w4.heap.size := by omega
  have l4b : w.heap.size + 1 < w4.heap.size := by omega
  have l4c : w.heap.size + 2 < w4.heap.size := by omega
  go_wp2_with fail
  obtain ⟨V5, hV5⟩ : ∃ U, U = w4.alloc (.cells #[.int .u32 0, .int .u32 0] 28) := ⟨_, rfl⟩
  rw [← hV5]
  obtain ⟨ub, hub⟩ : ∃ z, z = w4.heap.size := ⟨_, rfl⟩
  have HUX : Hid (V5.heap[ub]? = some (.cells #[.int .u32 0, .int .u32 0] 28 (0, 0))) := Lib.hid (by rw [hV5, hub]; exact Go.heap_alloc_new w4 _)
  have HB7 : Hid (Below V.heap.size V V5) := Lib.hid (by rw [hV5]; exact HB6.out.alloc HB6.out.size _)
  have HFX7 : Hid (V5.heap[bx]? = some (.cells #[.int .u32 (ls : Int), .int .u32 (lg : Int)] 28 (0, 0))) := Lib.hid (by rw [hV5]; exact alloc_blk HFX6.out _)
  rw [← hub]
  clear hV5 hub lz4 l4a l4b l4c HB6 HFX6 d0 y0 y1 y2 y3 y4 y5
  refine (HWI.out _ (HSW.out _ HB7.out).2.1).mono ?_
  rintro e w5 ⟨rfl, b5⟩
  have HB8 := Lib.hid (HB7.out.trans (b5.mono HB7.out.size))
  clear b5 HB7 HFX7 HUX
  have HLOW : Hid (Below w.heap.size w w5) := Lib.hid (HSW.out _ HB8.out).2.1
  go_wp2_with fail
  go_ret
  exact ⟨rfl, HLOW.out⟩
end
end Go.Proofs.Ytelhnaphkbpakaa

namespace Go.Proofs.Ytelhnaphkbpakaa
set_option linter.unusedVariables false

theorem made_lt {F : For} {s g k : Nat} (h : k < F.length) : (Made F s g)[k]? = F[k]? := by unfold Made; rw [List.getElem?_append_left h]
theorem made_at {F : For} {s g : Nat} : (Made F s g)[F.length]? = some ⟨s, g, none, [], true⟩ := by unfold Made; simp
theorem made_len (F : For) (s g : Nat) : (Made F s g).length = F.length + 1 := by simp [Made]
theorem made_cases {F : For} {s g k : Nat} {x : FN} (h : (Made F s g)[k]? = some x) : F[k]? = some x ∧ k < F.length ∨ k = F.length ∧ x = ⟨s, g, none, [], true⟩ := by
  rcases Nat.lt_or_ge k F.length with h1 | h1
  · rw [made_lt h1] at h; exact .inl ⟨h, h1⟩
  · have h2 := (List.getElem?_eq_some_iff.1 h).1
    rw [made_len] at h2
    obtain rfl : k = F.length := by omega
    rw [made_at] at h
    cases h
    exact .inr ⟨rfl, rfl⟩
theorem mem_prev {l : List Nat} {k m : Nat} (h : prevOf l k = some m) : m ∈ l := by
  unfold prevOf at h
  split at h
  · cases h
  · exact List.mem_of_getElem? h
theorem mem_next {l : List Nat} {k m : Nat} (h : nextOf l k = some m) : m ∈ l := List.mem_of_getElem? h
theorem FOk.dn_lt {F : For} (h : FOk F) {o : Option Nat} {m : Nat} (hm : m ∈ dnOf F o) : m < F.length := by
  unfold dnOf at hm
  split at hm
  · rename_i x hx
    cases o with
    | none => cases hx
    | some u =>
      obtain ⟨z, hz, _⟩ := h.dn u x hx m hm
      exact (List.getElem?_eq_some_iff.1 hz).1
  · cases hm
theorem FOk.up_lt {F : For} (h : FOk F) {k m : Nat} (hm : upOf F k = some m) : m < F.length := by
  unfold upOf at hm
  obtain ⟨z, hz, e⟩ := Option.bind_eq_some_iff.1 hm
  obtain ⟨y, hy, _⟩ := h.upd k z m hz e
  exact (List.getElem?_eq_some_iff.1 hy).1
theorem FOk.lk_lt {F : For} (h : FOk F) {k j m : Nat} (hm : lkO F k j = some m) : m < F.length := by
  match j with
  | 0 => exact h.up_lt hm
  | 1 => exact h.dn_lt (List.mem_of_head? hm)
  | 2 => exact h.dn_lt (List.mem_of_getLast? hm)
  | 3 => exact h.dn_lt (mem_prev hm)
  | 4 => exact h.dn_lt (mem_next hm)
  | j + 5 => cases hm
theorem hd_made {F : For} {s g : Nat} {o : Option Nat} (h : ∀ m, o = some m → m < F.length) : hd (Made F s g) o = hd F o := by
  cases o with
  | none => rfl
  | some m => unfold hd; simp only [Option.bind_some]; rw [made_lt (h m rfl)]
theorem up_made {F : For} {s g k : Nat} (h : k < F.length) : upOf (Made F s g) k = upOf F k := by unfold upOf; rw [made_lt h]
theorem dn_made {F : For} {s g : Nat} {o : Option Nat} (h : ∀ m, o = some m → m < F.length) : dnOf (Made F s g) o = dnOf F o := by
  cases o with
  | none => rfl
  | some m => unfold dnOf; simp only [Option.bind_some]; rw [made_lt (h m rfl)]
theorem lk_made {F : For} (ok : FOk F) {s g k : Nat} (h : k < F.length) (j : Nat) : lkO (Made F s g) k j = lkO F k j := by
  have h1 := up_made (s := s) (g := g) h
  have h2 : dnOf (Made F s g) (some k) = dnOf F (some k) := dn_made (fun m hm => by cases hm; exact h)
  have h3 : dnOf (Made F s g) (upOf F k) = dnOf F (upOf F k) := dn_made (fun m hm => ok.up_lt hm)
  match j with
  | 0 => exact h1
  | 1 => simp only [lkO, h2]
  | 2 => simp only [lkO, h2]
  | 3 => simp only [lkO, h1, h3]
  | 4 => simp only [lkO, h1, h3]
  | j + 5 => rfl
theorem lk_new {F : For} (s g j : Nat) : lkO (Made F s g) F.length j = none := by
  have h1 : upOf (Made F s g) F.length = none := by unfold upOf; rw [made_at]; rfl
  have h2 : dnOf (Made F s g) (some F.length) = [] := by unfold dnOf; simp only [Option.bind_some]; rw [made_at]
  match j with
  | 0 => exact h1
  | 1 => simp only [lkO, h2]; rfl
  | 2 => simp only [lkO, h2]; rfl
  | 3 => simp only [lkO, h1]; rfl
  | 4 => simp only [lkO, h1]; rfl
  | j + 5 => rfl
end Go.Proofs.Ytelhnaphkbpakaa

namespace Go.Proofs.Ytelhnaphkbpakaa
open Go.RowKit Go.Maps
set_option linter.unusedVariables false
set_option maxRecDepth 100000

abbrev ky (s : ByteArray) : List UInt8 := s.data.toList
/-- All names may be, and none is there twice. -/
def goodA (l : List ByteArray) : Bool := l.all namedD && decide ((l.map ky).Nodup)
def checkD (k : Int) (nm : ByteArray) (dl : Nat) (names : List ByteArray) : Int :=
  if fitsD k nm dl names.length = false then 63
  else if (k = 1 ∨ k = 7 ∨ k = 10) ∧ namedD nm = false then 62
  else if goodA names then 0 else 62

theorem zero3 (w : World) : (zeroValue 3).run Try.prog w = .ok (.int .i64 0) w := by kernel_rfl
theorem law9 : Keyed Try.prog 9 := string_keyed Try.underlying9
/-- The map of names seen, each once. -/
structure SeenOk {H : Type} (D : Go.DataW H) (l : List (List UInt8)) : Prop where
  map : IsMap D
  at_ : ∀ s : List UInt8, D.atKey (.string s) (.lit (.int .i64 0)) = .lit (.int .i64 (if s ∈ l then 1 else 0))
theorem seen_next {H : Type} {D : Go.DataW H} {l : List (List UInt8)} (h : SeenOk D l) {s : List UInt8} (hs : s ∉ l) : SeenOk (D.put (.string s) (.lit (.int .i64 1))) (l ++ [s]) := by
  refine ⟨h.map.put _ _, fun t => ?_⟩
  by_cases e : t = s
  · subst e
    rw [atKey_put_same h.map (show WideAt.IsKeyLit (.string t) from trivial)]
    simp
  · rw [atKey_put_other (by intro hh; injection hh with hh; exact e hh), h.at_ t]
    simp [e]
theorem goodA_snoc (l : List ByteArray) (x : ByteArray) : goodA (l ++ [x]) = (goodA l && namedD x && decide (ky x ∉ l.map ky)) := by
  unfold goodA
  rw [List.all_append, List.map_append]
  have : ((l.map ky) ++ [ky x]).Nodup ↔ (l.map ky).Nodup ∧ ky x ∉ l.map ky := by
    rw [List.nodup_append]
    simp
  simp only [List.map_cons, List.map_nil, decide_eq_decide.2 this]
  simp only [List.all_cons, List.all_nil, Bool.and_true]
  cases l.all namedD <;> cases namedD x <;> simp
theorem goodA_pre {l m : List ByteArray} (h : goodA (l ++ m) = true) : goodA l = true := by
  unfold goodA at *
  rw [List.all_append, List.map_append] at h
  simp only [Bool.and_eq_true, decide_eq_true_eq] at *
  exact ⟨h.1.1, (List.nodup_append.1 h.2).1⟩

theorem grown_of_below {w w' : World} (b : Below w.heap.size w w') : w.grownBy w' none := ⟨b.os, b.tape, b.output, b.size, fun i hi _ => b.block i hi⟩
theorem look_after {w2 w3 : World} {mb n : Nat} {D : DataW Unit} {nx : ByteArray} {v : Int} (hD : IsMap D) (h : w2.ownsMap Try.prog 9 (plainElem (H := Unit) Try.prog 3) mb n (D.put (.string nx.data.toList) (.lit (.int .i64 v)))) (b : Below w2.heap.size w2 w3)
    (hkey : keyOf Try.prog 9 (.string nx) = some (.string nx.data.toList)) :
    (Instr.lookup 80 (.map (some mb)) (.string nx) false).run Try.prog w3 = .ok (.int .i64 v) w3 ∧ w3.ownsMap Try.prog 9 (plainElem (H := Unit) Try.prog 3) mb n (D.put (.string nx.data.toList) (.lit (.int .i64 v))) := by
  have h3 := h.kept (grown_of_below b) (by simp)
  obtain ⟨c, hrun, hat, _⟩ := h3.lookup_int (t := 80) law9 Try.underlying80 Try.underlying3 (zero3 _) hkey
  rw [atKey_put_same hD (show WideAt.IsKeyLit (.string nx.data.toList) from trivial)] at hat
  injection hat with h1
  injection h1 with h2 h4
  rw [← h4] at hrun
  exact ⟨hrun, h3⟩

set_option maxHeartbeats 8000000 in
theorem check_calls (w : World) (N : Nd) (h : NdIn w N) :
    Calls Try.prog 15 #[N.v] w fun e w' => e = .returned (.int .i64 (checkD N.kind N.name N.data.length (N.L.map LA.name))) ∧ Below w.heap.size w w' := by
  have hfits := fun w' (b : Below w.heap.size w w') => fits_calls w' N (h.below b)
  have hA := h.attrs
  have hn := h.nam
  obtain ⟨k, nm, da, dc, data, aa, ac, L, sl, ge⟩ := N
  simp only [Nd.v, Nd.cells] at *
  obtain ⟨n, en⟩ : ∃ n, n = L.length := ⟨_, rfl⟩
  obtain ⟨m, em⟩ : ∃ m, m = data.length := ⟨_, rfl⟩
  have hl := hA.len
  rw [← en, ← em] at hfits ⊢
  rw [← en] at hl
  have HN := Lib.hid en
  have HA := Lib.hid hA
  have HF := Lib.hid hfits
  clear en em hA hfits h
  obtain ⟨c, hc⟩ : ∃ c, c = checkD k nm m (L.map LA.name) := ⟨_, rfl⟩
  rw [← hc]
  have HC := Lib.hid hc
  clear hc
  have hmm := @run_makeMap Try.prog
  have hb0 : Below w.heap.size w (w.alloc (.cells #[.int .i64 k, .string nm, .slice da m dc, .slice aa n ac, .int .u32 sl, .int .u32 ge] 30)) := (Below.refl _ w).alloc (Nat.le_refl _) _
  have HB0 := Lib.hid hb0
  clear hb0
  cases hfd : fitsD k nm m n with
  | false =>
    have hcc : c = 63 := by rw [HC.out]; unfold checkD; rw [List.length_map, ← HN.out, hfd]; rfl
    have HF2 := HF.out
    rw [hfd] at HF2
    have HF3 := Lib.hid HF2
    clear HF2 HF hfd
    have HCC := Lib.hid hcc
    clear hcc
    go_enter Try.func15, Try.ntmps15
    go_wp2_with (go_at_call 49; refine (HF3.out _ HB0.out).mono ?_; rintro e w1 ⟨rfl, b1⟩)
    go_ret
    exact ⟨by rw [HCC.out]; rfl, HB0.out.trans (b1.mono (by simp))⟩
  | true =>
    have HF2 := HF.out
    rw [hfd] at HF2
    have HF3 := Lib.hid HF2
    have hcd : c = if (k = 1 ∨ k = 7 ∨ k = 10) ∧ namedD nm = false then 62 else if goodA (L.map LA.name) then 0 else 62 := by rw [HC.out]; unfold checkD; rw [List.length_map, ← HN.out, hfd]; rfl
    have HCD := Lib.hid hcd
    clear HF2 HF hfd hcd
    go_enter Try.func15, Try.ntmps15
    go_wp2_with fail
    refine (HF3.out _ HB0.out).mono ?_
    rintro e w1 ⟨rfl, b1⟩
    have x0 := (b1.block w.heap.size (by simp)).trans (Go.heap_alloc_new w _)
    have c0 := cell_blk x0 0 rfl
    have c1 := cell_blk x0 1 rfl
    have l0 := lt_of_some x0
    simp at c0 c1
    have B1 := Lib.hid (HB0.out.trans (b1.mono (by simp)))
    have HX := Lib.hid x0
    clear b1 x0
    have hnm := named_calls w1 nm hn
    have HNM := Lib.hid hnm
    clear hnm
    go_upto_block 0 with fail
    go_cut [] from 9 (fun wc => ((k = 1 ∨ k = 7 ∨ k = 10) → namedD nm = true) ∧ Below w1.heap.size w1 wc)
    case first =>
      by_cases hk : k = 1 ∨ k = 7 ∨ k = 10
      · cases hnd : namedD nm with
        | true =>
          have HNM2 := HNM.out
          rw [hnd] at HNM2
          have HNM3 := Lib.hid HNM2
          have HND := Lib.hid hnd
          clear HNM2 HNM hnd
          rcases hk with rfl | rfl | rfl
          all_goals go_wp2_with (go_at_call 12; refine HNM3.out.mono ?_; rintro e w2 ⟨rfl, b2⟩)
          all_goals go_meet
          all_goals exact ⟨fun _ => HND.out, b2⟩
        | false =>
          have HNM2 := HNM.out
          rw [hnd] at HNM2
          have HNM3 := Lib.hid HNM2
          have hcc : c = 62 := by rw [HCD.out, if_pos ⟨hk, hnd⟩]
          have HCC := Lib.hid hcc
          clear HNM2 HNM hnd hcc
          rcases hk with rfl | rfl | rfl
          all_goals go_wp2_with (go_at_call 12; refine HNM3.out.mono ?_; rintro e w2 ⟨rfl, b2⟩)
          all_goals go_ret
          all_goals exact ⟨by rw [HCC.out]; rfl, B1.out.trans (b2.mono (by omega))⟩
      · have e1 : (k == 1) = false := by simp; omega
        have e2 : (k == 7) = false := by simp; omega
        have e3 : (k == 10) = false := by simp; omega
        have HK := Lib.hid hk
        clear hk
        go_wp2
        go_meet
        exact ⟨fun h => absurd h HK.out, Below.refl _ _⟩
    case rest =>
      obtain ⟨hknm, bc⟩ := hcut
      have hs1 : w.heap.size < w1.heap.size := lt_of_some HX.out
      have hsc := bc.size
      have x0 := (bc.block _ hs1).trans HX.out
      have BC := Lib.hid (B1.out.trans (bc.mono (by omega)))
      have c3 := cell_blk x0 3 rfl
      have l0 := lt_of_some x0
      simp at c3
      have HKN := Lib.hid hknm
      clear c0 c1 HX HNM hknm x0 bc
      go_wp2_with fail
      obtain ⟨mb, hmb⟩ : ∃ mb, mb = wc.heap.size := ⟨_, rfl⟩
      have hm0 : (wc.alloc (.map #[] 0)).ownsMap Try.prog 9 (plainElem (H := Unit) Try.prog 3) mb 0 (.map []) := by rw [hmb]; exact World.ownsMap_made _ _ _ _
      rw [← hmb]
      have hbm : Below wc.heap.size wc (wc.alloc (.map #[] 0)) := (Below.refl _ _).alloc (Nat.le_refl _) _
      have HM0 := Lib.hid (And.intro hm0 hbm)
      have HMB := Lib.hid hmb
      clear hm0 hbm hmb c3
      go_loopw [23] (fun v wr => ∃ (i : Nat) (D : DataW Unit), v = .int .i64 (i : Nat) ∧ i ≤ n ∧ wr.ownsMap Try.prog 9 (plainElem (H := Unit) Try.prog 3) mb i D ∧ SeenOk D ((L.take i).map fun x => ky x.name) ∧ goodA ((L.take i).map LA.name) = true ∧ Below wc.heap.size wc wr) (fun v _ => n - (intOf v).toNat)
      case atStart => exact ⟨0, .map [], rfl, Nat.zero_le _, HM0.out.1, ⟨isMap_empty, fun s => by simp [DataW.atKey]⟩, by simp [goodA], HM0.out.2⟩
      case round =>
        obtain ⟨i, D, rfl, hi, hown, hseen, hgood, hbel⟩ := hrel
        have hbw : Below w.heap.size w wr := BC.out.trans (hbel.mono (by omega))
        by_cases hlt : i < n
        · obtain ⟨x, hx⟩ : ∃ x, L[i]? = some x := ⟨_, List.getElem?_eq_getElem (by rw [← HN.out]; exact hlt)⟩
          obtain ⟨bb, off, rfl, hbl, c1, c2⟩ := (HA.out.below hbw).get hx
          have p1 : (i : Int) < (n : Int) := by omega
          have p2 : (0 : Int) ≤ (i : Int) := by omega
          obtain ⟨nx, hnx⟩ : ∃ nx, nx = x.name := ⟨_, rfl⟩
          obtain ⟨xl, hxl⟩ : ∃ xl, xl = x.val.length := ⟨_, rfl⟩
          have hnz : nx.size ≤ 9223372036854775807 := by rw [hnx]; exact HA.out.nam x (List.mem_of_getElem? hx)
          rw [← hnx] at c1
          rw [← hxl] at c2
          have hkey : keyOf Try.prog 9 (.string nx) = some (.string nx.data.toList) := Go.WideMaps.keyOf_string_mk Try.underlying9 (by unfold maxLen; omega)
          obtain ⟨q, hq⟩ : ∃ q : Int, q = if nx.data.toList ∈ (L.take i).map (fun x => ky x.name) then 1 else 0 := ⟨_, rfl⟩
          have hq01 : q = 0 ∨ q = 1 := by rw [hq]; split <;> simp
          have hml : mb < wr.heap.size := hown.lt
          have hownW := hown.kept (World.grownBy_alloc wr (.cells #[.string nx, .slice x.va xl x.vc] 72) none) (by simp)
          obtain ⟨c', hrun, hat, _⟩ := hownW.lookup_int (t := 80) law9 Try.underlying80 Try.underlying3 (zero3 _) hkey
          obtain rfl : c' = q := by
            rw [hseen.at_ nx.data.toList, ← hq] at hat
            injection hat with h1
            injection h1 with h2 h3
            exact h3.symm
          have q1 : IntKind.i64.wrap (c' + 1) = c' + 1 := IntWalk.i64_in _ (by omega)
          have HH := Lib.hid (And.intro hseen (And.intro hgood (And.intro hbel (And.intro hx hq))))
          have HNX := Lib.hid hnx
          have HKEY := Lib.hid hkey
          have HOW := Lib.hid hownW
          have hsr : wc.heap.size ≤ wr.heap.size := hbel.size
          clear hseen hgood hbel hx hq hown hownW hat hnx hxl hkey
          have HQ : Hid (∀ w2, (wr.alloc (.cells #[.string nx, .slice x.va xl x.vc] 72)).grownBy w2 (some mb) → w2.cell? ⟨wr.heap.size, 0, none⟩ = some (.string nx) ∧ wr.heap.size < w2.heap.size ∧ Below wc.heap.size wc w2) := Lib.hid (fun w2 hg => by
            have h1 := grown_blk hg (Go.heap_alloc_new wr (.cells #[.string nx, .slice x.va xl x.vc] 72)) (by intro e; injection e with e; omega)
            have h2 := cell_blk h1 0 rfl
            refine ⟨h2, lt_of_some h1, ?_⟩
            exact (HH.out.2.2.1.alloc hsr _).grown hg (by simp; omega) (fun r e => by cases e; rw [HMB.out]; exact Nat.le_refl _))
          cases hnd : namedD nx with
          | false =>
            have hcc : c = 62 := by
              rw [HCD.out]
              have : goodA (L.map LA.name) = false := by
                have hm : nx ∈ L.map LA.name := List.mem_map.2 ⟨x, List.mem_of_getElem? HH.out.2.2.2.1, HNX.out.symm⟩
                unfold goodA
                have : (L.map LA.name).all namedD = false := by
                  rw [List.all_eq_false]
                  exact ⟨nx, hm, by simp [hnd]⟩
                rw [this]; rfl
              rw [this]; simp
            have HCC := Lib.hid hcc
            have HND := Lib.hid hnd
            clear hcc hnd
            go_wp2_with (first | (at_mapUpdate; refine wpList_mapUpdate_own _ rfl _ _ _ 80 rfl 9 3 law9 Try.underlying80 (plainElem (H := Unit) Try.prog 3) mb i D rfl HOW.out (by unfold maxLen; omega) _ _ _ rfl rfl HKEY.out _ [] (plainElem_int Try.underlying3 (WalkArith.wf_i64 (by omega))) ?_; intro w2 hown2 hgrow2; obtain ⟨e0, e1, e2⟩ := HQ.out w2 hgrow2; clear hown2 hgrow2) | (go_at_call 12; refine (named_calls _ nx hnz).mono ?_; rw [HND.out]; rintro e w3 ⟨rfl, b3⟩))
            go_ret
            exact ⟨by rw [HCC.out]; rfl, (BC.out.trans (e2.mono (by omega))).trans (b3.mono (by omega))⟩
          | true =>
            have HND := Lib.hid hnd
            clear hnd
            by_cases hin : nx.data.toList ∈ (L.take i).map (fun x => ky x.name)
            · have hq1 : c' = 1 := by rw [HH.out.2.2.2.2, if_pos hin]
              subst hq1
              have hcc : c = 62 := by
                rw [HCD.out]
                have : goodA (L.map LA.name) = false := by
                  cases hg : goodA (L.map LA.name) with
                  | false => rfl
                  | true =>
                    have e : L.map LA.name = ((L.take (i + 1)).map LA.name) ++ (L.drop (i + 1)).map LA.name := by rw [← List.map_append, List.take_append_drop]
                    rw [e] at hg
                    have h1 := goodA_pre hg
                    rw [List.take_add_one, HH.out.2.2.2.1] at h1
                    simp only [Option.toList_some, List.map_append, List.map_cons, List.map_nil] at h1
                    rw [goodA_snoc] at h1
                    simp only [Bool.and_eq_true, decide_eq_true_eq] at h1
                    refine absurd ?_ h1.2
                    rw [List.map_map, ← HNX.out]
                    exact hin
                rw [this]; simp
              have HCC := Lib.hid hcc
              clear hcc hin
              go_wp2_with (first | (at_mapUpdate; refine wpList_mapUpdate_own _ rfl _ _ _ 80 rfl 9 3 law9 Try.underlying80 (plainElem (H := Unit) Try.prog 3) mb i D rfl HOW.out (by unfold maxLen; omega) _ _ _ rfl rfl HKEY.out _ [] (plainElem_int Try.underlying3 (WalkArith.wf_i64 (by omega))) ?_; intro w2 hown2 hgrow2; obtain ⟨e0, e1, e2⟩ := HQ.out w2 hgrow2; have HO2 := Lib.hid hown2; clear hown2 hgrow2) | (go_at_call 12; refine (named_calls _ nx hnz).mono ?_; rw [HND.out]; rintro e w3 ⟨rfl, b3⟩; obtain ⟨hrun3, hown3⟩ := look_after HH.out.1.map HO2.out b3 HKEY.out; have e3 := (b3.cell (p := ⟨wr.heap.size, 0, none⟩) e1).trans e0; have e4 := Nat.lt_of_lt_of_le e1 b3.size))
              go_ret
              exact ⟨by rw [HCC.out]; rfl, (BC.out.trans (e2.mono (by omega))).trans (b3.mono (by omega))⟩
            · have hq1 : c' = 0 := by rw [HH.out.2.2.2.2, if_neg hin]
              subst hq1
              have HIN := Lib.hid hin
              clear hin
              go_wp2_with (first | (at_mapUpdate; refine wpList_mapUpdate_own _ rfl _ _ _ 80 rfl 9 3 law9 Try.underlying80 (plainElem (H := Unit) Try.prog 3) mb i D rfl HOW.out (by unfold maxLen; omega) _ _ _ rfl rfl HKEY.out _ [] (plainElem_int Try.underlying3 (WalkArith.wf_i64 (by omega))) ?_; intro w2 hown2 hgrow2; obtain ⟨e0, e1, e2⟩ := HQ.out w2 hgrow2; have HO2 := Lib.hid hown2; clear hown2 hgrow2) | (go_at_call 12; refine (named_calls _ nx hnz).mono ?_; rw [HND.out]; rintro e w3 ⟨rfl, b3⟩; obtain ⟨hrun3, hown3⟩ := look_after HH.out.1.map HO2.out b3 HKEY.out; have e3 := (b3.cell (p := ⟨wr.heap.size, 0, none⟩) e1).trans e0; have e4 := Nat.lt_of_lt_of_le e1 b3.size; have HO3 := Lib.hid hown3; clear hown3))
              go_roundw
              case rel =>
                have hnm : (List.take (i + 1) L).map (fun x => ky x.name) = (List.take i L).map (fun x => ky x.name) ++ [nx.data.toList] := by
                  rw [List.take_add_one, HH.out.2.2.2.1, HNX.out]; simp
                refine ⟨i + 1, _, by go_num, hlt, HO3.out, by rw [hnm]; exact seen_next HH.out.1 HIN.out, ?_, e2.trans (b3.mono (by omega))⟩
                rw [List.take_add_one, HH.out.2.2.2.1]
                simp only [Option.toList_some, List.map_append, List.map_cons, List.map_nil]
                rw [goodA_snoc, HH.out.2.1, ← HNX.out, HND.out]
                simp only [Bool.true_and, decide_eq_true_eq]
                rw [List.map_map]
                exact HIN.out
              case measure => simp [intOf]; omega
        · obtain rfl : i = n := by omega
          have p1 : ¬ (i : Int) < (i : Int) := by omega
          have hcc : c = 0 := by
            rw [List.take_of_length_le (by rw [HN.out]; exact Nat.le_refl _)] at hgood
            rw [HCD.out, if_neg, hgood]; · rfl
            rintro ⟨h1, h2⟩
            rw [HKN.out h1] at h2
            cases h2
          have HCC := Lib.hid hcc
          clear hcc hown hseen hgood hlt
          go_wp2_with fail
          go_ret
          exact ⟨by rw [HCC.out]; rfl, BC.out.trans (hbel.mono (by omega))⟩
end Go.Proofs.Ytelhnaphkbpakaa

namespace Go.Proofs.Ytelhnaphkbpakaa
open Go.RowKit
set_option linter.unusedVariables false
set_option maxRecDepth 100000

theorem FOk.nil : FOk [] := ⟨by simp, by simp, by simp, by simp, by simp⟩
set_option maxHeartbeats 1000000 in
theorem newT_calls (S G : Nat) (B : Nat) (w : World) (hB : B ≤ w.heap.size) (h1 : 1 ≤ S) (h2 : S ≤ 2147483647) (h3 : 1 ≤ G) (h4 : G ≤ 4294967295) :
    Calls Try.prog 38 #[.int .i64 (S : Int), .int .i64 (G : Int)] w fun e w' => ∃ tb ab, e = .returned (.tuple #[.pointer (some ⟨tb, 0, none⟩), .int .i64 0]) ∧
      TreeAt B (fun k => w.heap.size ≤ k ∧ k < w'.heap.size) w' tb ⟨[], [], TA.new S G, ab, .slice none 0 0, .slice none 0 0⟩ ∧ Below w.heap.size w w' := by
  have HN := Lib.hid (arNTop_new S G B w hB h1 h2 h3 h4)
  have HB := Lib.hid hB
  clear hB h1 h2 h3 h4
  go_enter Try.func38, Try.ntmps38
  go_wp2_with fail
  refine HN.out.mono ?_
  rintro e w1 ⟨rfl, ha, b1⟩
  have HA := Lib.hid ha
  have HB1 := Lib.hid b1
  clear ha b1
  go_wp2_with fail
  go_ret2
  have l1 := HA.out.lt
  have lB : w.heap.size ≤ w1.heap.size := HB1.out.size
  have bn : Below w1.heap.size w1 (w1.alloc (.cells #[.pointer (some ⟨w.heap.size, 0, none⟩), .int .u64 0, .int .i64 (S : Int), .int .i64 (G : Int), .slice none 0 0, .slice none 0 0] 112)) := (Below.refl _ _).alloc (Nat.le_refl _) _
  refine ⟨w1.heap.size, w.heap.size, rfl, ⟨FOk.nil, rfl, Nat.zero_le _, Nat.zero_le _, ⟨fun k => w.heap.size ≤ k ∧ k < w1.heap.size, HA.out.below bn, fun k hk => ⟨⟨hk.1, by simp; omega⟩, by simp; omega⟩, fun k hk => by cases hk⟩, ⟨⟨lB, by simp⟩, Nat.le_trans HB.out lB⟩, Go.heap_alloc_new w1 _, ⟨⟨[], World.ownsRow_nil _ _ _ _⟩, fun k hk => by cases hk⟩, ⟨⟨[], World.ownsRow_nil _ _ _ _⟩, fun k hk => by cases hk⟩, by simp, by simp [TA.new], by simp, by simp, by simp⟩, HB1.out.trans (bn.mono lB)⟩

/-- Alloc where there is room: a new slot, or the one that was freed last. -/
theorem alloc_room {T : TA (Option Addr)} (ok : (T.ar encN).Ok 1) (h : T.free ≠ [] ∨ T.all.length < T.S) :
    (T.free = [] ∧ ∀ x, T.alloc x = ({ T with all := T.all ++ [(1, true, x)], count := T.count + 1 }, T.all.length + 1, 1, 0)) ∨
    (∃ l k g y, T.free = l ++ [k] ∧ T.all[k]? = some (g, false, y) ∧ g < T.G ∧ ∀ x, T.alloc x = ({ T with all := T.all.set k (g + 1, true, x), free := l, count := T.count + 1 }, k + 1, g + 1, 0)) := by
  cases hg : T.free.getLast? with
  | none =>
    have hf : T.free = [] := List.getLast?_eq_none_iff.1 hg
    rw [hf] at h
    have hl : T.all.length < T.S := by rcases h with h | h; exact absurd rfl h; exact h
    exact .inl ⟨hf, fun x => by unfold TA.alloc; rw [hg]; simp [hl]⟩
  | some k =>
    obtain ⟨l, hl⟩ : ∃ l, T.free = l ++ [k] := by
      obtain ⟨hne, he⟩ := List.getLast?_eq_some_iff.1 hg
      exact ⟨_, he⟩
    obtain ⟨g, t, h1, h2⟩ := ok.free k (by show k ∈ T.free; rw [hl]; simp)
    simp only [TA.ar, List.getElem?_map, Option.map_eq_some_iff] at h1
    obtain ⟨⟨g', u, y⟩, h3, h4⟩ := h1
    simp only [Prod.mk.injEq] at h4
    obtain ⟨rfl, rfl, _⟩ := h4
    refine .inr ⟨l, k, g', y, hl, h3, h2, fun x => ?_⟩
    have hd : T.free.dropLast = l := by rw [hl]; simp
    simp only [TA.alloc, hg, h3, hd]
end Go.Proofs.Ytelhnaphkbpakaa

namespace Go.Proofs.Ytelhnaphkbpakaa
open Go.RowKit
set_option linter.unusedVariables false
set_option maxRecDepth 100000

section
variable {B : Nat} {Q : Nat → Prop} {w w' : World} {tb : Nat} {X : TX}
theorem TreeAt.made (h : TreeAt B Q w tb X) (hok : (X.T.ar encN).Ok 1) {s g nb : Nat} {P : Nd} {hv fv : Value} {Qa : Nat → Prop} {T' : TA (Option Addr)}
    (hbig : X.F.length < 1099511627776)
    (hT : (X.T.free = [] ∧ s = X.T.all.length + 1 ∧ g = 1 ∧ T' = { X.T with all := X.T.all ++ [(1, true, some ⟨nb, 0, none⟩)], count := X.T.count + 1 }) ∨
      (∃ l k g0 y, X.T.free = l ++ [k] ∧ X.T.all[k]? = some (g0, false, y) ∧ s = k + 1 ∧ g = g0 + 1 ∧ T' = { X.T with all := X.T.all.set k (g0 + 1, true, some ⟨nb, 0, none⟩), free := l, count := X.T.count + 1 }))
    (f : FrG [141, 143, 26, 112, 28] Q w w') (hB : B ≤ w.heap.size) (hnb : w.heap.size ≤ nb) (hn : w'.heap[nb]? = some (.cells (ncells P (fun _ => (0, 0)) (X.F.length + 1)) 116 (0, 0))) (hP : Fresh B w' P)
    (hblk : w'.heap[tb]? = some (.cells #[.pointer (some ⟨X.ab, 0, none⟩), .int .u64 ((X.F.length + 1 : Nat) : Int), .int .i64 (T'.S : Int), .int .i64 (T'.G : Int), hv, fv] 112 (0, 0)))
    (har : ArNOf B Qa w' X.ab T') (hqa : ∀ k, Qa k → (Q k ∨ w.heap.size ≤ k ∧ k < w'.heap.size) ∧ k < w'.heap.size) (hqh : ∀ k, hv.ownBlock = some k → ¬ Qa k)
    (hhad : ∃ hc, w'.ownsRow B 26 1 hv T'.all.length hc) (hhq : ∀ k, hv.ownBlock = some k → Q k ∨ w.heap.size ≤ k)
    (hfre : ∃ fc, w'.ownsRow B 28 2 fv T'.free.length fc) (hfq : ∀ k, fv.ownBlock = some k → Q k ∨ w.heap.size ≤ k) :
    TreeAt B (fun k => Q k ∨ w.heap.size ≤ k ∧ k < w'.heap.size) w' tb ⟨Made X.F s g, X.M ++ [(nb, P)], T', X.ab, hv, fv⟩ := by
  have hML := h.rw.lenM
  have hold : ∀ (k : Nat) (x : FN), X.F[k]? = some x → x.live = true → T'.all[x.sl - 1]? = X.T.all[x.sl - 1]? := by
    intro k x hx hl
    obtain ⟨h1, nb', P', h2, h3⟩ := h.rw.slot k x hx hl
    rcases hT with ⟨_, _, _, rfl⟩ | ⟨l, k0, g0, y, _, h4, _, _, rfl⟩
    · show (X.T.all ++ _)[_]? = _
      rw [List.getElem?_append_left (List.getElem?_eq_some_iff.1 h3).1]
    · show (X.T.all.set k0 _)[_]? = _
      rw [List.getElem?_set_ne]
      rintro rfl
      rw [h4] at h3
      cases h3
  have hnew : 1 ≤ s ∧ T'.all[s - 1]? = some (g, true, some ⟨nb, 0, none⟩) := by
    rcases hT with ⟨_, rfl, rfl, rfl⟩ | ⟨l, k0, g0, y, _, h4, rfl, rfl, rfl⟩
    · exact ⟨by omega, by show (X.T.all ++ _)[_]? = _; simp⟩
    · refine ⟨by omega, ?_⟩
      show (X.T.all.set k0 _)[_]? = _
      have := (List.getElem?_eq_some_iff.1 h4).1
      simp [this]
  have hsz := f.size
  have hMget : ∀ k nb' P', X.M[k]? = some (nb', P') → (X.M ++ [(nb, P)])[k]? = some (nb', P') := fun k nb' P' hk => by rw [List.getElem?_append_left (List.getElem?_eq_some_iff.1 hk).1]; exact hk
  have hMlast : (X.M ++ [(nb, P)])[X.F.length]? = some (nb, P) := by rw [← hML]; simp
  refine ⟨h.fok.made s g, ⟨by simp [made_len, hML], ?_, by show (Made X.F s g).length ≤ _; rw [made_len]; omega, ⟨Qa, har, hqa, hqh⟩, ⟨.inl h.rw.own.1, h.rw.own.2⟩, ?_, ⟨hhad, fun k hk => ?_⟩, ⟨hfre, fun k hk => ?_⟩, ?_, ?_, ?_, ?_, ?_⟩⟩
  · show T'.all.length ≤ (Made X.F s g).length
    rw [made_len]
    have := h.rw.few
    rcases hT with ⟨_, _, _, rfl⟩ | ⟨l, k0, g0, y, _, h4, _, _, rfl⟩
    · simp; omega
    · simp; omega
  · show w'.heap[tb]? = some (.cells #[_, .int .u64 ((Made X.F s g).length : Int), _, _, _, _] _ _)
    rw [made_len]
    exact hblk
  · obtain ⟨hc, hr⟩ := hhad
    rcases hhq k hk with h1 | h1
    · exact .inl h1
    · exact .inr ⟨h1, (hr.lt k hk).2⟩
  · obtain ⟨hc, hr⟩ := hfre
    rcases hfq k hk with h1 | h1
    · exact .inl h1
    · exact .inr ⟨h1, (hr.lt k hk).2⟩
  · intro k x hx hl
    rcases made_cases hx with ⟨h1, _⟩ | ⟨rfl, rfl⟩
    · obtain ⟨a1, nb', P', a2, a3⟩ := h.rw.slot k x h1 hl
      exact ⟨a1, nb', P', hMget _ _ _ a2, (hold k x h1 hl).trans a3⟩
    · exact ⟨hnew.1, nb, P, hMlast, hnew.2⟩
  · intro s' g' p hp
    have key : X.T.all[s']? = some (g', true, p) ∨ (s' + 1 = s ∧ g' = g) := by
      rcases hT with ⟨_, rfl, rfl, rfl⟩ | ⟨l, k0, g0, y, _, h4, rfl, rfl, rfl⟩
      · have hp : (X.T.all ++ [(1, true, some ⟨nb, 0, none⟩)])[s']? = some (g', true, p) := hp
        rcases Nat.lt_or_ge s' X.T.all.length with h1 | h1
        · rw [List.getElem?_append_left h1] at hp; exact .inl hp
        · rw [List.getElem?_append_right h1] at hp
          obtain ⟨h2, h3⟩ := List.getElem?_eq_some_iff.1 hp
          simp at h2 h3
          exact .inr ⟨by omega, h3.1.symm⟩
      · have hp : (X.T.all.set k0 (g0 + 1, true, some ⟨nb, 0, none⟩))[s']? = some (g', true, p) := hp
        by_cases e : s' = k0
        · subst e
          have := (List.getElem?_eq_some_iff.1 h4).1
          simp [this] at hp
          exact .inr ⟨rfl, hp.1.symm⟩
        · rw [List.getElem?_set_ne (Ne.symm e)] at hp; exact .inl hp
    rcases key with h1 | ⟨h1, rfl⟩
    · obtain ⟨k, x, a1, a2, a3, a4⟩ := h.rw.used s' g' p h1
      exact ⟨k, x, by show (Made X.F s g)[k]? = _; rw [made_lt (List.getElem?_eq_some_iff.1 a1).1]; exact a1, a2, a3, a4⟩
    · exact ⟨X.F.length, _, made_at, rfl, h1.symm, rfl⟩
  · intro k x nb' P' hx hl hm
    rcases made_cases hx with ⟨h1, h2⟩ | ⟨rfl, rfl⟩
    · have hm' : X.M[k]? = some (nb', P') := by
        have : (X.M ++ [(nb, P)])[k]? = X.M[k]? := List.getElem?_append_left (by rw [hML]; exact h2)
        rw [← this]; exact hm
      obtain ⟨a1, a2, a3, a4⟩ := h.rw.node k x nb' P' h1 hl hm'
      refine ⟨a1, .inl a2, ?_, a4.frg f (by decide) (by decide)⟩
      have e : ncells P' (toH (Made X.F s g) k) (k + 1) = ncells P' (toH X.F k) (k + 1) := by
        have : ∀ j, toH (Made X.F s g) k j = toH X.F k j := fun j => by
          unfold toH
          rw [lk_made h.fok h2 j, hd_made (fun m hm => h.fok.lk_lt hm)]
        unfold ncells
        rw [this 0, this 1, this 2, this 3, this 4]
      rw [e]
      exact f.blk a3 (by decide)
    · have hm : (X.M ++ [(nb, P)])[X.F.length]? = some (nb', P') := hm
      rw [hMlast] at hm
      cases hm
      have e : ncells P (toH (Made X.F s g) X.F.length) (X.F.length + 1) = ncells P (fun _ => (0, 0)) (X.F.length + 1) := by
        have : ∀ j, toH (Made X.F s g) X.F.length j = (0, 0) := fun j => by unfold toH; rw [lk_new]; rfl
        unfold ncells
        rw [this 0, this 1, this 2, this 3, this 4]
      refine ⟨Nat.le_trans hB hnb, .inr ⟨hnb, lt_of_some hn⟩, ?_, hP⟩
      show w'.heap[nb]? = some (.cells (ncells P (toH (Made X.F s g) X.F.length) (X.F.length + 1)) _ _)
      rw [e]; exact hn
  · show ((X.M ++ [(nb, P)]).map Prod.fst).Nodup
    rw [List.map_append]
    refine List.nodup_append.2 ⟨h.rw.nbd, by simp, ?_⟩
    intro a ha b hb
    simp at hb
    subst hb
    obtain ⟨p, hp, rfl⟩ := List.mem_map.1 ha
    have := h.rw.nbl p hp
    omega
  · intro p hp
    rcases List.mem_append.1 hp with hp | hp
    · exact Nat.lt_of_lt_of_le (h.rw.nbl p hp) hsz
    · simp at hp; subst hp; exact lt_of_some hn
end
end Go.Proofs.Ytelhnaphkbpakaa

namespace Go.Proofs.Ytelhnaphkbpakaa
open Go.RowKit
set_option linter.unusedVariables false
set_option maxRecDepth 100000

/-- Where the arena has taken a new node up. -/
structure MkR (B : Nat) (Qa : Nat → Prop) (w W : World) (X : TX) (N : Nd) (s g len nb c7 : Nat) (P : Nd) : Prop where
  fr : FrG [141, 143, 26] Qa w W
  ar : ArNOf B (fun k => Qa k ∨ w.heap.size ≤ k ∧ k < W.heap.size) W X.ab (X.T.alloc (some ⟨nb, 0, none⟩)).1
  node : W.heap[nb]? = some (.cells (ncells P (fun _ => (0, 0)) (len + 1)) 116 (0, 0))
  box : W.heap[c7]? = some (.cells #[.int .u32 (s : Int), .int .u32 (g : Int)] 28 (0, 0))
  res : W.heap[w.heap.size + 1]? = some (.cells #[.int .u32 0, .int .u32 0] 28 (0, 0))
  far : w.heap.size + 1 < nb ∧ w.heap.size + 1 < c7
  own : Fresh w.heap.size W P
  same : P.Same N
/-- The tree behind that: its struct, its two lists; z: how far the arena's new blocks go. -/
structure MkS (B : Nat) (Q Qa : Nat → Prop) (w W : World) (z tb : Nat) (X : TX) (s g len nb c7 : Nat) (P : Nd) (hv fv : Value) (nh nf : Nat) (r0 r1 : Value) : Prop where
  fr : FrG [141, 143, 26, 112, 28] Q w W
  ar : ArNOf B (fun k => Qa k ∨ w.heap.size ≤ k ∧ k < z) W X.ab (X.T.alloc (some ⟨nb, 0, none⟩)).1
  node : W.heap[nb]? = some (.cells (ncells P (fun _ => (0, 0)) (len + 1)) 116 (0, 0))
  box : W.heap[c7]? = some (.cells #[.int .u32 (s : Int), .int .u32 (g : Int)] 28 (0, 0))
  res : W.heap[w.heap.size + 1]? = some (.cells #[r0, r1] 28 (0, 0))
  far : w.heap.size + 1 < nb ∧ w.heap.size + 1 < c7
  own : Fresh w.heap.size W P
  blk : W.heap[tb]? = some (.cells #[.pointer (some ⟨X.ab, 0, none⟩), .int .u64 ((len : Int) + 1), .int .i64 (X.T.S : Int), .int .i64 (X.T.G : Int), hv, fv] 112 (0, 0))
  qt : Q tb
  had : ∃ hc, W.ownsRow B 26 1 hv nh hc
  hq : ∀ k, hv.ownBlock = some k → (Q k ∨ w.heap.size ≤ k) ∧ ¬ Qa k ∧ (w.heap.size ≤ k → z ≤ k)
  fre : ∃ fc, W.ownsRow B 28 2 fv nf fc
  fq : ∀ k, fv.ownBlock = some k → Q k ∧ k < w.heap.size
  zz : z ≤ W.heap.size ∧ w.heap.size + 1 < z
  qa : ∀ k, Qa k → Q k ∧ k < w.heap.size
section
variable {B : Nat} {Q Qa : Nat → Prop} {w W W' : World} {z tb : Nat} {X : TX} {s g len nb c7 : Nat} {P : Nd} {hv fv : Value} {nh nf : Nat} {r0 r1 : Value}
theorem MkS.below (h : MkS B Q Qa w W z tb X s g len nb c7 P hv fv nh nf r0 r1) (b : Below W.heap.size W W') : MkS B Q Qa w W' z tb X s g len nb c7 P hv fv nh nf r0 r1 := by
  have f : FrG [] (fun _ => False) W W' := FrG.of_below b
  exact ⟨h.fr.andBelow b, h.ar.below b, f.blk h.node (by simp), f.blk h.box (by simp), f.blk h.res (by simp), h.far, h.own.below b, f.blk h.blk (by simp), h.qt, by obtain ⟨hc, hr⟩ := h.had; exact ⟨hc, f.row hr (by simp)⟩, h.hq, by obtain ⟨fc, hr⟩ := h.fre; exact ⟨fc, f.row hr (by simp)⟩, h.fq, ⟨Nat.le_trans h.zz.1 b.size, h.zz.2⟩, h.qa⟩
theorem mks_start (h : TreeAt B Q w tb X) {N : Nd} (hqa : ∀ k, Qa k → Q k ∧ k < w.heap.size) (hqh : ∀ k, X.hv.ownBlock = some k → ¬ Qa k) (hm : MkR B Qa w W X N s g len nb c7 P) (hlen : len = X.F.length) (hz : w.heap.size + 1 < W.heap.size) :
    MkS B Q Qa w (W.setCell ⟨tb, 1, none⟩ (.int .u64 ((len : Int) + 1))) W.heap.size tb X s g len nb c7 P X.hv X.fv X.T.all.length X.T.free.length (.int .u32 0) (.int .u32 0) := by
  have hb := hm.fr.blk h.rw.blk (by decide)
  have f1 : FrG [112] (fun k => k = tb) W (W.setCell ⟨tb, 1, none⟩ (.int .u64 ((len : Int) + 1))) := (FrG.refl [112] (fun k => k = tb) W).set (a := ⟨tb, 1, none⟩) (.inl rfl) hb (List.mem_singleton.2 rfl) _
  refine ⟨(hm.fr.mono (T' := [141, 143, 26, 112, 28]) (by decide) (fun k hk => (hqa k hk).1)).set (a := ⟨tb, 1, none⟩) (.inl h.rw.own.1) hb (by decide) _, hm.ar.kept f1 (by decide) (by decide) (by decide), f1.blk hm.node (by decide), f1.blk hm.box (by decide), f1.blk hm.res (by decide), hm.far, hm.own.frg f1 (by decide) (by decide), set_blk hb 1 _, h.rw.own.1, ?_, ?_, ?_, ?_, ⟨by simp, hz⟩, hqa⟩
  · obtain ⟨hc, hr⟩ := h.rw.had.1; exact ⟨hc, f1.row (hm.fr.rowQ hr hqh) (by decide)⟩
  · intro k hk
    obtain ⟨hc, hr⟩ := h.rw.had.1
    have := (hr.lt k hk).2
    exact ⟨.inl (h.rw.had.2 k hk), hqh k hk, fun hh => by omega⟩
  · obtain ⟨fc, hr⟩ := h.rw.fre.1; exact ⟨fc, f1.row (hm.fr.row hr (by decide)) (by decide)⟩
  · intro k hk
    obtain ⟨fc, hr⟩ := h.rw.fre.1
    exact ⟨h.rw.fre.2 k hk, (hr.lt k hk).2⟩
/-- An append onto the list of how many there were; then the struct's field. -/
theorem MkS.push (h : MkS B Q Qa w W z tb X s g len nb c7 P hv fv nh nf r0 r1) (hg : W.grownBy W' hv.ownBlock) {gg cap : Nat} {cs : List Value} (ho : W'.ownsRow B 26 1 (.slice (some ⟨gg, 0, none⟩) (nh + 1) cap) (nh + 1) cs) (hat : hv.ownBlock = some gg ∨ z ≤ gg) :
    MkS B Q Qa w (W'.setCell ⟨tb, 4, none⟩ (.slice (some ⟨gg, 0, none⟩) (nh + 1) cap)) z tb X s g len nb c7 P (.slice (some ⟨gg, 0, none⟩) (nh + 1) cap) fv (nh + 1) nf r0 r1 := by
  obtain ⟨hc, hr⟩ := h.had
  have fg : FrG [26] (fun k => hv.ownBlock = some k) W W' := (FrG.refl [26] (fun k => hv.ownBlock = some k) W).append hr (fun k hk => .inl hk) (List.mem_singleton.2 rfl) hg
  have hb := fg.blk h.blk (by decide)
  have f1 : FrG [112] (fun k => k = tb) W' (W'.setCell ⟨tb, 4, none⟩ (.slice (some ⟨gg, 0, none⟩) (nh + 1) cap)) := (FrG.refl [112] (fun k => k = tb) W').set (a := ⟨tb, 4, none⟩) (.inl rfl) hb (List.mem_singleton.2 rfl) _
  have hna : ∀ k, (Qa k ∨ w.heap.size ≤ k ∧ k < z) → ¬ hv.ownBlock = some k := fun k hk e => by
    obtain ⟨_, h2, h3⟩ := h.hq k e
    rcases hk with hk | hk
    · exact h2 hk
    · have := h3 hk.1; omega
  refine ⟨((h.fr.trans (fg.mono (T' := [141, 143, 26, 112, 28]) (by decide) (fun k hk => hk)) (fun k hk => (h.hq k hk).1))).set (a := ⟨tb, 4, none⟩) (.inl h.qt) hb (by decide) _, (h.ar.keptQ fg hna).kept f1 (by decide) (by decide) (by decide), f1.blk (fg.blk h.node (by decide)) (by decide), f1.blk (fg.blk h.box (by decide)) (by decide), f1.blk (fg.blk h.res (by decide)) (by decide), h.far, (h.own.frg fg (by decide) (by decide)).frg f1 (by decide) (by decide), set_blk hb 4 _, h.qt, ⟨cs, f1.row ho (by decide)⟩, ?_, ?_, h.fq, ⟨Nat.le_trans h.zz.1 (by simpa using hg.size), h.zz.2⟩, h.qa⟩
  · intro k hk
    cases hk
    rcases hat with e | e
    · exact h.hq gg e
    · exact ⟨.inr (Nat.le_trans (Nat.le_trans (Nat.le_succ _) (Nat.le_of_lt h.zz.2)) e), fun hq => absurd (h.qa gg hq).2 (Nat.not_lt.2 (Nat.le_trans (Nat.le_trans (Nat.le_succ _) (Nat.le_of_lt h.zz.2)) e)), fun _ => e⟩
  · obtain ⟨fc, hf⟩ := h.fre; exact ⟨fc, f1.row (fg.row hf (by decide)) (by decide)⟩
/-- The last of the free ones taken off. -/
theorem MkS.pop (h : MkS B Q Qa w W z tb X s g len nb c7 P hv fv nh nf r0 r1) {fv' : Value} {nf' : Nat} (hr : ∃ fc, W.ownsRow B 28 2 fv' nf' fc) (hq : ∀ k, fv'.ownBlock = some k → fv.ownBlock = some k) :
    MkS B Q Qa w (W.setCell ⟨tb, 5, none⟩ fv') z tb X s g len nb c7 P hv fv' nh nf' r0 r1 := by
  have f1 : FrG [112] (fun k => k = tb) W (W.setCell ⟨tb, 5, none⟩ fv') := (FrG.refl [112] (fun k => k = tb) W).set (a := ⟨tb, 5, none⟩) (.inl rfl) h.blk (List.mem_singleton.2 rfl) _
  refine ⟨h.fr.set (a := ⟨tb, 5, none⟩) (.inl h.qt) h.blk (by decide) _, h.ar.kept f1 (by decide) (by decide) (by decide), f1.blk h.node (by decide), f1.blk h.box (by decide), f1.blk h.res (by decide), h.far, h.own.frg f1 (by decide) (by decide), set_blk h.blk 5 _, h.qt, ?_, h.hq, ?_, fun k hk => h.fq k (hq k hk), ⟨by simpa using h.zz.1, h.zz.2⟩, h.qa⟩
  · obtain ⟨hc, hr⟩ := h.had; exact ⟨hc, f1.row hr (by decide)⟩
  · obtain ⟨fc, hr⟩ := hr; exact ⟨fc, f1.row hr (by decide)⟩
/-- How many there were, of a slot: written. -/
theorem MkS.count {gg cap : Nat} (h : MkS B Q Qa w W z tb X s g len nb c7 P (.slice (some ⟨gg, 0, none⟩) nh cap) fv nh nf r0 r1) (i : Nat) (v : Value) :
    MkS B Q Qa w (W.setCell ⟨gg, i, none⟩ v) z tb X s g len nb c7 P (.slice (some ⟨gg, 0, none⟩) nh cap) fv nh nf r0 r1 := by
  obtain ⟨hc, hr⟩ := h.had
  obtain ⟨cur, hcur, _⟩ := ownsRow_blk hr
  have f1 : FrG [26] (fun k => k = gg) W (W.setCell ⟨gg, i, none⟩ v) := (FrG.refl [26] (fun k => k = gg) W).set (a := ⟨gg, i, none⟩) (.inl rfl) hcur (List.mem_singleton.2 rfl) _
  have hna : ∀ k, (Qa k ∨ w.heap.size ≤ k ∧ k < z) → ¬ k = gg := fun k hk e => by
    subst e
    obtain ⟨_, h2, h3⟩ := h.hq k rfl
    rcases hk with hk | hk
    · exact h2 hk
    · have := h3 hk.1; omega
  refine ⟨h.fr.set (a := ⟨gg, i, none⟩) (h.hq gg rfl).1 hcur (by decide) _, h.ar.keptQ f1 hna, f1.blk h.node (by decide), f1.blk h.box (by decide), f1.blk h.res (by decide), h.far, h.own.frg f1 (by decide) (by decide), f1.blk h.blk (by decide), h.qt, ⟨_, (hr.stored i v).1⟩, h.hq, ?_, h.fq, ⟨by simpa using h.zz.1, h.zz.2⟩, h.qa⟩
  obtain ⟨fc, hf⟩ := h.fre; exact ⟨fc, f1.row hf (by decide)⟩
/-- The result's box written. -/
theorem MkS.told (h : MkS B Q Qa w W z tb X s g len nb c7 P hv fv nh nf r0 r1) (a b : Value) :
    MkS B Q Qa w ((W.setCell ⟨w.heap.size + 1, 0, none⟩ a).setCell ⟨w.heap.size + 1, 1, none⟩ b) z tb X s g len nb c7 P hv fv nh nf a b := by
  have h1 := set_blk h.res 0 a
  have f1 : FrG [28] (fun k => k = w.heap.size + 1) W ((W.setCell ⟨w.heap.size + 1, 0, none⟩ a).setCell ⟨w.heap.size + 1, 1, none⟩ b) := ((FrG.refl [28] (fun k => k = w.heap.size + 1) W).set (a := ⟨w.heap.size + 1, 0, none⟩) (.inl rfl) h.res (List.mem_singleton.2 rfl) _).set (a := ⟨w.heap.size + 1, 1, none⟩) (.inl rfl) h1 (List.mem_singleton.2 rfl) _
  have hl : w.heap.size ≤ w.heap.size + 1 := by omega
  refine ⟨(h.fr.setNew (a := ⟨w.heap.size + 1, 0, none⟩) hl _).setNew (a := ⟨w.heap.size + 1, 1, none⟩) hl _, h.ar.kept f1 (by decide) (by decide) (by decide), f1.blk h.node (by decide), f1.blkQ h.box (by have := h.far.2; omega), set_blk h1 1 _, h.far, h.own.frg f1 (by decide) (by decide), f1.blk h.blk (by decide), h.qt, ?_, h.hq, ?_, h.fq, ⟨by simpa using h.zz.1, h.zz.2⟩, h.qa⟩
  · obtain ⟨hc, hr⟩ := h.had; exact ⟨hc, f1.row hr (by decide)⟩
  · obtain ⟨fc, hr⟩ := h.fre; exact ⟨fc, f1.rowQ hr (fun k hk e => by have := (h.fq k hk).2; omega)⟩
theorem MkS.pblk (h : MkS B Q Qa w W z tb X s g len nb c7 P hv fv nh nf r0 r1) (hg : W.grownBy W' hv.ownBlock) : W'.heap[tb]? = some (.cells #[.pointer (some ⟨X.ab, 0, none⟩), .int .u64 ((len : Int) + 1), .int .i64 (X.T.S : Int), .int .i64 (X.T.G : Int), hv, fv] 112 (0, 0)) := by
  obtain ⟨hc, hr⟩ := h.had
  exact ((FrG.refl [26] (fun k => hv.ownBlock = some k) W).append hr (fun k hk => .inl hk) (List.mem_singleton.2 rfl) hg).blk h.blk (by decide)
theorem MkS.hcell {gg cap : Nat} (h : MkS B Q Qa w W z tb X s g len nb c7 P (.slice (some ⟨gg, 0, none⟩) nh cap) fv nh nf r0 r1) {i : Nat} (hi : i < nh) : ∃ v, W.cell? ⟨gg, i, none⟩ = some v ∧ W.frozen? ⟨gg, i, none⟩ = false := by
  obtain ⟨hc, hr⟩ := h.had
  have hl := hr.1
  have hl2 : i < hc.length := by omega
  exact ⟨hc[i], (hr.cellAt i (by omega)).trans (List.getElem?_eq_getElem hl2), hr.frozenAt i⟩
theorem MkS.done (h : TreeAt B Q w tb X) (hok : (X.T.ar encN).Ok 1) (hbig : X.F.length < 1099511627776) (hS : MkS B Q Qa w W z tb X s g X.F.length nb c7 P hv fv nh nf r0 r1)
    (hT : (X.T.free = [] ∧ s = X.T.all.length + 1 ∧ g = 1 ∧ nh = X.T.all.length + 1 ∧ nf = X.T.free.length ∧ X.T.alloc (some ⟨nb, 0, none⟩) = ({ X.T with all := X.T.all ++ [(1, true, some ⟨nb, 0, none⟩)], count := X.T.count + 1 }, s, g, 0)) ∨
      (∃ l k g0 y, X.T.free = l ++ [k] ∧ X.T.all[k]? = some (g0, false, y) ∧ s = k + 1 ∧ g = g0 + 1 ∧ nh = X.T.all.length ∧ nf = l.length ∧ X.T.alloc (some ⟨nb, 0, none⟩) = ({ X.T with all := X.T.all.set k (g0 + 1, true, some ⟨nb, 0, none⟩), free := l, count := X.T.count + 1 }, s, g, 0))) :
    TreeAt B (fun k => Q k ∨ w.heap.size ≤ k ∧ k < W.heap.size) W tb ⟨Made X.F s g, X.M ++ [(nb, P)], (X.T.alloc (some ⟨nb, 0, none⟩)).1, X.ab, hv, fv⟩ ∧ FrG [141, 143, 26, 112, 28] Q w W := by
  have hBw : B ≤ w.heap.size := Nat.le_trans h.rw.own.2 (Nat.le_of_lt (lt_of_some h.rw.blk))
  have hnb : w.heap.size ≤ nb := by have := hS.far.1; omega
  have hhq := fun k hk => (hS.hq k hk).1
  have hqh : ∀ k, hv.ownBlock = some k → ¬ (Qa k ∨ w.heap.size ≤ k ∧ k < z) := fun k hk e => by
    obtain ⟨_, h2, h3⟩ := hS.hq k hk
    rcases e with e | e
    · exact h2 e
    · have := h3 e.1; omega
  have hqa : ∀ k, (Qa k ∨ w.heap.size ≤ k ∧ k < z) → (Q k ∨ w.heap.size ≤ k ∧ k < W.heap.size) ∧ k < W.heap.size := fun k hk => by
    rcases hk with hk | hk
    · exact ⟨.inl (hS.qa k hk).1, Nat.lt_of_lt_of_le (hS.qa k hk).2 hS.fr.size⟩
    · exact ⟨.inr ⟨hk.1, Nat.lt_of_lt_of_le hk.2 hS.zz.1⟩, Nat.lt_of_lt_of_le hk.2 hS.zz.1⟩
  have hP : Fresh B W P := hS.own.mono hBw
  refine ⟨?_, hS.fr⟩
  rcases hT with ⟨t1, t2, t3, t4, t5, t6⟩ | ⟨l, k, g0, y, t1, t2, t3, t4, t5, t6, t7⟩
  · have e1 : (X.T.alloc (some ⟨nb, 0, none⟩)).1 = { X.T with all := X.T.all ++ [(1, true, some ⟨nb, 0, none⟩)], count := X.T.count + 1 } := by rw [t6]
    have har := hS.ar
    rw [e1] at har ⊢
    exact h.made hok hbig (.inl ⟨t1, t2, t3, rfl⟩) hS.fr hBw hnb hS.node hP hS.blk har hqa hqh (by have := hS.had; rw [t4] at this; simpa using this) hhq (by have := hS.fre; rw [t5] at this; exact this) (fun k hk => .inl (hS.fq k hk).1)
  · have e1 : (X.T.alloc (some ⟨nb, 0, none⟩)).1 = { X.T with all := X.T.all.set k (g0 + 1, true, some ⟨nb, 0, none⟩), free := l, count := X.T.count + 1 } := by rw [t7]
    have har := hS.ar
    rw [e1] at har ⊢
    exact h.made hok hbig (.inr ⟨l, k, g0, y, t1, t2, t3, t4, rfl⟩) hS.fr hBw hnb hS.node hP hS.blk har hqa hqh (by have := hS.had; rw [t5] at this; simpa using this) hhq (by have := hS.fre; rw [t6] at this; exact this) (fun k hk => .inl (hS.fq k hk).1)
end
end Go.Proofs.Ytelhnaphkbpakaa

