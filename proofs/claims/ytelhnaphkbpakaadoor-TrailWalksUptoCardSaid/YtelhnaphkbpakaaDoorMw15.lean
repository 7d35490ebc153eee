/- A tree of nodes in memory: an arena of nodes, each with five links; as data a forest. A tree's links, read: follow, First, Count, Left. A tree's way upwards: is a node beneath another one; which child is it. A tree's links, written: set. A node's number; what a node has. Lists of data laid out as cells, k cells each: lengths, places, one cell set. No program. The reference's forest in memory: a row of nodes, each with its handle, what it has, its parent, the row of its children, whether it lives. -/
import Derived.RegionTactic
import Derived.IntWalk
import Derived.BigRegion
import Derived.ChangeAlike
import Derived.StillTailTactics
import Derived.Deep.LoopGhost
import Derived.Outline
import Derived.WalkKit
import Derived.Test.YtelhnaphkbpakaaDoorMw14
namespace Go.Proofs.YtelhnaphkbpakaaDoor
open Go.RowKit
set_option linter.unusedVariables false
set_option maxRecDepth 100000

/-- A tree as data: its forest; where each node lies and what it has; the arena; the two lists. -/
structure TX where
  F : For
  M : List (Nat × Nd)
  T : TA (Option Addr)
  ab : Nat
  hv : Value
  fv : Value
def toH (F : For) (k j : Nat) : Nat × Nat := hd F (lkO F k j)
def ncells (P : Nd) (f : Nat → Nat × Nat) (b : Nat) : Array Value :=
  #[.int .i64 P.kind, .string P.name, .slice P.da P.data.length P.dc, .slice P.aa P.L.length P.ac, .int .u32 P.slot, .int .u32 P.gen,
    .int .u32 ((f 0).1 : Int), .int .u32 ((f 0).2 : Int), .int .u32 ((f 1).1 : Int), .int .u32 ((f 1).2 : Int), .int .u32 ((f 2).1 : Int), .int .u32 ((f 2).2 : Int),
    .int .u32 ((f 3).1 : Int), .int .u32 ((f 3).2 : Int), .int .u32 ((f 4).1 : Int), .int .u32 ((f 4).2 : Int), .int .u64 (b : Int)]
def updF (f : Nat → Nat × Nat) (j : Nat) (p : Nat × Nat) : Nat → Nat × Nat := fun j' => if j' = j then p else f j'
def updH (L : Nat → Nat → Nat × Nat) (k j : Nat) (p : Nat × Nat) : Nat → Nat → Nat × Nat := fun k' j' => if k' = k ∧ j' = j then p else L k' j'
theorem updH_same (L : Nat → Nat → Nat × Nat) (k j : Nat) (p : Nat × Nat) : updH L k j p k = updF (L k) j p := by funext j'; simp [updH, updF]
theorem updH_other {L : Nat → Nat → Nat × Nat} {k j : Nat} (p : Nat × Nat) {m : Nat} (h : m ≠ k) : updH L k j p m = L m := by funext j'; simp [updH, h]
theorem hd_updO (F : For) (L : Nat → Nat → Option Nat) (k j : Nat) (o : Option Nat) (k' j' : Nat) : hd F (updO L k j o k' j') = updH (fun a b => hd F (L a b)) k j (hd F o) k' j' := by
  unfold updO updH; split <;> rfl
theorem ncells_set (P : Nd) (f : Nat → Nat × Nat) (b j : Nat) (hj : j < 5) (p : Nat × Nat) :
    ((ncells P f b).setIfInBounds (6 + j * 2) (.int .u32 (p.1 : Int))).setIfInBounds (6 + j * 2 + 1) (.int .u32 (p.2 : Int)) = ncells P (updF f j p) b := by
  match j, hj with
  | 0, _ => rfl
  | 1, _ => rfl
  | 2, _ => rfl
  | 3, _ => rfl
  | 4, _ => rfl
theorem ncells_at (P : Nd) (f : Nat → Nat × Nat) (b j : Nat) (hj : j < 5) : (ncells P f b)[6 + j * 2]? = some (.int .u32 ((f j).1 : Int)) ∧ (ncells P f b)[6 + j * 2 + 1]? = some (.int .u32 ((f j).2 : Int)) := by
  match j, hj with
  | 0, _ => exact ⟨rfl, rfl⟩
  | 1, _ => exact ⟨rfl, rfl⟩
  | 2, _ => exact ⟨rfl, rfl⟩
  | 3, _ => exact ⟨rfl, rfl⟩
  | 4, _ => exact ⟨rfl, rfl⟩
theorem ncells_one (P : Nd) (f : Nat → Nat × Nat) (b : Nat) : (ncells P f b).size = 17 := rfl

/-- The types of what a tree owns. -/
def TT : List TypeId := [145, 150, 29, 120, 112, 31]

/-- A tree in memory, whatever its links are. -/
structure TreeRw (B : Nat) (Q : Nat → Prop) (w : World) (tb : Nat) (X : TX) (Lf : Nat → Nat → Nat × Nat) : Prop where
  lenM : X.M.length = X.F.length
  few : X.T.all.length ≤ X.F.length
  big : X.F.length ≤ 1099511627776
  ar : ∃ Qa, ArNOf B Qa w X.ab X.T ∧ (∀ k, Qa k → Q k ∧ k < w.heap.size) ∧ ∀ k, X.hv.ownBlock = some k → ¬ Qa k
  own : Q tb ∧ B ≤ tb
  blk : w.heap[tb]? = some (.cells #[.pointer (some ⟨X.ab, 0, none⟩), .int .u64 (X.F.length : Int), .int .i64 (X.T.S : Int), .int .i64 (X.T.G : Int), X.hv, X.fv] 112 (0, 0))
  had : (∃ hc, w.ownsRow B 29 1 X.hv X.T.all.length hc) ∧ ∀ k, X.hv.ownBlock = some k → Q k
  fre : (∃ fc, w.ownsRow B 31 2 X.fv X.T.free.length fc) ∧ ∀ k, X.fv.ownBlock = some k → Q k
  slot : ∀ (k : Nat) (x : FN), X.F[k]? = some x → x.live = true → 1 ≤ x.sl ∧ ∃ nb P, X.M[k]? = some (nb, P) ∧ X.T.all[x.sl - 1]? = some (x.gn, true, some ⟨nb, 0, none⟩)
  used : ∀ (s g : Nat) p, X.T.all[s]? = some (g, true, p) → ∃ (k : Nat) (x : FN), X.F[k]? = some x ∧ x.live = true ∧ x.sl = s + 1 ∧ x.gn = g
  node : ∀ (k : Nat) (x : FN) nb P, X.F[k]? = some x → x.live = true → X.M[k]? = some (nb, P) → B ≤ nb ∧ Q nb ∧ w.heap[nb]? = some (.cells (ncells P (Lf k) (k + 1)) 120 (0, 0)) ∧ Fresh B w P
  nbd : (X.M.map Prod.fst).Nodup
  nbl : ∀ p ∈ X.M, p.1 < w.heap.size
structure TreeAt (B : Nat) (Q : Nat → Prop) (w : World) (tb : Nat) (X : TX) : Prop where
  fok : FOk X.F
  rw : TreeRw B Q w tb X (toH X.F)

section
variable {B : Nat} {Q : Nat → Prop} {w w' : World} {tb : Nat} {X : TX} {Lf : Nat → Nat → Nat × Nat}
theorem Fresh.frg {B : Nat} {w w' : World} {N : Nd} {T : List TypeId} {Q : Nat → Prop} (h : Fresh B w N) (f : FrG T Q w w') (h1 : 128 ∉ T) (h2 : 114 ∉ T) : Fresh B w' N :=
  ⟨⟨by obtain ⟨cap, hr⟩ := h.data.row; exact ⟨cap, f.row hr h1⟩, h.data.bnd, h.data.len⟩, h.dc, ⟨by obtain ⟨cap, hr⟩ := h.attrs.row; exact ⟨cap, f.row hr h2⟩, fun x hx => ⟨⟨by obtain ⟨cap, hr⟩ := (h.attrs.val x hx).1.row; exact ⟨cap, f.row hr h1⟩, (h.attrs.val x hx).1.bnd, (h.attrs.val x hx).1.len⟩, (h.attrs.val x hx).2⟩, h.attrs.nam⟩, h.ac, h.nam, h.len⟩
theorem TreeRw.below (h : TreeRw B Q w tb X Lf) (b : Below w.heap.size w w') : TreeRw B Q w' tb X Lf := by
  have f : FrG [] (fun _ => False) w w' := FrG.of_below b
  refine ⟨h.lenM, h.few, h.big, ?_, h.own, f.blk h.blk (by simp), ⟨?_, h.had.2⟩, ⟨?_, h.fre.2⟩, h.slot, h.used, ?_, h.nbd, fun p hp => Nat.lt_of_lt_of_le (h.nbl p hp) b.size⟩
  · obtain ⟨Qa, h1, h2, h3⟩ := h.ar; exact ⟨Qa, h1.below b, fun k hk => ⟨(h2 k hk).1, Nat.lt_of_lt_of_le (h2 k hk).2 b.size⟩, h3⟩
  · obtain ⟨hc, h1⟩ := h.had.1; exact ⟨hc, f.row h1 (by simp)⟩
  · obtain ⟨hc, h1⟩ := h.fre.1; exact ⟨hc, f.row h1 (by simp)⟩
  · intro k x nb P h1 h2 h3
    obtain ⟨a1, a2, a3, a4⟩ := h.node k x nb P h1 h2 h3
    exact ⟨a1, a2, f.blk a3 (by simp), a4.frg f (by simp) (by simp)⟩
theorem TreeAt.below (h : TreeAt B Q w tb X) (b : Below w.heap.size w w') : TreeAt B Q w' tb X := ⟨h.fok, h.rw.below b⟩
theorem TreeRw.mono {Q' : Nat → Prop} (h : TreeRw B Q w tb X Lf) (hQ : ∀ k, Q k → Q' k) : TreeRw B Q' w tb X Lf :=
  ⟨h.lenM, h.few, h.big, by obtain ⟨Qa, h1, h2, h3⟩ := h.ar; exact ⟨Qa, h1, fun k hk => ⟨hQ k (h2 k hk).1, (h2 k hk).2⟩, h3⟩, ⟨hQ _ h.own.1, h.own.2⟩, h.blk, ⟨h.had.1, fun k hk => hQ k (h.had.2 k hk)⟩, ⟨h.fre.1, fun k hk => hQ k (h.fre.2 k hk)⟩, h.slot, h.used,
    fun k x nb P h1 h2 h3 => by obtain ⟨a1, a2, a3, a4⟩ := h.node k x nb P h1 h2 h3; exact ⟨a1, hQ _ a2, a3, a4⟩, h.nbd, h.nbl⟩
/-- A handle that lives, in the arena. -/
theorem TreeRw.at_live (h : TreeRw B Q w tb X Lf) {k : Nat} {x : FN} (hx : X.F[k]? = some x) (hl : x.live = true) : ∃ nb P, X.M[k]? = some (nb, P) ∧ X.T.at x.sl x.gn = some (some ⟨nb, 0, none⟩) ∧ 1 ≤ x.sl ∧ x.sl ≤ 2147483647 ∧ x.gn ≤ 4294967295 := by
  obtain ⟨h1, nb, P, h2, h3⟩ := h.slot k x hx hl
  refine ⟨nb, P, h2, ?_, h1, ?_⟩
  · unfold TA.at
    rw [if_neg (by omega), h3]
    simp [slotWho]
  · obtain ⟨Qa, ⟨av, fv, ha, _⟩, _⟩ := h.ar
    have e := TA.ar_get (enc := encN) h3
    obtain ⟨b1, b2, b3, b4⟩ := u32_bound ha.ok e
    omega
/-- A handle that no node bears that lives. -/
def NoH (F : For) (s g : Nat) : Prop := ∀ (k : Nat) (x : FN), F[k]? = some x → x.live = true → x.sl = s → x.gn = g → False
theorem TreeRw.at_dead (h : TreeRw B Q w tb X Lf) {s g : Nat} (hn : NoH X.F s g) : X.T.at s g = none := by
  cases e : X.T.at s g with
  | none => rfl
  | some p =>
    obtain ⟨h1, h2⟩ := TA.at_some e
    obtain ⟨k, x, a1, a2, a3, a4⟩ := h.used _ _ _ h2
    exact (hn k x a1 a2 (by omega) a4).elim
theorem TreeRw.no_zero (h : TreeRw B Q w tb X Lf) (g : Nat) : NoH X.F 0 g := fun k x hx hl e _ => by have := (h.slot k x hx hl).1; omega
theorem TreeRw.hinj (h : TreeRw B Q w tb X Lf) {k m : Nat} {x y : FN} (hx : X.F[k]? = some x) (hy : X.F[m]? = some y) (hxl : x.live = true) (hyl : y.live = true) (e : x.sl = y.sl) : k = m := by
  obtain ⟨_, nb, P, h1, h2⟩ := h.slot k x hx hxl
  obtain ⟨_, nb', P', h3, h4⟩ := h.slot m y hy hyl
  rw [e, h4] at h2
  simp at h2
  have h5 : (X.M.map Prod.fst)[k]? = (X.M.map Prod.fst)[m]? := by rw [List.getElem?_map, List.getElem?_map, h1, h3]; simp [h2.2]
  have hk : k < (X.M.map Prod.fst).length := by rw [List.length_map]; exact (List.getElem?_eq_some_iff.1 h1).1
  have hm : m < (X.M.map Prod.fst).length := by rw [List.length_map]; exact (List.getElem?_eq_some_iff.1 h3).1
  rw [List.getElem?_eq_getElem hk, List.getElem?_eq_getElem hm] at h5
  exact (List.getElem_inj h.nbd).1 (Option.some.inj h5)
/-- Get of a node that lives; of another handle. -/
theorem TreeRw.get_live (h : TreeRw B Q w tb X Lf) {k : Nat} {x : FN} (hx : X.F[k]? = some x) (hl : x.live = true) {nb : Nat} {P : Nd} (hm : X.M[k]? = some (nb, P)) :
    Calls Tryd.prog 76 #[.pointer (some ⟨X.ab, 0, none⟩), .agg #[.int .u32 (x.sl : Int), .int .u32 (x.gn : Int)]] w fun e w' => e = .returned (.tuple #[.pointer (some ⟨nb, 0, none⟩), .int .i64 0]) ∧ Below w.heap.size w w' := by
  obtain ⟨nb', P', h1, h2, h3, h4, h5⟩ := h.at_live hx hl
  rw [hm] at h1
  cases h1
  obtain ⟨Qa, ha, _⟩ := h.ar
  refine (arNTop_get ha x.sl x.gn (by omega) (by omega)).mono ?_
  rintro e w' ⟨he, hb⟩
  have e1 : X.T.get (none : Option Addr) x.sl x.gn = (some ⟨nb, 0, none⟩, 0) := by unfold TA.get; rw [h2]
  rw [e1] at he
  exact ⟨he _ rfl, hb⟩
theorem TreeRw.get_dead (h : TreeRw B Q w tb X Lf) {s g : Nat} (hs : s ≤ 4294967295) (hg : g ≤ 4294967295) (hn : NoH X.F s g) :
    Calls Tryd.prog 76 #[.pointer (some ⟨X.ab, 0, none⟩), .agg #[.int .u32 (s : Int), .int .u32 (g : Int)]] w fun e w' => e = .returned (.tuple #[.pointer none, .int .i64 51]) ∧ Below w.heap.size w w' := by
  obtain ⟨Qa, ha, _⟩ := h.ar
  refine (arNTop_get ha s g hs hg).mono ?_
  rintro e w' ⟨he, hb⟩
  have e1 : X.T.get (none : Option Addr) s g = (none, 51) := by unfold TA.get; rw [h.at_dead hn]
  rw [e1] at he
  exact ⟨he _ rfl, hb⟩
end
end Go.Proofs.YtelhnaphkbpakaaDoor

namespace Go.Proofs.YtelhnaphkbpakaaDoor
open Go.RowKit
set_option linter.unusedVariables false
set_option maxRecDepth 100000

theorem alloc2_blk (w : World) (a b : Obj) : ((w.alloc a).alloc b).heap[w.heap.size + 1]? = some b := by
  have := Go.heap_alloc_new (w.alloc a) b; rwa [World.size_alloc] at this
section
variable {B : Nat} {Q : Nat → Prop} {w w' : World} {tb : Nat} {X : TX} {Lf : Nat → Nat → Nat × Nat}
set_option maxHeartbeats 1000000 in
theorem follow_live (h : TreeRw B Q w tb X Lf) {k : Nat} {x : FN} (hx : X.F[k]? = some x) (hl : x.live = true) (j : Nat) (hj : j < 5) :
    Calls Tryd.prog 90 #[.pointer (some ⟨tb, 0, none⟩), .agg #[.int .u32 (x.sl : Int), .int .u32 (x.gn : Int)], .int .i64 (j : Int)] w fun e w' =>
      e = .returned (.tuple #[.agg #[.int .u32 ((Lf k j).1 : Int), .int .u32 ((Lf k j).2 : Int)], .int .i64 0]) ∧ Below w.heap.size w w' := by
  obtain ⟨nb, P, hm, _⟩ := h.at_live hx hl
  have hnode := (h.node k x nb P hx hl hm).2.2.1
  have HG : Hid (∀ W, Below w.heap.size w W → Calls Tryd.prog 76 #[.pointer (some ⟨X.ab, 0, none⟩), .agg #[.int .u32 (x.sl : Int), .int .u32 (x.gn : Int)]] W fun e w' => e = .returned (.tuple #[.pointer (some ⟨nb, 0, none⟩), .int .i64 0]) ∧ Below W.heap.size W w') :=
    Lib.hid (fun W b => (h.below b).get_live hx hl hm)
  have c0 := cell_blk h.blk 0 rfl
  have ltb := lt_of_some h.blk
  have lnb := lt_of_some hnode
  have n0 := cell_blk hnode _ (ncells_at P (Lf k) (k + 1) j hj).1
  have n1 := cell_blk hnode _ (ncells_at P (Lf k) (k + 1) j hj).2
  have p0 : (0 : Int) ≤ (j : Int) := by omega
  have p1 : (j : Int) < 5 := by omega
  simp at c0
  obtain ⟨s, hs⟩ : ∃ s, s = x.sl := ⟨_, rfl⟩
  obtain ⟨g, hg⟩ : ∃ g, g = x.gn := ⟨_, rfl⟩
  obtain ⟨a, ha⟩ : ∃ a, a = (Lf k j).1 := ⟨_, rfl⟩
  obtain ⟨b, hb⟩ : ∃ b, b = (Lf k j).2 := ⟨_, rfl⟩
  rw [← hs, ← hg] at HG ⊢
  rw [← ha] at n0 ⊢
  rw [← hb] at n1 ⊢
  clear h hx hl hm hnode hs hg ha hb
  obtain ⟨V, hV⟩ : ∃ V, V = (w.alloc (.cells #[.int .u32 (s : Int), .int .u32 (g : Int)] 31)).alloc (.cells #[.int .u32 0, .int .u32 0] 31) := ⟨_, rfl⟩
  have bV : Below w.heap.size w V := by rw [hV]; exact (by repeat (first | exact Below.refl _ _ | assumption | refine Below.drew ?_ | refine below_drewN ?_ _ | refine Below.alloc ?_ (by simp <;> omega) _ | refine Below.setCell ?_ (by simp <;> omega) _ | (apply bl_trans; assumption; (simp <;> omega))))
  have hx : V.heap[w.heap.size + 1]? = some (.cells #[.int .u32 0, .int .u32 0] 31 (0, 0)) := by rw [hV]; exact alloc2_blk w _ _
  have hy : V.heap[w.heap.size]? = some (.cells #[.int .u32 (s : Int), .int .u32 (g : Int)] 31 (0, 0)) := by rw [hV]; exact alloc_blk (Go.heap_alloc_new w _) _
  have y0 := cell_blk hy 0 rfl
  have y1 := cell_blk hy 1 rfl
  have d0 := (bV.cell (p := ⟨tb, 0, none⟩) ltb).trans c0
  have HX := Lib.hid (And.intro hx bV)
  have hV2 := hV
  clear hV hx hy bV
  go_enter Tryd.func90, Tryd.ntmps90
  go_wp2_with fail
  rw [← hV2]
  clear hV2 c0
  go_region_with (go_at_call 76; go_loud (refine (HG.out _ HX.out.2.drew).mono ?_; rintro e w1 ⟨rfl, b1⟩; have b2 : Below V.heap.size V w1 := (Below.refl _ V).drew.trans b1; have HB := Lib.hid (HX.out.2.trans (b2.mono HX.out.2.size)); have m0 := (HB.out.cell (p := ⟨nb, 6 + j * 2, none⟩) lnb).trans n0; have m1 := (HB.out.cell (p := ⟨nb, 6 + j * 2 + 1, none⟩) lnb).trans n1; have hx := (b2.block (w.heap.size + 1) (lt_of_some HX.out.1)).trans HX.out.1; have x0 := cell_blk hx 0 rfl; have x1 := cell_blk hx 1 rfl; have f0 := free_blk hx 0; have f1 := free_blk hx 1; have ne1 : nb ≠ w.heap.size + 1 := (by omega); have HXX := Lib.hid hx; simp at x0 x1; clear b1 b2 hx))
  all_goals go_wp2_with fail
  all_goals have hX4 := set_blk (set_blk HXX.out 0 (.int .u32 (a : Int))) 1 (.int .u32 (b : Int))
  all_goals have z0 := cell_blk hX4 0 rfl
  all_goals have z1 := cell_blk hX4 1 rfl
  all_goals simp at z0 z1
  all_goals exact bodyPost_ret (v := .tuple #[.agg #[.int .u32 (a : Int), .int .u32 (b : Int)], .int .i64 0]) (by simp [results, Tryd.results90, go_sem, z0, z1]) rfl ⟨rfl, (HB.out.setCell (by simp) _).setCell (by simp) _⟩
set_option maxHeartbeats 1000000 in
theorem follow_dead (h : TreeRw B Q w tb X Lf) {s g : Nat} (hs : s ≤ 4294967295) (hg : g ≤ 4294967295) (hn : NoH X.F s g) (j : Int) :
    Calls Tryd.prog 90 #[.pointer (some ⟨tb, 0, none⟩), .agg #[.int .u32 (s : Int), .int .u32 (g : Int)], .int .i64 j] w fun e w' =>
      e = .returned (.tuple #[.agg #[.int .u32 0, .int .u32 0], .int .i64 51]) ∧ Below w.heap.size w w' := by
  have HG : Hid (∀ W, Below w.heap.size w W → Calls Tryd.prog 76 #[.pointer (some ⟨X.ab, 0, none⟩), .agg #[.int .u32 (s : Int), .int .u32 (g : Int)]] W fun e w' => e = .returned (.tuple #[.pointer none, .int .i64 51]) ∧ Below W.heap.size W w') :=
    Lib.hid (fun W b => (h.below b).get_dead hs hg hn)
  have c0 := cell_blk h.blk 0 rfl
  have ltb := lt_of_some h.blk
  simp at c0
  clear h hs hg hn
  obtain ⟨V, hV⟩ : ∃ V, V = (w.alloc (.cells #[.int .u32 (s : Int), .int .u32 (g : Int)] 31)).alloc (.cells #[.int .u32 0, .int .u32 0] 31) := ⟨_, rfl⟩
  have bV : Below w.heap.size w V := by rw [hV]; exact (by repeat (first | exact Below.refl _ _ | assumption | refine Below.drew ?_ | refine below_drewN ?_ _ | refine Below.alloc ?_ (by simp <;> omega) _ | refine Below.setCell ?_ (by simp <;> omega) _ | (apply bl_trans; assumption; (simp <;> omega))))
  have hx : V.heap[w.heap.size + 1]? = some (.cells #[.int .u32 0, .int .u32 0] 31 (0, 0)) := by rw [hV]; exact alloc2_blk w _ _
  have hy : V.heap[w.heap.size]? = some (.cells #[.int .u32 (s : Int), .int .u32 (g : Int)] 31 (0, 0)) := by rw [hV]; exact alloc_blk (Go.heap_alloc_new w _) _
  have y0 := cell_blk hy 0 rfl
  have y1 := cell_blk hy 1 rfl
  have d0 := (bV.cell (p := ⟨tb, 0, none⟩) ltb).trans c0
  have HX := Lib.hid (And.intro hx bV)
  have hV2 := hV
  clear hV hx hy bV
  go_enter Tryd.func90, Tryd.ntmps90
  go_wp2_with fail
  rw [← hV2]
  clear hV2 c0
  go_region_with (go_at_call 76; refine (HG.out _ HX.out.2.drew).mono ?_; rintro e w1 ⟨rfl, b1⟩; have b2 : Below V.heap.size V w1 := (Below.refl _ V).drew.trans b1; have HB := Lib.hid (HX.out.2.trans (b2.mono HX.out.2.size)); have hx := (b2.block (w.heap.size + 1) (lt_of_some HX.out.1)).trans HX.out.1; have x0 := cell_blk hx 0 rfl; have x1 := cell_blk hx 1 rfl; have f0 := free_blk hx 0; have f1 := free_blk hx 1; have HXX := Lib.hid hx; simp at x0 x1; clear b1 b2 hx)
  all_goals go_wp2_with fail
  all_goals have hX4 := set_blk (set_blk HXX.out 0 (.int .u32 0)) 1 (.int .u32 0)
  all_goals have z0 := cell_blk hX4 0 rfl
  all_goals have z1 := cell_blk hX4 1 rfl
  all_goals simp at z0 z1
  all_goals exact bodyPost_ret (v := .tuple #[.agg #[.int .u32 0, .int .u32 0], .int .i64 51]) (by simp [results, Tryd.results90, go_sem, z0, z1]) rfl ⟨rfl, (HB.out.setCell (by simp) _).setCell (by simp) _⟩
set_option maxHeartbeats 1000000 in
theorem parent_gen (s g a b : Nat) (c : Int) (Bz : Nat) (hz : Bz ≤ w.heap.size) (HF : Hid (∀ W, Below w.heap.size w W → Calls Tryd.prog 90 #[.pointer (some ⟨tb, 0, none⟩), .agg #[.int .u32 (s : Int), .int .u32 (g : Int)], .int .i64 0] W fun e w' =>
      e = .returned (.tuple #[.agg #[.int .u32 (a : Int), .int .u32 (b : Int)], .int .i64 c]) ∧ Below W.heap.size W w')) :
    Calls Tryd.prog 54 #[.pointer (some ⟨tb, 0, none⟩), .agg #[.int .u32 (s : Int), .int .u32 (g : Int)]] w fun e w' =>
      e = .returned (.tuple #[.agg #[.int .u32 (a : Int), .int .u32 (b : Int)], .int .i64 c]) ∧ Below w.heap.size w w' := by
  obtain ⟨V, hV⟩ : ∃ V, V = (w.alloc (.cells #[.int .u32 (s : Int), .int .u32 (g : Int)] 31)).alloc (.cells #[.int .u32 0, .int .u32 0] 31) := ⟨_, rfl⟩
  have bV : Below w.heap.size w V := by rw [hV]; exact (by repeat (first | exact Below.refl _ _ | assumption | refine Below.drew ?_ | refine below_drewN ?_ _ | refine Below.alloc ?_ (by simp <;> omega) _ | refine Below.setCell ?_ (by simp <;> omega) _ | (apply bl_trans; assumption; (simp <;> omega))))
  have hx : V.heap[w.heap.size + 1]? = some (.cells #[.int .u32 0, .int .u32 0] 31 (0, 0)) := by rw [hV]; exact alloc2_blk w _ _
  have hy : V.heap[w.heap.size]? = some (.cells #[.int .u32 (s : Int), .int .u32 (g : Int)] 31 (0, 0)) := by rw [hV]; exact alloc_blk (Go.heap_alloc_new w _) _
  have HX := Lib.hid (And.intro hx bV)
  have hV2 := hV
  clear hV hx hy bV hz
  go_enter Tryd.func54, Tryd.ntmps54
  go_wp2_with fail
  rw [← hV2]
  clear hV2
  refine (HF.out _ HX.out.2).mono ?_
  rintro e w1 ⟨rfl, b2⟩
  have HB := Lib.hid (HX.out.2.trans (b2.mono HX.out.2.size))
  have hx := (b2.block (w.heap.size + 1) (lt_of_some HX.out.1)).trans HX.out.1
  have x0 := cell_blk hx 0 rfl
  have x1 := cell_blk hx 1 rfl
  have f0 := free_blk hx 0
  have f1 := free_blk hx 1
  have HXX := Lib.hid hx
  simp at x0 x1
  clear b2 hx
  go_wp2_with fail
  have hX4 := set_blk (set_blk HXX.out 0 (.int .u32 (a : Int))) 1 (.int .u32 (b : Int))
  have z0 := cell_blk hX4 0 rfl
  have z1 := cell_blk hX4 1 rfl
  simp at z0 z1
  exact bodyPost_ret (v := .tuple #[.agg #[.int .u32 (a : Int), .int .u32 (b : Int)], .int .i64 c]) (by simp [results, Tryd.results54, go_sem, z0, z1]) rfl ⟨rfl, (HB.out.setCell (by simp) _).setCell (by simp) _⟩
theorem parent_live (h : TreeRw B Q w tb X Lf) {k : Nat} {x : FN} (hx : X.F[k]? = some x) (hl : x.live = true) :
    Calls Tryd.prog 54 #[.pointer (some ⟨tb, 0, none⟩), .agg #[.int .u32 (x.sl : Int), .int .u32 (x.gn : Int)]] w fun e w' =>
      e = .returned (.tuple #[.agg #[.int .u32 ((Lf k 0).1 : Int), .int .u32 ((Lf k 0).2 : Int)], .int .i64 0]) ∧ Below w.heap.size w w' :=
  parent_gen x.sl x.gn (Lf k 0).1 (Lf k 0).2 0 0 (Nat.zero_le _) (Lib.hid fun W b => follow_live (h.below b) hx hl 0 (by decide))
theorem parent_dead (h : TreeRw B Q w tb X Lf) {s g : Nat} (hs : s ≤ 4294967295) (hg : g ≤ 4294967295) (hn : NoH X.F s g) :
    Calls Tryd.prog 54 #[.pointer (some ⟨tb, 0, none⟩), .agg #[.int .u32 (s : Int), .int .u32 (g : Int)]] w fun e w' =>
      e = .returned (.tuple #[.agg #[.int .u32 0, .int .u32 0], .int .i64 51]) ∧ Below w.heap.size w w' :=
  parent_gen s g 0 0 51 0 (Nat.zero_le _) (Lib.hid fun W b => follow_dead (h.below b) hs hg hn 0)
set_option maxHeartbeats 1000000 in
theorem first_gen (s g a b : Nat) (c : Int) (Bz : Nat) (hz : Bz ≤ w.heap.size) (HF : Hid (∀ W, Below w.heap.size w W → Calls Tryd.prog 90 #[.pointer (some ⟨tb, 0, none⟩), .agg #[.int .u32 (s : Int), .int .u32 (g : Int)], .int .i64 1] W fun e w' =>
      e = .returned (.tuple #[.agg #[.int .u32 (a : Int), .int .u32 (b : Int)], .int .i64 c]) ∧ Below W.heap.size W w')) :
    Calls Tryd.prog 87 #[.pointer (some ⟨tb, 0, none⟩), .agg #[.int .u32 (s : Int), .int .u32 (g : Int)]] w fun e w' =>
      e = .returned (.tuple #[.agg #[.int .u32 (a : Int), .int .u32 (b : Int)], .int .i64 c]) ∧ Below w.heap.size w w' := by
  obtain ⟨V, hV⟩ : ∃ V, V = (w.alloc (.cells #[.int .u32 (s : Int), .int .u32 (g : Int)] 31)).alloc (.cells #[.int .u32 0, .int .u32 0] 31) := ⟨_, rfl⟩
  have bV : Below w.heap.size w V := by rw [hV]; exact (by repeat (first | exact Below.refl _ _ | assumption | refine Below.drew ?_ | refine below_drewN ?_ _ | refine Below.alloc ?_ (by simp <;> omega) _ | refine Below.setCell ?_ (by simp <;> omega) _ | (apply bl_trans; assumption; (simp <;> omega))))
  have hx : V.heap[w.heap.size + 1]? = some (.cells #[.int .u32 0, .int .u32 0] 31 (0, 0)) := by rw [hV]; exact alloc2_blk w _ _
  have hy : V.heap[w.heap.size]? = some (.cells #[.int .u32 (s : Int), .int .u32 (g : Int)] 31 (0, 0)) := by rw [hV]; exact alloc_blk (Go.heap_alloc_new w _) _
  have HX := Lib.hid (And.intro hx bV)
  have hV2 := hV
  clear hV hx hy bV hz
  go_enter Tryd.func87, Tryd.ntmps87
  go_wp2_with fail
  rw [← hV2]
  clear hV2
  refine (HF.out _ HX.out.2).mono ?_
  rintro e w1 ⟨rfl, b2⟩
  have HB := Lib.hid (HX.out.2.trans (b2.mono HX.out.2.size))
  have hx := (b2.block (w.heap.size + 1) (lt_of_some HX.out.1)).trans HX.out.1
  have x0 := cell_blk hx 0 rfl
  have x1 := cell_blk hx 1 rfl
  have f0 := free_blk hx 0
  have f1 := free_blk hx 1
  have HXX := Lib.hid hx
  simp at x0 x1
  clear b2 hx
  go_wp2_with fail
  have hX4 := set_blk (set_blk HXX.out 0 (.int .u32 (a : Int))) 1 (.int .u32 (b : Int))
  have z0 := cell_blk hX4 0 rfl
  have z1 := cell_blk hX4 1 rfl
  simp at z0 z1
  exact bodyPost_ret (v := .tuple #[.agg #[.int .u32 (a : Int), .int .u32 (b : Int)], .int .i64 c]) (by simp [results, Tryd.results87, go_sem, z0, z1]) rfl ⟨rfl, (HB.out.setCell (by simp) _).setCell (by simp) _⟩
theorem first_live (h : TreeRw B Q w tb X Lf) {k : Nat} {x : FN} (hx : X.F[k]? = some x) (hl : x.live = true) :
    Calls Tryd.prog 87 #[.pointer (some ⟨tb, 0, none⟩), .agg #[.int .u32 (x.sl : Int), .int .u32 (x.gn : Int)]] w fun e w' =>
      e = .returned (.tuple #[.agg #[.int .u32 ((Lf k 1).1 : Int), .int .u32 ((Lf k 1).2 : Int)], .int .i64 0]) ∧ Below w.heap.size w w' :=
  first_gen x.sl x.gn (Lf k 1).1 (Lf k 1).2 0 0 (Nat.zero_le _) (Lib.hid fun W b => follow_live (h.below b) hx hl 1 (by decide))
theorem first_dead (h : TreeRw B Q w tb X Lf) {s g : Nat} (hs : s ≤ 4294967295) (hg : g ≤ 4294967295) (hn : NoH X.F s g) :
    Calls Tryd.prog 87 #[.pointer (some ⟨tb, 0, none⟩), .agg #[.int .u32 (s : Int), .int .u32 (g : Int)]] w fun e w' =>
      e = .returned (.tuple #[.agg #[.int .u32 0, .int .u32 0], .int .i64 51]) ∧ Below w.heap.size w w' :=
  first_gen s g 0 0 51 0 (Nat.zero_le _) (Lib.hid fun W b => follow_dead (h.below b) hs hg hn 1)
set_option maxHeartbeats 1000000 in
theorem last_gen (s g a b : Nat) (c : Int) (Bz : Nat) (hz : Bz ≤ w.heap.size) (HF : Hid (∀ W, Below w.heap.size w W → Calls Tryd.prog 90 #[.pointer (some ⟨tb, 0, none⟩), .agg #[.int .u32 (s : Int), .int .u32 (g : Int)], .int .i64 2] W fun e w' =>
      e = .returned (.tuple #[.agg #[.int .u32 (a : Int), .int .u32 (b : Int)], .int .i64 c]) ∧ Below W.heap.size W w')) :
    Calls Tryd.prog 55 #[.pointer (some ⟨tb, 0, none⟩), .agg #[.int .u32 (s : Int), .int .u32 (g : Int)]] w fun e w' =>
      e = .returned (.tuple #[.agg #[.int .u32 (a : Int), .int .u32 (b : Int)], .int .i64 c]) ∧ Below w.heap.size w w' := by
  obtain ⟨V, hV⟩ : ∃ V, V = (w.alloc (.cells #[.int .u32 (s : Int), .int .u32 (g : Int)] 31)).alloc (.cells #[.int .u32 0, .int .u32 0] 31) := ⟨_, rfl⟩
  have bV : Below w.heap.size w V := by rw [hV]; exact (by repeat (first | exact Below.refl _ _ | assumption | refine Below.drew ?_ | refine below_drewN ?_ _ | refine Below.alloc ?_ (by simp <;> omega) _ | refine Below.setCell ?_ (by simp <;> omega) _ | (apply bl_trans; assumption; (simp <;> omega))))
  have hx : V.heap[w.heap.size + 1]? = some (.cells #[.int .u32 0, .int .u32 0] 31 (0, 0)) := by rw [hV]; exact alloc2_blk w _ _
  have hy : V.heap[w.heap.size]? = some (.cells #[.int .u32 (s : Int), .int .u32 (g : Int)] 31 (0, 0)) := by rw [hV]; exact alloc_blk (Go.heap_alloc_new w _) _
  have HX := Lib.hid (And.intro hx bV)
  have hV2 := hV
  clear hV hx hy bV hz
  go_enter Tryd.func55, Tryd.ntmps55
  go_wp2_with fail
  rw [← hV2]
  clear hV2
  refine (HF.out _ HX.out.2).mono ?_
  rintro e w1 ⟨rfl, b2⟩
  have HB := Lib.hid (HX.out.2.trans (b2.mono HX.out.2.size))
  have hx := (b2.block (w.heap.size + 1) (lt_of_some HX.out.1)).trans HX.out.1
  have x0 := cell_blk hx 0 rfl
  have x1 := cell_blk hx 1 rfl
  have f0 := free_blk hx 0
  have f1 := free_blk hx 1
  have HXX := Lib.hid hx
  simp at x0 x1
  clear b2 hx
  go_wp2_with fail
  have hX4 := set_blk (set_blk HXX.out 0 (.int .u32 (a : Int))) 1 (.int .u32 (b : Int))
  have z0 := cell_blk hX4 0 rfl
  have z1 := cell_blk hX4 1 rfl
  simp at z0 z1
  exact bodyPost_ret (v := .tuple #[.agg #[.int .u32 (a : Int), .int .u32 (b : Int)], .int .i64 c]) (by simp [results, Tryd.results55, go_sem, z0, z1]) rfl ⟨rfl, (HB.out.setCell (by simp) _).setCell (by simp) _⟩
theorem last_live (h : TreeRw B Q w tb X Lf) {k : Nat} {x : FN} (hx : X.F[k]? = some x) (hl : x.live = true) :
    Calls Tryd.prog 55 #[.pointer (some ⟨tb, 0, none⟩), .agg #[.int .u32 (x.sl : Int), .int .u32 (x.gn : Int)]] w fun e w' =>
      e = .returned (.tuple #[.agg #[.int .u32 ((Lf k 2).1 : Int), .int .u32 ((Lf k 2).2 : Int)], .int .i64 0]) ∧ Below w.heap.size w w' :=
  last_gen x.sl x.gn (Lf k 2).1 (Lf k 2).2 0 0 (Nat.zero_le _) (Lib.hid fun W b => follow_live (h.below b) hx hl 2 (by decide))
theorem last_dead (h : TreeRw B Q w tb X Lf) {s g : Nat} (hs : s ≤ 4294967295) (hg : g ≤ 4294967295) (hn : NoH X.F s g) :
    Calls Tryd.prog 55 #[.pointer (some ⟨tb, 0, none⟩), .agg #[.int .u32 (s : Int), .int .u32 (g : Int)]] w fun e w' =>
      e = .returned (.tuple #[.agg #[.int .u32 0, .int .u32 0], .int .i64 51]) ∧ Below w.heap.size w w' :=
  last_gen s g 0 0 51 0 (Nat.zero_le _) (Lib.hid fun W b => follow_dead (h.below b) hs hg hn 2)
set_option maxHeartbeats 1000000 in
theorem ahead_gen (s g a b : Nat) (c : Int) (Bz : Nat) (hz : Bz ≤ w.heap.size) (HF : Hid (∀ W, Below w.heap.size w W → Calls Tryd.prog 90 #[.pointer (some ⟨tb, 0, none⟩), .agg #[.int .u32 (s : Int), .int .u32 (g : Int)], .int .i64 3] W fun e w' =>
      e = .returned (.tuple #[.agg #[.int .u32 (a : Int), .int .u32 (b : Int)], .int .i64 c]) ∧ Below W.heap.size W w')) :
    Calls Tryd.prog 53 #[.pointer (some ⟨tb, 0, none⟩), .agg #[.int .u32 (s : Int), .int .u32 (g : Int)]] w fun e w' =>
      e = .returned (.tuple #[.agg #[.int .u32 (a : Int), .int .u32 (b : Int)], .int .i64 c]) ∧ Below w.heap.size w w' := by
  obtain ⟨V, hV⟩ : ∃ V, V = (w.alloc (.cells #[.int .u32 (s : Int), .int .u32 (g : Int)] 31)).alloc (.cells #[.int .u32 0, .int .u32 0] 31) := ⟨_, rfl⟩
  have bV : Below w.heap.size w V := by rw [hV]; exact (by repeat (first | exact Below.refl _ _ | assumption | refine Below.drew ?_ | refine below_drewN ?_ _ | refine Below.alloc ?_ (by simp <;> omega) _ | refine Below.setCell ?_ (by simp <;> omega) _ | (apply bl_trans; assumption; (simp <;> omega))))
  have hx : V.heap[w.heap.size + 1]? = some (.cells #[.int .u32 0, .int .u32 0] 31 (0, 0)) := by rw [hV]; exact alloc2_blk w _ _
  have hy : V.heap[w.heap.size]? = some (.cells #[.int .u32 (s : Int), .int .u32 (g : Int)] 31 (0, 0)) := by rw [hV]; exact alloc_blk (Go.heap_alloc_new w _) _
  have HX := Lib.hid (And.intro hx bV)
  have hV2 := hV
  clear hV hx hy bV hz
  go_enter Tryd.func53, Tryd.ntmps53
  go_wp2_with fail
  rw [← hV2]
  clear hV2
  refine (HF.out _ HX.out.2).mono ?_
  rintro e w1 ⟨rfl, b2⟩
  have HB := Lib.hid (HX.out.2.trans (b2.mono HX.out.2.size))
  have hx := (b2.block (w.heap.size + 1) (lt_of_some HX.out.1)).trans HX.out.1
  have x0 := cell_blk hx 0 rfl
  have x1 := cell_blk hx 1 rfl
  have f0 := free_blk hx 0
  have f1 := free_blk hx 1
  have HXX := Lib.hid hx
  simp at x0 x1
  clear b2 hx
  go_wp2_with fail
  have hX4 := set_blk (set_blk HXX.out 0 (.int .u32 (a : Int))) 1 (.int .u32 (b : Int))
  have z0 := cell_blk hX4 0 rfl
  have z1 := cell_blk hX4 1 rfl
  simp at z0 z1
  exact bodyPost_ret (v := .tuple #[.agg #[.int .u32 (a : Int), .int .u32 (b : Int)], .int .i64 c]) (by simp [results, Tryd.results53, go_sem, z0, z1]) rfl ⟨rfl, (HB.out.setCell (by simp) _).setCell (by simp) _⟩
theorem ahead_live (h : TreeRw B Q w tb X Lf) {k : Nat} {x : FN} (hx : X.F[k]? = some x) (hl : x.live = true) :
    Calls Tryd.prog 53 #[.pointer (some ⟨tb, 0, none⟩), .agg #[.int .u32 (x.sl : Int), .int .u32 (x.gn : Int)]] w fun e w' =>
      e = .returned (.tuple #[.agg #[.int .u32 ((Lf k 3).1 : Int), .int .u32 ((Lf k 3).2 : Int)], .int .i64 0]) ∧ Below w.heap.size w w' :=
  ahead_gen x.sl x.gn (Lf k 3).1 (Lf k 3).2 0 0 (Nat.zero_le _) (Lib.hid fun W b => follow_live (h.below b) hx hl 3 (by decide))
theorem ahead_dead (h : TreeRw B Q w tb X Lf) {s g : Nat} (hs : s ≤ 4294967295) (hg : g ≤ 4294967295) (hn : NoH X.F s g) :
    Calls Tryd.prog 53 #[.pointer (some ⟨tb, 0, none⟩), .agg #[.int .u32 (s : Int), .int .u32 (g : Int)]] w fun e w' =>
      e = .returned (.tuple #[.agg #[.int .u32 0, .int .u32 0], .int .i64 51]) ∧ Below w.heap.size w w' :=
  ahead_gen s g 0 0 51 0 (Nat.zero_le _) (Lib.hid fun W b => follow_dead (h.below b) hs hg hn 3)
set_option maxHeartbeats 1000000 in
theorem behind_gen (s g a b : Nat) (c : Int) (Bz : Nat) (hz : Bz ≤ w.heap.size) (HF : Hid (∀ W, Below w.heap.size w W → Calls Tryd.prog 90 #[.pointer (some ⟨tb, 0, none⟩), .agg #[.int .u32 (s : Int), .int .u32 (g : Int)], .int .i64 4] W fun e w' =>
      e = .returned (.tuple #[.agg #[.int .u32 (a : Int), .int .u32 (b : Int)], .int .i64 c]) ∧ Below W.heap.size W w')) :
    Calls Tryd.prog 59 #[.pointer (some ⟨tb, 0, none⟩), .agg #[.int .u32 (s : Int), .int .u32 (g : Int)]] w fun e w' =>
      e = .returned (.tuple #[.agg #[.int .u32 (a : Int), .int .u32 (b : Int)], .int .i64 c]) ∧ Below w.heap.size w w' := by
  obtain ⟨V, hV⟩ : ∃ V, V = (w.alloc (.cells #[.int .u32 (s : Int), .int .u32 (g : Int)] 31)).alloc (.cells #[.int .u32 0, .int .u32 0] 31) := ⟨_, rfl⟩
  have bV : Below w.heap.size w V := by rw [hV]; exact (by repeat (first | exact Below.refl _ _ | assumption | refine Below.drew ?_ | refine below_drewN ?_ _ | refine Below.alloc ?_ (by simp <;> omega) _ | refine Below.setCell ?_ (by simp <;> omega) _ | (apply bl_trans; assumption; (simp <;> omega))))
  have hx : V.heap[w.heap.size + 1]? = some (.cells #[.int .u32 0, .int .u32 0] 31 (0, 0)) := by rw [hV]; exact alloc2_blk w _ _
  have hy : V.heap[w.heap.size]? = some (.cells #[.int .u32 (s : Int), .int .u32 (g : Int)] 31 (0, 0)) := by rw [hV]; exact alloc_blk (Go.heap_alloc_new w _) _
  have HX := Lib.hid (And.intro hx bV)
  have hV2 := hV
  clear hV hx hy bV hz
  go_enter Tryd.func59, Tryd.ntmps59
  go_wp2_with fail
  rw [← hV2]
  clear hV2
  refine (HF.out _ HX.out.2).mono ?_
  rintro e w1 ⟨rfl, b2⟩
  have HB := Lib.hid (HX.out.2.trans (b2.mono HX.out.2.size))
  have hx := (b2.block (w.heap.size + 1) (lt_of_some HX.out.1)).trans HX.out.1
  have x0 := cell_blk hx 0 rfl
  have x1 := cell_blk hx 1 rfl
  have f0 := free_blk hx 0
  have f1 := free_blk hx 1
  have HXX := Lib.hid hx
  simp at x0 x1
  clear b2 hx
  go_wp2_with fail
  have hX4 := set_blk (set_blk HXX.out 0 (.int .u32 (a : Int))) 1 (.int .u32 (b : Int))
  have z0 := cell_blk hX4 0 rfl
  have z1 := cell_blk hX4 1 rfl
  simp at z0 z1
  exact bodyPost_ret (v := .tuple #[.agg #[.int .u32 (a : Int), .int .u32 (b : Int)], .int .i64 c]) (by simp [results, Tryd.results59, go_sem, z0, z1]) rfl ⟨rfl, (HB.out.setCell (by simp) _).setCell (by simp) _⟩
theorem behind_live (h : TreeRw B Q w tb X Lf) {k : Nat} {x : FN} (hx : X.F[k]? = some x) (hl : x.live = true) :
    Calls Tryd.prog 59 #[.pointer (some ⟨tb, 0, none⟩), .agg #[.int .u32 (x.sl : Int), .int .u32 (x.gn : Int)]] w fun e w' =>
      e = .returned (.tuple #[.agg #[.int .u32 ((Lf k 4).1 : Int), .int .u32 ((Lf k 4).2 : Int)], .int .i64 0]) ∧ Below w.heap.size w w' :=
  behind_gen x.sl x.gn (Lf k 4).1 (Lf k 4).2 0 0 (Nat.zero_le _) (Lib.hid fun W b => follow_live (h.below b) hx hl 4 (by decide))
theorem behind_dead (h : TreeRw B Q w tb X Lf) {s g : Nat} (hs : s ≤ 4294967295) (hg : g ≤ 4294967295) (hn : NoH X.F s g) :
    Calls Tryd.prog 59 #[.pointer (some ⟨tb, 0, none⟩), .agg #[.int .u32 (s : Int), .int .u32 (g : Int)]] w fun e w' =>
      e = .returned (.tuple #[.agg #[.int .u32 0, .int .u32 0], .int .i64 51]) ∧ Below w.heap.size w w' :=
  behind_gen s g 0 0 51 0 (Nat.zero_le _) (Lib.hid fun W b => follow_dead (h.below b) hs hg hn 4)
set_option maxHeartbeats 1000000 in
theorem countT_calls (h : TreeRw B Q w tb X Lf) : Calls Tryd.prog 65 #[.pointer (some ⟨tb, 0, none⟩)] w fun e w' => e = .returned (.int .i64 (X.T.count : Int)) ∧ Below w.heap.size w w' := by
  have HC : Hid (Calls Tryd.prog 97 #[.pointer (some ⟨X.ab, 0, none⟩)] w fun e w' => e = .returned (.int .i64 (X.T.count : Int)) ∧ Below w.heap.size w w') := Lib.hid (by obtain ⟨Qa, ha, _⟩ := h.ar; exact arNTop_count ha)
  have c0 := cell_blk h.blk 0 rfl
  simp at c0
  clear h
  go_enter Tryd.func65, Tryd.ntmps65
  go_wp2_with (go_at_call 97; refine HC.out.mono ?_; rintro e w1 ⟨rfl, b1⟩)
  go_ret
  exact ⟨rfl, b1⟩
end
end Go.Proofs.YtelhnaphkbpakaaDoor

namespace Go.Proofs.YtelhnaphkbpakaaDoor
open Go.RowKit
set_option linter.unusedVariables false
set_option maxRecDepth 100000

/-- What is still to come of a way up. -/
def Rest (F : For) (cur : Option Nat) (rest : List Nat) : Prop := match cur with | none => rest = [] | some k => Chain F k rest
theorem Rest.next {F : For} {k : Nat} {rest : List Nat} (h : Rest F (some k) rest) : ∃ t, rest = k :: t ∧ Rest F (upOf F k) t := by
  cases (show Chain F k rest from h) with
  | root hx hu => exact ⟨[], rfl, by unfold upOf; rw [hx]; show Rest F (FN.up _) []; rw [hu]; rfl⟩
  | up hx hu hc => exact ⟨_, rfl, by unfold upOf; rw [hx]; show Rest F (FN.up _) _; rw [hu]; exact hc⟩
theorem FOk.up_live {F : For} (h : FOk F) {k v : Nat} (hu : upOf F k = some v) : ∃ x : FN, F[v]? = some x ∧ x.live = true := by
  unfold upOf at hu
  obtain ⟨z, hz, e⟩ := Option.bind_eq_some_iff.1 hu
  obtain ⟨y, h1, h2, _⟩ := h.upd k z v hz e
  exact ⟨y, h1, h2⟩
theorem hd_some {F : For} {k : Nat} {x : FN} (hx : F[k]? = some x) : hd F (some k) = (x.sl, x.gn) := by unfold hd; simp [hx]
theorem hd_none (F : For) : hd F none = (0, 0) := rfl
/-- Where the loop stands: the box, what it holds. -/
structure WiR (F : For) (w : World) (bx i : Nat) (c : List Nat) (n : Nat) (W : World) (cur : Option Nat) (rest : List Nat) : Prop where
  low : Below w.heap.size w W
  len : n = rest.length
  on : Rest F cur rest
  mem : i ∈ c ↔ i ∈ rest
  live : ∀ k, cur = some k → ∃ x : FN, F[k]? = some x ∧ x.live = true

def idxF (F : For) (k : Nat) : Nat := (dnOf F (upOf F k)).idxOf k
theorem FOk.kid {F : For} (h : FOk F) {k u : Nat} (hu : upOf F k = some u) : ∃ (y : FN), F[u]? = some y ∧ dnOf F (some u) = y.down ∧ k ∈ y.down := by
  unfold upOf at hu
  obtain ⟨z, hz, e⟩ := Option.bind_eq_some_iff.1 hu
  obtain ⟨y, h1, h2, h3⟩ := h.upd k z u hz e
  exact ⟨y, h1, by unfold dnOf; simp [h1], h3⟩
theorem FOk.sibs {F : For} (h : FOk F) (k : Nat) : (dnOf F (upOf F k)).Nodup ∧ (dnOf F (upOf F k)).length ≤ F.length ∧ ∀ c ∈ dnOf F (upOf F k), upOf F c = upOf F k ∧ ∃ x : FN, F[c]? = some x ∧ x.live = true := by
  cases e : upOf F k with
  | none => exact ⟨List.nodup_nil, by simp [dnOf], fun c hc => by simp [dnOf] at hc⟩
  | some u =>
    obtain ⟨y, h1, h2, h3⟩ := h.kid e
    rw [h2]
    have hd := h.dn u y h1
    refine ⟨h.nd u y h1, nodup_bound _ _ (h.nd u y h1) (fun m hm => ?_), fun c hc => ?_⟩
    · obtain ⟨x, hx, _⟩ := hd m hm; exact (List.getElem?_eq_some_iff.1 hx).1
    · obtain ⟨x, hx, hxu, hxl⟩ := hd c hc; exact ⟨by unfold upOf; rw [hx]; exact hxu, x, hx, hxl⟩
theorem FOk.split {F : For} (h : FOk F) {k : Nat} : (dnOf F (upOf F k) = [] ∧ idxF F k = 0) ∨ ∃ post, dnOf F (upOf F k) = (dnOf F (upOf F k)).take (idxF F k) ++ k :: post ∧ k ∉ (dnOf F (upOf F k)).take (idxF F k) ∧ ((dnOf F (upOf F k)).take (idxF F k)).length = idxF F k := by
  cases e : upOf F k with
  | none => left; exact ⟨rfl, by unfold idxF; rw [e]; rfl⟩
  | some u =>
    right
    obtain ⟨y, h1, h2, h3⟩ := h.kid e
    unfold idxF
    rw [e, h2]
    obtain ⟨a, b, hab, hn⟩ := List.append_of_mem h3 |> fun ⟨a, b, hab⟩ => (⟨a, b, hab, by
      have := h.nd u y h1
      rw [hab] at this
      exact fun ha => (List.nodup_append.1 this).2.2 k ha k (by simp) rfl⟩ : ∃ a b, y.down = a ++ k :: b ∧ k ∉ a)
    have ei : y.down.idxOf k = a.length := by rw [hab]; exact idx_split hn
    rw [ei]
    have et : y.down.take a.length = a := by rw [hab]; simp
    rw [et]
    exact ⟨b, hab, hn, rfl⟩
theorem FOk.ahead {F : For} (h : FOk F) (k : Nat) : lkO F k 3 = ((dnOf F (upOf F k)).take (idxF F k)).getLast? := by
  show prevOf _ _ = _
  rcases h.split (k := k) with ⟨h1, h2⟩ | ⟨post, h1, h2, _⟩
  · rw [h1]; simp [prev_nil]
  · conv => lhs; rw [h1]
    exact prev_split h2
/-- Where the count stands. -/
structure IxR (F : For) (w : World) (k : Nat) (n : Nat) (W : World) (m : Nat) (pre : List Nat) : Prop where
  low : Below w.heap.size w W
  len : n = pre.length
  sum : m + pre.length = idxF F k
  pre : ∃ post, dnOf F (upOf F k) = pre ++ post

section
variable {B : Nat} {Q : Nat → Prop} {w w' : World} {tb : Nat} {X : TX}
set_option maxHeartbeats 2000000 in
theorem within_calls (h : TreeAt B Q w tb X) {u i : Nat} {xu xi : FN} (hu : X.F[u]? = some xu) (hul : xu.live = true) (hi : X.F[i]? = some xi) (hil : xi.live = true) {c : List Nat} (hc : Chain X.F u c) :
    Calls Tryd.prog 101 #[.pointer (some ⟨tb, 0, none⟩), .agg #[.int .u32 (xu.sl : Int), .int .u32 (xu.gn : Int)], .agg #[.int .u32 (xi.sl : Int), .int .u32 (xi.gn : Int)]] w fun e w' =>
      e = .returned (.bool (decide (i ∈ c))) ∧ Below w.heap.size w w' := by
  have HT := Lib.hid h
  have ok := Lib.hid h.fok
  have HI := Lib.hid (And.intro hi hil)
  have hu0 : hd X.F (some u) = (xu.sl, xu.gn) := hd_some hu
  obtain ⟨s, hs⟩ : ∃ s, s = xi.sl := ⟨_, rfl⟩
  obtain ⟨g, hg⟩ : ∃ g, g = xi.gn := ⟨_, rfl⟩
  obtain ⟨s1, hs1⟩ : ∃ s, s = xu.sl := ⟨_, rfl⟩
  obtain ⟨g1, hg1⟩ : ∃ g, g = xu.gn := ⟨_, rfl⟩
  obtain ⟨r, hr⟩ : ∃ r, r = decide (i ∈ c) := ⟨_, rfl⟩
  rw [← hs, ← hg, ← hs1, ← hg1, ← hr]
  have HS := Lib.hid (And.intro hs (And.intro hg (And.intro hs1 (And.intro hg1 hr))))
  obtain ⟨V, hV⟩ : ∃ V, V = (w.alloc (.cells #[.int .u32 (s1 : Int), .int .u32 (g1 : Int)] 31)).alloc (.cells #[.int .u32 (s : Int), .int .u32 (g : Int)] 31) := ⟨_, rfl⟩
  have bV : Below w.heap.size w V := by rw [hV]; exact (by repeat (first | exact Below.refl _ _ | assumption | refine Below.drew ?_ | refine below_drewN ?_ _ | refine Below.alloc ?_ (by simp <;> omega) _ | refine Below.setCell ?_ (by simp <;> omega) _ | (apply bl_trans; assumption; (simp <;> omega))))
  have hx : V.heap[w.heap.size + 1]? = some (.cells #[.int .u32 (s : Int), .int .u32 (g : Int)] 31 (0, 0)) := by rw [hV]; exact alloc2_blk w _ _
  have hy : V.heap[w.heap.size]? = some (.cells #[.int .u32 (s1 : Int), .int .u32 (g1 : Int)] 31 (0, 0)) := by rw [hV]; exact alloc_blk (Go.heap_alloc_new w _) _
  have H0 : Hid (WiR X.F w w.heap.size i c c.length V (some u) c ∧ hd X.F (some u) = (s1, g1)) := Lib.hid ⟨⟨bV, rfl, hc, Iff.rfl, fun k hk => by cases hk; exact ⟨_, hu, hul⟩⟩, by rw [hs1, hg1]; exact hu0⟩
  have HX := Lib.hid (And.intro hx hy)
  have hV2 := hV
  clear hV hx hy bV h hi hil hu hul hu0 hs hg hs1 hg1 hr hc
  go_enter Tryd.func101, Tryd.ntmps101
  go_wp2_with fail
  rw [← hV2]
  clear hV2
  go_step3
  go_wp2_with fail
  go_step3
  go_wp2_with fail
  go_loopg [7] c.length (fun n v wr => v = .bool false ∧ ∃ (cur : Option Nat) (rest : List Nat), Hid (WiR X.F w w.heap.size i c n wr cur rest) ∧ wr.heap[w.heap.size]? = some (.cells #[.int .u32 ((hd X.F cur).1 : Int), .int .u32 ((hd X.F cur).2 : Int)] 31 (0, 0)) ∧ wr.heap[w.heap.size + 1]? = some (.cells #[.int .u32 (s : Int), .int .u32 (g : Int)] 31 (0, 0)))
  case atStart => exact ⟨rfl, some u, c, Lib.hid H0.out.1, by rw [H0.out.2]; exact HX.out.2, HX.out.1⟩
  case round =>
    obtain ⟨rfl, cur, rest, hw, hx, hy⟩ := hrel
    have y0 := cell_blk hy 0 rfl
    have y1 := cell_blk hy 1 rfl
    have x0 := cell_blk hx 0 rfl
    have x1 := cell_blk hx 1 rfl
    have HY := Lib.hid (And.intro hx hy)
    simp at x0 x1 y0 y1
    clear hx hy
    cases cur with
    | none =>
      rw [hd_none] at x0 x1
      simp at x0 x1
      have q0 : hEq 0 0 0 0 = true := hEq_true rfl rfl
      have hres : r = false := by
        have h1 := hw.out.on
        have h2 : rest = [] := h1
        rw [HS.out.2.2.2.2]
        exact decide_eq_false (fun hm => by have := hw.out.mem.1 hm; rw [h2] at this; cases this)
      have HR := Lib.hid hres
      clear hres
      go_wp2_with fail
      try rw [Exit.noGoto_ret]
      go_ret
      exact ⟨by rw [HR.out]; rfl, hw.out.low⟩
    | some k =>
      obtain ⟨xk, hk, hkl⟩ := hw.out.live k rfl
      have e := hd_some hk
      rw [e] at x0 x1
      obtain ⟨nb, P, hm, hat, hsl, hs2, hg2⟩ := HT.out.rw.at_live hk hkl
      have q0 : hEq (xk.sl : Int) (xk.gn : Int) 0 0 = false := hEq_false (.inl (by omega))
      have HF := Lib.hid (fun W (b : Below w.heap.size w W) => follow_live (HT.out.rw.below b) hk hkl 0 (by decide))
      obtain ⟨rt, e1, e2⟩ := hw.out.on.next
      by_cases hki : k = i
      · have q1 : hEq (xk.sl : Int) (xk.gn : Int) (s : Int) (g : Int) = true := by
          subst hki
          have := hk.symm.trans HI.out.1
          cases this
          exact hEq_true (by rw [HS.out.1]) (by rw [HS.out.2.1])
        have hres : r = true := by
          rw [HS.out.2.2.2.2]
          exact decide_eq_true (hw.out.mem.2 (by rw [e1, hki]; simp))
        have HR := Lib.hid hres
        have HL := Lib.hid hw.out.low
        clear hres hk hkl e hm hat hsl hs2 hg2 e1 e2 hki hw
        go_wp2_with fail
        try rw [Exit.noGoto_ret]
        go_ret
        exact ⟨by rw [HR.out]; rfl, HL.out⟩
      · have q1 : hEq (xk.sl : Int) (xk.gn : Int) (s : Int) (g : Int) = false := by
          refine hEq_false (.inl (fun e => hki ?_))
          exact HT.out.rw.hinj hk HI.out.1 hkl HI.out.2 (by have := HS.out.1; omega)
        have HN : Hid (∀ W, Below w.heap.size w W → WiR X.F w w.heap.size i c rt.length W (upOf X.F k) rt) := Lib.hid (fun W b => ⟨b, rfl, e2, by
            rw [hw.out.mem, e1]; simp [Ne.symm hki], fun v hv => ok.out.up_live hv⟩)
        have HLen : Hid (rt.length < gk) := Lib.hid (by have := hw.out.len; rw [this, e1]; simp)
        have HL := Lib.hid hw.out.low
        clear hk hkl e hm hat hsl hs2 hg2 e1 e2 hki hw
        go_wp2_with (go_at_call 90; refine (HF.out _ HL.out).mono ?_; rintro e w1 ⟨rfl, b1⟩; have hx1 := (b1.block _ (lt_of_some HY.out.1)).trans HY.out.1; have hy1 := (b1.block _ (lt_of_some HY.out.2)).trans HY.out.2; have z0 := cell_blk hx1 0 rfl; have z1 := cell_blk hx1 1 rfl; have f0 := free_blk hx1 0; have f1 := free_blk hx1 1; have HXY := Lib.hid (And.intro hx1 hy1); have HB := Lib.hid (HL.out.trans (b1.mono HL.out.size)); clear b1 hx1 hy1)
        go_roundg rt.length
        case measure => exact HLen.out
        case rel => exact ⟨rfl, upOf X.F k, rt, Lib.hid (HN.out _ ((HB.out.setCell (by simp) _).setCell (by simp) _)), set_blk (set_blk HXY.out.1 0 _) 1 _, set_other (set_other HXY.out.2 (by simp) _) (by simp) _⟩
set_option maxHeartbeats 2000000 in
theorem index_live (h : TreeAt B Q w tb X) {k : Nat} {x : FN} (hk : X.F[k]? = some x) (hkl : x.live = true) :
    Calls Tryd.prog 75 #[.pointer (some ⟨tb, 0, none⟩), .agg #[.int .u32 (x.sl : Int), .int .u32 (x.gn : Int)]] w fun e w' =>
      e = .returned (.tuple #[.int .i64 (idxF X.F k : Int), .int .i64 0]) ∧ Below w.heap.size w w' := by
  have HT := Lib.hid h
  have ok := Lib.hid h.fok
  have hbig := h.rw.big
  obtain ⟨hnd, hlen, hkids⟩ := h.fok.sibs k
  have hix : idxF X.F k ≤ (dnOf X.F (upOf X.F k)).length := by unfold idxF; exact List.idxOf_le_length
  have HF := Lib.hid (fun W (b : Below w.heap.size w W) => follow_live (HT.out.rw.below b) hk hkl 3 (by decide))
  have HK := Lib.hid (And.intro hnd hkids)
  obtain ⟨m0, hm0⟩ : ∃ m, m = idxF X.F k := ⟨_, rfl⟩
  have hb0 : m0 ≤ 1099511627776 := by omega
  rw [← hm0]
  have HM := Lib.hid hm0
  obtain ⟨s, hs⟩ : ∃ s, s = x.sl := ⟨_, rfl⟩
  obtain ⟨g, hg⟩ : ∃ g, g = x.gn := ⟨_, rfl⟩
  rw [← hs, ← hg] at HF ⊢
  have e0 : toH X.F k 3 = hd X.F ((dnOf X.F (upOf X.F k)).take (idxF X.F k)).getLast? := by unfold toH; rw [h.fok.ahead k]
  obtain ⟨a, ha⟩ : ∃ a, a = (toH X.F k 3).1 := ⟨_, rfl⟩
  obtain ⟨b, hb⟩ : ∃ b, b = (toH X.F k 3).2 := ⟨_, rfl⟩
  rw [← ha, ← hb] at HF
  have HE : Hid ((a, b) = hd X.F ((dnOf X.F (upOf X.F k)).take (idxF X.F k)).getLast?) := Lib.hid (by rw [ha, hb, ← e0])
  clear h hk hkl hnd hlen hkids hix hm0 hs hg e0 ha hb hbig
  go_enter Tryd.func75, Tryd.ntmps75
  go_wp2_with fail
  refine (HF.out _ (by repeat (first | exact Below.refl _ _ | assumption | refine Below.drew ?_ | refine below_drewN ?_ _ | refine Below.alloc ?_ (by simp <;> omega) _ | refine Below.setCell ?_ (by simp <;> omega) _ | (apply bl_trans; assumption; (simp <;> omega))))).mono ?_
  rintro e w1 ⟨rfl, b1⟩
  have HB1 : Hid (Below w.heap.size w w1) := Lib.hid (bl_trans b1 (by simp) (by repeat (first | exact Below.refl _ _ | assumption | refine Below.drew ?_ | refine below_drewN ?_ _ | refine Below.alloc ?_ (by simp <;> omega) _ | refine Below.setCell ?_ (by simp <;> omega) _ | (apply bl_trans; assumption; (simp <;> omega)))))
  have hl1 : w.heap.size < w1.heap.size := by have := b1.size; simp at this; omega
  clear b1
  obtain ⟨V, hV⟩ : ∃ V, V = w1.alloc (.cells #[.int .u32 (a : Int), .int .u32 (b : Int)] 31) := ⟨_, rfl⟩
  have hx0 : V.heap[w1.heap.size]? = some (.cells #[.int .u32 (a : Int), .int .u32 (b : Int)] 31 (0, 0)) := by rw [hV]; exact Go.heap_alloc_new w1 _
  have hbV : Below w.heap.size w V := by rw [hV]; exact HB1.out.alloc (Nat.le_of_lt hl1) _
  have HX := Lib.hid (And.intro hx0 hbV)
  have hV2 := hV
  clear hV hx0 hbV
  obtain ⟨bx, hbx⟩ : ∃ bx, bx = w1.heap.size := ⟨_, rfl⟩
  rw [← hbx] at HX
  have hl2 : w.heap.size < bx := by omega
  go_wp2_with fail
  rw [← hV2, ← hbx]
  clear hV2 hbx HB1
  go_loopg [8] m0 (fun n v wr => ∃ (m : Nat) (pre : List Nat), v = .int .i64 (m : Int) ∧ Hid (IxR X.F w k n wr m pre) ∧ wr.heap[bx]? = some (.cells #[.int .u32 ((hd X.F pre.getLast?).1 : Int), .int .u32 ((hd X.F pre.getLast?).2 : Int)] 31 (0, 0)))
  case atStart =>
    refine ⟨0, (dnOf X.F (upOf X.F k)).take (idxF X.F k), rfl, Lib.hid ?_, ?_⟩
    · have hl : ((dnOf X.F (upOf X.F k)).take (idxF X.F k)).length = idxF X.F k := by
        rcases ok.out.split (k := k) with ⟨h1, h2⟩ | ⟨post, h1, h2, h3⟩
        · rw [h1, h2]; rfl
        · exact h3
      exact ⟨HX.out.2, by rw [hl, HM.out], by rw [hl]; omega, _, (List.take_append_drop _ _).symm⟩
    · rw [← HE.out]; exact HX.out.1
  case round =>
    obtain ⟨m, pre, rfl, hw, hx⟩ := hrel
    have x0 := cell_blk hx 0 rfl
    have x1 := cell_blk hx 1 rfl
    have HY := Lib.hid hx
    simp at x0 x1
    clear hx
    have hmb : m ≤ 1099511627776 := by have := hw.out.sum; have := HM.out; omega
    rcases List.eq_nil_or_concat pre with rfl | ⟨pre', c, rfl⟩
    · have x0 : wr.cell? ⟨bx, 0, none⟩ = some (.int .u32 0) := x0
      have x1 : wr.cell? ⟨bx, 1, none⟩ = some (.int .u32 0) := x1
      have q0 : hEq 0 0 0 0 = true := hEq_true rfl rfl
      have HR : Hid (m = m0) := Lib.hid (by have := hw.out.sum; have := HM.out; simp at *; omega)
      go_wp2_with fail
      go_ret2
      exact ⟨by rw [HR.out]; rfl, hw.out.low⟩
    · obtain ⟨post, hpost⟩ := hw.out.pre
      obtain ⟨hcu, xc, hc, hcl⟩ := HK.out.2 c (by rw [hpost]; simp)
      have e : hd X.F (pre'.concat c).getLast? = (xc.sl, xc.gn) := by rw [List.concat_eq_append, List.getLast?_concat]; exact hd_some hc
      rw [e] at x0 x1
      obtain ⟨nb, P, hm, hat, hsl, hs2, hg2⟩ := HT.out.rw.at_live hc hcl
      have q0 : hEq (xc.sl : Int) (xc.gn : Int) 0 0 = false := hEq_false (.inl (by omega))
      have HFc := Lib.hid (fun W (b : Below w.heap.size w W) => follow_live (HT.out.rw.below b) hc hcl 3 (by decide))
      have e3 : toH X.F c 3 = hd X.F pre'.getLast? := by
        unfold toH
        show hd X.F (prevOf (dnOf X.F (upOf X.F c)) c) = _
        rw [hcu, hpost, List.concat_eq_append, List.append_assoc]
        rw [List.singleton_append, prev_split (by
          have h1 := HK.out.1
          rw [hpost, List.concat_eq_append] at h1
          exact fun ha => (List.nodup_append.1 (List.nodup_append.1 h1).1).2.2 c ha c (by simp) rfl)]
      rw [e3] at HFc
      have HN : Hid (∀ W, Below w.heap.size w W → IxR X.F w k pre'.length W (m + 1) pre') := Lib.hid (fun W b => ⟨b, rfl, by have := hw.out.sum; simp at this; omega, c :: post, by rw [hpost, List.concat_eq_append, List.append_assoc]; rfl⟩)
      have HLen : Hid (pre'.length < gk) := Lib.hid (by have := hw.out.len; rw [this]; simp)
      have HL := Lib.hid hw.out.low
      have w1' : IntKind.i64.wrap ((m : Int) + 1) = (m : Int) + 1 := IntWalk.i64_in _ (by omega)
      clear hpost hcu hc hcl e hm hat hsl hs2 hg2 e3 hw
      go_wp2_with (go_at_call 90; refine (HFc.out _ HL.out).mono ?_; rintro e w2 ⟨rfl, b1⟩; have hx1 := (b1.block _ (lt_of_some HY.out)).trans HY.out; have z0 := cell_blk hx1 0 rfl; have z1 := cell_blk hx1 1 rfl; have f0 := free_blk hx1 0; have f1 := free_blk hx1 1; have HXY := Lib.hid hx1; have HB := Lib.hid (HL.out.trans (b1.mono HL.out.size)); clear b1 hx1)
      go_roundg pre'.length
      case measure => exact HLen.out
      case rel => exact ⟨m + 1, pre', by go_num, Lib.hid (HN.out _ ((HB.out.setCell (by simp; omega) _).setCell (by simp; omega) _)), set_blk (set_blk HXY.out 0 _) 1 _⟩
end
end Go.Proofs.YtelhnaphkbpakaaDoor

namespace Go.Proofs.YtelhnaphkbpakaaDoor
open Go.RowKit
set_option linter.unusedVariables false
set_option maxRecDepth 100000

section
variable {B : Nat} {Q : Nat → Prop} {w w' : World} {tb : Nat} {X : TX} {Lf : Nat → Nat → Nat × Nat}
/-- Where nodes' blocks alone were written. -/
theorem TreeRw.nodes (h : TreeRw B Q w tb X Lf) {Q' : Nat → Prop} (f : FrG [120] Q' w w') {Lf' : Nat → Nat → Nat × Nat}
    (hn : ∀ (k : Nat) (x : FN) nb P, X.F[k]? = some x → x.live = true → X.M[k]? = some (nb, P) → w'.heap[nb]? = some (.cells (ncells P (Lf' k) (k + 1)) 120 (0, 0))) : TreeRw B Q w' tb X Lf' := by
  refine ⟨h.lenM, h.few, h.big, ?_, h.own, f.blk h.blk (by decide), ⟨?_, h.had.2⟩, ⟨?_, h.fre.2⟩, h.slot, h.used, ?_, h.nbd, fun p hp => Nat.lt_of_lt_of_le (h.nbl p hp) f.size⟩
  · obtain ⟨Qa, h1, h2, h3⟩ := h.ar; exact ⟨Qa, h1.kept f (by decide) (by decide) (by decide), fun k hk => ⟨(h2 k hk).1, Nat.lt_of_lt_of_le (h2 k hk).2 f.size⟩, h3⟩
  · obtain ⟨hc, h1⟩ := h.had.1; exact ⟨hc, f.row h1 (by decide)⟩
  · obtain ⟨hc, h1⟩ := h.fre.1; exact ⟨hc, f.row h1 (by decide)⟩
  · intro k x nb P h1 h2 h3
    obtain ⟨a1, a2, a3, a4⟩ := h.node k x nb P h1 h2 h3
    exact ⟨a1, a2, hn k x nb P h1 h2 h3, a4.frg f (by decide) (by decide)⟩
theorem TreeRw.nb_inj (h : TreeRw B Q w tb X Lf) {k m nb : Nat} {P P' : Nd} (h1 : X.M[k]? = some (nb, P)) (h2 : X.M[m]? = some (nb, P')) : k = m := by
  have h5 : (X.M.map Prod.fst)[k]? = (X.M.map Prod.fst)[m]? := by rw [List.getElem?_map, List.getElem?_map, h1, h2]; rfl
  have hk : k < (X.M.map Prod.fst).length := by rw [List.length_map]; exact (List.getElem?_eq_some_iff.1 h1).1
  have hm : m < (X.M.map Prod.fst).length := by rw [List.length_map]; exact (List.getElem?_eq_some_iff.1 h2).1
  rw [List.getElem?_eq_getElem hk, List.getElem?_eq_getElem hm] at h5
  exact (List.getElem_inj h.nbd).1 (Option.some.inj h5)
/-- One link written: two cells. -/
theorem TreeRw.setL (h : TreeRw B Q w tb X Lf) {k : Nat} {x : FN} (hx : X.F[k]? = some x) (hl : x.live = true) {nb : Nat} {P : Nd} (hm : X.M[k]? = some (nb, P)) (j : Nat) (hj : j < 5) (p : Nat × Nat) :
    TreeRw B Q ((w.setCell ⟨nb, 6 + j * 2, none⟩ (.int .u32 (p.1 : Int))).setCell ⟨nb, 6 + j * 2 + 1, none⟩ (.int .u32 (p.2 : Int))) tb X (updH Lf k j p) ∧
    FrG [120] (fun b => b = nb) w ((w.setCell ⟨nb, 6 + j * 2, none⟩ (.int .u32 (p.1 : Int))).setCell ⟨nb, 6 + j * 2 + 1, none⟩ (.int .u32 (p.2 : Int))) ∧
    ((w.setCell ⟨nb, 6 + j * 2, none⟩ (.int .u32 (p.1 : Int))).setCell ⟨nb, 6 + j * 2 + 1, none⟩ (.int .u32 (p.2 : Int))).heap[nb]? = some (.cells (ncells P (updF (Lf k) j p) (k + 1)) 120 (0, 0)) := by
  have h0 := (h.node k x nb P hx hl hm).2.2.1
  have h1 := set_blk h0 (6 + j * 2) (.int .u32 (p.1 : Int))
  have h2 := set_blk h1 (6 + j * 2 + 1) (.int .u32 (p.2 : Int))
  rw [ncells_set P (Lf k) (k + 1) j hj p] at h2
  have f : FrG [120] (fun b => b = nb) w ((w.setCell ⟨nb, 6 + j * 2, none⟩ (.int .u32 (p.1 : Int))).setCell ⟨nb, 6 + j * 2 + 1, none⟩ (.int .u32 (p.2 : Int))) :=
    ((FrG.refl [120] (fun b => b = nb) w).set (a := ⟨nb, 6 + j * 2, none⟩) (.inl rfl) h0 (List.mem_singleton.2 rfl) _).set (a := ⟨nb, 6 + j * 2 + 1, none⟩) (.inl rfl) h1 (List.mem_singleton.2 rfl) _
  refine ⟨h.nodes f (fun m y nb' P' g1 g2 g3 => ?_), f, h2⟩
  by_cases e : m = k
  · subst e
    rw [hm] at g3
    cases g3
    rw [updH_same]
    exact h2
  · rw [updH_other p e]
    have hne : nb' ≠ nb := by rintro rfl; exact e (h.nb_inj g3 hm)
    exact set_other (set_other (h.node m y nb' P' g1 g2 g3).2.2.1 hne _) hne _

set_option maxHeartbeats 2000000 in
theorem set_live (h : TreeRw B Q w tb X Lf) {k : Nat} {x : FN} (hx : X.F[k]? = some x) (hl : x.live = true) (j : Nat) (hj : j < 5) (p q : Nat) :
    Calls Tryd.prog 102 #[.pointer (some ⟨tb, 0, none⟩), .agg #[.int .u32 (x.sl : Int), .int .u32 (x.gn : Int)], .int .i64 (j : Int), .agg #[.int .u32 (p : Int), .int .u32 (q : Int)]] w fun e w' =>
      e = .returned (.tuple #[]) ∧ TreeRw B Q w' tb X (updH Lf k j (p, q)) ∧ FrG [120] Q w w' := by
  obtain ⟨nb, P, hm, _⟩ := h.at_live hx hl
  have hnode := (h.node k x nb P hx hl hm).2.2.1
  have HG : Hid (∀ W, Below w.heap.size w W → Calls Tryd.prog 76 #[.pointer (some ⟨X.ab, 0, none⟩), .agg #[.int .u32 (x.sl : Int), .int .u32 (x.gn : Int)]] W fun e w' => e = .returned (.tuple #[.pointer (some ⟨nb, 0, none⟩), .int .i64 0]) ∧ Below W.heap.size W w') :=
    Lib.hid (fun W b => (h.below b).get_live hx hl hm)
  have HSET : Hid (∀ W, Below w.heap.size w W → TreeRw B Q ((W.setCell ⟨nb, 6 + j * 2, none⟩ (.int .u32 (p : Int))).setCell ⟨nb, 6 + j * 2 + 1, none⟩ (.int .u32 (q : Int))) tb X (updH Lf k j (p, q)) ∧ FrG [120] Q w ((W.setCell ⟨nb, 6 + j * 2, none⟩ (.int .u32 (p : Int))).setCell ⟨nb, 6 + j * 2 + 1, none⟩ (.int .u32 (q : Int)))) :=
    Lib.hid (fun W b => by
      have h1 := (h.below b).setL hx hl hm j hj (p, q)
      exact ⟨h1.1, (FrG.of_below b).trans (h1.2.1.mono (fun _ h => h) (fun b e => by rw [e]; exact (h.node k x nb P hx hl hm).2.1)) (fun _ h => .inl h)⟩)
  have c0 := cell_blk h.blk 0 rfl
  have ltb := lt_of_some h.blk
  have lnb := lt_of_some hnode
  have HN0 := Lib.hid (ncells_at P (Lf k) (k + 1) j hj)
  have HND := Lib.hid hnode
  have p0 : (0 : Int) ≤ (j : Int) := by omega
  have p1 : (j : Int) < 5 := by omega
  simp at c0
  obtain ⟨s, hs⟩ : ∃ s, s = x.sl := ⟨_, rfl⟩
  obtain ⟨g, hg⟩ : ∃ g, g = x.gn := ⟨_, rfl⟩
  rw [← hs, ← hg] at HG ⊢
  obtain ⟨V, hV⟩ : ∃ V, V = (w.alloc (.cells #[.int .u32 (s : Int), .int .u32 (g : Int)] 31)).alloc (.cells #[.int .u32 (p : Int), .int .u32 (q : Int)] 31) := ⟨_, rfl⟩
  have bV : Below w.heap.size w V := by rw [hV]; exact (by repeat (first | exact Below.refl _ _ | assumption | refine Below.drew ?_ | refine below_drewN ?_ _ | refine Below.alloc ?_ (by simp <;> omega) _ | refine Below.setCell ?_ (by simp <;> omega) _ | (apply bl_trans; assumption; (simp <;> omega))))
  have hx2 : V.heap[w.heap.size + 1]? = some (.cells #[.int .u32 (p : Int), .int .u32 (q : Int)] 31 (0, 0)) := by rw [hV]; exact alloc2_blk w _ _
  have hy : V.heap[w.heap.size]? = some (.cells #[.int .u32 (s : Int), .int .u32 (g : Int)] 31 (0, 0)) := by rw [hV]; exact alloc_blk (Go.heap_alloc_new w _) _
  have y0 := cell_blk hy 0 rfl
  have y1 := cell_blk hy 1 rfl
  have d0 := (bV.cell (p := ⟨tb, 0, none⟩) ltb).trans c0
  have HX := Lib.hid (And.intro hx2 bV)
  simp at y0 y1
  have hV2 := hV
  clear hV hx2 hy bV h hx hl hm hnode hs hg
  go_enter Tryd.func102, Tryd.ntmps102
  go_wp2_with fail
  rw [← hV2]
  clear hV2 c0
  go_region_with (go_at_call 76; refine (HG.out _ HX.out.2.drew).mono ?_; rintro e w1 ⟨rfl, b1⟩; have b2 : Below V.heap.size V w1 := (Below.refl _ V).drew.trans b1; have HB := Lib.hid (HX.out.2.trans (b2.mono HX.out.2.size)); have hx := (b2.block (w.heap.size + 1) (lt_of_some HX.out.1)).trans HX.out.1; have x0 := cell_blk hx 0 rfl; have x1 := cell_blk hx 1 rfl; have hn := (HB.out.block nb lnb).trans HND.out; have n0 := cell_blk hn _ HN0.out.1; have n1 := cell_blk hn _ HN0.out.2; have f0 := free_blk hn (6 + j * 2); have f1 := free_blk hn (6 + j * 2 + 1); simp at x0 x1; clear b1 b2 hx hn)
  all_goals go_wp2_with fail
  all_goals go_region
  all_goals go_wp2_with fail
  all_goals go_end0
  all_goals exact ⟨rfl, (HSET.out w1 HB.out).1.below (Below.refl _ _).drew, (HSET.out w1 HB.out).2.drew⟩
set_option maxHeartbeats 2000000 in
/-- set of none: nothing. -/
theorem set_none (h : TreeRw B Q w tb X Lf) (j p q : Nat) :
    Calls Tryd.prog 102 #[.pointer (some ⟨tb, 0, none⟩), .agg #[.int .u32 0, .int .u32 0], .int .i64 (j : Int), .agg #[.int .u32 (p : Int), .int .u32 (q : Int)]] w fun e w' =>
      e = .returned (.tuple #[]) ∧ Below w.heap.size w w' := by
  have HG : Hid (∀ W, Below w.heap.size w W → Calls Tryd.prog 76 #[.pointer (some ⟨X.ab, 0, none⟩), .agg #[.int .u32 0, .int .u32 0]] W fun e w' => e = .returned (.tuple #[.pointer none, .int .i64 51]) ∧ Below W.heap.size W w') :=
    Lib.hid (fun W b => (h.below b).get_dead (s := 0) (g := 0) (by decide) (by decide) ((h.below b).no_zero 0))
  have c0 := cell_blk h.blk 0 rfl
  have ltb := lt_of_some h.blk
  simp at c0
  obtain ⟨V, hV⟩ : ∃ V, V = (w.alloc (.cells #[.int .u32 0, .int .u32 0] 31)).alloc (.cells #[.int .u32 (p : Int), .int .u32 (q : Int)] 31) := ⟨_, rfl⟩
  have bV : Below w.heap.size w V := by rw [hV]; exact (by repeat (first | exact Below.refl _ _ | assumption | refine Below.drew ?_ | refine below_drewN ?_ _ | refine Below.alloc ?_ (by simp <;> omega) _ | refine Below.setCell ?_ (by simp <;> omega) _ | (apply bl_trans; assumption; (simp <;> omega))))
  have hy : V.heap[w.heap.size]? = some (.cells #[.int .u32 0, .int .u32 0] 31 (0, 0)) := by rw [hV]; exact alloc_blk (Go.heap_alloc_new w _) _
  have y0 := cell_blk hy 0 rfl
  have y1 := cell_blk hy 1 rfl
  have d0 := (bV.cell (p := ⟨tb, 0, none⟩) ltb).trans c0
  have HX := Lib.hid bV
  simp at y0 y1
  have hV2 := hV
  clear hV hy bV h
  go_enter Tryd.func102, Tryd.ntmps102
  go_wp2_with fail
  rw [← hV2]
  clear hV2 c0
  go_region_with (go_at_call 76; refine (HG.out _ HX.out.drew).mono ?_; rintro e w1 ⟨rfl, b1⟩; have b2 : Below V.heap.size V w1 := (Below.refl _ V).drew.trans b1; have HB := Lib.hid (HX.out.trans (b2.mono HX.out.size)); clear b1 b2)
  all_goals go_wp2_with fail
  all_goals go_end0
  all_goals exact ⟨rfl, HB.out⟩
end
end Go.Proofs.YtelhnaphkbpakaaDoor

namespace Go.Proofs.YtelhnaphkbpakaaDoor
open Go.RowKit
set_option linter.unusedVariables false
set_option maxRecDepth 100000

section
variable {B : Nat} {Q : Nat → Prop} {w w' : World} {tb : Nat} {X : TX} {Lf : Nat → Nat → Nat × Nat}
set_option maxHeartbeats 2000000 in
theorem born_live (h : TreeRw B Q w tb X Lf) {k : Nat} {x : FN} (hx : X.F[k]? = some x) (hl : x.live = true) :
    Calls Tryd.prog 43 #[.pointer (some ⟨tb, 0, none⟩), .agg #[.int .u32 (x.sl : Int), .int .u32 (x.gn : Int)]] w fun e w' => e = .returned (.tuple #[.int .u64 ((k + 1 : Nat) : Int), .int .i64 0]) ∧ Below w.heap.size w w' := by
  obtain ⟨nb, P, hm, _⟩ := h.at_live hx hl
  have hnode := (h.node k x nb P hx hl hm).2.2.1
  have HG : Hid (∀ W, Below w.heap.size w W → Calls Tryd.prog 76 #[.pointer (some ⟨X.ab, 0, none⟩), .agg #[.int .u32 (x.sl : Int), .int .u32 (x.gn : Int)]] W fun e w' => e = .returned (.tuple #[.pointer (some ⟨nb, 0, none⟩), .int .i64 0]) ∧ Below W.heap.size W w') :=
    Lib.hid (fun W b => (h.below b).get_live hx hl hm)
  have c0 := cell_blk h.blk 0 rfl
  have ltb := lt_of_some h.blk
  have lnb := lt_of_some hnode
  have n0 : w.cell? ⟨nb, 16, none⟩ = some (.int .u64 ((k + 1 : Nat) : Int)) := cell_blk hnode 16 rfl
  simp at c0
  obtain ⟨s, hs⟩ : ∃ s, s = x.sl := ⟨_, rfl⟩
  obtain ⟨g, hg⟩ : ∃ g, g = x.gn := ⟨_, rfl⟩
  obtain ⟨r, hr⟩ : ∃ r : Int, r = ((k + 1 : Nat) : Int) := ⟨_, rfl⟩
  rw [← hs, ← hg] at HG ⊢
  rw [← hr] at n0 ⊢
  clear h hx hl hm hnode hs hg hr
  obtain ⟨V, hV⟩ : ∃ V, V = w.alloc (.cells #[.int .u32 (s : Int), .int .u32 (g : Int)] 31) := ⟨_, rfl⟩
  have bV : Below w.heap.size w V := by rw [hV]; exact (by repeat (first | exact Below.refl _ _ | assumption | refine Below.drew ?_ | refine below_drewN ?_ _ | refine Below.alloc ?_ (by simp <;> omega) _ | refine Below.setCell ?_ (by simp <;> omega) _ | (apply bl_trans; assumption; (simp <;> omega))))
  have hy : V.heap[w.heap.size]? = some (.cells #[.int .u32 (s : Int), .int .u32 (g : Int)] 31 (0, 0)) := by rw [hV]; exact Go.heap_alloc_new w _
  have y0 := cell_blk hy 0 rfl
  have y1 := cell_blk hy 1 rfl
  have d0 := (bV.cell (p := ⟨tb, 0, none⟩) ltb).trans c0
  have HX := Lib.hid bV
  simp at y0 y1
  have hV2 := hV
  clear hV hy bV
  go_enter Tryd.func43, Tryd.ntmps43
  go_wp2_with fail
  rw [← hV2]
  clear hV2 c0
  go_region_with (go_at_call 76; refine (HG.out _ HX.out.drew).mono ?_; rintro e w1 ⟨rfl, b1⟩; have b2 : Below V.heap.size V w1 := (Below.refl _ V).drew.trans b1; have HB := Lib.hid (HX.out.trans (b2.mono HX.out.size)); have m0 := (HB.out.cell (p := ⟨nb, 16, none⟩) lnb).trans n0; clear b1 b2)
  all_goals go_wp2_with fail
  all_goals go_ret2
  all_goals exact ⟨rfl, HB.out⟩
set_option maxHeartbeats 2000000 in
theorem born_dead (h : TreeRw B Q w tb X Lf) {s g : Nat} (hs : s ≤ 4294967295) (hg : g ≤ 4294967295) (hn : NoH X.F s g) :
    Calls Tryd.prog 43 #[.pointer (some ⟨tb, 0, none⟩), .agg #[.int .u32 (s : Int), .int .u32 (g : Int)]] w fun e w' => e = .returned (.tuple #[.int .u64 0, .int .i64 51]) ∧ Below w.heap.size w w' := by
  have HG : Hid (∀ W, Below w.heap.size w W → Calls Tryd.prog 76 #[.pointer (some ⟨X.ab, 0, none⟩), .agg #[.int .u32 (s : Int), .int .u32 (g : Int)]] W fun e w' => e = .returned (.tuple #[.pointer none, .int .i64 51]) ∧ Below W.heap.size W w') :=
    Lib.hid (fun W b => (h.below b).get_dead hs hg hn)
  have c0 := cell_blk h.blk 0 rfl
  have ltb := lt_of_some h.blk
  simp at c0
  clear h hs hg hn
  obtain ⟨V, hV⟩ : ∃ V, V = w.alloc (.cells #[.int .u32 (s : Int), .int .u32 (g : Int)] 31) := ⟨_, rfl⟩
  have bV : Below w.heap.size w V := by rw [hV]; exact (by repeat (first | exact Below.refl _ _ | assumption | refine Below.drew ?_ | refine below_drewN ?_ _ | refine Below.alloc ?_ (by simp <;> omega) _ | refine Below.setCell ?_ (by simp <;> omega) _ | (apply bl_trans; assumption; (simp <;> omega))))
  have hy : V.heap[w.heap.size]? = some (.cells #[.int .u32 (s : Int), .int .u32 (g : Int)] 31 (0, 0)) := by rw [hV]; exact Go.heap_alloc_new w _
  have y0 := cell_blk hy 0 rfl
  have y1 := cell_blk hy 1 rfl
  have d0 := (bV.cell (p := ⟨tb, 0, none⟩) ltb).trans c0
  have HX := Lib.hid bV
  simp at y0 y1
  have hV2 := hV
  clear hV hy bV
  go_enter Tryd.func43, Tryd.ntmps43
  go_wp2_with fail
  rw [← hV2]
  clear hV2 c0
  go_region_with (go_at_call 76; refine (HG.out _ HX.out.drew).mono ?_; rintro e w1 ⟨rfl, b1⟩; have b2 : Below V.heap.size V w1 := (Below.refl _ V).drew.trans b1; have HB := Lib.hid (HX.out.trans (b2.mono HX.out.size)); clear b1 b2)
  all_goals go_wp2_with fail
  all_goals go_ret2
  all_goals exact ⟨rfl, HB.out⟩
set_option maxHeartbeats 4000000 in
/-- What a node has: a copy in memory of its own. -/
theorem node_live (h : TreeRw B Q w tb X Lf) {k : Nat} {x : FN} (hx : X.F[k]? = some x) (hl : x.live = true) {nb : Nat} {P : Nd} (hm : X.M[k]? = some (nb, P)) (hB : P.Bd 1099511627776) :
    Calls Tryd.prog 45 #[.pointer (some ⟨tb, 0, none⟩), .agg #[.int .u32 (x.sl : Int), .int .u32 (x.gn : Int)]] w fun e w' => ∃ M : Nd, e = .returned (.tuple #[M.v, .int .i64 0]) ∧ M.Same P ∧ Fresh w.heap.size w' M ∧ Below w.heap.size w w' := by
  obtain ⟨a1, a2, hnode, hfr⟩ := h.node k x nb P hx hl hm
  have HG : Hid (∀ W, Below w.heap.size w W → Calls Tryd.prog 76 #[.pointer (some ⟨X.ab, 0, none⟩), .agg #[.int .u32 (x.sl : Int), .int .u32 (x.gn : Int)]] W fun e w' => e = .returned (.tuple #[.pointer (some ⟨nb, 0, none⟩), .int .i64 0]) ∧ Below W.heap.size W w') :=
    Lib.hid (fun W b => (h.below b).get_live hx hl hm)
  have HCL : Hid (∀ W, Below w.heap.size w W → Calls Tryd.prog 69 #[P.v] W fun e w' => ∃ M : Nd, e = .returned M.v ∧ M.Same P ∧ Fresh W.heap.size w' M ∧ Below W.heap.size W w') := Lib.hid (fun W bb => clone_calls W P (hfr.nd.below bb) hB)
  have c0 := cell_blk h.blk 0 rfl
  have ltb := lt_of_some h.blk
  have lnb := lt_of_some hnode
  have HND := Lib.hid hnode
  simp at c0
  obtain ⟨s, hs⟩ : ∃ s, s = x.sl := ⟨_, rfl⟩
  obtain ⟨g, hg⟩ : ∃ g, g = x.gn := ⟨_, rfl⟩
  rw [← hs, ← hg] at HG ⊢
  unfold Nd.v Nd.cells at HCL
  obtain ⟨m, em⟩ : ∃ m, m = P.data.length := ⟨_, rfl⟩
  obtain ⟨n, en⟩ : ∃ n, n = P.L.length := ⟨_, rfl⟩
  have n0 : w.cell? ⟨nb, 0, none⟩ = some (.int .i64 P.kind) := cell_blk hnode 0 rfl
  have n1 : w.cell? ⟨nb, 1, none⟩ = some (.string P.name) := cell_blk hnode 1 rfl
  have n2 : w.cell? ⟨nb, 2, none⟩ = some (.slice P.da m P.dc) := by rw [em]; exact cell_blk hnode 2 rfl
  have n3 : w.cell? ⟨nb, 3, none⟩ = some (.slice P.aa n P.ac) := by rw [en]; exact cell_blk hnode 3 rfl
  have n4 : w.cell? ⟨nb, 4, none⟩ = some (.int .u32 P.slot) := cell_blk hnode 4 rfl
  have n5 : w.cell? ⟨nb, 5, none⟩ = some (.int .u32 P.gen) := cell_blk hnode 5 rfl
  rw [← em, ← en] at HCL
  have HSM : Hid (∀ (W : World), Below w.heap.size w W → W.cell? ⟨nb, 0, none⟩ = some (.int .i64 P.kind) ∧ W.cell? ⟨nb, 1, none⟩ = some (.string P.name) ∧ W.cell? ⟨nb, 2, none⟩ = some (.slice P.da m P.dc) ∧ W.cell? ⟨nb, 3, none⟩ = some (.slice P.aa n P.ac) ∧ W.cell? ⟨nb, 4, none⟩ = some (.int .u32 P.slot) ∧ W.cell? ⟨nb, 5, none⟩ = some (.int .u32 P.gen)) := Lib.hid (fun W b =>
    ⟨(b.cell (p := ⟨nb, 0, none⟩) lnb).trans n0, (b.cell (p := ⟨nb, 1, none⟩) lnb).trans n1, (b.cell (p := ⟨nb, 2, none⟩) lnb).trans n2, (b.cell (p := ⟨nb, 3, none⟩) lnb).trans n3, (b.cell (p := ⟨nb, 4, none⟩) lnb).trans n4, (b.cell (p := ⟨nb, 5, none⟩) lnb).trans n5⟩)
  obtain ⟨V, hV⟩ : ∃ V, V = (w.alloc (.cells #[.int .u32 (s : Int), .int .u32 (g : Int)] 31)).alloc (.cells #[.int .i64 0, .string ⟨#[]⟩, .slice none 0 0, .slice none 0 0, .int .u32 0, .int .u32 0] 66) := ⟨_, rfl⟩
  have bV : Below w.heap.size w V := by rw [hV]; exact (by repeat (first | exact Below.refl _ _ | assumption | refine Below.drew ?_ | refine below_drewN ?_ _ | refine Below.alloc ?_ (by simp <;> omega) _ | refine Below.setCell ?_ (by simp <;> omega) _ | (apply bl_trans; assumption; (simp <;> omega))))
  have hy : V.heap[w.heap.size]? = some (.cells #[.int .u32 (s : Int), .int .u32 (g : Int)] 31 (0, 0)) := by rw [hV]; exact alloc_blk (Go.heap_alloc_new w _) _
  have hx2 : V.heap[w.heap.size + 1]? = some (.cells #[.int .i64 0, .string ⟨#[]⟩, .slice none 0 0, .slice none 0 0, .int .u32 0, .int .u32 0] 66 (0, 0)) := by rw [hV]; exact alloc2_blk w _ _
  have y0 := cell_blk hy 0 rfl
  have y1 := cell_blk hy 1 rfl
  have d0 := (bV.cell (p := ⟨tb, 0, none⟩) ltb).trans c0
  have HX := Lib.hid (And.intro bV hx2)
  simp at y0 y1
  have hV2 := hV
  clear hV hy bV hx2 h hx hl hm hnode hfr hB hs hg em en n0 n1 n2 n3 n4 n5 a1 a2
  go_enter Tryd.func45, Tryd.ntmps45
  go_wp2_with fail
  rw [← hV2]
  clear hV2 c0
  go_region_with (go_at_call 76; refine (HG.out _ HX.out.1.drew).mono ?_; rintro e w1 ⟨rfl, b1⟩; have b2 : Below V.heap.size V w1 := (Below.refl _ V).drew.trans b1; have HB := Lib.hid (And.intro (HX.out.1.trans (b2.mono HX.out.1.size)) ((b2.block _ (lt_of_some HX.out.2)).trans HX.out.2)); obtain ⟨m0, m1, m2, m3, m4, m5⟩ := HSM.out w1 HB.out.1; clear b1 b2)
  all_goals go_wp2_with fail
  all_goals refine (HCL.out _ HB.out.1).mono ?_
  all_goals rintro e w2 ⟨M, rfl, hM, hF, b2⟩
  all_goals have hx3 := (b2.block _ (lt_of_some HB.out.2)).trans HB.out.2
  all_goals have HF := Lib.hid (And.intro hM (And.intro (hF.mono HB.out.1.size) (And.intro (HB.out.1.trans (b2.mono HB.out.1.size)) hx3)))
  all_goals have x0 := cell_blk hx3 0 rfl
  all_goals have x1 := cell_blk hx3 1 rfl
  all_goals have x2 := cell_blk hx3 2 rfl
  all_goals have x3 := cell_blk hx3 3 rfl
  all_goals have x4 := cell_blk hx3 4 rfl
  all_goals have x5 := cell_blk hx3 5 rfl
  all_goals have f0 := free_blk hx3 0
  all_goals have f1 := free_blk hx3 1
  all_goals have f2 := free_blk hx3 2
  all_goals have f3 := free_blk hx3 3
  all_goals have f4 := free_blk hx3 4
  all_goals have f5 := free_blk hx3 5
  all_goals simp at x0 x1 x2 x3 x4 x5
  all_goals clear hM hF b2 hx3
  all_goals obtain ⟨m2', em2⟩ : ∃ m, m = M.data.length := ⟨_, rfl⟩
  all_goals obtain ⟨n2', en2⟩ : ∃ m, m = M.L.length := ⟨_, rfl⟩
  all_goals rw [← em2, ← en2]
  all_goals have HEM := Lib.hid (And.intro em2 en2)
  all_goals clear em2 en2
  all_goals go_wp2_with fail
  all_goals have s6 := six_cells HF.out.2.2.2 (.int .i64 M.kind) (.string M.name) (.slice M.da m2' M.dc) (.slice M.aa n2' M.ac) (.int .u32 M.slot) (.int .u32 M.gen)
  all_goals have z0 := cell_blk s6.1 0 rfl
  all_goals have z1 := cell_blk s6.1 1 rfl
  all_goals have z2 := cell_blk s6.1 2 rfl
  all_goals have z3 := cell_blk s6.1 3 rfl
  all_goals have z4 := cell_blk s6.1 4 rfl
  all_goals have z5 := cell_blk s6.1 5 rfl
  all_goals simp at z0 z1 z2 z3 z4 z5
  all_goals refine bodyPost_ret (v := .tuple #[.agg #[.int .i64 M.kind, .string M.name, .slice M.da m2' M.dc, .slice M.aa n2' M.ac, .int .u32 M.slot, .int .u32 M.gen], .int .i64 0]) (by simp [results, Tryd.results45, go_sem, z0, z1, z2, z3, z4, z5]) rfl ⟨M, ?_, HF.out.1, ?_, ?_⟩
  all_goals first | exact HF.out.2.1.frt s6.2 | exact HF.out.2.2.1.trans ((s6.2.below (by have := lt_of_some HF.out.2.2.2; omega)).mono (by omega)) | (rw [HEM.out.1, HEM.out.2]; rfl)
end
end Go.Proofs.YtelhnaphkbpakaaDoor

namespace Go.Proofs.YtelhnaphkbpakaaDoor
set_option linter.unusedVariables false

section
variable {α β : Type} {f : α → List β} {k : Nat}

theorem fl_length (hf : ∀ a, (f a).length = k) (l : List α) : (l.flatMap f).length = l.length * k := by
  induction l with
  | nil => simp
  | cons x l ih => simp only [List.flatMap_cons, List.length_append, List.length_cons, ih, hf, Nat.add_mul]; omega

theorem fl_at (hf : ∀ a, (f a).length = k) {l : List α} {i : Nat} {a : α} (h : l[i]? = some a) (j : Nat) (hj : j < k) : (l.flatMap f)[i * k + j]? = (f a)[j]? := by
  induction l generalizing i with
  | nil => simp at h
  | cons x l ih =>
    rw [List.flatMap_cons]
    cases i with
    | zero =>
      simp at h; subst h
      rw [List.getElem?_append_left (by rw [hf]; omega)]; simp
    | succ i =>
      rw [List.getElem?_append_right (by rw [hf, Nat.add_mul]; omega), hf, show (i + 1) * k + j - k = i * k + j by rw [Nat.add_mul]; omega]
      exact ih (by simpa using h)

theorem fl_set (hf : ∀ a, (f a).length = k) {l : List α} {i : Nat} {a a' : α} (h : l[i]? = some a) (j : Nat) (hj : j < k) {v : β} (hs : f a' = (f a).set j v) : (l.set i a').flatMap f = (l.flatMap f).set (i * k + j) v := by
  induction l generalizing i with
  | nil => simp at h
  | cons x l ih =>
    cases i with
    | zero =>
      simp at h; subst h
      rw [List.set_cons_zero, List.flatMap_cons, List.flatMap_cons, hs, List.set_append_left _ _ (by rw [hf]; omega)]; simp
    | succ i =>
      rw [List.set_cons_succ, List.flatMap_cons, List.flatMap_cons, ih (by simpa using h), List.set_append_right _ _ (by rw [hf, Nat.add_mul]; omega), hf, show (i + 1) * k + j - k = i * k + j by rw [Nat.add_mul]; omega]

theorem fl_lt {i j n : Nat} (hi : i < n) (hj : j < k) : i * k + j < n * k := by
  have := Nat.mul_le_mul_right k (show i + 1 ≤ n from hi)
  rw [Nat.add_mul] at this; omega
end
end Go.Proofs.YtelhnaphkbpakaaDoor

namespace Go.Proofs.YtelhnaphkbpakaaDoor
open Go.RowKit
set_option linter.unusedVariables false
set_option maxRecDepth 100000

/-- A node of the reference: as data, what it has, its children's slice. -/
abbrev RN := FN × Nd × Value
def upI (o : Option Nat) : Int := match o with | none => -1 | some u => (u : Int)
def icells (l : List Nat) : List Value := l.map fun (j : Nat) => Value.int .i64 (j : Int)
def rcells (r : RN) : List Value :=
  [.int .u32 (r.1.sl : Int), .int .u32 (r.1.gn : Int), .int .i64 r.2.1.kind, .string r.2.1.name, .slice r.2.1.da r.2.1.data.length r.2.1.dc, .slice r.2.1.aa r.2.1.L.length r.2.1.ac, .int .u32 r.2.1.slot, .int .u32 r.2.1.gen,
    .int .i64 (upI r.1.up), r.2.2, .bool r.1.live]
theorem rcells_len (r : RN) : (rcells r).length = 11 := rfl
/-- What stays where none of Q's blocks is asked. -/
def KeepN (Q : Nat → Prop) (w W : World) : Prop := ∀ (k : Nat) (o : Obj), ¬ Q k → w.heap[k]? = some o → W.heap[k]? = some o
def NdK (Q : Nat → Prop) (w : World) (P : Nd) : Prop := ∀ W, KeepN Q w W → NdIn W P

structure FoAt (B : Nat) (Q : Nat → Prop) (w : World) (fb : Nat) (F : For) (R : List RN) (rv : Value) : Prop where
  eq : R.map Prod.fst = F
  big : F.length ≤ 1099511627776
  own : Q fb ∧ B ≤ fb
  blk : w.heap[fb]? = some (.cells #[rv] 61 (0, 0))
  row : w.ownsRow B 69 11 rv R.length (R.flatMap rcells)
  rq : ∀ k, rv.ownBlock = some k → Q k
  down : ∀ r ∈ R, w.ownsRow B 3 1 r.2.2 r.1.down.length (icells r.1.down) ∧ ∀ k, r.2.2.ownBlock = some k → Q k
  has : ∀ r ∈ R, NdK Q w r.2.1

section
variable {B : Nat} {Q : Nat → Prop} {w w' : World} {fb : Nat} {F : For} {R : List RN} {rv : Value} {T : List TypeId}
theorem FoAt.at (h : FoAt B Q w fb F R rv) {k : Nat} {x : FN} (hx : F[k]? = some x) : ∃ P dv, R[k]? = some (x, P, dv) := by
  have e := h.eq
  subst e
  rw [List.getElem?_map, Option.map_eq_some_iff] at hx
  obtain ⟨⟨y, P, dv⟩, h1, rfl⟩ := hx
  exact ⟨P, dv, h1⟩
theorem FoAt.ofR (h : FoAt B Q w fb F R rv) {k : Nat} {r : RN} (hr : R[k]? = some r) : F[k]? = some r.1 := by
  have e := h.eq
  subst e
  rw [List.getElem?_map, hr]
  rfl
theorem FoAt.len (h : FoAt B Q w fb F R rv) : R.length = F.length := by rw [← h.eq]; simp
/-- The row's slice and a cell of it. -/
theorem FoAt.shape (h : FoAt B Q w fb F R rv) : ∃ a cap, rv = .slice a F.length cap := by
  rcases h.row.2 with ⟨e, hn⟩ | ⟨gb, cap, cur, e, _⟩
  · exact ⟨none, 0, by rw [e, ← h.len, hn]⟩
  · exact ⟨_, cap, by rw [e, h.len]⟩
theorem FoAt.cells (h : FoAt B Q w fb F R rv) {k : Nat} {r : RN} (hr : R[k]? = some r) :
    ∃ g cap, rv = .slice (some ⟨g, 0, none⟩) F.length cap ∧ ∀ j v, (rcells r)[j]? = some v → w.cell? ⟨g, k * 11 + j, none⟩ = some v := by
  have hl := h.len
  have hk := (List.getElem?_eq_some_iff.1 hr).1
  rcases h.row.2 with ⟨e, hn⟩ | ⟨gb, cap, cur, e, hrest⟩
  · omega
  · subst e
    refine ⟨gb, cap, by rw [hl], fun j v hv => ?_⟩
    have hj : j < 11 := (List.getElem?_eq_some_iff.1 hv).1
    have e1 := fl_at rcells_len hr j hj
    rw [h.row.cellAt (k * 11 + j) (fl_lt hk hj), e1, hv]
theorem FoAt.get (h : FoAt B Q w fb F R rv) {k : Nat} {x : FN} (hx : F[k]? = some x) :
    ∃ g cap P dv, rv = .slice (some ⟨g, 0, none⟩) F.length cap ∧ R[k]? = some (x, P, dv) ∧ w.cell? ⟨g, k * 11, none⟩ = some (.int .u32 (x.sl : Int)) ∧ w.cell? ⟨g, k * 11 + 1, none⟩ = some (.int .u32 (x.gn : Int)) ∧
      w.cell? ⟨g, k * 11 + 8, none⟩ = some (.int .i64 (upI x.up)) ∧ w.cell? ⟨g, k * 11 + 9, none⟩ = some dv ∧ w.cell? ⟨g, k * 11 + 10, none⟩ = some (.bool x.live) := by
  obtain ⟨P, dv, hr⟩ := h.at hx
  obtain ⟨g, cap, e, hc⟩ := h.cells hr
  exact ⟨g, cap, P, dv, e, hr, hc 0 _ rfl, hc 1 _ rfl, hc 8 _ rfl, hc 9 _ rfl, hc 10 _ rfl⟩
theorem FoAt.b0 (h : FoAt B Q w fb F R rv) : w.cell? ⟨fb, 0, none⟩ = some rv := cell_blk h.blk 0 rfl
theorem cell_lt {w : World} {a : Addr} {v : Value} (h : w.cell? a = some v) : a.block < w.heap.size := by
  by_cases hb : a.block < w.heap.size
  · exact hb
  · exfalso
    have e : w.heap[a.block]? = none := Array.getElem?_eq_none (by omega)
    simp [World.cell?, e] at h
theorem KeepN.of_frg (f : FrG T Q w w') {W : World} (k : KeepN (fun k => Q k ∨ w.heap.size ≤ k ∧ k < w'.heap.size) w' W) : KeepN Q w W := fun b o hb ho =>
  k b o (fun hq => by rcases hq with hq | hq; exact hb hq; have := lt_of_some ho; omega) (f.blkQ ho hb)
theorem NdK.frg {P : Nd} (h : NdK Q w P) (f : FrG T Q w w') : NdK (fun k => Q k ∨ w.heap.size ≤ k ∧ k < w'.heap.size) w' P := fun W hW => h W (KeepN.of_frg f hW)
theorem NdK.mono {Q' : Nat → Prop} {P : Nd} (h : NdK Q w P) (hq : ∀ k, k < w.heap.size → Q' k → Q k) : NdK Q' w P := fun W hW => h W (fun b o hb ho => hW b o (fun hq' => hb (hq b (lt_of_some ho) hq')) ho)
theorem NdK.below {P : Nd} (h : NdK Q w P) (b : Below w.heap.size w w') : NdK Q w' P := fun W hW => h W (fun k o hk ho => hW k o hk ((b.block k (lt_of_some ho)).trans ho))
theorem NdK.now {P : Nd} (h : NdK Q w P) : NdIn w P := h w (fun _ _ _ ho => ho)
/-- A step that leaves the reference's blocks alone. -/
theorem FoAt.frg (h : FoAt B Q w fb F R rv) (f : FrG T Q w w') (h1 : 61 ∉ T) (h2 : 69 ∉ T) (h3 : 3 ∉ T) : FoAt B (fun k => Q k ∨ w.heap.size ≤ k ∧ k < w'.heap.size) w' fb F R rv :=
  ⟨h.eq, h.big, ⟨.inl h.own.1, h.own.2⟩, f.blk h.blk h1, f.row h.row h2, fun k hk => .inl (h.rq k hk), fun r hr => ⟨f.row (h.down r hr).1 h3, fun k hk => .inl ((h.down r hr).2 k hk)⟩, fun r hr => (h.has r hr).frg f⟩
theorem FoAt.below (h : FoAt B Q w fb F R rv) (b : Below w.heap.size w w') : FoAt B Q w' fb F R rv := by
  have f : FrG [] Q w w' := FrG.of_below b
  exact ⟨h.eq, h.big, h.own, f.blk h.blk (by simp), f.row h.row (by simp), h.rq, fun r hr => ⟨f.row (h.down r hr).1 (by simp), (h.down r hr).2⟩, fun r hr => (h.has r hr).below b⟩
theorem FoAt.mono {Q' : Nat → Prop} (h : FoAt B Q w fb F R rv) (hQ : ∀ k, Q k → Q' k) (hq : ∀ k, k < w.heap.size → Q' k → Q k) : FoAt B Q' w fb F R rv :=
  ⟨h.eq, h.big, ⟨hQ _ h.own.1, h.own.2⟩, h.blk, h.row, fun k hk => hQ k (h.rq k hk), fun r hr => ⟨(h.down r hr).1, fun k hk => hQ k ((h.down r hr).2 k hk)⟩, fun r hr => (h.has r hr).mono hq⟩
/-- The child numbered j. -/
theorem FoAt.kid (h : FoAt B Q w fb F R rv) {r : RN} (hr : r ∈ R) {j c : Nat} (hj : r.1.down[j]? = some c) :
    ∃ g cap, r.2.2 = .slice (some ⟨g, 0, none⟩) r.1.down.length cap ∧ w.cell? ⟨g, j, none⟩ = some (.int .i64 (c : Int)) := by
  have hd := (h.down r hr).1
  have hk := (List.getElem?_eq_some_iff.1 hj).1
  have e1 : (icells r.1.down)[j]? = some (.int .i64 (c : Int)) := by unfold icells; rw [List.getElem?_map, hj]; rfl
  rcases hd.2 with ⟨e, hn⟩ | ⟨gb, cap, cur, e, hrest⟩
  · omega
  · rw [e] at hd ⊢
    exact ⟨gb, cap, rfl, by have := hd.cellAt j (by omega); rw [this, e1]⟩
theorem FoAt.dshape (h : FoAt B Q w fb F R rv) {r : RN} (hr : r ∈ R) : ∃ a cap, r.2.2 = .slice a r.1.down.length cap := by
  rcases (h.down r hr).1.2 with ⟨e, hn⟩ | ⟨gb, cap, cur, e, _⟩
  · exact ⟨none, 0, by rw [e, hn]⟩
  · exact ⟨_, cap, e⟩
end

/-- pick: a number folded into 0..n-1. -/
def pick8 (p : Int) (n : Nat) : Nat := (if p < 0 then (-(p + 1)).toNat else p.toNat) % n
theorem pick8_lt (p : Int) {n : Nat} (hn : 0 < n) : pick8 p n < n := Nat.mod_lt _ hn
theorem pick8_neg {p : Int} {n : Nat} (h : p < 0) : -((p + 1).tmod (n : Int)) = ((pick8 p n : Nat) : Int) := by
  unfold pick8
  rw [if_pos h, ← Int.neg_tmod]
  obtain ⟨m, hm⟩ := Int.eq_ofNat_of_zero_le (show 0 ≤ -(p + 1) by omega)
  rw [hm, Int.toNat_natCast, ← Int.ofNat_tmod]
theorem pick8_pos {p : Int} {n : Nat} (h : 0 ≤ p) : p % (n : Int) = ((pick8 p n : Nat) : Int) := by
  unfold pick8
  rw [if_neg (by omega)]
  obtain ⟨m, rfl⟩ := Int.eq_ofNat_of_zero_le h
  simp
theorem pick8_calls (w : World) (p : Int) (n : Nat) (hp : -9223372036854775808 ≤ p ∧ p ≤ 9223372036854775807) (hn : 0 < n) (hb : n ≤ 9223372036854775807) :
    Calls Tryd.prog 30 #[.int .i64 p, .int .i64 (n : Int)] w fun e w' => e = .returned (.int .i64 ((pick8 p n : Nat) : Int)) ∧ Below w.heap.size w w' := by
  have hn0 : ¬ ((n : Int) = 0) := by omega
  go_enter Tryd.func30, Tryd.ntmps30
  by_cases h : p < 0
  · have hd : decide (p < 0) = true := by simp [h]
    have e1 : IntKind.i64.wrap (p + 1) = p + 1 := IntWalk.i64_in _ (by omega)
    have e2 : IntKind.i64.wrap (-(p + 1)) = -(p + 1) := IntWalk.i64_in _ (by omega)
    have e3 := @pick8_neg p n h
    go_wp2_with fail
    go_ret
    exact ⟨rfl, (by repeat (first | exact Below.refl _ _ | assumption | refine Below.drew ?_ | refine below_drewN ?_ _ | refine Below.alloc ?_ (by simp <;> omega) _ | refine Below.setCell ?_ (by simp <;> omega) _ | (apply bl_trans; assumption; (simp <;> omega))))⟩
  · have e3 := @pick8_pos p n (by omega)
    go_wp2_with fail
    go_ret
    exact ⟨rfl, (by repeat (first | exact Below.refl _ _ | assumption | refine Below.drew ?_ | refine below_drewN ?_ _ | refine Below.alloc ?_ (by simp <;> omega) _ | refine Below.setCell ?_ (by simp <;> omega) _ | (apply bl_trans; assumption; (simp <;> omega))))⟩
end Go.Proofs.YtelhnaphkbpakaaDoor

