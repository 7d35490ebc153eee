/- Part 15 of the proof of RoP: lemmas. -/
import Derived.StillTail
import Derived.StillTactics
import Derived.OrdersIn
import Derived.TacticsIn
import Derived.Deep.LoopGhost
import Derived.Outline
import Derived.Test.YtelhnaphkbpakaaDoorMr14
namespace Go.Proofs.YtelhnaphkbpakaaDoor
open Go.RowKit
set_option linter.unusedVariables false
set_option maxRecDepth 100000
structure TX where
  F : For
  M : List (Nat × Nd)
  T : TA (Option Addr)
  ab : Nat
  hv : Value
  fv : Value
def toH (F : For) (k j : Nat) : Nat × Nat := hd F (lkO F k j)
def ncells (P : Nd) (f : Nat → Nat × Nat) (b : Nat) : Array Value :=
  #[.int .i64 P.kind, .string P.name, .slice P.da P.data.length P.dc, .slice P.aa P.L.length P.ac, .int .u32 P.slot, .int .u32 P.gen,
    .int .u32 ((f 0).1 : Int), .int .u32 ((f 0).2 : Int), .int .u32 ((f 1).1 : Int), .int .u32 ((f 1).2 : Int), .int .u32 ((f 2).1 : Int), .int .u32 ((f 2).2 : Int),
    .int .u32 ((f 3).1 : Int), .int .u32 ((f 3).2 : Int), .int .u32 ((f 4).1 : Int), .int .u32 ((f 4).2 : Int), .int .u64 (b : Int)]
def updF (f : Nat → Nat × Nat) (j : Nat) (p : Nat × Nat) : Nat → Nat × Nat := fun j' => if j' = j then p else f j'
theorem ncells_set (P : Nd) (f : Nat → Nat × Nat) (b j : Nat) (hj : j < 5) (p : Nat × Nat) :
    ((ncells P f b).setIfInBounds (6 + j * 2) (.int .u32 (p.1 : Int))).setIfInBounds (6 + j * 2 + 1) (.int .u32 (p.2 : Int)) = ncells P (updF f j p) b := by
  match j, hj with
  | 0, _ => rfl
  | 1, _ => rfl
  | 2, _ => rfl
  | 3, _ => rfl
  | 4, _ => rfl
theorem ncells_at (P : Nd) (f : Nat → Nat × Nat) (b j : Nat) (hj : j < 5) : (ncells P f b)[6 + j * 2]? = some (.int .u32 ((f j).1 : Int)) ∧ (ncells P f b)[6 + j * 2 + 1]? = some (.int .u32 ((f j).2 : Int)) := by
  match j, hj with
  | 0, _ => exact ⟨rfl, rfl⟩
  | 1, _ => exact ⟨rfl, rfl⟩
  | 2, _ => exact ⟨rfl, rfl⟩
  | 3, _ => exact ⟨rfl, rfl⟩
  | 4, _ => exact ⟨rfl, rfl⟩
structure TreeRw (B : Nat) (Q : Nat → Prop) (w : World) (tb : Nat) (X : TX) (Lf : Nat → Nat → Nat × Nat) : Prop where
  lenM : X.M.length = X.F.length
  few : X.T.all.length ≤ X.F.length
  big : X.F.length ≤ 1099511627776
  ar : ∃ Qa, ArNOf B Qa w X.ab X.T ∧ (∀ k, Qa k → Q k ∧ k < w.heap.size) ∧ ∀ k, X.hv.ownBlock = some k → ¬ Qa k
  own : Q tb ∧ B ≤ tb
  blk : w.heap[tb]? = some (.cells #[.pointer (some ⟨X.ab, 0, none⟩), .int .u64 (X.F.length : Int), .int .i64 (X.T.S : Int), .int .i64 (X.T.G : Int), X.hv, X.fv] 112 (0, 0))
  had : (∃ hc, w.ownsRow B 29 1 X.hv X.T.all.length hc) ∧ ∀ k, X.hv.ownBlock = some k → Q k
  fre : (∃ fc, w.ownsRow B 31 2 X.fv X.T.free.length fc) ∧ ∀ k, X.fv.ownBlock = some k → Q k
  slot : ∀ (k : Nat) (x : FN), X.F[k]? = some x → x.live = true → 1 ≤ x.sl ∧ ∃ nb P, X.M[k]? = some (nb, P) ∧ X.T.all[x.sl - 1]? = some (x.gn, true, some ⟨nb, 0, none⟩)
  used : ∀ (s g : Nat) p, X.T.all[s]? = some (g, true, p) → ∃ (k : Nat) (x : FN), X.F[k]? = some x ∧ x.live = true ∧ x.sl = s + 1 ∧ x.gn = g
  node : ∀ (k : Nat) (x : FN) nb P, X.F[k]? = some x → x.live = true → X.M[k]? = some (nb, P) → B ≤ nb ∧ Q nb ∧ w.heap[nb]? = some (.cells (ncells P (Lf k) (k + 1)) 120 (0, 0)) ∧ Fresh B w P
  nbd : (X.M.map Prod.fst).Nodup
  nbl : ∀ p ∈ X.M, p.1 < w.heap.size
structure TreeAt (B : Nat) (Q : Nat → Prop) (w : World) (tb : Nat) (X : TX) : Prop where
  fok : FOk X.F
  rw : TreeRw B Q w tb X (toH X.F)
section
variable {B : Nat} {Q : Nat → Prop} {w w' : World} {tb : Nat} {X : TX} {Lf : Nat → Nat → Nat × Nat}
theorem Fresh.frg {B : Nat} {w w' : World} {N : Nd} {T : List TypeId} {Q : Nat → Prop} (h : Fresh B w N) (f : FrG T Q w w') (h1 : 128 ∉ T) (h2 : 114 ∉ T) : Fresh B w' N :=
  ⟨⟨by obtain ⟨cap, hr⟩ := h.data.row; exact ⟨cap, f.row hr h1⟩, h.data.bnd, h.data.len⟩, h.dc, ⟨by obtain ⟨cap, hr⟩ := h.attrs.row; exact ⟨cap, f.row hr h2⟩, fun x hx => ⟨⟨by obtain ⟨cap, hr⟩ := (h.attrs.val x hx).1.row; exact ⟨cap, f.row hr h1⟩, (h.attrs.val x hx).1.bnd, (h.attrs.val x hx).1.len⟩, (h.attrs.val x hx).2⟩, h.attrs.nam⟩, h.ac, h.nam, h.len⟩
theorem TreeRw.below (h : TreeRw B Q w tb X Lf) (b : Below w.heap.size w w') : TreeRw B Q w' tb X Lf := by
  have f : FrG [] (fun _ => False) w w' := FrG.of_below b
  refine ⟨h.lenM, h.few, h.big, ?_, h.own, f.blk h.blk (by simp), ⟨?_, h.had.2⟩, ⟨?_, h.fre.2⟩, h.slot, h.used, ?_, h.nbd, fun p hp => Nat.lt_of_lt_of_le (h.nbl p hp) b.size⟩
  · obtain ⟨Qa, h1, h2, h3⟩ := h.ar; exact ⟨Qa, h1.below b, fun k hk => ⟨(h2 k hk).1, Nat.lt_of_lt_of_le (h2 k hk).2 b.size⟩, h3⟩
  · obtain ⟨hc, h1⟩ := h.had.1; exact ⟨hc, f.row h1 (by simp)⟩
  · obtain ⟨hc, h1⟩ := h.fre.1; exact ⟨hc, f.row h1 (by simp)⟩
  · intro k x nb P h1 h2 h3
    obtain ⟨a1, a2, a3, a4⟩ := h.node k x nb P h1 h2 h3
    exact ⟨a1, a2, f.blk a3 (by simp), a4.frg f (by simp) (by simp)⟩
theorem TreeAt.below (h : TreeAt B Q w tb X) (b : Below w.heap.size w w') : TreeAt B Q w' tb X := ⟨h.fok, h.rw.below b⟩
theorem TreeRw.at_live (h : TreeRw B Q w tb X Lf) {k : Nat} {x : FN} (hx : X.F[k]? = some x) (hl : x.live = true) : ∃ nb P, X.M[k]? = some (nb, P) ∧ X.T.at x.sl x.gn = some (some ⟨nb, 0, none⟩) ∧ 1 ≤ x.sl ∧ x.sl ≤ 2147483647 ∧ x.gn ≤ 4294967295 := by
  obtain ⟨h1, nb, P, h2, h3⟩ := h.slot k x hx hl
  refine ⟨nb, P, h2, ?_, h1, ?_⟩
  · unfold TA.at
    rw [if_neg (by omega), h3]
    simp [slotWho]
  · obtain ⟨Qa, ⟨av, fv, ha, _⟩, _⟩ := h.ar
    have e := TA.ar_get (enc := encN) h3
    obtain ⟨b1, b2, b3, b4⟩ := u32_bound ha.ok e
    omega
def NoH (F : For) (s g : Nat) : Prop := ∀ (k : Nat) (x : FN), F[k]? = some x → x.live = true → x.sl = s → x.gn = g → False
theorem TreeRw.at_dead (h : TreeRw B Q w tb X Lf) {s g : Nat} (hn : NoH X.F s g) : X.T.at s g = none := by
  cases e : X.T.at s g with
  | none => rfl
  | some p =>
    obtain ⟨h1, h2⟩ := TA.at_some e
    obtain ⟨k, x, a1, a2, a3, a4⟩ := h.used _ _ _ h2
    exact (hn k x a1 a2 (by omega) a4).elim
theorem TreeRw.hinj (h : TreeRw B Q w tb X Lf) {k m : Nat} {x y : FN} (hx : X.F[k]? = some x) (hy : X.F[m]? = some y) (hxl : x.live = true) (hyl : y.live = true) (e : x.sl = y.sl) : k = m := by
  obtain ⟨_, nb, P, h1, h2⟩ := h.slot k x hx hxl
  obtain ⟨_, nb', P', h3, h4⟩ := h.slot m y hy hyl
  rw [e, h4] at h2
  simp at h2
  have h5 : (X.M.map Prod.fst)[k]? = (X.M.map Prod.fst)[m]? := by rw [List.getElem?_map, List.getElem?_map, h1, h3]; simp [h2.2]
  have hk : k < (X.M.map Prod.fst).length := by rw [List.length_map]; exact (List.getElem?_eq_some_iff.1 h1).1
  have hm : m < (X.M.map Prod.fst).length := by rw [List.length_map]; exact (List.getElem?_eq_some_iff.1 h3).1
  rw [List.getElem?_eq_getElem hk, List.getElem?_eq_getElem hm] at h5
  exact (List.getElem_inj h.nbd).1 (Option.some.inj h5)
theorem TreeRw.get_live (h : TreeRw B Q w tb X Lf) {k : Nat} {x : FN} (hx : X.F[k]? = some x) (hl : x.live = true) {nb : Nat} {P : Nd} (hm : X.M[k]? = some (nb, P)) :
    Calls Tryd.prog 76 #[.pointer (some ⟨X.ab, 0, none⟩), .agg #[.int .u32 (x.sl : Int), .int .u32 (x.gn : Int)]] w fun e w' => e = .returned (.tuple #[.pointer (some ⟨nb, 0, none⟩), .int .i64 0]) ∧ Below w.heap.size w w' := by
  obtain ⟨nb', P', h1, h2, h3, h4, h5⟩ := h.at_live hx hl
  rw [hm] at h1
  cases h1
  obtain ⟨Qa, ha, _⟩ := h.ar
  refine (arNTop_get ha x.sl x.gn (by omega) (by omega)).mono ?_
  rintro e w' ⟨he, hb⟩
  have e1 : X.T.get (none : Option Addr) x.sl x.gn = (some ⟨nb, 0, none⟩, 0) := by unfold TA.get; rw [h2]
  rw [e1] at he
  exact ⟨he _ rfl, hb⟩
theorem TreeRw.get_dead (h : TreeRw B Q w tb X Lf) {s g : Nat} (hs : s ≤ 4294967295) (hg : g ≤ 4294967295) (hn : NoH X.F s g) :
    Calls Tryd.prog 76 #[.pointer (some ⟨X.ab, 0, none⟩), .agg #[.int .u32 (s : Int), .int .u32 (g : Int)]] w fun e w' => e = .returned (.tuple #[.pointer none, .int .i64 51]) ∧ Below w.heap.size w w' := by
  obtain ⟨Qa, ha, _⟩ := h.ar
  refine (arNTop_get ha s g hs hg).mono ?_
  rintro e w' ⟨he, hb⟩
  have e1 : X.T.get (none : Option Addr) s g = (none, 51) := by unfold TA.get; rw [h.at_dead hn]
  rw [e1] at he
  exact ⟨he _ rfl, hb⟩
end
end Go.Proofs.YtelhnaphkbpakaaDoor
namespace Go.Proofs.YtelhnaphkbpakaaDoor
open Go
set_option linter.unusedVariables false
variable {F : Fence} {n : Nat} {P : Program} {ops : Array Oper} {md : Region.Mode} {w : World} {Q : Exit → Act → World → Prop}
end Go.Proofs.YtelhnaphkbpakaaDoor
namespace Go.Proofs.YtelhnaphkbpakaaDoor
open Go.RowKit
set_option linter.unusedVariables false
set_option maxRecDepth 100000
theorem alloc2_blk (w : World) (a b : Obj) : ((w.alloc a).alloc b).heap[w.heap.size + 1]? = some b := by
  have := Go.heap_alloc_new (w.alloc a) b; rwa [World.size_alloc] at this
section
variable {B : Nat} {Q : Nat → Prop} {w w' : World} {tb : Nat} {X : TX} {Lf : Nat → Nat → Nat × Nat}
set_option maxHeartbeats 1000000 in
theorem follow_live (h : TreeRw B Q w tb X Lf) {k : Nat} {x : FN} (hx : X.F[k]? = some x) (hl : x.live = true) (j : Nat) (hj : j < 5) :
    Calls Tryd.prog 90 #[.pointer (some ⟨tb, 0, none⟩), .agg #[.int .u32 (x.sl : Int), .int .u32 (x.gn : Int)], .int .i64 (j : Int)] w fun e w' =>
      e = .returned (.tuple #[.agg #[.int .u32 ((Lf k j).1 : Int), .int .u32 ((Lf k j).2 : Int)], .int .i64 0]) ∧ Below w.heap.size w w' := by
  obtain ⟨nb, P, hm, _⟩ := h.at_live hx hl
  have hnode := (h.node k x nb P hx hl hm).2.2.1
  have HG : Hid (∀ W, Below w.heap.size w W → Calls Tryd.prog 76 #[.pointer (some ⟨X.ab, 0, none⟩), .agg #[.int .u32 (x.sl : Int), .int .u32 (x.gn : Int)]] W fun e w' => e = .returned (.tuple #[.pointer (some ⟨nb, 0, none⟩), .int .i64 0]) ∧ Below W.heap.size W w') :=
    Lib.hid (fun W b => (h.below b).get_live hx hl hm)
  have c0 := cell_blk h.blk 0 rfl
  have ltb := lt_of_some h.blk
  have lnb := lt_of_some hnode
  have n0 := cell_blk hnode _ (ncells_at P (Lf k) (k + 1) j hj).1
  have n1 := cell_blk hnode _ (ncells_at P (Lf k) (k + 1) j hj).2
  have p0 : (0 : Int) ≤ (j : Int) := by omega
  have p1 : (j : Int) < 5 := by omega
  simp at c0
  obtain ⟨s, hs⟩ : ∃ s, s = x.sl := ⟨_, rfl⟩
  obtain ⟨g, hg⟩ : ∃ g, g = x.gn := ⟨_, rfl⟩
  obtain ⟨a, ha⟩ : ∃ a, a = (Lf k j).1 := ⟨_, rfl⟩
  obtain ⟨b, hb⟩ : ∃ b, b = (Lf k j).2 := ⟨_, rfl⟩
  rw [← hs, ← hg] at HG ⊢
  rw [← ha] at n0 ⊢
  rw [← hb] at n1 ⊢
  clear h hx hl hm hnode hs hg ha hb
  obtain ⟨V, hV⟩ : ∃ V, V = (w.alloc (.cells #[.int .u32 (s : Int), .int .u32 (g : Int)] 31)).alloc (.cells #[.int .u32 0, .int .u32 0] 31) := ⟨_, rfl⟩
  have bV : Below w.heap.size w V := by rw [hV]; exact (by repeat (first | exact Below.refl _ _ | assumption | refine Below.drew ?_ | refine below_drewN ?_ _ | refine Below.alloc ?_ (by simp <;> omega) _ | refine Below.setCell ?_ (by simp <;> omega) _ | (apply bl_trans; assumption; (simp <;> omega))))
  have hx : V.heap[w.heap.size + 1]? = some (.cells #[.int .u32 0, .int .u32 0] 31 (0, 0)) := by rw [hV]; exact alloc2_blk w _ _
  have hy : V.heap[w.heap.size]? = some (.cells #[.int .u32 (s : Int), .int .u32 (g : Int)] 31 (0, 0)) := by rw [hV]; exact alloc_blk (Go.heap_alloc_new w _) _
  have y0 := cell_blk hy 0 rfl
  have y1 := cell_blk hy 1 rfl
  have d0 := (bV.cell (p := ⟨tb, 0, none⟩) ltb).trans c0
  have HX := Lib.hid (And.intro hx bV)
  have hV2 := hV
  clear hV hx hy bV
  go_enter Tryd.func90, Tryd.ntmps90
  go_wp2_with fail
  rw [← hV2]
  clear hV2 c0
  go_region_with (go_at_call 76; go_loud (refine (HG.out _ HX.out.2.drew).mono ?_; rintro e w1 ⟨rfl, b1⟩; have b2 : Below V.heap.size V w1 := (Below.refl _ V).drew.trans b1; have HB := Lib.hid (HX.out.2.trans (b2.mono HX.out.2.size)); have m0 := (HB.out.cell (p := ⟨nb, 6 + j * 2, none⟩) lnb).trans n0; have m1 := (HB.out.cell (p := ⟨nb, 6 + j * 2 + 1, none⟩) lnb).trans n1; have hx := (b2.block (w.heap.size + 1) (lt_of_some HX.out.1)).trans HX.out.1; have x0 := cell_blk hx 0 rfl; have x1 := cell_blk hx 1 rfl; have f0 := free_blk hx 0; have f1 := free_blk hx 1; have ne1 : nb ≠ w.heap.size + 1 := (by omega); have HXX := Lib.hid hx; simp at x0 x1; clear b1 b2 hx))
  all_goals go_wp2_with fail
  all_goals have hX4 := set_blk (set_blk HXX.out 0 (.int .u32 (a : Int))) 1 (.int .u32 (b : Int))
  all_goals have z0 := cell_blk hX4 0 rfl
  all_goals have z1 := cell_blk hX4 1 rfl
  all_goals simp at z0 z1
  all_goals exact bodyPost_ret (v := .tuple #[.agg #[.int .u32 (a : Int), .int .u32 (b : Int)], .int .i64 0]) (by simp [results, Tryd.results90, go_sem, z0, z1]) rfl ⟨rfl, (HB.out.setCell (by simp) _).setCell (by simp) _⟩
set_option maxHeartbeats 1000000 in
theorem parent_gen (s g a b : Nat) (c : Int) (Bz : Nat) (hz : Bz ≤ w.heap.size) (HF : Hid (∀ W, Below w.heap.size w W → Calls Tryd.prog 90 #[.pointer (some ⟨tb, 0, none⟩), .agg #[.int .u32 (s : Int), .int .u32 (g : Int)], .int .i64 0] W fun e w' =>
      e = .returned (.tuple #[.agg #[.int .u32 (a : Int), .int .u32 (b : Int)], .int .i64 c]) ∧ Below W.heap.size W w')) :
    Calls Tryd.prog 54 #[.pointer (some ⟨tb, 0, none⟩), .agg #[.int .u32 (s : Int), .int .u32 (g : Int)]] w fun e w' =>
      e = .returned (.tuple #[.agg #[.int .u32 (a : Int), .int .u32 (b : Int)], .int .i64 c]) ∧ Below w.heap.size w w' := by
  obtain ⟨V, hV⟩ : ∃ V, V = (w.alloc (.cells #[.int .u32 (s : Int), .int .u32 (g : Int)] 31)).alloc (.cells #[.int .u32 0, .int .u32 0] 31) := ⟨_, rfl⟩
  have bV : Below w.heap.size w V := by rw [hV]; exact (by repeat (first | exact Below.refl _ _ | assumption | refine Below.drew ?_ | refine below_drewN ?_ _ | refine Below.alloc ?_ (by simp <;> omega) _ | refine Below.setCell ?_ (by simp <;> omega) _ | (apply bl_trans; assumption; (simp <;> omega))))
  have hx : V.heap[w.heap.size + 1]? = some (.cells #[.int .u32 0, .int .u32 0] 31 (0, 0)) := by rw [hV]; exact alloc2_blk w _ _
  have hy : V.heap[w.heap.size]? = some (.cells #[.int .u32 (s : Int), .int .u32 (g : Int)] 31 (0, 0)) := by rw [hV]; exact alloc_blk (Go.heap_alloc_new w _) _
  have HX := Lib.hid (And.intro hx bV)
  have hV2 := hV
  clear hV hx hy bV hz
  go_enter Tryd.func54, Tryd.ntmps54
  go_wp2_with fail
  rw [← hV2]
  clear hV2
  refine (HF.out _ HX.out.2).mono ?_
  rintro e w1 ⟨rfl, b2⟩
  have HB := Lib.hid (HX.out.2.trans (b2.mono HX.out.2.size))
  have hx := (b2.block (w.heap.size + 1) (lt_of_some HX.out.1)).trans HX.out.1
  have x0 := cell_blk hx 0 rfl
  have x1 := cell_blk hx 1 rfl
  have f0 := free_blk hx 0
  have f1 := free_blk hx 1
  have HXX := Lib.hid hx
  simp at x0 x1
  clear b2 hx
  go_wp2_with fail
  have hX4 := set_blk (set_blk HXX.out 0 (.int .u32 (a : Int))) 1 (.int .u32 (b : Int))
  have z0 := cell_blk hX4 0 rfl
  have z1 := cell_blk hX4 1 rfl
  simp at z0 z1
  exact bodyPost_ret (v := .tuple #[.agg #[.int .u32 (a : Int), .int .u32 (b : Int)], .int .i64 c]) (by simp [results, Tryd.results54, go_sem, z0, z1]) rfl ⟨rfl, (HB.out.setCell (by simp) _).setCell (by simp) _⟩
theorem parent_live (h : TreeRw B Q w tb X Lf) {k : Nat} {x : FN} (hx : X.F[k]? = some x) (hl : x.live = true) :
    Calls Tryd.prog 54 #[.pointer (some ⟨tb, 0, none⟩), .agg #[.int .u32 (x.sl : Int), .int .u32 (x.gn : Int)]] w fun e w' =>
      e = .returned (.tuple #[.agg #[.int .u32 ((Lf k 0).1 : Int), .int .u32 ((Lf k 0).2 : Int)], .int .i64 0]) ∧ Below w.heap.size w w' :=
  parent_gen x.sl x.gn (Lf k 0).1 (Lf k 0).2 0 0 (Nat.zero_le _) (Lib.hid fun W b => follow_live (h.below b) hx hl 0 (by decide))
set_option maxHeartbeats 1000000 in
theorem first_gen (s g a b : Nat) (c : Int) (Bz : Nat) (hz : Bz ≤ w.heap.size) (HF : Hid (∀ W, Below w.heap.size w W → Calls Tryd.prog 90 #[.pointer (some ⟨tb, 0, none⟩), .agg #[.int .u32 (s : Int), .int .u32 (g : Int)], .int .i64 1] W fun e w' =>
      e = .returned (.tuple #[.agg #[.int .u32 (a : Int), .int .u32 (b : Int)], .int .i64 c]) ∧ Below W.heap.size W w')) :
    Calls Tryd.prog 87 #[.pointer (some ⟨tb, 0, none⟩), .agg #[.int .u32 (s : Int), .int .u32 (g : Int)]] w fun e w' =>
      e = .returned (.tuple #[.agg #[.int .u32 (a : Int), .int .u32 (b : Int)], .int .i64 c]) ∧ Below w.heap.size w w' := by
  obtain ⟨V, hV⟩ : ∃ V, V = (w.alloc (.cells #[.int .u32 (s : Int), .int .u32 (g : Int)] 31)).alloc (.cells #[.int .u32 0, .int .u32 0] 31) := ⟨_, rfl⟩
  have bV : Below w.heap.size w V := by rw [hV]; exact (by repeat (first | exact Below.refl _ _ | assumption | refine Below.drew ?_ | refine below_drewN ?_ _ | refine Below.alloc ?_ (by simp <;> omega) _ | refine Below.setCell ?_ (by simp <;> omega) _ | (apply bl_trans; assumption; (simp <;> omega))))
  have hx : V.heap[w.heap.size + 1]? = some (.cells #[.int .u32 0, .int .u32 0] 31 (0, 0)) := by rw [hV]; exact alloc2_blk w _ _
  have hy : V.heap[w.heap.size]? = some (.cells #[.int .u32 (s : Int), .int .u32 (g : Int)] 31 (0, 0)) := by rw [hV]; exact alloc_blk (Go.heap_alloc_new w _) _
  have HX := Lib.hid (And.intro hx bV)
  have hV2 := hV
  clear hV hx hy bV hz
  go_enter Tryd.func87, Tryd.ntmps87
  go_wp2_with fail
  rw [← hV2]
  clear hV2
  refine (HF.out _ HX.out.2).mono ?_
  rintro e w1 ⟨rfl, b2⟩
  have HB := Lib.hid (HX.out.2.trans (b2.mono HX.out.2.size))
  have hx := (b2.block (w.heap.size + 1) (lt_of_some HX.out.1)).trans HX.out.1
  have x0 := cell_blk hx 0 rfl
  have x1 := cell_blk hx 1 rfl
  have f0 := free_blk hx 0
  have f1 := free_blk hx 1
  have HXX := Lib.hid hx
  simp at x0 x1
  clear b2 hx
  go_wp2_with fail
  have hX4 := set_blk (set_blk HXX.out 0 (.int .u32 (a : Int))) 1 (.int .u32 (b : Int))
  have z0 := cell_blk hX4 0 rfl
  have z1 := cell_blk hX4 1 rfl
  simp at z0 z1
  exact bodyPost_ret (v := .tuple #[.agg #[.int .u32 (a : Int), .int .u32 (b : Int)], .int .i64 c]) (by simp [results, Tryd.results87, go_sem, z0, z1]) rfl ⟨rfl, (HB.out.setCell (by simp) _).setCell (by simp) _⟩
theorem first_live (h : TreeRw B Q w tb X Lf) {k : Nat} {x : FN} (hx : X.F[k]? = some x) (hl : x.live = true) :
    Calls Tryd.prog 87 #[.pointer (some ⟨tb, 0, none⟩), .agg #[.int .u32 (x.sl : Int), .int .u32 (x.gn : Int)]] w fun e w' =>
      e = .returned (.tuple #[.agg #[.int .u32 ((Lf k 1).1 : Int), .int .u32 ((Lf k 1).2 : Int)], .int .i64 0]) ∧ Below w.heap.size w w' :=
  first_gen x.sl x.gn (Lf k 1).1 (Lf k 1).2 0 0 (Nat.zero_le _) (Lib.hid fun W b => follow_live (h.below b) hx hl 1 (by decide))
set_option maxHeartbeats 1000000 in
theorem behind_gen (s g a b : Nat) (c : Int) (Bz : Nat) (hz : Bz ≤ w.heap.size) (HF : Hid (∀ W, Below w.heap.size w W → Calls Tryd.prog 90 #[.pointer (some ⟨tb, 0, none⟩), .agg #[.int .u32 (s : Int), .int .u32 (g : Int)], .int .i64 4] W fun e w' =>
      e = .returned (.tuple #[.agg #[.int .u32 (a : Int), .int .u32 (b : Int)], .int .i64 c]) ∧ Below W.heap.size W w')) :
    Calls Tryd.prog 59 #[.pointer (some ⟨tb, 0, none⟩), .agg #[.int .u32 (s : Int), .int .u32 (g : Int)]] w fun e w' =>
      e = .returned (.tuple #[.agg #[.int .u32 (a : Int), .int .u32 (b : Int)], .int .i64 c]) ∧ Below w.heap.size w w' := by
  obtain ⟨V, hV⟩ : ∃ V, V = (w.alloc (.cells #[.int .u32 (s : Int), .int .u32 (g : Int)] 31)).alloc (.cells #[.int .u32 0, .int .u32 0] 31) := ⟨_, rfl⟩
  have bV : Below w.heap.size w V := by rw [hV]; exact (by repeat (first | exact Below.refl _ _ | assumption | refine Below.drew ?_ | refine below_drewN ?_ _ | refine Below.alloc ?_ (by simp <;> omega) _ | refine Below.setCell ?_ (by simp <;> omega) _ | (apply bl_trans; assumption; (simp <;> omega))))
  have hx : V.heap[w.heap.size + 1]? = some (.cells #[.int .u32 0, .int .u32 0] 31 (0, 0)) := by rw [hV]; exact alloc2_blk w _ _
  have hy : V.heap[w.heap.size]? = some (.cells #[.int .u32 (s : Int), .int .u32 (g : Int)] 31 (0, 0)) := by rw [hV]; exact alloc_blk (Go.heap_alloc_new w _) _
  have HX := Lib.hid (And.intro hx bV)
  have hV2 := hV
  clear hV hx hy bV hz
  go_enter Tryd.func59, Tryd.ntmps59
  go_wp2_with fail
  rw [← hV2]
  clear hV2
  refine (HF.out _ HX.out.2).mono ?_
  rintro e w1 ⟨rfl, b2⟩
  have HB := Lib.hid (HX.out.2.trans (b2.mono HX.out.2.size))
  have hx := (b2.block (w.heap.size + 1) (lt_of_some HX.out.1)).trans HX.out.1
  have x0 := cell_blk hx 0 rfl
  have x1 := cell_blk hx 1 rfl
  have f0 := free_blk hx 0
  have f1 := free_blk hx 1
  have HXX := Lib.hid hx
  simp at x0 x1
  clear b2 hx
  go_wp2_with fail
  have hX4 := set_blk (set_blk HXX.out 0 (.int .u32 (a : Int))) 1 (.int .u32 (b : Int))
  have z0 := cell_blk hX4 0 rfl
  have z1 := cell_blk hX4 1 rfl
  simp at z0 z1
  exact bodyPost_ret (v := .tuple #[.agg #[.int .u32 (a : Int), .int .u32 (b : Int)], .int .i64 c]) (by simp [results, Tryd.results59, go_sem, z0, z1]) rfl ⟨rfl, (HB.out.setCell (by simp) _).setCell (by simp) _⟩
theorem behind_live (h : TreeRw B Q w tb X Lf) {k : Nat} {x : FN} (hx : X.F[k]? = some x) (hl : x.live = true) :
    Calls Tryd.prog 59 #[.pointer (some ⟨tb, 0, none⟩), .agg #[.int .u32 (x.sl : Int), .int .u32 (x.gn : Int)]] w fun e w' =>
      e = .returned (.tuple #[.agg #[.int .u32 ((Lf k 4).1 : Int), .int .u32 ((Lf k 4).2 : Int)], .int .i64 0]) ∧ Below w.heap.size w w' :=
  behind_gen x.sl x.gn (Lf k 4).1 (Lf k 4).2 0 0 (Nat.zero_le _) (Lib.hid fun W b => follow_live (h.below b) hx hl 4 (by decide))
set_option maxHeartbeats 1000000 in
theorem countT_calls (h : TreeRw B Q w tb X Lf) : Calls Tryd.prog 65 #[.pointer (some ⟨tb, 0, none⟩)] w fun e w' => e = .returned (.int .i64 (X.T.count : Int)) ∧ Below w.heap.size w w' := by
  have HC : Hid (Calls Tryd.prog 97 #[.pointer (some ⟨X.ab, 0, none⟩)] w fun e w' => e = .returned (.int .i64 (X.T.count : Int)) ∧ Below w.heap.size w w') := Lib.hid (by obtain ⟨Qa, ha, _⟩ := h.ar; exact arNTop_count ha)
  have c0 := cell_blk h.blk 0 rfl
  simp at c0
  clear h
  go_enter Tryd.func65, Tryd.ntmps65
  go_wp2_with (go_at_call 97; refine HC.out.mono ?_; rintro e w1 ⟨rfl, b1⟩)
  go_ret
  exact ⟨rfl, b1⟩
end
def Rest (F : For) (cur : Option Nat) (rest : List Nat) : Prop := match cur with | none => rest = [] | some k => Chain F k rest
theorem Rest.next {F : For} {k : Nat} {rest : List Nat} (h : Rest F (some k) rest) : ∃ t, rest = k :: t ∧ Rest F (upOf F k) t := by
  cases (show Chain F k rest from h) with
  | root hx hu => exact ⟨[], rfl, by unfold upOf; rw [hx]; show Rest F (FN.up _) []; rw [hu]; rfl⟩
  | up hx hu hc => exact ⟨_, rfl, by unfold upOf; rw [hx]; show Rest F (FN.up _) _; rw [hu]; exact hc⟩
theorem FOk.up_live {F : For} (h : FOk F) {k v : Nat} (hu : upOf F k = some v) : ∃ x : FN, F[v]? = some x ∧ x.live = true := by
  unfold upOf at hu
  obtain ⟨z, hz, e⟩ := Option.bind_eq_some_iff.1 hu
  obtain ⟨y, h1, h2, _⟩ := h.upd k z v hz e
  exact ⟨y, h1, h2⟩
theorem hd_some {F : For} {k : Nat} {x : FN} (hx : F[k]? = some x) : hd F (some k) = (x.sl, x.gn) := by unfold hd; simp [hx]
theorem hd_none (F : For) : hd F none = (0, 0) := rfl
theorem FOk.kid {F : For} (h : FOk F) {k u : Nat} (hu : upOf F k = some u) : ∃ (y : FN), F[u]? = some y ∧ dnOf F (some u) = y.down ∧ k ∈ y.down := by
  unfold upOf at hu
  obtain ⟨z, hz, e⟩ := Option.bind_eq_some_iff.1 hu
  obtain ⟨y, h1, h2, h3⟩ := h.upd k z u hz e
  exact ⟨y, h1, by unfold dnOf; simp [h1], h3⟩
theorem FOk.sibs {F : For} (h : FOk F) (k : Nat) : (dnOf F (upOf F k)).Nodup ∧ (dnOf F (upOf F k)).length ≤ F.length ∧ ∀ c ∈ dnOf F (upOf F k), upOf F c = upOf F k ∧ ∃ x : FN, F[c]? = some x ∧ x.live = true := by
  cases e : upOf F k with
  | none => exact ⟨List.nodup_nil, by simp [dnOf], fun c hc => by simp [dnOf] at hc⟩
  | some u =>
    obtain ⟨y, h1, h2, h3⟩ := h.kid e
    rw [h2]
    have hd := h.dn u y h1
    refine ⟨h.nd u y h1, nodup_bound _ _ (h.nd u y h1) (fun m hm => ?_), fun c hc => ?_⟩
    · obtain ⟨x, hx, _⟩ := hd m hm; exact (List.getElem?_eq_some_iff.1 hx).1
    · obtain ⟨x, hx, hxu, hxl⟩ := hd c hc; exact ⟨by unfold upOf; rw [hx]; exact hxu, x, hx, hxl⟩
section
variable {B : Nat} {Q : Nat → Prop} {w w' : World} {tb : Nat} {X : TX}
end
section
variable {B : Nat} {Q : Nat → Prop} {w w' : World} {tb : Nat} {X : TX} {Lf : Nat → Nat → Nat × Nat}
end
section
variable {B : Nat} {Q : Nat → Prop} {w w' : World} {tb : Nat} {X : TX} {Lf : Nat → Nat → Nat × Nat}
set_option maxHeartbeats 2000000 in
theorem born_live (h : TreeRw B Q w tb X Lf) {k : Nat} {x : FN} (hx : X.F[k]? = some x) (hl : x.live = true) :
    Calls Tryd.prog 43 #[.pointer (some ⟨tb, 0, none⟩), .agg #[.int .u32 (x.sl : Int), .int .u32 (x.gn : Int)]] w fun e w' => e = .returned (.tuple #[.int .u64 ((k + 1 : Nat) : Int), .int .i64 0]) ∧ Below w.heap.size w w' := by
  obtain ⟨nb, P, hm, _⟩ := h.at_live hx hl
  have hnode := (h.node k x nb P hx hl hm).2.2.1
  have HG : Hid (∀ W, Below w.heap.size w W → Calls Tryd.prog 76 #[.pointer (some ⟨X.ab, 0, none⟩), .agg #[.int .u32 (x.sl : Int), .int .u32 (x.gn : Int)]] W fun e w' => e = .returned (.tuple #[.pointer (some ⟨nb, 0, none⟩), .int .i64 0]) ∧ Below W.heap.size W w') :=
    Lib.hid (fun W b => (h.below b).get_live hx hl hm)
  have c0 := cell_blk h.blk 0 rfl
  have ltb := lt_of_some h.blk
  have lnb := lt_of_some hnode
  have n0 : w.cell? ⟨nb, 16, none⟩ = some (.int .u64 ((k + 1 : Nat) : Int)) := cell_blk hnode 16 rfl
  simp at c0
  obtain ⟨s, hs⟩ : ∃ s, s = x.sl := ⟨_, rfl⟩
  obtain ⟨g, hg⟩ : ∃ g, g = x.gn := ⟨_, rfl⟩
  obtain ⟨r, hr⟩ : ∃ r : Int, r = ((k + 1 : Nat) : Int) := ⟨_, rfl⟩
  rw [← hs, ← hg] at HG ⊢
  rw [← hr] at n0 ⊢
  clear h hx hl hm hnode hs hg hr
  obtain ⟨V, hV⟩ : ∃ V, V = w.alloc (.cells #[.int .u32 (s : Int), .int .u32 (g : Int)] 31) := ⟨_, rfl⟩
  have bV : Below w.heap.size w V := by rw [hV]; exact (by repeat (first | exact Below.refl _ _ | assumption | refine Below.drew ?_ | refine below_drewN ?_ _ | refine Below.alloc ?_ (by simp <;> omega) _ | refine Below.setCell ?_ (by simp <;> omega) _ | (apply bl_trans; assumption; (simp <;> omega))))
  have hy : V.heap[w.heap.size]? = some (.cells #[.int .u32 (s : Int), .int .u32 (g : Int)] 31 (0, 0)) := by rw [hV]; exact Go.heap_alloc_new w _
  have y0 := cell_blk hy 0 rfl
  have y1 := cell_blk hy 1 rfl
  have d0 := (bV.cell (p := ⟨tb, 0, none⟩) ltb).trans c0
  have HX := Lib.hid bV
  simp at y0 y1
  have hV2 := hV
  clear hV hy bV
  go_enter Tryd.func43, Tryd.ntmps43
  go_wp2_with fail
  rw [← hV2]
  clear hV2 c0
  go_region_with (go_at_call 76; refine (HG.out _ HX.out.drew).mono ?_; rintro e w1 ⟨rfl, b1⟩; have b2 : Below V.heap.size V w1 := (Below.refl _ V).drew.trans b1; have HB := Lib.hid (HX.out.trans (b2.mono HX.out.size)); have m0 := (HB.out.cell (p := ⟨nb, 16, none⟩) lnb).trans n0; clear b1 b2)
  all_goals go_wp2_with fail
  all_goals go_ret2
  all_goals exact ⟨rfl, HB.out⟩
set_option maxHeartbeats 2000000 in
theorem born_dead (h : TreeRw B Q w tb X Lf) {s g : Nat} (hs : s ≤ 4294967295) (hg : g ≤ 4294967295) (hn : NoH X.F s g) :
    Calls Tryd.prog 43 #[.pointer (some ⟨tb, 0, none⟩), .agg #[.int .u32 (s : Int), .int .u32 (g : Int)]] w fun e w' => e = .returned (.tuple #[.int .u64 0, .int .i64 51]) ∧ Below w.heap.size w w' := by
  have HG : Hid (∀ W, Below w.heap.size w W → Calls Tryd.prog 76 #[.pointer (some ⟨X.ab, 0, none⟩), .agg #[.int .u32 (s : Int), .int .u32 (g : Int)]] W fun e w' => e = .returned (.tuple #[.pointer none, .int .i64 51]) ∧ Below W.heap.size W w') :=
    Lib.hid (fun W b => (h.below b).get_dead hs hg hn)
  have c0 := cell_blk h.blk 0 rfl
  have ltb := lt_of_some h.blk
  simp at c0
  clear h hs hg hn
  obtain ⟨V, hV⟩ : ∃ V, V = w.alloc (.cells #[.int .u32 (s : Int), .int .u32 (g : Int)] 31) := ⟨_, rfl⟩
  have bV : Below w.heap.size w V := by rw [hV]; exact (by repeat (first | exact Below.refl _ _ | assumption | refine Below.drew ?_ | refine below_drewN ?_ _ | refine Below.alloc ?_ (by simp <;> omega) _ | refine Below.setCell ?_ (by simp <;> omega) _ | (apply bl_trans; assumption; (simp <;> omega))))
  have hy : V.heap[w.heap.size]? = some (.cells #[.int .u32 (s : Int), .int .u32 (g : Int)] 31 (0, 0)) := by rw [hV]; exact Go.heap_alloc_new w _
  have y0 := cell_blk hy 0 rfl
  have y1 := cell_blk hy 1 rfl
  have d0 := (bV.cell (p := ⟨tb, 0, none⟩) ltb).trans c0
  have HX := Lib.hid bV
  simp at y0 y1
  have hV2 := hV
  clear hV hy bV
  go_enter Tryd.func43, Tryd.ntmps43
  go_wp2_with fail
  rw [← hV2]
  clear hV2 c0
  go_region_with (go_at_call 76; refine (HG.out _ HX.out.drew).mono ?_; rintro e w1 ⟨rfl, b1⟩; have b2 : Below V.heap.size V w1 := (Below.refl _ V).drew.trans b1; have HB := Lib.hid (HX.out.trans (b2.mono HX.out.size)); clear b1 b2)
  all_goals go_wp2_with fail
  all_goals go_ret2
  all_goals exact ⟨rfl, HB.out⟩
set_option maxHeartbeats 4000000 in
theorem node_live (h : TreeRw B Q w tb X Lf) {k : Nat} {x : FN} (hx : X.F[k]? = some x) (hl : x.live = true) {nb : Nat} {P : Nd} (hm : X.M[k]? = some (nb, P)) (hB : P.Bd 1099511627776) :
    Calls Tryd.prog 45 #[.pointer (some ⟨tb, 0, none⟩), .agg #[.int .u32 (x.sl : Int), .int .u32 (x.gn : Int)]] w fun e w' => ∃ M : Nd, e = .returned (.tuple #[M.v, .int .i64 0]) ∧ M.Same P ∧ Fresh w.heap.size w' M ∧ Below w.heap.size w w' := by
  obtain ⟨a1, a2, hnode, hfr⟩ := h.node k x nb P hx hl hm
  have HG : Hid (∀ W, Below w.heap.size w W → Calls Tryd.prog 76 #[.pointer (some ⟨X.ab, 0, none⟩), .agg #[.int .u32 (x.sl : Int), .int .u32 (x.gn : Int)]] W fun e w' => e = .returned (.tuple #[.pointer (some ⟨nb, 0, none⟩), .int .i64 0]) ∧ Below W.heap.size W w') :=
    Lib.hid (fun W b => (h.below b).get_live hx hl hm)
  have HCL : Hid (∀ W, Below w.heap.size w W → Calls Tryd.prog 69 #[P.v] W fun e w' => ∃ M : Nd, e = .returned M.v ∧ M.Same P ∧ Fresh W.heap.size w' M ∧ Below W.heap.size W w') := Lib.hid (fun W bb => clone_calls W P (hfr.nd.below bb) hB)
  have c0 := cell_blk h.blk 0 rfl
  have ltb := lt_of_some h.blk
  have lnb := lt_of_some hnode
  have HND := Lib.hid hnode
  simp at c0
  obtain ⟨s, hs⟩ : ∃ s, s = x.sl := ⟨_, rfl⟩
  obtain ⟨g, hg⟩ : ∃ g, g = x.gn := ⟨_, rfl⟩
  rw [← hs, ← hg] at HG ⊢
  unfold Nd.v Nd.cells at HCL
  obtain ⟨m, em⟩ : ∃ m, m = P.data.length := ⟨_, rfl⟩
  obtain ⟨n, en⟩ : ∃ n, n = P.L.length := ⟨_, rfl⟩
  have n0 : w.cell? ⟨nb, 0, none⟩ = some (.int .i64 P.kind) := cell_blk hnode 0 rfl
  have n1 : w.cell? ⟨nb, 1, none⟩ = some (.string P.name) := cell_blk hnode 1 rfl
  have n2 : w.cell? ⟨nb, 2, none⟩ = some (.slice P.da m P.dc) := by rw [em]; exact cell_blk hnode 2 rfl
  have n3 : w.cell? ⟨nb, 3, none⟩ = some (.slice P.aa n P.ac) := by rw [en]; exact cell_blk hnode 3 rfl
  have n4 : w.cell? ⟨nb, 4, none⟩ = some (.int .u32 P.slot) := cell_blk hnode 4 rfl
  have n5 : w.cell? ⟨nb, 5, none⟩ = some (.int .u32 P.gen) := cell_blk hnode 5 rfl
  rw [← em, ← en] at HCL
  have HSM : Hid (∀ (W : World), Below w.heap.size w W → W.cell? ⟨nb, 0, none⟩ = some (.int .i64 P.kind) ∧ W.cell? ⟨nb, 1, none⟩ = some (.string P.name) ∧ W.cell? ⟨nb, 2, none⟩ = some (.slice P.da m P.dc) ∧ W.cell? ⟨nb, 3, none⟩ = some (.slice P.aa n P.ac) ∧ W.cell? ⟨nb, 4, none⟩ = some (.int .u32 P.slot) ∧ W.cell? ⟨nb, 5, none⟩ = some (.int .u32 P.gen)) := Lib.hid (fun W b =>
    ⟨(b.cell (p := ⟨nb, 0, none⟩) lnb).trans n0, (b.cell (p := ⟨nb, 1, none⟩) lnb).trans n1, (b.cell (p := ⟨nb, 2, none⟩) lnb).trans n2, (b.cell (p := ⟨nb, 3, none⟩) lnb).trans n3, (b.cell (p := ⟨nb, 4, none⟩) lnb).trans n4, (b.cell (p := ⟨nb, 5, none⟩) lnb).trans n5⟩)
  obtain ⟨V, hV⟩ : ∃ V, V = (w.alloc (.cells #[.int .u32 (s : Int), .int .u32 (g : Int)] 31)).alloc (.cells #[.int .i64 0, .string ⟨#[]⟩, .slice none 0 0, .slice none 0 0, .int .u32 0, .int .u32 0] 66) := ⟨_, rfl⟩
  have bV : Below w.heap.size w V := by rw [hV]; exact (by repeat (first | exact Below.refl _ _ | assumption | refine Below.drew ?_ | refine below_drewN ?_ _ | refine Below.alloc ?_ (by simp <;> omega) _ | refine Below.setCell ?_ (by simp <;> omega) _ | (apply bl_trans; assumption; (simp <;> omega))))
  have hy : V.heap[w.heap.size]? = some (.cells #[.int .u32 (s : Int), .int .u32 (g : Int)] 31 (0, 0)) := by rw [hV]; exact alloc_blk (Go.heap_alloc_new w _) _
  have hx2 : V.heap[w.heap.size + 1]? = some (.cells #[.int .i64 0, .string ⟨#[]⟩, .slice none 0 0, .slice none 0 0, .int .u32 0, .int .u32 0] 66 (0, 0)) := by rw [hV]; exact alloc2_blk w _ _
  have y0 := cell_blk hy 0 rfl
  have y1 := cell_blk hy 1 rfl
  have d0 := (bV.cell (p := ⟨tb, 0, none⟩) ltb).trans c0
  have HX := Lib.hid (And.intro bV hx2)
  simp at y0 y1
  have hV2 := hV
  clear hV hy bV hx2 h hx hl hm hnode hfr hB hs hg em en n0 n1 n2 n3 n4 n5 a1 a2
  go_enter Tryd.func45, Tryd.ntmps45
  go_wp2_with fail
  rw [← hV2]
  clear hV2 c0
  go_region_with (go_at_call 76; refine (HG.out _ HX.out.1.drew).mono ?_; rintro e w1 ⟨rfl, b1⟩; have b2 : Below V.heap.size V w1 := (Below.refl _ V).drew.trans b1; have HB := Lib.hid (And.intro (HX.out.1.trans (b2.mono HX.out.1.size)) ((b2.block _ (lt_of_some HX.out.2)).trans HX.out.2)); obtain ⟨m0, m1, m2, m3, m4, m5⟩ := HSM.out w1 HB.out.1; clear b1 b2)
  all_goals go_wp2_with fail
  all_goals refine (HCL.out _ HB.out.1).mono ?_
  all_goals rintro e w2 ⟨M, rfl, hM, hF, b2⟩
  all_goals have hx3 := (b2.block _ (lt_of_some HB.out.2)).trans HB.out.2
  all_goals have HF := Lib.hid (And.intro hM (And.intro (hF.mono HB.out.1.size) (And.intro (HB.out.1.trans (b2.mono HB.out.1.size)) hx3)))
  all_goals have x0 := cell_blk hx3 0 rfl
  all_goals have x1 := cell_blk hx3 1 rfl
  all_goals have x2 := cell_blk hx3 2 rfl
  all_goals have x3 := cell_blk hx3 3 rfl
  all_goals have x4 := cell_blk hx3 4 rfl
  all_goals have x5 := cell_blk hx3 5 rfl
  all_goals have f0 := free_blk hx3 0
  all_goals have f1 := free_blk hx3 1
  all_goals have f2 := free_blk hx3 2
  all_goals have f3 := free_blk hx3 3
  all_goals have f4 := free_blk hx3 4
  all_goals have f5 := free_blk hx3 5
  all_goals simp at x0 x1 x2 x3 x4 x5
  all_goals clear hM hF b2 hx3
  all_goals obtain ⟨m2', em2⟩ : ∃ m, m = M.data.length := ⟨_, rfl⟩
  all_goals obtain ⟨n2', en2⟩ : ∃ m, m = M.L.length := ⟨_, rfl⟩
  all_goals rw [← em2, ← en2]
  all_goals have HEM := Lib.hid (And.intro em2 en2)
  all_goals clear em2 en2
  all_goals go_wp2_with fail
  all_goals have s6 := six_cells HF.out.2.2.2 (.int .i64 M.kind) (.string M.name) (.slice M.da m2' M.dc) (.slice M.aa n2' M.ac) (.int .u32 M.slot) (.int .u32 M.gen)
  all_goals have z0 := cell_blk s6.1 0 rfl
  all_goals have z1 := cell_blk s6.1 1 rfl
  all_goals have z2 := cell_blk s6.1 2 rfl
  all_goals have z3 := cell_blk s6.1 3 rfl
  all_goals have z4 := cell_blk s6.1 4 rfl
  all_goals have z5 := cell_blk s6.1 5 rfl
  all_goals simp at z0 z1 z2 z3 z4 z5
  all_goals refine bodyPost_ret (v := .tuple #[.agg #[.int .i64 M.kind, .string M.name, .slice M.da m2' M.dc, .slice M.aa n2' M.ac, .int .u32 M.slot, .int .u32 M.gen], .int .i64 0]) (by simp [results, Tryd.results45, go_sem, z0, z1, z2, z3, z4, z5]) rfl ⟨M, ?_, HF.out.1, ?_, ?_⟩
  all_goals first | exact HF.out.2.1.frt s6.2 | exact HF.out.2.2.1.trans ((s6.2.below (by have := lt_of_some HF.out.2.2.2; omega)).mono (by omega)) | (rw [HEM.out.1, HEM.out.2]; rfl)
end
end Go.Proofs.YtelhnaphkbpakaaDoor
namespace Go.Proofs.YtelhnaphkbpakaaDoor
set_option linter.unusedVariables false
section
variable {α β : Type} {f : α → List β} {k : Nat}
end
end Go.Proofs.YtelhnaphkbpakaaDoor
namespace Go.Proofs.YtelhnaphkbpakaaDoor
open Go.RowKit
set_option linter.unusedVariables false
set_option maxRecDepth 100000
abbrev RN := FN × Nd × Value
section
variable {B : Nat} {Q : Nat → Prop} {w w' : World} {fb : Nat} {F : For} {R : List RN} {rv : Value} {T : List TypeId}
theorem cell_lt {w : World} {a : Addr} {v : Value} (h : w.cell? a = some v) : a.block < w.heap.size := by
  by_cases hb : a.block < w.heap.size
  · exact hb
  · exfalso
    have e : w.heap[a.block]? = none := Array.getElem?_eq_none (by omega)
    simp [World.cell?, e] at h
end
def Lv (F : For) (s g : Nat) : Prop := ∃ (k : Nat) (x : FN), F[k]? = some x ∧ x.live = true ∧ x.sl = s ∧ x.gn = g
theorem lv_no {F : For} {s g : Nat} (h : ¬ Lv F s g) : NoH F s g := fun k x a b c d => h ⟨k, x, a, b, c, d⟩
structure HRow (w : World) (gb : Nat) (L : List (Nat × Nat)) : Prop where
  at_ : ∀ j p, L[j]? = some p → w.cell? ⟨gb, j * 2, none⟩ = some (.int .u32 (p.1 : Int)) ∧ w.cell? ⟨gb, j * 2 + 1, none⟩ = some (.int .u32 (p.2 : Int))
  bd : ∀ p ∈ L, p.1 ≤ 4294967295 ∧ p.2 ≤ 4294967295
theorem HRow.below {w w' : World} {gb : Nat} {L : List (Nat × Nat)} (h : HRow w gb L) (b : Below w.heap.size w w') : HRow w' gb L :=
  ⟨fun j p hp => by
    obtain ⟨h1, h2⟩ := h.at_ j p hp
    exact ⟨(b.cell (p := ⟨gb, j * 2, none⟩) (cell_lt h1)).trans h1, (b.cell (p := ⟨gb, j * 2 + 1, none⟩) (cell_lt h2)).trans h2⟩, h.bd⟩
section
variable {B : Nat} {Q : Nat → Prop} {w w' : World} {tb : Nat} {X : TX} {Lf : Nat → Nat → Nat × Nat}
set_option maxHeartbeats 2000000 in
theorem lives_calls (h : TreeRw B Q w tb X Lf) {L : List (Nat × Nat)} {gb cap : Nat} (hL : HRow w gb L) (hn : L.length ≤ 1000) {r : Int} (hr : (r = 0 ∧ ∀ p ∈ L, Lv X.F p.1 p.2) ∨ (r = 51 ∧ ∃ p ∈ L, ¬ Lv X.F p.1 p.2)) :
    Calls Tryd.prog 40 #[.pointer (some ⟨tb, 0, none⟩), .slice (some ⟨gb, 0, none⟩) L.length cap] w fun e w' => e = .returned (.int .i64 r) ∧ Below w.heap.size w w' := by
  have HT := Lib.hid h
  have HL := Lib.hid hL
  have HR := Lib.hid hr
  obtain ⟨n, hnn⟩ : ∃ n, n = L.length := ⟨_, rfl⟩
  rw [← hnn] at hn ⊢
  have HN := Lib.hid hnn
  clear h hL hr hnn
  go_enter Tryd.func40, Tryd.ntmps40
  go_wp2_with fail
  go_loopg [13] n (fun m v wr => ∃ (j : Nat), v = .int .i64 (j : Int) ∧ Hid (j + m = n ∧ Below w.heap.size w wr ∧ ∀ i p, i < j → L[i]? = some p → Lv X.F p.1 p.2))
  case atStart => exact ⟨0, rfl, Lib.hid ⟨by omega, Below.refl _ _, fun i p hi => by omega⟩⟩
  case round =>
    obtain ⟨j, rfl, hw⟩ := hrel
    have hsum := hw.out.1
    have hs1 := hw.out.2.1.size
    have HAL : Hid (∀ o, Below w.heap.size w (wr.alloc o)) := Lib.hid (fun o => hw.out.2.1.alloc hs1 o)
    by_cases hj : j < n
    · obtain ⟨⟨s, g⟩, hp⟩ : ∃ p, L[j]? = some p := ⟨_, List.getElem?_eq_getElem (by have := HN.out; omega)⟩
      obtain ⟨y0, y1⟩ := (HL.out.below hw.out.2.1).at_ j _ hp
      obtain ⟨hs, hg⟩ := HL.out.bd _ (List.mem_of_getElem? hp)
      have l0 := cell_lt y0
      have ql : decide ((j : Int) < (n : Int)) = true := by simp; omega
      have wk : IntKind.i64.wrap ((j : Int) + 1) = (j : Int) + 1 := IntWalk.i64_in _ (by omega)
      simp only at y0 y1 hs hg l0
      have HP := Lib.hid hp
      by_cases hl : Lv X.F s g
      · obtain ⟨k, x, hx, hxl, hxs, hxg⟩ := hl
        have HB : Hid (∀ W, Below w.heap.size w W → Calls Tryd.prog 43 #[.pointer (some ⟨tb, 0, none⟩), .agg #[.int .u32 (s : Int), .int .u32 (g : Int)]] W fun e w' => e = .returned (.tuple #[.int .u64 ((k + 1 : Nat) : Int), .int .i64 0]) ∧ Below W.heap.size W w') := Lib.hid (fun W b => by
          have := born_live (HT.out.below b) hx hxl
          rw [hxs, hxg] at this
          exact this)
        have HLV : Hid (Lv X.F s g) := Lib.hid ⟨k, x, hx, hxl, hxs, hxg⟩
        clear hx hxl hxs hxg hp
        go_wp2_with (go_at_call 43; refine (HB.out _ (HAL.out _)).mono ?_; rintro e w1 ⟨rfl, b1⟩; have HB1 := Lib.hid ((HAL.out _).trans (b1.mono (HAL.out _).size)); clear b1)
        go_roundg (gk - 1)
        case measure => omega
        case rel => exact ⟨j + 1, by go_num, Lib.hid ⟨by omega, HB1.out, fun i p hi hp => by
          by_cases e : i = j
          · subst e; rw [HP.out] at hp; cases hp; exact HLV.out
          · exact hw.out.2.2 i p (by omega) hp⟩⟩
      · have hno := lv_no hl
        have HB : Hid (∀ W, Below w.heap.size w W → Calls Tryd.prog 43 #[.pointer (some ⟨tb, 0, none⟩), .agg #[.int .u32 (s : Int), .int .u32 (g : Int)]] W fun e w' => e = .returned (.tuple #[.int .u64 0, .int .i64 51]) ∧ Below W.heap.size W w') := Lib.hid (fun W b => born_dead (HT.out.below b) hs hg hno)
        have HRES : Hid (r = 51) := Lib.hid (by
          rcases HR.out with ⟨_, ha⟩ | ⟨e, _⟩
          · exact absurd (ha _ (List.mem_of_getElem? hp)) hl
          · exact e)
        clear hl hno hp
        go_wp2_with (go_at_call 43; refine (HB.out _ (HAL.out _)).mono ?_; rintro e w1 ⟨rfl, b1⟩; have HB1 := Lib.hid ((HAL.out _).trans (b1.mono (HAL.out _).size)); clear b1)
        try rw [Exit.noGoto_ret]
        go_ret
        exact ⟨by rw [HRES.out]; rfl, HB1.out⟩
    · have ql : decide ((j : Int) < (n : Int)) = false := by simp; omega
      have HRES : Hid (r = 0) := Lib.hid (by
        rcases HR.out with ⟨e, _⟩ | ⟨_, p, hp, hl⟩
        · exact e
        · obtain ⟨i, hi, e⟩ := List.mem_iff_getElem.1 hp
          refine absurd (hw.out.2.2 i p (by have := HN.out; omega) ?_) hl
          rw [List.getElem?_eq_getElem hi, e])
      go_wp2_with fail
      try rw [Exit.noGoto_ret]
      go_ret
      exact ⟨by rw [HRES.out]; rfl, hw.out.2.1⟩
end
end Go.Proofs.YtelhnaphkbpakaaDoor
