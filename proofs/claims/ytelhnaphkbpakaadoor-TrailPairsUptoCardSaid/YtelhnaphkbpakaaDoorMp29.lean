/- Part 29 of the proof of TpP: lemmas. -/
import Derived.Test.YtelhnaphkbpakaaDoorMp28
namespace Go.Proofs.YtelhnaphkbpakaaDoor
open Go.RowKit
set_option linter.unusedVariables false
set_option maxRecDepth 100000
theorem alloc3_blk (w : World) (a b c : Obj) : (((w.alloc a).alloc b).alloc c).heap[w.heap.size]? = some a ∧ (((w.alloc a).alloc b).alloc c).heap[w.heap.size + 1]? = some b ∧ (((w.alloc a).alloc b).alloc c).heap[w.heap.size + 2]? = some c := by
  refine ⟨alloc_blk (alloc_blk (Go.heap_alloc_new w a) b) c, alloc_blk (alloc2_blk w a b) c, ?_⟩
  have := alloc2_blk (w.alloc a) b c
  rwa [World.size_alloc] at this
theorem TreeRw.told {B : Nat} {Q : Nat → Prop} {w : World} {tb : Nat} {X : TX} {Lf Lf' : Nat → Nat → Nat × Nat} (h : TreeRw B Q w tb X Lf) {F' : For} (hl : F'.length = X.F.length)
    (hs : ∀ k : Nat, (F'[k]?).map (fun x => (x.sl, x.gn, x.live)) = (X.F[k]?).map (fun x => (x.sl, x.gn, x.live))) (hL : ∀ k j, j < 5 → Lf' k j = Lf k j) : TreeRw B Q w tb { X with F := F' } Lf' := by
  have back : ∀ (k : Nat) (x : FN), F'[k]? = some x → ∃ y : FN, X.F[k]? = some y ∧ y.sl = x.sl ∧ y.gn = x.gn ∧ y.live = x.live := by
    intro k x hx
    have := hs k
    rw [hx] at this
    obtain ⟨y, hy, e⟩ := Option.map_eq_some_iff.1 this.symm
    simp at e
    exact ⟨y, hy, e.1, e.2.1, e.2.2⟩
  have forth : ∀ (k : Nat) (x : FN), X.F[k]? = some x → ∃ y : FN, F'[k]? = some y ∧ y.sl = x.sl ∧ y.gn = x.gn ∧ y.live = x.live := by
    intro k x hx
    have := hs k
    rw [hx] at this
    obtain ⟨y, hy, e⟩ := Option.map_eq_some_iff.1 this
    simp at e
    exact ⟨y, hy, e.1, e.2.1, e.2.2⟩
  refine ⟨by rw [h.lenM]; exact hl.symm, by show _ ≤ F'.length; rw [hl]; exact h.few, by show F'.length ≤ _; rw [hl]; exact h.big, h.ar, h.own, by show w.heap[tb]? = some (.cells #[_, .int .u64 (F'.length : Int), _, _, _, _] _ _); rw [hl]; exact h.blk, h.had, h.fre, ?_, ?_, ?_, h.nbd, h.nbl⟩
  · intro k x hx hxl
    obtain ⟨y, hy, e1, e2, e3⟩ := back k x hx
    have := h.slot k y hy (e3.trans hxl)
    rw [e1, e2] at this
    exact this
  · intro s g p hp
    obtain ⟨k, x, h1, h2, h3, h4⟩ := h.used s g p hp
    obtain ⟨y, hy, e1, e2, e3⟩ := forth k x h1
    exact ⟨k, y, hy, e3.trans h2, e1.trans h3, e2.trans h4⟩
  · intro k x nb P hx hxl hm
    obtain ⟨y, hy, e1, e2, e3⟩ := back k x hx
    obtain ⟨a1, a2, a3, a4⟩ := h.node k y nb P hy (e3.trans hxl) hm
    refine ⟨a1, a2, ?_, a4⟩
    have e : ncells P (Lf' k) (k + 1) = ncells P (Lf k) (k + 1) := by
      unfold ncells
      rw [hL k 0 (by decide), hL k 1 (by decide), hL k 2 (by decide), hL k 3 (by decide), hL k 4 (by decide)]
    rw [e]; exact a3
theorem hng_slots {F : For} {i u p : Nat} (hne : i ≠ u) (k : Nat) : ((hng F i u p)[k]?).map (fun x => (x.sl, x.gn, x.live)) = (F[k]?).map (fun x => (x.sl, x.gn, x.live)) := by
  rw [hng_at hne]
  by_cases h1 : k = i
  · subst h1; rw [if_pos rfl]; cases F[k]? <;> rfl
  · rw [if_neg h1]
    by_cases h2 : k = u
    · subst h2; rw [if_pos rfl]; cases F[k]? <;> rfl
    · rw [if_neg h2]
def linkH (L : Nat → Nat → Nat × Nat) (i u : Nat) (f b : Option Nat) (hu hi hf hb : Nat × Nat) : Nat → Nat → Nat × Nat :=
  let L3 := updH (updH (updH L i 0 hu) i 3 hf) i 4 hb
  let L4 := match f with | none => updH L3 u 1 hi | some f => updH L3 f 4 hi
  match b with | none => updH L4 u 2 hi | some b => updH L4 b 3 hi
theorem hd_linkL (F : For) (L : Nat → Nat → Option Nat) (i u : Nat) (f b : Option Nat) (k j : Nat) :
    hd F (linkL L i u f b k j) = linkH (fun a c => hd F (L a c)) i u f b (hd F (some u)) (hd F (some i)) (hd F f) (hd F b) k j := by
  unfold linkL linkH
  cases f with
  | none => cases b with
    | none => simp only [hd_updO]
    | some b => simp only [hd_updO]
  | some f => cases b with
    | none => simp only [hd_updO]
    | some b => simp only [hd_updO]
theorem TreeRw.linked {B : Nat} {Q : Nat → Prop} {w : World} {tb : Nat} {X : TX} (ok : FOk X.F) {u i : Nat} {xu xi : FN} (hu : X.F[u]? = some xu) (hul : xu.live = true) (hi : X.F[i]? = some xi) (hil : xi.live = true) (hir : xi.up = none)
    {c : List Nat} (hc : Chain X.F u c) (hni : i ∉ c) {l1 l2 : List Nat} (hl : xu.down = l1 ++ l2)
    (h : TreeRw B Q w tb X (linkH (toH X.F) i u l1.getLast? l2.head? (hd X.F (some u)) (hd X.F (some i)) (hd X.F l1.getLast?) (hd X.F l2.head?))) : TreeAt B Q w tb { X with F := hng X.F i u l1.length } := by
  have hne : i ≠ u := by
    rintro rfl
    obtain ⟨t, ht⟩ := hc.ne_nil
    exact hni (by rw [ht]; simp)
  refine ⟨ok.hang hi hu hil hul hir hc hni, h.told (hng_len _ _ _ _) (hng_slots hne) (fun k j hj => ?_)⟩
  show hd _ (lkO _ k j) = _
  rw [hd_hng hne, lk_hng ok hi hu hir hne hl k j hj, hd_linkL]
  rfl
theorem TreeRw.setQ {B : Nat} {Q : Nat → Prop} {w : World} {tb : Nat} {X : TX} {L : Nat → Nat → Nat × Nat} (h : TreeRw B Q w tb X L) {k : Nat} {x : FN} (hx : X.F[k]? = some x ∧ x.live = true) {nb : Nat} {P : Nd} (hm : X.M[k]? = some (nb, P)) (j : Nat) (hj : j < 5) (a b : Nat) :
    TreeRw B Q ((w.setCell ⟨nb, 6 + j * 2, none⟩ (.int .u32 (a : Int))).setCell ⟨nb, 6 + j * 2 + 1, none⟩ (.int .u32 (b : Int))) tb X (updH L k j (a, b)) ∧
    FrG [120] Q w ((w.setCell ⟨nb, 6 + j * 2, none⟩ (.int .u32 (a : Int))).setCell ⟨nb, 6 + j * 2 + 1, none⟩ (.int .u32 (b : Int))) :=
  ⟨(h.setL hx.1 hx.2 hm j hj (a, b)).1, (h.setL hx.1 hx.2 hm j hj (a, b)).2.1.mono (fun _ h => h) (fun b e => by rw [e]; exact (h.node k x nb P hx.1 hx.2 hm).2.1)⟩
theorem TreeRw.set3 {B : Nat} {Q : Nat → Prop} {w : World} {tb : Nat} {X : TX} {L : Nat → Nat → Nat × Nat} (h : TreeRw B Q w tb X L) {k : Nat} {x : FN} (hx : X.F[k]? = some x ∧ x.live = true) {nb : Nat} {P : Nd} (hm : X.M[k]? = some (nb, P)) (a b c d e f : Nat) :
    TreeRw B Q ((((((w.setCell ⟨nb, 6, none⟩ (.int .u32 (a : Int))).setCell ⟨nb, 7, none⟩ (.int .u32 (b : Int))).setCell ⟨nb, 12, none⟩ (.int .u32 (c : Int))).setCell ⟨nb, 13, none⟩ (.int .u32 (d : Int))).setCell ⟨nb, 14, none⟩ (.int .u32 (e : Int))).setCell ⟨nb, 15, none⟩ (.int .u32 (f : Int))) tb X (updH (updH (updH L k 0 (a, b)) k 3 (c, d)) k 4 (e, f)) ∧
    FrG [120] Q w ((((((w.setCell ⟨nb, 6, none⟩ (.int .u32 (a : Int))).setCell ⟨nb, 7, none⟩ (.int .u32 (b : Int))).setCell ⟨nb, 12, none⟩ (.int .u32 (c : Int))).setCell ⟨nb, 13, none⟩ (.int .u32 (d : Int))).setCell ⟨nb, 14, none⟩ (.int .u32 (e : Int))).setCell ⟨nb, 15, none⟩ (.int .u32 (f : Int))) := by
  have h1 := h.setQ hx hm 0 (by decide) a b
  have h2 := h1.1.setQ hx hm 3 (by decide) c d
  have h3 := h2.1.setQ hx hm 4 (by decide) e f
  exact ⟨h3.1, (h1.2.trans h2.2 (fun _ h => .inl h)).trans h3.2 (fun _ h => .inl h)⟩
structure LBx3 (W : World) (z : Nat) (p q r : Nat × Nat) : Prop where
  x0 : W.heap[z]? = some (.cells #[.int .u32 (p.1 : Int), .int .u32 (p.2 : Int)] 31 (0, 0))
  x1 : W.heap[z + 1]? = some (.cells #[.int .u32 (q.1 : Int), .int .u32 (q.2 : Int)] 31 (0, 0))
  x2 : W.heap[z + 2]? = some (.cells #[.int .u32 (r.1 : Int), .int .u32 (r.2 : Int)] 31 (0, 0))
theorem LBx3.below {W W' : World} {z : Nat} {p q r : Nat × Nat} (h : LBx3 W z p q r) (b : Below W.heap.size W W') : LBx3 W' z p q r :=
  ⟨(b.block _ (lt_of_some h.x0)).trans h.x0, (b.block _ (lt_of_some h.x1)).trans h.x1, (b.block _ (lt_of_some h.x2)).trans h.x2⟩
theorem LBx3.frg {W W' : World} {z : Nat} {p q r : Nat × Nat} {Q : Nat → Prop} (h : LBx3 W z p q r) (f : FrG [120] Q W W') : LBx3 W' z p q r :=
  ⟨f.blk h.x0 (by decide), f.blk h.x1 (by decide), f.blk h.x2 (by decide)⟩
theorem LBx3.cells {W : World} {z a b c d e f : Nat} (h : LBx3 W z (a, b) (c, d) (e, f)) : W.cell? ⟨z, 0, none⟩ = some (.int .u32 (a : Int)) ∧ W.cell? ⟨z, 1, none⟩ = some (.int .u32 (b : Int)) ∧ W.cell? ⟨z + 1, 0, none⟩ = some (.int .u32 (c : Int)) ∧ W.cell? ⟨z + 1, 1, none⟩ = some (.int .u32 (d : Int)) ∧
    W.cell? ⟨z + 2, 0, none⟩ = some (.int .u32 (e : Int)) ∧ W.cell? ⟨z + 2, 1, none⟩ = some (.int .u32 (f : Int)) :=
  ⟨cell_blk h.x0 0 rfl, cell_blk h.x0 1 rfl, cell_blk h.x1 0 rfl, cell_blk h.x1 1 rfl, cell_blk h.x2 0 rfl, cell_blk h.x2 1 rfl⟩
theorem lbx3_alloc (w : World) (a b c d e f : Nat) : LBx3 (((w.alloc (.cells #[.int .u32 (a : Int), .int .u32 (b : Int)] 31)).alloc (.cells #[.int .u32 (c : Int), .int .u32 (d : Int)] 31)).alloc (.cells #[.int .u32 (e : Int), .int .u32 (f : Int)] 31)) w.heap.size (a, b) (c, d) (e, f) :=
  ⟨(alloc3_blk w _ _ _).1, (alloc3_blk w _ _ _).2.1, (alloc3_blk w _ _ _).2.2⟩
section
variable {B : Nat} {Q : Nat → Prop} {w w' : World} {tb : Nat} {X : TX}
set_option maxHeartbeats 8000000 in
theorem link_00 (h : TreeAt B Q w tb X) {u i : Nat} {xu xi : FN} (hu : X.F[u]? = some xu) (hul : xu.live = true) (hi : X.F[i]? = some xi) (hil : xi.live = true) (hir : xi.up = none)
    {c : List Nat} (hc : Chain X.F u c) (hni : i ∉ c) {l1 l2 : List Nat} (hl : xu.down = l1 ++ l2) (hf : l1 = []) (hb : l2 = []) :
    Calls Tryd.prog 71 #[.pointer (some ⟨tb, 0, none⟩), .agg #[.int .u32 (xu.sl : Int), .int .u32 (xu.gn : Int)], .agg #[.int .u32 (xi.sl : Int), .int .u32 (xi.gn : Int)], .agg #[.int .u32 0, .int .u32 0]] w fun e w' =>
      e = .returned (.int .i64 0) ∧ TreeAt B Q w' tb { X with F := hng X.F i u l1.length } ∧ FrG [120] Q w w' := by
  have HT := Lib.hid h
  have HFIN : Hid (∀ W, TreeRw B Q W tb X (linkH (toH X.F) i u l1.getLast? l2.head? (hd X.F (some u)) (hd X.F (some i)) (hd X.F l1.getLast?) (hd X.F l2.head?)) → TreeAt B Q W tb { X with F := hng X.F i u l1.length }) := Lib.hid (fun W hW => hW.linked h.fok hu hul hi hil hir hc hni hl)
  obtain ⟨nbp, Pp, hmp, _⟩ := h.rw.at_live hu hul
  obtain ⟨nbc, Pc, hmc, _⟩ := h.rw.at_live hi hil
  have hnp := (h.rw.node u xu nbp Pp hu hul hmp).2.2.1
  have hnc := (h.rw.node i xi nbc Pc hi hil hmc).2.2.1
  have HMU := Lib.hid hmp
  have HMI := Lib.hid hmc
  have HU := Lib.hid (And.intro hu hul)
  have HI := Lib.hid (And.intro hi hil)
  have HP : Hid (∀ (W : World) L, TreeRw B Q W tb X L → W.heap[nbp]? = some (.cells (ncells Pp (L u) (u + 1)) 120 (0, 0))) := Lib.hid (fun W L hW => (hW.node u xu nbp Pp hu hul hmp).2.2.1)
  have HC : Hid (∀ (W : World) L, TreeRw B Q W tb X L → W.heap[nbc]? = some (.cells (ncells Pc (L i) (i + 1)) 120 (0, 0))) := Lib.hid (fun W L hW => (hW.node i xi nbc Pc hi hil hmc).2.2.1)
  have HQ : Hid (Q nbp ∧ Q nbc) := Lib.hid ⟨(h.rw.node u xu nbp Pp hu hul hmp).2.1, (h.rw.node i xi nbc Pc hi hil hmc).2.1⟩
  have HGp : Hid (∀ W, Below w.heap.size w W → Calls Tryd.prog 76 #[.pointer (some ⟨X.ab, 0, none⟩), .agg #[.int .u32 (xu.sl : Int), .int .u32 (xu.gn : Int)]] W fun e w' => e = .returned (.tuple #[.pointer (some ⟨nbp, 0, none⟩), .int .i64 0]) ∧ Below W.heap.size W w') := Lib.hid (fun W bb => (h.rw.below bb).get_live hu hul hmp)
  have HGc : Hid (∀ W, Below w.heap.size w W → Calls Tryd.prog 76 #[.pointer (some ⟨X.ab, 0, none⟩), .agg #[.int .u32 (xi.sl : Int), .int .u32 (xi.gn : Int)]] W fun e w' => e = .returned (.tuple #[.pointer (some ⟨nbc, 0, none⟩), .int .i64 0]) ∧ Below W.heap.size W w') := Lib.hid (fun W bb => (h.rw.below bb).get_live hi hil hmc)
  have HWI : Hid (∀ W, Below w.heap.size w W → Calls Tryd.prog 101 #[.pointer (some ⟨tb, 0, none⟩), .agg #[.int .u32 (xu.sl : Int), .int .u32 (xu.gn : Int)], .agg #[.int .u32 (xi.sl : Int), .int .u32 (xi.gn : Int)]] W fun e w' => e = .returned (.bool false) ∧ Below W.heap.size W w') := Lib.hid (fun W bb => by
    have := within_calls (h.below bb) hu hul hi hil hc
    rw [decide_eq_false hni] at this
    exact this)
  have h20 : toH X.F i 0 = (0, 0) := by unfold toH; show hd X.F (upOf X.F i) = _; unfold upOf; rw [hi]; show hd X.F xi.up = _; rw [hir]; rfl
  have HFb : Hid (∀ W, Below w.heap.size w W → Calls Tryd.prog 90 #[.pointer (some ⟨tb, 0, none⟩), .agg #[.int .u32 0, .int .u32 0], .int .i64 0] W fun e w' => e = .returned (.tuple #[.agg #[.int .u32 0, .int .u32 0], .int .i64 51]) ∧ Below W.heap.size W w') := Lib.hid (fun W bb => follow_dead (h.rw.below bb) (s := 0) (g := 0) (by decide) (by decide) ((h.rw.below bb).no_zero 0) 0)
  have hlast : toH X.F u 2 = (0, 0) := by
    unfold toH
    show hd X.F (dnOf X.F (some u)).getLast? = _
    have : dnOf X.F (some u) = l1 := by unfold dnOf; simp [hu, hl, hb]
    rw [this, hf]; rfl
  have HEND : Hid (linkH (toH X.F) i u l1.getLast? l2.head? (hd X.F (some u)) (hd X.F (some i)) (hd X.F l1.getLast?) (hd X.F l2.head?) = updH (updH (updH (updH (updH (toH X.F) i 0 (xu.sl, xu.gn)) i 3 (0, 0)) i 4 (0, 0)) u 1 (xi.sl, xi.gn)) u 2 (xi.sl, xi.gn)) := Lib.hid (by
    rw [hf, hb, hd_some hu, hd_some hi]; rfl)
  have qz : hEq 0 0 0 0 = true := hEq_true rfl rfl
  have qu : hEq (xu.sl : Int) (xu.gn : Int) (xu.sl : Int) (xu.gn : Int) = true := hEq_true rfl rfl
  have hpc : nbp ≠ nbc := by rintro rfl; have := h.rw.nb_inj hmp hmc; subst this; obtain ⟨t, ht⟩ := hc.ne_nil; exact hni (by rw [ht]; simp)
  have c0 := cell_blk h.rw.blk 0 rfl
  have ltb := lt_of_some h.rw.blk
  have lnp := lt_of_some hnp
  have lnc := lt_of_some hnc
  simp at c0
  have n20 : toH X.F i 0 = (0, 0) := h20
  have HLT := Lib.hid (And.intro hlast n20)
  clear hlast n20 h hu hul hi hil hir hc hni hl hf hmp hmc hnp hnc h20 hb
  generalize xu.sl = us at *
  generalize xu.gn = ug at *
  generalize xi.sl = si at *
  generalize xi.gn = gi at *
  obtain ⟨V, hV⟩ : ∃ V, V = ((w.alloc (.cells #[.int .u32 (us : Int), .int .u32 (ug : Int)] 31)).alloc (.cells #[.int .u32 (si : Int), .int .u32 (gi : Int)] 31)).alloc (.cells #[.int .u32 0, .int .u32 0] 31) := ⟨_, rfl⟩
  have bV : Below w.heap.size w V := by rw [hV]; exact (by repeat (first | exact Below.refl _ _ | assumption | refine Below.drew ?_ | refine below_drewN ?_ _ | refine Below.alloc ?_ (by simp <;> omega) _ | refine Below.setCell ?_ (by simp <;> omega) _ | (apply bl_trans; assumption; (simp <;> omega))))
  have hx : LBx3 V w.heap.size (us, ug) (si, gi) (0, 0) := by rw [hV]; exact lbx3_alloc w us ug si gi 0 0
  have HX := Lib.hid (And.intro hx bV)
  have HSW : Hid (∀ W, Below V.heap.size V W → (W.cell? ⟨tb, 0, none⟩ = some (.pointer (some ⟨X.ab, 0, none⟩)) ∧ W.cell? ⟨w.heap.size, 0, none⟩ = some (.int .u32 (us : Int)) ∧ W.cell? ⟨w.heap.size, 1, none⟩ = some (.int .u32 (ug : Int)) ∧ W.cell? ⟨w.heap.size + 1, 0, none⟩ = some (.int .u32 (si : Int)) ∧ W.cell? ⟨w.heap.size + 1, 1, none⟩ = some (.int .u32 (gi : Int)) ∧ W.cell? ⟨w.heap.size + 2, 0, none⟩ = some (.int .u32 0) ∧ W.cell? ⟨w.heap.size + 2, 1, none⟩ = some (.int .u32 0)) ∧ Below w.heap.size w W ∧ LBx3 W w.heap.size (us, ug) (si, gi) (0, 0)) := Lib.hid (fun W bb => by
    obtain ⟨y0, y1, y2, y3, y4, y5⟩ := (HX.out.1.below bb).cells
    exact ⟨⟨((HX.out.2.trans (bb.mono HX.out.2.size)).cell (p := ⟨tb, 0, none⟩) ltb).trans c0, y0, y1, y2, y3, y4, y5⟩, HX.out.2.trans (bb.mono HX.out.2.size), HX.out.1.below bb⟩)
  have HD0 : Hid (Below V.heap.size V V.drew) := Lib.hid (Below.refl _ _).drew
  have hV2 := hV
  clear hV hx bV
  go_enter Tryd.func71, Tryd.ntmps71
  go_wp2_with fail
  rw [← hV2]
  clear hV2
  go_region_held3 (fun W => (W.cell? ⟨tb, 0, none⟩ = some (.pointer (some ⟨X.ab, 0, none⟩)) ∧ W.cell? ⟨w.heap.size, 0, none⟩ = some (.int .u32 (us : Int)) ∧ W.cell? ⟨w.heap.size, 1, none⟩ = some (.int .u32 (ug : Int)) ∧ W.cell? ⟨w.heap.size + 1, 0, none⟩ = some (.int .u32 (si : Int)) ∧ W.cell? ⟨w.heap.size + 1, 1, none⟩ = some (.int .u32 (gi : Int)) ∧ W.cell? ⟨w.heap.size + 2, 0, none⟩ = some (.int .u32 0) ∧ W.cell? ⟨w.heap.size + 2, 1, none⟩ = some (.int .u32 0))) (first | exact (HSW.out _ HD0.out).1 | exact (HSW.out _ HB1.out).1) (first | (go_at_call 76; refine (HGp.out _ (HSW.out _ HD0.out).2.1).mono ?_; rintro e w1 ⟨rfl, b1⟩; have HB1 := Lib.hid (HD0.out.trans (b1.mono HD0.out.size))))
  clear b1
  have HD1 : Hid (Below V.heap.size V w1.drew) := Lib.hid HB1.out.drew
  go_wp2_with fail
  go_region_held3 (fun W => (W.cell? ⟨tb, 0, none⟩ = some (.pointer (some ⟨X.ab, 0, none⟩)) ∧ W.cell? ⟨w.heap.size, 0, none⟩ = some (.int .u32 (us : Int)) ∧ W.cell? ⟨w.heap.size, 1, none⟩ = some (.int .u32 (ug : Int)) ∧ W.cell? ⟨w.heap.size + 1, 0, none⟩ = some (.int .u32 (si : Int)) ∧ W.cell? ⟨w.heap.size + 1, 1, none⟩ = some (.int .u32 (gi : Int)) ∧ W.cell? ⟨w.heap.size + 2, 0, none⟩ = some (.int .u32 0) ∧ W.cell? ⟨w.heap.size + 2, 1, none⟩ = some (.int .u32 0))) (first | exact (HSW.out _ HD1.out).1 | exact (HSW.out _ HB2.out).1) (first | (go_at_call 76; refine (HGc.out _ (HSW.out _ HD1.out).2.1).mono ?_; rintro e w2 ⟨rfl, b1⟩; have HB2 := Lib.hid (HD1.out.trans (b1.mono HD1.out.size))))
  clear b1 HD0 HD1 HB1
  obtain ⟨d0, y0, y1, y2, y3, y4, y5⟩ := (HSW.out _ HB2.out).1
  have n0 : w2.cell? ⟨nbp, 10, none⟩ = some (.int .u32 ((toH X.F u 2).1 : Int)) := cell_blk (HP.out w2 _ (HT.out.rw.below (HSW.out _ HB2.out).2.1)) 10 rfl
  have n1 : w2.cell? ⟨nbp, 11, none⟩ = some (.int .u32 ((toH X.F u 2).2 : Int)) := cell_blk (HP.out w2 _ (HT.out.rw.below (HSW.out _ HB2.out).2.1)) 11 rfl
  rw [HLT.out.1] at n0 n1
  simp at n0 n1
  have lz2 : w.heap.size + 2 < w2.heap.size := lt_of_some (HSW.out _ HB2.out).2.2.x2
  go_wp2_with fail
  obtain ⟨V3, hV3⟩ : ∃ U, U = w2.alloc (.cells #[.int .u32 0, .int .u32 0] 31) := ⟨_, rfl⟩
  rw [← hV3]
  obtain ⟨bx, hbx⟩ : ∃ z, z = w2.heap.size := ⟨_, rfl⟩
  have hfx : V3.heap[bx]? = some (.cells #[.int .u32 0, .int .u32 0] 31 (0, 0)) := by rw [hV3, hbx]; exact Go.heap_alloc_new w2 _
  have HB3 : Hid (Below V.heap.size V V3) := Lib.hid (by rw [hV3]; exact HB2.out.alloc HB2.out.size _)
  have lbx : V.heap.size ≤ bx := by rw [hbx]; exact HB2.out.size
  have lzx : w.heap.size + 2 < bx := by rw [hbx]; exact lz2
  rw [← hbx]
  have HFX := Lib.hid hfx
  clear hV3 hbx lz2 HB2 hfx n0 n1 d0 y0 y1 y2 y3 y4 y5
  have HFX5 := HFX
  have HB5 := HB3
  clear HFX HB3
  refine (HFb.out _ (HSW.out _ HB5.out).2.1).mono ?_
  rintro e w4 ⟨rfl, b4⟩
  have HB6 := Lib.hid (HB5.out.trans (b4.mono HB5.out.size))
  have HFX6 := Lib.hid ((b4.block _ (lt_of_some HFX5.out)).trans HFX5.out)
  clear b4 HB5 HFX5
  obtain ⟨d0, y0, y1, y2, y3, y4, y5⟩ := (HSW.out _ HB6.out).1
  have lz4 : bx < w4.heap.size := lt_of_some HFX6.out
  have l4a : w.heap.size < w4.heap.size := by omega
  have l4b : w.heap.size + 1 < w4.heap.size := by omega
  have l4c : w.heap.size + 2 < w4.heap.size := by omega
  go_wp2_with fail
  obtain ⟨V5, hV5⟩ : ∃ U, U = w4.alloc (.cells #[.int .u32 0, .int .u32 0] 31) := ⟨_, rfl⟩
  rw [← hV5]
  obtain ⟨ub, hub⟩ : ∃ z, z = w4.heap.size := ⟨_, rfl⟩
  have HUX : Hid (V5.heap[ub]? = some (.cells #[.int .u32 0, .int .u32 0] 31 (0, 0))) := Lib.hid (by rw [hV5, hub]; exact Go.heap_alloc_new w4 _)
  have HB7 : Hid (Below V.heap.size V V5) := Lib.hid (by rw [hV5]; exact HB6.out.alloc HB6.out.size _)
  have HFX7 : Hid (V5.heap[bx]? = some (.cells #[.int .u32 0, .int .u32 0] 31 (0, 0))) := Lib.hid (by rw [hV5]; exact alloc_blk HFX6.out _)
  rw [← hub]
  clear hV5 hub lz4 l4a l4b l4c HB6 HFX6 d0 y0 y1 y2 y3 y4 y5
  refine (HWI.out _ (HSW.out _ HB7.out).2.1).mono ?_
  rintro e w5 ⟨rfl, b5⟩
  have HB8 := Lib.hid (HB7.out.trans (b5.mono HB7.out.size))
  have HFX8 := Lib.hid ((b5.block _ (lt_of_some HFX7.out)).trans HFX7.out)
  have HUX8 := Lib.hid ((b5.block _ (lt_of_some HUX.out)).trans HUX.out)
  clear b5 HB7 HFX7 HUX
  obtain ⟨d0, y0, y1, y2, y3, y4, y5⟩ := (HSW.out _ HB8.out).1
  have HT8 := Lib.hid (HT.out.rw.below (HSW.out _ HB8.out).2.1)
  have n0 : w5.cell? ⟨nbc, 6, none⟩ = some (.int .u32 ((toH X.F i 0).1 : Int)) := cell_blk (HC.out w5 _ HT8.out) 6 rfl
  have n1 : w5.cell? ⟨nbc, 7, none⟩ = some (.int .u32 ((toH X.F i 0).2 : Int)) := cell_blk (HC.out w5 _ HT8.out) 7 rfl
  rw [HLT.out.2] at n0 n1
  simp at n0 n1
  have g0 := cell_blk HUX8.out 0 rfl
  have g1 := cell_blk HUX8.out 1 rfl
  have k0 := cell_blk HFX8.out 0 rfl
  have k1 := cell_blk HFX8.out 1 rfl
  simp at g0 g1 k0 k1
  go_wp2_with fail
  clear n0 n1 g0 g1 k0 k1
  have m6 : w5.cell? ⟨nbc, 6, none⟩ = some (.int .u32 ((toH X.F i 0).1 : Int)) := cell_blk (HC.out w5 _ HT8.out) 6 rfl
  have r6 := free_blk (HC.out w5 _ HT8.out) 6
  have m7 : w5.cell? ⟨nbc, 7, none⟩ = some (.int .u32 ((toH X.F i 0).2 : Int)) := cell_blk (HC.out w5 _ HT8.out) 7 rfl
  have r7 := free_blk (HC.out w5 _ HT8.out) 7
  have m12 : w5.cell? ⟨nbc, 12, none⟩ = some (.int .u32 ((toH X.F i 3).1 : Int)) := cell_blk (HC.out w5 _ HT8.out) 12 rfl
  have r12 := free_blk (HC.out w5 _ HT8.out) 12
  have m13 : w5.cell? ⟨nbc, 13, none⟩ = some (.int .u32 ((toH X.F i 3).2 : Int)) := cell_blk (HC.out w5 _ HT8.out) 13 rfl
  have r13 := free_blk (HC.out w5 _ HT8.out) 13
  have m14 : w5.cell? ⟨nbc, 14, none⟩ = some (.int .u32 ((toH X.F i 4).1 : Int)) := cell_blk (HC.out w5 _ HT8.out) 14 rfl
  have r14 := free_blk (HC.out w5 _ HT8.out) 14
  have m15 : w5.cell? ⟨nbc, 15, none⟩ = some (.int .u32 ((toH X.F i 4).2 : Int)) := cell_blk (HC.out w5 _ HT8.out) 15 rfl
  have r15 := free_blk (HC.out w5 _ HT8.out) 15
  have k0 := cell_blk HFX8.out 0 rfl
  have k1 := cell_blk HFX8.out 1 rfl
  simp at k0 k1
  have e0 : nbc ≠ w.heap.size := by omega
  have e1 : nbc ≠ w.heap.size + 1 := by omega
  have e2 : nbc ≠ w.heap.size + 2 := by omega
  have e3 : nbc ≠ bx := by omega
  have e4 := Ne.symm e0
  have e5 := Ne.symm e1
  have e6 := Ne.symm e2
  have e7 := Ne.symm e3
  go_region
  clear m6 m7 m12 m13 m14 m15 r6 r7 r12 r13 r14 r15 k0 k1 e0 e1 e2 e3 e4 e5 e6 e7 d0 y0 y1 y2 y3 y4 y5
  obtain ⟨V9, hV9⟩ : ∃ U, U = ((((((w5.setCell ⟨nbc, 6, none⟩ (.int .u32 (us : Int))).setCell ⟨nbc, 7, none⟩ (.int .u32 (ug : Int))).setCell ⟨nbc, 12, none⟩ (.int .u32 0)).setCell ⟨nbc, 13, none⟩ (.int .u32 0)).setCell ⟨nbc, 14, none⟩ (.int .u32 0)).setCell ⟨nbc, 15, none⟩ (.int .u32 0)).drew := ⟨_, rfl⟩
  have H9 : Hid (TreeRw B Q V9 tb X (updH (updH (updH (toH X.F) i 0 (us, ug)) i 3 (0, 0)) i 4 (0, 0)) ∧ FrG [120] Q w5 V9) := Lib.hid (by
    have h3 := HT8.out.set3 HI.out HMI.out us ug 0 0 0 0
    rw [hV9]
    exact ⟨h3.1.below (Below.refl _ _).drew, h3.2.drew⟩)
  rw [← hV9]
  have HX9 := Lib.hid ((HSW.out _ HB8.out).2.2.frg H9.out.2)
  have HFX9 := Lib.hid (H9.out.2.blk HFX8.out (by decide))
  have HLOW : Hid (Below w.heap.size w w5) := Lib.hid (HSW.out _ HB8.out).2.1
  have HFR9 : Hid (FrG [120] Q w V9) := Lib.hid ((FrG.of_below HLOW.out : FrG [120] Q w w5).trans H9.out.2 (fun _ h => .inl h))
  clear hV9 HUX8 HSW
  obtain ⟨y0, y1, y2, y3, y4, y5⟩ := HX9.out.cells
  have k0 := cell_blk HFX9.out 0 rfl
  have k1 := cell_blk HFX9.out 1 rfl
  simp at k0 k1
  simp at y4 y5
  have m0 : V9.cell? ⟨nbp, 8, none⟩ = some (.int .u32 ((updH (updH (updH (toH X.F) i 0 (us, ug)) i 3 (0, 0)) i 4 (0, 0)) u 1).1) := cell_blk (HP.out V9 _ H9.out.1) 8 rfl
  have r0 := free_blk (HP.out V9 _ H9.out.1) 8
  have m1 : V9.cell? ⟨nbp, 9, none⟩ = some (.int .u32 ((updH (updH (updH (toH X.F) i 0 (us, ug)) i 3 (0, 0)) i 4 (0, 0)) u 1).2) := cell_blk (HP.out V9 _ H9.out.1) 9 rfl
  have r1 := free_blk (HP.out V9 _ H9.out.1) 9
  have e0 : nbp ≠ w.heap.size := by omega
  have e1 : nbp ≠ w.heap.size + 1 := by omega
  have e2 : nbp ≠ w.heap.size + 2 := by omega
  have e3 : nbp ≠ bx := by omega
  have e4 := Ne.symm e0
  have e5 := Ne.symm e1
  have e6 := Ne.symm e2
  have e7 := Ne.symm e3
  go_wp2_with fail
  go_region
  obtain ⟨V10, hVn⟩ : ∃ U, U = ((V9.setCell ⟨nbp, 8, none⟩ (.int .u32 (si : Int))).setCell ⟨nbp, 9, none⟩ (.int .u32 (gi : Int))).drew := ⟨_, rfl⟩
  have H10 : Hid (TreeRw B Q V10 tb X (updH (updH (updH (updH (toH X.F) i 0 (us, ug)) i 3 (0, 0)) i 4 (0, 0)) u 1 (si, gi)) ∧ FrG [120] Q V9 V10) := Lib.hid (by
    have h3 := H9.out.1.setQ HU.out HMU.out 1 (by decide) si gi
    rw [hVn]
    exact ⟨h3.1.below (Below.refl _ _).drew, h3.2.drew⟩)
  rw [← hVn]
  clear hVn m0 m1 r0 r1 e0 e1 e2 e3 e4 e5 e6 e7
  have HX10 := Lib.hid (HX9.out.frg H10.out.2)
  have HFR10 : Hid (FrG [120] Q w V10) := Lib.hid (HFR9.out.trans H10.out.2 (fun _ h => .inl h))
  clear y0 y1 y2 y3 y4 y5 k0 k1
  obtain ⟨y0, y1, y2, y3, y4, y5⟩ := HX10.out.cells
  simp at y4 y5
  have m0 : V10.cell? ⟨nbp, 10, none⟩ = some (.int .u32 ((updH (updH (updH (updH (toH X.F) i 0 (us, ug)) i 3 (0, 0)) i 4 (0, 0)) u 1 (si, gi)) u 2).1) := cell_blk (HP.out V10 _ H10.out.1) 10 rfl
  have r0 := free_blk (HP.out V10 _ H10.out.1) 10
  have m1 : V10.cell? ⟨nbp, 11, none⟩ = some (.int .u32 ((updH (updH (updH (updH (toH X.F) i 0 (us, ug)) i 3 (0, 0)) i 4 (0, 0)) u 1 (si, gi)) u 2).2) := cell_blk (HP.out V10 _ H10.out.1) 11 rfl
  have r1 := free_blk (HP.out V10 _ H10.out.1) 11
  have e0 : nbp ≠ w.heap.size := by omega
  have e1 : nbp ≠ w.heap.size + 1 := by omega
  have e2 : nbp ≠ w.heap.size + 2 := by omega
  have e3 : nbp ≠ bx := by omega
  have e4 := Ne.symm e0
  have e5 := Ne.symm e1
  have e6 := Ne.symm e2
  have e7 := Ne.symm e3
  go_wp2_with fail
  go_region
  obtain ⟨V11, hVn⟩ : ∃ U, U = ((V10.setCell ⟨nbp, 10, none⟩ (.int .u32 (si : Int))).setCell ⟨nbp, 11, none⟩ (.int .u32 (gi : Int))).drew := ⟨_, rfl⟩
  have H11 : Hid (TreeRw B Q V11 tb X (updH (updH (updH (updH (updH (toH X.F) i 0 (us, ug)) i 3 (0, 0)) i 4 (0, 0)) u 1 (si, gi)) u 2 (si, gi)) ∧ FrG [120] Q V10 V11) := Lib.hid (by
    have h3 := H10.out.1.setQ HU.out HMU.out 2 (by decide) si gi
    rw [hVn]
    exact ⟨h3.1.below (Below.refl _ _).drew, h3.2.drew⟩)
  rw [← hVn]
  clear hVn m0 m1 r0 r1 e0 e1 e2 e3 e4 e5 e6 e7
  go_wp2_with fail
  go_ret
  exact ⟨rfl, HFIN.out V11 (by rw [HEND.out]; exact H11.out.1), HFR10.out.trans H11.out.2 (fun _ h => .inl h)⟩
set_option maxHeartbeats 8000000 in
theorem link_01 (h : TreeAt B Q w tb X) {u i : Nat} {xu xi : FN} (hu : X.F[u]? = some xu) (hul : xu.live = true) (hi : X.F[i]? = some xi) (hil : xi.live = true) (hir : xi.up = none)
    {c : List Nat} (hc : Chain X.F u c) (hni : i ∉ c) {l1 l2 : List Nat} (hl : xu.down = l1 ++ l2) (hf : l1 = []) {b bs bg : Nat} (hb : l2.head? = some b) (hbe : hd X.F (some b) = (bs, bg)) :
    Calls Tryd.prog 71 #[.pointer (some ⟨tb, 0, none⟩), .agg #[.int .u32 (xu.sl : Int), .int .u32 (xu.gn : Int)], .agg #[.int .u32 (xi.sl : Int), .int .u32 (xi.gn : Int)], .agg #[.int .u32 (bs : Int), .int .u32 (bg : Int)]] w fun e w' =>
      e = .returned (.int .i64 0) ∧ TreeAt B Q w' tb { X with F := hng X.F i u l1.length } ∧ FrG [120] Q w w' := by
  have HT := Lib.hid h
  have HFIN : Hid (∀ W, TreeRw B Q W tb X (linkH (toH X.F) i u l1.getLast? l2.head? (hd X.F (some u)) (hd X.F (some i)) (hd X.F l1.getLast?) (hd X.F l2.head?)) → TreeAt B Q W tb { X with F := hng X.F i u l1.length }) := Lib.hid (fun W hW => hW.linked h.fok hu hul hi hil hir hc hni hl)
  have hbu : upOf X.F b = some u ∧ ∃ xb : FN, X.F[b]? = some xb ∧ xb.live = true := by
    obtain ⟨xb, h1, h2, h3⟩ := h.fok.dn u xu hu b (by rw [hl]; exact List.mem_append_right _ (List.mem_of_head? hb))
    exact ⟨by unfold upOf; rw [h1]; exact h2, xb, h1, h3⟩
  obtain ⟨hbu, xb, hxb, hxbl⟩ := hbu
  have hba : toH X.F b 3 = hd X.F l1.getLast? := by
    obtain ⟨t, ht⟩ : ∃ t, l2 = b :: t := by cases l2 with
      | nil => cases hb
      | cons y t => simp at hb; exact ⟨t, by rw [hb]⟩
    have hnd := h.fok.nd u xu hu
    unfold toH
    show hd X.F (prevOf (dnOf X.F (upOf X.F b)) b) = _
    rw [hbu]
    have : dnOf X.F (some u) = l1 ++ b :: t := by unfold dnOf; simp [hu, hl, ht]
    rw [this, prev_split]
    intro hm
    rw [hl, ht] at hnd
    exact (List.nodup_append.1 hnd).2.2 b hm b (by simp) rfl
  obtain ⟨nbp, Pp, hmp, _⟩ := h.rw.at_live hu hul
  obtain ⟨nbc, Pc, hmc, _⟩ := h.rw.at_live hi hil
  have hnp := (h.rw.node u xu nbp Pp hu hul hmp).2.2.1
  have hnc := (h.rw.node i xi nbc Pc hi hil hmc).2.2.1
  obtain ⟨nbb, Pb, hmb, _, hbsl, _⟩ := h.rw.at_live hxb hxbl
  have hnb := (h.rw.node b xb nbb Pb hxb hxbl hmb).2.2.1
  rw [hd_some hxb] at hbe
  simp only [Prod.mk.injEq] at hbe
  obtain ⟨rfl, rfl⟩ := hbe
  have HMU := Lib.hid hmp
  have HMI := Lib.hid hmc
  have HU := Lib.hid (And.intro hu hul)
  have HI := Lib.hid (And.intro hi hil)
  have HP : Hid (∀ (W : World) L, TreeRw B Q W tb X L → W.heap[nbp]? = some (.cells (ncells Pp (L u) (u + 1)) 120 (0, 0))) := Lib.hid (fun W L hW => (hW.node u xu nbp Pp hu hul hmp).2.2.1)
  have HC : Hid (∀ (W : World) L, TreeRw B Q W tb X L → W.heap[nbc]? = some (.cells (ncells Pc (L i) (i + 1)) 120 (0, 0))) := Lib.hid (fun W L hW => (hW.node i xi nbc Pc hi hil hmc).2.2.1)
  have HQ : Hid (Q nbp ∧ Q nbc) := Lib.hid ⟨(h.rw.node u xu nbp Pp hu hul hmp).2.1, (h.rw.node i xi nbc Pc hi hil hmc).2.1⟩
  have HGp : Hid (∀ W, Below w.heap.size w W → Calls Tryd.prog 76 #[.pointer (some ⟨X.ab, 0, none⟩), .agg #[.int .u32 (xu.sl : Int), .int .u32 (xu.gn : Int)]] W fun e w' => e = .returned (.tuple #[.pointer (some ⟨nbp, 0, none⟩), .int .i64 0]) ∧ Below W.heap.size W w') := Lib.hid (fun W bb => (h.rw.below bb).get_live hu hul hmp)
  have HGc : Hid (∀ W, Below w.heap.size w W → Calls Tryd.prog 76 #[.pointer (some ⟨X.ab, 0, none⟩), .agg #[.int .u32 (xi.sl : Int), .int .u32 (xi.gn : Int)]] W fun e w' => e = .returned (.tuple #[.pointer (some ⟨nbc, 0, none⟩), .int .i64 0]) ∧ Below W.heap.size W w') := Lib.hid (fun W bb => (h.rw.below bb).get_live hi hil hmc)
  have HWI : Hid (∀ W, Below w.heap.size w W → Calls Tryd.prog 101 #[.pointer (some ⟨tb, 0, none⟩), .agg #[.int .u32 (xu.sl : Int), .int .u32 (xu.gn : Int)], .agg #[.int .u32 (xi.sl : Int), .int .u32 (xi.gn : Int)]] W fun e w' => e = .returned (.bool false) ∧ Below W.heap.size W w') := Lib.hid (fun W bb => by
    have := within_calls (h.below bb) hu hul hi hil hc
    rw [decide_eq_false hni] at this
    exact this)
  have h20 : toH X.F i 0 = (0, 0) := by unfold toH; show hd X.F (upOf X.F i) = _; unfold upOf; rw [hi]; show hd X.F xi.up = _; rw [hir]; rfl
  have hb0 : toH X.F b 0 = (xu.sl, xu.gn) := by unfold toH; show hd X.F (upOf X.F b) = _; rw [hbu]; exact hd_some hu
  have HB : Hid (∀ (W : World) L, TreeRw B Q W tb X L → W.heap[nbb]? = some (.cells (ncells Pb (L b) (b + 1)) 120 (0, 0))) := Lib.hid (fun W L hW => (hW.node b xb nbb Pb hxb hxbl hmb).2.2.1)
  have HGb : Hid (∀ W, Below w.heap.size w W → Calls Tryd.prog 76 #[.pointer (some ⟨X.ab, 0, none⟩), .agg #[.int .u32 (xb.sl : Int), .int .u32 (xb.gn : Int)]] W fun e w' => e = .returned (.tuple #[.pointer (some ⟨nbb, 0, none⟩), .int .i64 0]) ∧ Below W.heap.size W w') := Lib.hid (fun W bb => (h.rw.below bb).get_live hxb hxbl hmb)
  have HFb : Hid (∀ W, Below w.heap.size w W → Calls Tryd.prog 90 #[.pointer (some ⟨tb, 0, none⟩), .agg #[.int .u32 (xb.sl : Int), .int .u32 (xb.gn : Int)], .int .i64 0] W fun e w' => e = .returned (.tuple #[.agg #[.int .u32 (xu.sl : Int), .int .u32 (xu.gn : Int)], .int .i64 0]) ∧ Below W.heap.size W w') := Lib.hid (fun W bb => by
    have := follow_live (h.rw.below bb) hxb hxbl 0 (by decide)
    rw [hb0] at this
    exact this)
  have HSb : Hid (∀ (W : World) L, TreeRw B Q W tb X L → ∀ p q : Nat, Calls Tryd.prog 102 #[.pointer (some ⟨tb, 0, none⟩), .agg #[.int .u32 (xb.sl : Int), .int .u32 (xb.gn : Int)], .int .i64 3, .agg #[.int .u32 (p : Int), .int .u32 (q : Int)]] W fun e w' => e = .returned (.tuple #[]) ∧ TreeRw B Q w' tb X (updH L b 3 (p, q)) ∧ FrG [120] Q W w') := Lib.hid (fun W L hW p q => set_live hW hxb hxbl 3 (by decide) p q)
  obtain ⟨ls, lg, hlast⟩ : ∃ ls lg : Nat, toH X.F u 2 = (ls, lg) := ⟨_, _, rfl⟩
  have hfront : toH X.F b 3 = (0, 0) := by rw [hba, hf]; rfl -- ]
  have HEND : Hid (linkH (toH X.F) i u l1.getLast? l2.head? (hd X.F (some u)) (hd X.F (some i)) (hd X.F l1.getLast?) (hd X.F l2.head?) = updH (updH (updH (updH (updH (toH X.F) i 0 (xu.sl, xu.gn)) i 3 (0, 0)) i 4 (xb.sl, xb.gn)) u 1 (xi.sl, xi.gn)) b 3 (xi.sl, xi.gn)) := Lib.hid (by
    rw [hf, hb, hd_some hu, hd_some hi, hd_some hxb]; rfl)
  have q0 : hEq (xb.sl : Int) (xb.gn : Int) 0 0 = false := hEq_false (.inl (by omega))
  have qz : hEq 0 0 0 0 = true := hEq_true rfl rfl
  have qu : hEq (xu.sl : Int) (xu.gn : Int) (xu.sl : Int) (xu.gn : Int) = true := hEq_true rfl rfl
  have hpc : nbp ≠ nbc := by rintro rfl; have := h.rw.nb_inj hmp hmc; subst this; obtain ⟨t, ht⟩ := hc.ne_nil; exact hni (by rw [ht]; simp)
  have c0 := cell_blk h.rw.blk 0 rfl
  have ltb := lt_of_some h.rw.blk
  have lnp := lt_of_some hnp
  have lnc := lt_of_some hnc
  simp at c0
  have n20 : toH X.F i 0 = (0, 0) := h20
  have HLT := Lib.hid (And.intro hlast (And.intro n20 hfront))
  clear hlast n20 hfront h hu hul hi hil hir hc hni hl hf hmp hmc hnp hnc h20 hb hbu hxb hxbl hba hmb hbsl hnb hb0
  generalize xu.sl = us at *
  generalize xu.gn = ug at *
  generalize xi.sl = si at *
  generalize xi.gn = gi at *
  generalize xb.sl = bs at *
  generalize xb.gn = bg at *
  obtain ⟨V, hV⟩ : ∃ V, V = ((w.alloc (.cells #[.int .u32 (us : Int), .int .u32 (ug : Int)] 31)).alloc (.cells #[.int .u32 (si : Int), .int .u32 (gi : Int)] 31)).alloc (.cells #[.int .u32 (bs : Int), .int .u32 (bg : Int)] 31) := ⟨_, rfl⟩
  have bV : Below w.heap.size w V := by rw [hV]; exact (by repeat (first | exact Below.refl _ _ | assumption | refine Below.drew ?_ | refine below_drewN ?_ _ | refine Below.alloc ?_ (by simp <;> omega) _ | refine Below.setCell ?_ (by simp <;> omega) _ | (apply bl_trans; assumption; (simp <;> omega))))
  have hx : LBx3 V w.heap.size (us, ug) (si, gi) (bs, bg) := by rw [hV]; exact lbx3_alloc w us ug si gi bs bg
  have HX := Lib.hid (And.intro hx bV)
  have HSW : Hid (∀ W, Below V.heap.size V W → (W.cell? ⟨tb, 0, none⟩ = some (.pointer (some ⟨X.ab, 0, none⟩)) ∧ W.cell? ⟨w.heap.size, 0, none⟩ = some (.int .u32 (us : Int)) ∧ W.cell? ⟨w.heap.size, 1, none⟩ = some (.int .u32 (ug : Int)) ∧ W.cell? ⟨w.heap.size + 1, 0, none⟩ = some (.int .u32 (si : Int)) ∧ W.cell? ⟨w.heap.size + 1, 1, none⟩ = some (.int .u32 (gi : Int)) ∧ W.cell? ⟨w.heap.size + 2, 0, none⟩ = some (.int .u32 (bs : Int)) ∧ W.cell? ⟨w.heap.size + 2, 1, none⟩ = some (.int .u32 (bg : Int))) ∧ Below w.heap.size w W ∧ LBx3 W w.heap.size (us, ug) (si, gi) (bs, bg)) := Lib.hid (fun W bb => by
    obtain ⟨y0, y1, y2, y3, y4, y5⟩ := (HX.out.1.below bb).cells
    exact ⟨⟨((HX.out.2.trans (bb.mono HX.out.2.size)).cell (p := ⟨tb, 0, none⟩) ltb).trans c0, y0, y1, y2, y3, y4, y5⟩, HX.out.2.trans (bb.mono HX.out.2.size), HX.out.1.below bb⟩)
  have HD0 : Hid (Below V.heap.size V V.drew) := Lib.hid (Below.refl _ _).drew
  have hV2 := hV
  clear hV hx bV
  go_enter Tryd.func71, Tryd.ntmps71
  go_wp2_with fail
  rw [← hV2]
  clear hV2
  go_region_held3 (fun W => (W.cell? ⟨tb, 0, none⟩ = some (.pointer (some ⟨X.ab, 0, none⟩)) ∧ W.cell? ⟨w.heap.size, 0, none⟩ = some (.int .u32 (us : Int)) ∧ W.cell? ⟨w.heap.size, 1, none⟩ = some (.int .u32 (ug : Int)) ∧ W.cell? ⟨w.heap.size + 1, 0, none⟩ = some (.int .u32 (si : Int)) ∧ W.cell? ⟨w.heap.size + 1, 1, none⟩ = some (.int .u32 (gi : Int)) ∧ W.cell? ⟨w.heap.size + 2, 0, none⟩ = some (.int .u32 (bs : Int)) ∧ W.cell? ⟨w.heap.size + 2, 1, none⟩ = some (.int .u32 (bg : Int)))) (first | exact (HSW.out _ HD0.out).1 | exact (HSW.out _ HB1.out).1) (first | (go_at_call 76; refine (HGp.out _ (HSW.out _ HD0.out).2.1).mono ?_; rintro e w1 ⟨rfl, b1⟩; have HB1 := Lib.hid (HD0.out.trans (b1.mono HD0.out.size))))
  clear b1
  have HD1 : Hid (Below V.heap.size V w1.drew) := Lib.hid HB1.out.drew
  go_wp2_with fail
  go_region_held3 (fun W => (W.cell? ⟨tb, 0, none⟩ = some (.pointer (some ⟨X.ab, 0, none⟩)) ∧ W.cell? ⟨w.heap.size, 0, none⟩ = some (.int .u32 (us : Int)) ∧ W.cell? ⟨w.heap.size, 1, none⟩ = some (.int .u32 (ug : Int)) ∧ W.cell? ⟨w.heap.size + 1, 0, none⟩ = some (.int .u32 (si : Int)) ∧ W.cell? ⟨w.heap.size + 1, 1, none⟩ = some (.int .u32 (gi : Int)) ∧ W.cell? ⟨w.heap.size + 2, 0, none⟩ = some (.int .u32 (bs : Int)) ∧ W.cell? ⟨w.heap.size + 2, 1, none⟩ = some (.int .u32 (bg : Int)))) (first | exact (HSW.out _ HD1.out).1 | exact (HSW.out _ HB2.out).1) (first | (go_at_call 76; refine (HGc.out _ (HSW.out _ HD1.out).2.1).mono ?_; rintro e w2 ⟨rfl, b1⟩; have HB2 := Lib.hid (HD1.out.trans (b1.mono HD1.out.size))))
  clear b1 HD0 HD1 HB1
  obtain ⟨d0, y0, y1, y2, y3, y4, y5⟩ := (HSW.out _ HB2.out).1
  have n0 : w2.cell? ⟨nbp, 10, none⟩ = some (.int .u32 ((toH X.F u 2).1 : Int)) := cell_blk (HP.out w2 _ (HT.out.rw.below (HSW.out _ HB2.out).2.1)) 10 rfl
  have n1 : w2.cell? ⟨nbp, 11, none⟩ = some (.int .u32 ((toH X.F u 2).2 : Int)) := cell_blk (HP.out w2 _ (HT.out.rw.below (HSW.out _ HB2.out).2.1)) 11 rfl
  rw [HLT.out.1] at n0 n1
  simp at n0 n1
  have lz2 : w.heap.size + 2 < w2.heap.size := lt_of_some (HSW.out _ HB2.out).2.2.x2
  go_wp2_with fail
  obtain ⟨V3, hV3⟩ : ∃ U, U = w2.alloc (.cells #[.int .u32 (ls : Int), .int .u32 (lg : Int)] 31) := ⟨_, rfl⟩
  rw [← hV3]
  obtain ⟨bx, hbx⟩ : ∃ z, z = w2.heap.size := ⟨_, rfl⟩
  have hfx : V3.heap[bx]? = some (.cells #[.int .u32 (ls : Int), .int .u32 (lg : Int)] 31 (0, 0)) := by rw [hV3, hbx]; exact Go.heap_alloc_new w2 _
  have HB3 : Hid (Below V.heap.size V V3) := Lib.hid (by rw [hV3]; exact HB2.out.alloc HB2.out.size _)
  have lbx : V.heap.size ≤ bx := by rw [hbx]; exact HB2.out.size
  have lzx : w.heap.size + 2 < bx := by rw [hbx]; exact lz2
  rw [← hbx]
  have HFX := Lib.hid hfx
  clear hV3 hbx lz2 HB2 hfx n0 n1 d0 y0 y1 y2 y3 y4 y5
  have HD3 : Hid (Below V.heap.size V V3.drew) := Lib.hid HB3.out.drew
  go_region_held3 (fun W => (W.cell? ⟨tb, 0, none⟩ = some (.pointer (some ⟨X.ab, 0, none⟩)) ∧ W.cell? ⟨w.heap.size, 0, none⟩ = some (.int .u32 (us : Int)) ∧ W.cell? ⟨w.heap.size, 1, none⟩ = some (.int .u32 (ug : Int)) ∧ W.cell? ⟨w.heap.size + 1, 0, none⟩ = some (.int .u32 (si : Int)) ∧ W.cell? ⟨w.heap.size + 1, 1, none⟩ = some (.int .u32 (gi : Int)) ∧ W.cell? ⟨w.heap.size + 2, 0, none⟩ = some (.int .u32 (bs : Int)) ∧ W.cell? ⟨w.heap.size + 2, 1, none⟩ = some (.int .u32 (bg : Int)))) (first | exact (HSW.out _ HD3.out).1 | exact (HSW.out _ HB4.out).1) (first | (go_at_call 76; refine (HGb.out _ (HSW.out _ HD3.out).2.1).mono ?_; rintro e w3 ⟨rfl, b1⟩; have HB4 := Lib.hid (HD3.out.trans (b1.mono HD3.out.size)); have HFX4 := Lib.hid ((b1.block _ (lt_of_some HFX.out)).trans HFX.out)))
  clear b1 HD3 HB3 HFX
  obtain ⟨d0, y0, y1, y2, y3, y4, y5⟩ := (HSW.out _ HB4.out).1
  have n0 : w3.cell? ⟨nbb, 12, none⟩ = some (.int .u32 ((toH X.F b 3).1 : Int)) := cell_blk (HB.out w3 _ (HT.out.rw.below (HSW.out _ HB4.out).2.1)) 12 rfl
  have n1 : w3.cell? ⟨nbb, 13, none⟩ = some (.int .u32 ((toH X.F b 3).2 : Int)) := cell_blk (HB.out w3 _ (HT.out.rw.below (HSW.out _ HB4.out).2.1)) 13 rfl
  rw [HLT.out.2.2] at n0 n1
  simp at n0 n1
  have g0 := cell_blk HFX4.out 0 rfl
  have g1 := cell_blk HFX4.out 1 rfl
  have f0 := free_blk HFX4.out 0
  have f1 := free_blk HFX4.out 1
  have ne1 : w.heap.size + 2 ≠ bx := by omega
  have ne2 : nbb ≠ bx := ne_blk (HB.out w3 _ (HT.out.rw.below (HSW.out _ HB4.out).2.1)) HFX4.out (by decide)
  simp at g0 g1
  go_wp2_with fail
  obtain ⟨V4, hV4⟩ : ∃ U, U = (w3.setCell ⟨bx, 0, none⟩ (.int .u32 0)).setCell ⟨bx, 1, none⟩ (.int .u32 0) := ⟨_, rfl⟩
  rw [← hV4]
  have HFX5 : Hid (V4.heap[bx]? = some (.cells #[.int .u32 0, .int .u32 0] 31 (0, 0))) := Lib.hid (by rw [hV4]; exact set_blk (set_blk HFX4.out 0 _) 1 _)
  have HB5 : Hid (Below V.heap.size V V4) := Lib.hid (by rw [hV4]; exact (HB4.out.setCell lbx _).setCell lbx _)
  clear hV4 HFX4 HB4 g0 g1 f0 f1 n0 n1 d0 y0 y1 y2 y3 y4 y5
  refine (HFb.out _ (HSW.out _ HB5.out).2.1).mono ?_
  rintro e w4 ⟨rfl, b4⟩
  have HB6 := Lib.hid (HB5.out.trans (b4.mono HB5.out.size))
  have HFX6 := Lib.hid ((b4.block _ (lt_of_some HFX5.out)).trans HFX5.out)
  clear b4 HB5 HFX5
  obtain ⟨d0, y0, y1, y2, y3, y4, y5⟩ := (HSW.out _ HB6.out).1
  have lz4 : bx < w4.heap.size := lt_of_some HFX6.out
  have l4a : w.heap.size < w4.heap.size := by omega
  have l4b : w.heap.size + 1 < w4.heap.size := by omega
  have l4c : w.heap.size + 2 < w4.heap.size := by omega
  go_wp2_with fail
  obtain ⟨V5, hV5⟩ : ∃ U, U = w4.alloc (.cells #[.int .u32 (us : Int), .int .u32 (ug : Int)] 31) := ⟨_, rfl⟩
  rw [← hV5]
  obtain ⟨ub, hub⟩ : ∃ z, z = w4.heap.size := ⟨_, rfl⟩
  have HUX : Hid (V5.heap[ub]? = some (.cells #[.int .u32 (us : Int), .int .u32 (ug : Int)] 31 (0, 0))) := Lib.hid (by rw [hV5, hub]; exact Go.heap_alloc_new w4 _)
  have HB7 : Hid (Below V.heap.size V V5) := Lib.hid (by rw [hV5]; exact HB6.out.alloc HB6.out.size _)
  have HFX7 : Hid (V5.heap[bx]? = some (.cells #[.int .u32 0, .int .u32 0] 31 (0, 0))) := Lib.hid (by rw [hV5]; exact alloc_blk HFX6.out _)
  rw [← hub]
  clear hV5 hub lz4 l4a l4b l4c HB6 HFX6 d0 y0 y1 y2 y3 y4 y5
  refine (HWI.out _ (HSW.out _ HB7.out).2.1).mono ?_
  rintro e w5 ⟨rfl, b5⟩
  have HB8 := Lib.hid (HB7.out.trans (b5.mono HB7.out.size))
  have HFX8 := Lib.hid ((b5.block _ (lt_of_some HFX7.out)).trans HFX7.out)
  have HUX8 := Lib.hid ((b5.block _ (lt_of_some HUX.out)).trans HUX.out)
  clear b5 HB7 HFX7 HUX
  obtain ⟨d0, y0, y1, y2, y3, y4, y5⟩ := (HSW.out _ HB8.out).1
  have HT8 := Lib.hid (HT.out.rw.below (HSW.out _ HB8.out).2.1)
  have n0 : w5.cell? ⟨nbc, 6, none⟩ = some (.int .u32 ((toH X.F i 0).1 : Int)) := cell_blk (HC.out w5 _ HT8.out) 6 rfl
  have n1 : w5.cell? ⟨nbc, 7, none⟩ = some (.int .u32 ((toH X.F i 0).2 : Int)) := cell_blk (HC.out w5 _ HT8.out) 7 rfl
  rw [HLT.out.2.1] at n0 n1
  simp at n0 n1
  have g0 := cell_blk HUX8.out 0 rfl
  have g1 := cell_blk HUX8.out 1 rfl
  have k0 := cell_blk HFX8.out 0 rfl
  have k1 := cell_blk HFX8.out 1 rfl
  simp at g0 g1 k0 k1
  go_wp2_with fail
  clear n0 n1 g0 g1 k0 k1
  have m6 : w5.cell? ⟨nbc, 6, none⟩ = some (.int .u32 ((toH X.F i 0).1 : Int)) := cell_blk (HC.out w5 _ HT8.out) 6 rfl
  have r6 := free_blk (HC.out w5 _ HT8.out) 6
  have m7 : w5.cell? ⟨nbc, 7, none⟩ = some (.int .u32 ((toH X.F i 0).2 : Int)) := cell_blk (HC.out w5 _ HT8.out) 7 rfl
  have r7 := free_blk (HC.out w5 _ HT8.out) 7
  have m12 : w5.cell? ⟨nbc, 12, none⟩ = some (.int .u32 ((toH X.F i 3).1 : Int)) := cell_blk (HC.out w5 _ HT8.out) 12 rfl
  have r12 := free_blk (HC.out w5 _ HT8.out) 12
  have m13 : w5.cell? ⟨nbc, 13, none⟩ = some (.int .u32 ((toH X.F i 3).2 : Int)) := cell_blk (HC.out w5 _ HT8.out) 13 rfl
  have r13 := free_blk (HC.out w5 _ HT8.out) 13
  have m14 : w5.cell? ⟨nbc, 14, none⟩ = some (.int .u32 ((toH X.F i 4).1 : Int)) := cell_blk (HC.out w5 _ HT8.out) 14 rfl
  have r14 := free_blk (HC.out w5 _ HT8.out) 14
  have m15 : w5.cell? ⟨nbc, 15, none⟩ = some (.int .u32 ((toH X.F i 4).2 : Int)) := cell_blk (HC.out w5 _ HT8.out) 15 rfl
  have r15 := free_blk (HC.out w5 _ HT8.out) 15
  have k0 := cell_blk HFX8.out 0 rfl
  have k1 := cell_blk HFX8.out 1 rfl
  simp at k0 k1
  have e0 : nbc ≠ w.heap.size := by omega
  have e1 : nbc ≠ w.heap.size + 1 := by omega
  have e2 : nbc ≠ w.heap.size + 2 := by omega
  have e3 : nbc ≠ bx := by omega
  have e4 := Ne.symm e0
  have e5 := Ne.symm e1
  have e6 := Ne.symm e2
  have e7 := Ne.symm e3
  go_region
  clear m6 m7 m12 m13 m14 m15 r6 r7 r12 r13 r14 r15 k0 k1 e0 e1 e2 e3 e4 e5 e6 e7 d0 y0 y1 y2 y3 y4 y5
  obtain ⟨V9, hV9⟩ : ∃ U, U = ((((((w5.setCell ⟨nbc, 6, none⟩ (.int .u32 (us : Int))).setCell ⟨nbc, 7, none⟩ (.int .u32 (ug : Int))).setCell ⟨nbc, 12, none⟩ (.int .u32 0)).setCell ⟨nbc, 13, none⟩ (.int .u32 0)).setCell ⟨nbc, 14, none⟩ (.int .u32 (bs : Int))).setCell ⟨nbc, 15, none⟩ (.int .u32 (bg : Int))).drew := ⟨_, rfl⟩
  have H9 : Hid (TreeRw B Q V9 tb X (updH (updH (updH (toH X.F) i 0 (us, ug)) i 3 (0, 0)) i 4 (bs, bg)) ∧ FrG [120] Q w5 V9) := Lib.hid (by
    have h3 := HT8.out.set3 HI.out HMI.out us ug 0 0 bs bg
    rw [hV9]
    exact ⟨h3.1.below (Below.refl _ _).drew, h3.2.drew⟩)
  rw [← hV9]
  have HX9 := Lib.hid ((HSW.out _ HB8.out).2.2.frg H9.out.2)
  have HFX9 := Lib.hid (H9.out.2.blk HFX8.out (by decide))
  have HLOW : Hid (Below w.heap.size w w5) := Lib.hid (HSW.out _ HB8.out).2.1
  have HFR9 : Hid (FrG [120] Q w V9) := Lib.hid ((FrG.of_below HLOW.out : FrG [120] Q w w5).trans H9.out.2 (fun _ h => .inl h))
  clear hV9 HUX8 HSW
  obtain ⟨y0, y1, y2, y3, y4, y5⟩ := HX9.out.cells
  have k0 := cell_blk HFX9.out 0 rfl
  have k1 := cell_blk HFX9.out 1 rfl
  simp at k0 k1
  have m0 : V9.cell? ⟨nbp, 8, none⟩ = some (.int .u32 ((updH (updH (updH (toH X.F) i 0 (us, ug)) i 3 (0, 0)) i 4 (bs, bg)) u 1).1) := cell_blk (HP.out V9 _ H9.out.1) 8 rfl
  have r0 := free_blk (HP.out V9 _ H9.out.1) 8
  have m1 : V9.cell? ⟨nbp, 9, none⟩ = some (.int .u32 ((updH (updH (updH (toH X.F) i 0 (us, ug)) i 3 (0, 0)) i 4 (bs, bg)) u 1).2) := cell_blk (HP.out V9 _ H9.out.1) 9 rfl
  have r1 := free_blk (HP.out V9 _ H9.out.1) 9
  have e0 : nbp ≠ w.heap.size := by omega
  have e1 : nbp ≠ w.heap.size + 1 := by omega
  have e2 : nbp ≠ w.heap.size + 2 := by omega
  have e3 : nbp ≠ bx := by omega
  have e4 := Ne.symm e0
  have e5 := Ne.symm e1
  have e6 := Ne.symm e2
  have e7 := Ne.symm e3
  go_wp2_with fail
  go_region
  obtain ⟨V10, hVn⟩ : ∃ U, U = ((V9.setCell ⟨nbp, 8, none⟩ (.int .u32 (si : Int))).setCell ⟨nbp, 9, none⟩ (.int .u32 (gi : Int))).drew := ⟨_, rfl⟩
  have H10 : Hid (TreeRw B Q V10 tb X (updH (updH (updH (updH (toH X.F) i 0 (us, ug)) i 3 (0, 0)) i 4 (bs, bg)) u 1 (si, gi)) ∧ FrG [120] Q V9 V10) := Lib.hid (by
    have h3 := H9.out.1.setQ HU.out HMU.out 1 (by decide) si gi
    rw [hVn]
    exact ⟨h3.1.below (Below.refl _ _).drew, h3.2.drew⟩)
  rw [← hVn]
  clear hVn m0 m1 r0 r1 e0 e1 e2 e3 e4 e5 e6 e7
  have HX10 := Lib.hid (HX9.out.frg H10.out.2)
  have HFR10 : Hid (FrG [120] Q w V10) := Lib.hid (HFR9.out.trans H10.out.2 (fun _ h => .inl h))
  clear y0 y1 y2 y3 y4 y5 k0 k1
  obtain ⟨y0, y1, y2, y3, y4, y5⟩ := HX10.out.cells
  go_wp2_with fail
  refine (HSb.out V10 _ H10.out.1 si gi).mono ?_
  rintro e V11 ⟨rfl, h11, f11⟩
  have H11 := Lib.hid (And.intro h11 f11)
  clear h11 f11
  go_wp2_with fail
  go_ret
  exact ⟨rfl, HFIN.out V11 (by rw [HEND.out]; exact H11.out.1), HFR10.out.trans H11.out.2 (fun _ h => .inl h)⟩
set_option maxHeartbeats 8000000 in
theorem link_10 (h : TreeAt B Q w tb X) {u i : Nat} {xu xi : FN} (hu : X.F[u]? = some xu) (hul : xu.live = true) (hi : X.F[i]? = some xi) (hil : xi.live = true) (hir : xi.up = none)
    {c : List Nat} (hc : Chain X.F u c) (hni : i ∉ c) {l1 l2 : List Nat} (hl : xu.down = l1 ++ l2) {f fs fg : Nat} (hf : l1.getLast? = some f) (hfe : hd X.F (some f) = (fs, fg)) (hb : l2 = []) :
    Calls Tryd.prog 71 #[.pointer (some ⟨tb, 0, none⟩), .agg #[.int .u32 (xu.sl : Int), .int .u32 (xu.gn : Int)], .agg #[.int .u32 (xi.sl : Int), .int .u32 (xi.gn : Int)], .agg #[.int .u32 0, .int .u32 0]] w fun e w' =>
      e = .returned (.int .i64 0) ∧ TreeAt B Q w' tb { X with F := hng X.F i u l1.length } ∧ FrG [120] Q w w' := by
  have HT := Lib.hid h
  have HFIN : Hid (∀ W, TreeRw B Q W tb X (linkH (toH X.F) i u l1.getLast? l2.head? (hd X.F (some u)) (hd X.F (some i)) (hd X.F l1.getLast?) (hd X.F l2.head?)) → TreeAt B Q W tb { X with F := hng X.F i u l1.length }) := Lib.hid (fun W hW => hW.linked h.fok hu hul hi hil hir hc hni hl)
  have hfu : upOf X.F f = some u ∧ ∃ xf : FN, X.F[f]? = some xf ∧ xf.live = true := by
    obtain ⟨xf, h1, h2, h3⟩ := h.fok.dn u xu hu f (by rw [hl]; exact List.mem_append_left _ (List.mem_of_getLast? hf))
    exact ⟨by unfold upOf; rw [h1]; exact h2, xf, h1, h3⟩
  obtain ⟨hfu, xf, hxf, hxfl⟩ := hfu
  obtain ⟨nbp, Pp, hmp, _⟩ := h.rw.at_live hu hul
  obtain ⟨nbc, Pc, hmc, _⟩ := h.rw.at_live hi hil
  have hnp := (h.rw.node u xu nbp Pp hu hul hmp).2.2.1
  have hnc := (h.rw.node i xi nbc Pc hi hil hmc).2.2.1
  rw [hd_some hxf] at hfe
  simp only [Prod.mk.injEq] at hfe
  obtain ⟨rfl, rfl⟩ := hfe
  obtain ⟨nbf, Pf, hmf, _, hfsl, _⟩ := h.rw.at_live hxf hxfl
  have HMU := Lib.hid hmp
  have HMI := Lib.hid hmc
  have HU := Lib.hid (And.intro hu hul)
  have HI := Lib.hid (And.intro hi hil)
  have HP : Hid (∀ (W : World) L, TreeRw B Q W tb X L → W.heap[nbp]? = some (.cells (ncells Pp (L u) (u + 1)) 120 (0, 0))) := Lib.hid (fun W L hW => (hW.node u xu nbp Pp hu hul hmp).2.2.1)
  have HC : Hid (∀ (W : World) L, TreeRw B Q W tb X L → W.heap[nbc]? = some (.cells (ncells Pc (L i) (i + 1)) 120 (0, 0))) := Lib.hid (fun W L hW => (hW.node i xi nbc Pc hi hil hmc).2.2.1)
  have HQ : Hid (Q nbp ∧ Q nbc) := Lib.hid ⟨(h.rw.node u xu nbp Pp hu hul hmp).2.1, (h.rw.node i xi nbc Pc hi hil hmc).2.1⟩
  have HGp : Hid (∀ W, Below w.heap.size w W → Calls Tryd.prog 76 #[.pointer (some ⟨X.ab, 0, none⟩), .agg #[.int .u32 (xu.sl : Int), .int .u32 (xu.gn : Int)]] W fun e w' => e = .returned (.tuple #[.pointer (some ⟨nbp, 0, none⟩), .int .i64 0]) ∧ Below W.heap.size W w') := Lib.hid (fun W bb => (h.rw.below bb).get_live hu hul hmp)
  have HGc : Hid (∀ W, Below w.heap.size w W → Calls Tryd.prog 76 #[.pointer (some ⟨X.ab, 0, none⟩), .agg #[.int .u32 (xi.sl : Int), .int .u32 (xi.gn : Int)]] W fun e w' => e = .returned (.tuple #[.pointer (some ⟨nbc, 0, none⟩), .int .i64 0]) ∧ Below W.heap.size W w') := Lib.hid (fun W bb => (h.rw.below bb).get_live hi hil hmc)
  have HWI : Hid (∀ W, Below w.heap.size w W → Calls Tryd.prog 101 #[.pointer (some ⟨tb, 0, none⟩), .agg #[.int .u32 (xu.sl : Int), .int .u32 (xu.gn : Int)], .agg #[.int .u32 (xi.sl : Int), .int .u32 (xi.gn : Int)]] W fun e w' => e = .returned (.bool false) ∧ Below W.heap.size W w') := Lib.hid (fun W bb => by
    have := within_calls (h.below bb) hu hul hi hil hc
    rw [decide_eq_false hni] at this
    exact this)
  have h20 : toH X.F i 0 = (0, 0) := by unfold toH; show hd X.F (upOf X.F i) = _; unfold upOf; rw [hi]; show hd X.F xi.up = _; rw [hir]; rfl
  have HFb : Hid (∀ W, Below w.heap.size w W → Calls Tryd.prog 90 #[.pointer (some ⟨tb, 0, none⟩), .agg #[.int .u32 0, .int .u32 0], .int .i64 0] W fun e w' => e = .returned (.tuple #[.agg #[.int .u32 0, .int .u32 0], .int .i64 51]) ∧ Below W.heap.size W w') := Lib.hid (fun W bb => follow_dead (h.rw.below bb) (s := 0) (g := 0) (by decide) (by decide) ((h.rw.below bb).no_zero 0) 0)
  have HSf : Hid (∀ (W : World) L, TreeRw B Q W tb X L → ∀ p q : Nat, Calls Tryd.prog 102 #[.pointer (some ⟨tb, 0, none⟩), .agg #[.int .u32 (xf.sl : Int), .int .u32 (xf.gn : Int)], .int .i64 4, .agg #[.int .u32 (p : Int), .int .u32 (q : Int)]] W fun e w' => e = .returned (.tuple #[]) ∧ TreeRw B Q w' tb X (updH L f 4 (p, q)) ∧ FrG [120] Q W w') := Lib.hid (fun W L hW p q => set_live hW hxf hxfl 4 (by decide) p q)
  have hlast : toH X.F u 2 = (xf.sl, xf.gn) := by
    unfold toH
    show hd X.F (dnOf X.F (some u)).getLast? = _
    have : dnOf X.F (some u) = l1 := by unfold dnOf; simp [hu, hl, hb]
    rw [this, hf]; exact hd_some hxf
  have HEND : Hid (linkH (toH X.F) i u l1.getLast? l2.head? (hd X.F (some u)) (hd X.F (some i)) (hd X.F l1.getLast?) (hd X.F l2.head?) = updH (updH (updH (updH (updH (toH X.F) i 0 (xu.sl, xu.gn)) i 3 (xf.sl, xf.gn)) i 4 (0, 0)) f 4 (xi.sl, xi.gn)) u 2 (xi.sl, xi.gn)) := Lib.hid (by
    rw [hf, hb, hd_some hu, hd_some hi, hd_some hxf]; rfl)
  have qf : hEq (xf.sl : Int) (xf.gn : Int) 0 0 = false := hEq_false (.inl (by omega))
  have qz : hEq 0 0 0 0 = true := hEq_true rfl rfl
  have qu : hEq (xu.sl : Int) (xu.gn : Int) (xu.sl : Int) (xu.gn : Int) = true := hEq_true rfl rfl
  have hpc : nbp ≠ nbc := by rintro rfl; have := h.rw.nb_inj hmp hmc; subst this; obtain ⟨t, ht⟩ := hc.ne_nil; exact hni (by rw [ht]; simp)
  have c0 := cell_blk h.rw.blk 0 rfl
  have ltb := lt_of_some h.rw.blk
  have lnp := lt_of_some hnp
  have lnc := lt_of_some hnc
  simp at c0
  have n20 : toH X.F i 0 = (0, 0) := h20
  have HLT := Lib.hid (And.intro hlast n20)
  clear hlast n20 h hu hul hi hil hir hc hni hl hf hmp hmc hnp hnc h20 hfu hxf hxfl hmf hfsl hb
  generalize xu.sl = us at *
  generalize xu.gn = ug at *
  generalize xi.sl = si at *
  generalize xi.gn = gi at *
  generalize xf.sl = fs at *
  generalize xf.gn = fg at *
  obtain ⟨V, hV⟩ : ∃ V, V = ((w.alloc (.cells #[.int .u32 (us : Int), .int .u32 (ug : Int)] 31)).alloc (.cells #[.int .u32 (si : Int), .int .u32 (gi : Int)] 31)).alloc (.cells #[.int .u32 0, .int .u32 0] 31) := ⟨_, rfl⟩
  have bV : Below w.heap.size w V := by rw [hV]; exact (by repeat (first | exact Below.refl _ _ | assumption | refine Below.drew ?_ | refine below_drewN ?_ _ | refine Below.alloc ?_ (by simp <;> omega) _ | refine Below.setCell ?_ (by simp <;> omega) _ | (apply bl_trans; assumption; (simp <;> omega))))
  have hx : LBx3 V w.heap.size (us, ug) (si, gi) (0, 0) := by rw [hV]; exact lbx3_alloc w us ug si gi 0 0
  have HX := Lib.hid (And.intro hx bV)
  have HSW : Hid (∀ W, Below V.heap.size V W → (W.cell? ⟨tb, 0, none⟩ = some (.pointer (some ⟨X.ab, 0, none⟩)) ∧ W.cell? ⟨w.heap.size, 0, none⟩ = some (.int .u32 (us : Int)) ∧ W.cell? ⟨w.heap.size, 1, none⟩ = some (.int .u32 (ug : Int)) ∧ W.cell? ⟨w.heap.size + 1, 0, none⟩ = some (.int .u32 (si : Int)) ∧ W.cell? ⟨w.heap.size + 1, 1, none⟩ = some (.int .u32 (gi : Int)) ∧ W.cell? ⟨w.heap.size + 2, 0, none⟩ = some (.int .u32 0) ∧ W.cell? ⟨w.heap.size + 2, 1, none⟩ = some (.int .u32 0)) ∧ Below w.heap.size w W ∧ LBx3 W w.heap.size (us, ug) (si, gi) (0, 0)) := Lib.hid (fun W bb => by
    obtain ⟨y0, y1, y2, y3, y4, y5⟩ := (HX.out.1.below bb).cells
    exact ⟨⟨((HX.out.2.trans (bb.mono HX.out.2.size)).cell (p := ⟨tb, 0, none⟩) ltb).trans c0, y0, y1, y2, y3, y4, y5⟩, HX.out.2.trans (bb.mono HX.out.2.size), HX.out.1.below bb⟩)
  have HD0 : Hid (Below V.heap.size V V.drew) := Lib.hid (Below.refl _ _).drew
  have hV2 := hV
  clear hV hx bV
  go_enter Tryd.func71, Tryd.ntmps71
  go_wp2_with fail
  rw [← hV2]
  clear hV2
  go_region_held3 (fun W => (W.cell? ⟨tb, 0, none⟩ = some (.pointer (some ⟨X.ab, 0, none⟩)) ∧ W.cell? ⟨w.heap.size, 0, none⟩ = some (.int .u32 (us : Int)) ∧ W.cell? ⟨w.heap.size, 1, none⟩ = some (.int .u32 (ug : Int)) ∧ W.cell? ⟨w.heap.size + 1, 0, none⟩ = some (.int .u32 (si : Int)) ∧ W.cell? ⟨w.heap.size + 1, 1, none⟩ = some (.int .u32 (gi : Int)) ∧ W.cell? ⟨w.heap.size + 2, 0, none⟩ = some (.int .u32 0) ∧ W.cell? ⟨w.heap.size + 2, 1, none⟩ = some (.int .u32 0))) (first | exact (HSW.out _ HD0.out).1 | exact (HSW.out _ HB1.out).1) (first | (go_at_call 76; refine (HGp.out _ (HSW.out _ HD0.out).2.1).mono ?_; rintro e w1 ⟨rfl, b1⟩; have HB1 := Lib.hid (HD0.out.trans (b1.mono HD0.out.size))))
  clear b1
  have HD1 : Hid (Below V.heap.size V w1.drew) := Lib.hid HB1.out.drew
  go_wp2_with fail
  go_region_held3 (fun W => (W.cell? ⟨tb, 0, none⟩ = some (.pointer (some ⟨X.ab, 0, none⟩)) ∧ W.cell? ⟨w.heap.size, 0, none⟩ = some (.int .u32 (us : Int)) ∧ W.cell? ⟨w.heap.size, 1, none⟩ = some (.int .u32 (ug : Int)) ∧ W.cell? ⟨w.heap.size + 1, 0, none⟩ = some (.int .u32 (si : Int)) ∧ W.cell? ⟨w.heap.size + 1, 1, none⟩ = some (.int .u32 (gi : Int)) ∧ W.cell? ⟨w.heap.size + 2, 0, none⟩ = some (.int .u32 0) ∧ W.cell? ⟨w.heap.size + 2, 1, none⟩ = some (.int .u32 0))) (first | exact (HSW.out _ HD1.out).1 | exact (HSW.out _ HB2.out).1) (first | (go_at_call 76; refine (HGc.out _ (HSW.out _ HD1.out).2.1).mono ?_; rintro e w2 ⟨rfl, b1⟩; have HB2 := Lib.hid (HD1.out.trans (b1.mono HD1.out.size))))
  clear b1 HD0 HD1 HB1
  obtain ⟨d0, y0, y1, y2, y3, y4, y5⟩ := (HSW.out _ HB2.out).1
  have n0 : w2.cell? ⟨nbp, 10, none⟩ = some (.int .u32 ((toH X.F u 2).1 : Int)) := cell_blk (HP.out w2 _ (HT.out.rw.below (HSW.out _ HB2.out).2.1)) 10 rfl
  have n1 : w2.cell? ⟨nbp, 11, none⟩ = some (.int .u32 ((toH X.F u 2).2 : Int)) := cell_blk (HP.out w2 _ (HT.out.rw.below (HSW.out _ HB2.out).2.1)) 11 rfl
  rw [HLT.out.1] at n0 n1
  simp at n0 n1
  have lz2 : w.heap.size + 2 < w2.heap.size := lt_of_some (HSW.out _ HB2.out).2.2.x2
  go_wp2_with fail
  obtain ⟨V3, hV3⟩ : ∃ U, U = w2.alloc (.cells #[.int .u32 (fs : Int), .int .u32 (fg : Int)] 31) := ⟨_, rfl⟩
  rw [← hV3]
  obtain ⟨bx, hbx⟩ : ∃ z, z = w2.heap.size := ⟨_, rfl⟩
  have hfx : V3.heap[bx]? = some (.cells #[.int .u32 (fs : Int), .int .u32 (fg : Int)] 31 (0, 0)) := by rw [hV3, hbx]; exact Go.heap_alloc_new w2 _
  have HB3 : Hid (Below V.heap.size V V3) := Lib.hid (by rw [hV3]; exact HB2.out.alloc HB2.out.size _)
  have lbx : V.heap.size ≤ bx := by rw [hbx]; exact HB2.out.size
  have lzx : w.heap.size + 2 < bx := by rw [hbx]; exact lz2
  rw [← hbx]
  have HFX := Lib.hid hfx
  clear hV3 hbx lz2 HB2 hfx n0 n1 d0 y0 y1 y2 y3 y4 y5
  have HFX5 := HFX
  have HB5 := HB3
  clear HFX HB3
  refine (HFb.out _ (HSW.out _ HB5.out).2.1).mono ?_
  rintro e w4 ⟨rfl, b4⟩
  have HB6 := Lib.hid (HB5.out.trans (b4.mono HB5.out.size))
  have HFX6 := Lib.hid ((b4.block _ (lt_of_some HFX5.out)).trans HFX5.out)
  clear b4 HB5 HFX5
  obtain ⟨d0, y0, y1, y2, y3, y4, y5⟩ := (HSW.out _ HB6.out).1
  have lz4 : bx < w4.heap.size := lt_of_some HFX6.out
  have l4a : w.heap.size < w4.heap.size := by omega
  have l4b : w.heap.size + 1 < w4.heap.size := by omega
  have l4c : w.heap.size + 2 < w4.heap.size := by omega
  go_wp2_with fail
  obtain ⟨V5, hV5⟩ : ∃ U, U = w4.alloc (.cells #[.int .u32 0, .int .u32 0] 31) := ⟨_, rfl⟩
  rw [← hV5]
  obtain ⟨ub, hub⟩ : ∃ z, z = w4.heap.size := ⟨_, rfl⟩
  have HUX : Hid (V5.heap[ub]? = some (.cells #[.int .u32 0, .int .u32 0] 31 (0, 0))) := Lib.hid (by rw [hV5, hub]; exact Go.heap_alloc_new w4 _)
  have HB7 : Hid (Below V.heap.size V V5) := Lib.hid (by rw [hV5]; exact HB6.out.alloc HB6.out.size _)
  have HFX7 : Hid (V5.heap[bx]? = some (.cells #[.int .u32 (fs : Int), .int .u32 (fg : Int)] 31 (0, 0))) := Lib.hid (by rw [hV5]; exact alloc_blk HFX6.out _)
  rw [← hub]
  clear hV5 hub lz4 l4a l4b l4c HB6 HFX6 d0 y0 y1 y2 y3 y4 y5
  refine (HWI.out _ (HSW.out _ HB7.out).2.1).mono ?_
  rintro e w5 ⟨rfl, b5⟩
  have HB8 := Lib.hid (HB7.out.trans (b5.mono HB7.out.size))
  have HFX8 := Lib.hid ((b5.block _ (lt_of_some HFX7.out)).trans HFX7.out)
  have HUX8 := Lib.hid ((b5.block _ (lt_of_some HUX.out)).trans HUX.out)
  clear b5 HB7 HFX7 HUX
  obtain ⟨d0, y0, y1, y2, y3, y4, y5⟩ := (HSW.out _ HB8.out).1
  have HT8 := Lib.hid (HT.out.rw.below (HSW.out _ HB8.out).2.1)
  have n0 : w5.cell? ⟨nbc, 6, none⟩ = some (.int .u32 ((toH X.F i 0).1 : Int)) := cell_blk (HC.out w5 _ HT8.out) 6 rfl
  have n1 : w5.cell? ⟨nbc, 7, none⟩ = some (.int .u32 ((toH X.F i 0).2 : Int)) := cell_blk (HC.out w5 _ HT8.out) 7 rfl
  rw [HLT.out.2] at n0 n1
  simp at n0 n1
  have g0 := cell_blk HUX8.out 0 rfl
  have g1 := cell_blk HUX8.out 1 rfl
  have k0 := cell_blk HFX8.out 0 rfl
  have k1 := cell_blk HFX8.out 1 rfl
  simp at g0 g1 k0 k1
  go_wp2_with fail
  clear n0 n1 g0 g1 k0 k1
  have m6 : w5.cell? ⟨nbc, 6, none⟩ = some (.int .u32 ((toH X.F i 0).1 : Int)) := cell_blk (HC.out w5 _ HT8.out) 6 rfl
  have r6 := free_blk (HC.out w5 _ HT8.out) 6
  have m7 : w5.cell? ⟨nbc, 7, none⟩ = some (.int .u32 ((toH X.F i 0).2 : Int)) := cell_blk (HC.out w5 _ HT8.out) 7 rfl
  have r7 := free_blk (HC.out w5 _ HT8.out) 7
  have m12 : w5.cell? ⟨nbc, 12, none⟩ = some (.int .u32 ((toH X.F i 3).1 : Int)) := cell_blk (HC.out w5 _ HT8.out) 12 rfl
  have r12 := free_blk (HC.out w5 _ HT8.out) 12
  have m13 : w5.cell? ⟨nbc, 13, none⟩ = some (.int .u32 ((toH X.F i 3).2 : Int)) := cell_blk (HC.out w5 _ HT8.out) 13 rfl
  have r13 := free_blk (HC.out w5 _ HT8.out) 13
  have m14 : w5.cell? ⟨nbc, 14, none⟩ = some (.int .u32 ((toH X.F i 4).1 : Int)) := cell_blk (HC.out w5 _ HT8.out) 14 rfl
  have r14 := free_blk (HC.out w5 _ HT8.out) 14
  have m15 : w5.cell? ⟨nbc, 15, none⟩ = some (.int .u32 ((toH X.F i 4).2 : Int)) := cell_blk (HC.out w5 _ HT8.out) 15 rfl
  have r15 := free_blk (HC.out w5 _ HT8.out) 15
  have k0 := cell_blk HFX8.out 0 rfl
  have k1 := cell_blk HFX8.out 1 rfl
  simp at k0 k1
  have e0 : nbc ≠ w.heap.size := by omega
  have e1 : nbc ≠ w.heap.size + 1 := by omega
  have e2 : nbc ≠ w.heap.size + 2 := by omega
  have e3 : nbc ≠ bx := by omega
  have e4 := Ne.symm e0
  have e5 := Ne.symm e1
  have e6 := Ne.symm e2
  have e7 := Ne.symm e3
  go_region
  clear m6 m7 m12 m13 m14 m15 r6 r7 r12 r13 r14 r15 k0 k1 e0 e1 e2 e3 e4 e5 e6 e7 d0 y0 y1 y2 y3 y4 y5
  obtain ⟨V9, hV9⟩ : ∃ U, U = ((((((w5.setCell ⟨nbc, 6, none⟩ (.int .u32 (us : Int))).setCell ⟨nbc, 7, none⟩ (.int .u32 (ug : Int))).setCell ⟨nbc, 12, none⟩ (.int .u32 (fs : Int))).setCell ⟨nbc, 13, none⟩ (.int .u32 (fg : Int))).setCell ⟨nbc, 14, none⟩ (.int .u32 0)).setCell ⟨nbc, 15, none⟩ (.int .u32 0)).drew := ⟨_, rfl⟩
  have H9 : Hid (TreeRw B Q V9 tb X (updH (updH (updH (toH X.F) i 0 (us, ug)) i 3 (fs, fg)) i 4 (0, 0)) ∧ FrG [120] Q w5 V9) := Lib.hid (by
    have h3 := HT8.out.set3 HI.out HMI.out us ug fs fg 0 0
    rw [hV9]
    exact ⟨h3.1.below (Below.refl _ _).drew, h3.2.drew⟩)
  rw [← hV9]
  have HX9 := Lib.hid ((HSW.out _ HB8.out).2.2.frg H9.out.2)
  have HFX9 := Lib.hid (H9.out.2.blk HFX8.out (by decide))
  have HLOW : Hid (Below w.heap.size w w5) := Lib.hid (HSW.out _ HB8.out).2.1
  have HFR9 : Hid (FrG [120] Q w V9) := Lib.hid ((FrG.of_below HLOW.out : FrG [120] Q w w5).trans H9.out.2 (fun _ h => .inl h))
  clear hV9 HUX8 HSW
  obtain ⟨y0, y1, y2, y3, y4, y5⟩ := HX9.out.cells
  have k0 := cell_blk HFX9.out 0 rfl
  have k1 := cell_blk HFX9.out 1 rfl
  simp at k0 k1
  simp at y4 y5
  go_wp2_with fail
  refine (HSf.out V9 _ H9.out.1 si gi).mono ?_
  rintro e V10 ⟨rfl, h10, f10⟩
  have H10 := Lib.hid (And.intro h10 f10)
  clear h10 f10
  have HX10 := Lib.hid (HX9.out.frg H10.out.2)
  have HFR10 : Hid (FrG [120] Q w V10) := Lib.hid (HFR9.out.trans H10.out.2 (fun _ h => .inl h))
  clear y0 y1 y2 y3 y4 y5 k0 k1
  obtain ⟨y0, y1, y2, y3, y4, y5⟩ := HX10.out.cells
  simp at y4 y5
  have m0 : V10.cell? ⟨nbp, 10, none⟩ = some (.int .u32 ((updH (updH (updH (updH (toH X.F) i 0 (us, ug)) i 3 (fs, fg)) i 4 (0, 0)) f 4 (si, gi)) u 2).1) := cell_blk (HP.out V10 _ H10.out.1) 10 rfl
  have r0 := free_blk (HP.out V10 _ H10.out.1) 10
  have m1 : V10.cell? ⟨nbp, 11, none⟩ = some (.int .u32 ((updH (updH (updH (updH (toH X.F) i 0 (us, ug)) i 3 (fs, fg)) i 4 (0, 0)) f 4 (si, gi)) u 2).2) := cell_blk (HP.out V10 _ H10.out.1) 11 rfl
  have r1 := free_blk (HP.out V10 _ H10.out.1) 11
  have e0 : nbp ≠ w.heap.size := by omega
  have e1 : nbp ≠ w.heap.size + 1 := by omega
  have e2 : nbp ≠ w.heap.size + 2 := by omega
  have e3 : nbp ≠ bx := by omega
  have e4 := Ne.symm e0
  have e5 := Ne.symm e1
  have e6 := Ne.symm e2
  have e7 := Ne.symm e3
  go_wp2_with fail
  go_region
  obtain ⟨V11, hVn⟩ : ∃ U, U = ((V10.setCell ⟨nbp, 10, none⟩ (.int .u32 (si : Int))).setCell ⟨nbp, 11, none⟩ (.int .u32 (gi : Int))).drew := ⟨_, rfl⟩
  have H11 : Hid (TreeRw B Q V11 tb X (updH (updH (updH (updH (updH (toH X.F) i 0 (us, ug)) i 3 (fs, fg)) i 4 (0, 0)) f 4 (si, gi)) u 2 (si, gi)) ∧ FrG [120] Q V10 V11) := Lib.hid (by
    have h3 := H10.out.1.setQ HU.out HMU.out 2 (by decide) si gi
    rw [hVn]
    exact ⟨h3.1.below (Below.refl _ _).drew, h3.2.drew⟩)
  rw [← hVn]
  clear hVn m0 m1 r0 r1 e0 e1 e2 e3 e4 e5 e6 e7
  go_wp2_with fail
  go_ret
  exact ⟨rfl, HFIN.out V11 (by rw [HEND.out]; exact H11.out.1), HFR10.out.trans H11.out.2 (fun _ h => .inl h)⟩
set_option maxHeartbeats 8000000 in
theorem link_11 (h : TreeAt B Q w tb X) {u i : Nat} {xu xi : FN} (hu : X.F[u]? = some xu) (hul : xu.live = true) (hi : X.F[i]? = some xi) (hil : xi.live = true) (hir : xi.up = none)
    {c : List Nat} (hc : Chain X.F u c) (hni : i ∉ c) {l1 l2 : List Nat} (hl : xu.down = l1 ++ l2) {f fs fg : Nat} (hf : l1.getLast? = some f) (hfe : hd X.F (some f) = (fs, fg)) {b bs bg : Nat} (hb : l2.head? = some b) (hbe : hd X.F (some b) = (bs, bg)) :
    Calls Tryd.prog 71 #[.pointer (some ⟨tb, 0, none⟩), .agg #[.int .u32 (xu.sl : Int), .int .u32 (xu.gn : Int)], .agg #[.int .u32 (xi.sl : Int), .int .u32 (xi.gn : Int)], .agg #[.int .u32 (bs : Int), .int .u32 (bg : Int)]] w fun e w' =>
      e = .returned (.int .i64 0) ∧ TreeAt B Q w' tb { X with F := hng X.F i u l1.length } ∧ FrG [120] Q w w' := by
  have HT := Lib.hid h
  have HFIN : Hid (∀ W, TreeRw B Q W tb X (linkH (toH X.F) i u l1.getLast? l2.head? (hd X.F (some u)) (hd X.F (some i)) (hd X.F l1.getLast?) (hd X.F l2.head?)) → TreeAt B Q W tb { X with F := hng X.F i u l1.length }) := Lib.hid (fun W hW => hW.linked h.fok hu hul hi hil hir hc hni hl)
  have hfu : upOf X.F f = some u ∧ ∃ xf : FN, X.F[f]? = some xf ∧ xf.live = true := by
    obtain ⟨xf, h1, h2, h3⟩ := h.fok.dn u xu hu f (by rw [hl]; exact List.mem_append_left _ (List.mem_of_getLast? hf))
    exact ⟨by unfold upOf; rw [h1]; exact h2, xf, h1, h3⟩
  obtain ⟨hfu, xf, hxf, hxfl⟩ := hfu
  have hbu : upOf X.F b = some u ∧ ∃ xb : FN, X.F[b]? = some xb ∧ xb.live = true := by
    obtain ⟨xb, h1, h2, h3⟩ := h.fok.dn u xu hu b (by rw [hl]; exact List.mem_append_right _ (List.mem_of_head? hb))
    exact ⟨by unfold upOf; rw [h1]; exact h2, xb, h1, h3⟩
  obtain ⟨hbu, xb, hxb, hxbl⟩ := hbu
  have hba : toH X.F b 3 = hd X.F l1.getLast? := by
    obtain ⟨t, ht⟩ : ∃ t, l2 = b :: t := by cases l2 with
      | nil => cases hb
      | cons y t => simp at hb; exact ⟨t, by rw [hb]⟩
    have hnd := h.fok.nd u xu hu
    unfold toH
    show hd X.F (prevOf (dnOf X.F (upOf X.F b)) b) = _
    rw [hbu]
    have : dnOf X.F (some u) = l1 ++ b :: t := by unfold dnOf; simp [hu, hl, ht]
    rw [this, prev_split]
    intro hm
    rw [hl, ht] at hnd
    exact (List.nodup_append.1 hnd).2.2 b hm b (by simp) rfl
  obtain ⟨nbp, Pp, hmp, _⟩ := h.rw.at_live hu hul
  obtain ⟨nbc, Pc, hmc, _⟩ := h.rw.at_live hi hil
  have hnp := (h.rw.node u xu nbp Pp hu hul hmp).2.2.1
  have hnc := (h.rw.node i xi nbc Pc hi hil hmc).2.2.1
  obtain ⟨nbb, Pb, hmb, _, hbsl, _⟩ := h.rw.at_live hxb hxbl
  have hnb := (h.rw.node b xb nbb Pb hxb hxbl hmb).2.2.1
  rw [hd_some hxb] at hbe
  simp only [Prod.mk.injEq] at hbe
  obtain ⟨rfl, rfl⟩ := hbe
  rw [hd_some hxf] at hfe
  simp only [Prod.mk.injEq] at hfe
  obtain ⟨rfl, rfl⟩ := hfe
  obtain ⟨nbf, Pf, hmf, _, hfsl, _⟩ := h.rw.at_live hxf hxfl
  have HMU := Lib.hid hmp
  have HMI := Lib.hid hmc
  have HU := Lib.hid (And.intro hu hul)
  have HI := Lib.hid (And.intro hi hil)
  have HP : Hid (∀ (W : World) L, TreeRw B Q W tb X L → W.heap[nbp]? = some (.cells (ncells Pp (L u) (u + 1)) 120 (0, 0))) := Lib.hid (fun W L hW => (hW.node u xu nbp Pp hu hul hmp).2.2.1)
  have HC : Hid (∀ (W : World) L, TreeRw B Q W tb X L → W.heap[nbc]? = some (.cells (ncells Pc (L i) (i + 1)) 120 (0, 0))) := Lib.hid (fun W L hW => (hW.node i xi nbc Pc hi hil hmc).2.2.1)
  have HQ : Hid (Q nbp ∧ Q nbc) := Lib.hid ⟨(h.rw.node u xu nbp Pp hu hul hmp).2.1, (h.rw.node i xi nbc Pc hi hil hmc).2.1⟩
  have HGp : Hid (∀ W, Below w.heap.size w W → Calls Tryd.prog 76 #[.pointer (some ⟨X.ab, 0, none⟩), .agg #[.int .u32 (xu.sl : Int), .int .u32 (xu.gn : Int)]] W fun e w' => e = .returned (.tuple #[.pointer (some ⟨nbp, 0, none⟩), .int .i64 0]) ∧ Below W.heap.size W w') := Lib.hid (fun W bb => (h.rw.below bb).get_live hu hul hmp)
  have HGc : Hid (∀ W, Below w.heap.size w W → Calls Tryd.prog 76 #[.pointer (some ⟨X.ab, 0, none⟩), .agg #[.int .u32 (xi.sl : Int), .int .u32 (xi.gn : Int)]] W fun e w' => e = .returned (.tuple #[.pointer (some ⟨nbc, 0, none⟩), .int .i64 0]) ∧ Below W.heap.size W w') := Lib.hid (fun W bb => (h.rw.below bb).get_live hi hil hmc)
  have HWI : Hid (∀ W, Below w.heap.size w W → Calls Tryd.prog 101 #[.pointer (some ⟨tb, 0, none⟩), .agg #[.int .u32 (xu.sl : Int), .int .u32 (xu.gn : Int)], .agg #[.int .u32 (xi.sl : Int), .int .u32 (xi.gn : Int)]] W fun e w' => e = .returned (.bool false) ∧ Below W.heap.size W w') := Lib.hid (fun W bb => by
    have := within_calls (h.below bb) hu hul hi hil hc
    rw [decide_eq_false hni] at this
    exact this)
  have h20 : toH X.F i 0 = (0, 0) := by unfold toH; show hd X.F (upOf X.F i) = _; unfold upOf; rw [hi]; show hd X.F xi.up = _; rw [hir]; rfl
  have hb0 : toH X.F b 0 = (xu.sl, xu.gn) := by unfold toH; show hd X.F (upOf X.F b) = _; rw [hbu]; exact hd_some hu
  have HB : Hid (∀ (W : World) L, TreeRw B Q W tb X L → W.heap[nbb]? = some (.cells (ncells Pb (L b) (b + 1)) 120 (0, 0))) := Lib.hid (fun W L hW => (hW.node b xb nbb Pb hxb hxbl hmb).2.2.1)
  have HGb : Hid (∀ W, Below w.heap.size w W → Calls Tryd.prog 76 #[.pointer (some ⟨X.ab, 0, none⟩), .agg #[.int .u32 (xb.sl : Int), .int .u32 (xb.gn : Int)]] W fun e w' => e = .returned (.tuple #[.pointer (some ⟨nbb, 0, none⟩), .int .i64 0]) ∧ Below W.heap.size W w') := Lib.hid (fun W bb => (h.rw.below bb).get_live hxb hxbl hmb)
  have HFb : Hid (∀ W, Below w.heap.size w W → Calls Tryd.prog 90 #[.pointer (some ⟨tb, 0, none⟩), .agg #[.int .u32 (xb.sl : Int), .int .u32 (xb.gn : Int)], .int .i64 0] W fun e w' => e = .returned (.tuple #[.agg #[.int .u32 (xu.sl : Int), .int .u32 (xu.gn : Int)], .int .i64 0]) ∧ Below W.heap.size W w') := Lib.hid (fun W bb => by
    have := follow_live (h.rw.below bb) hxb hxbl 0 (by decide)
    rw [hb0] at this
    exact this)
  have HSb : Hid (∀ (W : World) L, TreeRw B Q W tb X L → ∀ p q : Nat, Calls Tryd.prog 102 #[.pointer (some ⟨tb, 0, none⟩), .agg #[.int .u32 (xb.sl : Int), .int .u32 (xb.gn : Int)], .int .i64 3, .agg #[.int .u32 (p : Int), .int .u32 (q : Int)]] W fun e w' => e = .returned (.tuple #[]) ∧ TreeRw B Q w' tb X (updH L b 3 (p, q)) ∧ FrG [120] Q W w') := Lib.hid (fun W L hW p q => set_live hW hxb hxbl 3 (by decide) p q)
  have HSf : Hid (∀ (W : World) L, TreeRw B Q W tb X L → ∀ p q : Nat, Calls Tryd.prog 102 #[.pointer (some ⟨tb, 0, none⟩), .agg #[.int .u32 (xf.sl : Int), .int .u32 (xf.gn : Int)], .int .i64 4, .agg #[.int .u32 (p : Int), .int .u32 (q : Int)]] W fun e w' => e = .returned (.tuple #[]) ∧ TreeRw B Q w' tb X (updH L f 4 (p, q)) ∧ FrG [120] Q W w') := Lib.hid (fun W L hW p q => set_live hW hxf hxfl 4 (by decide) p q)
  obtain ⟨ls, lg, hlast⟩ : ∃ ls lg : Nat, toH X.F u 2 = (ls, lg) := ⟨_, _, rfl⟩
  have hfront : toH X.F b 3 = (xf.sl, xf.gn) := by rw [hba, hf, hd_some hxf]
  have HEND : Hid (linkH (toH X.F) i u l1.getLast? l2.head? (hd X.F (some u)) (hd X.F (some i)) (hd X.F l1.getLast?) (hd X.F l2.head?) = updH (updH (updH (updH (updH (toH X.F) i 0 (xu.sl, xu.gn)) i 3 (xf.sl, xf.gn)) i 4 (xb.sl, xb.gn)) f 4 (xi.sl, xi.gn)) b 3 (xi.sl, xi.gn)) := Lib.hid (by
    rw [hf, hb, hd_some hu, hd_some hi, hd_some hxf, hd_some hxb]; rfl)
  have q0 : hEq (xb.sl : Int) (xb.gn : Int) 0 0 = false := hEq_false (.inl (by omega))
  have qf : hEq (xf.sl : Int) (xf.gn : Int) 0 0 = false := hEq_false (.inl (by omega))
  have qz : hEq 0 0 0 0 = true := hEq_true rfl rfl
  have qu : hEq (xu.sl : Int) (xu.gn : Int) (xu.sl : Int) (xu.gn : Int) = true := hEq_true rfl rfl
  have hpc : nbp ≠ nbc := by rintro rfl; have := h.rw.nb_inj hmp hmc; subst this; obtain ⟨t, ht⟩ := hc.ne_nil; exact hni (by rw [ht]; simp)
  have c0 := cell_blk h.rw.blk 0 rfl
  have ltb := lt_of_some h.rw.blk
  have lnp := lt_of_some hnp
  have lnc := lt_of_some hnc
  simp at c0
  have n20 : toH X.F i 0 = (0, 0) := h20
  have HLT := Lib.hid (And.intro hlast (And.intro n20 hfront))
  clear hlast n20 hfront h hu hul hi hil hir hc hni hl hf hmp hmc hnp hnc h20 hfu hxf hxfl hmf hfsl hb hbu hxb hxbl hba hmb hbsl hnb hb0
  generalize xu.sl = us at *
  generalize xu.gn = ug at *
  generalize xi.sl = si at *
  generalize xi.gn = gi at *
  generalize xb.sl = bs at *
  generalize xb.gn = bg at *
  generalize xf.sl = fs at *
  generalize xf.gn = fg at *
  obtain ⟨V, hV⟩ : ∃ V, V = ((w.alloc (.cells #[.int .u32 (us : Int), .int .u32 (ug : Int)] 31)).alloc (.cells #[.int .u32 (si : Int), .int .u32 (gi : Int)] 31)).alloc (.cells #[.int .u32 (bs : Int), .int .u32 (bg : Int)] 31) := ⟨_, rfl⟩
  have bV : Below w.heap.size w V := by rw [hV]; exact (by repeat (first | exact Below.refl _ _ | assumption | refine Below.drew ?_ | refine below_drewN ?_ _ | refine Below.alloc ?_ (by simp <;> omega) _ | refine Below.setCell ?_ (by simp <;> omega) _ | (apply bl_trans; assumption; (simp <;> omega))))
  have hx : LBx3 V w.heap.size (us, ug) (si, gi) (bs, bg) := by rw [hV]; exact lbx3_alloc w us ug si gi bs bg
  have HX := Lib.hid (And.intro hx bV)
  have HSW : Hid (∀ W, Below V.heap.size V W → (W.cell? ⟨tb, 0, none⟩ = some (.pointer (some ⟨X.ab, 0, none⟩)) ∧ W.cell? ⟨w.heap.size, 0, none⟩ = some (.int .u32 (us : Int)) ∧ W.cell? ⟨w.heap.size, 1, none⟩ = some (.int .u32 (ug : Int)) ∧ W.cell? ⟨w.heap.size + 1, 0, none⟩ = some (.int .u32 (si : Int)) ∧ W.cell? ⟨w.heap.size + 1, 1, none⟩ = some (.int .u32 (gi : Int)) ∧ W.cell? ⟨w.heap.size + 2, 0, none⟩ = some (.int .u32 (bs : Int)) ∧ W.cell? ⟨w.heap.size + 2, 1, none⟩ = some (.int .u32 (bg : Int))) ∧ Below w.heap.size w W ∧ LBx3 W w.heap.size (us, ug) (si, gi) (bs, bg)) := Lib.hid (fun W bb => by
    obtain ⟨y0, y1, y2, y3, y4, y5⟩ := (HX.out.1.below bb).cells
    exact ⟨⟨((HX.out.2.trans (bb.mono HX.out.2.size)).cell (p := ⟨tb, 0, none⟩) ltb).trans c0, y0, y1, y2, y3, y4, y5⟩, HX.out.2.trans (bb.mono HX.out.2.size), HX.out.1.below bb⟩)
  have HD0 : Hid (Below V.heap.size V V.drew) := Lib.hid (Below.refl _ _).drew
  have hV2 := hV
  clear hV hx bV
  go_enter Tryd.func71, Tryd.ntmps71
  go_wp2_with fail
  rw [← hV2]
  clear hV2
  go_region_held3 (fun W => (W.cell? ⟨tb, 0, none⟩ = some (.pointer (some ⟨X.ab, 0, none⟩)) ∧ W.cell? ⟨w.heap.size, 0, none⟩ = some (.int .u32 (us : Int)) ∧ W.cell? ⟨w.heap.size, 1, none⟩ = some (.int .u32 (ug : Int)) ∧ W.cell? ⟨w.heap.size + 1, 0, none⟩ = some (.int .u32 (si : Int)) ∧ W.cell? ⟨w.heap.size + 1, 1, none⟩ = some (.int .u32 (gi : Int)) ∧ W.cell? ⟨w.heap.size + 2, 0, none⟩ = some (.int .u32 (bs : Int)) ∧ W.cell? ⟨w.heap.size + 2, 1, none⟩ = some (.int .u32 (bg : Int)))) (first | exact (HSW.out _ HD0.out).1 | exact (HSW.out _ HB1.out).1) (first | (go_at_call 76; refine (HGp.out _ (HSW.out _ HD0.out).2.1).mono ?_; rintro e w1 ⟨rfl, b1⟩; have HB1 := Lib.hid (HD0.out.trans (b1.mono HD0.out.size))))
  clear b1
  have HD1 : Hid (Below V.heap.size V w1.drew) := Lib.hid HB1.out.drew
  go_wp2_with fail
  go_region_held3 (fun W => (W.cell? ⟨tb, 0, none⟩ = some (.pointer (some ⟨X.ab, 0, none⟩)) ∧ W.cell? ⟨w.heap.size, 0, none⟩ = some (.int .u32 (us : Int)) ∧ W.cell? ⟨w.heap.size, 1, none⟩ = some (.int .u32 (ug : Int)) ∧ W.cell? ⟨w.heap.size + 1, 0, none⟩ = some (.int .u32 (si : Int)) ∧ W.cell? ⟨w.heap.size + 1, 1, none⟩ = some (.int .u32 (gi : Int)) ∧ W.cell? ⟨w.heap.size + 2, 0, none⟩ = some (.int .u32 (bs : Int)) ∧ W.cell? ⟨w.heap.size + 2, 1, none⟩ = some (.int .u32 (bg : Int)))) (first | exact (HSW.out _ HD1.out).1 | exact (HSW.out _ HB2.out).1) (first | (go_at_call 76; refine (HGc.out _ (HSW.out _ HD1.out).2.1).mono ?_; rintro e w2 ⟨rfl, b1⟩; have HB2 := Lib.hid (HD1.out.trans (b1.mono HD1.out.size))))
  clear b1 HD0 HD1 HB1
  obtain ⟨d0, y0, y1, y2, y3, y4, y5⟩ := (HSW.out _ HB2.out).1
  have n0 : w2.cell? ⟨nbp, 10, none⟩ = some (.int .u32 ((toH X.F u 2).1 : Int)) := cell_blk (HP.out w2 _ (HT.out.rw.below (HSW.out _ HB2.out).2.1)) 10 rfl
  have n1 : w2.cell? ⟨nbp, 11, none⟩ = some (.int .u32 ((toH X.F u 2).2 : Int)) := cell_blk (HP.out w2 _ (HT.out.rw.below (HSW.out _ HB2.out).2.1)) 11 rfl
  rw [HLT.out.1] at n0 n1
  simp at n0 n1
  have lz2 : w.heap.size + 2 < w2.heap.size := lt_of_some (HSW.out _ HB2.out).2.2.x2
  go_wp2_with fail
  obtain ⟨V3, hV3⟩ : ∃ U, U = w2.alloc (.cells #[.int .u32 (ls : Int), .int .u32 (lg : Int)] 31) := ⟨_, rfl⟩
  rw [← hV3]
  obtain ⟨bx, hbx⟩ : ∃ z, z = w2.heap.size := ⟨_, rfl⟩
  have hfx : V3.heap[bx]? = some (.cells #[.int .u32 (ls : Int), .int .u32 (lg : Int)] 31 (0, 0)) := by rw [hV3, hbx]; exact Go.heap_alloc_new w2 _
  have HB3 : Hid (Below V.heap.size V V3) := Lib.hid (by rw [hV3]; exact HB2.out.alloc HB2.out.size _)
  have lbx : V.heap.size ≤ bx := by rw [hbx]; exact HB2.out.size
  have lzx : w.heap.size + 2 < bx := by rw [hbx]; exact lz2
  rw [← hbx]
  have HFX := Lib.hid hfx
  clear hV3 hbx lz2 HB2 hfx n0 n1 d0 y0 y1 y2 y3 y4 y5
  have HD3 : Hid (Below V.heap.size V V3.drew) := Lib.hid HB3.out.drew
  go_region_held3 (fun W => (W.cell? ⟨tb, 0, none⟩ = some (.pointer (some ⟨X.ab, 0, none⟩)) ∧ W.cell? ⟨w.heap.size, 0, none⟩ = some (.int .u32 (us : Int)) ∧ W.cell? ⟨w.heap.size, 1, none⟩ = some (.int .u32 (ug : Int)) ∧ W.cell? ⟨w.heap.size + 1, 0, none⟩ = some (.int .u32 (si : Int)) ∧ W.cell? ⟨w.heap.size + 1, 1, none⟩ = some (.int .u32 (gi : Int)) ∧ W.cell? ⟨w.heap.size + 2, 0, none⟩ = some (.int .u32 (bs : Int)) ∧ W.cell? ⟨w.heap.size + 2, 1, none⟩ = some (.int .u32 (bg : Int)))) (first | exact (HSW.out _ HD3.out).1 | exact (HSW.out _ HB4.out).1) (first | (go_at_call 76; refine (HGb.out _ (HSW.out _ HD3.out).2.1).mono ?_; rintro e w3 ⟨rfl, b1⟩; have HB4 := Lib.hid (HD3.out.trans (b1.mono HD3.out.size)); have HFX4 := Lib.hid ((b1.block _ (lt_of_some HFX.out)).trans HFX.out)))
  clear b1 HD3 HB3 HFX
  obtain ⟨d0, y0, y1, y2, y3, y4, y5⟩ := (HSW.out _ HB4.out).1
  have n0 : w3.cell? ⟨nbb, 12, none⟩ = some (.int .u32 ((toH X.F b 3).1 : Int)) := cell_blk (HB.out w3 _ (HT.out.rw.below (HSW.out _ HB4.out).2.1)) 12 rfl
  have n1 : w3.cell? ⟨nbb, 13, none⟩ = some (.int .u32 ((toH X.F b 3).2 : Int)) := cell_blk (HB.out w3 _ (HT.out.rw.below (HSW.out _ HB4.out).2.1)) 13 rfl
  rw [HLT.out.2.2] at n0 n1
  simp at n0 n1
  have g0 := cell_blk HFX4.out 0 rfl
  have g1 := cell_blk HFX4.out 1 rfl
  have f0 := free_blk HFX4.out 0
  have f1 := free_blk HFX4.out 1
  have ne1 : w.heap.size + 2 ≠ bx := by omega
  have ne2 : nbb ≠ bx := ne_blk (HB.out w3 _ (HT.out.rw.below (HSW.out _ HB4.out).2.1)) HFX4.out (by decide)
  simp at g0 g1
  go_wp2_with fail
  obtain ⟨V4, hV4⟩ : ∃ U, U = (w3.setCell ⟨bx, 0, none⟩ (.int .u32 (fs : Int))).setCell ⟨bx, 1, none⟩ (.int .u32 (fg : Int)) := ⟨_, rfl⟩
  rw [← hV4]
  have HFX5 : Hid (V4.heap[bx]? = some (.cells #[.int .u32 (fs : Int), .int .u32 (fg : Int)] 31 (0, 0))) := Lib.hid (by rw [hV4]; exact set_blk (set_blk HFX4.out 0 _) 1 _)
  have HB5 : Hid (Below V.heap.size V V4) := Lib.hid (by rw [hV4]; exact (HB4.out.setCell lbx _).setCell lbx _)
  clear hV4 HFX4 HB4 g0 g1 f0 f1 n0 n1 d0 y0 y1 y2 y3 y4 y5
  refine (HFb.out _ (HSW.out _ HB5.out).2.1).mono ?_
  rintro e w4 ⟨rfl, b4⟩
  have HB6 := Lib.hid (HB5.out.trans (b4.mono HB5.out.size))
  have HFX6 := Lib.hid ((b4.block _ (lt_of_some HFX5.out)).trans HFX5.out)
  clear b4 HB5 HFX5
  obtain ⟨d0, y0, y1, y2, y3, y4, y5⟩ := (HSW.out _ HB6.out).1
  have lz4 : bx < w4.heap.size := lt_of_some HFX6.out
  have l4a : w.heap.size < w4.heap.size := by omega
  have l4b : w.heap.size + 1 < w4.heap.size := by omega
  have l4c : w.heap.size + 2 < w4.heap.size := by omega
  go_wp2_with fail
  obtain ⟨V5, hV5⟩ : ∃ U, U = w4.alloc (.cells #[.int .u32 (us : Int), .int .u32 (ug : Int)] 31) := ⟨_, rfl⟩
  rw [← hV5]
  obtain ⟨ub, hub⟩ : ∃ z, z = w4.heap.size := ⟨_, rfl⟩
  have HUX : Hid (V5.heap[ub]? = some (.cells #[.int .u32 (us : Int), .int .u32 (ug : Int)] 31 (0, 0))) := Lib.hid (by rw [hV5, hub]; exact Go.heap_alloc_new w4 _)
  have HB7 : Hid (Below V.heap.size V V5) := Lib.hid (by rw [hV5]; exact HB6.out.alloc HB6.out.size _)
  have HFX7 : Hid (V5.heap[bx]? = some (.cells #[.int .u32 (fs : Int), .int .u32 (fg : Int)] 31 (0, 0))) := Lib.hid (by rw [hV5]; exact alloc_blk HFX6.out _)
  rw [← hub]
  clear hV5 hub lz4 l4a l4b l4c HB6 HFX6 d0 y0 y1 y2 y3 y4 y5
  refine (HWI.out _ (HSW.out _ HB7.out).2.1).mono ?_
  rintro e w5 ⟨rfl, b5⟩
  have HB8 := Lib.hid (HB7.out.trans (b5.mono HB7.out.size))
  have HFX8 := Lib.hid ((b5.block _ (lt_of_some HFX7.out)).trans HFX7.out)
  have HUX8 := Lib.hid ((b5.block _ (lt_of_some HUX.out)).trans HUX.out)
  clear b5 HB7 HFX7 HUX
  obtain ⟨d0, y0, y1, y2, y3, y4, y5⟩ := (HSW.out _ HB8.out).1
  have HT8 := Lib.hid (HT.out.rw.below (HSW.out _ HB8.out).2.1)
  have n0 : w5.cell? ⟨nbc, 6, none⟩ = some (.int .u32 ((toH X.F i 0).1 : Int)) := cell_blk (HC.out w5 _ HT8.out) 6 rfl
  have n1 : w5.cell? ⟨nbc, 7, none⟩ = some (.int .u32 ((toH X.F i 0).2 : Int)) := cell_blk (HC.out w5 _ HT8.out) 7 rfl
  rw [HLT.out.2.1] at n0 n1
  simp at n0 n1
  have g0 := cell_blk HUX8.out 0 rfl
  have g1 := cell_blk HUX8.out 1 rfl
  have k0 := cell_blk HFX8.out 0 rfl
  have k1 := cell_blk HFX8.out 1 rfl
  simp at g0 g1 k0 k1
  go_wp2_with fail
  clear n0 n1 g0 g1 k0 k1
  have m6 : w5.cell? ⟨nbc, 6, none⟩ = some (.int .u32 ((toH X.F i 0).1 : Int)) := cell_blk (HC.out w5 _ HT8.out) 6 rfl
  have r6 := free_blk (HC.out w5 _ HT8.out) 6
  have m7 : w5.cell? ⟨nbc, 7, none⟩ = some (.int .u32 ((toH X.F i 0).2 : Int)) := cell_blk (HC.out w5 _ HT8.out) 7 rfl
  have r7 := free_blk (HC.out w5 _ HT8.out) 7
  have m12 : w5.cell? ⟨nbc, 12, none⟩ = some (.int .u32 ((toH X.F i 3).1 : Int)) := cell_blk (HC.out w5 _ HT8.out) 12 rfl
  have r12 := free_blk (HC.out w5 _ HT8.out) 12
  have m13 : w5.cell? ⟨nbc, 13, none⟩ = some (.int .u32 ((toH X.F i 3).2 : Int)) := cell_blk (HC.out w5 _ HT8.out) 13 rfl
  have r13 := free_blk (HC.out w5 _ HT8.out) 13
  have m14 : w5.cell? ⟨nbc, 14, none⟩ = some (.int .u32 ((toH X.F i 4).1 : Int)) := cell_blk (HC.out w5 _ HT8.out) 14 rfl
  have r14 := free_blk (HC.out w5 _ HT8.out) 14
  have m15 : w5.cell? ⟨nbc, 15, none⟩ = some (.int .u32 ((toH X.F i 4).2 : Int)) := cell_blk (HC.out w5 _ HT8.out) 15 rfl
  have r15 := free_blk (HC.out w5 _ HT8.out) 15
  have k0 := cell_blk HFX8.out 0 rfl
  have k1 := cell_blk HFX8.out 1 rfl
  simp at k0 k1
  have e0 : nbc ≠ w.heap.size := by omega
  have e1 : nbc ≠ w.heap.size + 1 := by omega
  have e2 : nbc ≠ w.heap.size + 2 := by omega
  have e3 : nbc ≠ bx := by omega
  have e4 := Ne.symm e0
  have e5 := Ne.symm e1
  have e6 := Ne.symm e2
  have e7 := Ne.symm e3
  go_region
  clear m6 m7 m12 m13 m14 m15 r6 r7 r12 r13 r14 r15 k0 k1 e0 e1 e2 e3 e4 e5 e6 e7 d0 y0 y1 y2 y3 y4 y5
  obtain ⟨V9, hV9⟩ : ∃ U, U = ((((((w5.setCell ⟨nbc, 6, none⟩ (.int .u32 (us : Int))).setCell ⟨nbc, 7, none⟩ (.int .u32 (ug : Int))).setCell ⟨nbc, 12, none⟩ (.int .u32 (fs : Int))).setCell ⟨nbc, 13, none⟩ (.int .u32 (fg : Int))).setCell ⟨nbc, 14, none⟩ (.int .u32 (bs : Int))).setCell ⟨nbc, 15, none⟩ (.int .u32 (bg : Int))).drew := ⟨_, rfl⟩
  have H9 : Hid (TreeRw B Q V9 tb X (updH (updH (updH (toH X.F) i 0 (us, ug)) i 3 (fs, fg)) i 4 (bs, bg)) ∧ FrG [120] Q w5 V9) := Lib.hid (by
    have h3 := HT8.out.set3 HI.out HMI.out us ug fs fg bs bg
    rw [hV9]
    exact ⟨h3.1.below (Below.refl _ _).drew, h3.2.drew⟩)
  rw [← hV9]
  have HX9 := Lib.hid ((HSW.out _ HB8.out).2.2.frg H9.out.2)
  have HFX9 := Lib.hid (H9.out.2.blk HFX8.out (by decide))
  have HLOW : Hid (Below w.heap.size w w5) := Lib.hid (HSW.out _ HB8.out).2.1
  have HFR9 : Hid (FrG [120] Q w V9) := Lib.hid ((FrG.of_below HLOW.out : FrG [120] Q w w5).trans H9.out.2 (fun _ h => .inl h))
  clear hV9 HUX8 HSW
  obtain ⟨y0, y1, y2, y3, y4, y5⟩ := HX9.out.cells
  have k0 := cell_blk HFX9.out 0 rfl
  have k1 := cell_blk HFX9.out 1 rfl
  simp at k0 k1
  go_wp2_with fail
  refine (HSf.out V9 _ H9.out.1 si gi).mono ?_
  rintro e V10 ⟨rfl, h10, f10⟩
  have H10 := Lib.hid (And.intro h10 f10)
  clear h10 f10
  have HX10 := Lib.hid (HX9.out.frg H10.out.2)
  have HFR10 : Hid (FrG [120] Q w V10) := Lib.hid (HFR9.out.trans H10.out.2 (fun _ h => .inl h))
  clear y0 y1 y2 y3 y4 y5 k0 k1
  obtain ⟨y0, y1, y2, y3, y4, y5⟩ := HX10.out.cells
  go_wp2_with fail
  refine (HSb.out V10 _ H10.out.1 si gi).mono ?_
  rintro e V11 ⟨rfl, h11, f11⟩
  have H11 := Lib.hid (And.intro h11 f11)
  clear h11 f11
  go_wp2_with fail
  go_ret
  exact ⟨rfl, HFIN.out V11 (by rw [HEND.out]; exact H11.out.1), HFR10.out.trans H11.out.2 (fun _ h => .inl h)⟩
end
end Go.Proofs.YtelhnaphkbpakaaDoor
