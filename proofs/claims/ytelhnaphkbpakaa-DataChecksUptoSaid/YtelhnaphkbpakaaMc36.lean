/- DataBack walked: what is done is undone; Equal is an equivalence. -/
import Derived.Deep.DeepCutAuto
import Derived.Test.YtelhnaphkbpakaaMc35
namespace Go.Proofs.Ytelhnaphkbpakaa
open Go.RowKit
set_option linter.unusedVariables false
set_option maxRecDepth 100000

def pairCells (A B : Nd) : Array Value :=
  #[.int .i64 A.kind, .string A.name, .slice A.da A.data.length A.dc, .slice A.aa A.L.length A.ac, .int .u32 A.slot, .int .u32 A.gen, .int .i64 B.kind, .string B.name, .slice B.da B.data.length B.dc, .slice B.aa B.L.length B.ac, .int .u32 B.slot, .int .u32 B.gen]
theorem pair_cells {w : World} {b : Nat} {A B : Nd} (h : w.heap[b]? = some (.cells (pairCells A B) 55 (0, 0))) :
    w.cell? ⟨b, 0, none⟩ = some (.int .i64 A.kind) ∧ w.cell? ⟨b, 1, none⟩ = some (.string A.name) ∧ w.cell? ⟨b, 2, none⟩ = some (.slice A.da A.data.length A.dc) ∧ w.cell? ⟨b, 3, none⟩ = some (.slice A.aa A.L.length A.ac) ∧ w.cell? ⟨b, 4, none⟩ = some (.int .u32 A.slot) ∧ w.cell? ⟨b, 5, none⟩ = some (.int .u32 A.gen) ∧
    w.cell? ⟨b, 6, none⟩ = some (.int .i64 B.kind) ∧ w.cell? ⟨b, 7, none⟩ = some (.string B.name) ∧ w.cell? ⟨b, 8, none⟩ = some (.slice B.da B.data.length B.dc) ∧ w.cell? ⟨b, 9, none⟩ = some (.slice B.aa B.L.length B.ac) ∧ w.cell? ⟨b, 10, none⟩ = some (.int .u32 B.slot) ∧ w.cell? ⟨b, 11, none⟩ = some (.int .u32 B.gen) ∧ b < w.heap.size :=
  ⟨cell_blk h 0 rfl, cell_blk h 1 rfl, cell_blk h 2 rfl, cell_blk h 3 rfl, cell_blk h 4 rfl, cell_blk h 5 rfl, cell_blk h 6 rfl, cell_blk h 7 rfl, cell_blk h 8 rfl, cell_blk h 9 rfl, cell_blk h 10 rfl, cell_blk h 11 rfl, lt_of_some h⟩
/-- What DataBack has in hand: what it was given, boxed, and the node. -/
structure DbSt (w : World) (N : Nd) (off cnt : Int) (ba : Option Addr) (bc : Nat) (us : List Nat) (A B : Nd) (b8 : Nat) (W : World) : Prop where
  cut : W.heap[w.heap.size]? = some (.cells (cutCells N off cnt ba us.length bc) 40 (0, 0))
  pr : W.heap[w.heap.size + 1]? = some (.cells (pairCells A B) 55 (0, 0))
  x : W.heap[b8]? = some (.cells N.cells 30 (0, 0))
  low : Below w.heap.size w W
theorem DbSt.below {w : World} {N : Nd} {off cnt : Int} {ba : Option Addr} {bc : Nat} {us : List Nat} {A B : Nd} {b8 : Nat} {W W' : World} (h : DbSt w N off cnt ba bc us A B b8 W) (b : Below W.heap.size W W') : DbSt w N off cnt ba bc us A B b8 W' :=
  ⟨(b.block _ (lt_of_some h.cut)).trans h.cut, (b.block _ (lt_of_some h.pr)).trans h.pr, (b.block _ (lt_of_some h.x)).trans h.x, h.low.trans (b.mono h.low.size)⟩
/-- A node in its box. -/
structure NdBx (b : Nat) (P : Nd) (W : World) : Prop where
  x : W.heap[b]? = some (.cells P.cells 30 (0, 0))
  nd : NdIn W P
theorem NdBx.below {b : Nat} {P : Nd} {W W' : World} (h : NdBx b P W) (b' : Below W.heap.size W W') : NdBx b P W' := ⟨(b'.block _ (lt_of_some h.x)).trans h.x, h.nd.below b'⟩
theorem NdBx.new {P : Nd} {w : World} (h : NdIn w P) : NdBx w.heap.size P (w.alloc (.cells P.cells 30)) := ⟨Go.heap_alloc_new w _, h.below ((Below.refl _ w).alloc (Nat.le_refl _) _)⟩
theorem BPost.told {p : Prop} {w : World} {r : Bool} (hr : r = true ↔ p) {e : Ending} {w' : World} (h : BPost p w e w') : e = .returned (.bool r) ∧ Below w.heap.size w w' := by
  obtain ⟨r', he, hr', hb⟩ := h
  have : r' = r := by cases r <;> cases r' <;> simp_all
  rw [← this]
  exact ⟨he, hb⟩

theorem two_fill {we U : World} {g1 g2 : Nat} (A B : Nd) (b : Below we.heap.size we U) (h1 : we.heap.size ≤ g1) (h2 : we.heap.size ≤ g2) (hne : g1 ≠ g2) (e1 : U.heap[g1]? = some (.cells Nd.zero.cells 30 (0, 0))) (e2 : U.heap[g2]? = some (.cells Nd.zero.cells 30 (0, 0))) :
    ∃ U3, ((((((U.setCell ⟨g1, 0, none⟩ (.int .i64 A.kind)).setCell ⟨g1, 1, none⟩ (.string A.name)).setCell ⟨g1, 2, none⟩ (.slice A.da A.data.length A.dc)).setCell ⟨g1, 3, none⟩ (.slice A.aa A.L.length A.ac)).setCell ⟨g1, 4, none⟩ (.int .u32 A.slot)).setCell ⟨g1, 5, none⟩ (.int .u32 A.gen)) = U3 ∧ Below we.heap.size we U3 ∧ U3.heap[g2]? = some (.cells Nd.zero.cells 30 (0, 0)) ∧
    ∃ U4, ((((((U3.setCell ⟨g2, 0, none⟩ (.int .i64 B.kind)).setCell ⟨g2, 1, none⟩ (.string B.name)).setCell ⟨g2, 2, none⟩ (.slice B.da B.data.length B.dc)).setCell ⟨g2, 3, none⟩ (.slice B.aa B.L.length B.ac)).setCell ⟨g2, 4, none⟩ (.int .u32 B.slot)).setCell ⟨g2, 5, none⟩ (.int .u32 B.gen)) = U4 ∧ Below we.heap.size we U4 ∧ U4.heap[g1]? = some (.cells A.cells 30 (0, 0)) ∧ U4.heap[g2]? = some (.cells B.cells 30 (0, 0)) := by
  obtain ⟨c1, f1⟩ := six_cells e1 (.int .i64 A.kind) (.string A.name) (.slice A.da A.data.length A.dc) (.slice A.aa A.L.length A.ac) (.int .u32 A.slot) (.int .u32 A.gen)
  have d2 := six_other e2 (Ne.symm hne) (.int .i64 A.kind) (.string A.name) (.slice A.da A.data.length A.dc) (.slice A.aa A.L.length A.ac) (.int .u32 A.slot) (.int .u32 A.gen)
  refine ⟨_, rfl, b.trans ((f1.below (Nat.le_of_lt (lt_of_some e1))).mono h1), d2, _, rfl, ?_, ?_, ?_⟩
  · obtain ⟨c2, f2⟩ := six_cells d2 (.int .i64 B.kind) (.string B.name) (.slice B.da B.data.length B.dc) (.slice B.aa B.L.length B.ac) (.int .u32 B.slot) (.int .u32 B.gen)
    exact (b.trans ((f1.below (Nat.le_of_lt (lt_of_some e1))).mono h1)).trans ((f2.below (Nat.le_of_lt (lt_of_some d2))).mono h2)
  · exact six_other c1 hne _ _ _ _ _ _
  · exact (six_cells d2 _ _ _ _ _ _).1
theorem two_zero (we : World) : Below we.heap.size we ((we.alloc (.cells Nd.zero.cells 30)).alloc (.cells Nd.zero.cells 30)).drew ∧ ((we.alloc (.cells Nd.zero.cells 30)).alloc (.cells Nd.zero.cells 30)).drew.heap[we.heap.size]? = some (.cells Nd.zero.cells 30 (0, 0)) ∧ ((we.alloc (.cells Nd.zero.cells 30)).alloc (.cells Nd.zero.cells 30)).drew.heap[we.heap.size + 1]? = some (.cells Nd.zero.cells 30 (0, 0)) :=
  ⟨(((Below.refl _ we).alloc (Nat.le_refl _) _).alloc (by simp) _).drew, alloc_blk (Go.heap_alloc_new we _) _, by
    have := Go.heap_alloc_new (we.alloc (.cells Nd.zero.cells 30)) (.cells Nd.zero.cells 30); rwa [World.size_alloc] at this⟩

set_option maxHeartbeats 32000000 in
theorem dataBack_calls (w : World) (N : Nd) (off cnt : Int) {ba : Option Addr} (bc : Nat) {us : List Nat} (h : NdIn w N) (hB0 : N.Bd 1048575) (hu : Sl16 w ba us) (hul : us.length ≤ 1048575) (name : ByteArray) (hns : name.size ≤ 1048576) (A B : Nd) (hA : NdIn w A) (hAB : A.Bd 1048576) (hBn : NdIn w B) (hBB : B.Bd 1048576) :
    Calls Try.prog 8 #[.agg (cutCells N off cnt ba us.length bc), .string name, .agg (pairCells A B)] w fun e w' => e = .returned (.bool true) ∧ Below w.heap.size w w' := by
  have hB := hB0.mono (show 1048575 ≤ 1048576 by decide)
  obtain ⟨V, hV⟩ : ∃ V, V = (w.alloc (.cells (cutCells N off cnt ba us.length bc) 40)).alloc (.cells (pairCells A B) 55) := ⟨_, rfl⟩
  have hbV : Below w.heap.size w V := by rw [hV]; exact ((Below.refl _ w).alloc (Nat.le_refl _) _).alloc (by simp) _
  have x0 : V.heap[w.heap.size]? = some (.cells (cutCells N off cnt ba us.length bc) 40 (0, 0)) := by rw [hV]; exact alloc_blk (Go.heap_alloc_new w _) _
  have x1 : V.heap[w.heap.size + 1]? = some (.cells (pairCells A B) 55 (0, 0)) := by
    rw [hV]; have := Go.heap_alloc_new (w.alloc (.cells (cutCells N off cnt ba us.length bc) 40)) (.cells (pairCells A B) 55); rwa [World.size_alloc] at this
  have hV2 := hV
  have HX := Lib.hid (And.intro x0 (And.intro x1 hbV))
  have HI := Lib.hid (And.intro h (And.intro hB (And.intro hu (And.intro hA (And.intro hAB (And.intro hBn hBB))))))
  have HAW := Lib.hid (awake_true V)
  obtain ⟨ul, eul⟩ : ∃ ul, ul = us.length := ⟨_, rfl⟩
  have HUL := Lib.hid eul
  obtain ⟨kc, ekc⟩ : ∃ kc, checkC N.c = kc := ⟨_, rfl⟩
  obtain ⟨k1, ek1⟩ : ∃ k1, (partD N.kind off cnt N.data.length).2 = k1 := ⟨_, rfl⟩
  obtain ⟨xs, exs⟩ : ∃ xs, subX N.kind off cnt N.data = xs := ⟨_, rfl⟩
  obtain ⟨xl, exl⟩ : ∃ xl, xl = xs.length := ⟨_, rfl⟩
  obtain ⟨k2, ek2⟩ : ∃ k2, (setAttrD N.c name us).2 = k2 := ⟨_, rfl⟩
  have hxl : xs.length ≤ 1048576 := by rw [← exs]; exact Nat.le_trans (subX_len _ _ _ _) hB.data
  have bN := hB.mono (show 1048576 ≤ 1099511627776 by decide)
  have HCK : Hid (∀ (W : World) (M : Nd) (k : Int), NdIn W M → checkC M.c = k → Calls Try.prog 15 #[M.v] W fun e w' => e = .returned (.int .i64 k) ∧ Below W.heap.size W w') := Lib.hid (fun W M k h e => check_u W M h e)
  have HCL : Hid (∀ (W : World), NdIn W N → Calls Try.prog 20 #[N.v] W fun e w' => ∃ M : Nd, e = .returned M.v ∧ M.Same N ∧ Fresh W.heap.size w' M ∧ Below W.heap.size W w') := Lib.hid (fun W h => clone_calls W N h bN)
  have HEQ : Hid (∀ (W : World) (M P : Nd), NdIn W M → NdIn W P → M.L.length ≤ 1099511627776 → P.L.length ≤ 1099511627776 → Calls Try.prog 17 #[M.v, P.v] W (BPost (EqD M.c P.c) W)) := Lib.hid (fun W M P h1 h2 h3 h4 => equal_calls W M P h1 h2 h3 h4)
  have HEQT : Hid (∀ (W : World) (M P : Nd), NdIn W M → NdIn W P → M.L.length ≤ 1099511627776 → P.L.length ≤ 1099511627776 → EqD M.c P.c → Calls Try.prog 17 #[M.v, P.v] W fun e w' => e = .returned (.bool true) ∧ Below W.heap.size W w') := Lib.hid (fun W M P h1 h2 h3 h4 he => (equal_calls W M P h1 h2 h3 h4).mono fun e w' hp => hp.told ⟨fun _ => he, fun _ => rfl⟩)
  have HSUB : Hid (∀ (W : World), NdIn W N → Calls Try.prog 23 #[N.v, .int .i64 off, .int .i64 cnt] W fun e w' => ∃ a, e = .returned (.tuple #[.slice a xl xl, .int .i64 k1]) ∧ Clip16 W.heap.size w' a xs ∧ Below W.heap.size W w') := Lib.hid (fun W h => by rw [exl]; exact sub_u W N h bN off cnt ek1 exs)
  have HRE : Hid (∀ (W : World), NdIn W N → Sl16 W ba us → Calls Try.prog 26 #[N.v, .int .i64 off, .int .i64 cnt, .slice ba ul bc] W fun e w' => ∃ M : Nd, e = .returned (.tuple #[M.v, .int .i64 k1]) ∧ M.c = (replD N.c off cnt us).1 ∧ Fresh W.heap.size w' M ∧ Below W.heap.size W w') := Lib.hid (fun W h h2 => by
    have hh := repl_calls W N h bN off cnt bc h2 (by have := hB.data; omega)
    rw [replD_code, show (partD N.c.kind off cnt N.c.data.length).2 = k1 from ek1] at hh
    rw [eul]
    exact hh)
  have HRB : Hid (∀ (W : World) (M : Nd) (a5 : Option Addr) (c5 : Nat), k1 = 0 → NdIn W M → M.c = (replD N.c off cnt us).1 → Sl16 W a5 xs → Calls Try.prog 26 #[M.v, .int .i64 off, .int .i64 (ul : Int), .slice a5 xl c5] W fun e w' => ∃ Q : Nd, e = .returned (.tuple #[Q.v, .int .i64 0]) ∧ Q.c = N.c ∧ Fresh W.heap.size w' Q ∧ Below W.heap.size W w') := Lib.hid (fun W M a5 c5 k h hc h2 => by
    have hbd : M.Bd 1099511627776 := NC.Bd.nd (by rw [hc]; exact replD_bd (b := 1048576) (b' := 1099511627776) hB.c off cnt us (by decide) (by omega))
    have hd : M.data.length + xs.length ≤ 1099511627776 := by
      have h3 : (replD N.c off cnt us).1.Bd 4194304 := replD_bd (b := 1048576) hB.c off cnt us (by decide) (by omega)
      have h4 := h3.data
      rw [← hc] at h4
      have h5 : M.data.length ≤ 4194304 := h4
      omega
    have hh := repl_calls W M h hbd off (us.length : Int) c5 h2 hd
    have hk : (partD N.c.kind off cnt N.c.data.length).2 = 0 := by rw [← k, ← ek1]; rfl
    have hx : subX N.c.kind off cnt N.c.data = xs := exs
    rw [hc, ← hx, replD_back us hk] at hh
    rw [exl, eul, ← hx]
    exact hh)
  have HSM : Hid (∀ (W : World) (Q : Nd), NdIn W Q → NdIn W N → Q.c = N.c → Calls Try.prog 35 #[Q.v, N.v] W fun e w' => e = .returned (.bool true) ∧ Below W.heap.size W w') := Lib.hid (fun W Q h1 h2 h3 => same_true W Q N h1 h2 h3)
  have HSA : Hid (∀ (W : World), NdIn W N → Sl16 W ba us → Calls Try.prog 31 #[N.v, .string name, .slice ba ul bc] W fun e w' => ∃ M : Nd, e = .returned (.tuple #[M.v, .int .i64 k2]) ∧ M.c = (setAttrD N.c name us).1 ∧ Fresh W.heap.size w' M ∧ Below W.heap.size W w') := Lib.hid (fun W h h2 => by
    have hh := setattr_calls W N h bN name (by omega) bc h2 (by omega)
    rw [ek2] at hh
    rw [eul]
    exact hh)
  have HAT : Hid (∀ (W : World) (M : Nd), k2 = 0 → NdIn W M → M.c = (setAttrD N.c name us).1 → Calls Try.prog 29 #[M.v, .string name] W fun e w' => ∃ a, e = .returned (.tuple #[.slice a ul ul, .bool true, .int .i64 0]) ∧ Clip16 W.heap.size w' a us ∧ Below W.heap.size W w') := Lib.hid (fun W M k h hc => by
    have hbd : M.Bd 1099511627776 := NC.Bd.nd (NC.Bd.nd' (by rw [hc]; exact setAttrD_bd (b := 1048575) hB0.c name hul) (by decide))
    rw [eul]
    exact attr_u W M h hbd name (by rw [hc]; exact (set_law (by rw [ek2]; exact k)).1))
  obtain ⟨xs2, is2, k3, e3⟩ : ∃ xs is k, attrO N.c name = (xs, is, k) := ⟨_, _, _, rfl⟩
  obtain ⟨xl2, exl2⟩ : ∃ xl, xl = xs2.length := ⟨_, rfl⟩
  have HAN : Hid (∀ (W : World), NdIn W N → Calls Try.prog 29 #[N.v, .string name] W fun e w' => ∃ a, e = .returned (.tuple #[.slice a xl2 xl2, .bool is2, .int .i64 k3]) ∧ Clip16 W.heap.size w' a xs2 ∧ Below W.heap.size W w') := Lib.hid (fun W h => by rw [exl2]; exact attr_u W N h bN name e3)
  have HCT : Hid (∀ (W : World) (M : Nd), k2 = 0 → NdIn W M → M.c = (setAttrD N.c name us).1 → Calls Try.prog 33 #[M.v, .string name] W fun e w' => ∃ X : Nd, e = .returned (.tuple #[X.v, .bool true, .int .i64 0]) ∧ ((kc = 0 → checkC X.c = 0) ∧ (is2 = false → EqD X.c N.c) ∧ X.L.length ≤ 1099511627776) ∧ Fresh W.heap.size w' X ∧ Below W.heap.size W w') := Lib.hid (fun W M k h hc => by
    obtain ⟨_, _, x, h1, h2, h3⟩ := set_law (c := N.c) (name := name) (us := us) (by rw [ek2]; exact k)
    have hbd : M.Bd 1048576 := NC.Bd.nd (by rw [hc]; exact setAttrD_bd (b := 1048575) hB0.c name hul)
    have hcd : cutD M.c name = (x, true, 0) := by rw [hc]; exact h1
    refine (cutattr_calls W M h hbd name hcd).mono ?_
    rintro e w' ⟨X, he, hXc, hf, hb⟩
    refine ⟨X, he, ⟨fun h0 => by rw [hXc]; exact h2 (by rw [ekc]; exact h0), fun h0 => by rw [hXc]; exact h3 (by rw [e3]; exact h0), ?_⟩, hf, hb⟩
    have hx : x.attrs.length ≤ 1099511627776 := by
      have := (cutD_bd (b := 1048576) hbd.c name).attrs
      rw [hc, h1] at this
      exact Nat.le_trans this (by decide)
    rw [← hXc] at hx
    simpa [Nd.c] using hx)
  have HSU : Hid (∀ (W : World) (a : Option Addr) (ca cb : Nat), Sl16 W a us → Sl16 W ba us → Calls Try.prog 25 #[.slice a ul ca, .slice ba ul cb] W fun e w' => e = .returned (.bool true) ∧ Below W.heap.size W w') := Lib.hid (fun W a ca cb h1 h2 => by
    have hh := sameUnits_calls ca cb h1 h2
    rw [decide_eq_true rfl, ← eul] at hh
    exact hh.mono fun e w' ⟨he, k, hk⟩ => ⟨he, by rw [← hk]; exact ((FrT.refl [] _ W).drewN k).below (Nat.le_refl _)⟩)
  have HCR : Hid (∀ (M : Nd), k1 = 0 → M.c = (replD N.c off cnt us).1 → checkC M.c = kc) := Lib.hid (fun M k hc => by rw [hc, check_repl us (by rw [← k, ← ek1]; rfl), ekc])
  have HCS : Hid (∀ (M : Nd), k2 = 0 → M.c = (setAttrD N.c name us).1 → checkC M.c = kc) := Lib.hid (fun M k hc => by rw [hc, (set_law (by rw [ek2]; exact k)).2.1, ekc])
  have HLN : Hid (N.L.length ≤ 1099511627776 ∧ A.L.length ≤ 1099511627776 ∧ B.L.length ≤ 1099511627776) := Lib.hid ⟨bN.attrs, Nat.le_trans hAB.attrs (by decide), Nat.le_trans hBB.attrs (by decide)⟩
  have HKC := Lib.hid ekc
  have hV3 := hV2
  unfold cutCells pairCells at hV2 ⊢
  rw [← eul] at hV2 ⊢
  unfold Nd.v Nd.cells at HCK HCL HEQ HEQT HSUB HRE HRB HSM HSA HAT HAN HCT
  rw [hV2] at HAW
  clear hV h hB hB0 hu hA hAB hBn hBB x0 x1 hbV ek1 exs exl ek2 e3 exl2 hxl bN ekc hul hns eul
  go_enter Try.func8, Try.ntmps8
  go_wp2_with fail
  refine HAW.out.mono ?_
  rintro e w1 ⟨rfl, b1⟩
  rw [← hV2] at b1
  have HB1 := Lib.hid (HX.out.2.2.trans (b1.mono HX.out.2.2.size))
  have hcut1 := (b1.block _ (lt_of_some HX.out.1)).trans HX.out.1
  have hpr1 := (b1.block _ (lt_of_some HX.out.2.1)).trans HX.out.2.1
  have HC1 := Lib.hid (And.intro hcut1 hpr1)
  obtain ⟨y0, y1, y2, y3, y4, y5, y6, y7, y8, ly⟩ := cut_cells hcut1
  rw [← HUL.out] at y8
  clear b1 hV2 hV3 HAW HX hcut1 hpr1
  go_upto_region 3 with fail
  obtain ⟨wx, hwx⟩ : ∃ wx, wx = w1.alloc (.cells N.cells 30) := ⟨_, rfl⟩
  have hwx2 := hwx
  unfold Nd.cells at hwx2
  rw [← hwx2]
  have bx : Below w1.heap.size w1 wx := by rw [hwx]; exact (Below.refl _ w1).alloc (Nat.le_refl _) _
  have xx : wx.heap[w1.heap.size]? = some (.cells N.cells 30 (0, 0)) := by rw [hwx]; exact Go.heap_alloc_new w1 _
  obtain ⟨b8, hb8⟩ : ∃ b8, b8 = w1.heap.size := ⟨_, rfl⟩
  rw [← hb8] at xx ⊢
  have hst : DbSt w N off cnt ba bc us A B b8 wx := ⟨(bx.block _ (lt_of_some HC1.out.1)).trans HC1.out.1, (bx.block _ (lt_of_some HC1.out.2)).trans HC1.out.2, xx, HB1.out.trans (bx.mono HB1.out.size)⟩
  have KST : Hid (∀ W, Below wx.heap.size wx W → DbSt w N off cnt ba bc us A B b8 W) := Lib.hid (fun W b => hst.below b)
  have KND : Hid (∀ W, Below wx.heap.size wx W → NdIn W N ∧ Sl16 W ba us ∧ NdIn W A ∧ NdIn W B) := Lib.hid (fun W b => by
    have hl := (hst.below b).low
    exact ⟨HI.out.1.below hl, HI.out.2.2.1.below hl, HI.out.2.2.2.1.below hl, HI.out.2.2.2.2.2.1.below hl⟩)
  have HBx := Lib.hid (Below.refl wx.heap.size wx)
  clear hwx hwx2 bx xx hb8 hst HC1 HB1 HI y0 y1 y2 y3 y4 y5 y6 y7 y8 ly
  obtain ⟨z0, z1, z2, z3, z4, z5, lz⟩ := box_cells (KST.out wx HBx.out).x
  go_wp2_with fail
  refine (HCK.out wx N kc (KND.out wx HBx.out).1 HKC.out).mono ?_
  rintro e w2 ⟨rfl, b2⟩
  have HB2 := Lib.hid (HBx.out.trans b2)
  have HD2 : Hid (Below wx.heap.size wx w2.drew) := Lib.hid (HB2.out.drew)
  clear z0 z1 z2 z3 z4 z5 lz
  clear b2
  obtain ⟨z0, z1, z2, z3, z4, z5, lz⟩ := box_cells (KST.out w2 HB2.out).x
  have HS : Hid (∀ W, Below wx.heap.size wx W → (W.cell? ⟨b8, 0, none⟩ = some (.int .i64 N.kind) ∧ W.cell? ⟨b8, 1, none⟩ = some (.string N.name) ∧ W.cell? ⟨b8, 2, none⟩ = some (.slice N.da N.data.length N.dc) ∧ W.cell? ⟨b8, 3, none⟩ = some (.slice N.aa N.L.length N.ac) ∧ W.cell? ⟨b8, 4, none⟩ = some (.int .u32 N.slot) ∧ W.cell? ⟨b8, 5, none⟩ = some (.int .u32 N.gen))) := Lib.hid (fun W b => by
    obtain ⟨a0, a1, a2, a3, a4, a5, _⟩ := box_cells (KST.out W b).x
    exact ⟨a0, a1, a2, a3, a4, a5⟩)
  have hkk : (kc != kc) = false := by simp
  go_upto_region 4 with fail
  go_region_held3 (fun W => W.cell? ⟨b8, 0, none⟩ = some (.int .i64 N.kind) ∧ W.cell? ⟨b8, 1, none⟩ = some (.string N.name) ∧ W.cell? ⟨b8, 2, none⟩ = some (.slice N.da N.data.length N.dc) ∧ W.cell? ⟨b8, 3, none⟩ = some (.slice N.aa N.L.length N.ac) ∧ W.cell? ⟨b8, 4, none⟩ = some (.int .u32 N.slot) ∧ W.cell? ⟨b8, 5, none⟩ = some (.int .u32 N.gen))
    (first | exact HS.out _ hb6 | exact HS.out _ hb5 | exact HS.out _ hb4 | exact HS.out _ hb3 | exact HS.out _ HD2.out)
    (first
      | (have hh := hb5; go_at_call 17; refine (HEQT.out _ N M5 (KND.out _ hb5).1 hf5.nd HLN.out.1 (by rw [hs5.len]; exact HLN.out.1) (by rw [hs5.c]; exact EqD.refl _)).mono ?_; rintro e w6 ⟨rfl, b6⟩; have hb6 := hb5.trans (b6.mono hb5.size))
      | (have hh := hb4; go_at_call 20; refine (HCL.out _ (KND.out _ hb4).1).mono ?_; rintro e w5 ⟨M5, rfl, hs5, hf5, b5⟩; have hb5 := hb4.trans (b5.mono hb4.size))
      | (have hh := hb3; go_at_call 15; refine (HCK.out _ M3 kc hf3.nd (by rw [hs3.c]; exact HKC.out)).mono ?_; rintro e w4 ⟨rfl, b4⟩; have hb4 := hb3.trans (b4.mono hb3.size))
      | (go_at_call 20; refine (HCL.out _ (KND.out _ HD2.out).1).mono ?_; rintro e w3 ⟨M3, rfl, hs3, hf3, b3⟩; have hb3 := HD2.out.trans (b3.mono HD2.out.size)))
  have HB6 := Lib.hid hb6
  clear hb3 hb4 hb5 hb6 b3 b4 b5 b6 hs3 hs5 hf3 hf5 HD2 HB2 hkk
  clear z0 z1 z2 z3 z4 z5 lz
  obtain ⟨z0, z1, z2, z3, z4, z5, lz⟩ := box_cells (KST.out w6 HB6.out).x
  obtain ⟨y0, y1, y2, y3, y4, y5, y6, y7, y8, ly⟩ := cut_cells (KST.out w6 HB6.out).cut
  rw [← HUL.out] at y8
  go_wp2_with fail
  refine (HSUB.out w6 (KND.out w6 HB6.out).1).mono ?_
  rintro e w7 ⟨a7, rfl, hc7, b7⟩
  have HB7 := Lib.hid (HB6.out.trans (b7.mono HB6.out.size))
  have KSL : Hid (∀ W, Below w7.heap.size w7 W → Sl16 W a7 xs) := Lib.hid (fun W b => hc7.sl.below b)
  clear b7 hc7
  clear z0 z1 z2 z3 z4 z5 lz
  clear y0 y1 y2 y3 y4 y5 y6 y7 y8 ly
  obtain ⟨z0, z1, z2, z3, z4, z5, lz⟩ := box_cells (KST.out w7 HB7.out).x
  obtain ⟨y0, y1, y2, y3, y4, y5, y6, y7, y8, ly⟩ := cut_cells (KST.out w7 HB7.out).cut
  rw [← HUL.out] at y8
  go_wp2_with fail
  refine (HRE.out w7 (KND.out w7 HB7.out).1 (KND.out w7 HB7.out).2.1).mono ?_
  rintro e w8 ⟨P, rfl, hPc, hPf, b8'⟩
  have HB8 := Lib.hid (HB7.out.trans (b8'.mono HB7.out.size))
  have H78 := Lib.hid b8'
  have HPC := Lib.hid hPc
  have hP := hPf.nd
  clear b8' hPc hPf
  clear z0 z1 z2 z3 z4 z5 lz
  clear y0 y1 y2 y3 y4 y5 y6 y7 y8 ly
  have hkk : (k1 != k1) = false := by simp
  go_upto_region 8 with fail
  obtain ⟨W12, hW12⟩ : ∃ W, W = w8.alloc (.cells P.cells 30) := ⟨_, rfl⟩
  have hW122 := hW12
  unfold Nd.cells at hW122
  rw [← hW122]
  have hbx : NdBx w8.heap.size P W12 := by rw [hW12]; exact NdBx.new hP
  have hbb : Below w8.heap.size w8 W12 := by rw [hW12]; exact (Below.refl _ w8).alloc (Nat.le_refl _) _
  obtain ⟨b12, hb12⟩ : ∃ b, b = w8.heap.size := ⟨_, rfl⟩
  rw [← hb12] at hbx ⊢
  have KB12 : Hid (∀ W, Below W12.heap.size W12 W → NdBx b12 P W) := Lib.hid (fun W b => hbx.below b)
  have HL12 : Hid (Below w8.heap.size w8 W12) := Lib.hid hbb
  clear hW12 hW122 hbx hbb hb12
  have HB12 := Lib.hid (HB8.out.trans (HL12.out.mono HB8.out.size))
  have H712 := Lib.hid (H78.out.trans (HL12.out.mono H78.out.size))
  clear hP HB6 HB7
  go_upto_if 72 with fail
  go_cut [] from 74 to 97 (fun wc => Below W12.heap.size W12 wc)
  case first =>
    by_cases hk1 : k1 = 0
    · have HK1 := Lib.hid hk1
      subst hk1
      obtain ⟨v0, v1, v2, v3, v4, v5, lv⟩ := box_cells (KB12.out W12 (Below.refl _ _)).x
      obtain ⟨y0, y1, y2, y3, y4, y5, y6, y7, y8, ly⟩ := cut_cells (KST.out W12 HB12.out).cut
      rw [← HUL.out] at y8
      go_wp2_with fail
      refine (HRB.out W12 P a7 xl (by trivial) (KB12.out W12 (Below.refl _ _)).nd HPC.out (KSL.out W12 H712.out)).mono ?_
      rintro e w9 ⟨Q, rfl, hQc, hQf, b9⟩
      have H129 := Lib.hid b9
      have HB9 := Lib.hid (HB12.out.trans (b9.mono HB12.out.size))
      have hP := hQf.nd
      have HQC := Lib.hid hQc
      clear b9 hQf hQc
      clear v0 v1 v2 v3 v4 v5 lv
      clear y0 y1 y2 y3 y4 y5 y6 y7 y8 ly
      go_upto_region 12 with fail
      obtain ⟨W14, hW14⟩ : ∃ W, W = w9.alloc (.cells Q.cells 30) := ⟨_, rfl⟩
      have hW142 := hW14
      unfold Nd.cells at hW142
      rw [← hW142]
      have hbx : NdBx w9.heap.size Q W14 := by rw [hW14]; exact NdBx.new hP
      have hbb : Below w9.heap.size w9 W14 := by rw [hW14]; exact (Below.refl _ w9).alloc (Nat.le_refl _) _
      obtain ⟨b14, hb14⟩ : ∃ b, b = w9.heap.size := ⟨_, rfl⟩
      rw [← hb14] at hbx ⊢
      have KB14 : Hid (∀ W, Below W14.heap.size W14 W → NdBx b14 Q W) := Lib.hid (fun W b => hbx.below b)
      have HL14 : Hid (Below w9.heap.size w9 W14) := Lib.hid hbb
      clear hW14 hW142 hbx hbb hb14
      have HB14 := Lib.hid (HB9.out.trans (HL14.out.mono HB9.out.size))
      have H1214 := Lib.hid (H129.out.trans (HL14.out.mono H129.out.size))
      clear hP
      obtain ⟨v0, v1, v2, v3, v4, v5, lv⟩ := box_cells (KB14.out W14 (Below.refl _ _)).x
      obtain ⟨z0, z1, z2, z3, z4, z5, lz⟩ := box_cells (KST.out W14 HB14.out).x
      go_wp2_with fail
      refine (HSM.out W14 Q (KB14.out W14 (Below.refl _ _)).nd (KND.out W14 HB14.out).1 HQC.out).mono ?_
      rintro e w10 ⟨rfl, b10⟩
      have H1210 := Lib.hid (H1214.out.trans (b10.mono H1214.out.size))
      clear b10
      clear v0 v1 v2 v3 v4 v5 lv
      clear z0 z1 z2 z3 z4 z5 lz
      obtain ⟨v0, v1, v2, v3, v4, v5, lv⟩ := box_cells (KB12.out w10 H1210.out).x
      go_wp2_with fail
      refine (HCK.out w10 P kc (KB12.out w10 H1210.out).nd (HCR.out P (by trivial) HPC.out)).mono ?_
      rintro e w11 ⟨rfl, b11⟩
      have H1211 := Lib.hid (H1210.out.trans (b11.mono H1210.out.size))
      clear b11
      clear v0 v1 v2 v3 v4 v5 lv
      have hcc : (kc != kc) = false := by simp
      go_wp2_with fail
      go_meet
      exact H1211.out
    · have e1 : (k1 == 0) = false := by simp; exact hk1
      clear hk1
      go_wp2_with fail
      go_meet
      exact Below.refl _ _
  case rest =>
    have HBc := Lib.hid (HB12.out.trans (hcut.mono HB12.out.size))
    clear hcut hkk HRE HRB HSM HCR HSUB
    obtain ⟨z0, z1, z2, z3, z4, z5, lz⟩ := box_cells (KST.out wc HBc.out).x
    obtain ⟨y0, y1, y2, y3, y4, y5, y6, y7, y8, ly⟩ := cut_cells (KST.out wc HBc.out).cut
    rw [← HUL.out] at y8
    go_wp2_with fail
    refine (HSA.out wc (KND.out wc HBc.out).1 (KND.out wc HBc.out).2.1).mono ?_
    rintro e w20 ⟨T, rfl, hTc, hTf, b20⟩
    have HB20 := Lib.hid (HBc.out.trans (b20.mono HBc.out.size))
    have HTC := Lib.hid hTc
    have hP := hTf.nd
    clear b20 hTc hTf
    clear z0 z1 z2 z3 z4 z5 lz
    clear y0 y1 y2 y3 y4 y5 y6 y7 y8 ly
    go_upto_region 15 with fail
    obtain ⟨W16, hW16⟩ : ∃ W, W = w20.alloc (.cells T.cells 30) := ⟨_, rfl⟩
    have hW162 := hW16
    unfold Nd.cells at hW162
    rw [← hW162]
    have hbx : NdBx w20.heap.size T W16 := by rw [hW16]; exact NdBx.new hP
    have hbb : Below w20.heap.size w20 W16 := by rw [hW16]; exact (Below.refl _ w20).alloc (Nat.le_refl _) _
    obtain ⟨b16, hb16⟩ : ∃ b, b = w20.heap.size := ⟨_, rfl⟩
    rw [← hb16] at hbx ⊢
    have KB16 : Hid (∀ W, Below W16.heap.size W16 W → NdBx b16 T W) := Lib.hid (fun W b => hbx.below b)
    have HL16 : Hid (Below w20.heap.size w20 W16) := Lib.hid hbb
    clear hW16 hW162 hbx hbb hb16
    have HB16 := Lib.hid (HB20.out.trans (HL16.out.mono HB20.out.size))
    clear hP HB20
    go_upto_if 107 with fail
    go_cut [] from 109 to 172 (fun wc => Below W16.heap.size W16 wc)
    case first =>
      by_cases hk2 : k2 = 0
      · subst hk2
        obtain ⟨v0, v1, v2, v3, v4, v5, lv⟩ := box_cells (KB16.out W16 (Below.refl _ _)).x
        go_wp2_with fail
        refine (HAT.out W16 T (by trivial) (KB16.out W16 (Below.refl _ _)).nd HTC.out).mono ?_
        rintro e w21 ⟨a21, rfl, hc21, b21⟩
        have H21 := Lib.hid b21
        have HB21 := Lib.hid (HB16.out.trans (b21.mono HB16.out.size))
        have HC21 := Lib.hid hc21.sl
        clear b21 hc21
        clear v0 v1 v2 v3 v4 v5 lv
        obtain ⟨y0, y1, y2, y3, y4, y5, y6, y7, y8, ly⟩ := cut_cells (KST.out w21 HB21.out).cut
        rw [← HUL.out] at y8
        go_wp2_with fail
        refine (HSU.out w21 a21 _ _ HC21.out (KND.out w21 HB21.out).2.1).mono ?_
        rintro e w22 ⟨rfl, b22⟩
        have H22 := Lib.hid (H21.out.trans (b22.mono H21.out.size))
        clear b22
        clear y0 y1 y2 y3 y4 y5 y6 y7 y8 ly
        obtain ⟨v0, v1, v2, v3, v4, v5, lv⟩ := box_cells (KB16.out w22 H22.out).x
        go_wp2_with fail
        refine (HCK.out w22 T kc (KB16.out w22 H22.out).nd (HCS.out T (by trivial) HTC.out)).mono ?_
        rintro e w23 ⟨rfl, b23⟩
        have H23 := Lib.hid (H22.out.trans (b23.mono H22.out.size))
        have HB23' := Lib.hid (HB16.out.trans (H23.out.mono HB16.out.size))
        have hcc : (kc != kc) = false := by simp
        clear b23
        clear v0 v1 v2 v3 v4 v5 lv
        obtain ⟨z0, z1, z2, z3, z4, z5, lz⟩ := box_cells (KST.out w23 HB23'.out).x
        go_wp2_with fail
        refine (HAN.out w23 (KND.out w23 HB23'.out).1).mono ?_
        rintro e w24 ⟨a24, rfl, hc24, b24⟩
        have H24 := Lib.hid (H23.out.trans (b24.mono H23.out.size))
        clear b24 hc24
        clear z0 z1 z2 z3 z4 z5 lz
        obtain ⟨v0, v1, v2, v3, v4, v5, lv⟩ := box_cells (KB16.out w24 H24.out).x
        go_wp2_with fail
        refine (HCT.out w24 T (by trivial) (KB16.out w24 H24.out).nd HTC.out).mono ?_
        rintro e w25 ⟨X, rfl, hXC, hXf, b25⟩
        have H25 := Lib.hid (H24.out.trans (b25.mono H24.out.size))
        have HXC := Lib.hid hXC
        have hP := hXf.nd
        clear b25 hXC hXf hcc
        clear v0 v1 v2 v3 v4 v5 lv
        go_upto_region 21 with fail
        obtain ⟨W23, hW23⟩ : ∃ W, W = w25.alloc (.cells X.cells 30) := ⟨_, rfl⟩
        have hW232 := hW23
        unfold Nd.cells at hW232
        rw [← hW232]
        have hbx : NdBx w25.heap.size X W23 := by rw [hW23]; exact NdBx.new hP
        have hbb : Below w25.heap.size w25 W23 := by rw [hW23]; exact (Below.refl _ w25).alloc (Nat.le_refl _) _
        obtain ⟨b23, hb23⟩ : ∃ b, b = w25.heap.size := ⟨_, rfl⟩
        rw [← hb23] at hbx ⊢
        have KB23 : Hid (∀ W, Below W23.heap.size W23 W → NdBx b23 X W) := Lib.hid (fun W b => hbx.below b)
        have HL23 : Hid (Below w25.heap.size w25 W23) := Lib.hid hbb
        clear hW23 hW232 hbx hbb hb23
        have H1623 := Lib.hid (H25.out.trans (HL23.out.mono H25.out.size))
        have HB23 := Lib.hid (HB16.out.trans (H1623.out.mono HB16.out.size))
        clear hP H21 H22 H23 H24 H25 HB21 HB23' HC21
        by_cases hkc : kc = 0
        · subst hkc
          cases is2 with
          | true =>
            have H15X : Hid (checkC X.c = 0) := Lib.hid (HXC.out.1 (by trivial))
            obtain ⟨v0, v1, v2, v3, v4, v5, lv⟩ := box_cells (KB23.out W23 (Below.refl _ _)).x
            go_wp2_with fail
            refine (HCK.out W23 X 0 (KB23.out W23 (Below.refl _ _)).nd H15X.out).mono ?_
            rintro e w26 ⟨rfl, b26⟩
            have H26 := Lib.hid b26
            clear b26
            clear v0 v1 v2 v3 v4 v5 lv
            go_wp2_with fail
            go_meet
            exact H1623.out.trans (H26.out.mono H1623.out.size)
          | false =>
            have H15X : Hid (checkC X.c = 0) := Lib.hid (HXC.out.1 (by trivial))
            obtain ⟨v0, v1, v2, v3, v4, v5, lv⟩ := box_cells (KB23.out W23 (Below.refl _ _)).x
            go_wp2_with fail
            refine (HCK.out W23 X 0 (KB23.out W23 (Below.refl _ _)).nd H15X.out).mono ?_
            rintro e w26 ⟨rfl, b26⟩
            have H26 := Lib.hid b26
            clear b26
            clear v0 v1 v2 v3 v4 v5 lv
            obtain ⟨v0, v1, v2, v3, v4, v5, lv⟩ := box_cells (KB23.out w26 H26.out).x
            have HB26 := Lib.hid (HB23.out.trans (H26.out.mono HB23.out.size))
            obtain ⟨z0, z1, z2, z3, z4, z5, lz⟩ := box_cells (KST.out w26 HB26.out).x
            go_wp2_with fail
            refine (HEQT.out w26 X N (KB23.out w26 H26.out).nd (KND.out w26 HB26.out).1 HXC.out.2.2 HLN.out.1 (HXC.out.2.1 (by trivial))).mono ?_
            rintro e w27 ⟨rfl, b27⟩
            have H27 := Lib.hid b27
            clear b27
            clear v0 v1 v2 v3 v4 v5 lv
            clear z0 z1 z2 z3 z4 z5 lz
            go_wp2_with fail
            go_meet
            exact H1623.out.trans ((H26.out.trans (H27.out.mono H26.out.size)).mono H1623.out.size)
        · have e1 : (kc == 0) = false := by simp; exact hkc
          clear hkc
          cases is2 with
          | true =>
            obtain ⟨v0, v1, v2, v3, v4, v5, lv⟩ := box_cells (KB23.out W23 (Below.refl _ _)).x
            go_wp2_with fail
            go_meet
            exact H1623.out
          | false =>
            obtain ⟨v0, v1, v2, v3, v4, v5, lv⟩ := box_cells (KB23.out W23 (Below.refl _ _)).x
            obtain ⟨z0, z1, z2, z3, z4, z5, lz⟩ := box_cells (KST.out W23 HB23.out).x
            go_wp2_with fail
            refine (HEQT.out W23 X N (KB23.out W23 (Below.refl _ _)).nd (KND.out W23 HB23.out).1 HXC.out.2.2 HLN.out.1 (HXC.out.2.1 (by trivial))).mono ?_
            rintro e w27 ⟨rfl, b27⟩
            have H27 := Lib.hid b27
            clear b27
            clear v0 v1 v2 v3 v4 v5 lv
            clear z0 z1 z2 z3 z4 z5 lz
            go_wp2_with fail
            go_meet
            exact H1623.out.trans (H27.out.mono H1623.out.size)
      · have e1 : (k2 == 0) = false := by simp; exact hk2
        clear hk2
        go_wp2_with fail
        go_meet
        exact Below.refl _ _
    case rest =>
      have HBe := Lib.hid (HB16.out.trans (hcut.mono HB16.out.size))
      clear HSA HAT HAN HCT HSU HCS HB16 HBc KSL H78 H712 KB12 KB16 HL12 HL16 HTC HPC
      go_upto_region 23 with fail
      obtain ⟨we, hwe⟩ : ∃ we, we = wc := ⟨_, rfl⟩
      rw [← hwe]
      rw [← hwe] at HBe
      clear hwe
      have HSP : Hid (∀ W, Below we.heap.size we W → (W.cell? ⟨w.heap.size + 1, 0, none⟩ = some (.int .i64 A.kind) ∧ W.cell? ⟨w.heap.size + 1, 1, none⟩ = some (.string A.name) ∧ W.cell? ⟨w.heap.size + 1, 2, none⟩ = some (.slice A.da A.data.length A.dc) ∧ W.cell? ⟨w.heap.size + 1, 3, none⟩ = some (.slice A.aa A.L.length A.ac) ∧ W.cell? ⟨w.heap.size + 1, 4, none⟩ = some (.int .u32 A.slot) ∧ W.cell? ⟨w.heap.size + 1, 5, none⟩ = some (.int .u32 A.gen) ∧ W.cell? ⟨w.heap.size + 1, 6, none⟩ = some (.int .i64 B.kind) ∧ W.cell? ⟨w.heap.size + 1, 7, none⟩ = some (.string B.name) ∧ W.cell? ⟨w.heap.size + 1, 8, none⟩ = some (.slice B.da B.data.length B.dc) ∧ W.cell? ⟨w.heap.size + 1, 9, none⟩ = some (.slice B.aa B.L.length B.ac) ∧ W.cell? ⟨w.heap.size + 1, 10, none⟩ = some (.int .u32 B.slot) ∧ W.cell? ⟨w.heap.size + 1, 11, none⟩ = some (.int .u32 B.gen))) := Lib.hid (fun W b => by
        obtain ⟨a0, a1, a2, a3, a4, a5, a6, a7, a8, a9, a10, a11, _⟩ := pair_cells (KST.out W (HBe.out.trans (b.mono HBe.out.size))).pr
        exact ⟨a0, a1, a2, a3, a4, a5, a6, a7, a8, a9, a10, a11⟩)
      go_cut [26, 27] from 173 to 176 (fun v26 v27 W => ∃ g1 g2 : Nat, v26 = .pointer (some ⟨g1, 0, none⟩) ∧ v27 = .pointer (some ⟨g2, 0, none⟩) ∧ NdBx g1 A W ∧ NdBx g2 B W ∧ Below we.heap.size we W)
      case first =>
        have HD1 : Hid (Below we.heap.size we (we.alloc (.cells #[.int .i64 0, .string ⟨#[]⟩, .slice none 0 0, .slice none 0 0, .int .u32 0, .int .u32 0] 30)).drew) := Lib.hid (((Below.refl _ we).alloc (Nat.le_refl _) _).drew)
        obtain ⟨p0, p1, p2, p3, p4, p5, p6, p7, p8, p9, p10, p11⟩ := HSP.out we (Below.refl _ _)
        refine wp_region_held_drew (S := fun W => (W.cell? ⟨w.heap.size + 1, 0, none⟩ = some (.int .i64 A.kind) ∧ W.cell? ⟨w.heap.size + 1, 1, none⟩ = some (.string A.name) ∧ W.cell? ⟨w.heap.size + 1, 2, none⟩ = some (.slice A.da A.data.length A.dc) ∧ W.cell? ⟨w.heap.size + 1, 3, none⟩ = some (.slice A.aa A.L.length A.ac) ∧ W.cell? ⟨w.heap.size + 1, 4, none⟩ = some (.int .u32 A.slot) ∧ W.cell? ⟨w.heap.size + 1, 5, none⟩ = some (.int .u32 A.gen) ∧ W.cell? ⟨w.heap.size + 1, 6, none⟩ = some (.int .i64 B.kind) ∧ W.cell? ⟨w.heap.size + 1, 7, none⟩ = some (.string B.name) ∧ W.cell? ⟨w.heap.size + 1, 8, none⟩ = some (.slice B.da B.data.length B.dc) ∧ W.cell? ⟨w.heap.size + 1, 9, none⟩ = some (.slice B.aa B.L.length B.ac) ∧ W.cell? ⟨w.heap.size + 1, 10, none⟩ = some (.int .u32 B.slot) ∧ W.cell? ⟨w.heap.size + 1, 11, none⟩ = some (.int .u32 B.gen))) (by kernel_rfl) ⟨p0, p1, p2, p3, p4, p5, p6, p7, p8, p9, p10, p11⟩ (fun hHeld => ?_)
        refine wpAnyH_take (i := 0) (v := ?_) rfl (by kernel_rfl) (by kernel_rfl) (by kernel_rfl) (fun _ _ _ h => h) (Or.inl ⟨by first | kernel_rfl | rfl, ?_⟩) (by assumption) ?_
        rotate_left
        · intro w hSw; (try dsimp only at hSw); go_simp; try with_reducible rfl
        refine wpAnyH_take (i := 1) (v := ?_) rfl (by kernel_rfl) (by kernel_rfl) (by kernel_rfl) (fun _ _ _ h => h) (Or.inl ⟨by first | kernel_rfl | rfl, ?_⟩) (by assumption) ?_
        rotate_left
        · intro w hSw; (try dsimp only at hSw); go_simp; try with_reducible rfl
        refine wpAnyH_take (i := 2) (v := ?_) rfl (by kernel_rfl) (by kernel_rfl) (by kernel_rfl) (fun _ _ _ h => h) (Or.inl ⟨by first | kernel_rfl | rfl, ?_⟩) (by assumption) ?_
        rotate_left
        · intro w hSw; (try dsimp only at hSw); go_simp; try with_reducible rfl
        refine wpAnyH_take (i := 3) (v := ?_) rfl (by kernel_rfl) (by kernel_rfl) (by kernel_rfl) (fun _ _ _ h => h) (Or.inl ⟨by first | kernel_rfl | rfl, ?_⟩) (by assumption) ?_
        rotate_left
        · intro w hSw; (try dsimp only at hSw); go_simp; try with_reducible rfl
        refine wpAnyH_ready (rs := [4, 5]) (by kernel_rfl) (by simp) ?_
        refine AllReadyH.cons rfl (fun K' hK => ?_) (AllReadyH.cons rfl (fun K' hK => ?_) AllReadyH.nil)
        · go_simp
          refine hK.out _ _ (HSP.out _ HD1.out) (fun hHeld => ?_)
          clear hK K'
          refine wpAnyH_ready (rs := [5]) (by kernel_rfl) (by simp) ?_
          refine AllReadyH.cons rfl (fun K' hK => ?_) AllReadyH.nil
          go_simp
          obtain ⟨U2, hU2⟩ : ∃ U, U = ((we.alloc (.cells #[.int .i64 0, .string ⟨#[]⟩, .slice none 0 0, .slice none 0 0, .int .u32 0, .int .u32 0] 30)).alloc (.cells #[.int .i64 0, .string ⟨#[]⟩, .slice none 0 0, .slice none 0 0, .int .u32 0, .int .u32 0] 30)).drew := ⟨_, rfl⟩
          rw [← hU2]
          have hz := two_zero we
          unfold Nd.zero Nd.cells at hz
          simp only [List.length_nil] at hz
          rw [← hU2] at hz
          obtain ⟨hz0, hz1, hz2⟩ := hz
          obtain ⟨U3, hU3, hb3, hf3, U4, hU4, hb4, hx1, hx2⟩ := two_fill (we := we) (U := U2) (g1 := we.heap.size) (g2 := we.heap.size + 1) A B hz0 (by omega) (by omega) (by omega) hz1 hz2
          have hf2 : ∀ j, U2.frozen? ⟨we.heap.size, j, none⟩ = false := fun j => free_blk hz1 j
          obtain ⟨q0, q1, q2, q3, q4, q5, lq⟩ := box_cells (N := Nd.zero) hz1
          have HF := Lib.hid (And.intro hz0 (And.intro hb3 (And.intro hb4 (And.intro hx1 (And.intro hx2 (And.intro hU3 hU4))))))
          clear hU2 hz0 hz1 hz2 hb3 hb4 hx1 hx2 hU3 hU4
          refine hK.out _ _ (HSP.out _ HF.out.1) (fun hHeld => ?_)
          clear hK K'
          refine wpAnyH_ready (rs := [6]) (by kernel_rfl) (by simp) ?_
          refine AllReadyH.cons rfl (fun K' hK => ?_) AllReadyH.nil
          go_simp
          rw [HF.out.2.2.2.2.2.1]
          clear hf2 q0 q1 q2 q3 q4 q5 lq
          obtain ⟨q0, q1, q2, q3, q4, q5, lq⟩ := box_cells (N := Nd.zero) hf3
          have hf4 := fun j => free_blk hf3 j
          clear hf3
          refine hK.out _ _ (HSP.out _ HF.out.2.1) (fun hHeld => ?_)
          clear hK K'
          refine wpAnyH_ready (rs := [7]) (by kernel_rfl) (by simp) ?_
          refine AllReadyH.cons rfl (fun K' hK => ?_) AllReadyH.nil
          go_simp
          rw [HF.out.2.2.2.2.2.2]
          clear hf4 q0 q1 q2 q3 q4 q5 lq
          refine hK.out _ _ (HSP.out _ HF.out.2.2.1) (fun hHeld => ?_)
          clear hK K'
          refine wpAnyH_done (by kernel_rfl) ?_ _
          clear hHeld p0 p1 p2 p3 p4 p5 p6 p7 p8 p9 p10 p11
          go_wp2_with fail
          go_meet
          exact ⟨we.heap.size, we.heap.size + 1, rfl, rfl, ⟨HF.out.2.2.2.1, (KND.out _ (HBe.out.trans (HF.out.2.2.1.mono HBe.out.size))).2.2.1⟩, ⟨HF.out.2.2.2.2.1, (KND.out _ (HBe.out.trans (HF.out.2.2.1.mono HBe.out.size))).2.2.2⟩, HF.out.2.2.1⟩
        · go_simp
          refine hK.out _ _ (HSP.out _ HD1.out) (fun hHeld => ?_)
          clear hK K'
          refine wpAnyH_ready (rs := [4]) (by kernel_rfl) (by simp) ?_
          refine AllReadyH.cons rfl (fun K' hK => ?_) AllReadyH.nil
          go_simp
          obtain ⟨U2, hU2⟩ : ∃ U, U = ((we.alloc (.cells #[.int .i64 0, .string ⟨#[]⟩, .slice none 0 0, .slice none 0 0, .int .u32 0, .int .u32 0] 30)).alloc (.cells #[.int .i64 0, .string ⟨#[]⟩, .slice none 0 0, .slice none 0 0, .int .u32 0, .int .u32 0] 30)).drew := ⟨_, rfl⟩
          rw [← hU2]
          have hz := two_zero we
          unfold Nd.zero Nd.cells at hz
          simp only [List.length_nil] at hz
          rw [← hU2] at hz
          obtain ⟨hz0, hz1, hz2⟩ := hz
          obtain ⟨U3, hU3, hb3, hf3, U4, hU4, hb4, hx1, hx2⟩ := two_fill (we := we) (U := U2) (g1 := we.heap.size + 1) (g2 := we.heap.size) A B hz0 (by omega) (by omega) (by omega) hz2 hz1
          have hf2 : ∀ j, U2.frozen? ⟨we.heap.size + 1, j, none⟩ = false := fun j => free_blk hz2 j
          obtain ⟨q0, q1, q2, q3, q4, q5, lq⟩ := box_cells (N := Nd.zero) hz2
          have HF := Lib.hid (And.intro hz0 (And.intro hb3 (And.intro hb4 (And.intro hx1 (And.intro hx2 (And.intro hU3 hU4))))))
          clear hU2 hz0 hz1 hz2 hb3 hb4 hx1 hx2 hU3 hU4
          refine hK.out _ _ (HSP.out _ HF.out.1) (fun hHeld => ?_)
          clear hK K'
          refine wpAnyH_ready (rs := [6]) (by kernel_rfl) (by simp) ?_
          refine AllReadyH.cons rfl (fun K' hK => ?_) AllReadyH.nil
          go_simp
          rw [HF.out.2.2.2.2.2.1]
          clear hf2 q0 q1 q2 q3 q4 q5 lq
          obtain ⟨q0, q1, q2, q3, q4, q5, lq⟩ := box_cells (N := Nd.zero) hf3
          have hf4 := fun j => free_blk hf3 j
          clear hf3
          refine hK.out _ _ (HSP.out _ HF.out.2.1) (fun hHeld => ?_)
          clear hK K'
          refine wpAnyH_ready (rs := [7]) (by kernel_rfl) (by simp) ?_
          refine AllReadyH.cons rfl (fun K' hK => ?_) AllReadyH.nil
          go_simp
          rw [HF.out.2.2.2.2.2.2]
          clear hf4 q0 q1 q2 q3 q4 q5 lq
          refine hK.out _ _ (HSP.out _ HF.out.2.2.1) (fun hHeld => ?_)
          clear hK K'
          refine wpAnyH_done (by kernel_rfl) ?_ _
          clear hHeld p0 p1 p2 p3 p4 p5 p6 p7 p8 p9 p10 p11
          go_wp2_with fail
          go_meet
          exact ⟨we.heap.size + 1, we.heap.size, rfl, rfl, ⟨HF.out.2.2.2.1, (KND.out _ (HBe.out.trans (HF.out.2.2.1.mono HBe.out.size))).2.2.1⟩, ⟨HF.out.2.2.2.2.1, (KND.out _ (HBe.out.trans (HF.out.2.2.1.mono HBe.out.size))).2.2.2⟩, HF.out.2.2.1⟩
      case rest =>
        obtain ⟨g1, g2, rfl, rfl, hx1, hx2, hbf⟩ := hcut
        obtain ⟨wf, hwf⟩ : ∃ wf, wf = wc := ⟨_, rfl⟩
        rw [← hwf] at hx1 hx2 hbf ⊢
        clear hwf
        have HBf := Lib.hid (HBe.out.trans (hbf.mono HBe.out.size))
        have KF : Hid (∀ W, Below wf.heap.size wf W → NdBx g1 A W ∧ NdBx g2 B W ∧ NdIn W N) := Lib.hid (fun W b => ⟨hx1.below b, hx2.below b, (KND.out W (HBf.out.trans (b.mono HBf.out.size))).1⟩)
        have HSF : Hid (∀ W, Below wf.heap.size wf W → (W.cell? ⟨b8, 0, none⟩ = some (.int .i64 N.kind) ∧ W.cell? ⟨b8, 1, none⟩ = some (.string N.name) ∧ W.cell? ⟨b8, 2, none⟩ = some (.slice N.da N.data.length N.dc) ∧ W.cell? ⟨b8, 3, none⟩ = some (.slice N.aa N.L.length N.ac) ∧ W.cell? ⟨b8, 4, none⟩ = some (.int .u32 N.slot) ∧ W.cell? ⟨b8, 5, none⟩ = some (.int .u32 N.gen) ∧ W.cell? ⟨g1, 0, none⟩ = some (.int .i64 A.kind) ∧ W.cell? ⟨g1, 1, none⟩ = some (.string A.name) ∧ W.cell? ⟨g1, 2, none⟩ = some (.slice A.da A.data.length A.dc) ∧ W.cell? ⟨g1, 3, none⟩ = some (.slice A.aa A.L.length A.ac) ∧ W.cell? ⟨g1, 4, none⟩ = some (.int .u32 A.slot) ∧ W.cell? ⟨g1, 5, none⟩ = some (.int .u32 A.gen) ∧ W.cell? ⟨g2, 0, none⟩ = some (.int .i64 B.kind) ∧ W.cell? ⟨g2, 1, none⟩ = some (.string B.name) ∧ W.cell? ⟨g2, 2, none⟩ = some (.slice B.da B.data.length B.dc) ∧ W.cell? ⟨g2, 3, none⟩ = some (.slice B.aa B.L.length B.ac) ∧ W.cell? ⟨g2, 4, none⟩ = some (.int .u32 B.slot) ∧ W.cell? ⟨g2, 5, none⟩ = some (.int .u32 B.gen))) := Lib.hid (fun W b => by
          obtain ⟨a0, a1, a2, a3, a4, a5, _⟩ := box_cells (KST.out W (HBf.out.trans (b.mono HBf.out.size))).x
          obtain ⟨c0, c1, c2, c3, c4, c5, _⟩ := box_cells (KF.out W b).1.x
          obtain ⟨d0, d1, d2, d3, d4, d5, _⟩ := box_cells (KF.out W b).2.1.x
          exact ⟨a0, a1, a2, a3, a4, a5, c0, c1, c2, c3, c4, c5, d0, d1, d2, d3, d4, d5⟩)
        have HDF : Hid (Below wf.heap.size wf wf.drew) := Lib.hid (Below.refl _ _).drew
        clear hx1 hx2 hbf HSP HS
        go_upto_region 24 with fail
        go_region_held3 (fun W => W.cell? ⟨b8, 0, none⟩ = some (.int .i64 N.kind) ∧ W.cell? ⟨b8, 1, none⟩ = some (.string N.name) ∧ W.cell? ⟨b8, 2, none⟩ = some (.slice N.da N.data.length N.dc) ∧ W.cell? ⟨b8, 3, none⟩ = some (.slice N.aa N.L.length N.ac) ∧ W.cell? ⟨b8, 4, none⟩ = some (.int .u32 N.slot) ∧ W.cell? ⟨b8, 5, none⟩ = some (.int .u32 N.gen) ∧ W.cell? ⟨g1, 0, none⟩ = some (.int .i64 A.kind) ∧ W.cell? ⟨g1, 1, none⟩ = some (.string A.name) ∧ W.cell? ⟨g1, 2, none⟩ = some (.slice A.da A.data.length A.dc) ∧ W.cell? ⟨g1, 3, none⟩ = some (.slice A.aa A.L.length A.ac) ∧ W.cell? ⟨g1, 4, none⟩ = some (.int .u32 A.slot) ∧ W.cell? ⟨g1, 5, none⟩ = some (.int .u32 A.gen) ∧ W.cell? ⟨g2, 0, none⟩ = some (.int .i64 B.kind) ∧ W.cell? ⟨g2, 1, none⟩ = some (.string B.name) ∧ W.cell? ⟨g2, 2, none⟩ = some (.slice B.da B.data.length B.dc) ∧ W.cell? ⟨g2, 3, none⟩ = some (.slice B.aa B.L.length B.ac) ∧ W.cell? ⟨g2, 4, none⟩ = some (.int .u32 B.slot) ∧ W.cell? ⟨g2, 5, none⟩ = some (.int .u32 B.gen))
          (first | exact HSF.out _ hb6 | exact HSF.out _ hb5 | exact HSF.out _ hb4 | exact HSF.out _ HDF.out)
          (first
            | (have hh := hb5; go_at_call 17; refine (HEQ.out _ N B (KF.out _ hb5).2.2 (KF.out _ hb5).2.1.nd HLN.out.1 HLN.out.2.2).mono ?_; rintro e w6 ⟨r3, rfl, hr3, b6⟩; have hb6 := hb5.trans (b6.mono hb5.size))
            | (have hh := hb4; go_at_call 17; refine (HEQ.out _ A B (KF.out _ hb4).1.nd (KF.out _ hb4).2.1.nd HLN.out.2.1 HLN.out.2.2).mono ?_; rintro e w5 ⟨r2, rfl, hr2, b5⟩; have hb5 := hb4.trans (b5.mono hb4.size))
            | (go_at_call 17; refine (HEQ.out _ N A (KF.out _ HDF.out).2.2 (KF.out _ HDF.out).1.nd HLN.out.1 HLN.out.2.1).mono ?_; rintro e w4 ⟨r1, rfl, hr1, b4⟩; have hb4 := HDF.out.trans (b4.mono HDF.out.size)))
        have HB6f := Lib.hid hb6
        have HTR : Hid (r1 = true → r2 = true → r3 = true) := Lib.hid (fun h1 h2 => hr3.2 ((hr1.1 h1).trans (hr2.1 h2)))
        have HQF : Hid (Calls Try.prog 17 #[A.v, N.v] w6 fun e w' => e = .returned (.bool r1) ∧ Below w6.heap.size w6 w') := Lib.hid (by
          have hh := HEQ.out w6 A N (KF.out _ hb6).1.nd (KF.out _ hb6).2.2 HLN.out.2.1 HLN.out.1
          refine hh.mono fun e w' hp => hp.told ⟨fun h => (hr1.1 h).symm, fun h => hr1.2 h.symm⟩)
        unfold Nd.v Nd.cells at HQF
        clear hb4 hb5 hb6 b4 b5 b6 hr1 hr2 hr3
        have HLOW := Lib.hid (KST.out w6 (HBf.out.trans (HB6f.out.mono HBf.out.size))).low
        obtain ⟨z0, z1, z2, z3, z4, z5, v0, v1, v2, v3, v4, v5, _⟩ := HSF.out w6 HB6f.out
        have lz := lt_of_some (KST.out w6 (HBf.out.trans (HB6f.out.mono HBf.out.size))).x
        have lv := lt_of_some (KF.out w6 HB6f.out).1.x
        cases r1 <;> cases r2 <;> cases r3
        all_goals first | (exact absurd (HTR.out rfl rfl) Bool.false_ne_true) | skip
        all_goals go_wp2_with (go_at_call 17; refine HQF.out.mono ?_; rintro e w7 ⟨rfl, b7⟩)
        all_goals go_ret
        all_goals exact ⟨rfl, HLOW.out.trans (b7.mono HLOW.out.size)⟩
    end Go.Proofs.Ytelhnaphkbpakaa

