/- Part 18 of the proof of RoP: lemmas. -/
import Derived.Test.YtelhnaphkbpakaaDoorMr17
namespace Go.Proofs.YtelhnaphkbpakaaDoor
open Go.RowKit
set_option linter.unusedVariables false
set_option maxRecDepth 100000
section
variable {B : Nat} {Qa : Nat → Prop} {w W0 w3 : World} {X : TX} {N : Nd} {s g len nb c7 : Nat} {P : Nd}
theorem mk_d (hb : Below w.heap.size w W0) (hn : W0.heap[nb]? = some (.cells (ncells P (fun _ => (0, 0)) (len + 1)) 120 (0, 0))) (hr : W0.heap[w.heap.size + 1]? = some (.cells #[.int .u32 0, .int .u32 0] 31 (0, 0)))
    (hf : w.heap.size + 1 < nb) (ho : Fresh w.heap.size W0 P) (hs : P.Same N) (hA : ArNOf B (fun k => Qa k ∨ W0.heap.size ≤ k ∧ k < w3.heap.size) w3 X.ab (X.T.alloc (some ⟨nb, 0, none⟩)).1) (f : FrG [145, 150, 29] Qa W0 w3) :
    MkR B Qa w (w3.alloc (.cells #[.int .u32 (s : Int), .int .u32 (g : Int)] 31)) X N s g len nb w3.heap.size P := by
  have bb : Below w3.heap.size w3 (w3.alloc (.cells #[.int .u32 (s : Int), .int .u32 (g : Int)] 31)) := (Below.refl _ _).alloc (Nat.le_refl _) _
  have f0 : FrG [145, 150, 29] Qa w w3 := (FrG.of_below hb : FrG [145, 150, 29] Qa w W0).trans f (fun _ h => .inl h)
  have l3 := lt_of_some (f.blk hn (by decide))
  refine ⟨f0.andBelow bb, (hA.below bb).mono (fun k hk => hk.imp id (fun h => ⟨Nat.le_trans hb.size h.1, Nat.lt_of_lt_of_le h.2 bb.size⟩)), alloc_blk (f.blk hn (by decide)) _, Go.heap_alloc_new w3 _, alloc_blk (f.blk hr (by decide)) _, ⟨hf, by omega⟩, (ho.frg f (by decide) (by decide)).below bb, hs⟩
theorem mk_abc (hb : Below w.heap.size w W0) (hn : W0.heap[nb]? = some (.cells (ncells P (fun _ => (0, 0)) (len + 1)) 120 (0, 0))) (hr : W0.heap[w.heap.size + 1]? = some (.cells #[.int .u32 0, .int .u32 0] 31 (0, 0)))
    (hf : w.heap.size + 1 < nb) (ho : Fresh w.heap.size W0 P) (hs : P.Same N) (hA : ArNOf B (fun k => Qa k ∨ W0.heap.size ≤ k ∧ k < w3.heap.size) w3 X.ab (X.T.alloc (some ⟨nb, 0, none⟩)).1) (f : FrG [145, 150, 29] Qa W0 w3)
    (hc : W0.heap[c7]? = some (.cells #[.int .u32 0, .int .u32 0] 31 (0, 0))) (hcf : w.heap.size + 1 < c7) :
    MkR B Qa w ((w3.setCell ⟨c7, 0, none⟩ (.int .u32 (s : Int))).setCell ⟨c7, 1, none⟩ (.int .u32 (g : Int))) X N s g len nb c7 P := by
  have hc3 := f.blk hc (by decide)
  have hc4 := set_blk hc3 0 (.int .u32 (s : Int))
  have f0 : FrG [145, 150, 29] Qa w w3 := (FrG.of_below hb : FrG [145, 150, 29] Qa w W0).trans f (fun _ h => .inl h)
  have f1 : FrG [31] (fun k => k = c7) w3 ((w3.setCell ⟨c7, 0, none⟩ (.int .u32 (s : Int))).setCell ⟨c7, 1, none⟩ (.int .u32 (g : Int))) :=
    ((FrG.refl [31] (fun k => k = c7) w3).set (a := ⟨c7, 0, none⟩) (.inl rfl) hc3 (List.mem_singleton.2 rfl) _).set (a := ⟨c7, 1, none⟩) (.inl rfl) hc4 (List.mem_singleton.2 rfl) _
  have hlow : w.heap.size ≤ c7 := by omega
  refine ⟨(f0.setNew (a := ⟨c7, 0, none⟩) hlow _).setNew (a := ⟨c7, 1, none⟩) hlow _, (hA.kept f1 (by decide) (by decide) (by decide)).mono (fun k hk => hk.imp id (fun h => ⟨Nat.le_trans hb.size h.1, by simpa using h.2⟩)), f1.blk (f.blk hn (by decide)) (by decide), set_blk hc4 1 _, f1.blkQ (f.blk hr (by decide)) (by omega), ⟨hf, hcf⟩, (ho.frg f (by decide) (by decide)).frg f1 (by decide) (by decide), hs⟩
end
section
variable {B : Nat} {Q : Nat → Prop} {w w' : World} {tb : Nat} {X : TX}
theorem row_slice {w : World} {base : Nat} {e : TypeId} {size : Nat} {v : Value} {n : Nat} {xs : List Value} (h : w.ownsRow base e size v n xs) : ∃ a cap, v = .slice a n cap := by
  rcases h.2 with ⟨rfl, hn⟩ | ⟨gb, cap, cur, rfl, _⟩
  · exact ⟨none, 0, by rw [hn]⟩
  · exact ⟨_, cap, rfl⟩
set_option maxHeartbeats 16000000 in
theorem make_calls (h : TreeAt B Q w tb X) (N : Nd) (hN : NdIn w N) (hB : N.Bd 1099511627776) (hck : checkD N.kind N.name N.data.length (N.L.map LA.name) = 0) (hroom : X.T.free ≠ [] ∨ X.T.all.length < X.T.S) (hbig : X.F.length < 1099511627776) :
    Calls Tryd.prog 37 #[.pointer (some ⟨tb, 0, none⟩), N.v] w fun e w' => ∃ (s g nb : Nat) (P : Nd) (hv fv : Value), e = .returned (.tuple #[.agg #[.int .u32 (s : Int), .int .u32 (g : Int)], .int .i64 0]) ∧ P.Same N ∧ (X.T.alloc (some ⟨nb, 0, none⟩)).2 = (s, g, 0) ∧
      TreeAt B (fun k => Q k ∨ w.heap.size ≤ k ∧ k < w'.heap.size) w' tb ⟨Made X.F s g, X.M ++ [(nb, P)], (X.T.alloc (some ⟨nb, 0, none⟩)).1, X.ab, hv, fv⟩ ∧ FrG [145, 150, 29, 112, 31] Q w w' := by
  have HT := Lib.hid h
  have HNW := Lib.hid hN
  have HCK : Hid (∀ W, Below w.heap.size w W → Calls Tryd.prog 67 #[N.v] W fun e w' => e = .returned (.int .i64 0) ∧ Below W.heap.size W w') := Lib.hid (fun W bb => by
    have := check_calls W N (hN.below bb)
    rw [hck] at this
    exact this)
  have HCL : Hid (∀ W, Below w.heap.size w W → Calls Tryd.prog 69 #[N.v] W fun e w' => ∃ M : Nd, e = .returned M.v ∧ M.Same N ∧ Fresh W.heap.size w' M ∧ Below W.heap.size W w') := Lib.hid (fun W bb => clone_calls W N (hN.below bb) hB)
  obtain ⟨Qa, ha, hqa, hqh⟩ := h.rw.ar
  have HAR := Lib.hid (And.intro ha (And.intro hqa hqh))
  have hok : (X.T.ar encN).Ok 1 := ha.ok
  have HOK := Lib.hid hok
  have HROOM := Lib.hid (alloc_room hok hroom)
  obtain ⟨s, g, hsg⟩ : ∃ s g : Nat, ∀ x, (X.T.alloc x).2 = (s, g, 0) := by
    rcases alloc_room hok hroom with ⟨_, e⟩ | ⟨l, k, g, y, _, _, _, e⟩
    · exact ⟨_, _, fun x => by rw [e]⟩
    · exact ⟨_, _, fun x => by rw [e]⟩
  have HSGX := Lib.hid hsg
  have HLN : Hid (X.F.length < 1099511627776) := Lib.hid hbig
  have HAL : Hid (∀ (W : World) (x : Option Addr), Below w.heap.size w W → Calls Tryd.prog 68 #[.pointer (some ⟨X.ab, 0, none⟩), .pointer x] W fun e w' => e = .returned (.tuple #[.agg #[.int .u32 (s : Int), .int .u32 (g : Int)], .int .i64 0]) ∧ ArNOf B (fun k => Qa k ∨ W.heap.size ≤ k ∧ k < w'.heap.size) w' X.ab (X.T.alloc x).1 ∧ FrG [145, 150, 29] Qa W w') := Lib.hid (fun W x bb => by
    have := arNTop_alloc (ha.below bb) x
    rw [hsg x] at this
    exact this)
  obtain ⟨kd, nm, da, dc, data, aa, ac, L, sl, ge⟩ := N
  clear hck hB
  unfold Nd.v Nd.cells at HCK HCL ⊢
  dsimp only at HCK HCL ⊢
  obtain ⟨m, em⟩ : ∃ m, m = data.length := ⟨_, rfl⟩
  obtain ⟨n, en⟩ : ∃ n, n = L.length := ⟨_, rfl⟩
  rw [← em] at HCK HCL ⊢
  rw [← en] at HCK HCL ⊢
  have c0 := cell_blk h.rw.blk 0 rfl
  have c1 := cell_blk h.rw.blk 1 rfl
  have ltb := lt_of_some h.rw.blk
  simp at c0 c1
  obtain ⟨len, hlen⟩ : ∃ n, n = X.F.length := ⟨_, rfl⟩
  have HLEN := Lib.hid hlen
  rw [← hlen] at c1 hbig
  have p0 : IntKind.u64.wrap ((len : Int) + 1) = (len : Int) + 1 := IntWalk.u64_in _ (by omega)
  obtain ⟨V, hV⟩ : ∃ V, V = (w.alloc (.cells #[.int .i64 kd, .string nm, .slice da m dc, .slice aa n ac, .int .u32 sl, .int .u32 ge] 66)).alloc (.cells #[.int .u32 0, .int .u32 0] 31) := ⟨_, rfl⟩
  have bV : Below w.heap.size w V := by rw [hV]; exact (by repeat (first | exact Below.refl _ _ | assumption | refine Below.drew ?_ | refine below_drewN ?_ _ | refine Below.alloc ?_ (by simp <;> omega) _ | refine Below.setCell ?_ (by simp <;> omega) _ | (apply bl_trans; assumption; (simp <;> omega))))
  have hx : V.heap[w.heap.size + 1]? = some (.cells #[.int .u32 0, .int .u32 0] 31 (0, 0)) := by rw [hV]; exact alloc2_blk w _ _
  have hy : V.heap[w.heap.size]? = some (.cells #[.int .i64 kd, .string nm, .slice da m dc, .slice aa n ac, .int .u32 sl, .int .u32 ge] 66 (0, 0)) := by rw [hV]; exact alloc_blk (Go.heap_alloc_new w _) _
  have HX := Lib.hid (And.intro hx (And.intro hy bV))
  have HSW : Hid (∀ W, Below V.heap.size V W → (W.cell? ⟨tb, 0, none⟩ = some (.pointer (some ⟨X.ab, 0, none⟩)) ∧ W.cell? ⟨tb, 1, none⟩ = some (.int .u64 (len : Int)) ∧ W.cell? ⟨w.heap.size, 0, none⟩ = some (.int .i64 kd) ∧ W.cell? ⟨w.heap.size, 1, none⟩ = some (.string nm) ∧ W.cell? ⟨w.heap.size, 2, none⟩ = some (.slice da m dc) ∧ W.cell? ⟨w.heap.size, 3, none⟩ = some (.slice aa n ac) ∧ W.cell? ⟨w.heap.size, 4, none⟩ = some (.int .u32 sl) ∧ W.cell? ⟨w.heap.size, 5, none⟩ = some (.int .u32 ge)) ∧ Below w.heap.size w W) := Lib.hid (fun W bb => by
    have b2 := HX.out.2.2.trans (bb.mono HX.out.2.2.size)
    have hy2 := (bb.block _ (lt_of_some HX.out.2.1)).trans HX.out.2.1
    exact ⟨⟨(b2.cell (p := ⟨tb, 0, none⟩) ltb).trans c0, (b2.cell (p := ⟨tb, 1, none⟩) ltb).trans c1, cell_blk hy2 0 rfl, cell_blk hy2 1 rfl, cell_blk hy2 2 rfl, cell_blk hy2 3 rfl, cell_blk hy2 4 rfl, cell_blk hy2 5 rfl⟩, b2⟩)
  have HSF : Hid (∀ W0 W, Below V.heap.size V W0 → FrG [145, 150, 29] Qa W0 W → (W.cell? ⟨tb, 0, none⟩ = some (.pointer (some ⟨X.ab, 0, none⟩)) ∧ W.cell? ⟨tb, 1, none⟩ = some (.int .u64 (len : Int)) ∧ W.cell? ⟨w.heap.size, 0, none⟩ = some (.int .i64 kd) ∧ W.cell? ⟨w.heap.size, 1, none⟩ = some (.string nm) ∧ W.cell? ⟨w.heap.size, 2, none⟩ = some (.slice da m dc) ∧ W.cell? ⟨w.heap.size, 3, none⟩ = some (.slice aa n ac) ∧ W.cell? ⟨w.heap.size, 4, none⟩ = some (.int .u32 sl) ∧ W.cell? ⟨w.heap.size, 5, none⟩ = some (.int .u32 ge))) := Lib.hid (fun W0 W bb f => by
    have b2 := HX.out.2.2.trans (bb.mono HX.out.2.2.size)
    have hy2 := f.blk ((bb.block _ (lt_of_some HX.out.2.1)).trans HX.out.2.1) (by decide)
    have ht2 := f.blk ((b2.block _ ltb).trans HT.out.rw.blk) (by decide)
    have e0 := cell_blk ht2 0 rfl
    have e1 := cell_blk ht2 1 rfl
    simp only [← hlen] at e1
    exact ⟨e0, e1, cell_blk hy2 0 rfl, cell_blk hy2 1 rfl, cell_blk hy2 2 rfl, cell_blk hy2 3 rfl, cell_blk hy2 4 rfl, cell_blk hy2 5 rfl⟩)
  have HSG : Hid (∀ (W0 W : World) (c : Nat) (u v : Value), Below V.heap.size V W0 → FrG [145, 150, 29] Qa W0 W → V.heap.size ≤ c → (((W.setCell ⟨c, 0, none⟩ u).setCell ⟨c, 1, none⟩ v).cell? ⟨tb, 0, none⟩ = some (.pointer (some ⟨X.ab, 0, none⟩)) ∧ ((W.setCell ⟨c, 0, none⟩ u).setCell ⟨c, 1, none⟩ v).cell? ⟨tb, 1, none⟩ = some (.int .u64 (len : Int)) ∧ ((W.setCell ⟨c, 0, none⟩ u).setCell ⟨c, 1, none⟩ v).cell? ⟨w.heap.size, 0, none⟩ = some (.int .i64 kd) ∧ ((W.setCell ⟨c, 0, none⟩ u).setCell ⟨c, 1, none⟩ v).cell? ⟨w.heap.size, 1, none⟩ = some (.string nm) ∧ ((W.setCell ⟨c, 0, none⟩ u).setCell ⟨c, 1, none⟩ v).cell? ⟨w.heap.size, 2, none⟩ = some (.slice da m dc) ∧ ((W.setCell ⟨c, 0, none⟩ u).setCell ⟨c, 1, none⟩ v).cell? ⟨w.heap.size, 3, none⟩ = some (.slice aa n ac) ∧ ((W.setCell ⟨c, 0, none⟩ u).setCell ⟨c, 1, none⟩ v).cell? ⟨w.heap.size, 4, none⟩ = some (.int .u32 sl) ∧ ((W.setCell ⟨c, 0, none⟩ u).setCell ⟨c, 1, none⟩ v).cell? ⟨w.heap.size, 5, none⟩ = some (.int .u32 ge))) := Lib.hid (fun W0 W c u v bb f hc => by
    obtain ⟨e0, e1, e2, e3, e4, e5, e6, e7⟩ := HSF.out W0 W bb f
    have n1 : tb ≠ c := by have := HX.out.2.2.size; omega
    have n2 : w.heap.size ≠ c := by have := lt_of_some HX.out.2.1; omega
    have g : ∀ b o, b ≠ c → ((W.setCell ⟨c, 0, none⟩ u).setCell ⟨c, 1, none⟩ v).cell? ⟨b, o, none⟩ = W.cell? ⟨b, o, none⟩ := fun b o hb => (set_cell_ne _ hb).trans (set_cell_ne _ hb)
    exact ⟨(g _ _ n1).trans e0, (g _ _ n1).trans e1, (g _ _ n2).trans e2, (g _ _ n2).trans e3, (g _ _ n2).trans e4, (g _ _ n2).trans e5, (g _ _ n2).trans e6, (g _ _ n2).trans e7⟩)
  have hV2 := hV
  obtain ⟨d0, d1, d2, d3, d4, d5, d6, d7⟩ := (HSW.out V (Below.refl _ _)).1
  clear hV hx hy bV h hN hok hsg ha hqa hqh hroom hlen em en c0 c1
  go_enter Tryd.func37, Tryd.ntmps37
  go_wp2_with fail
  rw [← hV2]
  clear hV2
  refine (HCK.out _ HX.out.2.2).mono ?_
  rintro e w1 ⟨rfl, b1⟩
  have HB1 := Lib.hid b1
  clear b1 d0 d1 d2 d3 d4 d5 d6 d7
  obtain ⟨d0, d1, d2, d3, d4, d5, d6, d7⟩ := (HSW.out w1 HB1.out).1
  go_wp2_with fail
  go_cut [7, 8] from 15 to 31 (fun v7 v8 wc => ∃ (c7 nb : Nat) (P : Nd), v7 = .pointer (some ⟨c7, 0, none⟩) ∧ v8 = .int .i64 0 ∧ Hid (MkR B Qa w wc X ⟨kd, nm, da, dc, data, aa, ac, L, sl, ge⟩ s g len nb c7 P))
  case first =>
    have HW1 : Hid (Below V.heap.size V w1.drew) := Lib.hid HB1.out.drew
    have HW1a : Hid (Below V.heap.size V ((w1.alloc (.cells #[.int .u32 0, .int .u32 0] 31)).drew)) := Lib.hid (HB1.out.alloc HB1.out.size _).drew
    have H17 : Hid (w1.heap.size < ((w1.alloc (.cells #[.int .u32 0, .int .u32 0] 31)).drew).heap.size ∧ ((w1.alloc (.cells #[.int .u32 0, .int .u32 0] 31)).drew).heap[w1.heap.size]? = some (.cells #[.int .u32 0, .int .u32 0] 31 (0, 0))) := Lib.hid ⟨by simp, Go.heap_alloc_new w1 _⟩
    have HAS : Hid (∀ (W : World) (o : Obj), W.heap.size ≤ (W.alloc o).heap.size) := Lib.hid (fun W o => by simp)
    have H1L : Hid (w.heap.size ≤ w1.drew.heap.size ∧ w.heap.size ≤ ((w1.alloc (.cells #[.int .u32 0, .int .u32 0] 31)).drew).heap.size) := Lib.hid ⟨(HSW.out _ HB1.out).2.size, Nat.le_trans (HSW.out _ HB1.out).2.size (HAS.out w1 _)⟩
    have HDN : Hid (31 ∉ [145, 150, 29]) := Lib.hid (by decide)
    have l1a : tb < w1.heap.size := Nat.lt_of_lt_of_le ltb (HSW.out _ HB1.out).2.size
    have l1b : w.heap.size < w1.heap.size := by have := HB1.out.size; have := lt_of_some HX.out.2.1; omega
    go_region_held3 (fun W => W.cell? ⟨tb, 0, none⟩ = some (.pointer (some ⟨X.ab, 0, none⟩)) ∧ W.cell? ⟨tb, 1, none⟩ = some (.int .u64 (len : Int)) ∧ W.cell? ⟨w.heap.size, 0, none⟩ = some (.int .i64 kd) ∧ W.cell? ⟨w.heap.size, 1, none⟩ = some (.string nm) ∧ W.cell? ⟨w.heap.size, 2, none⟩ = some (.slice da m dc) ∧ W.cell? ⟨w.heap.size, 3, none⟩ = some (.slice aa n ac) ∧ W.cell? ⟨w.heap.size, 4, none⟩ = some (.int .u32 sl) ∧ W.cell? ⟨w.heap.size, 5, none⟩ = some (.int .u32 ge))
      (first | exact HSG.out _ _ _ _ _ (HB2.out.alloc HB2.out.size _) HA.out.2 HB1.out.size | exact HSG.out _ _ _ _ _ ((HB2.out.alloc HB2.out.size _).alloc (Nat.le_trans HB2.out.size (HAS.out _ _)) _) HA.out.2 HB2.out.size | exact HSG.out _ _ _ _ _ ((HB2.out.alloc HB2.out.size _).alloc (Nat.le_trans HB2.out.size (HAS.out _ _)) _) HA.out.2 (Nat.le_succ_of_le HB2.out.size) | exact (HSW.out _ HW1.out).1 | exact (HSW.out _ HW1a.out).1 | exact HSF.out _ _ (HB2.out.alloc HB2.out.size _) HA.out.2 | exact HSF.out _ _ ((HB2.out.alloc HB2.out.size _).alloc (Nat.le_trans HB2.out.size (HAS.out _ _)) _) HA.out.2 | exact HSF.out _ _ (HB2.out.alloc HB2.out.size _) (HA.out.2.alloc _) | exact (HSW.out _ HB2.out).1 | exact (HSW.out _ (HB2.out.alloc HB2.out.size _)).1 | exact (HSW.out _ ((HB2.out.alloc HB2.out.size _).alloc (Nat.le_trans HB2.out.size (HAS.out _ _)) _)).1)
      (first
      | (go_at_call 69; go_loud (refine (HCL.out _ (by first | exact (HSW.out _ HW1.out).2 | exact (HSW.out _ HW1a.out).2)).mono ?_; rintro e w2 ⟨P, rfl, hP, hF, b2⟩; have HB2 : Hid (Below V.heap.size V w2) := Lib.hid (by first | exact HW1.out.trans (b2.mono HW1.out.size) | exact HW1a.out.trans (b2.mono HW1a.out.size)); (try (have HC17 := Lib.hid ((b2.block w1.heap.size H17.out.1).trans H17.out.2))); obtain ⟨f0, f1, f2, f3, f4, f5, f6, f7⟩ := (HSW.out w2 HB2.out).1; have l2a : tb < w2.heap.size := Nat.lt_of_lt_of_le ltb (HSW.out _ HB2.out).2.size; have HFR : Hid (Fresh w.heap.size w2 P) := Lib.hid (by first | exact hF.mono H1L.out.1 | exact hF.mono H1L.out.2); have HPF := Lib.hid hP; clear hP hF b2))
      | (go_at_call 68; go_loud (refine (HAL.out _ _ (by first | exact (HSW.out _ HB2.out).2.alloc (HSW.out _ HB2.out).2.size _ | exact ((HSW.out _ HB2.out).2.alloc (HSW.out _ HB2.out).2.size _).alloc (by simp; have := (HSW.out _ HB2.out).2.size; omega) _)).mono ?_; rintro e w3 ⟨rfl, hA, fA⟩; have HA := Lib.hid (And.intro hA fA); first
          | (have hz : w3.heap[w1.heap.size]? = some (.cells #[.int .u32 0, .int .u32 0] 31 (0, 0)) := fA.blk (alloc_blk HC17.out _) HDN.out; have z0 := cell_blk hz 0 rfl; have z1 := cell_blk hz 1 rfl; have z2 := free_blk hz 0; have z3 := free_blk hz 1; clear hz)
          | (have hz : w3.heap[w2.heap.size]? = some (.cells #[.int .u32 0, .int .u32 0] 31 (0, 0)) := fA.blk (alloc_blk (Go.heap_alloc_new w2 _) _) HDN.out; have z0 := cell_blk hz 0 rfl; have z1 := cell_blk hz 1 rfl; have z2 := free_blk hz 0; have z3 := free_blk hz 1; clear hz)
          | (have hz : w3.heap[w2.heap.size + 1]? = some (.cells #[.int .u32 0, .int .u32 0] 31 (0, 0)) := fA.blk (alloc2_blk w2 _ _) HDN.out; have z0 := cell_blk hz 0 rfl; have z1 := cell_blk hz 1 rfl; have z2 := free_blk hz 0; have z3 := free_blk hz 1; clear hz)
          | skip)))
    all_goals go_wp2_with fail
    all_goals go_meet
    all_goals have lV : w.heap.size + 1 < V.heap.size := lt_of_some HX.out.1
    all_goals have lW : V.heap.size ≤ w2.heap.size := HB2.out.size
    all_goals have lU : V.heap.size ≤ w1.heap.size := HB1.out.size
    all_goals have hr := (HB2.out.block _ (lt_of_some HX.out.1)).trans HX.out.1
    all_goals have hfar : w.heap.size + 1 < w2.heap.size := by omega
    all_goals have bn : Below w2.heap.size w2 (w2.alloc (.cells (ncells P (fun _ => (0, 0)) (len + 1)) 120)) := (Below.refl _ _).alloc (Nat.le_refl _) _
    all_goals have hn : (w2.alloc (.cells (ncells P (fun _ => (0, 0)) (len + 1)) 120)).heap[w2.heap.size]? = some (.cells (ncells P (fun _ => (0, 0)) (len + 1)) 120 (0, 0)) := Go.heap_alloc_new w2 _
    all_goals have hb0 : Below w.heap.size w (w2.alloc (.cells (ncells P (fun _ => (0, 0)) (len + 1)) 120)) := (HSW.out _ (HB2.out.alloc HB2.out.size _)).2
    all_goals first
      | exact ⟨w3.heap.size, w2.heap.size, P, rfl, rfl, Lib.hid (mk_d hb0 hn (alloc_blk hr _) hfar (HFR.out.below bn) HPF.out HA.out.1 HA.out.2)⟩
      | exact ⟨w2.heap.size + 1, w2.heap.size, P, rfl, rfl, Lib.hid (mk_abc (hb0.alloc hb0.size _) (alloc_blk hn _) (alloc_blk (alloc_blk hr _) _) hfar ((HFR.out.below bn).below ((Below.refl _ _).alloc (Nat.le_refl _) _)) HPF.out HA.out.1 HA.out.2 (alloc2_blk w2 _ _) (Nat.lt_succ_of_lt hfar))⟩
      | exact ⟨w2.heap.size, w2.heap.size + 1, P, rfl, rfl, Lib.hid (mk_abc (((HSW.out _ HB2.out).2.alloc (HSW.out _ HB2.out).2.size _).alloc (Nat.le_trans (HSW.out _ HB2.out).2.size (HAS.out _ _)) _) (alloc2_blk w2 _ _) (alloc_blk (alloc_blk hr _) _) (Nat.lt_succ_of_lt hfar) (HFR.out.below ((((Below.refl _ w2).alloc (Nat.le_refl _) _).alloc (HAS.out _ _) _))) HPF.out HA.out.1 HA.out.2 (alloc_blk (Go.heap_alloc_new w2 _) _) hfar)⟩
      | exact ⟨w1.heap.size, w2.heap.size, P, rfl, rfl, Lib.hid (mk_abc hb0 hn (alloc_blk hr _) hfar (HFR.out.below bn) HPF.out HA.out.1 HA.out.2 (alloc_blk HC17.out _) (Nat.lt_of_lt_of_le lV lU))⟩
  case rest =>
    obtain ⟨c7, nb, P, rfl, rfl, hm⟩ := hcut
    clear d0 d1 d2 d3 d4 d5 d6 d7 HCK HCL HAL HSW HSF HSG HX HB1
    have hS0 := mks_start HT.out HAR.out.2.1 HAR.out.2.2 hm.out HLEN.out (lt_of_some hm.out.res)
    have hTb := hm.out.fr.blk HT.out.rw.blk (by decide)
    have t1 : wc.cell? ⟨tb, 1, none⟩ = some (.int .u64 (len : Int)) := by rw [HLEN.out]; exact cell_blk hTb 1 rfl
    have t1f := free_blk hTb 1
    have HSAME := Lib.hid hm.out.same
    obtain ⟨ha', hcap, hhv⟩ := row_slice HT.out.rw.had.1.choose_spec
    obtain ⟨fa, fcap, hfv⟩ := row_slice HT.out.rw.fre.1.choose_spec
    rw [hhv, hfv] at hS0
    obtain ⟨n, hn⟩ : ∃ n, n = X.T.all.length := ⟨_, rfl⟩
    obtain ⟨m2, hm2⟩ : ∃ n, n = X.T.free.length := ⟨_, rfl⟩
    rw [← hn, ← hm2] at hS0
    have hnb : n ≤ 2147483647 := by have h1 := HOK.out.len; have h2 := HOK.out.S2; simp [TA.ar] at h1 h2; omega
    have HNN := Lib.hid (And.intro hn hm2)
    have HS0 := Lib.hid hS0
    clear hS0 hTb hm hhv hfv hn hm2
    go_wp2_with fail
    obtain ⟨V1, hV1⟩ : ∃ U, U = wc.setCell ⟨tb, 1, none⟩ (.int .u64 ((len : Int) + 1)) := ⟨_, rfl⟩
    rw [← hV1]
    rw [← hV1] at HS0
    clear hV1 t1 t1f
    obtain ⟨i, hi⟩ : ∃ i, s = i + 1 := by
      rcases HROOM.out with ⟨_, e⟩ | ⟨l, k, g0, y, _, _, _, e⟩
      · have := HSGX.out none; rw [e] at this; simp at this; exact ⟨_, this.1.symm⟩
      · have := HSGX.out none; rw [e] at this; simp at this; exact ⟨_, this.1.symm⟩
    subst hi
    have b0 : V1.cell? ⟨c7, 0, none⟩ = some (.int .u32 ((i : Int) + 1)) := cell_blk HS0.out.box 0 rfl
    have b1 := cell_blk HS0.out.box 1 rfl
    have k4 := cell_blk HS0.out.blk 4 rfl
    have k5 := cell_blk HS0.out.blk 5 rfl
    simp at b1 k4 k5
    rcases HROOM.out with ⟨hfr, halc⟩ | ⟨l, k, g0, y, hfr, hkk, hg0, halc⟩
    · obtain ⟨rfl, rfl⟩ : i = n ∧ g = 1 := by
        have := HSGX.out none; rw [halc] at this; simp at this
        exact ⟨by have := HNN.out.1; omega, this.2.symm⟩
      have HC := Lib.hid (And.intro hfr halc)
      clear hfr halc
      have q1 : IntKind.i64.wrap ((i : Int) + 1) = (i : Int) + 1 := IntWalk.i64_in _ (by omega)
      have q2 : decide ((i : Int) < (i : Int) + 1) = true := by simp; omega
      go_quiet (fail)
      have hS1 := HS0.out.below (below_drewN (Below.refl _ V1) nq)
      generalize V1.drewN nq = V2 at hS1 ⊢
      clear b0 b1 k4 k5 HS0
      have k4 := cell_blk hS1.blk 4 rfl
      simp at k4
      obtain ⟨hc, hrow⟩ := hS1.had
      have hB2 : B ≤ V2.heap.size := Nat.le_trans HT.out.rw.own.2 (Nat.le_of_lt (lt_of_some hS1.blk))
      obtain ⟨i0, hi0, hz0, hz1, hz2⟩ := info_parts u32N_info
      have HS1 := Lib.hid hS1
      clear hS1
      go_wp2_with (at_builtin; refine wpList_append_lies _ rfl _ _ 110 rfl B 29 i0 _ 1 4 Tryd.underlying110 hi0 hz0 hz1 hz2 rfl (by omega) (.slice ha' i hcap) i _ rfl (hrow.alloc _) ⟨V2.heap.size, 0, none⟩ 1 1 [.int .u32 0] rfl rfl (World.news_of_block (cs := #[.int .u32 0]) (t := 29) (fr := (0, 0)) (Go.heap_alloc_new V2 _)) (by simp [Value.oneCell']) (by omega) (by unfold maxLen; omega) (by omega) (by simp; omega) (V2.heap.size + 1) (by simp) ?_)
      intro gg cap1 w4 hown1 hgrow hat hlt
      have hS2 := HS1.out.below ((Below.refl _ V2).alloc (Nat.le_refl _) (.cells #[.int .u32 0] 29))
      have hpb := hS2.pblk hgrow
      have hS3 := hS2.push hgrow hown1 (hat.imp id (fun e => by have := hS2.zz.1; simp at this; have := HS1.out.zz.1; omega))
      have k4 := cell_blk hpb 4 rfl
      have f4 := free_blk hpb 4
      simp at k4
      have HS3 := Lib.hid hS3
      clear hS2 hpb hS3 hown1 hgrow hat hlt hrow HS1
      go_wp2_with fail
      obtain ⟨V3, hV3⟩ : ∃ U, U = w4.setCell ⟨tb, 4, none⟩ (.slice (some ⟨gg, 0, none⟩) (i + 1) cap1) := ⟨_, rfl⟩
      rw [← hV3] at HS3 ⊢
      clear hV3 k4 f4
      obtain ⟨vv, hcv, hcf⟩ := HS3.out.hcell (i := i) (by omega)
      have hne : gg ≠ tb := by
        obtain ⟨hc3, hr3⟩ := HS3.out.had
        obtain ⟨cur3, hcur3, _⟩ := ownsRow_blk hr3
        exact ne_blk hcur3 HS3.out.blk (by decide)
      have hne2 := Ne.symm hne
      have hcg : gg ≠ c7 := by
        obtain ⟨hc3, hr3⟩ := HS3.out.had
        obtain ⟨cur3, hcur3, _⟩ := ownsRow_blk hr3
        exact ne_blk hcur3 HS3.out.box (by decide)
      have hcg2 := Ne.symm hcg
      have b0 : V3.cell? ⟨c7, 0, none⟩ = some (.int .u32 ((i : Int) + 1)) := cell_blk HS3.out.box 0 rfl
      have b1 : V3.cell? ⟨c7, 1, none⟩ = some (.int .u32 1) := cell_blk HS3.out.box 1 rfl
      have k4 : V3.cell? ⟨tb, 4, none⟩ = some (.slice (some ⟨gg, 0, none⟩) (i + 1) cap1) := cell_blk HS3.out.blk 4 rfl
      have q4 : IntKind.u32.wrap (i : Int) = (i : Int) := IntWalk.u32_in _ (by omega)
      have q5 : (i : Int) < (i : Int) + 1 := by omega
      go_region
      obtain ⟨V4, hV4⟩ : ∃ U, U = (V3.setCell ⟨gg, i, none⟩ (.int .u32 1)).drew := ⟨_, rfl⟩
      have HS4 := Lib.hid ((HS3.out.count i (.int .u32 1)).below (Below.refl _ _).drew)
      rw [← hV4] at HS4 ⊢
      clear hV4 hcv hcf hne hne2 hcg hcg2 b0 b1 k4 q4 q5
      have b0 : V4.cell? ⟨c7, 0, none⟩ = some (.int .u32 ((i : Int) + 1)) := cell_blk HS4.out.box 0 rfl
      have b1 : V4.cell? ⟨c7, 1, none⟩ = some (.int .u32 1) := cell_blk HS4.out.box 1 rfl
      have e0 := cell_blk HS4.out.res 0 rfl
      have e1 := cell_blk HS4.out.res 1 rfl
      have e2 := free_blk HS4.out.res 0
      have e3 := free_blk HS4.out.res 1
      simp at e0 e1
      have lfar := HS4.out.far.2
      have e4 : c7 ≠ w.heap.size + 1 := by omega
      have e5 := Ne.symm e4
      go_wp2_with fail
      have HS5 := HS4.out.told (.int .u32 ((i : Int) + 1)) (.int .u32 1)
      have z0 := cell_blk HS5.res 0 rfl
      have z1 := cell_blk HS5.res 1 rfl
      simp at z0 z1
      have hfin := HS5
      rw [HLEN.out] at hfin
      have hD := hfin.done HT.out HOK.out HLN.out (.inl ⟨HC.out.1, by rw [HNN.out.1], rfl, by rw [HNN.out.1], HNN.out.2, by rw [HC.out.2, HNN.out.1]⟩)
      exact bodyPost_ret (v := .tuple #[.agg #[.int .u32 ((i : Int) + 1), .int .u32 1], .int .i64 0]) (by simp [results, Tryd.results37, go_sem, z0, z1]) rfl ⟨i + 1, 1, nb, P, _, _, by rfl, HSAME.out, HSGX.out _, hD⟩
    · obtain ⟨rfl, rfl⟩ : i = k ∧ g = g0 + 1 := by
        have := HSGX.out none; rw [halc] at this; simp at this
        exact ⟨this.1.symm, this.2.symm⟩
      have hin : i < n := by rw [HNN.out.1]; exact (List.getElem?_eq_some_iff.1 hkk).1
      have hm2 : m2 = l.length + 1 := by rw [HNN.out.2, hfr]; simp
      have hg1 : g0 + 1 ≤ 4294967295 := by have := HOK.out.G2; simp [TA.ar] at this; omega
      have hml : l.length + 1 ≤ 2147483647 := by have h0 := HOK.out.sum; have h1 := HOK.out.len; have h2 := HOK.out.S2; simp [TA.ar] at h0 h1 h2; rw [hfr] at h0; simp at h0; omega
      have HC := Lib.hid (And.intro hfr (And.intro hkk halc))
      clear hfr hkk hg0 halc
      have hS := HS0.out
      rw [hm2] at hS
      obtain ⟨gg, rfl⟩ : ∃ gg, ha' = some ⟨gg, 0, none⟩ := by
        obtain ⟨hc, hr⟩ := hS.had
        rcases hr.2 with ⟨_, hn⟩ | ⟨gb, cap, cur, e, _⟩
        · omega
        · simp at e; exact ⟨gb, e.1⟩
      obtain ⟨fb, rfl, hfcap⟩ : ∃ fb, fa = some ⟨fb, 0, none⟩ ∧ l.length ≤ fcap := by
        obtain ⟨fc, hr⟩ := hS.fre
        have hl := hr.1
        rcases hr.2 with ⟨_, hn⟩ | ⟨gb, cap, cur, e, _, _, h2, h3⟩
        · omega
        · simp at e; exact ⟨gb, e.1, by have := e.2; omega⟩
      have HSX := Lib.hid hS
      clear hS HS0
      have q1 : IntKind.i64.wrap ((i : Int) + 1) = (i : Int) + 1 := IntWalk.i64_in _ (by omega)
      have q2 : decide ((n : Int) < (i : Int) + 1) = false := by simp; omega
      go_quiet (fail)
      have hS1 := HSX.out.below (below_drewN (Below.refl _ V1) nq)
      generalize V1.drewN nq = V2 at hS1 ⊢
      clear b0 b1 k4 k5 HSX
      have k5 := cell_blk hS1.blk 5 rfl
      have f5 := free_blk hS1.blk 5
      simp at k5
      have HS1 := Lib.hid hS1
      clear hS1
      have q6 : IntKind.i64.wrap (l.length : Int) = (l.length : Int) := IntWalk.i64_in _ (by omega)
      have q7 : (l.length : Int) ≤ (fcap : Int) := by omega
      go_wp2_with fail
      go_region
      obtain ⟨V3, hV3⟩ : ∃ U, U = (V2.setCell ⟨tb, 5, none⟩ (.slice (some ⟨fb, 0, none⟩) l.length fcap)).drew := ⟨_, rfl⟩
      have HS3 := Lib.hid ((HS1.out.pop (fv' := .slice (some ⟨fb, 0, none⟩) l.length fcap) (nf' := l.length) (by
        obtain ⟨fc, hr⟩ := HS1.out.fre
        have hl := hr.1
        exact ⟨fc.take (l.length * 2), ownsRow_pop (last := fc.drop (l.length * 2)) (by rw [List.length_take]; omega) (by rw [List.take_append_drop]; exact hr)⟩) (fun k hk => hk)).below (Below.refl _ _).drew)
      rw [← hV3] at HS3 ⊢
      clear hV3 k5 f5 q6 q7 HS1
      go_wp2_with fail
      obtain ⟨vv, hcv, hcf⟩ := HS3.out.hcell (i := i) (by omega)
      have hne : gg ≠ tb := by
        obtain ⟨hc3, hr3⟩ := HS3.out.had
        obtain ⟨cur3, hcur3, _⟩ := ownsRow_blk hr3
        exact ne_blk hcur3 HS3.out.blk (by decide)
      have hne2 := Ne.symm hne
      have hcg : gg ≠ c7 := by
        obtain ⟨hc3, hr3⟩ := HS3.out.had
        obtain ⟨cur3, hcur3, _⟩ := ownsRow_blk hr3
        exact ne_blk hcur3 HS3.out.box (by decide)
      have hcg2 := Ne.symm hcg
      have b0 : V3.cell? ⟨c7, 0, none⟩ = some (.int .u32 ((i : Int) + 1)) := cell_blk HS3.out.box 0 rfl
      have b1 : V3.cell? ⟨c7, 1, none⟩ = some (.int .u32 ((g0 : Int) + 1)) := cell_blk HS3.out.box 1 rfl
      have k4 : V3.cell? ⟨tb, 4, none⟩ = some (.slice (some ⟨gg, 0, none⟩) n hcap) := cell_blk HS3.out.blk 4 rfl
      have q4 : IntKind.u32.wrap (i : Int) = (i : Int) := IntWalk.u32_in _ (by omega)
      have q5 : (i : Int) < (n : Int) := by omega
      go_region
      obtain ⟨V4, hV4⟩ : ∃ U, U = (V3.setCell ⟨gg, i, none⟩ (.int .u32 ((g0 : Int) + 1))).drew := ⟨_, rfl⟩
      have HS4 := Lib.hid ((HS3.out.count i (.int .u32 ((g0 : Int) + 1))).below (Below.refl _ _).drew)
      rw [← hV4] at HS4 ⊢
      clear hV4 hcv hcf hne hne2 hcg hcg2 b0 b1 k4 q4 q5
      have b0 : V4.cell? ⟨c7, 0, none⟩ = some (.int .u32 ((i : Int) + 1)) := cell_blk HS4.out.box 0 rfl
      have b1 : V4.cell? ⟨c7, 1, none⟩ = some (.int .u32 ((g0 : Int) + 1)) := cell_blk HS4.out.box 1 rfl
      have e0 := cell_blk HS4.out.res 0 rfl
      have e1 := cell_blk HS4.out.res 1 rfl
      have e2 := free_blk HS4.out.res 0
      have e3 := free_blk HS4.out.res 1
      simp at e0 e1
      have lfar := HS4.out.far.2
      have e4 : c7 ≠ w.heap.size + 1 := by omega
      have e5 := Ne.symm e4
      go_wp2_with fail
      have HS5 := HS4.out.told (.int .u32 ((i : Int) + 1)) (.int .u32 ((g0 : Int) + 1))
      have z0 := cell_blk HS5.res 0 rfl
      have z1 := cell_blk HS5.res 1 rfl
      simp at z0 z1
      have hfin := HS5
      rw [HLEN.out] at hfin
      have hD := hfin.done HT.out HOK.out HLN.out (.inr ⟨l, i, g0, y, HC.out.1, HC.out.2.1, rfl, rfl, HNN.out.1, rfl, HC.out.2.2 _⟩)
      exact bodyPost_ret (v := .tuple #[.agg #[.int .u32 ((i : Int) + 1), .int .u32 ((g0 : Int) + 1)], .int .i64 0]) (by simp [results, Tryd.results37, go_sem, z0, z1]) rfl ⟨i + 1, g0 + 1, nb, P, _, _, by rfl, HSAME.out, HSGX.out _, hD⟩
end
end Go.Proofs.YtelhnaphkbpakaaDoor
