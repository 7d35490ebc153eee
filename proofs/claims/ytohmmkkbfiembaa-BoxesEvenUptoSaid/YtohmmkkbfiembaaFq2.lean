/- Where a box stands: the program's Place. -/
import Derived.Test.YtohmmkkbfiembaaFq1
import Derived.Test.YtohmmkkbfiembaaFr1
import Derived.Test.YtohmmkkbfiembaaHu
import Derived.Deep.RegionHeld
namespace Go.Proofs.Ytohmmkkbfiembaa
open Go.RowKit Go.Shelf
attribute [local go_sem] Oper.semAt_some
attribute [local go_sem] run_store_float
set_option linter.unusedVariables false
set_option maxRecDepth 100000

theorem Pl.det {A : Nat → Int} {R : Nat → Nat → Nat} {k : Nat} {o : Option (Option Nat × Option Nat)} (h : Pl A R k o) : ∀ o', Pl A R k o' → o = o' := by
  induction h with
  | root k hA =>
    intro o' h'
    cases h' with
    | root _ _ => rfl
    | bad _ h1 _ => exact absurd hA h1
    | up _ j r h1 _ _ => rw [hA] at h1; omega
  | bad k h1 h2 =>
    intro o' h'
    cases h' with
    | root _ hA => exact absurd hA h1
    | bad _ _ _ => rfl
    | up _ j r h3 h4 _ => omega
  | up k j r h1 h2 h3 ih =>
    intro o' h'
    cases h' with
    | root _ hA => rw [hA] at h1; omega
    | bad _ h4 h5 => omega
    | up _ j' r' h4 h5 h6 =>
      obtain rfl : j = j' := by omega
      rw [ih _ h6]
/-- A way up: of m steps. -/
structure Way (A : Nat → Int) (p : Nat → Nat) (m : Nat) : Prop where
  step : ∀ i, i < m → A (p i) = (p (i + 1) : Int) ∧ p (i + 1) < p i
theorem Way.bad {A : Nat → Int} {R : Nat → Nat → Nat} {p : Nat → Nat} {m : Nat} (h : Way A p m) (hb : Pl A R (p m) none) : Pl A R (p 0) none := by
  have : ∀ j, j ≤ m → Pl A R (p (m - j)) none := fun j => by
    induction j with
    | zero => intro _; exact hb
    | succ j ih =>
      intro hj
      have h1 := ih (by omega)
      obtain ⟨s1, s2⟩ := h.step (m - (j + 1)) (by omega)
      rw [show m - (j + 1) + 1 = m - j by omega] at s1 s2
      exact .up _ _ none s1 s2 h1
  have := this m (Nat.le_refl _)
  rwa [Nat.sub_self] at this
theorem Way.up {A : Nat → Int} {R : Nat → Nat → Nat} {p : Nat → Nat} {m i : Nat} (h : Way A p m) (hi : i < m) {q : Option Nat × Option Nat} (hq : Pl A R (p (i + 1)) (some q)) : Pl A R (p i) (some (oadd q.1 (oF (R (p i) 0)), oadd q.2 (oF (R (p i) 1)))) := by
  obtain ⟨s1, s2⟩ := h.step i hi
  exact .up _ _ (some q) s1 s2 hq
theorem Way.le {A : Nat → Int} {p : Nat → Nat} {m : Nat} (h : Way A p m) : ∀ i, i ≤ m → p i + i ≤ p 0 := fun i => by
  induction i with
  | zero => intro _; simp
  | succ i ih =>
    intro hi
    have := ih (by omega)
    have := (h.step i (by omega)).2
    omega
theorem Way.snoc {A : Nat → Int} {p : Nat → Nat} {m j : Nat} (h : Way A p m) (h1 : A (p m) = (j : Int)) (h2 : j < p m) : Way A (fun i => if i ≤ m then p i else j) (m + 1) := ⟨fun i hi => by
  by_cases e : i = m
  · subst e
    simp only [Nat.le_refl, if_true]
    rw [if_neg (by omega)]
    exact ⟨h1, h2⟩
  · simp only [show i ≤ m by omega, show i + 1 ≤ m by omega, if_true]
    exact h.step i (by omega)⟩
def ilist (n : Nat) (p : Nat → Nat) : List Value := (List.range n).map (fun i => .int .i64 (p i : Int))
theorem ilist_succ (n : Nat) (p : Nat → Nat) : ilist (n + 1) p = ilist n p ++ [.int .i64 (p n : Int)] := by unfold ilist; rw [List.range_succ, List.map_append]; rfl
theorem ilist_congr {n : Nat} {p q : Nat → Nat} (h : ∀ i, i < n → p i = q i) : ilist n p = ilist n q := by
  unfold ilist
  refine List.map_congr_left (fun i hi => ?_)
  rw [h i (by simpa using hi)]
theorem irow_cell {w : World} {base g cap n : Nat} {p : Nat → Nat} (h : w.ownsRow base 3 1 (.slice (some ⟨g, 0, none⟩) n cap) n (ilist n p)) {i : Nat} (hi : i < n) : w.cell? ⟨g, i, none⟩ = some (.int .i64 (p i : Int)) := by
  obtain ⟨cur, h1, h2⟩ := rwBlk h
  have h3 := h.cellAt i (by omega)
  have h4 : (ilist n p)[i]? = some (.int .i64 (p i : Int)) := by unfold ilist; simp [hi]
  have h5 := cell_of_row w g i cur 3 (0, 0) h1
  rw [h4] at h3
  exact cell_blk h1 i (h5.symm.trans h3)
theorem own_same {w w' : World} {base e size : Nat} {v : Value} {n : Nat} {xs : List Value} (h : w.ownsRow base e size v n xs) (hh : w'.heap = w.heap) : w'.ownsRow base e size v n xs := by
  refine ⟨h.1, ?_⟩
  rcases h.2 with h' | ⟨g, cap, cur, rfl, hbg, hg, rest⟩
  · exact .inl h'
  · exact .inr ⟨g, cap, cur, rfl, hbg, by rw [hh]; exact hg, rest⟩
theorem infoI2 : (Try.prog.info? 3).map (fun i => (i.zero, i.size, i.bytes)) = some (some (.int .i64 0), 1, 8) := by kernel_rfl
/-- Within the second loop: the rectangle of box k, summed up so far, lies at M. -/
structure P2 (A : Nat → Int) (R : Nat → Nat → Nat) (p : Nat → Nat) (w W : World) (M g m c k : Nat) : Prop where
  low : Below w.heap.size w W
  z : W.heap[w.heap.size]? = some (.cells #[fl 0, fl 0, fl 0, fl 0] 43 (0, 0))
  row : W.ownsRow (w.heap.size + 1) 3 1 (.slice (some ⟨g, 0, none⟩) (m + 1) c) (m + 1) (ilist (m + 1) p)
  at_ : ∃ q x y z u, Pl A R k (some q) ∧ VR q.1 (fl x) ∧ VR q.2 (fl y) ∧ W.heap[M]? = some (.cells #[fl x, fl y, fl z, fl u] 43 (0, 0))
set_option maxHeartbeats 2000000 in
theorem progPlace_calls (a : Option Addr) (n cap : Nat) (A : Nat → Int) (R : Nat → Nat → Nat) (hn : n ≤ 4398046511104) {k : Nat} {o : Option (Option Nat × Option Nat)} (h : Pl A R k o) (hk : k < n) (w : World) (hb : BxIn w a n A R) :
    Calls Try.prog 14 #[.slice a n cap, .int .i64 (k : Int)] w (PlPost w o (R k 2) (R k 3)) := by
  obtain ⟨b, off, ha, hbw⟩ : ∃ b off, a = some ⟨b, off, none⟩ ∧ b < w.heap.size := by
    obtain ⟨_, _, b, off, h3, h4, _⟩ := hb.at_ k hk
    exact ⟨b, off, h3, cell_lt' h4⟩
  subst ha
  have HBW := Lib.hid hbw
  clear hbw
  have HB0 : Hid (∀ W, Below w.heap.size w W → BxIn W (some ⟨b, off, none⟩) n A R) := Lib.hid (fun W hW => hb.below hW)
  have HPL := Lib.hid h
  have HN := Lib.hid hn
  clear h hb hn
  have d1 : decide ((k : Int) < 0) = false := by simp
  have d2 : decide ((n : Int) ≤ (k : Int)) = false := by simp; omega
  have d2' : decide (n ≤ k) = false := by simp; omega
  go_enter Try.func14, Try.ntmps14
  obtain ⟨i0, hi0, hz0, hz1, hz2⟩ := infoP infoI2
  have hr0 : ((w.alloc (.cells #[fl 0, fl 0, fl 0, fl 0] 43)).alloc (.cells #[.int .i64 (k : Int)] 3)).ownsRow (w.heap.size + 1) 3 1 (.slice (some ⟨w.heap.size + 1, 0, none⟩) 1 1) 1 (ilist 1 (fun _ => k)) := by
    have := World.ownsRow_lit (size := 1) (e := 3) (base := w.heap.size + 1) (w.alloc (.cells #[fl 0, fl 0, fl 0, fl 0] 43)) #[.int .i64 (k : Int)] 1 (by simp) (by decide) rfl
    simpa [ilist] using this
  have hz0' : ((w.alloc (.cells #[fl 0, fl 0, fl 0, fl 0] 43)).alloc (.cells #[.int .i64 (k : Int)] 3)).heap[w.heap.size]? = some (.cells #[fl 0, fl 0, fl 0, fl 0] 43 (0, 0)) := alloc_blk (Go.heap_alloc_new w _) _
  have hbl0 : Below w.heap.size w ((w.alloc (.cells #[fl 0, fl 0, fl 0, fl 0] 43)).alloc (.cells #[.int .i64 (k : Int)] 3)) := ((Below.refl _ w).alloc (Nat.le_refl _) _).alloc (by simp) _
  go_wp2_with fail
  go_loopg [6, 7] k (fun gh v u wr => ∃ (m g c : Nat) (p : Nat → Nat), u = .int .i64 (gh : Int) ∧ v = .slice (some ⟨g, 0, none⟩) (m + 1) c ∧ Hid (gh < n ∧ p 0 = k ∧ p m = gh ∧ Way A p m ∧ Below w.heap.size w wr ∧ wr.heap[w.heap.size]? = some (.cells #[fl 0, fl 0, fl 0, fl 0] 43 (0, 0))) ∧ wr.ownsRow (w.heap.size + 1) 3 1 (.slice (some ⟨g, 0, none⟩) (m + 1) c) (m + 1) (ilist (m + 1) p))
  case atStart => exact ⟨0, _, _, fun _ => k, rfl, rfl, Lib.hid ⟨hk, rfl, rfl, ⟨fun i hi => by omega⟩, hbl0, hz0'⟩, hr0⟩
  case round =>
    obtain ⟨m, g, c, p, rfl, rfl, hw, hrow⟩ := hrel
    have HW := Lib.hid hw
    clear hw hr0 hz0' hbl0
    obtain ⟨q1, q2', b', off', q3, c1, c2, c3, c4, c5⟩ := (HB0.out wr HW.out.2.2.2.2.1).at_ gk HW.out.1
    obtain ⟨rfl, rfl⟩ : b = b' ∧ off = off' := by cases q3; exact ⟨rfl, rfl⟩
    have HQ2 := Lib.hid q2'
    clear q2' q3
    obtain ⟨u, hu⟩ : ∃ u, u = A gk := ⟨_, rfl⟩
    rw [← hu] at c1 q1
    have HU := Lib.hid hu
    clear hu
    have lb := cell_lt' c1
    have hlt := HW.out.1
    have HR := Lib.hid hrow
    clear hrow
    have hm : m ≤ 4398046511104 := by
      have h1 := HW.out.2.2.2.1.le m (Nat.le_refl _)
      rw [HW.out.2.1] at h1
      have := HN.out
      omega
    have cw := irow_cell HR.out (i := m) (Nat.lt_succ_self m)
    rw [HW.out.2.2.1] at cw
    by_cases h1 : u = -1
    · subst h1
      go_wp2_with fail
      obtain ⟨M, hM⟩ : ∃ M, M = wr.heap.size := ⟨_, rfl⟩
      obtain ⟨W0, hW0⟩ : ∃ W, W = (wr.alloc (.cells #[fl (R gk 0), fl (R gk 1), fl (R gk 2), fl (R gk 3)] 43)) := ⟨_, rfl⟩
      have hat : Hid (P2 A R p w W0 M g m c gk) := Lib.hid (by
        obtain ⟨r1, r2, r3, r4, r5, r6⟩ := HW.out
        refine ⟨?_, ?_, ?_, ?_⟩
        · rw [hW0]; exact r5.alloc r5.size _
        · rw [hW0]; exact alloc_blk r6 _
        · rw [hW0]; exact HR.out.alloc _
        · exact ⟨_, _, _, _, _, Pl.root gk HU.out.symm, VR.self (HQ2.out 0 (by decide)), VR.self (HQ2.out 1 (by decide)), by rw [hW0, hM]; exact Go.heap_alloc_new wr _⟩)
      have HMB : Hid (w.heap.size < M ∧ g < M ∧ w.heap.size + 1 ≤ g ∧ b ≠ M) := Lib.hid (by
        obtain ⟨cur, h1, h2⟩ := rwBlk HR.out
        have h3 := lt_of_some h1
        have h4 := lt_of_some HW.out.2.2.2.2.2
        have h5 := HBW.out
        exact ⟨by omega, by omega, h2, by omega⟩)
      rw [← hM, ← hW0]
      clear c1 c2 c3 c4 c5 lb cw hM hW0
      go_loopg [10] m (fun gh v wq => v = .int .i64 ((gh : Int) - 1) ∧ Hid (gh ≤ m ∧ P2 A R p w wq M g m c (p gh)))
      case atStart => exact ⟨rfl, Lib.hid ⟨Nat.le_refl _, by rw [HW.out.2.2.1]; exact hat.out⟩⟩
      case round =>
        obtain ⟨rfl, hv⟩ := hrel
        have hgm := hv.out.1
        have HP := Lib.hid hv.out.2
        clear hv
        have hWY := HW.out.2.2.2.1
        have hp0 := HW.out.2.1
        have HWY := Lib.hid (And.intro hWY hp0)
        obtain ⟨q, x, y, z, t, hpl, v1, v2, hMM⟩ := HP.out.at_
        by_cases h0 : gk = 0
        · subst h0
          have hend : Hid (o = some q) := Lib.hid (by rw [hp0] at hpl; exact HPL.out.det _ hpl)
          obtain ⟨_, hr, b', off', q3, _, _, _, a5, a6⟩ := (HB0.out wr HP.out.low).at_ k hk
          obtain ⟨rfl, rfl⟩ : b = b' ∧ off = off' := by cases q3; exact ⟨rfl, rfl⟩
          have hfar : ∀ (W : World) (i : Nat) (v : Value) (o : Nat), (W.setCell ⟨M, i, none⟩ v).cell? ⟨b, o, none⟩ = W.cell? ⟨b, o, none⟩ := fun W i v o => World.cell?_setCell_far W _ _ _ (show M ≠ b from fun e => HMB.out.2.2.2 e.symm)
          obtain ⟨m0, m1, m2, m3, f0, f1, f2, f3⟩ := rect_facts (w := wr) hMM
          have s1 : wr.drew.cell? ⟨b, off + k * 7 + 5, none⟩ = some (fl (R k 2)) := a5
          have s2 : wr.drew.cell? ⟨b, off + k * 7 + 6, none⟩ = some (fl (R k 3)) := a6
          have s3 := (hfar wr.drew 2 (fl (R k 2)) (off + k * 7 + 5)).trans s1
          have s4 := (hfar wr.drew 2 (fl (R k 2)) (off + k * 7 + 6)).trans s2
          have s5 := (hfar (wr.drew.setCell ⟨M, 2, none⟩ (fl (R k 2))) 3 (fl (R k 3)) (off + k * 7 + 5)).trans s3
          have s6 := (hfar (wr.drew.setCell ⟨M, 2, none⟩ (fl (R k 2))) 3 (fl (R k 3)) (off + k * 7 + 6)).trans s4
          have HVV := Lib.hid (And.intro v1 v2)
          have HMM := Lib.hid hMM
          clear hfar hr q3 a5 a6 hpl v1 v2 hMM hWY hp0
          rw [show ((0 : Nat) : Int) - 1 = -1 from rfl]
          go_wp2_with fail
          refine wp_region_noPanic ?_
          refine wp_region_held_drew (S := (fun W => W.cell? ⟨b, off + k * 7 + 5, none⟩ = some (fl (R k 2)) ∧ W.cell? ⟨b, off + k * 7 + 6, none⟩ = some (fl (R k 3)))) (by kernel_rfl) ⟨s1, s2⟩ (fun hHeld => ?_)
          refine wpAnyH_take (i := 0) (v := ?_) rfl (by as_aux_lemma => kernel_rfl) (by as_aux_lemma => kernel_rfl) (by as_aux_lemma => kernel_rfl) (fun _ _ _ h => h) (Or.inl ⟨by kernel_rfl, ?_⟩) (by assumption) ?_
          rotate_left
          · intro w hSw; (try dsimp only at hSw); go_simp; try with_reducible rfl
          refine wpAnyH_take (i := 1) (v := ?_) rfl (by as_aux_lemma => kernel_rfl) (by as_aux_lemma => kernel_rfl) (by as_aux_lemma => kernel_rfl) (fun _ _ _ h => h) (Or.inl ⟨by kernel_rfl, ?_⟩) (by assumption) ?_
          rotate_left
          · intro w hSw; (try dsimp only at hSw); go_simp; try with_reducible rfl
          refine wpAnyH_take (i := 2) (v := ?_) rfl (by as_aux_lemma => kernel_rfl) (by as_aux_lemma => kernel_rfl) (by as_aux_lemma => kernel_rfl) (fun _ _ _ h => h) (Or.inl ⟨by kernel_rfl, ?_⟩) (by assumption) ?_
          rotate_left
          · intro w hSw; (try dsimp only at hSw); go_simp; try with_reducible rfl
          refine wpAnyH_take (i := 3) (v := ?_) rfl (by as_aux_lemma => kernel_rfl) (by as_aux_lemma => kernel_rfl) (by as_aux_lemma => kernel_rfl) (fun _ _ _ h => h) (Or.inl ⟨by kernel_rfl, ?_⟩) (by assumption) ?_
          rotate_left
          · intro w hSw; (try dsimp only at hSw); go_simp; try with_reducible rfl
          refine wpAnyH_take (i := 4) (v := ?_) rfl (by as_aux_lemma => kernel_rfl) (by as_aux_lemma => kernel_rfl) (by as_aux_lemma => kernel_rfl) (fun _ _ _ h => h) (Or.inl ⟨by kernel_rfl, ?_⟩) (by assumption) ?_
          rotate_left
          · intro w hSw; (try dsimp only at hSw); go_simp; try with_reducible rfl
          refine wpAnyH_take (i := 5) (v := ?_) rfl (by as_aux_lemma => kernel_rfl) (by as_aux_lemma => kernel_rfl) (by as_aux_lemma => kernel_rfl) (fun _ _ _ h => h) (Or.inl ⟨by kernel_rfl, ?_⟩) (by assumption) ?_
          rotate_left
          · intro w hSw; (try dsimp only at hSw); go_simp; try with_reducible rfl
          refine wpAnyH_take (i := 6) (v := ?_) rfl (by as_aux_lemma => kernel_rfl) (by as_aux_lemma => kernel_rfl) (by as_aux_lemma => kernel_rfl) (fun _ _ _ h => h) (Or.inl ⟨by kernel_rfl, ?_⟩) (by assumption) ?_
          rotate_left
          · intro w hSw; (try dsimp only at hSw); go_simp; try with_reducible rfl
          refine wpAnyH_take (i := 7) (v := ?_) rfl (by as_aux_lemma => kernel_rfl) (by as_aux_lemma => kernel_rfl) (by as_aux_lemma => kernel_rfl) (fun _ _ _ h => h) (Or.inl ⟨by kernel_rfl, ?_⟩) (by assumption) ?_
          rotate_left
          · intro w hSw; (try dsimp only at hSw); go_simp; try with_reducible rfl
          refine wpAnyH_take (i := 8) (v := ?_) rfl (by as_aux_lemma => kernel_rfl) (by as_aux_lemma => kernel_rfl) (by as_aux_lemma => kernel_rfl) (fun _ _ _ h => h) (Or.inl ⟨by kernel_rfl, ?_⟩) (by assumption) ?_
          rotate_left
          · intro w hSw; (try dsimp only at hSw); go_simp; try with_reducible rfl
          refine wpAnyH_take (i := 9) (v := ?_) rfl (by as_aux_lemma => kernel_rfl) (by as_aux_lemma => kernel_rfl) (by as_aux_lemma => kernel_rfl) (fun _ _ _ h => h) (Or.inl ⟨by kernel_rfl, ?_⟩) (by assumption) ?_
          rotate_left
          · intro w hSw; (try dsimp only at hSw); go_simp; try with_reducible rfl
          refine wpAnyH_take (i := 10) (v := ?_) rfl (by as_aux_lemma => kernel_rfl) (by as_aux_lemma => kernel_rfl) (by as_aux_lemma => kernel_rfl) (fun _ _ _ h => h) (Or.inl ⟨by kernel_rfl, ?_⟩) (by assumption) ?_
          rotate_left
          · intro w hSw; (try dsimp only at hSw); go_simp; try with_reducible rfl
          refine wpAnyH_take (i := 11) (v := ?_) rfl (by as_aux_lemma => kernel_rfl) (by as_aux_lemma => kernel_rfl) (by as_aux_lemma => kernel_rfl) (fun _ _ _ h => h) (Or.inl ⟨by kernel_rfl, ?_⟩) (by assumption) ?_
          rotate_left
          · intro w hSw; (try dsimp only at hSw); go_simp; try with_reducible rfl
          refine wpAnyH_take (i := 12) (v := ?_) rfl (by as_aux_lemma => kernel_rfl) (by as_aux_lemma => kernel_rfl) (by as_aux_lemma => kernel_rfl) (fun _ _ _ h => h) (Or.inl ⟨by kernel_rfl, ?_⟩) (by assumption) ?_
          rotate_left
          · intro w hSw; (try dsimp only at hSw); go_simp; try with_reducible rfl
          refine wpAnyH_ready (rs := [13]) (by as_aux_lemma => kernel_rfl) (by simp) ?_
          refine AllReadyH.cons rfl (fun K' hK => ?_) AllReadyH.nil
          go_simp
          refine hK.out _ _ ⟨s3, s4⟩ (fun hHeld => ?_)
          clear hK K'
          refine wpAnyH_take (i := 14) (v := ?_) rfl (by as_aux_lemma => kernel_rfl) (by as_aux_lemma => kernel_rfl) (by as_aux_lemma => kernel_rfl) (fun _ _ _ h => h) (Or.inl ⟨by kernel_rfl, ?_⟩) (by assumption) ?_
          rotate_left
          · intro w hSw; (try dsimp only at hSw); go_simp; try with_reducible rfl
          refine wpAnyH_ready (rs := [15]) (by as_aux_lemma => kernel_rfl) (by simp) ?_
          refine AllReadyH.cons rfl (fun K' hK => ?_) AllReadyH.nil
          go_simp
          refine hK.out _ _ ⟨s5, s6⟩ (fun hHeld => ?_)
          clear hK K'
          refine wpAnyH_done (by kernel_rfl) ?_ _
          refine NoPanic.normal ?_
          obtain ⟨W3, hW3⟩ : ∃ W, W = ((wr.setCell ⟨M, 2, none⟩ (fl (R k 2))).setCell ⟨M, 3, none⟩ (fl (R k 3))).drew := ⟨_, rfl⟩
          have hM3 : W3.heap[M]? = some (.cells #[fl x, fl y, fl (R k 2), fl (R k 3)] 43 (0, 0)) := by rw [hW3]; exact set_blk (set_blk HMM.out 2 (fl (R k 2))) 3 (fl (R k 3))
          have hN3 : W3.heap[w.heap.size]? = some (.cells #[fl 0, fl 0, fl 0, fl 0] 43 (0, 0)) := by
            have hne : w.heap.size ≠ M := Nat.ne_of_lt HMB.out.1
            rw [hW3]
            exact set_other (set_other HP.out.z (a := ⟨M, 2, none⟩) hne (fl (R k 2))) (a := ⟨M, 3, none⟩) hne (fl (R k 3))
          have hB3 : Hid (Below w.heap.size w W3) := Lib.hid (by
            have hle : w.heap.size ≤ M := Nat.le_of_lt HMB.out.1
            rw [hW3]
            exact ((HP.out.low.setCell (show w.heap.size ≤ Addr.block ⟨M, 2, none⟩ from hle) _).setCell (show w.heap.size ≤ Addr.block ⟨M, 3, none⟩ from hle) _).drew)
          rw [← hW3]
          clear hW3 s1 s2 s3 s4 s5 s6 m0 m1 m2 m3 f0 f1 f2 f3 hHeld
          obtain ⟨m0, m1, m2, m3, _, _, _, _⟩ := rect_facts hM3
          obtain ⟨n0, n1, n2, n3, f0, f1, f2, f3⟩ := rect_facts hN3
          have HX := Lib.hid (And.intro hM3 hN3)
          clear hM3 hN3
          have ho := hend.out
          subst ho
          go_wp2_with fail
          refine bodyPost_ret (v := .tuple #[.agg #[fl x, fl y, fl (R k 2), fl (R k 3)], .int .i64 0]) (by simp [results, Try.results14, go_sem, n0, n1, n2, n3]) rfl ⟨?_, _, _, rfl, HVV.out.1, HVV.out.2⟩
          have hNle : w.heap.size ≤ w.heap.size := Nat.le_refl _
          repeat (refine Below.setCell ?_ hNle _)
          exact hB3.out
        · obtain ⟨i, rfl⟩ : ∃ i, gk = i + 1 := ⟨gk - 1, by omega⟩
          have hpi : p i < n := by
            have := hWY.le i (by omega)
            omega
          obtain ⟨_, hr, b', off', q3, _, a3, a4, _, _⟩ := (HB0.out wr HP.out.low).at_ (p i) hpi
          obtain ⟨rfl, rfl⟩ : b = b' ∧ off = off' := by cases q3; exact ⟨rfl, rfl⟩
          have HUP := Lib.hid (hWY.up (show i < m by omega) hpl)
          have s1 : wr.cell? ⟨M, 0, none⟩ = some (fl x) := (rect_facts hMM).1
          have s2 := irow_cell HP.out.row (i := i) (by omega)
          have s3 : wr.cell? ⟨b, off + p i * 7 + 3, none⟩ = some (fl (R (p i) 0)) := a3
          obtain ⟨r1, hv1, W9, hd1, hr1⟩ := VR.add v1 (VR.self (hr 0 (by decide))) wr.drew
          have HV1 := Lib.hid hv1
          have e9 : W9.heap = wr.heap := Dr.heap (w := wr.drew) hd1
          have hM9 : W9.heap[M]? = some (.cells #[fl x, fl y, fl z, fl t] 43 (0, 0)) := by rw [e9]; exact hMM
          have s4 : W9.cell? ⟨M, 0, none⟩ = some (fl x) := (rect_facts hM9).1
          have f4 : W9.frozen? ⟨M, 0, none⟩ = false := free_blk hM9 0
          have up9 : ∀ (bb oo : Nat) (v : Value), wr.cell? ⟨bb, oo, none⟩ = some v → W9.cell? ⟨bb, oo, none⟩ = some v := fun bb oo v h => by
            have hb9 : Below wr.heap.size wr W9 := (Below.refl _ wr).drew.trans (Dr.below hd1)
            exact (hb9.cell (p := ⟨bb, oo, none⟩) (cell_lt' h)).trans h
          have s5 := up9 _ _ _ s2
          have s6 := up9 _ _ _ s3
          have HB9 : Hid (Below wr.heap.size wr W9) := Lib.hid ((Below.refl _ wr).drew.trans (Dr.below hd1))
          have hmi : i < m := by omega
          have hx1 : (i : Int) < (m : Int) + 1 := by omega
          rw [show (((i + 1 : Nat) : Int) - 1) = (i : Int) by omega]
          go_wp2_with fail
          refine wp_region_noPanic ?_
          refine wp_region_until_drew (S := (fun W => W.cell? ⟨M, 0, none⟩ = some (fl x) ∧ W.cell? ⟨g, i, none⟩ = some (.int .i64 (p i : Int)) ∧ W.cell? ⟨b, off + p i * 7 + 3, none⟩ = some (fl (R (p i) 0)))) (k := 13) (by kernel_rfl) ?_
          refine wpAnyU_take (i := 0) (v := ?_) [12, 13] rfl (by as_aux_lemma => kernel_rfl) (by as_aux_lemma => kernel_rfl) (by as_aux_lemma => kernel_rfl) (by as_aux_lemma => kernel_rfl) (by as_aux_lemma => kernel_rfl) (by as_aux_lemma => kernel_rfl) (by as_aux_lemma => kernel_rfl) (fun _ _ _ h => h) (Or.inl ⟨by kernel_rfl, ?_⟩) ⟨s1, s2, s3⟩ ?_
          rotate_left
          · intro w hSw; (try dsimp only at hSw); go_simp; try with_reducible rfl
          refine wpAnyU_take (i := 1) (v := ?_) [12, 13] rfl (by as_aux_lemma => kernel_rfl) (by as_aux_lemma => kernel_rfl) (by as_aux_lemma => kernel_rfl) (by as_aux_lemma => kernel_rfl) (by as_aux_lemma => kernel_rfl) (by as_aux_lemma => kernel_rfl) (by as_aux_lemma => kernel_rfl) (fun _ _ _ h => h) (Or.inl ⟨by kernel_rfl, ?_⟩) ⟨s1, s2, s3⟩ ?_
          rotate_left
          · intro w hSw; (try dsimp only at hSw); go_simp; try with_reducible rfl
          refine wpAnyU_take (i := 2) (v := ?_) [12, 13] rfl (by as_aux_lemma => kernel_rfl) (by as_aux_lemma => kernel_rfl) (by as_aux_lemma => kernel_rfl) (by as_aux_lemma => kernel_rfl) (by as_aux_lemma => kernel_rfl) (by as_aux_lemma => kernel_rfl) (by as_aux_lemma => kernel_rfl) (fun _ _ _ h => h) (Or.inl ⟨by kernel_rfl, ?_⟩) ⟨s1, s2, s3⟩ ?_
          rotate_left
          · intro w hSw; (try dsimp only at hSw); go_simp; try with_reducible rfl
          refine wpAnyU_take (i := 3) (v := ?_) [12, 13] rfl (by as_aux_lemma => kernel_rfl) (by as_aux_lemma => kernel_rfl) (by as_aux_lemma => kernel_rfl) (by as_aux_lemma => kernel_rfl) (by as_aux_lemma => kernel_rfl) (by as_aux_lemma => kernel_rfl) (by as_aux_lemma => kernel_rfl) (fun _ _ _ h => h) (Or.inl ⟨by kernel_rfl, ?_⟩) ⟨s1, s2, s3⟩ ?_
          rotate_left
          · intro w hSw; (try dsimp only at hSw); go_simp; try with_reducible rfl
          refine wpAnyU_take (i := 4) (v := ?_) [12, 13] rfl (by as_aux_lemma => kernel_rfl) (by as_aux_lemma => kernel_rfl) (by as_aux_lemma => kernel_rfl) (by as_aux_lemma => kernel_rfl) (by as_aux_lemma => kernel_rfl) (by as_aux_lemma => kernel_rfl) (by as_aux_lemma => kernel_rfl) (fun _ _ _ h => h) (Or.inl ⟨by kernel_rfl, ?_⟩) ⟨s1, s2, s3⟩ ?_
          rotate_left
          · intro w hSw; (try dsimp only at hSw); go_simp; try with_reducible rfl
          refine wpAnyU_take (i := 5) (v := ?_) [12, 13] rfl (by as_aux_lemma => kernel_rfl) (by as_aux_lemma => kernel_rfl) (by as_aux_lemma => kernel_rfl) (by as_aux_lemma => kernel_rfl) (by as_aux_lemma => kernel_rfl) (by as_aux_lemma => kernel_rfl) (by as_aux_lemma => kernel_rfl) (fun _ _ _ h => h) (Or.inl ⟨by kernel_rfl, ?_⟩) ⟨s1, s2, s3⟩ ?_
          rotate_left
          · intro w hSw; (try dsimp only at hSw); go_simp; try with_reducible rfl
          refine wpAnyU_take (i := 6) (v := ?_) [12, 13] rfl (by as_aux_lemma => kernel_rfl) (by as_aux_lemma => kernel_rfl) (by as_aux_lemma => kernel_rfl) (by as_aux_lemma => kernel_rfl) (by as_aux_lemma => kernel_rfl) (by as_aux_lemma => kernel_rfl) (by as_aux_lemma => kernel_rfl) (fun _ _ _ h => h) (Or.inl ⟨by kernel_rfl, ?_⟩) ⟨s1, s2, s3⟩ ?_
          rotate_left
          · intro w hSw; (try dsimp only at hSw); go_simp; try with_reducible rfl
          refine wpAnyU_take (i := 7) (v := ?_) [12, 13] rfl (by as_aux_lemma => kernel_rfl) (by as_aux_lemma => kernel_rfl) (by as_aux_lemma => kernel_rfl) (by as_aux_lemma => kernel_rfl) (by as_aux_lemma => kernel_rfl) (by as_aux_lemma => kernel_rfl) (by as_aux_lemma => kernel_rfl) (fun _ _ _ h => h) (Or.inl ⟨by kernel_rfl, ?_⟩) ⟨s1, s2, s3⟩ ?_
          rotate_left
          · intro w hSw; (try dsimp only at hSw); go_simp; try with_reducible rfl
          refine wpAnyU_take (i := 8) (v := ?_) [12, 13] rfl (by as_aux_lemma => kernel_rfl) (by as_aux_lemma => kernel_rfl) (by as_aux_lemma => kernel_rfl) (by as_aux_lemma => kernel_rfl) (by as_aux_lemma => kernel_rfl) (by as_aux_lemma => kernel_rfl) (by as_aux_lemma => kernel_rfl) (fun _ _ _ h => h) (Or.inl ⟨by kernel_rfl, ?_⟩) ⟨s1, s2, s3⟩ ?_
          rotate_left
          · intro w hSw; (try dsimp only at hSw); go_simp; try with_reducible rfl
          refine wpAnyU_take (i := 9) (v := ?_) [12, 13] rfl (by as_aux_lemma => kernel_rfl) (by as_aux_lemma => kernel_rfl) (by as_aux_lemma => kernel_rfl) (by as_aux_lemma => kernel_rfl) (by as_aux_lemma => kernel_rfl) (by as_aux_lemma => kernel_rfl) (by as_aux_lemma => kernel_rfl) (fun _ _ _ h => h) (Or.inl ⟨by kernel_rfl, ?_⟩) ⟨s1, s2, s3⟩ ?_
          rotate_left
          · intro w hSw; (try dsimp only at hSw); go_simp; try with_reducible rfl
          refine wpAnyU_take (i := 10) (v := ?_) [12, 13] rfl (by as_aux_lemma => kernel_rfl) (by as_aux_lemma => kernel_rfl) (by as_aux_lemma => kernel_rfl) (by as_aux_lemma => kernel_rfl) (by as_aux_lemma => kernel_rfl) (by as_aux_lemma => kernel_rfl) (by as_aux_lemma => kernel_rfl) (fun _ _ _ h => h) (Or.inl ⟨by kernel_rfl, ?_⟩) ⟨s1, s2, s3⟩ ?_
          rotate_left
          · intro w hSw; (try dsimp only at hSw); go_simp; try with_reducible rfl
          refine wpAnyU_one (i := 11) (by as_aux_lemma => kernel_rfl) rfl (fun K' hK => ?_)
          go_simp
          refine hK.out _ _ (fun _ _ => ⟨s4, s5, s6⟩) ?_
          clear hK K'
          refine wpAnyU_one (i := 12) (by as_aux_lemma => kernel_rfl) rfl (fun K' hK => ?_)
          go_simp
          refine hK.out _ _ (fun _ _ => ⟨s4, s5, s6⟩) ?_
          clear hK K'
          refine wpAnyU_one (i := 13) (by as_aux_lemma => kernel_rfl) rfl (fun K' hK => ?_)
          go_simp
          refine hK.out _ _ (fun _ h => absurd rfl h) ?_
          clear hK K'
          refine wpAnyU_done (by kernel_rfl) ?_ _
          refine NoPanic.normal ?_
          obtain ⟨W10, hW10⟩ : ∃ W, W = (W9.setCell ⟨M, 0, none⟩ (fl r1)) := ⟨_, rfl⟩
          have hle : w.heap.size ≤ M := Nat.le_of_lt HMB.out.1
          have hne : w.heap.size ≠ M := Nat.ne_of_lt HMB.out.1
          have HP10 : Hid (Below w.heap.size w W10 ∧ W10.heap[w.heap.size]? = some (.cells #[fl 0, fl 0, fl 0, fl 0] 43 (0, 0)) ∧ W10.ownsRow (w.heap.size + 1) 3 1 (.slice (some ⟨g, 0, none⟩) (m + 1) c) (m + 1) (ilist (m + 1) p) ∧ W10.heap[M]? = some (.cells #[fl r1, fl y, fl z, fl t] 43 (0, 0))) := Lib.hid (by
            have hb9 := HP.out.low.trans (HB9.out.mono HP.out.low.size)
            rw [hW10]
            refine ⟨hb9.setCell (show w.heap.size ≤ Addr.block ⟨M, 0, none⟩ from hle) _, ?_, ?_, set_blk hM9 0 (fl r1)⟩
            · exact set_other (by rw [e9]; exact HP.out.z) (a := ⟨M, 0, none⟩) hne (fl r1)
            · have hrow9 : W9.ownsRow (w.heap.size + 1) 3 1 (.slice (some ⟨g, 0, none⟩) (m + 1) c) (m + 1) (ilist (m + 1) p) := own_same HP.out.row e9
              exact rwOther hrow9 hM9 (by decide) 0 (fl r1))
          have hfar : ∀ (W : World) (i : Nat) (v : Value) (o : Nat), (W.setCell ⟨M, i, none⟩ v).cell? ⟨b, o, none⟩ = W.cell? ⟨b, o, none⟩ := fun W i v o => World.cell?_setCell_far W _ _ _ (show M ≠ b from fun e => HMB.out.2.2.2 e.symm)
          have s7 : W10.cell? ⟨b, off + p i * 7 + 4, none⟩ = some (fl (R (p i) 1)) := by rw [hW10, hfar]; exact up9 _ _ _ a4
          rw [← hW10]
          clear hW10 s1 s2 s3 s4 s5 s6 f4 up9 hr1
          have s1 : W10.cell? ⟨M, 1, none⟩ = some (fl y) := (rect_facts HP10.out.2.2.2).2.1
          have s2 := irow_cell HP10.out.2.2.1 (i := i) (by omega)
          have s3 := s7
          obtain ⟨r2, hv2, W11, hd2, hr2⟩ := VR.add v2 (VR.self (hr 1 (by decide))) W10.drew
          have HV2 := Lib.hid hv2
          have e11 : W11.heap = W10.heap := Dr.heap (w := W10.drew) hd2
          have hM11 : W11.heap[M]? = some (.cells #[fl r1, fl y, fl z, fl t] 43 (0, 0)) := by rw [e11]; exact HP10.out.2.2.2
          have s4 : W11.cell? ⟨M, 1, none⟩ = some (fl y) := (rect_facts hM11).2.1
          have f4 : W11.frozen? ⟨M, 1, none⟩ = false := free_blk hM11 1
          have HB11 : Hid (Below W10.heap.size W10 W11) := Lib.hid ((Below.refl _ W10).drew.trans (Dr.below hd2))
          have s5 := (HB11.out.cell (p := ⟨g, i, none⟩) (cell_lt' s2)).trans s2
          have s6 := (HB11.out.cell (p := ⟨b, off + p i * 7 + 4, none⟩) (cell_lt' s3)).trans s3
          clear s7 hfar hMM hM9 e9 hv1 hv2 hd1 v1 v2 hpl hWY hp0 a3 a4 q3
          go_wp2_with fail
          refine wp_region_noPanic ?_
          refine wp_region_until_drew (S := (fun W => W.cell? ⟨M, 1, none⟩ = some (fl y) ∧ W.cell? ⟨g, i, none⟩ = some (.int .i64 (p i : Int)) ∧ W.cell? ⟨b, off + p i * 7 + 4, none⟩ = some (fl (R (p i) 1)))) (k := 13) (by kernel_rfl) ?_
          refine wpAnyU_take (i := 0) (v := ?_) [12, 13] rfl (by as_aux_lemma => kernel_rfl) (by as_aux_lemma => kernel_rfl) (by as_aux_lemma => kernel_rfl) (by as_aux_lemma => kernel_rfl) (by as_aux_lemma => kernel_rfl) (by as_aux_lemma => kernel_rfl) (by as_aux_lemma => kernel_rfl) (fun _ _ _ h => h) (Or.inl ⟨by kernel_rfl, ?_⟩) ⟨s1, s2, s3⟩ ?_
          rotate_left
          · intro w hSw; (try dsimp only at hSw); go_simp; try with_reducible rfl
          refine wpAnyU_take (i := 1) (v := ?_) [12, 13] rfl (by as_aux_lemma => kernel_rfl) (by as_aux_lemma => kernel_rfl) (by as_aux_lemma => kernel_rfl) (by as_aux_lemma => kernel_rfl) (by as_aux_lemma => kernel_rfl) (by as_aux_lemma => kernel_rfl) (by as_aux_lemma => kernel_rfl) (fun _ _ _ h => h) (Or.inl ⟨by kernel_rfl, ?_⟩) ⟨s1, s2, s3⟩ ?_
          rotate_left
          · intro w hSw; (try dsimp only at hSw); go_simp; try with_reducible rfl
          refine wpAnyU_take (i := 2) (v := ?_) [12, 13] rfl (by as_aux_lemma => kernel_rfl) (by as_aux_lemma => kernel_rfl) (by as_aux_lemma => kernel_rfl) (by as_aux_lemma => kernel_rfl) (by as_aux_lemma => kernel_rfl) (by as_aux_lemma => kernel_rfl) (by as_aux_lemma => kernel_rfl) (fun _ _ _ h => h) (Or.inl ⟨by kernel_rfl, ?_⟩) ⟨s1, s2, s3⟩ ?_
          rotate_left
          · intro w hSw; (try dsimp only at hSw); go_simp; try with_reducible rfl
          refine wpAnyU_take (i := 3) (v := ?_) [12, 13] rfl (by as_aux_lemma => kernel_rfl) (by as_aux_lemma => kernel_rfl) (by as_aux_lemma => kernel_rfl) (by as_aux_lemma => kernel_rfl) (by as_aux_lemma => kernel_rfl) (by as_aux_lemma => kernel_rfl) (by as_aux_lemma => kernel_rfl) (fun _ _ _ h => h) (Or.inl ⟨by kernel_rfl, ?_⟩) ⟨s1, s2, s3⟩ ?_
          rotate_left
          · intro w hSw; (try dsimp only at hSw); go_simp; try with_reducible rfl
          refine wpAnyU_take (i := 4) (v := ?_) [12, 13] rfl (by as_aux_lemma => kernel_rfl) (by as_aux_lemma => kernel_rfl) (by as_aux_lemma => kernel_rfl) (by as_aux_lemma => kernel_rfl) (by as_aux_lemma => kernel_rfl) (by as_aux_lemma => kernel_rfl) (by as_aux_lemma => kernel_rfl) (fun _ _ _ h => h) (Or.inl ⟨by kernel_rfl, ?_⟩) ⟨s1, s2, s3⟩ ?_
          rotate_left
          · intro w hSw; (try dsimp only at hSw); go_simp; try with_reducible rfl
          refine wpAnyU_take (i := 5) (v := ?_) [12, 13] rfl (by as_aux_lemma => kernel_rfl) (by as_aux_lemma => kernel_rfl) (by as_aux_lemma => kernel_rfl) (by as_aux_lemma => kernel_rfl) (by as_aux_lemma => kernel_rfl) (by as_aux_lemma => kernel_rfl) (by as_aux_lemma => kernel_rfl) (fun _ _ _ h => h) (Or.inl ⟨by kernel_rfl, ?_⟩) ⟨s1, s2, s3⟩ ?_
          rotate_left
          · intro w hSw; (try dsimp only at hSw); go_simp; try with_reducible rfl
          refine wpAnyU_take (i := 6) (v := ?_) [12, 13] rfl (by as_aux_lemma => kernel_rfl) (by as_aux_lemma => kernel_rfl) (by as_aux_lemma => kernel_rfl) (by as_aux_lemma => kernel_rfl) (by as_aux_lemma => kernel_rfl) (by as_aux_lemma => kernel_rfl) (by as_aux_lemma => kernel_rfl) (fun _ _ _ h => h) (Or.inl ⟨by kernel_rfl, ?_⟩) ⟨s1, s2, s3⟩ ?_
          rotate_left
          · intro w hSw; (try dsimp only at hSw); go_simp; try with_reducible rfl
          refine wpAnyU_take (i := 7) (v := ?_) [12, 13] rfl (by as_aux_lemma => kernel_rfl) (by as_aux_lemma => kernel_rfl) (by as_aux_lemma => kernel_rfl) (by as_aux_lemma => kernel_rfl) (by as_aux_lemma => kernel_rfl) (by as_aux_lemma => kernel_rfl) (by as_aux_lemma => kernel_rfl) (fun _ _ _ h => h) (Or.inl ⟨by kernel_rfl, ?_⟩) ⟨s1, s2, s3⟩ ?_
          rotate_left
          · intro w hSw; (try dsimp only at hSw); go_simp; try with_reducible rfl
          refine wpAnyU_take (i := 8) (v := ?_) [12, 13] rfl (by as_aux_lemma => kernel_rfl) (by as_aux_lemma => kernel_rfl) (by as_aux_lemma => kernel_rfl) (by as_aux_lemma => kernel_rfl) (by as_aux_lemma => kernel_rfl) (by as_aux_lemma => kernel_rfl) (by as_aux_lemma => kernel_rfl) (fun _ _ _ h => h) (Or.inl ⟨by kernel_rfl, ?_⟩) ⟨s1, s2, s3⟩ ?_
          rotate_left
          · intro w hSw; (try dsimp only at hSw); go_simp; try with_reducible rfl
          refine wpAnyU_take (i := 9) (v := ?_) [12, 13] rfl (by as_aux_lemma => kernel_rfl) (by as_aux_lemma => kernel_rfl) (by as_aux_lemma => kernel_rfl) (by as_aux_lemma => kernel_rfl) (by as_aux_lemma => kernel_rfl) (by as_aux_lemma => kernel_rfl) (by as_aux_lemma => kernel_rfl) (fun _ _ _ h => h) (Or.inl ⟨by kernel_rfl, ?_⟩) ⟨s1, s2, s3⟩ ?_
          rotate_left
          · intro w hSw; (try dsimp only at hSw); go_simp; try with_reducible rfl
          refine wpAnyU_take (i := 10) (v := ?_) [12, 13] rfl (by as_aux_lemma => kernel_rfl) (by as_aux_lemma => kernel_rfl) (by as_aux_lemma => kernel_rfl) (by as_aux_lemma => kernel_rfl) (by as_aux_lemma => kernel_rfl) (by as_aux_lemma => kernel_rfl) (by as_aux_lemma => kernel_rfl) (fun _ _ _ h => h) (Or.inl ⟨by kernel_rfl, ?_⟩) ⟨s1, s2, s3⟩ ?_
          rotate_left
          · intro w hSw; (try dsimp only at hSw); go_simp; try with_reducible rfl
          refine wpAnyU_one (i := 11) (by as_aux_lemma => kernel_rfl) rfl (fun K' hK => ?_)
          go_simp
          refine hK.out _ _ (fun _ _ => ⟨s4, s5, s6⟩) ?_
          clear hK K'
          refine wpAnyU_one (i := 12) (by as_aux_lemma => kernel_rfl) rfl (fun K' hK => ?_)
          go_simp
          refine hK.out _ _ (fun _ _ => ⟨s4, s5, s6⟩) ?_
          clear hK K'
          refine wpAnyU_one (i := 13) (by as_aux_lemma => kernel_rfl) rfl (fun K' hK => ?_)
          go_simp
          refine hK.out _ _ (fun _ h => absurd rfl h) ?_
          clear hK K'
          refine wpAnyU_done (by kernel_rfl) ?_ _
          refine NoPanic.normal ?_
          have HEND : Hid (P2 A R p w (W11.setCell ⟨M, 1, none⟩ (fl r2)) M g m c (p i)) := Lib.hid (by
            obtain ⟨z1, z2, z3, z4⟩ := HP10.out
            refine ⟨(z1.trans (HB11.out.mono z1.size)).setCell (show w.heap.size ≤ Addr.block ⟨M, 1, none⟩ from hle) _, set_other (by rw [e11]; exact z2) (a := ⟨M, 1, none⟩) hne (fl r2), rwOther (own_same z3 e11) hM11 (by decide) 1 (fl r2), ⟨_, r1, r2, z, t, HUP.out, HV1.out, HV2.out, set_blk hM11 1 (fl r2)⟩⟩)
          obtain ⟨W12, hW12⟩ : ∃ W, W = (W11.setCell ⟨M, 1, none⟩ (fl r2)) := ⟨_, rfl⟩
          rw [← hW12] at HEND ⊢
          clear hW12 s1 s2 s3 s4 s5 s6 f4 hr2 e11 hM11 hd2
          have HME : Hid (i < i + 1) := Lib.hid (Nat.lt_succ_self i)
          have HIM : Hid (i ≤ m) := Lib.hid (by omega)
          go_wp2_with fail
          go_roundg i
          case measure => exact HME.out
          case rel => exact ⟨rfl, Lib.hid ⟨HIM.out, HEND.out⟩⟩
    · have e1 : (u == -1) = false := by simp; exact h1
      have e1' : (u != -1) = true := by simp; exact h1
      by_cases h2 : u < 0 ∨ (gk : Int) ≤ u
      · have hend : Hid (o = none) := Lib.hid (by
          have hb := Pl.bad (R := R) (A := A) gk (by rw [← HU.out]; exact h1) (by rw [← HU.out]; exact h2)
          rw [← HW.out.2.2.1] at hb
          have := HW.out.2.2.2.1.bad hb
          rw [HW.out.2.1] at this
          exact HPL.out.det _ this)
        have ho := hend.out
        subst ho
        obtain ⟨n0, n1, n2, n3, f0, f1, f2, f3⟩ := rect_facts HW.out.2.2.2.2.2
        have hNle : w.heap.size ≤ w.heap.size := Nat.le_refl _
        clear c2 c3 c4 c5 cw hend
        rcases Int.lt_or_le u 0 with h0 | h0
        · have d5 : decide (u < 0) = true := by simp; omega
          clear h2
          go_wp2_with fail
          refine bodyPost_ret (v := .tuple #[.agg #[fl 0, fl 0, fl 0, fl 0], .int .i64 1]) (by simp [results, Try.results14, go_sem, n0, n1, n2, n3]) rfl ⟨?_, rfl⟩
          repeat (refine Below.setCell ?_ hNle _)
          exact HW.out.2.2.2.2.1
        · have d5 : decide (u < 0) = false := by simp; omega
          have d6 : decide ((gk : Int) ≤ u) = true := by simp; omega
          clear h2
          go_wp2_with fail
          refine bodyPost_ret (v := .tuple #[.agg #[fl 0, fl 0, fl 0, fl 0], .int .i64 1]) (by simp [results, Try.results14, go_sem, n0, n1, n2, n3]) rfl ⟨?_, rfl⟩
          repeat (refine Below.setCell ?_ hNle _)
          exact HW.out.2.2.2.2.1
      · obtain ⟨j, rfl⟩ : ∃ j : Nat, u = (j : Int) := ⟨u.toNat, by omega⟩
        have hjg : j < gk := by omega
        have d5 : decide ((j : Int) < 0) = false := by simp
        have d6 : decide (gk ≤ j) = false := by simp; omega
        have d7 : decide ((gk : Int) ≤ (j : Int)) = false := by simp; omega
        have HME : Hid (j < gk) := Lib.hid hjg
        have hmx : m + 1 + 1 ≤ maxLen := by have : maxLen = 9223372036854775807 := rfl; omega
        have hby : (m + 1 + 1) * 8 ≤ 140737488355328 := by omega
        have hws : w.heap.size + 1 ≤ wr.heap.size := lt_of_some HW.out.2.2.2.2.2
        have HNX : Hid (Way A (fun i => if i ≤ m then p i else j) (m + 1) ∧ ilist (m + 1 + 1) (fun i => if i ≤ m then p i else j) = ilist (m + 1) p ++ [.int .i64 (j : Int)]) := Lib.hid (by
          refine ⟨HW.out.2.2.2.1.snoc (by rw [HW.out.2.2.1]; exact HU.out.symm) (by rw [HW.out.2.2.1]; exact hjg), ?_⟩
          rw [ilist_succ]
          congr 1
          · exact ilist_congr (fun i hi => if_pos (by omega))
          · simp only [show ¬ m + 1 ≤ m by omega, if_false])
        have hlt2 : j < n := by omega
        have HJN := Lib.hid hlt2
        have HWS := Lib.hid hws
        clear h1 h2 q1 hjg hlt2 c2 c3 c4 c5 cw
        go_wp2_with (at_builtin; refine wpList_append_lies _ rfl (.tmp 50) (.tmp 52) 40 rfl (w.heap.size + 1) 3 i0 (.int .i64 0) 1 8 Try.underlying40 hi0 hz0 hz1 hz2 rfl (by omega) (.slice (some ⟨g, 0, none⟩) (m + 1) c) (m + 1) (ilist (m + 1) p) rfl (HR.out.alloc _) ⟨wr.heap.size, 0, none⟩ 1 1 [.int .i64 (j : Int)] rfl rfl (World.news_of_block (cs := #[.int .i64 (j : Int)]) (t := 3) (fr := (0, 0)) (Go.heap_alloc_new wr _)) (by simp [Value.oneCell']) (by omega) hmx hby (by simp; omega) (wr.heap.size + 1) (by simp) ?_; intro g2 c2 w5 hown2 hg2 hat2 hlt2; have HR2 := Lib.hid (And.intro hown2 hg2); clear hown2 hg2 hat2 hlt2)
        go_roundg j
        case measure => exact HME.out
        case rel => exact ⟨m + 1, g2, c2, fun i => if i ≤ m then p i else j, rfl, rfl, Lib.hid ⟨HJN.out, by simp only [Nat.zero_le, if_true]; exact HW.out.2.1, by simp only [show ¬ m + 1 ≤ m by omega, if_false], HNX.out.1, (HW.out.2.2.2.2.1.alloc HW.out.2.2.2.2.1.size _).trans (grown_below HR2.out.2 (fun y e => Nat.le_of_succ_le (HR.out.lt y e).1) (by simp; have := HWS.out; omega)), rwApp HR.out HR2.out.2 HW.out.2.2.2.2.2 (by decide)⟩, by rw [HNX.out.2]; exact HR2.out.1⟩
theorem fq2_end : True := trivial
end Go.Proofs.Ytohmmkkbfiembaa
