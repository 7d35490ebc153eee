/- BoxesEven: the law walked, its first half. -/
import Derived.Test.YtohmmkkbfiembaaFe4
import Derived.Test.YtohmmkkbfiembaaFg4
import Derived.Deep.DeepCutAuto
import Derived.Deep.CutBlock
import Derived.Deep.QuietTactic
import Derived.BigQuiet
namespace Go.Proofs.Ytohmmkkbfiembaa
open Go.RowKit Go.Shelf
attribute [local go_sem] Oper.semAt_some
attribute [local go_sem] run_store_float
set_option linter.unusedVariables false
set_option maxRecDepth 100000

/-- Whole numbers of 32 bits that came in. -/
structure SlU (w : World) (a : Option Addr) (n : Nat) (f : Nat → Nat) : Prop where
  at_ : ∀ i, i < n → f i < 4294967296 ∧ ∃ b off, a = some ⟨b, off, none⟩ ∧ w.cell? ⟨b, off + i, none⟩ = some (.int .u32 (f i : Int))
theorem SlU.below {w w' : World} {a : Option Addr} {n : Nat} {f : Nat → Nat} (h : SlU w a n f) (hb : Below w.heap.size w w') : SlU w' a n f := ⟨fun i hi => by
  obtain ⟨h0, b, off, h1, h2⟩ := h.at_ i hi
  exact ⟨h0, b, off, h1, (hb.cell (p := ⟨b, off + i, none⟩) (cell_lt' h2)).trans h2⟩⟩
/-- Four rows of the call's own, each in a block of its own. -/
structure Q4 (w1 w : World) (v1 v2 v3 v4 : Value) (n1 n2 n3 n4 : Nat) (x1 x2 x3 x4 : List Value) : Prop where
  low : Below w1.heap.size w1 w
  r1 : w.ownsRow w1.heap.size 23 1 v1 n1 x1
  r2 : w.ownsRow w1.heap.size 23 1 v2 n2 x2
  r3 : w.ownsRow w1.heap.size 23 1 v3 n3 x3
  r4 : w.ownsRow w1.heap.size 23 1 v4 n4 x4
  d12 : ∀ x, v1.ownBlock = some x → v2.ownBlock ≠ some x
  d13 : ∀ x, v1.ownBlock = some x → v3.ownBlock ≠ some x
  d14 : ∀ x, v1.ownBlock = some x → v4.ownBlock ≠ some x
  d23 : ∀ x, v2.ownBlock = some x → v3.ownBlock ≠ some x
  d24 : ∀ x, v2.ownBlock = some x → v4.ownBlock ≠ some x
  d34 : ∀ x, v3.ownBlock = some x → v4.ownBlock ≠ some x
theorem Q4.nil (w : World) : Q4 w w (.slice none 0 0) (.slice none 0 0) (.slice none 0 0) (.slice none 0 0) 0 0 0 0 [] [] [] [] :=
  ⟨Below.refl _ _, World.ownsRow_nil _ _ _ _, World.ownsRow_nil _ _ _ _, World.ownsRow_nil _ _ _ _, World.ownsRow_nil _ _ _ _, (fun _ h => by cases h), (fun _ h => by cases h), (fun _ h => by cases h), (fun _ h => by cases h), (fun _ h => by cases h), (fun _ h => by cases h)⟩
theorem Q4.rot {w1 w : World} {v1 v2 v3 v4 : Value} {n1 n2 n3 n4 : Nat} {x1 x2 x3 x4 : List Value} (h : Q4 w1 w v1 v2 v3 v4 n1 n2 n3 n4 x1 x2 x3 x4) : Q4 w1 w v2 v3 v4 v1 n2 n3 n4 n1 x2 x3 x4 x1 :=
  ⟨h.low, h.r2, h.r3, h.r4, h.r1, h.d23, h.d24, fun x a b => h.d12 x b a, h.d34, fun x a b => h.d13 x b a, fun x a b => h.d14 x b a⟩
theorem row_grown {w w' : World} {base n : Nat} {v : Value} {xs : List Value} {o : Obj} {r : Option Nat} (h : w.ownsRow base 23 1 v n xs) (hg : (w.alloc o).grownBy w' r) (hne : ∀ x, v.ownBlock = some x → r ≠ some x) : w'.ownsRow base 23 1 v n xs := by
  refine ⟨h.1, ?_⟩
  rcases h.2 with h' | ⟨g, cap, cur, rfl, hb, hgc, rest⟩
  · exact .inl h'
  · exact .inr ⟨g, cap, cur, rfl, hb, (hg.block g (by simp; have := lt_of_some hgc; omega) (fun e => hne g rfl e.symm)).trans (alloc_blk hgc o), rest⟩
theorem Q4.app {w1 w w' : World} {v1 v2 v3 v4 : Value} {n1 n2 n3 n4 c g : Nat} {x1 x2 x3 x4 y : List Value} {o : Obj} (h : Q4 w1 w v1 v2 v3 v4 n1 n2 n3 n4 x1 x2 x3 x4)
    (hown : w'.ownsRow w1.heap.size 23 1 (.slice (some ⟨g, 0, none⟩) (n1 + 1) c) (n1 + 1) y) (hg : (w.alloc o).grownBy w' v1.ownBlock) (hat : v1.ownBlock = some g ∨ g = w.heap.size + 1) :
    Q4 w1 w' (.slice (some ⟨g, 0, none⟩) (n1 + 1) c) v2 v3 v4 (n1 + 1) n2 n3 n4 y x2 x3 x4 := by
  have hd : ∀ {v : Value} {n : Nat} {xs : List Value}, w.ownsRow w1.heap.size 23 1 v n xs → (∀ x, v1.ownBlock = some x → v.ownBlock ≠ some x) → ∀ x, (Value.slice (some ⟨g, 0, none⟩) (n1 + 1) c).ownBlock = some x → v.ownBlock ≠ some x := fun {v n xs} hr hd x hx hv => by
    have hx' : g = x := by injection hx
    rcases hat with h1 | h1
    · exact hd g h1 (by rw [hx']; exact hv)
    · have := (hr.lt x hv).2
      omega
  refine ⟨(h.low.alloc h.low.size o).trans (grown_below hg (fun x hx => (h.r1.lt x hx).1) (by simp; have := h.low.size; omega)), hown, row_grown h.r2 hg (fun x a b => h.d12 x b a), row_grown h.r3 hg (fun x a b => h.d13 x b a), row_grown h.r4 hg (fun x a b => h.d14 x b a), hd h.r2 h.d12, hd h.r3 h.d13, hd h.r4 h.d14, h.d23, h.d24, h.d34⟩
theorem ev_cells {W : World} {b : Nat} {v0 v1 v2 v3 v4 v5 v6 v7 : Value} {ty : TypeId} (h : W.heap[b]? = some (.cells #[v0, v1, v2, v3, v4, v5, v6, v7] ty (0, 0))) : W.cell? ⟨b, 2, none⟩ = some v2 ∧ W.cell? ⟨b, 3, none⟩ = some v3 ∧ W.cell? ⟨b, 4, none⟩ = some v4 ∧ W.cell? ⟨b, 5, none⟩ = some v5 ∧ W.cell? ⟨b, 6, none⟩ = some v6 ∧ W.cell? ⟨b, 7, none⟩ = some v7 :=
  ⟨cell_blk h 2 rfl, cell_blk h 3 rfl, cell_blk h 4 rfl, cell_blk h 5 rfl, cell_blk h 6 rfl, cell_blk h 7 rfl⟩
theorem own_capO {w : World} {base e size n cap : Nat} {a : Option Addr} {xs : List Value} (h : w.ownsRow base e size (.slice a n cap) n xs) : n ≤ cap ∧ cap ≤ 9223372036854775807 := by
  rcases h.2 with ⟨h', rfl⟩ | ⟨g', cap', cur, h', _, _, h1, h2, _⟩
  · cases h'; exact ⟨Nat.le_refl _, by omega⟩
  · cases h'; exact ⟨h1, h2⟩
theorem flist_cell {w : World} {base g cap n : Nat} {f : Nat → Nat} (h : w.ownsRow base 23 1 (.slice (some ⟨g, 0, none⟩) n cap) n (flist n f)) {i : Nat} (hi : i < n) : w.cell? ⟨g, i, none⟩ = some (fl (f i)) := by
  obtain ⟨cur, h1, h2⟩ := rwBlk h
  have h3 := h.cellAt i (by omega)
  have h4 : (flist n f)[i]? = some (fl (f i)) := by unfold flist; simp [hi]
  have h5 := cell_of_row w g i cur 23 (0, 0) h1
  rw [h4] at h3
  exact cell_blk h1 i (h5.symm.trans h3)
set_option maxHeartbeats 200000000 in
theorem boxesEven_true (w : World) (more room : Nat) {a0 a1 a2 a3 a4 a5 : Option Addr} {n0 n1 n2 n3 n4 n5 c0 c1 c2 c3 c4 c5 : Nat} {X f1 f2 f3 f4 f5 : Nat → Nat} (hx : SlU w a0 n0 X) (hf : Five w a1 a2 a3 a4 a5 n1 n2 n3 n4 n5 f1 f2 f3 f4 f5) (hr : room < 18446744073709551616)
    (hn0 : n0 ≤ 1048578) (hn : n1 ≤ 1048578 ∧ n2 ≤ 1048578 ∧ n3 ≤ 1048578 ∧ n4 ≤ 1048578 ∧ n5 ≤ 1048578) (hc : Caps n1 n2 n3 n4 n5 c1 c2 c3 c4 c5) (hmore : more < 4294967296) :
    Calls Try.prog 5 #[.agg #[.slice a0 n0 c0, .int .u32 (more : Int), fl room, .slice a1 n1 c1, .slice a2 n2 c2, .slice a3 n3 c3, .slice a4 n4 c4, .slice a5 n5 c5]] w fun e w' => e = .returned (.bool true) ∧ Below w.heap.size w w' := by
  have HAW := Lib.hid (fun W => awake18_true W)
  have HF := Lib.hid hf
  have HC := Lib.hid hc
  have HNS := Lib.hid hn
  have HX := Lib.hid hx
  have HR := Lib.hid hr
  clear hf hr hn hc hx
  obtain ⟨M, hM⟩ : ∃ M, M = 1 + more % 1000 := ⟨_, rfl⟩
  have hcv : floatOfInt .f64 (1 + (more : Int) % 1000) = wq M := by
    rw [show (1 + (more : Int) % 1000) = ((M : Nat) : Int) by omega]
    exact float_nat (by omega)
  have HM : Hid (1 ≤ M ∧ M ≤ 1000) := Lib.hid (by omega)
  clear hM
  obtain ⟨mw, hmw⟩ : ∃ m, m = wq M := ⟨_, rfl⟩
  rw [← hmw] at hcv
  have HMW : Hid (Iv mw (M : Int)) := Lib.hid (by rw [hmw]; exact wq_iv (by have := HM.out; omega))
  clear hmw
  go_enter Try.func5, Try.ntmps5
  obtain ⟨W0, hW0⟩ : ∃ W, W = w.alloc (.cells #[.slice a0 n0 c0, .int .u32 (more : Int), fl room, .slice a1 n1 c1, .slice a2 n2 c2, .slice a3 n3 c3, .slice a4 n4 c4, .slice a5 n5 c5] 36) := ⟨_, rfl⟩
  have HBX : Hid (W0.heap[w.heap.size]? = some (.cells #[.slice a0 n0 c0, .int .u32 (more : Int), fl room, .slice a1 n1 c1, .slice a2 n2 c2, .slice a3 n3 c3, .slice a4 n4 c4, .slice a5 n5 c5] 36 (0, 0)) ∧ Below w.heap.size w W0) := Lib.hid (by rw [hW0]; exact ⟨Go.heap_alloc_new w _, (Below.refl _ w).alloc (Nat.le_refl _) _⟩)
  go_upto_region 1 with (fail)
  rw [← hW0]
  clear hW0
  obtain ⟨b0, hb0⟩ : ∃ b, b = w.heap.size := ⟨_, rfl⟩
  rw [← hb0] at HBX
  rw [← hb0]
  have HB0 := Lib.hid hb0
  clear hb0
  go_upto_region 2 with (go_at_call 7; refine (HAW.out _).mono ?_; rintro e w1 ⟨rfl, b1⟩; have HB1 := Lib.hid b1; clear b1)
  have HB01 : Hid (Below w.heap.size w w1) := Lib.hid (by have h := HBX.out.2; rw [HB0.out] at h; exact h.trans (HB1.out.mono h.size))
  have HXX : Hid (∀ Y, Below w1.heap.size w1 Y → Y.heap[b0]? = some (.cells #[.slice a0 n0 c0, .int .u32 (more : Int), fl room, .slice a1 n1 c1, .slice a2 n2 c2, .slice a3 n3 c3, .slice a4 n4 c4, .slice a5 n5 c5] 36 (0, 0))) := Lib.hid (fun Y b => by
    have h := (HB1.out.block _ (lt_of_some HBX.out.1)).trans HBX.out.1
    exact (b.block _ (lt_of_some h)).trans h)
  clear HBX HB1
  have y0 := cell_blk (HXX.out w1 (Below.refl _ _)) 0 rfl
  have y1 := cell_blk (HXX.out w1 (Below.refl _ _)) 1 rfl
  go_upto_block 0 with fail
  go_cut [4] (fun v4 wc => ∃ N : Nat, v4 = .int .i64 (N : Int) ∧ Hid (∃ j, N = 2 ^ j ∧ j ≤ 6 ∧ (N ≤ n0 ∨ N = 1)) ∧ w1 = wc)
  case first =>
    go_wp2_with fail
    go_loopg [4] 6 (fun gh v wr => ∃ (j N : Nat), v = .int .i64 (N : Int) ∧ Hid (j + gh = 6 ∧ N = 2 ^ j ∧ (N ≤ n0 ∨ N = 1) ∧ wr = w1))
    case atStart => exact ⟨0, 1, rfl, Lib.hid ⟨rfl, rfl, .inr rfl, rfl⟩⟩
    case round =>
      obtain ⟨j, N, rfl, hw⟩ := hrel
      obtain ⟨hsum, hNj, hN0, rfl⟩ := hw.out
      have HN := Lib.hid (And.intro hsum (And.intro hNj hN0))
      have hN64 : N ≤ 64 := by
        rw [hNj]
        have : 2 ^ j ≤ 2 ^ 6 := Nat.pow_le_pow_right (by decide) (by omega)
        omega
      clear hw hsum hNj hN0
      by_cases hgo : 2 * N ≤ n0 ∧ N < 64
      · have hg1 : 2 * (N : Int) ≤ (n0 : Int) := by omega
        have hg2 : (N : Int) < 64 := by omega
        have HNX : Hid (j + 1 + (gk - 1) = 6 ∧ 2 * N = 2 ^ (j + 1) ∧ gk - 1 < gk) := Lib.hid (by
          obtain ⟨h1, h2, h3⟩ := HN.out
          have hj : j < 6 := by
            rcases Nat.lt_or_ge j 6 with h | h
            · exact h
            · have : j = 6 := by omega
              rw [this] at h2
              omega
          refine ⟨by omega, by rw [h2, Nat.pow_succ]; omega, by omega⟩)
        have HG : Hid (2 * N ≤ n0) := Lib.hid hgo.1
        clear hgo
        go_wp2_with fail
        go_roundg (gk - 1)
        case measure => exact HNX.out.2.2
        case rel => exact ⟨j + 1, 2 * N, by go_num, Lib.hid ⟨HNX.out.1, HNX.out.2.1, .inl HG.out, rfl⟩⟩
      · have HNF : Hid (∃ j, N = 2 ^ j ∧ j ≤ 6 ∧ (N ≤ n0 ∨ N = 1)) := Lib.hid (by obtain ⟨h1, h2, h3⟩ := HN.out; exact ⟨j, h2, by omega, h3⟩)
        by_cases hg1 : 2 * N ≤ n0
        · have hg2 : ¬ N < 64 := fun h => hgo ⟨hg1, h⟩
          have hg1' : 2 * (N : Int) ≤ (n0 : Int) := by omega
          clear hgo
          go_wp2_with fail
          go_meet
          exact ⟨N, rfl, HNF, rfl⟩
        · have hg1' : ¬ (2 * (N : Int) ≤ (n0 : Int)) := by omega
          clear hgo
          go_wp2_with fail
          go_meet
          exact ⟨N, rfl, HNF, rfl⟩
  case rest =>
    obtain ⟨N, rfl, HNF, rfl⟩ := hcut
    go_upto_if 41 with fail
    go_cut [] (fun wc => Below w1.heap.size w1 wc)
    case first =>
      by_cases h00 : n0 = 0
      · subst h00
        go_wp2_with fail
        go_meet
        exact Below.refl _ _
      · have hN64 : 1 ≤ N ∧ N ≤ 64 ∧ N ≤ n0 := by
          obtain ⟨j, h1, h2, h3⟩ := HNF.out
          have : 2 ^ j ≤ 2 ^ 6 := Nat.pow_le_pow_right (by decide) h2
          have := Nat.two_pow_pos j
          omega
        have h01 : 0 < n0 := by omega
        have h01' : decide (0 < n0) = true := by simp; omega
        rw [h01']
        clear h01'
        clear h00
        obtain ⟨i0, hi0, hz0, hz1, hz2⟩ := infoP infoF
        obtain ⟨bs, hbs⟩ : ∃ bs : Nat → Nat, bs = fun k => X k % 100000 := ⟨_, rfl⟩
        have HBS : Hid (∀ k, bs k = X k % 100000) := Lib.hid (fun k => by rw [hbs])
        clear hbs
        go_wp2_with fail
        go_loopg [5, 6, 7, 8, 9, 11] N (fun gh v5 v6 v7 v8 v9 v11 wr => ∃ (i e5 e6 e7 e8 Rw : Nat) (q5 q6 q7 q8 : Option Addr), v11 = .int .i64 (i : Int) ∧ v9 = fl Rw ∧ v5 = .slice q5 i e5 ∧ v6 = .slice q6 i e6 ∧ v7 = .slice q7 i e7 ∧ v8 = .slice q8 i e8 ∧
          Hid (i + gh = N ∧ Iv Rw ((SB bs i + i * M : Nat) : Int) ∧ Q4 w1 wr (.slice q5 i e5) (.slice q6 i e6) (.slice q7 i e7) (.slice q8 i e8) i i i i (flist i (fun k => wq (bs k))) (flist i (fun _ => 4607182418800017408)) (flist i (fun _ => 0)) (flist i (fun _ => 4719772409484279808))))
        case atStart => exact ⟨0, 0, 0, 0, 0, 0, none, none, none, none, rfl, rfl, rfl, rfl, rfl, rfl, Lib.hid ⟨by omega, by rw [show ((SB bs 0 + 0 * M : Nat) : Int) = 0 by simp [SB]]; exact Iv.zero, Q4.nil w1⟩⟩
        case round =>
          obtain ⟨i, e5, e6, e7, e8, Rw, q5, q6, q7, q8, rfl, rfl, rfl, rfl, rfl, rfl, hw⟩ := hrel
          obtain ⟨hsum, hRw, hQ⟩ := hw.out
          have HRW := Lib.hid hRw
          have HRwr := Lib.hid hQ
          clear hw hRw hQ
          have q0 : IntKind.i64.wrap ((i : Int) + 1) = (i : Int) + 1 := IntWalk.i64_in _ (by omega)
          by_cases hi : i < N
          · have hin0 : i < n0 := by omega
            obtain ⟨h32, b, off, rfl, hc⟩ := (HX.out.below (HB01.out.trans (HRwr.out.low.mono HB01.out.size))).at_ i hin0
            have y0 := cell_blk (HXX.out wr HRwr.out.low) 0 rfl
            obtain ⟨bw, hbw⟩ : ∃ x, x = wq (bs i) := ⟨_, rfl⟩
            have hbl : bs i < 100000 := by rw [HBS.out]; exact Nat.mod_lt _ (by decide)
            have hcb : floatOfInt .f64 ((X i : Int) % 100000) = bw := by
              rw [hbw, ← float_nat (by omega), HBS.out, Int.natCast_emod]
              rfl
            have hbi : Iv bw (bs i : Int) := by rw [hbw]; exact wq_iv (by omega)
            have hM := HM.out
            obtain ⟨s1, h1, h2⟩ : ∃ s1, Ieee.double.add bw mw = some s1 ∧ Iv s1 ((bs i : Int) + (M : Int)) := ⟨_, (Iv.add hbi HMW.out (by omega)).1, (Iv.add hbi HMW.out (by omega)).2⟩
            have hsb := SB_le (bs := bs) (n := i) (fun k _ => by rw [HBS.out]; exact Nat.mod_lt _ (by decide)) i (Nat.le_refl _)
            have hiM : i * M ≤ 64 * 1000 := Nat.mul_le_mul (by omega) hM.2
            obtain ⟨s2, h3, h4⟩ : ∃ s2, Ieee.double.add Rw s1 = some s2 ∧ Iv s2 (((SB bs i + i * M : Nat) : Int) + ((bs i : Int) + (M : Int))) := ⟨_, (Iv.add HRW.out h2 (by omega)).1, (Iv.add HRW.out h2 (by omega)).2⟩
            have o1 := hadd h1
            have o2 := hadd h3
            have HNR : Hid (Iv s2 ((SB bs (i + 1) + (i + 1) * M : Nat) : Int)) := Lib.hid (by
              have e : ((SB bs (i + 1) + (i + 1) * M : Nat) : Int) = ((SB bs i + i * M : Nat) : Int) + ((bs i : Int) + (M : Int)) := by
                show ((SB bs i + bs i + (i + 1) * M : Nat) : Int) = _
                rw [Nat.add_mul, Nat.one_mul]
                omega
              rw [e]; exact h4)
            have hmx : i + 1 ≤ maxLen := by have : maxLen = 9223372036854775807 := rfl; omega
            have hby : (i + 1) * 8 ≤ 140737488355328 := by omega
            have HMM : Hid (gk - 1 < gk) := Lib.hid (by omega)
            have HSM : Hid (i + 1 + (gk - 1) = N) := Lib.hid (by omega)
            have HBW := Lib.hid hbw
            clear h1 h2 h3 h4 hbw hbl hbi hM hsb hiM h32 hsum
            go_upto_region 13 with (first | (at_builtin; refine wpList_append_lies _ rfl (.tmp 52) (.tmp 60) 24 rfl w1.heap.size 23 i0 (fl 0) 1 8 Try.underlying24 hi0 hz0 hz1 hz2 rfl (by omega) (.slice q5 i e5) i _ rfl (HRwr.out.r1.alloc _) ⟨wr.heap.size, 0, none⟩ 1 1 [fl bw] rfl rfl (World.news_of_block (cs := #[fl bw]) (t := 23) (fr := (0, 0)) (Go.heap_alloc_new wr _)) (by simp [Value.oneCell']) (by omega) hmx hby (by simp; have := HRwr.out.low.size; omega) (wr.heap.size + 1) (by simp) ?_; intro g5 d5 x5 hown hg hat hlt; have HRx5 := Lib.hid ((HRwr.out.app hown hg hat).rot); clear hown hg hat hlt) | (at_builtin; refine wpList_append_lies _ rfl (.tmp 62) (.tmp 63) 24 rfl w1.heap.size 23 i0 (fl 0) 1 8 Try.underlying24 hi0 hz0 hz1 hz2 rfl (by omega) (.slice q6 i e6) i _ rfl (HRx5.out.r1.alloc _) ⟨x5.heap.size, 0, none⟩ 1 1 [fl 4607182418800017408] rfl rfl (World.news_of_block (cs := #[fl 4607182418800017408]) (t := 23) (fr := (0, 0)) (Go.heap_alloc_new x5 _)) (by simp [Value.oneCell']) (by omega) hmx hby (by simp; have := HRx5.out.low.size; omega) (x5.heap.size + 1) (by simp) ?_; intro g6 d6 x6 hown hg hat hlt; have HRx6 := Lib.hid ((HRx5.out.app hown hg hat).rot); clear hown hg hat hlt) | (at_builtin; refine wpList_append_lies _ rfl (.tmp 65) (.tmp 66) 24 rfl w1.heap.size 23 i0 (fl 0) 1 8 Try.underlying24 hi0 hz0 hz1 hz2 rfl (by omega) (.slice q7 i e7) i _ rfl (HRx6.out.r1.alloc _) ⟨x6.heap.size, 0, none⟩ 1 1 [fl 0] rfl rfl (World.news_of_block (cs := #[fl 0]) (t := 23) (fr := (0, 0)) (Go.heap_alloc_new x6 _)) (by simp [Value.oneCell']) (by omega) hmx hby (by simp; have := HRx6.out.low.size; omega) (x6.heap.size + 1) (by simp) ?_; intro g7 d7 x7 hown hg hat hlt; have HRx7 := Lib.hid ((HRx6.out.app hown hg hat).rot); clear hown hg hat hlt) | (at_builtin; refine wpList_append_lies _ rfl (.tmp 68) (.tmp 69) 24 rfl w1.heap.size 23 i0 (fl 0) 1 8 Try.underlying24 hi0 hz0 hz1 hz2 rfl (by omega) (.slice q8 i e8) i _ rfl (HRx7.out.r1.alloc _) ⟨x7.heap.size, 0, none⟩ 1 1 [fl 4719772409484279808] rfl rfl (World.news_of_block (cs := #[fl 4719772409484279808]) (t := 23) (fr := (0, 0)) (Go.heap_alloc_new x7 _)) (by simp [Value.oneCell']) (by omega) hmx hby (by simp; have := HRx7.out.low.size; omega) (x7.heap.size + 1) (by simp) ?_; intro g8 d8 x8 hown hg hat hlt; have HRx8 := Lib.hid ((HRx7.out.app hown hg hat).rot); clear hown hg hat hlt))
            have HQ8 : Hid (Q4 w1 x8 (.slice (some ⟨g5, 0, none⟩) (i + 1) d5) (.slice (some ⟨g6, 0, none⟩) (i + 1) d6) (.slice (some ⟨g7, 0, none⟩) (i + 1) d7) (.slice (some ⟨g8, 0, none⟩) (i + 1) d8) (i + 1) (i + 1) (i + 1) (i + 1) (flist (i + 1) (fun k => wq (bs k))) (flist (i + 1) (fun _ => 4607182418800017408)) (flist (i + 1) (fun _ => 0)) (flist (i + 1) (fun _ => 4719772409484279808))) := Lib.hid (by
              rw [flist_succ, flist_succ, flist_succ, flist_succ, ← HBW.out]
              exact HRx8.out)
            have z0 : x8.cell? ⟨g5, i, none⟩ = some (fl bw) := by rw [HBW.out]; exact flist_cell HQ8.out.r1 (Nat.lt_succ_self i)
            clear HRx5 HRx6 HRx7 HRx8 HRwr y0 hc
            go_wp2_with fail
            go_roundg (gk - 1)
            case measure => exact HMM.out
            case rel => exact ⟨i + 1, d5, d6, d7, d8, s2, some ⟨g5, 0, none⟩, some ⟨g6, 0, none⟩, some ⟨g7, 0, none⟩, some ⟨g8, 0, none⟩, by go_num, rfl, rfl, rfl, rfl, rfl, Lib.hid ⟨HSM.out, HNR.out, HQ8.out⟩⟩
          · obtain rfl : i = N := by omega
            have HEV : Hid (∃ j, EvOk i Rw M j bs) := Lib.hid (by
              obtain ⟨j, h1, h2, _⟩ := HNF.out
              exact ⟨j, h1, h2, HM.out, fun k _ => by rw [HBS.out]; exact Nat.mod_lt _ (by decide), HRW.out⟩)
            have hsh : Calls Try.prog 9 #[fl Rw, .slice q5 i e5, .slice q6 i e6, .slice q7 i e7, .slice q7 i e7, .slice q8 i e8] wr fun e w' => ∃ b, e = .returned (.tuple #[.slice (some ⟨b, 0, none⟩) i i, .int .i64 0]) ∧ wr.heap.size ≤ b ∧ Fl w' b i (te i Rw bs).sizes ∧ Below wr.heap.size wr w' := by
              obtain ⟨j, ho⟩ := HEV.out
              have hQ := HRwr.out
              have hw : ∀ k, k < i → wq (bs k) < 18446744073709551616 := fun k hk => by
                have := (wq_iv (n := bs k) (by have := ho.hbs k hk; omega)).lt
                omega
              have h1d : 4607182418800017408 < 18446744073709551616 := by decide
              have h0d : 0 < 18446744073709551616 := by decide
              have hxd : 4719772409484279808 < 18446744073709551616 := by decide
              exact share_calls wr (t := te i Rw bs) ho.ok (row_slf hQ.r1 hw) (row_slf hQ.r2 (fun _ _ => h1d)) (row_slf hQ.r3 (fun _ _ => h0d)) (row_slf hQ.r3 (fun _ _ => h0d)) (row_slf hQ.r4 (fun _ _ => hxd)) (own_capO hQ.r1) (own_capO hQ.r2) (own_capO hQ.r3) (own_capO hQ.r3) (own_capO hQ.r4)
            have HSH := Lib.hid hsh
            have HWQ : Hid (∀ k, k < i → wq (bs k) < 18446744073709551616) := Lib.hid (fun k hk => by
              obtain ⟨j, ho⟩ := HEV.out
              have := (wq_iv (n := bs k) (by have := ho.hbs k hk; omega)).lt
              omega)
            clear hsh
            go_wp2_with fail
            go_at_call 9
            refine HSH.out.mono ?_
            rintro e x9 ⟨bl, rfl, hbb, hfl, hbel⟩
            have HL9 := Lib.hid (And.intro hfl hbel)
            have HB9 : Hid (Below w1.heap.size w1 x9) := Lib.hid (HRwr.out.low.trans (hbel.mono HRwr.out.low.size))
            have HS9 : Hid (∀ Y, Below x9.heap.size x9 Y → SlF Y (some ⟨bl, 0, none⟩) i (te i Rw bs).sizes ∧ SlF Y q5 i (fun k => wq (bs k))) := Lib.hid (fun Y b => by
              obtain ⟨j, ho⟩ := HEV.out
              exact ⟨(row_slf (fl_row (base := 0) HL9.out.1 (Nat.zero_le _) (by omega)) (fun k hk => (ho.ok.sizes_bd hk).num.1)).below b, ((row_slf HRwr.out.r1 HWQ.out).below HL9.out.2).below b⟩)
            clear hbb hfl hbel HSH
            go_wp2_with fail
            go_loopg [99] i (fun gh v wy => ∃ k : Nat, v = .int .i64 (k : Int) ∧ Hid (k + gh = i ∧ Below x9.heap.size x9 wy))
            case atStart => exact ⟨0, rfl, Lib.hid ⟨by omega, Below.refl _ _⟩⟩
            case round =>
              obtain ⟨k, rfl, hw⟩ := hrel
              have hsum2 := hw.out.1
              have HBY := Lib.hid hw.out.2
              clear hw
              have q1 : IntKind.i64.wrap ((k : Int) + 1) = (k : Int) + 1 := IntWalk.i64_in _ (by omega)
              by_cases hk : k < i
              · obtain ⟨hS1, hS2⟩ := HS9.out _ HBY.out
                obtain ⟨_, b1', off1, e1', hc1⟩ := hS1.at_ k hk
                cases e1'
                obtain ⟨_, b2', off2, rfl, hc2⟩ := hS2.at_ k hk
                obtain ⟨j, ho⟩ := HEV.out
                have hev := ho.even hk
                obtain ⟨bw, hbw⟩ : ∃ x, x = wq (bs k) := ⟨_, rfl⟩
                obtain ⟨lw, hlw⟩ : ∃ x, x = (te i Rw bs).sizes k := ⟨_, rfl⟩
                rw [← hbw] at hc2
                rw [← hlw] at hc1 hev
                have hbs2 := ho.hbs k hk
                have hM := HM.out
                have hbi : Iv bw (bs k : Int) := by rw [hbw]; exact wq_iv (by omega)
                obtain ⟨s1, h1, h2⟩ : ∃ s1, Ieee.double.add bw mw = some s1 ∧ Iv s1 ((bs k : Int) + (M : Int)) := ⟨_, (Iv.add hbi HMW.out (by omega)).1, (Iv.add hbi HMW.out (by omega)).2⟩
                have o1 := hadd h1
                have hneq : (FloatKind.f64.format.order lw s1 != some .eq) = false := by
                  rw [Int.natCast_add] at hev
                  rw [Sv.order hev h2]
                  simp
                rw [Nat.zero_add] at hc1
                have HMM : Hid (gk - 1 < gk) := Lib.hid (by omega)
                have HSM : Hid (k + 1 + (gk - 1) = i) := Lib.hid (by omega)
                clear hS1 hS2 hev hbw hlw hbs2 hM hbi h1 h2 ho hsum2 hsum
                go_wp2_with fail
                go_quiet (fail)
                all_goals
                  go_wp2_with fail
                  go_roundg (gk - 1)
                  case measure => exact HMM.out
                  case rel => exact ⟨k + 1, by go_num, Lib.hid ⟨HSM.out, below_drewN HBY.out _⟩⟩
              · obtain rfl : k = i := by omega
                go_wp2_with fail
                go_meet
                exact HB9.out.trans (HBY.out.mono HB9.out.size)
    case rest =>
      have HB1 := Lib.hid hcut
      clear hcut y0 y1 hcv
      have HBC : Hid (Below w.heap.size w wc) := Lib.hid (HB01.out.trans (HB1.out.mono HB01.out.size))
      obtain ⟨y2, y3, y4, y5, y6, y7⟩ := ev_cells (HXX.out wc HB1.out)
      obtain ⟨b2, hb2⟩ : ∃ b, b = wc.heap.size := ⟨_, rfl⟩
      obtain ⟨W2, hW2⟩ : ∃ W, W = wc.alloc (.cells #[fl room, .slice a1 n1 c1, .slice a2 n2 c2, .slice a3 n3 c3, .slice a4 n4 c4, .slice a5 n5 c5] 26) := ⟨_, rfl⟩
      have HBW : Hid (Below w.heap.size w W2) := Lib.hid (by rw [hW2]; exact HBC.out.alloc HBC.out.size _)
      have HBX2 : Hid (∀ Y, Below W2.heap.size W2 Y → Y.heap[b2]? = some (.cells #[fl room, .slice a1 n1 c1, .slice a2 n2 c2, .slice a3 n3 c3, .slice a4 n4 c4, .slice a5 n5 c5] 26 (0, 0))) := Lib.hid (fun Y b => by
        have h : W2.heap[b2]? = some (.cells #[fl room, .slice a1 n1 c1, .slice a2 n2 c2, .slice a3 n3 c3, .slice a4 n4 c4, .slice a5 n5 c5] 26 (0, 0)) := by rw [hW2, hb2]; exact Go.heap_alloc_new wc _
        exact (b.block _ (lt_of_some h)).trans h)
      have HFW : Hid (∀ Y, Below W2.heap.size W2 Y → Five Y a1 a2 a3 a4 a5 n1 n2 n3 n4 n5 f1 f2 f3 f4 f5) := Lib.hid (fun Y b => HF.out.below (HBW.out.trans (b.mono HBW.out.size)))
      go_upto_region 24 with (fail)
      rw [← hW2]
      try rw [← hb2]
      clear hW2 hb2 y2 y3 y4 y5 y6 y7
      obtain ⟨y0, y1, y2, y3, y4, y5⟩ := bx_cells (HBX2.out W2 (Below.refl _ _))
      by_cases he : n2 = n1 ∧ n3 = n1 ∧ n4 = n1 ∧ n5 = n1
      · obtain ⟨rfl, rfl, rfl, rfl⟩ := he
        have HO : Hid (ToldOk ⟨n5, room, f1, f2, f3, f4, f5⟩) := Lib.hid (by
          have h := HF.out
          exact ⟨HNS.out.1, HR.out, fun i hi => (h.1.at_ i hi).1, fun i hi => (h.2.1.at_ i hi).1, fun i hi => (h.2.2.1.at_ i hi).1, fun i hi => (h.2.2.2.1.at_ i hi).1, fun i hi => (h.2.2.2.2.at_ i hi).1⟩)
        obtain ⟨sz, hsz⟩ : ∃ sz, sz = Told.sizes ⟨n5, room, f1, f2, f3, f4, f5⟩ := ⟨_, rfl⟩
        have HSZ := Lib.hid hsz
        have HLT : Hid (∀ k, k < n5 → sz k < 18446744073709551616) := Lib.hid (fun k hk => by rw [HSZ.out]; exact (HO.out.sizes_bd (i := k) hk).num.1)
        have hn5 : n5 ≤ 1048578 := HNS.out.1
        have HSA : Hid (Calls Try.prog 9 #[fl room, .slice a1 n5 c1, .slice a2 n5 c2, .slice a3 n5 c3, .slice a4 n5 c4, .slice a5 n5 c5] W2 fun e w' => ∃ b, e = .returned (.tuple #[.slice (some ⟨b, 0, none⟩) n5 n5, .int .i64 0]) ∧ W2.heap.size ≤ b ∧ Fl w' b n5 sz ∧ Below W2.heap.size W2 w') := Lib.hid (by
          have h := HFW.out W2 (Below.refl _ _)
          have c := HC.out
          rw [hsz]
          exact share_calls W2 HO.out h.1 h.2.1 h.2.2.1 h.2.2.2.1 h.2.2.2.2 c.1 c.2.1 c.2.2.1 c.2.2.2.1 c.2.2.2.2)
        clear hsz
        go_wp2_with fail
        go_at_call 9
        refine HSA.out.mono ?_
        rintro e x3 ⟨bl, rfl, hb, hfl, hbel⟩
        have HL3 := Lib.hid hfl
        have HB3 := Lib.hid hbel
        clear hb hfl hbel HSA y0 y1 y2 y3 y4 y5
        have hmk := make_fl n5 (by omega)
        obtain ⟨bz, hbz⟩ : ∃ b, b = x3.heap.size := ⟨_, rfl⟩
        obtain ⟨W4, hW4⟩ : ∃ W, W = x3.alloc (.cells (vc n5 (fun _ => 0)) 23) := ⟨_, rfl⟩
        have HZ4 : Hid (Fl W4 bz n5 (fun _ => 0) ∧ Below x3.heap.size x3 W4) := Lib.hid (by rw [hW4, hbz]; exact ⟨Go.heap_alloc_new x3 _, (Below.refl _ _).alloc (Nat.le_refl _) _⟩)
        have HB4 : Hid (Below W2.heap.size W2 W4) := Lib.hid (HB3.out.trans (HZ4.out.2.mono HB3.out.size))
        go_upto_region 28 with (fail)
        rw [← hW4]
        try rw [← hbz]
        clear hW4 hbz hmk
        have HL4 : Hid (∀ Y, Below W4.heap.size W4 Y → SlF Y (some ⟨bl, 0, none⟩) n5 sz ∧ SlF Y (some ⟨bz, 0, none⟩) n5 (fun _ => 0)) := Lib.hid (fun Y b => ⟨((row_slf (fl_row (base := 0) HL3.out (Nat.zero_le _) hn5) HLT.out).below HZ4.out.2).below b, (row_slf (fl_row (base := 0) HZ4.out.1 (Nat.zero_le _) hn5) (fun _ _ => by show 0 < 18446744073709551616; decide)).below b⟩)
        have HO1 : Hid (ToldOk ⟨n5, room, sz, fun _ => 0, fun _ => 0, f4, f5⟩) := Lib.hid ⟨hn5, HR.out, HLT.out, fun _ _ => by show 0 < 18446744073709551616; decide, fun _ _ => by show 0 < 18446744073709551616; decide, HO.out.L, HO.out.H⟩
        have HO2 : Hid (ToldOk ⟨n5, room, f1, fun _ => 0, fun _ => 0, f4, f5⟩) := Lib.hid ⟨hn5, HR.out, HO.out.B, fun _ _ => by show 0 < 18446744073709551616; decide, fun _ _ => by show 0 < 18446744073709551616; decide, HO.out.L, HO.out.H⟩
        obtain ⟨s1, hs1⟩ : ∃ sz', sz' = Told.sizes ⟨n5, room, sz, fun _ => 0, fun _ => 0, f4, f5⟩ := ⟨_, rfl⟩
        obtain ⟨s2, hs2⟩ : ∃ sz', sz' = Told.sizes ⟨n5, room, f1, fun _ => 0, fun _ => 0, f4, f5⟩ := ⟨_, rfl⟩
        have HS1 := Lib.hid hs1
        have HS2 := Lib.hid hs2
        have HSB : Hid (Calls Try.prog 9 #[fl room, .slice (some ⟨bl, 0, none⟩) n5 n5, .slice (some ⟨bz, 0, none⟩) n5 n5, .slice (some ⟨bz, 0, none⟩) n5 n5, .slice a4 n5 c4, .slice a5 n5 c5] W4 fun e w' => ∃ b, e = .returned (.tuple #[.slice (some ⟨b, 0, none⟩) n5 n5, .int .i64 0]) ∧ W4.heap.size ≤ b ∧ Fl w' b n5 s1 ∧ Below W4.heap.size W4 w') := Lib.hid (by
          have h := HFW.out W4 HB4.out
          have c := HC.out
          have k := HL4.out W4 (Below.refl _ _)
          have hk : n5 ≤ n5 ∧ n5 ≤ 9223372036854775807 := ⟨Nat.le_refl _, by omega⟩
          rw [hs1]
          exact share_calls W4 HO1.out k.1 k.2 k.2 h.2.2.2.1 h.2.2.2.2 hk hk hk c.2.2.2.1 c.2.2.2.2)
        have HSC : Hid (∀ Y, Below W4.heap.size W4 Y → Calls Try.prog 9 #[fl room, .slice a1 n5 c1, .slice (some ⟨bz, 0, none⟩) n5 n5, .slice (some ⟨bz, 0, none⟩) n5 n5, .slice a4 n5 c4, .slice a5 n5 c5] Y fun e w' => ∃ b, e = .returned (.tuple #[.slice (some ⟨b, 0, none⟩) n5 n5, .int .i64 0]) ∧ Y.heap.size ≤ b ∧ Fl w' b n5 s2 ∧ Below Y.heap.size Y w') := Lib.hid (fun Y hY => by
          have h := HFW.out Y (HB4.out.trans (hY.mono HB4.out.size))
          have c := HC.out
          have k := HL4.out Y hY
          have hk : n5 ≤ n5 ∧ n5 ≤ 9223372036854775807 := ⟨Nat.le_refl _, by omega⟩
          rw [hs2]
          exact share_calls Y HO2.out h.1 k.2 k.2 h.2.2.2.1 h.2.2.2.2 c.1 hk hk c.2.2.2.1 c.2.2.2.2)
        clear hs1 hs2
        obtain ⟨y0, _, _, _, y4, y5⟩ := bx_cells (HBX2.out W4 HB4.out)
        go_wp2_with fail
        go_at_call 9
        refine HSB.out.mono ?_
        rintro e x5 ⟨ba, rfl, hb, hfl, hbel⟩
        have HA5 := Lib.hid hfl
        have HB5 := Lib.hid hbel
        clear hb hfl hbel HSB y0 y4 y5
        have HB25 : Hid (Below W2.heap.size W2 x5) := Lib.hid (HB4.out.trans (HB5.out.mono HB4.out.size))
        obtain ⟨y0, y1, _, _, y4, y5⟩ := bx_cells (HBX2.out x5 HB25.out)
        go_wp2_with fail
        go_at_call 9
        refine (HSC.out x5 HB5.out).mono ?_
        rintro e x6 ⟨bh, rfl, hb, hfl, hbel⟩
        have HH6 := Lib.hid hfl
        have HB6 := Lib.hid hbel
        clear hb hfl hbel HSC y0 y1 y4 y5
        have HB26 : Hid (Below W2.heap.size W2 x6) := Lib.hid (HB25.out.trans (HB6.out.mono HB25.out.size))
        have HLT1 : Hid (∀ k, k < n5 → s1 k < 18446744073709551616 ∧ s2 k < 18446744073709551616) := Lib.hid (fun k hk => ⟨by rw [HS1.out]; exact (HO1.out.sizes_bd (i := k) hk).num.1, by rw [HS2.out]; exact (HO2.out.sizes_bd (i := k) hk).num.1⟩)
        have HALL : Hid (∀ Y, Below x6.heap.size x6 Y → SlF Y (some ⟨bl, 0, none⟩) n5 sz ∧ SlF Y (some ⟨ba, 0, none⟩) n5 s1 ∧ SlF Y (some ⟨bh, 0, none⟩) n5 s2 ∧ Five Y a1 a2 a3 a4 a5 n5 n5 n5 n5 n5 f1 f2 f3 f4 f5) := Lib.hid (fun Y b => by
          refine ⟨((HL4.out x6 (HB5.out.trans (HB6.out.mono HB5.out.size))).1).below b, ((row_slf (fl_row (base := 0) HA5.out (Nat.zero_le _) hn5) (fun k hk => (HLT1.out k hk).1)).below HB6.out).below b, (row_slf (fl_row (base := 0) HH6.out (Nat.zero_le _) hn5) (fun k hk => (HLT1.out k hk).2)).below b, HFW.out Y (HB26.out.trans (b.mono HB26.out.size))⟩)
        go_wp2_with fail
        go_loopg [196] n5 (fun gh v wy => ∃ k : Nat, v = .int .i64 (k : Int) ∧ Hid (k + gh = n5 ∧ Below x6.heap.size x6 wy))
        case atStart => exact ⟨0, rfl, Lib.hid ⟨by omega, Below.refl _ _⟩⟩
        case round =>
          obtain ⟨k, rfl, hw⟩ := hrel
          have hsum := hw.out.1
          have HBY := Lib.hid hw.out.2
          clear hw
          have q1 : IntKind.i64.wrap ((k : Int) + 1) = (k : Int) + 1 := IntWalk.i64_in _ (by omega)
          by_cases hk : k < n5
          · have HMM : Hid (gk - 1 < gk) := Lib.hid (by omega)
            have HSM : Hid (k + 1 + (gk - 1) = n5) := Lib.hid (by omega)
            have HB2Y : Hid (Below W2.heap.size W2 wr) := Lib.hid (HB26.out.trans (HBY.out.mono HB26.out.size))
            obtain ⟨y0, y1, _, _, y4, y5⟩ := bx_cells (HBX2.out wr HB2Y.out)
            clear hsum
            obtain ⟨hL, hA, hH, hF1, _, _, hF4, hF5⟩ := HALL.out wr HBY.out
            obtain ⟨_, p1, o1, e1, cL⟩ := hL.at_ k hk
            cases e1
            obtain ⟨_, p2, o2, e2, cA⟩ := hA.at_ k hk
            cases e2
            obtain ⟨_, p3, o3, e3, cH⟩ := hH.at_ k hk
            cases e3
            obtain ⟨h641, b1', off1, rfl, cB⟩ := hF1.at_ k hk
            obtain ⟨h644, b4', off4, rfl, cLo⟩ := hF4.at_ k hk
            obtain ⟨h645, b5', off5, rfl, cHi⟩ := hF5.at_ k hk
            rw [Nat.zero_add] at cL cA cH
            obtain ⟨ul, HUl, hul⟩ := usedL_calls (f4 k) h644
            obtain ⟨uh, HUh, huh⟩ := usedL_calls (f5 k) h645
            obtain ⟨ub, HUb, hub⟩ := usedL_calls (f1 k) h641
            have hag : Sv (s1 k) (sv (sz k)) := by
              rw [HS1.out]
              have h := again_sv HO.out HO1.out rfl (fun i _ => congrFun HSZ.out i) rfl rfl (fun _ _ => rfl) (fun _ _ => rfl) (i := k) hk
              rw [← HSZ.out] at h
              exact h
            have hhd : Sv (s2 k) (max (sv (usedD (f4 k))) (min (sv (usedD (f1 k))) (sv (usedD (f5 k))))) := by
              rw [HS2.out, HO2.out.held (fun _ _ => rfl) (fun _ _ => rfl) (i := k) hk]
              exact HO2.out.sz0_sv (i := k) hk
            obtain ⟨hfin, h64s, hb1, hb2⟩ : Betw (usedD (f4 k)) (usedD (f5 k)) (sz k) := by
              rw [HSZ.out]
              exact HO.out.betw n5 k hk
            have hl : Sv (sz k) (sv (sz k)) := ⟨h64s, hfin, rfl⟩
            obtain ⟨r1, R1, m1⟩ := HUb.minF HUh
            obtain ⟨r2, R2, m2⟩ := HUl.maxF R1
            have m1' := m1 Try.prog
            have m2' := m2 Try.prog
            obtain ⟨lo, hlo⟩ : ∃ x, x = sv (usedD (f4 k)) := ⟨_, rfl⟩
            obtain ⟨hi, hhi⟩ : ∃ x, x = sv (usedD (f5 k)) := ⟨_, rfl⟩
            obtain ⟨sl, hsl⟩ : ∃ x, x = sv (sz k) := ⟨_, rfl⟩
            rw [← hlo] at HUl R2 hhd hb1 hb2
            rw [← hhi] at HUh R1 R2 hhd hb2
            rw [← hsl] at hl hag hb1 hb2
            obtain ⟨x4, hx4⟩ : ∃ x, x = f4 k := ⟨_, rfl⟩
            obtain ⟨x5, hx5⟩ : ∃ x, x = f5 k := ⟨_, rfl⟩
            obtain ⟨x1, hx1⟩ : ∃ x, x = f1 k := ⟨_, rfl⟩
            obtain ⟨lw, hlw⟩ : ∃ x, x = sz k := ⟨_, rfl⟩
            obtain ⟨aw, haw⟩ : ∃ x, x = s1 k := ⟨_, rfl⟩
            obtain ⟨hw, hhw⟩ : ∃ x, x = s2 k := ⟨_, rfl⟩
            rw [← hx4] at hul cLo
            rw [← hx5] at huh cHi
            rw [← hx1] at hub cB
            rw [← hlw] at hl cL
            rw [← haw] at hag cA
            rw [← hhw] at hhd cH
            have q2 : (FloatKind.f64.format.order aw lw != some .eq) = false := by rw [hag.order hl]; simp
            have q3 : (FloatKind.f64.format.order hw r2 != some .eq) = false := by rw [hhd.order R2]; simp
            have q4 : (FloatKind.f64.format.order lw ul == some .lt) = false := by rw [hl.order HUl, cmp_lt]; simp; omega
            have HUL : Hid (∀ (w : World) (n : Nat), Calls Try.prog 13 #[fl x4] (w.drewN n) fun e w' => e = .returned (fl ul) ∧ w' = w.drewN n) := Lib.hid (fun w n => (hul (w.drewN n)).mono fun _ _ h => ⟨h.1, h.2.symm⟩)
            have HUH : Hid (∀ (w : World) (n : Nat), Calls Try.prog 13 #[fl x5] (w.drewN n) fun e w' => e = .returned (fl uh) ∧ w' = w.drewN n) := Lib.hid (fun w n => (huh (w.drewN n)).mono fun _ _ h => ⟨h.1, h.2.symm⟩)
            have HUB : Hid (∀ (w : World) (n : Nat), Calls Try.prog 13 #[fl x1] (w.drewN n) fun e w' => e = .returned (fl ub) ∧ w' = w.drewN n) := Lib.hid (fun w n => (hub (w.drewN n)).mono fun _ _ h => ⟨h.1, h.2.symm⟩)
            have q5 : (FloatKind.f64.format.order ul uh == some .lt || FloatKind.f64.format.order ul uh == some .eq) = decide (lo ≤ hi) := by
              rw [HUl.order HUh, cmp_lt, cmp_eq]
              by_cases hlh : lo ≤ hi
              · rw [decide_eq_true hlh]; simp; omega
              · rw [decide_eq_false hlh]; simp; omega
            have q6 : lo ≤ hi → (FloatKind.f64.format.order lw uh == some .gt) = false := fun hlh => by rw [hl.order HUh, cmp_gt]; simp; omega
            clear hul huh hub m1 m2 R1 R2 HUl HUh HUb hag hhd hl hb1 hb2 hlo hhi hsl hx4 hx5 hx1 hlw haw hhw hfin h64s hL hA hH hF1 hF4 hF5 h641 h644 h645
            by_cases hlh : lo ≤ hi
            · rw [decide_eq_true hlh] at q5
              have q7 := q6 hlh
              clear q6 hlh
              go_wp2_with fail
              go_quiet ((go_at_call 13; first | with_reducible exact Calls.quiet_of_same (HUL.out _ _) | with_reducible exact Calls.quiet_of_same (HUH.out _ _)))
              go_wp2_with fail
              obtain ⟨Wq, hWq⟩ : ∃ W, W = wr.drewN nq := ⟨_, rfl⟩
              have HBQ : Hid (Below wr.heap.size wr Wq) := Lib.hid (by rw [hWq]; exact below_drewN (Below.refl _ _) _)
              rw [← hWq]
              clear hWq
              have z1 := (bx_cells (HBX2.out Wq (HB2Y.out.trans (HBQ.out.mono HB2Y.out.size)))).2.1
              replace cL := (HBQ.out.cell (p := ⟨bl, k, none⟩) (cell_lt' cL)).trans cL
              replace cA := (HBQ.out.cell (p := ⟨ba, k, none⟩) (cell_lt' cA)).trans cA
              replace cH := (HBQ.out.cell (p := ⟨bh, k, none⟩) (cell_lt' cH)).trans cH
              replace cB := (HBQ.out.cell (p := ⟨b1', off1 + k, none⟩) (cell_lt' cB)).trans cB
              clear cLo cHi
              go_quiet ((go_at_call 13; with_reducible exact Calls.quiet_of_same (HUB.out _ _)))
              all_goals
                go_wp2_with fail
                go_roundg (gk - 1)
                case measure => exact HMM.out
                case rel => exact ⟨k + 1, by go_num, Lib.hid ⟨HSM.out, below_drewN (HBY.out.trans (HBQ.out.mono HBY.out.size)) _⟩⟩
            · rw [decide_eq_false hlh] at q5
              clear q6 hlh
              go_wp2_with fail
              go_quiet ((go_at_call 13; first | with_reducible exact Calls.quiet_of_same (HUL.out _ _) | with_reducible exact Calls.quiet_of_same (HUH.out _ _)))
              go_wp2_with fail
              obtain ⟨Wq, hWq⟩ : ∃ W, W = wr.drewN nq := ⟨_, rfl⟩
              have HBQ : Hid (Below wr.heap.size wr Wq) := Lib.hid (by rw [hWq]; exact below_drewN (Below.refl _ _) _)
              rw [← hWq]
              clear hWq
              have z1 := (bx_cells (HBX2.out Wq (HB2Y.out.trans (HBQ.out.mono HB2Y.out.size)))).2.1
              replace cL := (HBQ.out.cell (p := ⟨bl, k, none⟩) (cell_lt' cL)).trans cL
              replace cA := (HBQ.out.cell (p := ⟨ba, k, none⟩) (cell_lt' cA)).trans cA
              replace cH := (HBQ.out.cell (p := ⟨bh, k, none⟩) (cell_lt' cH)).trans cH
              replace cB := (HBQ.out.cell (p := ⟨b1', off1 + k, none⟩) (cell_lt' cB)).trans cB
              clear cLo cHi
              go_quiet ((go_at_call 13; with_reducible exact Calls.quiet_of_same (HUB.out _ _)))
              all_goals
                go_wp2_with fail
                go_roundg (gk - 1)
                case measure => exact HMM.out
                case rel => exact ⟨k + 1, by go_num, Lib.hid ⟨HSM.out, below_drewN (HBY.out.trans (HBQ.out.mono HBY.out.size)) _⟩⟩
          · obtain rfl : k = n5 := by omega
            go_wp2_with fail
            go_ret
            exact ⟨rfl, HBW.out.trans ((HB26.out.trans (HBY.out.mono HB26.out.size)).mono HBW.out.size)⟩
      · have HSX := Lib.hid (shareX_calls W2 room (a1 := a1) (a2 := a2) (a3 := a3) (a4 := a4) (a5 := a5) (p1 := c1) (p2 := c2) (p3 := c3) (p4 := c4) (p5 := c5) he (by have := HNS.out; exact ⟨by omega, by omega, by omega, by omega, by omega⟩))
        clear he
        go_wp2_with (go_at_call 9; refine HSX.out.mono ?_; rintro e x3 ⟨rfl, hb⟩; have HB3 := Lib.hid (HBW.out.trans (hb.mono HBW.out.size)); clear hb)
        go_ret
        exact ⟨rfl, HB3.out⟩
theorem fe5_end : True := trivial
end Go.Proofs.Ytohmmkkbfiembaa
