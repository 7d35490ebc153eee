/- Where a box stands within the outermost one: as data; boxes that came in; the document's Place. -/
import Derived.Test.YtohmmkkbfiembaaFx5
namespace Go.Proofs.Ytohmmkkbfiembaa
open Go.RowKit Go.Shelf
attribute [local go_sem] Oper.semAt_some
attribute [local go_sem] run_store_float
set_option linter.unusedVariables false
set_option maxRecDepth 100000

theorem Dr.heap {w w' : World} (h : w' = w ∨ w' = w.drew) : w'.heap = w.heap := by rcases h with rfl | rfl <;> rfl
/-- The place of box k: none: there is none. -/
inductive Pl (A : Nat → Int) (R : Nat → Nat → Nat) : Nat → Option (Option Nat × Option Nat) → Prop
  | root (k : Nat) : A k = -1 → Pl A R k (some (oF (R k 0), oF (R k 1)))
  | bad (k : Nat) : A k ≠ -1 → (A k < 0 ∨ (k : Int) ≤ A k) → Pl A R k none
  | up (k j : Nat) (r : Option (Option Nat × Option Nat)) : A k = (j : Int) → j < k → Pl A R j r → Pl A R k (r.map fun p => (oadd p.1 (oF (R k 0)), oadd p.2 (oF (R k 1))))
theorem Pl.all (A : Nat → Int) (R : Nat → Nat → Nat) : ∀ k, ∃ o, Pl A R k o := fun k => by
  induction k using Nat.strongRecOn with
  | ind k ih =>
    by_cases h1 : A k = -1
    · exact ⟨_, .root k h1⟩
    · by_cases h2 : A k < 0 ∨ (k : Int) ≤ A k
      · exact ⟨_, .bad k h1 h2⟩
      · obtain ⟨j, hj⟩ : ∃ j : Nat, A k = (j : Int) := ⟨(A k).toNat, by omega⟩
        obtain ⟨r, hr⟩ := ih j (by omega)
        exact ⟨_, .up k j r hj (by omega) hr⟩
structure BxIn (w : World) (a : Option Addr) (n : Nat) (A : Nat → Int) (R : Nat → Nat → Nat) : Prop where
  at_ : ∀ i, i < n → (-9223372036854775808 ≤ A i ∧ A i ≤ 9223372036854775807) ∧ (∀ j, j < 4 → R i j < 18446744073709551616) ∧ ∃ b off, a = some ⟨b, off, none⟩ ∧ w.cell? ⟨b, off + i * 7 + 2, none⟩ = some (.int .i64 (A i)) ∧
    w.cell? ⟨b, off + i * 7 + 3, none⟩ = some (fl (R i 0)) ∧ w.cell? ⟨b, off + i * 7 + 4, none⟩ = some (fl (R i 1)) ∧ w.cell? ⟨b, off + i * 7 + 5, none⟩ = some (fl (R i 2)) ∧ w.cell? ⟨b, off + i * 7 + 6, none⟩ = some (fl (R i 3))
theorem BxIn.below {w w' : World} {a : Option Addr} {n : Nat} {A : Nat → Int} {R : Nat → Nat → Nat} (h : BxIn w a n A R) (hb : Below w.heap.size w w') : BxIn w' a n A R := ⟨fun i hi => by
  obtain ⟨h1, h2, b, off, h3, c1, c2, c3, c4, c5⟩ := h.at_ i hi
  have up : ∀ (o : Nat) (v : Value), w.cell? ⟨b, o, none⟩ = some v → w'.cell? ⟨b, o, none⟩ = some v := fun o v c => (hb.cell (p := ⟨b, o, none⟩) (cell_lt' c)).trans c
  exact ⟨h1, h2, b, off, h3, up _ _ c1, up _ _ c2, up _ _ c3, up _ _ c4, up _ _ c5⟩⟩
def PlPost (w : World) (o : Option (Option Nat × Option Nat)) (r2 r3 : Nat) (e : Ending) (w' : World) : Prop := Below w.heap.size w w' ∧ match o with
  | none => e = .returned (.tuple #[.agg #[fl 0, fl 0, fl 0, fl 0], .int .i64 1])
  | some p => ∃ x y, e = .returned (.tuple #[.agg #[fl x, fl y, fl r2, fl r3], .int .i64 0]) ∧ VR p.1 (fl x) ∧ VR p.2 (fl y)
/-- Out of the list: of both. -/
theorem refOut_calls (w : World) (a : Option Addr) (n cap : Nat) (k : Int) (hk : k < 0 ∨ (n : Int) ≤ k) (hn : n ≤ 4398046511104) : Calls Try.prog 15 #[.slice a n cap, .int .i64 k] w (PlPost w none 0 0) := by
  rcases Int.lt_or_le k 0 with h | h
  · have d1 : decide (k < 0) = true := by simp; omega
    go_enter Try.func15, Try.ntmps15
    go_wp2
    exact bodyPost_ret (v := .tuple #[.agg #[fl 0, fl 0, fl 0, fl 0], .int .i64 1]) (by simp [results, Try.results15, go_sem]) rfl ⟨(Below.refl _ w).alloc (Nat.le_refl _) _, rfl⟩
  · have d1 : decide (k < 0) = false := by simp; omega
    have d2 : decide ((n : Int) ≤ k) = true := by simp; omega
    go_enter Try.func15, Try.ntmps15
    go_wp2
    exact bodyPost_ret (v := .tuple #[.agg #[fl 0, fl 0, fl 0, fl 0], .int .i64 1]) (by simp [results, Try.results15, go_sem]) rfl ⟨(Below.refl _ w).alloc (Nat.le_refl _) _, rfl⟩
theorem progOut_calls (w : World) (a : Option Addr) (n cap : Nat) (k : Int) (hk : k < 0 ∨ (n : Int) ≤ k) (hn : n ≤ 4398046511104) : Calls Try.prog 14 #[.slice a n cap, .int .i64 k] w (PlPost w none 0 0) := by
  rcases Int.lt_or_le k 0 with h | h
  · have d1 : decide (k < 0) = true := by simp; omega
    go_enter Try.func14, Try.ntmps14
    go_wp2
    exact bodyPost_ret (v := .tuple #[.agg #[fl 0, fl 0, fl 0, fl 0], .int .i64 1]) (by simp [results, Try.results14, go_sem]) rfl ⟨(Below.refl _ w).alloc (Nat.le_refl _) _, rfl⟩
  · have d1 : decide (k < 0) = false := by simp; omega
    have d2 : decide ((n : Int) ≤ k) = true := by simp; omega
    go_enter Try.func14, Try.ntmps14
    go_wp2
    exact bodyPost_ret (v := .tuple #[.agg #[fl 0, fl 0, fl 0, fl 0], .int .i64 1]) (by simp [results, Try.results14, go_sem]) rfl ⟨(Below.refl _ w).alloc (Nat.le_refl _) _, rfl⟩
theorem rect_facts {w : World} {b x y z u : Nat} (h : w.heap[b]? = some (.cells #[fl x, fl y, fl z, fl u] 43 (0, 0))) :
    w.cell? ⟨b, 0, none⟩ = some (fl x) ∧ w.cell? ⟨b, 1, none⟩ = some (fl y) ∧ w.cell? ⟨b, 2, none⟩ = some (fl z) ∧ w.cell? ⟨b, 3, none⟩ = some (fl u) ∧ w.frozen? ⟨b, 0, none⟩ = false ∧ w.frozen? ⟨b, 1, none⟩ = false ∧ w.frozen? ⟨b, 2, none⟩ = false ∧ w.frozen? ⟨b, 3, none⟩ = false :=
  ⟨cell_blk h 0 rfl, cell_blk h 1 rfl, cell_blk h 2 rfl, cell_blk h 3 rfl, free_blk h 0, free_blk h 1, free_blk h 2, free_blk h 3⟩
set_option maxHeartbeats 1000000 in
theorem refPlace_calls (a : Option Addr) (n cap : Nat) (A : Nat → Int) (R : Nat → Nat → Nat) (hn : n ≤ 4398046511104) {k : Nat} {o : Option (Option Nat × Option Nat)} (h : Pl A R k o) :
    k < n → ∀ w, BxIn w a n A R → Calls Try.prog 15 #[.slice a n cap, .int .i64 (k : Int)] w (PlPost w o (R k 2) (R k 3)) := by
  induction h with
  | root k hA =>
    intro hk w hb
    obtain ⟨h1, h2, b, off, rfl, c1, c2, c3, c4, c5⟩ := hb.at_ k hk
    have x1 := VR.self (h2 0 (by decide))
    have x2 := VR.self (h2 1 (by decide))
    have HX := Lib.hid (And.intro x1 x2)
    have lb := cell_lt' c1
    rw [hA] at c1
    clear hb h1 h2 hA x1 x2
    have d1 : decide ((k : Int) < 0) = false := by simp
    have d2 : decide ((n : Int) ≤ (k : Int)) = false := by simp; omega
    go_enter Try.func15, Try.ntmps15
    go_wp2
    refine bodyPost_ret (v := .tuple #[.agg #[fl (R k 0), fl (R k 1), fl (R k 2), fl (R k 3)], .int .i64 0]) (by simp [results, Try.results15, go_sem]) rfl ⟨?_, _, _, rfl, HX.out.1, HX.out.2⟩
    exact ((Below.refl _ w).alloc (Nat.le_refl _) _).alloc (by simp) _
  | bad k hA hB =>
    intro hk w hb
    obtain ⟨h1, h2, b, off, rfl, c1, c2, c3, c4, c5⟩ := hb.at_ k hk
    have lb := cell_lt' c1
    obtain ⟨u, hu⟩ : ∃ u, u = A k := ⟨_, rfl⟩
    rw [← hu] at c1 hA hB h1
    clear hb h2 hu
    have d1 : decide ((k : Int) < 0) = false := by simp
    have d2 : decide ((n : Int) ≤ (k : Int)) = false := by simp; omega
    have d3 : (u == -1) = false := by simp; exact hA
    have d4 : decide (u = -1) = false := by simp; exact hA
    rcases Int.lt_or_le u 0 with h0 | h0
    · have d5 : decide (u < 0) = true := by simp; omega
      go_enter Try.func15, Try.ntmps15
      go_wp2
      refine bodyPost_ret (v := .tuple #[.agg #[fl 0, fl 0, fl 0, fl 0], .int .i64 1]) (by simp [results, Try.results15, go_sem]) rfl ⟨?_, rfl⟩
      exact ((Below.refl _ w).alloc (Nat.le_refl _) _).alloc (by simp) _
    · have d5 : decide (u < 0) = false := by simp; omega
      have d6 : decide ((k : Int) ≤ u) = true := by simp; omega
      go_enter Try.func15, Try.ntmps15
      go_wp2
      refine bodyPost_ret (v := .tuple #[.agg #[fl 0, fl 0, fl 0, fl 0], .int .i64 1]) (by simp [results, Try.results15, go_sem]) rfl ⟨?_, rfl⟩
      exact ((Below.refl _ w).alloc (Nat.le_refl _) _).alloc (by simp) _
  | up k j r hA hj hr ih =>
    intro hk w hb
    obtain ⟨h1, h2, b, off, ha, c1, c2, c3, c4, c5⟩ := hb.at_ k hk
    have HBX : Hid (∀ W, Below w.heap.size w W → BxIn W a n A R) := Lib.hid (fun W hW => hb.below hW)
    have HI := Lib.hid (fun W hW => ih (by omega) W hW)
    have x1 := VR.self (h2 0 (by decide))
    have x2 := VR.self (h2 1 (by decide))
    have HX := Lib.hid (And.intro x1 x2)
    have lb := cell_lt' c1
    rw [hA] at c1
    have HA := Lib.hid ha
    rw [ha]
    clear hb h1 h2 hA x1 x2 ih hr ha
    have d1 : decide ((k : Int) < 0) = false := by simp
    have d2 : decide ((n : Int) ≤ (k : Int)) = false := by simp; omega
    have d5 : decide (k ≤ j) = false := by simp; omega
    have d6 : decide ((k : Int) ≤ (j : Int)) = false := by simp; omega
    have d3 : ((j : Int) == -1) = false := by simp
    go_enter Try.func15, Try.ntmps15
    go_upto_region 9 with (fail)
    obtain ⟨N, hN⟩ : ∃ N, N = w.heap.size := ⟨_, rfl⟩
    obtain ⟨W, hW⟩ : ∃ W, W = ((w.alloc (.cells #[fl 0, fl 0, fl 0, fl 0] 43)).alloc (.cells #[fl (R k 0), fl (R k 1), fl (R k 2), fl (R k 3)] 43)) := ⟨_, rfl⟩
    have bW : Hid (Below w.heap.size w W) := Lib.hid (by rw [hW]; exact ((Below.refl _ w).alloc (Nat.le_refl _) _).alloc (by simp) _)
    have g0 : W.heap[N]? = some (.cells #[fl 0, fl 0, fl 0, fl 0] 43 (0, 0)) := by rw [hW, hN]; exact alloc_blk (Go.heap_alloc_new w _) _
    have g1 : W.heap[N + 1]? = some (.cells #[fl (R k 0), fl (R k 1), fl (R k 2), fl (R k 3)] 43 (0, 0)) := by
      have := Go.heap_alloc_new (w.alloc (.cells #[fl 0, fl 0, fl 0, fl 0] 43)) (.cells #[fl (R k 0), fl (R k 1), fl (R k 2), fl (R k 3)] 43)
      rw [hW, hN]
      simpa using this
    have hsz : W.heap.size = N + 2 := by rw [hW, hN]; simp
    have l0 : N < W.heap.size := by omega
    have l1 : N + 1 < W.heap.size := by omega
    have hiw := HI.out W (HBX.out W bW.out)
    rw [HA.out] at hiw
    have HIW := Lib.hid hiw
    clear hiw
    rw [← hW]
    try rw [← hN]
    have HN := Lib.hid hN
    clear hW hN lb c1 c2 c3 c4 c5
    cases r with
    | none =>
      go_wp2_with (go_at_call 15; refine HIW.out.mono ?_; rintro e w1 ⟨b1, rfl⟩; obtain ⟨y0, y1, y2, y3, u0, u1, u2, u3⟩ := rect_facts ((b1.block _ l0).trans g0); obtain ⟨z0, z1, z2, z3, _, _, _, _⟩ := rect_facts ((b1.block _ l1).trans g1); have hs1 := Nat.lt_of_lt_of_le l1 b1.size; have hs0 := Nat.lt_of_lt_of_le l0 b1.size; have HB := Lib.hid (And.intro b1 (bW.out.trans (b1.mono bW.out.size))); clear b1)
      have hNle : w.heap.size ≤ N := by rw [HN.out]; exact Nat.le_refl _
      refine bodyPost_ret (v := .tuple #[.agg #[fl 0, fl 0, fl 0, fl 0], .int .i64 1]) (by simp [results, Try.results15, go_sem, y0, y1, y2, y3, hs0]) rfl ⟨?_, rfl⟩
      refine Below.alloc ?_ (by simp; exact HB.out.2.size) _
      repeat (refine Below.setCell ?_ hNle _)
      exact HB.out.2
    | some p =>
      go_upto_region 12 with (go_at_call 15; refine HIW.out.mono ?_; rintro e w1 ⟨b1, x, y, rfl, v1, v2⟩; obtain ⟨y0, y1, y2, y3, u0, u1, u2, u3⟩ := rect_facts ((b1.block _ l0).trans g0); obtain ⟨z0, z1, z2, z3, _, _, _, _⟩ := rect_facts ((b1.block _ l1).trans g1); have hs1 := Nat.lt_of_lt_of_le l1 b1.size; have hs0 := Nat.lt_of_lt_of_le l0 b1.size; have HB := Lib.hid (And.intro b1 (bW.out.trans (b1.mono bW.out.size))); clear b1; have HV := Lib.hid (And.intro v1 v2); clear v1 v2)
      obtain ⟨M, hM⟩ : ∃ M, M = w1.heap.size := ⟨_, rfl⟩
      obtain ⟨W8, hW8⟩ : ∃ W, W = w1.alloc (.cells #[fl x, fl y, fl (R j 2), fl (R j 3)] 43) := ⟨_, rfl⟩
      have HB8 : Hid (Below w.heap.size w W8) := Lib.hid (by rw [hW8]; exact HB.out.2.alloc HB.out.2.size _)
      have q0 : W8.heap[N]? = some (.cells #[fl 0, fl 0, fl 0, fl 0] 43 (0, 0)) := by rw [hW8]; exact alloc_blk ((HB.out.1.block _ l0).trans g0) _
      have q1 : W8.heap[N + 1]? = some (.cells #[fl (R k 0), fl (R k 1), fl (R k 2), fl (R k 3)] 43 (0, 0)) := by rw [hW8]; exact alloc_blk ((HB.out.1.block _ l1).trans g1) _
      have q2 : W8.heap[M]? = some (.cells #[fl x, fl y, fl (R j 2), fl (R j 3)] 43 (0, 0)) := by rw [hW8, hM]; exact Go.heap_alloc_new w1 _
      obtain ⟨r1, hv1, W9, hd1, hr1⟩ := VR.add HV.out.1 HX.out.1 W8
      obtain ⟨r2, hv2, W10, hd2, hr2⟩ := VR.add HV.out.2 HX.out.2 W9
      have e9 : W9.heap = W8.heap := Dr.heap hd1
      have e10 : W10.heap = W8.heap := (Dr.heap hd2).trans e9
      have HB10 : Hid (Below w.heap.size w W10) := Lib.hid ((HB8.out.trans ((Dr.below hd1).mono HB8.out.size)).trans ((Dr.below hd2).mono (by rw [e9]; exact HB8.out.size)))
      obtain ⟨m0, _, _, _, _, _, _, _⟩ := rect_facts q2
      obtain ⟨n0, _, _, _, _, _, _, _⟩ := rect_facts q1
      obtain ⟨_, m1, _, _, _, _, _, _⟩ := rect_facts (w := W9) (by rw [e9]; exact q2)
      obtain ⟨_, n1, _, _, _, _, _, _⟩ := rect_facts (w := W9) (by rw [e9]; exact q1)
      obtain ⟨_, _, n2, n3, _, _, _, _⟩ := rect_facts (w := W10) (by rw [e10]; exact q1)
      obtain ⟨t0, t1, t2, t3, f0, f1, f2, f3⟩ := rect_facts (w := W10) (by rw [e10]; exact q0)
      have HVV := Lib.hid (And.intro hv1 hv2)
      rw [← hM, ← hW8]
      have hNle : w.heap.size ≤ N := by rw [HN.out]; exact Nat.le_refl _
      clear q0 q1 q2 hv1 hv2 hd1 hd2 e9 e10 hM hW8 y0 y1 y2 y3 u0 u1 u2 u3 z0 z1 z2 z3 hs0 hs1
      go_wp2_with fail
      refine bodyPost_ret (v := .tuple #[.agg #[fl r1, fl r2, fl (R k 2), fl (R k 3)], .int .i64 0]) (by simp [results, Try.results15, go_sem, t0, t1, t2, t3]) rfl ⟨?_, _, _, rfl, HVV.out.1, HVV.out.2⟩
      repeat (refine Below.setCell ?_ hNle _)
      exact HB10.out
theorem fq1_end : True := trivial
end Go.Proofs.Ytohmmkkbfiembaa
