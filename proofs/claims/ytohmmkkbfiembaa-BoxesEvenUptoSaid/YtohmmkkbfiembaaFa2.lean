/- The examples at the head of chapter 18's laws hold; BoxesNames. -/
import Derived.Test.YtohmmkkbfiembaaFa1
import Derived.Test.YtohmmkkbfiembaaFw5
namespace Go.Proofs.Ytohmmkkbfiembaa
open Go.RowKit Go.Shelf
attribute [local go_sem] Oper.semAt_some
attribute [local go_sem] run_store_float
set_option linter.unusedVariables false
set_option maxRecDepth 100000

def pr (a b : Nat) (i : Nat) : Nat := if i = 0 then a else b
theorem slf2 {W : World} {k a b : Nat} {ty : TypeId} (h : W.heap[k]? = some (.cells #[fl a, fl b] ty (0, 0))) (ha : a < 18446744073709551616) (hb : b < 18446744073709551616) : SlF W (some ⟨k, 0, none⟩) 2 (pr a b) := ⟨fun i hi => by
  have : i = 0 ∨ i = 1 := by omega
  rcases this with rfl | rfl
  · exact ⟨ha, k, 0, rfl, cell_blk h 0 rfl⟩
  · exact ⟨hb, k, 0, rfl, cell_blk h 1 rfl⟩⟩
def ta : Told := ⟨2, 4636737291354636288, pr 4621819117588971520 4621819117588971520, pr 4607182418800017408 4613937818241073152, pr 4607182418800017408 4607182418800017408, pr 0 0, pr 4632233691727265792 4632233691727265792⟩
def tb : Told := ⟨2, 4621819117588971520, pr 4626322717216342016 4626322717216342016, pr 0 0, pr 4607182418800017408 4607182418800017408, pr 0 4624633867356078080, pr 4636666922610458624 4636666922610458624⟩
theorem pr_lt {a b : Nat} (ha : a < 18446744073709551616) (hb : b < 18446744073709551616) (i : Nat) : pr a b i < 18446744073709551616 := by unfold pr; split <;> assumption
theorem ta_ok : ToldOk ta := ⟨by decide, by decide, fun i _ => pr_lt (by decide) (by decide) i, fun i _ => pr_lt (by decide) (by decide) i, fun i _ => pr_lt (by decide) (by decide) i, fun i _ => pr_lt (by decide) (by decide) i, fun i _ => pr_lt (by decide) (by decide) i⟩
theorem tb_ok : ToldOk tb := ⟨by decide, by decide, fun i _ => pr_lt (by decide) (by decide) i, fun i _ => pr_lt (by decide) (by decide) i, fun i _ => pr_lt (by decide) (by decide) i, fun i _ => pr_lt (by decide) (by decide) i, fun i _ => pr_lt (by decide) (by decide) i⟩
theorem ta0 : ta.sizes 0 = 4632233691727265792 := by kernel_rfl
theorem ta1 : ta.sizes 1 = 4632233691727265792 := by kernel_rfl
theorem tb0 : tb.sizes 0 = 0 := by kernel_rfl
theorem tb1 : tb.sizes 1 = 4624633867356078080 := by kernel_rfl
theorem eq50 : (FloatKind.f64.format.order 4632233691727265792 4632233691727265792 == some .eq) = true := by kernel_rfl
theorem eq0 : (FloatKind.f64.format.order 0 0 == some .eq) = true := by kernel_rfl
theorem eq15 : (FloatKind.f64.format.order 4624633867356078080 4624633867356078080 == some .eq) = true := by kernel_rfl
theorem eqs : (FloatKind.f64.format.order 4591419820104220672 4591419820104220672 == some .eq) = true := by kernel_rfl
theorem eqw : (FloatKind.f64.format.order 4627448617123184640 4627448617123184640 == some .eq) = true := by kernel_rfl
theorem snap_ex (w : World) : Calls Try.prog 18 #[fl 4591870180066957722] w fun e w' => e = .returned (fl 4591419820104220672) ∧ w = w' :=
  snapB_calls w 4591870180066957722 4618891777831180698 4591419820104220672 (by kernel_rfl) ⟨by decide, by decide⟩ (by kernel_rfl)
theorem wide_ex (w : World) (a : Option Addr) : Calls Try.prog 20 #[.slice a 3 3, fl 4625196817309499392] w fun e w' => e = .returned (fl 4627448617123184640) ∧ w = w' :=
  wideB_calls w a 3 3 4625196817309499392 4620693217682128896 4627448617123184640 (by kernel_rfl) (by kernel_rfl)
/-- Five rows of two numbers, one behind the other. -/
def five (w : World) (a1 b1 a2 b2 a3 b3 a4 b4 a5 b5 : Nat) : World := ((((w.alloc (.cells #[fl a1, fl b1] 23)).alloc (.cells #[fl a2, fl b2] 23)).alloc (.cells #[fl a3, fl b3] 23)).alloc (.cells #[fl a4, fl b4] 23)).alloc (.cells #[fl a5, fl b5] 23)
theorem five_at (w : World) (a1 b1 a2 b2 a3 b3 a4 b4 a5 b5 : Nat) : Below w.heap.size w (five w a1 b1 a2 b2 a3 b3 a4 b4 a5 b5) ∧ (five w a1 b1 a2 b2 a3 b3 a4 b4 a5 b5).heap[w.heap.size]? = some (.cells #[fl a1, fl b1] 23 (0, 0)) ∧ (five w a1 b1 a2 b2 a3 b3 a4 b4 a5 b5).heap[w.heap.size + 1]? = some (.cells #[fl a2, fl b2] 23 (0, 0)) ∧
    (five w a1 b1 a2 b2 a3 b3 a4 b4 a5 b5).heap[w.heap.size + 1 + 1]? = some (.cells #[fl a3, fl b3] 23 (0, 0)) ∧ (five w a1 b1 a2 b2 a3 b3 a4 b4 a5 b5).heap[w.heap.size + 1 + 1 + 1]? = some (.cells #[fl a4, fl b4] 23 (0, 0)) ∧ (five w a1 b1 a2 b2 a3 b3 a4 b4 a5 b5).heap[w.heap.size + 1 + 1 + 1 + 1]? = some (.cells #[fl a5, fl b5] 23 (0, 0)) := by
  obtain ⟨w1, h1⟩ : ∃ x, x = w.alloc (.cells #[fl a1, fl b1] 23) := ⟨_, rfl⟩
  obtain ⟨w2, h2⟩ : ∃ x, x = w1.alloc (.cells #[fl a2, fl b2] 23) := ⟨_, rfl⟩
  obtain ⟨w3, h3⟩ : ∃ x, x = w2.alloc (.cells #[fl a3, fl b3] 23) := ⟨_, rfl⟩
  obtain ⟨w4, h4⟩ : ∃ x, x = w3.alloc (.cells #[fl a4, fl b4] 23) := ⟨_, rfl⟩
  have e : five w a1 b1 a2 b2 a3 b3 a4 b4 a5 b5 = w4.alloc (.cells #[fl a5, fl b5] 23) := by rw [h4, h3, h2, h1]; rfl
  have s1 : w1.heap.size = w.heap.size + 1 := by rw [h1]; simp
  have s2 : w2.heap.size = w.heap.size + 1 + 1 := by rw [h2]; simp [s1]
  have s3 : w3.heap.size = w.heap.size + 1 + 1 + 1 := by rw [h3]; simp [s2]
  have s4 : w4.heap.size = w.heap.size + 1 + 1 + 1 + 1 := by rw [h4]; simp [s3]
  have g1 : w1.heap[w.heap.size]? = some (.cells #[fl a1, fl b1] 23 (0, 0)) := by rw [h1]; exact Go.heap_alloc_new w _
  have g2 : w2.heap[w.heap.size + 1]? = some (.cells #[fl a2, fl b2] 23 (0, 0)) := by rw [h2, ← s1]; exact Go.heap_alloc_new w1 _
  have g3 : w3.heap[w.heap.size + 1 + 1]? = some (.cells #[fl a3, fl b3] 23 (0, 0)) := by rw [h3, ← s2]; exact Go.heap_alloc_new w2 _
  have g4 : w4.heap[w.heap.size + 1 + 1 + 1]? = some (.cells #[fl a4, fl b4] 23 (0, 0)) := by rw [h4, ← s3]; exact Go.heap_alloc_new w3 _
  have g5 : (w4.alloc (.cells #[fl a5, fl b5] 23)).heap[w.heap.size + 1 + 1 + 1 + 1]? = some (.cells #[fl a5, fl b5] 23 (0, 0)) := by rw [← s4]; exact Go.heap_alloc_new w4 _
  have b1' : Below w.heap.size w w1 := by rw [h1]; exact (Below.refl _ w).alloc (Nat.le_refl _) _
  have b2' : Below w.heap.size w w2 := by rw [h2]; exact b1'.alloc (by omega) _
  have b3' : Below w.heap.size w w3 := by rw [h3]; exact b2'.alloc (by omega) _
  have b4' : Below w.heap.size w w4 := by rw [h4]; exact b3'.alloc (by omega) _
  rw [e]
  refine ⟨b4'.alloc (by omega) _, ?_, ?_, ?_, ?_, g5⟩
  · refine alloc_blk ?_ _; rw [h4]; refine alloc_blk ?_ _; rw [h3]; refine alloc_blk ?_ _; rw [h2]; exact alloc_blk g1 _
  · refine alloc_blk ?_ _; rw [h4]; refine alloc_blk ?_ _; rw [h3]; exact alloc_blk g2 _
  · refine alloc_blk ?_ _; rw [h4]; exact alloc_blk g3 _
  · exact alloc_blk g4 _
theorem shareA (w : World) : Calls Try.prog 9 #[fl 4636737291354636288, .slice (some ⟨w.heap.size, 0, none⟩) 2 2, .slice (some ⟨w.heap.size + 1, 0, none⟩) 2 2, .slice (some ⟨w.heap.size + 1 + 1, 0, none⟩) 2 2, .slice (some ⟨w.heap.size + 1 + 1 + 1, 0, none⟩) 2 2, .slice (some ⟨w.heap.size + 1 + 1 + 1 + 1, 0, none⟩) 2 2]
    (five w 4621819117588971520 4621819117588971520 4607182418800017408 4613937818241073152 4607182418800017408 4607182418800017408 0 0 4632233691727265792 4632233691727265792)
    fun e w' => ∃ b, e = .returned (.tuple #[.slice (some ⟨b, 0, none⟩) 2 2, .int .i64 0]) ∧ w'.cell? ⟨b, 0, none⟩ = some (fl 4632233691727265792) ∧ w'.cell? ⟨b, 1, none⟩ = some (fl 4632233691727265792) ∧ Below w.heap.size w w' := by
  obtain ⟨hb, h1, h2, h3, h4, h5⟩ := five_at w 4621819117588971520 4621819117588971520 4607182418800017408 4613937818241073152 4607182418800017408 4607182418800017408 0 0 4632233691727265792 4632233691727265792
  refine (share_calls _ ta_ok (slf2 h1 (by decide) (by decide)) (slf2 h2 (by decide) (by decide)) (slf2 h3 (by decide) (by decide)) (slf2 h4 (by decide) (by decide)) (slf2 h5 (by decide) (by decide)) (p1 := 2) (p2 := 2) (p3 := 2) (p4 := 2) (p5 := 2) ⟨by decide, by decide⟩ ⟨by decide, by decide⟩ ⟨by decide, by decide⟩ ⟨by decide, by decide⟩ ⟨by decide, by decide⟩).mono ?_
  rintro e w' ⟨b, rfl, _, hf, hw⟩
  have c0 := hf.cell (i := 0) (by decide)
  have c1 := hf.cell (i := 1) (by decide)
  rw [ta0] at c0
  rw [ta1] at c1
  exact ⟨b, rfl, c0, c1, hb.trans (hw.mono hb.size)⟩
theorem shareB (w : World) : Calls Try.prog 9 #[fl 4621819117588971520, .slice (some ⟨w.heap.size, 0, none⟩) 2 2, .slice (some ⟨w.heap.size + 1, 0, none⟩) 2 2, .slice (some ⟨w.heap.size + 1 + 1, 0, none⟩) 2 2, .slice (some ⟨w.heap.size + 1 + 1 + 1, 0, none⟩) 2 2, .slice (some ⟨w.heap.size + 1 + 1 + 1 + 1, 0, none⟩) 2 2]
    (five w 4626322717216342016 4626322717216342016 0 0 4607182418800017408 4607182418800017408 0 4624633867356078080 4636666922610458624 4636666922610458624)
    fun e w' => ∃ b, e = .returned (.tuple #[.slice (some ⟨b, 0, none⟩) 2 2, .int .i64 0]) ∧ w'.cell? ⟨b, 0, none⟩ = some (fl 0) ∧ w'.cell? ⟨b, 1, none⟩ = some (fl 4624633867356078080) ∧ Below w.heap.size w w' := by
  obtain ⟨hb, h1, h2, h3, h4, h5⟩ := five_at w 4626322717216342016 4626322717216342016 0 0 4607182418800017408 4607182418800017408 0 4624633867356078080 4636666922610458624 4636666922610458624
  refine (share_calls _ tb_ok (slf2 h1 (by decide) (by decide)) (slf2 h2 (by decide) (by decide)) (slf2 h3 (by decide) (by decide)) (slf2 h4 (by decide) (by decide)) (slf2 h5 (by decide) (by decide)) (p1 := 2) (p2 := 2) (p3 := 2) (p4 := 2) (p5 := 2) ⟨by decide, by decide⟩ ⟨by decide, by decide⟩ ⟨by decide, by decide⟩ ⟨by decide, by decide⟩ ⟨by decide, by decide⟩).mono ?_
  rintro e w' ⟨b, rfl, _, hf, hw⟩
  have c0 := hf.cell (i := 0) (by decide)
  have c1 := hf.cell (i := 1) (by decide)
  rw [tb0] at c0
  rw [tb1] at c1
  exact ⟨b, rfl, c0, c1, hb.trans (hw.mono hb.size)⟩
theorem infoU : (Try.prog.info? 170).map (fun i => (i.zero, i.size, i.bytes)) = some (some (.int .u16 0), 1, 2) := by kernel_rfl
theorem make_three (W : World) : ∃ o : Obj, (Instr.makeSlice 41 (.int .i64 3) (.int .i64 3)).run Try.prog W = .ok (.slice (some ⟨W.heap.size, 0, none⟩) 3 3) (W.alloc o) := by
  obtain ⟨i, hi, hz, hs, hb⟩ := infoP infoU
  have := run_make (P := Try.prog) W 41 170 i (.int .u16 0) Try.underlying41 hi hz .i64 .i64 3 3 (by omega) (Int.le_refl _) (by rw [hb]; omega) (by omega)
  exact ⟨_, this⟩
set_option maxHeartbeats 2000000 in
theorem awake18_true (w : World) : Calls Try.prog 7 #[] w fun e w' => e = .returned (.bool true) ∧ Below w.heap.size w w' := by
  have HA := Lib.hid (shareA w)
  have HB := Lib.hid (fun W => shareB W)
  have HX := Lib.hid (fun W a => shareX_calls W 4607182418800017408 (a1 := a) (a2 := none) (a3 := none) (a4 := none) (a5 := none) (n := 1) (m2 := 0) (m3 := 0) (m4 := 0) (m5 := 0) (p1 := 1) (p2 := 0) (p3 := 0) (p4 := 0) (p5 := 0) (by decide) (by decide))
  have HL := Lib.hid (fun W => layNil_calls W 0 0 .nilFunc (fl 0) (fl 0))
  have HS := Lib.hid snap_ex
  have HW := Lib.hid wide_ex
  have e1 := eq50
  have e2 := eq0
  have e3 := eq15
  have e4 := eqs
  have e5 := eqw
  go_enter Try.func7, Try.ntmps7
  go_upto_region 2 with (go_at_call 9; refine HA.out.mono ?_; rintro e w1 ⟨b1, rfl, c0, c1, bel1⟩; have HB1 := Lib.hid bel1; clear bel1)
  go_upto_region 3 with (go_at_call 9; refine (HB.out _).mono ?_; rintro e w2 ⟨b2, rfl, d0, d1, bel2⟩; have HB2 := Lib.hid bel2; clear bel2)
  replace c0 := (HB2.out.cell (p := ⟨b1, 0, none⟩) (cell_lt' c0)).trans c0
  replace c1 := (HB2.out.cell (p := ⟨b1, 1, none⟩) (cell_lt' c1)).trans c1
  have HL2 : Hid (Below w.heap.size w w2) := Lib.hid (HB1.out.trans (HB2.out.mono HB1.out.size))
  clear HA HB HB1 HB2
  go_upto_region 4 with (go_at_call 9; refine (HX.out _ _).mono ?_; rintro e w3 ⟨rfl, bel3⟩; have HB3 := Lib.hid (((Below.refl w2.heap.size w2).alloc (Nat.le_refl _) _).trans (bel3.mono (by simp))); clear bel3)
  replace c0 := (HB3.out.cell (p := ⟨b1, 0, none⟩) (cell_lt' c0)).trans c0
  replace c1 := (HB3.out.cell (p := ⟨b1, 1, none⟩) (cell_lt' c1)).trans c1
  replace d0 := (HB3.out.cell (p := ⟨b2, 0, none⟩) (cell_lt' d0)).trans d0
  replace d1 := (HB3.out.cell (p := ⟨b2, 1, none⟩) (cell_lt' d1)).trans d1
  have HL3 : Hid (Below w.heap.size w w3) := Lib.hid (HL2.out.trans (HB3.out.mono HL2.out.size))
  clear HX HB3 HL2
  go_upto_region 5 with (go_at_call 22; refine (HL.out _).mono ?_; rintro e w4 ⟨rfl, bel4⟩; have HB4 := Lib.hid bel4; clear bel4)
  replace c0 := (HB4.out.cell (p := ⟨b1, 0, none⟩) (cell_lt' c0)).trans c0
  replace c1 := (HB4.out.cell (p := ⟨b1, 1, none⟩) (cell_lt' c1)).trans c1
  replace d0 := (HB4.out.cell (p := ⟨b2, 0, none⟩) (cell_lt' d0)).trans d0
  replace d1 := (HB4.out.cell (p := ⟨b2, 1, none⟩) (cell_lt' d1)).trans d1
  have l1 := cell_lt' c0
  have l2 := cell_lt' d0
  obtain ⟨o16, hm16⟩ := make_three w4
  have HL4 : Hid (Below w.heap.size w w4) := Lib.hid (HL3.out.trans (HB4.out.mono HL3.out.size))
  clear HL HB4 HL3
  go_wp2_with (first | (go_at_call 18; refine (HS.out _).mono ?_; rintro e w5 ⟨rfl, rfl⟩) | (go_at_call 20; refine (HW.out _ _).mono ?_; rintro e w6 ⟨rfl, rfl⟩))
  go_ret
  exact ⟨rfl, HL4.out.alloc HL4.out.size _⟩
theorem boxesNames_true (w : World) : Calls Try.prog 3 #[] w fun e w' => e = .returned (.bool true) ∧ Below w.heap.size w w' := by
  have H := Lib.hid (awake18_true w)
  go_enter Try.func3, Try.ntmps3
  go_wp2_with (go_at_call 7; refine H.out.mono ?_; rintro e w1 ⟨rfl, b1⟩; have HB := Lib.hid b1; clear b1)
  go_ret
  exact ⟨rfl, HB.out⟩
end Go.Proofs.Ytohmmkkbfiembaa
