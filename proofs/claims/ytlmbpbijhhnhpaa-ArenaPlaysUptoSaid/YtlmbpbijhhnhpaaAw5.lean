/- What layer 5's small functions of the statement compute: numbers made of a script's bytes. -/
import Derived.Test.YtlmbpbijhhnhpaaArITop
namespace Go.Proofs.Ytlmbpbijhhnhpaa
open Go.RowKit
set_option linter.unusedVariables false
set_option maxRecDepth 100000

def aw1 : TA Int := ((TA.new 2 2).alloc (7 : Int)).1
def aw2 : TA Int := (aw1.alloc 8).1
def aw3 : TA Int := (aw2.alloc 9).1
def aw4 : TA Int := (aw3.drop 0 1 1).1
def aw5 : TA Int := (aw4.drop 0 1 1).1
def aw6 : TA Int := (aw5.alloc 5).1

set_option maxHeartbeats 1000000 in
/-- 'awake' of the statements of layer 5: true. -/
theorem awake_true (w : World) : Calls Try.prog 11 #[] w fun e w' => e = .returned (.bool true) ∧ Below w.heap.size w w' := by
  have c1 := fun (w' : World) => arITop_new 2 2 w'.heap.size w' (Nat.le_refl _) (by omega) (by omega) (by omega) (by omega)
  go_enter Try.func11, Try.ntmps11
  go_wp2_with fail
  refine (c1 _).mono ?_
  rintro e w1 ⟨rfl, h1, b1⟩
  have F := FrT.of_below (T := [119, 123, 37]) (B := w.heap.size) b1
  have H1 := Lib.hid h1
  clear h1 b1 c1
  go_wp2_with fail
  refine (arITop_alloc H1.out 7).mono ?_
  rintro e w2 ⟨he, h2, f2⟩
  obtain rfl : e = .returned (.tuple #[.agg #[.int .u32 1, .int .u32 1], .int .i64 0]) := he
  have H2 := Lib.hid (show ArIOf w.heap.size w2 w.heap.size aw1 from h2)
  have F2 := F.trans f2
  clear h2 f2 F H1
  go_wp2_with fail
  have x3 : (w2.alloc (.cells #[.int .u32 1, .int .u32 1] 39)).heap[w2.heap.size]? = some (.cells #[.int .u32 1, .int .u32 1] 39 (0, 0)) := Go.heap_alloc_new w2 _
  refine (arITop_alloc (H2.out.below (by repeat (first | exact Below.refl _ _ | assumption | refine Below.drew ?_ | refine below_drewN ?_ _ | refine Below.alloc ?_ (by simp <;> omega) _ | refine Below.setCell ?_ (by simp <;> omega) _ | (apply bl_trans; assumption; (simp <;> omega))))) 8).mono ?_
  rintro e w3 ⟨he, h3, f3⟩
  obtain rfl : e = .returned (.tuple #[.agg #[.int .u32 2, .int .u32 1], .int .i64 0]) := he
  have H3 := Lib.hid (show ArIOf w.heap.size w3 w.heap.size aw2 from h3)
  have X3 := Lib.hid (f3.blk x3 (by decide))
  have F3 := (F2.alloc (.cells #[.int .u32 1, .int .u32 1] 39)).trans f3
  clear h3 f3 F2 H2 x3
  go_wp2_with fail
  have x5 : (w3.alloc (.cells #[.int .u32 2, .int .u32 1] 39)).heap[w3.heap.size]? = some (.cells #[.int .u32 2, .int .u32 1] 39 (0, 0)) := Go.heap_alloc_new w3 _
  have x3 := alloc_blk X3.out (.cells #[.int .u32 2, .int .u32 1] 39)
  refine (arITop_alloc (H3.out.below (by repeat (first | exact Below.refl _ _ | assumption | refine Below.drew ?_ | refine below_drewN ?_ _ | refine Below.alloc ?_ (by simp <;> omega) _ | refine Below.setCell ?_ (by simp <;> omega) _ | (apply bl_trans; assumption; (simp <;> omega))))) 9).mono ?_
  rintro e w4 ⟨he, h4, f4⟩
  obtain rfl : e = .returned (.tuple #[.agg #[.int .u32 0, .int .u32 0], .int .i64 52]) := he
  have H4 := Lib.hid (show ArIOf w.heap.size w4 w.heap.size aw3 from h4)
  have x3 := f4.blk x3 (by decide)
  have x5 := f4.blk x5 (by decide)
  have F4 := (F3.alloc (.cells #[.int .u32 2, .int .u32 1] 39)).trans f4
  have l3 := lt_of_some x3
  have l5 := lt_of_some x5
  have y50 := cell_blk x5 0 rfl
  have y51 := cell_blk x5 1 rfl
  simp at y50 y51
  clear h4 f4 F3 H3 X3
  have X3 := Lib.hid x3
  have X5 := Lib.hid x5
  clear x3 x5
  go_wp2_with fail
  refine (arITop_get (H4.out.below (by repeat (first | exact Below.refl _ _ | assumption | refine Below.drew ?_ | refine below_drewN ?_ _ | refine Below.alloc ?_ (by simp <;> omega) _ | refine Below.setCell ?_ (by simp <;> omega) _ | (apply bl_trans; assumption; (simp <;> omega))))) 2 1 (by omega) (by omega)).mono ?_
  rintro e w5 ⟨he, b5⟩
  obtain rfl : e = .returned (.tuple #[.int .i64 8, .int .i64 0]) := he _ rfl
  have H5 := Lib.hid ((H4.out.below (by repeat (first | exact Below.refl _ _ | assumption | refine Below.drew ?_ | refine below_drewN ?_ _ | refine Below.alloc ?_ (by simp <;> omega) _ | refine Below.setCell ?_ (by simp <;> omega) _ | (apply bl_trans; assumption; (simp <;> omega))))).below b5)
  have F5 := (F4.alloc (.cells #[.int .u32 0, .int .u32 0] 39)).trans (FrT.of_below b5)
  have x3 := (FrT.of_below (T := []) (B := 0) b5).blk (alloc_blk X3.out _) (by simp)
  have x5 := (FrT.of_below (T := []) (B := 0) b5).blk (alloc_blk X5.out _) (by simp)
  have y30 := cell_blk x3 0 rfl
  have y31 := cell_blk x3 1 rfl
  simp at y30 y31
  clear he b5 F4 H4 X3 X5 y50 y51
  have X3 := Lib.hid x3
  have X5 := Lib.hid x5
  clear x3 x5
  go_wp2_with fail
  refine (arITop_free H5.out 1 1 (by omega) (by omega)).mono ?_
  rintro e w6 ⟨he, h6, f6⟩
  obtain rfl : e = .returned (.int .i64 0) := he
  have H6 := Lib.hid (show ArIOf w.heap.size w6 w.heap.size aw4 from h6)
  have F6 := F5.trans f6
  have x3 := f6.blk X3.out (by decide)
  have x5 := f6.blk X5.out (by decide)
  have y30 := cell_blk x3 0 rfl
  have y31 := cell_blk x3 1 rfl
  simp at y30 y31
  clear h6 f6 F5 H5 X3 X5
  have X3 := Lib.hid x3
  have X5 := Lib.hid x5
  clear x3 x5
  go_wp2_with fail
  refine (arITop_free H6.out 1 1 (by omega) (by omega)).mono ?_
  rintro e w7 ⟨he, h7, f7⟩
  obtain rfl : e = .returned (.int .i64 51) := he
  have H7 := Lib.hid (show ArIOf w.heap.size w7 w.heap.size aw5 from h7)
  have F7 := F6.trans f7
  have X3' := Lib.hid (f7.blk X3.out (by decide))
  have X5' := Lib.hid (f7.blk X5.out (by decide))
  clear h7 f7 F6 H6 X3 X5
  go_wp2_with fail
  refine (arITop_alloc H7.out 5).mono ?_
  rintro e w8 ⟨he, h8, f8⟩
  obtain rfl : e = .returned (.tuple #[.agg #[.int .u32 1, .int .u32 2], .int .i64 0]) := he
  have H8 := Lib.hid (show ArIOf w.heap.size w8 w.heap.size aw6 from h8)
  have F8 := F7.trans f8
  have x3 := f8.blk X3'.out (by decide)
  have x5 := f8.blk X5'.out (by decide)
  have l3 := lt_of_some x3
  have l5 := lt_of_some x5
  have y30 := cell_blk x3 0 rfl
  have y31 := cell_blk x3 1 rfl
  have y50 := cell_blk x5 0 rfl
  have y51 := cell_blk x5 1 rfl
  simp at y30 y31 y50 y51
  have q1 : hEq 1 1 1 1 = true := rfl
  have q2 : hEq 2 1 2 1 = true := rfl
  have q3 : hEq 1 2 1 2 = true := rfl
  clear h8 f8 F7 H7 X3' X5' x3 x5
  go_wp2_with fail
  refine (arITop_count (H8.out.below (by repeat (first | exact Below.refl _ _ | assumption | refine Below.drew ?_ | refine below_drewN ?_ _ | refine Below.alloc ?_ (by simp <;> omega) _ | refine Below.setCell ?_ (by simp <;> omega) _ | (apply bl_trans; assumption; (simp <;> omega)))))).mono ?_
  rintro e w9 ⟨he, b9⟩
  obtain rfl : e = .returned (.int .i64 2) := he
  have F9 := (F8.alloc (.cells #[.int .u32 1, .int .u32 2] 39)).trans (FrT.of_below b9)
  have H9 := Lib.hid ((H8.out.below (by repeat (first | exact Below.refl _ _ | assumption | refine Below.drew ?_ | refine below_drewN ?_ _ | refine Below.alloc ?_ (by simp <;> omega) _ | refine Below.setCell ?_ (by simp <;> omega) _ | (apply bl_trans; assumption; (simp <;> omega))))).below b9)
  clear b9 F8 H8 y30 y31 y50 y51
  go_wp2_with fail
  refine (arITop_left H9.out).mono ?_
  rintro e w10 ⟨he, b10⟩
  obtain rfl : e = .returned (.int .i64 0) := he
  have F10 := F9.trans (FrT.of_below b10)
  clear b10 F9 H9
  go_wp2
  go_ret
  exact ⟨rfl, F10.below (Nat.le_refl _)⟩
end Go.Proofs.Ytlmbpbijhhnhpaa
