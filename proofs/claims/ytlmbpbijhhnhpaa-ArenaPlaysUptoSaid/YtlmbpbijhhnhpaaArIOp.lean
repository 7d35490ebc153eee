/- An arena's inner tests: which handle is live, which slot is free, at one type of elements. -/
import Derived.Test.YtlmbpbijhhnhpaaArIAt
namespace Go.Proofs.Ytlmbpbijhhnhpaa
open Go.RowKit
set_option linter.unusedVariables false
set_option maxRecDepth 100000

theorem arI_count {B : Nat} {w : World} {ab : Nat} {A : Ar} {av fv : Value} (h : ArAt 119 123 37 1 B w ab A av fv) :
    Calls Try.prog 31 #[.pointer (some ⟨ab, 0, none⟩)] w fun e w' => e = .returned (.int .i64 (A.count : Int)) ∧ Below w.heap.size w w' := by
  have a4 := cell_blk h.blk 4 rfl
  clear h
  go_enter Try.func31, Try.ntmps31
  go_wp2
  go_ret
  exact ⟨rfl, (by repeat (first | exact Below.refl _ _ | assumption | refine Below.drew ?_ | refine below_drewN ?_ _ | refine Below.alloc ?_ (by simp <;> omega) _ | refine Below.setCell ?_ (by simp <;> omega) _ | (apply bl_trans; assumption; (simp <;> omega))))⟩

theorem arI_retired {B : Nat} {w : World} {ab : Nat} {A : Ar} {av fv : Value} (h : ArAt 119 123 37 1 B w ab A av fv) :
    Calls Try.prog 32 #[.pointer (some ⟨ab, 0, none⟩)] w fun e w' => e = .returned (.int .i64 (A.ret : Int)) ∧ Below w.heap.size w w' := by
  have a5 := cell_blk h.blk 5 rfl
  clear h
  go_enter Try.func32, Try.ntmps32
  go_wp2
  go_ret
  exact ⟨rfl, (by repeat (first | exact Below.refl _ _ | assumption | refine Below.drew ?_ | refine below_drewN ?_ _ | refine Below.alloc ?_ (by simp <;> omega) _ | refine Below.setCell ?_ (by simp <;> omega) _ | (apply bl_trans; assumption; (simp <;> omega))))⟩

theorem Ar.Ok.left {A : Ar} {m : Nat} (h : A.Ok m) : A.count + A.ret ≤ A.S := by have := h.sum; have := h.len; omega

theorem arI_left {B : Nat} {w : World} {ab : Nat} {A : Ar} {av fv : Value} (h : ArAt 119 123 37 1 B w ab A av fv) :
    Calls Try.prog 28 #[.pointer (some ⟨ab, 0, none⟩)] w fun e w' => e = .returned (.int .i64 ((A.S : Int) - A.count - A.ret)) ∧ Below w.heap.size w w' := by
  have a0 := cell_blk h.blk 0 rfl
  have a4 := cell_blk h.blk 4 rfl
  have a5 := cell_blk h.blk 5 rfl
  have hl := h.ok.left
  have hS := h.ok.S2
  have q1 : IntKind.i64.wrap ((A.S : Int) - A.count) = (A.S : Int) - A.count := IntWalk.i64_in _ (by omega)
  have q2 : IntKind.i64.wrap ((A.S : Int) - A.count - A.ret) = (A.S : Int) - A.count - A.ret := IntWalk.i64_in _ (by omega)
  clear h
  go_enter Try.func28, Try.ntmps28
  go_wp2
  go_quiet (fail)
  go_wp2
  go_ret
  exact ⟨rfl, (by repeat (first | exact Below.refl _ _ | assumption | refine Below.drew ?_ | refine below_drewN ?_ _ | refine Below.alloc ?_ (by simp <;> omega) _ | refine Below.setCell ?_ (by simp <;> omega) _ | (apply bl_trans; assumption; (simp <;> omega))))⟩

theorem arI_get_dead {B : Nat} {w : World} {ab : Nat} {A : Ar} {av fv : Value} (h : ArAt 119 123 37 1 B w ab A av fv) (s g : Nat) (hs : s ≤ 4294967295) (hg : g ≤ 4294967295) (hl : A.live s g = false) :
    Calls Try.prog 26 #[.pointer (some ⟨ab, 0, none⟩), .agg #[.int .u32 (s : Int), .int .u32 (g : Int)]] w fun e w' => e = .returned (.tuple #[(.int .i64 0), .int .i64 51]) ∧ Below w.heap.size w w' := by
  have H := Lib.hid h
  clear h
  go_enter Try.func26, Try.ntmps26
  go_wp2_with (go_at_call 58; refine (arI_at_dead (H.out.below (by repeat (first | exact Below.refl _ _ | assumption | refine Below.drew ?_ | refine below_drewN ?_ _ | refine Below.alloc ?_ (by simp <;> omega) _ | refine Below.setCell ?_ (by simp <;> omega) _ | (apply bl_trans; assumption; (simp <;> omega))))) s g hs hg hl).mono ?_; rintro e w' ⟨rfl, hb⟩)
  go_ret2
  exact ⟨rfl, (by repeat (first | exact Below.refl _ _ | assumption | refine Below.drew ?_ | refine below_drewN ?_ _ | refine Below.alloc ?_ (by simp <;> omega) _ | refine Below.setCell ?_ (by simp <;> omega) _ | (apply bl_trans; assumption; (simp <;> omega))))⟩

theorem arI_get_live {B : Nat} {w : World} {ab gb cap : Nat} {A : Ar} {fv : Value} (h : ArAt 119 123 37 1 B w ab A (.slice (some ⟨gb, 0, none⟩) A.all.length cap) fv) (k g : Nat) (x : Value) (hk : A.all[k]? = some (g, true, [x])) :
    Calls Try.prog 26 #[.pointer (some ⟨ab, 0, none⟩), .agg #[.int .u32 ((k : Int) + 1), .int .u32 (g : Int)]] w fun e w' => e = .returned (.tuple #[x, .int .i64 0]) ∧ Below w.heap.size w w' := by
  have b1 := (u32_bound h.ok hk).1
  have s2 := (h.rowA.cellAt (k * (1 + 2) + 2) (by have := Nat.mul_le_mul_right (1 + 2) (show k + 1 ≤ A.all.length from b1); simp only [Nat.add_mul] at this; omega)).trans (scells_at h.ok.thing hk 2 (by omega))
  simp at s2
  have hgb : gb < w.heap.size := block_lt_of_cell s2
  have H := Lib.hid h
  have HK := Lib.hid hk
  clear h hk
  go_enter Try.func26, Try.ntmps26
  go_wp2_with (go_at_call 58; refine (arI_at_live (H.out.below (by repeat (first | exact Below.refl _ _ | assumption | refine Below.drew ?_ | refine below_drewN ?_ _ | refine Below.alloc ?_ (by simp <;> omega) _ | refine Below.setCell ?_ (by simp <;> omega) _ | (apply bl_trans; assumption; (simp <;> omega))))) k g _ HK.out).mono ?_; rintro e w' ⟨rfl, hb⟩; have s3 := (hb.cell (p := ⟨gb, k * 3 + 2, none⟩) (by simp; omega)).trans ((World.cell?_alloc_lt _ _ _ hgb).trans s2))
  go_ret2
  exact ⟨rfl, (by repeat (first | exact Below.refl _ _ | assumption | refine Below.drew ?_ | refine below_drewN ?_ _ | refine Below.alloc ?_ (by simp <;> omega) _ | refine Below.setCell ?_ (by simp <;> omega) _ | (apply bl_trans; assumption; (simp <;> omega))))⟩

theorem arI_set_dead {B : Nat} {w : World} {ab : Nat} {A : Ar} {av fv : Value} (h : ArAt 119 123 37 1 B w ab A av fv) (s g : Nat) (x : Value) (hs : s ≤ 4294967295) (hg : g ≤ 4294967295) (hl : A.live s g = false) :
    Calls Try.prog 30 #[.pointer (some ⟨ab, 0, none⟩), .agg #[.int .u32 (s : Int), .int .u32 (g : Int)], x] w fun e w' => e = .returned (.int .i64 51) ∧ Below w.heap.size w w' := by
  have H := Lib.hid h
  clear h
  go_enter Try.func30, Try.ntmps30
  go_wp2_with (go_at_call 58; refine (arI_at_dead (H.out.below (by repeat (first | exact Below.refl _ _ | assumption | refine Below.drew ?_ | refine below_drewN ?_ _ | refine Below.alloc ?_ (by simp <;> omega) _ | refine Below.setCell ?_ (by simp <;> omega) _ | (apply bl_trans; assumption; (simp <;> omega))))) s g hs hg hl).mono ?_; rintro e w' ⟨rfl, hb⟩)
  go_ret
  exact ⟨rfl, (by repeat (first | exact Below.refl _ _ | assumption | refine Below.drew ?_ | refine below_drewN ?_ _ | refine Below.alloc ?_ (by simp <;> omega) _ | refine Below.setCell ?_ (by simp <;> omega) _ | (apply bl_trans; assumption; (simp <;> omega))))⟩

theorem arI_free_dead {B : Nat} {w : World} {ab : Nat} {A : Ar} {av fv : Value} (h : ArAt 119 123 37 1 B w ab A av fv) (s g : Nat) (hs : s ≤ 4294967295) (hg : g ≤ 4294967295) (hl : A.live s g = false) :
    Calls Try.prog 29 #[.pointer (some ⟨ab, 0, none⟩), .agg #[.int .u32 (s : Int), .int .u32 (g : Int)]] w fun e w' => e = .returned (.int .i64 51) ∧ Below w.heap.size w w' := by
  have H := Lib.hid h
  clear h
  go_enter Try.func29, Try.ntmps29
  go_wp2_with (go_at_call 58; refine (arI_at_dead (H.out.below (by repeat (first | exact Below.refl _ _ | assumption | refine Below.drew ?_ | refine below_drewN ?_ _ | refine Below.alloc ?_ (by simp <;> omega) _ | refine Below.setCell ?_ (by simp <;> omega) _ | (apply bl_trans; assumption; (simp <;> omega))))) s g hs hg hl).mono ?_; rintro e w' ⟨rfl, hb⟩)
  go_ret
  exact ⟨rfl, (by repeat (first | exact Below.refl _ _ | assumption | refine Below.drew ?_ | refine below_drewN ?_ _ | refine Below.alloc ?_ (by simp <;> omega) _ | refine Below.setCell ?_ (by simp <;> omega) _ | (apply bl_trans; assumption; (simp <;> omega))))⟩

theorem arI_new_bad (S G : Int) (w : World) (h : S < 1 ∨ 2147483647 < S ∨ G < 1 ∨ 4294967295 < G) :
    Calls Try.prog 24 #[.int .i64 S, .int .i64 G] w fun e w' => e = .returned (.tuple #[.pointer none, .int .i64 1]) ∧ w = w' := by
  by_cases h1 : S < 1
  · go_enter Try.func24, Try.ntmps24
    go_wp2
    go_ret2
    exact ⟨rfl, rfl⟩
  · by_cases h2 : 2147483647 < S
    · go_enter Try.func24, Try.ntmps24
      go_wp2
      go_ret2
      exact ⟨rfl, rfl⟩
    · by_cases h3 : G < 1
      · go_enter Try.func24, Try.ntmps24
        go_wp2
        go_ret2
        exact ⟨rfl, rfl⟩
      · have h4 : 4294967295 < G := by omega
        go_enter Try.func24, Try.ntmps24
        go_wp2
        go_ret2
        exact ⟨rfl, rfl⟩

def Ar.new (S G : Nat) : Ar := { S, G, all := [], free := [], count := 0, ret := 0 }

theorem arI_new (S G : Nat) (B : Nat) (w : World) (hB : B ≤ w.heap.size) (h1 : 1 ≤ S) (h2 : S ≤ 2147483647) (h3 : 1 ≤ G) (h4 : G ≤ 4294967295) :
    Calls Try.prog 24 #[.int .i64 (S : Int), .int .i64 (G : Int)] w fun e w' => e = .returned (.tuple #[.pointer (some ⟨w.heap.size, 0, none⟩), .int .i64 0]) ∧
      ArAt 119 123 37 1 B w' w.heap.size (Ar.new S G) (.slice none 0 0) (.slice none 0 0) ∧ Below w.heap.size w w' := by
  go_enter Try.func24, Try.ntmps24
  go_wp2
  go_ret2
  refine ⟨rfl, ⟨⟨h1, h2, h3, h4, by simp [Ar.new], by simp [Ar.new], by simp [Ar.new], by simp [Ar.new], by simp [Ar.new], by simp [Ar.new], by simp [Ar.new]⟩, hB, ?_, ?_, ?_⟩, (by repeat (first | exact Below.refl _ _ | assumption | refine Below.drew ?_ | refine below_drewN ?_ _ | refine Below.alloc ?_ (by simp <;> omega) _ | refine Below.setCell ?_ (by simp <;> omega) _ | (apply bl_trans; assumption; (simp <;> omega))))⟩
  · rw [Go.heap_alloc_new]; rfl
  · exact World.ownsRow_nil _ _ _ _
  · exact World.ownsRow_nil _ _ _ _
end Go.Proofs.Ytlmbpbijhhnhpaa
