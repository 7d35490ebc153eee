/- The document's arena: New. -/
import Derived.Test.YtlmbpbijhhnhpaaRfD
namespace Go.Proofs.Ytlmbpbijhhnhpaa
open Go.RowKit
set_option linter.unusedVariables false
set_option maxRecDepth 100000

theorem rf_new_bad (S G : Int) (w : World) (h : S < 1 ∨ 2147483647 < S ∨ G < 1 ∨ 4294967295 < G) :
    Calls Try.prog 33 #[.int .i64 S, .int .i64 G] w fun e w' => e = .returned (.tuple #[.pointer none, .bool false]) ∧ w = w' := by
  by_cases h1 : S < 1
  · go_enter Try.func33, Try.ntmps33
    go_wp2
    go_ret2
    exact ⟨rfl, rfl⟩
  · by_cases h2 : 2147483647 < S
    · go_enter Try.func33, Try.ntmps33
      go_wp2
      go_ret2
      exact ⟨rfl, rfl⟩
    · by_cases h3 : G < 1
      · go_enter Try.func33, Try.ntmps33
        go_wp2
        go_ret2
        exact ⟨rfl, rfl⟩
      · have h4 : 4294967295 < G := by omega
        go_enter Try.func33, Try.ntmps33
        go_wp2
        go_ret2
        exact ⟨rfl, rfl⟩

theorem rf_new (S G : Nat) (B : Nat) (w : World) (hB : B ≤ w.heap.size) (h1 : 1 ≤ S) (h2 : S ≤ 2147483647) (h3 : 1 ≤ G) (h4 : G ≤ 4294967295) :
    Calls Try.prog 33 #[.int .i64 (S : Int), .int .i64 (G : Int)] w fun e w' => e = .returned (.tuple #[.pointer (some ⟨w.heap.size, 0, none⟩), .bool true]) ∧
      RefAt B w' w.heap.size (TA.new S G) (.slice none 0 0) (.slice none 0 0) ∧ Below w.heap.size w w' := by
  go_enter Try.func33, Try.ntmps33
  go_wp2
  go_ret2
  refine ⟨rfl, ⟨⟨h1, h2, h3, h4, by simp [TA.new, TA.ar], by simp [TA.new, TA.ar], by simp [TA.new, TA.ar], by simp [TA.new, TA.ar], by simp [TA.new, TA.ar], by simp [TA.new, TA.ar], by simp [TA.new, TA.ar]⟩, hB, ?_, ?_, ?_⟩, (by repeat (first | exact Below.refl _ _ | assumption | refine Below.drew ?_ | refine below_drewN ?_ _ | refine Below.alloc ?_ (by simp <;> omega) _ | refine Below.setCell ?_ (by simp <;> omega) _ | (apply bl_trans; assumption; (simp <;> omega))))⟩
  · rw [Go.heap_alloc_new]; rfl
  · exact World.ownsRow_nil _ _ _ _
  · exact World.ownsRow_nil _ _ _ _
end Go.Proofs.Ytlmbpbijhhnhpaa
