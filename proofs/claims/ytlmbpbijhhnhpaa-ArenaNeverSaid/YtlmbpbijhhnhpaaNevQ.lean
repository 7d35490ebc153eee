/- The walk of ArenaNever, closed: from any numbers and any script it answers that all is as told. -/
import Derived.Test.YtlmbpbijhhnhpaaNevW
namespace Go.Proofs.Ytlmbpbijhhnhpaa
open Go.RowKit
set_option linter.unusedVariables false
set_option maxRecDepth 100000

set_option maxHeartbeats 1000000 in
theorem never_bad (S G : Int) (h : S < 1 ∨ 2147483647 < S ∨ G < 1 ∨ 4294967295 < G) (a : Option Addr) (len cap : Nat) (w : World) :
    Calls Try.prog 4 #[.int .i64 S, .int .i64 G, .slice a len cap] w fun e w' => e = .returned (.bool true) ∧ Below w.heap.size w w' := by
  have HH := Lib.hid h
  clear h
  go_enter Try.func4, Try.ntmps4
  go_wp2_with fail
  refine (awake_true _).mono ?_
  rintro e w1 ⟨rfl, b1⟩
  have B1 := Lib.hid b1
  clear b1
  go_wp2_with fail
  refine (arI_new_bad S G _ HH.out).mono ?_
  rintro e w2 ⟨rfl, rfl⟩
  go_wp2
  go_ret
  exact ⟨rfl, B1.out⟩

set_option maxHeartbeats 1000000 in
theorem never_empty (S G : Nat) (h1 : 1 ≤ S) (h2 : S ≤ 2147483647) (h3 : 1 ≤ G) (h4 : G ≤ 4294967295) (a : Option Addr) (cap : Nat) (w : World) :
    Calls Try.prog 4 #[.int .i64 (S : Int), .int .i64 (G : Int), .slice a 0 cap] w fun e w' => e = .returned (.bool true) ∧ Below w.heap.size w w' := by
  go_enter Try.func4, Try.ntmps4
  go_wp2_with fail
  refine (awake_true _).mono ?_
  rintro e w1 ⟨rfl, b1⟩
  have B1 := Lib.hid b1
  clear b1
  go_wp2_with fail
  refine (arITop_new S G w.heap.size w1 B1.out.size h1 h2 h3 h4).mono ?_
  rintro e w2 ⟨rfl, a2, b2⟩
  have B2 := Lib.hid (B1.out.trans (b2.mono B1.out.size))
  clear a2 b2 B1
  go_wp2_with fail
  refine wp_loop_rounds 1 ?_
  rw [rounds_succ]
  go_wp2
  go_ret
  exact ⟨rfl, B2.out⟩

theorem never_all (S G : Int) (a : Option Addr) (len cap : Nat) (w : World) (ops : List OpD) (hlen : ops.length = len) (hl : len ≤ maxLen) (hok : ∀ o ∈ ops, o.Ok)
    (hc : len = 0 ∨ ∃ b off, a = some ⟨b, off, none⟩ ∧ b < w.heap.size ∧ ∀ i o, ops[i]? = some o → ∀ j v, o.cells[j]? = some v → w.cell? ⟨b, off + (i * 7 + j), none⟩ = some v) :
    Calls Try.prog 4 #[.int .i64 S, .int .i64 G, .slice a len cap] w fun e w' => e = .returned (.bool true) ∧ Below w.heap.size w w' := by
  unfold maxLen at hl
  by_cases hb : S < 1 ∨ 2147483647 < S ∨ G < 1 ∨ 4294967295 < G
  · exact never_bad S G hb a len cap w
  · obtain ⟨s, rfl⟩ : ∃ s : Nat, S = (s : Int) := ⟨S.toNat, by omega⟩
    obtain ⟨g, rfl⟩ : ∃ g : Nat, G = (g : Int) := ⟨G.toNat, by omega⟩
    rcases hc with rfl | ⟨b, off, rfl, hbw, hcells⟩
    · exact never_empty s g (by omega) (by omega) (by omega) (by omega) a cap w
    · exact never_walk s g (by omega) (by omega) (by omega) (by omega) w b off len cap ops hlen (by omega) hbw hok hcells
end Go.Proofs.Ytlmbpbijhhnhpaa
