/- kept: what was lent is as it was. The two small tables of sequences; how many bytes a code point has. -/
import Derived.Test.YtlmbpbijhhnhpaaWd3
namespace Go.Proofs.Ytlmbpbijhhnhpaa
open Go.RowKit
set_option linter.unusedVariables false
set_option maxRecDepth 100000

theorem kept_true {B : Nat} {w : World} {a a' : Option Addr} {us : List Nat} (ca cap : Nat) (hl : Lent B w a' cap us) (hu : Sl16 w a us) :
    Calls Try.prog 42 #[.slice a' us.length cap, .slice a us.length ca] w fun e w' => e = .returned (.bool true) ∧ ∃ k, w.drewN k = w' := by
  have HL := Lib.hid hl
  have HU := Lib.hid hu
  have hlen := hl.len
  have hcap := hl.cap
  obtain ⟨g, cap', hv, hg0, hg⟩ := hl.row.form (by omega)
  cases hv
  have c0 := (hl.row.cellAt us.length (by omega)).trans (show (enc16 us ++ [.int .u16 56321, .int .u16 7])[us.length]? = some (.int .u16 56321) by rw [List.getElem?_append_right (by rw [enc16_len]; omega), enc16_len]; simp)
  have c1 := (hl.row.cellAt (us.length + 1) (by omega)).trans (show (enc16 us ++ [.int .u16 56321, .int .u16 7])[us.length + 1]? = some (.int .u16 7) by rw [List.getElem?_append_right (by rw [enc16_len]; omega), enc16_len]; simp)
  clear hl hu
  obtain ⟨n, hn⟩ : ∃ n, n = us.length := ⟨_, rfl⟩
  rw [← hn] at hlen hcap c0 c1 ⊢
  have HN := Lib.hid hn
  clear hn
  have q1 : IntKind.i64.wrap ((n : Int) + 2) = (n : Int) + 2 := IntWalk.i64_in _ (by omega)
  have q2 : IntKind.i64.wrap ((n : Int) + 1) = (n : Int) + 1 := IntWalk.i64_in _ (by omega)
  go_enter Try.func42, Try.ntmps42
  go_wp2_with fail
  rw [HN.out]
  refine (ref_same cap ca HL.out.sl HU.out).mono ?_
  rw [decide_eq_true rfl, ← HN.out]
  rintro e w2 ⟨rfl, k, rfl⟩
  go_wp2
  go_ret
  exact ⟨rfl, k, rfl⟩
end Go.Proofs.Ytlmbpbijhhnhpaa
