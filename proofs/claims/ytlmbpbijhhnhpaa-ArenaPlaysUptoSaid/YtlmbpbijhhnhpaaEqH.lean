/- Handles compared: '==' and '!=' of two structs of two uint32. -/
import Derived.Test.YtlmbpbijhhnhpaaGk
import Derived.Test.YtlmbpbijhhnhpaaProg
import Derived.Laws.StructEq
namespace Go.Proofs.Ytlmbpbijhhnhpaa
open Go.RowKit
set_option linter.unusedVariables false

theorem under39 : Try.prog.underlying 39 = some (.struct (Try.prog.fieldsOf 39)) := by kernel_rfl
theorem fields39 : (Try.prog.fieldsOf 39).toList.map (fun f => (f.name, f.type, f.offset)) = [("Slot", 37, 0), ("Gen", 37, 1)] := by kernel_rfl
theorem stood39 : Try.prog.stoodInHeld 39 = false := by kernel_rfl
theorem guard39 : Try.prog.eqGuardType Try.prog.depth 39 = false := by kernel_rfl

/-- Are two handles one? -/
def hEq (a b c e : Int) : Bool := a == c && b == e
theorem hEq_true {a b c e : Int} (h1 : a = c) (h2 : b = e) : hEq a b c e = true := by simp [hEq, h1, h2]
theorem hEq_false {a b c e : Int} (h : a ≠ c ∨ b ≠ e) : hEq a b c e = false := by
  unfold hEq
  rcases h with h | h <;> simp [h]
theorem hEq_iff {a b c e : Int} : hEq a b c e = true ↔ a = c ∧ b = e := by simp [hEq]

theorem equalIn_handle (d : Nat) (a b c e : Int) (w : World) : (Op.equalIn (d + 1 + 1) 39 (.agg #[.int .u32 a, .int .u32 b]) (.agg #[.int .u32 c, .int .u32 e])).run Try.prog w = .ok (a == c && b == e) w := by
  rw [run_equalIn_struct w (d + 1) 39 _ _ under39 stood39]
  have hf := fields39
  generalize (Try.prog.fieldsOf 39).toList = fs at hf
  obtain ⟨f0, f1, rfl⟩ : ∃ f0 f1, fs = [f0, f1] := by
    have hl := congrArg List.length hf
    simp at hl
    match fs, hl with
    | [f0, f1], _ => exact ⟨f0, f1, rfl⟩
  simp only [List.map_cons, List.map_nil, List.cons.injEq, Prod.mk.injEq, and_true] at hf
  obtain ⟨⟨n0, t0, o0⟩, ⟨n1, t1, o1⟩⟩ := hf
  have hu := Try.underlying37
  simp [Op.eqFields, n0, n1, t0, t1, o0, o1, go_sem, hu]
  by_cases h : a = c
  · by_cases h2 : b = e <;> simp [h, h2]
  · simp [h]

@[go_sem ↓ high] theorem eql_handle (a b c e : Int) (w : World) : (binOp .eql 39 (.agg #[.int .u32 a, .int .u32 b]) (.agg #[.int .u32 c, .int .u32 e])).run Try.prog w = .ok (.bool (hEq a b c e)) w := by
  rw [run_eql_struct, show (10000 : Nat) = 9998 + 1 + 1 from rfl, equalIn_handle]; rfl
@[go_sem ↓ high] theorem neq_handle (a b c e : Int) (w : World) : (binOp .neq 39 (.agg #[.int .u32 a, .int .u32 b]) (.agg #[.int .u32 c, .int .u32 e])).run Try.prog w = .ok (.bool (!hEq a b c e)) w := by
  rw [run_neq_struct, show (10000 : Nat) = 9998 + 1 + 1 from rfl, equalIn_handle]; rfl
@[go_sem ↓ high] theorem guard_handle (op : BinOp) (x y : Operand) (xs ys : Array Value) (w : World) : (eqGuard op 39 x y (.agg xs) (.agg ys)).run Try.prog w = .ok () w := run_eqGuard_agg w op 39 x y xs ys guard39
end Go.Proofs.Ytlmbpbijhhnhpaa
