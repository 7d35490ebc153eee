/- What is left: the program's closure. -/
import Derived.Test.YtohmmkkbfiembaaFw1
namespace Go.Proofs.Ytohmmkkbfiembaa
open Go.RowKit Go.Shelf
attribute [local go_sem] Oper.semAt_some
attribute [local go_sem] run_store_float
set_option linter.unusedVariables false
set_option maxRecDepth 100000

theorem hadd {x y r : Nat} (h : Ieee.double.add x y = some r) : ∀ t w, (binOp .add t (fl x) (fl y)).run Try.prog w = .ok (fl r) w := fun t w => run_float_arith w .add t .f64 x y r h
theorem hsub {x y r : Nat} (h : Ieee.double.sub x y = some r) : ∀ t w, (binOp .sub t (fl x) (fl y)).run Try.prog w = .ok (fl r) w := fun t w => run_float_arith w .sub t .f64 x y r h
theorem hmul {x y r : Nat} (h : Ieee.double.mul x y = some r) : ∀ t w, (binOp .mul t (fl x) (fl y)).run Try.prog w = .ok (fl r) w := fun t w => run_float_arith w .mul t .f64 x y r h
theorem hquo {x y r : Nat} (h : Ieee.double.div x y = some r) : ∀ t w, (binOp .quo t (fl x) (fl y)).run Try.prog w = .ok (fl r) w := fun t w => run_float_arith w .quo t .f64 x y r h

set_option maxHeartbeats 2000000 in
theorem left_calls (w : World) {rb nb zb sb bb fz sz bs n room : Nat} {Sz Bs : Nat → Nat} {Fz : Nat → Bool} (hn : n ≤ 1048578) (hroom : Bd 1074 (2 ^ 25) room) (hSz : ∀ i, i < n → Bd 1074 (2 ^ 25) (Sz i)) (hBs : ∀ i, i < n → Bd 1074 (2 ^ 25) (Bs i))
    (c0 : w.cell? ⟨rb, 0, none⟩ = some (fl room)) (c1 : w.cell? ⟨nb, 0, none⟩ = some (.int .i64 (n : Int))) (c2 : w.cell? ⟨zb, 0, none⟩ = some (.slice (some ⟨fz, 0, none⟩) n n)) (c3 : w.cell? ⟨sb, 0, none⟩ = some (.slice (some ⟨sz, 0, none⟩) n n)) (c4 : w.cell? ⟨bb, 0, none⟩ = some (.slice (some ⟨bs, 0, none⟩) n n))
    (h2 : Bl w fz n Fz) (h3 : Fl w sz n Sz) (h4 : Fl w bs n Bs) :
    Calls Try.prog 26 #[.pointer (some ⟨rb, 0, none⟩), .pointer (some ⟨nb, 0, none⟩), .pointer (some ⟨zb, 0, none⟩), .pointer (some ⟨sb, 0, none⟩), .pointer (some ⟨bb, 0, none⟩)] w fun e w' => e = .returned (fl (leftF room Sz Bs Fz n)) ∧ w = w' := by
  have HST := Lib.hid (fun i (hi : i < n) => leftF_step (Fz := Fz) hn hroom hSz hBs hi)
  have H2 := Lib.hid h2
  have H3 := Lib.hid h3
  have H4 := Lib.hid h4
  have HN := Lib.hid hn
  obtain ⟨G, hG⟩ : ∃ G, G = leftF room Sz Bs Fz := ⟨_, rfl⟩
  have hG0 : G 0 = room := by rw [hG]; rfl
  rw [← hG] at HST ⊢
  clear h2 h3 h4 hroom hSz hBs hG hn
  go_enter Try.func26, Try.ntmps26
  go_wp2
  go_loopg [6, 10] n (fun m v u wr => ∃ i : Nat, u = .int .i64 (i : Int) ∧ v = fl (G i) ∧ Hid (i + m = n) ∧ w = wr)
  case atStart => exact ⟨0, rfl, by rw [hG0], Lib.hid (by omega), rfl⟩
  case round =>
    obtain ⟨i, rfl, rfl, hw, rfl⟩ := hrel
    have hsum := hw.out
    have hn := HN.out
    have q0 : IntKind.i64.wrap ((i : Int) + 1) = (i : Int) + 1 := IntWalk.i64_in _ (by omega)
    clear hw
    by_cases hi : i < n
    · have x2 := H2.out.cell hi
      have x3 := H3.out.cell hi
      have x4 := H4.out.cell hi
      have hst := HST.out i hi
      have HM : Hid (gk - 1 < gk) := Lib.hid (by omega)
      have HS : Hid (i + 1 + (gk - 1) = n) := Lib.hid (by omega)
      cases hz : Fz i with
      | true =>
        rw [hz, if_pos rfl] at hst
        rw [hz] at x2
        have hop := hsub hst
        clear hst
        go_wp2_with (simp only [hop])
        go_roundg (gk - 1)
        case measure => exact HM.out
        case rel => exact ⟨i + 1, by go_num, rfl, HS, rfl⟩
      | false =>
        rw [hz, if_neg (by decide)] at hst
        rw [hz] at x2
        have hop := hsub hst
        clear hst
        go_wp2_with (simp only [hop])
        go_roundg (gk - 1)
        case measure => exact HM.out
        case rel => exact ⟨i + 1, by go_num, rfl, HS, rfl⟩
    · obtain rfl : i = n := by omega
      go_wp2
      go_ret
      exact ⟨rfl, rfl⟩
end Go.Proofs.Ytohmmkkbfiembaa
