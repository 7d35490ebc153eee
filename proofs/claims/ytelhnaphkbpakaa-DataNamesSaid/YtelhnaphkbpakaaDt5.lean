/- part: where some of a node's units end; Sub: some of a node's units. -/
import Derived.Test.YtelhnaphkbpakaaDt4
namespace Go.Proofs.Ytelhnaphkbpakaa
open Go.RowKit
set_option linter.unusedVariables false
set_option maxRecDepth 100000

def partD (k off cnt : Int) (m : Nat) : Int × Int :=
  if ¬ (k = 3 ∨ k = 8 ∨ k = 7) then (0, 63)
  else if off < 0 ∨ (m : Int) < off ∨ cnt < 0 then (0, 61)
  else (off + min cnt (m - off), 0)

set_option maxHeartbeats 4000000 in
theorem part_calls (w : World) (N : Nd) (h : NdIn w N) (off cnt : Int) :
    Calls Try.prog 65 #[N.v, .int .i64 off, .int .i64 cnt] w fun e w' => e = .returned (.tuple #[.int .i64 (partD N.kind off cnt N.data.length).1, .int .i64 (partD N.kind off cnt N.data.length).2]) ∧ Below w.heap.size w w' := by
  obtain ⟨k, nm, da, dc, data, aa, ac, L, sl, ge⟩ := N
  simp only [Nd.v, Nd.cells] at *
  obtain ⟨m, em⟩ : ∃ m, m = data.length := ⟨_, rfl⟩
  have hl1 := h.data.len
  simp only [] at hl1
  rw [← em] at hl1 ⊢
  clear em h
  by_cases hk : k = 3 ∨ k = 8 ∨ k = 7
  · by_cases ho : off < 0 ∨ (m : Int) < off ∨ cnt < 0
    · have e : partD k off cnt m = (0, 61) := by unfold partD; rw [if_neg (by simp [hk]), if_pos ho]
      rw [e]
      clear e
      go_enter Try.func65, Try.ntmps65
      go_wp2_with fail
      all_goals first | exact bodyPost_ret (v := .tuple #[.int .i64 0, .int .i64 61]) (by simp [results, Try.results65, go_sem]) rfl ⟨rfl, (by repeat (first | exact Below.refl _ _ | assumption | refine Below.drew ?_ | refine below_drewN ?_ _ | refine Below.alloc ?_ (by simp <;> omega) _ | refine Below.setCell ?_ (by simp <;> omega) _ | (apply bl_trans; assumption; (simp <;> omega))))⟩ | (exfalso; omega) | (exfalso; simp_all; done)
    · have e : partD k off cnt m = (off + min cnt (m - off), 0) := by unfold partD; rw [if_neg (by simp [hk]), if_neg ho]
      rw [e]
      clear e
      have p1 : ¬ off < 0 := by omega
      have p2 : ¬ (m : Int) < off := by omega
      have p3 : ¬ cnt < 0 := by omega
      have q1 : IntKind.i64.wrap ((m : Int) - off) = (m : Int) - off := IntWalk.i64_in _ (by omega)
      have q2 : IntKind.i64.wrap (off + min cnt ((m : Int) - off)) = off + min cnt ((m : Int) - off) := IntWalk.i64_in _ (by omega)
      clear ho
      go_enter Try.func65, Try.ntmps65
      go_wp2_with fail
      all_goals first | exact bodyPost_ret (v := .tuple #[.int .i64 (off + min cnt ((m : Int) - off)), .int .i64 0]) (by simp [results, Try.results65, go_sem] <;> omega) rfl ⟨rfl, (by repeat (first | exact Below.refl _ _ | assumption | refine Below.drew ?_ | refine below_drewN ?_ _ | refine Below.alloc ?_ (by simp <;> omega) _ | refine Below.setCell ?_ (by simp <;> omega) _ | (apply bl_trans; assumption; (simp <;> omega))))⟩ | (exfalso; omega) | (exfalso; simp_all; done)
  · have e : partD k off cnt m = (0, 63) := by unfold partD; rw [if_pos hk]
    rw [e]
    clear e
    go_enter Try.func65, Try.ntmps65
    go_wp2_with fail
    all_goals first | exact bodyPost_ret (v := .tuple #[.int .i64 0, .int .i64 63]) (by simp [results, Try.results65, go_sem]) rfl ⟨rfl, (by repeat (first | exact Below.refl _ _ | assumption | refine Below.drew ?_ | refine below_drewN ?_ _ | refine Below.alloc ?_ (by simp <;> omega) _ | refine Below.setCell ?_ (by simp <;> omega) _ | (apply bl_trans; assumption; (simp <;> omega))))⟩ | (exfalso; omega) | (exfalso; simp_all; done)

/-- What Sub tells. -/
def subD (k off cnt : Int) (data : List Nat) : List Nat := (data.drop off.toNat).take ((partD k off cnt data.length).1 - off).toNat
theorem partD_good {k off cnt : Int} {m : Nat} (h : (partD k off cnt m).2 = 0) : (k = 3 ∨ k = 8 ∨ k = 7) ∧ 0 ≤ off ∧ off ≤ (m : Int) ∧ 0 ≤ cnt ∧ partD k off cnt m = (off + min cnt (m - off), 0) := by
  unfold partD at h ⊢
  by_cases h1 : ¬ (k = 3 ∨ k = 8 ∨ k = 7)
  · rw [if_pos h1] at h; simp at h
  · rw [if_neg h1] at h ⊢
    by_cases h2 : off < 0 ∨ (m : Int) < off ∨ cnt < 0
    · rw [if_pos h2] at h; simp at h
    · rw [if_neg h2]
      exact ⟨Decidable.not_not.1 h1, by omega, by omega, by omega, rfl⟩
theorem partD_bad {k off cnt : Int} {m : Nat} (h : (partD k off cnt m).2 ≠ 0) : (partD k off cnt m).1 = 0 ∧ ((partD k off cnt m).2 = 61 ∨ (partD k off cnt m).2 = 63) := by
  unfold partD at h ⊢
  by_cases h1 : ¬ (k = 3 ∨ k = 8 ∨ k = 7)
  · rw [if_pos h1]; simp
  · rw [if_neg h1] at h ⊢
    by_cases h2 : off < 0 ∨ (m : Int) < off ∨ cnt < 0
    · rw [if_pos h2]; simp
    · rw [if_neg h2] at h; simp at h
/-- A slice of a slice. -/
theorem Sl16.part {w : World} {a : Option Addr} {us : List Nat} (h : Sl16 w a us) (i n : Nat) (hn : i + n ≤ us.length) : Sl16 w (a.map (·.add i)) ((us.drop i).take n) := by
  refine ⟨fun j u hu => ?_, by have := h.len; rw [List.length_take, List.length_drop]; omega⟩
  have hj : j < n := by
    have := (List.getElem?_eq_some_iff.1 hu).1
    rw [List.length_take] at this; omega
  rw [List.getElem?_take, if_pos hj, List.getElem?_drop] at hu
  obtain ⟨h1, b, off, h2, h3, h4⟩ := h.at_ _ _ hu
  subst h2
  exact ⟨h1, b, off + i, by simp [Addr.add], h3, by rw [show off + i + j = off + (i + j) by omega]; exact h4⟩

set_option maxHeartbeats 4000000 in
theorem sub_calls (w : World) (N : Nd) (h : NdIn w N) (hB : N.Bd 1099511627776) (off cnt : Int) :
    Calls Try.prog 23 #[N.v, .int .i64 off, .int .i64 cnt] w fun e w' => Below w.heap.size w w' ∧
      (((partD N.kind off cnt N.data.length).2 ≠ 0 ∧ e = .returned (.tuple #[.slice none 0 0, .int .i64 (partD N.kind off cnt N.data.length).2])) ∨
       ((partD N.kind off cnt N.data.length).2 = 0 ∧ ∃ a, e = .returned (.tuple #[.slice a (subD N.kind off cnt N.data).length (subD N.kind off cnt N.data).length, .int .i64 0]) ∧ Clip16 w.heap.size w' a (subD N.kind off cnt N.data))) := by
  have hpart := fun w' (b : Below w.heap.size w w') => part_calls w' N (h.below b) off cnt
  obtain ⟨k, nm, da, dc, data, aa, ac, L, sl, ge⟩ := N
  have hd := h.data
  have hb1 := hB.data
  have hcap := h.cap
  simp only [Nd.v, Nd.cells] at *
  obtain ⟨m, em⟩ : ∃ m, m = data.length := ⟨_, rfl⟩
  rw [← em] at hb1 hpart hcap ⊢
  obtain ⟨hcap1, hcap2, _, _⟩ := hcap
  have HM := Lib.hid em
  have HD := Lib.hid hd
  have HP := Lib.hid hpart
  clear em h hd hpart hB
  by_cases hg : (partD k off cnt m).2 = 0
  · obtain ⟨hk, p1, p2, p3, hp⟩ := partD_good hg
    rw [hp] at HP ⊢
    obtain ⟨r, hr⟩ : ∃ r, r = off + min cnt ((m : Int) - off) := ⟨_, rfl⟩
    obtain ⟨us, hus⟩ : ∃ us, us = subD k off cnt data := ⟨_, rfl⟩
    have hsd : us = (data.drop off.toNat).take (r - off).toNat := by rw [hus, hr]; unfold subD; rw [← HM.out, hp]
    have p4 : off ≤ r := by omega
    have p5 : r ≤ (m : Int) := by omega
    have p6 : r ≤ (dc : Int) := by omega
    have hul : us.length = (r - off).toNat := by rw [hsd, List.length_take, List.length_drop, ← HM.out]; omega
    have q2 : r.toNat - off.toNat = us.length := by omega
    have q3 : off.toNat + us.length ≤ m := by omega
    have q4 : us.length ≤ 1099511627776 := by omega
    have HUS : Hid (∀ w', Sl16 w' da data → Sl16 w' (da.map (·.add off.toNat)) us) := Lib.hid (fun w' h => by rw [hsd]; exact h.part _ _ (by rw [← HM.out]; omega))
    rw [← hr] at HP ⊢
    rw [← hus]
    clear hp hr hus hsd hul
    go_enter Try.func23, Try.ntmps23
    go_wp2_with fail
    have hb0 : Below w.heap.size w (w.alloc (.cells #[.int .i64 k, .string nm, .slice da m dc, .slice aa L.length ac, .int .u32 sl, .int .u32 ge] 30)) := (Below.refl _ w).alloc (Nat.le_refl _) _
    refine (HP.out _ hb0).mono ?_
    rintro e w1 ⟨rfl, b1⟩
    have x0 := (b1.block w.heap.size (by simp)).trans (Go.heap_alloc_new w _)
    have c2 := cell_blk x0 2 rfl
    have l0 := lt_of_some x0
    simp at c2
    have B1 := Lib.hid (hb0.trans (b1.mono (by simp)))
    have HOWN : Hid (∀ A C, (A = da.map (·.add off.toNat) ∨ us = []) → Calls Try.prog 64 #[.slice A us.length C] w1 fun e w' => ∃ a', e = .returned (.slice a' us.length us.length) ∧ Clip16 w1.heap.size w' a' us ∧ Below w1.heap.size w1 w') := Lib.hid (fun A C h => by
      rcases h with rfl | h
      · exact own_calls w1 C (HUS.out _ (HD.out.below B1.out)) q4
      · exact own_calls w1 C (by rw [h]; exact Sl16.nil w1 A) q4)
    have hs1 : w.heap.size ≤ w1.heap.size := by omega
    clear b1 hb0 x0 hg
    go_wp2_with fail
    all_goals ((try rw [q2]); refine (HOWN.out _ _ (by first | exact .inl rfl | exact .inr (List.eq_nil_of_length_eq_zero (by omega)))).mono ?_; rintro e w2 ⟨a', rfl, hc2, b2⟩)
    all_goals have HC2 := Lib.hid (And.intro hc2 b2)
    all_goals clear hc2 b2
    all_goals go_wp2
    all_goals exact bodyPost_ret (v := .tuple #[.slice a' us.length us.length, .int .i64 0]) (by simp [results, Try.results23, go_sem]) rfl ⟨B1.out.trans (HC2.out.2.mono hs1), .inr ⟨trivial, a', rfl, ⟨by obtain ⟨cap, hr⟩ := HC2.out.1.row; exact ⟨cap, hr.mono hs1⟩, HC2.out.1.bnd, HC2.out.1.len⟩⟩⟩
  · obtain ⟨h1, h2⟩ := partD_bad hg
    rw [h1] at HP
    obtain ⟨c, hc⟩ : ∃ c, c = (partD k off cnt m).2 := ⟨_, rfl⟩
    rw [← hc] at HP hg h2 ⊢
    clear hc h1
    have hcc : (c != 0) = true := by simpa using hg
    go_enter Try.func23, Try.ntmps23
    go_wp2_with (go_at_call 65; refine (HP.out _ ((Below.refl _ w).alloc (Nat.le_refl _) _)).mono ?_; rintro e w1 ⟨rfl, b1⟩)
    exact bodyPost_ret (v := .tuple #[.slice none 0 0, .int .i64 c]) (by simp [results, Try.results23, go_sem]) rfl ⟨(by repeat (first | exact Below.refl _ _ | assumption | refine Below.drew ?_ | refine below_drewN ?_ _ | refine Below.alloc ?_ (by simp <;> omega) _ | refine Below.setCell ?_ (by simp <;> omega) _ | (apply bl_trans; assumption; (simp <;> omega)))), .inl ⟨hg, rfl⟩⟩
end Go.Proofs.Ytelhnaphkbpakaa
