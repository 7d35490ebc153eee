/- What the chapter's examples say: alive. -/
import Derived.Test.YtlmbpbijhhnhpaaWd17
import Derived.Test.YtlmbpbijhhnhpaaWd2
namespace Go.Proofs.Ytlmbpbijhhnhpaa
open Go.RowKit Go.Shelf
set_option linter.unusedVariables false
set_option maxRecDepth 100000

def aliveS : ByteArray := ⟨#[97, 195, 169, 240, 159, 152, 128]⟩
theorem alive_from : fromPc (pcs aliveS) = [97, 233, 55357, 56832] := by
  have e0 : pcsFrom aliveS 0 = ⟨0, 1, true, 97⟩ :: pcsFrom aliveS 1 := (pcsFrom_step aliveS 0 (by decide)).trans (by rw [show pcAt aliveS 0 = ⟨0, 1, true, 97⟩ by kernel_rfl]; rfl)
  have e1 : pcsFrom aliveS 1 = ⟨1, 2, true, 233⟩ :: pcsFrom aliveS 3 := (pcsFrom_step aliveS 1 (by decide)).trans (by rw [show pcAt aliveS 1 = ⟨1, 2, true, 233⟩ by kernel_rfl]; rfl)
  have e3 : pcsFrom aliveS 3 = ⟨3, 4, true, 128512⟩ :: pcsFrom aliveS 7 := (pcsFrom_step aliveS 3 (by decide)).trans (by rw [show pcAt aliveS 3 = ⟨3, 4, true, 128512⟩ by kernel_rfl]; rfl)
  unfold pcs
  rw [e0, e1, e3, pcsFrom_end aliveS 7 (by decide)]
  rfl
theorem alive_text : strB (textU (uns [55357, 56832, 97])) = ⟨#[240, 159, 152, 128, 97]⟩ := by
  have e0 : unsFrom [55357, 56832, 97] 0 = ⟨0, 2, 128512, false⟩ :: unsFrom [55357, 56832, 97] 2 := (unsFrom_step _ 0 (by decide)).trans (by rw [show unAt [55357, 56832, 97] 0 = ⟨0, 2, 128512, false⟩ by kernel_rfl]; rfl)
  have e2 : unsFrom [55357, 56832, 97] 2 = ⟨2, 1, 97, false⟩ :: unsFrom [55357, 56832, 97] 3 := (unsFrom_step _ 2 (by decide)).trans (by rw [show unAt [55357, 56832, 97] 2 = ⟨2, 1, 97, false⟩ by kernel_rfl]; rfl)
  unfold uns
  rw [e0, e2, unsFrom_end _ 3 (by decide)]
  rfl

set_option maxHeartbeats 2000000 in
theorem alive_true (w : World) : Calls Try.prog 38 #[] w fun e w' => e = .returned (.bool true) ∧ Below w.heap.size w w' := by
  go_enter Try.func38, Try.ntmps38
  go_wp2_with fail
  refine (show Calls Try.prog 43 #[.string ⟨#[97, 195, 169, 240, 159, 152, 128]⟩] _ _ from from_calls aliveS (by decide) _).mono ?_
  rintro e w1 ⟨a, rfl, hc, hb⟩
  rw [alive_from] at hc ⊢
  have hsl := hc.sl
  have HB1 := Lib.hid hb
  have HC := Lib.hid hsl
  clear hc hb hsl
  go_wp2_with fail
  have hnew : Sl16 (w1.alloc (.cells #[.int .u16 55357, .int .u16 56832, .int .u16 97] 79)) (some ⟨w1.heap.size, 0, none⟩) [55357, 56832, 97] := by
    have hb := Go.heap_alloc_new w1 (.cells #[.int .u16 55357, .int .u16 56832, .int .u16 97] 79)
    refine ⟨fun i u hu => ?_, by decide⟩
    match i, hu with
    | 0, hu => simp at hu; subst hu; exact ⟨by decide, _, _, rfl, by simp, cell_blk hb 0 rfl⟩
    | 1, hu => simp at hu; subst hu; exact ⟨by decide, _, _, rfl, by simp, cell_blk hb 1 rfl⟩
    | 2, hu => simp at hu; subst hu; exact ⟨by decide, _, _, rfl, by simp, cell_blk hb 2 rfl⟩
    | i + 3, hu => simp at hu
  have HT := Lib.hid (text_calls _ 3 hnew (by decide))
  rw [alive_text] at HT
  clear hnew
  refine HT.out.mono ?_
  rintro e w2 ⟨rfl, hb⟩
  have HB2 := Lib.hid (HB1.out.trans (((Below.refl _ w1).alloc HB1.out.size _).trans (hb.mono (by simp; have := HB1.out.size; omega))))
  have hsl2 := HC.out.below (w' := w2) (((Below.refl _ w1).alloc (Nat.le_refl _) _).trans (hb.mono (by simp)))
  obtain ⟨_, b, off, rfl, hbl, k0⟩ := hsl2.at_ 0 97 rfl
  obtain ⟨_, b', off', e', _, k1⟩ := hsl2.at_ 1 233 rfl
  cases e'
  obtain ⟨_, b', off', e', _, k2⟩ := hsl2.at_ 2 55357 rfl
  cases e'
  obtain ⟨_, b', off', e', _, k3⟩ := hsl2.at_ 3 56832 rfl
  cases e'
  have HC2 := Lib.hid hsl2
  have hcmp := wide_compare 4 4 hsl2 hsl2
  rw [show cmp16 [97, 233, 55357, 56832] [97, 233, 55357, 56832] = 0 from cmp16_zero.2 rfl] at hcmp
  have HCMP := Lib.hid hcmp
  simp at k0 k1 k2 k3
  clear hb hsl2 hcmp HT
  go_wp2_with (go_at_call 40; refine (HCMP.out).mono ?_; rintro e w3 ⟨rfl, rfl⟩)
  go_ret
  exact ⟨rfl, HB2.out⟩
end Go.Proofs.Ytlmbpbijhhnhpaa
