/- An arena of strings: New, Alloc of a slot that never was used, Get of what lives, Count, Retired. -/
import Derived.Test.YtlmbpbijhhnhpaaArIAlloc
namespace Go.Proofs.Ytlmbpbijhhnhpaa
open Go.RowKit
set_option linter.unusedVariables false
set_option maxRecDepth 100000

set_option maxHeartbeats 800000 in
theorem arS_at_live {B : Nat} {w : World} {ab gb cap : Nat} {A : Ar} {fv : Value} (h : ArAt 108 113 37 1 B w ab A (.slice (some ⟨gb, 0, none⟩) A.all.length cap) fv) (k g : Nat) (t : List Value) (hk : A.all[k]? = some (g, true, t)) :
    Calls Try.prog 56 #[.pointer (some ⟨ab, 0, none⟩), .agg #[.int .u32 ((k : Int) + 1), .int .u32 (g : Int)]] w fun e w' => e = .returned (.pointer (some ⟨gb, k * (1 + 2), none⟩)) ∧ Below w.heap.size w w' := by
  obtain ⟨b1, b2, b3, b4⟩ := u32_bound h.ok hk
  have a2 := cell_blk h.blk 2 rfl
  have hab := lt_of_some h.blk
  have s0 := (h.rowA.cellAt (k * (1 + 2) + 0) (by have := Nat.mul_le_mul_right (1 + 2) (show k + 1 ≤ A.all.length from b1); simp only [Nat.add_mul] at this; omega)).trans (scells_at h.ok.thing hk 0 (by omega))
  have s1 := (h.rowA.cellAt (k * (1 + 2) + 1) (by have := Nat.mul_le_mul_right (1 + 2) (show k + 1 ≤ A.all.length from b1); simp only [Nat.add_mul] at this; omega)).trans (scells_at h.ok.thing hk 1 (by omega))
  simp at s0 s1 a2
  have hgb : gb < w.heap.size := block_lt_of_cell s0
  clear h hk
  have q0 : hEq ((k : Int) + 1) g 0 0 = false := hEq_false (.inl (by omega))
  have q1 : IntKind.i64.wrap ((k : Int) + 1) = (k : Int) + 1 := IntWalk.i64_in _ (by omega)
  have q2 : decide ((k : Int) + 1 < 1) = false := by simp; omega
  have q3 : decide ((A.all.length : Int) < (k : Int) + 1) = false := by simp; omega
  have q4 : IntKind.u32.wrap ((k : Int)) = (k : Int) := IntWalk.u32_in _ (by omega)
  have q5 : (k : Int) < (A.all.length : Int) := by omega
  have q6 : hEq ((k : Int) + 1) g ((k : Int) + 1) g = true := hEq_true rfl rfl
  go_enter Try.func56, Try.ntmps56
  go_wp2
  go_quiet (fail)
  go_wp2
  go_quiet (fail)
  go_wp2
  go_region
  all_goals go_wp2
  all_goals go_ret
  all_goals exact ⟨rfl, (by repeat (first | exact Below.refl _ _ | assumption | refine Below.drew ?_ | refine below_drewN ?_ _ | refine Below.alloc ?_ (by simp <;> omega) _ | refine Below.setCell ?_ (by simp <;> omega) _ | (apply bl_trans; assumption; (simp <;> omega))))⟩


theorem arS_count {B : Nat} {w : World} {ab : Nat} {A : Ar} {av fv : Value} (h : ArAt 108 113 37 1 B w ab A av fv) :
    Calls Try.prog 22 #[.pointer (some ⟨ab, 0, none⟩)] w fun e w' => e = .returned (.int .i64 (A.count : Int)) ∧ Below w.heap.size w w' := by
  have a4 := cell_blk h.blk 4 rfl
  clear h
  go_enter Try.func22, Try.ntmps22
  go_wp2
  go_ret
  exact ⟨rfl, (by repeat (first | exact Below.refl _ _ | assumption | refine Below.drew ?_ | refine below_drewN ?_ _ | refine Below.alloc ?_ (by simp <;> omega) _ | refine Below.setCell ?_ (by simp <;> omega) _ | (apply bl_trans; assumption; (simp <;> omega))))⟩


theorem arS_retired {B : Nat} {w : World} {ab : Nat} {A : Ar} {av fv : Value} (h : ArAt 108 113 37 1 B w ab A av fv) :
    Calls Try.prog 23 #[.pointer (some ⟨ab, 0, none⟩)] w fun e w' => e = .returned (.int .i64 (A.ret : Int)) ∧ Below w.heap.size w w' := by
  have a5 := cell_blk h.blk 5 rfl
  clear h
  go_enter Try.func23, Try.ntmps23
  go_wp2
  go_ret
  exact ⟨rfl, (by repeat (first | exact Below.refl _ _ | assumption | refine Below.drew ?_ | refine below_drewN ?_ _ | refine Below.alloc ?_ (by simp <;> omega) _ | refine Below.setCell ?_ (by simp <;> omega) _ | (apply bl_trans; assumption; (simp <;> omega))))⟩


theorem arS_get_live {B : Nat} {w : World} {ab gb cap : Nat} {A : Ar} {fv : Value} (h : ArAt 108 113 37 1 B w ab A (.slice (some ⟨gb, 0, none⟩) A.all.length cap) fv) (k g : Nat) (x : Value) (hk : A.all[k]? = some (g, true, [x])) :
    Calls Try.prog 16 #[.pointer (some ⟨ab, 0, none⟩), .agg #[.int .u32 ((k : Int) + 1), .int .u32 (g : Int)]] w fun e w' => e = .returned (.tuple #[x, .int .i64 0]) ∧ Below w.heap.size w w' := by
  have b1 := (u32_bound h.ok hk).1
  have s2 := (h.rowA.cellAt (k * (1 + 2) + 2) (by have := Nat.mul_le_mul_right (1 + 2) (show k + 1 ≤ A.all.length from b1); simp only [Nat.add_mul] at this; omega)).trans (scells_at h.ok.thing hk 2 (by omega))
  simp at s2
  have hgb : gb < w.heap.size := block_lt_of_cell s2
  have H := Lib.hid h
  have HK := Lib.hid hk
  clear h hk
  go_enter Try.func16, Try.ntmps16
  go_wp2_with (go_at_call 56; refine (arS_at_live (H.out.below (by repeat (first | exact Below.refl _ _ | assumption | refine Below.drew ?_ | refine below_drewN ?_ _ | refine Below.alloc ?_ (by simp <;> omega) _ | refine Below.setCell ?_ (by simp <;> omega) _ | (apply bl_trans; assumption; (simp <;> omega))))) k g _ HK.out).mono ?_; rintro e w' ⟨rfl, hb⟩; have s3 := (hb.cell (p := ⟨gb, k * 3 + 2, none⟩) (by simp; omega)).trans ((World.cell?_alloc_lt _ _ _ hgb).trans s2))
  go_ret2
  exact ⟨rfl, (by repeat (first | exact Below.refl _ _ | assumption | refine Below.drew ?_ | refine below_drewN ?_ _ | refine Below.alloc ?_ (by simp <;> omega) _ | refine Below.setCell ?_ (by simp <;> omega) _ | (apply bl_trans; assumption; (simp <;> omega))))⟩


theorem arS_new (S G : Nat) (B : Nat) (w : World) (hB : B ≤ w.heap.size) (h1 : 1 ≤ S) (h2 : S ≤ 2147483647) (h3 : 1 ≤ G) (h4 : G ≤ 4294967295) :
    Calls Try.prog 13 #[.int .i64 (S : Int), .int .i64 (G : Int)] w fun e w' => e = .returned (.tuple #[.pointer (some ⟨w.heap.size, 0, none⟩), .int .i64 0]) ∧
      ArAt 108 113 37 1 B w' w.heap.size (Ar.new S G) (.slice none 0 0) (.slice none 0 0) ∧ Below w.heap.size w w' := by
  go_enter Try.func13, Try.ntmps13
  go_wp2
  go_ret2
  refine ⟨rfl, ⟨⟨h1, h2, h3, h4, by simp [Ar.new], by simp [Ar.new], by simp [Ar.new], by simp [Ar.new], by simp [Ar.new], by simp [Ar.new], by simp [Ar.new]⟩, hB, ?_, ?_, ?_⟩, (by repeat (first | exact Below.refl _ _ | assumption | refine Below.drew ?_ | refine below_drewN ?_ _ | refine Below.alloc ?_ (by simp <;> omega) _ | refine Below.setCell ?_ (by simp <;> omega) _ | (apply bl_trans; assumption; (simp <;> omega))))⟩
  · rw [Go.heap_alloc_new]; rfl
  · exact World.ownsRow_nil _ _ _ _
  · exact World.ownsRow_nil _ _ _ _

theorem slotS_info : (Try.prog.info? 113).map (fun i => (i.zero, i.size, i.bytes)) = some (some (.agg #[.int .u32 0, .bool false, (.string ByteArray.empty)]), 1 + 2, 24) := by kernel_rfl


theorem arS_alloc_grow {B : Nat} {w : World} {ab : Nat} {A : Ar} {av fv : Value} (h : ArAt 108 113 37 1 B w ab A av fv) (x : ByteArray) (hf : A.free = []) (hl : A.all.length < A.S) :
    Calls Try.prog 15 #[.pointer (some ⟨ab, 0, none⟩), (.string x)] w fun e w' => ∃ av', e = .returned (.tuple #[.agg #[.int .u32 ((A.all.length : Int) + 1), .int .u32 1], .int .i64 0]) ∧
      ArAt 108 113 37 1 B w' ab { A with all := A.all ++ [(1, true, [(.string x)])], count := A.count + 1 } av' fv ∧ FrT [108, 113, 37] B w w' := by
  have hS := h.ok.S2
  have hG := h.ok.G2
  have hab := lt_of_some h.blk
  have hcl := h.ok.left
  have a0 := cell_blk h.blk 0 rfl
  have a2 := cell_blk h.blk 2 rfl
  have a3 := cell_blk h.blk 3 rfl
  obtain ⟨n, cap, av', hav, hn⟩ : ∃ n cap av', av = .slice av' n cap ∧ n = A.all.length := by
    rcases h.rowA.2 with ⟨rfl, hn⟩ | ⟨gb, cap, cur, rfl, _⟩
    · exact ⟨0, 0, none, rfl, hn.symm⟩
    · exact ⟨_, cap, _, rfl, rfl⟩
  obtain ⟨cap2, fv', rfl⟩ : ∃ cap2 fv', fv = .slice fv' 0 cap2 := by
    rcases h.rowF.2 with ⟨rfl, hn⟩ | ⟨gb, cap, cur, rfl, _⟩
    · exact ⟨0, none, rfl⟩
    · rw [hf]; exact ⟨cap, _, rfl⟩
  rw [hav] at a2
  simp at a0 a2 a3
  have q1 : decide (n < A.S) = true := by simp; omega
  have q2 : IntKind.u32.wrap (n : Int) = n := IntWalk.u32_in _ (by omega)
  have hn2 : n ≤ 2147483646 := by omega
  obtain ⟨C, hCe⟩ : ∃ C, C = A.count := ⟨_, rfl⟩
  rw [← hCe] at hcl
  have HN := Lib.hid hn
  have HC := Lib.hid hCe
  have H := Lib.hid h
  have HF := Lib.hid hf
  have HAV := Lib.hid hav
  clear h hf hCe hn hav
  go_enter Try.func15, Try.ntmps15
  go_wp2
  go_quiet (fail)
  have hR := (H.out.raw.alloc (.cells #[.int .u32 0, .int .u32 0] 39)).drewN nq
  have hX : ((w.alloc (.cells #[.int .u32 0, .int .u32 0] 39)).drewN nq).heap[w.heap.size]? = some (.cells #[.int .u32 0, .int .u32 0] 39 (0, 0)) := Go.heap_alloc_new w _
  have hsz : w.heap.size < ((w.alloc (.cells #[.int .u32 0, .int .u32 0] 39)).drewN nq).heap.size := by simp
  generalize ((w.alloc (.cells #[.int .u32 0, .int .u32 0] 39)).drewN nq) = W at hR hX hsz ⊢
  clear a0 a2 a3
  rw [HAV.out] at hR
  have a2 := cell_blk hR.blk 2 rfl
  simp at a2
  have hB : B ≤ W.heap.size := by have := hR.base; omega
  have habW := lt_of_some hR.blk
  have hrow := hR.rowA
  rw [← HN.out] at hrow
  obtain ⟨i0, hi0, hz0, hz1, hz2⟩ := info_parts slotS_info
  have HR := Lib.hid hR
  have HX := Lib.hid hX
  clear hR hX
  go_wp2_with (at_builtin; refine wpList_append_lies _ rfl _ _ 106 rfl B 113 i0 _ (1 + 2) 24 Try.underlying106 hi0 hz0 hz1 hz2 rfl (by omega) (.slice av' n cap) n _ rfl (hrow.alloc _) ⟨W.heap.size, 0, none⟩ 1 1 [.int .u32 0, .bool false, (.string ByteArray.empty)] rfl rfl (World.news_of_block (cs := #[.int .u32 0, .bool false, (.string ByteArray.empty)]) (t := 113) (fr := (0, 0)) (Go.heap_alloc_new W _)) (by simp [Value.oneCell']) (by omega) (by unfold maxLen; omega) (by omega) (by simp; omega) (W.heap.size + 1) (by simp) ?_)
  intro gg cap1 w1 hown1 hgrow hat hlt
  have ng := (HR.out.alloc (.cells #[.int .u32 0, .bool false, (.string ByteArray.empty)] 113)).growA (by decide) hgrow
  have b2 := cell_blk ng.1 2 rfl
  have b4 := cell_blk ng.1 4 rfl
  have e2 := free_blk ng.1 2
  have e4 := free_blk ng.1 4
  have nX := (hgrow.block w.heap.size (by simp; omega) (row_ne (hrow.alloc (.cells #[.int .u32 0, .bool false, (.string ByteArray.empty)] 113)) (alloc_blk HX.out _) (by decide))).trans (alloc_blk HX.out _)
  have x0 := cell_blk nX 0 rfl
  have x1 := cell_blk nX 1 rfl
  have v0 := free_blk nX 0
  have v1 := free_blk nX 1
  obtain ⟨curA, hcurA, _⟩ := ownsRow_blk hown1
  have n1 : gg ≠ ab := ne_blk hcurA ng.1 (by decide)
  have n2 : gg ≠ w.heap.size := ne_blk hcurA nX (by decide)
  have n3 : ab ≠ w.heap.size := by omega
  have n1' := Ne.symm n1
  have n2' := Ne.symm n2
  have n3' := Ne.symm n3
  have hsl := scells_length (m := 1) HR.out.thing
  rw [← HN.out] at hsl
  have s0 := hown1.cellAt (n * (1 + 2) + 0) (by rw [Nat.add_mul]; omega)
  have s1 := hown1.cellAt (n * (1 + 2) + 1) (by rw [Nat.add_mul]; omega)
  have s2 := hown1.cellAt (n * (1 + 2) + 2) (by rw [Nat.add_mul]; omega)
  rw [List.getElem?_append_right (by rw [hsl]; omega), hsl, Nat.add_sub_cancel_left] at s0 s1 s2
  have u0 := hown1.frozenAt (n * 3)
  have u1 := hown1.frozenAt (n * 3 + 1)
  have u2 := hown1.frozenAt (n * 3 + 2)
  simp at b2 b4 x0 x1 s0 s1 s2
  rw [← HC.out] at b4
  have q5 : (n : Int) < (n : Int) + 1 := by omega
  have HOWN := Lib.hid hown1
  have HNG := Lib.hid ng
  have HNX := Lib.hid nX
  have HG := Lib.hid hgrow
  clear hown1 ng nX hgrow hsl a2 hrow hat hcurA
  go_wp2
  have ho := HOWN.out
  have hnn := HN.out
  rw [hnn] at ho
  have hP := (HR.out.alloc (.cells #[.int .u32 0, .bool false, (.string ByteArray.empty)] 113)).pushA (by decide) HG.out (s := (0, false, [(.string ByteArray.empty)])) rfl ho
  rw [← hnn] at hP
  have hR0 := hP.slot ⟨by decide, by decide⟩ (by simp [hnn]) (k := n) (s := (0, false, [(.string ByteArray.empty)])) (1, false, [(.string ByteArray.empty)]) (by simp [hnn]) 0 (.int .u32 1) (by omega) rfl
  have hR1 := hR0.slot ⟨by decide, by decide⟩ (by simp [hnn]) (k := n) (s := (1, false, [(.string ByteArray.empty)])) (1, true, [(.string ByteArray.empty)]) (by simp [hnn]) 1 (.bool true) (by omega) rfl
  have hR2 := hR1.slot ⟨by decide, by decide⟩ (by simp [hnn]) (k := n) (s := (1, true, [(.string ByteArray.empty)])) (1, true, [(.string x)]) (by simp [hnn]) 2 (.string x) (by omega) rfl
  have hR3 := hR2.count ⟨by decide, by decide⟩ ((C : Int) + 1)
  have hX3 := set_other (set_other (set_other (set_other (set_other HNX.out (a := ⟨ab, 2, none⟩) n3' (.slice (some ⟨gg, 0, none⟩) (n + 1) cap1)) (a := ⟨gg, n * 3 + 0, none⟩) n2' (.int .u32 1)) (a := ⟨gg, n * 3 + 1, none⟩) n2' (.bool true)) (a := ⟨gg, n * 3 + 2, none⟩) n2' (.string x)) (a := ⟨ab, 4, none⟩) n3' (.int .i64 ((C : Int) + 1))
  have hR4 := ((hR3.setNew hX3 (by decide) (Nat.le_refl _) 0 (.int .u32 ((n : Int) + 1))).setNew (set_blk hX3 0 _) (by decide) (Nat.le_refl _) 1 (.int .u32 1))
  have hX4 := set_blk (set_blk hX3 0 (.int .u32 ((n : Int) + 1))) 1 (.int .u32 1)
  have hfin := hR4.at { A with all := A.all ++ [(1, true, [(.string x)])], count := A.count + 1 } rfl rfl (by simp [hnn]) rfl (by have := HC.out; show (C : Int) + 1 = ((A.count + 1 : Nat) : Int); omega) rfl (H.out.ok.pushed rfl hl)
  clear hR0 hR1 hR2 hR3 hR4 hX3 b2 b4 e2 e4 s0 s1 s2 u0 u1 u2 x0 x1 v0 v1 hP ho
  rw [Nat.add_zero] at hfin hX4
  generalize ((((((w1.setCell ⟨ab, 2, none⟩ (.slice (some ⟨gg, 0, none⟩) (n + 1) cap1)).setCell ⟨gg, n * 3, none⟩ (.int .u32 1)).setCell ⟨gg, n * 3 + 1, none⟩ (.bool true)).setCell ⟨gg, n * 3 + 2, none⟩ (.string x)).setCell ⟨ab, 4, none⟩ (.int .i64 ((C : Int) + 1))).setCell ⟨w.heap.size, 0, none⟩ (.int .u32 ((n : Int) + 1))).setCell ⟨w.heap.size, 1, none⟩ (.int .u32 1) = Z at hfin hX4 ⊢
  have z0 := cell_blk hX4 0 rfl
  have z1 := cell_blk hX4 1 rfl
  simp at z0 z1
  refine bodyPost_ret (v := .tuple #[.agg #[.int .u32 ((n : Int) + 1), .int .u32 1], .int .i64 0]) (by simp [results, Try.results15, go_sem, z0, z1]) rfl ⟨.slice (some ⟨gg, 0, none⟩) (n + 1) cap1, by rw [hnn], hfin⟩

end Go.Proofs.Ytlmbpbijhhnhpaa
