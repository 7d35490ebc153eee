/- Part 8 of the proof of RoP: lemmas. -/
import Derived.StillTailTactics
import Derived.Test.YtelhnaphkbpakaaDoorMr7
namespace Go.Proofs.YtelhnaphkbpakaaDoor
open Go.RowKit
set_option linter.unusedVariables false
set_option maxRecDepth 100000
theorem rawSlot {Q : Nat → Prop} {tA tS tF m B : Nat} {w0 w : World} {ab gb cap n : Nat} {fv : Value} {S G c r : Int} {all : List (Nat × Bool × List Value)} {free : List Nat} (h : ArRaw Q tA tS tF m B w0 w ab S G all free c r (.slice (some ⟨gb, 0, none⟩) n cap) fv) (hn : n = all.length) {k : Nat} {s : Nat × Bool × List Value} (hk : all[k]? = some s) (i : Nat) (hi : i < m + 2) :
    w.cell? ⟨gb, k * (m + 2) + i, none⟩ = (Value.int .u32 (s.1 : Int) :: .bool s.2.1 :: s.2.2)[i]? := by
  subst hn
  have hl : k < all.length := (List.getElem?_eq_some_iff.1 hk).1
  exact (h.rowA.cellAt (k * (m + 2) + i) (by have := Nat.mul_le_mul_right (m + 2) (show k + 1 ≤ all.length from hl); simp only [Nat.add_mul] at this; omega)).trans (scells_at h.thing hk i hi)
theorem slotN_info : (Tryd.prog.info? 150).map (fun i => (i.zero, i.size, i.bytes)) = some (some (.agg #[.int .u32 0, .bool false, (.pointer none)]), 1 + 2, 16) := by kernel_rfl
theorem arN_alloc_full {B : Nat} {w : World} {ab : Nat} {A : Ar} {av fv : Value} (h : ArAt 145 150 29 1 B w ab A av fv) (x : Option Addr) (hf : A.free = []) (hl : A.S ≤ A.all.length) :
    Calls Tryd.prog 68 #[.pointer (some ⟨ab, 0, none⟩), (.pointer x)] w fun e w' => e = .returned (.tuple #[.agg #[.int .u32 0, .int .u32 0], .int .i64 52]) ∧ Below w.heap.size w w' := by
  have hS := h.ok.S2
  have hlen := h.ok.len
  have hab := lt_of_some h.blk
  have a0 := cell_blk h.blk 0 rfl
  have a2 := cell_blk h.blk 2 rfl
  have a3 := cell_blk h.blk 3 rfl
  obtain ⟨n, cap, av', rfl, hn⟩ : ∃ n cap av', av = .slice av' n cap ∧ n = A.all.length := by
    rcases h.rowA.2 with ⟨rfl, hn⟩ | ⟨gb, cap, cur, rfl, _⟩
    · exact ⟨0, 0, none, rfl, hn.symm⟩
    · exact ⟨_, cap, _, rfl, rfl⟩
  obtain ⟨cap2, fv', rfl⟩ : ∃ cap2 fv', fv = .slice fv' 0 cap2 := by
    rcases h.rowF.2 with ⟨rfl, hn⟩ | ⟨gb, cap, cur, rfl, _⟩
    · exact ⟨0, none, rfl⟩
    · rw [hf]; exact ⟨cap, _, rfl⟩
  have q1 : decide (n < A.S) = false := by simp; omega
  have hn2 : n ≤ 2147483647 := by omega
  simp at a0 a2 a3
  clear h hn
  go_enter Tryd.func68, Tryd.ntmps68
  go_wp2
  go_quiet (fail)
  go_wp2
  exact bodyPost_ret (v := .tuple #[.agg #[.int .u32 0, .int .u32 0], .int .i64 52]) (by simp [results, Tryd.results68, go_sem]) rfl ⟨rfl, (by repeat (first | exact Below.refl _ _ | assumption | refine Below.drew ?_ | refine below_drewN ?_ _ | refine Below.alloc ?_ (by simp <;> omega) _ | refine Below.setCell ?_ (by simp <;> omega) _ | (apply bl_trans; assumption; (simp <;> omega))))⟩
theorem arN_alloc_reuse {B : Nat} {w : World} {ab gb cap : Nat} {A : Ar} {fv : Value} (h : ArAt 145 150 29 1 B w ab A (.slice (some ⟨gb, 0, none⟩) A.all.length cap) fv) (x : Option Addr) {l : List Nat} {k g : Nat} {t : Value} (hf : A.free = l ++ [k]) (hk : A.all[k]? = some (g, false, [t])) (hg : g < A.G) :
    Calls Tryd.prog 68 #[.pointer (some ⟨ab, 0, none⟩), (.pointer x)] w fun e w' => ∃ fv', e = .returned (.tuple #[.agg #[.int .u32 ((k : Int) + 1), .int .u32 ((g : Int) + 1)], .int .i64 0]) ∧
      ArAt 145 150 29 1 B w' ab { A with all := A.all.set k (g + 1, true, [(.pointer x)]), free := l, count := A.count + 1 } (.slice (some ⟨gb, 0, none⟩) A.all.length cap) fv' ∧ ArFr 145 150 29 (arQ ab (.slice (some ⟨gb, 0, none⟩) A.all.length cap) fv) w w' (.slice (some ⟨gb, 0, none⟩) A.all.length cap) fv' := by
  have hS := h.ok.S2
  have hG := h.ok.G2
  have hlen := h.ok.len
  have hab := lt_of_some h.blk
  have hkl : k < A.all.length := (List.getElem?_eq_some_iff.1 hk).1
  have hcl := h.ok.left
  have a0 := cell_blk h.blk 0 rfl
  have a2 := cell_blk h.blk 2 rfl
  have a3 := cell_blk h.blk 3 rfl
  have a4 := cell_blk h.blk 4 rfl
  have e3 := free_blk h.blk 3
  have e4 := free_blk h.blk 4
  have s0 := slotAt h rfl hk 0 (by omega)
  have s1 := slotAt h rfl hk 1 (by omega)
  have s2 := slotAt h rfl hk 2 (by omega)
  have hfl : A.free.length = l.length + 1 := by rw [hf]; simp
  obtain ⟨fb, fcap, rfl⟩ : ∃ fb fcap, fv = .slice (some ⟨fb, 0, none⟩) (l.length + 1) fcap := by
    rcases h.rowF.2 with ⟨rfl, hn⟩ | ⟨gb, cap, cur, rfl, _⟩
    · omega
    · exact ⟨gb, cap, by rw [hfl]⟩
  have hF := h.rowF
  rw [hfl] at hF
  have f0 := (hF.cellAt l.length (by omega)).trans (show (fcells A.free)[l.length]? = some (.int .u32 (k : Int)) by rw [hf]; simp [fcells])
  obtain ⟨cur, hcur, _⟩ := ownsRow_blk h.rowA
  obtain ⟨curF, hcurF, _⟩ := ownsRow_blk hF
  have n1 : gb ≠ ab := Ne.symm (ne_blk h.blk hcur (by decide))
  have n2 : fb ≠ ab := Ne.symm (ne_blk h.blk hcurF (by decide))
  have n3 : fb ≠ gb := ne_blk hcurF hcur (by decide)
  have n1' : ab ≠ gb := Ne.symm n1
  have n2' : ab ≠ fb := Ne.symm n2
  have hgb := lt_of_some hcur
  have hfb := lt_of_some hcurF
  have u0 := h.rowA.frozenAt (k * 3)
  have u1 := h.rowA.frozenAt (k * 3 + 1)
  have u2 := h.rowA.frozenAt (k * 3 + 2)
  simp at a0 a2 a3 a4 s0 s1 s2
  have hll : l.length ≤ 2147483647 := by have := h.ok.sum; omega
  have q2 : IntKind.i64.wrap ((l.length : Int)) = l.length := IntWalk.i64_in _ (by omega)
  have q3 : (l.length : Int) < (l.length : Int) + 1 := by omega
  have q4 : ((k : Int)) < (A.all.length : Int) := by omega
  obtain ⟨C, hCe⟩ : ∃ C, C = A.count := ⟨_, rfl⟩
  rw [← hCe] at a4 hcl
  have HC := Lib.hid hCe
  have H := Lib.hid h
  have HK := Lib.hid hk
  have HF := Lib.hid hf
  clear h hk hf hCe hfl hF hcur hcurF
  go_enter Tryd.func68, Tryd.ntmps68
  go_wp2
  go_quiet (fail)
  go_wp2
  have hR := (H.out.raw.alloc (.cells #[.int .u32 0, .int .u32 0] 31)).drewN nq
  have hX : ((w.alloc (.cells #[.int .u32 0, .int .u32 0] 31)).drewN nq).heap[w.heap.size]? = some (.cells #[.int .u32 0, .int .u32 0] 31 (0, 0)) := Go.heap_alloc_new w _
  have hsz : w.heap.size < ((w.alloc (.cells #[.int .u32 0, .int .u32 0] 31)).drewN nq).heap.size := by simp
  generalize ((w.alloc (.cells #[.int .u32 0, .int .u32 0] 31)).drewN nq) = W at hR hX hsz ⊢
  clear a0 a2 a3 a4 e3 e4 s0 s1 s2 u0 u1 u2 f0
  have a2 := cell_blk hR.blk 2 rfl
  have a3 := cell_blk hR.blk 3 rfl
  have a4 := cell_blk hR.blk 4 rfl
  have e3 := free_blk hR.blk 3
  have e4 := free_blk hR.blk 4
  have s0 := rawSlot hR rfl HK.out 0 (by omega)
  have s1 := rawSlot hR rfl HK.out 1 (by omega)
  have s2 := rawSlot hR rfl HK.out 2 (by omega)
  have u0 := hR.rowA.frozenAt (k * 3)
  have u1 := hR.rowA.frozenAt (k * 3 + 1)
  have u2 := hR.rowA.frozenAt (k * 3 + 2)
  have x0 := cell_blk hX 0 rfl
  have x1 := cell_blk hX 1 rfl
  have v0 := free_blk hX 0
  have v1 := free_blk hX 1
  have m1 : gb ≠ w.heap.size := by omega
  have m2 : ab ≠ w.heap.size := by omega
  have m1' : w.heap.size ≠ gb := by omega
  have m2' : w.heap.size ≠ ab := by omega
  simp at a2 a3 a4 s0 s1 s2 x0 x1
  rw [← HC.out] at a4
  have q5 : (l.length : Int) ≤ (fcap : Int) := by
    rcases hR.rowF.2 with ⟨h', _⟩ | ⟨_, _, _, h', _, _, h2, _⟩
    · simp at h'
    · simp at h'; have := HF.out; rw [this] at h2; simp at h2; omega
  have HR := Lib.hid hR
  have HX := Lib.hid hX
  clear hR hX
  go_still_tail 12, (by kernel_rfl)
  change wpList _ _ _ _ _ W.drew
  go_wp2
  have hpop : W.ownsRow B 29 1 (.slice (some ⟨fb, 0, none⟩) l.length fcap) l.length (fcells l) := by
    have h0 := HR.out.rowF
    rw [HF.out] at h0
    exact ownsRow_pop (last := [.int .u32 (k : Int)]) (by simp [fcells]) (by simpa [fcells] using h0)
  have hk0 := HK.out
  have hR0 := ((HR.out.frees ⟨by decide, by decide⟩ (free' := l) hpop (fun k' hk' => HR.out.qF k' hk')).slot ⟨by decide, by decide⟩ rfl (g + 1, false, [t]) hk0 0 (.int .u32 ((g : Int) + 1)) (by omega) (by simp))
  have hR1 := hR0.slot ⟨by decide, by decide⟩ (by simp) (k := k) (s := (g + 1, false, [t])) (g + 1, true, [t]) (by simp [hkl]) 1 (.bool true) (by omega) rfl
  have hR2 := hR1.slot ⟨by decide, by decide⟩ (by simp) (k := k) (s := (g + 1, true, [t])) (g + 1, true, [(.pointer x)]) (by simp [hkl]) 2 (.pointer x) (by omega) rfl
  have hR3 := hR2.count ⟨by decide, by decide⟩ ((C : Int) + 1)
  have hX3 := set_other (set_other (set_other (set_other (set_other HX.out (a := ⟨ab, 3, none⟩) m2' (.slice (some ⟨fb, 0, none⟩) l.length fcap)) (a := ⟨gb, k * 3 + 0, none⟩) m1' (.int .u32 ((g : Int) + 1))) (a := ⟨gb, k * 3 + 1, none⟩) m1' (.bool true)) (a := ⟨gb, k * 3 + 2, none⟩) m1' (.pointer x)) (a := ⟨ab, 4, none⟩) m2' (.int .i64 ((C : Int) + 1))
  have hR4 := ((hR3.setNew hX3 (by decide) (Nat.le_refl _) 0 (.int .u32 ((k : Int) + 1))).setNew (set_blk hX3 0 _) (by decide) (Nat.le_refl _) 1 (.int .u32 ((g : Int) + 1))).drew
  have hX4 := set_blk (set_blk hX3 0 (.int .u32 ((k : Int) + 1))) 1 (.int .u32 ((g : Int) + 1))
  have hfin := hR4.at { A with all := A.all.set k (g + 1, true, [(.pointer x)]), free := l, count := A.count + 1 } rfl rfl (by simp) rfl (by have := HC.out; show (C : Int) + 1 = ((A.count + 1 : Nat) : Int); omega) rfl (H.out.ok.popped rfl HF.out hk0 hg)
  clear hR0 hR1 hR2 hR3 hR4 hX3 a2 a3 a4 e3 e4 s0 s1 s2 u0 u1 u2 x0 x1 v0 v1
  rw [Nat.add_zero] at hfin hX4
  generalize ((((((W.setCell ⟨ab, 3, none⟩ (.slice (some ⟨fb, 0, none⟩) l.length fcap)).setCell ⟨gb, k * 3, none⟩ (.int .u32 ((g : Int) + 1))).setCell ⟨gb, k * 3 + 1, none⟩ (.bool true)).setCell ⟨gb, k * 3 + 2, none⟩ (.pointer x)).setCell ⟨ab, 4, none⟩ (.int .i64 ((C : Int) + 1))).setCell ⟨w.heap.size, 0, none⟩ (.int .u32 ((k : Int) + 1))).setCell ⟨w.heap.size, 1, none⟩ (.int .u32 ((g : Int) + 1)) = Z at hfin hX4 ⊢
  have z0 := cell_blk hX4 0 rfl
  have z1 := cell_blk hX4 1 rfl
  simp at z0 z1
  refine bodyPost_ret (v := .tuple #[.agg #[.int .u32 ((k : Int) + 1), .int .u32 ((g : Int) + 1)], .int .i64 0]) (by simp [results, Tryd.results68, go_sem, z0, z1]) rfl ⟨.slice (some ⟨fb, 0, none⟩) l.length fcap, rfl, hfin⟩
theorem arN_alloc_grow {B : Nat} {w : World} {ab : Nat} {A : Ar} {av fv : Value} (h : ArAt 145 150 29 1 B w ab A av fv) (x : Option Addr) (hf : A.free = []) (hl : A.all.length < A.S) :
    Calls Tryd.prog 68 #[.pointer (some ⟨ab, 0, none⟩), (.pointer x)] w fun e w' => ∃ av', e = .returned (.tuple #[.agg #[.int .u32 ((A.all.length : Int) + 1), .int .u32 1], .int .i64 0]) ∧
      ArAt 145 150 29 1 B w' ab { A with all := A.all ++ [(1, true, [(.pointer x)])], count := A.count + 1 } av' fv ∧ ArFr 145 150 29 (arQ ab av fv) w w' av' fv := by
  have hS := h.ok.S2
  have hG := h.ok.G2
  have hab := lt_of_some h.blk
  have hcl := h.ok.left
  have a0 := cell_blk h.blk 0 rfl
  have a2 := cell_blk h.blk 2 rfl
  have a3 := cell_blk h.blk 3 rfl
  obtain ⟨n, cap, av', hav, hn⟩ : ∃ n cap av', av = .slice av' n cap ∧ n = A.all.length := by
    rcases h.rowA.2 with ⟨rfl, hn⟩ | ⟨gb, cap, cur, rfl, _⟩
    · exact ⟨0, 0, none, rfl, hn.symm⟩
    · exact ⟨_, cap, _, rfl, rfl⟩
  obtain ⟨cap2, fv', rfl⟩ : ∃ cap2 fv', fv = .slice fv' 0 cap2 := by
    rcases h.rowF.2 with ⟨rfl, hn⟩ | ⟨gb, cap, cur, rfl, _⟩
    · exact ⟨0, none, rfl⟩
    · rw [hf]; exact ⟨cap, _, rfl⟩
  rw [hav] at a2
  simp at a0 a2 a3
  have q1 : decide (n < A.S) = true := by simp; omega
  have q2 : IntKind.u32.wrap (n : Int) = n := IntWalk.u32_in _ (by omega)
  have hn2 : n ≤ 2147483646 := by omega
  obtain ⟨C, hCe⟩ : ∃ C, C = A.count := ⟨_, rfl⟩
  rw [← hCe] at hcl
  have HN := Lib.hid hn
  have HC := Lib.hid hCe
  have H := Lib.hid h
  have HF := Lib.hid hf
  have HAV := Lib.hid hav
  clear h hf hCe hn hav
  go_enter Tryd.func68, Tryd.ntmps68
  go_wp2
  go_quiet (fail)
  have hR := (H.out.raw.alloc (.cells #[.int .u32 0, .int .u32 0] 31)).drewN nq
  have hX : ((w.alloc (.cells #[.int .u32 0, .int .u32 0] 31)).drewN nq).heap[w.heap.size]? = some (.cells #[.int .u32 0, .int .u32 0] 31 (0, 0)) := Go.heap_alloc_new w _
  have hsz : w.heap.size < ((w.alloc (.cells #[.int .u32 0, .int .u32 0] 31)).drewN nq).heap.size := by simp
  generalize ((w.alloc (.cells #[.int .u32 0, .int .u32 0] 31)).drewN nq) = W at hR hX hsz ⊢
  clear a0 a2 a3
  rw [HAV.out] at hR
  have a2 := cell_blk hR.blk 2 rfl
  simp at a2
  have hB : B ≤ W.heap.size := by have := hR.base; omega
  have habW := lt_of_some hR.blk
  have hrow := hR.rowA
  rw [← HN.out] at hrow
  obtain ⟨i0, hi0, hz0, hz1, hz2⟩ := info_parts slotN_info
  have HR := Lib.hid hR
  have HX := Lib.hid hX
  clear hR hX
  go_wp2_with (at_builtin; refine wpList_append_lies _ rfl _ _ 143 rfl B 150 i0 _ (1 + 2) 16 Tryd.underlying143 hi0 hz0 hz1 hz2 rfl (by omega) (.slice av' n cap) n _ rfl (hrow.alloc _) ⟨W.heap.size, 0, none⟩ 1 1 [.int .u32 0, .bool false, (.pointer none)] rfl rfl (World.news_of_block (cs := #[.int .u32 0, .bool false, (.pointer none)]) (t := 150) (fr := (0, 0)) (Go.heap_alloc_new W _)) (by simp [Value.oneCell']) (by omega) (by unfold maxLen; omega) (by omega) (by simp; omega) (W.heap.size + 1) (by simp) ?_)
  intro gg cap1 w1 hown1 hgrow hat hlt
  have ng := (HR.out.alloc (.cells #[.int .u32 0, .bool false, (.pointer none)] 150)).growA (by decide) hgrow
  have b2 := cell_blk ng.1 2 rfl
  have b4 := cell_blk ng.1 4 rfl
  have e2 := free_blk ng.1 2
  have e4 := free_blk ng.1 4
  have nX := (hgrow.block w.heap.size (by simp; omega) (row_ne (hrow.alloc (.cells #[.int .u32 0, .bool false, (.pointer none)] 150)) (alloc_blk HX.out _) (by decide))).trans (alloc_blk HX.out _)
  have x0 := cell_blk nX 0 rfl
  have x1 := cell_blk nX 1 rfl
  have v0 := free_blk nX 0
  have v1 := free_blk nX 1
  obtain ⟨curA, hcurA, _⟩ := ownsRow_blk hown1
  have n1 : gg ≠ ab := ne_blk hcurA ng.1 (by decide)
  have n2 : gg ≠ w.heap.size := ne_blk hcurA nX (by decide)
  have n3 : ab ≠ w.heap.size := by omega
  have n1' := Ne.symm n1
  have n2' := Ne.symm n2
  have n3' := Ne.symm n3
  have hsl := scells_length (m := 1) HR.out.thing
  rw [← HN.out] at hsl
  have s0 := hown1.cellAt (n * (1 + 2) + 0) (by rw [Nat.add_mul]; omega)
  have s1 := hown1.cellAt (n * (1 + 2) + 1) (by rw [Nat.add_mul]; omega)
  have s2 := hown1.cellAt (n * (1 + 2) + 2) (by rw [Nat.add_mul]; omega)
  rw [List.getElem?_append_right (by rw [hsl]; omega), hsl, Nat.add_sub_cancel_left] at s0 s1 s2
  have u0 := hown1.frozenAt (n * 3)
  have u1 := hown1.frozenAt (n * 3 + 1)
  have u2 := hown1.frozenAt (n * 3 + 2)
  simp at b2 b4 x0 x1 s0 s1 s2
  rw [← HC.out] at b4
  have q5 : (n : Int) < (n : Int) + 1 := by omega
  have HOWN := Lib.hid hown1
  have HNG := Lib.hid ng
  have HNX := Lib.hid nX
  have HG := Lib.hid hgrow
  have HAT := Lib.hid hat
  clear hown1 ng nX hgrow hsl a2 hrow hat hcurA
  go_wp2
  have ho := HOWN.out
  have hnn := HN.out
  rw [hnn] at ho
  have hP := (HR.out.alloc (.cells #[.int .u32 0, .bool false, (.pointer none)] 150)).pushA (by decide) HG.out (s := (0, false, [(.pointer none)])) rfl ho (HAT.out.imp id (fun e => by have := HR.out.fr.size; omega))
  rw [← hnn] at hP
  have hR0 := hP.slot ⟨by decide, by decide⟩ (by simp [hnn]) (k := n) (s := (0, false, [(.pointer none)])) (1, false, [(.pointer none)]) (by simp [hnn]) 0 (.int .u32 1) (by omega) rfl
  have hR1 := hR0.slot ⟨by decide, by decide⟩ (by simp [hnn]) (k := n) (s := (1, false, [(.pointer none)])) (1, true, [(.pointer none)]) (by simp [hnn]) 1 (.bool true) (by omega) rfl
  have hR2 := hR1.slot ⟨by decide, by decide⟩ (by simp [hnn]) (k := n) (s := (1, true, [(.pointer none)])) (1, true, [(.pointer x)]) (by simp [hnn]) 2 (.pointer x) (by omega) rfl
  have hR3 := hR2.count ⟨by decide, by decide⟩ ((C : Int) + 1)
  have hX3 := set_other (set_other (set_other (set_other (set_other HNX.out (a := ⟨ab, 2, none⟩) n3' (.slice (some ⟨gg, 0, none⟩) (n + 1) cap1)) (a := ⟨gg, n * 3 + 0, none⟩) n2' (.int .u32 1)) (a := ⟨gg, n * 3 + 1, none⟩) n2' (.bool true)) (a := ⟨gg, n * 3 + 2, none⟩) n2' (.pointer x)) (a := ⟨ab, 4, none⟩) n3' (.int .i64 ((C : Int) + 1))
  have hR4 := ((hR3.setNew hX3 (by decide) (Nat.le_refl _) 0 (.int .u32 ((n : Int) + 1))).setNew (set_blk hX3 0 _) (by decide) (Nat.le_refl _) 1 (.int .u32 1))
  have hX4 := set_blk (set_blk hX3 0 (.int .u32 ((n : Int) + 1))) 1 (.int .u32 1)
  have hfin := hR4.at { A with all := A.all ++ [(1, true, [(.pointer x)])], count := A.count + 1 } rfl rfl (by simp [hnn]) rfl (by have := HC.out; show (C : Int) + 1 = ((A.count + 1 : Nat) : Int); omega) rfl (H.out.ok.pushed rfl hl)
  clear hR0 hR1 hR2 hR3 hR4 hX3 b2 b4 e2 e4 s0 s1 s2 u0 u1 u2 x0 x1 v0 v1 hP ho
  rw [Nat.add_zero] at hfin hX4
  generalize ((((((w1.setCell ⟨ab, 2, none⟩ (.slice (some ⟨gg, 0, none⟩) (n + 1) cap1)).setCell ⟨gg, n * 3, none⟩ (.int .u32 1)).setCell ⟨gg, n * 3 + 1, none⟩ (.bool true)).setCell ⟨gg, n * 3 + 2, none⟩ (.pointer x)).setCell ⟨ab, 4, none⟩ (.int .i64 ((C : Int) + 1))).setCell ⟨w.heap.size, 0, none⟩ (.int .u32 ((n : Int) + 1))).setCell ⟨w.heap.size, 1, none⟩ (.int .u32 1) = Z at hfin hX4 ⊢
  have z0 := cell_blk hX4 0 rfl
  have z1 := cell_blk hX4 1 rfl
  simp at z0 z1
  rw [HAV.out]
  refine bodyPost_ret (v := .tuple #[.agg #[.int .u32 ((n : Int) + 1), .int .u32 1], .int .i64 0]) (by simp [results, Tryd.results68, go_sem, z0, z1]) rfl ⟨.slice (some ⟨gg, 0, none⟩) (n + 1) cap1, by rw [hnn], hfin⟩
end Go.Proofs.YtelhnaphkbpakaaDoor
