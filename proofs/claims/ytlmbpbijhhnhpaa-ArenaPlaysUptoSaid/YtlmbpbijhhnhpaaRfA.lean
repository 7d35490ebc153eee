/- The document's arena: Alloc: what it does to the data and to memory. -/
import Derived.Test.YtlmbpbijhhnhpaaRfM
import Derived.Deep.DeepCutAuto
import Derived.Deep.CutBlock
namespace Go.Proofs.Ytlmbpbijhhnhpaa
open Go.RowKit
set_option linter.unusedVariables false
set_option maxRecDepth 100000

theorem TA.pop_ok {T : TA Int} (ok : (T.ar encI).Ok 1) {l : List Nat} {k g : Nat} {y : Int} (x : Int) (hf : T.free = l ++ [k]) (h : T.all[k]? = some (g, false, y)) (hg : g < T.G) : (TA.ar encI { T with all := T.all.set k (g + 1, true, x), free := l, count := T.count + 1 }).Ok 1 := by
  have e := TA.ar_set encI T k (g + 1) true x l (T.count + 1) T.ret
  rw [e]
  exact ok.popped (x := encI x) rfl hf (TA.ar_get h) hg
theorem TA.push_ok {T : TA Int} (ok : (T.ar encI).Ok 1) (x : Int) (h : T.all.length < T.S) : (TA.ar encI { T with all := T.all ++ [(1, true, x)], count := T.count + 1 }).Ok 1 := by
  have e : TA.ar encI { T with all := T.all ++ [(1, true, x)], count := T.count + 1 } = { TA.ar encI T with all := (TA.ar encI T).all ++ [(1, true, encI x)], count := T.count + 1 } := by simp [TA.ar]
  rw [e]
  exact ok.pushed (x := encI x) rfl (by simpa [TA.ar] using h)

theorem rf_alloc_full {B : Nat} {w : World} {rb : Nat} {T : TA Int} {av fv : Value} (h : RefAt B w rb T av fv) (x : Int) (hf : T.free = []) (hl : T.S ≤ T.all.length) :
    Calls Try.prog 59 #[.pointer (some ⟨rb, 0, none⟩), .int .i64 x] w fun e w' => e = .returned (.tuple #[.agg #[.int .u32 0, .int .u32 0], .bool false]) ∧ Below w.heap.size w w' := by
  have hrb := lt_of_some h.blk
  have a0 := cell_blk h.blk 0 rfl
  have a2 := cell_blk h.blk 2 rfl
  have a3 := cell_blk h.blk 3 rfl
  obtain ⟨hl1, _, _, hl4, _⟩ := h.len
  obtain ⟨sa, cap, rfl⟩ := h.slots
  obtain ⟨fa, fcap, rfl⟩ := h.frees
  rw [hf] at a3
  obtain ⟨n, hn⟩ : ∃ n, n = T.all.length := ⟨_, rfl⟩
  rw [← hn] at hl a2 hl1
  have q1 : ¬ ((n : Int) < (T.S : Int)) := by omega
  simp at a0 a2 a3
  clear h hn
  go_enter Try.func59, Try.ntmps59
  go_wp2
  exact bodyPost_ret (v := .tuple #[.agg #[.int .u32 0, .int .u32 0], .bool false]) (by simp [results, Try.results59, go_sem]) rfl ⟨rfl, (by repeat (first | exact Below.refl _ _ | assumption | refine Below.drew ?_ | refine below_drewN ?_ _ | refine Below.alloc ?_ (by simp <;> omega) _ | refine Below.setCell ?_ (by simp <;> omega) _ | (apply bl_trans; assumption; (simp <;> omega))))⟩

set_option maxHeartbeats 2000000 in
theorem rf_alloc_reuse {B : Nat} {w : World} {rb : Nat} {T : TA Int} {av fv : Value} (h : RefAt B w rb T av fv) (x : Int) {l : List Nat} {k g : Nat} {y : Int} (hf : T.free = l ++ [k]) (hk : T.all[k]? = some (g, false, y)) (hg : g < T.G) :
    Calls Try.prog 59 #[.pointer (some ⟨rb, 0, none⟩), .int .i64 x] w fun e w' => e = .returned (.tuple #[.agg #[.int .u32 ((k : Int) + 1), .int .u32 ((g : Int) + 1)], .bool true]) ∧
      (∃ av' fv', RefAt B w' rb { T with all := T.all.set k (g + 1, true, x), free := l, count := T.count + 1 } av' fv') ∧ FrT [126, 151, 3] B w w' := by
  have hrb := lt_of_some h.blk
  have hG2 := h.ok.G2
  simp [TA.ar] at hG2
  obtain ⟨gb, cap, rfl, hgb, c0, c1, c2⟩ := h.slot hk
  obtain ⟨hl1, hl2, _, hl4, _⟩ := h.len
  have hkl : k < T.all.length := (List.getElem?_eq_some_iff.1 hk).1
  have hfl : T.free.length = l.length + 1 := by rw [hf]; simp
  obtain ⟨fb, fcap, rfl, _⟩ := h.rowF.form (by omega)
  rw [hfl] at hl2
  have hF := h.rowF
  rw [hfl] at hF
  have f0 := (hF.cellAt l.length (by omega)).trans (show (rfree T.free)[l.length]? = some (.int .i64 (k : Int)) by rw [hf]; simp [rfree])
  obtain ⟨cur, hcur, _⟩ := ownsRow_blk h.rowA
  obtain ⟨curF, hcurF, _⟩ := ownsRow_blk hF
  have n1 : gb ≠ rb := Ne.symm (ne_blk h.blk hcur (by decide))
  have n2 : fb ≠ rb := Ne.symm (ne_blk h.blk hcurF (by decide))
  have hfb := lt_of_some hcurF
  have n1' := Ne.symm n1
  have n2' := Ne.symm n2
  have a2 := cell_blk h.blk 2 rfl
  have a3 := cell_blk h.blk 3 rfl
  simp at a2 a3
  rw [hfl] at a3
  obtain ⟨n, hn⟩ : ∃ n, n = T.all.length := ⟨_, rfl⟩
  obtain ⟨m, hm⟩ : ∃ m, m = l.length := ⟨_, rfl⟩
  rw [← hn] at hl1 a2 hkl hl2
  rw [← hm] at f0 a3 hl2
  have q2 : IntKind.i64.wrap ((m : Int)) = m := IntWalk.i64_in _ (by omega)
  have q3 : (m : Int) < (m : Int) + 1 := by omega
  have q4 : (m : Int) + 1 - 1 = m := by omega
  have p1 : (k : Int) < (n : Int) := by omega
  have hcapF : m + 1 ≤ fcap := by
    rcases hF.2 with ⟨h', _⟩ | ⟨_, _, _, h', _, _, h2, _⟩
    · simp at h'
    · simp at h'; have hr : (rfree T.free).length = m + 1 := by rw [hf]; simp [rfree, hm]
      omega
  have H := Lib.hid h
  have HK := Lib.hid hk
  have HF := Lib.hid hf
  have HN := Lib.hid hn
  have HM := Lib.hid hm
  clear h hk hf hF hn hm hfl hcur hcurF c0 c1 c2
  go_enter Try.func59, Try.ntmps59
  go_wp2
  go_quiet (fail)
  go_wp2
  have hR := (H.out.raw.alloc (.cells #[.int .u32 0, .int .u32 0] 39)).drewN nq
  have hX : ((w.alloc (.cells #[.int .u32 0, .int .u32 0] 39)).drewN nq).heap[w.heap.size]? = some (.cells #[.int .u32 0, .int .u32 0] 39 (0, 0)) := Go.heap_alloc_new w _
  have hRA := H.out.below (w' := (w.alloc (.cells #[.int .u32 0, .int .u32 0] 39)).drewN nq) (by repeat (first | exact Below.refl _ _ | assumption | refine Below.drew ?_ | refine below_drewN ?_ _ | refine Below.alloc ?_ (by simp <;> omega) _ | refine Below.setCell ?_ (by simp <;> omega) _ | (apply bl_trans; assumption; (simp <;> omega))))
  have hsz : w.heap.size < ((w.alloc (.cells #[.int .u32 0, .int .u32 0] 39)).drewN nq).heap.size := by simp
  generalize ((w.alloc (.cells #[.int .u32 0, .int .u32 0] 39)).drewN nq) = W at hR hX hRA hsz ⊢
  clear a2 a3 f0
  have a2 := cell_blk hR.blk 2 rfl
  have a3 := cell_blk hR.blk 3 rfl
  have e3 := free_blk hR.blk 3
  obtain ⟨_, _, hav, hgbW, s0, s1, s2⟩ := hRA.slot HK.out
  simp at hav
  obtain ⟨rfl, rfl⟩ := hav
  have u0 := hR.rowA.frozenAt (k * 3)
  have u1 := hR.rowA.frozenAt (k * 3 + 1)
  have u2 := hR.rowA.frozenAt (k * 3 + 2)
  have x0 := cell_blk hX 0 rfl
  have x1 := cell_blk hX 1 rfl
  have v0 := free_blk hX 0
  have v1 := free_blk hX 1
  have m1 : gb ≠ w.heap.size := by omega
  have m2 : rb ≠ w.heap.size := by omega
  have m1' : w.heap.size ≠ gb := by omega
  have m2' : w.heap.size ≠ rb := by omega
  have hfl : T.free.length = m + 1 := by rw [HF.out]; simp [HM.out]
  simp at a2 a3 s0 s1 s2 x0 x1
  rw [hfl] at a3
  rw [← HN.out] at a2
  have q5 : (m : Int) ≤ (fcap : Int) := by omega
  have q6 : IntKind.i64.wrap ((g : Int) + 1) = (g : Int) + 1 := IntWalk.i64_in _ (by omega)
  have HR := Lib.hid hR
  have HX := Lib.hid hX
  clear hR hX hRA hfl
  go_still_tail 12, (by kernel_rfl)
  change wpList _ _ _ _ _ W.drew
  go_wp2
  have hpop : W.ownsRow B 3 1 (.slice (some ⟨fb, 0, none⟩) m fcap) l.length (rfree l) := by
    have h0 := HR.out.rowF
    rw [HF.out] at h0
    rw [HM.out]
    exact ownsRow_pop (last := [.int .i64 (k : Int)]) (by simp [rfree]) (by simpa [rfree] using h0)
  have hkl' : k < T.all.length := by rw [← HN.out]; exact hkl
  have hR0 := HR.out.fld 3 (.slice (some ⟨fb, 0, none⟩) m fcap) (free' := l) rfl HR.out.rowA (by rw [HM.out] at hpop ⊢; exact hpop)
  have hR1 := hR0.slot rfl (g + 1, false, y) HK.out 0 (.int .i64 ((g : Int) + 1)) (by omega) (by simp [rsl])
  have hR2 := hR1.slot (by simp) (k := k) (s := (g + 1, false, y)) (g + 1, true, y) (by simp [hkl']) 1 (.bool true) (by omega) (by simp [rsl])
  have hR3 := hR2.slot (by simp) (k := k) (s := (g + 1, true, y)) (g + 1, true, x) (by simp [hkl']) 2 (.int .i64 x) (by omega) (by simp [rsl])
  have hX3 := set_other (set_other (set_other (set_other HX.out (a := ⟨rb, 3, none⟩) m2' (.slice (some ⟨fb, 0, none⟩) m fcap)) (a := ⟨gb, k * 3 + 0, none⟩) m1' (.int .i64 ((g : Int) + 1))) (a := ⟨gb, k * 3 + 1, none⟩) m1' (.bool true)) (a := ⟨gb, k * 3 + 2, none⟩) m1' (.int .i64 x)
  have hR4 := ((hR3.setNew hX3 (by decide) (Nat.le_refl _) 0 (.int .u32 ((k : Int) + 1))).setNew (set_blk hX3 0 _) (by decide) (Nat.le_refl _) 1 (.int .u32 ((g : Int) + 1))).drew
  have hX4 := set_blk (set_blk hX3 0 (.int .u32 ((k : Int) + 1))) 1 (.int .u32 ((g : Int) + 1))
  obtain ⟨hA, hFr⟩ := hR4.at { T with all := T.all.set k (g + 1, true, x), free := l, count := T.count + 1 } rfl rfl (by simp) rfl (TA.pop_ok H.out.ok x HF.out HK.out hg)
  clear hR0 hR1 hR2 hR3 hR4 hX3 a2 a3 e3 s0 s1 s2 u0 u1 u2 x0 x1 v0 v1
  rw [Nat.add_zero] at hA hFr hX4
  generalize (((((W.setCell ⟨rb, 3, none⟩ (.slice (some ⟨fb, 0, none⟩) m fcap)).setCell ⟨gb, k * 3, none⟩ (.int .i64 ((g : Int) + 1))).setCell ⟨gb, k * 3 + 1, none⟩ (.bool true)).setCell ⟨gb, k * 3 + 2, none⟩ (.int .i64 x)).setCell ⟨w.heap.size, 0, none⟩ (.int .u32 ((k : Int) + 1))).setCell ⟨w.heap.size, 1, none⟩ (.int .u32 ((g : Int) + 1)) = Z at hA hFr hX4 ⊢
  have z0 := cell_blk hX4 0 rfl
  have z1 := cell_blk hX4 1 rfl
  simp at z0 z1
  refine bodyPost_ret (v := .tuple #[.agg #[.int .u32 ((k : Int) + 1), .int .u32 ((g : Int) + 1)], .bool true]) (by simp [results, Try.results59, go_sem, z0, z1]) rfl ⟨rfl, ⟨_, _, hA⟩, hFr⟩

set_option maxHeartbeats 2000000 in
theorem rf_alloc_grow {B : Nat} {w : World} {rb : Nat} {T : TA Int} {av fv : Value} (h : RefAt B w rb T av fv) (x : Int) (hf : T.free = []) (hl : T.all.length < T.S) :
    Calls Try.prog 59 #[.pointer (some ⟨rb, 0, none⟩), .int .i64 x] w fun e w' => e = .returned (.tuple #[.agg #[.int .u32 ((T.all.length : Int) + 1), .int .u32 1], .bool true]) ∧
      (∃ av' fv', RefAt B w' rb { T with all := T.all ++ [(1, true, x)], count := T.count + 1 } av' fv') ∧ FrT [126, 151, 3] B w w' := by
  have hrb := lt_of_some h.blk
  have a0 := cell_blk h.blk 0 rfl
  have a2 := cell_blk h.blk 2 rfl
  have a3 := cell_blk h.blk 3 rfl
  obtain ⟨hl1, _, _, hl4, _⟩ := h.len
  obtain ⟨sa, cap, rfl⟩ := h.slots
  obtain ⟨fa, fcap, rfl⟩ := h.frees
  rw [hf] at a3
  obtain ⟨n, hn⟩ : ∃ n, n = T.all.length := ⟨_, rfl⟩
  rw [← hn] at hl a2 hl1 ⊢
  have q1 : (n : Int) < (T.S : Int) := by omega
  simp at a0 a2 a3
  have H := Lib.hid h
  have HF := Lib.hid hf
  have HN := Lib.hid hn
  clear h hf hn
  go_enter Try.func59, Try.ntmps59
  go_upto_region 6 with (fail)
  have hR := H.out.raw.alloc (.cells #[.int .u32 0, .int .u32 0] 39)
  have hX : (w.alloc (.cells #[.int .u32 0, .int .u32 0] 39)).heap[w.heap.size]? = some (.cells #[.int .u32 0, .int .u32 0] 39 (0, 0)) := Go.heap_alloc_new w _
  have hsz : w.heap.size < (w.alloc (.cells #[.int .u32 0, .int .u32 0] 39)).heap.size := by simp
  generalize (w.alloc (.cells #[.int .u32 0, .int .u32 0] 39)) = W at hR hX hsz ⊢
  clear a0 a2 a3
  have a2 := cell_blk hR.blk 2 rfl
  simp at a2
  have hB : B ≤ W.heap.size := by have := hR.base; omega
  have hrbW := lt_of_some hR.blk
  have hrow := hR.rowA
  rw [← HN.out] at hrow a2
  obtain ⟨i0, hi0, hz0, hz1, hz2⟩ := info_parts rf_info151
  have HR := Lib.hid hR
  have HX := Lib.hid hX
  clear hR hX
  go_wp2_with (at_builtin; refine wpList_append_lies _ rfl (.tmp 54) (.tmp 56) 124 rfl B 151 i0 _ 3 24 Try.underlying124 hi0 hz0 hz1 hz2 rfl (by omega) (.slice sa n cap) n _ rfl (hrow.alloc _) ⟨W.heap.size, 0, none⟩ 1 1 [.int .i64 0, .bool false, .int .i64 0] rfl rfl (World.news_of_block (cs := #[.int .i64 0, .bool false, .int .i64 0]) (t := 151) (fr := (0, 0)) (Go.heap_alloc_new W _)) (by simp [Value.oneCell']) (by omega) (by unfold maxLen; omega) (by omega) (by simp; omega) (W.heap.size + 1) (by simp) ?_)
  intro gg cap1 w1 hown1 hgrow hat hlt
  rw [HN.out] at hown1
  have hP := (HR.out.alloc (.cells #[.int .i64 0, .bool false, .int .i64 0] 151)).pushA (s := (0, false, 0)) (by rw [← HN.out]; exact hgrow) hown1
  rw [← HN.out] at hP hown1
  have hblk := (hgrow.block rb (by simp; omega) (row_ne (hrow.alloc (.cells #[.int .i64 0, .bool false, .int .i64 0] 151)) (alloc_blk HR.out.blk _) (by decide))).trans (alloc_blk HR.out.blk _)
  have nX := (hgrow.block w.heap.size (by simp; omega) (row_ne (hrow.alloc (.cells #[.int .i64 0, .bool false, .int .i64 0] 151)) (alloc_blk HX.out _) (by decide))).trans (alloc_blk HX.out _)
  have b2 := cell_blk hblk 2 rfl
  have e2 := free_blk hblk 2
  have x0 := cell_blk nX 0 rfl
  have x1 := cell_blk nX 1 rfl
  have v0 := free_blk nX 0
  have v1 := free_blk nX 1
  obtain ⟨curA, hcurA, _⟩ := ownsRow_blk hown1
  have n1 : gg ≠ rb := ne_blk hcurA hblk (by decide)
  have n2 : gg ≠ w.heap.size := ne_blk hcurA nX (by decide)
  have n3 : rb ≠ w.heap.size := by omega
  have n1' := Ne.symm n1
  have n2' := Ne.symm n2
  have n3' := Ne.symm n3
  have hsl := fl_length rsl_length T.all
  rw [← HN.out] at hsl
  have s0 := hown1.cellAt (n * 3 + 0) (by rw [Nat.add_mul]; omega)
  have s1 := hown1.cellAt (n * 3 + 1) (by rw [Nat.add_mul]; omega)
  have s2 := hown1.cellAt (n * 3 + 2) (by rw [Nat.add_mul]; omega)
  rw [List.getElem?_append_right (by rw [hsl]; omega), hsl, Nat.add_sub_cancel_left] at s0 s1 s2
  have u0 := hown1.frozenAt (n * 3)
  have u1 := hown1.frozenAt (n * 3 + 1)
  have u2 := hown1.frozenAt (n * 3 + 2)
  simp at b2 x0 x1 s0 s1 s2
  have q5 : (n : Int) < (n : Int) + 1 := by omega
  have HP := Lib.hid hP
  have HNX := Lib.hid nX
  clear hown1 hP nX hgrow hsl a2 hrow hat hlt hcurA hblk
  go_wp2
  have hl0 : n < (T.all ++ [((0 : Nat), false, (0 : Int))]).length := by simp [HN.out]
  have hR0 := HP.out.slot (by simp [HN.out]) (k := n) (s := (0, false, 0)) (1, false, 0) (by simp [HN.out]) 0 (.int .i64 1) (by omega) (by simp [rsl])
  have hR1 := hR0.slot (by simp [HN.out]) (k := n) (s := (1, false, 0)) (1, true, 0) (by simp [HN.out]) 1 (.bool true) (by omega) (by simp [rsl])
  have hR2 := hR1.slot (by simp [HN.out]) (k := n) (s := (1, true, 0)) (1, true, x) (by simp [HN.out]) 2 (.int .i64 x) (by omega) (by simp [rsl])
  have hX3 := set_other (set_other (set_other (set_other HNX.out (a := ⟨rb, 2, none⟩) n3' (.slice (some ⟨gg, 0, none⟩) (n + 1) cap1)) (a := ⟨gg, n * 3 + 0, none⟩) n2' (.int .i64 1)) (a := ⟨gg, n * 3 + 1, none⟩) n2' (.bool true)) (a := ⟨gg, n * 3 + 2, none⟩) n2' (.int .i64 x)
  have hR4 := ((hR2.setNew hX3 (by decide) (Nat.le_refl _) 0 (.int .u32 ((n : Int) + 1))).setNew (set_blk hX3 0 _) (by decide) (Nat.le_refl _) 1 (.int .u32 1))
  have hX4 := set_blk (set_blk hX3 0 (.int .u32 ((n : Int) + 1))) 1 (.int .u32 1)
  obtain ⟨hA, hFr⟩ := hR4.at { T with all := T.all ++ [(1, true, x)], count := T.count + 1 } rfl rfl (by simp [HN.out]) rfl (TA.push_ok H.out.ok x (by rw [← HN.out]; exact hl))
  clear hR0 hR1 hR2 hR4 hX3 b2 e2 s0 s1 s2 u0 u1 u2 x0 x1 v0 v1
  rw [Nat.add_zero] at hA hFr hX4
  generalize (((((w1.setCell ⟨rb, 2, none⟩ (.slice (some ⟨gg, 0, none⟩) (n + 1) cap1)).setCell ⟨gg, n * 3, none⟩ (.int .i64 1)).setCell ⟨gg, n * 3 + 1, none⟩ (.bool true)).setCell ⟨gg, n * 3 + 2, none⟩ (.int .i64 x)).setCell ⟨w.heap.size, 0, none⟩ (.int .u32 ((n : Int) + 1))).setCell ⟨w.heap.size, 1, none⟩ (.int .u32 1) = Z at hA hFr hX4 ⊢
  have z0 := cell_blk hX4 0 rfl
  have z1 := cell_blk hX4 1 rfl
  simp at z0 z1
  refine bodyPost_ret (v := .tuple #[.agg #[.int .u32 ((n : Int) + 1), .int .u32 1], .bool true]) (by simp [results, Try.results59, go_sem, z0, z1]) rfl ⟨rfl, ⟨_, _, hA⟩, hFr⟩

/-- Alloc, as one. -/
theorem rf_alloc {B : Nat} {w : World} {rb : Nat} {T : TA Int} {av fv : Value} (h : RefAt B w rb T av fv) (x : Int) :
    Calls Try.prog 59 #[.pointer (some ⟨rb, 0, none⟩), .int .i64 x] w fun e w' => e = .returned (.tuple #[.agg #[.int .u32 ((T.alloc x).2.1 : Int), .int .u32 ((T.alloc x).2.2.1 : Int)], .bool (decide ((T.alloc x).2.2.2 = 0))]) ∧
      (∃ av' fv', RefAt B w' rb (T.alloc x).1 av' fv') ∧ FrT [126, 151, 3] B w w' := by
  cases hg : T.free.getLast? with
  | none =>
    have hf : T.free = [] := by simpa using hg
    by_cases hl : T.all.length < T.S
    · refine (rf_alloc_grow h x hf hl).mono ?_
      rintro e w' ⟨rfl, hb, hfr⟩
      simp only [TA.alloc, hg, hl, if_true]
      exact ⟨by simp, hb, hfr⟩
    · refine (rf_alloc_full h x hf (Nat.le_of_not_lt hl)).mono ?_
      rintro e w' ⟨rfl, hb⟩
      simp only [TA.alloc, hg, hl, if_false]
      exact ⟨rfl, ⟨_, _, h.below hb⟩, FrT.of_below hb⟩
  | some k =>
    obtain ⟨l, hf⟩ : ∃ l, T.free = l ++ [k] := by
      obtain ⟨hne, he⟩ := List.getLast?_eq_some_iff.1 hg
      exact ⟨_, he⟩
    have hkf : k ∈ T.free := by rw [hf]; simp
    obtain ⟨g, t, h1, h2⟩ := h.ok.free k hkf
    simp only [TA.ar, List.getElem?_map, Option.map_eq_some_iff] at h1
    obtain ⟨⟨g', u, y⟩, h3, h4⟩ := h1
    simp only [Prod.mk.injEq] at h4
    obtain ⟨rfl, rfl, rfl⟩ := h4
    refine (rf_alloc_reuse h x (l := l) hf h3 h2).mono ?_
    rintro e w' ⟨rfl, hb, hfr⟩
    have hd : T.free.dropLast = l := by rw [hf]; simp
    simp only [TA.alloc, hg, h3, hd]
    exact ⟨rfl, hb, hfr⟩
end Go.Proofs.Ytlmbpbijhhnhpaa
