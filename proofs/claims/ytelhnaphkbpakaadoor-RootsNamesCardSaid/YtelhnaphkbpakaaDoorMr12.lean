/- Part 12 of the proof of RoP: lemmas. -/
import Derived.Test.YtelhnaphkbpakaaDoorMr11
namespace Go.Proofs.YtelhnaphkbpakaaDoor
open Go.RowKit Go.Shelf
attribute [local go_sem] Oper.semAt_some
set_option linter.unusedVariables false
set_option maxRecDepth 100000
def NmOk (p c : Nat) : Prop := ((97 ≤ c ∧ c ≤ 122) ∨ (65 ≤ c ∧ c ≤ 90) ∨ c = 95 ∨ c = 58 ∨ 127 < c) ∨ (p ≠ 0 ∧ ((48 ≤ c ∧ c ≤ 57) ∨ c = 45 ∨ c = 46))
instance (p c : Nat) : Decidable (NmOk p c) := by unfold NmOk; exact inferInstance
def nmOk (x : Pc) : Bool := decide (NmOk x.p x.c)
def namedD (s : ByteArray) : Bool := decide (1 ≤ s.size ∧ s.size ≤ 30) && (badL (pcs s)).isEmpty && (pcs s).all nmOk
structure NmI (s : ByteArray) (k q : Nat) (pre : List Pc) (W : World) : Prop where
  it : W.heap[k]? = some (.stringIter s q)
  list : pcs s = pre ++ pcsFrom s q
  size : q ≤ s.size
  good : pre.all nmOk = true
set_option maxHeartbeats 8000000 in
theorem named_in (w : World) (s : ByteArray) (hs : s.size ≤ 9223372036854775807) :
    CallsIn Fence.wide 9 Tryd.prog 99 #[.string s] w fun e w' => e = .returned (.bool (namedD s)) ∧ Below w.heap.size w w' := by
  refine callsIn_of_wp_marks Tryd.func99 rfl trivial ?_ rfl
  simp only [Tryd.ntmps99, List.size_toArray, List.length_cons, List.length_nil, Nat.reduceAdd, Nat.reduceSub, Array.replicate_succ, Array.replicate_zero, List.push_toArray, List.append_toArray, List.nil_append, List.cons_append]
  by_cases hsz : 1 ≤ s.size ∧ s.size ≤ 30
  · obtain ⟨hs1, hs2⟩ := hsz
    have p1 : ¬ (s.size : Int) < 1 := by omega
    have p2 : ¬ (30 : Int) < (s.size : Int) := by omega
    gi_wp2_with fail
    refine ⟨trivial, ?_⟩
    refine (callsIn_wide.2 (bad_calls s _)).mono ?_
    rintro e w1 ⟨rfl, rfl⟩
    obtain ⟨P, hP⟩ : ∃ P, P = (w.alloc (.cells #[.bool false] 4)).alloc (.cells #[.string s] 9) := ⟨_, rfl⟩
    have FP : Hid (P.heap[w.heap.size]? = some (.cells #[.bool false] 4 (0, 0)) ∧ P.heap[w.heap.size + 1]? = some (.cells #[.string s] 9 (0, 0)) ∧ P.heap.size = w.heap.size + 2 ∧ Below w.heap.size w P) := Lib.hid (by
      refine ⟨by rw [hP]; exact alloc_blk (Go.heap_alloc_new w _) _, ?_, by rw [hP]; simp, by rw [hP]; exact ((Below.refl _ w).alloc (Nat.le_refl _) _).alloc (by simp) _⟩
      rw [hP]; have := Go.heap_alloc_new (w.alloc (.cells #[.bool false] 4)) (.cells #[.string s] 9); rwa [World.size_alloc] at this)
    simp only [World.size_alloc, ← hP]
    clear hP
    have hst := bad_stops 8 (w.heap.size + 1) s (by omega) (w0 := P) P FP.out.2.1
    gi_wp2_with fail
    refine wpIn_rangeFunc_ownF rfl (by decide) (gf := 117) (lb := #[.pointer (some ⟨w.heap.size + 1, 0, none⟩)]) rfl trivial (enters_of Tryd.func117 (by kernel_rfl) rfl)
      hst (fun h k => h.trans k) (kpY_b (Nat.le_refl _)) (Below.refl _ _) (fun _ => rfl)
      (fun pre W => pre = [] ∧ Below P.heap.size P W) (fun c pre W => c = .ret ∧ pre ≠ [] ∧ W.heap[w.heap.size]? = some (.cells #[.bool false] 4 (0, 0)) ∧ Below w.heap.size w W)
      (fun _ _ _ _ hs hg hr => ⟨hs.1, hs.2.grown hg hs.2.size (fun r e => (hr r e).1)⟩)
      (fun _ _ _ _ _ hs hg hr => ⟨hs.1, hs.2.1, blkGrow hs.2.2.1 hg (fun r e => (hr r e).2), hs.2.2.2.grown hg (by have := lt_of_some hs.2.2.1; omega) (fun r e => by have := (hr r e).1; have := FP.out.2.2.1; omega)⟩)
      ⟨rfl, Below.refl _ _⟩
      ?fr2 ?assign2 ?body2 ?done2 ?stop2
    case assign2 =>
      intro l y W K hK
      simp only [encBd]
      gi_wp2
      exact hK
    case body2 =>
      rintro l pre y W ⟨rfl, hI⟩ hlt
      have x0 := (hI.block w.heap.size (by have := FP.out.2.2.1; omega)).trans FP.out.1
      have c0 := cell_blk x0 0 rfl
      have f0 := free_blk x0 0
      have l0 := lt_of_some x0
      simp at c0
      have HX := Lib.hid (And.intro x0 hI)
      clear x0 hI
      gi_wp2
      exact ⟨KeepsOthers.setCell _ _ _, rfl, by simp, set_blk HX.out.1 0 _, (FP.out.2.2.2.trans (HX.out.2.mono (by have := FP.out.2.2.1; omega))).setCell (p := ⟨w.heap.size, 0, none⟩) (Nat.le_refl _) _⟩
    case stop2 =>
      rintro D c pre W hD hpre ⟨rfl, hne, hx, hb⟩ hK
      have e0 : namedD s = false := by
        unfold namedD
        have : (badL (pcs s)).isEmpty = false := by
          obtain ⟨r, hr⟩ := hpre
          rw [← hr]
          cases pre with
          | nil => exact absurd rfl hne
          | cons _ _ => rfl
        rw [this]; simp
      have c0 := cell_blk hx 0 rfl
      have hc := cell_kept c0 (grownBy_putObj' _ D (.deferred none)) (fun r e => by cases e; exact ⟨_, hK, rfl⟩)
      gi_wp2
      refine ⟨by simp, .inl ⟨_, _, rfl, run_takeDeferred hK, ?_⟩⟩
      refine ⟨.bool false, ?_, by rw [e0], hb.trans (belowK_b (w := w) (Nat.le_refl _) _ D _ _ (by have := FP.out.2.2.1; omega) hK rfl rfl)⟩
      simp [results, Tryd.f99, go_sem, hc]
    case done2 =>
      rintro D ys W hD hys ⟨rfl, hI⟩ hK
      have hbad : badL (pcs s) = [] := hys.symm
      have x0 := (hI.block w.heap.size (by have := FP.out.2.2.1; omega)).trans FP.out.1
      have hb : Below w.heap.size w W := FP.out.2.2.2.trans (hI.mono (by have := FP.out.2.2.1; omega))
      have l0 := lt_of_some x0
      have HB := Lib.hid hbad
      have HX := Lib.hid (And.intro x0 (And.intro hK hb))
      clear hbad hys x0 hK hb hI hst
      obtain ⟨kk, hkk⟩ : ∃ kk, kk = W.heap.size := ⟨_, rfl⟩
      gi_wp2
      rw [← hkk]
      have HKK := Lib.hid hkk
      clear hkk
      gi_loopw [] (fun wr => ∃ (q : Nat) (pre : List Pc), NmI s kk q pre wr ∧ wr.heap[w.heap.size]? = some (.cells #[.bool false] 4 (0, 0)) ∧ wr.heap[D]? = some (.deferred (some [])) ∧ Below w.heap.size w wr) (fun wr => s.size - wr.iterPos kk)
      case atStart =>
        have hal : Below W.heap.size W (W.iter s 0) := (Below.refl _ W).alloc (Nat.le_refl _) _
        refine ⟨0, [], ⟨by rw [HKK.out]; exact Go.heap_alloc_new W _, rfl, Nat.zero_le _, rfl⟩, (hal.block _ l0).trans HX.out.1, (hal.block _ (lt_of_some HX.out.2.1)).trans HX.out.2.1, HX.out.2.2.trans (hal.mono (by omega))⟩
      case round =>
        obtain ⟨q, pre, hI, x0, xD, hb⟩ := hrel
        have hit := hI.it
        have hkz : kk < wr.heap.size := lt_of_some hit
        have c0 := cell_blk x0 0 rfl
        have f0 := free_blk x0 0
        have l1 := lt_of_some x0
        simp at c0
        by_cases hq : q < s.size
        · rcases hx : pcAt s q with ⟨p', nn, ok, c⟩
          have hd := decode_pc s q hq
          have h0 := pcAt_p s q
          have h2 := pcAt_size s q hq
          have h1 := pcAt_n_bnd s q
          rw [hx] at hd h0 h2 h1
          simp only at hd h0 h2 h1
          subst h0
          have hmem : (⟨p', nn, ok, c⟩ : Pc) ∈ pcs s := by rw [hI.list, pcsFrom_step s p' hq, hx]; simp
          have hok : ok = true := by
            cases ok with
            | true => rfl
            | false =>
              have : (⟨p', nn, false, c⟩ : Pc) ∈ badL (pcs s) := List.mem_filter.2 ⟨hmem, rfl⟩
              rw [HB.out] at this
              simp at this
          subst hok
          obtain ⟨WI, hWI⟩ : ∃ WI, WI = wr.iterAt kk s (p' + nn) := ⟨_, rfl⟩
          have hnx : ∀ ty, (Instr.next (.pointer (some ⟨kk, 0, none⟩)) true ty).run Tryd.prog wr = .ok (.tuple #[.bool true, .int .i64 (p' : Int), .int .i32 (c : Int)]) WI := fun ty => by rw [Lib.run_next_any_at wr kk s p' ty hit hq, hd, hWI]; rfl
          have hne0 : w.heap.size ≠ kk := by have := HKK.out; omega
          have hneD : D ≠ kk := by have := HKK.out; have := lt_of_some HX.out.2.1; omega
          have y0 := (Lib.iterAt_other wr kk w.heap.size s (p' + nn) hne0).trans x0
          have yD := (Lib.iterAt_other wr kk D s (p' + nn) hneD).trans xD
          have yk := Lib.iterAt_heap wr kk s p' (p' + nn) hit
          have hgr := iterAt_grown wr kk s (p' + nn)
          rw [← hWI] at y0 yD yk hgr
          have HB2 := Lib.hid (hb.grown hgr (by omega) (fun r e => by cases e; have := HKK.out; omega))
          have HNX : Hid (nmOk ⟨p', nn, true, c⟩ = true → NmI s kk (p' + nn) (pre ++ [⟨p', nn, true, c⟩]) WI) := Lib.hid (fun h => ⟨yk, by rw [hI.list, pcsFrom_step s p' hq, hx]; simp, h2, by rw [List.all_append, hI.good]; simp [h]⟩)
          have HNO : Hid (¬ NmOk p' c → namedD s = false) := Lib.hid (fun h => by
            unfold namedD
            have : (pcs s).all nmOk = false := by
              rw [List.all_eq_false]
              exact ⟨_, hmem, by simpa [nmOk] using h⟩
            rw [this]; simp)
          have HM : Hid (s.size - WI.iterPos kk < s.size - wr.iterPos kk) := Lib.hid (by
            have e1 : wr.iterPos kk = p' := by unfold World.iterPos; rw [hit]
            have e2 : WI.iterPos kk = p' + nn := by unfold World.iterPos; rw [yk]
            rw [e1, e2]; omega)
          have HD : Hid (w.heap.size ≤ D) := Lib.hid (by have := FP.out.2.2.1; omega)
          clear c0 f0 l1
          have c0 := cell_blk y0 0 rfl
          have f0 := free_blk y0 0
          have l1 := lt_of_some y0
          simp at c0
          clear hI x0 xD hb hmem hx hit hd yk hgr hne0 hneD hWI
          -- CLASSES
          have hcl : c ≤ 44 ∨ (45 ≤ c ∧ c ≤ 45) ∨ (46 ≤ c ∧ c ≤ 46) ∨ (47 ≤ c ∧ c ≤ 47) ∨ (48 ≤ c ∧ c ≤ 57) ∨ (58 ≤ c ∧ c ≤ 58) ∨ (59 ≤ c ∧ c ≤ 64) ∨ (65 ≤ c ∧ c ≤ 90) ∨ (91 ≤ c ∧ c ≤ 94) ∨ (95 ≤ c ∧ c ≤ 95) ∨ (96 ≤ c ∧ c ≤ 96) ∨ (97 ≤ c ∧ c ≤ 122) ∨ (123 ≤ c ∧ c ≤ 127) ∨ 127 < c := by omega
          rcases hcl with h | h | h | h | h | h | h | h | h | h | h | h | h | h
          · have q0 : ¬ (97 : Int) ≤ (c : Int) := by omega
            have q1 : (c : Int) ≤ 122 := by omega
            have q2 : ¬ (65 : Int) ≤ (c : Int) := by omega
            have q3 : (c : Int) ≤ 90 := by omega
            have q4 : ((c : Int) == 95) = false := by simp; omega
            have q5 : ((c : Int) == 58) = false := by simp; omega
            have q6 : ¬ (127 : Int) < (c : Int) := by omega
            have q7 : ¬ (48 : Int) ≤ (c : Int) := by omega
            have q8 : (c : Int) ≤ 57 := by omega
            have q9 : ((c : Int) == 45) = false := by simp; omega
            have q10 : ((c : Int) == 46) = false := by simp; omega
            by_cases hp0 : p' = 0
            · have p10 : ((p' : Int) == 0) = true := by simp [hp0]
              have e0 := HNO.out (fun h => by unfold NmOk at h; omega)
              have E0 := Lib.hid e0
              clear e0
              clear hp0
              gi_wp2
              have hk2 : (WI.setCell ⟨w.heap.size, 0, none⟩ (.bool false)).heap[D]? = some (.deferred (some [])) := (KeepsOthers.setCell _ _ _).same _ _ yD rfl
              have hc := cell_kept (World.cell?_setCell_same' WI ⟨w.heap.size, 0, none⟩ (.bool false) (by rw [c0]; rfl)) (grownBy_putObj' _ D (.deferred none)) (fun r e => by cases e; exact ⟨_, hk2, rfl⟩)
              refine ⟨by simp, .inl ⟨_, _, rfl, run_takeDeferred hk2, ?_⟩⟩
              refine ⟨.bool false, ?_, by rw [E0.out], (HB2.out.setCell (p := ⟨w.heap.size, 0, none⟩) (Nat.le_refl _) _).trans (belowK_b (w := w) (Nat.le_refl _) _ D _ _ HD.out hk2 rfl rfl)⟩
              simp [results, Tryd.f99, go_sem, hc]
            · have p10 : ((p' : Int) == 0) = false := by simp; omega
              have e0 := HNO.out (fun h => by unfold NmOk at h; omega)
              have E0 := Lib.hid e0
              clear e0
              clear hp0
              gi_wp2
              have hk2 : (WI.setCell ⟨w.heap.size, 0, none⟩ (.bool false)).heap[D]? = some (.deferred (some [])) := (KeepsOthers.setCell _ _ _).same _ _ yD rfl
              have hc := cell_kept (World.cell?_setCell_same' WI ⟨w.heap.size, 0, none⟩ (.bool false) (by rw [c0]; rfl)) (grownBy_putObj' _ D (.deferred none)) (fun r e => by cases e; exact ⟨_, hk2, rfl⟩)
              refine ⟨by simp, .inl ⟨_, _, rfl, run_takeDeferred hk2, ?_⟩⟩
              refine ⟨.bool false, ?_, by rw [E0.out], (HB2.out.setCell (p := ⟨w.heap.size, 0, none⟩) (Nat.le_refl _) _).trans (belowK_b (w := w) (Nat.le_refl _) _ D _ _ HD.out hk2 rfl rfl)⟩
              simp [results, Tryd.f99, go_sem, hc]
          · have q0 : ¬ (97 : Int) ≤ (c : Int) := by omega
            have q1 : (c : Int) ≤ 122 := by omega
            have q2 : ¬ (65 : Int) ≤ (c : Int) := by omega
            have q3 : (c : Int) ≤ 90 := by omega
            have q4 : ((c : Int) == 95) = false := by simp; omega
            have q5 : ((c : Int) == 58) = false := by simp; omega
            have q6 : ¬ (127 : Int) < (c : Int) := by omega
            have q7 : ¬ (48 : Int) ≤ (c : Int) := by omega
            have q8 : (c : Int) ≤ 57 := by omega
            have q9 : ((c : Int) == 45) = true := by simp; omega
            have q10 : ((c : Int) == 46) = false := by simp; omega
            by_cases hp0 : p' = 0
            · have p10 : ((p' : Int) == 0) = true := by simp [hp0]
              have e0 := HNO.out (fun h => by unfold NmOk at h; omega)
              have E0 := Lib.hid e0
              clear e0
              clear hp0
              gi_wp2
              have hk2 : (WI.setCell ⟨w.heap.size, 0, none⟩ (.bool false)).heap[D]? = some (.deferred (some [])) := (KeepsOthers.setCell _ _ _).same _ _ yD rfl
              have hc := cell_kept (World.cell?_setCell_same' WI ⟨w.heap.size, 0, none⟩ (.bool false) (by rw [c0]; rfl)) (grownBy_putObj' _ D (.deferred none)) (fun r e => by cases e; exact ⟨_, hk2, rfl⟩)
              refine ⟨by simp, .inl ⟨_, _, rfl, run_takeDeferred hk2, ?_⟩⟩
              refine ⟨.bool false, ?_, by rw [E0.out], (HB2.out.setCell (p := ⟨w.heap.size, 0, none⟩) (Nat.le_refl _) _).trans (belowK_b (w := w) (Nat.le_refl _) _ D _ _ HD.out hk2 rfl rfl)⟩
              simp [results, Tryd.f99, go_sem, hc]
            · have p10 : ((p' : Int) == 0) = false := by simp; omega
              gi_wp2
              go_roundw
              case rel => exact ⟨p' + nn, pre ++ [⟨p', nn, true, c⟩], HNX.out (decide_eq_true (show NmOk p' c by unfold NmOk; omega)), y0, yD, HB2.out⟩
              case measure => exact HM.out
          · have q0 : ¬ (97 : Int) ≤ (c : Int) := by omega
            have q1 : (c : Int) ≤ 122 := by omega
            have q2 : ¬ (65 : Int) ≤ (c : Int) := by omega
            have q3 : (c : Int) ≤ 90 := by omega
            have q4 : ((c : Int) == 95) = false := by simp; omega
            have q5 : ((c : Int) == 58) = false := by simp; omega
            have q6 : ¬ (127 : Int) < (c : Int) := by omega
            have q7 : ¬ (48 : Int) ≤ (c : Int) := by omega
            have q8 : (c : Int) ≤ 57 := by omega
            have q9 : ((c : Int) == 45) = false := by simp; omega
            have q10 : ((c : Int) == 46) = true := by simp; omega
            by_cases hp0 : p' = 0
            · have p10 : ((p' : Int) == 0) = true := by simp [hp0]
              have e0 := HNO.out (fun h => by unfold NmOk at h; omega)
              have E0 := Lib.hid e0
              clear e0
              clear hp0
              gi_wp2
              have hk2 : (WI.setCell ⟨w.heap.size, 0, none⟩ (.bool false)).heap[D]? = some (.deferred (some [])) := (KeepsOthers.setCell _ _ _).same _ _ yD rfl
              have hc := cell_kept (World.cell?_setCell_same' WI ⟨w.heap.size, 0, none⟩ (.bool false) (by rw [c0]; rfl)) (grownBy_putObj' _ D (.deferred none)) (fun r e => by cases e; exact ⟨_, hk2, rfl⟩)
              refine ⟨by simp, .inl ⟨_, _, rfl, run_takeDeferred hk2, ?_⟩⟩
              refine ⟨.bool false, ?_, by rw [E0.out], (HB2.out.setCell (p := ⟨w.heap.size, 0, none⟩) (Nat.le_refl _) _).trans (belowK_b (w := w) (Nat.le_refl _) _ D _ _ HD.out hk2 rfl rfl)⟩
              simp [results, Tryd.f99, go_sem, hc]
            · have p10 : ((p' : Int) == 0) = false := by simp; omega
              gi_wp2
              go_roundw
              case rel => exact ⟨p' + nn, pre ++ [⟨p', nn, true, c⟩], HNX.out (decide_eq_true (show NmOk p' c by unfold NmOk; omega)), y0, yD, HB2.out⟩
              case measure => exact HM.out
          · have q0 : ¬ (97 : Int) ≤ (c : Int) := by omega
            have q1 : (c : Int) ≤ 122 := by omega
            have q2 : ¬ (65 : Int) ≤ (c : Int) := by omega
            have q3 : (c : Int) ≤ 90 := by omega
            have q4 : ((c : Int) == 95) = false := by simp; omega
            have q5 : ((c : Int) == 58) = false := by simp; omega
            have q6 : ¬ (127 : Int) < (c : Int) := by omega
            have q7 : ¬ (48 : Int) ≤ (c : Int) := by omega
            have q8 : (c : Int) ≤ 57 := by omega
            have q9 : ((c : Int) == 45) = false := by simp; omega
            have q10 : ((c : Int) == 46) = false := by simp; omega
            by_cases hp0 : p' = 0
            · have p10 : ((p' : Int) == 0) = true := by simp [hp0]
              have e0 := HNO.out (fun h => by unfold NmOk at h; omega)
              have E0 := Lib.hid e0
              clear e0
              clear hp0
              gi_wp2
              have hk2 : (WI.setCell ⟨w.heap.size, 0, none⟩ (.bool false)).heap[D]? = some (.deferred (some [])) := (KeepsOthers.setCell _ _ _).same _ _ yD rfl
              have hc := cell_kept (World.cell?_setCell_same' WI ⟨w.heap.size, 0, none⟩ (.bool false) (by rw [c0]; rfl)) (grownBy_putObj' _ D (.deferred none)) (fun r e => by cases e; exact ⟨_, hk2, rfl⟩)
              refine ⟨by simp, .inl ⟨_, _, rfl, run_takeDeferred hk2, ?_⟩⟩
              refine ⟨.bool false, ?_, by rw [E0.out], (HB2.out.setCell (p := ⟨w.heap.size, 0, none⟩) (Nat.le_refl _) _).trans (belowK_b (w := w) (Nat.le_refl _) _ D _ _ HD.out hk2 rfl rfl)⟩
              simp [results, Tryd.f99, go_sem, hc]
            · have p10 : ((p' : Int) == 0) = false := by simp; omega
              have e0 := HNO.out (fun h => by unfold NmOk at h; omega)
              have E0 := Lib.hid e0
              clear e0
              clear hp0
              gi_wp2
              have hk2 : (WI.setCell ⟨w.heap.size, 0, none⟩ (.bool false)).heap[D]? = some (.deferred (some [])) := (KeepsOthers.setCell _ _ _).same _ _ yD rfl
              have hc := cell_kept (World.cell?_setCell_same' WI ⟨w.heap.size, 0, none⟩ (.bool false) (by rw [c0]; rfl)) (grownBy_putObj' _ D (.deferred none)) (fun r e => by cases e; exact ⟨_, hk2, rfl⟩)
              refine ⟨by simp, .inl ⟨_, _, rfl, run_takeDeferred hk2, ?_⟩⟩
              refine ⟨.bool false, ?_, by rw [E0.out], (HB2.out.setCell (p := ⟨w.heap.size, 0, none⟩) (Nat.le_refl _) _).trans (belowK_b (w := w) (Nat.le_refl _) _ D _ _ HD.out hk2 rfl rfl)⟩
              simp [results, Tryd.f99, go_sem, hc]
          · have q0 : ¬ (97 : Int) ≤ (c : Int) := by omega
            have q1 : (c : Int) ≤ 122 := by omega
            have q2 : ¬ (65 : Int) ≤ (c : Int) := by omega
            have q3 : (c : Int) ≤ 90 := by omega
            have q4 : ((c : Int) == 95) = false := by simp; omega
            have q5 : ((c : Int) == 58) = false := by simp; omega
            have q6 : ¬ (127 : Int) < (c : Int) := by omega
            have q7 : (48 : Int) ≤ (c : Int) := by omega
            have q8 : (c : Int) ≤ 57 := by omega
            have q9 : ((c : Int) == 45) = false := by simp; omega
            have q10 : ((c : Int) == 46) = false := by simp; omega
            by_cases hp0 : p' = 0
            · have p10 : ((p' : Int) == 0) = true := by simp [hp0]
              have e0 := HNO.out (fun h => by unfold NmOk at h; omega)
              have E0 := Lib.hid e0
              clear e0
              clear hp0
              gi_wp2
              have hk2 : (WI.setCell ⟨w.heap.size, 0, none⟩ (.bool false)).heap[D]? = some (.deferred (some [])) := (KeepsOthers.setCell _ _ _).same _ _ yD rfl
              have hc := cell_kept (World.cell?_setCell_same' WI ⟨w.heap.size, 0, none⟩ (.bool false) (by rw [c0]; rfl)) (grownBy_putObj' _ D (.deferred none)) (fun r e => by cases e; exact ⟨_, hk2, rfl⟩)
              refine ⟨by simp, .inl ⟨_, _, rfl, run_takeDeferred hk2, ?_⟩⟩
              refine ⟨.bool false, ?_, by rw [E0.out], (HB2.out.setCell (p := ⟨w.heap.size, 0, none⟩) (Nat.le_refl _) _).trans (belowK_b (w := w) (Nat.le_refl _) _ D _ _ HD.out hk2 rfl rfl)⟩
              simp [results, Tryd.f99, go_sem, hc]
            · have p10 : ((p' : Int) == 0) = false := by simp; omega
              gi_wp2
              go_roundw
              case rel => exact ⟨p' + nn, pre ++ [⟨p', nn, true, c⟩], HNX.out (decide_eq_true (show NmOk p' c by unfold NmOk; omega)), y0, yD, HB2.out⟩
              case measure => exact HM.out
          · have q0 : ¬ (97 : Int) ≤ (c : Int) := by omega
            have q1 : (c : Int) ≤ 122 := by omega
            have q2 : ¬ (65 : Int) ≤ (c : Int) := by omega
            have q3 : (c : Int) ≤ 90 := by omega
            have q4 : ((c : Int) == 95) = false := by simp; omega
            have q5 : ((c : Int) == 58) = true := by simp; omega
            have q6 : ¬ (127 : Int) < (c : Int) := by omega
            have q7 : (48 : Int) ≤ (c : Int) := by omega
            have q8 : ¬ (c : Int) ≤ 57 := by omega
            have q9 : ((c : Int) == 45) = false := by simp; omega
            have q10 : ((c : Int) == 46) = false := by simp; omega
            have p10 : True := trivial
            gi_wp2
            go_roundw
            case rel => exact ⟨p' + nn, pre ++ [⟨p', nn, true, c⟩], HNX.out (decide_eq_true (show NmOk p' c by unfold NmOk; omega)), y0, yD, HB2.out⟩
            case measure => exact HM.out
          · have q0 : ¬ (97 : Int) ≤ (c : Int) := by omega
            have q1 : (c : Int) ≤ 122 := by omega
            have q2 : ¬ (65 : Int) ≤ (c : Int) := by omega
            have q3 : (c : Int) ≤ 90 := by omega
            have q4 : ((c : Int) == 95) = false := by simp; omega
            have q5 : ((c : Int) == 58) = false := by simp; omega
            have q6 : ¬ (127 : Int) < (c : Int) := by omega
            have q7 : (48 : Int) ≤ (c : Int) := by omega
            have q8 : ¬ (c : Int) ≤ 57 := by omega
            have q9 : ((c : Int) == 45) = false := by simp; omega
            have q10 : ((c : Int) == 46) = false := by simp; omega
            by_cases hp0 : p' = 0
            · have p10 : ((p' : Int) == 0) = true := by simp [hp0]
              have e0 := HNO.out (fun h => by unfold NmOk at h; omega)
              have E0 := Lib.hid e0
              clear e0
              clear hp0
              gi_wp2
              have hk2 : (WI.setCell ⟨w.heap.size, 0, none⟩ (.bool false)).heap[D]? = some (.deferred (some [])) := (KeepsOthers.setCell _ _ _).same _ _ yD rfl
              have hc := cell_kept (World.cell?_setCell_same' WI ⟨w.heap.size, 0, none⟩ (.bool false) (by rw [c0]; rfl)) (grownBy_putObj' _ D (.deferred none)) (fun r e => by cases e; exact ⟨_, hk2, rfl⟩)
              refine ⟨by simp, .inl ⟨_, _, rfl, run_takeDeferred hk2, ?_⟩⟩
              refine ⟨.bool false, ?_, by rw [E0.out], (HB2.out.setCell (p := ⟨w.heap.size, 0, none⟩) (Nat.le_refl _) _).trans (belowK_b (w := w) (Nat.le_refl _) _ D _ _ HD.out hk2 rfl rfl)⟩
              simp [results, Tryd.f99, go_sem, hc]
            · have p10 : ((p' : Int) == 0) = false := by simp; omega
              have e0 := HNO.out (fun h => by unfold NmOk at h; omega)
              have E0 := Lib.hid e0
              clear e0
              clear hp0
              gi_wp2
              have hk2 : (WI.setCell ⟨w.heap.size, 0, none⟩ (.bool false)).heap[D]? = some (.deferred (some [])) := (KeepsOthers.setCell _ _ _).same _ _ yD rfl
              have hc := cell_kept (World.cell?_setCell_same' WI ⟨w.heap.size, 0, none⟩ (.bool false) (by rw [c0]; rfl)) (grownBy_putObj' _ D (.deferred none)) (fun r e => by cases e; exact ⟨_, hk2, rfl⟩)
              refine ⟨by simp, .inl ⟨_, _, rfl, run_takeDeferred hk2, ?_⟩⟩
              refine ⟨.bool false, ?_, by rw [E0.out], (HB2.out.setCell (p := ⟨w.heap.size, 0, none⟩) (Nat.le_refl _) _).trans (belowK_b (w := w) (Nat.le_refl _) _ D _ _ HD.out hk2 rfl rfl)⟩
              simp [results, Tryd.f99, go_sem, hc]
          · have q0 : ¬ (97 : Int) ≤ (c : Int) := by omega
            have q1 : (c : Int) ≤ 122 := by omega
            have q2 : (65 : Int) ≤ (c : Int) := by omega
            have q3 : (c : Int) ≤ 90 := by omega
            have q4 : ((c : Int) == 95) = false := by simp; omega
            have q5 : ((c : Int) == 58) = false := by simp; omega
            have q6 : ¬ (127 : Int) < (c : Int) := by omega
            have q7 : (48 : Int) ≤ (c : Int) := by omega
            have q8 : ¬ (c : Int) ≤ 57 := by omega
            have q9 : ((c : Int) == 45) = false := by simp; omega
            have q10 : ((c : Int) == 46) = false := by simp; omega
            have p10 : True := trivial
            gi_wp2
            go_roundw
            case rel => exact ⟨p' + nn, pre ++ [⟨p', nn, true, c⟩], HNX.out (decide_eq_true (show NmOk p' c by unfold NmOk; omega)), y0, yD, HB2.out⟩
            case measure => exact HM.out
          · have q0 : ¬ (97 : Int) ≤ (c : Int) := by omega
            have q1 : (c : Int) ≤ 122 := by omega
            have q2 : (65 : Int) ≤ (c : Int) := by omega
            have q3 : ¬ (c : Int) ≤ 90 := by omega
            have q4 : ((c : Int) == 95) = false := by simp; omega
            have q5 : ((c : Int) == 58) = false := by simp; omega
            have q6 : ¬ (127 : Int) < (c : Int) := by omega
            have q7 : (48 : Int) ≤ (c : Int) := by omega
            have q8 : ¬ (c : Int) ≤ 57 := by omega
            have q9 : ((c : Int) == 45) = false := by simp; omega
            have q10 : ((c : Int) == 46) = false := by simp; omega
            by_cases hp0 : p' = 0
            · have p10 : ((p' : Int) == 0) = true := by simp [hp0]
              have e0 := HNO.out (fun h => by unfold NmOk at h; omega)
              have E0 := Lib.hid e0
              clear e0
              clear hp0
              gi_wp2
              have hk2 : (WI.setCell ⟨w.heap.size, 0, none⟩ (.bool false)).heap[D]? = some (.deferred (some [])) := (KeepsOthers.setCell _ _ _).same _ _ yD rfl
              have hc := cell_kept (World.cell?_setCell_same' WI ⟨w.heap.size, 0, none⟩ (.bool false) (by rw [c0]; rfl)) (grownBy_putObj' _ D (.deferred none)) (fun r e => by cases e; exact ⟨_, hk2, rfl⟩)
              refine ⟨by simp, .inl ⟨_, _, rfl, run_takeDeferred hk2, ?_⟩⟩
              refine ⟨.bool false, ?_, by rw [E0.out], (HB2.out.setCell (p := ⟨w.heap.size, 0, none⟩) (Nat.le_refl _) _).trans (belowK_b (w := w) (Nat.le_refl _) _ D _ _ HD.out hk2 rfl rfl)⟩
              simp [results, Tryd.f99, go_sem, hc]
            · have p10 : ((p' : Int) == 0) = false := by simp; omega
              have e0 := HNO.out (fun h => by unfold NmOk at h; omega)
              have E0 := Lib.hid e0
              clear e0
              clear hp0
              gi_wp2
              have hk2 : (WI.setCell ⟨w.heap.size, 0, none⟩ (.bool false)).heap[D]? = some (.deferred (some [])) := (KeepsOthers.setCell _ _ _).same _ _ yD rfl
              have hc := cell_kept (World.cell?_setCell_same' WI ⟨w.heap.size, 0, none⟩ (.bool false) (by rw [c0]; rfl)) (grownBy_putObj' _ D (.deferred none)) (fun r e => by cases e; exact ⟨_, hk2, rfl⟩)
              refine ⟨by simp, .inl ⟨_, _, rfl, run_takeDeferred hk2, ?_⟩⟩
              refine ⟨.bool false, ?_, by rw [E0.out], (HB2.out.setCell (p := ⟨w.heap.size, 0, none⟩) (Nat.le_refl _) _).trans (belowK_b (w := w) (Nat.le_refl _) _ D _ _ HD.out hk2 rfl rfl)⟩
              simp [results, Tryd.f99, go_sem, hc]
          · have q0 : ¬ (97 : Int) ≤ (c : Int) := by omega
            have q1 : (c : Int) ≤ 122 := by omega
            have q2 : (65 : Int) ≤ (c : Int) := by omega
            have q3 : ¬ (c : Int) ≤ 90 := by omega
            have q4 : ((c : Int) == 95) = true := by simp; omega
            have q5 : ((c : Int) == 58) = false := by simp; omega
            have q6 : ¬ (127 : Int) < (c : Int) := by omega
            have q7 : (48 : Int) ≤ (c : Int) := by omega
            have q8 : ¬ (c : Int) ≤ 57 := by omega
            have q9 : ((c : Int) == 45) = false := by simp; omega
            have q10 : ((c : Int) == 46) = false := by simp; omega
            have p10 : True := trivial
            gi_wp2
            go_roundw
            case rel => exact ⟨p' + nn, pre ++ [⟨p', nn, true, c⟩], HNX.out (decide_eq_true (show NmOk p' c by unfold NmOk; omega)), y0, yD, HB2.out⟩
            case measure => exact HM.out
          · have q0 : ¬ (97 : Int) ≤ (c : Int) := by omega
            have q1 : (c : Int) ≤ 122 := by omega
            have q2 : (65 : Int) ≤ (c : Int) := by omega
            have q3 : ¬ (c : Int) ≤ 90 := by omega
            have q4 : ((c : Int) == 95) = false := by simp; omega
            have q5 : ((c : Int) == 58) = false := by simp; omega
            have q6 : ¬ (127 : Int) < (c : Int) := by omega
            have q7 : (48 : Int) ≤ (c : Int) := by omega
            have q8 : ¬ (c : Int) ≤ 57 := by omega
            have q9 : ((c : Int) == 45) = false := by simp; omega
            have q10 : ((c : Int) == 46) = false := by simp; omega
            by_cases hp0 : p' = 0
            · have p10 : ((p' : Int) == 0) = true := by simp [hp0]
              have e0 := HNO.out (fun h => by unfold NmOk at h; omega)
              have E0 := Lib.hid e0
              clear e0
              clear hp0
              gi_wp2
              have hk2 : (WI.setCell ⟨w.heap.size, 0, none⟩ (.bool false)).heap[D]? = some (.deferred (some [])) := (KeepsOthers.setCell _ _ _).same _ _ yD rfl
              have hc := cell_kept (World.cell?_setCell_same' WI ⟨w.heap.size, 0, none⟩ (.bool false) (by rw [c0]; rfl)) (grownBy_putObj' _ D (.deferred none)) (fun r e => by cases e; exact ⟨_, hk2, rfl⟩)
              refine ⟨by simp, .inl ⟨_, _, rfl, run_takeDeferred hk2, ?_⟩⟩
              refine ⟨.bool false, ?_, by rw [E0.out], (HB2.out.setCell (p := ⟨w.heap.size, 0, none⟩) (Nat.le_refl _) _).trans (belowK_b (w := w) (Nat.le_refl _) _ D _ _ HD.out hk2 rfl rfl)⟩
              simp [results, Tryd.f99, go_sem, hc]
            · have p10 : ((p' : Int) == 0) = false := by simp; omega
              have e0 := HNO.out (fun h => by unfold NmOk at h; omega)
              have E0 := Lib.hid e0
              clear e0
              clear hp0
              gi_wp2
              have hk2 : (WI.setCell ⟨w.heap.size, 0, none⟩ (.bool false)).heap[D]? = some (.deferred (some [])) := (KeepsOthers.setCell _ _ _).same _ _ yD rfl
              have hc := cell_kept (World.cell?_setCell_same' WI ⟨w.heap.size, 0, none⟩ (.bool false) (by rw [c0]; rfl)) (grownBy_putObj' _ D (.deferred none)) (fun r e => by cases e; exact ⟨_, hk2, rfl⟩)
              refine ⟨by simp, .inl ⟨_, _, rfl, run_takeDeferred hk2, ?_⟩⟩
              refine ⟨.bool false, ?_, by rw [E0.out], (HB2.out.setCell (p := ⟨w.heap.size, 0, none⟩) (Nat.le_refl _) _).trans (belowK_b (w := w) (Nat.le_refl _) _ D _ _ HD.out hk2 rfl rfl)⟩
              simp [results, Tryd.f99, go_sem, hc]
          · have q0 : (97 : Int) ≤ (c : Int) := by omega
            have q1 : (c : Int) ≤ 122 := by omega
            have q2 : (65 : Int) ≤ (c : Int) := by omega
            have q3 : ¬ (c : Int) ≤ 90 := by omega
            have q4 : ((c : Int) == 95) = false := by simp; omega
            have q5 : ((c : Int) == 58) = false := by simp; omega
            have q6 : ¬ (127 : Int) < (c : Int) := by omega
            have q7 : (48 : Int) ≤ (c : Int) := by omega
            have q8 : ¬ (c : Int) ≤ 57 := by omega
            have q9 : ((c : Int) == 45) = false := by simp; omega
            have q10 : ((c : Int) == 46) = false := by simp; omega
            have p10 : True := trivial
            gi_wp2
            go_roundw
            case rel => exact ⟨p' + nn, pre ++ [⟨p', nn, true, c⟩], HNX.out (decide_eq_true (show NmOk p' c by unfold NmOk; omega)), y0, yD, HB2.out⟩
            case measure => exact HM.out
          · have q0 : (97 : Int) ≤ (c : Int) := by omega
            have q1 : ¬ (c : Int) ≤ 122 := by omega
            have q2 : (65 : Int) ≤ (c : Int) := by omega
            have q3 : ¬ (c : Int) ≤ 90 := by omega
            have q4 : ((c : Int) == 95) = false := by simp; omega
            have q5 : ((c : Int) == 58) = false := by simp; omega
            have q6 : ¬ (127 : Int) < (c : Int) := by omega
            have q7 : (48 : Int) ≤ (c : Int) := by omega
            have q8 : ¬ (c : Int) ≤ 57 := by omega
            have q9 : ((c : Int) == 45) = false := by simp; omega
            have q10 : ((c : Int) == 46) = false := by simp; omega
            by_cases hp0 : p' = 0
            · have p10 : ((p' : Int) == 0) = true := by simp [hp0]
              have e0 := HNO.out (fun h => by unfold NmOk at h; omega)
              have E0 := Lib.hid e0
              clear e0
              clear hp0
              gi_wp2
              have hk2 : (WI.setCell ⟨w.heap.size, 0, none⟩ (.bool false)).heap[D]? = some (.deferred (some [])) := (KeepsOthers.setCell _ _ _).same _ _ yD rfl
              have hc := cell_kept (World.cell?_setCell_same' WI ⟨w.heap.size, 0, none⟩ (.bool false) (by rw [c0]; rfl)) (grownBy_putObj' _ D (.deferred none)) (fun r e => by cases e; exact ⟨_, hk2, rfl⟩)
              refine ⟨by simp, .inl ⟨_, _, rfl, run_takeDeferred hk2, ?_⟩⟩
              refine ⟨.bool false, ?_, by rw [E0.out], (HB2.out.setCell (p := ⟨w.heap.size, 0, none⟩) (Nat.le_refl _) _).trans (belowK_b (w := w) (Nat.le_refl _) _ D _ _ HD.out hk2 rfl rfl)⟩
              simp [results, Tryd.f99, go_sem, hc]
            · have p10 : ((p' : Int) == 0) = false := by simp; omega
              have e0 := HNO.out (fun h => by unfold NmOk at h; omega)
              have E0 := Lib.hid e0
              clear e0
              clear hp0
              gi_wp2
              have hk2 : (WI.setCell ⟨w.heap.size, 0, none⟩ (.bool false)).heap[D]? = some (.deferred (some [])) := (KeepsOthers.setCell _ _ _).same _ _ yD rfl
              have hc := cell_kept (World.cell?_setCell_same' WI ⟨w.heap.size, 0, none⟩ (.bool false) (by rw [c0]; rfl)) (grownBy_putObj' _ D (.deferred none)) (fun r e => by cases e; exact ⟨_, hk2, rfl⟩)
              refine ⟨by simp, .inl ⟨_, _, rfl, run_takeDeferred hk2, ?_⟩⟩
              refine ⟨.bool false, ?_, by rw [E0.out], (HB2.out.setCell (p := ⟨w.heap.size, 0, none⟩) (Nat.le_refl _) _).trans (belowK_b (w := w) (Nat.le_refl _) _ D _ _ HD.out hk2 rfl rfl)⟩
              simp [results, Tryd.f99, go_sem, hc]
          · have q0 : (97 : Int) ≤ (c : Int) := by omega
            have q1 : ¬ (c : Int) ≤ 122 := by omega
            have q2 : (65 : Int) ≤ (c : Int) := by omega
            have q3 : ¬ (c : Int) ≤ 90 := by omega
            have q4 : ((c : Int) == 95) = false := by simp; omega
            have q5 : ((c : Int) == 58) = false := by simp; omega
            have q6 : (127 : Int) < (c : Int) := by omega
            have q7 : (48 : Int) ≤ (c : Int) := by omega
            have q8 : ¬ (c : Int) ≤ 57 := by omega
            have q9 : ((c : Int) == 45) = false := by simp; omega
            have q10 : ((c : Int) == 46) = false := by simp; omega
            have p10 : True := trivial
            gi_wp2
            go_roundw
            case rel => exact ⟨p' + nn, pre ++ [⟨p', nn, true, c⟩], HNX.out (decide_eq_true (show NmOk p' c by unfold NmOk; omega)), y0, yD, HB2.out⟩
            case measure => exact HM.out
        · have hnx : ∀ ty, (Instr.next (.pointer (some ⟨kk, 0, none⟩)) true ty).run Tryd.prog wr = _ := fun ty => Lib.run_next_end_at wr kk s q ty hit hq
          have hpre : pcs s = pre := by rw [hI.list, pcsFrom_end s q hq]; simp
          have e0 : namedD s = true := by
            unfold namedD
            rw [HB.out, hpre, hI.good, decide_eq_true ⟨hs1, hs2⟩]; rfl
          have E0 := Lib.hid e0
          have HD : Hid (w.heap.size ≤ D) := Lib.hid (by have := FP.out.2.2.1; omega)
          clear hit hpre e0 hI
          gi_wp2
          have hk2 : (wr.setCell ⟨w.heap.size, 0, none⟩ (.bool true)).heap[D]? = some (.deferred (some [])) := (KeepsOthers.setCell _ _ _).same _ _ xD rfl
          have hc := cell_kept (World.cell?_setCell_same' wr ⟨w.heap.size, 0, none⟩ (.bool true) (by rw [c0]; rfl)) (grownBy_putObj' _ D (.deferred none)) (fun r e => by cases e; exact ⟨_, hk2, rfl⟩)
          refine ⟨by simp, .inl ⟨_, _, rfl, run_takeDeferred hk2, ?_⟩⟩
          refine ⟨.bool true, ?_, by rw [E0.out], (hb.setCell (p := ⟨w.heap.size, 0, none⟩) (Nat.le_refl _) _).trans (belowK_b (w := w) (Nat.le_refl _) _ D _ _ HD.out hk2 rfl rfl)⟩
          simp [results, Tryd.f99, go_sem, hc]
  · have e0 : namedD s = false := by unfold namedD; rw [decide_eq_false hsz]; rfl
    have E0 := Lib.hid e0
    clear e0
    by_cases h1 : s.size < 1
    · have p1 : (s.size : Int) < 1 := by omega
      clear hsz h1
      gi_wp2
      have hb := (Below.refl w.heap.size w).alloc (Nat.le_refl _) (.cells #[.bool false] 4)
      have c0 := cell_blk (Go.heap_alloc_new w (.cells #[.bool false] 4)) 0 rfl
      refine ⟨.bool false, ?_, by rw [E0.out], by first | exact hb | exact hb.setCell (p := ⟨w.heap.size, 0, none⟩) (Nat.le_refl _) _⟩
      simp [results, Tryd.f99, go_sem, c0]
    · have p1 : ¬ (s.size : Int) < 1 := by omega
      have p2 : (30 : Int) < (s.size : Int) := by omega
      clear hsz h1
      gi_wp2
      have hb := (Below.refl w.heap.size w).alloc (Nat.le_refl _) (.cells #[.bool false] 4)
      have c0 := cell_blk (Go.heap_alloc_new w (.cells #[.bool false] 4)) 0 rfl
      refine ⟨.bool false, ?_, by rw [E0.out], by first | exact hb | exact hb.setCell (p := ⟨w.heap.size, 0, none⟩) (Nat.le_refl _) _⟩
      simp [results, Tryd.f99, go_sem, c0]
theorem named_calls (w : World) (s : ByteArray) (hs : s.size ≤ 9223372036854775807) :
    Calls Tryd.prog 99 #[.string s] w fun e w' => e = .returned (.bool (namedD s)) ∧ Below w.heap.size w w' := callsIn_wide.1 (named_in w s hs)
end Go.Proofs.YtelhnaphkbpakaaDoor
