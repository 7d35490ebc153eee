/- An arena's stores: setting and freeing a slot, pushing onto its lists, at one type of elements. -/
import Derived.Test.YtlmbpbijhhnhpaaArIOp
import Derived.Test.YtlmbpbijhhnhpaaArPush
import Derived.Deep.AppendLies
import Derived.Deep.RegionLaw
import Derived.Deep.RegionHeld3
namespace Go.Proofs.Ytlmbpbijhhnhpaa
open Go.RowKit
set_option linter.unusedVariables false
set_option maxRecDepth 100000

/-- The cells of slot k, as the walk asks for them. -/
theorem slotAt {tA tS tF m B : Nat} {w : World} {ab gb cap n : Nat} {A : Ar} {fv : Value} (h : ArAt tA tS tF m B w ab A (.slice (some ⟨gb, 0, none⟩) n cap) fv) (hn : n = A.all.length) {k : Nat} {s : Nat × Bool × List Value} (hk : A.all[k]? = some s) (i : Nat) (hi : i < m + 2) :
    w.cell? ⟨gb, k * (m + 2) + i, none⟩ = (Value.int .u32 (s.1 : Int) :: .bool s.2.1 :: s.2.2)[i]? := by
  subst hn
  have hl : k < A.all.length := (List.getElem?_eq_some_iff.1 hk).1
  exact (h.rowA.cellAt (k * (m + 2) + i) (by have := Nat.mul_le_mul_right (m + 2) (show k + 1 ≤ A.all.length from hl); simp only [Nat.add_mul] at this; omega)).trans (scells_at h.ok.thing hk i hi)

theorem u32I_info : (Try.prog.info? 37).map (fun i => (i.zero, i.size, i.bytes)) = some (some (.int .u32 0), 1, 4) := by kernel_rfl

theorem arI_set_live {B : Nat} {w : World} {ab gb cap : Nat} {A : Ar} {fv : Value} (h : ArAt 119 123 37 1 B w ab A (.slice (some ⟨gb, 0, none⟩) A.all.length cap) fv) (k g : Nat) (t : Value) (x : Int) (hk : A.all[k]? = some (g, true, [t])) :
    Calls Try.prog 30 #[.pointer (some ⟨ab, 0, none⟩), .agg #[.int .u32 ((k : Int) + 1), .int .u32 (g : Int)], (.int .i64 x)] w fun e w' => e = .returned (.int .i64 0) ∧
      ArAt 119 123 37 1 B w' ab { A with all := A.all.set k (g, true, [(.int .i64 x)]) } (.slice (some ⟨gb, 0, none⟩) A.all.length cap) fv ∧ FrT [119, 123, 37] B w w' := by
  have s2 := slotAt h rfl hk 2 (by omega)
  simp at s2
  have hgb : gb < w.heap.size := block_lt_of_cell s2
  have f2 := h.rowA.frozenAt (k * 3 + 2)
  have H := Lib.hid h
  have HK := Lib.hid hk
  clear h hk
  go_enter Try.func30, Try.ntmps30
  go_wp2_with (go_at_call 58; refine (arI_at_live (H.out.below (by repeat (first | exact Below.refl _ _ | assumption | refine Below.drew ?_ | refine below_drewN ?_ _ | refine Below.alloc ?_ (by simp <;> omega) _ | refine Below.setCell ?_ (by simp <;> omega) _ | (apply bl_trans; assumption; (simp <;> omega))))) k g _ HK.out).mono ?_; rintro e w' ⟨rfl, hb⟩; have s3 := (hb.cell (p := ⟨gb, k * 3 + 2, none⟩) (by simp; omega)).trans ((World.cell?_alloc_lt _ _ _ hgb).trans s2); have f3 := (hb.frozen (p := ⟨gb, k * 3 + 2, none⟩) (by simp; omega)).trans ((World.frozen?_alloc_past _ _ _ hgb).trans f2))
  go_ret
  have hR := (H.out.raw.below (w' := w') (by repeat (first | exact Below.refl _ _ | assumption | refine Below.drew ?_ | refine below_drewN ?_ _ | refine Below.alloc ?_ (by simp <;> omega) _ | refine Below.setCell ?_ (by simp <;> omega) _ | (apply bl_trans; assumption; (simp <;> omega))))).slot ⟨by decide, by decide⟩ rfl (g, true, [(.int .i64 x)]) HK.out 2 (.int .i64 x) (by omega) rfl
  exact ⟨rfl, hR.at _ rfl rfl rfl rfl rfl rfl (H.out.ok.put HK.out rfl)⟩

theorem arI_free_last {B : Nat} {w : World} {ab gb cap : Nat} {A : Ar} {fv : Value} (h : ArAt 119 123 37 1 B w ab A (.slice (some ⟨gb, 0, none⟩) A.all.length cap) fv) (k g : Nat) (t : Value) (hk : A.all[k]? = some (g, true, [t])) (hg : A.G ≤ g) :
    Calls Try.prog 29 #[.pointer (some ⟨ab, 0, none⟩), .agg #[.int .u32 ((k : Int) + 1), .int .u32 (g : Int)]] w fun e w' => e = .returned (.int .i64 0) ∧
      ArAt 119 123 37 1 B w' ab { A with all := A.all.set k (g, false, [(.int .i64 0)]), count := A.count - 1, ret := A.ret + 1 } (.slice (some ⟨gb, 0, none⟩) A.all.length cap) fv ∧ FrT [119, 123, 37] B w w' := by
  have s0 := slotAt h rfl hk 0 (by omega)
  have s1 := slotAt h rfl hk 1 (by omega)
  have s2 := slotAt h rfl hk 2 (by omega)
  simp at s0 s1 s2
  have hgb : gb < w.heap.size := block_lt_of_cell s2
  have hab := lt_of_some h.blk
  obtain ⟨cur, hcur, _⟩ := ownsRow_blk h.rowA
  have hne : ab ≠ gb := ne_blk h.blk hcur (by decide)
  have hne' : gb ≠ ab := Ne.symm hne
  have hc0 : 1 ≤ A.count := by
    have h1 := h.ok.cnt
    have h2 : 0 < A.all.countP (fun s => s.2.1) := List.countP_pos_iff.2 ⟨(g, true, [t]), List.mem_of_getElem? hk, rfl⟩
    omega
  have hcb := h.ok.left
  have hSb := h.ok.S2
  have hG2 := h.ok.G2
  have hgl := (h.ok.gen _ (List.mem_of_getElem? hk)).2
  simp at hgl
  obtain ⟨G, hGe⟩ : ∃ G, G = A.G := ⟨_, rfl⟩
  obtain ⟨C, hCe⟩ : ∃ C, C = A.count := ⟨_, rfl⟩
  obtain ⟨R, hRe⟩ : ∃ R, R = A.ret := ⟨_, rfl⟩
  rw [← hGe] at hg hG2 hgl
  rw [← hCe] at hc0 hcb
  rw [← hRe] at hcb
  have blk' : ∃ fv', w.heap[ab]? = some (.cells #[.int .i64 (A.S : Int), .int .i64 (G : Int), .slice (some ⟨gb, 0, none⟩) A.all.length cap, fv', .int .i64 (C : Int), .int .i64 (R : Int)] 119 (0, 0)) := ⟨fv, by rw [hGe, hCe, hRe]; exact h.blk⟩
  obtain ⟨fv', blk'⟩ := blk'
  have hgc : decide ((g : Int) < (G : Int)) = false := by simp; omega
  have q1 : IntKind.i64.wrap (g : Int) = g := IntWalk.i64_in _ (by omega)
  have HG := Lib.hid hGe
  have HC := Lib.hid hCe
  have HRE := Lib.hid hRe
  have H := Lib.hid h
  have HK := Lib.hid hk
  clear h hk hGe hCe hRe
  go_enter Try.func29, Try.ntmps29
  go_wp2_with fail
  refine (arI_at_live (H.out.below (by repeat (first | exact Below.refl _ _ | assumption | refine Below.drew ?_ | refine below_drewN ?_ _ | refine Below.alloc ?_ (by simp <;> omega) _ | refine Below.setCell ?_ (by simp <;> omega) _ | (apply bl_trans; assumption; (simp <;> omega))))) k g _ HK.out).mono ?_
  rintro e w' ⟨rfl, hb⟩
  have hz : w.heap.size < w'.heap.size := by have := hb.size; simp at this; omega
  have hblk : ∀ (j : Nat) o, w.heap[j]? = some o → w'.heap[j]? = some o := fun j o hj => (hb.block j (by have := lt_of_some hj; simp; omega)).trans (alloc_blk hj _)
  have nb := hblk _ _ blk'
  have nc := hblk _ _ hcur
  have c0 := (hb.cell (p := ⟨gb, k * 3, none⟩) (by simp; omega)).trans ((World.cell?_alloc_lt _ _ _ hgb).trans s0)
  have c1 := (hb.cell (p := ⟨gb, k * 3 + 1, none⟩) (by simp; omega)).trans ((World.cell?_alloc_lt _ _ _ hgb).trans s1)
  have c2 := (hb.cell (p := ⟨gb, k * 3 + 2, none⟩) (by simp; omega)).trans ((World.cell?_alloc_lt _ _ _ hgb).trans s2)
  have fr1 := fun o => free_blk nc o
  have fr2 := fun o => free_blk nb o
  have d1 := cell_blk nb 1 rfl
  have d4 := cell_blk nb 4 rfl
  have d5 := cell_blk nb 5 rfl
  have hb' := hb
  clear s0 s1 s2 blk' hcur hblk nb nc hb
  go_wp2
  go_quiet (fail)
  go_wp2
  go_ret
  refine ⟨rfl, ?_⟩
  have hR := (((((H.out.raw.below (w' := w') (bl_trans hb' (by simp) (by repeat (first | exact Below.refl _ _ | assumption | refine Below.drew ?_ | refine below_drewN ?_ _ | refine Below.alloc ?_ (by simp <;> omega) _ | refine Below.setCell ?_ (by simp <;> omega) _ | (apply bl_trans; assumption; (simp <;> omega)))))).slot ⟨by decide, by decide⟩ rfl (g, false, [t]) HK.out 1 (.bool false) (by omega) rfl).slot ⟨by decide, by decide⟩ (by simp) (k := k) (s := (g, false, [t])) (g, false, [(.int .i64 0)]) (by simp [(List.getElem?_eq_some_iff.1 HK.out).1]) 2 (.int .i64 0) (by omega) rfl).count ⟨by decide, by decide⟩ ((C : Int) - 1)).drewN nq).retd ⟨by decide, by decide⟩ ((R : Int) + 1)
  have e1 := HC.out
  have e2 := HRE.out
  exact hR.at { A with all := A.all.set k (g, false, [(.int .i64 0)]), count := A.count - 1, ret := A.ret + 1 } rfl rfl (by simp) rfl (by show (C : Int) - 1 = ((A.count - 1 : Nat) : Int); omega) (by show (R : Int) + 1 = ((A.ret + 1 : Nat) : Int); omega) (H.out.ok.retired HK.out rfl)
theorem arI_free_room {B : Nat} {w : World} {ab gb cap : Nat} {A : Ar} {fv : Value} (h : ArAt 119 123 37 1 B w ab A (.slice (some ⟨gb, 0, none⟩) A.all.length cap) fv) (k g : Nat) (t : Value) (hk : A.all[k]? = some (g, true, [t])) (hg : g < A.G) :
    Calls Try.prog 29 #[.pointer (some ⟨ab, 0, none⟩), .agg #[.int .u32 ((k : Int) + 1), .int .u32 (g : Int)]] w fun e w' => ∃ fv', e = .returned (.int .i64 0) ∧
      ArAt 119 123 37 1 B w' ab { A with all := A.all.set k (g, false, [(.int .i64 0)]), free := A.free ++ [k], count := A.count - 1 } (.slice (some ⟨gb, 0, none⟩) A.all.length cap) fv' ∧ FrT [119, 123, 37] B w w' := by
  have s0 := slotAt h rfl hk 0 (by omega)
  have s1 := slotAt h rfl hk 1 (by omega)
  have s2 := slotAt h rfl hk 2 (by omega)
  simp at s0 s1 s2
  have hgb : gb < w.heap.size := block_lt_of_cell s2
  have hab := lt_of_some h.blk
  obtain ⟨cur, hcur, _⟩ := ownsRow_blk h.rowA
  have hne : ab ≠ gb := ne_blk h.blk hcur (by decide)
  have hne' : gb ≠ ab := Ne.symm hne
  have hc0 : 1 ≤ A.count := by
    have h1 := h.ok.cnt
    have h2 : 0 < A.all.countP (fun s => s.2.1) := List.countP_pos_iff.2 ⟨(g, true, [t]), List.mem_of_getElem? hk, rfl⟩
    omega
  have hcb := h.ok.left
  have hSb := h.ok.S2
  have hG2 := h.ok.G2
  have hgl := (h.ok.gen _ (List.mem_of_getElem? hk)).2
  simp at hgl
  have hlen := h.ok.len
  have hfl : A.free.length ≤ A.all.length := by have := h.ok.sum; omega
  have hkl : k < A.all.length := (List.getElem?_eq_some_iff.1 hk).1
  have q4 : IntKind.u32.wrap (k : Int) = k := IntWalk.u32_in _ (by omega)
  obtain ⟨G, hGe⟩ : ∃ G, G = A.G := ⟨_, rfl⟩
  obtain ⟨C, hCe⟩ : ∃ C, C = A.count := ⟨_, rfl⟩
  obtain ⟨R, hRe⟩ : ∃ R, R = A.ret := ⟨_, rfl⟩
  rw [← hGe] at hg hG2 hgl
  rw [← hCe] at hc0 hcb
  rw [← hRe] at hcb
  have blk' : w.heap[ab]? = some (.cells #[.int .i64 (A.S : Int), .int .i64 (G : Int), .slice (some ⟨gb, 0, none⟩) A.all.length cap, fv, .int .i64 (C : Int), .int .i64 (R : Int)] 119 (0, 0)) := by rw [hGe, hCe, hRe]; exact h.blk
  have hgc : decide ((g : Int) < (G : Int)) = true := by simp; omega
  have q1 : IntKind.i64.wrap (g : Int) = g := IntWalk.i64_in _ (by omega)
  have HG := Lib.hid hGe
  have HC := Lib.hid hCe
  have HRE := Lib.hid hRe
  have H := Lib.hid h
  have HK := Lib.hid hk
  clear h hk hGe hCe hRe
  go_enter Try.func29, Try.ntmps29
  go_wp2_with fail
  refine (arI_at_live (H.out.below (by repeat (first | exact Below.refl _ _ | assumption | refine Below.drew ?_ | refine below_drewN ?_ _ | refine Below.alloc ?_ (by simp <;> omega) _ | refine Below.setCell ?_ (by simp <;> omega) _ | (apply bl_trans; assumption; (simp <;> omega))))) k g _ HK.out).mono ?_
  rintro e w' ⟨rfl, hb⟩
  have hz : w.heap.size < w'.heap.size := by have := hb.size; simp at this; omega
  have hblk : ∀ (j : Nat) o, w.heap[j]? = some o → w'.heap[j]? = some o := fun j o hj => (hb.block j (by have := lt_of_some hj; simp; omega)).trans (alloc_blk hj _)
  have nb := hblk _ _ blk'
  have nc := hblk _ _ hcur
  have c0 := (hb.cell (p := ⟨gb, k * 3, none⟩) (by simp; omega)).trans ((World.cell?_alloc_lt _ _ _ hgb).trans s0)
  have c1 := (hb.cell (p := ⟨gb, k * 3 + 1, none⟩) (by simp; omega)).trans ((World.cell?_alloc_lt _ _ _ hgb).trans s1)
  have c2 := (hb.cell (p := ⟨gb, k * 3 + 2, none⟩) (by simp; omega)).trans ((World.cell?_alloc_lt _ _ _ hgb).trans s2)
  have fr1 := fun o => free_blk nc o
  have fr2 := fun o => free_blk nb o
  have d1 := cell_blk nb 1 rfl
  have d4 := cell_blk nb 4 rfl
  have d5 := cell_blk nb 5 rfl
  have d3 := cell_blk nb 3 rfl
  have c3 : w'.cell? ⟨w.heap.size, 0, none⟩ = some (.int .u32 ((k : Int) + 1)) := (hb.cell (p := ⟨w.heap.size, 0, none⟩) (by simp)).trans (by simp)
  have hb' := hb
  have hab' := lt_of_some nb
  have hgb' := lt_of_some nc
  obtain ⟨i0, hi0, hz0, hz1, hz2⟩ := info_parts u32I_info
  clear s0 s1 s2 blk' hcur hblk nb nc hb
  go_wp2
  go_quiet (fail)
  go_wp2
  have hR := ((((H.out.raw.below (w' := w') (bl_trans hb' (by simp) (by repeat (first | exact Below.refl _ _ | assumption | refine Below.drew ?_ | refine below_drewN ?_ _ | refine Below.alloc ?_ (by simp <;> omega) _ | refine Below.setCell ?_ (by simp <;> omega) _ | (apply bl_trans; assumption; (simp <;> omega)))))).slot ⟨by decide, by decide⟩ rfl (g, false, [t]) HK.out 1 (.bool false) (by omega) rfl).slot ⟨by decide, by decide⟩ (by simp) (k := k) (s := (g, false, [t])) (g, false, [(.int .i64 0)]) (by simp [(List.getElem?_eq_some_iff.1 HK.out).1]) 2 (.int .i64 0) (by omega) rfl).count ⟨by decide, by decide⟩ ((C : Int) - 1)).drewN nq
  have w4 : ((((w'.setCell ⟨gb, k * 3 + 1, none⟩ (.bool false)).setCell ⟨gb, k * 3 + 2, none⟩ (.int .i64 0)).setCell ⟨ab, 4, none⟩ (.int .i64 ((C : Int) - 1))).drewN nq).cell? ⟨w.heap.size, 0, none⟩ = some (.int .u32 ((k : Int) + 1)) := by
    rw [World.cell?_drewN, set_cell_ne _ (by simp; omega), set_cell_ne _ (by simp; omega), set_cell_ne _ (by simp; omega)]
    exact c3
  have hsz : w'.heap.size = ((((w'.setCell ⟨gb, k * 3 + 1, none⟩ (.bool false)).setCell ⟨gb, k * 3 + 2, none⟩ (.int .i64 0)).setCell ⟨ab, 4, none⟩ (.int .i64 ((C : Int) - 1))).drewN nq).heap.size := by simp
  clear d1 d4 d5 d3 c0 c1 c2 c3 fr1 fr2
  change ArRaw _ _ _ _ _ _ ((((w'.setCell ⟨gb, k * 3 + 1, none⟩ (.bool false)).setCell ⟨gb, k * 3 + 2, none⟩ (.int .i64 0)).setCell ⟨ab, 4, none⟩ (.int .i64 ((C : Int) - 1))).drewN nq) _ _ _ _ _ _ _ _ _ at hR
  generalize ((((w'.setCell ⟨gb, k * 3 + 1, none⟩ (.bool false)).setCell ⟨gb, k * 3 + 2, none⟩ (.int .i64 0)).setCell ⟨ab, 4, none⟩ (.int .i64 ((C : Int) - 1))).drewN nq) = W at hR w4 hsz ⊢
  have w3 := cell_blk hR.blk 3 rfl
  have f3 := free_blk hR.blk 3
  have hF := hR.rowF
  have HSZ := Lib.hid hsz
  have HR := Lib.hid hR
  clear hsz hR
  simp at w3
  have habW := lt_of_some HR.out.blk
  go_region_law ((refine step_append_lies _ (by rfl) _ _ 103 (by rfl) B 37 i0 _ 1 4 Try.underlying103 hi0 hz0 hz1 hz2 rfl (by omega) fv _ _ (by rfl) ((hF.alloc _).drew) ⟨W.heap.size, 0, none⟩ 1 1 [.int .u32 (k : Int)] (by rfl) (by rfl) (World.news_of_block (cs := #[.int .u32 (k : Int)]) (t := 37) (fr := (0, 0)) (Go.heap_alloc_new W _)) (by simp [Value.oneCell']) (by omega) (by unfold maxLen; omega) (by omega) (by simp; have := HR.out.base; omega) (W.heap.size + 1) (by simp) ?_; intro gg cap1 w1 hown1 hgrow hat hlt; have nb1 := (hgrow.block ab (by simp; omega) (row_ne hF HR.out.blk (by decide))).trans (alloc_blk HR.out.blk _); have x1 := cell_blk nb1 3 rfl; have x2 := free_blk nb1 3))
  all_goals go_wp2
  all_goals go_ret
  all_goals refine ⟨.slice (some ⟨gg, 0, none⟩) (A.free.length + 1) cap1, rfl, ?_⟩
  all_goals have e1 := HC.out
  all_goals exact ((HR.out.alloc _).drew.pushF (by decide) hgrow hown1).at { A with all := A.all.set k (g, false, [(.int .i64 0)]), free := A.free ++ [k], count := A.count - 1 } rfl rfl (by simp) rfl (by show (C : Int) - 1 = ((A.count - 1 : Nat) : Int); omega) rfl (H.out.ok.freed HK.out rfl (by have := HG.out; omega))
end Go.Proofs.Ytlmbpbijhhnhpaa
