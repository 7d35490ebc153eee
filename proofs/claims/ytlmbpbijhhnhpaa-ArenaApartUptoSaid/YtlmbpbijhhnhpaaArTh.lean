/- An arena of things of three cells: New, Alloc of a slot that never was used, Get of what lives, Free, Count, Left, Retired. -/
import Derived.Test.YtlmbpbijhhnhpaaArIAlloc
namespace Go.Proofs.Ytlmbpbijhhnhpaa
open Go.RowKit
set_option linter.unusedVariables false
set_option maxRecDepth 100000

theorem run_store_float (P : Program) (w : World) (a : Addr) (k : FloatKind) (n : Nat) (m : Mode) : (store a (.float k n) m).run P w = stored P w a (.float k n) m := run_store P w a _ m rfl
attribute [local go_sem] run_store_float

set_option maxHeartbeats 800000 in
theorem arTh_at_live {B : Nat} {w : World} {ab gb cap : Nat} {A : Ar} {fv : Value} (h : ArAt 105 110 37 3 B w ab A (.slice (some ⟨gb, 0, none⟩) A.all.length cap) fv) (k g : Nat) (t : List Value) (hk : A.all[k]? = some (g, true, t)) :
    Calls Try.prog 57 #[.pointer (some ⟨ab, 0, none⟩), .agg #[.int .u32 ((k : Int) + 1), .int .u32 (g : Int)]] w fun e w' => e = .returned (.pointer (some ⟨gb, k * (3 + 2), none⟩)) ∧ Below w.heap.size w w' := by
  obtain ⟨b1, b2, b3, b4⟩ := u32_bound h.ok hk
  have a2 := cell_blk h.blk 2 rfl
  have hab := lt_of_some h.blk
  have s0 := (h.rowA.cellAt (k * (3 + 2) + 0) (by have := Nat.mul_le_mul_right (3 + 2) (show k + 1 ≤ A.all.length from b1); simp only [Nat.add_mul] at this; omega)).trans (scells_at h.ok.thing hk 0 (by omega))
  have s1 := (h.rowA.cellAt (k * (3 + 2) + 1) (by have := Nat.mul_le_mul_right (3 + 2) (show k + 1 ≤ A.all.length from b1); simp only [Nat.add_mul] at this; omega)).trans (scells_at h.ok.thing hk 1 (by omega))
  simp at s0 s1 a2
  have hgb : gb < w.heap.size := block_lt_of_cell s0
  clear h hk
  have q0 : hEq ((k : Int) + 1) g 0 0 = false := hEq_false (.inl (by omega))
  have q1 : IntKind.i64.wrap ((k : Int) + 1) = (k : Int) + 1 := IntWalk.i64_in _ (by omega)
  have q2 : decide ((k : Int) + 1 < 1) = false := by simp; omega
  have q3 : decide ((A.all.length : Int) < (k : Int) + 1) = false := by simp; omega
  have q4 : IntKind.u32.wrap ((k : Int)) = (k : Int) := IntWalk.u32_in _ (by omega)
  have q5 : (k : Int) < (A.all.length : Int) := by omega
  have q6 : hEq ((k : Int) + 1) g ((k : Int) + 1) g = true := hEq_true rfl rfl
  go_enter Try.func57, Try.ntmps57
  go_wp2
  go_quiet (fail)
  go_wp2
  go_quiet (fail)
  go_wp2
  go_region
  all_goals go_wp2
  all_goals go_ret
  all_goals exact ⟨rfl, (by repeat (first | exact Below.refl _ _ | assumption | refine Below.drew ?_ | refine below_drewN ?_ _ | refine Below.alloc ?_ (by simp <;> omega) _ | refine Below.setCell ?_ (by simp <;> omega) _ | (apply bl_trans; assumption; (simp <;> omega))))⟩


set_option maxHeartbeats 800000 in
/-- A handle that does not live: none, of no slot, or of a slot that is free or has had others. -/
theorem arTh_at_dead {B : Nat} {w : World} {ab : Nat} {A : Ar} {av fv : Value} (h : ArAt 105 110 37 3 B w ab A av fv) (s g : Nat) (hs : s ≤ 4294967295) (hg : g ≤ 4294967295) (hl : A.live s g = false) :
    Calls Try.prog 57 #[.pointer (some ⟨ab, 0, none⟩), .agg #[.int .u32 (s : Int), .int .u32 (g : Int)]] w fun e w' => e = .returned (.pointer none) ∧ Below w.heap.size w w' := by
  have hab := lt_of_some h.blk
  have hlen := h.ok.len
  have hS := h.ok.S2
  have a2 := cell_blk h.blk 2 rfl
  by_cases h0 : s = 0
  · subst h0
    clear hl
    by_cases hg0 : g = 0
    · subst hg0
      have q0 : hEq 0 0 0 0 = true := hEq_true rfl rfl
      go_enter Try.func57, Try.ntmps57
      go_wp2
      go_quiet (fail)
      go_wp2
      go_ret
      exact ⟨rfl, (by repeat (first | exact Below.refl _ _ | assumption | refine Below.drew ?_ | refine below_drewN ?_ _ | refine Below.alloc ?_ (by simp <;> omega) _ | refine Below.setCell ?_ (by simp <;> omega) _ | (apply bl_trans; assumption; (simp <;> omega))))⟩
    · have q0 : hEq 0 (g : Int) 0 0 = false := hEq_false (.inr (by omega))
      have q1 : IntKind.i64.wrap (0 : Int) = 0 := IntWalk.i64_in _ (by omega)
      go_enter Try.func57, Try.ntmps57
      go_wp2
      go_quiet (fail)
      go_wp2
      go_ret
      exact ⟨rfl, (by repeat (first | exact Below.refl _ _ | assumption | refine Below.drew ?_ | refine below_drewN ?_ _ | refine Below.alloc ?_ (by simp <;> omega) _ | refine Below.setCell ?_ (by simp <;> omega) _ | (apply bl_trans; assumption; (simp <;> omega))))⟩
  · obtain ⟨k, rfl⟩ : ∃ k, s = k + 1 := ⟨s - 1, by omega⟩
    have ek : ((k + 1 : Nat) : Int) = (k : Int) + 1 := by omega
    rw [ek]
    have q0 : hEq ((k : Int) + 1) g 0 0 = false := hEq_false (.inl (by omega))
    have q1 : IntKind.i64.wrap ((k : Int) + 1) = (k : Int) + 1 := IntWalk.i64_in _ (by omega)
    have q2 : decide ((k : Int) + 1 < 1) = false := by simp; omega
    obtain ⟨n, cap, av', hav, hn⟩ : ∃ n cap av', av = .slice av' n cap ∧ n = A.all.length := by
      rcases h.rowA.2 with ⟨rfl, hn⟩ | ⟨gb, cap, cur, rfl, _⟩
      · exact ⟨0, 0, none, rfl, hn.symm⟩
      · exact ⟨_, cap, _, rfl, rfl⟩
    by_cases hk : A.all.length ≤ k
    · have q3 : decide ((n : Int) < (k : Int) + 1) = true := by simp; omega
      rw [hav] at a2
      clear hl h hav ek
      go_enter Try.func57, Try.ntmps57
      go_wp2
      go_quiet (fail)
      go_wp2
      go_ret
      exact ⟨rfl, (by repeat (first | exact Below.refl _ _ | assumption | refine Below.drew ?_ | refine below_drewN ?_ _ | refine Below.alloc ?_ (by simp <;> omega) _ | refine Below.setCell ?_ (by simp <;> omega) _ | (apply bl_trans; assumption; (simp <;> omega))))⟩
    · have q3 : decide ((n : Int) < (k : Int) + 1) = false := by simp; omega
      have q4 : IntKind.u32.wrap ((k : Int)) = (k : Int) := IntWalk.u32_in _ (by omega)
      have q5 : (k : Int) < (n : Int) := by omega
      obtain ⟨gb, rfl⟩ : ∃ gb, av' = some ⟨gb, 0, none⟩ := by
        rcases h.rowA.2 with ⟨rfl, hn⟩ | ⟨gb, cap, cur, rfl, _⟩
        · omega
        · cases hav; exact ⟨gb, rfl⟩
      have hav' : av = .slice (some ⟨gb, 0, none⟩) A.all.length cap := by rw [hav, hn]
      subst hav'
      obtain ⟨x, hx⟩ : ∃ x, A.all[k]? = some x := ⟨_, List.getElem?_eq_getElem (by omega)⟩
      obtain ⟨g', u, t⟩ := x
      have s0 := (h.rowA.cellAt (k * (3 + 2) + 0) (by have := Nat.mul_le_mul_right (3 + 2) (show k + 1 ≤ A.all.length by omega); simp only [Nat.add_mul] at this; omega)).trans (scells_at h.ok.thing hx 0 (by omega))
      have s1 := (h.rowA.cellAt (k * (3 + 2) + 1) (by have := Nat.mul_le_mul_right (3 + 2) (show k + 1 ≤ A.all.length by omega); simp only [Nat.add_mul] at this; omega)).trans (scells_at h.ok.thing hx 1 (by omega))
      simp at s0 s1 a2
      have hgb : gb < w.heap.size := block_lt_of_cell s0
      have hd : u = false ∨ (u = true ∧ hEq ((k : Int) + 1) g ((k : Int) + 1) g' = false) := by
        cases u
        · exact .inl rfl
        · refine .inr ⟨rfl, hEq_false (.inr ?_)⟩
          intro e
          have : A.live (k + 1) g = true := Ar.live_iff.2 ⟨by omega, t, by rw [show g = g' by omega]; simpa using hx⟩
          rw [this] at hl; cases hl
      clear hl h hav ek hx
      subst hn
      rcases hd with rfl | ⟨rfl, q6⟩
      all_goals
        go_enter Try.func57, Try.ntmps57
        go_wp2
        go_quiet (fail)
        go_wp2
        go_quiet (fail)
        go_wp2
        go_region
        all_goals go_wp2
        all_goals go_ret
        all_goals exact ⟨rfl, (by repeat (first | exact Below.refl _ _ | assumption | refine Below.drew ?_ | refine below_drewN ?_ _ | refine Below.alloc ?_ (by simp <;> omega) _ | refine Below.setCell ?_ (by simp <;> omega) _ | (apply bl_trans; assumption; (simp <;> omega))))⟩

theorem arTh_count {B : Nat} {w : World} {ab : Nat} {A : Ar} {av fv : Value} (h : ArAt 105 110 37 3 B w ab A av fv) :
    Calls Try.prog 20 #[.pointer (some ⟨ab, 0, none⟩)] w fun e w' => e = .returned (.int .i64 (A.count : Int)) ∧ Below w.heap.size w w' := by
  have a4 := cell_blk h.blk 4 rfl
  clear h
  go_enter Try.func20, Try.ntmps20
  go_wp2
  go_ret
  exact ⟨rfl, (by repeat (first | exact Below.refl _ _ | assumption | refine Below.drew ?_ | refine below_drewN ?_ _ | refine Below.alloc ?_ (by simp <;> omega) _ | refine Below.setCell ?_ (by simp <;> omega) _ | (apply bl_trans; assumption; (simp <;> omega))))⟩


theorem arTh_retired {B : Nat} {w : World} {ab : Nat} {A : Ar} {av fv : Value} (h : ArAt 105 110 37 3 B w ab A av fv) :
    Calls Try.prog 19 #[.pointer (some ⟨ab, 0, none⟩)] w fun e w' => e = .returned (.int .i64 (A.ret : Int)) ∧ Below w.heap.size w w' := by
  have a5 := cell_blk h.blk 5 rfl
  clear h
  go_enter Try.func19, Try.ntmps19
  go_wp2
  go_ret
  exact ⟨rfl, (by repeat (first | exact Below.refl _ _ | assumption | refine Below.drew ?_ | refine below_drewN ?_ _ | refine Below.alloc ?_ (by simp <;> omega) _ | refine Below.setCell ?_ (by simp <;> omega) _ | (apply bl_trans; assumption; (simp <;> omega))))⟩


theorem arTh_left {B : Nat} {w : World} {ab : Nat} {A : Ar} {av fv : Value} (h : ArAt 105 110 37 3 B w ab A av fv) :
    Calls Try.prog 21 #[.pointer (some ⟨ab, 0, none⟩)] w fun e w' => e = .returned (.int .i64 ((A.S : Int) - A.count - A.ret)) ∧ Below w.heap.size w w' := by
  have a0 := cell_blk h.blk 0 rfl
  have a4 := cell_blk h.blk 4 rfl
  have a5 := cell_blk h.blk 5 rfl
  have hl := h.ok.left
  have hS := h.ok.S2
  have q1 : IntKind.i64.wrap ((A.S : Int) - A.count) = (A.S : Int) - A.count := IntWalk.i64_in _ (by omega)
  have q2 : IntKind.i64.wrap ((A.S : Int) - A.count - A.ret) = (A.S : Int) - A.count - A.ret := IntWalk.i64_in _ (by omega)
  clear h
  go_enter Try.func21, Try.ntmps21
  go_wp2
  go_quiet (fail)
  go_wp2
  go_ret
  exact ⟨rfl, (by repeat (first | exact Below.refl _ _ | assumption | refine Below.drew ?_ | refine below_drewN ?_ _ | refine Below.alloc ?_ (by simp <;> omega) _ | refine Below.setCell ?_ (by simp <;> omega) _ | (apply bl_trans; assumption; (simp <;> omega))))⟩


theorem arTh_get_live {B : Nat} {w : World} {ab gb cap : Nat} {A : Ar} {fv : Value} (h : ArAt 105 110 37 3 B w ab A (.slice (some ⟨gb, 0, none⟩) A.all.length cap) fv) (k g : Nat) (xs : ByteArray) (xa : Option Addr) (xn xc xf : Nat) (hk : A.all[k]? = some (g, true, [.string xs, .slice xa xn xc, .float .f64 xf])) :
    Calls Try.prog 17 #[.pointer (some ⟨ab, 0, none⟩), .agg #[.int .u32 ((k : Int) + 1), .int .u32 (g : Int)]] w fun e w' => e = .returned (.tuple #[(.agg #[.string xs, .slice xa xn xc, .float .f64 xf]), .int .i64 0]) ∧ Below w.heap.size w w' := by
  have s2 := slotAt h rfl hk 2 (by omega)
  have s3 := slotAt h rfl hk 3 (by omega)
  have s4 := slotAt h rfl hk 4 (by omega)
  simp at s2 s3 s4
  have hgb : gb < w.heap.size := block_lt_of_cell s2
  have H := Lib.hid h
  have HK := Lib.hid hk
  clear h hk
  go_enter Try.func17, Try.ntmps17
  go_wp2_with fail
  refine (arTh_at_live (H.out.below (by repeat (first | exact Below.refl _ _ | assumption | refine Below.drew ?_ | refine below_drewN ?_ _ | refine Below.alloc ?_ (by simp <;> omega) _ | refine Below.setCell ?_ (by simp <;> omega) _ | (apply bl_trans; assumption; (simp <;> omega))))) k g _ HK.out).mono ?_
  rintro e w' ⟨rfl, hb⟩
  have hbs := hb.size
  simp at hbs
  have c2 := (hb.cell (p := ⟨gb, k * 5 + 2, none⟩) (by simp; omega)).trans ((World.cell?_alloc_lt _ _ _ (by simp; omega)).trans ((World.cell?_alloc_lt _ _ _ hgb).trans s2))
  have c3 := (hb.cell (p := ⟨gb, k * 5 + 3, none⟩) (by simp; omega)).trans ((World.cell?_alloc_lt _ _ _ (by simp; omega)).trans ((World.cell?_alloc_lt _ _ _ hgb).trans s3))
  have c4 := (hb.cell (p := ⟨gb, k * 5 + 4, none⟩) (by simp; omega)).trans ((World.cell?_alloc_lt _ _ _ (by simp; omega)).trans ((World.cell?_alloc_lt _ _ _ hgb).trans s4))
  have nX : w'.heap[w.heap.size + 1]? = some (.cells #[.string ⟨#[]⟩, .slice none 0 0, .float .f64 0] 32 (0, 0)) := (hb.block (w.heap.size + 1) (by simp)).trans (by simpa using Go.heap_alloc_new (w.alloc (.cells #[.int .u32 ((k : Int) + 1), .int .u32 (g : Int)] 39)) (.cells #[.string ⟨#[]⟩, .slice none 0 0, .float .f64 0] 32))
  have y0 := cell_blk nX 0 rfl
  have y1 := cell_blk nX 1 rfl
  have y2 := cell_blk nX 2 rfl
  have v0 := free_blk nX 0
  have v1 := free_blk nX 1
  have v2 := free_blk nX 2
  simp at y0 y1 y2
  have HX := Lib.hid nX
  clear s2 s3 s4 nX
  go_wp2
  have hX4 := set_blk (set_blk (set_blk HX.out 0 (.string xs)) 1 (.slice xa xn xc)) 2 (.float .f64 xf)
  have hB : Below w.heap.size w ((((w'.setCell ⟨w.heap.size + 1, 0, none⟩ (.string xs)).setCell ⟨w.heap.size + 1, 1, none⟩ (.slice xa xn xc)).setCell ⟨w.heap.size + 1, 2, none⟩ (.float .f64 xf))) := (by repeat (first | exact Below.refl _ _ | assumption | refine Below.drew ?_ | refine below_drewN ?_ _ | refine Below.alloc ?_ (by simp <;> omega) _ | refine Below.setCell ?_ (by simp <;> omega) _ | (apply bl_trans; assumption; (simp <;> omega))))
  generalize (((w'.setCell ⟨w.heap.size + 1, 0, none⟩ (.string xs)).setCell ⟨w.heap.size + 1, 1, none⟩ (.slice xa xn xc)).setCell ⟨w.heap.size + 1, 2, none⟩ (.float .f64 xf)) = Z at hX4 hB ⊢
  have z0 := cell_blk hX4 0 rfl
  have z1 := cell_blk hX4 1 rfl
  have z2 := cell_blk hX4 2 rfl
  simp at z0 z1 z2
  exact bodyPost_ret (v := .tuple #[(.agg #[.string xs, .slice xa xn xc, .float .f64 xf]), .int .i64 0]) (by simp [results, Try.results17, go_sem, z0, z1, z2]) rfl ⟨rfl, hB⟩

theorem arTh_free_dead {B : Nat} {w : World} {ab : Nat} {A : Ar} {av fv : Value} (h : ArAt 105 110 37 3 B w ab A av fv) (s g : Nat) (hs : s ≤ 4294967295) (hg : g ≤ 4294967295) (hl : A.live s g = false) :
    Calls Try.prog 18 #[.pointer (some ⟨ab, 0, none⟩), .agg #[.int .u32 (s : Int), .int .u32 (g : Int)]] w fun e w' => e = .returned (.int .i64 51) ∧ Below w.heap.size w w' := by
  have H := Lib.hid h
  clear h
  go_enter Try.func18, Try.ntmps18
  go_wp2_with (go_at_call 57; refine (arTh_at_dead (H.out.below (by repeat (first | exact Below.refl _ _ | assumption | refine Below.drew ?_ | refine below_drewN ?_ _ | refine Below.alloc ?_ (by simp <;> omega) _ | refine Below.setCell ?_ (by simp <;> omega) _ | (apply bl_trans; assumption; (simp <;> omega))))) s g hs hg hl).mono ?_; rintro e w' ⟨rfl, hb⟩)
  go_ret
  exact ⟨rfl, (by repeat (first | exact Below.refl _ _ | assumption | refine Below.drew ?_ | refine below_drewN ?_ _ | refine Below.alloc ?_ (by simp <;> omega) _ | refine Below.setCell ?_ (by simp <;> omega) _ | (apply bl_trans; assumption; (simp <;> omega))))⟩


theorem arTh_new (S G : Nat) (B : Nat) (w : World) (hB : B ≤ w.heap.size) (h1 : 1 ≤ S) (h2 : S ≤ 2147483647) (h3 : 1 ≤ G) (h4 : G ≤ 4294967295) :
    Calls Try.prog 12 #[.int .i64 (S : Int), .int .i64 (G : Int)] w fun e w' => e = .returned (.tuple #[.pointer (some ⟨w.heap.size, 0, none⟩), .int .i64 0]) ∧
      ArAt 105 110 37 3 B w' w.heap.size (Ar.new S G) (.slice none 0 0) (.slice none 0 0) ∧ Below w.heap.size w w' := by
  go_enter Try.func12, Try.ntmps12
  go_wp2
  go_ret2
  refine ⟨rfl, ⟨⟨h1, h2, h3, h4, by simp [Ar.new], by simp [Ar.new], by simp [Ar.new], by simp [Ar.new], by simp [Ar.new], by simp [Ar.new], by simp [Ar.new]⟩, hB, ?_, ?_, ?_⟩, (by repeat (first | exact Below.refl _ _ | assumption | refine Below.drew ?_ | refine below_drewN ?_ _ | refine Below.alloc ?_ (by simp <;> omega) _ | refine Below.setCell ?_ (by simp <;> omega) _ | (apply bl_trans; assumption; (simp <;> omega))))⟩
  · rw [Go.heap_alloc_new]; rfl
  · exact World.ownsRow_nil _ _ _ _
  · exact World.ownsRow_nil _ _ _ _

set_option maxHeartbeats 2000000 in
theorem arTh_free_last {B : Nat} {w : World} {ab gb cap : Nat} {A : Ar} {fv : Value} (h : ArAt 105 110 37 3 B w ab A (.slice (some ⟨gb, 0, none⟩) A.all.length cap) fv) (k g : Nat) (xs : ByteArray) (xa : Option Addr) (xn xc xf : Nat) (hk : A.all[k]? = some (g, true, [.string xs, .slice xa xn xc, .float .f64 xf])) (hg : A.G ≤ g) :
    Calls Try.prog 18 #[.pointer (some ⟨ab, 0, none⟩), .agg #[.int .u32 ((k : Int) + 1), .int .u32 (g : Int)]] w fun e w' => e = .returned (.int .i64 0) ∧
      ArAt 105 110 37 3 B w' ab { A with all := A.all.set k (g, false, [.string ⟨#[]⟩, .slice none 0 0, .float .f64 0]), count := A.count - 1, ret := A.ret + 1 } (.slice (some ⟨gb, 0, none⟩) A.all.length cap) fv ∧ FrT [105, 110, 37] B w w' := by
  have s0 := slotAt h rfl hk 0 (by omega)
  have s1 := slotAt h rfl hk 1 (by omega)
  have s2 := slotAt h rfl hk 2 (by omega)
  have s3 := slotAt h rfl hk 3 (by omega)
  have s4 := slotAt h rfl hk 4 (by omega)
  simp at s0 s1 s2 s3 s4
  have hgb : gb < w.heap.size := block_lt_of_cell s2
  have hab := lt_of_some h.blk
  obtain ⟨cur, hcur, _⟩ := ownsRow_blk h.rowA
  have hne : ab ≠ gb := ne_blk h.blk hcur (by decide)
  have hne' : gb ≠ ab := Ne.symm hne
  have hc0 : 1 ≤ A.count := by
    have h1 := h.ok.cnt
    have h2 : 0 < A.all.countP (fun s => s.2.1) := List.countP_pos_iff.2 ⟨(g, true, [.string xs, .slice xa xn xc, .float .f64 xf]), List.mem_of_getElem? hk, rfl⟩
    omega
  have hcb := h.ok.left
  have hSb := h.ok.S2
  have hG2 := h.ok.G2
  have hgl := (h.ok.gen _ (List.mem_of_getElem? hk)).2
  simp at hgl
  obtain ⟨G, hGe⟩ : ∃ G, G = A.G := ⟨_, rfl⟩
  obtain ⟨C, hCe⟩ : ∃ C, C = A.count := ⟨_, rfl⟩
  obtain ⟨R, hRe⟩ : ∃ R, R = A.ret := ⟨_, rfl⟩
  rw [← hGe] at hg hG2 hgl
  rw [← hCe] at hc0 hcb
  rw [← hRe] at hcb
  have blk' : ∃ fv', w.heap[ab]? = some (.cells #[.int .i64 (A.S : Int), .int .i64 (G : Int), .slice (some ⟨gb, 0, none⟩) A.all.length cap, fv', .int .i64 (C : Int), .int .i64 (R : Int)] 105 (0, 0)) := ⟨fv, by rw [hGe, hCe, hRe]; exact h.blk⟩
  obtain ⟨fv', blk'⟩ := blk'
  have hgc : decide ((g : Int) < (G : Int)) = false := by simp; omega
  have q1 : IntKind.i64.wrap (g : Int) = g := IntWalk.i64_in _ (by omega)
  have HG := Lib.hid hGe
  have HC := Lib.hid hCe
  have HRE := Lib.hid hRe
  have H := Lib.hid h
  have HK := Lib.hid hk
  clear h hk hGe hCe hRe
  go_enter Try.func18, Try.ntmps18
  go_wp2_with fail
  refine (arTh_at_live (H.out.below (by repeat (first | exact Below.refl _ _ | assumption | refine Below.drew ?_ | refine below_drewN ?_ _ | refine Below.alloc ?_ (by simp <;> omega) _ | refine Below.setCell ?_ (by simp <;> omega) _ | (apply bl_trans; assumption; (simp <;> omega))))) k g _ HK.out).mono ?_
  rintro e w' ⟨rfl, hb⟩
  have hz : w.heap.size < w'.heap.size := by have := hb.size; simp at this; omega
  have hblk : ∀ (j : Nat) o, w.heap[j]? = some o → w'.heap[j]? = some o := fun j o hj => (hb.block j (by have := lt_of_some hj; simp; omega)).trans (alloc_blk hj _)
  have nb := hblk _ _ blk'
  have nc := hblk _ _ hcur
  have c0 := (hb.cell (p := ⟨gb, k * 5, none⟩) (by simp; omega)).trans ((World.cell?_alloc_lt _ _ _ hgb).trans s0)
  have c1 := (hb.cell (p := ⟨gb, k * 5 + 1, none⟩) (by simp; omega)).trans ((World.cell?_alloc_lt _ _ _ hgb).trans s1)
  have c2 := (hb.cell (p := ⟨gb, k * 5 + 2, none⟩) (by simp; omega)).trans ((World.cell?_alloc_lt _ _ _ hgb).trans s2)
  have c3 := (hb.cell (p := ⟨gb, k * 5 + 3, none⟩) (by simp; omega)).trans ((World.cell?_alloc_lt _ _ _ hgb).trans s3)
  have c4 := (hb.cell (p := ⟨gb, k * 5 + 4, none⟩) (by simp; omega)).trans ((World.cell?_alloc_lt _ _ _ hgb).trans s4)
  have fr1 := fun o => free_blk nc o
  have fr2 := fun o => free_blk nb o
  have d1 := cell_blk nb 1 rfl
  have d4 := cell_blk nb 4 rfl
  have d5 := cell_blk nb 5 rfl
  have hb' := hb
  have hgb' := lt_of_some nc
  have hab' := lt_of_some nb
  clear s0 s1 s2 s3 s4 blk' hcur hblk nb nc hb
  go_wp2
  go_quiet (fail)
  go_wp2
  go_ret
  refine ⟨rfl, ?_⟩
  have sl0 := (H.out.raw.below (w' := w') (bl_trans hb' (by simp) (by repeat (first | exact Below.refl _ _ | assumption | refine Below.drew ?_ | refine below_drewN ?_ _ | refine Below.alloc ?_ (by simp <;> omega) _ | refine Below.setCell ?_ (by simp <;> omega) _ | (apply bl_trans; assumption; (simp <;> omega)))))).slot ⟨by decide, by decide⟩ rfl (g, false, [.string xs, .slice xa xn xc, .float .f64 xf]) HK.out 1 (.bool false) (by omega) rfl
  have hkl := (List.getElem?_eq_some_iff.1 HK.out).1
  have sl1 := sl0.slot ⟨by decide, by decide⟩ (by simp) (k := k) (s := (g, false, [.string xs, .slice xa xn xc, .float .f64 xf])) (g, false, [.string ⟨#[]⟩, .slice xa xn xc, .float .f64 xf]) (by simp [hkl]) 2 (.string ⟨#[]⟩) (by omega) rfl
  have sl2 := sl1.slot ⟨by decide, by decide⟩ (by simp) (k := k) (s := (g, false, [.string ⟨#[]⟩, .slice xa xn xc, .float .f64 xf])) (g, false, [.string ⟨#[]⟩, .slice none 0 0, .float .f64 xf]) (by simp [hkl]) 3 (.slice none 0 0) (by omega) rfl
  have sl3 := sl2.slot ⟨by decide, by decide⟩ (by simp) (k := k) (s := (g, false, [.string ⟨#[]⟩, .slice none 0 0, .float .f64 xf])) (g, false, [.string ⟨#[]⟩, .slice none 0 0, .float .f64 0]) (by simp [hkl]) 4 (.float .f64 0) (by omega) rfl
  have hR := ((((sl3.count ⟨by decide, by decide⟩ ((C : Int) - 1)).alloc (.cells #[.string ⟨#[]⟩, .slice none 0 0, .float .f64 0] 32)).drewN nq).retd ⟨by decide, by decide⟩ ((R : Int) + 1))
  have e1 := HC.out
  have e2 := HRE.out
  exact hR.at { A with all := A.all.set k (g, false, [.string ⟨#[]⟩, .slice none 0 0, .float .f64 0]), count := A.count - 1, ret := A.ret + 1 } rfl rfl (by simp) rfl (by show (C : Int) - 1 = ((A.count - 1 : Nat) : Int); omega) (by show (R : Int) + 1 = ((A.ret + 1 : Nat) : Int); omega) (H.out.ok.retired HK.out rfl)

theorem slotTh_info : (Try.prog.info? 110).map (fun i => (i.zero, i.size, i.bytes)) = some (some (.agg #[.int .u32 0, .bool false, .string ⟨#[]⟩, .slice none 0 0, .float .f64 0]), 3 + 2, 56) := by kernel_rfl


theorem arTh_alloc_grow {B : Nat} {w : World} {ab : Nat} {A : Ar} {av fv : Value} (h : ArAt 105 110 37 3 B w ab A av fv) (xs : ByteArray) (xa : Option Addr) (xn xc xf : Nat) (hf : A.free = []) (hl : A.all.length < A.S) :
    Calls Try.prog 14 #[.pointer (some ⟨ab, 0, none⟩), (.agg #[.string xs, .slice xa xn xc, .float .f64 xf])] w fun e w' => ∃ av', e = .returned (.tuple #[.agg #[.int .u32 ((A.all.length : Int) + 1), .int .u32 1], .int .i64 0]) ∧
      ArAt 105 110 37 3 B w' ab { A with all := A.all ++ [(1, true, [.string xs, .slice xa xn xc, .float .f64 xf])], count := A.count + 1 } av' fv ∧ FrT [105, 110, 37] B w w' := by
  have hS := h.ok.S2
  have hG := h.ok.G2
  have hab := lt_of_some h.blk
  have hcl := h.ok.left
  have a0 := cell_blk h.blk 0 rfl
  have a2 := cell_blk h.blk 2 rfl
  have a3 := cell_blk h.blk 3 rfl
  obtain ⟨n, cap, av', hav, hn⟩ : ∃ n cap av', av = .slice av' n cap ∧ n = A.all.length := by
    rcases h.rowA.2 with ⟨rfl, hn⟩ | ⟨gb, cap, cur, rfl, _⟩
    · exact ⟨0, 0, none, rfl, hn.symm⟩
    · exact ⟨_, cap, _, rfl, rfl⟩
  obtain ⟨cap2, fv', rfl⟩ : ∃ cap2 fv', fv = .slice fv' 0 cap2 := by
    rcases h.rowF.2 with ⟨rfl, hn⟩ | ⟨gb, cap, cur, rfl, _⟩
    · exact ⟨0, none, rfl⟩
    · rw [hf]; exact ⟨cap, _, rfl⟩
  rw [hav] at a2
  simp at a0 a2 a3
  have q1 : decide (n < A.S) = true := by simp; omega
  have q2 : IntKind.u32.wrap (n : Int) = n := IntWalk.u32_in _ (by omega)
  have hn2 : n ≤ 2147483646 := by omega
  obtain ⟨C, hCe⟩ : ∃ C, C = A.count := ⟨_, rfl⟩
  rw [← hCe] at hcl
  have HN := Lib.hid hn
  have HC := Lib.hid hCe
  have H := Lib.hid h
  have HF := Lib.hid hf
  have HAV := Lib.hid hav
  clear h hf hCe hn hav
  go_enter Try.func14, Try.ntmps14
  go_wp2
  go_quiet (fail)
  have hR := ((H.out.raw.alloc (.cells #[.string xs, .slice xa xn xc, .float .f64 xf] 32)).alloc (.cells #[.int .u32 0, .int .u32 0] 39)).drewN nq
  have hX : (((w.alloc (.cells #[.string xs, .slice xa xn xc, .float .f64 xf] 32)).alloc (.cells #[.int .u32 0, .int .u32 0] 39)).drewN nq).heap[w.heap.size + 1]? = some (.cells #[.int .u32 0, .int .u32 0] 39 (0, 0)) := by simpa using Go.heap_alloc_new (w.alloc (.cells #[.string xs, .slice xa xn xc, .float .f64 xf] 32)) (.cells #[.int .u32 0, .int .u32 0] 39)
  have hY : (((w.alloc (.cells #[.string xs, .slice xa xn xc, .float .f64 xf] 32)).alloc (.cells #[.int .u32 0, .int .u32 0] 39)).drewN nq).heap[w.heap.size]? = some (.cells #[.string xs, .slice xa xn xc, .float .f64 xf] 32 (0, 0)) := alloc_blk (Go.heap_alloc_new w _) _
  have hsz : w.heap.size + 1 < (((w.alloc (.cells #[.string xs, .slice xa xn xc, .float .f64 xf] 32)).alloc (.cells #[.int .u32 0, .int .u32 0] 39)).drewN nq).heap.size := by simp
  generalize (((w.alloc (.cells #[.string xs, .slice xa xn xc, .float .f64 xf] 32)).alloc (.cells #[.int .u32 0, .int .u32 0] 39)).drewN nq) = W at hR hX hY hsz ⊢
  clear a0 a2 a3
  rw [HAV.out] at hR
  have a2 := cell_blk hR.blk 2 rfl
  simp at a2
  have hB : B ≤ W.heap.size := by have := hR.base; omega
  have habW := lt_of_some hR.blk
  have hrow := hR.rowA
  rw [← HN.out] at hrow
  obtain ⟨i0, hi0, hz0, hz1, hz2⟩ := info_parts slotTh_info
  have HR := Lib.hid hR
  have HX := Lib.hid hX
  have HY := Lib.hid hY
  clear hR hX hY
  go_wp2_with (at_builtin; refine wpList_append_lies _ rfl _ _ 102 rfl B 110 i0 _ (3 + 2) 56 Try.underlying102 hi0 hz0 hz1 hz2 rfl (by omega) (.slice av' n cap) n _ rfl (hrow.alloc _) ⟨W.heap.size, 0, none⟩ 1 1 [.int .u32 0, .bool false, .string ⟨#[]⟩, .slice none 0 0, .float .f64 0] rfl rfl (World.news_of_block (cs := #[.int .u32 0, .bool false, .string ⟨#[]⟩, .slice none 0 0, .float .f64 0]) (t := 110) (fr := (0, 0)) (Go.heap_alloc_new W _)) (by simp [Value.oneCell']) (by omega) (by unfold maxLen; omega) (by omega) (by simp; omega) (W.heap.size + 1) (by simp) ?_)
  intro gg cap1 w1 hown1 hgrow hat hlt
  have ng := (HR.out.alloc (.cells #[.int .u32 0, .bool false, .string ⟨#[]⟩, .slice none 0 0, .float .f64 0] 110)).growA (by decide) hgrow
  have b2 := cell_blk ng.1 2 rfl
  have b4 := cell_blk ng.1 4 rfl
  have e2 := free_blk ng.1 2
  have e4 := free_blk ng.1 4
  have nX := (hgrow.block (w.heap.size + 1) (by simp; omega) (row_ne (hrow.alloc (.cells #[.int .u32 0, .bool false, .string ⟨#[]⟩, .slice none 0 0, .float .f64 0] 110)) (alloc_blk HX.out _) (by decide))).trans (alloc_blk HX.out _)
  have nY := (hgrow.block w.heap.size (by simp; omega) (row_ne (hrow.alloc (.cells #[.int .u32 0, .bool false, .string ⟨#[]⟩, .slice none 0 0, .float .f64 0] 110)) (alloc_blk HY.out _) (by decide))).trans (alloc_blk HY.out _)
  have y0 := cell_blk nY 0 rfl
  have y1 := cell_blk nY 1 rfl
  have y2 := cell_blk nY 2 rfl
  have x0 := cell_blk nX 0 rfl
  have x1 := cell_blk nX 1 rfl
  have v0 := free_blk nX 0
  have v1 := free_blk nX 1
  obtain ⟨curA, hcurA, _⟩ := ownsRow_blk hown1
  have n1 : gg ≠ ab := ne_blk hcurA ng.1 (by decide)
  have n2 : gg ≠ w.heap.size + 1 := ne_blk hcurA nX (by decide)
  have n3 : ab ≠ w.heap.size + 1 := by omega
  have n4 : gg ≠ w.heap.size := ne_blk hcurA nY (by decide)
  have n5 : ab ≠ w.heap.size := by omega
  have n4' := Ne.symm n4
  have n5' := Ne.symm n5
  have n1' := Ne.symm n1
  have n2' := Ne.symm n2
  have n3' := Ne.symm n3
  have hsl := scells_length (m := 3) HR.out.thing
  rw [← HN.out] at hsl
  have s0 := hown1.cellAt (n * (3 + 2) + 0) (by rw [Nat.add_mul]; omega)
  have s1 := hown1.cellAt (n * (3 + 2) + 1) (by rw [Nat.add_mul]; omega)
  have s2 := hown1.cellAt (n * (3 + 2) + 2) (by rw [Nat.add_mul]; omega)
  have s3 := hown1.cellAt (n * (3 + 2) + 3) (by rw [Nat.add_mul]; omega)
  have s4 := hown1.cellAt (n * (3 + 2) + 4) (by rw [Nat.add_mul]; omega)
  rw [List.getElem?_append_right (by rw [hsl]; omega), hsl, Nat.add_sub_cancel_left] at s0 s1 s2 s3 s4
  have u0 := hown1.frozenAt (n * 5)
  have u1 := hown1.frozenAt (n * 5 + 1)
  have u2 := hown1.frozenAt (n * 5 + 2)
  have u3 := hown1.frozenAt (n * 5 + 3)
  have u4 := hown1.frozenAt (n * 5 + 4)
  simp at b2 b4 x0 x1 y0 y1 y2 s0 s1 s2 s3 s4
  rw [← HC.out] at b4
  have q5 : (n : Int) < (n : Int) + 1 := by omega
  have HOWN := Lib.hid hown1
  have HNG := Lib.hid ng
  have HNX := Lib.hid nX
  have HG := Lib.hid hgrow
  clear hown1 ng nX nY hgrow hsl a2 hrow hat hcurA
  go_wp2
  have ho := HOWN.out
  have hnn := HN.out
  rw [hnn] at ho
  have hP := (HR.out.alloc (.cells #[.int .u32 0, .bool false, .string ⟨#[]⟩, .slice none 0 0, .float .f64 0] 110)).pushA (by decide) HG.out (s := (0, false, [.string ⟨#[]⟩, .slice none 0 0, .float .f64 0])) rfl ho
  rw [← hnn] at hP
  have hR0 := hP.slot ⟨by decide, by decide⟩ (by simp [hnn]) (k := n) (s := (0, false, [.string ⟨#[]⟩, .slice none 0 0, .float .f64 0])) (1, false, [.string ⟨#[]⟩, .slice none 0 0, .float .f64 0]) (by simp [hnn]) 0 (.int .u32 1) (by omega) rfl
  have hR1 := hR0.slot ⟨by decide, by decide⟩ (by simp [hnn]) (k := n) (s := (1, false, [.string ⟨#[]⟩, .slice none 0 0, .float .f64 0])) (1, true, [.string ⟨#[]⟩, .slice none 0 0, .float .f64 0]) (by simp [hnn]) 1 (.bool true) (by omega) rfl
  have hR2a := hR1.slot ⟨by decide, by decide⟩ (by simp [hnn]) (k := n) (s := (1, true, [.string ⟨#[]⟩, .slice none 0 0, .float .f64 0])) (1, true, [.string xs, .slice none 0 0, .float .f64 0]) (by simp [hnn]) 2 (.string xs) (by omega) rfl
  have hR2b := hR2a.slot ⟨by decide, by decide⟩ (by simp [hnn]) (k := n) (s := (1, true, [.string xs, .slice none 0 0, .float .f64 0])) (1, true, [.string xs, .slice xa xn xc, .float .f64 0]) (by simp [hnn]) 3 (.slice xa xn xc) (by omega) rfl
  have hR2 := hR2b.slot ⟨by decide, by decide⟩ (by simp [hnn]) (k := n) (s := (1, true, [.string xs, .slice xa xn xc, .float .f64 0])) (1, true, [.string xs, .slice xa xn xc, .float .f64 xf]) (by simp [hnn]) 4 (.float .f64 xf) (by omega) rfl
  have hR3 := hR2.count ⟨by decide, by decide⟩ ((C : Int) + 1)
  have hX3 := set_other (set_other (set_other (set_other (set_other (set_other (set_other HNX.out (a := ⟨ab, 2, none⟩) n3' (.slice (some ⟨gg, 0, none⟩) (n + 1) cap1)) (a := ⟨gg, n * 5 + 0, none⟩) n2' (.int .u32 1)) (a := ⟨gg, n * 5 + 1, none⟩) n2' (.bool true)) (a := ⟨gg, n * 5 + 2, none⟩) n2' (.string xs)) (a := ⟨gg, n * 5 + 3, none⟩) n2' (.slice xa xn xc)) (a := ⟨gg, n * 5 + 4, none⟩) n2' (.float .f64 xf)) (a := ⟨ab, 4, none⟩) n3' (.int .i64 ((C : Int) + 1))
  have hR4 := ((hR3.setNew hX3 (by decide) (Nat.le_succ _) 0 (.int .u32 ((n : Int) + 1))).setNew (set_blk hX3 0 _) (by decide) (Nat.le_succ _) 1 (.int .u32 1))
  have hX4 := set_blk (set_blk hX3 0 (.int .u32 ((n : Int) + 1))) 1 (.int .u32 1)
  have hfin := hR4.at { A with all := A.all ++ [(1, true, [.string xs, .slice xa xn xc, .float .f64 xf])], count := A.count + 1 } rfl rfl (by simp [hnn]) rfl (by have := HC.out; show (C : Int) + 1 = ((A.count + 1 : Nat) : Int); omega) rfl (H.out.ok.pushed rfl hl)
  clear hR0 hR1 hR2 hR2a hR2b hR3 hR4 hX3 b2 b4 e2 e4 s0 s1 s2 s3 s4 u0 u1 u2 u3 u4 x0 x1 y0 y1 y2 v0 v1 hP ho
  rw [Nat.add_zero] at hfin hX4
  generalize ((((((((w1.setCell ⟨ab, 2, none⟩ (.slice (some ⟨gg, 0, none⟩) (n + 1) cap1)).setCell ⟨gg, n * 5, none⟩ (.int .u32 1)).setCell ⟨gg, n * 5 + 1, none⟩ (.bool true)).setCell ⟨gg, n * 5 + 2, none⟩ (.string xs)).setCell ⟨gg, n * 5 + 3, none⟩ (.slice xa xn xc)).setCell ⟨gg, n * 5 + 4, none⟩ (.float .f64 xf)).setCell ⟨ab, 4, none⟩ (.int .i64 ((C : Int) + 1))).setCell ⟨w.heap.size + 1, 0, none⟩ (.int .u32 ((n : Int) + 1))).setCell ⟨w.heap.size + 1, 1, none⟩ (.int .u32 1) = Z at hfin hX4 ⊢
  have z0 := cell_blk hX4 0 rfl
  have z1 := cell_blk hX4 1 rfl
  simp at z0 z1
  refine bodyPost_ret (v := .tuple #[.agg #[.int .u32 ((n : Int) + 1), .int .u32 1], .int .i64 0]) (by simp [results, Try.results14, go_sem, z0, z1]) rfl ⟨.slice (some ⟨gg, 0, none⟩) (n + 1) cap1, by rw [hnn], hfin⟩

end Go.Proofs.Ytlmbpbijhhnhpaa
