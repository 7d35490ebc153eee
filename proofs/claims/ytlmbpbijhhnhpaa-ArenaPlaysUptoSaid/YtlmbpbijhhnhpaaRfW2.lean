/- The document's arena: Get, Count, Left, Retired: what they compute; the program's counts without a trace. -/
import Derived.Test.YtlmbpbijhhnhpaaRfW
import Derived.Test.YtlmbpbijhhnhpaaHa5
import Derived.Deep.QuietTactic
namespace Go.Proofs.Ytlmbpbijhhnhpaa
open Go.RowKit
set_option linter.unusedVariables false
set_option maxRecDepth 100000

set_option maxHeartbeats 800000 in
theorem rf_get {B : Nat} {w : World} {rb : Nat} {T : TA Int} {av fv : Value} (h : RefAt B w rb T av fv) (s g : Nat) (hs : s ≤ 4294967295) (hg : g ≤ 4294967295) :
    Calls Try.prog 61 #[.pointer (some ⟨rb, 0, none⟩), .agg #[.int .u32 (s : Int), .int .u32 (g : Int)]] w fun e w' => e = .returned (.tuple #[.int .i64 (T.get 0 s g).1, .bool (T.at s g).isSome]) ∧ Below w.heap.size w w' := by
  cases hat : T.at s g with
  | none =>
    have H := Lib.hid h
    have HA := Lib.hid hat
    rw [show (T.get 0 s g).1 = 0 by simp [TA.get, hat]]
    clear h hat
    go_enter Try.func61, Try.ntmps61
    go_wp2_with (go_at_call 81; refine (rf_lives (H.out.below (by repeat (first | exact Below.refl _ _ | assumption | refine Below.drew ?_ | refine below_drewN ?_ _ | refine Below.alloc ?_ (by simp <;> omega) _ | refine Below.setCell ?_ (by simp <;> omega) _ | (apply bl_trans; assumption; (simp <;> omega))))) s g hs hg).mono ?_; rw [HA.out]; rintro e w' ⟨rfl, hb⟩)
    go_ret2
    exact ⟨rfl, (by repeat (first | exact Below.refl _ _ | assumption | refine Below.drew ?_ | refine below_drewN ?_ _ | refine Below.alloc ?_ (by simp <;> omega) _ | refine Below.setCell ?_ (by simp <;> omega) _ | (apply bl_trans; assumption; (simp <;> omega))))⟩
  | some x =>
    obtain ⟨h1, h2⟩ := TA.at_some hat
    obtain ⟨k, rfl⟩ : ∃ k, s = k + 1 := ⟨s - 1, by omega⟩
    rw [Nat.add_sub_cancel] at h2
    obtain ⟨gb, cap, rfl, hgb, c0, c1, c2⟩ := h.slot h2
    have hrb := lt_of_some h.blk
    have a2 := cell_blk h.blk 2 rfl
    simp at a2 c2
    have hl : k < T.all.length := (List.getElem?_eq_some_iff.1 h2).1
    have H := Lib.hid h
    have HA := Lib.hid hat
    rw [show (T.get 0 (k + 1) g).1 = x by simp [TA.get, hat]]
    have ek : ((k + 1 : Nat) : Int) = (k : Int) + 1 := by omega
    have q4 : IntKind.u32.wrap ((k : Int)) = (k : Int) := IntWalk.u32_in _ (by omega)
    obtain ⟨n, hn⟩ : ∃ n, n = T.all.length := ⟨_, rfl⟩
    rw [← hn] at a2 hl
    have p1 : (k : Int) < (n : Int) := by omega
    have HN := Lib.hid hn
    rw [ek]
    clear h hat h2 c0 c1 ek hn
    go_enter Try.func61, Try.ntmps61
    go_wp2_with fail
    refine (show Calls Try.prog 81 #[.pointer (some ⟨rb, 0, none⟩), .agg #[.int .u32 ((k : Int) + 1), .int .u32 (g : Int)]] _ _ from rf_lives (H.out.below (by repeat (first | exact Below.refl _ _ | assumption | refine Below.drew ?_ | refine below_drewN ?_ _ | refine Below.alloc ?_ (by simp <;> omega) _ | refine Below.setCell ?_ (by simp <;> omega) _ | (apply bl_trans; assumption; (simp <;> omega))))) (k + 1) g hs hg).mono ?_
    rw [HA.out]
    rintro e w' ⟨rfl, hb⟩
    have b2 := (hb.cell (p := ⟨rb, 2, none⟩) (by simp; omega)).trans ((World.cell?_alloc_lt _ _ _ hrb).trans a2)
    have d2 := (hb.cell (p := ⟨gb, k * 3 + 2, none⟩) (by simp; omega)).trans ((World.cell?_alloc_lt _ _ _ hgb).trans c2)
    have nX : w'.heap[w.heap.size]? = some (.cells #[.int .u32 ((k : Int) + 1), .int .u32 (g : Int)] 39 (0, 0)) := (hb.block w.heap.size (by simp)).trans (Go.heap_alloc_new w _)
    have y0 := cell_blk nX 0 rfl
    simp at y0
    clear a2 c2 nX
    go_wp2
    go_quiet (fail)
    go_wp2
    go_ret2
    exact ⟨rfl, (by repeat (first | exact Below.refl _ _ | assumption | refine Below.drew ?_ | refine below_drewN ?_ _ | refine Below.alloc ?_ (by simp <;> omega) _ | refine Below.setCell ?_ (by simp <;> omega) _ | (apply bl_trans; assumption; (simp <;> omega))))⟩

theorem countP_snoc {α : Type} (p : α → Bool) (l : List α) (x : α) : (l ++ [x]).countP p = l.countP p + if p x then 1 else 0 := by simp [List.countP_append, List.countP_cons]

set_option maxHeartbeats 800000 in
theorem rf_count {B : Nat} {w : World} {rb : Nat} {T : TA Int} {av fv : Value} (h : RefAt B w rb T av fv) :
    Calls Try.prog 63 #[.pointer (some ⟨rb, 0, none⟩)] w fun e w' => e = .returned (.int .i64 (T.count : Int)) ∧ w = w' := by
  have a2 := cell_blk h.blk 2 rfl
  obtain ⟨hl, _⟩ := h.len
  obtain ⟨sa, cap, rfl⟩ := h.slots
  simp at a2
  have hc : T.count = T.all.countP fun s => s.2.1 := by
    have := h.ok.cnt
    simp only [TA.ar, List.countP_map] at this
    exact this
  obtain ⟨n, hn⟩ : ∃ n, n = T.all.length := ⟨_, rfl⟩
  rw [← hn] at a2 hl
  have H := Lib.hid h
  have HN := Lib.hid hn
  have HC := Lib.hid hc
  clear h hn hc
  go_enter Try.func63, Try.ntmps63
  go_wp2_with fail
  go_loopw [3, 4] (fun v3 v4 wr => ∃ i : Nat, i ≤ n ∧ v4 = .int .i64 (i : Nat) ∧ v3 = .int .i64 (((T.all.take i).countP fun s => s.2.1 : Nat) : Int) ∧ w = wr) (fun _ v _ => n - (intOf v).toNat)
  case atStart => exact ⟨0, Nat.zero_le _, rfl, rfl, rfl⟩
  case round =>
    obtain ⟨i, hi, rfl, rfl, rfl⟩ := hrel
    by_cases hlt : i < n
    · obtain ⟨x, hx⟩ : ∃ x, T.all[i]? = some x := ⟨_, List.getElem?_eq_getElem (by rw [← HN.out]; exact hlt)⟩
      obtain ⟨g', u, y⟩ := x
      obtain ⟨gb, cap', hav, hgb, c0, c1, c2⟩ := H.out.slot hx
      simp at hav
      obtain ⟨rfl, rfl⟩ := hav
      have p1 : (i : Int) < (n : Int) := by omega
      have p2 : (0 : Int) ≤ (i : Int) := by omega
      have hs : (T.all.take (i + 1)).countP (fun s => s.2.1) = (T.all.take i).countP (fun s => s.2.1) + if u then 1 else 0 := by
        rw [List.take_add_one, hx]
        exact countP_snoc _ _ _
      have hle : (T.all.take i).countP (fun s => s.2.1) ≤ i := Nat.le_trans List.countP_le_length (by simp; omega)
      obtain ⟨m, hm⟩ : ∃ m, m = (T.all.take i).countP (fun s => s.2.1) := ⟨_, rfl⟩
      rw [← hm] at hs hle ⊢
      have HS := Lib.hid hs
      clear hx hs c0 c2 hm
      cases u with
      | true =>
        go_wp2
        go_roundw
        case rel => exact ⟨i + 1, hlt, by go_num, by rw [HS.out]; go_num, by first | rfl | trivial⟩
        case measure => simp [intOf]; omega
      | false =>
        go_wp2
        go_roundw
        case rel => exact ⟨i + 1, hlt, by go_num, by rw [HS.out]; go_num, by first | rfl | trivial⟩
        case measure => simp [intOf]; omega
    · have e : (T.all.take i).countP (fun s => s.2.1) = T.count := by
        rw [HC.out, List.take_of_length_le (by rw [← HN.out]; omega)]
      rw [e]
      go_wp2
      go_ret
      exact ⟨rfl, rfl⟩

theorem rf_left {B : Nat} {w : World} {rb : Nat} {T : TA Int} {av fv : Value} (h : RefAt B w rb T av fv) :
    Calls Try.prog 64 #[.pointer (some ⟨rb, 0, none⟩)] w fun e w' => e = .returned (.int .i64 ((T.S : Int) - T.count - T.ret)) ∧ ∃ n, w.drewN n = w' := by
  have a0 := cell_blk h.blk 0 rfl
  have a2 := cell_blk h.blk 2 rfl
  have a3 := cell_blk h.blk 3 rfl
  obtain ⟨hl, hf, hsum, hS, hlS⟩ := h.len
  obtain ⟨sa, cap, rfl⟩ := h.slots
  obtain ⟨fa, fcap, rfl⟩ := h.frees
  simp at a0 a2 a3
  have q0 : (T.S : Int) - T.all.length + T.free.length = (T.S : Int) - T.count - T.ret := by omega
  rw [← q0]
  generalize T.all.length = n at *
  generalize T.free.length = m at *
  have q1 : IntKind.i64.wrap ((T.S : Int) - n) = (T.S : Int) - n := IntWalk.i64_in _ (by omega)
  have q2 : IntKind.i64.wrap ((T.S : Int) - n + m) = (T.S : Int) - n + m := IntWalk.i64_in _ (by omega)
  clear h q0
  go_enter Try.func64, Try.ntmps64
  go_wp2
  go_quiet (fail)
  go_wp2
  go_ret
  exact ⟨rfl, nq, rfl⟩

theorem rf_count_q {B : Nat} {w : World} {rb : Nat} {T : TA Int} {av fv : Value} (h : RefAt B w rb T av fv) (n : Nat) :
    Calls Try.prog 63 #[.pointer (some ⟨rb, 0, none⟩)] (w.drewN n) fun e w' => e = .returned (.int .i64 (T.count : Int)) ∧ ∃ m, w' = w.drewN m :=
  (rf_count (h.below (w' := w.drewN n) (by repeat (first | exact Below.refl _ _ | assumption | refine Below.drew ?_ | refine below_drewN ?_ _ | refine Below.alloc ?_ (by simp <;> omega) _ | refine Below.setCell ?_ (by simp <;> omega) _ | (apply bl_trans; assumption; (simp <;> omega)))))).mono fun e w' ⟨he, hw⟩ => ⟨he, n, hw.symm⟩
theorem rf_left_q {B : Nat} {w : World} {rb : Nat} {T : TA Int} {av fv : Value} (h : RefAt B w rb T av fv) (n : Nat) :
    Calls Try.prog 64 #[.pointer (some ⟨rb, 0, none⟩)] (w.drewN n) fun e w' => e = .returned (.int .i64 ((T.S : Int) - T.count - T.ret)) ∧ ∃ m, w' = w.drewN m :=
  (rf_left (h.below (w' := w.drewN n) (by repeat (first | exact Below.refl _ _ | assumption | refine Below.drew ?_ | refine below_drewN ?_ _ | refine Below.alloc ?_ (by simp <;> omega) _ | refine Below.setCell ?_ (by simp <;> omega) _ | (apply bl_trans; assumption; (simp <;> omega)))))).mono fun e w' ⟨he, k, hw⟩ => ⟨he, n + k, by rw [← hw, World.drewN_drewN]⟩

theorem rf_retired {B : Nat} {w : World} {rb : Nat} {T : TA Int} {av fv : Value} (h : RefAt B w rb T av fv) :
    Calls Try.prog 65 #[.pointer (some ⟨rb, 0, none⟩)] w fun e w' => e = .returned (.int .i64 (T.ret : Int)) ∧ ∃ n, w.drewN n = w' := by
  have a0 := cell_blk h.blk 0 rfl
  obtain ⟨hl, hf, hsum, hS, hlS⟩ := h.len
  simp at a0
  have q1 : IntKind.i64.wrap ((T.S : Int) - T.count) = (T.S : Int) - T.count := IntWalk.i64_in _ (by omega)
  have q2 : (T.S : Int) - T.count - ((T.S : Int) - T.count - T.ret) = T.ret := by omega
  have q3 : IntKind.i64.wrap ((T.S : Int) - T.count - ((T.S : Int) - T.count - T.ret)) = T.ret := by rw [q2]; exact IntWalk.i64_in _ (by omega)
  have H := Lib.hid h
  clear h q2
  go_enter Try.func65, Try.ntmps65
  go_wp2
  go_quiet (first | (go_at_call 63; exact rf_count_q H.out _) | (go_at_call 64; exact rf_left_q H.out _))
  go_wp2
  go_ret
  exact ⟨rfl, nq, rfl⟩
theorem rf_retired_q {B : Nat} {w : World} {rb : Nat} {T : TA Int} {av fv : Value} (h : RefAt B w rb T av fv) (n : Nat) :
    Calls Try.prog 65 #[.pointer (some ⟨rb, 0, none⟩)] (w.drewN n) fun e w' => e = .returned (.int .i64 (T.ret : Int)) ∧ ∃ m, w' = w.drewN m :=
  (rf_retired (h.below (w' := w.drewN n) (by repeat (first | exact Below.refl _ _ | assumption | refine Below.drew ?_ | refine below_drewN ?_ _ | refine Below.alloc ?_ (by simp <;> omega) _ | refine Below.setCell ?_ (by simp <;> omega) _ | (apply bl_trans; assumption; (simp <;> omega)))))).mono fun e w' ⟨he, k, hw⟩ => ⟨he, n + k, by rw [← hw, World.drewN_drewN]⟩

/-! ### The program's counts, without a trace. -/
theorem arI_count_s {B : Nat} {w : World} {ab : Nat} {A : Ar} {av fv : Value} (h : ArAt 119 123 37 1 B w ab A av fv) :
    Calls Try.prog 31 #[.pointer (some ⟨ab, 0, none⟩)] w fun e w' => e = .returned (.int .i64 (A.count : Int)) ∧ w = w' := by
  have a4 := cell_blk h.blk 4 rfl
  clear h
  go_enter Try.func31, Try.ntmps31
  go_wp2
  go_ret
  exact ⟨rfl, rfl⟩
theorem arI_retired_s {B : Nat} {w : World} {ab : Nat} {A : Ar} {av fv : Value} (h : ArAt 119 123 37 1 B w ab A av fv) :
    Calls Try.prog 32 #[.pointer (some ⟨ab, 0, none⟩)] w fun e w' => e = .returned (.int .i64 (A.ret : Int)) ∧ w = w' := by
  have a4 := cell_blk h.blk 5 rfl
  clear h
  go_enter Try.func32, Try.ntmps32
  go_wp2
  go_ret
  exact ⟨rfl, rfl⟩
theorem arI_left_s {B : Nat} {w : World} {ab : Nat} {A : Ar} {av fv : Value} (h : ArAt 119 123 37 1 B w ab A av fv) :
    Calls Try.prog 28 #[.pointer (some ⟨ab, 0, none⟩)] w fun e w' => e = .returned (.int .i64 ((A.S : Int) - A.count - A.ret)) ∧ ∃ n, w.drewN n = w' := by
  have a0 := cell_blk h.blk 0 rfl
  have a4 := cell_blk h.blk 4 rfl
  have a5 := cell_blk h.blk 5 rfl
  have hl := h.ok.left
  have hS := h.ok.S2
  have q1 : IntKind.i64.wrap ((A.S : Int) - A.count) = (A.S : Int) - A.count := IntWalk.i64_in _ (by omega)
  have q2 : IntKind.i64.wrap ((A.S : Int) - A.count - A.ret) = (A.S : Int) - A.count - A.ret := IntWalk.i64_in _ (by omega)
  clear h
  go_enter Try.func28, Try.ntmps28
  go_wp2
  go_quiet (fail)
  go_wp2
  go_ret
  exact ⟨rfl, nq, rfl⟩
theorem arI_count_q {B : Nat} {w : World} {ab : Nat} {T : TA Int} (h : ArIOf B w ab T) (n : Nat) :
    Calls Try.prog 31 #[.pointer (some ⟨ab, 0, none⟩)] (w.drewN n) fun e w' => e = .returned (.int .i64 (T.count : Int)) ∧ ∃ m, w' = w.drewN m :=
  let ⟨_, _, h⟩ := h
  (arI_count_s (h.below (w' := w.drewN n) (by repeat (first | exact Below.refl _ _ | assumption | refine Below.drew ?_ | refine below_drewN ?_ _ | refine Below.alloc ?_ (by simp <;> omega) _ | refine Below.setCell ?_ (by simp <;> omega) _ | (apply bl_trans; assumption; (simp <;> omega)))))).mono fun e w' ⟨he, hw⟩ => ⟨he, n, hw.symm⟩
theorem arI_retired_q {B : Nat} {w : World} {ab : Nat} {T : TA Int} (h : ArIOf B w ab T) (n : Nat) :
    Calls Try.prog 32 #[.pointer (some ⟨ab, 0, none⟩)] (w.drewN n) fun e w' => e = .returned (.int .i64 (T.ret : Int)) ∧ ∃ m, w' = w.drewN m :=
  let ⟨_, _, h⟩ := h
  (arI_retired_s (h.below (w' := w.drewN n) (by repeat (first | exact Below.refl _ _ | assumption | refine Below.drew ?_ | refine below_drewN ?_ _ | refine Below.alloc ?_ (by simp <;> omega) _ | refine Below.setCell ?_ (by simp <;> omega) _ | (apply bl_trans; assumption; (simp <;> omega)))))).mono fun e w' ⟨he, hw⟩ => ⟨he, n, hw.symm⟩
theorem arI_left_q {B : Nat} {w : World} {ab : Nat} {T : TA Int} (h : ArIOf B w ab T) (n : Nat) :
    Calls Try.prog 28 #[.pointer (some ⟨ab, 0, none⟩)] (w.drewN n) fun e w' => e = .returned (.int .i64 ((T.S : Int) - T.count - T.ret)) ∧ ∃ m, w' = w.drewN m :=
  let ⟨_, _, h⟩ := h
  (arI_left_s (h.below (w' := w.drewN n) (by repeat (first | exact Below.refl _ _ | assumption | refine Below.drew ?_ | refine below_drewN ?_ _ | refine Below.alloc ?_ (by simp <;> omega) _ | refine Below.setCell ?_ (by simp <;> omega) _ | (apply bl_trans; assumption; (simp <;> omega)))))).mono fun e w' ⟨he, k, hw⟩ => ⟨he, n + k, by rw [← hw, World.drewN_drewN]⟩

/-- The pair of the statement: both arenas hold the same data; the handles that were told. -/
structure PairAt (B : Nat) (w : World) (pb ab rb : Nat) (T : TA Int) (told : List (Nat × Nat)) (tv : Value) : Prop where
  blk : w.heap[pb]? = some (.cells #[.pointer (some ⟨ab, 0, none⟩), .pointer (some ⟨rb, 0, none⟩), tv] 70 (0, 0))
  base : B ≤ pb
  ar : ArIOf B w ab T
  rf : ∃ av fv, RefAt B w rb T av fv
  row : w.ownsRow B 39 2 tv told.length (hcells told)
  bnd : ∀ h ∈ told, h.1 ≤ 4294967295 ∧ h.2 ≤ 4294967295

theorem PairAt.below {B : Nat} {w w' : World} {pb ab rb : Nat} {T : TA Int} {told : List (Nat × Nat)} {tv : Value} (h : PairAt B w pb ab rb T told tv) (b : Below w.heap.size w w') : PairAt B w' pb ab rb T told tv :=
  have f : FrT [] 0 w w' := FrT.of_below b
  let ⟨_, _, hr⟩ := h.rf
  ⟨f.blk h.blk (by simp), h.base, h.ar.below b, ⟨_, _, hr.below b⟩, f.row h.row (by simp), h.bnd⟩

set_option maxHeartbeats 800000 in
theorem pair_counts {B : Nat} {w : World} {pb ab rb : Nat} {T : TA Int} {told : List (Nat × Nat)} {tv : Value} (h : PairAt B w pb ab rb T told tv) :
    Calls Try.prog 36 #[.pointer (some ⟨pb, 0, none⟩)] w fun e w' => e = .returned (.bool true) ∧ ∃ n, w.drewN n = w' := by
  have a0 := cell_blk h.blk 0 rfl
  have a1 := cell_blk h.blk 1 rfl
  simp at a0 a1
  obtain ⟨av, fv, hr⟩ := h.rf
  have HR := Lib.hid hr
  have HA := Lib.hid h.ar
  clear h hr
  go_enter Try.func36, Try.ntmps36
  go_wp2
  go_quiet (first | (go_at_call 63; exact rf_count_q HR.out _) | (go_at_call 64; exact rf_left_q HR.out _) | (go_at_call 65; exact rf_retired_q HR.out _) | (go_at_call 31; exact arI_count_q HA.out _) | (go_at_call 28; exact arI_left_q HA.out _) | (go_at_call 32; exact arI_retired_q HA.out _))
  go_wp2
  go_ret
  exact ⟨rfl, nq, rfl⟩
end Go.Proofs.Ytlmbpbijhhnhpaa
