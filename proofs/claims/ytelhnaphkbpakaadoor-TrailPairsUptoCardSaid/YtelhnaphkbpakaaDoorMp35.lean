/- Part 35 of the proof of TpP: lemmas. -/
import Derived.Test.YtelhnaphkbpakaaDoorMp34
namespace Go.Proofs.YtelhnaphkbpakaaDoor
open Go.RowKit
set_option linter.unusedVariables false
set_option maxRecDepth 100000
structure MkV where
  m : Mk
  nm : ByteArray
  ua : Option Addr
  uc : Nat
  un : List Nat
def MkV.v (x : MkV) : Value := .agg #[.int .i64 x.m.kind, .int .i64 x.m.a, .int .i64 x.m.b, .int .i64 x.m.back, .string x.nm, .slice x.ua x.un.length x.uc]
structure MkIn (Q : Nat → Prop) (w : World) (x : MkV) : Prop where
  un : ∀ W, KeepN Q w W → Sl16 W x.ua x.un
  cap : x.un.length ≤ x.uc ∧ x.uc ≤ 9223372036854775807
  nm : x.nm.size ≤ 9223372036854775807
  len : x.un.length ≤ 1099511627776
  a : -9223372036854775808 ≤ x.m.a ∧ x.m.a ≤ 9223372036854775807
  b : -9223372036854775808 ≤ x.m.b ∧ x.m.b ≤ 9223372036854775807
  back : -9223372036854775808 ≤ x.m.back ∧ x.m.back ≤ 9223372036854775807
def lett (n : Nat) : ByteArray := (⟨#[97, 98, 99, 100, 101, 102, 103, 104]⟩ : ByteArray).extract n (n + 1)
def ltr (x : MkV) : ByteArray := lett (pick8 (x.nm.size : Int) 8)
def N2 (x : MkV) : Nd := ⟨3, ⟨#[]⟩, x.ua, x.uc, x.un, none, 0, [], 0, 0⟩
def N3 (x : MkV) : Nd := ⟨8, ⟨#[]⟩, x.ua, x.uc, x.un, none, 0, [], 0, 0⟩
def N4 : Nd := ⟨9, ⟨#[]⟩, none, 0, [], none, 0, [], 0, 0⟩
def N1 (x : MkV) : Nd := ⟨1, ltr x, none, 0, [], none, 0, [], 0, 0⟩
def attX (x : MkV) : LA := ⟨⟨#[120]⟩, x.ua, x.uc, x.un⟩
def attY : LA := ⟨⟨#[121]⟩, none, 0, []⟩
def N5 (x : MkV) (b : Nat) (L : List LA) : Nd := ⟨1, ltr x, none, 0, [], some ⟨b, 0, none⟩, 2, L, 0, 0⟩
theorem alloc2_at (w : World) (a b : Obj) : ((w.alloc a).alloc b).heap[w.heap.size]? = some a := alloc_blk (Go.heap_alloc_new w _) _
set_option maxHeartbeats 4000000 in
theorem node2 {Q : Nat → Prop} {w : World} {x : MkV} (hx : MkIn Q w x) (hk : x.m.kind = 2) :
    Calls Tryd.prog 36 #[x.v] w fun e w' => e = .returned (N2 x).v ∧ Below w.heap.size w w' := by
  show Calls Tryd.prog 36 #[.agg #[.int .i64 x.m.kind, .int .i64 x.m.a, .int .i64 x.m.b, .int .i64 x.m.back, .string x.nm, .slice x.ua x.un.length x.uc]] w fun e w' => e = .returned (.agg #[.int .i64 3, .string ⟨#[]⟩, .slice x.ua x.un.length x.uc, .slice none 0 0, .int .u32 0, .int .u32 0]) ∧ Below w.heap.size w w'
  rw [hk]
  have hnm := hx.nm
  have hbk := hx.back
  have HP : Hid (∀ W, Calls Tryd.prog 30 #[.int .i64 (x.nm.size : Int), .int .i64 8] W fun e w' => e = .returned (.int .i64 ((pick8 (x.nm.size : Int) 8 : Nat) : Int)) ∧ Below W.heap.size W w') := Lib.hid (fun W => pick8_calls W _ 8 (by omega) (by omega) (by omega))
  have hp := pick8_lt (x.nm.size : Int) (n := 8) (by omega)
  try unfold ltr
  generalize pick8 (x.nm.size : Int) 8 = p at *
  generalize x.m.a = ma at *
  generalize x.m.b = mb at *
  generalize x.m.back = mc at *
  clear hx hk
  obtain ⟨nm, hnme⟩ : ∃ n, n = x.nm := ⟨_, rfl⟩
  rw [← hnme] at hnm HP ⊢
  generalize x.un.length = n
  generalize x.ua = ua
  generalize x.uc = uc
  clear hnme
  obtain ⟨V, hV⟩ : ∃ V, V = (w.alloc (.cells #[.int .i64 2, .int .i64 ma, .int .i64 mb, .int .i64 mc, .string nm, .slice ua n uc] 76)).alloc (.cells #[.int .i64 0, .string ⟨#[]⟩, .slice none 0 0, .slice none 0 0, .int .u32 0, .int .u32 0] 66) := ⟨_, rfl⟩
  have bV : Below w.heap.size w V := by rw [hV]; exact (by repeat (first | exact Below.refl _ _ | assumption | refine Below.drew ?_ | refine below_drewN ?_ _ | refine Below.alloc ?_ (by simp <;> omega) _ | refine Below.setCell ?_ (by simp <;> omega) _ | (apply bl_trans; assumption; (simp <;> omega))))
  have hx : V.heap[w.heap.size + 1]? = some (.cells #[.int .i64 0, .string ⟨#[]⟩, .slice none 0 0, .slice none 0 0, .int .u32 0, .int .u32 0] 66 (0, 0)) := by rw [hV]; exact alloc2_blk w _ _
  have hy : V.heap[w.heap.size]? = some (.cells #[.int .i64 2, .int .i64 ma, .int .i64 mb, .int .i64 mc, .string nm, .slice ua n uc] 76 (0, 0)) := by rw [hV]; exact alloc2_at w _ _
  have HX := Lib.hid (And.intro hx (And.intro hy bV))
  have HSW : Hid (∀ W, Below V.heap.size V W → (W.cell? ⟨w.heap.size, 0, none⟩ = some (.int .i64 2) ∧ W.cell? ⟨w.heap.size, 3, none⟩ = some (.int .i64 mc) ∧ W.cell? ⟨w.heap.size, 4, none⟩ = some (.string nm) ∧ W.cell? ⟨w.heap.size, 5, none⟩ = some (.slice ua n uc)) ∧ Below w.heap.size w W ∧ W.heap[w.heap.size + 1]? = some (.cells #[.int .i64 0, .string ⟨#[]⟩, .slice none 0 0, .slice none 0 0, .int .u32 0, .int .u32 0] 66 (0, 0))) := Lib.hid (fun W bb => by
    have hy2 := (bb.block _ (lt_of_some HX.out.2.1)).trans HX.out.2.1
    exact ⟨⟨cell_blk hy2 0 rfl, cell_blk hy2 3 rfl, cell_blk hy2 4 rfl, cell_blk hy2 5 rfl⟩, HX.out.2.2.trans (bb.mono HX.out.2.2.size), (bb.block _ (lt_of_some HX.out.1)).trans HX.out.1⟩)
  have HD0 : Hid (Below V.heap.size V V.drew) := Lib.hid (Below.refl _ _).drew
  have hV2 := hV
  clear hV hx hy bV
  have wp1 : IntKind.i64.wrap ((p : Int) + 1) = (p : Int) + 1 := IntWalk.i64_in _ (by omega)
  have s0 : (0 : Int) ≤ (p : Int) := by omega
  have s1 : (p : Int) ≤ (p : Int) + 1 := by omega
  have s2 : (p : Int) + 1 ≤ 8 := by omega
  have s3 : (0 : Int) ≤ (p : Int) + 1 := by omega
  have s4 : ((p : Int) + 1).toNat = p + 1 := by omega
  go_enter Tryd.func36, Tryd.ntmps36
  go_wp2_with fail
  rw [← hV2]
  clear hV2
  go_region_held3 (fun W => W.cell? ⟨w.heap.size, 4, none⟩ = some (.string nm)) (first | exact (HSW.out _ HB2.out).1.2.2.1 | exact (HSW.out _ HB1.out).1.2.2.1 | exact (HSW.out _ HD0.out).1.2.2.1) (first | (have hh := HB1; go_at_call 30; refine (HP.out _).mono ?_; rintro e w2 ⟨rfl, b1⟩; have HB2 := Lib.hid (HB1.out.trans (b1.mono HB1.out.size))) | (go_at_call 30; refine (HP.out _).mono ?_; rintro e w1 ⟨rfl, b1⟩; have HB1 := Lib.hid (HD0.out.trans (b1.mono HD0.out.size))))
  clear b1 HB1 HD0
  obtain ⟨⟨d0, d3, d4, d5⟩, hlow, hres⟩ := HSW.out _ HB2.out
  have HLOW := Lib.hid hlow
  have hsz := hlow.size
  have lres := lt_of_some hres
  have lm : w.heap.size < w2.heap.size := Nat.lt_of_succ_lt lres
  have f0 := free_blk hres 0
  have f1 := free_blk hres 1
  have f2 := free_blk hres 2
  have f3 := free_blk hres 3
  have f4 := free_blk hres 4
  have f5 := free_blk hres 5
  have e0 := cell_blk hres 0 rfl
  have e1 := cell_blk hres 1 rfl
  have e2 := cell_blk hres 2 rfl
  have e3 := cell_blk hres 3 rfl
  have e4 := cell_blk hres 4 rfl
  have e5 := cell_blk hres 5 rfl
  have HRES := Lib.hid hres
  clear hres hlow
  go_wp2_with fail
  have hF := set_blk (set_blk (set_blk (set_blk (set_blk (set_blk HRES.out 0 (.int .i64 3)) 1 (.string ⟨#[]⟩)) 2 (.slice ua n uc)) 3 (.slice none 0 0)) 4 (.int .u32 0)) 5 (.int .u32 0)
  have z0 := cell_blk hF 0 rfl
  have z1 := cell_blk hF 1 rfl
  have z2 := cell_blk hF 2 rfl
  have z3 := cell_blk hF 3 rfl
  have z4 := cell_blk hF 4 rfl
  have z5 := cell_blk hF 5 rfl
  simp at z0 z1 z2 z3 z4 z5
  have hlow := HLOW.out
  exact bodyPost_ret (v := .agg #[.int .i64 3, .string ⟨#[]⟩, .slice ua n uc, .slice none 0 0, .int .u32 0, .int .u32 0]) (by simp [results, Tryd.results36, go_sem, z0, z1, z2, z3, z4, z5]) rfl ⟨rfl, ((((((HLOW.out.setCell (Nat.le_succ _) _).setCell (Nat.le_succ _) _).setCell (Nat.le_succ _) _).setCell (Nat.le_succ _) _).setCell (Nat.le_succ _) _).setCell (Nat.le_succ _) _)⟩
set_option maxHeartbeats 4000000 in
theorem node3 {Q : Nat → Prop} {w : World} {x : MkV} (hx : MkIn Q w x) (hk : x.m.kind = 3) :
    Calls Tryd.prog 36 #[x.v] w fun e w' => e = .returned (N3 x).v ∧ Below w.heap.size w w' := by
  show Calls Tryd.prog 36 #[.agg #[.int .i64 x.m.kind, .int .i64 x.m.a, .int .i64 x.m.b, .int .i64 x.m.back, .string x.nm, .slice x.ua x.un.length x.uc]] w fun e w' => e = .returned (.agg #[.int .i64 8, .string ⟨#[]⟩, .slice x.ua x.un.length x.uc, .slice none 0 0, .int .u32 0, .int .u32 0]) ∧ Below w.heap.size w w'
  rw [hk]
  have hnm := hx.nm
  have hbk := hx.back
  have HP : Hid (∀ W, Calls Tryd.prog 30 #[.int .i64 (x.nm.size : Int), .int .i64 8] W fun e w' => e = .returned (.int .i64 ((pick8 (x.nm.size : Int) 8 : Nat) : Int)) ∧ Below W.heap.size W w') := Lib.hid (fun W => pick8_calls W _ 8 (by omega) (by omega) (by omega))
  have hp := pick8_lt (x.nm.size : Int) (n := 8) (by omega)
  try unfold ltr
  generalize pick8 (x.nm.size : Int) 8 = p at *
  generalize x.m.a = ma at *
  generalize x.m.b = mb at *
  generalize x.m.back = mc at *
  clear hx hk
  obtain ⟨nm, hnme⟩ : ∃ n, n = x.nm := ⟨_, rfl⟩
  rw [← hnme] at hnm HP ⊢
  generalize x.un.length = n
  generalize x.ua = ua
  generalize x.uc = uc
  clear hnme
  obtain ⟨V, hV⟩ : ∃ V, V = (w.alloc (.cells #[.int .i64 3, .int .i64 ma, .int .i64 mb, .int .i64 mc, .string nm, .slice ua n uc] 76)).alloc (.cells #[.int .i64 0, .string ⟨#[]⟩, .slice none 0 0, .slice none 0 0, .int .u32 0, .int .u32 0] 66) := ⟨_, rfl⟩
  have bV : Below w.heap.size w V := by rw [hV]; exact (by repeat (first | exact Below.refl _ _ | assumption | refine Below.drew ?_ | refine below_drewN ?_ _ | refine Below.alloc ?_ (by simp <;> omega) _ | refine Below.setCell ?_ (by simp <;> omega) _ | (apply bl_trans; assumption; (simp <;> omega))))
  have hx : V.heap[w.heap.size + 1]? = some (.cells #[.int .i64 0, .string ⟨#[]⟩, .slice none 0 0, .slice none 0 0, .int .u32 0, .int .u32 0] 66 (0, 0)) := by rw [hV]; exact alloc2_blk w _ _
  have hy : V.heap[w.heap.size]? = some (.cells #[.int .i64 3, .int .i64 ma, .int .i64 mb, .int .i64 mc, .string nm, .slice ua n uc] 76 (0, 0)) := by rw [hV]; exact alloc2_at w _ _
  have HX := Lib.hid (And.intro hx (And.intro hy bV))
  have HSW : Hid (∀ W, Below V.heap.size V W → (W.cell? ⟨w.heap.size, 0, none⟩ = some (.int .i64 3) ∧ W.cell? ⟨w.heap.size, 3, none⟩ = some (.int .i64 mc) ∧ W.cell? ⟨w.heap.size, 4, none⟩ = some (.string nm) ∧ W.cell? ⟨w.heap.size, 5, none⟩ = some (.slice ua n uc)) ∧ Below w.heap.size w W ∧ W.heap[w.heap.size + 1]? = some (.cells #[.int .i64 0, .string ⟨#[]⟩, .slice none 0 0, .slice none 0 0, .int .u32 0, .int .u32 0] 66 (0, 0))) := Lib.hid (fun W bb => by
    have hy2 := (bb.block _ (lt_of_some HX.out.2.1)).trans HX.out.2.1
    exact ⟨⟨cell_blk hy2 0 rfl, cell_blk hy2 3 rfl, cell_blk hy2 4 rfl, cell_blk hy2 5 rfl⟩, HX.out.2.2.trans (bb.mono HX.out.2.2.size), (bb.block _ (lt_of_some HX.out.1)).trans HX.out.1⟩)
  have HD0 : Hid (Below V.heap.size V V.drew) := Lib.hid (Below.refl _ _).drew
  have hV2 := hV
  clear hV hx hy bV
  have wp1 : IntKind.i64.wrap ((p : Int) + 1) = (p : Int) + 1 := IntWalk.i64_in _ (by omega)
  have s0 : (0 : Int) ≤ (p : Int) := by omega
  have s1 : (p : Int) ≤ (p : Int) + 1 := by omega
  have s2 : (p : Int) + 1 ≤ 8 := by omega
  have s3 : (0 : Int) ≤ (p : Int) + 1 := by omega
  have s4 : ((p : Int) + 1).toNat = p + 1 := by omega
  go_enter Tryd.func36, Tryd.ntmps36
  go_wp2_with fail
  rw [← hV2]
  clear hV2
  go_region_held3 (fun W => W.cell? ⟨w.heap.size, 4, none⟩ = some (.string nm)) (first | exact (HSW.out _ HB2.out).1.2.2.1 | exact (HSW.out _ HB1.out).1.2.2.1 | exact (HSW.out _ HD0.out).1.2.2.1) (first | (have hh := HB1; go_at_call 30; refine (HP.out _).mono ?_; rintro e w2 ⟨rfl, b1⟩; have HB2 := Lib.hid (HB1.out.trans (b1.mono HB1.out.size))) | (go_at_call 30; refine (HP.out _).mono ?_; rintro e w1 ⟨rfl, b1⟩; have HB1 := Lib.hid (HD0.out.trans (b1.mono HD0.out.size))))
  clear b1 HB1 HD0
  obtain ⟨⟨d0, d3, d4, d5⟩, hlow, hres⟩ := HSW.out _ HB2.out
  have HLOW := Lib.hid hlow
  have hsz := hlow.size
  have lres := lt_of_some hres
  have lm : w.heap.size < w2.heap.size := Nat.lt_of_succ_lt lres
  have f0 := free_blk hres 0
  have f1 := free_blk hres 1
  have f2 := free_blk hres 2
  have f3 := free_blk hres 3
  have f4 := free_blk hres 4
  have f5 := free_blk hres 5
  have e0 := cell_blk hres 0 rfl
  have e1 := cell_blk hres 1 rfl
  have e2 := cell_blk hres 2 rfl
  have e3 := cell_blk hres 3 rfl
  have e4 := cell_blk hres 4 rfl
  have e5 := cell_blk hres 5 rfl
  have HRES := Lib.hid hres
  clear hres hlow
  go_wp2_with fail
  have hF := set_blk (set_blk (set_blk (set_blk (set_blk (set_blk HRES.out 0 (.int .i64 8)) 1 (.string ⟨#[]⟩)) 2 (.slice ua n uc)) 3 (.slice none 0 0)) 4 (.int .u32 0)) 5 (.int .u32 0)
  have z0 := cell_blk hF 0 rfl
  have z1 := cell_blk hF 1 rfl
  have z2 := cell_blk hF 2 rfl
  have z3 := cell_blk hF 3 rfl
  have z4 := cell_blk hF 4 rfl
  have z5 := cell_blk hF 5 rfl
  simp at z0 z1 z2 z3 z4 z5
  have hlow := HLOW.out
  exact bodyPost_ret (v := .agg #[.int .i64 8, .string ⟨#[]⟩, .slice ua n uc, .slice none 0 0, .int .u32 0, .int .u32 0]) (by simp [results, Tryd.results36, go_sem, z0, z1, z2, z3, z4, z5]) rfl ⟨rfl, ((((((HLOW.out.setCell (Nat.le_succ _) _).setCell (Nat.le_succ _) _).setCell (Nat.le_succ _) _).setCell (Nat.le_succ _) _).setCell (Nat.le_succ _) _).setCell (Nat.le_succ _) _)⟩
set_option maxHeartbeats 4000000 in
theorem node4 {Q : Nat → Prop} {w : World} {x : MkV} (hx : MkIn Q w x) (hk : x.m.kind = 4) :
    Calls Tryd.prog 36 #[x.v] w fun e w' => e = .returned N4.v ∧ Below w.heap.size w w' := by
  show Calls Tryd.prog 36 #[.agg #[.int .i64 x.m.kind, .int .i64 x.m.a, .int .i64 x.m.b, .int .i64 x.m.back, .string x.nm, .slice x.ua x.un.length x.uc]] w fun e w' => e = .returned (.agg #[.int .i64 9, .string ⟨#[]⟩, .slice none 0 0, .slice none 0 0, .int .u32 0, .int .u32 0]) ∧ Below w.heap.size w w'
  rw [hk]
  have hnm := hx.nm
  have hbk := hx.back
  have HP : Hid (∀ W, Calls Tryd.prog 30 #[.int .i64 (x.nm.size : Int), .int .i64 8] W fun e w' => e = .returned (.int .i64 ((pick8 (x.nm.size : Int) 8 : Nat) : Int)) ∧ Below W.heap.size W w') := Lib.hid (fun W => pick8_calls W _ 8 (by omega) (by omega) (by omega))
  have hp := pick8_lt (x.nm.size : Int) (n := 8) (by omega)
  try unfold ltr
  generalize pick8 (x.nm.size : Int) 8 = p at *
  generalize x.m.a = ma at *
  generalize x.m.b = mb at *
  generalize x.m.back = mc at *
  clear hx hk
  obtain ⟨nm, hnme⟩ : ∃ n, n = x.nm := ⟨_, rfl⟩
  rw [← hnme] at hnm HP ⊢
  generalize x.un.length = n
  generalize x.ua = ua
  generalize x.uc = uc
  clear hnme
  obtain ⟨V, hV⟩ : ∃ V, V = (w.alloc (.cells #[.int .i64 4, .int .i64 ma, .int .i64 mb, .int .i64 mc, .string nm, .slice ua n uc] 76)).alloc (.cells #[.int .i64 0, .string ⟨#[]⟩, .slice none 0 0, .slice none 0 0, .int .u32 0, .int .u32 0] 66) := ⟨_, rfl⟩
  have bV : Below w.heap.size w V := by rw [hV]; exact (by repeat (first | exact Below.refl _ _ | assumption | refine Below.drew ?_ | refine below_drewN ?_ _ | refine Below.alloc ?_ (by simp <;> omega) _ | refine Below.setCell ?_ (by simp <;> omega) _ | (apply bl_trans; assumption; (simp <;> omega))))
  have hx : V.heap[w.heap.size + 1]? = some (.cells #[.int .i64 0, .string ⟨#[]⟩, .slice none 0 0, .slice none 0 0, .int .u32 0, .int .u32 0] 66 (0, 0)) := by rw [hV]; exact alloc2_blk w _ _
  have hy : V.heap[w.heap.size]? = some (.cells #[.int .i64 4, .int .i64 ma, .int .i64 mb, .int .i64 mc, .string nm, .slice ua n uc] 76 (0, 0)) := by rw [hV]; exact alloc2_at w _ _
  have HX := Lib.hid (And.intro hx (And.intro hy bV))
  have HSW : Hid (∀ W, Below V.heap.size V W → (W.cell? ⟨w.heap.size, 0, none⟩ = some (.int .i64 4) ∧ W.cell? ⟨w.heap.size, 3, none⟩ = some (.int .i64 mc) ∧ W.cell? ⟨w.heap.size, 4, none⟩ = some (.string nm) ∧ W.cell? ⟨w.heap.size, 5, none⟩ = some (.slice ua n uc)) ∧ Below w.heap.size w W ∧ W.heap[w.heap.size + 1]? = some (.cells #[.int .i64 0, .string ⟨#[]⟩, .slice none 0 0, .slice none 0 0, .int .u32 0, .int .u32 0] 66 (0, 0))) := Lib.hid (fun W bb => by
    have hy2 := (bb.block _ (lt_of_some HX.out.2.1)).trans HX.out.2.1
    exact ⟨⟨cell_blk hy2 0 rfl, cell_blk hy2 3 rfl, cell_blk hy2 4 rfl, cell_blk hy2 5 rfl⟩, HX.out.2.2.trans (bb.mono HX.out.2.2.size), (bb.block _ (lt_of_some HX.out.1)).trans HX.out.1⟩)
  have HD0 : Hid (Below V.heap.size V V.drew) := Lib.hid (Below.refl _ _).drew
  have hV2 := hV
  clear hV hx hy bV
  have wp1 : IntKind.i64.wrap ((p : Int) + 1) = (p : Int) + 1 := IntWalk.i64_in _ (by omega)
  have s0 : (0 : Int) ≤ (p : Int) := by omega
  have s1 : (p : Int) ≤ (p : Int) + 1 := by omega
  have s2 : (p : Int) + 1 ≤ 8 := by omega
  have s3 : (0 : Int) ≤ (p : Int) + 1 := by omega
  have s4 : ((p : Int) + 1).toNat = p + 1 := by omega
  go_enter Tryd.func36, Tryd.ntmps36
  go_wp2_with fail
  rw [← hV2]
  clear hV2
  go_region_held3 (fun W => W.cell? ⟨w.heap.size, 4, none⟩ = some (.string nm)) (first | exact (HSW.out _ HB2.out).1.2.2.1 | exact (HSW.out _ HB1.out).1.2.2.1 | exact (HSW.out _ HD0.out).1.2.2.1) (first | (have hh := HB1; go_at_call 30; refine (HP.out _).mono ?_; rintro e w2 ⟨rfl, b1⟩; have HB2 := Lib.hid (HB1.out.trans (b1.mono HB1.out.size))) | (go_at_call 30; refine (HP.out _).mono ?_; rintro e w1 ⟨rfl, b1⟩; have HB1 := Lib.hid (HD0.out.trans (b1.mono HD0.out.size))))
  clear b1 HB1 HD0
  obtain ⟨⟨d0, d3, d4, d5⟩, hlow, hres⟩ := HSW.out _ HB2.out
  have HLOW := Lib.hid hlow
  have hsz := hlow.size
  have lres := lt_of_some hres
  have lm : w.heap.size < w2.heap.size := Nat.lt_of_succ_lt lres
  have f0 := free_blk hres 0
  have f1 := free_blk hres 1
  have f2 := free_blk hres 2
  have f3 := free_blk hres 3
  have f4 := free_blk hres 4
  have f5 := free_blk hres 5
  have e0 := cell_blk hres 0 rfl
  have e1 := cell_blk hres 1 rfl
  have e2 := cell_blk hres 2 rfl
  have e3 := cell_blk hres 3 rfl
  have e4 := cell_blk hres 4 rfl
  have e5 := cell_blk hres 5 rfl
  have HRES := Lib.hid hres
  clear hres hlow
  go_wp2_with fail
  have hF := set_blk (set_blk (set_blk (set_blk (set_blk (set_blk HRES.out 0 (.int .i64 9)) 1 (.string ⟨#[]⟩)) 2 (.slice none 0 0)) 3 (.slice none 0 0)) 4 (.int .u32 0)) 5 (.int .u32 0)
  have z0 := cell_blk hF 0 rfl
  have z1 := cell_blk hF 1 rfl
  have z2 := cell_blk hF 2 rfl
  have z3 := cell_blk hF 3 rfl
  have z4 := cell_blk hF 4 rfl
  have z5 := cell_blk hF 5 rfl
  simp at z0 z1 z2 z3 z4 z5
  have hlow := HLOW.out
  exact bodyPost_ret (v := .agg #[.int .i64 9, .string ⟨#[]⟩, .slice none 0 0, .slice none 0 0, .int .u32 0, .int .u32 0]) (by simp [results, Tryd.results36, go_sem, z0, z1, z2, z3, z4, z5]) rfl ⟨rfl, ((((((HLOW.out.setCell (Nat.le_succ _) _).setCell (Nat.le_succ _) _).setCell (Nat.le_succ _) _).setCell (Nat.le_succ _) _).setCell (Nat.le_succ _) _).setCell (Nat.le_succ _) _)⟩
set_option maxHeartbeats 4000000 in
theorem node1 {Q : Nat → Prop} {w : World} {x : MkV} (hx : MkIn Q w x) (hk : x.m.kind = 1) :
    Calls Tryd.prog 36 #[x.v] w fun e w' => e = .returned (N1 x).v ∧ Below w.heap.size w w' := by
  show Calls Tryd.prog 36 #[.agg #[.int .i64 x.m.kind, .int .i64 x.m.a, .int .i64 x.m.b, .int .i64 x.m.back, .string x.nm, .slice x.ua x.un.length x.uc]] w fun e w' => e = .returned (.agg #[.int .i64 1, .string (ltr x), .slice none 0 0, .slice none 0 0, .int .u32 0, .int .u32 0]) ∧ Below w.heap.size w w'
  rw [hk]
  have hnm := hx.nm
  have hbk := hx.back
  have HP : Hid (∀ W, Calls Tryd.prog 30 #[.int .i64 (x.nm.size : Int), .int .i64 8] W fun e w' => e = .returned (.int .i64 ((pick8 (x.nm.size : Int) 8 : Nat) : Int)) ∧ Below W.heap.size W w') := Lib.hid (fun W => pick8_calls W _ 8 (by omega) (by omega) (by omega))
  have hp := pick8_lt (x.nm.size : Int) (n := 8) (by omega)
  try unfold ltr
  generalize pick8 (x.nm.size : Int) 8 = p at *
  generalize x.m.a = ma at *
  generalize x.m.b = mb at *
  generalize x.m.back = mc at *
  clear hx hk
  obtain ⟨nm, hnme⟩ : ∃ n, n = x.nm := ⟨_, rfl⟩
  rw [← hnme] at hnm HP ⊢
  generalize x.un.length = n
  generalize x.ua = ua
  generalize x.uc = uc
  clear hnme
  obtain ⟨V, hV⟩ : ∃ V, V = (w.alloc (.cells #[.int .i64 1, .int .i64 ma, .int .i64 mb, .int .i64 mc, .string nm, .slice ua n uc] 76)).alloc (.cells #[.int .i64 0, .string ⟨#[]⟩, .slice none 0 0, .slice none 0 0, .int .u32 0, .int .u32 0] 66) := ⟨_, rfl⟩
  have bV : Below w.heap.size w V := by rw [hV]; exact (by repeat (first | exact Below.refl _ _ | assumption | refine Below.drew ?_ | refine below_drewN ?_ _ | refine Below.alloc ?_ (by simp <;> omega) _ | refine Below.setCell ?_ (by simp <;> omega) _ | (apply bl_trans; assumption; (simp <;> omega))))
  have hx : V.heap[w.heap.size + 1]? = some (.cells #[.int .i64 0, .string ⟨#[]⟩, .slice none 0 0, .slice none 0 0, .int .u32 0, .int .u32 0] 66 (0, 0)) := by rw [hV]; exact alloc2_blk w _ _
  have hy : V.heap[w.heap.size]? = some (.cells #[.int .i64 1, .int .i64 ma, .int .i64 mb, .int .i64 mc, .string nm, .slice ua n uc] 76 (0, 0)) := by rw [hV]; exact alloc2_at w _ _
  have HX := Lib.hid (And.intro hx (And.intro hy bV))
  have HSW : Hid (∀ W, Below V.heap.size V W → (W.cell? ⟨w.heap.size, 0, none⟩ = some (.int .i64 1) ∧ W.cell? ⟨w.heap.size, 3, none⟩ = some (.int .i64 mc) ∧ W.cell? ⟨w.heap.size, 4, none⟩ = some (.string nm) ∧ W.cell? ⟨w.heap.size, 5, none⟩ = some (.slice ua n uc)) ∧ Below w.heap.size w W ∧ W.heap[w.heap.size + 1]? = some (.cells #[.int .i64 0, .string ⟨#[]⟩, .slice none 0 0, .slice none 0 0, .int .u32 0, .int .u32 0] 66 (0, 0))) := Lib.hid (fun W bb => by
    have hy2 := (bb.block _ (lt_of_some HX.out.2.1)).trans HX.out.2.1
    exact ⟨⟨cell_blk hy2 0 rfl, cell_blk hy2 3 rfl, cell_blk hy2 4 rfl, cell_blk hy2 5 rfl⟩, HX.out.2.2.trans (bb.mono HX.out.2.2.size), (bb.block _ (lt_of_some HX.out.1)).trans HX.out.1⟩)
  have HD0 : Hid (Below V.heap.size V V.drew) := Lib.hid (Below.refl _ _).drew
  have hV2 := hV
  clear hV hx hy bV
  have wp1 : IntKind.i64.wrap ((p : Int) + 1) = (p : Int) + 1 := IntWalk.i64_in _ (by omega)
  have s0 : (0 : Int) ≤ (p : Int) := by omega
  have s1 : (p : Int) ≤ (p : Int) + 1 := by omega
  have s2 : (p : Int) + 1 ≤ 8 := by omega
  have s3 : (0 : Int) ≤ (p : Int) + 1 := by omega
  have s4 : ((p : Int) + 1).toNat = p + 1 := by omega
  go_enter Tryd.func36, Tryd.ntmps36
  go_wp2_with fail
  rw [← hV2]
  clear hV2
  go_region_held3 (fun W => W.cell? ⟨w.heap.size, 4, none⟩ = some (.string nm)) (first | exact (HSW.out _ HB2.out).1.2.2.1 | exact (HSW.out _ HB1.out).1.2.2.1 | exact (HSW.out _ HD0.out).1.2.2.1) (first | (have hh := HB1; go_at_call 30; refine (HP.out _).mono ?_; rintro e w2 ⟨rfl, b1⟩; have HB2 := Lib.hid (HB1.out.trans (b1.mono HB1.out.size))) | (go_at_call 30; refine (HP.out _).mono ?_; rintro e w1 ⟨rfl, b1⟩; have HB1 := Lib.hid (HD0.out.trans (b1.mono HD0.out.size))))
  clear b1 HB1 HD0
  obtain ⟨⟨d0, d3, d4, d5⟩, hlow, hres⟩ := HSW.out _ HB2.out
  have HLOW := Lib.hid hlow
  have hsz := hlow.size
  have lres := lt_of_some hres
  have lm : w.heap.size < w2.heap.size := Nat.lt_of_succ_lt lres
  have f0 := free_blk hres 0
  have f1 := free_blk hres 1
  have f2 := free_blk hres 2
  have f3 := free_blk hres 3
  have f4 := free_blk hres 4
  have f5 := free_blk hres 5
  have e0 := cell_blk hres 0 rfl
  have e1 := cell_blk hres 1 rfl
  have e2 := cell_blk hres 2 rfl
  have e3 := cell_blk hres 3 rfl
  have e4 := cell_blk hres 4 rfl
  have e5 := cell_blk hres 5 rfl
  have HRES := Lib.hid hres
  clear hres hlow
  go_wp2_with fail
  have hF := set_blk (set_blk (set_blk (set_blk (set_blk (set_blk HRES.out 0 (.int .i64 1)) 1 (.string ((⟨#[97, 98, 99, 100, 101, 102, 103, 104]⟩ : ByteArray).extract p (p + 1)))) 2 (.slice none 0 0)) 3 (.slice none 0 0)) 4 (.int .u32 0)) 5 (.int .u32 0)
  have z0 := cell_blk hF 0 rfl
  have z1 := cell_blk hF 1 rfl
  have z2 := cell_blk hF 2 rfl
  have z3 := cell_blk hF 3 rfl
  have z4 := cell_blk hF 4 rfl
  have z5 := cell_blk hF 5 rfl
  simp at z0 z1 z2 z3 z4 z5
  have hlow := HLOW.out
  exact bodyPost_ret (v := .agg #[.int .i64 1, .string ((⟨#[97, 98, 99, 100, 101, 102, 103, 104]⟩ : ByteArray).extract p (p + 1)), .slice none 0 0, .slice none 0 0, .int .u32 0, .int .u32 0]) (by simp [results, Tryd.results36, go_sem, z0, z1, z2, z3, z4, z5]) rfl ⟨rfl, ((((((HLOW.out.setCell (Nat.le_succ _) _).setCell (Nat.le_succ _) _).setCell (Nat.le_succ _) _).setCell (Nat.le_succ _) _).setCell (Nat.le_succ _) _).setCell (Nat.le_succ _) _)⟩
set_option maxHeartbeats 4000000 in
theorem node5a {Q : Nat → Prop} {w : World} {x : MkV} (hx : MkIn Q w x) (hk : x.m.kind = 5) (hmod : ¬ (x.m.back.tmod 2 = 1)) :
    Calls Tryd.prog 36 #[x.v] w fun e w' => ∃ b, w.heap.size ≤ b ∧ e = .returned (N5 x b [attX x, attY]).v ∧ w'.heap[b]? = some (.cells #[.string ⟨#[120]⟩, .slice x.ua x.un.length x.uc, .string ⟨#[121]⟩, .slice none 0 0] 114 (0, 0)) ∧ Below w.heap.size w w' := by
  show Calls Tryd.prog 36 #[.agg #[.int .i64 x.m.kind, .int .i64 x.m.a, .int .i64 x.m.b, .int .i64 x.m.back, .string x.nm, .slice x.ua x.un.length x.uc]] w fun e w' => ∃ b, w.heap.size ≤ b ∧ e = .returned (.agg #[.int .i64 1, .string (ltr x), .slice none 0 0, .slice (some ⟨b, 0, none⟩) 2 2, .int .u32 0, .int .u32 0]) ∧ w'.heap[b]? = some (.cells #[.string ⟨#[120]⟩, .slice x.ua x.un.length x.uc, .string ⟨#[121]⟩, .slice none 0 0] 114 (0, 0)) ∧ Below w.heap.size w w'
  rw [hk]
  have hnm := hx.nm
  have hbk := hx.back
  have HP : Hid (∀ W, Calls Tryd.prog 30 #[.int .i64 (x.nm.size : Int), .int .i64 8] W fun e w' => e = .returned (.int .i64 ((pick8 (x.nm.size : Int) 8 : Nat) : Int)) ∧ Below W.heap.size W w') := Lib.hid (fun W => pick8_calls W _ 8 (by omega) (by omega) (by omega))
  have hp := pick8_lt (x.nm.size : Int) (n := 8) (by omega)
  try unfold ltr
  generalize pick8 (x.nm.size : Int) 8 = p at *
  generalize x.m.a = ma at *
  generalize x.m.b = mb at *
  generalize x.m.back = mc at *
  clear hx hk
  obtain ⟨nm, hnme⟩ : ∃ n, n = x.nm := ⟨_, rfl⟩
  rw [← hnme] at hnm HP ⊢
  generalize x.un.length = n
  generalize x.ua = ua
  generalize x.uc = uc
  clear hnme
  obtain ⟨V, hV⟩ : ∃ V, V = (w.alloc (.cells #[.int .i64 5, .int .i64 ma, .int .i64 mb, .int .i64 mc, .string nm, .slice ua n uc] 76)).alloc (.cells #[.int .i64 0, .string ⟨#[]⟩, .slice none 0 0, .slice none 0 0, .int .u32 0, .int .u32 0] 66) := ⟨_, rfl⟩
  have bV : Below w.heap.size w V := by rw [hV]; exact (by repeat (first | exact Below.refl _ _ | assumption | refine Below.drew ?_ | refine below_drewN ?_ _ | refine Below.alloc ?_ (by simp <;> omega) _ | refine Below.setCell ?_ (by simp <;> omega) _ | (apply bl_trans; assumption; (simp <;> omega))))
  have hx : V.heap[w.heap.size + 1]? = some (.cells #[.int .i64 0, .string ⟨#[]⟩, .slice none 0 0, .slice none 0 0, .int .u32 0, .int .u32 0] 66 (0, 0)) := by rw [hV]; exact alloc2_blk w _ _
  have hy : V.heap[w.heap.size]? = some (.cells #[.int .i64 5, .int .i64 ma, .int .i64 mb, .int .i64 mc, .string nm, .slice ua n uc] 76 (0, 0)) := by rw [hV]; exact alloc2_at w _ _
  have HX := Lib.hid (And.intro hx (And.intro hy bV))
  have HSW : Hid (∀ W, Below V.heap.size V W → (W.cell? ⟨w.heap.size, 0, none⟩ = some (.int .i64 5) ∧ W.cell? ⟨w.heap.size, 3, none⟩ = some (.int .i64 mc) ∧ W.cell? ⟨w.heap.size, 4, none⟩ = some (.string nm) ∧ W.cell? ⟨w.heap.size, 5, none⟩ = some (.slice ua n uc)) ∧ Below w.heap.size w W ∧ W.heap[w.heap.size + 1]? = some (.cells #[.int .i64 0, .string ⟨#[]⟩, .slice none 0 0, .slice none 0 0, .int .u32 0, .int .u32 0] 66 (0, 0))) := Lib.hid (fun W bb => by
    have hy2 := (bb.block _ (lt_of_some HX.out.2.1)).trans HX.out.2.1
    exact ⟨⟨cell_blk hy2 0 rfl, cell_blk hy2 3 rfl, cell_blk hy2 4 rfl, cell_blk hy2 5 rfl⟩, HX.out.2.2.trans (bb.mono HX.out.2.2.size), (bb.block _ (lt_of_some HX.out.1)).trans HX.out.1⟩)
  have HD0 : Hid (Below V.heap.size V V.drew) := Lib.hid (Below.refl _ _).drew
  have hV2 := hV
  clear hV hx hy bV
  have wp1 : IntKind.i64.wrap ((p : Int) + 1) = (p : Int) + 1 := IntWalk.i64_in _ (by omega)
  have s0 : (0 : Int) ≤ (p : Int) := by omega
  have s1 : (p : Int) ≤ (p : Int) + 1 := by omega
  have s2 : (p : Int) + 1 ≤ 8 := by omega
  have s3 : (0 : Int) ≤ (p : Int) + 1 := by omega
  have s4 : ((p : Int) + 1).toNat = p + 1 := by omega
  go_enter Tryd.func36, Tryd.ntmps36
  go_wp2_with fail
  rw [← hV2]
  clear hV2
  go_region_held3 (fun W => W.cell? ⟨w.heap.size, 4, none⟩ = some (.string nm)) (first | exact (HSW.out _ HB2.out).1.2.2.1 | exact (HSW.out _ HB1.out).1.2.2.1 | exact (HSW.out _ HD0.out).1.2.2.1) (first | (have hh := HB1; go_at_call 30; refine (HP.out _).mono ?_; rintro e w2 ⟨rfl, b1⟩; have HB2 := Lib.hid (HB1.out.trans (b1.mono HB1.out.size))) | (go_at_call 30; refine (HP.out _).mono ?_; rintro e w1 ⟨rfl, b1⟩; have HB1 := Lib.hid (HD0.out.trans (b1.mono HD0.out.size))))
  clear b1 HB1 HD0
  obtain ⟨⟨d0, d3, d4, d5⟩, hlow, hres⟩ := HSW.out _ HB2.out
  have HLOW := Lib.hid hlow
  have hsz := hlow.size
  have lres := lt_of_some hres
  have lm : w.heap.size < w2.heap.size := Nat.lt_of_succ_lt lres
  have f0 := free_blk hres 0
  have f1 := free_blk hres 1
  have f2 := free_blk hres 2
  have f3 := free_blk hres 3
  have f4 := free_blk hres 4
  have f5 := free_blk hres 5
  have e0 := cell_blk hres 0 rfl
  have e1 := cell_blk hres 1 rfl
  have e2 := cell_blk hres 2 rfl
  have e3 := cell_blk hres 3 rfl
  have e4 := cell_blk hres 4 rfl
  have e5 := cell_blk hres 5 rfl
  have HRES := Lib.hid hres
  clear hres hlow
  have qm : ((mc.tmod 2) == 1) = false := by simp; exact hmod
  have qm2 : ¬ (mc.tmod 2 = 1) := hmod
  clear hmod
  go_wp2_with fail
  have hF := alloc_blk (alloc_blk (set_blk (set_blk (set_blk (set_blk (set_blk (set_blk HRES.out 0 (.int .i64 1)) 1 (.string ((⟨#[97, 98, 99, 100, 101, 102, 103, 104]⟩ : ByteArray).extract p (p + 1)))) 2 (.slice none 0 0)) 3 (.slice (some ⟨w2.heap.size, 0, none⟩) 2 2)) 4 (.int .u32 0)) 5 (.int .u32 0)) (.cells #[.string ⟨#[120]⟩, .slice ua n uc, .string ⟨#[121]⟩, .slice none 0 0] 114)) (.cells #[.int .i64 1, .string ((⟨#[97, 98, 99, 100, 101, 102, 103, 104]⟩ : ByteArray).extract p (p + 1)), .slice none 0 0, .slice (some ⟨w2.heap.size, 0, none⟩) 2 2, .int .u32 0, .int .u32 0] 66)
  have z0 := cell_blk hF 0 rfl
  have z1 := cell_blk hF 1 rfl
  have z2 := cell_blk hF 2 rfl
  have z3 := cell_blk hF 3 rfl
  have z4 := cell_blk hF 4 rfl
  have z5 := cell_blk hF 5 rfl
  simp at z0 z1 z2 z3 z4 z5
  have hlow := HLOW.out
  obtain ⟨W6, hW6⟩ : ∃ W6, W6 = ((((((w2.setCell ⟨w.heap.size + 1, 0, none⟩ (.int .i64 1)).setCell ⟨w.heap.size + 1, 1, none⟩ (.string ((⟨#[97, 98, 99, 100, 101, 102, 103, 104]⟩ : ByteArray).extract p (p + 1)))).setCell ⟨w.heap.size + 1, 2, none⟩ (.slice none 0 0)).setCell ⟨w.heap.size + 1, 3, none⟩ (.slice (some ⟨w2.heap.size, 0, none⟩) 2 2)).setCell ⟨w.heap.size + 1, 4, none⟩ (.int .u32 0)).setCell ⟨w.heap.size + 1, 5, none⟩ (.int .u32 0)) := ⟨_, rfl⟩
  have h6 : W6.heap.size = w2.heap.size := by rw [hW6]; simp
  have hA := alloc2_at W6 (.cells #[.string ⟨#[120]⟩, .slice ua n uc, .string ⟨#[121]⟩, .slice none 0 0] 114) (.cells #[.int .i64 1, .string ((⟨#[97, 98, 99, 100, 101, 102, 103, 104]⟩ : ByteArray).extract p (p + 1)), .slice none 0 0, .slice (some ⟨w2.heap.size, 0, none⟩) 2 2, .int .u32 0, .int .u32 0] 66)
  rw [h6, hW6] at hA
  exact bodyPost_ret (v := .agg #[.int .i64 1, .string ((⟨#[97, 98, 99, 100, 101, 102, 103, 104]⟩ : ByteArray).extract p (p + 1)), .slice none 0 0, .slice (some ⟨w2.heap.size, 0, none⟩) 2 2, .int .u32 0, .int .u32 0]) (by simp [results, Tryd.results36, go_sem, z0, z1, z2, z3, z4, z5]) rfl ⟨w2.heap.size, hsz, rfl, hA, (((((((HLOW.out.setCell (Nat.le_succ _) _).setCell (Nat.le_succ _) _).setCell (Nat.le_succ _) _).setCell (Nat.le_succ _) _).setCell (Nat.le_succ _) _).setCell (Nat.le_succ _) _).alloc (by simpa using hsz) _).alloc (by simp; omega) _⟩
theorem KeepN.of_below {Q : Nat → Prop} {w w' W : World} (b : Below w.heap.size w w') (h : KeepN Q w' W) : KeepN Q w W := fun k o hk ho => h k o hk ((b.block k (lt_of_some ho)).trans ho)
theorem lett_named (p : Nat) (hp : p < 8) : namedD (lett p) = true :=
  match p, hp with
  | 0, _ => by kernel_rfl
  | 1, _ => by kernel_rfl
  | 2, _ => by kernel_rfl
  | 3, _ => by kernel_rfl
  | 4, _ => by kernel_rfl
  | 5, _ => by kernel_rfl
  | 6, _ => by kernel_rfl
  | 7, _ => by kernel_rfl
theorem lett_size (p : Nat) : (lett p).size ≤ 8 := by unfold lett; simp [ByteArray.size_extract]; omega
structure NodeC (x : MkV) : Prop where
  ok : ∀ (Q : Nat → Prop) (W : World), MkIn Q W x → (∀ k, Q k → k < W.heap.size) → Calls Tryd.prog 36 #[x.v] W fun e w' => ∃ N : Nd, e = .returned N.v ∧ NdK Q w' N ∧ N.Bd 1099511627776 ∧ checkD N.kind N.name N.data.length (N.L.map LA.name) = 0 ∧ Below W.heap.size W w'
theorem nodeC2 {x : MkV} (hk : x.m.kind = 2) : NodeC x := ⟨fun Q W hx hq => (node2 hx hk).mono (by
  rintro e w' ⟨rfl, b⟩
  refine ⟨N2 x, rfl, fun W' hW' => ⟨hx.un W' (hW'.of_below b), SlA.nil _ _, by show 0 ≤ _; omega, hx.cap.1, hx.cap.2, Nat.le_refl _, by show 0 ≤ _; omega⟩, ⟨hx.len, by show 0 ≤ _; omega, fun y hy => by cases hy⟩, ?_, b⟩
  show checkD 3 ⟨#[]⟩ x.un.length [] = 0
  unfold checkD
  have h1 : fitsD 3 ⟨#[]⟩ x.un.length 0 = true := by simp [fitsD, noName]
  have h2 : goodA [] = true := rfl
  simp [h1, h2])⟩
theorem nodeC3 {x : MkV} (hk : x.m.kind = 3) : NodeC x := ⟨fun Q W hx hq => (node3 hx hk).mono (by
  rintro e w' ⟨rfl, b⟩
  refine ⟨N3 x, rfl, fun W' hW' => ⟨hx.un W' (hW'.of_below b), SlA.nil _ _, by show 0 ≤ _; omega, hx.cap.1, hx.cap.2, Nat.le_refl _, by show 0 ≤ _; omega⟩, ⟨hx.len, by show 0 ≤ _; omega, fun y hy => by cases hy⟩, ?_, b⟩
  show checkD 8 ⟨#[]⟩ x.un.length [] = 0
  unfold checkD
  have h1 : fitsD 8 ⟨#[]⟩ x.un.length 0 = true := by simp [fitsD, noName]
  have h2 : goodA [] = true := rfl
  simp [h1, h2])⟩
theorem nodeC4 {x : MkV} (hk : x.m.kind = 4) : NodeC x := ⟨fun Q W hx hq => (node4 hx hk).mono (by
  rintro e w' ⟨rfl, b⟩
  refine ⟨N4, rfl, fun W' hW' => ⟨Sl16.nil _ _, SlA.nil _ _, by show 0 ≤ _; omega, Nat.le_refl _, by show 0 ≤ _; omega, Nat.le_refl _, by show 0 ≤ _; omega⟩, ⟨by show 0 ≤ _; omega, by show 0 ≤ _; omega, fun y hy => by cases hy⟩, ?_, b⟩
  show checkD 9 ⟨#[]⟩ 0 [] = 0
  unfold checkD
  have h1 : fitsD 9 ⟨#[]⟩ 0 0 = true := by simp [fitsD, noName]
  have h2 : goodA [] = true := rfl
  simp [h1, h2])⟩
theorem ltr_ok (x : MkV) : namedD (ltr x) = true ∧ (ltr x).size ≤ 9223372036854775807 := ⟨lett_named _ (pick8_lt _ (by omega)), by have := lett_size (pick8 (x.nm.size : Int) 8); unfold ltr; omega⟩
theorem nodeC1 {x : MkV} (hk : x.m.kind = 1) : NodeC x := ⟨fun Q W hx hq => (node1 hx hk).mono (by
  rintro e w' ⟨rfl, b⟩
  refine ⟨N1 x, rfl, fun W' hW' => ⟨Sl16.nil _ _, SlA.nil _ _, (ltr_ok x).2, Nat.le_refl _, by show 0 ≤ _; omega, Nat.le_refl _, by show 0 ≤ _; omega⟩, ⟨by show 0 ≤ _; omega, by show 0 ≤ _; omega, fun y hy => by cases hy⟩, ?_, b⟩
  show checkD 1 (ltr x) 0 [] = 0
  unfold checkD
  have h1 : fitsD 1 (ltr x) 0 0 = true := by simp [fitsD]
  have h2 : goodA [] = true := rfl
  simp [h1, h2, (ltr_ok x).1])⟩
end Go.Proofs.YtelhnaphkbpakaaDoor
