/- A node and its attributes as they lie in memory. fits: does a node have just what its kind has; part: where some of its units end. part: where some of a node's units end; Sub: some of a node's units. at: the place of an attribute; Attr: its value. Rows of units compared: slices.Equal; two attributes compared. Units lent with marks behind them (units), kept (keptUnits); SameUnits. -/
import Derived.Deep.DeepCutAuto
import Derived.Deep.Onto
import Derived.Test.YtelhnaphkbpakaaMz7
namespace Go.Proofs.Ytelhnaphkbpakaa
open Go.RowKit
set_option linter.unusedVariables false
set_option maxRecDepth 100000

/-- An attribute: its name, its value, and where the value lies. -/
structure LA where
  name : ByteArray
  va : Option Addr
  vc : Nat
  val : List Nat
def LA.cells (x : LA) : List Value := [.string x.name, .slice x.va x.val.length x.vc]
def LA.v (x : LA) : Value := .agg #[.string x.name, .slice x.va x.val.length x.vc]
def cellsA (L : List LA) : List Value := L.flatMap LA.cells
theorem cellsA_append (L M : List LA) : cellsA (L ++ M) = cellsA L ++ cellsA M := by simp [cellsA]
theorem cellsA_len (L : List LA) : (cellsA L).length = L.length * 2 := by
  induction L with
  | nil => rfl
  | cons x l ih =>
    have : cellsA (x :: l) = x.cells ++ cellsA l := rfl
    rw [this, List.length_append, ih]
    simp [LA.cells]
    omega
theorem cellsA_at {L : List LA} {i : Nat} {x : LA} (h : L[i]? = some x) : (cellsA L)[i * 2]? = some (.string x.name) ∧ (cellsA L)[i * 2 + 1]? = some (.slice x.va x.val.length x.vc) := by
  induction L generalizing i with
  | nil => simp at h
  | cons y l ih =>
    have e : cellsA (y :: l) = .string y.name :: .slice y.va y.val.length y.vc :: cellsA l := rfl
    cases i with
    | zero =>
      obtain rfl : y = x := by simpa using h
      rw [e]
      exact ⟨rfl, rfl⟩
    | succ i =>
      have h2 : l[i]? = some x := by simpa using h
      have h3 := ih h2
      rw [e, show (i + 1) * 2 = i * 2 + 1 + 1 by omega, show i * 2 + 1 + 1 + 1 = (i * 2 + 1) + 1 + 1 by omega]
      simpa using h3
theorem cellsA_one (L : List LA) : ∀ u ∈ cellsA L, u.oneCell' = true := by
  intro u hu
  obtain ⟨x, _, hx⟩ := List.mem_flatMap.1 hu
  rcases List.mem_cons.1 hx with rfl | hx
  · rfl
  · obtain rfl := by simpa using hx
    rfl

/-- A slice of attributes as they lie in memory; of none: whatever its address. -/
structure SlA (w : World) (a : Option Addr) (L : List LA) : Prop where
  at_ : ∀ (j : Nat) (u : Value), (cellsA L)[j]? = some u → ∃ b off, a = some ⟨b, off, none⟩ ∧ b < w.heap.size ∧ w.cell? ⟨b, off + j, none⟩ = some u
  len : L.length ≤ 4611686018427387903
  val : ∀ x ∈ L, Sl16 w x.va x.val
  nam : ∀ x ∈ L, x.name.size ≤ 9223372036854775807
theorem SlA.below {w w' : World} {a : Option Addr} {L : List LA} (h : SlA w a L) (hb : Below w.heap.size w w') : SlA w' a L :=
  ⟨fun j u hu => by
    obtain ⟨b, off, h2, h3, h4⟩ := h.at_ j u hu
    exact ⟨b, off, h2, Nat.lt_of_lt_of_le h3 hb.size, (hb.cell (p := ⟨b, off + j, none⟩) h3).trans h4⟩, h.len, fun x hx => (h.val x hx).below hb, h.nam⟩
theorem SlA.nil (w : World) (a : Option Addr) : SlA w a [] := ⟨fun i u hu => by simp [cellsA] at hu, by simp, by simp, by simp⟩
/-- What the walk wants of the attribute numbered i. -/
theorem SlA.get {w : World} {a : Option Addr} {L : List LA} (h : SlA w a L) {i : Nat} {x : LA} (hx : L[i]? = some x) :
    ∃ b off, a = some ⟨b, off, none⟩ ∧ b < w.heap.size ∧ w.cell? ⟨b, off + i * 2, none⟩ = some (.string x.name) ∧ w.cell? ⟨b, off + i * 2 + 1, none⟩ = some (.slice x.va x.val.length x.vc) := by
  obtain ⟨h1, h2⟩ := cellsA_at hx
  obtain ⟨b, off, e1, e2, e3⟩ := h.at_ _ _ h1
  obtain ⟨b', off', f1, f2, f3⟩ := h.at_ _ _ h2
  rw [e1] at f1
  cases f1
  exact ⟨b, off, e1, e2, e3, by rw [Nat.add_assoc]; exact f3⟩

/-- A node. -/
structure Nd where
  kind : Int
  name : ByteArray
  da : Option Addr
  dc : Nat
  data : List Nat
  aa : Option Addr
  ac : Nat
  L : List LA
  slot : Int
  gen : Int
def Nd.cells (N : Nd) : Array Value := #[.int .i64 N.kind, .string N.name, .slice N.da N.data.length N.dc, .slice N.aa N.L.length N.ac, .int .u32 N.slot, .int .u32 N.gen]
def Nd.v (N : Nd) : Value := .agg N.cells
structure NdIn (w : World) (N : Nd) : Prop where
  data : Sl16 w N.da N.data
  attrs : SlA w N.aa N.L
  nam : N.name.size ≤ 9223372036854775807
  cap : N.data.length ≤ N.dc ∧ N.dc ≤ 9223372036854775807 ∧ N.L.length ≤ N.ac ∧ N.ac ≤ 9223372036854775807
theorem NdIn.below {w w' : World} {N : Nd} (h : NdIn w N) (hb : Below w.heap.size w w') : NdIn w' N := ⟨h.data.below hb, h.attrs.below hb, h.nam, h.cap⟩
/-- A bound of what a node has. -/
structure Nd.Bd (N : Nd) (b : Nat) : Prop where
  data : N.data.length ≤ b
  attrs : N.L.length ≤ b
  val : ∀ x ∈ N.L, x.val.length ≤ b

/-- What a node has, wherever it lies. -/
def attrOf (x : LA) : ByteArray × List Nat := (x.name, x.val)
structure Nd.Same (M N : Nd) : Prop where
  kind : M.kind = N.kind
  name : M.name = N.name
  data : M.data = N.data
  attrs : M.L.map attrOf = N.L.map attrOf
  slot : M.slot = N.slot
  gen : M.gen = N.gen
theorem Nd.Same.len {M N : Nd} (h : M.Same N) : M.L.length = N.L.length := by have := congrArg List.length h.attrs; simpa using this

/-- Attributes in memory of the call's own, without room. -/
structure ClipA (B : Nat) (w : World) (a : Option Addr) (L : List LA) : Prop where
  row : ∃ cap, w.ownsRow B 72 2 (.slice a L.length cap) L.length (cellsA L)
  val : ∀ x ∈ L, Clip16 B w x.va x.val ∧ x.vc = x.val.length
  nam : ∀ x ∈ L, x.name.size ≤ 9223372036854775807
theorem ClipA.below {B : Nat} {w w' : World} {a : Option Addr} {L : List LA} (h : ClipA B w a L) (b : Below w.heap.size w w') : ClipA B w' a L :=
  ⟨by obtain ⟨cap, hr⟩ := h.row; exact ⟨cap, row_below hr b⟩, fun x hx => ⟨(h.val x hx).1.below b, (h.val x hx).2⟩, h.nam⟩
theorem row_src {w : World} {base : Nat} {e : TypeId} {size : Nat} {a : Option Addr} {n cap m : Nat} {xs : List Value} (h : w.ownsRow base e size (.slice a n cap) m xs) {j : Nat} {u : Value} (hu : xs[j]? = some u) :
    ∃ b, a = some ⟨b, 0, none⟩ ∧ b < w.heap.size ∧ w.cell? ⟨b, 0 + j, none⟩ = some u := by
  have hj : j < xs.length := (List.getElem?_eq_some_iff.1 hu).1
  have hx := h.1
  have hm : 0 < m := by rcases Nat.eq_zero_or_pos m with h0 | h0
                        · rw [h0, Nat.zero_mul] at hx; omega
                        · exact h0
  obtain ⟨g, c, hv, hb, hl⟩ := h.form hm
  obtain ⟨h1, h2, h3⟩ : a = some ⟨g, 0, none⟩ ∧ n = m ∧ cap = c := by simpa using hv
  subst h1 h2 h3
  refine ⟨g, rfl, (h.lt g rfl).2, ?_⟩
  rw [Nat.zero_add]
  exact (h.cellAt j (by rw [← hx]; exact hj)).trans hu
theorem ClipA.sl {B : Nat} {w : World} {a : Option Addr} {L : List LA} (h : ClipA B w a L) (hl : L.length ≤ 4611686018427387903) : SlA w a L := by
  obtain ⟨cap, hr⟩ := h.row
  exact ⟨fun j u hu => by obtain ⟨b, h1, h2, h3⟩ := row_src hr hu; exact ⟨b, 0, h1, h2, h3⟩, hl, fun x hx => (h.val x hx).1.sl, h.nam⟩
/-- A node in memory of the call's own. -/
structure Fresh (B : Nat) (w : World) (N : Nd) : Prop where
  data : Clip16 B w N.da N.data
  dc : N.dc = N.data.length
  attrs : ClipA B w N.aa N.L
  ac : N.ac = N.L.length
  nam : N.name.size ≤ 9223372036854775807
  len : N.L.length ≤ 4611686018427387903
theorem Fresh.below {B : Nat} {w w' : World} {N : Nd} (h : Fresh B w N) (b : Below w.heap.size w w') : Fresh B w' N := ⟨h.data.below b, h.dc, h.attrs.below b, h.ac, h.nam, h.len⟩
theorem Fresh.nd {B : Nat} {w : World} {N : Nd} (h : Fresh B w N) : NdIn w N := ⟨h.data.sl, h.attrs.sl h.len, h.nam, by have h1 := h.dc; have h2 := h.ac; have h3 := h.data.len; have h4 := h.len; omega⟩
end Go.Proofs.Ytelhnaphkbpakaa

namespace Go.Proofs.Ytelhnaphkbpakaa
open Go.RowKit
set_option linter.unusedVariables false
set_option maxRecDepth 100000

theorem beq0 (n : Nat) : ((n : Int) == 0) = (n == 0) := by cases n <;> rfl
def noName (nm : ByteArray) : Bool := decide (nm.toList = [])
def fitsD (k : Int) (nm : ByteArray) (dl al : Nat) : Bool :=
  if k = 1 then dl == 0
  else if k = 7 then al == 0
  else if k = 3 ∨ k = 8 then noName nm && al == 0
  else if k = 10 then dl == 0 && al == 0
  else if k = 9 ∨ k = 11 then noName nm && dl == 0 && al == 0
  else false

set_option maxHeartbeats 4000000 in
theorem fits_calls (w : World) (N : Nd) (h : NdIn w N) :
    Calls Try.prog 49 #[N.v] w fun e w' => e = .returned (.bool (fitsD N.kind N.name N.data.length N.L.length)) ∧ Below w.heap.size w w' := by
  obtain ⟨k, nm, da, dc, data, aa, ac, L, sl, ge⟩ := N
  simp only [Nd.v, Nd.cells] at *
  obtain ⟨n, en⟩ : ∃ n, n = L.length := ⟨_, rfl⟩
  obtain ⟨m, em⟩ : ∃ m, m = data.length := ⟨_, rfl⟩
  have hl1 := h.data.len
  have hl2 := h.attrs.len
  have hl3 := h.nam
  simp only [] at hl1 hl2 hl3
  rw [← en] at hl2 ⊢
  rw [← em] at hl1 ⊢
  clear en em h
  go_enter Try.func49, Try.ntmps49
  go_wp2_with fail
  all_goals go_ret
  all_goals refine ⟨?_, (by repeat (first | exact Below.refl _ _ | assumption | refine Below.drew ?_ | refine below_drewN ?_ _ | refine Below.alloc ?_ (by simp <;> omega) _ | refine Below.setCell ?_ (by simp <;> omega) _ | (apply bl_trans; assumption; (simp <;> omega))))⟩
  all_goals simp_all [fitsD, noName]
  all_goals first | exact beq0 _ | (rw [beq0] <;> simp_all) | (simp_all [beq0])
end Go.Proofs.Ytelhnaphkbpakaa

namespace Go.Proofs.Ytelhnaphkbpakaa
open Go.RowKit
set_option linter.unusedVariables false
set_option maxRecDepth 100000

def partD (k off cnt : Int) (m : Nat) : Int × Int :=
  if ¬ (k = 3 ∨ k = 8 ∨ k = 7) then (0, 63)
  else if off < 0 ∨ (m : Int) < off ∨ cnt < 0 then (0, 61)
  else (off + min cnt (m - off), 0)

set_option maxHeartbeats 4000000 in
theorem part_calls (w : World) (N : Nd) (h : NdIn w N) (off cnt : Int) :
    Calls Try.prog 65 #[N.v, .int .i64 off, .int .i64 cnt] w fun e w' => e = .returned (.tuple #[.int .i64 (partD N.kind off cnt N.data.length).1, .int .i64 (partD N.kind off cnt N.data.length).2]) ∧ Below w.heap.size w w' := by
  obtain ⟨k, nm, da, dc, data, aa, ac, L, sl, ge⟩ := N
  simp only [Nd.v, Nd.cells] at *
  obtain ⟨m, em⟩ : ∃ m, m = data.length := ⟨_, rfl⟩
  have hl1 := h.data.len
  simp only [] at hl1
  rw [← em] at hl1 ⊢
  clear em h
  by_cases hk : k = 3 ∨ k = 8 ∨ k = 7
  · by_cases ho : off < 0 ∨ (m : Int) < off ∨ cnt < 0
    · have e : partD k off cnt m = (0, 61) := by unfold partD; rw [if_neg (by simp [hk]), if_pos ho]
      rw [e]
      clear e
      go_enter Try.func65, Try.ntmps65
      go_wp2_with fail
      all_goals first | exact bodyPost_ret (v := .tuple #[.int .i64 0, .int .i64 61]) (by simp [results, Try.results65, go_sem]) rfl ⟨rfl, (by repeat (first | exact Below.refl _ _ | assumption | refine Below.drew ?_ | refine below_drewN ?_ _ | refine Below.alloc ?_ (by simp <;> omega) _ | refine Below.setCell ?_ (by simp <;> omega) _ | (apply bl_trans; assumption; (simp <;> omega))))⟩ | (exfalso; omega) | (exfalso; simp_all; done)
    · have e : partD k off cnt m = (off + min cnt (m - off), 0) := by unfold partD; rw [if_neg (by simp [hk]), if_neg ho]
      rw [e]
      clear e
      have p1 : ¬ off < 0 := by omega
      have p2 : ¬ (m : Int) < off := by omega
      have p3 : ¬ cnt < 0 := by omega
      have q1 : IntKind.i64.wrap ((m : Int) - off) = (m : Int) - off := IntWalk.i64_in _ (by omega)
      have q2 : IntKind.i64.wrap (off + min cnt ((m : Int) - off)) = off + min cnt ((m : Int) - off) := IntWalk.i64_in _ (by omega)
      clear ho
      go_enter Try.func65, Try.ntmps65
      go_wp2_with fail
      all_goals first | exact bodyPost_ret (v := .tuple #[.int .i64 (off + min cnt ((m : Int) - off)), .int .i64 0]) (by simp [results, Try.results65, go_sem] <;> omega) rfl ⟨rfl, (by repeat (first | exact Below.refl _ _ | assumption | refine Below.drew ?_ | refine below_drewN ?_ _ | refine Below.alloc ?_ (by simp <;> omega) _ | refine Below.setCell ?_ (by simp <;> omega) _ | (apply bl_trans; assumption; (simp <;> omega))))⟩ | (exfalso; omega) | (exfalso; simp_all; done)
  · have e : partD k off cnt m = (0, 63) := by unfold partD; rw [if_pos hk]
    rw [e]
    clear e
    go_enter Try.func65, Try.ntmps65
    go_wp2_with fail
    all_goals first | exact bodyPost_ret (v := .tuple #[.int .i64 0, .int .i64 63]) (by simp [results, Try.results65, go_sem]) rfl ⟨rfl, (by repeat (first | exact Below.refl _ _ | assumption | refine Below.drew ?_ | refine below_drewN ?_ _ | refine Below.alloc ?_ (by simp <;> omega) _ | refine Below.setCell ?_ (by simp <;> omega) _ | (apply bl_trans; assumption; (simp <;> omega))))⟩ | (exfalso; omega) | (exfalso; simp_all; done)

/-- What Sub tells. -/
def subD (k off cnt : Int) (data : List Nat) : List Nat := (data.drop off.toNat).take ((partD k off cnt data.length).1 - off).toNat
theorem partD_good {k off cnt : Int} {m : Nat} (h : (partD k off cnt m).2 = 0) : (k = 3 ∨ k = 8 ∨ k = 7) ∧ 0 ≤ off ∧ off ≤ (m : Int) ∧ 0 ≤ cnt ∧ partD k off cnt m = (off + min cnt (m - off), 0) := by
  unfold partD at h ⊢
  by_cases h1 : ¬ (k = 3 ∨ k = 8 ∨ k = 7)
  · rw [if_pos h1] at h; simp at h
  · rw [if_neg h1] at h ⊢
    by_cases h2 : off < 0 ∨ (m : Int) < off ∨ cnt < 0
    · rw [if_pos h2] at h; simp at h
    · rw [if_neg h2]
      exact ⟨Decidable.not_not.1 h1, by omega, by omega, by omega, rfl⟩
theorem partD_bad {k off cnt : Int} {m : Nat} (h : (partD k off cnt m).2 ≠ 0) : (partD k off cnt m).1 = 0 ∧ ((partD k off cnt m).2 = 61 ∨ (partD k off cnt m).2 = 63) := by
  unfold partD at h ⊢
  by_cases h1 : ¬ (k = 3 ∨ k = 8 ∨ k = 7)
  · rw [if_pos h1]; simp
  · rw [if_neg h1] at h ⊢
    by_cases h2 : off < 0 ∨ (m : Int) < off ∨ cnt < 0
    · rw [if_pos h2]; simp
    · rw [if_neg h2] at h; simp at h
/-- A slice of a slice. -/
theorem Sl16.part {w : World} {a : Option Addr} {us : List Nat} (h : Sl16 w a us) (i n : Nat) (hn : i + n ≤ us.length) : Sl16 w (a.map (·.add i)) ((us.drop i).take n) := by
  refine ⟨fun j u hu => ?_, by have := h.len; rw [List.length_take, List.length_drop]; omega⟩
  have hj : j < n := by
    have := (List.getElem?_eq_some_iff.1 hu).1
    rw [List.length_take] at this; omega
  rw [List.getElem?_take, if_pos hj, List.getElem?_drop] at hu
  obtain ⟨h1, b, off, h2, h3, h4⟩ := h.at_ _ _ hu
  subst h2
  exact ⟨h1, b, off + i, by simp [Addr.add], h3, by rw [show off + i + j = off + (i + j) by omega]; exact h4⟩

set_option maxHeartbeats 4000000 in
theorem sub_calls (w : World) (N : Nd) (h : NdIn w N) (hB : N.Bd 1099511627776) (off cnt : Int) :
    Calls Try.prog 23 #[N.v, .int .i64 off, .int .i64 cnt] w fun e w' => Below w.heap.size w w' ∧
      (((partD N.kind off cnt N.data.length).2 ≠ 0 ∧ e = .returned (.tuple #[.slice none 0 0, .int .i64 (partD N.kind off cnt N.data.length).2])) ∨
       ((partD N.kind off cnt N.data.length).2 = 0 ∧ ∃ a, e = .returned (.tuple #[.slice a (subD N.kind off cnt N.data).length (subD N.kind off cnt N.data).length, .int .i64 0]) ∧ Clip16 w.heap.size w' a (subD N.kind off cnt N.data))) := by
  have hpart := fun w' (b : Below w.heap.size w w') => part_calls w' N (h.below b) off cnt
  obtain ⟨k, nm, da, dc, data, aa, ac, L, sl, ge⟩ := N
  have hd := h.data
  have hb1 := hB.data
  have hcap := h.cap
  simp only [Nd.v, Nd.cells] at *
  obtain ⟨m, em⟩ : ∃ m, m = data.length := ⟨_, rfl⟩
  rw [← em] at hb1 hpart hcap ⊢
  obtain ⟨hcap1, hcap2, _, _⟩ := hcap
  have HM := Lib.hid em
  have HD := Lib.hid hd
  have HP := Lib.hid hpart
  clear em h hd hpart hB
  by_cases hg : (partD k off cnt m).2 = 0
  · obtain ⟨hk, p1, p2, p3, hp⟩ := partD_good hg
    rw [hp] at HP ⊢
    obtain ⟨r, hr⟩ : ∃ r, r = off + min cnt ((m : Int) - off) := ⟨_, rfl⟩
    obtain ⟨us, hus⟩ : ∃ us, us = subD k off cnt data := ⟨_, rfl⟩
    have hsd : us = (data.drop off.toNat).take (r - off).toNat := by rw [hus, hr]; unfold subD; rw [← HM.out, hp]
    have p4 : off ≤ r := by omega
    have p5 : r ≤ (m : Int) := by omega
    have p6 : r ≤ (dc : Int) := by omega
    have hul : us.length = (r - off).toNat := by rw [hsd, List.length_take, List.length_drop, ← HM.out]; omega
    have q2 : r.toNat - off.toNat = us.length := by omega
    have q3 : off.toNat + us.length ≤ m := by omega
    have q4 : us.length ≤ 1099511627776 := by omega
    have HUS : Hid (∀ w', Sl16 w' da data → Sl16 w' (da.map (·.add off.toNat)) us) := Lib.hid (fun w' h => by rw [hsd]; exact h.part _ _ (by rw [← HM.out]; omega))
    rw [← hr] at HP ⊢
    rw [← hus]
    clear hp hr hus hsd hul
    go_enter Try.func23, Try.ntmps23
    go_wp2_with fail
    have hb0 : Below w.heap.size w (w.alloc (.cells #[.int .i64 k, .string nm, .slice da m dc, .slice aa L.length ac, .int .u32 sl, .int .u32 ge] 30)) := (Below.refl _ w).alloc (Nat.le_refl _) _
    refine (HP.out _ hb0).mono ?_
    rintro e w1 ⟨rfl, b1⟩
    have x0 := (b1.block w.heap.size (by simp)).trans (Go.heap_alloc_new w _)
    have c2 := cell_blk x0 2 rfl
    have l0 := lt_of_some x0
    simp at c2
    have B1 := Lib.hid (hb0.trans (b1.mono (by simp)))
    have HOWN : Hid (∀ A C, (A = da.map (·.add off.toNat) ∨ us = []) → Calls Try.prog 64 #[.slice A us.length C] w1 fun e w' => ∃ a', e = .returned (.slice a' us.length us.length) ∧ Clip16 w1.heap.size w' a' us ∧ Below w1.heap.size w1 w') := Lib.hid (fun A C h => by
      rcases h with rfl | h
      · exact own_calls w1 C (HUS.out _ (HD.out.below B1.out)) q4
      · exact own_calls w1 C (by rw [h]; exact Sl16.nil w1 A) q4)
    have hs1 : w.heap.size ≤ w1.heap.size := by omega
    clear b1 hb0 x0 hg
    go_wp2_with fail
    all_goals ((try rw [q2]); refine (HOWN.out _ _ (by first | exact .inl rfl | exact .inr (List.eq_nil_of_length_eq_zero (by omega)))).mono ?_; rintro e w2 ⟨a', rfl, hc2, b2⟩)
    all_goals have HC2 := Lib.hid (And.intro hc2 b2)
    all_goals clear hc2 b2
    all_goals go_wp2
    all_goals exact bodyPost_ret (v := .tuple #[.slice a' us.length us.length, .int .i64 0]) (by simp [results, Try.results23, go_sem]) rfl ⟨B1.out.trans (HC2.out.2.mono hs1), .inr ⟨trivial, a', rfl, ⟨by obtain ⟨cap, hr⟩ := HC2.out.1.row; exact ⟨cap, hr.mono hs1⟩, HC2.out.1.bnd, HC2.out.1.len⟩⟩⟩
  · obtain ⟨h1, h2⟩ := partD_bad hg
    rw [h1] at HP
    obtain ⟨c, hc⟩ : ∃ c, c = (partD k off cnt m).2 := ⟨_, rfl⟩
    rw [← hc] at HP hg h2 ⊢
    clear hc h1
    have hcc : (c != 0) = true := by simpa using hg
    go_enter Try.func23, Try.ntmps23
    go_wp2_with (go_at_call 65; refine (HP.out _ ((Below.refl _ w).alloc (Nat.le_refl _) _)).mono ?_; rintro e w1 ⟨rfl, b1⟩)
    exact bodyPost_ret (v := .tuple #[.slice none 0 0, .int .i64 c]) (by simp [results, Try.results23, go_sem]) rfl ⟨(by repeat (first | exact Below.refl _ _ | assumption | refine Below.drew ?_ | refine below_drewN ?_ _ | refine Below.alloc ?_ (by simp <;> omega) _ | refine Below.setCell ?_ (by simp <;> omega) _ | (apply bl_trans; assumption; (simp <;> omega)))), .inl ⟨hg, rfl⟩⟩
end Go.Proofs.Ytelhnaphkbpakaa

namespace Go.Proofs.Ytelhnaphkbpakaa
open Go.RowKit
set_option linter.unusedVariables false
set_option maxRecDepth 100000

theorem at1_calls (w : World) (nm name : ByteArray) (va : Option Addr) (vn vc b : Nat) (hb : w.heap[b]? = some (.cells #[.string name] 9 (0, 0))) :
    Calls Try.prog 95 #[.agg #[.string nm, .slice va vn vc], .pointer (some ⟨b, 0, none⟩)] w fun e w' => e = .returned (.bool (nm.toList == name.toList)) ∧ Below w.heap.size w w' := by
  have c0 := cell_blk hb 0 rfl
  have l0 := lt_of_some hb
  simp at c0
  go_enter Try.func95, Try.ntmps95
  go_wp2_with fail
  go_ret
  exact ⟨rfl, (by repeat (first | exact Below.refl _ _ | assumption | refine Below.drew ?_ | refine below_drewN ?_ _ | refine Below.alloc ?_ (by simp <;> omega) _ | refine Below.setCell ?_ (by simp <;> omega) _ | (apply bl_trans; assumption; (simp <;> omega))))⟩

def isNm (name : ByteArray) (x : LA) : Bool := x.name.toList == name.toList
def atD (L : List LA) (name : ByteArray) : Int := if L.findIdx (isNm name) < L.length then (L.findIdx (isNm name) : Int) else -1

set_option maxHeartbeats 4000000 in
theorem index_calls (w : World) {a : Option Addr} {L : List LA} (ac : Nat) (hA : SlA w a L) (name : ByteArray) (b : Nat) (hb : w.heap[b]? = some (.cells #[.string name] 9 (0, 0))) :
    Calls Try.prog 94 #[.slice a L.length ac, .func (.func 95) #[] #[.pointer (some ⟨b, 0, none⟩)]] w fun e w' => e = .returned (.int .i64 (atD L name)) ∧ Below w.heap.size w w' := by
  obtain ⟨n, en⟩ : ∃ n, n = L.length := ⟨_, rfl⟩
  have hl := hA.len
  rw [← en] at hl ⊢
  have HN := Lib.hid en
  have HA := Lib.hid hA
  clear hA en
  go_enter Try.func94, Try.ntmps94
  go_wp2_with fail
  go_loopw [8] (fun v wr => ∃ (i : Nat), v = .int .i64 (i : Nat) ∧ i ≤ n ∧ (∀ (j : Nat) (x : LA), j < i → L[j]? = some x → isNm name x = false) ∧ Below w.heap.size w wr) (fun v _ => n - (intOf v).toNat)
  case atStart => exact ⟨0, rfl, Nat.zero_le _, fun _ _ h => absurd h (Nat.not_lt_zero _), Below.refl _ _⟩
  case round =>
    obtain ⟨i, rfl, hi, hno, hbel⟩ := hrel
    by_cases hlt : i < n
    · obtain ⟨x, hx⟩ : ∃ x, L[i]? = some x := ⟨_, List.getElem?_eq_getElem (by rw [← HN.out]; exact hlt)⟩
      obtain ⟨bb, off, rfl, hbl, c1, c2⟩ := (HA.out.below hbel).get hx
      have p1 : (i : Int) < (n : Int) := by omega
      have p2 : (0 : Int) ≤ (i : Int) := by omega
      have hb2 := (hbel.block b (lt_of_some hb)).trans hb
      have hc := at1_calls wr x.name name x.va x.val.length x.vc b hb2
      have hs := hbel.size
      cases hm : isNm name x with
      | true =>
        have hm2 : (x.name.toList == name.toList) = true := hm
        rw [hm2] at hc
        have hat : atD L name = (i : Int) := by
          have h1 : L.findIdx (isNm name) = i := by
            have hil : i < L.length := by rw [← HN.out]; exact hlt
            rw [List.findIdx_eq hil]
            have hxe : L[i] = x := by rw [List.getElem?_eq_getElem hil] at hx; exact Option.some.inj hx
            refine ⟨by rw [hxe]; exact hm, fun j hj => ?_⟩
            exact hno j _ hj (List.getElem?_eq_getElem (by omega))
          unfold atD
          rw [h1, if_pos (by rw [← HN.out]; exact hlt)]
        have HAT := Lib.hid hat
        have HC := Lib.hid hc
        clear hc hx hno hm hm2 hat hb2
        go_wp2_with (go_at_call 95; refine HC.out.mono ?_; rintro e w2 ⟨rfl, b2⟩)
        go_ret
        exact ⟨by rw [HAT.out]; rfl, hbel.trans (b2.mono hs)⟩
      | false =>
        have hm2 : (x.name.toList == name.toList) = false := hm
        rw [hm2] at hc
        have HC := Lib.hid hc
        have HNO := Lib.hid hno
        have HX := Lib.hid (And.intro hx hm)
        clear hc hx hno hm hm2 hb2
        go_wp2_with (go_at_call 95; refine HC.out.mono ?_; rintro e w2 ⟨rfl, b2⟩)
        go_roundw
        case rel =>
          refine ⟨i + 1, by go_num, hlt, fun j y hj hy => ?_, hbel.trans (b2.mono hs)⟩
          rcases Nat.lt_or_ge j i with h | h
          · exact HNO.out j y h hy
          · obtain rfl : j = i := by omega
            rw [HX.out.1] at hy
            cases hy
            exact HX.out.2
        case measure => simp [intOf]; omega
    · obtain rfl : i = n := by omega
      have p1 : ¬ (i : Int) < (i : Int) := by omega
      have hat : atD L name = -1 := by
        unfold atD
        rw [if_neg]
        intro h
        have h1 := List.findIdx_getElem (w := h)
        rw [hno _ _ (by rw [HN.out]; exact h) (List.getElem?_eq_getElem h)] at h1
        exact absurd h1 (by simp)
      have HAT := Lib.hid hat
      clear hno hat hlt
      go_wp2_with fail
      go_ret
      exact ⟨by rw [HAT.out]; rfl, hbel⟩

set_option maxHeartbeats 4000000 in
theorem at_calls (w : World) (N : Nd) (h : NdIn w N) (name : ByteArray) :
    Calls Try.prog 71 #[N.v, .string name] w fun e w' => e = .returned (.int .i64 (atD N.L name)) ∧ Below w.heap.size w w' := by
  have hA := h.attrs
  obtain ⟨k, nm, da, dc, data, aa, ac, L, sl, ge⟩ := N
  simp only [Nd.v, Nd.cells] at *
  have hb0 : Below w.heap.size w ((w.alloc (.cells #[.int .i64 k, .string nm, .slice da data.length dc, .slice aa L.length ac, .int .u32 sl, .int .u32 ge] 30)).alloc (.cells #[.string name] 9)) := ((Below.refl _ w).alloc (Nat.le_refl _) _).alloc (by simp) _
  have hx : ((w.alloc (.cells #[.int .i64 k, .string nm, .slice da data.length dc, .slice aa L.length ac, .int .u32 sl, .int .u32 ge] 30)).alloc (.cells #[.string name] 9)).heap[w.heap.size + 1]? = some (.cells #[.string name] 9 (0, 0)) := by
    have := Go.heap_alloc_new (w.alloc (.cells #[.int .i64 k, .string nm, .slice da data.length dc, .slice aa L.length ac, .int .u32 sl, .int .u32 ge] 30)) (.cells #[.string name] 9); rwa [World.size_alloc] at this
  have hi := index_calls _ ac (hA.below hb0) name _ hx
  have HI := Lib.hid hi
  have HB := Lib.hid hb0
  clear hi hx hb0 h hA
  go_enter Try.func71, Try.ntmps71
  go_wp2_with (go_at_call 94; refine HI.out.mono ?_; rintro e w2 ⟨rfl, b2⟩)
  go_ret
  exact ⟨rfl, HB.out.trans (b2.mono (by simp; omega))⟩
end Go.Proofs.Ytelhnaphkbpakaa

namespace Go.Proofs.Ytelhnaphkbpakaa
open Go.RowKit
set_option linter.unusedVariables false
set_option maxRecDepth 100000

set_option maxHeartbeats 4000000 in
theorem eq16_calls {w : World} {a b : Option Addr} {us vs : List Nat} (ca cb : Nat) (ha : Sl16 w a us) (hb : Sl16 w b vs) :
    Calls Try.prog 52 #[.slice a us.length ca, .slice b vs.length cb] w fun e w' => e = .returned (.bool (decide (us = vs))) ∧ ∃ k, w.drewN k = w' := by
  obtain ⟨n, en⟩ : ∃ n, n = us.length := ⟨_, rfl⟩
  obtain ⟨m, em⟩ : ∃ m, m = vs.length := ⟨_, rfl⟩
  have hl1 := ha.len
  have hl2 := hb.len
  rw [← en] at hl1 ⊢
  rw [← em] at hl2 ⊢
  have HN := Lib.hid en
  have HM := Lib.hid em
  have HA := Lib.hid ha
  have HB := Lib.hid hb
  clear en em ha hb
  by_cases hnm : n = m
  · subst hnm
    obtain ⟨r, hr⟩ : ∃ r, r = decide (us = vs) := ⟨_, rfl⟩
    rw [← hr]
    have HR := Lib.hid hr
    clear hr
    go_enter Try.func52, Try.ntmps52
    go_wp2_with fail
    go_loopw [13] (fun v wr => ∃ i k : Nat, v = .int .i64 (i : Nat) ∧ i ≤ n ∧ (∀ j, j < i → us[j]? = vs[j]?) ∧ wr = w.drewN k) (fun v _ => n - (intOf v).toNat)
    case atStart => exact ⟨0, 0, rfl, Nat.zero_le _, fun j hj => absurd hj (by omega), rfl⟩
    case round =>
      obtain ⟨i, k, rfl, hi, heq, rfl⟩ := hrel
      have HE := Lib.hid heq
      clear heq
      by_cases h1 : i < n
      · obtain ⟨u, hu⟩ : ∃ u, us[i]? = some u := ⟨_, List.getElem?_eq_getElem (by rw [← HN.out]; exact h1)⟩
        obtain ⟨hu1, b1, o1, rfl, hb1, c1⟩ := HA.out.at_ i u hu
        obtain ⟨v, hv⟩ : ∃ v, vs[i]? = some v := ⟨_, List.getElem?_eq_getElem (by rw [← HM.out]; exact h1)⟩
        obtain ⟨hv1, b2, o2, rfl, hb2, c2⟩ := HB.out.at_ i v hv
        have HU := Lib.hid hu
        have HV := Lib.hid hv
        clear hu hv
        have p0 : (0 : Int) ≤ (i : Int) := by omega
        have p1 : (i : Int) < (n : Int) := by omega
        by_cases hne : u = v
        · subst hne
          have q : ((u : Int) != (u : Int)) = false := by simp
          go_wp2_with fail
          go_quiet (fail)
          go_wp2
          go_roundw
          case rel => exact ⟨i + 1, _, by go_num, h1, fun j hj => by
              rcases Nat.lt_or_ge j i with h | h
              · exact HE.out j h
              · obtain rfl : j = i := by omega
                rw [HU.out, HV.out], rfl⟩
          case measure => simp [intOf]; omega
        · have hrf : r = false := by
            rw [HR.out]
            refine decide_eq_false (fun e => hne ?_)
            have := HU.out
            rw [e, HV.out] at this
            exact (Option.some.inj this).symm
          have q : ((u : Int) != (v : Int)) = true := by simp; omega
          have HRF := Lib.hid hrf
          clear hrf
          go_wp2_with fail
          go_quiet (fail)
          go_wp2
          go_ret
          exact ⟨by rw [HRF.out]; rfl, _, by rw [World.drewN_drewN]⟩
      · obtain rfl : i = n := by omega
        have hrf : r = true := by
          rw [HR.out]
          refine decide_eq_true (List.ext_getElem? (fun j => ?_))
          rcases Nat.lt_or_ge j i with h | h
          · exact HE.out j h
          · rw [List.getElem?_eq_none (by rw [← HN.out]; exact h), List.getElem?_eq_none (by rw [← HM.out]; exact h)]
        have HRF := Lib.hid hrf
        have p1 : ¬ (i : Int) < (i : Int) := by omega
        clear hrf h1
        go_wp2_with fail
        go_ret
        exact ⟨by rw [HRF.out]; rfl, _, rfl⟩
  · have hne : us ≠ vs := fun e => hnm (by rw [HN.out, HM.out, e])
    rw [decide_eq_false hne]
    have q : ((n : Int) != (m : Int)) = true := by simp; omega
    clear hne
    go_enter Try.func52, Try.ntmps52
    go_wp2
    go_ret
    exact ⟨rfl, 0, rfl⟩

/-- Two attributes: the same name, the same value. -/
def eqAt (x y : LA) : Bool := x.name.toList == y.name.toList && decide (x.val = y.val)
set_option maxHeartbeats 4000000 in
theorem eqAt_calls (w : World) (x y : LA) (hx : Sl16 w x.va x.val) (hy : Sl16 w y.va y.val) :
    Calls Try.prog 61 #[x.v, y.v] w fun e w' => e = .returned (.bool (eqAt x y)) ∧ Below w.heap.size w w' := by
  have hb : Below w.heap.size w ((w.alloc (.cells #[.string x.name, .slice x.va x.val.length x.vc] 72)).alloc (.cells #[.string y.name, .slice y.va y.val.length y.vc] 72)) := ((Below.refl _ w).alloc (Nat.le_refl _) _).alloc (by simp) _
  have he := eq16_calls x.vc y.vc (hx.below hb) (hy.below hb)
  obtain ⟨r, hr⟩ : ∃ r, r = eqAt x y := ⟨_, rfl⟩
  rw [← hr]
  unfold LA.v
  unfold eqAt at hr
  cases hn : (x.name.toList == y.name.toList) with
  | false =>
    rw [hn, Bool.false_and] at hr
    subst hr
    have HBB := Lib.hid hb
    clear he hb
    go_enter Try.func61, Try.ntmps61
    go_wp2
    go_ret
    exact ⟨rfl, HBB.out⟩
  | true =>
    rw [hn, Bool.true_and] at hr
    rw [← hr] at he
    have HE := Lib.hid he
    have HBB := Lib.hid hb
    clear he hb hr
    go_enter Try.func61, Try.ntmps61
    go_wp2_with (go_at_call 52; refine HE.out.mono ?_; rintro e w2 ⟨rfl, k, rfl⟩)
    go_ret
    exact ⟨by first | rfl | (cases r <;> rfl), HBB.out.trans (((FrT.refl [] _ _).drewN k).below (Nat.le_refl _) |>.mono (by simp; omega))⟩
end Go.Proofs.Ytelhnaphkbpakaa

namespace Go.Proofs.Ytelhnaphkbpakaa
open Go.RowKit
set_option linter.unusedVariables false
set_option maxRecDepth 100000

set_option maxHeartbeats 4000000 in
theorem sameUnits_calls {w : World} {a b : Option Addr} {us vs : List Nat} (ca cb : Nat) (ha : Sl16 w a us) (hb : Sl16 w b vs) :
    Calls Try.prog 25 #[.slice a us.length ca, .slice b vs.length cb] w fun e w' => e = .returned (.bool (decide (us = vs))) ∧ ∃ k, w.drewN k = w' := by
  obtain ⟨n, en⟩ : ∃ n, n = us.length := ⟨_, rfl⟩
  obtain ⟨m, em⟩ : ∃ m, m = vs.length := ⟨_, rfl⟩
  have hl1 := ha.len
  have hl2 := hb.len
  rw [← en] at hl1 ⊢
  rw [← em] at hl2 ⊢
  have HN := Lib.hid en
  have HM := Lib.hid em
  have HA := Lib.hid ha
  have HB := Lib.hid hb
  clear en em ha hb
  by_cases hnm : n = m
  · subst hnm
    obtain ⟨r, hr⟩ : ∃ r, r = decide (us = vs) := ⟨_, rfl⟩
    rw [← hr]
    have HR := Lib.hid hr
    clear hr
    go_enter Try.func25, Try.ntmps25
    go_wp2_with fail
    go_loopw [5] (fun v wr => ∃ i k : Nat, v = .int .i64 (i : Nat) ∧ i ≤ n ∧ (∀ j, j < i → us[j]? = vs[j]?) ∧ wr = w.drewN k) (fun v _ => n - (intOf v).toNat)
    case atStart => exact ⟨0, 0, rfl, Nat.zero_le _, fun j hj => absurd hj (by omega), rfl⟩
    case round =>
      obtain ⟨i, k, rfl, hi, heq, rfl⟩ := hrel
      have HE := Lib.hid heq
      clear heq
      by_cases h1 : i < n
      · obtain ⟨u, hu⟩ : ∃ u, us[i]? = some u := ⟨_, List.getElem?_eq_getElem (by rw [← HN.out]; exact h1)⟩
        obtain ⟨hu1, b1, o1, rfl, hb1, c1⟩ := HA.out.at_ i u hu
        obtain ⟨v, hv⟩ : ∃ v, vs[i]? = some v := ⟨_, List.getElem?_eq_getElem (by rw [← HM.out]; exact h1)⟩
        obtain ⟨hv1, b2, o2, rfl, hb2, c2⟩ := HB.out.at_ i v hv
        have HU := Lib.hid hu
        have HV := Lib.hid hv
        clear hu hv
        have p0 : (0 : Int) ≤ (i : Int) := by omega
        have p1 : (i : Int) < (n : Int) := by omega
        by_cases hne : u = v
        · subst hne
          have q : ((u : Int) != (u : Int)) = false := by simp
          go_wp2_with fail
          go_quiet (fail)
          go_wp2
          go_roundw
          case rel => exact ⟨i + 1, _, by go_num, h1, fun j hj => by
              rcases Nat.lt_or_ge j i with h | h
              · exact HE.out j h
              · obtain rfl : j = i := by omega
                rw [HU.out, HV.out], rfl⟩
          case measure => simp [intOf]; omega
        · have hrf : r = false := by
            rw [HR.out]
            refine decide_eq_false (fun e => hne ?_)
            have := HU.out
            rw [e, HV.out] at this
            exact (Option.some.inj this).symm
          have q : ((u : Int) != (v : Int)) = true := by simp; omega
          have HRF := Lib.hid hrf
          clear hrf
          go_wp2_with fail
          go_quiet (fail)
          go_wp2
          go_ret
          exact ⟨by rw [HRF.out]; rfl, _, by rw [World.drewN_drewN]⟩
      · obtain rfl : i = n := by omega
        have hrf : r = true := by
          rw [HR.out]
          refine decide_eq_true (List.ext_getElem? (fun j => ?_))
          rcases Nat.lt_or_ge j i with h | h
          · exact HE.out j h
          · rw [List.getElem?_eq_none (by rw [← HN.out]; exact h), List.getElem?_eq_none (by rw [← HM.out]; exact h)]
        have HRF := Lib.hid hrf
        have p1 : ¬ (i : Int) < (i : Int) := by omega
        clear hrf h1
        go_wp2_with fail
        go_ret
        exact ⟨by rw [HRF.out]; rfl, _, rfl⟩
  · have hne : us ≠ vs := fun e => hnm (by rw [HN.out, HM.out, e])
    rw [decide_eq_false hne]
    have q : ((n : Int) != (m : Int)) = true := by simp; omega
    clear hne
    go_enter Try.func25, Try.ntmps25
    go_wp2
    go_ret
    exact ⟨rfl, 0, rfl⟩


structure LentU (B : Nat) (w : World) (a : Option Addr) (cap : Nat) (us : List Nat) : Prop where
  row : w.ownsRow B 45 1 (.slice a (us.length + 2) cap) (us.length + 2) (enc16 us ++ [.int .u16 48879, .int .u16 48879])
  bnd : ∀ u ∈ us, u ≤ 65535
  len : us.length ≤ 1048576
theorem LentU.sl {B : Nat} {w : World} {a : Option Addr} {cap : Nat} {us : List Nat} (h : LentU B w a cap us) : Sl16 w a us := sl16_of_row (n := 0) h.row (by omega) h.bnd (by have := h.len; omega)
theorem LentU.below {B : Nat} {w w' : World} {a : Option Addr} {cap : Nat} {us : List Nat} (h : LentU B w a cap us) (b : Below w.heap.size w w') : LentU B w' a cap us :=
  ⟨(FrT.of_below (T := []) (B := 0) b).row h.row (by simp), h.bnd, h.len⟩
theorem LentU.cap {B : Nat} {w : World} {a : Option Addr} {cap : Nat} {us : List Nat} (h : LentU B w a cap us) : us.length + 2 ≤ cap := by
  rcases h.row.2 with ⟨h', _⟩ | ⟨g, cap', cur, h', _, _, _, h4, _⟩
  · cases h'
  · cases h'; omega

set_option maxHeartbeats 2000000 in
theorem units_calls {w : World} {a : Option Addr} {us : List Nat} (ca : Nat) (ha : Sl16 w a us) (hlen : us.length ≤ 1048576) :
    Calls Try.prog 22 #[.slice a us.length ca] w fun e w' => ∃ a' cap, e = .returned (.slice a' us.length cap) ∧ LentU w.heap.size w' a' cap us ∧ Below w.heap.size w w' := by
  have HA := Lib.hid ha
  have hb := ha.bnd
  have HB := Lib.hid hb
  clear ha hb
  obtain ⟨n, hn⟩ : ∃ n, n = us.length := ⟨_, rfl⟩
  rw [← hn] at hlen ⊢
  have HN := Lib.hid hn
  clear hn
  obtain ⟨i79, hi79, ha1, ha2, ha3⟩ := info_parts info79
  have q1 : IntKind.i64.wrap ((n : Int) + 2) = (n : Int) + 2 := IntWalk.i64_in _ (by omega)
  go_enter Try.func22, Try.ntmps22
  go_wp2_with (at_make; refine wpList_make_own _ rfl _ _ 24 rfl w.heap.size 45 i79 _ 1 Try.underlying24 hi79 ha1 ha2 .i64 .i64 _ (n + 2) rfl rfl (by omega) (by rw [ha3]; omega) (by unfold maxLen; omega) (Nat.le_refl _) ?_)
  intro w1 hown1 hgrow1
  have HO1 := Lib.hid hown1
  have hs1 : w.heap.size ≤ w1.heap.size := hgrow1.size
  have hb1 : Below w.heap.size w w1 := (Below.refl _ w).grown hgrow1 (Nat.le_refl _) (fun _ e => by cases e)
  have HA1 := Lib.hid (HA.out.below hb1)
  have HB1 := Lib.hid hb1
  clear hown1 hgrow1 hb1
  go_wp2_with (at_builtin; refine wpList_append_any _ rfl (.tmp 8) (.tmp 9) 24 rfl w.heap.size 45 i79 _ 1 2 Try.underlying24 hi79 ha1 ha2 ha3 rfl (by omega) _ 0 [] rfl HO1.out a n ca (enc16 us) rfl (by rw [enc16_len, HN.out]; simp) (by rw [HN.out]; exact HA1.out.src) enc16_one (by unfold maxLen; omega) (by omega) hs1 ?_)
  intro a2 c2 w2 hown2 hgrow2
  have hb2 : Below w.heap.size w1 w2 := (Below.refl _ w1).grown hgrow2 hs1 (fun k e => by simp [Value.ownBlock] at e; omega)
  have HB2 := Lib.hid (HB1.out.trans hb2)
  have hs2 := Nat.le_trans hs1 hb2.size
  have HO2 := Lib.hid hown2
  clear hown2 hgrow2 hb2 HA1
  go_wp2_with (at_builtin; refine wpList_append_lies _ rfl (.tmp 11) (.tmp 12) 24 rfl w.heap.size 45 i79 _ 1 2 Try.underlying24 hi79 ha1 ha2 ha3 rfl (by omega) _ n _ rfl (HO2.out.alloc _) ⟨w2.heap.size, 0, none⟩ 2 2 [.int .u16 48879, .int .u16 48879] rfl rfl (World.news_of_block (cs := #[.int .u16 48879, .int .u16 48879]) (t := 45) (fr := (0, 0)) (Go.heap_alloc_new w2 _)) (by simp [Value.oneCell']) (by omega) (by unfold maxLen; omega) (by omega) (by simp; omega) _ rfl ?_)
  intro g3 c3 w3 hown3 hgrow3 hat3 hlt3
  have f3 : FrT [45] w.heap.size w2 w3 := ((FrT.refl _ _ _).alloc _).append (HO2.out.alloc _) (Nat.le_refl _) (by simp) hgrow3
  have HB3 := Lib.hid (HB2.out.trans (f3.below hs2))
  have HL3 : Hid (LentU w.heap.size w3 (some ⟨g3, 0, none⟩) c3 us) := Lib.hid ⟨by rw [← HN.out]; exact hown3, HB.out, by rw [← HN.out]; exact hlen⟩
  have hcap := HL3.out.cap
  rw [← HN.out] at hcap
  clear hown3 hgrow3 hat3 f3
  go_wp2
  go_ret
  exact ⟨_, _, rfl, HL3.out, HB3.out⟩
theorem keptUnits_true {B : Nat} {w : World} {a a' : Option Addr} {us : List Nat} (ca cap : Nat) (hl : LentU B w a' cap us) (hu : Sl16 w a us) :
    Calls Try.prog 28 #[.slice a' us.length cap, .slice a us.length ca] w fun e w' => e = .returned (.bool true) ∧ ∃ k, w.drewN k = w' := by
  have HL := Lib.hid hl
  have HU := Lib.hid hu
  have hlen := hl.len
  have hcap := hl.cap
  obtain ⟨g, cap', hv, hg0, hg⟩ := hl.row.form (by omega)
  cases hv
  have c0 := (hl.row.cellAt us.length (by omega)).trans (show (enc16 us ++ [.int .u16 48879, .int .u16 48879])[us.length]? = some (.int .u16 48879) by rw [List.getElem?_append_right (by rw [enc16_len]; omega), enc16_len]; simp)
  have c1 := (hl.row.cellAt (us.length + 1) (by omega)).trans (show (enc16 us ++ [.int .u16 48879, .int .u16 48879])[us.length + 1]? = some (.int .u16 48879) by rw [List.getElem?_append_right (by rw [enc16_len]; omega), enc16_len]; simp)
  clear hl hu
  obtain ⟨n, hn⟩ : ∃ n, n = us.length := ⟨_, rfl⟩
  rw [← hn] at hlen hcap c0 c1 ⊢
  have HN := Lib.hid hn
  clear hn
  have q1 : IntKind.i64.wrap ((n : Int) + 2) = (n : Int) + 2 := IntWalk.i64_in _ (by omega)
  have q2 : IntKind.i64.wrap ((n : Int) + 1) = (n : Int) + 1 := IntWalk.i64_in _ (by omega)
  go_enter Try.func28, Try.ntmps28
  go_wp2_with fail
  rw [HN.out]
  refine (sameUnits_calls cap ca HL.out.sl HU.out).mono ?_
  rw [decide_eq_true rfl, ← HN.out]
  rintro e w2 ⟨rfl, k, rfl⟩
  go_wp2
  go_ret
  exact ⟨rfl, k, rfl⟩
end Go.Proofs.Ytelhnaphkbpakaa

