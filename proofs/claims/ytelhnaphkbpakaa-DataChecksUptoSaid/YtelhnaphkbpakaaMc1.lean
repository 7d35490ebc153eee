/- General lemmas on worlds: a frame by element types, blocks of cells, owned rows. No statement of the program. Units of 16 bits in memory, read; Compare, by both hands. The document's Compare and Same; units lent with some behind them; kept. The tables of sequences, by both hands; how many bytes a code point has. The program's own table of sequences; how many bytes a code point has; is it a half. A text's bytes; is one within bounds: by the document's within. -/
import Derived.WalkKit
import Derived.WalkLawsBesides
import Derived.BigQuiet
import Derived.Deep.QuietTactic
import Derived.Lib.Hide
import Derived.Laws.Rows
import Derived.Test.YtelhnaphkbpakaaProg
import Derived.Deep.RegionWith
import Derived.StillTailTactics
import Derived.OwnWalk
namespace Go.Proofs.Ytelhnaphkbpakaa
open Go.RowKit
set_option linter.unusedVariables false

/-- The element type of a block of cells. -/
def oty : Obj → Option TypeId
  | .cells _ e _ => some e
  | _ => none

/-- w' is w but for new blocks and for blocks from B on whose element type is one of T. -/
structure FrT (T : List TypeId) (B : Nat) (w w' : World) : Prop where
  os : w'.os = w.os
  tape : w'.tape = w.tape
  output : w'.output = w.output
  size : w.heap.size ≤ w'.heap.size
  block : ∀ (k : Nat) o, w.heap[k]? = some o → (k < B ∨ ∀ e, oty o = some e → e ∉ T) → w'.heap[k]? = some o

section
variable {T : List TypeId} {B : Nat} {w w' w'' : World}

theorem FrT.refl (T : List TypeId) (B : Nat) (w : World) : FrT T B w w :=
  ⟨rfl, rfl, rfl, Nat.le_refl _, fun _ _ h _ => h⟩

theorem FrT.trans (h : FrT T B w w') (k : FrT T B w' w'') : FrT T B w w'' :=
  ⟨k.os.trans h.os, k.tape.trans h.tape, k.output.trans h.output, Nat.le_trans h.size k.size, fun i o hi ho => k.block i o (h.block i o hi ho) ho⟩

theorem FrT.mono {T' : List TypeId} {B' : Nat} (h : FrT T B w w') (hT : ∀ e ∈ T, e ∈ T') (hB : B' ≤ B) : FrT T' B' w w' :=
  ⟨h.os, h.tape, h.output, h.size, fun k o hk ho => h.block k o hk (ho.imp (fun x => Nat.lt_of_lt_of_le x hB) (fun f e he hm => f e he (hT e hm)))⟩

theorem lt_of_some {w : World} {k : Nat} {o : Obj} (h : w.heap[k]? = some o) : k < w.heap.size := (Array.getElem?_eq_some_iff.1 h).1

theorem FrT.of_below (h : Below w.heap.size w w') : FrT T B w w' :=
  ⟨h.os, h.tape, h.output, h.size, fun k o hk _ => (h.block k (lt_of_some hk)).trans hk⟩

theorem FrT.below (h : FrT T B w w') (hB : B ≤ w.heap.size) : Below B w w' :=
  ⟨h.os, h.tape, h.output, h.size, fun k hk => by
    have hl : k < w.heap.size := Nat.lt_of_lt_of_le hk hB
    have e : w.heap[k]? = some w.heap[k] := Array.getElem?_eq_getElem hl
    rw [e]; exact h.block k _ e (.inl hk)⟩

theorem FrT.alloc (h : FrT T B w w') (o : Obj) : FrT T B w (w'.alloc o) :=
  h.trans (.of_below ((Below.refl _ _).alloc (Nat.le_refl _) o))

theorem FrT.drew (h : FrT T B w w') : FrT T B w w'.drew := ⟨h.os, h.tape, h.output, h.size, h.block⟩
theorem FrT.drewN (h : FrT T B w w') (n : Nat) : FrT T B w (w'.drewN n) := ⟨h.os, h.tape, h.output, h.size, h.block⟩

/-- A store into a block whose type is one of T. -/
theorem FrT.set (h : FrT T B w w') {a : Addr} (hB : B ≤ a.block) {c : Array Value} {e : TypeId} {fz : Nat × Nat} (hb : w'.heap[a.block]? = some (.cells c e fz)) (he : e ∈ T) (u : Value) : FrT T B w (w'.setCell a u) := by
  refine h.trans ⟨rfl, rfl, rfl, by simp, fun k o hk ho => ?_⟩
  by_cases hka : k = a.block
  · subst hka
    rw [hb] at hk
    cases hk
    rcases ho with ho | ho
    · omega
    · exact absurd he (ho e rfl)
  · rw [heap_setCell_other _ _ _ _ hka]; exact hk

/-- Behind a law that ends in 'grownBy', whose row (if it is one) is of a type of T. -/
theorem FrT.grown (h : FrT T B w w') {row : Option Nat} (hg : w'.grownBy w'' row) (hr : ∀ k, row = some k → B ≤ k ∧ ∃ c e fz, w'.heap[k]? = some (Obj.cells c e fz) ∧ e ∈ T) : FrT T B w w'' := by
  refine h.trans ⟨hg.os, hg.tape, hg.output, hg.size, fun k o hk ho => ?_⟩
  by_cases hkr : some k = row
  · obtain ⟨h1, c, e, fz, h2, h3⟩ := hr k hkr.symm
    rw [h2] at hk; cases hk
    rcases ho with ho | ho
    · omega
    · exact absurd h3 (ho e rfl)
  · exact (hg.block k (lt_of_some hk) hkr).trans hk

/-- Behind an append onto an owned row of a type of T. -/
theorem FrT.append (h : FrT T B w w') {base : Nat} {e : TypeId} {size : Nat} {v : Value} {n : Nat} {xs : List Value} (ho : w'.ownsRow base e size v n xs) (hB : B ≤ base) (he : e ∈ T) (hg : w'.grownBy w'' v.ownBlock) : FrT T B w w'' := by
  refine h.grown hg fun k hk => ?_
  rcases ho.2 with ⟨rfl, _⟩ | ⟨g, cap, cur, rfl, hb, hgg, _⟩
  · cases hk
  · cases hk; exact ⟨Nat.le_trans hB hb, cur, e, _, hgg, he⟩

/-- A block of another type stands as it stood. -/
theorem FrT.blk (h : FrT T B w w') {b : Nat} {c : Array Value} {e : TypeId} {fz : Nat × Nat} (hb : w.heap[b]? = some (.cells c e fz)) (he : e ∉ T) : w'.heap[b]? = some (.cells c e fz) :=
  h.block b _ hb (.inr fun e' h' => by cases h'; exact he)

/-- An owned row of another type is owned as it was. -/
theorem FrT.row (h : FrT T B w w') {base : Nat} {e : TypeId} {size : Nat} {v : Value} {n : Nat} {xs : List Value} (ho : w.ownsRow base e size v n xs) (he : e ∉ T) : w'.ownsRow base e size v n xs := by
  refine ⟨ho.1, ?_⟩
  rcases ho.2 with hn | ⟨g, cap, cur, rfl, hb, hgg, rest⟩
  · exact .inl hn
  · exact .inr ⟨g, cap, cur, rfl, hb, h.blk hgg he, rest⟩
end

theorem bl_trans {w w1 w2 : World} {B b : Nat} (h2 : Below b w1 w2) (hb : B ≤ b) (h1 : Below B w w1) : Below B w w2 := h1.trans (h2.mono hb)

/-! ### blocks -/
section
variable {w : World} {b : Nat} {c : Array Value} {e : TypeId} {fz : Nat × Nat}
theorem cell_blk (h : w.heap[b]? = some (.cells c e fz)) (o : Nat) {v : Value} (hv : c[o]? = some v) : w.cell? ⟨b, o, none⟩ = some v := (cell_of_row w b o c e fz h).trans hv
theorem free_blk (h : w.heap[b]? = some (.cells c e (0, 0))) (o : Nat) : w.frozen? ⟨b, o, none⟩ = false := frozen_of_row w b o c e h
theorem set_blk (h : w.heap[b]? = some (.cells c e (0, 0))) (o : Nat) (v : Value) : (w.setCell ⟨b, o, none⟩ v).heap[b]? = some (.cells (c.setIfInBounds o v) e (0, 0)) := heap_setCell_same w b o c e v h
theorem set_other {k : Nat} {o : Obj} (h : w.heap[k]? = some o) {a : Addr} (hk : k ≠ a.block) (v : Value) : (w.setCell a v).heap[k]? = some o := (heap_setCell_other w a k v hk).trans h
theorem alloc_blk {k : Nat} {o : Obj} (h : w.heap[k]? = some o) (x : Obj) : (w.alloc x).heap[k]? = some o := (Below.heap_alloc w x k (lt_of_some h)).trans h
/-- Two blocks of different types are two. -/
theorem ne_blk {b' : Nat} {c' : Array Value} {e' : TypeId} {fz' : Nat × Nat} (h : w.heap[b]? = some (.cells c e fz)) (h' : w.heap[b']? = some (.cells c' e' fz')) (he : e ≠ e') : b ≠ b' := by
  intro hb; subst hb; rw [h] at h'; cases h'; exact he rfl
theorem set_cell_ne {w : World} {a p : Addr} (v : Value) (h : p.block ≠ a.block) : (w.setCell a v).cell? p = w.cell? p := World.cell?_of_block (heap_setCell_other w a p.block v h)
theorem set_free_ne {w : World} {a p : Addr} (v : Value) (h : p.block ≠ a.block) : (w.setCell a v).frozen? p = w.frozen? p := World.frozen?_of_block (heap_setCell_other w a p.block v h)
theorem cells_arr {l : List Value} {i : Nat} {v : Value} (h : l[i]? = some v) : l.toArray[i]? = some v := by simpa using h
end
end Go.Proofs.Ytelhnaphkbpakaa

namespace Go.Proofs.Ytelhnaphkbpakaa
open Go.RowKit
set_option linter.unusedVariables false
set_option maxRecDepth 100000

/-- The value is a slice of these units, as they lie in memory; none: whatever its address. -/
structure Sl16 (w : World) (a : Option Addr) (us : List Nat) : Prop where
  at_ : ∀ (i u : Nat), us[i]? = some u → u ≤ 65535 ∧ ∃ b off, a = some ⟨b, off, none⟩ ∧ b < w.heap.size ∧ w.cell? ⟨b, off + i, none⟩ = some (.int .u16 (u : Int))
  len : us.length ≤ 9223372036854775807

theorem Sl16.below {w w' : World} {a : Option Addr} {us : List Nat} (h : Sl16 w a us) (hb : Below w.heap.size w w') : Sl16 w' a us :=
  ⟨fun i u hu => by
    obtain ⟨h1, b, off, h2, h3, h4⟩ := h.at_ i u hu
    exact ⟨h1, b, off, h2, Nat.lt_of_lt_of_le h3 hb.size, (hb.cell (p := ⟨b, off + i, none⟩) h3).trans h4⟩, h.len⟩
theorem Sl16.nil (w : World) (a : Option Addr) : Sl16 w a [] := ⟨fun i u hu => by simp at hu, by simp⟩

def cmp16 : List Nat → List Nat → Int
  | [], [] => 0
  | [], _ :: _ => -1
  | _ :: _, [] => 1
  | x :: xs, y :: ys => if x = y then cmp16 xs ys else if x < y then -1 else 1

theorem cmp16_drop {a b : List Nat} {i : Nat} (h : ∀ j, j < i → a[j]? = b[j]?) (ha : i ≤ a.length) (hb : i ≤ b.length) : cmp16 a b = cmp16 (a.drop i) (b.drop i) := by
  induction i generalizing a b with
  | zero => rfl
  | succ i ih =>
    cases a with
    | nil => simp at ha
    | cons x xs =>
      cases b with
      | nil => simp at hb
      | cons y ys =>
        have h0 := h 0 (by omega)
        simp at h0
        subst h0
        simp only [List.drop_succ_cons, List.length_cons] at *
        simp only [cmp16, if_true]
        exact ih (fun j hj => by have := h (j + 1) (by omega); simpa using this) (by omega) (by omega)
theorem drop_at {a : List Nat} {i u : Nat} (h : a[i]? = some u) : a.drop i = u :: a.drop (i + 1) := by
  obtain ⟨hi, rfl⟩ := List.getElem?_eq_some_iff.1 h
  exact List.drop_eq_getElem_cons hi
/-- Two differ at a place: that decides. -/
theorem cmp16_at {a b : List Nat} {i x y : Nat} (h : ∀ j, j < i → a[j]? = b[j]?) (hx : a[i]? = some x) (hy : b[i]? = some y) (hne : x ≠ y) : cmp16 a b = if x < y then -1 else 1 := by
  have h1 := (List.getElem?_eq_some_iff.1 hx).1
  have h2 := (List.getElem?_eq_some_iff.1 hy).1
  rw [cmp16_drop h (by omega) (by omega), drop_at hx, drop_at hy]
  simp only [cmp16, hne, if_false]
/-- One is at its end. -/
theorem cmp16_end {a b : List Nat} {i : Nat} (h : ∀ j, j < i → a[j]? = b[j]?) (ha : i ≤ a.length) (hb : i ≤ b.length) (he : i = a.length ∨ i = b.length) : cmp16 a b = if a.length < b.length then -1 else if b.length < a.length then 1 else 0 := by
  rw [cmp16_drop h ha hb]
  rcases he with rfl | rfl
  · rw [List.drop_length]
    by_cases h1 : a.length < b.length
    · obtain ⟨u, hu⟩ : ∃ u, b[a.length]? = some u := ⟨_, List.getElem?_eq_getElem h1⟩
      rw [drop_at hu, if_pos h1]; rfl
    · have : b.length = a.length := by omega
      rw [List.drop_of_length_le (by omega), if_neg h1, if_neg (by omega)]; rfl
  · rw [List.drop_length]
    by_cases h1 : b.length < a.length
    · obtain ⟨u, hu⟩ : ∃ u, a[b.length]? = some u := ⟨_, List.getElem?_eq_getElem h1⟩
      rw [drop_at hu, if_neg (by omega), if_pos h1]; rfl
    · have : b.length = a.length := by omega
      rw [List.drop_of_length_le (by omega), if_neg (by omega), if_neg h1]; rfl

theorem nan_false (x : Int) (w : World) : Calls Try.prog 112 #[.int .u16 x] w fun e w' => e = .returned (.bool false) ∧ w = w' := by
  go_enter Try.func112, Try.ntmps112
  go_wp2
  go_ret
  exact ⟨by first | rfl | simp, rfl⟩

/-- cmp.Compare of two units. -/
def cmpI (x y : Int) : Int := if x < y then -1 else if y < x then 1 else 0
theorem cmp_unit (x y : Int) (w : World) : Calls Try.prog 107 #[.int .u16 x, .int .u16 y] w fun e w' => e = .returned (.int .i64 (cmpI x y)) ∧ w = w' := by
  by_cases h1 : x < y
  · rw [show cmpI x y = -1 by simp [cmpI, h1]]
    go_enter Try.func107, Try.ntmps107
    go_wp2_with (go_at_call 112; refine (nan_false _ _).mono ?_; rintro e w2 ⟨rfl, rfl⟩)
    go_ret
    exact ⟨rfl, rfl⟩
  · by_cases h2 : y < x
    · rw [show cmpI x y = 1 by simp [cmpI, h1, h2]]
      go_enter Try.func107, Try.ntmps107
      go_wp2_with (go_at_call 112; refine (nan_false _ _).mono ?_; rintro e w2 ⟨rfl, rfl⟩)
      go_ret
      exact ⟨rfl, rfl⟩
    · rw [show cmpI x y = 0 by simp [cmpI, h1, h2]]
      go_enter Try.func107, Try.ntmps107
      go_wp2_with (go_at_call 112; refine (nan_false _ _).mono ?_; rintro e w2 ⟨rfl, rfl⟩)
      go_ret
      exact ⟨rfl, rfl⟩

set_option maxHeartbeats 2000000 in
/-- slices.Compare. -/
theorem slices_compare {w : World} {a b : Option Addr} {us vs : List Nat} (ca cb : Nat) (ha : Sl16 w a us) (hb : Sl16 w b vs) :
    Calls Try.prog 92 #[.slice a us.length ca, .slice b vs.length cb] w fun e w' => e = .returned (.int .i64 (cmp16 us vs)) ∧ w = w' := by
  have HA := Lib.hid ha
  have HB := Lib.hid hb
  have l1 := ha.len
  have l2 := hb.len
  clear ha hb
  obtain ⟨n, hn⟩ : ∃ n, n = us.length := ⟨_, rfl⟩
  obtain ⟨m, hm⟩ : ∃ m, m = vs.length := ⟨_, rfl⟩
  rw [← hn] at l1 ⊢
  rw [← hm] at l2 ⊢
  have HN := Lib.hid hn
  have HM := Lib.hid hm
  clear hn hm
  go_enter Try.func92, Try.ntmps92
  go_wp2_with fail
  go_loopw [11] (fun v wr => ∃ i : Nat, v = .int .i64 (i : Nat) ∧ i ≤ n ∧ i ≤ m ∧ (∀ j, j < i → us[j]? = vs[j]?) ∧ wr = w) (fun v _ => n - (intOf v).toNat)
  case atStart => exact ⟨0, rfl, Nat.zero_le _, Nat.zero_le _, fun j hj => absurd hj (by omega), rfl⟩
  case round =>
    obtain ⟨i, rfl, hi1, hi2, heq, rfl⟩ := hrel
    have HE := Lib.hid heq
    clear heq
    by_cases h1 : i < n
    · obtain ⟨u, hu⟩ : ∃ u, us[i]? = some u := ⟨_, List.getElem?_eq_getElem (by rw [← HN.out]; exact h1)⟩
      obtain ⟨hu1, b1, o1, rfl, hb1, c1⟩ := HA.out.at_ i u hu
      have HU := Lib.hid hu
      clear hu
      have p1 : (i : Int) < (n : Int) := by omega
      by_cases h2 : i < m
      · obtain ⟨v, hv⟩ : ∃ v, vs[i]? = some v := ⟨_, List.getElem?_eq_getElem (by rw [← HM.out]; exact h2)⟩
        obtain ⟨hv1, b2, o2, rfl, hb2, c2⟩ := HB.out.at_ i v hv
        have HV := Lib.hid hv
        clear hv
        have p2 : ¬ ((m : Int) ≤ (i : Int)) := by omega
        by_cases hne : u = v
        · subst hne
          have q : cmpI (u : Int) (u : Int) = 0 := by simp [cmpI]
          go_wp2_with (go_at_call 107; refine (cmp_unit _ _ _).mono ?_; rw [q]; rintro e w2 ⟨rfl, rfl⟩)
          go_roundw
          case rel => exact ⟨i + 1, by go_num, h1, h2, fun j hj => by
            rcases Nat.lt_or_ge j i with h | h
            · exact HE.out j h
            · obtain rfl : j = i := by omega
              rw [HU.out, HV.out], trivial⟩
          case measure => simp [intOf]; omega
        · have hc := cmp16_at HE.out HU.out HV.out hne
          have q : cmpI (u : Int) (v : Int) = cmp16 us vs := by
            rw [hc]; unfold cmpI
            by_cases h3 : u < v
            · rw [if_pos (by omega), if_pos h3]
            · rw [if_neg (by omega), if_pos (by omega), if_neg h3]
          have q0 : cmp16 us vs = -1 ∨ cmp16 us vs = 1 := by rw [hc]; by_cases h3 : u < v <;> simp [h3]
          clear hc hne
          rcases q0 with q0 | q0
          all_goals
            rw [q0] at q
            have Q0 := Lib.hid q0
            clear q0
            go_wp2_with (go_at_call 107; refine (cmp_unit _ _ _).mono ?_; rw [q]; rintro e w2 ⟨rfl, rfl⟩)
            go_ret
            exact ⟨by rw [Q0.out]; rfl, rfl⟩
      · have p2 : ((m : Int) ≤ (i : Int)) := by omega
        have hc := cmp16_end HE.out (by rw [← HN.out]; omega) (by rw [← HM.out]; omega) (.inr (by rw [← HM.out]; omega))
        rw [if_neg (by rw [← HN.out, ← HM.out]; omega), if_pos (by rw [← HN.out, ← HM.out]; omega)] at hc
        have HC := Lib.hid hc
        clear hc
        go_wp2
        go_ret
        exact ⟨by rw [HC.out]; rfl, rfl⟩
    · have p1 : ¬ ((i : Int) < (n : Int)) := by omega
      have hc := cmp16_end HE.out (by rw [← HN.out]; omega) (by rw [← HM.out]; omega) (.inl (by rw [← HN.out]; omega))
      rw [← HN.out, ← HM.out] at hc
      by_cases h3 : n < m
      · have p3 : (n : Int) < (m : Int) := by omega
        rw [if_pos h3] at hc
        have HC := Lib.hid hc
        clear hc h3
        go_wp2
        go_ret
        exact ⟨by rw [HC.out]; rfl, rfl⟩
      · have p3 : ¬ (n : Int) < (m : Int) := by omega
        rw [if_neg h3, if_neg (by omega)] at hc
        have HC := Lib.hid hc
        clear hc h3
        go_wp2
        go_ret
        exact ⟨by rw [HC.out]; rfl, rfl⟩

theorem wide_compare {w : World} {a b : Option Addr} {us vs : List Nat} (ca cb : Nat) (ha : Sl16 w a us) (hb : Sl16 w b vs) :
    Calls Try.prog 59 #[.slice a us.length ca, .slice b vs.length cb] w fun e w' => e = .returned (.int .i64 (cmp16 us vs)) ∧ w = w' := by
  go_enter Try.func59, Try.ntmps59
  go_wp2_with (go_at_call 92; refine (slices_compare ca cb ha hb).mono ?_; rintro e w2 ⟨rfl, rfl⟩)
  go_ret
  exact ⟨rfl, rfl⟩
end Go.Proofs.Ytelhnaphkbpakaa

namespace Go.Proofs.Ytelhnaphkbpakaa
open Go.RowKit
set_option linter.unusedVariables false
set_option maxRecDepth 100000

theorem Sl16.drewN {w : World} {a : Option Addr} {us : List Nat} (h : Sl16 w a us) (k : Nat) : Sl16 (w.drewN k) a us := ⟨h.at_, h.len⟩

theorem cmp16_zero {a b : List Nat} : cmp16 a b = 0 ↔ a = b := by
  induction a generalizing b with
  | nil => cases b <;> simp [cmp16]
  | cons x xs ih =>
    cases b with
    | nil => simp [cmp16]
    | cons y ys =>
      simp only [cmp16, List.cons.injEq]
      by_cases h : x = y
      · simp [h, ih]
      · simp only [h, if_false, false_and, iff_false]
        split <;> omega

end Go.Proofs.Ytelhnaphkbpakaa

namespace Go.Proofs.Ytelhnaphkbpakaa
open Go.RowKit
set_option linter.unusedVariables false
set_option maxRecDepth 100000

/-- Of the sequences that a byte begins: how many bytes they have (0: none); between which the second one lies. -/
def rowOf (c : Nat) : Nat × Nat × Nat :=
  if c < 128 then (1, 0, 0) else if 194 ≤ c ∧ c ≤ 223 then (2, 128, 191) else if c = 224 then (3, 160, 191) else if c = 237 then (3, 128, 159)
  else if 225 ≤ c ∧ c ≤ 239 then (3, 128, 191) else if c = 240 then (4, 144, 191) else if 241 ≤ c ∧ c ≤ 243 then (4, 128, 191) else if c = 244 then (4, 128, 143) else (0, 0, 0)

/-- A byte's class. -/
theorem row_cases (c : Nat) : (c < 128 ∧ rowOf c = (1, 0, 0)) ∨ (194 ≤ c ∧ c ≤ 223 ∧ rowOf c = (2, 128, 191)) ∨ (c = 224 ∧ rowOf c = (3, 160, 191)) ∨ (c = 237 ∧ rowOf c = (3, 128, 159)) ∨
    (225 ≤ c ∧ c ≤ 239 ∧ c ≠ 237 ∧ rowOf c = (3, 128, 191)) ∨ (c = 240 ∧ rowOf c = (4, 144, 191)) ∨ (241 ≤ c ∧ c ≤ 243 ∧ rowOf c = (4, 128, 191)) ∨ (c = 244 ∧ rowOf c = (4, 128, 143)) ∨
    (((128 ≤ c ∧ c < 194) ∨ 244 < c) ∧ rowOf c = (0, 0, 0)) := by
  unfold rowOf
  by_cases h1 : c < 128
  · left; exact ⟨h1, by rw [if_pos h1]⟩
  rw [if_neg h1]; right
  by_cases h2 : 194 ≤ c ∧ c ≤ 223
  · left; exact ⟨h2.1, h2.2, by rw [if_pos h2]⟩
  rw [if_neg h2]; right
  by_cases h3 : c = 224
  · left; exact ⟨h3, by rw [if_pos h3]⟩
  rw [if_neg h3]; right
  by_cases h4 : c = 237
  · left; exact ⟨h4, by rw [if_pos h4]⟩
  rw [if_neg h4]; right
  by_cases h5 : 225 ≤ c ∧ c ≤ 239
  · left; exact ⟨h5.1, h5.2, h4, by rw [if_pos h5]⟩
  rw [if_neg h5]; right
  by_cases h6 : c = 240
  · left; exact ⟨h6, by rw [if_pos h6]⟩
  rw [if_neg h6]; right
  by_cases h7 : 241 ≤ c ∧ c ≤ 243
  · left; exact ⟨h7.1, h7.2, by rw [if_pos h7]⟩
  rw [if_neg h7]; right
  by_cases h8 : c = 244
  · left; exact ⟨h8, by rw [if_pos h8]⟩
  rw [if_neg h8]; right
  exact ⟨by omega, rfl⟩

end Go.Proofs.Ytelhnaphkbpakaa

namespace Go.Proofs.Ytelhnaphkbpakaa
open Go.RowKit
set_option linter.unusedVariables false
set_option maxRecDepth 100000

set_option maxHeartbeats 2000000 in
/-- The program's own table: none begins with a byte below 128. -/
theorem wide_second (c : Nat) (w : World) : Calls Try.prog 110 #[.int .u8 (c : Int)] w fun e w' => e = .returned (.tuple #[.int .u8 ((rowOf c).2.1 : Int), .int .u8 ((rowOf c).2.2 : Int), .int .i64 (if c < 128 then 0 else ((rowOf c).1 : Int))]) ∧ w = w' := by
  rcases row_cases c with ⟨h, e⟩ | ⟨h, h', e⟩ | ⟨h, e⟩ | ⟨h, e⟩ | ⟨h, h', h'', e⟩ | ⟨h, e⟩ | ⟨h, h', e⟩ | ⟨h, e⟩ | ⟨h, e⟩
  all_goals rw [e]; clear e
  all_goals first | rw [if_neg (by omega)] | rw [if_pos (by omega)]
  · have q1 : ¬ (194 : Int) ≤ (c : Int) := by omega
    have q3 : ((c : Int) == 224) = false := by simp; omega
    have q4 : ((c : Int) == 237) = false := by simp; omega
    have q5 : ¬ (225 : Int) ≤ (c : Int) := by omega
    have q8 : ((c : Int) == 240) = false := by simp; omega
    have q9 : ¬ (241 : Int) ≤ (c : Int) := by omega
    have q11 : ((c : Int) == 244) = false := by simp; omega
    clear h
    go_enter Try.func110, Try.ntmps110
    go_wp2
    go_ret3
    exact ⟨rfl, rfl⟩
  · have q : ¬ (c : Int) < 128 := by omega
    have q1 : (194 : Int) ≤ (c : Int) := by omega
    have q2 : (c : Int) ≤ 223 := by omega
    clear h h'
    go_enter Try.func110, Try.ntmps110
    go_wp2
    go_ret3
    exact ⟨rfl, rfl⟩
  · subst h
    go_enter Try.func110, Try.ntmps110
    go_wp2
    go_ret3
    exact ⟨rfl, rfl⟩
  · subst h
    go_enter Try.func110, Try.ntmps110
    go_wp2
    go_ret3
    exact ⟨rfl, rfl⟩
  · have q : ¬ (c : Int) < 128 := by omega
    have q1 : ¬ (c : Int) ≤ 223 := by omega
    have q3 : ((c : Int) == 224) = false := by simp; omega
    have q4 : ((c : Int) == 237) = false := by simp; omega
    have q5 : (225 : Int) ≤ (c : Int) := by omega
    have q6 : (c : Int) ≤ 239 := by omega
    have q7 : (194 : Int) ≤ (c : Int) := by omega
    clear h h' h''
    go_enter Try.func110, Try.ntmps110
    go_wp2
    go_ret3
    exact ⟨rfl, rfl⟩
  · subst h
    go_enter Try.func110, Try.ntmps110
    go_wp2
    go_ret3
    exact ⟨rfl, rfl⟩
  · have q : ¬ (c : Int) < 128 := by omega
    have q1 : ¬ (c : Int) ≤ 223 := by omega
    have q3 : ((c : Int) == 224) = false := by simp; omega
    have q4 : ((c : Int) == 237) = false := by simp; omega
    have q5 : (225 : Int) ≤ (c : Int) := by omega
    have q6 : ¬ (c : Int) ≤ 239 := by omega
    have q7 : (194 : Int) ≤ (c : Int) := by omega
    have q8 : ((c : Int) == 240) = false := by simp; omega
    have q9 : (241 : Int) ≤ (c : Int) := by omega
    have q10 : (c : Int) ≤ 243 := by omega
    clear h h'
    go_enter Try.func110, Try.ntmps110
    go_wp2
    go_ret3
    exact ⟨rfl, rfl⟩
  · subst h
    go_enter Try.func110, Try.ntmps110
    go_wp2
    go_ret3
    exact ⟨rfl, rfl⟩
  · rcases h with ⟨h, h'⟩ | h
    · have q : ¬ (c : Int) < 128 := by omega
      have q1 : ¬ (194 : Int) ≤ (c : Int) := by omega
      have q3 : ((c : Int) == 224) = false := by simp; omega
      have q4 : ((c : Int) == 237) = false := by simp; omega
      have q5 : ¬ (225 : Int) ≤ (c : Int) := by omega
      have q8 : ((c : Int) == 240) = false := by simp; omega
      have q9 : ¬ (241 : Int) ≤ (c : Int) := by omega
      have q11 : ((c : Int) == 244) = false := by simp; omega
      clear h h'
      go_enter Try.func110, Try.ntmps110
      go_wp2
      go_ret3
      exact ⟨rfl, rfl⟩
    · have q : ¬ (c : Int) < 128 := by omega
      have q1 : (194 : Int) ≤ (c : Int) := by omega
      have q2 : ¬ (c : Int) ≤ 223 := by omega
      have q3 : ((c : Int) == 224) = false := by simp; omega
      have q4 : ((c : Int) == 237) = false := by simp; omega
      have q5 : (225 : Int) ≤ (c : Int) := by omega
      have q6 : ¬ (c : Int) ≤ 239 := by omega
      have q8 : ((c : Int) == 240) = false := by simp; omega
      have q9 : (241 : Int) ≤ (c : Int) := by omega
      have q10 : ¬ (c : Int) ≤ 243 := by omega
      have q11 : ((c : Int) == 244) = false := by simp; omega
      clear h
      go_enter Try.func110, Try.ntmps110
      go_wp2
      go_ret3
      exact ⟨rfl, rfl⟩

/-- How many bytes a code point has. -/
def runeLen (c : Nat) : Nat := if c < 128 then 1 else if c < 2048 then 2 else if c < 65536 then 3 else 4
theorem rune_len (c : Nat) (h : c < 55296 ∨ (57343 < c ∧ c ≤ 1114111)) (w : World) : Calls Try.prog 102 #[.int .i32 (c : Int)] w fun e w' => e = .returned (.int .i64 (runeLen c : Int)) ∧ w = w' := by
  unfold runeLen
  have q0 : ¬ (c : Int) < 0 := by omega
  by_cases h1 : c < 128
  · rw [if_pos h1]
    have q1 : (c : Int) ≤ 127 := by omega
    clear h h1
    go_enter Try.func102, Try.ntmps102
    go_wp2
    go_ret
    exact ⟨rfl, rfl⟩
  rw [if_neg h1]
  have q1 : ¬ (c : Int) ≤ 127 := by omega
  by_cases h2 : c < 2048
  · rw [if_pos h2]
    have q2 : (c : Int) ≤ 2047 := by omega
    clear h h1 h2
    go_enter Try.func102, Try.ntmps102
    go_wp2
    go_ret
    exact ⟨rfl, rfl⟩
  rw [if_neg h2]
  have q2 : ¬ (c : Int) ≤ 2047 := by omega
  by_cases h3 : c < 65536
  · rw [if_pos h3]
    have q5 : (c : Int) ≤ 65535 := by omega
    by_cases h4 : c < 55296
    · have q3 : ¬ (55296 : Int) ≤ (c : Int) := by omega
      clear h h1 h2 h3 h4
      go_enter Try.func102, Try.ntmps102
      go_wp2
      go_ret
      exact ⟨rfl, rfl⟩
    · have q3 : (55296 : Int) ≤ (c : Int) := by omega
      have q4 : ¬ (c : Int) ≤ 57343 := by omega
      clear h h1 h2 h3 h4
      go_enter Try.func102, Try.ntmps102
      go_wp2
      go_ret
      exact ⟨rfl, rfl⟩
  · rw [if_neg h3]
    have q3 : (55296 : Int) ≤ (c : Int) := by omega
    have q4 : ¬ (c : Int) ≤ 57343 := by omega
    have q5 : ¬ (c : Int) ≤ 65535 := by omega
    have q6 : (c : Int) ≤ 1114111 := by omega
    clear h h1 h2 h3
    go_enter Try.func102, Try.ntmps102
    go_wp2
    go_ret
    exact ⟨rfl, rfl⟩

/-- Is a code point a half? -/
theorem lone_half (c : Int) (w : World) : Calls Try.prog 98 #[.int .i32 c] w fun e w' => e = .returned (.bool (decide (55296 ≤ c ∧ c ≤ 57343))) ∧ w = w' := by
  by_cases h1 : 55296 ≤ c
  · by_cases h2 : c ≤ 57343
    · rw [decide_eq_true ⟨h1, h2⟩]
      go_enter Try.func98, Try.ntmps98
      go_wp2
      go_ret
      exact ⟨by first | rfl | simp [h1, h2], rfl⟩
    · rw [decide_eq_false (fun h => h2 h.2)]
      go_enter Try.func98, Try.ntmps98
      go_wp2
      go_ret
      exact ⟨by first | rfl | simp [h1, h2], rfl⟩
  · rw [decide_eq_false (fun h => h1 h.1)]
    go_enter Try.func98, Try.ntmps98
    go_wp2
    go_ret
    exact ⟨by first | rfl | simp [h1], rfl⟩
end Go.Proofs.Ytelhnaphkbpakaa

namespace Go.Proofs.Ytelhnaphkbpakaa
open Go.RowKit
set_option linter.unusedVariables false
set_option maxRecDepth 100000

/-- A byte of a text, as a number; 0 beyond its end. -/
def byteAt (s : ByteArray) (i : Nat) : Nat := (s.get! i).toNat
theorem byteAt_le (s : ByteArray) (i : Nat) : byteAt s i ≤ 255 := by have := (s.get! i).toNat_lt; unfold byteAt; omega
theorem byteAt_get (s : ByteArray) (i : Nat) (h : i < s.size) : (s[i]'h).toNat = byteAt s i := by
  unfold byteAt
  congr 1
  simp [ByteArray.get!, ByteArray.getElem_eq_getElem_data, h]

/-- Is a byte there, from lo to hi? -/
def within (s : ByteArray) (i lo hi : Nat) : Bool := decide (i < s.size) && decide (lo ≤ byteAt s i) && decide (byteAt s i ≤ hi)

end Go.Proofs.Ytelhnaphkbpakaa

