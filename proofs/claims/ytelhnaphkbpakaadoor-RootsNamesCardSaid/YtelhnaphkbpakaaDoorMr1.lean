/- Part 1 of the proof of RoP: lemmas. -/
import Derived.WalkKit
import Derived.WalkLawsBesides
import Derived.BigQuiet
import Derived.Deep.QuietTactic
import Derived.Lib.Hide
import Derived.Laws.Rows
import Derived.Test.YtelhnaphkbpakaaDoorProg
import Derived.OwnWalk
namespace Go.Proofs.YtelhnaphkbpakaaDoor
open Go.RowKit
set_option linter.unusedVariables false
def oty : Obj → Option TypeId
  | .cells _ e _ => some e
  | _ => none
structure FrT (T : List TypeId) (B : Nat) (w w' : World) : Prop where
  os : w'.os = w.os
  tape : w'.tape = w.tape
  output : w'.output = w.output
  size : w.heap.size ≤ w'.heap.size
  block : ∀ (k : Nat) o, w.heap[k]? = some o → (k < B ∨ ∀ e, oty o = some e → e ∉ T) → w'.heap[k]? = some o
section
variable {T : List TypeId} {B : Nat} {w w' w'' : World}
theorem FrT.refl (T : List TypeId) (B : Nat) (w : World) : FrT T B w w :=
  ⟨rfl, rfl, rfl, Nat.le_refl _, fun _ _ h _ => h⟩
theorem FrT.trans (h : FrT T B w w') (k : FrT T B w' w'') : FrT T B w w'' :=
  ⟨k.os.trans h.os, k.tape.trans h.tape, k.output.trans h.output, Nat.le_trans h.size k.size, fun i o hi ho => k.block i o (h.block i o hi ho) ho⟩
theorem FrT.mono {T' : List TypeId} {B' : Nat} (h : FrT T B w w') (hT : ∀ e ∈ T, e ∈ T') (hB : B' ≤ B) : FrT T' B' w w' :=
  ⟨h.os, h.tape, h.output, h.size, fun k o hk ho => h.block k o hk (ho.imp (fun x => Nat.lt_of_lt_of_le x hB) (fun f e he hm => f e he (hT e hm)))⟩
theorem lt_of_some {w : World} {k : Nat} {o : Obj} (h : w.heap[k]? = some o) : k < w.heap.size := (Array.getElem?_eq_some_iff.1 h).1
theorem FrT.of_below (h : Below w.heap.size w w') : FrT T B w w' :=
  ⟨h.os, h.tape, h.output, h.size, fun k o hk _ => (h.block k (lt_of_some hk)).trans hk⟩
theorem FrT.below (h : FrT T B w w') (hB : B ≤ w.heap.size) : Below B w w' :=
  ⟨h.os, h.tape, h.output, h.size, fun k hk => by
    have hl : k < w.heap.size := Nat.lt_of_lt_of_le hk hB
    have e : w.heap[k]? = some w.heap[k] := Array.getElem?_eq_getElem hl
    rw [e]; exact h.block k _ e (.inl hk)⟩
theorem FrT.alloc (h : FrT T B w w') (o : Obj) : FrT T B w (w'.alloc o) :=
  h.trans (.of_below ((Below.refl _ _).alloc (Nat.le_refl _) o))
theorem FrT.drew (h : FrT T B w w') : FrT T B w w'.drew := ⟨h.os, h.tape, h.output, h.size, h.block⟩
theorem FrT.set (h : FrT T B w w') {a : Addr} (hB : B ≤ a.block) {c : Array Value} {e : TypeId} {fz : Nat × Nat} (hb : w'.heap[a.block]? = some (.cells c e fz)) (he : e ∈ T) (u : Value) : FrT T B w (w'.setCell a u) := by
  refine h.trans ⟨rfl, rfl, rfl, by simp, fun k o hk ho => ?_⟩
  by_cases hka : k = a.block
  · subst hka
    rw [hb] at hk
    cases hk
    rcases ho with ho | ho
    · omega
    · exact absurd he (ho e rfl)
  · rw [heap_setCell_other _ _ _ _ hka]; exact hk
theorem FrT.grown (h : FrT T B w w') {row : Option Nat} (hg : w'.grownBy w'' row) (hr : ∀ k, row = some k → B ≤ k ∧ ∃ c e fz, w'.heap[k]? = some (Obj.cells c e fz) ∧ e ∈ T) : FrT T B w w'' := by
  refine h.trans ⟨hg.os, hg.tape, hg.output, hg.size, fun k o hk ho => ?_⟩
  by_cases hkr : some k = row
  · obtain ⟨h1, c, e, fz, h2, h3⟩ := hr k hkr.symm
    rw [h2] at hk; cases hk
    rcases ho with ho | ho
    · omega
    · exact absurd h3 (ho e rfl)
  · exact (hg.block k (lt_of_some hk) hkr).trans hk
theorem FrT.append (h : FrT T B w w') {base : Nat} {e : TypeId} {size : Nat} {v : Value} {n : Nat} {xs : List Value} (ho : w'.ownsRow base e size v n xs) (hB : B ≤ base) (he : e ∈ T) (hg : w'.grownBy w'' v.ownBlock) : FrT T B w w'' := by
  refine h.grown hg fun k hk => ?_
  rcases ho.2 with ⟨rfl, _⟩ | ⟨g, cap, cur, rfl, hb, hgg, _⟩
  · cases hk
  · cases hk; exact ⟨Nat.le_trans hB hb, cur, e, _, hgg, he⟩
theorem FrT.blk (h : FrT T B w w') {b : Nat} {c : Array Value} {e : TypeId} {fz : Nat × Nat} (hb : w.heap[b]? = some (.cells c e fz)) (he : e ∉ T) : w'.heap[b]? = some (.cells c e fz) :=
  h.block b _ hb (.inr fun e' h' => by cases h'; exact he)
theorem FrT.row (h : FrT T B w w') {base : Nat} {e : TypeId} {size : Nat} {v : Value} {n : Nat} {xs : List Value} (ho : w.ownsRow base e size v n xs) (he : e ∉ T) : w'.ownsRow base e size v n xs := by
  refine ⟨ho.1, ?_⟩
  rcases ho.2 with hn | ⟨g, cap, cur, rfl, hb, hgg, rest⟩
  · exact .inl hn
  · exact .inr ⟨g, cap, cur, rfl, hb, h.blk hgg he, rest⟩
end
theorem bl_trans {w w1 w2 : World} {B b : Nat} (h2 : Below b w1 w2) (hb : B ≤ b) (h1 : Below B w w1) : Below B w w2 := h1.trans (h2.mono hb)
/-! ### blocks -/
section
variable {w : World} {b : Nat} {c : Array Value} {e : TypeId} {fz : Nat × Nat}
theorem cell_blk (h : w.heap[b]? = some (.cells c e fz)) (o : Nat) {v : Value} (hv : c[o]? = some v) : w.cell? ⟨b, o, none⟩ = some v := (cell_of_row w b o c e fz h).trans hv
theorem free_blk (h : w.heap[b]? = some (.cells c e (0, 0))) (o : Nat) : w.frozen? ⟨b, o, none⟩ = false := frozen_of_row w b o c e h
theorem set_blk (h : w.heap[b]? = some (.cells c e (0, 0))) (o : Nat) (v : Value) : (w.setCell ⟨b, o, none⟩ v).heap[b]? = some (.cells (c.setIfInBounds o v) e (0, 0)) := heap_setCell_same w b o c e v h
theorem set_other {k : Nat} {o : Obj} (h : w.heap[k]? = some o) {a : Addr} (hk : k ≠ a.block) (v : Value) : (w.setCell a v).heap[k]? = some o := (heap_setCell_other w a k v hk).trans h
theorem alloc_blk {k : Nat} {o : Obj} (h : w.heap[k]? = some o) (x : Obj) : (w.alloc x).heap[k]? = some o := (Below.heap_alloc w x k (lt_of_some h)).trans h
theorem ne_blk {b' : Nat} {c' : Array Value} {e' : TypeId} {fz' : Nat × Nat} (h : w.heap[b]? = some (.cells c e fz)) (h' : w.heap[b']? = some (.cells c' e' fz')) (he : e ≠ e') : b ≠ b' := by
  intro hb; subst hb; rw [h] at h'; cases h'; exact he rfl
theorem set_cell_ne {w : World} {a p : Addr} (v : Value) (h : p.block ≠ a.block) : (w.setCell a v).cell? p = w.cell? p := World.cell?_of_block (heap_setCell_other w a p.block v h)
end
end Go.Proofs.YtelhnaphkbpakaaDoor
namespace Go.Proofs.YtelhnaphkbpakaaDoor
open Go.RowKit
set_option linter.unusedVariables false
set_option maxRecDepth 100000
def rowOf (c : Nat) : Nat × Nat × Nat :=
  if c < 128 then (1, 0, 0) else if 194 ≤ c ∧ c ≤ 223 then (2, 128, 191) else if c = 224 then (3, 160, 191) else if c = 237 then (3, 128, 159)
  else if 225 ≤ c ∧ c ≤ 239 then (3, 128, 191) else if c = 240 then (4, 144, 191) else if 241 ≤ c ∧ c ≤ 243 then (4, 128, 191) else if c = 244 then (4, 128, 143) else (0, 0, 0)
theorem row_cases (c : Nat) : (c < 128 ∧ rowOf c = (1, 0, 0)) ∨ (194 ≤ c ∧ c ≤ 223 ∧ rowOf c = (2, 128, 191)) ∨ (c = 224 ∧ rowOf c = (3, 160, 191)) ∨ (c = 237 ∧ rowOf c = (3, 128, 159)) ∨
    (225 ≤ c ∧ c ≤ 239 ∧ c ≠ 237 ∧ rowOf c = (3, 128, 191)) ∨ (c = 240 ∧ rowOf c = (4, 144, 191)) ∨ (241 ≤ c ∧ c ≤ 243 ∧ rowOf c = (4, 128, 191)) ∨ (c = 244 ∧ rowOf c = (4, 128, 143)) ∨
    (((128 ≤ c ∧ c < 194) ∨ 244 < c) ∧ rowOf c = (0, 0, 0)) := by
  unfold rowOf
  by_cases h1 : c < 128
  · left; exact ⟨h1, by rw [if_pos h1]⟩
  rw [if_neg h1]; right
  by_cases h2 : 194 ≤ c ∧ c ≤ 223
  · left; exact ⟨h2.1, h2.2, by rw [if_pos h2]⟩
  rw [if_neg h2]; right
  by_cases h3 : c = 224
  · left; exact ⟨h3, by rw [if_pos h3]⟩
  rw [if_neg h3]; right
  by_cases h4 : c = 237
  · left; exact ⟨h4, by rw [if_pos h4]⟩
  rw [if_neg h4]; right
  by_cases h5 : 225 ≤ c ∧ c ≤ 239
  · left; exact ⟨h5.1, h5.2, h4, by rw [if_pos h5]⟩
  rw [if_neg h5]; right
  by_cases h6 : c = 240
  · left; exact ⟨h6, by rw [if_pos h6]⟩
  rw [if_neg h6]; right
  by_cases h7 : 241 ≤ c ∧ c ≤ 243
  · left; exact ⟨h7.1, h7.2, by rw [if_pos h7]⟩
  rw [if_neg h7]; right
  by_cases h8 : c = 244
  · left; exact ⟨h8, by rw [if_pos h8]⟩
  rw [if_neg h8]; right
  exact ⟨by omega, rfl⟩
set_option maxHeartbeats 2000000 in
theorem wide_second (c : Nat) (w : World) : Calls Tryd.prog 125 #[.int .u8 (c : Int)] w fun e w' => e = .returned (.tuple #[.int .u8 ((rowOf c).2.1 : Int), .int .u8 ((rowOf c).2.2 : Int), .int .i64 (if c < 128 then 0 else ((rowOf c).1 : Int))]) ∧ w = w' := by
  rcases row_cases c with ⟨h, e⟩ | ⟨h, h', e⟩ | ⟨h, e⟩ | ⟨h, e⟩ | ⟨h, h', h'', e⟩ | ⟨h, e⟩ | ⟨h, h', e⟩ | ⟨h, e⟩ | ⟨h, e⟩
  all_goals rw [e]; clear e
  all_goals first | rw [if_neg (by omega)] | rw [if_pos (by omega)]
  · have q1 : ¬ (194 : Int) ≤ (c : Int) := by omega
    have q3 : ((c : Int) == 224) = false := by simp; omega
    have q4 : ((c : Int) == 237) = false := by simp; omega
    have q5 : ¬ (225 : Int) ≤ (c : Int) := by omega
    have q8 : ((c : Int) == 240) = false := by simp; omega
    have q9 : ¬ (241 : Int) ≤ (c : Int) := by omega
    have q11 : ((c : Int) == 244) = false := by simp; omega
    clear h
    go_enter Tryd.func125, Tryd.ntmps125
    go_wp2
    go_ret3
    exact ⟨rfl, rfl⟩
  · have q : ¬ (c : Int) < 128 := by omega
    have q1 : (194 : Int) ≤ (c : Int) := by omega
    have q2 : (c : Int) ≤ 223 := by omega
    clear h h'
    go_enter Tryd.func125, Tryd.ntmps125
    go_wp2
    go_ret3
    exact ⟨rfl, rfl⟩
  · subst h
    go_enter Tryd.func125, Tryd.ntmps125
    go_wp2
    go_ret3
    exact ⟨rfl, rfl⟩
  · subst h
    go_enter Tryd.func125, Tryd.ntmps125
    go_wp2
    go_ret3
    exact ⟨rfl, rfl⟩
  · have q : ¬ (c : Int) < 128 := by omega
    have q1 : ¬ (c : Int) ≤ 223 := by omega
    have q3 : ((c : Int) == 224) = false := by simp; omega
    have q4 : ((c : Int) == 237) = false := by simp; omega
    have q5 : (225 : Int) ≤ (c : Int) := by omega
    have q6 : (c : Int) ≤ 239 := by omega
    have q7 : (194 : Int) ≤ (c : Int) := by omega
    clear h h' h''
    go_enter Tryd.func125, Tryd.ntmps125
    go_wp2
    go_ret3
    exact ⟨rfl, rfl⟩
  · subst h
    go_enter Tryd.func125, Tryd.ntmps125
    go_wp2
    go_ret3
    exact ⟨rfl, rfl⟩
  · have q : ¬ (c : Int) < 128 := by omega
    have q1 : ¬ (c : Int) ≤ 223 := by omega
    have q3 : ((c : Int) == 224) = false := by simp; omega
    have q4 : ((c : Int) == 237) = false := by simp; omega
    have q5 : (225 : Int) ≤ (c : Int) := by omega
    have q6 : ¬ (c : Int) ≤ 239 := by omega
    have q7 : (194 : Int) ≤ (c : Int) := by omega
    have q8 : ((c : Int) == 240) = false := by simp; omega
    have q9 : (241 : Int) ≤ (c : Int) := by omega
    have q10 : (c : Int) ≤ 243 := by omega
    clear h h'
    go_enter Tryd.func125, Tryd.ntmps125
    go_wp2
    go_ret3
    exact ⟨rfl, rfl⟩
  · subst h
    go_enter Tryd.func125, Tryd.ntmps125
    go_wp2
    go_ret3
    exact ⟨rfl, rfl⟩
  · rcases h with ⟨h, h'⟩ | h
    · have q : ¬ (c : Int) < 128 := by omega
      have q1 : ¬ (194 : Int) ≤ (c : Int) := by omega
      have q3 : ((c : Int) == 224) = false := by simp; omega
      have q4 : ((c : Int) == 237) = false := by simp; omega
      have q5 : ¬ (225 : Int) ≤ (c : Int) := by omega
      have q8 : ((c : Int) == 240) = false := by simp; omega
      have q9 : ¬ (241 : Int) ≤ (c : Int) := by omega
      have q11 : ((c : Int) == 244) = false := by simp; omega
      clear h h'
      go_enter Tryd.func125, Tryd.ntmps125
      go_wp2
      go_ret3
      exact ⟨rfl, rfl⟩
    · have q : ¬ (c : Int) < 128 := by omega
      have q1 : (194 : Int) ≤ (c : Int) := by omega
      have q2 : ¬ (c : Int) ≤ 223 := by omega
      have q3 : ((c : Int) == 224) = false := by simp; omega
      have q4 : ((c : Int) == 237) = false := by simp; omega
      have q5 : (225 : Int) ≤ (c : Int) := by omega
      have q6 : ¬ (c : Int) ≤ 239 := by omega
      have q8 : ((c : Int) == 240) = false := by simp; omega
      have q9 : (241 : Int) ≤ (c : Int) := by omega
      have q10 : ¬ (c : Int) ≤ 243 := by omega
      have q11 : ((c : Int) == 244) = false := by simp; omega
      clear h
      go_enter Tryd.func125, Tryd.ntmps125
      go_wp2
      go_ret3
      exact ⟨rfl, rfl⟩
def runeLen (c : Nat) : Nat := if c < 128 then 1 else if c < 2048 then 2 else if c < 65536 then 3 else 4
theorem rune_len (c : Nat) (h : c < 55296 ∨ (57343 < c ∧ c ≤ 1114111)) (w : World) : Calls Tryd.prog 122 #[.int .i32 (c : Int)] w fun e w' => e = .returned (.int .i64 (runeLen c : Int)) ∧ w = w' := by
  unfold runeLen
  have q0 : ¬ (c : Int) < 0 := by omega
  by_cases h1 : c < 128
  · rw [if_pos h1]
    have q1 : (c : Int) ≤ 127 := by omega
    clear h h1
    go_enter Tryd.func122, Tryd.ntmps122
    go_wp2
    go_ret
    exact ⟨rfl, rfl⟩
  rw [if_neg h1]
  have q1 : ¬ (c : Int) ≤ 127 := by omega
  by_cases h2 : c < 2048
  · rw [if_pos h2]
    have q2 : (c : Int) ≤ 2047 := by omega
    clear h h1 h2
    go_enter Tryd.func122, Tryd.ntmps122
    go_wp2
    go_ret
    exact ⟨rfl, rfl⟩
  rw [if_neg h2]
  have q2 : ¬ (c : Int) ≤ 2047 := by omega
  by_cases h3 : c < 65536
  · rw [if_pos h3]
    have q5 : (c : Int) ≤ 65535 := by omega
    by_cases h4 : c < 55296
    · have q3 : ¬ (55296 : Int) ≤ (c : Int) := by omega
      clear h h1 h2 h3 h4
      go_enter Tryd.func122, Tryd.ntmps122
      go_wp2
      go_ret
      exact ⟨rfl, rfl⟩
    · have q3 : (55296 : Int) ≤ (c : Int) := by omega
      have q4 : ¬ (c : Int) ≤ 57343 := by omega
      clear h h1 h2 h3 h4
      go_enter Tryd.func122, Tryd.ntmps122
      go_wp2
      go_ret
      exact ⟨rfl, rfl⟩
  · rw [if_neg h3]
    have q3 : (55296 : Int) ≤ (c : Int) := by omega
    have q4 : ¬ (c : Int) ≤ 57343 := by omega
    have q5 : ¬ (c : Int) ≤ 65535 := by omega
    have q6 : (c : Int) ≤ 1114111 := by omega
    clear h h1 h2 h3
    go_enter Tryd.func122, Tryd.ntmps122
    go_wp2
    go_ret
    exact ⟨rfl, rfl⟩
def byteAt (s : ByteArray) (i : Nat) : Nat := (s.get! i).toNat
theorem byteAt_le (s : ByteArray) (i : Nat) : byteAt s i ≤ 255 := by have := (s.get! i).toNat_lt; unfold byteAt; omega
theorem byteAt_get (s : ByteArray) (i : Nat) (h : i < s.size) : (s[i]'h).toNat = byteAt s i := by
  unfold byteAt
  congr 1
  simp [ByteArray.get!, ByteArray.getElem_eq_getElem_data, h]
def within (s : ByteArray) (i lo hi : Nat) : Bool := decide (i < s.size) && decide (lo ≤ byteAt s i) && decide (byteAt s i ≤ hi)
end Go.Proofs.YtelhnaphkbpakaaDoor
