/- A code point's bytes, put behind those that are there: utf8.AppendRune; the document's own bytes. Text: units as a text. append onto a row of the call's own, or onto such a row's slice that has no room behind it. No program. Units in memory of their own (own); a node and its attributes as they lie in memory. A node and its attributes as they lie in memory. -/
import Derived.ArgAppend
import Derived.Deep.Onto
import Derived.OwnWalkIn
import Derived.Test.YtelhnaphkbpakaaMl11
namespace Go.Proofs.Ytelhnaphkbpakaa
open Go.RowKit Go.Shelf
set_option linter.unusedVariables false
set_option maxRecDepth 100000

/-- A code point's bytes. -/
def runeB (c : Nat) : List Nat := if c < 128 then [c] else if c < 2048 then [192 + c / 64, 128 + c % 64] else if c < 65536 then [224 + c / 4096, 128 + c / 64 % 64, 128 + c % 64] else [240 + c / 262144, 128 + c / 4096 % 64, 128 + c / 64 % 64, 128 + c % 64]
def encB (l : List Nat) : List Value := l.map fun (b : Nat) => Value.int .u8 (b : Int)
theorem encB_len (l : List Nat) : (encB l).length = l.length := by simp [encB]
theorem runeB_len (c : Nat) : 1 ≤ (runeB c).length ∧ (runeB c).length ≤ 4 := by unfold runeB; split; simp; split; simp; split <;> simp
theorem info5 : (Try.prog.info? 5).map (fun i => (i.zero, i.size, i.bytes)) = some (some (.int .u8 0), 1, 1) := by kernel_rfl

def RuneAt (B : Nat) (w : World) (v : Value) (n : Nat) (xs : List Value) (bs : List Nat) (e : Ending) (w' : World) : Prop :=
  ∃ g cap', e = .returned (.slice (some ⟨g, 0, none⟩) (n + bs.length) cap') ∧ w'.ownsRow B 5 1 (.slice (some ⟨g, 0, none⟩) (n + bs.length) cap') (n + bs.length) (xs ++ encB bs) ∧ ∃ o, (w.alloc o).grownBy w' v.ownBlock

set_option maxHeartbeats 4000000 in
theorem rune_two {B : Nat} {w : World} {a : Option Addr} {cap n : Nat} {xs : List Value} (hrow : w.ownsRow B 5 1 (.slice a n cap) n xs) (c : Nat) (h0 : 128 ≤ c) (h1 : c < 2048) (hn : n ≤ 70368744177664) (hB : B ≤ w.heap.size) :
    Calls Try.prog 109 #[.slice a n cap, .int .i32 (c : Int)] w (RuneAt B w (.slice a n cap) n xs [192 + c / 64, 128 + c % 64]) := by
  obtain ⟨i0, hi, ha1, ha2, ha3⟩ := info_parts info5
  have HROW := Lib.hid hrow
  have e1 : [Value.int .u8 (192 + (c : Int) / 64), .int .u8 (128 + (c : Int) % 64)] = encB [192 + c / 64, 128 + c % 64] := by simp [encB]
  have HE := Lib.hid e1
  have p0 : (c : Int) ≤ 2047 := by omega
  have p1 : (128 : Int) ≤ (c : Int) := by omega
  clear hrow e1
  go_enter Try.func109, Try.ntmps109
  go_wp2_with (at_builtin; refine wpList_append_lies _ rfl (.tmp 14) (.tmp 23) 132 rfl B 5 i0 _ 1 1 Try.underlying132 hi ha1 ha2 ha3 rfl (by omega) _ n _ rfl (HROW.out.alloc _) ⟨w.heap.size, 0, none⟩ 2 2 [.int .u8 (192 + (c : Int) / 64), .int .u8 (128 + (c : Int) % 64)] rfl rfl (World.news_of_block (cs := #[.int .u8 (192 + (c : Int) / 64), .int .u8 (128 + (c : Int) % 64)]) (t := 5) (fr := (0, 0)) (Go.heap_alloc_new w _)) (by simp [Value.oneCell']) (by omega) (by unfold maxLen; omega) (by omega) (by simp; omega) _ rfl ?_)
  intro g c3 w3 hown hgrow _ _
  have HO := Lib.hid (And.intro hown hgrow)
  clear hown hgrow
  go_wp2
  go_ret
  exact ⟨g, c3, rfl, by rw [← HE.out]; exact HO.out.1, _, HO.out.2⟩

set_option maxHeartbeats 4000000 in
theorem rune_three_lo {B : Nat} {w : World} {a : Option Addr} {cap n : Nat} {xs : List Value} (hrow : w.ownsRow B 5 1 (.slice a n cap) n xs) (c : Nat) (h0 : 2048 ≤ c) (h1 : c < 55296) (hn : n ≤ 70368744177664) (hB : B ≤ w.heap.size) :
    Calls Try.prog 109 #[.slice a n cap, .int .i32 (c : Int)] w (RuneAt B w (.slice a n cap) n xs [224 + c / 4096, 128 + c / 64 % 64, 128 + c % 64]) := by
  obtain ⟨i0, hi, ha1, ha2, ha3⟩ := info_parts info5
  have HROW := Lib.hid hrow
  have e1 : [Value.int .u8 (224 + (c : Int) / 4096), .int .u8 (128 + (c : Int) / 64 % 64), .int .u8 (128 + (c : Int) % 64)] = encB [224 + c / 4096, 128 + c / 64 % 64, 128 + c % 64] := by simp [encB]
  have HE := Lib.hid e1
  have p0 : ¬ (c : Int) ≤ 2047 := by omega
  have p1 : (c : Int) < 55296 := by omega
  have p2 : (2048 : Int) ≤ (c : Int) := by omega
  clear hrow e1
  go_enter Try.func109, Try.ntmps109
  go_wp2_with (at_builtin; refine wpList_append_lies _ rfl (.tmp 34) (.tmp 48) 132 rfl B 5 i0 _ 1 1 Try.underlying132 hi ha1 ha2 ha3 rfl (by omega) _ n _ rfl (HROW.out.alloc _) ⟨w.heap.size, 0, none⟩ 3 3 [.int .u8 (224 + (c : Int) / 4096), .int .u8 (128 + (c : Int) / 64 % 64), .int .u8 (128 + (c : Int) % 64)] rfl rfl (World.news_of_block (cs := #[.int .u8 (224 + (c : Int) / 4096), .int .u8 (128 + (c : Int) / 64 % 64), .int .u8 (128 + (c : Int) % 64)]) (t := 5) (fr := (0, 0)) (Go.heap_alloc_new w _)) (by simp [Value.oneCell']) (by omega) (by unfold maxLen; omega) (by omega) (by simp; omega) _ rfl ?_)
  intro g c3 w3 hown hgrow _ _
  have HO := Lib.hid (And.intro hown hgrow)
  clear hown hgrow
  go_wp2
  go_ret
  exact ⟨g, c3, rfl, by rw [← HE.out]; exact HO.out.1, _, HO.out.2⟩

set_option maxHeartbeats 4000000 in
theorem rune_three_hi {B : Nat} {w : World} {a : Option Addr} {cap n : Nat} {xs : List Value} (hrow : w.ownsRow B 5 1 (.slice a n cap) n xs) (c : Nat) (h0 : 57343 < c) (h1 : c < 65536) (hn : n ≤ 70368744177664) (hB : B ≤ w.heap.size) :
    Calls Try.prog 109 #[.slice a n cap, .int .i32 (c : Int)] w (RuneAt B w (.slice a n cap) n xs [224 + c / 4096, 128 + c / 64 % 64, 128 + c % 64]) := by
  obtain ⟨i0, hi, ha1, ha2, ha3⟩ := info_parts info5
  have HROW := Lib.hid hrow
  have e1 : [Value.int .u8 (224 + (c : Int) / 4096), .int .u8 (128 + (c : Int) / 64 % 64), .int .u8 (128 + (c : Int) % 64)] = encB [224 + c / 4096, 128 + c / 64 % 64, 128 + c % 64] := by simp [encB]
  have HE := Lib.hid e1
  have p0 : ¬ (c : Int) ≤ 2047 := by omega
  have p1 : ¬ (c : Int) < 55296 := by omega
  have p2 : (57343 : Int) < (c : Int) := by omega
  have p3 : (c : Int) ≤ 65535 := by omega
  clear hrow e1
  go_enter Try.func109, Try.ntmps109
  go_wp2_with (at_builtin; refine wpList_append_lies _ rfl (.tmp 34) (.tmp 48) 132 rfl B 5 i0 _ 1 1 Try.underlying132 hi ha1 ha2 ha3 rfl (by omega) _ n _ rfl (HROW.out.alloc _) ⟨w.heap.size, 0, none⟩ 3 3 [.int .u8 (224 + (c : Int) / 4096), .int .u8 (128 + (c : Int) / 64 % 64), .int .u8 (128 + (c : Int) % 64)] rfl rfl (World.news_of_block (cs := #[.int .u8 (224 + (c : Int) / 4096), .int .u8 (128 + (c : Int) / 64 % 64), .int .u8 (128 + (c : Int) % 64)]) (t := 5) (fr := (0, 0)) (Go.heap_alloc_new w _)) (by simp [Value.oneCell']) (by omega) (by unfold maxLen; omega) (by omega) (by simp; omega) _ rfl ?_)
  intro g c3 w3 hown hgrow _ _
  have HO := Lib.hid (And.intro hown hgrow)
  clear hown hgrow
  go_wp2
  go_ret
  exact ⟨g, c3, rfl, by rw [← HE.out]; exact HO.out.1, _, HO.out.2⟩

set_option maxHeartbeats 4000000 in
theorem rune_four {B : Nat} {w : World} {a : Option Addr} {cap n : Nat} {xs : List Value} (hrow : w.ownsRow B 5 1 (.slice a n cap) n xs) (c : Nat) (h0 : 65536 ≤ c) (h1 : c ≤ 1114111) (hn : n ≤ 70368744177664) (hB : B ≤ w.heap.size) :
    Calls Try.prog 109 #[.slice a n cap, .int .i32 (c : Int)] w (RuneAt B w (.slice a n cap) n xs [240 + c / 262144, 128 + c / 4096 % 64, 128 + c / 64 % 64, 128 + c % 64]) := by
  obtain ⟨i0, hi, ha1, ha2, ha3⟩ := info_parts info5
  have HROW := Lib.hid hrow
  have e1 : [Value.int .u8 (240 + (c : Int) / 262144), .int .u8 (128 + (c : Int) / 4096 % 64), .int .u8 (128 + (c : Int) / 64 % 64), .int .u8 (128 + (c : Int) % 64)] = encB [240 + c / 262144, 128 + c / 4096 % 64, 128 + c / 64 % 64, 128 + c % 64] := by simp [encB]
  have HE := Lib.hid e1
  have p0 : ¬ (c : Int) ≤ 2047 := by omega
  have p1 : ¬ (c : Int) < 55296 := by omega
  have p2 : (57343 : Int) < (c : Int) := by omega
  have p3 : ¬ (c : Int) ≤ 65535 := by omega
  have p4 : (65535 : Int) < (c : Int) := by omega
  have p5 : (c : Int) ≤ 1114111 := by omega
  clear hrow e1
  go_enter Try.func109, Try.ntmps109
  go_wp2_with (at_builtin; refine wpList_append_lies _ rfl (.tmp 57) (.tmp 76) 132 rfl B 5 i0 _ 1 1 Try.underlying132 hi ha1 ha2 ha3 rfl (by omega) _ n _ rfl (HROW.out.alloc _) ⟨w.heap.size, 0, none⟩ 4 4 [.int .u8 (240 + (c : Int) / 262144), .int .u8 (128 + (c : Int) / 4096 % 64), .int .u8 (128 + (c : Int) / 64 % 64), .int .u8 (128 + (c : Int) % 64)] rfl rfl (World.news_of_block (cs := #[.int .u8 (240 + (c : Int) / 262144), .int .u8 (128 + (c : Int) / 4096 % 64), .int .u8 (128 + (c : Int) / 64 % 64), .int .u8 (128 + (c : Int) % 64)]) (t := 5) (fr := (0, 0)) (Go.heap_alloc_new w _)) (by simp [Value.oneCell']) (by omega) (by unfold maxLen; omega) (by omega) (by simp; omega) _ rfl ?_)
  intro g c3 w3 hown hgrow _ _
  have HO := Lib.hid (And.intro hown hgrow)
  clear hown hgrow
  go_wp2
  go_ret
  exact ⟨g, c3, rfl, by rw [← HE.out]; exact HO.out.1, _, HO.out.2⟩

set_option maxHeartbeats 4000000 in
theorem rune_one {B : Nat} {w : World} {a : Option Addr} {cap n : Nat} {xs : List Value} (hrow : w.ownsRow B 5 1 (.slice a n cap) n xs) (c : Nat) (h0 : c < 128) (hn : n ≤ 70368744177664) (hB : B ≤ w.heap.size) :
    Calls Try.prog 99 #[.slice a n cap, .int .i32 (c : Int)] w (RuneAt B w (.slice a n cap) n xs [c]) := by
  obtain ⟨i0, hi, ha1, ha2, ha3⟩ := info_parts info5
  have HROW := Lib.hid hrow
  have e1 : [Value.int .u8 ((c : Int))] = encB [c] := by simp [encB]
  have HE := Lib.hid e1
  have p0 : (c : Int) ≤ 127 := by omega
  have p1 : (0 : Int) ≤ (c : Int) := by omega
  clear hrow e1
  go_enter Try.func99, Try.ntmps99
  go_wp2_with (at_builtin; refine wpList_append_lies _ rfl (.tmp 8) (.tmp 11) 132 rfl B 5 i0 _ 1 1 Try.underlying132 hi ha1 ha2 ha3 rfl (by omega) _ n _ rfl (HROW.out.alloc _) ⟨w.heap.size, 0, none⟩ 1 1 [.int .u8 ((c : Int))] rfl rfl (World.news_of_block (cs := #[.int .u8 ((c : Int))]) (t := 5) (fr := (0, 0)) (Go.heap_alloc_new w _)) (by simp [Value.oneCell']) (by omega) (by unfold maxLen; omega) (by omega) (by simp; omega) _ rfl ?_)
  intro g c3 w3 hown hgrow _ _
  have HO := Lib.hid (And.intro hown hgrow)
  clear hown hgrow
  go_wp2
  go_ret
  exact ⟨g, c3, rfl, by rw [← HE.out]; exact HO.out.1, _, HO.out.2⟩

/-- A code point that is one. -/
def Scalar (c : Nat) : Prop := c < 55296 ∨ (57343 < c ∧ c ≤ 1114111)
theorem rune_app {B : Nat} {w : World} {a : Option Addr} {cap n : Nat} {xs : List Value} (hrow : w.ownsRow B 5 1 (.slice a n cap) n xs) (c : Nat) (hc : Scalar c) (hn : n ≤ 70368744177664) (hB : B ≤ w.heap.size) :
    Calls Try.prog 99 #[.slice a n cap, .int .i32 (c : Int)] w (RuneAt B w (.slice a n cap) n xs (runeB c)) := by
  by_cases h1 : c < 128
  · have e : runeB c = [c] := by unfold runeB; rw [if_pos h1]
    rw [e]
    exact rune_one hrow c h1 hn hB
  · have p1 : ¬ (c : Int) ≤ 127 := by omega
    have H : Calls Try.prog 109 #[.slice a n cap, .int .i32 (c : Int)] w (RuneAt B w (.slice a n cap) n xs (runeB c)) := by
      by_cases h2 : c < 2048
      · have e : runeB c = [192 + c / 64, 128 + c % 64] := by unfold runeB; rw [if_neg h1, if_pos h2]
        rw [e]
        exact rune_two hrow c (by omega) h2 hn hB
      · by_cases h3 : c < 65536
        · have e : runeB c = [224 + c / 4096, 128 + c / 64 % 64, 128 + c % 64] := by unfold runeB; rw [if_neg h1, if_neg h2, if_pos h3]
          rw [e]
          rcases hc with h4 | h4
          · exact rune_three_lo hrow c (by omega) h4 hn hB
          · exact rune_three_hi hrow c h4.1 h3 hn hB
        · have e : runeB c = [240 + c / 262144, 128 + c / 4096 % 64, 128 + c / 64 % 64, 128 + c % 64] := by unfold runeB; rw [if_neg h1, if_neg h2, if_neg h3]
          rw [e]
          exact rune_four hrow c (by omega) (by rcases hc with h | h <;> omega) hn hB
    have HH := Lib.hid H
    have q1 : (c : Int) ≤ 1114111 := by rcases hc with h | h <;> omega
    clear H hc
    obtain ⟨bs, hbs⟩ : ∃ bs, bs = runeB c := ⟨_, rfl⟩
    rw [← hbs] at HH ⊢
    clear hbs
    go_enter Try.func99, Try.ntmps99
    go_wp2_with fail
    refine HH.out.mono ?_
    rintro e w2 ⟨g, c2, rfl, h1, o, h2⟩
    have HO := Lib.hid (And.intro h1 h2)
    clear h1 h2
    go_wp2
    go_ret
    exact ⟨g, c2, rfl, HO.out.1, o, HO.out.2⟩
end Go.Proofs.Ytelhnaphkbpakaa

namespace Go.Proofs.Ytelhnaphkbpakaa
open Go.RowKit Go.Shelf
attribute [local go_sem] Oper.semAt_some
set_option linter.unusedVariables false
set_option maxRecDepth 100000

theorem points_stops {α : Type} (f : α → Un) (L : List α) (n : Nat) (hn : 1 ≤ n) (Bn : Nat) {w0 : World} {a : Option Addr} {us : List Nat} {cap : Nat} (hA : Sl16 w0 a us) (hL : L.map f = uns us) (w : World) (hB : Below w0.heap.size w0 w) (hBn : w.heap[Bn]? = some (.cells #[.slice a us.length cap] 24 (0, 0))) :
    SeqStopsK Fence.wide n Try.prog 108 #[.pointer (some ⟨Bn, 0, none⟩)] (fun x => encU (f x)) (KpX w0.heap.size Bn) (fun ys => ys = L) (fun pre => pre <+: L) L.length w := fun l J Jx W hW hJ _ hY h0 =>
  points1_in f L n hn l Bn hA hL J Jx W hJ hY ((hW.block _ (lt_of_some hBn)).trans hBn) (hB.trans (hW.mono hB.size)) h0

/-- The code point that is written: that of none, for a half. -/
def unC (x : Un) : Nat := if 55296 ≤ x.c ∧ x.c ≤ 57343 then 65533 else x.c
def textU (l : List Un) : List Nat := l.flatMap fun x => runeB (unC x)
theorem textU_len (l : List Un) : (textU l).length ≤ 4 * l.length := by
  unfold textU
  induction l with
  | nil => simp
  | cons x l ih =>
    simp only [List.flatMap_cons, List.length_append, List.length_cons]
    have := (runeB_len (unC x)).2
    omega
theorem textU_snoc (l : List Un) (x : Un) : textU (l ++ [x]) = textU l ++ runeB (unC x) := by simp [textU]
theorem encB_append (a b : List Nat) : encB (a ++ b) = encB a ++ encB b := by simp [encB]

theorem unC_scalar {us : List Nat} (hb : ∀ u ∈ us, u ≤ 65535) {pre : List Un} {x : Un} {rest : List Un} (h : uns us = pre ++ x :: rest) : Scalar (unC x) := by
  obtain ⟨q, hq, rfl⟩ := unsFrom_mem us 0 x (by rw [show unsFrom us 0 = uns us from rfl, h]; simp)
  have hq' : us.getD q 0 ≤ 65535 := by
    rw [getD_of (List.getElem?_eq_getElem hq)]
    exact hb _ (List.getElem_mem hq)
  unfold unC Scalar
  unfold unAt
  split
  · rename_i hp
    obtain ⟨h1, h2, h3, h4, h5⟩ := hp
    simp only
    rw [if_neg (by omega)]
    omega
  · simp only
    split <;> omega
theorem runeB_le (c : Nat) (hc : Scalar c) : ∀ b ∈ runeB c, b ≤ 255 := by
  intro b hb
  have hc' : c ≤ 1114111 := by rcases hc with h | h <;> omega
  unfold runeB at hb
  split at hb
  · simp at hb; omega
  · split at hb
    · simp at hb; omega
    · split at hb
      · simp at hb; omega
      · simp at hb; omega
theorem textU_le {us : List Nat} (hb : ∀ u ∈ us, u ≤ 65535) : ∀ b ∈ textU (uns us), b ≤ 255 := by
  intro b hb'
  obtain ⟨x, hx, hbx⟩ := List.mem_flatMap.1 hb'
  obtain ⟨l1, l2, h⟩ := List.append_of_mem hx
  exact runeB_le _ (unC_scalar hb h) b hbx

/-- A code point of units, which may be written. -/
abbrev UnOk := { x : Un // Scalar (unC x) }
def unsOk (us : List Nat) (hb : ∀ u ∈ us, u ≤ 65535) : List UnOk := (uns us).attachWith _ (fun x hx => by
  obtain ⟨l1, l2, h⟩ := List.append_of_mem hx
  exact unC_scalar hb h)
theorem unsOk_val (us : List Nat) (hb : ∀ u ∈ us, u ≤ 65535) : (unsOk us hb).map Subtype.val = uns us := by simp [unsOk]
def textO (l : List UnOk) : List Nat := textU (l.map Subtype.val)
theorem textO_snoc (l : List UnOk) (x : UnOk) : textO (l ++ [x]) = textO l ++ runeB (unC x.1) := by simp [textO, textU]
theorem textO_len (l : List UnOk) : (textO l).length ≤ 4 * l.length := by have := textU_len (l.map Subtype.val); simpa [textO] using this

structure TextI (B : Nat) (n : Nat) (a : Option Addr) (cap : Nat) (w0 : World) (pre : List UnOk) (W : World) : Prop where
  box : BoxRow 132 5 B B (encB (textO pre)) w0 W
  cap : W.heap[B + 1]? = some (.cells #[.slice a n cap] 24 (0, 0))

theorem textI_own (B : Nat) (n : Nat) (a : Option Addr) (cap : Nat) (w0 : World) (D : Nat) (hD : B ≤ D) : OwnFrom D (TextI B n a cap w0) := fun s X Y row hs hg hr =>
  ⟨hs.box.grow hg (fun r e => ⟨Nat.le_trans hD (hr r e).1, (hr r e).2⟩), blkGrow hs.cap hg (fun r e => (hr r e).2)⟩

theorem TextI.step {B : Nat} {n : Nat} {a : Option Addr} {cap : Nat} {w0 W w3 : World} {pre : List UnOk} {x : UnOk} (h : TextI B n a cap w0 pre W) {ba : Option Addr} {bn bc g c3 : Nat} {o : Obj}
    (hbx : W.heap[B]? = some (.cells #[.slice ba bn bc] 132 (0, 0))) (hrow : W.ownsRow B 5 1 (.slice ba bn bc) bn (encB (textO pre))) (hn : bn = (encB (textO pre)).length)
    (hown : w3.ownsRow B 5 1 (.slice (some ⟨g, 0, none⟩) (bn + (runeB (unC x.1)).length) c3) (bn + (runeB (unC x.1)).length) (encB (textO pre) ++ encB (runeB (unC x.1)))) (hgrow : (W.alloc o).grownBy w3 (Value.slice ba bn bc).ownBlock) :
    TextI B n a cap w0 (pre ++ [x]) (w3.setCell ⟨B, 0, none⟩ (.slice (some ⟨g, 0, none⟩) (bn + (runeB (unC x.1)).length) c3)) ∧ KeepsOthers W (w3.setCell ⟨B, 0, none⟩ (.slice (some ⟨g, 0, none⟩) (bn + (runeB (unC x.1)).length) c3)) ∧ KpX B (B + 1) W (w3.setCell ⟨B, 0, none⟩ (.slice (some ⟨g, 0, none⟩) (bn + (runeB (unC x.1)).length) c3)) := by
  obtain ⟨h1, h2, h3⟩ := h.box.push (by decide) hbx hrow hn hown hgrow (by rw [encB_len])
  have hk := push_keeps (bx := B) hrow hgrow h.cap (by decide) (by omega) (.slice (some ⟨g, 0, none⟩) (bn + (runeB (unC x.1)).length) c3)
  refine ⟨⟨by rw [textO_snoc, encB_append]; exact h1, hk⟩, h2, h3, fun o' ho' => by rw [h.cap] at ho'; cases ho'; exact hk⟩

set_option maxHeartbeats 4000000 in
theorem text_in (w : World) {a : Option Addr} {us : List Nat} (cap : Nat) (hA : Sl16 w a us) (hl : us.length ≤ 17592186044416) :
    CallsIn Fence.wide 5 Try.prog 75 #[.slice a us.length cap] w fun e w' => e = .returned (.string (strB (textU (uns us)))) ∧ Below w.heap.size w w' := by
  have HA := Lib.hid hA
  have hbnd := hA.bnd
  have HBND := Lib.hid hbnd
  have hLl : (unsOk us hbnd).length ≤ us.length := by
    have := uns_len us
    rw [← unsOk_val us hbnd, List.length_map] at this
    exact this
  have HLV := Lib.hid (unsOk_val us hbnd)
  have HTX : Hid (textO (unsOk us hbnd) = textU (uns us)) := Lib.hid (by unfold textO; rw [unsOk_val])
  obtain ⟨L, hL⟩ : ∃ L, L = unsOk us hbnd := ⟨_, rfl⟩
  rw [← hL] at hLl HLV HTX
  obtain ⟨n, hn⟩ : ∃ n, n = us.length := ⟨_, rfl⟩
  have HN := Lib.hid hn
  rw [← hn] at hl hLl ⊢
  clear hA hn hbnd hL
  refine callsIn_of_wp_marks Try.func75 rfl trivial ?_ rfl
  simp only [Try.ntmps75, List.size_toArray, List.length_cons, List.length_nil, Nat.reduceAdd, Nat.reduceSub, Array.replicate_succ, Array.replicate_zero, List.push_toArray, List.append_toArray, List.nil_append, List.cons_append]
  gi_wp2_with (refine ⟨trivial, ?_⟩; gi_at_call 97; refine (callsIn_wide.2 (points_calls _ _ _ _)).mono ?_; rintro e w' ⟨rfl, rfl⟩)
  have hw0 : Below w.heap.size w ((w.alloc (.cells #[.slice none 0 0] 132)).alloc (.cells #[.slice a n cap] 24)) := ((Below.refl _ w).alloc (Nat.le_refl _) _).alloc (by simp) _
  have hbx0 : ((w.alloc (.cells #[.slice none 0 0] 132)).alloc (.cells #[.slice a n cap] 24)).heap[w.heap.size]? = some (.cells #[.slice none 0 0] 132 (0, 0)) := alloc_blk (Go.heap_alloc_new w _) _
  have hbx1 : ((w.alloc (.cells #[.slice none 0 0] 132)).alloc (.cells #[.slice a n cap] 24)).heap[w.heap.size + 1]? = some (.cells #[.slice a n cap] 24 (0, 0)) := by
    have := Go.heap_alloc_new (w.alloc (.cells #[.slice none 0 0] 132)) (.cells #[.slice a n cap] 24)
    rwa [World.size_alloc] at this
  have hI0 : TextI w.heap.size n a cap w [] ((w.alloc (.cells #[.slice none 0 0] 132)).alloc (.cells #[.slice a n cap] 24)) :=
    ⟨⟨⟨none, 0, hbx0, World.ownsRow_nil _ _ _ _⟩, hw0, hw0.size, Nat.le_refl _⟩, hbx1⟩
  have hst := points_stops Subtype.val L 4 (by decide) (w.heap.size + 1) (cap := cap) HA.out HLV.out _ hw0 (by rw [← HN.out]; exact hbx1)
  generalize hW : ((w.alloc (.cells #[.slice none 0 0] 132)).alloc (.cells #[.slice a n cap] 24)) = W0 at hw0 hI0 hst ⊢
  have hW0 : W0.heap.size = w.heap.size + 1 + 1 := by rw [← hW]; simp
  clear hbx0 hbx1 hW
  refine wpIn_rangeFunc_ownF rfl (by decide) (gf := 108) (lb := #[.pointer (some ⟨w.heap.size + 1, 0, none⟩)]) rfl trivial (enters_of Try.func108 (by kernel_rfl) rfl)
    hst (fun h k => h.trans k) (kpX_b (by omega) (by omega)) (Below.refl _ _) (fun _ => rfl)
    (TextI w.heap.size n a cap w) (fun _ _ _ => False) (textI_own _ _ _ _ _ _ (by omega)) (fun _ _ _ _ _ hs _ _ => hs) hI0
    (fun x => { tmps := #[.slice a n cap, undef, .string ⟨#[]⟩, .pointer (some ⟨w.heap.size, 0, none⟩), undef, .int .i32 (x.1.c : Int), .slice a n cap, .func (.func 108) #[] #[.pointer (some ⟨w.heap.size + 1, 0, none⟩)], .int .i64 (x.1.p : Int), .int .i32 (x.1.c : Int), undef, undef, undef, undef, undef, undef, undef], defers := [] }) ?assign ?body ?done ?stop
  case assign =>
    intro l x W K hK
    simp only [encU]
    gi_wp2
    exact hK
  case body =>
    rintro l pre x W hI hlt
    obtain ⟨ba, bc, hbx, hrow⟩ := hI.box.row
    have c0 := cell_blk hbx 0 rfl
    have hbl := textO_len pre
    obtain ⟨bn, hbn⟩ : ∃ bn, bn = (encB (textO pre)).length := ⟨_, rfl⟩
    rw [← hbn] at hbx hrow c0
    have hbn' : bn ≤ 70368744177664 := by rw [hbn, encB_len]; omega
    have hsz : w.heap.size < W.heap.size := lt_of_some hbx
    simp at c0
    have HI := Lib.hid hI
    have HR := Lib.hid (And.intro hbx (And.intro hrow hbn))
    have happ := rune_app hrow (unC x.1) x.2 hbn' (Nat.le_of_lt hsz)
    have HAPP := Lib.hid happ
    clear hI hbx hrow hbn happ hbl
    by_cases hlone : 55296 ≤ x.1.c ∧ x.1.c ≤ 57343
    · have e1 : unC x.1 = 65533 := by unfold unC; rw [if_pos hlone]
      have e2 : decide ((55296 : Int) ≤ (x.1.c : Int) ∧ (x.1.c : Int) ≤ 57343) = true := by simp; omega
      have HL1 := Lib.hid (lone_half (x.1.c : Int))
      rw [e2] at HL1
      rw [e1] at HAPP
      have E1 := Lib.hid e1
      clear e1 e2 hlone
      gi_wp2_with (first | (refine ⟨trivial, ?_⟩; gi_at_call 98; refine (CallsIn.inRound l (callsIn_wide.2 (HL1.out _))).mono ?_; rintro e w' ⟨rfl, rfl⟩) | (refine ⟨trivial, ?_⟩; gi_at_call 99; refine (CallsIn.inRound l (callsIn_wide.2 HAPP.out)).mono ?_; rintro e w3 ⟨g, c3, rfl, ho, o, hg⟩; have HO := Lib.hid (And.intro ho hg); have hb3 := rwApp HR.out.2.1 hg HR.out.1 (by decide); have d0 := cell_blk hb3 0 rfl; have d1 := free_blk hb3 0; have d2 := lt_of_some hb3; clear ho hg hb3 c0))
      have hs := HI.out.step (x := x) HR.out.1 HR.out.2.1 HR.out.2.2 (by rw [E1.out]; exact HO.out.1) HO.out.2
      rw [E1.out] at hs
      exact ⟨hs.2.1, hs.2.2, hs.1⟩
    · have e1 : unC x.1 = x.1.c := by unfold unC; rw [if_neg hlone]
      have e2 : decide ((55296 : Int) ≤ (x.1.c : Int) ∧ (x.1.c : Int) ≤ 57343) = false := by simp; omega
      have HL1 := Lib.hid (lone_half (x.1.c : Int))
      rw [e2] at HL1
      rw [e1] at HAPP
      have E1 := Lib.hid e1
      clear e1 e2 hlone
      gi_wp2_with (first | (refine ⟨trivial, ?_⟩; gi_at_call 98; refine (CallsIn.inRound l (callsIn_wide.2 (HL1.out _))).mono ?_; rintro e w' ⟨rfl, rfl⟩) | (refine ⟨trivial, ?_⟩; gi_at_call 99; refine (CallsIn.inRound l (callsIn_wide.2 HAPP.out)).mono ?_; rintro e w3 ⟨g, c3, rfl, ho, o, hg⟩; have HO := Lib.hid (And.intro ho hg); have hb3 := rwApp HR.out.2.1 hg HR.out.1 (by decide); have d0 := cell_blk hb3 0 rfl; have d1 := free_blk hb3 0; have d2 := lt_of_some hb3; clear ho hg hb3 c0))
      have hs := HI.out.step (x := x) HR.out.1 HR.out.2.1 HR.out.2.2 (by rw [E1.out]; exact HO.out.1) HO.out.2
      rw [E1.out] at hs
      exact ⟨hs.2.1, hs.2.2, hs.1⟩
  case done =>
    rintro D ys W hD rfl hI hK
    obtain ⟨ba, bc, hbx, hrow⟩ := hI.box.row
    have c0 := cell_blk hbx 0 rfl
    obtain ⟨bn, hbn⟩ : ∃ bn, bn = (encB (textO ys)).length := ⟨_, rfl⟩
    rw [← hbn] at hbx hrow c0
    simp at c0
    have hconv := run_string_row (P := Try.prog) (w := W) (src := 132) (dst := 9) (l := textO ys) Try.underlying132 Try.underlying5 Try.underlying9 hrow (by rw [HTX.out]; exact textU_le HBND.out)
    rw [HTX.out] at hconv
    have HI := Lib.hid hI
    clear hI hbx hrow hbn
    gi_wp2
    refine ⟨by simp, .inl ⟨_, _, rfl, run_takeDeferred hK, ?_⟩⟩
    exact ⟨_, results_tmp rfl _ _ _, rfl, HI.out.box.bel.trans (belowK_b (w := w) (Nat.le_refl _) W D _ _ (by omega) hK rfl rfl)⟩
  case stop =>
    rintro D c pre W _ _ h _
    exact h.elim

theorem text_calls (w : World) {a : Option Addr} {us : List Nat} (cap : Nat) (hA : Sl16 w a us) (hl : us.length ≤ 17592186044416) :
    Calls Try.prog 75 #[.slice a us.length cap] w fun e w' => e = .returned (.string (strB (textU (uns us)))) ∧ Below w.heap.size w w' := callsIn_wide.1 (text_in w cap hA hl)
end Go.Proofs.Ytelhnaphkbpakaa

namespace Go.Proofs.Ytelhnaphkbpakaa
open Go Go.RowKit
set_option linter.unusedVariables false

/-- A slice over a row of the call's own; its capacity is the row's, or its own length. -/
def AppOk (w : World) (base : Nat) (e : TypeId) (v : Value) (n : Nat) (xs : List Value) : Prop :=
  w.ownsRow base e 1 v n xs ∨ ∃ a cap, v = .slice a n n ∧ w.ownsRow base e 1 (.slice a n cap) n xs
theorem AppOk.own {w : World} {base : Nat} {e : TypeId} {v : Value} {n : Nat} {xs : List Value} (h : w.ownsRow base e 1 v n xs) : AppOk w base e v n xs := .inl h
theorem AppOk.slice {w : World} {base : Nat} {e : TypeId} {v : Value} {n : Nat} {xs : List Value} (h : AppOk w base e v n xs) : ∃ a cap, v = .slice a n cap := by
  rcases h with h | ⟨a, cap, rfl, _⟩
  · exact rwSlice h
  · exact ⟨a, n, rfl⟩

theorem AppOk.alloc {w : World} {base : Nat} {e : TypeId} {v : Value} {n : Nat} {xs : List Value} (h : AppOk w base e v n xs) (o : Obj) : AppOk (w.alloc o) base e v n xs :=
  h.imp (fun h => h.alloc o) (fun ⟨a, c, e, h⟩ => ⟨a, c, e, h.alloc o⟩)

/-- w' is w, but for new blocks and for the block of that slice. -/
theorem grown_trans {w w1 w2 : World} {g r : Option Nat} (h : w.grownBy w1 g) (k : w1.grownBy w2 r) (hr : ∀ x, r = some x → g = some x ∨ w.heap.size ≤ x) : w.grownBy w2 g :=
  ⟨k.os.trans h.os, k.tape.trans h.tape, k.output.trans h.output, Nat.le_trans h.size k.size, fun i hi hne => by
    refine (k.block i (Nat.lt_of_lt_of_le hi h.size) ?_).trans (h.block i hi hne)
    intro e
    rcases hr i e.symm with h1 | h1
    · exact hne h1.symm
    · omega⟩
theorem grown_self (w : World) (g : Option Nat) : w.grownBy w g := ⟨rfl, rfl, rfl, Nat.le_refl _, fun _ _ _ => rfl⟩
theorem grown_set (w : World) (a : Addr) (v : Value) : w.grownBy (w.setCell a v) (some a.block) :=
  ⟨rfl, rfl, rfl, by simp, fun i hi hne => heap_setCell_other w a i v (fun e => hne (by rw [e]))⟩
theorem grown_alloc (w : World) (o : Obj) (g : Option Nat) : w.grownBy (w.alloc o) g :=
  ⟨rfl, rfl, rfl, by simp, fun i hi _ => Below.heap_alloc w o i hi⟩
theorem grown_drewN (w : World) (k : Nat) (g : Option Nat) : w.grownBy (w.drewN k) g := ⟨rfl, rfl, rfl, Nat.le_refl _, fun _ _ _ => rfl⟩
/-- What lies below a block stands, if that block alone is turned. -/
theorem grown_below {w w' : World} {g : Option Nat} {B : Nat} (h : w.grownBy w' g) (hB : ∀ x, g = some x → B ≤ x) (hs : B ≤ w.heap.size) : Below B w w' :=
  ⟨h.os, h.tape, h.output, h.size, fun k hk => h.block k (by omega) (fun e => by have := hB k e.symm; omega)⟩
theorem grown_blk {w w' : World} {g : Option Nat} (h : w.grownBy w' g) {b : Nat} {o : Obj} (hb : w.heap[b]? = some o) (hne : g ≠ some b) : w'.heap[b]? = some o :=
  (h.block b (lt_of_some hb) (fun e => hne e.symm)).trans hb
theorem grown_row {w w' : World} {g : Option Nat} (hg : w.grownBy w' g) {base : Nat} {e : TypeId} {size : Nat} {v : Value} {n : Nat} {xs : List Value} (h : w.ownsRow base e size v n xs) (hne : ∀ x, v.ownBlock = some x → g ≠ some x) : w'.ownsRow base e size v n xs := by
  refine h.kept hg ?_
  rcases h.2 with ⟨rfl, _⟩ | ⟨x, cap, cur, rfl, _, hg', _⟩
  · exact .inl rfl
  · exact .inr (fun e => hne x rfl e.symm)

section
variable {P : Program} (w : World)
theorem run_append_ok (t ty : TypeId) (base : Nat) (e : TypeId) (i : TypeInfo) (z : Value) (bytes : Nat) (ht : P.underlying t = some (.slice e)) (hi : P.info? e = some i) (hz : i.zero = some z)
    (hsize : i.size = 1) (hby : i.bytes = bytes) (hzs : z.cells.size = 1)
    (v : Value) (n : Nat) (xs : List Value) (hown : AppOk w base e v n xs)
    (ad : Addr) (m c : Nat) (news : List Value) (hl : news.length = m) (hsrc : ∀ j u, news[j]? = some u → w.cell? (ad.add j) = some u) (h1 : ∀ u ∈ news, u.oneCell' = true) (hm : 0 < m)
    (h63 : n + m ≤ maxLen) (hbytes : (n + m) * bytes ≤ 140737488355328) (hbase : base ≤ w.heap.size) :
    ∃ g c' w', (Builtin.append_ #[t, t] ty #[v, .slice (some ad) m c]).run P w = .ok (.slice (some ⟨g, 0, none⟩) (n + m) c') w' ∧ w'.ownsRow base e 1 (.slice (some ⟨g, 0, none⟩) (n + m) c') (n + m) (xs ++ news) ∧ w.grownBy w' v.ownBlock ∧ (v.ownBlock = some g ∨ w.heap.size ≤ g) := by
  rcases hown with hown | ⟨a0, cap, rfl, hown⟩
  · obtain ⟨g, c', w', hr, h2, h3, h4, _⟩ := run_append_lies (P := P) w t ty base e i z 1 bytes ht hi hz hsize hby hzs (by omega) v n xs hown ad m c news (by omega) hsrc h1 hm h63 hbytes hbase _ rfl
    exact ⟨g, c', w', hr, h2, h3, h4.imp id (fun e => by omega)⟩
  · rcases hown.2 with ⟨h5, h6⟩ | ⟨g, cap', cur, h5, _⟩
    · obtain ⟨ha, _⟩ : a0 = none ∧ n = 0 ∧ cap = 0 := by simpa using h5
      subst ha h6
      obtain ⟨g, c', w', hr, h2, h3, h4, _⟩ := run_append_lies (P := P) w t ty base e i z 1 bytes ht hi hz hsize hby hzs (by omega) (.slice none 0 0) 0 xs (by rw [show xs = [] from List.eq_nil_of_length_eq_zero (by simpa using hown.1)]; exact World.ownsRow_nil w base e 1) ad m c news (by omega) hsrc h1 hm h63 hbytes hbase _ rfl
      exact ⟨g, c', w', hr, h2, h3, h4.imp id (fun e => by omega)⟩
    · obtain ⟨rfl, rfl⟩ : a0 = some ⟨g, 0, none⟩ ∧ cap = cap' := by simpa using h5
      obtain ⟨v', w', hr, r1, r2⟩ := run_append_arg_grows (P := P) w t ty e i z 1 bytes ht hi hz hsize hby hzs (by omega) ⟨g, 0, none⟩ n n xs hown.1 (fun j u hj => hown.cells rfl j u hj) ad m c news (by omega) hsrc (by omega) h63 hbytes
      obtain ⟨g', cap', rfl, hg, _⟩ := r1.form (by omega)
      exact ⟨g', cap', w', hr, r1.mono hbase, grown_trans (grown_self w _) r2 (fun _ e => by cases e), .inr hg⟩

theorem wpList_append_ok {ops : Array Oper} {rest : List Oper} {o : Oper} {a : Act} {Q : Exit → Act → World → Prop} (hgd : o.guard = none) (s x : Operand) (t : TypeId)
    (ho : o.op = .call { callee := .builtin .append, args := #[s, x], argTypes := #[t, t] })
    (base : Nat) (e : TypeId) (i : TypeInfo) (z : Value) (bytes : Nat) (ht : P.underlying t = some (.slice e)) (hi : P.info? e = some i) (hz : i.zero = some z)
    (hsize : i.size = 1) (hby : i.bytes = bytes) (hzs : z.cells.size = 1)
    (v : Value) (n : Nat) (xs : List Value) (hs : a.eval s = v) (hown : AppOk w base e v n xs)
    (ad : Addr) (m c : Nat) (news : List Value) (hx : a.eval x = .slice (some ad) m c) (hl : news.length = m) (hsrc : ∀ j u, news[j]? = some u → w.cell? (ad.add j) = some u) (h1 : ∀ u ∈ news, u.oneCell' = true) (hm : 0 < m)
    (h63 : n + m ≤ maxLen) (hbytes : (n + m) * bytes ≤ 140737488355328) (hbase : base ≤ w.heap.size)
    (h : ∀ g c' w', w'.ownsRow base e 1 (.slice (some ⟨g, 0, none⟩) (n + m) c') (n + m) (xs ++ news) → w.grownBy w' v.ownBlock → (v.ownBlock = some g ∨ w.heap.size ≤ g) → wpList P ops Q rest (a.put o.dst (.slice (some ⟨g, 0, none⟩) (n + m) c')) w') : wpList P ops Q (o :: rest) a w := by
  obtain ⟨g, c', w', hr, h2, h3, h4⟩ := run_append_ok (P := P) w t o.type base e i z bytes ht hi hz hsize hby hzs v n xs hown ad m c news hl hsrc h1 hm h63 hbytes hbase
  refine wpList_plain hgd fun K hK => ?_
  unfold Oper.wp
  simp [execOp, ho, resolve, invoke, builtin, hs, hx, hr, Result.andThen]
  exact hK _ _ (h g c' w' h2 h3 h4)
theorem wpListIn_append_ok {F : Fence} {nF : Nat} {ops : Array Oper} {rest : List Oper} {o : Oper} {a : Act} {Q : Exit → Act → World → Prop} (hgd : o.guard = none) (s x : Operand) (t : TypeId)
    (ho : o.op = .call { callee := .builtin .append, args := #[s, x], argTypes := #[t, t] })
    (base : Nat) (e : TypeId) (i : TypeInfo) (z : Value) (bytes : Nat) (ht : P.underlying t = some (.slice e)) (hi : P.info? e = some i) (hz : i.zero = some z)
    (hsize : i.size = 1) (hby : i.bytes = bytes) (hzs : z.cells.size = 1)
    (v : Value) (n : Nat) (xs : List Value) (hs : a.eval s = v) (hown : AppOk w base e v n xs)
    (ad : Addr) (m c : Nat) (news : List Value) (hx : a.eval x = .slice (some ad) m c) (hl : news.length = m) (hsrc : ∀ j u, news[j]? = some u → w.cell? (ad.add j) = some u) (h1 : ∀ u ∈ news, u.oneCell' = true) (hm : 0 < m)
    (h63 : n + m ≤ maxLen) (hbytes : (n + m) * bytes ≤ 140737488355328) (hbase : base ≤ w.heap.size)
    (h : ∀ g c' w', w'.ownsRow base e 1 (.slice (some ⟨g, 0, none⟩) (n + m) c') (n + m) (xs ++ news) → w.grownBy w' v.ownBlock → (v.ownBlock = some g ∨ w.heap.size ≤ g) → wpListIn F nF P ops Q rest (a.put o.dst (.slice (some ⟨g, 0, none⟩) (n + m) c')) w') : wpListIn F nF P ops Q (o :: rest) a w := by
  obtain ⟨g, c', w', hr, h2, h3, h4⟩ := run_append_ok (P := P) w t o.type base e i z bytes ht hi hz hsize hby hzs v n xs hown ad m c news hl hsrc h1 hm h63 hbytes hbase
  refine wpListIn_plain hgd fun K hK => ?_
  unfold Oper.wpIn
  refine ⟨by simp [Oper.about, ho, resolve, Target.leads, Sem.run_pure], ?_⟩
  rw [Oper.semAt_plain F _ _ (by rw [ho]; intro c hc'; cases hc')]
  simp [execOp, ho, resolve, invoke, builtin, hs, hx, hr, Result.andThen]
  exact hK _ _ (h g c' w' h2 h3 h4)
end
end Go.Proofs.Ytelhnaphkbpakaa

namespace Go.Proofs.Ytelhnaphkbpakaa
open Go.RowKit
set_option linter.unusedVariables false
set_option maxRecDepth 100000

theorem row_below {w w' : World} {base : Nat} {e : TypeId} {size : Nat} {v : Value} {n : Nat} {xs : List Value} (h : w.ownsRow base e size v n xs) (b : Below w.heap.size w w') : w'.ownsRow base e size v n xs := (FrT.of_below (T := []) (B := 0) b).row h (by simp)
theorem row_cap {w : World} {base : Nat} {e : TypeId} {size : Nat} {a : Option Addr} {n cap m : Nat} {xs : List Value} (h : w.ownsRow base e size (.slice a n cap) m xs) : n = m ∧ m ≤ cap ∧ cap ≤ 9223372036854775807 := by
  rcases h.2 with ⟨h1, h2⟩ | ⟨g, cap', cur, h1, _, _, h4, h5, _⟩
  · obtain ⟨_, h6, h7⟩ : a = none ∧ n = 0 ∧ cap = 0 := by simpa using h1
    omega
  · cases h1; unfold maxLen at h5; omega
theorem Clip16.below {B : Nat} {w w' : World} {a : Option Addr} {us : List Nat} (h : Clip16 B w a us) (b : Below w.heap.size w w') : Clip16 B w' a us :=
  ⟨by obtain ⟨cap, hr⟩ := h.row; exact ⟨cap, row_below hr b⟩, h.bnd, h.len⟩

set_option maxHeartbeats 1000000 in
theorem own_calls (w : World) {a : Option Addr} {us : List Nat} (ca : Nat) (hA : Sl16 w a us) (hl : us.length ≤ 1099511627776) :
    Calls Try.prog 64 #[.slice a us.length ca] w fun e w' => ∃ a', e = .returned (.slice a' us.length us.length) ∧ Clip16 w.heap.size w' a' us ∧ Below w.heap.size w w' := by
  obtain ⟨i45, hi45, ha1, ha2, ha3⟩ := info_parts info79
  have HA := Lib.hid (hA.below ((Below.refl _ w).alloc (Nat.le_refl _) (.cells #[] 45)))
  have HB := Lib.hid hA.bnd
  obtain ⟨n, hn⟩ : ∃ n, n = us.length := ⟨_, rfl⟩
  rw [← hn] at hl ⊢
  have HN := Lib.hid hn
  clear hn hA
  go_enter Try.func64, Try.ntmps64
  go_wp2_with (at_builtin; refine wpList_append_any _ rfl (.tmp 3) (.tmp 4) 24 rfl w.heap.size 45 i45 _ 1 2 Try.underlying24 hi45 ha1 ha2 ha3 rfl (by omega) _ 0 [] rfl (World.ownsRow_lit w #[] 0 (Nat.le_refl _) (by decide) rfl) a n ca (enc16 us) rfl (by rw [enc16_len, HN.out]; simp) (by rw [HN.out]; exact HA.out.src) enc16_one (by unfold maxLen; omega) (by omega) (by simp) ?_)
  intro a2 c2 w2 hown hgrow
  have hc := row_cap hown
  have hb : Below w.heap.size w w2 := ((FrT.refl [45] w.heap.size w).alloc (.cells #[] 45) |>.append (World.ownsRow_lit (size := 1) w #[] 0 (Nat.le_refl _) (by decide) rfl) (Nat.le_refl _) (by simp) hgrow).below (Nat.le_refl _)
  have HO := Lib.hid hown
  have HBL := Lib.hid hb
  clear hown hgrow hb
  go_wp2_with (go_at_call 68; refine (clip16 _ _ _ hc.2.1 hc.2.2 _).mono ?_; rintro e w3 ⟨rfl, rfl⟩)
  go_ret
  exact ⟨a2, rfl, ⟨⟨c2, by rw [← HN.out]; exact HO.out⟩, HB.out, by rw [← HN.out]; omega⟩, HBL.out⟩
end Go.Proofs.Ytelhnaphkbpakaa

namespace Go.Proofs.Ytelhnaphkbpakaa
open Go.RowKit
set_option linter.unusedVariables false
set_option maxRecDepth 100000

/-- An attribute: its name, its value, and where the value lies. -/
structure LA where
  name : ByteArray
  va : Option Addr
  vc : Nat
  val : List Nat
def LA.cells (x : LA) : List Value := [.string x.name, .slice x.va x.val.length x.vc]
def LA.v (x : LA) : Value := .agg #[.string x.name, .slice x.va x.val.length x.vc]
def cellsA (L : List LA) : List Value := L.flatMap LA.cells
theorem cellsA_append (L M : List LA) : cellsA (L ++ M) = cellsA L ++ cellsA M := by simp [cellsA]
theorem cellsA_len (L : List LA) : (cellsA L).length = L.length * 2 := by
  induction L with
  | nil => rfl
  | cons x l ih =>
    have : cellsA (x :: l) = x.cells ++ cellsA l := rfl
    rw [this, List.length_append, ih]
    simp [LA.cells]
    omega
theorem cellsA_at {L : List LA} {i : Nat} {x : LA} (h : L[i]? = some x) : (cellsA L)[i * 2]? = some (.string x.name) ∧ (cellsA L)[i * 2 + 1]? = some (.slice x.va x.val.length x.vc) := by
  induction L generalizing i with
  | nil => simp at h
  | cons y l ih =>
    have e : cellsA (y :: l) = .string y.name :: .slice y.va y.val.length y.vc :: cellsA l := rfl
    cases i with
    | zero =>
      obtain rfl : y = x := by simpa using h
      rw [e]
      exact ⟨rfl, rfl⟩
    | succ i =>
      have h2 : l[i]? = some x := by simpa using h
      have h3 := ih h2
      rw [e, show (i + 1) * 2 = i * 2 + 1 + 1 by omega, show i * 2 + 1 + 1 + 1 = (i * 2 + 1) + 1 + 1 by omega]
      simpa using h3
theorem cellsA_one (L : List LA) : ∀ u ∈ cellsA L, u.oneCell' = true := by
  intro u hu
  obtain ⟨x, _, hx⟩ := List.mem_flatMap.1 hu
  rcases List.mem_cons.1 hx with rfl | hx
  · rfl
  · obtain rfl := by simpa using hx
    rfl

/-- A slice of attributes as they lie in memory; of none: whatever its address. -/
structure SlA (w : World) (a : Option Addr) (L : List LA) : Prop where
  at_ : ∀ (j : Nat) (u : Value), (cellsA L)[j]? = some u → ∃ b off, a = some ⟨b, off, none⟩ ∧ b < w.heap.size ∧ w.cell? ⟨b, off + j, none⟩ = some u
  len : L.length ≤ 4611686018427387903
  val : ∀ x ∈ L, Sl16 w x.va x.val
  nam : ∀ x ∈ L, x.name.size ≤ 9223372036854775807
theorem SlA.below {w w' : World} {a : Option Addr} {L : List LA} (h : SlA w a L) (hb : Below w.heap.size w w') : SlA w' a L :=
  ⟨fun j u hu => by
    obtain ⟨b, off, h2, h3, h4⟩ := h.at_ j u hu
    exact ⟨b, off, h2, Nat.lt_of_lt_of_le h3 hb.size, (hb.cell (p := ⟨b, off + j, none⟩) h3).trans h4⟩, h.len, fun x hx => (h.val x hx).below hb, h.nam⟩
theorem SlA.nil (w : World) (a : Option Addr) : SlA w a [] := ⟨fun i u hu => by simp [cellsA] at hu, by simp, by simp, by simp⟩
/-- What the walk wants of the attribute numbered i. -/
theorem SlA.get {w : World} {a : Option Addr} {L : List LA} (h : SlA w a L) {i : Nat} {x : LA} (hx : L[i]? = some x) :
    ∃ b off, a = some ⟨b, off, none⟩ ∧ b < w.heap.size ∧ w.cell? ⟨b, off + i * 2, none⟩ = some (.string x.name) ∧ w.cell? ⟨b, off + i * 2 + 1, none⟩ = some (.slice x.va x.val.length x.vc) := by
  obtain ⟨h1, h2⟩ := cellsA_at hx
  obtain ⟨b, off, e1, e2, e3⟩ := h.at_ _ _ h1
  obtain ⟨b', off', f1, f2, f3⟩ := h.at_ _ _ h2
  rw [e1] at f1
  cases f1
  exact ⟨b, off, e1, e2, e3, by rw [Nat.add_assoc]; exact f3⟩

/-- A node. -/
structure Nd where
  kind : Int
  name : ByteArray
  da : Option Addr
  dc : Nat
  data : List Nat
  aa : Option Addr
  ac : Nat
  L : List LA
  slot : Int
  gen : Int
def Nd.cells (N : Nd) : Array Value := #[.int .i64 N.kind, .string N.name, .slice N.da N.data.length N.dc, .slice N.aa N.L.length N.ac, .int .u32 N.slot, .int .u32 N.gen]
def Nd.v (N : Nd) : Value := .agg N.cells
structure NdIn (w : World) (N : Nd) : Prop where
  data : Sl16 w N.da N.data
  attrs : SlA w N.aa N.L
  nam : N.name.size ≤ 9223372036854775807
  cap : N.data.length ≤ N.dc ∧ N.dc ≤ 9223372036854775807 ∧ N.L.length ≤ N.ac ∧ N.ac ≤ 9223372036854775807
theorem NdIn.below {w w' : World} {N : Nd} (h : NdIn w N) (hb : Below w.heap.size w w') : NdIn w' N := ⟨h.data.below hb, h.attrs.below hb, h.nam, h.cap⟩
/-- A bound of what a node has. -/
structure Nd.Bd (N : Nd) (b : Nat) : Prop where
  data : N.data.length ≤ b
  attrs : N.L.length ≤ b
  val : ∀ x ∈ N.L, x.val.length ≤ b

/-- What a node has, wherever it lies. -/
def attrOf (x : LA) : ByteArray × List Nat := (x.name, x.val)
structure Nd.Same (M N : Nd) : Prop where
  kind : M.kind = N.kind
  name : M.name = N.name
  data : M.data = N.data
  attrs : M.L.map attrOf = N.L.map attrOf
  slot : M.slot = N.slot
  gen : M.gen = N.gen
theorem Nd.Same.len {M N : Nd} (h : M.Same N) : M.L.length = N.L.length := by have := congrArg List.length h.attrs; simpa using this

/-- Attributes in memory of the call's own, without room. -/
structure ClipA (B : Nat) (w : World) (a : Option Addr) (L : List LA) : Prop where
  row : ∃ cap, w.ownsRow B 72 2 (.slice a L.length cap) L.length (cellsA L)
  val : ∀ x ∈ L, Clip16 B w x.va x.val ∧ x.vc = x.val.length
  nam : ∀ x ∈ L, x.name.size ≤ 9223372036854775807
theorem ClipA.below {B : Nat} {w w' : World} {a : Option Addr} {L : List LA} (h : ClipA B w a L) (b : Below w.heap.size w w') : ClipA B w' a L :=
  ⟨by obtain ⟨cap, hr⟩ := h.row; exact ⟨cap, row_below hr b⟩, fun x hx => ⟨(h.val x hx).1.below b, (h.val x hx).2⟩, h.nam⟩
theorem row_src {w : World} {base : Nat} {e : TypeId} {size : Nat} {a : Option Addr} {n cap m : Nat} {xs : List Value} (h : w.ownsRow base e size (.slice a n cap) m xs) {j : Nat} {u : Value} (hu : xs[j]? = some u) :
    ∃ b, a = some ⟨b, 0, none⟩ ∧ b < w.heap.size ∧ w.cell? ⟨b, 0 + j, none⟩ = some u := by
  have hj : j < xs.length := (List.getElem?_eq_some_iff.1 hu).1
  have hx := h.1
  have hm : 0 < m := by rcases Nat.eq_zero_or_pos m with h0 | h0
                        · rw [h0, Nat.zero_mul] at hx; omega
                        · exact h0
  obtain ⟨g, c, hv, hb, hl⟩ := h.form hm
  obtain ⟨h1, h2, h3⟩ : a = some ⟨g, 0, none⟩ ∧ n = m ∧ cap = c := by simpa using hv
  subst h1 h2 h3
  refine ⟨g, rfl, (h.lt g rfl).2, ?_⟩
  rw [Nat.zero_add]
  exact (h.cellAt j (by rw [← hx]; exact hj)).trans hu
theorem ClipA.sl {B : Nat} {w : World} {a : Option Addr} {L : List LA} (h : ClipA B w a L) (hl : L.length ≤ 4611686018427387903) : SlA w a L := by
  obtain ⟨cap, hr⟩ := h.row
  exact ⟨fun j u hu => by obtain ⟨b, h1, h2, h3⟩ := row_src hr hu; exact ⟨b, 0, h1, h2, h3⟩, hl, fun x hx => (h.val x hx).1.sl, h.nam⟩
/-- A node in memory of the call's own. -/
structure Fresh (B : Nat) (w : World) (N : Nd) : Prop where
  data : Clip16 B w N.da N.data
  dc : N.dc = N.data.length
  attrs : ClipA B w N.aa N.L
  ac : N.ac = N.L.length
  nam : N.name.size ≤ 9223372036854775807
  len : N.L.length ≤ 4611686018427387903
theorem Fresh.below {B : Nat} {w w' : World} {N : Nd} (h : Fresh B w N) (b : Below w.heap.size w w') : Fresh B w' N := ⟨h.data.below b, h.dc, h.attrs.below b, h.ac, h.nam, h.len⟩
theorem Fresh.nd {B : Nat} {w : World} {N : Nd} (h : Fresh B w N) : NdIn w N := ⟨h.data.sl, h.attrs.sl h.len, h.nam, by have h1 := h.dc; have h2 := h.ac; have h3 := h.data.len; have h4 := h.len; omega⟩
end Go.Proofs.Ytelhnaphkbpakaa

