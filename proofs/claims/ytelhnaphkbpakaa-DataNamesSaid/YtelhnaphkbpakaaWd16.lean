/- A code point's bytes, put behind those that are there: utf8.AppendRune; the document's own bytes. -/
import Derived.Test.YtelhnaphkbpakaaWd15
namespace Go.Proofs.Ytelhnaphkbpakaa
open Go.RowKit Go.Shelf
set_option linter.unusedVariables false
set_option maxRecDepth 100000

/-- A code point's bytes. -/
def runeB (c : Nat) : List Nat := if c < 128 then [c] else if c < 2048 then [192 + c / 64, 128 + c % 64] else if c < 65536 then [224 + c / 4096, 128 + c / 64 % 64, 128 + c % 64] else [240 + c / 262144, 128 + c / 4096 % 64, 128 + c / 64 % 64, 128 + c % 64]
def encB (l : List Nat) : List Value := l.map fun (b : Nat) => Value.int .u8 (b : Int)
theorem encB_len (l : List Nat) : (encB l).length = l.length := by simp [encB]
theorem runeB_len (c : Nat) : 1 ≤ (runeB c).length ∧ (runeB c).length ≤ 4 := by unfold runeB; split; simp; split; simp; split <;> simp
theorem info5 : (Try.prog.info? 5).map (fun i => (i.zero, i.size, i.bytes)) = some (some (.int .u8 0), 1, 1) := by kernel_rfl

def RuneAt (B : Nat) (w : World) (v : Value) (n : Nat) (xs : List Value) (bs : List Nat) (e : Ending) (w' : World) : Prop :=
  ∃ g cap', e = .returned (.slice (some ⟨g, 0, none⟩) (n + bs.length) cap') ∧ w'.ownsRow B 5 1 (.slice (some ⟨g, 0, none⟩) (n + bs.length) cap') (n + bs.length) (xs ++ encB bs) ∧ ∃ o, (w.alloc o).grownBy w' v.ownBlock

set_option maxHeartbeats 4000000 in
theorem rune_two {B : Nat} {w : World} {a : Option Addr} {cap n : Nat} {xs : List Value} (hrow : w.ownsRow B 5 1 (.slice a n cap) n xs) (c : Nat) (h0 : 128 ≤ c) (h1 : c < 2048) (hn : n ≤ 70368744177664) (hB : B ≤ w.heap.size) :
    Calls Try.prog 109 #[.slice a n cap, .int .i32 (c : Int)] w (RuneAt B w (.slice a n cap) n xs [192 + c / 64, 128 + c % 64]) := by
  obtain ⟨i0, hi, ha1, ha2, ha3⟩ := info_parts info5
  have HROW := Lib.hid hrow
  have e1 : [Value.int .u8 (192 + (c : Int) / 64), .int .u8 (128 + (c : Int) % 64)] = encB [192 + c / 64, 128 + c % 64] := by simp [encB]
  have HE := Lib.hid e1
  have p0 : (c : Int) ≤ 2047 := by omega
  have p1 : (128 : Int) ≤ (c : Int) := by omega
  clear hrow e1
  go_enter Try.func109, Try.ntmps109
  go_wp2_with (at_builtin; refine wpList_append_lies _ rfl (.tmp 14) (.tmp 23) 132 rfl B 5 i0 _ 1 1 Try.underlying132 hi ha1 ha2 ha3 rfl (by omega) _ n _ rfl (HROW.out.alloc _) ⟨w.heap.size, 0, none⟩ 2 2 [.int .u8 (192 + (c : Int) / 64), .int .u8 (128 + (c : Int) % 64)] rfl rfl (World.news_of_block (cs := #[.int .u8 (192 + (c : Int) / 64), .int .u8 (128 + (c : Int) % 64)]) (t := 5) (fr := (0, 0)) (Go.heap_alloc_new w _)) (by simp [Value.oneCell']) (by omega) (by unfold maxLen; omega) (by omega) (by simp; omega) _ rfl ?_)
  intro g c3 w3 hown hgrow _ _
  have HO := Lib.hid (And.intro hown hgrow)
  clear hown hgrow
  go_wp2
  go_ret
  exact ⟨g, c3, rfl, by rw [← HE.out]; exact HO.out.1, _, HO.out.2⟩

set_option maxHeartbeats 4000000 in
theorem rune_three_lo {B : Nat} {w : World} {a : Option Addr} {cap n : Nat} {xs : List Value} (hrow : w.ownsRow B 5 1 (.slice a n cap) n xs) (c : Nat) (h0 : 2048 ≤ c) (h1 : c < 55296) (hn : n ≤ 70368744177664) (hB : B ≤ w.heap.size) :
    Calls Try.prog 109 #[.slice a n cap, .int .i32 (c : Int)] w (RuneAt B w (.slice a n cap) n xs [224 + c / 4096, 128 + c / 64 % 64, 128 + c % 64]) := by
  obtain ⟨i0, hi, ha1, ha2, ha3⟩ := info_parts info5
  have HROW := Lib.hid hrow
  have e1 : [Value.int .u8 (224 + (c : Int) / 4096), .int .u8 (128 + (c : Int) / 64 % 64), .int .u8 (128 + (c : Int) % 64)] = encB [224 + c / 4096, 128 + c / 64 % 64, 128 + c % 64] := by simp [encB]
  have HE := Lib.hid e1
  have p0 : ¬ (c : Int) ≤ 2047 := by omega
  have p1 : (c : Int) < 55296 := by omega
  have p2 : (2048 : Int) ≤ (c : Int) := by omega
  clear hrow e1
  go_enter Try.func109, Try.ntmps109
  go_wp2_with (at_builtin; refine wpList_append_lies _ rfl (.tmp 34) (.tmp 48) 132 rfl B 5 i0 _ 1 1 Try.underlying132 hi ha1 ha2 ha3 rfl (by omega) _ n _ rfl (HROW.out.alloc _) ⟨w.heap.size, 0, none⟩ 3 3 [.int .u8 (224 + (c : Int) / 4096), .int .u8 (128 + (c : Int) / 64 % 64), .int .u8 (128 + (c : Int) % 64)] rfl rfl (World.news_of_block (cs := #[.int .u8 (224 + (c : Int) / 4096), .int .u8 (128 + (c : Int) / 64 % 64), .int .u8 (128 + (c : Int) % 64)]) (t := 5) (fr := (0, 0)) (Go.heap_alloc_new w _)) (by simp [Value.oneCell']) (by omega) (by unfold maxLen; omega) (by omega) (by simp; omega) _ rfl ?_)
  intro g c3 w3 hown hgrow _ _
  have HO := Lib.hid (And.intro hown hgrow)
  clear hown hgrow
  go_wp2
  go_ret
  exact ⟨g, c3, rfl, by rw [← HE.out]; exact HO.out.1, _, HO.out.2⟩

set_option maxHeartbeats 4000000 in
theorem rune_three_hi {B : Nat} {w : World} {a : Option Addr} {cap n : Nat} {xs : List Value} (hrow : w.ownsRow B 5 1 (.slice a n cap) n xs) (c : Nat) (h0 : 57343 < c) (h1 : c < 65536) (hn : n ≤ 70368744177664) (hB : B ≤ w.heap.size) :
    Calls Try.prog 109 #[.slice a n cap, .int .i32 (c : Int)] w (RuneAt B w (.slice a n cap) n xs [224 + c / 4096, 128 + c / 64 % 64, 128 + c % 64]) := by
  obtain ⟨i0, hi, ha1, ha2, ha3⟩ := info_parts info5
  have HROW := Lib.hid hrow
  have e1 : [Value.int .u8 (224 + (c : Int) / 4096), .int .u8 (128 + (c : Int) / 64 % 64), .int .u8 (128 + (c : Int) % 64)] = encB [224 + c / 4096, 128 + c / 64 % 64, 128 + c % 64] := by simp [encB]
  have HE := Lib.hid e1
  have p0 : ¬ (c : Int) ≤ 2047 := by omega
  have p1 : ¬ (c : Int) < 55296 := by omega
  have p2 : (57343 : Int) < (c : Int) := by omega
  have p3 : (c : Int) ≤ 65535 := by omega
  clear hrow e1
  go_enter Try.func109, Try.ntmps109
  go_wp2_with (at_builtin; refine wpList_append_lies _ rfl (.tmp 34) (.tmp 48) 132 rfl B 5 i0 _ 1 1 Try.underlying132 hi ha1 ha2 ha3 rfl (by omega) _ n _ rfl (HROW.out.alloc _) ⟨w.heap.size, 0, none⟩ 3 3 [.int .u8 (224 + (c : Int) / 4096), .int .u8 (128 + (c : Int) / 64 % 64), .int .u8 (128 + (c : Int) % 64)] rfl rfl (World.news_of_block (cs := #[.int .u8 (224 + (c : Int) / 4096), .int .u8 (128 + (c : Int) / 64 % 64), .int .u8 (128 + (c : Int) % 64)]) (t := 5) (fr := (0, 0)) (Go.heap_alloc_new w _)) (by simp [Value.oneCell']) (by omega) (by unfold maxLen; omega) (by omega) (by simp; omega) _ rfl ?_)
  intro g c3 w3 hown hgrow _ _
  have HO := Lib.hid (And.intro hown hgrow)
  clear hown hgrow
  go_wp2
  go_ret
  exact ⟨g, c3, rfl, by rw [← HE.out]; exact HO.out.1, _, HO.out.2⟩

set_option maxHeartbeats 4000000 in
theorem rune_four {B : Nat} {w : World} {a : Option Addr} {cap n : Nat} {xs : List Value} (hrow : w.ownsRow B 5 1 (.slice a n cap) n xs) (c : Nat) (h0 : 65536 ≤ c) (h1 : c ≤ 1114111) (hn : n ≤ 70368744177664) (hB : B ≤ w.heap.size) :
    Calls Try.prog 109 #[.slice a n cap, .int .i32 (c : Int)] w (RuneAt B w (.slice a n cap) n xs [240 + c / 262144, 128 + c / 4096 % 64, 128 + c / 64 % 64, 128 + c % 64]) := by
  obtain ⟨i0, hi, ha1, ha2, ha3⟩ := info_parts info5
  have HROW := Lib.hid hrow
  have e1 : [Value.int .u8 (240 + (c : Int) / 262144), .int .u8 (128 + (c : Int) / 4096 % 64), .int .u8 (128 + (c : Int) / 64 % 64), .int .u8 (128 + (c : Int) % 64)] = encB [240 + c / 262144, 128 + c / 4096 % 64, 128 + c / 64 % 64, 128 + c % 64] := by simp [encB]
  have HE := Lib.hid e1
  have p0 : ¬ (c : Int) ≤ 2047 := by omega
  have p1 : ¬ (c : Int) < 55296 := by omega
  have p2 : (57343 : Int) < (c : Int) := by omega
  have p3 : ¬ (c : Int) ≤ 65535 := by omega
  have p4 : (65535 : Int) < (c : Int) := by omega
  have p5 : (c : Int) ≤ 1114111 := by omega
  clear hrow e1
  go_enter Try.func109, Try.ntmps109
  go_wp2_with (at_builtin; refine wpList_append_lies _ rfl (.tmp 57) (.tmp 76) 132 rfl B 5 i0 _ 1 1 Try.underlying132 hi ha1 ha2 ha3 rfl (by omega) _ n _ rfl (HROW.out.alloc _) ⟨w.heap.size, 0, none⟩ 4 4 [.int .u8 (240 + (c : Int) / 262144), .int .u8 (128 + (c : Int) / 4096 % 64), .int .u8 (128 + (c : Int) / 64 % 64), .int .u8 (128 + (c : Int) % 64)] rfl rfl (World.news_of_block (cs := #[.int .u8 (240 + (c : Int) / 262144), .int .u8 (128 + (c : Int) / 4096 % 64), .int .u8 (128 + (c : Int) / 64 % 64), .int .u8 (128 + (c : Int) % 64)]) (t := 5) (fr := (0, 0)) (Go.heap_alloc_new w _)) (by simp [Value.oneCell']) (by omega) (by unfold maxLen; omega) (by omega) (by simp; omega) _ rfl ?_)
  intro g c3 w3 hown hgrow _ _
  have HO := Lib.hid (And.intro hown hgrow)
  clear hown hgrow
  go_wp2
  go_ret
  exact ⟨g, c3, rfl, by rw [← HE.out]; exact HO.out.1, _, HO.out.2⟩

set_option maxHeartbeats 4000000 in
theorem rune_one {B : Nat} {w : World} {a : Option Addr} {cap n : Nat} {xs : List Value} (hrow : w.ownsRow B 5 1 (.slice a n cap) n xs) (c : Nat) (h0 : c < 128) (hn : n ≤ 70368744177664) (hB : B ≤ w.heap.size) :
    Calls Try.prog 99 #[.slice a n cap, .int .i32 (c : Int)] w (RuneAt B w (.slice a n cap) n xs [c]) := by
  obtain ⟨i0, hi, ha1, ha2, ha3⟩ := info_parts info5
  have HROW := Lib.hid hrow
  have e1 : [Value.int .u8 ((c : Int))] = encB [c] := by simp [encB]
  have HE := Lib.hid e1
  have p0 : (c : Int) ≤ 127 := by omega
  have p1 : (0 : Int) ≤ (c : Int) := by omega
  clear hrow e1
  go_enter Try.func99, Try.ntmps99
  go_wp2_with (at_builtin; refine wpList_append_lies _ rfl (.tmp 8) (.tmp 11) 132 rfl B 5 i0 _ 1 1 Try.underlying132 hi ha1 ha2 ha3 rfl (by omega) _ n _ rfl (HROW.out.alloc _) ⟨w.heap.size, 0, none⟩ 1 1 [.int .u8 ((c : Int))] rfl rfl (World.news_of_block (cs := #[.int .u8 ((c : Int))]) (t := 5) (fr := (0, 0)) (Go.heap_alloc_new w _)) (by simp [Value.oneCell']) (by omega) (by unfold maxLen; omega) (by omega) (by simp; omega) _ rfl ?_)
  intro g c3 w3 hown hgrow _ _
  have HO := Lib.hid (And.intro hown hgrow)
  clear hown hgrow
  go_wp2
  go_ret
  exact ⟨g, c3, rfl, by rw [← HE.out]; exact HO.out.1, _, HO.out.2⟩

/-- A code point that is one. -/
def Scalar (c : Nat) : Prop := c < 55296 ∨ (57343 < c ∧ c ≤ 1114111)
theorem rune_app {B : Nat} {w : World} {a : Option Addr} {cap n : Nat} {xs : List Value} (hrow : w.ownsRow B 5 1 (.slice a n cap) n xs) (c : Nat) (hc : Scalar c) (hn : n ≤ 70368744177664) (hB : B ≤ w.heap.size) :
    Calls Try.prog 99 #[.slice a n cap, .int .i32 (c : Int)] w (RuneAt B w (.slice a n cap) n xs (runeB c)) := by
  by_cases h1 : c < 128
  · have e : runeB c = [c] := by unfold runeB; rw [if_pos h1]
    rw [e]
    exact rune_one hrow c h1 hn hB
  · have p1 : ¬ (c : Int) ≤ 127 := by omega
    have H : Calls Try.prog 109 #[.slice a n cap, .int .i32 (c : Int)] w (RuneAt B w (.slice a n cap) n xs (runeB c)) := by
      by_cases h2 : c < 2048
      · have e : runeB c = [192 + c / 64, 128 + c % 64] := by unfold runeB; rw [if_neg h1, if_pos h2]
        rw [e]
        exact rune_two hrow c (by omega) h2 hn hB
      · by_cases h3 : c < 65536
        · have e : runeB c = [224 + c / 4096, 128 + c / 64 % 64, 128 + c % 64] := by unfold runeB; rw [if_neg h1, if_neg h2, if_pos h3]
          rw [e]
          rcases hc with h4 | h4
          · exact rune_three_lo hrow c (by omega) h4 hn hB
          · exact rune_three_hi hrow c h4.1 h3 hn hB
        · have e : runeB c = [240 + c / 262144, 128 + c / 4096 % 64, 128 + c / 64 % 64, 128 + c % 64] := by unfold runeB; rw [if_neg h1, if_neg h2, if_neg h3]
          rw [e]
          exact rune_four hrow c (by omega) (by rcases hc with h | h <;> omega) hn hB
    have HH := Lib.hid H
    have q1 : (c : Int) ≤ 1114111 := by rcases hc with h | h <;> omega
    clear H hc
    obtain ⟨bs, hbs⟩ : ∃ bs, bs = runeB c := ⟨_, rfl⟩
    rw [← hbs] at HH ⊢
    clear hbs
    go_enter Try.func99, Try.ntmps99
    go_wp2_with fail
    refine HH.out.mono ?_
    rintro e w2 ⟨g, c2, rfl, h1, o, h2⟩
    have HO := Lib.hid (And.intro h1 h2)
    clear h1 h2
    go_wp2
    go_ret
    exact ⟨g, c2, rfl, HO.out.1, o, HO.out.2⟩
end Go.Proofs.Ytelhnaphkbpakaa
