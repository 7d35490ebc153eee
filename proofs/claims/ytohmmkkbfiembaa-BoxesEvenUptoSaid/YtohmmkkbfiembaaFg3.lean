/- Share, the program's and the document's, of any five rows: they say the same. -/
import Derived.Test.YtohmmkkbfiembaaFg2
import Derived.Test.YtohmmkkbfiembaaFa1
import Derived.Test.YtohmmkkbfiembaaFw5
namespace Go.Proofs.Ytohmmkkbfiembaa
open Go.RowKit Go.Shelf
attribute [local go_sem] Oper.semAt_some
set_option linter.unusedVariables false
set_option maxRecDepth 100000

theorem Onl.slf {P : Nat → Prop} {w w' : World} (h : Onl P w w') {b n : Nat} {f : Nat → Nat} (hf : SlF w (some ⟨b, 0, none⟩) n f) (hb : ¬ P b) : SlF w' (some ⟨b, 0, none⟩) n f := ⟨fun i hi => by
  obtain ⟨h1, b', off', e, hc⟩ := hf.at_ i hi
  cases e
  exact ⟨h1, b, 0, rfl, h.cell hc hb⟩⟩
theorem Onl.slfO {P : Nat → Prop} {w w' : World} (h : Onl P w w') {a : Option Addr} {n : Nat} {f : Nat → Nat} (hf : SlF w a n f) (hb : 0 < n → ∀ x, a = some x → ¬ P x.block) : SlF w' a n f := ⟨fun i hi => by
  obtain ⟨h1, b', off', e, hc⟩ := hf.at_ i hi
  exact ⟨h1, b', off', e, h.cell hc (hb (by omega) _ e)⟩⟩
theorem Onl.mks {P : Nat → Prop} {w w' : World} (h : Onl P w w') {g n : Nat} {f : Nat → Nat} (hf : Mk w g n f) (hb : ¬ P g) : Mk w' g n f := hf.keep (fun o ho => h.block g o hb ho)
theorem fl_row {w : World} {base b n : Nat} {f : Nat → Nat} (h : Fl w b n f) (hb : base ≤ b) (hn : n ≤ 1048578) : w.ownsRow base 23 1 (.slice (some ⟨b, 0, none⟩) n n) n (flist n f) := by
  refine ⟨by simp [flist], .inr ⟨b, n, vc n f, rfl, hb, h, Nat.le_refl _, by have : maxLen = 9223372036854775807 := rfl; omega, by simp [vc], ?_⟩⟩
  unfold vc flist
  rw [Array.toList_map, Array.toList_range, Nat.mul_one, List.take_of_length_le (by simp)]
theorem row_slf {w : World} {base n c : Nat} {a : Option Addr} {f : Nat → Nat} (h : w.ownsRow base 23 1 (.slice a n c) n (flist n f)) (h64 : ∀ i, i < n → f i < 18446744073709551616) : SlF w a n f := ⟨fun i hi => by
  have hh := h.2
  rcases hh with ⟨h', rfl⟩ | ⟨g, cap, cur, h', _, hg, _⟩
  · omega
  · injection h' with e1 e2 e3
    subst e1
    have h3 := h.cellAt i (by omega)
    have h5 := cell_of_row w g i cur 23 (0, 0) hg
    have h4 : (flist n f)[i]? = some (fl (f i)) := by unfold flist; simp [hi]
    rw [h4] at h3
    exact ⟨h64 i hi, g, 0, rfl, by rw [Nat.zero_add]; exact cell_blk hg i (h5.symm.trans h3)⟩⟩
/-- What the program's Share leaves: a row of its own. -/
def ShP (W : World) (N : Nat) (sz : Nat → Nat) (er : Int) (e : Ending) (w' : World) : Prop := ∃ a c, e = .returned (.tuple #[.slice a N c, .int .i64 er]) ∧ w'.ownsRow W.heap.size 23 1 (.slice a N c) N (flist N sz) ∧ Below W.heap.size W w'
/-- What the document's leaves. -/
def RfP (W : World) (N : Nat) (sz : Nat → Nat) (er : Int) (e : Ending) (w' : World) : Prop := ∃ a c, e = .returned (.tuple #[.slice a N c, .int .i64 er]) ∧ SlF w' a N sz ∧ (0 < N → ∀ x, a = some x → W.heap.size ≤ x.block ∧ x.block < w'.heap.size) ∧ Below W.heap.size W w'
def Five (W : World) (a1 a2 a3 a4 a5 : Option Addr) (n1 n2 n3 n4 n5 : Nat) (f1 f2 f3 f4 f5 : Nat → Nat) : Prop := SlF W a1 n1 f1 ∧ SlF W a2 n2 f2 ∧ SlF W a3 n3 f3 ∧ SlF W a4 n4 f4 ∧ SlF W a5 n5 f5
def Caps (n1 n2 n3 n4 n5 c1 c2 c3 c4 c5 : Nat) : Prop := (n1 ≤ c1 ∧ c1 ≤ 9223372036854775807) ∧ (n2 ≤ c2 ∧ c2 ≤ 9223372036854775807) ∧ (n3 ≤ c3 ∧ c3 ≤ 9223372036854775807) ∧ (n4 ≤ c4 ∧ c4 ≤ 9223372036854775807) ∧ (n5 ≤ c5 ∧ c5 ≤ 9223372036854775807)
theorem shares_both (room : Nat) (hr : room < 18446744073709551616) (n1 n2 n3 n4 n5 : Nat) (f1 f2 f3 f4 f5 : Nat → Nat) (hn : n1 ≤ 1048578 ∧ n2 ≤ 1048578 ∧ n3 ≤ 1048578 ∧ n4 ≤ 1048578 ∧ n5 ≤ 1048578)
    (h1 : ∀ i, i < n1 → f1 i < 18446744073709551616) (h2 : ∀ i, i < n2 → f2 i < 18446744073709551616) (h3 : ∀ i, i < n3 → f3 i < 18446744073709551616) (h4 : ∀ i, i < n4 → f4 i < 18446744073709551616) (h5 : ∀ i, i < n5 → f5 i < 18446744073709551616) :
    ∃ N sz er, N ≤ 1048578 ∧ (∀ i, i < N → sz i < 18446744073709551616) ∧
      (∀ W a1 a2 a3 a4 a5 c1 c2 c3 c4 c5, Five W a1 a2 a3 a4 a5 n1 n2 n3 n4 n5 f1 f2 f3 f4 f5 → Caps n1 n2 n3 n4 n5 c1 c2 c3 c4 c5 →
        Calls Try.prog 9 #[fl room, .slice a1 n1 c1, .slice a2 n2 c2, .slice a3 n3 c3, .slice a4 n4 c4, .slice a5 n5 c5] W (ShP W N sz er)) ∧
      (∀ W a1 a2 a3 a4 a5 c1 c2 c3 c4 c5, Five W a1 a2 a3 a4 a5 n1 n2 n3 n4 n5 f1 f2 f3 f4 f5 → Caps n1 n2 n3 n4 n5 c1 c2 c3 c4 c5 →
        Calls Try.prog 10 #[fl room, .slice a1 n1 c1, .slice a2 n2 c2, .slice a3 n3 c3, .slice a4 n4 c4, .slice a5 n5 c5] W (RfP W N sz er)) := by
  by_cases he : n2 = n1 ∧ n3 = n1 ∧ n4 = n1 ∧ n5 = n1
  · obtain ⟨rfl, rfl, rfl, rfl⟩ := he
    have o : ToldOk ⟨n5, room, f1, f2, f3, f4, f5⟩ := ⟨hn.1, hr, h1, h2, h3, h4, h5⟩
    refine ⟨n5, Told.sizes ⟨n5, room, f1, f2, f3, f4, f5⟩, 0, hn.1, fun i hi => (o.sizes_bd hi).num.1, fun W a1 a2 a3 a4 a5 c1 c2 c3 c4 c5 hf hc => ?_, fun W a1 a2 a3 a4 a5 c1 c2 c3 c4 c5 hf hc => ?_⟩
    · refine (share_calls W o hf.1 hf.2.1 hf.2.2.1 hf.2.2.2.1 hf.2.2.2.2 hc.1 hc.2.1 hc.2.2.1 hc.2.2.2.1 hc.2.2.2.2).mono ?_
      rintro e w' ⟨b, rfl, hb, hfl, hbl⟩
      exact ⟨_, _, rfl, fl_row hfl hb hn.1, hbl⟩
    · refine (share18_calls W o hf.1 hf.2.1 hf.2.2.1 hf.2.2.2.1 hf.2.2.2.2 hc.1 hc.2.1 hc.2.2.1 hc.2.2.2.1 hc.2.2.2.2).mono ?_
      rintro e w' ⟨a, b, c, rfl, ha, hb, hfl, hbl⟩
      refine ⟨a, c, rfl, ⟨fun i hi => ?_⟩, fun h0 x hx => ?_, hbl⟩
      · exact ⟨(o.sizes_bd hi).num.1, b, 0, ha (Nat.lt_of_le_of_lt (Nat.zero_le _) hi), by rw [Nat.zero_add]; exact hfl.cell hi⟩
      · rw [ha h0] at hx
        cases hx
        exact ⟨hb, hfl.lt h0⟩
  · refine ⟨0, fun _ => 0, 1, by omega, fun i hi => by omega, fun W a1 a2 a3 a4 a5 c1 c2 c3 c4 c5 hf hc => ?_, fun W a1 a2 a3 a4 a5 c1 c2 c3 c4 c5 hf hc => ?_⟩
    · refine (shareX_calls W room he ⟨by omega, by omega, by omega, by omega, by omega⟩).mono ?_
      rintro e w' ⟨rfl, hbl⟩
      exact ⟨none, 0, rfl, World.ownsRow_nil _ _ _ _, hbl⟩
    · refine (shareX18_calls W room he ⟨by omega, by omega, by omega, by omega, by omega⟩).mono ?_
      rintro e w' ⟨rfl, rfl⟩
      exact ⟨none, 0, rfl, ⟨fun i hi => by omega⟩, fun h => absurd h (Nat.lt_irrefl 0), Below.refl _ _⟩
theorem fg3_end : True := trivial
end Go.Proofs.Ytohmmkkbfiembaa
