/- ArenaPlays walked: both arenas answer alike, at every step of every script. -/
import Derived.Test.YtlmbpbijhhnhpaaAllW
import Derived.Test.YtlmbpbijhhnhpaaStp
import Derived.Test.YtlmbpbijhhnhpaaRfN
import Derived.Test.YtlmbpbijhhnhpaaAw5
namespace Go.Proofs.Ytlmbpbijhhnhpaa
open Go.RowKit
set_option linter.unusedVariables false
set_option maxRecDepth 100000

theorem all_calls {B : Nat} {w : World} {pb ab rb : Nat} {T : TA Int} {told : List (Nat × Nat)} {tv : Value} (h : PairAt B w pb ab rb T told tv) (early : Int) (he1 : -9223372036854775808 ≤ early) (he2 : early ≤ 9223372036854775807) :
    Calls Try.prog 37 #[.pointer (some ⟨pb, 0, none⟩), .int .i64 early] w fun e w' => e = .returned (.bool true) ∧ Below w.heap.size w w' := callsIn_wide.1 (pair_all h early he1 he2)

theorem plays_bad (S G : Int) (v : Value) (w : World) (h : S < 1 ∨ 2147483647 < S ∨ G < 1 ∨ 4294967295 < G) :
    Calls Try.prog 5 #[.int .i64 S, .int .i64 G, v] w fun e w' => e = .returned (.bool true) ∧ Below w.heap.size w w' := by
  have HB := Lib.hid h
  clear h
  go_enter Try.func5, Try.ntmps5
  go_wp2_with fail
  refine (awake_true _).mono ?_
  rintro e w1 ⟨rfl, b1⟩
  have B1 := Lib.hid b1
  clear b1
  go_wp2_with fail
  refine (arI_new_bad S G w1 HB.out).mono ?_
  rintro e w2 ⟨rfl, rfl⟩
  go_wp2_with fail
  refine (rf_new_bad S G w1 HB.out).mono ?_
  rintro e w3 ⟨rfl, rfl⟩
  go_wp2_with (go_at_call 34; refine (code_false 1 _).mono ?_; rintro e w4 ⟨rfl, rfl⟩)
  go_ret
  exact ⟨rfl, B1.out⟩

set_option maxHeartbeats 4000000 in
theorem plays_good (S G : Nat) (h1 : 1 ≤ S) (h2 : S ≤ 2147483647) (h3 : 1 ≤ G) (h4 : G ≤ 4294967295) (w : World) (a : Option Addr) (len cap : Nat) (ops : List OpV) (hlen : ops.length = len) (hl : len ≤ 1048576)
    (hc : ∀ i o, ops[i]? = some o → (o.Ok ∧ -9223372036854775808 ≤ o.e ∧ o.e ≤ 9223372036854775807) ∧ ∃ b off, a = some ⟨b, off, none⟩ ∧ b < w.heap.size ∧ ∀ j v, o.cells[j]? = some v → w.cell? ⟨b, off + (i * 7 + j), none⟩ = some v) :
    Calls Try.prog 5 #[.int .i64 (S : Int), .int .i64 (G : Int), .slice a len cap] w fun e w' => e = .returned (.bool true) ∧ Below w.heap.size w w' := by
  have HLEN := Lib.hid hlen
  have HC := Lib.hid hc
  clear hlen hc
  go_enter Try.func5, Try.ntmps5
  go_wp2_with fail
  refine (awake_true _).mono ?_
  rintro e w1 ⟨rfl, b1⟩
  have B1 := Lib.hid b1
  clear b1
  go_wp2_with fail
  refine (arITop_new S G w.heap.size w1 B1.out.size h1 h2 h3 h4).mono ?_
  rintro e w2 ⟨rfl, a2, b2⟩
  have A2 := Lib.hid a2
  have B2 := Lib.hid (B1.out.trans (b2.mono B1.out.size))
  obtain ⟨ab, hab⟩ : ∃ ab, ab = w1.heap.size := ⟨_, rfl⟩
  rw [← hab] at A2 ⊢
  clear a2 b2 B1 hab
  go_wp2_with fail
  refine (rf_new S G w.heap.size w2 B2.out.size h1 h2 h3 h4).mono ?_
  rintro e w3 ⟨rfl, r3, b3⟩
  have A3 := Lib.hid (A2.out.below b3)
  have R3 := Lib.hid r3
  have B3 := Lib.hid (B2.out.trans (b3.mono B2.out.size))
  obtain ⟨rb, hrb⟩ : ∃ rb, rb = w2.heap.size := ⟨_, rfl⟩
  rw [← hrb] at R3 ⊢
  clear r3 b3 A2 B2 hrb
  go_upto_block 0 with (go_at_call 34; refine (code_true 1 _).mono ?_; rintro e w4 ⟨rfl, rfl⟩)
  have hP : PairAt w.heap.size (w3.alloc (.cells #[.pointer (some ⟨ab, 0, none⟩), .pointer (some ⟨rb, 0, none⟩), .slice none 0 0] 70)) w3.heap.size ab rb (TA.new S G) [] (.slice none 0 0) :=
    ⟨Go.heap_alloc_new w3 _, B3.out.size, A3.out.below (by repeat (first | exact Below.refl _ _ | assumption | refine Below.drew ?_ | refine below_drewN ?_ _ | refine Below.alloc ?_ (by simp <;> omega) _ | refine Below.setCell ?_ (by simp <;> omega) _ | (apply bl_trans; assumption; (simp <;> omega)))), ⟨_, _, R3.out.below (by repeat (first | exact Below.refl _ _ | assumption | refine Below.drew ?_ | refine below_drewN ?_ _ | refine Below.alloc ?_ (by simp <;> omega) _ | refine Below.setCell ?_ (by simp <;> omega) _ | (apply bl_trans; assumption; (simp <;> omega))))⟩, World.ownsRow_nil _ _ _ _, by simp⟩
  have hB : Below w.heap.size w (w3.alloc (.cells #[.pointer (some ⟨ab, 0, none⟩), .pointer (some ⟨rb, 0, none⟩), .slice none 0 0] 70)) := B3.out.alloc B3.out.size _
  generalize (w3.alloc (.cells #[.pointer (some ⟨ab, 0, none⟩), .pointer (some ⟨rb, 0, none⟩), .slice none 0 0] 70)) = W at hP hB ⊢
  generalize w3.heap.size = pb at hP ⊢
  have HP := Lib.hid hP
  have HB := Lib.hid hB
  clear hP hB A3 R3 B3
  refine wp_block ?_
  go_loopw [13] (fun v wr => ∃ i T told tv, v = .int .i64 (i : Nat) ∧ i ≤ len ∧ told.length ≤ i ∧ PairAt w.heap.size wr pb ab rb T told tv ∧ Below w.heap.size w wr) (fun v _ => len - (intOf v).toNat)
  case atStart => exact ⟨0, _, _, _, rfl, Nat.zero_le _, Nat.le_refl _, HP.out, HB.out⟩
  case round =>
    obtain ⟨i, T, told, tv, rfl, hi, ht, hp, hb⟩ := hrel
    have HPi := Lib.hid hp
    have HBi := Lib.hid hb
    clear hp hb
    by_cases hlt : i < len
    · obtain ⟨o, ho⟩ : ∃ o, ops[i]? = some o := ⟨_, List.getElem?_eq_getElem (by rw [HLEN.out]; exact hlt)⟩
      obtain ⟨⟨hok, he1, he2⟩, b, off, rfl, hbl, hcells⟩ := HC.out i o ho
      have c0 := (HBi.out.cell (p := ⟨b, off + (i * 7 + 0), none⟩) hbl).trans (hcells 0 _ rfl)
      have c1 := (HBi.out.cell (p := ⟨b, off + (i * 7 + 1), none⟩) hbl).trans (hcells 1 _ rfl)
      have c2 := (HBi.out.cell (p := ⟨b, off + (i * 7 + 2), none⟩) hbl).trans (hcells 2 _ rfl)
      have c3 := (HBi.out.cell (p := ⟨b, off + (i * 7 + 3), none⟩) hbl).trans (hcells 3 _ rfl)
      have c4 := (HBi.out.cell (p := ⟨b, off + (i * 7 + 4), none⟩) hbl).trans (hcells 4 _ rfl)
      have c5 := (HBi.out.cell (p := ⟨b, off + (i * 7 + 5), none⟩) hbl).trans (hcells 5 _ rfl)
      have c6 := (HBi.out.cell (p := ⟨b, off + (i * 7 + 6), none⟩) hbl).trans (hcells 6 _ rfl)
      have d0 := hcells 0 _ rfl
      have d3 := hcells 3 _ rfl
      simp only [← Nat.add_assoc, Nat.add_zero] at c0 c1 c2 c3 c4 c5 c6 d0 d3
      have D := Lib.hid (And.intro d0 d3)
      have OK := Lib.hid hok
      have p1 : (i : Int) < (len : Int) := by omega
      clear ho hcells hok d0 d3
      go_wp2_with fail
      refine (pair_step HPi.out o OK.out (by omega) HBi.out.size).mono ?_
      rintro e w5 ⟨rfl, h5⟩
      obtain ⟨T5, told5, tv5, hp5, ht5⟩ := h5.ok
      have HP5 := Lib.hid hp5
      have HB5 := Lib.hid (HBi.out.trans h5.bel)
      clear h5 hp5 c0 c1 c2 c3 c4 c5 c6
      go_wp2_with fail
      refine (pair_counts HP5.out).mono ?_
      rintro e w6 ⟨rfl, n6, rfl⟩
      have c0 := (HB5.out.cell (p := ⟨b, off + i * 7, none⟩) hbl).trans D.out.1
      have c3 := (HB5.out.cell (p := ⟨b, off + i * 7 + 3, none⟩) hbl).trans D.out.2
      have HP6 : Hid (PairAt w.heap.size (w5.drewN n6) pb ab rb T5 told5 tv5) := Lib.hid (HP5.out.below (by repeat (first | exact Below.refl _ _ | assumption | refine Below.drew ?_ | refine below_drewN ?_ _ | refine Below.alloc ?_ (by simp <;> omega) _ | refine Below.setCell ?_ (by simp <;> omega) _ | (apply bl_trans; assumption; (simp <;> omega)))))
      have HB6 : Hid (Below w.heap.size w (w5.drewN n6)) := Lib.hid (HB5.out.trans (by repeat (first | exact Below.refl _ _ | assumption | refine Below.drew ?_ | refine below_drewN ?_ _ | refine Below.alloc ?_ (by simp <;> omega) _ | refine Below.setCell ?_ (by simp <;> omega) _ | (apply bl_trans; assumption; (simp <;> omega)))))
      change w5.cell? _ = _ at c0
      have c0' : (w5.drewN n6).cell? ⟨b, off + i * 7, none⟩ = some (.int .i64 o.k) := c0
      have c3' : (w5.drewN n6).cell? ⟨b, off + i * 7 + 3, none⟩ = some (.int .i64 o.e) := c3
      generalize w5.drewN n6 = W6 at HP6 HB6 c0' c3' ⊢
      clear c0 c3 HP5 HB5 HPi HBi
      by_cases h5 : o.k = 5
      · have q5 : (o.k == 5) = true := by simp [h5]
        clear h5
        go_wp2_with fail
        refine (all_calls HP6.out o.e he1 he2).mono ?_
        rintro e w7 ⟨rfl, b7⟩
        have HP7 := Lib.hid (HP6.out.below b7)
        have HB7 := Lib.hid (HB6.out.trans (b7.mono HB6.out.size))
        clear b7 c0' c3'
        go_wp2
        go_roundw
        case rel => exact ⟨i + 1, T5, told5, tv5, by go_num, hlt, by omega, HP7.out, HB7.out⟩
        case measure => simp [intOf]; omega
      · have q5 : (o.k == 5) = false := by simp [h5]
        clear h5
        go_wp2
        go_roundw
        case rel => exact ⟨i + 1, T5, told5, tv5, by go_num, hlt, by omega, HP6.out, HB6.out⟩
        case measure => simp [intOf]; omega
    · go_wp2_with fail
      refine (all_calls HPi.out 0 (by omega) (by omega)).mono ?_
      rintro e w7 ⟨rfl, b7⟩
      have HB7 := Lib.hid (HBi.out.trans (b7.mono HBi.out.size))
      clear b7
      go_wp2
      go_ret
      exact ⟨rfl, HB7.out⟩

theorem plays_all (S G : Int) (w : World) (a : Option Addr) (len cap : Nat) (ops : List OpV) (hlen : ops.length = len) (hl : len ≤ 1048576)
    (hc : ∀ i o, ops[i]? = some o → (o.Ok ∧ -9223372036854775808 ≤ o.e ∧ o.e ≤ 9223372036854775807) ∧ ∃ b off, a = some ⟨b, off, none⟩ ∧ b < w.heap.size ∧ ∀ j v, o.cells[j]? = some v → w.cell? ⟨b, off + (i * 7 + j), none⟩ = some v) :
    Calls Try.prog 5 #[.int .i64 S, .int .i64 G, .slice a len cap] w fun e w' => e = .returned (.bool true) ∧ Below w.heap.size w w' := by
  by_cases h : S < 1 ∨ 2147483647 < S ∨ G < 1 ∨ 4294967295 < G
  · exact plays_bad S G _ w h
  · obtain ⟨s, rfl⟩ : ∃ s : Nat, S = (s : Int) := ⟨S.toNat, by omega⟩
    obtain ⟨g, rfl⟩ : ∃ g : Nat, G = (g : Int) := ⟨G.toNat, by omega⟩
    exact plays_good s g (by omega) (by omega) (by omega) (by omega) w a len cap ops hlen hl hc
end Go.Proofs.Ytlmbpbijhhnhpaa
