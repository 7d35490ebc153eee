/- The cells that a slice lends to an append. No program. slices.Grow of nothing; slices.Concat, of units. slices.Grow of nothing; slices.Concat, of attributes. data.Replace. A node lent with room behind its lists; where node's loop stands. No program. -/
import Derived.Lib.AppendZeros
import Derived.Test.YtelhnaphkbpakaaMc16
namespace Go.Proofs.Ytelhnaphkbpakaa
open Go.RowKit
set_option linter.unusedVariables false

/-- n elements of a slice as cells, wherever they lie. -/
structure RowSrc (w : World) (size : Nat) (a : Option Addr) (n : Nat) (xs : List Value) : Prop where
  len : xs.length = n * size
  src : n = 0 ∨ ∃ b off, a = some ⟨b, off, none⟩ ∧ b < w.heap.size ∧ ∀ (j : Nat) (u : Value), xs[j]? = some u → w.cell? ⟨b, off + j, none⟩ = some u
  one : ∀ u ∈ xs, u.oneCell' = true
theorem RowSrc.below {w w' : World} {size : Nat} {a : Option Addr} {n : Nat} {xs : List Value} (h : RowSrc w size a n xs) (hb : Below w.heap.size w w') : RowSrc w' size a n xs :=
  ⟨h.len, h.src.imp id (fun ⟨b, off, e1, e2, e3⟩ => ⟨b, off, e1, Nat.lt_of_lt_of_le e2 hb.size, fun j u hu => (hb.cell (p := ⟨b, off + j, none⟩) e2).trans (e3 j u hu)⟩), h.one⟩
theorem RowSrc.app {w : World} {size : Nat} {a : Option Addr} {n : Nat} {xs : List Value} (h : RowSrc w size a n xs) : n = 0 ∨ ∃ ad, a = some ad ∧ ∀ (j : Nat) (u : Value), xs[j]? = some u → w.cell? (ad.add j) = some u :=
  h.src.imp id (fun ⟨b, off, e1, _, e3⟩ => ⟨_, e1, fun j u hu => by rw [show (⟨b, off, none⟩ : Addr).add j = ⟨b, off + j, none⟩ by unfold Addr.add; split <;> simp_all]; exact e3 j u hu⟩)
theorem RowSrc.units {w : World} {a : Option Addr} {us : List Nat} (h : Sl16 w a us) : RowSrc w 1 a us.length (enc16 us) := by
  refine ⟨by rw [enc16_len]; simp, ?_, enc16_one⟩
  rcases Nat.eq_zero_or_pos us.length with h0 | h0
  · exact .inl h0
  · obtain ⟨_, b, off, e1, e2, _⟩ := h.at_ 0 us[0] (List.getElem?_eq_getElem h0)
    refine .inr ⟨b, off, e1, e2, fun j u hu => ?_⟩
    have hj : j < us.length := by have := (List.getElem?_eq_some_iff.1 hu).1; rwa [enc16_len] at this
    obtain ⟨_, b', off', f1, _, f3⟩ := h.at_ j us[j] (List.getElem?_eq_getElem hj)
    rw [e1] at f1; cases f1
    rw [enc16_at (List.getElem?_eq_getElem hj)] at hu
    rw [← hu]; exact f3
theorem RowSrc.attrs {w : World} {a : Option Addr} {L : List LA} (h : SlA w a L) : RowSrc w 2 a L.length (cellsA L) := by
  refine ⟨cellsA_len L, ?_, cellsA_one L⟩
  rcases Nat.eq_zero_or_pos L.length with h0 | h0
  · exact .inl h0
  · have hl := cellsA_len L
    obtain ⟨b, off, e1, e2, _⟩ := h.at_ 0 _ (List.getElem?_eq_getElem (by omega : 0 < (cellsA L).length))
    refine .inr ⟨b, off, e1, e2, fun j u hu => ?_⟩
    obtain ⟨b', off', f1, _, f3⟩ := h.at_ j u hu
    rw [e1] at f1; cases f1
    exact f3
/-- A slice among those that are to be joined. -/
structure PG where
  a : Option Addr
  n : Nat
  c : Nat
  xs : List Value
def pgN (G : List PG) : Nat := (G.map PG.n).sum
def pgX (G : List PG) : List Value := G.flatMap PG.xs
theorem pgN_take {G : List PG} {i : Nat} {g : PG} (h : G[i]? = some g) : pgN (G.take (i + 1)) = pgN (G.take i) + g.n := by
  unfold pgN; rw [List.take_add_one, h]; simp
theorem pgX_take {G : List PG} {i : Nat} {g : PG} (h : G[i]? = some g) : pgX (G.take (i + 1)) = pgX (G.take i) ++ g.xs := by
  unfold pgX; rw [List.take_add_one, h]; simp
theorem pgN_le (G : List PG) (i : Nat) : pgN (G.take i) ≤ pgN G := by
  have h : pgN G = pgN (G.take i) + pgN (G.drop i) := by
    unfold pgN
    rw [← List.sum_append, ← List.map_append, List.take_append_drop]
  omega
end Go.Proofs.Ytelhnaphkbpakaa

namespace Go.Proofs.Ytelhnaphkbpakaa
open Go.RowKit
set_option linter.unusedVariables false
set_option maxRecDepth 100000

set_option maxHeartbeats 1000000 in
theorem grow_calls (w : World) (n : Nat) (hn : n ≤ 1099511627776) :
    Calls Try.prog 93 #[.slice none 0 0, .int .i64 (n : Int)] w fun e w' => ∃ a c, e = .returned (.slice a 0 c) ∧ w'.ownsRow w.heap.size 45 1 (.slice a 0 c) 0 [] ∧ Below w.heap.size w w' := by
  obtain ⟨i45, hi45, ia1, ia2, ia3⟩ := info_parts info79
  have q0 : IntKind.i64.wrap (0 : Int) = 0 := rfl
  have q1 : IntKind.i64.wrap (n : Int) = n := IntWalk.i64_in _ (by omega)
  have p0 : ¬ (n : Int) < 0 := by omega
  by_cases hz : n = 0
  · subst hz
    go_enter Try.func93, Try.ntmps93
    go_wp2
    go_ret
    exact ⟨none, 0, rfl, World.ownsRow_nil _ _ _ _, Below.refl _ w⟩
  · have p1 : (0 : Int) < (n : Int) := by omega
    have HR := Lib.hid (Lib.run_append_nil_zeros (P := Try.prog) w 24 3 24 45 i45 (.int .u16 0) .i64 .i64 Try.underlying24 Try.underlying3 hi45 ia1 n (by omega) (by omega) (by omega) (by rw [ia3]; omega))
    have hge := grownCap_ge w n 0 45
    have hle := grownCap_le_maxLen w n 0 45 (by unfold maxLen; omega)
    obtain ⟨c, hc⟩ : ∃ c, c = grownCap w n 0 45 := ⟨_, rfl⟩
    rw [← hc] at HR hge hle
    clear hc
    go_enter Try.func93, Try.ntmps93
    go_wp2_with (at_builtin; refine Lib.wpList_append_run _ rfl (.tmp 20) (.tmp 21) 24 3 rfl _ _ rfl rfl _ _ HR.out ?_)
    go_wp2
    all_goals go_ret
    all_goals exact ⟨some ⟨w.heap.size, 0, none⟩, c, rfl, World.ownsRow_made w.drew _ c (Nat.le_refl _) hle (by rw [Array.size_append, size_zeroCells, size_zeroCells]; simp; omega), ((Below.refl _ w).drew).alloc (Nat.le_refl _) _⟩

set_option maxHeartbeats 4000000 in
theorem concat_calls (w : World) (b : Nat) (G : List PG) (hb : b < w.heap.size) (hc : ∀ (i : Nat) (g : PG), G[i]? = some g → w.cell? ⟨b, i, none⟩ = some (.slice g.a g.n g.c) ∧ RowSrc w 1 g.a g.n g.xs) (hT : pgN G ≤ 1099511627776) (hG : G.length ≤ 1099511627776) :
    Calls Try.prog 69 #[.slice (some ⟨b, 0, none⟩) G.length G.length] w fun e w' => ∃ a c, e = .returned (.slice a (pgN G) c) ∧ w'.ownsRow w.heap.size 45 1 (.slice a (pgN G) c) (pgN G) (pgX G) ∧ Below w.heap.size w w' := by
  obtain ⟨i45, hi45, ia1, ia2, ia3⟩ := info_parts info79
  obtain ⟨n, en⟩ : ∃ n, n = G.length := ⟨_, rfl⟩
  obtain ⟨T, eT⟩ : ∃ T, T = pgN G := ⟨_, rfl⟩
  rw [← en, ← eT]
  rw [← en] at hG
  rw [← eT] at hT
  have HN := Lib.hid en
  have HT := Lib.hid eT
  have HC := Lib.hid hc
  have hle : ∀ i, pgN (G.take i) ≤ T := fun i => by rw [HT.out]; exact pgN_le G i
  have HLE := Lib.hid hle
  clear en eT hc hle
  go_enter Try.func69, Try.ntmps69
  go_wp2_with fail
  go_loopw [3, 11] (fun v3 v11 wr => ∃ i : Nat, v11 = .int .i64 (i : Nat) ∧ i ≤ n ∧ v3 = .int .i64 ((pgN (G.take i) : Nat) : Int) ∧ wr = w) (fun _ v _ => n - (intOf v).toNat)
  case atStart => exact ⟨0, rfl, Nat.zero_le _, rfl, rfl⟩
  case round =>
    obtain ⟨i, rfl, hi, rfl, hw⟩ := hrel
    obtain rfl := hw.symm
    clear hw
    have hS := HLE.out i
    by_cases hlt : i < n
    · obtain ⟨g, hg⟩ : ∃ g, G[i]? = some g := ⟨_, List.getElem?_eq_getElem (by rw [← HN.out]; exact hlt)⟩
      have hc := (HC.out i g hg).1
      have hS2 := HLE.out (i + 1)
      rw [pgN_take hg] at hS2
      have HG := Lib.hid hg
      obtain ⟨S, hSS⟩ : ∃ S, S = pgN (G.take i) := ⟨_, rfl⟩
      rw [← hSS] at hS hS2 ⊢
      have HSS := Lib.hid hSS
      clear hg hSS
      have p0 : (0 : Int) ≤ (i : Int) := by omega
      have p1 : (i : Int) < (n : Int) := by omega
      have q1 : IntKind.i64.wrap ((S : Int) + (g.n : Int)) = (S : Int) + (g.n : Int) := IntWalk.i64_in _ (by omega)
      have p2 : ¬ ((S : Int) + (g.n : Int)) < 0 := by omega
      go_wp2_with fail
      go_roundw
      case rel => exact ⟨i + 1, by go_num, hlt, by rw [pgN_take HG.out, ← HSS.out]; simp, trivial⟩
      case measure => simp [intOf]; omega
    · obtain rfl : i = n := by omega
      have p1 : ¬ (i : Int) < (i : Int) := by omega
      have hall : pgN (G.take i) = T := by rw [List.take_of_length_le (by rw [HN.out]; exact Nat.le_refl _), HT.out]
      rw [hall]
      clear hlt hS hall
      go_wp2_with (go_at_call 93; refine (grow_calls w T hT).mono ?_; rintro e w2 ⟨a2, c2, rfl, hr2, b2⟩)
      have hs2 := b2.size
      have H2 := Lib.hid (And.intro hr2 b2)
      clear hr2 b2
      go_loopw [6, 27] (fun v6 v27 wr => ∃ (i' : Nat) (a : Option Addr) (c : Nat), v27 = .int .i64 (i' : Nat) ∧ i' ≤ i ∧ v6 = .slice a (pgN (G.take i')) c ∧ wr.ownsRow w.heap.size 45 1 (.slice a (pgN (G.take i')) c) (pgN (G.take i')) (pgX (G.take i')) ∧ Below w.heap.size w wr) (fun _ v _ => i - (intOf v).toNat)
      case atStart => exact ⟨0, a2, c2, rfl, Nat.zero_le _, rfl, H2.out.1, H2.out.2⟩
      case round =>
        obtain ⟨j, a, c, rfl, hj, rfl, hrow, hbel⟩ := hrel
        have hS := HLE.out j
        have hs3 := hbel.size
        by_cases hlt : j < i
        · obtain ⟨g, hg⟩ : ∃ g, G[j]? = some g := ⟨_, List.getElem?_eq_getElem (by rw [← HN.out]; exact hlt)⟩
          obtain ⟨hc, hsrc⟩ := HC.out j g hg
          have hc3 := (hbel.cell (p := ⟨b, j, none⟩) hb).trans hc
          have hb3 : b < wr.heap.size := by omega
          have hS2 := HLE.out (j + 1)
          rw [pgN_take hg] at hS2
          have HG := Lib.hid (And.intro hg (And.intro (hsrc.below hbel) (And.intro hrow hbel)))
          obtain ⟨S, hSS⟩ : ∃ S, S = pgN (G.take j) := ⟨_, rfl⟩
          rw [← hSS] at hS hS2 HG ⊢
          have HSS := Lib.hid hSS
          clear hg hSS hc hsrc hrow hbel
          have p0 : (0 : Int) ≤ (j : Int) := by omega
          have p1 : (j : Int) < (i : Int) := by omega
          go_wp2_with (at_builtin; refine wpList_append_any _ rfl (.tmp 31) (.tmp 32) 24 rfl w.heap.size 45 i45 _ 1 2 Try.underlying24 hi45 ia1 ia2 ia3 rfl (by omega) _ S (pgX (G.take j)) rfl HG.out.2.2.1 g.a g.n g.c g.xs rfl HG.out.2.1.len HG.out.2.1.app HG.out.2.1.one (by unfold maxLen; omega) (by omega) hs3 ?_)
          intro a6 c6 w6 hown6 hgrow6
          have hb6 : Below w.heap.size wr w6 := grown_below hgrow6 (fun y e => (HG.out.2.2.1.lt y e).1) hs3
          have H6 := Lib.hid (And.intro hown6 (HG.out.2.2.2.trans hb6))
          clear hown6 hgrow6 hb6
          go_wp2_with fail
          go_roundw
          case rel =>
            have e1 : pgN (G.take (j + 1)) = S + g.n := by rw [pgN_take HG.out.1, ← HSS.out]
            exact ⟨j + 1, a6, c6, by go_num, hlt, by rw [e1], by rw [e1, pgX_take HG.out.1]; exact H6.out.1, H6.out.2⟩
          case measure => simp [intOf]; omega
        · obtain rfl : j = i := by omega
          have p1 : ¬ (j : Int) < (j : Int) := by omega
          have hall : pgN (G.take j) = T := by rw [List.take_of_length_le (by rw [HN.out]; exact Nat.le_refl _), HT.out]
          have hallx : pgX (G.take j) = pgX G := by rw [List.take_of_length_le (by rw [HN.out]; exact Nat.le_refl _)]
          rw [hall]
          rw [hall, hallx] at hrow
          have HF := Lib.hid (And.intro hrow hbel)
          clear hlt hrow hbel hall hallx hS
          go_wp2_with fail
          go_ret
          exact ⟨a, c, rfl, HF.out.1, HF.out.2⟩
end Go.Proofs.Ytelhnaphkbpakaa

namespace Go.Proofs.Ytelhnaphkbpakaa
open Go.RowKit
set_option linter.unusedVariables false
set_option maxRecDepth 100000

set_option maxHeartbeats 1000000 in
theorem growA_calls (w : World) (n : Nat) (hn : n ≤ 1099511627776) :
    Calls Try.prog 96 #[.slice none 0 0, .int .i64 (n : Int)] w fun e w' => ∃ a c, e = .returned (.slice a 0 c) ∧ w'.ownsRow w.heap.size 72 2 (.slice a 0 c) 0 [] ∧ Below w.heap.size w w' := by
  obtain ⟨i45, hi45, ia1, ia2, ia3⟩ := info_parts info72
  have q0 : IntKind.i64.wrap (0 : Int) = 0 := rfl
  have q1 : IntKind.i64.wrap (n : Int) = n := IntWalk.i64_in _ (by omega)
  have p0 : ¬ (n : Int) < 0 := by omega
  by_cases hz : n = 0
  · subst hz
    go_enter Try.func96, Try.ntmps96
    go_wp2
    go_ret
    exact ⟨none, 0, rfl, World.ownsRow_nil _ _ _ _, Below.refl _ w⟩
  · have p1 : (0 : Int) < (n : Int) := by omega
    have HR := Lib.hid (Lib.run_append_nil_zeros (P := Try.prog) w 25 3 25 72 i45 (.agg #[.string ⟨#[]⟩, .slice none 0 0]) .i64 .i64 Try.underlying25 Try.underlying3 hi45 ia1 n (by omega) (by omega) (by omega) (by rw [ia3]; omega))
    have hge := grownCap_ge w n 0 72
    have hle := grownCap_le_maxLen w n 0 72 (by unfold maxLen; omega)
    obtain ⟨c, hc⟩ : ∃ c, c = grownCap w n 0 72 := ⟨_, rfl⟩
    rw [← hc] at HR hge hle
    clear hc
    go_enter Try.func96, Try.ntmps96
    go_wp2_with (at_builtin; refine Lib.wpList_append_run _ rfl (.tmp 20) (.tmp 21) 25 3 rfl _ _ rfl rfl _ _ HR.out ?_)
    go_wp2
    all_goals go_ret
    all_goals exact ⟨some ⟨w.heap.size, 0, none⟩, c, rfl, World.ownsRow_made w.drew _ c (Nat.le_refl _) hle (by rw [Array.size_append, size_zeroCells, size_zeroCells]; simp; omega), ((Below.refl _ w).drew).alloc (Nat.le_refl _) _⟩

set_option maxHeartbeats 4000000 in
theorem concatA_calls (w : World) (b : Nat) (G : List PG) (hb : b < w.heap.size) (hc : ∀ (i : Nat) (g : PG), G[i]? = some g → w.cell? ⟨b, i, none⟩ = some (.slice g.a g.n g.c) ∧ RowSrc w 2 g.a g.n g.xs) (hT : pgN G ≤ 1099511627776) (hG : G.length ≤ 1099511627776) :
    Calls Try.prog 74 #[.slice (some ⟨b, 0, none⟩) G.length G.length] w fun e w' => ∃ a c, e = .returned (.slice a (pgN G) c) ∧ w'.ownsRow w.heap.size 72 2 (.slice a (pgN G) c) (pgN G) (pgX G) ∧ Below w.heap.size w w' := by
  obtain ⟨i45, hi45, ia1, ia2, ia3⟩ := info_parts info72
  obtain ⟨n, en⟩ : ∃ n, n = G.length := ⟨_, rfl⟩
  obtain ⟨T, eT⟩ : ∃ T, T = pgN G := ⟨_, rfl⟩
  rw [← en, ← eT]
  rw [← en] at hG
  rw [← eT] at hT
  have HN := Lib.hid en
  have HT := Lib.hid eT
  have HC := Lib.hid hc
  have hle : ∀ i, pgN (G.take i) ≤ T := fun i => by rw [HT.out]; exact pgN_le G i
  have HLE := Lib.hid hle
  clear en eT hc hle
  go_enter Try.func74, Try.ntmps74
  go_wp2_with fail
  go_loopw [3, 11] (fun v3 v11 wr => ∃ i : Nat, v11 = .int .i64 (i : Nat) ∧ i ≤ n ∧ v3 = .int .i64 ((pgN (G.take i) : Nat) : Int) ∧ wr = w) (fun _ v _ => n - (intOf v).toNat)
  case atStart => exact ⟨0, rfl, Nat.zero_le _, rfl, rfl⟩
  case round =>
    obtain ⟨i, rfl, hi, rfl, hw⟩ := hrel
    obtain rfl := hw.symm
    clear hw
    have hS := HLE.out i
    by_cases hlt : i < n
    · obtain ⟨g, hg⟩ : ∃ g, G[i]? = some g := ⟨_, List.getElem?_eq_getElem (by rw [← HN.out]; exact hlt)⟩
      have hc := (HC.out i g hg).1
      have hS2 := HLE.out (i + 1)
      rw [pgN_take hg] at hS2
      have HG := Lib.hid hg
      obtain ⟨S, hSS⟩ : ∃ S, S = pgN (G.take i) := ⟨_, rfl⟩
      rw [← hSS] at hS hS2 ⊢
      have HSS := Lib.hid hSS
      clear hg hSS
      have p0 : (0 : Int) ≤ (i : Int) := by omega
      have p1 : (i : Int) < (n : Int) := by omega
      have q1 : IntKind.i64.wrap ((S : Int) + (g.n : Int)) = (S : Int) + (g.n : Int) := IntWalk.i64_in _ (by omega)
      have p2 : ¬ ((S : Int) + (g.n : Int)) < 0 := by omega
      go_wp2_with fail
      go_roundw
      case rel => exact ⟨i + 1, by go_num, hlt, by rw [pgN_take HG.out, ← HSS.out]; simp, trivial⟩
      case measure => simp [intOf]; omega
    · obtain rfl : i = n := by omega
      have p1 : ¬ (i : Int) < (i : Int) := by omega
      have hall : pgN (G.take i) = T := by rw [List.take_of_length_le (by rw [HN.out]; exact Nat.le_refl _), HT.out]
      rw [hall]
      clear hlt hS hall
      go_wp2_with (go_at_call 96; refine (growA_calls w T hT).mono ?_; rintro e w2 ⟨a2, c2, rfl, hr2, b2⟩)
      have hs2 := b2.size
      have H2 := Lib.hid (And.intro hr2 b2)
      clear hr2 b2
      go_loopw [6, 27] (fun v6 v27 wr => ∃ (i' : Nat) (a : Option Addr) (c : Nat), v27 = .int .i64 (i' : Nat) ∧ i' ≤ i ∧ v6 = .slice a (pgN (G.take i')) c ∧ wr.ownsRow w.heap.size 72 2 (.slice a (pgN (G.take i')) c) (pgN (G.take i')) (pgX (G.take i')) ∧ Below w.heap.size w wr) (fun _ v _ => i - (intOf v).toNat)
      case atStart => exact ⟨0, a2, c2, rfl, Nat.zero_le _, rfl, H2.out.1, H2.out.2⟩
      case round =>
        obtain ⟨j, a, c, rfl, hj, rfl, hrow, hbel⟩ := hrel
        have hS := HLE.out j
        have hs3 := hbel.size
        by_cases hlt : j < i
        · obtain ⟨g, hg⟩ : ∃ g, G[j]? = some g := ⟨_, List.getElem?_eq_getElem (by rw [← HN.out]; exact hlt)⟩
          obtain ⟨hc, hsrc⟩ := HC.out j g hg
          have hc3 := (hbel.cell (p := ⟨b, j, none⟩) hb).trans hc
          have hb3 : b < wr.heap.size := by omega
          have hS2 := HLE.out (j + 1)
          rw [pgN_take hg] at hS2
          have HG := Lib.hid (And.intro hg (And.intro (hsrc.below hbel) (And.intro hrow hbel)))
          obtain ⟨S, hSS⟩ : ∃ S, S = pgN (G.take j) := ⟨_, rfl⟩
          rw [← hSS] at hS hS2 HG ⊢
          have HSS := Lib.hid hSS
          clear hg hSS hc hsrc hrow hbel
          have p0 : (0 : Int) ≤ (j : Int) := by omega
          have p1 : (j : Int) < (i : Int) := by omega
          go_wp2_with (at_builtin; refine wpList_append_any _ rfl (.tmp 31) (.tmp 32) 25 rfl w.heap.size 72 i45 _ 2 40 Try.underlying25 hi45 ia1 ia2 ia3 rfl (by omega) _ S (pgX (G.take j)) rfl HG.out.2.2.1 g.a g.n g.c g.xs rfl HG.out.2.1.len HG.out.2.1.app HG.out.2.1.one (by unfold maxLen; omega) (by omega) hs3 ?_)
          intro a6 c6 w6 hown6 hgrow6
          have hb6 : Below w.heap.size wr w6 := grown_below hgrow6 (fun y e => (HG.out.2.2.1.lt y e).1) hs3
          have H6 := Lib.hid (And.intro hown6 (HG.out.2.2.2.trans hb6))
          clear hown6 hgrow6 hb6
          go_wp2_with fail
          go_roundw
          case rel =>
            have e1 : pgN (G.take (j + 1)) = S + g.n := by rw [pgN_take HG.out.1, ← HSS.out]
            exact ⟨j + 1, a6, c6, by go_num, hlt, by rw [e1], by rw [e1, pgX_take HG.out.1]; exact H6.out.1, H6.out.2⟩
          case measure => simp [intOf]; omega
        · obtain rfl : j = i := by omega
          have p1 : ¬ (j : Int) < (j : Int) := by omega
          have hall : pgN (G.take j) = T := by rw [List.take_of_length_le (by rw [HN.out]; exact Nat.le_refl _), HT.out]
          have hallx : pgX (G.take j) = pgX G := by rw [List.take_of_length_le (by rw [HN.out]; exact Nat.le_refl _)]
          rw [hall]
          rw [hall, hallx] at hrow
          have HF := Lib.hid (And.intro hrow hbel)
          clear hlt hrow hbel hall hallx hS
          go_wp2_with fail
          go_ret
          exact ⟨a, c, rfl, HF.out.1, HF.out.2⟩
end Go.Proofs.Ytelhnaphkbpakaa

namespace Go.Proofs.Ytelhnaphkbpakaa
open Go.RowKit
set_option linter.unusedVariables false
set_option maxRecDepth 100000

set_option maxHeartbeats 4000000 in
theorem repl_calls (w : World) (N : Nd) (h : NdIn w N) (hB : N.Bd 1099511627776) (off cnt : Int) {ba : Option Addr} (bc : Nat) {us : List Nat} (hu : Sl16 w ba us) (hsum : N.data.length + us.length ≤ 1099511627776) :
    Calls Try.prog 26 #[N.v, .int .i64 off, .int .i64 cnt, .slice ba us.length bc] w fun e w' => ∃ M : Nd, e = .returned (.tuple #[M.v, .int .i64 (replD N.c off cnt us).2]) ∧ M.c = (replD N.c off cnt us).1 ∧ Fresh w.heap.size w' M ∧ Below w.heap.size w w' := by
  obtain ⟨V, hV⟩ : ∃ V, V = (w.alloc (.cells N.cells 30)).alloc (.cells Nd.zero.cells 30) := ⟨_, rfl⟩
  have hVs : V.heap.size = w.heap.size + 2 := by rw [hV]; simp
  have hbV : Below w.heap.size w V := by rw [hV]; exact ((Below.refl _ w).alloc (Nat.le_refl _) _).alloc (by simp) _
  have x0 : V.heap[w.heap.size]? = some (.cells N.cells 30 (0, 0)) := by rw [hV]; exact alloc_blk (Go.heap_alloc_new w _) _
  have x1 : V.heap[w.heap.size + 1]? = some (.cells Nd.zero.cells 30 (0, 0)) := by
    rw [hV]; have := Go.heap_alloc_new (w.alloc (.cells N.cells 30)) (.cells Nd.zero.cells 30); rwa [World.size_alloc] at this
  have HP := Lib.hid (part_calls V N (h.below hbV) off cnt)
  have HI := Lib.hid (And.intro h (And.intro hB hu))
  have hV2 := hV
  have HX := Lib.hid (And.intro x0 (And.intro x1 (And.intro hbV hV)))
  have hcap := h.cap
  obtain ⟨hcap1, hcap2, _, _⟩ := hcap
  obtain ⟨m, em⟩ : ∃ m, m = N.data.length := ⟨_, rfl⟩
  obtain ⟨ul, eul⟩ : ∃ ul, ul = us.length := ⟨_, rfl⟩
  rw [← em, ← eul] at hsum
  rw [← em] at hcap1
  unfold Nd.cells Nd.zero at hV2
  unfold Nd.v Nd.cells at HP ⊢
  have eD : replD N.c off cnt us = (if (partD N.kind off cnt m).2 = 0 then ({ N.c with data := N.data.take off.toNat ++ us ++ N.data.drop (partD N.kind off cnt m).1.toNat }, 0) else (NC.zero, (partD N.kind off cnt m).2)) := by rw [em]; rfl
  rw [← em] at HP hV2 ⊢
  rw [← eul, eD]
  rw [hV2] at HP
  have HM := Lib.hid em
  have HU := Lib.hid eul
  clear em eul eD h hB hu hV hbV x0 x1
  by_cases hg : (partD N.kind off cnt m).2 = 0
  · obtain ⟨hk, p1, p2, p3, hp⟩ := partD_good hg
    rw [if_pos hg]
    rw [hp] at HP ⊢
    obtain ⟨r, hr⟩ : ∃ r, r = off + min cnt ((m : Int) - off) := ⟨_, rfl⟩
    rw [← hr] at HP ⊢
    have p4 : off ≤ r := by omega
    have p5 : r ≤ (m : Int) := by omega
    have p6 : r ≤ (N.dc : Int) := by omega
    have p7 : off ≤ (N.dc : Int) := by omega
    obtain ⟨o, rfl⟩ : ∃ o : Nat, off = (o : Int) := ⟨off.toNat, by omega⟩
    obtain ⟨t, rfl⟩ : ∃ t : Nat, r = (t : Int) := ⟨r.toNat, by omega⟩
    rw [Int.toNat_natCast, Int.toNat_natCast]
    clear hg hp hr hk
    go_enter Try.func26, Try.ntmps26
    go_wp2_with fail
    refine HP.out.mono ?_
    rintro e w1 ⟨rfl, b1⟩
    rw [← hV2] at b1
    have y0 := (b1.block _ (lt_of_some HX.out.1)).trans HX.out.1
    have y1 := (b1.block _ (lt_of_some HX.out.2.1)).trans HX.out.2.1
    have hs1 := b1.size
    have B1 := Lib.hid (HX.out.2.2.1.trans (b1.mono (by omega)))
    have HY := Lib.hid (And.intro y0 y1)
    obtain ⟨d0, d1, d2, d3, d4, d5, ld⟩ := box_cells y0
    rw [← HM.out] at d2
    clear b1 y0 y1 hV2 HP
    go_wp2_with fail
    have KC := clone_calls w1 N (HI.out.1.below B1.out) HI.out.2.1
    unfold Nd.v Nd.cells at KC
    rw [← HM.out] at KC
    refine KC.mono ?_
    rintro e w3 ⟨M, rfl, hMN, hMo, b3⟩
    clear KC
    have hs3 := b3.size
    have y0 := (b3.block _ (lt_of_some HY.out.1)).trans HY.out.1
    have y1 := (b3.block _ (lt_of_some HY.out.2)).trans HY.out.2
    have hMd : M.data.length = m := by rw [hMN.data, HM.out]
    rw [hMd]
    have B3 := Lib.hid (B1.out.trans (b3.mono (by omega)))
    have HY3 := Lib.hid (And.intro y0 y1)
    have HMM := Lib.hid (And.intro hMN (And.intro hMo hMd))
    clear d0 d1 d2 d3 d4 d5 ld hMN hMo hMd b3 y0 y1 HY
    obtain ⟨V3, hV3⟩ : ∃ V3, V3 = w3.alloc (.cells M.cells 30) := ⟨_, rfl⟩
    have hV32 := hV3
    unfold Nd.cells at hV32
    rw [HMM.out.2.2] at hV32
    have hV3s : V3.heap.size = w3.heap.size + 1 := by rw [hV3]; simp
    have lbV3 : Below w3.heap.size w3 V3 := by rw [hV3]; exact (Below.refl _ w3).alloc (Nat.le_refl _) _
    have m0 : V3.heap[w3.heap.size]? = some (.cells #[.int .i64 M.kind, .string M.name, .slice M.da m M.dc, .slice M.aa M.L.length M.ac, .int .u32 M.slot, .int .u32 M.gen] 30 (0, 0)) := by rw [hV32]; exact Go.heap_alloc_new w3 _
    have n0 := (lbV3.block _ (lt_of_some HY3.out.1)).trans HY3.out.1
    have n1 := (lbV3.block _ (lt_of_some HY3.out.2)).trans HY3.out.2
    have HV3 := Lib.hid (And.intro hV32 (And.intro lbV3 (And.intro m0 (And.intro n0 n1))))
    have HS : Hid (∀ w', Below V3.heap.size V3 w' → (w'.cell? ⟨w.heap.size, 2, none⟩ = some (.slice N.da m N.dc) ∧ w'.cell? ⟨w3.heap.size, 2, none⟩ = some (Cl w' ⟨w3.heap.size, 2, none⟩) ∧ w'.frozen? ⟨w3.heap.size, 2, none⟩ = false)) := Lib.hid (fun w' hb => by
      have a0 := (hb.block _ (lt_of_some HV3.out.2.2.2.1)).trans HV3.out.2.2.2.1
      have a1 := (hb.block _ (lt_of_some HV3.out.2.2.1)).trans HV3.out.2.2.1
      exact ⟨by rw [HM.out]; exact (box_cells a0).2.2.1, cl_of (cell_blk a1 2 rfl), free_blk a1 2⟩)
    have hne : w.heap.size ≠ w3.heap.size := by omega
    have HS2 : Hid (∀ w' v, Below V3.heap.size V3 w' → ((w'.setCell ⟨w3.heap.size, 2, none⟩ v).cell? ⟨w.heap.size, 2, none⟩ = some (.slice N.da m N.dc) ∧ (w'.setCell ⟨w3.heap.size, 2, none⟩ v).cell? ⟨w3.heap.size, 2, none⟩ = some (Cl (w'.setCell ⟨w3.heap.size, 2, none⟩ v) ⟨w3.heap.size, 2, none⟩) ∧ (w'.setCell ⟨w3.heap.size, 2, none⟩ v).frozen? ⟨w3.heap.size, 2, none⟩ = false)) := Lib.hid (fun w' v hb => by
      obtain ⟨a0, a1, a2⟩ := HS.out w' hb
      exact ⟨(set_cell_ne v hne).trans a0, cl_set _ _ a1, by rw [World.frozen?_setCell]; exact a2⟩)
    have hS0 := HS.out V3 (Below.refl _ _)
    rw [hV32] at hS0
    obtain ⟨s0, s1, s2⟩ := hS0
    have HB0 := Lib.hid ((Below.refl V3.heap.size V3).drew)
    clear hV3 hV32 lbV3 m0 n0 n1 hne
    obtain ⟨T, hT⟩ : ∃ T, T = o + ul + (m - t) := ⟨_, rfl⟩
    have hTl : T ≤ 1099511627776 := by omega
    obtain ⟨A, hA⟩ : ∃ A, A = (if N.dc = t then N.da else N.da.map (·.add t)) := ⟨_, rfl⟩
    obtain ⟨W9, hW9⟩ : ∃ W9, W9 = (V3.alloc (.cells #[.slice N.da o N.dc, .slice ba ul bc, .slice A (m - t) (N.dc - t)] 24)).drew := ⟨_, rfl⟩
    have hW9s : W9.heap.size = V3.heap.size + 1 := by rw [hW9]; simp
    have b9 : Below V3.heap.size V3 W9 := by rw [hW9]; exact ((Below.refl _ V3).alloc (Nat.le_refl _) _).drew
    have hw9 : Below w.heap.size w W9 := B3.out.trans ((HV3.out.2.1.trans (b9.mono (by omega))).mono (by omega))
    have hG0 : RowSrc W9 1 N.da o (enc16 (N.data.take o)) := by
      have h := RowSrc.units ((HI.out.1.data.below hw9).take o)
      rw [List.length_take, ← HM.out, Nat.min_eq_left (by omega)] at h
      exact h
    have hG1 : RowSrc W9 1 ba ul (enc16 us) := by
      have h := RowSrc.units (HI.out.2.2.below hw9)
      rw [← HU.out] at h
      exact h
    have hG2 : RowSrc W9 1 A (m - t) (enc16 (N.data.drop t)) := by
      by_cases hdt : N.dc = t
      · refine ⟨by rw [enc16_len, List.length_drop, HM.out]; simp, .inl (by omega), enc16_one⟩
      · rw [hA, if_neg hdt]
        have hp := (HI.out.1.data.below hw9).part t (m - t) (by rw [← HM.out]; omega)
        rw [List.take_of_length_le (by rw [List.length_drop, ← HM.out]; exact Nat.le_refl _)] at hp
        have h := RowSrc.units hp
        rw [List.length_drop, ← HM.out] at h
        exact h
    have hcat := concat_calls W9 V3.heap.size [⟨N.da, o, N.dc, enc16 (N.data.take o)⟩, ⟨ba, ul, bc, enc16 us⟩, ⟨A, m - t, N.dc - t, enc16 (N.data.drop t)⟩] (by omega) (fun i g hg => by
      have hblk : W9.heap[V3.heap.size]? = some (.cells #[.slice N.da o N.dc, .slice ba ul bc, .slice A (m - t) (N.dc - t)] 24 (0, 0)) := by rw [hW9]; exact Go.heap_alloc_new V3 _
      match i, hg with
      | 0, hg => obtain rfl := Option.some.inj hg; exact ⟨cell_blk hblk 0 rfl, hG0⟩
      | 1, hg => obtain rfl := Option.some.inj hg; exact ⟨cell_blk hblk 1 rfl, hG1⟩
      | 2, hg => obtain rfl := Option.some.inj hg; exact ⟨cell_blk hblk 2 rfl, hG2⟩
      | (_ + 3), hg => simp at hg) (by unfold pgN; simp; omega) (by simp)
    have eN : pgN [⟨N.da, o, N.dc, enc16 (N.data.take o)⟩, ⟨ba, ul, bc, enc16 us⟩, ⟨A, m - t, N.dc - t, enc16 (N.data.drop t)⟩] = T := by unfold pgN; simp; omega
    have eX : pgX [⟨N.da, o, N.dc, enc16 (N.data.take o)⟩, ⟨ba, ul, bc, enc16 us⟩, ⟨A, m - t, N.dc - t, enc16 (N.data.drop t)⟩] = enc16 (N.data.take o ++ us ++ N.data.drop t) := by unfold pgX enc16; simp
    rw [eN, eX] at hcat
    have HCAT := Lib.hid hcat
    have HW9 := Lib.hid (And.intro hW9 (And.intro hA (And.intro hT (And.intro b9 hW9s))))
    have HB9 := Lib.hid b9
    have HBA : Hid (∀ c, Below V3.heap.size V3 (V3.alloc c).drew) := Lib.hid (fun c => ((Below.refl _ V3).alloc (Nat.le_refl _) c).drew)
    have HV3S := Lib.hid hV3s
    clear hcat eN eX hG0 hG1 hG2 hw9 b9 hW9 hT hW9s hV3s
    go_wp2_with fail
    rw [← HV3.out.1]
    rw [HV3.out.1.symm] at s0 s1 s2
    go_region_held3 (fun w' => w'.cell? ⟨w.heap.size, 2, none⟩ = some (.slice N.da m N.dc) ∧ w'.cell? ⟨w3.heap.size, 2, none⟩ = some (Cl w' ⟨w3.heap.size, 2, none⟩) ∧ w'.frozen? ⟨w3.heap.size, 2, none⟩ = false)
      (first | exact HS2.out _ _ HB7.out | exact HS.out _ HB7.out | exact HS.out _ (HBA.out _) | exact HS.out _ HB0.out)
      (first
        | (have hh := HB7; go_at_call 68; refine (clip16 _ _ _ hc7 hc7' _).mono ?_; rintro e w8 ⟨rfl, rfl⟩; dsimp only)
        | (go_at_call 69; rw [← HW9.out.2.1, ← HW9.out.1]; refine HCAT.out.mono ?_; rintro e w7 ⟨a7, c7, rfl, hr7, b7⟩; have hcp := row_cap hr7; have hc7 := hcp.2.1; have hc7' := hcp.2.2; have HB7 := Lib.hid (HB9.out.trans (b7.mono (by have := HW9.out.2.2.2.2; omega))); have H7 := Lib.hid (And.intro hr7 b7); clear hr7 b7 hcp; dsimp only))
    have e7 := (HB7.out.block _ (lt_of_some HV3.out.2.2.1)).trans HV3.out.2.2.1
    have k6 := set_blk e7 2 (.slice a7 T T)
    have r6 := rwOther H7.out.1 e7 (by decide) 2 (.slice a7 T T)
    obtain ⟨W6, hW6⟩ : ∃ W6, W6 = w7.setCell ⟨w3.heap.size, 2, none⟩ (.slice a7 T T) := ⟨_, rfl⟩
    have lb6 : Below w3.heap.size w3 W6 := by rw [hW6]; exact (HV3.out.2.1.trans (HB7.out.mono (show w3.heap.size ≤ V3.heap.size by have := HV3S.out; omega))).setCell (Nat.le_refl _) _
    rw [← hW6] at k6 r6 ⊢
    have HF := Lib.hid (And.intro k6 (And.intro r6 lb6))
    clear e7 k6 r6 lb6 hW6 s0 s1 s2
    have h1 := (HF.out.2.2.block _ (lt_of_some HY3.out.2)).trans HY3.out.2
    obtain ⟨d0, d1, d2, d3, d4, d5, ld⟩ := box_cells h1
    simp only [Nd.zero] at d0 d1 d2 d3 d4 d5
    simp at d2 d3
    have c0 := fun j u (h : (#[Value.int IntKind.i64 M.kind, Value.string M.name, Value.slice a7 T T, Value.slice M.aa M.L.length M.ac, Value.int IntKind.u32 M.slot, Value.int IntKind.u32 M.gen] : Array Value)[j]? = some u) => cell_blk HF.out.1 j h
    have c00 := c0 0 _ rfl
    have c01 := c0 1 _ rfl
    have c02 := c0 2 _ rfl
    have c03 := c0 3 _ rfl
    have c04 := c0 4 _ rfl
    have c05 := c0 5 _ rfl
    have g0 := fun j => free_blk h1 j
    have le0 := lt_of_some HF.out.1
    obtain ⟨hE, hFr⟩ := six_cells h1 (.int .i64 M.kind) (.string M.name) (.slice a7 T T) (.slice M.aa M.L.length M.ac) (.int .u32 M.slot) (.int .u32 M.gen)
    have HE := Lib.hid (And.intro hE hFr)
    clear h1 c0 hE hFr
    go_wp2_with fail
    all_goals
      have z0 := cell_blk HE.out.1 0 rfl
      have z1 := cell_blk HE.out.1 1 rfl
      have z2 := cell_blk HE.out.1 2 rfl
      have z3 := cell_blk HE.out.1 3 rfl
      have z4 := cell_blk HE.out.1 4 rfl
      have z5 := cell_blk HE.out.1 5 rfl
      skip
      have hM := HMM.out.2.1.below HF.out.2.2
      have hTT := HW9.out.2.2.1
      have hlen : (N.data.take o ++ us ++ N.data.drop t).length = T := by rw [List.length_append, List.length_append, List.length_take, List.length_drop, ← HM.out, ← HU.out, hTT]; omega
      have hfr := HE.out.2
      have hbase : w.heap.size ≤ W9.heap.size := by have h1 := HW9.out.2.2.2.2; have h2 := HV3S.out; omega
      refine bodyPost_ret (v := .tuple #[.agg #[.int .i64 M.kind, .string M.name, .slice a7 T T, .slice M.aa M.L.length M.ac, .int .u32 M.slot, .int .u32 M.gen], .int .i64 0]) (by simp [results, Try.results26, go_sem, z0, z1, z2, z3, z4, z5]) rfl ⟨⟨M.kind, M.name, a7, T, N.data.take o ++ us ++ N.data.drop t, M.aa, M.ac, M.L, M.slot, M.gen⟩, by simp only [hlen], ?_, ⟨⟨⟨c7, ?_⟩, ?_, by simp only [hlen]; omega⟩, by simp only [hlen], ⟨?_, fun x hx => ?_, hM.attrs.nam⟩, hM.ac, hM.nam, hM.len⟩, ?_⟩
      · have := HMM.out.1.c
        unfold Nd.c at this ⊢
        simp only [NC.mk.injEq] at this ⊢
        exact ⟨this.1, this.2.1, by simp, this.2.2.2.1, this.2.2.2.2⟩
      · have hr := hfr.row (HF.out.2.1.mono hbase) (by decide)
        simp only [hlen]
        exact hr
      · intro u hu
        rcases List.mem_append.1 hu with hu | hu
        · rcases List.mem_append.1 hu with hu | hu
          · exact HI.out.1.data.bnd u (List.mem_of_mem_take hu)
          · exact HI.out.2.2.bnd u hu
        · exact HI.out.1.data.bnd u (List.mem_of_mem_drop hu)
      · obtain ⟨cap, hr⟩ := hM.attrs.row
        exact ⟨cap, hfr.row (hr.mono (by omega)) (by decide)⟩
      · have h1 := hM.attrs.val x hx
        obtain ⟨cap, hr⟩ := h1.1.row
        exact ⟨⟨⟨cap, hfr.row (hr.mono (by omega)) (by decide)⟩, h1.1.bnd, h1.1.len⟩, h1.2⟩
      · exact B3.out.trans ((HF.out.2.2.mono (by omega)).trans ((hfr.below (by omega)).mono (by omega)))
  · obtain ⟨h1, h2⟩ := partD_bad hg
    rw [if_neg hg]
    rw [h1] at HP
    obtain ⟨c, hc⟩ : ∃ c, c = (partD N.kind off cnt m).2 := ⟨_, rfl⟩
    rw [← hc] at HP hg h2 ⊢
    clear hc h1
    have hcc : (c != 0) = true := by simpa using hg
    go_enter Try.func26, Try.ntmps26
    go_wp2_with fail
    refine HP.out.mono ?_
    rintro e w1 ⟨rfl, b1⟩
    rw [← hV2] at b1
    have y1 := (b1.block _ (lt_of_some HX.out.2.1)).trans HX.out.2.1
    have B1 := Lib.hid (HX.out.2.2.1.trans (b1.mono (by omega)))
    obtain ⟨d0, d1, d2, d3, d4, d5, ld⟩ := box_cells y1
    have g0 := fun j => free_blk y1 j
    obtain ⟨hE, hF⟩ := six_cells y1 (.int .i64 0) (.string ⟨#[]⟩) (.slice none 0 0) (.slice none 0 0) (.int .u32 0) (.int .u32 0)
    have HE := Lib.hid (And.intro hE hF)
    simp only [Nd.zero] at d0 d1 d2 d3 d4 d5
    clear b1 y1 hV2 hE hF
    simp at d2 d3
    go_wp2_with fail
    have z0 := cell_blk HE.out.1 0 rfl
    have z1 := cell_blk HE.out.1 1 rfl
    have z2 := cell_blk HE.out.1 2 rfl
    have z3 := cell_blk HE.out.1 3 rfl
    have z4 := cell_blk HE.out.1 4 rfl
    have z5 := cell_blk HE.out.1 5 rfl
    skip
    exact bodyPost_ret (v := .tuple #[.agg #[.int .i64 0, .string ⟨#[]⟩, .slice none 0 0, .slice none 0 0, .int .u32 0, .int .u32 0], .int .i64 c]) (by simp [results, Try.results26, go_sem, z0, z1, z2, z3, z4, z5]) rfl ⟨Nd.zero, rfl, rfl, Fresh.zero _ _, B1.out.trans ((HE.out.2.below (by omega)).mono (by omega))⟩
end Go.Proofs.Ytelhnaphkbpakaa

namespace Go.Proofs.Ytelhnaphkbpakaa
open Go.RowKit
set_option linter.unusedVariables false
set_option maxRecDepth 100000

def roomName : ByteArray := ⟨#[114, 111, 111, 109]⟩
def roomCells : List Value := [.string roomName, .slice none 0 0, .string roomName, .slice none 0 0]
structure LentNd (B : Nat) (w : World) (N : Nd) : Prop where
  data : LentU B w N.da N.dc N.data
  attrs : w.ownsRow B 72 2 (.slice N.aa (N.L.length + 2) N.ac) (N.L.length + 2) (cellsA N.L ++ roomCells)
  val : ∀ x ∈ N.L, LentU B w x.va x.vc x.val
  nams : ∀ x ∈ N.L, x.name.size ≤ 9223372036854775807
  nam : N.name.size ≤ 9223372036854775807
  bd : N.Bd 1048576
theorem LentU.mono {B B' : Nat} {w : World} {a : Option Addr} {cap : Nat} {us : List Nat} (h : LentU B w a cap us) (hb : B' ≤ B) : LentU B' w a cap us := ⟨h.row.mono hb, h.bnd, h.len⟩
theorem LentNd.below {B : Nat} {w w' : World} {N : Nd} (h : LentNd B w N) (b : Below w.heap.size w w') : LentNd B w' N :=
  ⟨h.data.below b, row_below h.attrs b, fun x hx => (h.val x hx).below b, h.nams, h.nam, h.bd⟩
theorem LentNd.mono {B B' : Nat} {w : World} {N : Nd} (h : LentNd B w N) (hb : B' ≤ B) : LentNd B' w N :=
  ⟨h.data.mono hb, h.attrs.mono hb, fun x hx => (h.val x hx).mono hb, h.nams, h.nam, h.bd⟩
theorem LentNd.nd {B : Nat} {w : World} {N : Nd} (h : LentNd B w N) : NdIn w N := by
  have h1 := h.data.cap
  have h2 := row_cap h.attrs
  have h4 := row_cap h.data.row
  have h3 := h.bd.attrs
  refine ⟨h.data.sl, ⟨fun j u hu => ?_, by omega, fun x hx => (h.val x hx).sl, h.nams⟩, h.nam, by omega⟩
  have hj := (List.getElem?_eq_some_iff.1 hu).1
  obtain ⟨b, e1, e2, e3⟩ := row_src h.attrs ((List.getElem?_append_left hj).trans hu)
  exact ⟨b, 0, e1, e2, e3⟩

/-- Where node's loop stands. -/
structure NR (w0 : World) (N : Nd) (a1 : Option Addr) (c1 : Nat) (wr : World) (i : Nat) (K : List LA) (A : Option Addr) (C : Nat) : Prop where
  box : wr.heap[w0.heap.size]? = some (.cells N.cells 30 (0, 0))
  res : wr.heap[w0.heap.size + 1]? = some (.cells Nd.zero.cells 30 (0, 0))
  out : wr.heap[w0.heap.size + 2]? = some (.cells #[.int .i64 N.kind, .string N.name, .slice a1 N.data.length c1, .slice N.aa N.L.length N.ac, .int .u32 N.slot, .int .u32 N.gen] 30 (0, 0))
  data : LentU w0.heap.size wr a1 c1 N.data
  row : wr.ownsRow w0.heap.size 72 2 (.slice A i C) i (cellsA K)
  val : ∀ x ∈ K, LentU w0.heap.size wr x.va x.vc x.val
  low : Below w0.heap.size w0 wr
section
variable {w0 : World} {N : Nd} {a1 : Option Addr} {c1 : Nat} {wr wr' w5 w6 : World} {i : Nat} {K : List LA} {A : Option Addr} {C : Nat}
theorem NR.below (h : NR w0 N a1 c1 wr i K A C) (b : Below wr.heap.size wr wr') : NR w0 N a1 c1 wr' i K A C :=
  ⟨(b.block _ (lt_of_some h.box)).trans h.box, (b.block _ (lt_of_some h.res)).trans h.res, (b.block _ (lt_of_some h.out)).trans h.out, h.data.below b, row_below h.row b, fun x hx => (h.val x hx).below b, h.low.trans (b.mono h.low.size)⟩
theorem NR.mid (h : NR w0 N a1 c1 w5 i K A C) (hg : w5.grownBy w6 (Value.slice A i C).ownBlock) :
    FrT [72] w0.heap.size w5 w6 := (FrT.refl _ _ _).append h.row (Nat.le_refl _) (by simp) hg
theorem LentU.fr {B : Nat} {us : List Nat} {a : Option Addr} {c : Nat} (h : LentU B w5 a c us) (f : FrT [72] w0.heap.size w5 w6) : LentU B w6 a c us := ⟨f.row h.row (by decide), h.bnd, h.len⟩
theorem NR.push (h : NR w0 N a1 c1 w5 i K A C) (x : LA) (hx : LentU w0.heap.size w5 x.va x.vc x.val) {A' : Option Addr} {C' : Nat}
    (hown : w6.ownsRow w0.heap.size 72 2 (.slice A' (i + 1) C') (i + 1) (cellsA K ++ x.cells)) (hg : w5.grownBy w6 (Value.slice A i C).ownBlock) :
    NR w0 N a1 c1 w6 (i + 1) (K ++ [x]) A' C' := by
  have f := h.mid hg
  have hs := h.low.size
  refine ⟨f.blk h.box (by decide), f.blk h.res (by decide), f.blk h.out (by decide), h.data.fr f, ?_, ?_, h.low.trans (f.below hs)⟩
  · rw [cellsA_append, show cellsA [x] = x.cells by simp [cellsA]]
    exact hown
  · intro y hy
    rcases List.mem_append.1 hy with hy | hy
    · exact (h.val y hy).fr f
    · obtain rfl := by simpa using hy
      exact hx.fr f
end
end Go.Proofs.Ytelhnaphkbpakaa

