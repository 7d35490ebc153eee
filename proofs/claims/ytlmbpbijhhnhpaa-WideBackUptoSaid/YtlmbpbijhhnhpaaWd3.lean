/- Units lent with some behind them; kept. -/
import Derived.Test.YtlmbpbijhhnhpaaWd2
import Derived.Test.YtlmbpbijhhnhpaaApn
namespace Go.Proofs.Ytlmbpbijhhnhpaa
open Go.RowKit
set_option linter.unusedVariables false
set_option maxRecDepth 100000

def enc16 (us : List Nat) : List Value := us.map fun (u : Nat) => Value.int .u16 (u : Int)
theorem enc16_len (us : List Nat) : (enc16 us).length = us.length := by simp [enc16]
theorem enc16_at {us : List Nat} {i u : Nat} (h : us[i]? = some u) : (enc16 us)[i]? = some (.int .u16 (u : Int)) := by simp [enc16, h]
theorem info79 : (Try.prog.info? 79).map (fun i => (i.zero, i.size, i.bytes)) = some (some (.int .u16 0), 1, 2) := by kernel_rfl
theorem addr_add_off (b off j : Nat) : (⟨b, off, none⟩ : Addr).add j = ⟨b, off + j, none⟩ := by unfold Addr.add; split <;> simp_all

theorem Sl16.src {w : World} {a : Option Addr} {us : List Nat} (h : Sl16 w a us) : us.length = 0 ∨ ∃ ad, a = some ad ∧ ∀ j u, (enc16 us)[j]? = some u → w.cell? (ad.add j) = some u := by
  rcases Nat.eq_zero_or_pos us.length with h0 | h0
  · exact .inl h0
  · right
    obtain ⟨u, hu⟩ : ∃ u, us[0]? = some u := ⟨_, List.getElem?_eq_getElem h0⟩
    obtain ⟨_, b, off, rfl, _, _⟩ := h.at_ 0 u hu
    refine ⟨_, rfl, fun j v hj => ?_⟩
    obtain ⟨x, hx, rfl⟩ : ∃ x, us[j]? = some x ∧ v = .int .u16 (x : Int) := by
      simp [enc16, List.getElem?_map, Option.map_eq_some_iff] at hj
      obtain ⟨x, hx, rfl⟩ := hj
      exact ⟨x, hx, rfl⟩
    obtain ⟨_, b', off', e, _, hc⟩ := h.at_ j x hx
    cases e
    rw [addr_add_off]
    exact hc
theorem enc16_one {us : List Nat} : ∀ u ∈ enc16 us, u.oneCell' = true := by
  intro u hu
  obtain ⟨x, _, rfl⟩ := List.mem_map.1 hu
  rfl

/-- A row of one's own holds these units ahead. -/
theorem sl16_of_row {w : World} {base n : Nat} {a : Option Addr} {cap : Nat} {us : List Nat} {more : List Value} {k : Nat} (h : w.ownsRow base 79 1 (.slice a k cap) k (enc16 us ++ more)) (hk : us.length ≤ k) (hb : ∀ u ∈ us, u ≤ 65535) (hl : us.length ≤ 9223372036854775807) : Sl16 w a us :=
  ⟨fun i u hu => by
    have hi : i < us.length := (List.getElem?_eq_some_iff.1 hu).1
    obtain ⟨g, cap', hv, _, hg⟩ := h.form (by omega)
    cases hv
    refine ⟨hb u (List.mem_of_getElem? hu), g, 0, rfl, hg, ?_⟩
    rw [Nat.zero_add]
    exact (h.cellAt i (by omega)).trans (by rw [List.getElem?_append_left (by rw [enc16_len]; exact hi)]; exact enc16_at hu), hl⟩

/-- What lent hands back: a row of the call's own, two units longer. -/
structure Lent (B : Nat) (w : World) (a : Option Addr) (cap : Nat) (us : List Nat) : Prop where
  row : w.ownsRow B 79 1 (.slice a (us.length + 2) cap) (us.length + 2) (enc16 us ++ [.int .u16 56321, .int .u16 7])
  bnd : ∀ u ∈ us, u ≤ 65535
  len : us.length ≤ 1048576
theorem Lent.sl {B : Nat} {w : World} {a : Option Addr} {cap : Nat} {us : List Nat} (h : Lent B w a cap us) : Sl16 w a us := sl16_of_row (n := 0) h.row (by omega) h.bnd (by have := h.len; omega)
theorem Lent.below {B : Nat} {w w' : World} {a : Option Addr} {cap : Nat} {us : List Nat} (h : Lent B w a cap us) (b : Below w.heap.size w w') : Lent B w' a cap us :=
  ⟨(FrT.of_below (T := []) (B := 0) b).row h.row (by simp), h.bnd, h.len⟩
theorem Lent.cap {B : Nat} {w : World} {a : Option Addr} {cap : Nat} {us : List Nat} (h : Lent B w a cap us) : us.length + 2 ≤ cap := by
  rcases h.row.2 with ⟨h', _⟩ | ⟨g, cap', cur, h', _, _, _, h4, _⟩
  · cases h'
  · cases h'; omega

theorem Sl16.bnd {w : World} {a : Option Addr} {us : List Nat} (h : Sl16 w a us) : ∀ u ∈ us, u ≤ 65535 := by
  intro u hu
  obtain ⟨i, hi, rfl⟩ := List.mem_iff_getElem.1 hu
  exact (h.at_ i _ (List.getElem?_eq_getElem hi)).1

set_option maxHeartbeats 2000000 in
theorem lent_lends {w : World} {a : Option Addr} {us : List Nat} (ca : Nat) (ha : Sl16 w a us) (hlen : us.length ≤ 1048576) :
    Calls Try.prog 39 #[.slice a us.length ca] w fun e w' => ∃ a' cap, e = .returned (.slice a' us.length cap) ∧ Lent w.heap.size w' a' cap us ∧ Below w.heap.size w w' := by
  have HA := Lib.hid ha
  have hb := ha.bnd
  have HB := Lib.hid hb
  clear ha hb
  obtain ⟨n, hn⟩ : ∃ n, n = us.length := ⟨_, rfl⟩
  rw [← hn] at hlen ⊢
  have HN := Lib.hid hn
  clear hn
  obtain ⟨i79, hi79, ha1, ha2, ha3⟩ := info_parts info79
  have q1 : IntKind.i64.wrap ((n : Int) + 2) = (n : Int) + 2 := IntWalk.i64_in _ (by omega)
  go_enter Try.func39, Try.ntmps39
  go_wp2_with (at_make; refine wpList_make_own _ rfl _ _ 73 rfl w.heap.size 79 i79 _ 1 Try.underlying73 hi79 ha1 ha2 .i64 .i64 _ (n + 2) rfl rfl (by omega) (by rw [ha3]; omega) (by unfold maxLen; omega) (Nat.le_refl _) ?_)
  intro w1 hown1 hgrow1
  have HO1 := Lib.hid hown1
  have hs1 : w.heap.size ≤ w1.heap.size := hgrow1.size
  have hb1 : Below w.heap.size w w1 := (Below.refl _ w).grown hgrow1 (Nat.le_refl _) (fun _ e => by cases e)
  have HA1 := Lib.hid (HA.out.below hb1)
  have HB1 := Lib.hid hb1
  clear hown1 hgrow1 hb1
  go_wp2_with (at_builtin; refine wpList_append_any _ rfl (.tmp 8) (.tmp 9) 73 rfl w.heap.size 79 i79 _ 1 2 Try.underlying73 hi79 ha1 ha2 ha3 rfl (by omega) _ 0 [] rfl HO1.out a n ca (enc16 us) rfl (by rw [enc16_len, HN.out]; simp) (by rw [HN.out]; exact HA1.out.src) enc16_one (by unfold maxLen; omega) (by omega) hs1 ?_)
  intro a2 c2 w2 hown2 hgrow2
  have hb2 : Below w.heap.size w1 w2 := (Below.refl _ w1).grown hgrow2 hs1 (fun k e => by simp [Value.ownBlock] at e; omega)
  have HB2 := Lib.hid (HB1.out.trans hb2)
  have hs2 := Nat.le_trans hs1 hb2.size
  have HO2 := Lib.hid hown2
  clear hown2 hgrow2 hb2 HA1
  go_wp2_with (at_builtin; refine wpList_append_lies _ rfl (.tmp 11) (.tmp 12) 73 rfl w.heap.size 79 i79 _ 1 2 Try.underlying73 hi79 ha1 ha2 ha3 rfl (by omega) _ n _ rfl (HO2.out.alloc _) ⟨w2.heap.size, 0, none⟩ 2 2 [.int .u16 56321, .int .u16 7] rfl rfl (World.news_of_block (cs := #[.int .u16 56321, .int .u16 7]) (t := 79) (fr := (0, 0)) (Go.heap_alloc_new w2 _)) (by simp [Value.oneCell']) (by omega) (by unfold maxLen; omega) (by omega) (by simp; omega) _ rfl ?_)
  intro g3 c3 w3 hown3 hgrow3 hat3 hlt3
  have f3 : FrT [79] w.heap.size w2 w3 := ((FrT.refl _ _ _).alloc _).append (HO2.out.alloc _) (Nat.le_refl _) (by simp) hgrow3
  have HB3 := Lib.hid (HB2.out.trans (f3.below hs2))
  have HL3 : Hid (Lent w.heap.size w3 (some ⟨g3, 0, none⟩) c3 us) := Lib.hid ⟨by rw [← HN.out]; exact hown3, HB.out, by rw [← HN.out]; exact hlen⟩
  have hcap := HL3.out.cap
  rw [← HN.out] at hcap
  clear hown3 hgrow3 hat3 f3
  go_wp2
  go_ret
  exact ⟨_, _, rfl, HL3.out, HB3.out⟩
end Go.Proofs.Ytlmbpbijhhnhpaa
