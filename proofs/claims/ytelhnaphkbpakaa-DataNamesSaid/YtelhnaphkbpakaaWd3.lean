/- Units lent with some behind them; kept. -/
import Derived.Test.YtelhnaphkbpakaaWd2
import Derived.Test.YtelhnaphkbpakaaApn
namespace Go.Proofs.Ytelhnaphkbpakaa
open Go.RowKit
set_option linter.unusedVariables false
set_option maxRecDepth 100000

def enc16 (us : List Nat) : List Value := us.map fun (u : Nat) => Value.int .u16 (u : Int)
theorem enc16_len (us : List Nat) : (enc16 us).length = us.length := by simp [enc16]
theorem enc16_at {us : List Nat} {i u : Nat} (h : us[i]? = some u) : (enc16 us)[i]? = some (.int .u16 (u : Int)) := by simp [enc16, h]
theorem info79 : (Try.prog.info? 45).map (fun i => (i.zero, i.size, i.bytes)) = some (some (.int .u16 0), 1, 2) := by kernel_rfl
theorem addr_add_off (b off j : Nat) : (⟨b, off, none⟩ : Addr).add j = ⟨b, off + j, none⟩ := by unfold Addr.add; split <;> simp_all

theorem Sl16.src {w : World} {a : Option Addr} {us : List Nat} (h : Sl16 w a us) : us.length = 0 ∨ ∃ ad, a = some ad ∧ ∀ j u, (enc16 us)[j]? = some u → w.cell? (ad.add j) = some u := by
  rcases Nat.eq_zero_or_pos us.length with h0 | h0
  · exact .inl h0
  · right
    obtain ⟨u, hu⟩ : ∃ u, us[0]? = some u := ⟨_, List.getElem?_eq_getElem h0⟩
    obtain ⟨_, b, off, rfl, _, _⟩ := h.at_ 0 u hu
    refine ⟨_, rfl, fun j v hj => ?_⟩
    obtain ⟨x, hx, rfl⟩ : ∃ x, us[j]? = some x ∧ v = .int .u16 (x : Int) := by
      simp [enc16, List.getElem?_map, Option.map_eq_some_iff] at hj
      obtain ⟨x, hx, rfl⟩ := hj
      exact ⟨x, hx, rfl⟩
    obtain ⟨_, b', off', e, _, hc⟩ := h.at_ j x hx
    cases e
    rw [addr_add_off]
    exact hc
theorem enc16_one {us : List Nat} : ∀ u ∈ enc16 us, u.oneCell' = true := by
  intro u hu
  obtain ⟨x, _, rfl⟩ := List.mem_map.1 hu
  rfl

/-- A row of one's own holds these units ahead. -/
theorem sl16_of_row {w : World} {base n : Nat} {a : Option Addr} {cap : Nat} {us : List Nat} {more : List Value} {k : Nat} (h : w.ownsRow base 45 1 (.slice a k cap) k (enc16 us ++ more)) (hk : us.length ≤ k) (hb : ∀ u ∈ us, u ≤ 65535) (hl : us.length ≤ 9223372036854775807) : Sl16 w a us :=
  ⟨fun i u hu => by
    have hi : i < us.length := (List.getElem?_eq_some_iff.1 hu).1
    obtain ⟨g, cap', hv, _, hg⟩ := h.form (by omega)
    cases hv
    refine ⟨hb u (List.mem_of_getElem? hu), g, 0, rfl, hg, ?_⟩
    rw [Nat.zero_add]
    exact (h.cellAt i (by omega)).trans (by rw [List.getElem?_append_left (by rw [enc16_len]; exact hi)]; exact enc16_at hu), hl⟩

/-- What lent hands back: a row of the call's own, two units longer. -/
structure Lent (B : Nat) (w : World) (a : Option Addr) (cap : Nat) (us : List Nat) : Prop where
  row : w.ownsRow B 45 1 (.slice a (us.length + 2) cap) (us.length + 2) (enc16 us ++ [.int .u16 56321, .int .u16 7])
  bnd : ∀ u ∈ us, u ≤ 65535
  len : us.length ≤ 1048576
theorem Lent.sl {B : Nat} {w : World} {a : Option Addr} {cap : Nat} {us : List Nat} (h : Lent B w a cap us) : Sl16 w a us := sl16_of_row (n := 0) h.row (by omega) h.bnd (by have := h.len; omega)
theorem Lent.below {B : Nat} {w w' : World} {a : Option Addr} {cap : Nat} {us : List Nat} (h : Lent B w a cap us) (b : Below w.heap.size w w') : Lent B w' a cap us :=
  ⟨(FrT.of_below (T := []) (B := 0) b).row h.row (by simp), h.bnd, h.len⟩
theorem Lent.cap {B : Nat} {w : World} {a : Option Addr} {cap : Nat} {us : List Nat} (h : Lent B w a cap us) : us.length + 2 ≤ cap := by
  rcases h.row.2 with ⟨h', _⟩ | ⟨g, cap', cur, h', _, _, _, h4, _⟩
  · cases h'
  · cases h'; omega

theorem Sl16.bnd {w : World} {a : Option Addr} {us : List Nat} (h : Sl16 w a us) : ∀ u ∈ us, u ≤ 65535 := by
  intro u hu
  obtain ⟨i, hi, rfl⟩ := List.mem_iff_getElem.1 hu
  exact (h.at_ i _ (List.getElem?_eq_getElem hi)).1

end Go.Proofs.Ytelhnaphkbpakaa
