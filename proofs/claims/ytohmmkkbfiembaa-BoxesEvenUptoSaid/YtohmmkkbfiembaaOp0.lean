/- Readings of arguments opened: a slice's elements in memory. No program. -/
import Derived.Deep.Slices
import Derived.ChangeArms
import Derived.OwnWalk
import Derived.WalkKit
namespace Go.Proofs.Ytohmmkkbfiembaa
open Go.RowKit Go.Deep

section
variable {H : Type} {enc : TypeId × Value → H} {P : Program} {w : World} {base : Nat} {spare : Nat → Bool} {held : Bool}

theorem trod_float {fuel : Nat} {t : TypeId} {cs : List Value} {x : DataW H × List MemPlace} {k : FloatKind} (ht : P.underlying t = some (.float k)) (h : DataW.trod enc P w base spare held fuel t cs = some x) : ∃ n : Nat, cs = [.float k n] := by
  cases fuel with
  | zero => simp [DataW.trod] at h
  | succ n =>
    unfold DataW.trod at h
    rw [ht] at h
    split at h <;> simp_all

theorem addr_add0 (b off j : Nat) : (⟨b, off, none⟩ : Addr).add j = ⟨b, off + j, none⟩ := by unfold Addr.add; split <;> simp_all

/-- A slice of elements, of which each opens to a datum with cells: all of them, where they lie; how many they are. -/
theorem open_elems {α : Type} [Inhabited α] (cells : α → List Value) (good : α → Prop) (k : Nat) {t e : TypeId} (ht : P.underlying t = some (.slice e)) (hk : P.cellsOf e = k) (hk1 : ∀ a, (cells a).length = k) (hk0 : 0 < k)
    (hopen : ∀ (n : Nat) (cs : List Value) (x : DataW H × List MemPlace), DataW.trod enc P w base spare held n e cs = some x → ∃ a, cs = cells a ∧ good a)
    {fuel : Nat} {a : Option Addr} {len cap : Nat} {x : DataW H × List MemPlace} (h : DataW.trod enc P w base spare held fuel t [.slice a len cap] = some x) :
    ∃ L : List α, L.length = len ∧ len ≤ maxLen ∧ (∀ (D : List (DataW H)) (E : List (DataW H)), x.1 = .slice D E → D.length = len) ∧ (x.1 = .nil → len = 0) ∧ ((x.1 = .nil ∨ ∃ D E, x.1 = .slice D E)) ∧
      ∀ (i : Nat) z, L[i]? = some z → good z ∧ ∃ b off, a = some ⟨b, off, none⟩ ∧ b < w.heap.size ∧ ∀ j v, (cells z)[j]? = some v → w.cell? ⟨b, off + (i * k + j), none⟩ = some v := by
  rcases open_slice ht h with ⟨hcs, rfl⟩ | ⟨ad, len', cap', m, n, D, Pl, hcs, _, hl, hm, hmm, rfl, hi⟩
  · simp at hcs
    obtain ⟨rfl, rfl, rfl⟩ := hcs
    exact ⟨[], rfl, by simp [maxLen], by intro D E h; simp at h, fun _ => rfl, .inl rfl, by intro i z h; simp at h⟩
  · simp at hcs
    obtain ⟨rfl, rfl, rfl⟩ := hcs
    have hlm : len ≤ m := by rw [hmm]; split <;> omega
    rw [hk] at hi
    obtain ⟨f, hf⟩ := choose_lt (α := α) (n := len) (p := fun i o => good o ∧ ∀ j v, (cells o)[j]? = some v → w.cell? ((ad.add (i * k)).add j) = some v) (fun i hil => by
      obtain ⟨cs', hc, ht⟩ := hi i (by omega)
      obtain ⟨o, rfl, ok⟩ := hopen _ _ _ ht
      obtain ⟨_, hcl, hat⟩ := World.cells?_some hc
      refine ⟨o, ok, fun j v hj => ?_⟩
      have hjk : j < k := by have := (List.getElem?_eq_some_iff.1 hj).1; rw [hk1] at this; exact this
      rw [hat j hjk]; exact hj)
    refine ⟨(List.range len).map f, by simp, Nat.le_trans hl hm, by intro D' E' h; simp at h; rw [← h.1]; simp, by intro h; simp at h, .inr ⟨_, _, rfl⟩, fun i z hz => ?_⟩
    have hil : i < len := by have := (List.getElem?_eq_some_iff.1 hz).1; simpa using this
    have hz' : f i = z := by simpa [hil] using hz
    subst hz'
    refine ⟨(hf i hil).1, ?_⟩
    obtain ⟨v0, hv0⟩ : ∃ v, (cells (f i))[0]? = some v := ⟨_, List.getElem?_eq_getElem (by rw [hk1]; exact hk0)⟩
    have hc0 := (hf i hil).2 0 _ hv0
    obtain ⟨u0, hu0⟩ : ∃ v, (cells (f 0))[0]? = some v := ⟨_, List.getElem?_eq_getElem (by rw [hk1]; exact hk0)⟩
    have hd0 := (hf 0 (by omega)).2 0 _ hu0
    obtain ⟨b, off, sp⟩ := ad
    have hsp : sp = none := by
      cases sp with
      | none => rfl
      | some s => simp [Addr.add, World.cell?] at hd0; split at hd0 <;> simp_all
    subst hsp
    refine ⟨b, off, rfl, ?_, fun j v hj => ?_⟩
    · have := block_lt_of_cell hc0
      rw [add_add, addr_add0] at this
      exact this
    · have := (hf i hil).2 j v hj
      rw [add_add, addr_add0] at this
      exact this
end
end Go.Proofs.Ytohmmkkbfiembaa
