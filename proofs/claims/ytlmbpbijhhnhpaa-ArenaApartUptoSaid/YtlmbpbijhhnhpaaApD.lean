/- ArenaApart's two arenas beside one another, and the list of handles: what each step of the statement does to them. -/
import Derived.Test.YtlmbpbijhhnhpaaArS
import Derived.Test.YtlmbpbijhhnhpaaArTh
import Derived.Test.YtlmbpbijhhnhpaaHa5
namespace Go.Proofs.Ytlmbpbijhhnhpaa
open Go.RowKit
set_option linter.unusedVariables false

structure Thg where
  xs : ByteArray
  xa : Option Addr
  xn : Nat
  xc : Nat
  xf : Nat
def Thg.cells (t : Thg) : List Value := [.string t.xs, .slice t.xa t.xn t.xc, .float .f64 t.xf]
structure Thg.Ok (t : Thg) : Prop where
  n : t.xn ≤ 9223372036854775807
  a : t.xn = 0 ∨ ∃ b off, t.xa = some ⟨b, off, none⟩

/-- The arena of things behind i of them. -/
def apA (L : List Thg) (i : Nat) : Ar := { S := L.length + 1, G := 1, all := (L.take i).map fun t => (1, true, t.cells), free := [], count := i, ret := 0 }
/-- The arena of texts behind i of them. -/
def apS (X : List ByteArray) (i : Nat) : Ar := { S := 2147483647, G := 4294967295, all := (X.take i).map fun x => (1, true, [.string x]), free := [], count := i, ret := 0 }
def hl (n : Nat) : List (Nat × Nat) := (List.range n).map fun k => (k + 1, 1)
theorem hl_length (n : Nat) : (hl n).length = n := by simp [hl]
theorem hl_succ (n : Nat) : hl (n + 1) = hl n ++ [(n + 1, 1)] := by simp [hl, List.range_succ]
theorem hl_at {n k : Nat} (h : k < n) : (hl n)[k]? = some (k + 1, 1) := by simp [hl, h]

theorem apA_all_length {L : List Thg} {i : Nat} (h : i ≤ L.length) : (apA L i).all.length = i := by simp [apA]; omega
theorem apS_all_length {X : List ByteArray} {i : Nat} (h : i ≤ X.length) : (apS X i).all.length = i := by simp [apS]; omega
theorem apA_succ {L : List Thg} {i : Nat} {t : Thg} (h : L[i]? = some t) : { apA L i with all := (apA L i).all ++ [(1, true, t.cells)], count := (apA L i).count + 1 } = apA L (i + 1) := by
  simp [apA, List.take_add_one, h]
theorem apS_succ {X : List ByteArray} {i : Nat} {x : ByteArray} (h : X[i]? = some x) : { apS X i with all := (apS X i).all ++ [(1, true, [.string x])], count := (apS X i).count + 1 } = apS X (i + 1) := by
  simp [apS, List.take_add_one, h]
theorem apA_at {L : List Thg} {i : Nat} {t : Thg} (h : L[i]? = some t) : (apA L L.length).all[i]? = some (1, true, t.cells) := by simp [apA, h]
theorem apS_at {X : List ByteArray} {i : Nat} {x : ByteArray} (h : X[i]? = some x) : (apS X (i + 1)).all[i]? = some (1, true, [.string x]) := by
  simp [apS, h]

/-- Both arenas and the handles. -/
structure Ap (B : Nat) (w0 : World) (ab bb : Nat) (A S : Ar) (n : Nat) (hv : Value) (w : World) : Prop where
  a : ∃ av, ArAt 105 110 37 3 B w ab A av (.slice none 0 0)
  s : ∃ av, ArAt 108 113 37 1 B w bb S av (.slice none 0 0)
  row : w.ownsRow B 39 2 hv n (hcells (hl n))
  bel : Below B w0 w
  le : B ≤ w.heap.size

theorem nil_row {w w' : World} {B : Nat} {e : TypeId} {size n : Nat} {xs : List Value} (h : w.ownsRow B e size (.slice none 0 0) n xs) : w'.ownsRow B e size (.slice none 0 0) n xs := by
  refine ⟨h.1, ?_⟩
  rcases h.2 with hn | ⟨g, cap, cur, hh, _⟩
  · exact .inl hn
  · cases hh

theorem ArAt.keptN {tA tS tF m B : Nat} {w w' : World} {ab : Nat} {A : Ar} {av : Value} (h : ArAt tA tS tF m B w ab A av (.slice none 0 0)) {T : List TypeId} {B' : Nat} (hf : FrT T B' w w') (h1 : tA ∉ T) (h2 : tS ∉ T) : ArAt tA tS tF m B w' ab A av (.slice none 0 0) :=
  ⟨h.ok, h.base, hf.blk h.blk h1, hf.row h.rowA h2, nil_row h.rowF⟩

section
variable {B : Nat} {w0 : World} {ab bb : Nat} {A S : Ar} {n : Nat} {hv : Value} {w w' : World}
theorem Ap.below (h : Ap B w0 ab bb A S n hv w) (b : Below w.heap.size w w') : Ap B w0 ab bb A S n hv w' :=
  have f : FrT [] 0 w w' := FrT.of_below b
  let ⟨_, ha⟩ := h.a
  let ⟨_, hs⟩ := h.s
  ⟨⟨_, ha.below b⟩, ⟨_, hs.below b⟩, f.row h.row (by simp), h.bel.trans (b.mono h.le), Nat.le_trans h.le b.size⟩
theorem Ap.alloc (h : Ap B w0 ab bb A S n hv w) (o : Obj) : Ap B w0 ab bb A S n hv (w.alloc o) := h.below ((Below.refl _ _).alloc (Nat.le_refl _) o)
theorem Ap.things (h : Ap B w0 ab bb A S n hv w) {A' : Ar} {av : Value} (ha : ArAt 105 110 37 3 B w' ab A' av (.slice none 0 0)) (f : FrT [105, 110, 37] B w w') : Ap B w0 ab bb A' S n hv w' :=
  let ⟨_, hs⟩ := h.s
  ⟨⟨_, ha⟩, ⟨_, hs.keptN f (by decide) (by decide)⟩, f.row h.row (by decide), h.bel.trans (f.below h.le), Nat.le_trans h.le f.size⟩
theorem Ap.texts (h : Ap B w0 ab bb A S n hv w) {S' : Ar} {av : Value} (hs : ArAt 108 113 37 1 B w' bb S' av (.slice none 0 0)) (f : FrT [108, 113, 37] B w w') : Ap B w0 ab bb A S' n hv w' :=
  let ⟨_, ha⟩ := h.a
  ⟨⟨_, ha.keptN f (by decide) (by decide)⟩, ⟨_, hs⟩, f.row h.row (by decide), h.bel.trans (f.below h.le), Nat.le_trans h.le f.size⟩
theorem Ap.told (h : Ap B w0 ab bb A S n hv w) (hg : w.grownBy w' hv.ownBlock) {hv' : Value} (ho : w'.ownsRow B 39 2 hv' (n + 1) (hcells (hl n) ++ [.int .u32 ((n : Int) + 1), .int .u32 1])) : Ap B w0 ab bb A S (n + 1) hv' w' :=
  have f : FrT [39] B w w' := (FrT.refl _ _ _).append h.row (Nat.le_refl _) (by simp) hg
  let ⟨_, ha⟩ := h.a
  let ⟨_, hs⟩ := h.s
  ⟨⟨_, ha.kept f (by decide) (by decide) (by decide)⟩, ⟨_, hs.kept f (by decide) (by decide) (by decide)⟩, by rw [hl_succ, hcells_append]; simpa [hcells] using ho, h.bel.trans (f.below h.le), Nat.le_trans h.le f.size⟩
end

/-- What holds of the arena of things while some are taken out. -/
structure ApF (A : Ar) (n gone : Nat) : Prop where
  S : A.S = n + 1
  G : A.G = 1
  free : A.free = []
  len : A.all.length = n
  ret : A.ret = gone
  thing : ∀ (k : Nat) x, A.all[k]? = some x → ∃ t : Thg, x = (1, x.2.1, t.cells)

theorem ApF.start (L : List Thg) : ApF (apA L L.length) L.length 0 :=
  ⟨rfl, rfl, rfl, apA_all_length (Nat.le_refl _), rfl, fun k x hx => by
    simp only [apA, List.take_length, List.getElem?_map, Option.map_eq_some_iff] at hx
    obtain ⟨t, _, rfl⟩ := hx
    exact ⟨t, rfl⟩⟩

theorem ApF.freed {A : Ar} {n gone : Nat} (h : ApF A n gone) (k : Nat) : ApF { A with all := A.all.set k (1, false, [.string ⟨#[]⟩, .slice none 0 0, .float .f64 0]), count := A.count - 1, ret := A.ret + 1 } n (gone + 1) :=
  ⟨h.S, h.G, h.free, by simpa using h.len, by simp [h.ret], fun j x hx => by
    by_cases hj : k = j
    · subst hj
      have hl := (List.getElem?_eq_some_iff.1 hx).1
      simp at hl
      simp [hl] at hx
      subst hx
      exact ⟨⟨⟨#[]⟩, none, 0, 0, 0⟩, rfl⟩
    · simp [List.getElem?_set_ne hj] at hx
      exact h.thing j x hx⟩

theorem ApF.sum {A : Ar} {n gone : Nat} (h : ApF A n gone) (ok : A.Ok 3) : A.count + gone = n := by
  have := ok.sum
  have h1 := h.free
  have h2 := h.len
  have h3 := h.ret
  rw [h1] at this
  simp at this
  omega

/-- A slot of a handle that was told: taken out already, or not. -/
theorem ApF.slot {A : Ar} {n gone : Nat} (h : ApF A n gone) {k : Nat} (hk : k < n) : (∃ t : Thg, A.all[k]? = some (1, true, t.cells)) ∨ A.live (k + 1) 1 = false := by
  obtain ⟨x, hx⟩ : ∃ x, A.all[k]? = some x := ⟨_, List.getElem?_eq_getElem (by rw [h.len]; exact hk)⟩
  obtain ⟨t, ht⟩ := h.thing k x hx
  cases hu : x.2.1 with
  | true => rw [hu] at ht; exact .inl ⟨t, by rw [hx, ht]⟩
  | false =>
    right
    unfold Ar.live
    rw [Nat.add_sub_cancel, hx, ht, hu]
    simp
end Go.Proofs.Ytlmbpbijhhnhpaa
