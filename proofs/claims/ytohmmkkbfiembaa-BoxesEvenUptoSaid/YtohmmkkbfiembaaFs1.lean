/- Room shared out, as data: turns over what is frozen. No program's run. -/
import Derived.Test.YtohmmkkbfiembaaFp3
namespace Go.Proofs.Ytohmmkkbfiembaa
open Ieee
set_option linter.unusedVariables false
set_option maxRecDepth 100000

def addD (x y : Nat) : Nat := (double.add x y).getD 0
def subD (x y : Nat) : Nat := (double.sub x y).getD 0
def mulD (x y : Nat) : Nat := (double.mul x y).getD 0
def quoD (x y : Nat) : Nat := (double.div x y).getD 0
def absD (x : Nat) : Nat := x % 9223372036854775808
def ltD (x y : Nat) : Bool := od x y == some .lt
def gtD (x y : Nat) : Bool := od x y == some .gt
def eqD (x y : Nat) : Bool := od x y == some .eq
def one : Nat := 4607182418800017408

/-- What the sizes come to. -/
def sumF (g : Nat → Nat) : Nat → Nat
  | 0 => 0
  | i + 1 => addD (sumF g i) (g i)
def leftF (room : Nat) (Sz Bs : Nat → Nat) (Fz : Nat → Bool) : Nat → Nat
  | 0 => room
  | i + 1 => subD (leftF room Sz Bs Fz i) (if Fz i = true then Sz i else Bs i)
def facF (fac : Nat → Nat) (Fz : Nat → Bool) : Nat → Nat
  | 0 => 0
  | i + 1 => if Fz i = true then facF fac Fz i else addD (facF fac Fz i) (fac i)
def facQ (fac Bs : Nat → Nat) (Fz : Nat → Bool) : Nat → Nat
  | 0 => 0
  | i + 1 => if Fz i = true then facQ fac Bs Fz i else addD (facQ fac Bs Fz i) (mulD (fac i) (Bs i))
def restD (first rest f : Nat) : Nat := if (ltD f one && ltD (absD (mulD first f)) (absD rest)) = true then mulD first f else rest
def targD (growing : Bool) (rest f q b fa : Nat) : Nat :=
  if eqD rest 0 = true then b else if growing = true then addD b (mulD rest (quoD fa f))
  else if eqD q 0 = true then b else subD b (mulD (absD rest) (quoD (mulD fa b) q))
/-- A sum of what is not frozen; none: no number. -/
def sumO (over : Nat → Nat) (Fz : Nat → Bool) : Nat → Option Nat
  | 0 => some 0
  | i + 1 => if Fz i = true then sumO over Fz i else (sumO over Fz i).bind fun a => double.add a (over i)
def posO (v : Option Nat) : Bool := match v with | some a => gtD a 0 | none => false
def negO (v : Option Nat) : Bool := match v with | some a => ltD a 0 | none => false
def frzD (v : Option Nat) (o : Nat) : Bool := !(posO v && !gtD o 0) && !(negO v && !ltD o 0)

/-- All that stays while room is shared out. -/
structure Shr where
  n : Nat
  room : Nat
  first : Nat
  growing : Bool
  Bs : Nat → Nat
  fac : Nat → Nat
  lo : Nat → Nat
  hi : Nat → Nat
namespace Shr
variable (s : Shr)
def rest (Sz : Nat → Nat) (Fz : Nat → Bool) : Nat := restD s.first (leftF s.room Sz s.Bs Fz s.n) (facF s.fac Fz s.n)
def targ (Sz : Nat → Nat) (Fz : Nat → Bool) (i : Nat) : Nat := targD s.growing (s.rest Sz Fz) (facF s.fac Fz s.n) (facQ s.fac s.Bs Fz s.n) (s.Bs i) (s.fac i)
def newS (Sz : Nat → Nat) (Fz : Nat → Bool) (i : Nat) : Nat := btwD (s.lo i) (s.targ Sz Fz i) (s.hi i)
def over (Sz : Nat → Nat) (Fz : Nat → Bool) (i : Nat) : Nat := subD (s.newS Sz Fz i) (s.targ Sz Fz i)
def turnS (Sz : Nat → Nat) (Fz : Nat → Bool) (i : Nat) : Nat := if Fz i = true then Sz i else s.newS Sz Fz i
def turnV (Sz : Nat → Nat) (Fz : Nat → Bool) : Option Nat := sumO (s.over Sz Fz) Fz s.n
def turnF (Sz : Nat → Nat) (Fz : Nat → Bool) (i : Nat) : Bool := Fz i || frzD (s.turnV Sz Fz) (s.over Sz Fz i)
end Shr

theorem Bd.up {T k e x : Nat} (h : Bd T (k * 2 ^ e) x) : Bd (T + e) k x := ⟨h.1, h.2.1, by rw [Nat.pow_add]; have := h.2.2; rw [show k * (2 ^ T * 2 ^ e) = k * 2 ^ e * 2 ^ T by ac_rfl]; exact this⟩
theorem addD_bd {T k j x y : Nat} (hx : Bd T k x) (hy : Bd T j y) (hk : k + j ≤ 2 ^ 53) (hT : T + 53 < 2098) : double.add x y = some (addD x y) ∧ Bd T (k + j) (addD x y) := by
  obtain ⟨r, h1, h2, _⟩ := add_bd hx hy hk hT
  unfold addD
  rw [h1]
  exact ⟨rfl, h2⟩
theorem subD_bd {T k j x y : Nat} (hx : Bd T k x) (hy : Bd T j y) (hk : k + j ≤ 2 ^ 53) (hT : T + 53 < 2098) : double.sub x y = some (subD x y) ∧ Bd T (k + j) (subD x y) := by
  obtain ⟨r, h1, h2, _⟩ := sub_bd hx hy hk hT
  unfold subD
  rw [h1]
  exact ⟨rfl, h2⟩
theorem mulD_bd {S T U k j x y : Nat} (hx : Bd S k x) (hy : Bd T j y) (hk : k * j ≤ 2 ^ 53) (hU : S + T = U + 1074) (hT : U + 53 < 2098) : double.mul x y = some (mulD x y) ∧ Bd U (k * j) (mulD x y) := by
  obtain ⟨r, h1, h2⟩ := mul_bd hx hy hk hU hT
  unfold mulD
  rw [h1]
  exact ⟨rfl, h2⟩

/-! What is no NaN. -/
theorem num_word {neg : Bool} {g : Nat} : Num (double.word neg (min g (2047 * 2 ^ 52))) := by
  obtain ⟨e1, e2, e3⟩ := word_sign (neg := neg) (r := min g (2047 * 2 ^ 52)) (by omega)
  refine ⟨by omega, ?_⟩
  have : (9223372036854775808 : Nat) = 2 ^ 63 := by decide
  rw [this, e1]
  omega
theorem num_near {neg : Bool} {mag : Nat} {place : Int} : Num (double.nearest neg mag place) := by
  obtain ⟨g, v, _, hr, _⟩ := near_spec neg mag place
  rw [hr]
  exact num_word
theorem num_inf {neg : Bool} : Num (double.word neg double.infRung) := by
  have := num_word (neg := neg) (g := 2047 * 2 ^ 52)
  rwa [Nat.min_self] at this
theorem Num.read {x : Nat} (h : Num x) : (∃ m p, double.read x = .number (sgb x) m p) ∨ double.read x = .infinity (sgb x) := by
  rcases h.cases with h | h
  · obtain ⟨m, p, e, _⟩ := read_fin h; exact .inl ⟨m, p, e⟩
  · exact .inr (read_inf h)
theorem sub_num {x y : Nat} (hx : Fin' x) (hy : Num y) : double.sub x y = some (subD x y) ∧ Num (subD x y) := by
  obtain ⟨m, p, e, _⟩ := read_fin hx
  unfold subD Format.sub
  rcases hy.read with ⟨n, q, e2⟩ | e2
  · rw [e, e2]
    simp only [Datum.opposite, Datum.sum, Option.map_some, Format.write, Option.getD_some]
    exact ⟨trivial, num_near⟩
  · rw [e, e2]
    simp only [Datum.opposite, Datum.sum, Option.map_some, Format.write, Option.getD_some]
    exact ⟨trivial, num_inf⟩
theorem add_num {x y : Nat} (hx : Fin' x) (hy : Num y) : double.add x y = some (addD x y) ∧ Num (addD x y) := by
  obtain ⟨m, p, e, _⟩ := read_fin hx
  unfold addD Format.add
  rcases hy.read with ⟨n, q, e2⟩ | e2
  · rw [e, e2]
    simp only [Datum.sum, Option.map_some, Format.write, Option.getD_some]
    exact ⟨trivial, num_near⟩
  · rw [e, e2]
    simp only [Datum.sum, Option.map_some, Format.write, Option.getD_some]
    exact ⟨trivial, num_inf⟩
/-- A finite word that is no zero. -/
def NZ (x : Nat) : Prop := Fin' x ∧ x % 9223372036854775808 ≠ 0
theorem NZ.mag {x m : Nat} {p : Int} (h : NZ x) (e : double.read x = .number (sgb x) m p) : m ≠ 0 := by
  rintro rfl
  obtain ⟨m', p', e', hp, hm⟩ := read_fin h.1
  rw [e] at e'
  simp only [Datum.number.injEq, true_and] at e'
  rw [← e'.1, Nat.zero_mul] at hm
  have h2 := h.2
  have : mg 1 ≤ mg (x % 2 ^ 63) := mg_mono (by omega)
  rw [← hm] at this
  revert this
  decide
theorem mul_num {x y : Nat} (hx : NZ x) (hy : Num y) : double.mul x y = some (mulD x y) ∧ Num (mulD x y) := by
  obtain ⟨m, p, e, _⟩ := read_fin hx.1
  have hm := hx.mag e
  unfold mulD Format.mul
  rcases hy.read with ⟨n, q, e2⟩ | e2
  · rw [e, e2]
    simp only [Datum.product, Option.map_some, Format.write, Option.getD_some]
    exact ⟨trivial, num_near⟩
  · rw [e, e2]
    simp only [Datum.product]
    rw [if_neg hm]
    simp only [Option.map_some, Format.write, Option.getD_some]
    exact ⟨trivial, num_inf⟩
theorem div_num {x y : Nat} (hx : Fin' x) (hy : Fin' y) (h : NZ x ∨ NZ y) : double.div x y = some (quoD x y) ∧ Num (quoD x y) := by
  obtain ⟨m, p, e, _⟩ := read_fin hx
  obtain ⟨n, q, e2, _⟩ := read_fin hy
  unfold quoD Format.div
  rw [e, e2]
  simp only [Datum.quotient]
  by_cases hn : n = 0
  · rw [if_pos hn]
    have hm : m ≠ 0 := by
      rcases h with h | h
      · exact h.mag e
      · exact absurd hn (h.mag e2)
    rw [if_neg hm]
    simp only [Option.map_some, Format.write, Option.getD_some]
    exact ⟨trivial, num_inf⟩
  · rw [if_neg hn]
    simp only [Option.map_some, Format.write, Option.getD_some]
    exact ⟨trivial, num_near⟩
theorem mg_zero {r : Nat} (h : mg r = 0) : r = 0 := by
  rcases Nat.eq_zero_or_pos r with h1 | h1
  · exact h1
  · have : mg 1 ≤ mg r := mg_mono h1
    rw [h] at this
    exact absurd this (by decide)
theorem nz_of {x : Nat} (h : Fin' x) (he : eqD x 0 = false) : NZ x := by
  refine ⟨h, fun h0 => ?_⟩
  unfold eqD od at he
  rw [show FloatKind.f64.format = double from rfl, order_fin h (show Fin' 0 from (by decide : 0 % 2 ^ 63 < 2047 * 2 ^ 52))] at he
  have e : sv x = 0 := by
    unfold sv
    rw [show x % 2 ^ 63 = 0 from h0, show mg 0 = 0 by decide]
    unfold sgn
    split <;> rfl
  rw [e, show sv 0 = 0 by decide] at he
  simp at he
theorem absD_fin {x : Nat} (h : NZ x) : NZ (absD x) := by
  obtain ⟨h1, h2⟩ := h
  unfold absD NZ Fin' at *
  omega
end Go.Proofs.Ytohmmkkbfiembaa
