/- Numbers in binary64: finite ones as whole numbers of the least place; what sums, differences, products are. No program. -/
import Derived.Test.YtohmmkkbfiembaaFp1
namespace Go.Proofs.Ytohmmkkbfiembaa
open Ieee
set_option linter.unusedVariables false
set_option maxRecDepth 100000

def sgn (neg : Bool) (n : Nat) : Int := if neg then -(n : Int) else n
def sgb (x : Nat) : Bool := x / 2 ^ 63 % 2 == 1
def Fin' (x : Nat) : Prop := x % 2 ^ 63 < 2047 * 2 ^ 52
def NaN' (x : Nat) : Prop := 2047 * 2 ^ 52 < x % 2 ^ 63
def sv (x : Nat) : Int := sgn (sgb x) (mg (x % 2 ^ 63))

theorem read_fin {x : Nat} (h : Fin' x) : ∃ m p, double.read x = .number (sgb x) m p ∧ -1074 ≤ p ∧ m * 2 ^ (p + 1074).toNat = mg (x % 2 ^ 63) := by
  have hlp : double.leastPlace = -1074 := by decide
  have hsw : double.signWeight = 2 ^ 63 := by decide
  have hbin : double.binade = 2 ^ 52 := rfl
  have hinf : double.infRung = 2047 * 2 ^ 52 := by decide
  unfold Fin' at h
  unfold Format.read mg
  simp only [hlp, hsw, hbin, hinf]
  by_cases h1 : x % 2 ^ 63 < 2 ^ 52
  · rw [if_pos h1, if_pos h1]
    exact ⟨_, _, rfl, by omega, by simp⟩
  · rw [if_neg h1, if_neg h1, if_pos h]
    refine ⟨_, _, rfl, by omega, ?_⟩
    congr 2
    omega
theorem read_nan {x : Nat} (h : NaN' x) : ∃ s f, double.read x = .nan s f := by
  have hsw : double.signWeight = 2 ^ 63 := by decide
  have hbin : double.binade = 2 ^ 52 := rfl
  have hinf : double.infRung = 2047 * 2 ^ 52 := by decide
  unfold NaN' at h
  unfold Format.read
  simp only [hsw, hbin, hinf]
  rw [if_neg (by omega), if_neg (by omega), if_neg (by omega)]
  exact ⟨_, _, rfl⟩
theorem read_inf {x : Nat} (h : x % 2 ^ 63 = 2047 * 2 ^ 52) : double.read x = .infinity (sgb x) := by
  have hsw : double.signWeight = 2 ^ 63 := by decide
  have hbin : double.binade = 2 ^ 52 := rfl
  have hinf : double.infRung = 2047 * 2 ^ 52 := by decide
  unfold Format.read
  simp only [hsw, hbin, hinf]
  rw [if_neg (by omega), if_neg (by omega), if_pos h]
  rfl
theorem signed_eq (s : Bool) (m k : Nat) : signed s m k = sgn s (m * 2 ^ k) := by
  unfold signed sgn
  rw [Nat.shiftLeft_eq]
theorem sgn_mul (s : Bool) (m k : Nat) : sgn s (m * k) = sgn s m * (k : Int) := by
  unfold sgn
  cases s <;> simp [Int.neg_mul]
theorem word_sign {neg : Bool} {r : Nat} (h : r < 2 ^ 63) : (double.word neg r) % 2 ^ 63 = r ∧ sgb (double.word neg r) = neg ∧ double.word neg r < 2 ^ 64 := by
  have hsw : double.signWeight = 2 ^ 63 := by decide
  unfold Format.word sgb
  rw [hsw]
  cases neg
  · refine ⟨by simp; omega, ?_, by simp; omega⟩
    have e : r / 2 ^ 63 = 0 := Nat.div_eq_of_lt h
    simp only [Bool.false_eq_true, ↓reduceIte]
    rw [e]
    decide
  · refine ⟨by simp; omega, ?_, by simp; omega⟩
    have e : (2 ^ 63 + r) / 2 ^ 63 = 1 := by omega
    simp only [↓reduceIte]
    rw [e]
    decide

/-- A number that the format has (far below its top). -/
def Rep (b : Int) : Prop := ∃ k T, k ≤ 2 ^ 53 ∧ T + 53 < 2098 ∧ b.natAbs = k * 2 ^ T
theorem Rep.zero : Rep 0 := ⟨0, 0, by decide, by decide, by simp⟩
theorem Rep.neg {b : Int} (h : Rep b) : Rep (-b) := by
  obtain ⟨k, T, h1, h2, h3⟩ := h
  exact ⟨k, T, h1, h2, by rw [Int.natAbs_neg]; exact h3⟩
/-- r is E / 2 ^ d, rounded. -/
structure Rnd (E : Int) (d : Nat) (r : Nat) : Prop where
  lt : r < 2 ^ 64
  some_ : r % 2 ^ 63 ≤ 2047 * 2 ^ 52
  fin : ∀ b, Rep b → E.natAbs ≤ b.natAbs * 2 ^ d → Fin' r
  le : Fin' r → ∀ b, Rep b → E ≤ b * (2 ^ d : Nat) → sv r ≤ b
  ge : Fin' r → ∀ b, Rep b → b * (2 ^ d : Nat) ≤ E → b ≤ sv r
  neg : E < 0 → sgb r = true
  pos : 0 < E → sgb r = false

theorem rnd_near {neg : Bool} {mag : Nat} {place E : Int} {d : Nat} (h1 : E < 0 → neg = true) (h2 : 0 < E → neg = false)
    (hM : mag * 2 ^ (place + 1074).toNat * 2 ^ d = E.natAbs * 2 ^ (-(place + 1074)).toNat) : Rnd E d (double.nearest neg mag place) := by
  obtain ⟨g, v, hgv, hr, hfin, hb⟩ := near_spec neg mag place
  have hmin : min g (2047 * 2 ^ 52) < 2 ^ 63 := by omega
  obtain ⟨e1, e2, e3⟩ := word_sign (neg := neg) hmin
  rw [← hr] at e1 e2 e3
  obtain ⟨a, ha⟩ : ∃ a, a = 2 ^ (place + 1074).toNat := ⟨_, rfl⟩
  obtain ⟨c, hc⟩ : ∃ c, c = 2 ^ (-(place + 1074)).toNat := ⟨_, rfl⟩
  obtain ⟨D, hD⟩ : ∃ D, D = 2 ^ d := ⟨_, rfl⟩
  have hDp : 0 < D := by rw [hD]; exact Nat.two_pow_pos _
  have hcp : 0 < c := by rw [hc]; exact Nat.two_pow_pos _
  rw [← ha, ← hc, ← hD] at hM
  rw [← ha, ← hc] at hb
  have up : ∀ b : Int, Rep b → E.natAbs ≤ b.natAbs * D → v ≤ b.natAbs := by
    rintro b ⟨k, T, hk, hT, e⟩ h
    rw [e] at h ⊢
    refine (hb k T hk).1 (Nat.le_of_mul_le_mul_right (c := D) ?_ hDp)
    rw [hM]
    have := Nat.mul_le_mul_right c h
    calc E.natAbs * c ≤ k * 2 ^ T * D * c := this
      _ = k * 2 ^ T * c * D := by ac_rfl
  have dn : ∀ b : Int, Rep b → b.natAbs * D ≤ E.natAbs → b.natAbs ≤ v := by
    rintro b ⟨k, T, hk, hT, e⟩ h
    rw [e] at h ⊢
    refine (hb k T hk).2 (Nat.le_of_mul_le_mul_right (c := D) ?_ hDp)
    rw [hM]
    have := Nat.mul_le_mul_right c h
    calc k * 2 ^ T * c * D = k * 2 ^ T * D * c := by ac_rfl
      _ ≤ E.natAbs * c := this
  have hsv : Fin' (double.nearest neg mag place) → sv (double.nearest neg mag place) = sgn neg v := fun h => by
    unfold Fin' at h
    rw [e1] at h
    unfold sv
    rw [e1, e2, show min g (2047 * 2 ^ 52) = g by omega, hgv]
  refine ⟨e3, by rw [e1]; omega, fun b hbr h => ?_, fun hf b hbr h => ?_, fun hf b hbr h => ?_, fun h => by rw [e2, h1 h], fun h => by rw [e2, h2 h]⟩
  · rw [← hD] at h
    have h3 := up b hbr h
    obtain ⟨k, T, hk, hT, e⟩ := hbr
    rw [e] at h3
    unfold Fin'
    rw [e1]
    have := hfin (top_of h3 hk hT)
    omega
  · rw [hsv hf]
    rw [← hD] at h
    rcases Int.lt_or_le E 0 with hE | hE
    · rw [h1 hE]
      unfold sgn
      rw [if_pos rfl]
      rcases Int.lt_or_le b 0 with hb0 | hb0
      · have : b.natAbs * D ≤ E.natAbs := by
          have e : ((b.natAbs * D : Nat) : Int) = -(b * (D : Int)) := by rw [Int.natCast_mul, show (b.natAbs : Int) = -b by omega, Int.neg_mul]
          omega
        have := dn b hbr this
        omega
      · omega
    · have hb0 : 0 ≤ b := by
        rcases Int.lt_or_le b 0 with h0 | h0
        · have : b * (D : Int) < 0 := Int.mul_neg_of_neg_of_pos h0 (by omega)
          omega
        · exact h0
      have : E.natAbs ≤ b.natAbs * D := by
        have e : ((b.natAbs * D : Nat) : Int) = b * (D : Int) := by rw [Int.natCast_mul, show (b.natAbs : Int) = b by omega]
        omega
      have := up b hbr this
      unfold sgn
      split <;> omega
  · rw [hsv hf]
    rw [← hD] at h
    rcases Int.lt_or_le 0 E with hE | hE
    · rw [h2 hE]
      unfold sgn
      simp only [Bool.false_eq_true, ↓reduceIte]
      rcases Int.lt_or_le 0 b with hb0 | hb0
      · have : b.natAbs * D ≤ E.natAbs := by
          have e : ((b.natAbs * D : Nat) : Int) = b * (D : Int) := by rw [Int.natCast_mul, show (b.natAbs : Int) = b by omega]
          omega
        have := dn b hbr this
        omega
      · omega
    · have hb0 : b ≤ 0 := by
        rcases Int.lt_or_le 0 b with h0 | h0
        · have : 0 < b * (D : Int) := Int.mul_pos h0 (by omega)
          omega
        · exact h0
      have : E.natAbs ≤ b.natAbs * D := by
        have e : ((b.natAbs * D : Nat) : Int) = -(b * (D : Int)) := by rw [Int.natCast_mul, show (b.natAbs : Int) = -b by omega, Int.neg_mul]
        omega
      have := up b hbr this
      unfold sgn
      split <;> omega
theorem Rnd.exact {E : Int} {r : Nat} (h : Rnd E 0 r) (hE : Rep E) : Fin' r ∧ sv r = E := by
  have hf := h.fin E hE (by simp)
  have h1 := h.le hf E hE (by simp)
  have h2 := h.ge hf E hE (by simp)
  exact ⟨hf, by omega⟩
/-- Two words of one value, but for the sign of a zero. -/
theorem Rnd.bound {E : Int} {d : Nat} {r : Nat} (h : Rnd E d r) {b : Int} (hb : Rep b) (hE : E.natAbs ≤ b.natAbs * 2 ^ d) : Fin' r ∧ (sv r).natAbs ≤ b.natAbs := by
  have hf := h.fin b hb hE
  have h1 : ∀ c : Int, Rep c → c.natAbs = b.natAbs → 0 ≤ c → -c ≤ sv r ∧ sv r ≤ c := fun c hc e h0 => by
    have e2 : ((c.natAbs * 2 ^ d : Nat) : Int) = c * ((2 ^ d : Nat) : Int) := by rw [Int.natCast_mul, show (c.natAbs : Int) = c by omega]
    rw [e] at e2
    exact ⟨h.ge hf (-c) hc.neg (by rw [Int.neg_mul]; omega), h.le hf c hc (by omega)⟩
  rcases Int.lt_or_le b 0 with h0 | h0
  · have := h1 (-b) hb.neg (by omega) (by omega); exact ⟨hf, by omega⟩
  · have := h1 b hb rfl h0; exact ⟨hf, by omega⟩

theorem pow_split {i base : Int} (h : base ≤ i) (h1 : -1074 ≤ base) : (i + 1074).toNat = (i - base).toNat + (base + 1074).toNat := by omega
theorem add_rnd {x y : Nat} (hx : Fin' x) (hy : Fin' y) : ∃ r, double.add x y = some r ∧ Rnd (sv x + sv y) 0 r := by
  obtain ⟨m, i, e1, h1, k1⟩ := read_fin hx
  obtain ⟨n, j, e2, h2, k2⟩ := read_fin hy
  unfold Format.add
  rw [e1, e2]
  simp only [Datum.sum, Option.map_some, Format.write]
  refine ⟨_, rfl, ?_⟩
  obtain ⟨base, hb⟩ : ∃ b, b = min i j := ⟨_, rfl⟩
  rw [← hb]
  obtain ⟨tot, ht⟩ : ∃ t, t = signed (sgb x) m (i - base).toNat + signed (sgb y) n (j - base).toNat := ⟨_, rfl⟩
  rw [← ht]
  have hE : sv x + sv y = tot * ((2 ^ (base + 1074).toNat : Nat) : Int) := by
    rw [ht, signed_eq, signed_eq, Int.add_mul, ← sgn_mul, ← sgn_mul, Nat.mul_assoc, Nat.mul_assoc, ← Nat.pow_add, ← Nat.pow_add, ← pow_split (by omega) (by omega), ← pow_split (by omega) (by omega), k1, k2]
    rfl
  have hp : (0 : Int) < ((2 ^ (base + 1074).toNat : Nat) : Int) := by have := Nat.two_pow_pos (base + 1074).toNat; omega
  refine rnd_near (fun h => ?_) (fun h => ?_) ?_
  · have : tot < 0 := by
      rcases Int.lt_or_le tot 0 with h0 | h0
      · exact h0
      · have := Int.mul_nonneg h0 (Int.le_of_lt hp); omega
    rw [if_neg (by omega)]
    simp; omega
  · have : 0 < tot := by
      rcases Int.lt_or_le 0 tot with h0 | h0
      · exact h0
      · have := Int.mul_nonpos_of_nonpos_of_nonneg h0 (Int.le_of_lt hp); omega
    rw [if_neg (by omega)]
    simp; omega
  · rw [hE, Int.natAbs_mul, Int.natAbs_natCast, show (-(base + 1074)).toNat = 0 by omega]
/-- The word with the other sign. -/
theorem sub_rnd {x y : Nat} (hx : Fin' x) (hy : Fin' y) : ∃ r, double.sub x y = some r ∧ Rnd (sv x - sv y) 0 r := by
  obtain ⟨m, i, e1, h1, k1⟩ := read_fin hx
  obtain ⟨n, j, e2, h2, k2⟩ := read_fin hy
  unfold Format.sub
  rw [e1, e2]
  simp only [Datum.opposite, Datum.sum, Option.map_some, Format.write]
  refine ⟨_, rfl, ?_⟩
  obtain ⟨base, hb⟩ : ∃ b, b = min i j := ⟨_, rfl⟩
  rw [← hb]
  obtain ⟨tot, ht⟩ : ∃ t, t = signed (sgb x) m (i - base).toNat + signed (!sgb y) n (j - base).toNat := ⟨_, rfl⟩
  rw [← ht]
  have hopp : ∀ (s : Bool) (n : Nat), sgn (!s) n = - sgn s n := fun s n => by cases s <;> simp [sgn]
  have hE : sv x - sv y = tot * ((2 ^ (base + 1074).toNat : Nat) : Int) := by
    rw [ht, signed_eq, signed_eq, Int.add_mul, ← sgn_mul, ← sgn_mul, Nat.mul_assoc, Nat.mul_assoc, ← Nat.pow_add, ← Nat.pow_add, ← pow_split (by omega) (by omega), ← pow_split (by omega) (by omega), k1, k2, hopp]
    rfl
  have hp : (0 : Int) < ((2 ^ (base + 1074).toNat : Nat) : Int) := by have := Nat.two_pow_pos (base + 1074).toNat; omega
  refine rnd_near (fun h => ?_) (fun h => ?_) ?_
  · have : tot < 0 := by
      rcases Int.lt_or_le tot 0 with h0 | h0
      · exact h0
      · have := Int.mul_nonneg h0 (Int.le_of_lt hp); omega
    rw [if_neg (by omega)]
    simp; omega
  · have : 0 < tot := by
      rcases Int.lt_or_le 0 tot with h0 | h0
      · exact h0
      · have := Int.mul_nonpos_of_nonpos_of_nonneg h0 (Int.le_of_lt hp); omega
    rw [if_neg (by omega)]
    simp; omega
  · rw [hE, Int.natAbs_mul, Int.natAbs_natCast, show (-(base + 1074)).toNat = 0 by omega]
theorem sgn_sgn (s t : Bool) (m n : Nat) : sgn s m * sgn t n = sgn (s ^^ t) (m * n) := by
  unfold sgn
  cases s <;> cases t <;> simp [Int.neg_mul, Int.mul_neg]
theorem mul_rnd {x y : Nat} (hx : Fin' x) (hy : Fin' y) : ∃ r, double.mul x y = some r ∧ Rnd (sv x * sv y) 1074 r := by
  obtain ⟨m, i, e1, h1, k1⟩ := read_fin hx
  obtain ⟨n, j, e2, h2, k2⟩ := read_fin hy
  unfold Format.mul
  rw [e1, e2]
  simp only [Datum.product, Option.map_some, Format.write]
  refine ⟨_, rfl, ?_⟩
  have hE : sv x * sv y = sgn (sgb x ^^ sgb y) (m * 2 ^ (i + 1074).toNat * (n * 2 ^ (j + 1074).toNat)) := by rw [k1, k2, ← sgn_sgn]; rfl
  have hA : (sv x * sv y).natAbs = m * 2 ^ (i + 1074).toNat * (n * 2 ^ (j + 1074).toNat) := by rw [hE]; unfold sgn; split <;> omega
  refine rnd_near (fun h => ?_) (fun h => ?_) ?_
  · rw [hE] at h
    unfold sgn at h
    split at h
    · assumption
    · omega
  · rw [hE] at h
    unfold sgn at h
    split at h
    · omega
    · rename_i h3; simpa using h3
  · rw [hA]
    have e : (i + j + 1074).toNat + 1074 = (i + 1074).toNat + (j + 1074).toNat + (-(i + j + 1074)).toNat := by omega
    calc m * n * 2 ^ (i + j + 1074).toNat * 2 ^ 1074 = m * n * 2 ^ ((i + j + 1074).toNat + 1074) := by rw [Nat.pow_add]; ac_rfl
      _ = m * n * (2 ^ (i + 1074).toNat * 2 ^ (j + 1074).toNat * 2 ^ (-(i + j + 1074)).toNat) := by rw [e, Nat.pow_add, Nat.pow_add]
      _ = m * 2 ^ (i + 1074).toNat * (n * 2 ^ (j + 1074).toNat) * 2 ^ (-(i + j + 1074)).toNat := by ac_rfl
theorem cmp_mul {a b p : Int} (hp : 0 < p) : compare (a * p) (b * p) = compare a b := by
  rcases Int.lt_trichotomy a b with h | h | h
  · have := Int.mul_lt_mul_of_pos_right h hp
    rw [Int.compare_eq_lt.2 h, Int.compare_eq_lt.2 this]
  · subst h; simp
  · have := Int.mul_lt_mul_of_pos_right h hp
    rw [Int.compare_eq_gt.2 h, Int.compare_eq_gt.2 this]
theorem order_fin {x y : Nat} (hx : Fin' x) (hy : Fin' y) : double.order x y = some (compare (sv x) (sv y)) := by
  obtain ⟨m, i, e1, h1, k1⟩ := read_fin hx
  obtain ⟨n, j, e2, h2, k2⟩ := read_fin hy
  unfold Format.order
  rw [e1, e2]
  simp only [Datum.order, Option.some.injEq]
  obtain ⟨base, hb⟩ : ∃ b, b = min i j := ⟨_, rfl⟩
  rw [← hb]
  have hp : (0 : Int) < ((2 ^ (base + 1074).toNat : Nat) : Int) := by have := Nat.two_pow_pos (base + 1074).toNat; omega
  rw [← cmp_mul hp, signed_eq, signed_eq, ← sgn_mul, ← sgn_mul, Nat.mul_assoc, Nat.mul_assoc, ← Nat.pow_add, ← Nat.pow_add, ← pow_split (by omega) (by omega), ← pow_split (by omega) (by omega), k1, k2]
  rfl
end Go.Proofs.Ytohmmkkbfiembaa
