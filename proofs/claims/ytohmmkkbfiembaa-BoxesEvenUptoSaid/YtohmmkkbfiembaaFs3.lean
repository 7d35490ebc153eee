/- Room shared out: from the lists that are told; turn by turn; how many are open. No program's run. -/
import Derived.Test.YtohmmkkbfiembaaFs2
import Derived.Test.YtohmmkkbfiembaaFw1
namespace Go.Proofs.Ytohmmkkbfiembaa
open Ieee
set_option linter.unusedVariables false
set_option maxRecDepth 100000

def cnt : Nat → (Nat → Bool) → Nat
  | 0, _ => 0
  | n + 1, F => cnt n F + (if F n = true then 0 else 1)
theorem cnt_le (n : Nat) (F : Nat → Bool) : cnt n F ≤ n := by
  induction n with
  | zero => exact Nat.le_refl _
  | succ n ih => unfold cnt; split <;> omega
theorem cnt_congr {n : Nat} {F G : Nat → Bool} (h : ∀ i, i < n → F i = G i) : cnt n F = cnt n G := by
  induction n with
  | zero => rfl
  | succ n ih => unfold cnt; rw [ih (fun i hi => h i (by omega)), h n (by omega)]
theorem cnt_upd {n i : Nat} {F G : Nat → Bool} (hi : i < n) (hF : F i = false) (hG : G i = true) (h : ∀ j, j ≠ i → F j = G j) : cnt n F = cnt n G + 1 := by
  induction n with
  | zero => omega
  | succ n ih =>
    unfold cnt
    by_cases e : i = n
    · subst e
      rw [hF, hG, cnt_congr (n := i) (F := F) (G := G) (fun j hj => h j (by omega))]
      simp
    · rw [ih (by omega), h n (Ne.symm e)]
      omega
theorem cnt_zero {n : Nat} {F : Nat → Bool} (h : cnt n F = 0) : ∀ i, i < n → F i = true := by
  induction n with
  | zero => intro i hi; omega
  | succ n ih =>
    unfold cnt at h
    intro i hi
    by_cases e : i = n
    · subst e
      cases hf : F i with
      | true => rfl
      | false => rw [hf] at h; simp at h
    · exact ih (by omega) i (by omega)
theorem cnt_pos {n : Nat} {F : Nat → Bool} (h : 0 < cnt n F) : ∃ i, i < n ∧ F i = false := by
  induction n with
  | zero => exact absurd h (Nat.lt_irrefl 0)
  | succ n ih =>
    unfold cnt at h
    by_cases e : F n = true
    · rw [if_pos e] at h
      obtain ⟨i, h1, h2⟩ := ih (by omega)
      exact ⟨i, by omega, h2⟩
    · exact ⟨n, by omega, by simpa using e⟩
theorem cnt_mono {n : Nat} {F G : Nat → Bool} (h : ∀ i, i < n → F i = true → G i = true) : cnt n G ≤ cnt n F := by
  induction n with
  | zero => exact Nat.le_refl _
  | succ n ih =>
    have := ih (fun i hi => h i (by omega))
    unfold cnt
    by_cases e : F n = true
    · rw [if_pos e, if_pos (h n (by omega) e)]; omega
    · rw [if_neg e]; split <;> omega
theorem cnt_lt {n : Nat} {F G : Nat → Bool} (h : ∀ i, i < n → F i = true → G i = true) {k : Nat} (hk : k < n) (h1 : F k = false) (h2 : G k = true) : cnt n G < cnt n F := by
  induction n with
  | zero => omega
  | succ n ih =>
    unfold cnt
    by_cases e : k = n
    · subst e
      have := cnt_mono (n := k) (F := F) (G := G) (fun i hi => h i (by omega))
      rw [h1, h2]
      simp
      omega
    · have := ih (fun i hi => h i (by omega)) (by omega)
      by_cases e2 : F n = true
      · rw [if_pos e2, if_pos (h n (by omega) e2)]; omega
      · rw [if_neg e2]; split <;> omega

/-- What is told, made ready. -/
structure Told where
  n : Nat
  room : Nat
  B : Nat → Nat
  G : Nat → Nat
  S : Nat → Nat
  L : Nat → Nat
  H : Nat → Nat
namespace Told
variable (t : Told)
def rm : Nat := usedD t.room
def b (i : Nat) : Nat := usedF false t.B i
def l (i : Nat) : Nat := usedF false t.L i
def h (i : Nat) : Nat := usedF false t.H i
def g (i : Nat) : Nat := usedF true t.G i
def s (i : Nat) : Nat := usedF true t.S i
def Sz0 (i : Nat) : Nat := btwD (t.l i) (t.b i) (t.h i)
def grow : Bool := ltD (sumF t.Sz0 t.n) t.rm
def fac (i : Nat) : Nat := if t.grow = true then t.g i else t.s i
def Fz0 (i : Nat) : Bool := eqD (t.fac i) 0 || (t.grow && gtD (t.b i) (t.Sz0 i)) || (!t.grow && ltD (t.b i) (t.Sz0 i))
def shr : Shr := ⟨t.n, t.rm, leftF t.rm t.Sz0 t.b t.Fz0 t.n, t.grow, t.b, t.fac, t.l, t.h⟩
def st : Nat → (Nat → Nat) × (Nat → Bool)
  | 0 => (t.Sz0, t.Fz0)
  | k + 1 => (t.shr.turnS (st k).1 (st k).2, t.shr.turnF (st k).1 (st k).2)
/-- The sizes. -/
def sizes : Nat → Nat := (t.st t.n).1
end Told
structure ToldOk (t : Told) : Prop where
  n : t.n ≤ 1048578
  room : t.room < 18446744073709551616
  B : ∀ i, i < t.n → t.B i < 18446744073709551616
  G : ∀ i, i < t.n → t.G i < 18446744073709551616
  S : ∀ i, i < t.n → t.S i < 18446744073709551616
  L : ∀ i, i < t.n → t.L i < 18446744073709551616
  H : ∀ i, i < t.n → t.H i < 18446744073709551616
section
variable {t : Told}
theorem ToldOk.sz0 (o : ToldOk t) {i : Nat} (hi : i < t.n) : Bd 1074 (2 ^ 25) (t.Sz0 i) := btw_bd (usedF_bd (o.L i hi)) (usedF_bd (o.B i hi)).num (usedF_bd (o.H i hi))
theorem ToldOk.facB (o : ToldOk t) {i : Nat} (hi : i < t.n) : Bd 1074 (2 ^ 25) (t.fac i) := by
  unfold Told.fac
  split
  · exact usedF_bd (o.G i hi)
  · exact usedF_bd (o.S i hi)
theorem ToldOk.shk (o : ToldOk t) : ShK t.shr where
  n := o.n
  room := usedD_bd (by have := o.room; omega)
  first := leftF_bd o.n (usedD_bd (by have := o.room; omega)) (fun i hi => o.sz0 hi) (fun i hi => usedF_bd (o.B i hi)) t.n (Nat.le_refl _)
  Bs := fun i hi => usedF_bd (up := false) (o.B i hi)
  fac := fun i hi => o.facB hi
  lo := fun i hi => usedF_bd (up := false) (o.L i hi)
  hi := fun i hi => usedF_bd (up := false) (o.H i hi)
theorem ToldOk.shs (o : ToldOk t) (k : Nat) : ShS t.shr (t.st k).1 (t.st k).2 := by
  induction k with
  | zero =>
    refine ⟨fun i hi => o.sz0 hi, fun i hi hz => ?_⟩
    have hz : t.Fz0 i = false := hz
    unfold Told.Fz0 at hz
    simp at hz
    exact hz.1.1
  | succ k ih => exact o.shk.turn ih
theorem turnF_mono {s : Shr} {Sz : Nat → Nat} {Fz : Nat → Bool} {i : Nat} (h : Fz i = true) : s.turnF Sz Fz i = true := by unfold Shr.turnF; rw [h]; rfl
theorem ToldOk.less (o : ToldOk t) (k : Nat) (h : 0 < cnt t.n (t.st k).2) : cnt t.n (t.st (k + 1)).2 < cnt t.n (t.st k).2 := by
  obtain ⟨i, h1, h2⟩ := cnt_pos h
  obtain ⟨j, g1, g2, g3⟩ := o.shk.frozen (o.shs k) ⟨i, h1, h2⟩
  exact cnt_lt (fun i _ h => turnF_mono h) g1 g2 g3
theorem st_done {k : Nat} (h : cnt t.n (t.st k).2 = 0) : ∀ m i, i < t.n → (t.st (k + m)).1 i = (t.st k).1 i ∧ (t.st (k + m)).2 i = true := by
  intro m
  induction m with
  | zero => intro i hi; exact ⟨rfl, cnt_zero h i hi⟩
  | succ m ih =>
    intro i hi
    obtain ⟨h1, h2⟩ := ih i hi
    refine ⟨?_, turnF_mono h2⟩
    show t.shr.turnS (t.st (k + m)).1 (t.st (k + m)).2 i = _
    unfold Shr.turnS
    rw [if_pos h2, h1]
theorem ToldOk.within (o : ToldOk t) (k : Nat) : cnt t.n (t.st k).2 + k ≤ t.n ∨ cnt t.n (t.st k).2 = 0 := by
  induction k with
  | zero => left; exact cnt_le _ _
  | succ k ih =>
    rcases Nat.eq_zero_or_pos (cnt t.n (t.st k).2) with h | h
    · right
      have h1 := st_done h 1
      rcases Nat.eq_zero_or_pos (cnt t.n (t.st (k + 1)).2) with h2 | h2
      · exact h2
      · obtain ⟨i, hi, hz⟩ := cnt_pos h2
        rw [(h1 i hi).2] at hz
        cases hz
    · have := o.less k h
      omega
/-- Where none is open all is done. -/
theorem ToldOk.done (o : ToldOk t) {k : Nat} (h : cnt t.n (t.st k).2 = 0) : ∀ i, i < t.n → (t.st k).1 i = t.sizes i := by
  intro i hi
  have hn : cnt t.n (t.st t.n).2 = 0 := by
    rcases o.within t.n with h1 | h1
    · omega
    · exact h1
  unfold Told.sizes
  rcases Nat.le_total k t.n with hk | hk
  · have := (st_done h (t.n - k) i hi).1
    rw [show k + (t.n - k) = t.n by omega] at this
    exact this.symm
  · have := (st_done hn (k - t.n) i hi).1
    rw [show t.n + (k - t.n) = k by omega] at this
    exact this
theorem ToldOk.sizes_bd (o : ToldOk t) {i : Nat} (hi : i < t.n) : Bd 1074 (2 ^ 25) (t.sizes i) := (o.shs t.n).Sz i hi
theorem ToldOk.sum (o : ToldOk t) : ∀ i, i < t.n → double.add (sumF t.Sz0 i) (t.Sz0 i) = some (sumF t.Sz0 (i + 1)) := fun i hi => ((sumF_bd o.n (fun j hj => o.sz0 hj)) i (by omega)).2 hi
end
end Go.Proofs.Ytohmmkkbfiembaa
