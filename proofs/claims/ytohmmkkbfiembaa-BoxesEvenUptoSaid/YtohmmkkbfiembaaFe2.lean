/- What is shared out evenly is even. No program's run. -/
import Derived.Test.YtohmmkkbfiembaaFe1
namespace Go.Proofs.Ytohmmkkbfiembaa
open Ieee
set_option linter.unusedVariables false
set_option maxRecDepth 100000

theorem Iv.used {x : Nat} {a : Int} (hx : Iv x a) (h : a.natAbs ≤ 2 ^ 25) : Iv (usedD x) a := Sv.used hx (by
  rw [Int.natAbs_mul, Int.natAbs_natCast]
  exact Nat.mul_le_mul_right _ h)
theorem iv_le {a b : Int} (h : a ≤ b) : a * (DD : Int) ≤ b * (DD : Int) := Int.mul_le_mul_of_nonneg_right h (Int.le_of_lt pow_pos')
theorem iv_lt {a b : Int} (h : a < b) : a * (DD : Int) < b * (DD : Int) := Int.mul_lt_mul_of_pos_right h pow_pos'
theorem Iv.btw {l x h : Nat} {a b c : Int} (hl : Iv l a) (hx : Iv x b) (hh : Iv h c) (h1 : a ≤ b) (h2 : b ≤ c) : Iv (btwD l x h) b := by
  have := Sv.btw hl hx hh
  have e1 := iv_le h1
  have e2 := iv_le h2
  rw [Int.min_eq_left e2, Int.max_eq_right e1] at this
  exact this
theorem Iv.zero : Iv 0 0 := by
  unfold Iv
  rw [Int.zero_mul]
  exact zero_sv
theorem Iv.mx : Iv mx 33554432 := by
  have h := mx_sv
  have e : ((2 ^ 25 * DD : Nat) : Int) = 33554432 * (DD : Int) := by
    rw [Int.natCast_mul]; rfl
  rw [e] at h
  exact h
theorem Iv.lt_false {x y : Nat} {a b : Int} (hx : Iv x a) (hy : Iv y b) (h : b ≤ a) : ltD x y = false := by
  rw [Sv.ltD hx hy]
  have := iv_le h
  simp only [decide_eq_false_iff_not]
  omega
theorem Iv.lt_true {x y : Nat} {a b : Int} (hx : Iv x a) (hy : Iv y b) (h : a < b) : ltD x y = true := by
  rw [Sv.ltD hx hy]
  exact decide_eq_true (iv_lt h)
theorem Iv.gt_false {x y : Nat} {a b : Int} (hx : Iv x a) (hy : Iv y b) (h : a ≤ b) : gtD x y = false := by
  rw [Sv.gtD hx hy]
  have := iv_le h
  simp only [decide_eq_false_iff_not]
  omega
theorem Iv.eq_false {x y : Nat} {a b : Int} (hx : Iv x a) (hy : Iv y b) (h : a < b ∨ b < a) : eqD x y = false := by
  rw [Sv.eqD hx hy]
  simp only [decide_eq_false_iff_not]
  rcases h with h | h
  · have := iv_lt h; omega
  · have := iv_lt h; omega
theorem cnt_all {n : Nat} {F : Nat → Bool} (h : ∀ i, i < n → F i = true) : cnt n F = 0 := by
  rcases Nat.eq_zero_or_pos (cnt n F) with h0 | h0
  · exact h0
  · obtain ⟨i, h1, h2⟩ := cnt_pos h0
    rw [h i h1] at h2
    cases h2
/-- The words of 2 ^ -j. -/
def inv2 (j : Nat) : Nat := (1023 - j) * 2 ^ 52
theorem quo_pow : ∀ j, j ≤ 6 → quoD one (facF (fun _ => one) (fun _ => false) (2 ^ j)) = inv2 j := by decide +kernel
theorem inv2_sv : ∀ j, j ≤ 6 → Sv (inv2 j) ((2 ^ (1074 - j) : Nat) : Int) := fun j hj => by
  have h1 : inv2 j < 2 ^ 63 := by unfold inv2; omega
  refine ⟨by omega, ?_, ?_⟩
  · unfold Fin'
    rw [Nat.mod_eq_of_lt h1]
    unfold inv2
    omega
  · have hm := mg_at (L := 1022 - j) (k := 2 ^ 52) (.inr (Nat.le_refl _)) (by decide)
    have e : (1022 - j) * 2 ^ 52 + 2 ^ 52 = inv2 j := by unfold inv2; omega
    rw [e, ← Nat.pow_add, show 52 + (1022 - j) = 1074 - j by omega] at hm
    unfold sv sgn sgb
    rw [Nat.mod_eq_of_lt h1, Nat.div_eq_of_lt h1, hm]
    rfl
def SB (bs : Nat → Nat) : Nat → Nat
  | 0 => 0
  | k + 1 => SB bs k + bs k
theorem SB_le {bs : Nat → Nat} {n : Nat} (h : ∀ i, i < n → bs i < 100000) : ∀ k, k ≤ n → SB bs k ≤ k * 100000 := fun k => by
  induction k with
  | zero => intro _; simp [SB]
  | succ k ih =>
    intro hk
    have h1 := ih (by omega)
    have h2 := h k (by omega)
    show SB bs k + bs k ≤ _
    omega
theorem SB_mono {bs : Nat → Nat} {k n : Nat} (h : k ≤ n) : SB bs k ≤ SB bs n := by
  induction n with
  | zero => have : k = 0 := by omega
            subst this; exact Nat.le_refl _
  | succ n ih =>
    by_cases e : k = n + 1
    · subst e; exact Nat.le_refl _
    · have := ih (by omega)
      show _ ≤ SB bs n + bs n
      omega
/-- What is told where room is shared out evenly. -/
def te (n R : Nat) (bs : Nat → Nat) : Told := ⟨n, R, fun i => wq (bs i), fun _ => one, fun _ => 0, fun _ => 0, fun _ => mx⟩
section
variable {n R m j : Nat} {bs : Nat → Nat}
/-- n is 2 ^ j; each has m more. -/
structure EvOk (n R m j : Nat) (bs : Nat → Nat) : Prop where
  hn : n = 2 ^ j
  hj : j ≤ 6
  hm : 1 ≤ m ∧ m ≤ 1000
  hbs : ∀ i, i < n → bs i < 100000
  hR : Iv R ((SB bs n + n * m : Nat) : Int)
theorem EvOk.n64 (h : EvOk n R m j bs) : 1 ≤ n ∧ n ≤ 64 := by
  have h1 := h.hn
  have h2 := h.hj
  have h3 : 2 ^ j ≤ 2 ^ 6 := Nat.pow_le_pow_right (by decide) h2
  have h4 := Nat.two_pow_pos j
  omega
theorem EvOk.sum (h : EvOk n R m j bs) : SB bs n + n * m ≤ 6464000 := by
  have h1 := SB_le h.hbs n (Nat.le_refl _)
  have h2 := h.n64
  have h3 : n * m ≤ 64 * 1000 := Nat.mul_le_mul h2.2 h.hm.2
  omega
theorem EvOk.ok (h : EvOk n R m j bs) : ToldOk (te n R bs) where
  n := by have := h.n64; show n ≤ _; omega
  room := by have := h.hR.lt; show R < _; omega
  B := fun i hi => by have := (wq_iv (n := bs i) (by have := h.hbs i hi; omega)).lt; show wq (bs i) < _; omega
  G := fun i hi => by show one < _; decide
  S := fun i hi => by show 0 < _; decide
  L := fun i hi => by show 0 < _; decide
  H := fun i hi => by show mx < _; decide
theorem EvOk.rm (h : EvOk n R m j bs) : Iv (te n R bs).rm ((SB bs n + n * m : Nat) : Int) := Iv.used h.hR (by have := h.sum; omega)
theorem EvOk.b (h : EvOk n R m j bs) {i : Nat} (hi : i < n) : Iv ((te n R bs).b i) (bs i : Int) := Iv.used (wq_iv (by have := h.hbs i hi; omega)) (by have := h.hbs i hi; omega)
theorem te_l (i : Nat) : Iv ((te n R bs).l i) 0 := Iv.used Iv.zero (by decide)
theorem te_h (i : Nat) : Iv ((te n R bs).h i) 33554432 := Iv.used Iv.mx (by decide)
theorem te_g (i : Nat) : (te n R bs).g i = one := by
  show (if true = true then maxD 0 (usedD one) else usedD one) = one
  rw [if_pos rfl]
  kernel_rfl
theorem EvOk.sz0 (h : EvOk n R m j bs) {i : Nat} (hi : i < n) : Iv ((te n R bs).Sz0 i) (bs i : Int) := Iv.btw (te_l i) (h.b hi) (te_h i) (by omega) (by have := h.hbs i hi; omega)
theorem EvOk.sumF (h : EvOk n R m j bs) : ∀ k, k ≤ n → Iv (Proofs.Ytohmmkkbfiembaa.sumF (te n R bs).Sz0 k) (SB bs k : Int) := fun k => by
  induction k with
  | zero => intro _; exact Iv.zero
  | succ k ih =>
    intro hk
    have h1 := SB_le h.hbs (k + 1) hk
    have h2 := h.n64
    have h3 : SB bs (k + 1) = SB bs k + bs k := rfl
    have := (Iv.add (ih (by omega)) (h.sz0 (i := k) (by omega)) (by omega)).2
    rw [show ((SB bs (k + 1) : Nat) : Int) = (SB bs k : Int) + (bs k : Int) by rw [h3]; exact Int.natCast_add _ _]
    exact this
theorem EvOk.nm (h : EvOk n R m j bs) : 1 ≤ n * m := by
  have := h.n64
  have := h.hm
  exact Nat.mul_pos (by omega) (by omega)
theorem EvOk.grow (h : EvOk n R m j bs) : (te n R bs).grow = true := Iv.lt_true (h.sumF n (Nat.le_refl _)) h.rm (by have := h.nm; omega)
theorem EvOk.fac (h : EvOk n R m j bs) (i : Nat) : (te n R bs).fac i = one := by unfold Told.fac; rw [if_pos h.grow, te_g]
theorem EvOk.fz0 (h : EvOk n R m j bs) {i : Nat} (hi : i < n) : (te n R bs).Fz0 i = false := by
  unfold Told.Fz0
  rw [h.fac, h.grow, Iv.eq_false one_iv Iv.zero (.inr (by decide)), Iv.gt_false (h.b hi) (h.sz0 hi) (Int.le_refl _)]
  rfl
theorem EvOk.leftF (h : EvOk n R m j bs) : ∀ k, k ≤ n → Iv (Proofs.Ytohmmkkbfiembaa.leftF (te n R bs).rm (te n R bs).Sz0 (te n R bs).b (te n R bs).Fz0 k) ((SB bs n + n * m : Nat) - (SB bs k : Int)) := fun k => by
  induction k with
  | zero =>
    intro _
    rw [show ((SB bs n + n * m : Nat) : Int) - (SB bs 0 : Int) = ((SB bs n + n * m : Nat) : Int) by simp [SB]]
    exact h.rm
  | succ k ih =>
    intro hk
    have h1 := SB_mono (bs := bs) hk
    have h3 : SB bs (k + 1) = SB bs k + bs k := rfl
    have h4 := h.sum
    have := (Iv.sub (ih (by omega)) (h.b (i := k) (by omega)) (by omega)).2
    show Iv (subD _ (if (te n R bs).Fz0 k = true then _ else _)) _
    rw [h.fz0 (by omega), if_neg (by decide), show ((SB bs n + n * m : Nat) : Int) - (SB bs (k + 1) : Int) = ((SB bs n + n * m : Nat) : Int) - (SB bs k : Int) - (bs k : Int) by omega]
    exact this
theorem EvOk.first (h : EvOk n R m j bs) : Iv (te n R bs).shr.first ((n * m : Nat) : Int) := by
  have := h.leftF n (Nat.le_refl _)
  rw [show ((SB bs n + n * m : Nat) : Int) - (SB bs n : Int) = ((n * m : Nat) : Int) by omega] at this
  exact this
theorem EvOk.facF (h : EvOk n R m j bs) : ∀ k, k ≤ n → Proofs.Ytohmmkkbfiembaa.facF (te n R bs).fac (te n R bs).Fz0 k = Proofs.Ytohmmkkbfiembaa.facF (fun _ => one) (fun _ => false) k ∧ Iv (Proofs.Ytohmmkkbfiembaa.facF (te n R bs).fac (te n R bs).Fz0 k) (k : Int) := fun k => by
  induction k with
  | zero => intro _; exact ⟨rfl, Iv.zero⟩
  | succ k ih =>
    intro hk
    obtain ⟨h1, h2⟩ := ih (by omega)
    have h3 := h.n64
    have e1 : Proofs.Ytohmmkkbfiembaa.facF (te n R bs).fac (te n R bs).Fz0 (k + 1) = addD (Proofs.Ytohmmkkbfiembaa.facF (te n R bs).fac (te n R bs).Fz0 k) one := by
      show (if (te n R bs).Fz0 k = true then _ else _) = _
      rw [h.fz0 (by omega), if_neg (by decide), h.fac]
    refine ⟨?_, ?_⟩
    · rw [e1, h1]; rfl
    · rw [e1, show ((k + 1 : Nat) : Int) = (k : Int) + 1 by omega]
      exact (Iv.add h2 one_iv (by omega)).2
theorem EvOk.rest (h : EvOk n R m j bs) : (te n R bs).shr.rest (te n R bs).Sz0 (te n R bs).Fz0 = (te n R bs).shr.first := by
  have hf := (h.facF n (Nat.le_refl _)).2
  show restD (te n R bs).shr.first (te n R bs).shr.first (Proofs.Ytohmmkkbfiembaa.facF (te n R bs).fac (te n R bs).Fz0 n) = _
  unfold restD
  rw [Iv.lt_false hf one_iv (by have := h.n64; omega)]
  rfl
theorem EvOk.targ (h : EvOk n R m j bs) {i : Nat} (hi : i < n) : Iv ((te n R bs).shr.targ (te n R bs).Sz0 (te n R bs).Fz0 i) ((bs i + m : Nat) : Int) := by
  unfold Shr.targ
  rw [h.rest]
  have hg : (te n R bs).shr.growing = true := h.grow
  have hf : (te n R bs).shr.fac i = one := h.fac i
  have hq : Proofs.Ytohmmkkbfiembaa.facF (te n R bs).shr.fac (te n R bs).Fz0 (te n R bs).shr.n = Proofs.Ytohmmkkbfiembaa.facF (fun _ => one) (fun _ => false) n := (h.facF n (Nat.le_refl _)).1
  have hb : Iv ((te n R bs).shr.Bs i) (bs i : Int) := h.b hi
  unfold targD
  have hnm := h.nm
  rw [Iv.eq_false h.first Iv.zero (.inr (by omega)), if_neg (by decide), hg, if_pos rfl, hf, hq]
  have hn2 := h.hn
  have hquo : quoD one (Proofs.Ytohmmkkbfiembaa.facF (fun _ => one) (fun _ => false) n) = inv2 j := by
    rw [hn2]; exact quo_pow j h.hj
  rw [hquo]
  have hm := (mul_exact (c := (m : Int)) h.first (inv2_sv j h.hj) (by have := h.hm; omega) (by
    have e1 : DD = 2 ^ j * 2 ^ (1074 - j) := by rw [← Nat.pow_add, show j + (1074 - j) = 1074 by have := h.hj; omega, DD_eq]
    obtain ⟨D, hD⟩ : ∃ D, D = DD := ⟨_, rfl⟩
    obtain ⟨E, hE⟩ : ∃ E, E = 2 ^ (1074 - j) := ⟨_, rfl⟩
    rw [← hD, ← hE, ← hn2] at e1
    rw [← hD, ← hE]
    rw [Int.natCast_mul]
    have e2 : (D : Int) = (n : Int) * (E : Int) := by rw [e1]; exact Int.natCast_mul _ _
    calc (n : Int) * (m : Int) * (D : Int) * (E : Int) = (m : Int) * (D : Int) * ((n : Int) * (E : Int)) := by ac_rfl
      _ = (m : Int) * (D : Int) * (D : Int) := by rw [← e2])).2
  have hs := h.hbs i hi
  have hmm := h.hm
  rw [Int.natCast_add]
  exact (Iv.add hb hm (by omega)).2
theorem EvOk.newS (h : EvOk n R m j bs) {i : Nat} (hi : i < n) : Iv ((te n R bs).shr.newS (te n R bs).Sz0 (te n R bs).Fz0 i) ((bs i + m : Nat) : Int) :=
  Iv.btw (te_l i) (h.targ hi) (te_h i) (by omega) (by have := h.hbs i hi; have := h.hm; omega)
theorem EvOk.over (h : EvOk n R m j bs) {i : Nat} (hi : i < n) : Iv ((te n R bs).shr.over (te n R bs).Sz0 (te n R bs).Fz0 i) 0 := by
  have := (Iv.sub (h.newS hi) (h.targ hi) (by omega)).2
  rw [Int.sub_self] at this
  exact this
theorem EvOk.turnV (h : EvOk n R m j bs) : ∀ k, k ≤ n → ∃ a, sumO ((te n R bs).shr.over (te n R bs).Sz0 (te n R bs).Fz0) (te n R bs).Fz0 k = some a ∧ Iv a 0 := fun k => by
  induction k with
  | zero => intro _; exact ⟨0, rfl, Iv.zero⟩
  | succ k ih =>
    intro hk
    obtain ⟨a, h1, h2⟩ := ih (by omega)
    have h3 := Iv.add h2 (h.over (i := k) (by omega)) (by decide)
    refine ⟨_, ?_, h3.2⟩
    show (if (te n R bs).Fz0 k = true then _ else _) = _
    rw [h.fz0 (by omega), if_neg (by decide), h1]
    exact h3.1
/-- Each has the same more. -/
theorem EvOk.even (h : EvOk n R m j bs) {i : Nat} (hi : i < n) : Iv ((te n R bs).sizes i) ((bs i + m : Nat) : Int) := by
  have hc : cnt n ((te n R bs).st 1).2 = 0 := cnt_all (fun k hk => by
    show (te n R bs).shr.turnF (te n R bs).Sz0 (te n R bs).Fz0 k = true
    unfold Shr.turnF frzD
    obtain ⟨a, h1, h2⟩ := h.turnV n (Nat.le_refl _)
    have e : (te n R bs).shr.turnV (te n R bs).Sz0 (te n R bs).Fz0 = some a := h1
    rw [e]
    show (_ || (!(gtD a 0 && _) && !(ltD a 0 && _))) = true
    rw [Iv.gt_false h2 Iv.zero (Int.le_refl _), Iv.lt_false h2 Iv.zero (Int.le_refl _)]
    simp)
  rw [← h.ok.done (k := 1) hc i hi]
  show Iv ((te n R bs).shr.turnS (te n R bs).Sz0 (te n R bs).Fz0 i) _
  unfold Shr.turnS
  rw [h.fz0 hi, if_neg (by decide)]
  exact h.newS hi
end
theorem fe2_end : True := trivial
end Go.Proofs.Ytohmmkkbfiembaa
