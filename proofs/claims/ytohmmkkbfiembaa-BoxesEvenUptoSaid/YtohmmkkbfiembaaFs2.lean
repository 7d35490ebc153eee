/- Room shared out: all that is reckoned is a number; each turn freezes one. No program's run. -/
import Derived.Test.YtohmmkkbfiembaaFs1
namespace Go.Proofs.Ytohmmkkbfiembaa
open Ieee
set_option linter.unusedVariables false
set_option maxRecDepth 100000

structure ShK (s : Shr) : Prop where
  n : s.n ≤ 1048578
  room : Bd 1074 (2 ^ 25) s.room
  first : Bd 1099 (s.n + 1) s.first
  Bs : ∀ i, i < s.n → Bd 1074 (2 ^ 25) (s.Bs i)
  fac : ∀ i, i < s.n → Bd 1074 (2 ^ 25) (s.fac i)
  lo : ∀ i, i < s.n → Bd 1074 (2 ^ 25) (s.lo i)
  hi : ∀ i, i < s.n → Bd 1074 (2 ^ 25) (s.hi i)
structure ShS (s : Shr) (Sz : Nat → Nat) (Fz : Nat → Bool) : Prop where
  Sz : ∀ i, i < s.n → Bd 1074 (2 ^ 25) (Sz i)
  nz : ∀ i, i < s.n → Fz i = false → eqD (s.fac i) 0 = false

theorem Bd.fin {T k x : Nat} (h : Bd T k x) : Fin' x := h.2.1
theorem bd25 {x : Nat} (h : Bd 1074 (2 ^ 25) x) : Bd 1099 1 x := Bd.up (T := 1074) (e := 25) (by rw [Nat.one_mul]; exact h)
section
variable {s : Shr} {Sz : Nat → Nat} {Fz : Nat → Bool}
theorem leftF_bd {room : Nat} {Bs : Nat → Nat} {n : Nat} (hn : n ≤ 1048578) (hr : Bd 1074 (2 ^ 25) room) (hs : ∀ i, i < n → Bd 1074 (2 ^ 25) (Sz i)) (hb : ∀ i, i < n → Bd 1074 (2 ^ 25) (Bs i)) :
    ∀ i, i ≤ n → Bd 1099 (i + 1) (leftF room Sz Bs Fz i) := by
  intro i
  induction i with
  | zero => intro _; exact bd25 hr
  | succ i ih =>
    intro h
    have h1 := ih (by omega)
    have h2 : Bd 1099 1 (if Fz i = true then Sz i else Bs i) := by split; exact bd25 (hs i (by omega)); exact bd25 (hb i (by omega))
    exact (subD_bd h1 h2 (by omega) (by decide)).2
theorem leftF_step {room : Nat} {Bs : Nat → Nat} {n : Nat} (hn : n ≤ 1048578) (hr : Bd 1074 (2 ^ 25) room) (hs : ∀ i, i < n → Bd 1074 (2 ^ 25) (Sz i)) (hb : ∀ i, i < n → Bd 1074 (2 ^ 25) (Bs i)) {i : Nat} (h : i < n) :
    double.sub (leftF room Sz Bs Fz i) (if Fz i = true then Sz i else Bs i) = some (leftF room Sz Bs Fz (i + 1)) := by
  have h1 := leftF_bd (Fz := Fz) hn hr hs hb i (by omega)
  have h2 : Bd 1099 1 (if Fz i = true then Sz i else Bs i) := by split; exact bd25 (hs i (by omega)); exact bd25 (hb i (by omega))
  exact (subD_bd h1 h2 (by omega) (by decide)).1
theorem sumF_bd {n : Nat} (hn : n ≤ 1048578) {g : Nat → Nat} (hs : ∀ i, i < n → Bd 1074 (2 ^ 25) (g i)) : ∀ i, i ≤ n → Bd 1099 i (sumF g i) ∧ (i < n → double.add (sumF g i) (g i) = some (sumF g (i + 1))) := by
  intro i
  induction i with
  | zero => intro _; exact ⟨bd_zero _ _, fun h => (addD_bd (bd_zero 1099 0) (bd25 (hs 0 h)) (by omega) (by decide)).1⟩
  | succ i ih =>
    intro h
    obtain ⟨h1, _⟩ := ih (by omega)
    have h2 := (addD_bd h1 (bd25 (hs i (by omega))) (by omega) (by decide)).2
    exact ⟨h2, fun h3 => (addD_bd h2 (bd25 (hs (i + 1) h3)) (by omega) (by decide)).1⟩
theorem ShK.facF (h : ShK s) : ∀ i, i ≤ s.n → Bd 1099 i (facF s.fac Fz i) := by
  intro i
  induction i with
  | zero => intro _; exact bd_zero _ _
  | succ i ih =>
    intro hi
    have h1 := ih (by omega)
    show Bd _ _ (if Fz i = true then _ else _)
    split
    · exact h1.mono (by omega)
    · exact (addD_bd h1 (bd25 (h.fac i (by omega))) (by have := h.n; omega) (by decide)).2
theorem ShK.facF_step (h : ShK s) {i : Nat} (hi : i < s.n) : double.add (Proofs.Ytohmmkkbfiembaa.facF s.fac Fz i) (s.fac i) = some (addD (Proofs.Ytohmmkkbfiembaa.facF s.fac Fz i) (s.fac i)) :=
  (addD_bd (h.facF i (by omega)) (bd25 (h.fac i hi)) (by have := h.n; omega) (by decide)).1
theorem ShK.prod (h : ShK s) {i : Nat} (hi : i < s.n) : double.mul (s.fac i) (s.Bs i) = some (mulD (s.fac i) (s.Bs i)) ∧ Bd 1124 1 (mulD (s.fac i) (s.Bs i)) :=
  mulD_bd (bd25 (h.fac i hi)) (bd25 (h.Bs i hi)) (by decide) (by decide) (by decide)
theorem ShK.facQ (h : ShK s) : ∀ i, i ≤ s.n → Bd 1124 i (facQ s.fac s.Bs Fz i) := by
  intro i
  induction i with
  | zero => intro _; exact bd_zero _ _
  | succ i ih =>
    intro hi
    have h1 := ih (by omega)
    show Bd _ _ (if Fz i = true then _ else _)
    split
    · exact h1.mono (by omega)
    · exact (addD_bd h1 (h.prod (by omega)).2 (by have := h.n; omega) (by decide)).2
theorem ShK.facQ_step (h : ShK s) {i : Nat} (hi : i < s.n) : double.add (Proofs.Ytohmmkkbfiembaa.facQ s.fac s.Bs Fz i) (mulD (s.fac i) (s.Bs i)) = some (addD (Proofs.Ytohmmkkbfiembaa.facQ s.fac s.Bs Fz i) (mulD (s.fac i) (s.Bs i))) :=
  (addD_bd (h.facQ i (by omega)) (h.prod hi).2 (by have := h.n; omega) (by decide)).1
theorem ShK.part (h : ShK s) : double.mul s.first (Proofs.Ytohmmkkbfiembaa.facF s.fac Fz s.n) = some (mulD s.first (Proofs.Ytohmmkkbfiembaa.facF s.fac Fz s.n)) ∧ Bd 1124 ((s.n + 1) * s.n) (mulD s.first (Proofs.Ytohmmkkbfiembaa.facF s.fac Fz s.n)) := by
  refine mulD_bd h.first (h.facF s.n (Nat.le_refl _)) ?_ (by decide) (by decide)
  have := h.n
  exact Nat.le_trans (Nat.mul_le_mul (show s.n + 1 ≤ 1048579 by omega) this) (by decide)
theorem ShK.left (h : ShK s) (hs : ShS s Sz Fz) : Bd 1099 (s.n + 1) (leftF s.room Sz s.Bs Fz s.n) := leftF_bd h.n h.room hs.Sz h.Bs s.n (Nat.le_refl _)
theorem ShK.rest (h : ShK s) (hs : ShS s Sz Fz) : Fin' (s.rest Sz Fz) := by
  unfold Shr.rest restD
  split
  · exact h.part.2.fin
  · exact (h.left hs).fin
theorem ShK.rest64 (h : ShK s) (hs : ShS s Sz Fz) : s.rest Sz Fz < 18446744073709551616 := by
  unfold Shr.rest restD
  split
  · exact h.part.2.1
  · exact (h.left hs).1
/-- What a target takes, step by step. -/
structure TgOk (g : Bool) (rest f q b fa : Nat) : Prop where
  num : Num (targD g rest f q b fa)
  g1 : g = true → eqD rest 0 = false → double.div fa f = some (quoD fa f)
  g2 : g = true → eqD rest 0 = false → double.mul rest (quoD fa f) = some (mulD rest (quoD fa f))
  g3 : g = true → eqD rest 0 = false → double.add b (mulD rest (quoD fa f)) = some (addD b (mulD rest (quoD fa f)))
  s1 : double.mul fa b = some (mulD fa b)
  s2 : eqD rest 0 = false → eqD q 0 = false → double.div (mulD fa b) q = some (quoD (mulD fa b) q)
  s3 : eqD rest 0 = false → eqD q 0 = false → double.mul (absD rest) (quoD (mulD fa b) q) = some (mulD (absD rest) (quoD (mulD fa b) q))
  s4 : eqD rest 0 = false → eqD q 0 = false → double.sub b (mulD (absD rest) (quoD (mulD fa b) q)) = some (subD b (mulD (absD rest) (quoD (mulD fa b) q)))
theorem ShK.targ (h : ShK s) (hs : ShS s Sz Fz) {i : Nat} (hi : i < s.n) (hz : Fz i = false) :
    TgOk s.growing (s.rest Sz Fz) (Proofs.Ytohmmkkbfiembaa.facF s.fac Fz s.n) (Proofs.Ytohmmkkbfiembaa.facQ s.fac s.Bs Fz s.n) (s.Bs i) (s.fac i) := by
  have hfa := nz_of (h.fac i hi).fin (hs.nz i hi hz)
  have hb := (h.Bs i hi).fin
  have hr := h.rest hs
  have a1 := div_num (h.fac i hi).fin (h.facF (Fz := Fz) s.n (Nat.le_refl _)).fin (.inl hfa)
  have a2 : eqD (s.rest Sz Fz) 0 = false → _ := fun e => mul_num (nz_of hr e) a1.2
  have a3 : eqD (s.rest Sz Fz) 0 = false → _ := fun e => add_num hb (a2 e).2
  have b2 : eqD (Proofs.Ytohmmkkbfiembaa.facQ s.fac s.Bs Fz s.n) 0 = false → _ := fun e => div_num (h.prod hi).2.fin (h.facQ (Fz := Fz) s.n (Nat.le_refl _)).fin (.inr (nz_of (h.facQ (Fz := Fz) s.n (Nat.le_refl _)).fin e))
  have b3 : eqD (s.rest Sz Fz) 0 = false → eqD (Proofs.Ytohmmkkbfiembaa.facQ s.fac s.Bs Fz s.n) 0 = false → _ := fun e e2 => mul_num (absD_fin (nz_of hr e)) (b2 e2).2
  have b4 : eqD (s.rest Sz Fz) 0 = false → eqD (Proofs.Ytohmmkkbfiembaa.facQ s.fac s.Bs Fz s.n) 0 = false → _ := fun e e2 => sub_num hb (b3 e e2).2
  refine ⟨?_, fun _ _ => a1.1, fun _ e => (a2 e).1, fun _ e => (a3 e).1, (h.prod hi).1, fun _ e => (b2 e).1, fun e e2 => (b3 e e2).1, fun e e2 => (b4 e e2).1⟩
  unfold targD
  split
  · exact (h.Bs i hi).num
  · rename_i e
    have e : eqD (s.rest Sz Fz) 0 = false := by simpa using e
    split
    · exact (a3 e).2
    · split
      · exact (h.Bs i hi).num
      · rename_i e2
        exact (b4 e (by simpa using e2)).2
theorem ShK.newS (h : ShK s) (hs : ShS s Sz Fz) {i : Nat} (hi : i < s.n) (hz : Fz i = false) : Bd 1074 (2 ^ 25) (s.newS Sz Fz i) := btw_bd (h.lo i hi) (h.targ hs hi hz).num (h.hi i hi)
theorem ShK.over (h : ShK s) (hs : ShS s Sz Fz) {i : Nat} (hi : i < s.n) (hz : Fz i = false) : double.sub (s.newS Sz Fz i) (s.targ Sz Fz i) = some (s.over Sz Fz i) ∧ Num (s.over Sz Fz i) := sub_num (h.newS hs hi hz).fin (h.targ hs hi hz).num
theorem ShK.turn (h : ShK s) (hs : ShS s Sz Fz) : ShS s (s.turnS Sz Fz) (s.turnF Sz Fz) := by
  refine ⟨fun i hi => ?_, fun i hi hz => hs.nz i hi ?_⟩
  · unfold Shr.turnS
    split
    · exact hs.Sz i hi
    · rename_i hz; exact h.newS hs hi (by simpa using hz)
  · unfold Shr.turnF at hz
    simp at hz
    exact hz.1
end
/-! A sum of what is not above nought is not above nought. -/
def NPos (a : Nat) : Prop := Num a ∧ (9223372036854775808 ≤ a ∨ a = 0)
def NNeg (a : Nat) : Prop := Num a ∧ (a < 9223372036854775808 ∨ a = 9223372036854775808)
theorem sgb_iff {a : Nat} (h : a < 18446744073709551616) : sgb a = true ↔ 9223372036854775808 ≤ a := by
  unfold sgb
  by_cases h1 : a < 9223372036854775808
  · rw [Nat.div_eq_of_lt (by omega)]; simp; omega
  · rw [show a / 2 ^ 63 = 1 by omega]; simp; omega
theorem fin0 : Fin' 0 := (by decide : 0 % 2 ^ 63 < 2047 * 2 ^ 52)
theorem sv_le_zero {a : Nat} (h : a < 18446744073709551616) (hs : sv a ≤ 0) : 9223372036854775808 ≤ a ∨ a = 0 := by
  rcases Nat.lt_or_ge a 9223372036854775808 with h1 | h1
  · right
    have e : sgb a = false := by cases e : sgb a with | false => rfl | true => have := (sgb_iff h).1 e; omega
    unfold sv sgn at hs
    rw [e] at hs
    simp only [Bool.false_eq_true, ↓reduceIte] at hs
    have := mg_zero (show mg (a % 2 ^ 63) = 0 by omega)
    omega
  · exact .inl h1
theorem zero_le_sv {a : Nat} (h : a < 18446744073709551616) (hs : 0 ≤ sv a) : a < 9223372036854775808 ∨ a = 9223372036854775808 := by
  rcases Nat.lt_or_ge a 9223372036854775808 with h1 | h1
  · exact .inl h1
  · right
    have e : sgb a = true := (sgb_iff h).2 h1
    unfold sv sgn at hs
    rw [e] at hs
    simp only [↓reduceIte] at hs
    have := mg_zero (show mg (a % 2 ^ 63) = 0 by omega)
    omega
theorem npos_of {a : Nat} (h : Num a) (hg : gtD a 0 = false) : NPos a := by
  refine ⟨h, ?_⟩
  unfold gtD od at hg
  rw [show FloatKind.f64.format = double from rfl] at hg
  rcases h.cases with hf | hi
  · rw [order_fin hf fin0, show sv 0 = 0 by decide] at hg
    refine sv_le_zero h.1 ?_
    rcases Int.lt_or_le 0 (sv a) with h1 | h1
    · rw [Int.compare_eq_gt.2 h1] at hg; cases hg
    · exact h1
  · rw [order_inf hi fin0] at hg
    cases e : sgb a with
    | true => exact .inl ((sgb_iff h.1).1 e)
    | false => rw [e] at hg; cases hg
theorem nneg_of {a : Nat} (h : Num a) (hg : ltD a 0 = false) : NNeg a := by
  refine ⟨h, ?_⟩
  unfold ltD od at hg
  rw [show FloatKind.f64.format = double from rfl] at hg
  rcases h.cases with hf | hi
  · rw [order_fin hf fin0, show sv 0 = 0 by decide] at hg
    refine zero_le_sv h.1 ?_
    rcases Int.lt_or_le (sv a) 0 with h1 | h1
    · rw [Int.compare_eq_lt.2 h1] at hg; cases hg
    · exact h1
  · rw [order_inf hi fin0] at hg
    cases e : sgb a with
    | false =>
      left
      rcases Nat.lt_or_ge a 9223372036854775808 with h1 | h1
      · exact h1
      · have := (sgb_iff h.1).2 h1; rw [e] at this; cases this
    | true => rw [e] at hg; cases hg
theorem sv_npos {a : Nat} (h : NPos a) : sv a ≤ 0 := by
  rcases h.2 with h1 | h1
  · unfold sv sgn
    rw [(sgb_iff h.1.1).2 h1]
    simp only [↓reduceIte]
    omega
  · rw [h1]; decide
theorem sv_nneg {a : Nat} (h : NNeg a) : 0 ≤ sv a := by
  rcases h.2 with h1 | h1
  · have e : sgb a = false := by cases e : sgb a with | false => rfl | true => have := (sgb_iff h.1.1).1 e; omega
    unfold sv sgn
    rw [e]
    simp only [Bool.false_eq_true, ↓reduceIte]
    omega
  · rw [h1]; decide
theorem rnd_num {E : Int} {d r : Nat} (h : Rnd E d r) : Num r := ⟨by have := h.lt; omega, by have := h.some_; omega⟩
theorem word_inf (s : Bool) : double.word s double.infRung = if s then 18442240474082181120 else 9218868437227405312 := by cases s <;> decide
theorem npos_inf : NPos (if true = true then 18442240474082181120 else 9218868437227405312) := by
  rw [if_pos rfl]
  exact ⟨⟨by decide, by decide⟩, .inl (by decide)⟩
theorem nneg_inf : NNeg (if false = true then 18442240474082181120 else 9218868437227405312) := by
  rw [if_neg (by decide)]
  exact ⟨⟨by decide, by decide⟩, .inl (by decide)⟩
theorem add_npos {a b r : Nat} (ha : NPos a) (hb : NPos b) (h : double.add a b = some r) : NPos r := by
  rcases ha.1.cases with fa | ia
  · rcases hb.1.cases with fb | ib
    · obtain ⟨r', h1, h2⟩ := add_rnd fa fb
      rw [h] at h1
      cases h1
      have hn := rnd_num h2
      refine ⟨hn, ?_⟩
      have s1 := sv_npos ha
      have s2 := sv_npos hb
      rcases hn.cases with hf | hi
      · exact sv_le_zero hn.1 (h2.le hf 0 Rep.zero (by omega))
      · rcases Int.lt_or_le (sv a + sv b) 0 with h3 | h3
        · exact .inl ((sgb_iff hn.1).1 (h2.neg h3))
        · have := h2.fin 0 Rep.zero (by omega)
          unfold Fin' at this
          omega
    · obtain ⟨m, p, e, _⟩ := read_fin fa
      have hs : sgb b = true := by
        rcases hb.2 with h1 | h1
        · exact (sgb_iff hb.1.1).2 h1
        · subst h1; revert ib; decide
      unfold Format.add at h
      rw [e, read_inf ib, hs] at h
      simp only [Datum.sum, Option.map_some, Format.write, Option.some.injEq] at h
      rw [word_inf] at h
      subst h
      exact npos_inf
  · have hs : sgb a = true := by
      rcases ha.2 with h1 | h1
      · exact (sgb_iff ha.1.1).2 h1
      · subst h1; revert ia; decide
    unfold Format.add at h
    rcases hb.1.cases with fb | ib
    · obtain ⟨m, p, e, _⟩ := read_fin fb
      rw [e, read_inf ia, hs] at h
      simp only [Datum.sum, Option.map_some, Format.write, Option.some.injEq] at h
      rw [word_inf] at h
      subst h
      exact npos_inf
    · have hs2 : sgb b = true := by
        rcases hb.2 with h1 | h1
        · exact (sgb_iff hb.1.1).2 h1
        · subst h1; revert ib; decide
      rw [read_inf ib, read_inf ia, hs, hs2] at h
      simp only [Datum.sum, ↓reduceIte, Option.map_some, Format.write, Option.some.injEq] at h
      rw [word_inf] at h
      subst h
      exact npos_inf
theorem add_nneg {a b r : Nat} (ha : NNeg a) (hb : NNeg b) (h : double.add a b = some r) : NNeg r := by
  have low : ∀ x, NNeg x → x % 2 ^ 63 = 2047 * 2 ^ 52 → sgb x = false := fun x hx hi => by
    cases e : sgb x with
    | false => rfl
    | true =>
      have := (sgb_iff hx.1.1).1 e
      rcases hx.2 with h1 | h1
      · omega
      · subst h1; revert hi; decide
  rcases ha.1.cases with fa | ia
  · rcases hb.1.cases with fb | ib
    · obtain ⟨r', h1, h2⟩ := add_rnd fa fb
      rw [h] at h1
      cases h1
      have hn := rnd_num h2
      refine ⟨hn, ?_⟩
      have s1 := sv_nneg ha
      have s2 := sv_nneg hb
      rcases hn.cases with hf | hi
      · exact zero_le_sv hn.1 (h2.ge hf 0 Rep.zero (by omega))
      · rcases Int.lt_or_le 0 (sv a + sv b) with h3 | h3
        · left
          rcases Nat.lt_or_ge r 9223372036854775808 with h4 | h4
          · exact h4
          · have := (sgb_iff hn.1).2 h4; rw [h2.pos h3] at this; cases this
        · have := h2.fin 0 Rep.zero (by omega)
          unfold Fin' at this
          omega
    · obtain ⟨m, p, e, _⟩ := read_fin fa
      unfold Format.add at h
      rw [e, read_inf ib, low b hb ib] at h
      simp only [Datum.sum, Option.map_some, Format.write, Option.some.injEq] at h
      rw [word_inf] at h
      subst h
      exact nneg_inf
  · unfold Format.add at h
    rcases hb.1.cases with fb | ib
    · obtain ⟨m, p, e, _⟩ := read_fin fb
      rw [e, read_inf ia, low a ha ia] at h
      simp only [Datum.sum, Option.map_some, Format.write, Option.some.injEq] at h
      rw [word_inf] at h
      subst h
      exact nneg_inf
    · rw [read_inf ib, read_inf ia, low a ha ia, low b hb ib] at h
      simp only [Datum.sum, ↓reduceIte, Option.map_some, Format.write, Option.some.injEq] at h
      rw [word_inf] at h
      subst h
      exact nneg_inf
theorem npos_gt {a : Nat} (h : NPos a) : gtD a 0 = false := by
  unfold gtD od
  rw [show FloatKind.f64.format = double from rfl]
  rcases h.1.cases with hf | hi
  · rw [order_fin hf fin0, show sv 0 = 0 by decide]
    have := sv_npos h
    rcases Int.lt_or_eq_of_le this with h1 | h1
    · rw [Int.compare_eq_lt.2 h1]; rfl
    · rw [h1]; rfl
  · rw [order_inf hi fin0]
    have hs : sgb a = true := by
      rcases h.2 with h1 | h1
      · exact (sgb_iff h.1.1).2 h1
      · subst h1; revert hi; decide
    rw [hs]; rfl
theorem nneg_lt {a : Nat} (h : NNeg a) : ltD a 0 = false := by
  unfold ltD od
  rw [show FloatKind.f64.format = double from rfl]
  rcases h.1.cases with hf | hi
  · rw [order_fin hf fin0, show sv 0 = 0 by decide]
    have := sv_nneg h
    rcases Int.lt_or_eq_of_le this with h1 | h1
    · rw [Int.compare_eq_gt.2 h1]; rfl
    · rw [← h1]; rfl
  · rw [order_inf hi fin0]
    have hs : sgb a = false := by
      cases e : sgb a with
      | false => rfl
      | true =>
        have := (sgb_iff h.1.1).1 e
        rcases h.2 with h1 | h1
        · omega
        · subst h1; revert hi; decide
    rw [hs]; rfl
theorem sumO_npos {o : Nat → Nat} {Fz : Nat → Bool} {n : Nat} (h : ∀ i, i < n → Fz i = false → NPos (o i)) : ∀ i, i ≤ n → ∀ a, sumO o Fz i = some a → NPos a := by
  intro i
  induction i with
  | zero => intro _ a e; cases e; exact ⟨⟨by decide, by decide⟩, .inr rfl⟩
  | succ i ih =>
    intro hi a e
    unfold sumO at e
    split at e
    · exact ih (by omega) a e
    · rename_i hz
      obtain ⟨b, h1, h2⟩ := Option.bind_eq_some_iff.1 e
      exact add_npos (ih (by omega) b h1) (h i (by omega) (by simpa using hz)) h2
theorem sumO_nneg {o : Nat → Nat} {Fz : Nat → Bool} {n : Nat} (h : ∀ i, i < n → Fz i = false → NNeg (o i)) : ∀ i, i ≤ n → ∀ a, sumO o Fz i = some a → NNeg a := by
  intro i
  induction i with
  | zero => intro _ a e; cases e; exact ⟨⟨by decide, by decide⟩, .inl (by decide)⟩
  | succ i ih =>
    intro hi a e
    unfold sumO at e
    split at e
    · exact ih (by omega) a e
    · rename_i hz
      obtain ⟨b, h1, h2⟩ := Option.bind_eq_some_iff.1 e
      exact add_nneg (ih (by omega) b h1) (h i (by omega) (by simpa using hz)) h2
/-- Each turn freezes one at least. -/
theorem ShK.frozen {s : Shr} {Sz : Nat → Nat} {Fz : Nat → Bool} (h : ShK s) (hs : ShS s Sz Fz) (hu : ∃ i, i < s.n ∧ Fz i = false) : ∃ i, i < s.n ∧ Fz i = false ∧ s.turnF Sz Fz i = true := by
  rcases Classical.em (∃ i, i < s.n ∧ Fz i = false ∧ s.turnF Sz Fz i = true) with hc | hc
  · exact hc
  exfalso
  have hall : ∀ i, i < s.n → Fz i = false → frzD (s.turnV Sz Fz) (s.over Sz Fz i) = false := fun i hi hz => by
    cases e : frzD (s.turnV Sz Fz) (s.over Sz Fz i) with
    | false => rfl
    | true => exact absurd ⟨i, hi, hz, by unfold Shr.turnF; rw [e, Bool.or_true]⟩ hc
  obtain ⟨i, hi, hz⟩ := hu
  have h1 := hall i hi hz
  unfold frzD at h1 hall
  cases hp : posO (s.turnV Sz Fz) with
  | true =>
    cases hv : s.turnV Sz Fz with
    | none => rw [hv] at hp; cases hp
    | some a =>
      rw [hv] at hp hall
      have hng : negO (some a) = false := by
        unfold posO gtD at hp
        unfold negO ltD
        simp only at hp ⊢
        rw [eq_of_beq hp]
        rfl
      have : NPos a := sumO_npos (fun j hj hzj => npos_of (h.over hs hj hzj).2 (by
        have := hall j hj hzj
        rw [hp, hng] at this
        cases e : gtD (s.over Sz Fz j) 0 with
        | false => rfl
        | true => rw [e] at this; cases this)) s.n (Nat.le_refl _) a hv
      unfold posO at hp
      simp only at hp
      rw [npos_gt this] at hp
      cases hp
  | false =>
    rw [hp] at h1
    simp at h1
    have hn := h1.1
    cases hv : s.turnV Sz Fz with
    | none => rw [hv] at hn; cases hn
    | some a =>
      rw [hv] at hp hall hn
      have : NNeg a := sumO_nneg (fun j hj hzj => nneg_of (h.over hs hj hzj).2 (by
        have := hall j hj hzj
        rw [hp, hn] at this
        cases e : ltD (s.over Sz Fz j) 0 with
        | false => rfl
        | true => rw [e] at this; cases this)) s.n (Nat.le_refl _) a hv
      unfold negO at hn
      simp only at hn
      rw [nneg_lt this] at hn
      cases hn
end Go.Proofs.Ytohmmkkbfiembaa
