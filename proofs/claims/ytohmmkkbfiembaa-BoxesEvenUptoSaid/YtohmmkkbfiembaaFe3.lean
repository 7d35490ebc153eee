/- What was told is told again; what is held; what may be used, by the law's own words. -/
import Derived.Test.YtohmmkkbfiembaaFe2
import Derived.Test.YtohmmkkbfiembaaFx5
namespace Go.Proofs.Ytohmmkkbfiembaa
open Go.RowKit Go.Shelf
attribute [local go_sem] Oper.semAt_some
set_option linter.unusedVariables false
set_option maxRecDepth 100000

/-- Between two bounds, or at the lower one. -/
def Betw (l h x : Nat) : Prop := Fin' x ∧ x < 2 ^ 64 ∧ sv l ≤ sv x ∧ (sv x ≤ sv h ∨ sv x = sv l)
theorem btw_betw {T k l x h : Nat} (hl : Bd T k l) (hx : Num x) (hh : Bd T k h) : Betw l h (btwD l x h) := by
  have hb := btw_bd hl hx hh
  refine ⟨hb.2.1, hb.1, ?_⟩
  have hx64 : x < 2 ^ 64 := by have := hx.1; omega
  unfold btwD
  have hm64 : minD x h < 2 ^ 64 := by unfold minD; split; exact hx64; exact hh.1
  by_cases c2 : plD (minD x h) ≤ plD l
  · rw [show maxD l (minD x h) = l by unfold maxD; rw [if_pos c2]]
    exact ⟨Int.le_refl _, .inr rfl⟩
  · rw [show maxD l (minD x h) = minD x h by unfold maxD; rw [if_neg c2]]
    refine ⟨plD_sv hl.1 hm64 (by omega), .inl ?_⟩
    unfold minD
    split
    · rename_i c1
      exact plD_sv hx64 hh.1 c1
    · exact Int.le_refl _
section
variable {t : Told}
theorem ToldOk.lB (o : ToldOk t) {i : Nat} (hi : i < t.n) : Bd 1074 (2 ^ 25) (t.l i) := usedF_bd (up := false) (o.L i hi)
theorem ToldOk.hB (o : ToldOk t) {i : Nat} (hi : i < t.n) : Bd 1074 (2 ^ 25) (t.h i) := usedF_bd (up := false) (o.H i hi)
theorem ToldOk.betw (o : ToldOk t) : ∀ k i, i < t.n → Betw (t.l i) (t.h i) ((t.st k).1 i) := fun k => by
  induction k with
  | zero => intro i hi; exact btw_betw (o.lB hi) (usedF_bd (up := false) (o.B i hi)).num (o.hB hi)
  | succ k ih =>
    intro i hi
    show Betw _ _ (t.shr.turnS (t.st k).1 (t.st k).2 i)
    unfold Shr.turnS
    cases hz : (t.st k).2 i with
    | true => rw [if_pos rfl]; exact ih i hi
    | false =>
      rw [if_neg (by decide)]
      exact btw_betw (o.lB hi) (o.shk.targ (o.shs k) hi hz).num (o.hB hi)
/-- Without factors all is held. -/
theorem ToldOk.held (o : ToldOk t) (hg : ∀ i, i < t.n → t.G i = 0) (hs : ∀ i, i < t.n → t.S i = 0) {i : Nat} (hi : i < t.n) : t.sizes i = t.Sz0 i := by
  have e0 : maxD 0 (usedD 0) = 0 := by kernel_rfl
  have hc : cnt t.n (t.st 0).2 = 0 := cnt_all (fun k hk => by
    show t.Fz0 k = true
    have e1 : t.g k = 0 := by unfold Told.g usedF; rw [if_pos rfl, hg k hk, e0]
    have e2 : t.s k = 0 := by unfold Told.s usedF; rw [if_pos rfl, hs k hk, e0]
    have e3 : t.fac k = 0 := by unfold Told.fac; split <;> assumption
    unfold Told.Fz0
    rw [e3, show eqD 0 0 = true by kernel_rfl]
    rfl)
  exact (o.done (k := 0) hc i hi).symm
theorem ToldOk.bB (o : ToldOk t) {i : Nat} (hi : i < t.n) : Bd 1074 (2 ^ 25) (t.b i) := usedF_bd (up := false) (o.B i hi)
/-- Held between its bounds. -/
theorem ToldOk.sz0_sv (o : ToldOk t) {i : Nat} (hi : i < t.n) : Sv (t.Sz0 i) (max (sv (t.l i)) (min (sv (t.b i)) (sv (t.h i)))) := Sv.btw (Sv.bd (o.lB hi)) (Sv.bd (o.bB hi)) (Sv.bd (o.hB hi))
end
/-- What was told, told again. -/
theorem again_sv {t t1 : Told} (o : ToldOk t) (o1 : ToldOk t1) (hn : t1.n = t.n) (hB : ∀ i, i < t.n → t1.B i = t.sizes i) (hL : t1.L = t.L) (hH : t1.H = t.H) (hg : ∀ i, i < t.n → t1.G i = 0) (hs : ∀ i, i < t.n → t1.S i = 0) {i : Nat} (hi : i < t.n) :
    Sv (t1.sizes i) (sv (t.sizes i)) := by
  have hi1 : i < t1.n := by rw [hn]; exact hi
  rw [o1.held (fun k hk => hg k (by rw [← hn]; exact hk)) (fun k hk => hs k (by rw [← hn]; exact hk)) hi1]
  have h := o1.sz0_sv hi1
  have el : t1.l i = t.l i := by unfold Told.l usedF; rw [hL]
  have eh : t1.h i = t.h i := by unfold Told.h usedF; rw [hH]
  have eb : t1.b i = usedD (t.sizes i) := by unfold Told.b usedF; rw [if_neg (by decide), hB i hi]
  have hbd := o.sizes_bd hi
  have hu := Sv.used (Sv.bd hbd) (by rw [← DD_eq]; exact hbd.2.2)
  obtain ⟨_, _, h1, h2⟩ := o.betw t.n i hi
  have h3 : sv (t.l i) ≤ sv (t.sizes i) := h1
  have h4 : sv (t.sizes i) ≤ sv (t.h i) ∨ sv (t.sizes i) = sv (t.l i) := h2
  rw [el, eh, eb, hu.sv] at h
  rw [show max (sv (t.l i)) (min (sv (t.sizes i)) (sv (t.h i))) = sv (t.sizes i) by omega] at h
  exact h
def pickMin (x y : Nat) : Ordering → Nat
  | .lt => x
  | .gt => y
  | .eq => if (FloatKind.f64.decode x).neg then x else y
def pickMax (x y : Nat) : Ordering → Nat
  | .lt => y
  | .gt => x
  | .eq => if (FloatKind.f64.decode x).neg then y else x
theorem run_min_f {P : Program} (x y : Nat) {o : Ordering} (h : FloatKind.f64.format.order x y = some o) (ts : Array TypeId) (ty : TypeId) (w : World) :
    (Builtin.min_ ts ty #[fl x, fl y]).run P w = .ok (fl (pickMin x y o)) w := by
  simp only [Builtin.min_, List.foldlM, Builtin.min2, h]
  cases o <;> rfl
theorem run_max_f {P : Program} (x y : Nat) {o : Ordering} (h : FloatKind.f64.format.order x y = some o) (ts : Array TypeId) (ty : TypeId) (w : World) :
    (Builtin.max_ ts ty #[fl x, fl y]).run P w = .ok (fl (pickMax x y o)) w := by
  simp only [Builtin.max_, List.foldlM, Builtin.max2, h]
  cases o <;> rfl
/-- The builtins, of two finite numbers. -/
theorem Sv.minF {x y : Nat} {a b : Int} (hx : Sv x a) (hy : Sv y b) : ∃ r, Sv r (Min.min a b) ∧ ∀ (P : Program) ts ty w, (Builtin.min_ ts ty #[fl x, fl y]).run P w = .ok (fl r) w := by
  have ho := hx.order hy
  refine ⟨_, ?_, fun P ts ty w => run_min_f x y ho ts ty w⟩
  rcases Int.lt_trichotomy a b with h | h | h
  · rw [Int.compare_eq_lt.2 h, show Min.min a b = a by omega]; exact hx
  · subst h
    rw [show compare a a = Ordering.eq by simp, show Min.min a a = a by omega]
    unfold pickMin
    dsimp only
    split
    · exact hx
    · exact hy
  · rw [Int.compare_eq_gt.2 h, show Min.min a b = b by omega]; exact hy
theorem Sv.maxF {x y : Nat} {a b : Int} (hx : Sv x a) (hy : Sv y b) : ∃ r, Sv r (Max.max a b) ∧ ∀ (P : Program) ts ty w, (Builtin.max_ ts ty #[fl x, fl y]).run P w = .ok (fl r) w := by
  have ho := hx.order hy
  refine ⟨_, ?_, fun P ts ty w => run_max_f x y ho ts ty w⟩
  rcases Int.lt_trichotomy a b with h | h | h
  · rw [Int.compare_eq_lt.2 h, show Max.max a b = b by omega]; exact hy
  · subst h
    rw [show compare a a = Ordering.eq by simp, show Max.max a a = a by omega]
    unfold pickMax
    dsimp only
    split
    · exact hy
    · exact hx
  · rw [Int.compare_eq_gt.2 h, show Max.max a b = a by omega]; exact hx
/-- What may be used, of a finite number. -/
theorem used_fin {x : Nat} {a : Int} (hx : Sv x a) : Sv (usedD x) (max (-((2 ^ 25 * DD : Nat) : Int)) (min a ((2 ^ 25 * DD : Nat) : Int))) := by
  unfold usedD od
  rw [hx.order hx, hx.order zero_sv, hx.order mx_sv, hx.order mn_sv, cmp_eq, cmp_gt, cmp_lt]
  have e1 : (some (compare a a) != some Ordering.eq) = false := by simp
  rw [e1, if_neg (by decide)]
  obtain ⟨D, hD⟩ : ∃ D, D = 2 ^ 25 * DD := ⟨_, rfl⟩
  have hm := mx_sv
  have hn := mn_sv
  have hz := zero_sv
  rw [← hD] at hm hn ⊢
  by_cases h0 : a = 0
  · rw [if_pos (by simpa using h0), show max (-(D : Int)) (min a (D : Int)) = 0 by omega]; exact hz
  · rw [if_neg (by simpa using h0)]
    by_cases h1 : (D : Int) < a
    · rw [if_pos (by simpa using h1), show max (-(D : Int)) (min a (D : Int)) = D by omega]; exact hm
    · rw [if_neg (by simpa using h1)]
      by_cases h2 : a < -(D : Int)
      · rw [if_pos (by simpa using h2), show max (-(D : Int)) (min a (D : Int)) = -(D : Int) by omega]; exact hn
      · rw [if_neg (by simpa using h2), show max (-(D : Int)) (min a (D : Int)) = a by omega]; exact hx
/-- The law's 'used': of whatever number. -/
theorem usedL_runs {x : Nat} (h64 : x < 18446744073709551616) (hn : Num x) : ∃ m r, (∀ (P : Program) ts ty w, (Builtin.min_ ts ty #[fl x, fl 4719772409484279808]).run P w = .ok (fl m) w) ∧ (∀ (P : Program) ts ty w, (Builtin.max_ ts ty #[fl 13943144446339055616, fl m]).run P w = .ok (fl r) w) ∧ Sv r (sv (usedD x)) := by
  rcases hn.cases with hf | hi
  · have hx : Sv x (sv x) := Sv.of hf (by omega)
    obtain ⟨m, m1, m2⟩ := hx.minF mx_sv
    obtain ⟨r, r1, r2⟩ := mn_sv.maxF m1
    refine ⟨m, r, m2, r2, ?_⟩
    rw [(used_fin hx).sv]
    exact r1
  · have o1 := order_inf hi fin_mx
    cases hs : sgb x with
    | false =>
      rw [hs, if_neg (by decide)] at o1
      have e : usedD x = mx := by
        unfold usedD od
        have a1 : FloatKind.f64.format.order x x = some .eq := hn.order
        have a2 := order_inf hi zero_sv.fin
        rw [hs, if_neg (by decide)] at a2
        have a2' : FloatKind.f64.format.order x 0 = some .gt := a2
        have a3' : FloatKind.f64.format.order x mx = some .gt := o1
        rw [a1, a2', a3']
        rfl
      obtain ⟨r, r1, r2⟩ := mn_sv.maxF mx_sv
      refine ⟨_, r, fun P ts ty w => run_min_f x 4719772409484279808 o1 ts ty w, r2, ?_⟩
      rw [e, sv_mx]
      have hd := DD_pos
      rw [show max (-((2 ^ 25 * DD : Nat) : Int)) ((2 ^ 25 * DD : Nat) : Int) = ((2 ^ 25 * DD : Nat) : Int) by omega] at r1
      rw [DD_eq]
      exact r1
    | true =>
      rw [hs, if_pos rfl] at o1
      have o2 := order_inf hi fin_mn
      rw [hs, if_pos rfl] at o2
      have e : usedD x = mn := by
        unfold usedD od
        have a1 : FloatKind.f64.format.order x x = some .eq := hn.order
        have a2 := order_inf hi zero_sv.fin
        rw [hs, if_pos rfl] at a2
        have a2' : FloatKind.f64.format.order x 0 = some .lt := a2
        have a3' : FloatKind.f64.format.order x mx = some .lt := o1
        have a4' : FloatKind.f64.format.order x mn = some .lt := o2
        rw [a1, a2', a3', a4']
        rfl
      have o3 : FloatKind.f64.format.order 13943144446339055616 x = some .gt := by
        obtain ⟨m, p, em, _⟩ := read_fin fin_mn
        show Ieee.double.order mn x = _
        unfold Ieee.Format.order
        rw [read_inf hi, em, hs]
        rfl
      refine ⟨_, _, fun P ts ty w => run_min_f x 4719772409484279808 o1 ts ty w, fun P ts ty w => run_max_f 13943144446339055616 x o3 ts ty w, ?_⟩
      rw [e]
      exact Sv.of fin_mn (show mn < 2 ^ 64 by decide)
theorem fe3_end : True := trivial
end Go.Proofs.Ytohmmkkbfiembaa
