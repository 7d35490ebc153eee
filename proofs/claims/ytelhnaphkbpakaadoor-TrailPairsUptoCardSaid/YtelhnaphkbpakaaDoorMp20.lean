/- Part 20 of the proof of TpP: lemmas. -/
import Derived.Test.YtelhnaphkbpakaaDoorMp19
namespace Go.Proofs.YtelhnaphkbpakaaDoor
open Go.RowKit
set_option linter.unusedVariables false
set_option maxRecDepth 100000
def Crs (L : List LA) (s m b : Nat) : Prop := ∀ (p q : Nat) (x y : LA), s ≤ p → p < m → m ≤ q → q < b → L[p]? = some x → L[q]? = some y → leA x y
theorem Srt.join {L : List LA} {s m b : Nat} (h1 : Srt L s m) (h2 : Srt L m b) (h : Crs L s m b) : Srt L s b := fun p q x y a1 a2 a3 hx hy => by
  by_cases c1 : q < m
  · exact h1 p q x y a1 a2 c1 hx hy
  · by_cases c2 : p < m
    · exact h p q x y a1 c2 (by omega) a3 hx hy
    · exact h2 p q x y (by omega) a2 a3 hx hy
theorem sym_cross {L R : List LA} {s m b mid t e : Nat} (h1 : Srt L s m) (h2 : Srt L m b) (hs : s ≤ t) (htm : t ≤ m) (hme : m ≤ e) (heb : e ≤ b) (hmid : t + (e - m) = mid)
    (hR : ∀ k, R[k]? = rotF (fun k => L[k]?) t m e k)
    (hlo : s < t → e < b → ∀ x y, L[t - 1]? = some x → L[e]? = some y → leA x y) (hhi : t < m → m < e → ∀ x y, L[e - 1]? = some x → L[t]? = some y → leA x y) (hbl : b ≤ L.length) : Crs R s mid b := by
  have get : ∀ k, k < b → ∃ z, L[k]? = some z := fun k hk => ⟨_, List.getElem?_eq_getElem (by omega)⟩
  have le1 : ∀ p q x y, s ≤ p → p ≤ q → q < m → L[p]? = some x → L[q]? = some y → leA x y := fun p q x y a1 a2 a3 hx hy => by
    by_cases c : p = q
    · subst c; rw [hx] at hy; cases hy; exact Int.le_of_eq (cmpA_zero.2 rfl)
    · exact h1 p q x y a1 (by omega) a3 hx hy
  have le2 : ∀ p q x y, m ≤ p → p ≤ q → q < b → L[p]? = some x → L[q]? = some y → leA x y := fun p q x y a1 a2 a3 hx hy => by
    by_cases c : p = q
    · subst c; rw [hx] at hy; cases hy; exact Int.le_of_eq (cmpA_zero.2 rfl)
    · exact h2 p q x y a1 (by omega) a3 hx hy
  intro p q x y a1 a2 a3 a4 hx hy
  rw [hR] at hx hy
  unfold rotF at hx hy
  by_cases c1 : p < t
  · rw [if_neg (by omega)] at hx
    by_cases c2 : q < e
    · rw [if_pos (by omega), if_neg (by omega)] at hy
      exact le1 p _ x y a1 (by omega) (by omega) hx hy
    · rw [if_neg (by omega)] at hy
      obtain ⟨u, hu⟩ := get (t - 1) (by omega)
      obtain ⟨v, hv⟩ := get e (by omega)
      exact (le1 p (t - 1) x u a1 (by omega) (by omega) hx hu).trans ((hlo (by omega) (by omega) u v hu hv).trans (le2 e q v y hme (by omega) a4 hv hy))
  · rw [if_pos (by omega), if_pos (by omega)] at hx
    by_cases c2 : q < e
    · rw [if_pos (by omega), if_neg (by omega)] at hy
      obtain ⟨u, hu⟩ := get (e - 1) (by omega)
      obtain ⟨v, hv⟩ := get t (by omega)
      exact (le2 _ (e - 1) x u (by omega) (by omega) (by omega) hx hu).trans ((hhi (by omega) (by omega) u v hu hv).trans (le1 t _ v y hs (by omega) (by omega) hv hy))
    · rw [if_neg (by omega)] at hy
      exact le2 _ q x y (by omega) (by omega) a4 hx hy
theorem ins_low {L R : List LA} {s b i : Nat} {z : LA} (h2 : Srt L (s + 1) b) (hi : s + 1 ≤ i) (hib : i ≤ b) (hz : L[s]? = some z)
    (hR : ∀ k, R[k]? = rotF (fun k => L[k]?) s (s + 1) i k) (hlo : ∀ k x, s + 1 ≤ k → k < i → L[k]? = some x → leA x z) (hhi : ∀ k x, i ≤ k → k < b → L[k]? = some x → leA z x) : Srt R s b := by
  intro p q x y a1 a2 a3 hx hy
  rw [hR] at hx hy
  unfold rotF at hx hy
  by_cases c1 : q < i
  · rw [if_pos (by omega), if_pos (by omega)] at hx
    rw [if_pos (by omega)] at hy
    by_cases c2 : q < s + (i - (s + 1))
    · rw [if_pos c2] at hy
      exact h2 _ _ x y (by omega) (by omega) (by omega) hx hy
    · rw [if_neg c2, show q - (i - (s + 1)) = s by omega] at hy
      replace hy := (show L[s]? = some y from hy)
      rw [hz] at hy
      cases hy
      exact hlo _ x (by omega) (by omega) hx
  · rw [if_neg (by omega)] at hy
    by_cases c3 : p < i
    · rw [if_pos (by omega)] at hx
      by_cases c2 : p < s + (i - (s + 1))
      · rw [if_pos c2] at hx
        exact (hlo _ x (by omega) (by omega) hx).trans (hhi q y (by omega) a3 hy)
      · rw [if_neg c2, show p - (i - (s + 1)) = s by omega] at hx
        replace hx := (show L[s]? = some x from hx)
        rw [hz] at hx
        cases hx
        exact hhi q y (by omega) a3 hy
    · rw [if_neg (by omega)] at hx
      exact h2 p q x y (by omega) a2 a3 hx hy
theorem ins_high {L R : List LA} {s m i : Nat} {z : LA} (h1 : Srt L s m) (hsi : s ≤ i) (him : i ≤ m) (hz : L[m]? = some z)
    (hR : ∀ k, R[k]? = rotF (fun k => L[k]?) i m (m + 1) k) (hlo : ∀ k x, s ≤ k → k < i → L[k]? = some x → leA x z) (hhi : ∀ k x, i ≤ k → k < m → L[k]? = some x → leA z x) : Srt R s (m + 1) := by
  intro p q x y a1 a2 a3 hx hy
  rw [hR] at hx hy
  unfold rotF at hx hy
  by_cases c1 : q < i
  · rw [if_neg (by omega)] at hx hy
    exact h1 p q x y a1 a2 (by omega) hx hy
  · rw [if_pos (by omega)] at hy
    by_cases c2 : q < i + (m + 1 - m)
    · rw [if_pos c2, show q + (m - i) = m by omega] at hy
      replace hy := (show L[m]? = some y from hy)
      rw [hz] at hy
      cases hy
      rw [if_neg (by omega)] at hx
      exact hlo p x a1 (by omega) hx
    · rw [if_neg c2] at hy
      by_cases c3 : p < i
      · rw [if_neg (by omega)] at hx
        exact h1 p _ x y a1 (by omega) (by omega) hx hy
      · rw [if_pos (by omega)] at hx
        by_cases c4 : p < i + (m + 1 - m)
        · rw [if_pos c4, show p + (m - i) = m by omega] at hx
          replace hx := (show L[m]? = some x from hx)
          rw [hz] at hx
          cases hx
          exact hhi _ y (by omega) (by omega) hy
        · rw [if_neg c4] at hx
          exact h1 _ _ x y (by omega) (by omega) (by omega) hx hy
theorem Srt.same {L R : List LA} {s b : Nat} (h : Srt L s b) (he : ∀ k, s ≤ k → k < b → R[k]? = L[k]?) : Srt R s b := fun p q x y a1 a2 a3 hx hy => h p q x y a1 a2 a3 (by rw [← he p a1 (by omega)]; exact hx) (by rw [← he q (by omega) a3]; exact hy)
theorem Srt.le {L : List LA} {s b p q : Nat} {x y : LA} (h : Srt L s b) (hs : s ≤ p) (hpq : p ≤ q) (hq : q < b) (hx : L[p]? = some x) (hy : L[q]? = some y) : leA x y := by
  by_cases c : p = q
  · subst c; rw [hx] at hy; cases hy; exact Int.le_of_eq (cmpA_zero.2 rfl)
  · exact h p q x y hs (by omega) hq hx hy
theorem rot_parts {L R : List LA} {s m b mid t e : Nat} (h1 : Srt L s m) (h2 : Srt L m b) (hs : s ≤ t) (htm : t ≤ m) (hme : m ≤ e) (heb : e ≤ b) (hmid : t + (e - m) = mid)
    (hR : ∀ k, R[k]? = rotF (fun k => L[k]?) t m e k) : Srt R s t ∧ Srt R t mid ∧ Srt R mid e ∧ Srt R e b := by
  refine ⟨fun p q x y a1 a2 a3 hx hy => ?_, fun p q x y a1 a2 a3 hx hy => ?_, fun p q x y a1 a2 a3 hx hy => ?_, fun p q x y a1 a2 a3 hx hy => ?_⟩
  all_goals rw [hR] at hx hy
  all_goals unfold rotF at hx hy
  · rw [if_neg (by omega)] at hx hy
    exact h1 p q x y a1 a2 (by omega) hx hy
  · rw [if_pos (by omega), if_pos (by omega)] at hx hy
    exact h2 _ _ x y (by omega) (by omega) (by omega) hx hy
  · rw [if_pos (by omega), if_neg (by omega)] at hx hy
    exact h1 _ _ x y (by omega) (by omega) (by omega) hx hy
  · rw [if_neg (by omega)] at hx hy
    exact h2 p q x y (by omega) a2 a3 hx hy
theorem rot_up {L M : List LA} {s k : Nat} {x y : LA} (hsk : s ≤ k) (hM : ∀ j, M[j]? = rotF (fun j => L[j]?) s (s + 1) (k + 1) j) (hx : M[k]? = some x) (hy : M[k + 1]? = some y) (j : Nat) :
    ((M.set k y).set (k + 1) x)[j]? = rotF (fun j => L[j]?) s (s + 1) (k + 1 + 1) j := by
  rw [swap_at hx hy]
  have ex := hM k
  rw [hx] at ex
  have ey := hM (k + 1)
  rw [hy] at ey
  by_cases c1 : j = k + 1
  · rw [if_pos c1, c1, ex]; unfold rotF
    rw [if_pos (by omega), if_neg (by omega), if_pos (by omega), if_neg (by omega)]
    congr 1; omega
  · rw [if_neg c1]
    by_cases c2 : j = k
    · rw [if_pos c2, c2, ey]; unfold rotF
      rw [if_neg (by omega), if_pos (by omega), if_pos (by omega)]
      congr 1; omega
    · rw [if_neg c2, hM]; unfold rotF
      repeat' split
      all_goals first | rfl | (exfalso; omega) | (congr 1; omega)
theorem rot_down {L M : List LA} {m k : Nat} {x y : LA} (hk : 0 < k) (hkm : k ≤ m) (hM : ∀ j, M[j]? = rotF (fun j => L[j]?) k m (m + 1) j) (hx : M[k]? = some x) (hy : M[k - 1]? = some y) (j : Nat) :
    ((M.set k y).set (k - 1) x)[j]? = rotF (fun j => L[j]?) (k - 1) m (m + 1) j := by
  rw [swap_at hx hy]
  have ex := hM k
  rw [hx] at ex
  have ey := hM (k - 1)
  rw [hy] at ey
  by_cases c1 : j = k - 1
  · rw [if_pos c1, c1, ex]; unfold rotF
    rw [if_pos (by omega), if_pos (by omega), if_pos (by omega), if_pos (by omega)]
    congr 1; omega
  · rw [if_neg c1]
    by_cases c2 : j = k
    · rw [if_pos c2, c2, ey]; unfold rotF
      rw [if_neg (by omega), if_pos (by omega), if_neg (by omega)]
      congr 1; omega
    · rw [if_neg c2, hM]; unfold rotF
      repeat' split
      all_goals first | rfl | (exfalso; omega) | (congr 1; omega)
theorem rot_none {L : List LA} {t m e : Nat} (h : t = m ∨ m = e) (k : Nat) : L[k]? = rotF (fun k => L[k]?) t m e k := by
  unfold rotF
  repeat' split
  all_goals first | rfl | (exfalso; omega) | (congr 1; omega)
theorem Crs.perm {L R : List LA} {s m b : Nat} (h : Crs L s m b) (h1 : ∀ p x, s ≤ p → p < m → R[p]? = some x → ∃ p', s ≤ p' ∧ p' < m ∧ L[p']? = some x) (h2 : ∀ p x, m ≤ p → p < b → R[p]? = some x → ∃ p', m ≤ p' ∧ p' < b ∧ L[p']? = some x) : Crs R s m b := fun p q x y a1 a2 a3 a4 hx hy => by
  obtain ⟨p', b1, b2, b3⟩ := h1 p x a1 a2 hx
  obtain ⟨q', b4, b5, b6⟩ := h2 q y a3 a4 hy
  exact h p' q' x y b1 b2 b4 b5 b3 b6
theorem perm_in {L R : List LA} {s b : Nat} (hp : R.Perm L) (he : ∀ k, (k < s ∨ b ≤ k) → R[k]? = L[k]?) {p : Nat} {x : LA} (hs : s ≤ p) (hb : p < b) (hx : R[p]? = some x) : ∃ p', s ≤ p' ∧ p' < b ∧ L[p']? = some x := by
  have hlen := hp.length_eq
  have hpl := (List.getElem?_eq_some_iff.1 hx).1
  have e1 : R.take s = L.take s := by
    apply List.ext_getElem?
    intro i
    rw [List.getElem?_take, List.getElem?_take]
    split
    · exact he i (.inl (by omega))
    · rfl
  have e2 : R.drop b = L.drop b := by
    apply List.ext_getElem?
    intro i
    rw [List.getElem?_drop, List.getElem?_drop]
    exact he _ (.inr (by omega))
  have sp : ∀ M : List LA, M = M.take s ++ ((M.drop s).take (b - s) ++ M.drop b) := fun M => by
    have h1 : M.drop b = (M.drop s).drop (b - s) := by rw [List.drop_drop]; congr 1; omega
    rw [h1, List.take_append_drop, List.take_append_drop]
  have hp2 : ((R.drop s).take (b - s)).Perm ((L.drop s).take (b - s)) := by
    rw [sp R, sp L, e1, e2] at hp
    exact (List.perm_append_right_iff _).1 ((List.perm_append_left_iff _).1 hp)
  have hin : x ∈ (R.drop s).take (b - s) := by
    apply List.mem_of_getElem? (i := p - s)
    rw [List.getElem?_take, if_pos (by omega), List.getElem?_drop, show s + (p - s) = p by omega]
    exact hx
  obtain ⟨i, hi⟩ := List.mem_iff_getElem?.1 (hp2.mem_iff.1 hin)
  rw [List.getElem?_take] at hi
  split at hi
  · rw [List.getElem?_drop] at hi
    exact ⟨s + i, by omega, by omega, hi⟩
  · cases hi
end Go.Proofs.YtelhnaphkbpakaaDoor
