/- Whole texts and rows: there and back. No program. -/
import Derived.Test.YtlmbpbijhhnhpaaWk2
namespace Go.Proofs.Ytlmbpbijhhnhpaa
open Go.RowKit
set_option linter.unusedVariables false

theorem runeB_byte (c : Nat) (h : Scalar c) : ∀ b ∈ runeB c, b ≤ 255 := by
  unfold Scalar at h
  unfold runeB
  intro b hb
  split at hb
  · simp only [List.mem_cons, List.not_mem_nil, or_false] at hb; omega
  · split at hb
    · simp only [List.mem_cons, List.not_mem_nil, or_false] at hb; omega
    · split at hb <;> simp only [List.mem_cons, List.not_mem_nil, or_false] at hb <;> omega
theorem texts_byte (cs : List Nat) (hs : ∀ c ∈ cs, Scalar c) : ∀ b ∈ cs.flatMap runeB, b ≤ 255 := by
  intro b hb
  obtain ⟨c, hc, hbc⟩ := List.mem_flatMap.1 hb
  exact runeB_byte c (hs c hc) b hbc
/-- A text of scalars: its pieces are these, all of them good. -/
theorem texts_back (cs : List Nat) (hs : ∀ c ∈ cs, Scalar c) (pre : List Nat) (hpre : ∀ b ∈ pre, b ≤ 255) : (pcsFrom (strB (pre ++ cs.flatMap runeB)) pre.length).map (fun x => (x.c, x.ok)) = cs.map fun c => (c, true) := by
  induction cs generalizing pre with
  | nil => rw [pcsFrom_end _ _ (by rw [strB_size]; simp)]; rfl
  | cons c cs ih =>
    have hl := (runeB_len c).1
    have hc := hs c (by simp)
    have hcs : ∀ x ∈ cs, Scalar x := fun x hx => hs x (by simp [hx])
    rw [List.flatMap_cons]
    have hp := rune_piece (strB (pre ++ (runeB c ++ cs.flatMap runeB))) pre.length c hc (fun j b hj => by
      rw [byteAt_strB _ (fun b hb => by
        rcases List.mem_append.1 hb with h | h
        · exact hpre b h
        · rcases List.mem_append.1 h with h | h
          · exact runeB_byte c hc b h
          · exact texts_byte cs hcs b h), getD_pre]
      have hjl := (List.getElem?_eq_some_iff.1 hj).1
      simp [List.getElem?_append_left hjl, hj]) (by rw [strB_size, List.length_append, List.length_append]; omega)
    rw [pcsFrom_step _ _ (by rw [strB_size, List.length_append, List.length_append]; omega), hp, List.map_cons, List.map_cons]
    congr 1
    have := ih hcs (pre ++ runeB c) (fun b hb => by
      rcases List.mem_append.1 hb with h | h
      · exact hpre b h
      · exact runeB_byte c hc b h)
    rw [List.append_assoc, List.length_append] at this
    exact this

/-! A text mended. -/
def bytesOf (s : ByteArray) (i j : Nat) : List Nat := (List.range (j - i)).map fun k => byteAt s (i + k)
theorem bytesOf_self (s : ByteArray) (i : Nat) : bytesOf s i i = [] := by simp [bytesOf]
theorem bytesOf_append (s : ByteArray) (i j k : Nat) (h1 : i ≤ j) (h2 : j ≤ k) : bytesOf s i j ++ bytesOf s j k = bytesOf s i k := by
  unfold bytesOf
  rw [show k - i = (j - i) + (k - j) by omega, List.range_add, List.map_append, List.map_map]
  congr 1
  apply List.map_congr_left
  intro x _
  simp only [Function.comp]
  congr 1
  omega
def mb (s : ByteArray) (x : Pc) : List Nat := if x.ok then bytesOf s x.p (x.p + x.n) else [239, 191, 189]
theorem mb_rune (s : ByteArray) (p : Nat) : Scalar (pcAt s p).c ∧ runeB (pcAt s p).c = mb s (pcAt s p) := by
  unfold mb
  cases hk : (pcAt s p).ok with
  | true =>
    obtain ⟨h1, h2⟩ := piece_bytes s p hk
    refine ⟨h1, ?_⟩
    rw [h2, pcAt_p, if_pos rfl]
    unfold bytesOf
    rw [Nat.add_sub_cancel_left]
  | false =>
    rw [(pcAt_bad s p hk).1]
    exact ⟨.inr ⟨by decide, by decide⟩, show runeB 65533 = [239, 191, 189] by decide⟩
theorem codes_scalar (s : ByteArray) : ∀ c ∈ (pcs s).map Pc.c, Scalar c := by
  intro c hc
  obtain ⟨x, hx, rfl⟩ := List.mem_map.1 hc
  obtain ⟨q, _, rfl⟩ := pcsFrom_mem s 0 x hx
  exact (mb_rune s q).1
theorem halfC_scalar {c : Nat} (h : Scalar c) : halfC c = c := by unfold halfC; unfold Scalar at h; rw [if_neg (by omega)]
theorem uns_from (s : ByteArray) : (uns (fromPc (pcs s))).map (fun x => (x.c, x.lone)) = ((pcs s).map Pc.c).map fun c => (c, false) := by
  have := units_back ((pcs s).map Pc.c) (codes_scalar s) []
  rw [List.nil_append, ← fromPc_map] at this
  exact this
theorem uns_from_c (s : ByteArray) : (uns (fromPc (pcs s))).map Un.c = (pcs s).map Pc.c := by
  have := congrArg (List.map Prod.fst) (uns_from s)
  simpa [List.map_map, Function.comp_def] using this
theorem uns_from_lone (s : ByteArray) : ∀ x ∈ uns (fromPc (pcs s)), x.lone = false := by
  intro x hx
  have : (x.c, x.lone) ∈ (uns (fromPc (pcs s))).map fun x => (x.c, x.lone) := List.mem_map.2 ⟨x, hx, rfl⟩
  rw [uns_from] at this
  obtain ⟨c, _, hc⟩ := List.mem_map.1 this
  exact (Prod.mk.inj hc).2.symm
/-- There and back: the text mended. -/
theorem text_mended (s : ByteArray) : textU (uns (fromPc (pcs s))) = (pcs s).flatMap (mb s) := by
  rw [textU_map, uns_from_c, List.flatMap_map, List.flatMap_def, List.flatMap_def]
  congr 1
  apply List.map_congr_left
  intro x hx
  obtain ⟨q, _, rfl⟩ := pcsFrom_mem s 0 x hx
  obtain ⟨h1, h2⟩ := mb_rune s q
  rw [halfC_scalar h1, h2]
def isBad (x : Pc) : Bool := !x.ok
/-- Up to the next that is none. -/
theorem next_bad (s : ByteArray) (p : Nat) (hp : p ≤ s.size) :
    ((pcsFrom s p).filter isBad = [] → (pcsFrom s p).flatMap (mb s) = bytesOf s p s.size) ∧
    ∀ x rest, (pcsFrom s p).filter isBad = x :: rest → p ≤ x.p ∧ x.p + x.n ≤ s.size ∧ x.ok = false ∧ 1 ≤ x.n ∧ x.n ≤ 3 ∧ rest = (pcsFrom s (x.p + x.n)).filter isBad ∧ (pcsFrom s p).flatMap (mb s) = bytesOf s p x.p ++ ([239, 191, 189] ++ (pcsFrom s (x.p + x.n)).flatMap (mb s)) := by
  induction p using pcsFrom.induct s with
  | case1 p h ih =>
    have hsz := pcAt_size s p h
    have hnb := pcAt_n_bnd s p
    have hpp := pcAt_p s p
    obtain ⟨ih1, ih2⟩ := ih hsz
    rw [pcsFrom_step s p h]
    cases hk : (pcAt s p).ok with
    | true =>
      have hb : isBad (pcAt s p) = false := by unfold isBad; rw [hk]; rfl
      have hm : mb s (pcAt s p) = bytesOf s p (p + (pcAt s p).n) := by unfold mb; rw [hk, if_pos rfl, hpp]
      rw [List.filter_cons_of_neg (by rw [hb]; simp), List.flatMap_cons, hm]
      refine ⟨fun he => ?_, fun x rest he => ?_⟩
      · rw [ih1 he, bytesOf_append s _ _ _ (by omega) hsz]
      · obtain ⟨h1, h2, h3, h4, h5, h6, h7⟩ := ih2 x rest he
        refine ⟨by omega, h2, h3, h4, h5, h6, ?_⟩
        rw [h7, ← List.append_assoc, bytesOf_append s _ _ _ (by omega) h1]
    | false =>
      have hb : isBad (pcAt s p) = true := by unfold isBad; rw [hk]; rfl
      have hm : mb s (pcAt s p) = [239, 191, 189] := by unfold mb; rw [hk]; rfl
      have hn3 := (pcAt_bad s p hk).2.1
      rw [List.filter_cons_of_pos hb, List.flatMap_cons, hm]
      refine ⟨fun he => absurd he (by simp), fun x rest he => ?_⟩
      obtain ⟨rfl, rfl⟩ := List.cons.inj he
      rw [hpp]
      exact ⟨Nat.le_refl _, hsz, hk, hnb.1, hn3, rfl, by rw [bytesOf_self, List.nil_append]⟩
  | case2 p h =>
    rw [pcsFrom_end s p h]
    refine ⟨fun _ => ?_, fun x rest he => by cases he⟩
    rw [show p = s.size by omega, bytesOf_self]
    rfl
end Go.Proofs.Ytlmbpbijhhnhpaa
