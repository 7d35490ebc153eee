/- A row of units: to a text and back. No program. -/
import Derived.Test.YtlmbpbijhhnhpaaWk3
import Derived.Test.YtlmbpbijhhnhpaaWuW
import Derived.Test.YtlmbpbijhhnhpaaWd26
namespace Go.Proofs.Ytlmbpbijhhnhpaa
open Go.RowKit
set_option linter.unusedVariables false

theorem unC_half (x : Un) : unC x = halfC x.c := rfl
theorem pcs_text (us : List Nat) (hb : ∀ u ∈ us, u ≤ 65535) : (pcs (strB (textU (uns us)))).map (fun x => (x.c, x.ok)) = ((uns us).map unC).map fun c => (c, true) := by
  have h := texts_back ((uns us).map unC) (fun c hc => by
    obtain ⟨x, hx, rfl⟩ := List.mem_map.1 hc
    obtain ⟨l1, l2, h⟩ := List.append_of_mem hx
    exact unC_scalar hb h) [] (by simp)
  rw [List.nil_append, List.flatMap_map] at h
  exact h
theorem text_ok (us : List Nat) (hb : ∀ u ∈ us, u ≤ 65535) : ∀ x ∈ pcs (strB (textU (uns us))), x.ok = true := by
  intro x hx
  have : (x.c, x.ok) ∈ (pcs (strB (textU (uns us)))).map fun x => (x.c, x.ok) := List.mem_map.2 ⟨x, hx, rfl⟩
  rw [pcs_text us hb] at this
  obtain ⟨c, _, hc⟩ := List.mem_map.1 this
  exact (Prod.mk.inj hc).2.symm
theorem from_text (us : List Nat) (hb : ∀ u ∈ us, u ≤ 65535) : fromPc (pcs (strB (textU (uns us)))) = (uns us).flatMap fun x => unitsOf (unC x) := by
  have h := congrArg (List.map Prod.fst) (pcs_text us hb)
  rw [List.map_map, List.map_map] at h
  rw [fromPc_map, show (pcs (strB (textU (uns us)))).map Pc.c = (uns us).map unC from by simpa [Function.comp_def] using h, List.flatMap_map]
def setAll (l : List Nat) (ps : List Nat) : List Nat := ps.foldl (fun l p => l.set p 65533) l
theorem setAll_len (l ps : List Nat) : (setAll l ps).length = l.length := by
  unfold setAll
  induction ps generalizing l with
  | nil => rfl
  | cons p ps ih => rw [List.foldl_cons, ih, List.length_set]
theorem units_un (us : List Nat) (hb : ∀ u ∈ us, u ≤ 65535) (i : Nat) (h : i < us.length) (hl : isHalf (unAt us i).c = false) : unitsOf (unC (unAt us i)) = (us.drop i).take (unAt us i).n := by
  have hq : us.getD i 0 ≤ 65535 := by
    rw [getD_of (List.getElem?_eq_getElem h)]
    exact hb _ (List.getElem_mem h)
  have e0 : us.drop i = us.getD i 0 :: us.drop (i + 1) := by rw [getD_of (List.getElem?_eq_getElem h)]; exact List.drop_eq_getElem_cons h
  have hu : unC (unAt us i) = (unAt us i).c := by
    unfold isHalf at hl
    unfold unC
    rw [if_neg (by simpa using hl)]
  rw [hu]
  clear hu hl
  unfold unAt
  by_cases hp : Pair us i
  · rw [if_pos hp]
    have h2 := hp.2.2.1
    have e1 : us.drop (i + 1) = us.getD (i + 1) 0 :: us.drop (i + 1 + 1) := by rw [getD_of (List.getElem?_eq_getElem h2)]; exact List.drop_eq_getElem_cons h2
    rw [e0, e1]
    obtain ⟨h3, h4, _, h5, h6⟩ := hp
    generalize us.getD i 0 = x at *
    generalize us.getD (i + 1) 0 = y at *
    unfold unitsOf
    simp only
    rw [if_pos (by omega)]
    have a1 : 55296 + (65536 + (x - 55296) * 1024 + (y - 56320) - 65536) / 1024 = x := by omega
    have a2 : 56320 + (65536 + (x - 55296) * 1024 + (y - 56320) - 65536) % 1024 = y := by omega
    rw [a1, a2]
    rfl
  · rw [if_neg hp]
    rw [e0]
    generalize us.getD i 0 = x at *
    unfold unitsOf
    simp only
    rw [if_neg (by omega)]
    rfl
theorem lone_un (us : List Nat) (i : Nat) (hl : isHalf (unAt us i).c = true) : (unAt us i).n = 1 ∧ (unAt us i).p = i ∧ unC (unAt us i) = 65533 := by
  have hu : 55296 ≤ (unAt us i).c ∧ (unAt us i).c ≤ 57343 := by unfold isHalf at hl; simpa using hl
  have hc : unC (unAt us i) = 65533 := by unfold unC; rw [if_pos hu]
  refine ⟨?_, ?_, hc⟩
  · unfold unAt at hu ⊢
    by_cases hp : Pair us i
    · rw [if_pos hp] at hu; simp only at hu; have := hp.1; have := hp.2.2.2.1; omega
    · rw [if_neg hp]
  · unfold unAt; split <;> rfl
theorem mend_from (us : List Nat) (hb : ∀ u ∈ us, u ≤ 65535) (i : Nat) (l : List Nat) (hi : i ≤ us.length) (hl : l.length = us.length) (hd : l.drop i = us.drop i) :
    setAll l (loneL (unsFrom us i)) = l.take i ++ (unsFrom us i).flatMap fun x => unitsOf (unC x) := by
  induction i using unsFrom.induct us generalizing l with
  | case1 i h ih =>
    have hsz := unAt_size us i h
    rw [unsFrom_step us i h, List.flatMap_cons]
    have hcons : loneL (unAt us i :: unsFrom us (i + (unAt us i).n)) = if isHalf (unAt us i).c then (unAt us i).p :: loneL (unsFrom us (i + (unAt us i).n)) else loneL (unsFrom us (i + (unAt us i).n)) := by unfold loneL; rw [List.filter_cons]; split <;> rfl
    rw [hcons]
    cases hk : isHalf (unAt us i).c with
    | true =>
      obtain ⟨h1, h2, h3⟩ := lone_un us i hk
      rw [if_pos rfl, h2, h3]
      have hu : unitsOf 65533 = [65533] := by unfold unitsOf; rw [if_neg (by omega)]
      have := ih (l.set i 65533) hsz (by rw [List.length_set]; exact hl) (by
        rw [h1, List.drop_set_of_lt (by omega), ← List.drop_drop, hd, List.drop_drop])
      rw [h1] at this ⊢
      rw [show setAll l (i :: loneL (unsFrom us (i + 1))) = setAll (l.set i 65533) (loneL (unsFrom us (i + 1))) from rfl, this, hu, ← List.append_assoc]
      congr 1
      rw [List.take_add_one, List.getElem?_set_self (by omega), List.take_set_of_le (Nat.le_refl _)]
      rfl
    | false =>
      rw [if_neg (by decide)]
      have := ih l hsz hl (by rw [← List.drop_drop, hd, List.drop_drop])
      rw [this, units_un us hb i h hk, ← hd, List.take_add, List.append_assoc]
  | case2 i h =>
    rw [unsFrom_end us i h, List.flatMap_nil, List.append_nil, List.take_of_length_le (by omega)]
    rfl
theorem from_lone (s : ByteArray) : loneL (uns (fromPc (pcs s))) = [] := by
  unfold loneL
  rw [List.map_eq_nil_iff, List.filter_eq_nil_iff]
  intro x hx
  have hc : x.c ∈ (pcs s).map Pc.c := by rw [← uns_from_c]; exact List.mem_map.2 ⟨x, hx, rfl⟩
  have hs := codes_scalar s _ hc
  unfold Scalar at hs
  unfold isHalf
  simp
  omega
theorem text_bad (us : List Nat) (hb : ∀ u ∈ us, u ≤ 65535) : badL (pcs (strB (textU (uns us)))) = [] := by
  unfold badL
  rw [List.filter_eq_nil_iff]
  intro x hx
  rw [text_ok us hb x hx]
  simp
theorem mended (us : List Nat) (hb : ∀ u ∈ us, u ≤ 65535) : fromPc (pcs (strB (textU (uns us)))) = setAll us (loneL (uns us)) := by
  rw [from_text us hb, show uns us = unsFrom us 0 from rfl, mend_from us hb 0 us (Nat.zero_le _) rfl rfl]
  rfl
end Go.Proofs.Ytlmbpbijhhnhpaa
