/- There and back: what Replace, SetAttr and CutAttr tell is undone. No program. -/
import Derived.Test.YtelhnaphkbpakaaMc34
namespace Go.Proofs.Ytelhnaphkbpakaa
open Go.RowKit
set_option linter.unusedVariables false
set_option maxRecDepth 100000

def checkC (c : NC) : Int := checkD c.kind c.name c.data.length (c.attrs.map Prod.fst)
theorem names_c (N : Nd) : N.c.attrs.map Prod.fst = N.L.map LA.name := by unfold Nd.c; rw [List.map_map]; rfl
theorem check_u (w : World) (N : Nd) (h : NdIn w N) {k : Int} (e : checkC N.c = k) :
    Calls Try.prog 15 #[N.v] w fun e w' => e = .returned (.int .i64 k) ∧ Below w.heap.size w w' := by
  have h1 := check_calls w N h
  rw [← names_c] at h1
  rw [← e]
  exact h1
theorem EqD.refl (c : NC) : EqD c c := ⟨rfl, rfl, rfl, List.Perm.refl _⟩
theorem EqD.symm {c d : NC} (h : EqD c d) : EqD d c := ⟨h.1.symm, h.2.1.symm, h.2.2.1.symm, h.2.2.2.symm⟩
theorem EqD.trans {c d e : NC} (h : EqD c d) (k : EqD d e) : EqD c e := ⟨h.1.trans k.1, h.2.1.trans k.2.1, h.2.2.1.trans k.2.2.1, h.2.2.2.trans k.2.2.2⟩

theorem replD_code (c : NC) (off cnt : Int) (us : List Nat) : (replD c off cnt us).2 = (partD c.kind off cnt c.data.length).2 := by
  unfold replD
  split
  · rename_i h; rw [h]
  · rfl
theorem replD_back {c : NC} {off cnt : Int} (us : List Nat) (h : (partD c.kind off cnt c.data.length).2 = 0) : replD (replD c off cnt us).1 off us.length (subX c.kind off cnt c.data) = (c, 0) := by
  obtain ⟨hk, h0, h1, h2, h3⟩ := partD_good h
  have e1 : (replD c off cnt us).1 = { c with data := c.data.take off.toNat ++ us ++ c.data.drop (off + min cnt (c.data.length - off)).toNat } := by
    unfold replD; rw [if_pos h, h3]
  obtain ⟨p, hp⟩ : ∃ p : Nat, (p : Int) = min cnt (c.data.length - off) := ⟨(min cnt (c.data.length - off)).toNat, by omega⟩
  obtain ⟨o, ho⟩ : ∃ o : Nat, (o : Int) = off := ⟨off.toNat, by omega⟩
  have eo : off.toNat = o := by omega
  have ep : (off + min cnt (c.data.length - off)).toNat = o + p := by omega
  have hop : o + p ≤ c.data.length := by omega
  rw [ep, eo] at e1
  have ex : subX c.kind off cnt c.data = (c.data.drop o).take p := by
    unfold subX subD
    rw [if_pos h, h3, eo]
    congr 1
    simp only
    omega
  rw [e1, ex]
  have hl : (c.data.take o ++ us ++ c.data.drop (o + p)).length = o + us.length + (c.data.length - (o + p)) := by
    simp only [List.length_append, List.length_take, List.length_drop]; omega
  have hpd : partD c.kind off (us.length : Int) (c.data.take o ++ us ++ c.data.drop (o + p)).length = (off + us.length, 0) := by
    rw [hl]
    unfold partD
    rw [if_neg (by simp [hk]), if_neg (by omega)]
    congr 1
    omega
  unfold replD
  simp only [hpd, if_true]
  congr 1
  have e2 : (c.data.take o ++ us ++ c.data.drop (o + p)).take off.toNat = c.data.take o := by
    rw [eo, List.append_assoc, List.take_append_of_le_length (by rw [List.length_take]; omega), List.take_of_length_le (by rw [List.length_take]; omega)]
  have e3 : (c.data.take o ++ us ++ c.data.drop (o + p)).drop (off + (us.length : Int)).toNat = c.data.drop (o + p) := by
    rw [show (off + (us.length : Int)).toNat = (c.data.take o ++ us).length by rw [List.length_append, List.length_take]; omega]
    exact List.drop_left
  have e4 : c.data.take o ++ (c.data.drop o).take p ++ c.data.drop (o + p) = c.data := by
    rw [List.append_assoc, show c.data.drop (o + p) = (c.data.drop o).drop p by rw [List.drop_drop], List.take_append_drop, List.take_append_drop]
  rw [e2, e3, e4]
theorem fits_units {k : Int} (h : k = 3 ∨ k = 8 ∨ k = 7) (nm : ByteArray) (m m' al : Nat) : fitsD k nm m al = fitsD k nm m' al := by
  unfold fitsD
  rcases h with rfl | rfl | rfl <;> simp
theorem check_repl {c : NC} {off cnt : Int} (us : List Nat) (h : (partD c.kind off cnt c.data.length).2 = 0) : checkC (replD c off cnt us).1 = checkC c := by
  obtain ⟨hk, _⟩ := partD_good h
  unfold replD
  rw [if_pos h]
  unfold checkC checkD
  simp only
  rw [fits_units hk c.name _ c.data.length]

/-! the attributes -/
abbrev AL := List (ByteArray × List Nat)
theorem setD_cons (x : ByteArray × List Nat) (l : AL) (name : ByteArray) (v : List Nat) : setD (x :: l) name v = if isNm2 name x = true then (x.1, v) :: l else x :: setD l name v := by
  unfold setD
  rw [List.findIdx_cons]
  cases h : isNm2 name x with
  | true => simp
  | false =>
    simp only [cond_false, List.length_cons, Bool.false_eq_true, if_false]
    by_cases c : l.findIdx (isNm2 name) < l.length
    · rw [if_pos (by omega), if_pos c]; rfl
    · rw [if_neg (by omega), if_neg c]; rfl
theorem setD_nil (name : ByteArray) (v : List Nat) : setD [] name v = [(name, v)] := rfl
theorem isNm2_self (name : ByteArray) (v : List Nat) : isNm2 name (name, v) = true := ba_refl name
theorem isNm2_fst {name : ByteArray} {x : ByteArray × List Nat} {v : List Nat} : isNm2 name (x.1, v) = isNm2 name x := rfl
theorem attrD_cons (x : ByteArray × List Nat) (l : AL) (name : ByteArray) : attrD (x :: l) name = if isNm2 name x = true then some x.2 else attrD l name := by
  unfold attrD
  rw [List.find?_cons]
  show (match isNm2 name x with | true => some x | false => _).map Prod.snd = _
  cases h : isNm2 name x <;> simp
theorem attrD_setD (l : AL) (name : ByteArray) (v : List Nat) : attrD (setD l name v) name = some v := by
  induction l with
  | nil => rw [setD_nil, attrD_cons, if_pos (isNm2_self _ _)]
  | cons x l ih =>
    rw [setD_cons]
    by_cases h : isNm2 name x = true
    · rw [if_pos h, attrD_cons, if_pos (by rw [isNm2_fst]; exact h)]
    · rw [if_neg h, attrD_cons, if_neg h, ih]
def cutL (l : AL) (name : ByteArray) : AL := l.eraseIdx (l.findIdx (isNm2 name))
theorem cutL_cons (x : ByteArray × List Nat) (l : AL) (name : ByteArray) : cutL (x :: l) name = if isNm2 name x = true then l else x :: cutL l name := by
  unfold cutL
  rw [List.findIdx_cons]
  cases h : isNm2 name x <;> simp
theorem found_setD (l : AL) (name : ByteArray) (v : List Nat) : (setD l name v).findIdx (isNm2 name) < (setD l name v).length := by
  rw [List.findIdx_lt_length]
  induction l with
  | nil => exact ⟨_, List.mem_singleton.2 rfl, isNm2_self _ _⟩
  | cons x l ih =>
    rw [setD_cons]
    by_cases h : isNm2 name x = true
    · rw [if_pos h]; exact ⟨(x.1, v), List.mem_cons_self, by rw [isNm2_fst]; exact h⟩
    · rw [if_neg h]; obtain ⟨y, h1, h2⟩ := ih; exact ⟨y, List.mem_cons_of_mem _ h1, h2⟩
theorem cut_set_none (l : AL) (name : ByteArray) (v : List Nat) (h : attrD l name = none) : cutL (setD l name v) name = l ∧ setD l name v = l ++ [(name, v)] := by
  induction l with
  | nil => exact ⟨by rw [setD_nil, cutL_cons, if_pos (isNm2_self _ _)], rfl⟩
  | cons x l ih =>
    rw [attrD_cons] at h
    by_cases c : isNm2 name x = true
    · rw [if_pos c] at h; cases h
    · rw [if_neg c] at h
      rw [setD_cons, if_neg c, cutL_cons, if_neg c, (ih h).1, (ih h).2]
      exact ⟨rfl, rfl⟩
theorem names_set_some (l : AL) (name : ByteArray) (v : List Nat) {u : List Nat} (h : attrD l name = some u) : (setD l name v).map Prod.fst = l.map Prod.fst := by
  induction l with
  | nil => cases h
  | cons x l ih =>
    rw [attrD_cons] at h
    rw [setD_cons]
    by_cases c : isNm2 name x = true
    · rw [if_pos c]; rfl
    · rw [if_neg c] at h
      rw [if_neg c, List.map_cons, List.map_cons, ih h]
theorem names_cut_set (l : AL) (name : ByteArray) (v : List Nat) : ((cutL (setD l name v) name).map Prod.fst).Sublist (l.map Prod.fst) := by
  induction l with
  | nil => rw [setD_nil, cutL_cons, if_pos (isNm2_self _ _)]; exact List.Sublist.refl _
  | cons x l ih =>
    rw [setD_cons]
    by_cases c : isNm2 name x = true
    · rw [if_pos c, cutL_cons, if_pos (by rw [isNm2_fst]; exact c)]; exact List.sublist_cons_self _ _
    · rw [if_neg c, cutL_cons, if_neg c]; exact ih.cons_cons _
theorem attrD_none_mem {l : AL} {name : ByteArray} (h : attrD l name = none) : ky name ∉ (l.map Prod.fst).map ky := by
  induction l with
  | nil => simp
  | cons x l ih =>
    rw [attrD_cons] at h
    by_cases c : isNm2 name x = true
    · rw [if_pos c] at h; cases h
    · rw [if_neg c] at h
      intro hm
      rw [List.map_cons, List.map_cons] at hm
      rcases List.mem_cons.1 hm with e | e
      · apply c
        unfold isNm2
        rw [ByteArray.toList_eq, ByteArray.toList_eq, beq_iff_eq]
        exact e.symm
      · exact ih h e
theorem goodA_sub {l m : List ByteArray} (h : goodA m = true) (s : l.Sublist m) : goodA l = true := by
  unfold goodA at *
  simp only [Bool.and_eq_true, decide_eq_true_eq, List.all_eq_true] at *
  exact ⟨fun x hx => h.1 x (s.subset hx), h.2.sublist (s.map ky)⟩
theorem fits_elem (nm : ByteArray) (m al al' : Nat) : fitsD 1 nm m al = fitsD 1 nm m al' := by unfold fitsD; simp
/-- What SetAttr told, where it told no error. -/
theorem set_law {c : NC} {name : ByteArray} {us : List Nat} (h : (setAttrD c name us).2 = 0) :
    attrO (setAttrD c name us).1 name = (us, true, 0) ∧ checkC (setAttrD c name us).1 = checkC c ∧
      ∃ x, cutD (setAttrD c name us).1 name = (x, true, 0) ∧ (checkC c = 0 → checkC x = 0) ∧ ((attrO c name).2.1 = false → EqD x c) := by
  unfold setAttrD at h ⊢
  by_cases hk : c.kind = 1
  · rw [if_neg (by simp [hk])] at h ⊢
    cases hn : namedD name with
    | false => rw [hn, if_pos rfl] at h; cases h
    | true =>
      simp only [Bool.true_eq_false, if_false]
      have hcut : cutD { c with attrs := setD c.attrs name us } name = ({ c with attrs := cutL (setD c.attrs name us) name }, true, 0) := by
        unfold cutD
        rw [if_neg (by simp [hk]), if_pos (found_setD c.attrs name us)]
        rfl
      refine ⟨?_, ?_, _, hcut, ?_, ?_⟩
      · unfold attrO
        rw [if_pos hk]
        simp only [attrD_setD]
      · unfold checkC checkD
        simp only [hk]
        rw [fits_elem c.name c.data.length _ (c.attrs.map Prod.fst).length]
        have hg : goodA ((setD c.attrs name us).map Prod.fst) = goodA (c.attrs.map Prod.fst) := by
          cases ha : attrD c.attrs name with
          | none => rw [(cut_set_none _ _ us ha).2, List.map_append, List.map_cons, List.map_nil, goodA_snoc, hn, decide_eq_true (attrD_none_mem ha), Bool.and_true, Bool.and_true]
          | some u => rw [names_set_some _ _ _ ha]
        rw [hg]
      · unfold checkC checkD
        simp only [hk]
        rw [fits_elem c.name c.data.length ((cutL (setD c.attrs name us) name).map Prod.fst).length (c.attrs.map Prod.fst).length]
        intro h0
        split at h0
        · cases h0
        · rename_i h1
          split at h0
          · cases h0
          · rename_i h2
            split at h0
            · rename_i h3
              rw [if_neg h1, if_neg h2, if_pos (goodA_sub h3 (names_cut_set _ _ _))]
            · cases h0
      · intro h0
        unfold attrO at h0
        rw [if_pos hk] at h0
        cases ha : attrD c.attrs name with
        | none => rw [(cut_set_none _ _ us ha).1]; exact EqD.refl _
        | some u => rw [ha] at h0; cases h0
  · rw [if_pos hk] at h; cases h
end Go.Proofs.Ytelhnaphkbpakaa

