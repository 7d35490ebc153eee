/- Part 21 of the proof of RoP: lemmas. -/
import Derived.Test.YtelhnaphkbpakaaDoorMr20
namespace Go.Proofs.YtelhnaphkbpakaaDoor
open Go.RowKit
set_option linter.unusedVariables false
set_option maxRecDepth 100000
section
variable {B : Nat} {Q : Nat → Prop} {w w' : World} {tb : Nat} {X : TX}
end
end Go.Proofs.YtelhnaphkbpakaaDoor
namespace Go.Proofs.YtelhnaphkbpakaaDoor
set_option linter.unusedVariables false
def climb (F : For) (root : Nat) : List Nat → Option Nat
  | [] => none
  | k :: l => if k = root then none else match lkO F k 4 with
    | some b => some b
    | none => climb F root l
def stepO (F : For) (root m : Nat) (l : List Nat) : Option Nat := match lkO F m 1 with
  | some c => some c
  | none => climb F root l
theorem climb_pass {F : For} {c v : Nat} {rest : List Nat} : ∀ a : List Nat, c ∉ a → v ∉ a → (∀ z, climb F c (a ++ c :: rest) = some z → climb F v (a ++ c :: rest) = some z) ∧ (climb F c (a ++ c :: rest) = none → climb F v (a ++ c :: rest) = climb F v (c :: rest)) := by
  intro a
  induction a with
  | nil =>
    intro _ _
    refine ⟨fun z h => ?_, fun _ => rfl⟩
    simp [climb] at h
  | cons k a ih =>
    intro h1 h2
    have k1 : k ≠ c := fun e => h1 (by simp [e])
    have k2 : k ≠ v := fun e => h2 (by simp [e])
    have ih := ih (fun h => h1 (List.mem_cons_of_mem _ h)) (fun h => h2 (List.mem_cons_of_mem _ h))
    show (∀ z, climb F c (k :: (a ++ c :: rest)) = some z → climb F v (k :: (a ++ c :: rest)) = some z) ∧ (climb F c (k :: (a ++ c :: rest)) = none → climb F v (k :: (a ++ c :: rest)) = climb F v (c :: rest))
    unfold climb
    rw [if_neg k1, if_neg k2]
    cases lkO F k 4 with
    | some b => exact ⟨fun z h => h, fun h => by cases h⟩
    | none => exact ih
theorem preD_head {F : For} (ok : FOk F) {k : Nat} (hk : k < F.length) : ∃ t, preD F k = k :: t := ⟨_, preD_eq ok hk⟩
theorem flat_head {F : For} (ok : FOk F) {l : List Nat} (hl : ∀ c ∈ l, c < F.length) : (l.flatMap (preD F)).head? = l.head? := by
  cases l with
  | nil => rfl
  | cons c l =>
    obtain ⟨t, ht⟩ := preD_head ok (hl c (by simp))
    rw [List.flatMap_cons, ht]
    rfl
theorem split_once {l p q p' q' : List Nat} {m : Nat} (hn : l.Nodup) (h : l = p ++ m :: q) (h' : l = p' ++ m :: q') : p = p' ∧ q = q' := by
  have e1 : l.idxOf m = p.length := by
    rw [h]; refine idx_split (fun hm => ?_)
    rw [h] at hn
    exact (List.nodup_append.1 hn).2.2 m hm m (by simp) rfl
  have e2 : l.idxOf m = p'.length := by
    rw [h']; refine idx_split (fun hm => ?_)
    rw [h'] at hn
    exact (List.nodup_append.1 hn).2.2 m hm m (by simp) rfl
  have := List.append_inj (h.symm.trans h') (by omega)
  exact ⟨this.1, by simpa using this.2⟩
theorem step_next {F : For} (ok : FOk F) : ∀ v, v < F.length → ∀ {m : Nat} {p q l : List Nat}, preD F v = p ++ m :: q → Chain F m l → q.head? = stepO F v m l := by
  refine ok.kids_ind (fun v hv ih m p q l hs hl => ?_)
  have hnd := preD_nodup ok v hv
  have hkl : ∀ c ∈ dnOf F (some v), c < F.length := fun c hc => (ok.kid_up hc).2
  by_cases hmv : m = v
  · subst hmv
    have h0 := preD_eq ok hv
    obtain ⟨hp, hq⟩ := split_once (p' := []) (q' := (dnOf F (some m)).flatMap (preD F)) hnd hs h0
    subst hp hq
    rw [flat_head ok hkl]
    unfold stepO
    show _ = (match (dnOf F (some m)).head? with | some c => some c | none => climb F m l)
    cases (dnOf F (some m)).head? with
    | some c => rfl
    | none =>
      obtain ⟨t, ht⟩ := hl.ne_nil
      subst ht
      show none = climb F m (m :: t)
      unfold climb
      rw [if_pos rfl]
  · have hm : m ∈ preD F v := by rw [hs]; simp
    rw [preD_eq ok hv] at hm
    rcases List.mem_cons.1 hm with h1 | hm
    · exact absurd h1 hmv
    obtain ⟨c, hc, hm⟩ := List.mem_flatMap.1 hm
    obtain ⟨x, y, hxy⟩ := List.append_of_mem hc
    obtain ⟨p', q', hpq⟩ := List.append_of_mem hm
    have hcu := ok.kid_up hc
    have h2 : preD F v = (v :: x.flatMap (preD F) ++ p') ++ m :: (q' ++ y.flatMap (preD F)) := by
      rw [preD_eq ok hv, hxy, List.flatMap_append, List.flatMap_cons, hpq]
      simp
    obtain ⟨_, hq⟩ := split_once hnd hs h2
    subst hq
    have h3 := ih c hc hpq hl
    -- the way up of m goes by c, then v
    have hcl := (mem_preD ok hcu.2 hl).1 hm
    obtain ⟨a, b, hab⟩ := List.append_of_mem hcl
    have hcc := hl.at hab
    obtain ⟨lv, hlv⟩ := ok.acyc v _ (List.getElem?_eq_getElem hv)
    have hcv := hlv.kid hcu.1
    have hb : b = lv := by have := hcc.det hcv; simpa using this
    subst hb
    have hnl := hl.nodup
    rw [hab] at hnl
    have hca : c ∉ a := fun h => (List.nodup_append.1 hnl).2.2 c h c (by simp) rfl
    obtain ⟨t, ht⟩ := hlv.ne_nil
    have hva : v ∉ a := fun h => (List.nodup_append.1 hnl).2.2 v h v (by rw [ht]; simp) rfl
    have hcne : c ≠ v := by
      intro e
      have h4 := (List.nodup_append.1 hnl).2.1
      rw [ht, e] at h4
      simp at h4
    obtain ⟨k1, k2⟩ := climb_pass (F := F) (c := c) (v := v) (rest := b) a hca hva
    have hyl : ∀ d ∈ y, d < F.length := fun d hd => hkl d (by rw [hxy]; simp [hd])
    cases q' with
    | cons z q' =>
      have h4 : stepO F c m l = some z := h3.symm
      show some z = _
      rw [← h4]
      unfold stepO at h4 ⊢
      cases h5 : lkO F m 1 with
      | some d => rfl
      | none =>
        rw [h5] at h4
        show climb F c l = climb F v l
        have h6 : climb F c l = some z := h4
        rw [h6, hab]
        rw [hab] at h6
        exact (k1 z h6).symm
    | nil =>
      have h4 : stepO F c m l = none := h3.symm
      rw [List.nil_append, flat_head ok hyl]
      unfold stepO at h4 ⊢
      cases h5 : lkO F m 1 with
      | some d => rw [h5] at h4; cases h4
      | none =>
        rw [h5] at h4
        have h6 : climb F c l = none := h4
        show y.head? = climb F v l
        rw [hab] at h6 ⊢
        rw [k2 h6]
        unfold climb
        rw [if_neg hcne]
        have h7 : lkO F c 4 = y.head? := by
          show nextOf (dnOf F (upOf F c)) c = y.head?
          rw [hcu.1, hxy]
          refine next_split (fun h => ?_)
          have h8 : (dnOf F (some v)).Nodup := by have := (ok.sibs c).1; rw [hcu.1] at this; exact this
          rw [hxy] at h8
          exact (List.nodup_append.1 h8).2.2 c h c (by simp) rfl
        rw [h7]
        cases hy : y.head? with
        | some d => rfl
        | none =>
          show none = climb F v b
          rw [ht]
          unfold climb
          rw [if_pos rfl]
end Go.Proofs.YtelhnaphkbpakaaDoor
