/- A region's orders where a condition on the world need hold only till a given operation has come up. No program. -/
import Derived.OrdersHeld
import Derived.Deep.RegionHeld
namespace Go.Proofs.Ytohmmkkbfiembaa
open Go
set_option linter.unusedVariables false

section
variable {P : Program} {ops : Array Oper} {Q : Exit → Act → World → Prop} {md : Region.Mode} {S : World → Prop} {k : Nat}
/-- Whatever comes up from here on; S holds till k has come up. -/
def wpAnyU (P : Program) (md : Region.Mode) (ops : Array Oper) (Q : Exit → Act → World → Prop) (S : World → Prop) (k : Nat) : Nat → Array Bool → Act → World → Prop
  | 0, l, a, w => Region.ready md ops l = [] ∧ Q .normal a w
  | f + 1, l, a, w => (Region.ready md ops l = [] → Q .normal a w) ∧
    ∀ i ∈ Region.ready md ops l, wpOp P ops Q i (fun a' w' => (l.getD k false = false → i ≠ k → S w') ∧ wpAnyU P md ops Q S k f (l.setIfInBounds i true) a' w') a w
theorem wpAny_of_until : ∀ (f : Nat) (l : Array Bool) (a : Act) (w : World), wpAnyU P md ops Q S k f l a w → wpAny P md ops Q f l a w
  | 0, _, _, _, h => h
  | f + 1, _, _, _, h => ⟨h.1, fun i hi => wpOp_mono (fun a' w' h' => wpAny_of_until f _ a' w' h'.2) (h.2 i hi)⟩
/-- All of bs wait, directly or through one another, for i. -/
def waits (md : Region.Mode) (ops : Array Oper) (bs : List Nat) (i : Nat) : Bool := bs.all fun k => match ops[k]? with
  | some o => o.after.any (fun e => Region.binds md e && (e.on == i || bs.contains e.on))
  | none => false
theorem waits_spec {bs : List Nat} {i k : Nat} (h : waits md ops bs i = true) (hk : k ∈ bs) {o : Oper} (ho : ops[k]? = some o) : ∃ e ∈ o.after, Region.binds md e = true ∧ (e.on = i ∨ e.on ∈ bs) := by
  unfold waits at h
  rw [List.all_eq_true] at h
  have h := h k hk
  rw [ho] at h
  simp only [Array.any_eq_true'] at h
  obtain ⟨e, he, h2⟩ := h
  simp only [Bool.and_eq_true, Bool.or_eq_true, beq_iff_eq, List.contains_iff_mem] at h2
  exact ⟨e, he, h2.1, h2.2⟩
theorem wpAnyU_first {bs : List Nat} {i : Nat} {oi : Oper} {v : Value} (hi : ops[i]? = some oi) (hib : i ∉ bs) (hkb : k ∈ bs) (hk : waits md ops bs i = true) (hsel : ∀ (j : Nat) (o : Oper) cs b, ops[j]? = some o → o.op ≠ .select cs b)
    (hQ : ∀ c a w, Q (.panic c) (a.put oi.dst v) w → Q (.panic c) a w) :
    ∀ (f : Nat) (l : Array Bool) (a : Act) (w : World),
      (∀ j oj, ops[j]? = some oj → j ≠ i → l.getD j true = false → (∀ e ∈ oj.after, Region.binds md e = true → e.on ≠ i) → oi.apart ops oj = true) →
      i ∈ Region.ready md ops l → (∀ b ∈ bs, l.getD b false = false) → YieldsIf P ops S oi v a → S w →
      wpAnyU P md ops Q S k f (l.setIfInBounds i true) (a.put oi.dst v) w → wpAnyU P md ops Q S k (f + 1) l a w := by
  intro f
  have hik : i ≠ k := fun e => hib (e ▸ hkb)
  induction f with
  | zero =>
    intro l a w _ hr _ hy hS H
    refine ⟨fun h => (by rw [h] at hr; cases hr), fun j hj => ?_⟩
    by_cases hji : j = i
    · subst hji; exact hy.wpOp hi hS ⟨fun _ _ => hS, H⟩
    · have := ready_mono hj hji
      rw [H.1] at this
      cases this
  | succ f ih =>
    intro l a w hfree hr hkl hy hS H
    refine ⟨fun h => (by rw [h] at hr; cases hr), fun j hj => ?_⟩
    by_cases hji : j = i
    · subst hji; exact hy.wpOp hi hS ⟨fun _ _ => hS, H⟩
    · have h1 := H.2 j (ready_mono hj hji)
      obtain ⟨hjun, oj, hoj, hall⟩ := mem_ready.1 hj
      have hlist : ∀ x, l.getD x true = false ∨ l.getD x false = false → ∀ e ∈ oj.after, Region.binds md e = true → e.on = x → l.getD x false = false → False := fun x _ e he hb heq h0 => by
        have h1 := hall e he hb
        rw [heq, h0] at h1
        cases h1
      have hnot : ∀ e ∈ oj.after, Region.binds md e = true → e.on ≠ i := fun e he hb heq => by
        have h1 := hall e he hb
        have h0 := (mem_ready.1 hr).1
        rw [heq] at h1
        rcases Nat.lt_or_ge i l.size with h' | h'
        · simp [h'] at h0 h1; rw [h0] at h1; cases h1
        · simp [Array.getElem?_eq_none h'] at h1
      have hjb : j ∉ bs := fun hm => by
        obtain ⟨e, he, hb, hon⟩ := waits_spec hk hm hoj
        rcases hon with hon | hon
        · exact hnot e he hb hon
        · exact hlist _ (Or.inr (hkl _ hon)) e he hb rfl (hkl _ hon)
      have hjk : j ≠ k := fun e => hjb (e ▸ hkb)
      have h2 := wpOp_putIf hoj (hfree j oj hoj hji hjun hnot) (fun cs b => hsel i oi cs b hi) (fun cs b => hsel j oj cs b hoj) hQ hy h1
      have hfree' : ∀ k' ok, ops[k']? = some ok → k' ≠ i → (l.setIfInBounds j true).getD k' true = false →
          (∀ e ∈ ok.after, Region.binds md e = true → e.on ≠ i) → oi.apart ops ok = true := fun k' ok hk' hki hun hno => by
        refine hfree k' ok hk' hki ?_ hno
        by_cases hjk' : j = k'
        · subst hjk'; exact hjun
        · rw [getD_set_ne true hjk'] at hun; exact hun
      refine wpOp_mono (fun a' w' h3 => ?_) h2
      have hS' : S w' := h3.2.1 (by rw [getD_set_ne false hik]; exact hkl k hkb) hjk
      refine ⟨fun _ _ => hS', ih (l.setIfInBounds j true) a' w' hfree' (ready_mono hr (Ne.symm hji)) (fun b hb => by
        have hne : j ≠ b := fun e => hjb (by rw [e]; exact hb)
        rw [getD_set_ne false hne]; exact hkl b hb) h3.1 hS' ?_⟩
      rw [Array.setIfInBounds_comm _ _ hji]
      exact h3.2.2
theorem wpAnyU_take {i : Nat} {oi : Oper} {v : Value} {f : Nat} {l : Array Bool} {a : Act} {w : World} (bs : List Nat) (hi : ops[i]? = some oi) (hib : bs.contains i = false) (hkb : bs.contains k = true) (hk : waits md ops bs i = true) (hkl : bs.all (fun b => !l.getD b false) = true)
    (hs : Region.noSelect ops = true) (hf : Region.free md ops l i = true) (hr : (Region.ready md ops l).contains i = true)
    (hQ : ∀ c a w, Q (.panic c) (a.put oi.dst v) w → Q (.panic c) a w) (hy : YieldsIf P ops S oi v a) (hS : S w)
    (h : wpAnyU P md ops Q S k f (l.setIfInBounds i true) (a.put oi.dst v) w) : wpAnyU P md ops Q S k (f + 1) l a w :=
  wpAnyU_first (bs := bs) hi (fun hm => by rw [List.contains_iff_mem.2 hm] at hib; cases hib) (List.contains_iff_mem.1 hkb) hk (Region.noSelect_spec hs) hQ f l a w (Region.free_spec hi hf) (by simpa using hr) (fun b hb => by
    have := (List.all_eq_true.1 hkl) b hb
    cases hg : l.getD b false with
    | true => rw [hg] at this; cases this
    | false => rfl) hy hS h
/-- One alone may come up. -/
theorem wpAnyU_one {i : Nat} {o : Oper} {f : Nat} {l : Array Bool} {a : Act} {w : World} (hr : Region.ready md ops l = [i]) (ho : ops[i]? = some o)
    (h : ∀ K' : Act → World → Prop, Shut (∀ a w, (l.getD k false = false → i ≠ k → S w) → wpAnyU P md ops Q S k f (l.setIfInBounds i true) a w → K' a w) → if Region.wanted o (yielded ops a.tmps) = true then Oper.wp P o a w K' Q else K' (a.put o.dst undef) w) :
    wpAnyU P md ops Q S k (f + 1) l a w := by
  refine And.intro (fun h0 => ?_) (fun j hj => ?_)
  · rw [hr] at h0
    cases h0
  · rw [hr] at hj
    obtain rfl : j = i := by simpa using hj
    exact wpOp_step ho (fun K' hK => h K' (fun a w hS hW => hK a w ⟨hS, hW⟩))
theorem wpAnyU_done {l : Array Bool} {a : Act} {w : World} (hr : Region.ready md ops l = []) (h : Q .normal a w) : ∀ f, wpAnyU P md ops Q S k f l a w
  | 0 => ⟨hr, h⟩
  | _ + 1 => ⟨fun _ => h, by rw [hr]; simp⟩
/-- The beginning: a region that asks the tape. -/
theorem wp_region_until_drew {id : Nat} {a : Act} {w : World} (hm : P.follows .mixedOrders = true)
    (h : wpAnyU P .any ops Q S k ops.size (Array.replicate ops.size false) a w.drew) : (Code.region id ops true).wp P Q a w :=
  wp_region_any hm (wpAny_of_until _ _ _ _ h)
end
end Go.Proofs.Ytohmmkkbfiembaa
