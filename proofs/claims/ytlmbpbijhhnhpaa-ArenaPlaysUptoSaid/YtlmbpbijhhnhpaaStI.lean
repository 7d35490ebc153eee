/- A region that draws its order, within a round of a range over a function: what only reads is walked once, in the order of the text; then its last operations, one by one. No program. -/
import Derived.StillTail
import Derived.StillTactics
import Derived.OrdersIn
import Derived.TacticsIn
import Derived.Lib.Hide
namespace Go.Proofs.Ytlmbpbijhhnhpaa
open Go
set_option linter.unusedVariables false

/-- An operation that enters no Go function: and about none; and it defers nothing. -/
structure Calm (P : Program) (o : Oper) : Prop where
  noEnter : ∀ (ρ : Operand → Value) (w : World) (f : FuncId) (args : Array Value) (w' : World), (execOp ρ o).run P w ≠ .ok (.enter f args) w'
  about : ∀ w ρ, o.about P w ρ = none
  defers : ∀ c, o.op ≠ .defer c

theorem noEnter_value {P : Program} {o : Oper} {ρ : Operand → Value} (h : ∃ s : Sem Value, execOp ρ o = (s >>= fun v => pure (Next.value v))) (w : World) (f : FuncId) (args : Array Value) (w' : World) : (execOp ρ o).run P w ≠ .ok (.enter f args) w' := by
  obtain ⟨s, hs⟩ := h
  rw [hs, Sem.run_bind]
  cases s.run P w with
  | ok v w2 => simp [Result.andThen, Sem.run_pure]
  | halt h' w2 => simp [Result.andThen]
theorem calm_value {P : Program} {o : Oper} (h : ∀ ρ, ∃ s : Sem Value, execOp ρ o = (s >>= fun v => pure (Next.value v))) (ha : ∀ w ρ, o.about P w ρ = none) (hd : ∀ c, o.op ≠ .defer c) : Calm P o := ⟨fun ρ => noEnter_value (h ρ), ha, hd⟩
theorem calm_move {P : Program} {d : Option Tmp} {x : Operand} {t : TypeId} {p : String} {a : Array Edge} {g : Option (Nat × Bool)} : Calm P ⟨d, .move x, t, p, a, g⟩ :=
  ⟨fun ρ w f args w' => by simp [execOp, Sem.run_pure], fun _ _ => rfl, fun _ h => by cases h⟩
theorem calm_pick {P : Program} {d : Option Tmp} {c x y : Operand} {t : TypeId} {p : String} {a : Array Edge} {g : Option (Nat × Bool)} : Calm P ⟨d, .pick c x y, t, p, a, g⟩ :=
  ⟨fun ρ w f args w' => by
    simp only [execOp, Sem.run_bind]
    cases (asBool (ρ c)).run P w with
    | ok v w2 => simp [Result.andThen, Sem.run_pure]
    | halt h' w2 => simp [Result.andThen], fun _ _ => rfl, fun _ h => by cases h⟩

def allCalm (P : Program) : List Oper → Prop
  | [] => True
  | o :: l => Calm P o ∧ allCalm P l
theorem allCalm_get {P : Program} : ∀ {l : List Oper}, allCalm P l → ∀ {i : Nat} {o : Oper}, l[i]? = some o → Calm P o
  | [], _, i, o, h => by simp at h
  | x :: l, h, 0, o, e => by simp at e; subst e; exact h.1
  | x :: l, h, i + 1, o, e => allCalm_get h.2 (by simpa using e)

variable {F : Fence} {n : Nat} {P : Program} {ops : Array Oper} {md : Region.Mode} {w : World} {Q : Exit → Act → World → Prop}

theorem wpIn_of_still {o : Oper} {a : Act} {K : Act → Prop} {K' : Act → World → Prop} (hc : Calm P o) (h : ∀ a, K a → K' a w) (hh : o.still P a w K) : o.wpIn F n P a w K' Q := by
  refine ⟨fun f hf => (by rw [hc.about] at hf; cases hf), ?_⟩
  have e : o.semAt F.round a.eval = execOp a.eval o := by
    cases F.round with
    | none => exact Oper.semAt_none ..
    | some l => exact Oper.semAt_some l _ _ hc.defers
  rw [e]
  unfold Oper.still at hh
  have hno := hc.noEnter a.eval w
  generalize (execOp a.eval o).run P w = r at hh hno ⊢
  cases r with
  | halt x w' => exact hh.elim
  | ok x w' =>
    cases x with
    | value v => obtain ⟨rfl, hk⟩ := hh; exact h _ hk
    | skip => obtain ⟨rfl, hk⟩ := hh; exact h _ hk
    | enter f args => exact absurd rfl (hno f args w')
    | _ => exact hh.elim

theorem opIn_of_still {i : Nat} {a : Act} {K : Act → Prop} {K' : Act → World → Prop} (hc : ∀ o, ops[i]? = some o → Calm P o) (h : ∀ a, K a → K' a w) (hh : stOp P ops w i K a) : wpOpIn F n P ops Q i K' a w := by
  unfold stOp at hh
  unfold wpOpIn
  cases ho : ops[i]? with
  | none => simp only [ho] at hh ⊢; exact h _ hh
  | some o =>
    simp only [ho] at hh ⊢
    have hco := hc o ho
    by_cases hw : Region.wanted o (yielded ops a.tmps) = true
    · simp only [hw, if_true] at hh ⊢; exact wpIn_of_still hco h hh
    · simp only [hw] at hh ⊢; exact ⟨fun f hf => (by rw [hco.about] at hf; cases hf), h _ hh⟩

theorem anyIn_of_head {m g : Nat} {L : Array Bool → Act → Prop} (hc : ∀ i o, i < m → ops[i]? = some o → Calm P o) (hL : ∀ listed a, L listed a → wpAnyIn F n P md ops Q g listed a w) :
    ∀ (f : Nat) (listed : Array Bool) (a : Act), wpAnyL P md ops w m L f listed a → wpAnyIn F n P md ops Q (f + g) listed a w := by
  intro f
  induction f with
  | zero => intro listed a h; rw [Nat.zero_add]; exact hL _ _ h
  | succ f ih =>
    intro listed a h
    rw [show f + 1 + g = (f + g) + 1 by omega]
    refine ⟨fun e => absurd e h.1, fun i hi => ?_⟩
    obtain ⟨hlt, hs⟩ := h.2 i hi
    exact opIn_of_still (fun o ho => hc i o hlt ho) (fun a' h' => ih _ a' h') hs

theorem anyIn_of_seq : ∀ (l : List Oper) (k : Nat) (listed : Array Bool) (a : Act) (w : World), (∀ j, l[j]? = ops[k + j]?) → Region.seqB md ops l.length k listed = true → wpListIn F n P ops Q l a w → wpAnyIn F n P md ops Q l.length listed a w := by
  intro l
  induction l with
  | nil => intro k listed a w _ hB h; exact ⟨by simpa [Region.seqB] using hB, h⟩
  | cons o l ih =>
    intro k listed a w hl hB h
    have h0 : ops[k]? = some o := by simpa using (hl 0).symm
    simp only [List.length_cons, Region.seqB, Bool.and_eq_true, decide_eq_true_eq] at hB
    obtain ⟨hr, hB⟩ := hB
    refine ⟨fun e => (by rw [hr] at e; cases e), fun i hi => ?_⟩
    obtain rfl : i = k := by rw [hr] at hi; simpa using hi
    have hw : wpOpIn F n P ops Q i (wpListIn F n P ops Q l) a w := by unfold wpOpIn; simp only [h0]; exact h
    exact wpOpIn_mono (fun a' w' h' => ih (i + 1) _ a' w' (fun j => by have := hl (j + 1); rw [show i + 1 + j = i + (j + 1) by omega]; simpa using this) hB h') hw

/-- The first m operations only read: they are walked in the order of the text; the rest follows one by one. -/
theorem regionIn_still_tail {id : Nat} {a : Act} {l : List Oper} (m : Nat) (hm : P.follows .mixedOrders = true) (hB : Region.lexTailB .any l.toArray m = true) (hc : allCalm P (l.take m))
    (h : wpStill P l.toArray { w with drawn := w.drawn + 1 } (fun a' => wpListIn F n P l.toArray Q (l.drop m) a' { w with drawn := w.drawn + 1 }) (l.take m) a) : (Code.region id l.toArray true).wpIn F n P Q a w := by
  simp only [Region.lexTailB, Bool.and_eq_true, decide_eq_true_eq] at hB
  obtain ⟨⟨⟨⟨hsel, hn⟩, hs⟩, hch⟩, hlex⟩ := hB
  have hn' : m < l.length := by simpa using hn
  have htl : (l.take m).length = m := by simp; omega
  have hdl : (l.drop m).length = l.toArray.size - m := by simp
  have inv0 : HeadInv .any l.toArray m (Array.replicate l.toArray.size false) :=
    ⟨by simp, fun j oj _ hl => (by rw [getD_replicate_false] at hl; cases hl), fun t _ ht => getD_in (by simpa using ht) (getD_replicate_false _ _)⟩
  have H := wpAnyL_lex (md := .any) (g := l.toArray.size - m) hsel hs hch hn (l.take m) 0 _ a (fun j hj => by
    rw [htl] at hj
    simp [hj]) (by simpa using htl) inv0 (by rw [htl]; exact hlex) h
  refine wpIn_region_any hm ?_
  have R := anyIn_of_head (Q := Q) (F := F) (n := n) (g := l.toArray.size - m) (fun i o hi ho => allCalm_get hc (i := i) (by simpa [hi] using ho)) (fun listed a' hL => by
    have := anyIn_of_seq (md := .any) (Q := Q) (F := F) (n := n) (P := P) (l.drop m) m listed a' { w with drawn := w.drawn + 1 } (fun j => by simp) (by rw [hdl]; exact hL.1) hL.2
    rwa [hdl] at this) _ _ _ H
  rw [htl, show m + (l.toArray.size - m) = l.toArray.size by omega] at R
  exact R
/-- An operation whose guard passes it over. -/
theorem still_skip {Q : Act → Prop} {a : Act} {o : Oper} {rest : List Oper} (hw : Region.wanted o (yielded ops a.tmps) = false) (h : ∀ K : Act → Prop, (∀ a, wpStill P ops w Q rest a → K a) → K (a.put o.dst undef)) : wpStill P ops w Q (o :: rest) a := by
  refine wpStill_step fun K hK => ?_
  rw [hw]
  exact h K hK
/-- One operation that only reads; what stands behind it is out of sight meanwhile. -/
theorem still_one {Q : Act → Prop} {a : Act} {o : Oper} {rest : List Oper} (h : ∃ a', (∀ K : Act → Prop, RowKit.Hid (K a') → if Region.wanted o (yielded ops a.tmps) then o.still P a w K else K (a.put o.dst undef)) ∧ wpStill P ops w Q rest a') : wpStill P ops w Q (o :: rest) a := by
  obtain ⟨a', h1, h2⟩ := h
  exact wpStill_step fun K hK => h1 K (Lib.hid (hK _ h2))
theorem still_next {Q : Act → Prop} {a : Act} {o : Oper} {rest : List Oper} (h : ∀ K : Act → Prop, RowKit.Hid (∀ a, wpStill P ops w Q rest a → K a) → if Region.wanted o (yielded ops a.tmps) then o.still P a w K else K (a.put o.dst undef)) : wpStill P ops w Q (o :: rest) a :=
  wpStill_step fun K hK => h K (Lib.hid hK)
/-- The walk of what only reads, as a word of its own: Lean does not reckon it out whenever it meets it. -/
structure StillG (P : Program) (ops : Array Oper) (w : World) (Q : Act → Prop) (l : List Oper) (a : Act) : Prop where
  out : wpStill P ops w Q l a
theorem StillG.next {Q : Act → Prop} {a : Act} {o : Oper} {rest : List Oper} (h : ∀ K : Act → Prop, RowKit.Hid (∀ a, StillG P ops w Q rest a → K a) → if Region.wanted o (yielded ops a.tmps) then o.still P a w K else K (a.put o.dst undef)) : StillG P ops w Q (o :: rest) a :=
  ⟨wpStill_step fun K hK => h K (Lib.hid fun a ha => hK a ha.out)⟩
theorem StillG.done {Q : Act → Prop} {a : Act} (h : Q a) : StillG P ops w Q [] a := ⟨h⟩
theorem regionIn_still {id : Nat} {a : Act} {l : List Oper} (m : Nat) (hm : P.follows .mixedOrders = true) (hB : Region.lexTailB .any l.toArray m = true) (hc : allCalm P (l.take m))
    (h : StillG P l.toArray { w with drawn := w.drawn + 1 } (fun a' => wpListIn F n P l.toArray Q (l.drop m) a' { w with drawn := w.drawn + 1 }) (l.take m) a) : (Code.region id l.toArray true).wpIn F n P Q a w :=
  regionIn_still_tail m hm hB hc h.out
end Go.Proofs.Ytlmbpbijhhnhpaa
