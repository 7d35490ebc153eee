/- Part 5 of the proof of RoP: lemmas. -/
import Derived.Deep.AppendLies
import Derived.Laws.BytesArg
import Derived.Laws.IdiomStrings
import Derived.Conc.MuLone
import Derived.Laws.StructEq
import Derived.Test.YtelhnaphkbpakaaDoorMr4
namespace Go.Proofs.YtelhnaphkbpakaaDoor
open Go.RowKit
set_option linter.unusedVariables false
section
variable {w : World} {base : Nat} {e : TypeId} {size : Nat} {v : Value} {n : Nat} {xs : List Value}
theorem rwNe (h : w.ownsRow base e size v n xs) {b : Nat} {c : Array Value} {e' : TypeId} {fz : Nat × Nat} (hb : w.heap[b]? = some (.cells c e' fz)) (he : e ≠ e') : some b ≠ v.ownBlock := by
  rcases h.2 with ⟨rfl, _⟩ | ⟨g, cap, cur, rfl, _, hg, _⟩
  · simp [Value.ownBlock]
  · simp only [Value.ownBlock, ne_eq, Option.some.injEq]
    exact fun hh => ne_blk hg hb he hh.symm
theorem rwSet (h : w.ownsRow base e size v n xs) (a : Addr) (hb : v.ownBlock ≠ some a.block) (u : Value) : (w.setCell a u).ownsRow base e size v n xs := by
  refine ⟨h.1, ?_⟩
  rcases h.2 with h' | ⟨g, cap, cur, rfl, hbg, hg, rest⟩
  · exact .inl h'
  · exact .inr ⟨g, cap, cur, rfl, hbg, set_other hg (by intro e1; exact hb (by rw [e1]; rfl)) u, rest⟩
theorem rwOther (h : w.ownsRow base e size v n xs) {b : Nat} {c : Array Value} {e' : TypeId} {fz : Nat × Nat} (hb : w.heap[b]? = some (.cells c e' fz)) (he : e ≠ e') (o : Nat) (u : Value) :
    (w.setCell ⟨b, o, none⟩ u).ownsRow base e size v n xs := rwSet h _ (fun hh => rwNe h hb he hh.symm) u
theorem rwBlk {g cap : Nat} (h : w.ownsRow base e size (.slice (some ⟨g, 0, none⟩) n cap) n xs) : ∃ cur, w.heap[g]? = some (.cells cur e (0, 0)) ∧ base ≤ g := by
  rcases h.2 with ⟨h', _⟩ | ⟨g', cap', cur, h', hb, hg, _⟩
  · cases h'
  · cases h'; exact ⟨cur, hg, hb⟩
end
theorem blkGrow {w w' : World} {b : Nat} {c : Array Value} {e : TypeId} {fz : Nat × Nat} (h : w.heap[b]? = some (.cells c e fz)) {row : Option Nat} (hg : w.grownBy w' row) (hr : ∀ r, row = some r → ∃ o : Obj, w.heap[r]? = some o ∧ o.isCells = false) : w'.heap[b]? = some (.cells c e fz) := by
  refine (hg.block b (lt_of_some h) ?_).trans h
  intro e1
  obtain ⟨o, ho, hc⟩ := hr b e1.symm
  rw [h] at ho
  cases ho
  cases hc
section
variable {tS tE : TypeId} {B bx : Nat} {xs news : List Value} {w0 w w' w3 : World}
end
structure FrG (T : List TypeId) (Q : Nat → Prop) (w w' : World) : Prop where
  os : w'.os = w.os
  tape : w'.tape = w.tape
  output : w'.output = w.output
  size : w.heap.size ≤ w'.heap.size
  block : ∀ (k : Nat) o, w.heap[k]? = some o → (¬ Q k ∨ ∀ e, oty o = some e → e ∉ T) → w'.heap[k]? = some o
section
variable {T : List TypeId} {Q : Nat → Prop} {w w' w'' : World}
theorem FrG.refl (T : List TypeId) (Q : Nat → Prop) (w : World) : FrG T Q w w := ⟨rfl, rfl, rfl, Nat.le_refl _, fun _ _ h _ => h⟩
theorem FrG.trans {Q' : Nat → Prop} (h : FrG T Q w w') (k : FrG T Q' w' w'') (hQ : ∀ k, Q' k → Q k ∨ w.heap.size ≤ k) : FrG T Q w w'' :=
  ⟨k.os.trans h.os, k.tape.trans h.tape, k.output.trans h.output, Nat.le_trans h.size k.size, fun i o hi ho => k.block i o (h.block i o hi ho) (ho.imp (fun hn hq => by
    rcases hQ i hq with h1 | h1
    · exact hn h1
    · have := lt_of_some hi; omega) id)⟩
theorem FrG.mono {T' : List TypeId} {Q' : Nat → Prop} (h : FrG T Q w w') (hT : ∀ e ∈ T, e ∈ T') (hQ : ∀ k, Q k → Q' k) : FrG T' Q' w w' :=
  ⟨h.os, h.tape, h.output, h.size, fun k o hk ho => h.block k o hk (ho.imp (fun x hq => x (hQ k hq)) (fun f e he hm => f e he (hT e hm)))⟩
theorem FrG.of_below (h : Below w.heap.size w w') : FrG T Q w w' := ⟨h.os, h.tape, h.output, h.size, fun k o hk _ => (h.block k (lt_of_some hk)).trans hk⟩
theorem FrG.andBelow (h : FrG T Q w w') (k : Below w'.heap.size w' w'') : FrG T Q w w'' := h.trans (Q' := fun _ => False) (.of_below k) (fun _ hq => hq.elim)
theorem FrG.alloc (h : FrG T Q w w') (o : Obj) : FrG T Q w (w'.alloc o) := h.andBelow ((Below.refl _ _).alloc (Nat.le_refl _) o)
theorem FrG.drew (h : FrG T Q w w') : FrG T Q w w'.drew := ⟨h.os, h.tape, h.output, h.size, h.block⟩
theorem FrG.set (h : FrG T Q w w') {a : Addr} (hQ : Q a.block ∨ w.heap.size ≤ a.block) {c : Array Value} {e : TypeId} {fz : Nat × Nat} (hb : w'.heap[a.block]? = some (.cells c e fz)) (he : e ∈ T) (u : Value) : FrG T Q w (w'.setCell a u) := by
  refine ⟨h.os, h.tape, h.output, by simpa using h.size, fun k o hk ho => ?_⟩
  have h1 := h.block k o hk ho
  by_cases hka : k = a.block
  · subst hka
    rw [hb] at h1
    cases h1
    rcases hQ with hQ | hQ
    · rcases ho with ho | ho
      · exact absurd hQ ho
      · exact absurd he (ho e rfl)
    · have := lt_of_some hk; omega
  · rw [heap_setCell_other _ _ _ _ hka]; exact h1
theorem FrG.setNew (h : FrG T Q w w') {a : Addr} (ha : w.heap.size ≤ a.block) (u : Value) : FrG T Q w (w'.setCell a u) :=
  ⟨h.os, h.tape, h.output, by simpa using h.size, fun k o hk ho => by
    have := lt_of_some hk
    rw [heap_setCell_other _ _ _ _ (by omega)]; exact h.block k o hk ho⟩
theorem FrG.append (h : FrG T Q w w') {base : Nat} {e : TypeId} {size : Nat} {v : Value} {n : Nat} {xs : List Value} (ho : w'.ownsRow base e size v n xs) (hQ : ∀ k, v.ownBlock = some k → Q k ∨ w.heap.size ≤ k) (he : e ∈ T) (hg : w'.grownBy w'' v.ownBlock) : FrG T Q w w'' := by
  refine ⟨hg.os.trans h.os, hg.tape.trans h.tape, hg.output.trans h.output, Nat.le_trans h.size hg.size, fun k o hk hp => ?_⟩
  have h1 := h.block k o hk hp
  by_cases hkr : some k = v.ownBlock
  · rcases ho.2 with ⟨rfl, _⟩ | ⟨g, cap, cur, rfl, hb, hgg, _⟩
    · cases hkr
    · cases hkr
      rw [hgg] at h1; cases h1
      rcases hQ g rfl with hQ | hQ
      · rcases hp with hp | hp
        · exact absurd hQ hp
        · exact absurd he (hp e rfl)
      · exact absurd hQ (Nat.not_le.2 (lt_of_some hk))
  · exact (hg.block k (lt_of_some h1) hkr).trans h1
theorem FrG.blk (h : FrG T Q w w') {b : Nat} {c : Array Value} {e : TypeId} {fz : Nat × Nat} (hb : w.heap[b]? = some (.cells c e fz)) (he : e ∉ T) : w'.heap[b]? = some (.cells c e fz) :=
  h.block b _ hb (.inr fun e' h' => by cases h'; exact he)
theorem FrG.blkQ (h : FrG T Q w w') {b : Nat} {o : Obj} (hb : w.heap[b]? = some o) (hq : ¬ Q b) : w'.heap[b]? = some o := h.block b _ hb (.inl hq)
theorem FrG.row (h : FrG T Q w w') {base : Nat} {e : TypeId} {size : Nat} {v : Value} {n : Nat} {xs : List Value} (ho : w.ownsRow base e size v n xs) (he : e ∉ T) : w'.ownsRow base e size v n xs := by
  refine ⟨ho.1, ?_⟩
  rcases ho.2 with hn | ⟨g, cap, cur, rfl, hb, hgg, rest⟩
  · exact .inl hn
  · exact .inr ⟨g, cap, cur, rfl, hb, h.blk hgg he, rest⟩
theorem FrG.rowQ (h : FrG T Q w w') {base : Nat} {e : TypeId} {size : Nat} {v : Value} {n : Nat} {xs : List Value} (ho : w.ownsRow base e size v n xs) (hq : ∀ k, v.ownBlock = some k → ¬ Q k) : w'.ownsRow base e size v n xs := by
  refine ⟨ho.1, ?_⟩
  rcases ho.2 with hn | ⟨g, cap, cur, rfl, hb, hgg, rest⟩
  · exact .inl hn
  · exact .inr ⟨g, cap, cur, rfl, hb, h.blkQ hgg (hq g rfl), rest⟩
end
def AbideT {β : Type} (T : List TypeId) (B : Nat) (J : β → World → Prop) : Prop := ∀ s A C, J s A → FrT T B A C → J s C
def SeqT {α : Type} (T : List TypeId) (F : Fence) (n : Nat) (P : Program) (g : Nat) (lb : Array Value) (encs : α → Array Value) (Kp : World → World → Prop) (L : List α) (w : World) : Prop :=
  ∀ (l : Nat) (J Jx : List α → World → Prop) (W : World), Below w.heap.size w W → AbideT T W.heap.size J → AbideT T W.heap.size Jx →
    (∀ pre x W1, J pre W1 → pre ++ [x] <+: L → YieldAt F (n - 1) P l (encs x) W1 fun e W' => (e = .returned (.bool true) ∧ J (pre ++ [x]) W' ∧ Kp W1 W') ∨ (e = .returned (.bool false) ∧ Jx (pre ++ [x]) W')) →
    J [] W → CallsIn F n P g (#[.func (.yield l) #[] #[]] ++ lb) W fun e W' => (∃ v, e = .returned v) ∧ (J L W' ∨ ∃ pre, pre <+: L ∧ Jx pre W')
structure LoopAt (k : Nat) (r : Loop) (W : World) : Prop where
  d : W.heap[k]? = some (.deferred (some []))
  r : W.heap[k + 1]? = some (.loop r)
theorem LoopAt.lt {k : Nat} {r : Loop} {W : World} (h : LoopAt k r W) : k + 1 < W.heap.size := lt_of_some h.r
theorem LoopAt.frt {k B : Nat} {r : Loop} {T : List TypeId} {A C : World} (h : LoopAt k r A) (f : FrT T B A C) : LoopAt k r C :=
  ⟨f.block _ _ h.d (.inr (fun e he => by cases he)), f.block _ _ h.r (.inr (fun e he => by cases he))⟩
theorem LoopAt.from {k B : Nat} {r : Loop} {A C : World} (h : LoopAt k r A) (f : KeepsFrom B A C) (hB : B ≤ k) : LoopAt k r C :=
  ⟨f.same _ _ hB h.d rfl, f.same _ _ (Nat.le_succ_of_le hB) h.r rfl⟩
theorem LoopAt.put {k : Nat} {r : Loop} {A : World} (h : LoopAt k r A) (r' : Loop) : LoopAt k r' (A.putObj (k + 1) (.loop r')) :=
  ⟨(World.putObj_heap_other (by omega)).trans h.d, World.putObj_heap_same h.lt⟩
theorem range_TH {F : Fence} {n : Nat} {P : Program} {α : Type} {g : Operand} {ps : Array Tmp} {assign body : Code} {Q : Exit → Act → World → Prop} {a : Act} {w : World} {T : List TypeId}
    (hro : F.round = none) (h1 : 1 ≤ n) {gf : Nat} {lb : Array Value} (hg : a.eval g = .func (.func gf) #[] lb) (hFg : F.fn gf) (eg : ∀ args w, (callFunc gf args).run P w = .ok (.enter gf args) w)
    {encs : α → Array Value} {Kp : World → World → Prop} {L : List α} {w0 : World} (hseq : SeqT T F (n - 1) P gf lb encs Kp L w0)
    (hKt : ∀ {A B C : World}, Kp A B → Kp B C → Kp A C) (hKb : ∀ (W : World) (k : Nat) (o o' : Obj), w.heap.size ≤ k → W.heap[k]? = some o → o.isCells = false → o.isWalk = false → Kp W (W.putObj k o')) (hb0 : Below w0.heap.size w0 w) (hps : ∀ x, (encs x).size = ps.size)
    (I : List α → World → Prop) (Ix : Code → List α → World → Prop) (hI : OwnFrom w.heap.size I) (hIx : ∀ c, OwnFrom w.heap.size (Ix c)) (hIT : AbideT T w.heap.size I) (hIxT : ∀ c, AbideT T w.heap.size (Ix c)) (h0 : I [] w) (Ax : α → Act → World → Prop) (hAx : ∀ x a', OwnFrom w.heap.size (fun (_ : Unit) W => Ax x a' W))
    (hassign : ∀ (l : Nat) (pre : List α) (x : α) (W : World) (K : Act → World → Prop), I pre W → (∀ a' W', KeepsFrom w.heap.size W W' → Kp W W' → I pre W' → Ax x a' W' → K a' W') →
      assign.wpIn (F.inRound l) (n - 1 - 1) P (Exit.then K (fun _ _ _ => False)) { tmps := (ps.zip (encs x)).foldl (fun t (p, v) => t.setIfInBounds p v) a.tmps, defers := [] } W)
    (hbody : ∀ (l : Nat) (pre : List α) (x : α) (a' : Act) (W : World), w.heap.size ≤ l → (∃ r, W.heap[l]? = some (.loop r)) → I pre W → Ax x a' W → pre ++ [x] <+: L → body.wpIn (F.inRound l) (n - 1 - 1) P (ownPostG w.heap.size Kp I Ix (pre ++ [x]) W) a' W)
    (hdone : ∀ (D : Nat) (W : World), w.heap.size ≤ D → I L W → W.heap[D]? = some (.deferred (some [])) → Q .normal { a with defers := { target := .collected D, args := #[] } :: a.defers } W)
    (hstop : ∀ (D : Nat) (c : Code) (pre : List α) (W : World), w.heap.size ≤ D → pre <+: L → Ix c pre W → W.heap[D]? = some (.deferred (some [])) → c.wpIn F n P Q { a with defers := { target := .collected D, args := #[] } :: a.defers } W) :
    (Code.rangeFunc g ps assign body).wpIn F n P Q a w := by
  refine wpIn_rangeFunc (fun fn hfn => ?_)
  rw [hro]
  obtain ⟨mk, hmk⟩ : ∃ mk : LoopState → Option Code → Loop, mk = fun st pe => { state := st, pending := pe, fn, tmps := a.tmps, params := ps, assign, body, defers := w.heap.size } := ⟨_, rfl⟩
  have hms : ∀ st pe, (mk st pe).state = st ∧ (mk st pe).params = ps ∧ (mk st pe).pending = pe := fun st pe => by rw [hmk]; exact ⟨rfl, rfl, rfl⟩
  obtain ⟨k, hk⟩ : ∃ k, k = w.heap.size := ⟨_, rfl⟩
  obtain ⟨W1, hW1⟩ : ∃ W1, W1 = (w.alloc (.deferred (some []))).alloc (.loop (mk .ready none)) := ⟨_, rfl⟩
  have hL1 : LoopAt k (mk .ready none) W1 := by
    rw [hW1, hk]
    refine ⟨alloc_blk (World.alloc_heap_new w _) _, ?_⟩
    have := World.alloc_heap_new (w.alloc (.deferred (some []))) (.loop (mk .ready none))
    simpa using this
  have hs1 : W1.heap.size = k + 1 + 1 := by rw [hW1, hk]; simp
  have hI1 : I [] W1 := by rw [hW1]; exact hI.alloc _ (hI.alloc _ h0)
  have hb1 : Below w0.heap.size w0 W1 := by
    rw [hW1]
    exact hb0.trans ((((Below.refl _ w).alloc (Nat.le_refl _) _).alloc (by simp) _).mono hb0.size)
  have wide : ∀ {β : Type} {J : β → World → Prop}, AbideT T w.heap.size J → AbideT T W1.heap.size J := fun hJ s A C hs f => hJ s A C hs ⟨f.os, f.tape, f.output, f.size, fun b o hb ho => f.block b o hb (ho.imp (fun x => by omega) id)⟩
  have hputI : ∀ {s : List α} {A : World} {r r' : Loop}, I s A → LoopAt k r A → I s (A.putObj (k + 1) (.loop r')) := fun hs hl => hI.putObj _ hs (by omega) hl.r rfl
  have hputX : ∀ {c : Code} {s : List α} {A : World} {r r' : Loop}, Ix c s A → LoopAt k r A → Ix c s (A.putObj (k + 1) (.loop r')) := fun hs hl => (hIx _).putObj _ hs (by omega) hl.r rfl
  refine ⟨k + 1, [{ target := .collected k, args := #[] }], W1, { target := .fn (.func gf) lb, args := #[.func (.yield (k + 1)) #[] #[]] }, W1, gf, #[.func (.yield (k + 1)) #[] #[]] ++ lb, W1, ?_, ?_, ?_, ?_, fun _ => h1, ?_⟩
  · rw [hW1, hmk, hk]; exact run_enterLoop_outer _ _ _ _ _
  · simp only [resolve, hg]
    simp [go_sem]
  · intro f' hf'
    simp [Target.leads] at hf'
    subst hf'
    exact hFg
  · simp [invoke, go_sem, eg]
  refine (hseq (k + 1) (fun pre W => I pre W ∧ LoopAt k (mk .ready none) W) (fun pre W => ∃ c, Ix c pre W ∧ LoopAt k (mk .done (some c)) W) W1 hb1
    (fun s A C hs f => ⟨wide hIT s A C hs.1 f, hs.2.frt f⟩) (fun s A C hs f => let ⟨c, h, hl⟩ := hs; ⟨c, wide (hIxT c) s A C h f, hl.frt f⟩) ?_ ⟨hI1, hL1⟩).mono ?_
  · rintro pre x W ⟨hi, hl⟩ hpre
    have hy := run_yield (P := P) (args := encs x) hl.r (by rw [(hms _ _).2.1]; exact hps x)
    rw [hmk] at hy
    refine ⟨fn, _, assign, body, hy, roundIn_of_wpIn hfn (hassign _ pre x W _ hi ?_)⟩
    clear hy
    intro a' Wa hkfa hkpa hia hax
    have hla := hl.from hkfa (by omega)
    refine ⟨_, run_beginRound hla.r (hms _ _).1, ?_⟩
    have e1 : ({ mk .ready none with state := .busy } : Loop) = mk .busy none := by rw [hmk]
    rw [e1]
    have hl2 := hla.put (mk .busy none)
    have hk2 : Kp Wa (Wa.putObj (k + 1) (.loop (mk .busy none))) := hKb _ _ _ _ (by omega) hla.r rfl rfl
    refine wpIn_mono (hbody _ pre x a' _ (by omega) ⟨_, hl2.r⟩ (hputI hia hla) ((hAx x a').putObj (s := ()) _ hax (by omega) hla.r rfl) hpre) ?_
    have away : ∀ (c : Code) (W3 : World), KeepsFrom w.heap.size (Wa.putObj (k + 1) (.loop (mk .busy none))) W3 → Ix c (pre ++ [x]) W3 →
        ∃ v w', (Instr.endRound (k + 1) (some c)).run P W3 = .ok v w' ∧ ((Ending.returned v = .returned (.bool true) ∧ (I (pre ++ [x]) w' ∧ LoopAt k (mk .ready none) w') ∧ Kp W w') ∨ (Ending.returned v = .returned (.bool false) ∧ ∃ c, Ix c (pre ++ [x]) w' ∧ LoopAt k (mk .done (some c)) w')) := fun c W3 hkf hx3 => by
      have hl3 := hl2.from hkf (by omega)
      have hr : (Instr.endRound (k + 1) (some c)).run P W3 = .ok (.bool false) (W3.putObj (k + 1) (.loop (mk .done (some c)))) := by
        rw [run_endRound (P := P) (some c) hl3.r, hmk]; rfl
      exact ⟨_, _, hr, .inr ⟨rfl, c, hputX hx3 hl3, hl3.put _⟩⟩
    rintro e a3 W3 hp
    cases e with
    | normal =>
      obtain ⟨hkf, hkp, hi3⟩ := hp
      have hl3 := hl2.from hkf (by omega)
      have hr : (Instr.endRound (k + 1) none).run P W3 = .ok (.bool true) (W3.putObj (k + 1) (.loop (mk .ready none))) := by
        rw [run_endRound (P := P) none hl3.r, hmk]; rfl
      exact ⟨_, _, hr, .inl ⟨rfl, ⟨hputI hi3 hl3, hl3.put _⟩, hKt hkpa (hKt (hKt hk2 hkp) (hKb _ _ _ _ (by omega) hl3.r rfl rfl))⟩⟩
    | ret => exact away _ W3 hp.1 hp.2
    | exit id => exact away _ W3 hp.1 hp.2
    | goto t => exact away _ W3 hp.1 hp.2
    | panic ch => exact hp.elim
    | outgrown => exact hp.elim
  · rintro e W2 ⟨⟨v, rfl⟩, (⟨hi, hl⟩ | ⟨pre, hpre, c, hx, hl⟩)⟩
    · have hr := run_endLoop (P := P) hl.r (by rw [(hms _ _).1]; simp)
      rw [(hms _ _).2.2] at hr
      exact ⟨none, _, hr, hdone k _ (by omega) (hputI hi hl) (hl.put _).d⟩
    · have hr := run_endLoop (P := P) hl.r (by rw [(hms _ _).1]; simp)
      rw [(hms _ _).2.2] at hr
      exact ⟨some c, _, hr, hstop k c pre _ (by omega) hpre (hputX hx hl) (hl.put _).d⟩
theorem boxAx_own {α : Type} {B : Nat} {cs : α → Array Value} {tB : TypeId} {f : α → Nat → Act} (x : α) (a' : Act) : OwnFrom B (fun (_ : Unit) W => ∃ xb, W.heap[xb]? = some (.cells (cs x) tB (0, 0)) ∧ a' = f x xb) := fun _ A C row hs hg' hr => by
  obtain ⟨xb, h1, h2⟩ := hs
  refine ⟨xb, (hg'.block _ (lt_of_some h1) (fun e => ?_)).trans h1, h2⟩
  obtain ⟨_, o, ho, hc⟩ := hr _ e.symm
  rw [h1] at ho
  cases ho
  cases hc
def boxAct (tm : Array Value) (ps : Array Tmp) (xs : Array Value) (slot : Tmp) (xb : Nat) : Act := { tmps := ((ps.zip xs).foldl (fun t (p, v) => t.setIfInBounds p v) tm).setIfInBounds slot (.pointer (some ⟨xb, 0, none⟩)), defers := [] }
theorem range_TH1 {F : Fence} {n : Nat} {P : Program} {α : Type} {g : Operand} {ps : Array Tmp} {assign body : Code} {Q : Exit → Act → World → Prop} {a : Act} {w : World} {T : List TypeId}
    (hro : F.round = none) (h1 : 1 ≤ n) {gf : Nat} {lb : Array Value} (hg : a.eval g = .func (.func gf) #[] lb) (hFg : F.fn gf) (eg : ∀ args w, (callFunc gf args).run P w = .ok (.enter gf args) w)
    {encs : α → Array Value} {Kp : World → World → Prop} {L : List α} {w0 : World} (hseq : SeqT T F (n - 1) P gf lb encs Kp L w0)
    (hKt : ∀ {A B C : World}, Kp A B → Kp B C → Kp A C) (hKb : ∀ (W : World) (k : Nat) (o o' : Obj), w.heap.size ≤ k → W.heap[k]? = some o → o.isCells = false → o.isWalk = false → Kp W (W.putObj k o')) (hb0 : Below w0.heap.size w0 w) (hps : ∀ x, (encs x).size = ps.size)
    (I : List α → World → Prop) (Ix : Code → List α → World → Prop) (hI : OwnFrom w.heap.size I) (hIx : ∀ c, OwnFrom w.heap.size (Ix c)) (hIT : AbideT T w.heap.size I) (hIxT : ∀ c, AbideT T w.heap.size (Ix c)) (h0 : I [] w) (slot : Tmp) (cs : α → Array Value) (tB : TypeId)
    (hassign : ∀ (l : Nat) (pre : List α) (x : α) (W : World) (K : Act → World → Prop), I pre W → (∀ xb W', KeepsFrom w.heap.size W W' → Kp W W' → I pre W' → W'.heap[xb]? = some (.cells (cs x) tB (0, 0)) → K (boxAct a.tmps ps (encs x) slot xb) W') →
      assign.wpIn (F.inRound l) (n - 1 - 1) P (Exit.then K (fun _ _ _ => False)) { tmps := (ps.zip (encs x)).foldl (fun t (p, v) => t.setIfInBounds p v) a.tmps, defers := [] } W)
    (hbody : ∀ (l : Nat) (pre : List α) (x : α) (xb : Nat) (W : World), w.heap.size ≤ l → (∃ r, W.heap[l]? = some (.loop r)) → I pre W → W.heap[xb]? = some (.cells (cs x) tB (0, 0)) → pre ++ [x] <+: L → body.wpIn (F.inRound l) (n - 1 - 1) P (ownPostG w.heap.size Kp I Ix (pre ++ [x]) W) (boxAct a.tmps ps (encs x) slot xb) W)
    (hdone : ∀ (D : Nat) (W : World), w.heap.size ≤ D → I L W → W.heap[D]? = some (.deferred (some [])) → Q .normal { a with defers := { target := .collected D, args := #[] } :: a.defers } W)
    (hstop : ∀ (D : Nat) (c : Code) (pre : List α) (W : World), w.heap.size ≤ D → pre <+: L → Ix c pre W → W.heap[D]? = some (.deferred (some [])) → c.wpIn F n P Q { a with defers := { target := .collected D, args := #[] } :: a.defers } W) :
    (Code.rangeFunc g ps assign body).wpIn F n P Q a w :=
  range_TH hro h1 hg hFg eg hseq hKt hKb hb0 hps I Ix hI hIx hIT hIxT h0
    (fun x a' W => ∃ xb, W.heap[xb]? = some (.cells (cs x) tB (0, 0)) ∧ a' = boxAct a.tmps ps (encs x) slot xb) (fun x a' => boxAx_own (cs := cs) (tB := tB) (f := fun x xb => boxAct a.tmps ps (encs x) slot xb) x a')
    (fun l pre x W K hi hK => hassign l pre x W K hi (fun xb W' k1 k2 k3 k4 => hK _ _ k1 k2 k3 ⟨xb, k4, rfl⟩))
    (fun l pre x a' W hl hr hi hax hp => by obtain ⟨xb, h3, rfl⟩ := hax; exact hbody l pre x xb W hl hr hi h3 hp)
    hdone hstop
def SeqO {α : Type} (F : Fence) (n : Nat) (P : Program) (g : Nat) (lb : Array Value) (encs : α → Array Value) (Kp : World → World → Prop) (L : List α) (w : World) : Prop :=
  ∀ (l : Nat) (J Jx : List α → World → Prop) (W : World), Below w.heap.size w W → OwnFrom W.heap.size J → OwnFrom W.heap.size Jx →
    (∀ pre x W1, J pre W1 → pre ++ [x] <+: L → YieldAt F (n - 1) P l (encs x) W1 fun e W' => (e = .returned (.bool true) ∧ J (pre ++ [x]) W' ∧ Kp W1 W' ∧ KeepsFrom W.heap.size W1 W') ∨ (e = .returned (.bool false) ∧ Jx (pre ++ [x]) W' ∧ KeepsFrom W.heap.size W1 W')) →
    J [] W → CallsIn F n P g (#[.func (.yield l) #[] #[]] ++ lb) W fun e W' => (∃ v, e = .returned v) ∧ (J L W' ∨ ∃ pre, pre <+: L ∧ Jx pre W')
theorem keepsUp {B B' : Nat} {W W' : World} (h : KeepsFrom B W W') (hb : B ≤ B') : KeepsFrom B' W W' := ⟨h.size, fun k o hk h1 h2 => h.same k o (Nat.le_trans hb hk) h1 h2⟩
theorem keepsPut {B l : Nat} {W : World} (o : Obj) (h : l < B) : KeepsFrom B W (W.putObj l o) := ⟨by simp [World.putObj], fun k o' hk h1 _ => (World.putObj_heap_other (by omega)).trans h1⟩
theorem LoopAt.grow {k : Nat} {r : Loop} {A C : World} {row : Option Nat} (h : LoopAt k r A) (hg : A.grownBy C row) (hr : ∀ x, row = some x → k + 1 < x) : LoopAt k r C :=
  ⟨(hg.block _ (lt_of_some h.d) (fun e => by have := hr _ e.symm; omega)).trans h.d, (hg.block _ (lt_of_some h.r) (fun e => by have := hr _ e.symm; omega)).trans h.r⟩
theorem range_OH {F : Fence} {n : Nat} {P : Program} {α : Type} {g : Operand} {ps : Array Tmp} {assign body : Code} {Q : Exit → Act → World → Prop} {a : Act} {w : World}
    (hro : F.round = none) (h1 : 1 ≤ n) {gf : Nat} {lb : Array Value} (hg : a.eval g = .func (.func gf) #[] lb) (hFg : F.fn gf) (eg : ∀ args w, (callFunc gf args).run P w = .ok (.enter gf args) w)
    {encs : α → Array Value} {Kp : World → World → Prop} {L : List α} {w0 : World} (hseq : SeqO F (n - 1) P gf lb encs Kp L w0)
    (hKt : ∀ {A B C : World}, Kp A B → Kp B C → Kp A C) (hKb : ∀ (W : World) (k : Nat) (o o' : Obj), w.heap.size ≤ k → W.heap[k]? = some o → o.isCells = false → o.isWalk = false → Kp W (W.putObj k o')) (hb0 : Below w0.heap.size w0 w) (hps : ∀ x, (encs x).size = ps.size)
    (I : List α → World → Prop) (Ix : Code → List α → World → Prop) (hI : OwnFrom w.heap.size I) (hIx : ∀ c, OwnFrom w.heap.size (Ix c)) (h0 : I [] w) (Ax : α → Act → World → Prop) (hAx : ∀ x a', OwnFrom w.heap.size (fun (_ : Unit) W => Ax x a' W))
    (hassign : ∀ (l : Nat) (pre : List α) (x : α) (W : World) (K : Act → World → Prop), I pre W → (∀ a' W', KeepsFrom w.heap.size W W' → Kp W W' → I pre W' → Ax x a' W' → K a' W') →
      assign.wpIn (F.inRound l) (n - 1 - 1) P (Exit.then K (fun _ _ _ => False)) { tmps := (ps.zip (encs x)).foldl (fun t (p, v) => t.setIfInBounds p v) a.tmps, defers := [] } W)
    (hbody : ∀ (l : Nat) (pre : List α) (x : α) (a' : Act) (W : World), w.heap.size ≤ l → (∃ r, W.heap[l]? = some (.loop r)) → I pre W → Ax x a' W → pre ++ [x] <+: L → body.wpIn (F.inRound l) (n - 1 - 1) P (ownPostG w.heap.size Kp I Ix (pre ++ [x]) W) a' W)
    (hdone : ∀ (D : Nat) (W : World), w.heap.size ≤ D → I L W → W.heap[D]? = some (.deferred (some [])) → Q .normal { a with defers := { target := .collected D, args := #[] } :: a.defers } W)
    (hstop : ∀ (D : Nat) (c : Code) (pre : List α) (W : World), w.heap.size ≤ D → pre <+: L → Ix c pre W → W.heap[D]? = some (.deferred (some [])) → c.wpIn F n P Q { a with defers := { target := .collected D, args := #[] } :: a.defers } W) :
    (Code.rangeFunc g ps assign body).wpIn F n P Q a w := by
  refine wpIn_rangeFunc (fun fn hfn => ?_)
  rw [hro]
  obtain ⟨mk, hmk⟩ : ∃ mk : LoopState → Option Code → Loop, mk = fun st pe => { state := st, pending := pe, fn, tmps := a.tmps, params := ps, assign, body, defers := w.heap.size } := ⟨_, rfl⟩
  have hms : ∀ st pe, (mk st pe).state = st ∧ (mk st pe).params = ps ∧ (mk st pe).pending = pe := fun st pe => by rw [hmk]; exact ⟨rfl, rfl, rfl⟩
  obtain ⟨k, hk⟩ : ∃ k, k = w.heap.size := ⟨_, rfl⟩
  obtain ⟨W1, hW1⟩ : ∃ W1, W1 = (w.alloc (.deferred (some []))).alloc (.loop (mk .ready none)) := ⟨_, rfl⟩
  have hL1 : LoopAt k (mk .ready none) W1 := by
    rw [hW1, hk]
    refine ⟨alloc_blk (World.alloc_heap_new w _) _, ?_⟩
    have := World.alloc_heap_new (w.alloc (.deferred (some []))) (.loop (mk .ready none))
    simpa using this
  have hs1 : W1.heap.size = k + 1 + 1 := by rw [hW1, hk]; simp
  have hI1 : I [] W1 := by rw [hW1]; exact hI.alloc _ (hI.alloc _ h0)
  have hb1 : Below w0.heap.size w0 W1 := by
    rw [hW1]
    exact hb0.trans ((((Below.refl _ w).alloc (Nat.le_refl _) _).alloc (by simp) _).mono hb0.size)
  have wide : ∀ {β : Type} {J : β → World → Prop}, OwnFrom w.heap.size J → OwnFrom W1.heap.size J := fun hJ s A C row hs hg hr => hJ s A C row hs hg (fun r e => ⟨by have := (hr r e).1; omega, (hr r e).2⟩)
  have hputI : ∀ {s : List α} {A : World} {r r' : Loop}, I s A → LoopAt k r A → I s (A.putObj (k + 1) (.loop r')) := fun hs hl => hI.putObj _ hs (by omega) hl.r rfl
  have hputX : ∀ {c : Code} {s : List α} {A : World} {r r' : Loop}, Ix c s A → LoopAt k r A → Ix c s (A.putObj (k + 1) (.loop r')) := fun hs hl => (hIx _).putObj _ hs (by omega) hl.r rfl
  refine ⟨k + 1, [{ target := .collected k, args := #[] }], W1, { target := .fn (.func gf) lb, args := #[.func (.yield (k + 1)) #[] #[]] }, W1, gf, #[.func (.yield (k + 1)) #[] #[]] ++ lb, W1, ?_, ?_, ?_, ?_, fun _ => h1, ?_⟩
  · rw [hW1, hmk, hk]; exact run_enterLoop_outer _ _ _ _ _
  · simp only [resolve, hg]
    simp [go_sem]
  · intro f' hf'
    simp [Target.leads] at hf'
    subst hf'
    exact hFg
  · simp [invoke, go_sem, eg]
  refine (hseq (k + 1) (fun pre W => I pre W ∧ LoopAt k (mk .ready none) W) (fun pre W => ∃ c, Ix c pre W ∧ LoopAt k (mk .done (some c)) W) W1 hb1
    (fun s A C row hs hg hr => ⟨wide hI s A C row hs.1 hg hr, hs.2.grow hg (fun r e => by have := (hr r e).1; omega)⟩) (fun s A C row hs hg hr => let ⟨c, h, hl⟩ := hs; ⟨c, wide (hIx c) s A C row h hg hr, hl.grow hg (fun r e => by have := (hr r e).1; omega)⟩) ?_ ⟨hI1, hL1⟩).mono ?_
  · rintro pre x W ⟨hi, hl⟩ hpre
    have hy := run_yield (P := P) (args := encs x) hl.r (by rw [(hms _ _).2.1]; exact hps x)
    rw [hmk] at hy
    refine ⟨fn, _, assign, body, hy, roundIn_of_wpIn hfn (hassign _ pre x W _ hi ?_)⟩
    clear hy
    intro a' Wa hkfa hkpa hia hax
    have hla := hl.from hkfa (by omega)
    refine ⟨_, run_beginRound hla.r (hms _ _).1, ?_⟩
    have e1 : ({ mk .ready none with state := .busy } : Loop) = mk .busy none := by rw [hmk]
    rw [e1]
    have hl2 := hla.put (mk .busy none)
    have hk2 : Kp Wa (Wa.putObj (k + 1) (.loop (mk .busy none))) := hKb _ _ _ _ (by omega) hla.r rfl rfl
    refine wpIn_mono (hbody _ pre x a' _ (by omega) ⟨_, hl2.r⟩ (hputI hia hla) ((hAx x a').putObj (s := ()) _ hax (by omega) hla.r rfl) hpre) ?_
    have away : ∀ (c : Code) (W3 : World), KeepsFrom w.heap.size (Wa.putObj (k + 1) (.loop (mk .busy none))) W3 → Ix c (pre ++ [x]) W3 →
        ∃ v w', (Instr.endRound (k + 1) (some c)).run P W3 = .ok v w' ∧ ((Ending.returned v = .returned (.bool true) ∧ (I (pre ++ [x]) w' ∧ LoopAt k (mk .ready none) w') ∧ Kp W w' ∧ KeepsFrom W1.heap.size W w') ∨ (Ending.returned v = .returned (.bool false) ∧ (∃ c, Ix c (pre ++ [x]) w' ∧ LoopAt k (mk .done (some c)) w') ∧ KeepsFrom W1.heap.size W w')) := fun c W3 hkf hx3 => by
      have hl3 := hl2.from hkf (by omega)
      have hr : (Instr.endRound (k + 1) (some c)).run P W3 = .ok (.bool false) (W3.putObj (k + 1) (.loop (mk .done (some c)))) := by
        rw [run_endRound (P := P) (some c) hl3.r, hmk]; rfl
      exact ⟨_, _, hr, .inr ⟨rfl, ⟨c, hputX hx3 hl3, hl3.put _⟩, (keepsUp hkfa (by omega)).trans ((keepsPut _ (by omega)).trans ((keepsUp hkf (by omega)).trans (keepsPut _ (by omega))))⟩⟩
    rintro e a3 W3 hp
    cases e with
    | normal =>
      obtain ⟨hkf, hkp, hi3⟩ := hp
      have hl3 := hl2.from hkf (by omega)
      have hr : (Instr.endRound (k + 1) none).run P W3 = .ok (.bool true) (W3.putObj (k + 1) (.loop (mk .ready none))) := by
        rw [run_endRound (P := P) none hl3.r, hmk]; rfl
      exact ⟨_, _, hr, .inl ⟨rfl, ⟨hputI hi3 hl3, hl3.put _⟩, hKt hkpa (hKt (hKt hk2 hkp) (hKb _ _ _ _ (by omega) hl3.r rfl rfl)), (keepsUp hkfa (by omega)).trans ((keepsPut _ (by omega)).trans ((keepsUp hkf (by omega)).trans (keepsPut _ (by omega))))⟩⟩
    | ret => exact away _ W3 hp.1 hp.2
    | exit id => exact away _ W3 hp.1 hp.2
    | goto t => exact away _ W3 hp.1 hp.2
    | panic ch => exact hp.elim
    | outgrown => exact hp.elim
  · rintro e W2 ⟨⟨v, rfl⟩, (⟨hi, hl⟩ | ⟨pre, hpre, c, hx, hl⟩)⟩
    · have hr := run_endLoop (P := P) hl.r (by rw [(hms _ _).1]; simp)
      rw [(hms _ _).2.2] at hr
      exact ⟨none, _, hr, hdone k _ (by omega) (hputI hi hl) (hl.put _).d⟩
    · have hr := run_endLoop (P := P) hl.r (by rw [(hms _ _).1]; simp)
      rw [(hms _ _).2.2] at hr
      exact ⟨some c, _, hr, hstop k c pre _ (by omega) hpre (hputX hx hl) (hl.put _).d⟩
theorem range_OH1 {F : Fence} {n : Nat} {P : Program} {α : Type} {g : Operand} {ps : Array Tmp} {assign body : Code} {Q : Exit → Act → World → Prop} {a : Act} {w : World}
    (hro : F.round = none) (h1 : 1 ≤ n) {gf : Nat} {lb : Array Value} (hg : a.eval g = .func (.func gf) #[] lb) (hFg : F.fn gf) (eg : ∀ args w, (callFunc gf args).run P w = .ok (.enter gf args) w)
    {encs : α → Array Value} {Kp : World → World → Prop} {L : List α} {w0 : World} (hseq : SeqO F (n - 1) P gf lb encs Kp L w0)
    (hKt : ∀ {A B C : World}, Kp A B → Kp B C → Kp A C) (hKb : ∀ (W : World) (k : Nat) (o o' : Obj), w.heap.size ≤ k → W.heap[k]? = some o → o.isCells = false → o.isWalk = false → Kp W (W.putObj k o')) (hb0 : Below w0.heap.size w0 w) (hps : ∀ x, (encs x).size = ps.size)
    (I : List α → World → Prop) (Ix : Code → List α → World → Prop) (hI : OwnFrom w.heap.size I) (hIx : ∀ c, OwnFrom w.heap.size (Ix c)) (h0 : I [] w) (slot : Tmp) (cs : α → Array Value) (tB : TypeId)
    (hassign : ∀ (l : Nat) (pre : List α) (x : α) (W : World) (K : Act → World → Prop), I pre W → (∀ xb W', KeepsFrom w.heap.size W W' → Kp W W' → I pre W' → W'.heap[xb]? = some (.cells (cs x) tB (0, 0)) → K (boxAct a.tmps ps (encs x) slot xb) W') →
      assign.wpIn (F.inRound l) (n - 1 - 1) P (Exit.then K (fun _ _ _ => False)) { tmps := (ps.zip (encs x)).foldl (fun t (p, v) => t.setIfInBounds p v) a.tmps, defers := [] } W)
    (hbody : ∀ (l : Nat) (pre : List α) (x : α) (xb : Nat) (W : World), w.heap.size ≤ l → (∃ r, W.heap[l]? = some (.loop r)) → I pre W → W.heap[xb]? = some (.cells (cs x) tB (0, 0)) → pre ++ [x] <+: L → body.wpIn (F.inRound l) (n - 1 - 1) P (ownPostG w.heap.size Kp I Ix (pre ++ [x]) W) (boxAct a.tmps ps (encs x) slot xb) W)
    (hdone : ∀ (D : Nat) (W : World), w.heap.size ≤ D → I L W → W.heap[D]? = some (.deferred (some [])) → Q .normal { a with defers := { target := .collected D, args := #[] } :: a.defers } W)
    (hstop : ∀ (D : Nat) (c : Code) (pre : List α) (W : World), w.heap.size ≤ D → pre <+: L → Ix c pre W → W.heap[D]? = some (.deferred (some [])) → c.wpIn F n P Q { a with defers := { target := .collected D, args := #[] } :: a.defers } W) :
    (Code.rangeFunc g ps assign body).wpIn F n P Q a w :=
  range_OH hro h1 hg hFg eg hseq hKt hKb hb0 hps I Ix hI hIx h0
    (fun x a' W => ∃ xb, W.heap[xb]? = some (.cells (cs x) tB (0, 0)) ∧ a' = boxAct a.tmps ps (encs x) slot xb) (fun x a' => boxAx_own (cs := cs) (tB := tB) (f := fun x xb => boxAct a.tmps ps (encs x) slot xb) x a')
    (fun l pre x W K hi hK => hassign l pre x W K hi (fun xb W' k1 k2 k3 k4 => hK _ _ k1 k2 k3 ⟨xb, k4, rfl⟩))
    (fun l pre x a' W hl hr hi hax hp => by obtain ⟨xb, h3, rfl⟩ := hax; exact hbody l pre x xb W hl hr hi h3 hp)
    hdone hstop
structure Ar where
  S : Nat
  G : Nat
  all : List (Nat × Bool × List Value)
  free : List Nat
  count : Nat
  ret : Nat
def scells (l : List (Nat × Bool × List Value)) : List Value := l.flatMap fun s => .int .u32 (s.1 : Int) :: .bool s.2.1 :: s.2.2
def fcells (l : List Nat) : List Value := l.map fun (k : Nat) => Value.int .u32 (k : Int)
structure Ar.Ok (A : Ar) (m : Nat) : Prop where
  S1 : 1 ≤ A.S
  S2 : A.S ≤ 2147483647
  G1 : 1 ≤ A.G
  G2 : A.G ≤ 4294967295
  len : A.all.length ≤ A.S
  gen : ∀ s ∈ A.all, 1 ≤ s.1 ∧ s.1 ≤ A.G
  thing : ∀ s ∈ A.all, s.2.2.length = m
  free : ∀ f ∈ A.free, ∃ g t, A.all[f]? = some (g, false, t) ∧ g < A.G
  nodup : A.free.Nodup
  cnt : A.count = A.all.countP (fun s => s.2.1)
  sum : A.count + A.ret + A.free.length = A.all.length
theorem scells_length {m : Nat} : ∀ {l : List (Nat × Bool × List Value)}, (∀ s ∈ l, s.2.2.length = m) → (scells l).length = l.length * (m + 2)
  | [], _ => by simp [scells]
  | s :: l, h => by
    have ih := scells_length (l := l) fun s hs => h s (List.mem_cons_of_mem _ hs)
    have h1 := h s (List.mem_cons_self ..)
    simp only [scells, List.flatMap_cons, List.length_append, List.length_cons] at ih ⊢
    rw [ih, h1]; simp only [Nat.add_mul]; omega
theorem scells_append (a b : List (Nat × Bool × List Value)) : scells (a ++ b) = scells a ++ scells b := by simp [scells]
theorem scells_at {m : Nat} {l : List (Nat × Bool × List Value)} (h : ∀ s ∈ l, s.2.2.length = m) {k : Nat} {s : Nat × Bool × List Value} (hk : l[k]? = some s) (i : Nat) (hi : i < m + 2) :
    (scells l)[k * (m + 2) + i]? = (Value.int .u32 (s.1 : Int) :: .bool s.2.1 :: s.2.2)[i]? := by
  induction l generalizing k with
  | nil => simp at hk
  | cons x l ih =>
    have hx := h x (List.mem_cons_self ..)
    have e : scells (x :: l) = (Value.int .u32 (x.1 : Int) :: .bool x.2.1 :: x.2.2) ++ scells l := by simp [scells]
    rw [e]
    cases k with
    | zero =>
      simp at hk; subst hk
      rw [List.getElem?_append_left (by simp; omega)]; simp
    | succ k =>
      rw [List.getElem?_append_right (by simp [Nat.add_mul]; omega)]
      have := ih (fun s hs => h s (List.mem_cons_of_mem _ hs)) (by simpa using hk)
      rw [← this]
      congr 1
      simp [Nat.add_mul]; omega
def Ar.live (A : Ar) (s g : Nat) : Bool := decide (1 ≤ s) && (match A.all[s - 1]? with | some x => x.2.1 && x.1 == g | none => false)
theorem Ar.live_iff {A : Ar} {s g : Nat} : A.live s g = true ↔ 1 ≤ s ∧ ∃ t, A.all[s - 1]? = some (g, true, t) := by
  unfold Ar.live
  simp only [Bool.and_eq_true, decide_eq_true_eq]
  refine and_congr Iff.rfl ?_
  cases h : A.all[s - 1]? with
  | none => simp
  | some x => obtain ⟨a, b, c⟩ := x; simp; constructor <;> (rintro ⟨rfl, rfl⟩; exact ⟨rfl, rfl⟩)
structure ArAt (tA tS tF m B : Nat) (w : World) (ab : Nat) (A : Ar) (av fv : Value) : Prop where
  ok : A.Ok m
  base : B ≤ ab
  blk : w.heap[ab]? = some (.cells #[.int .i64 (A.S : Int), .int .i64 (A.G : Int), av, fv, .int .i64 (A.count : Int), .int .i64 (A.ret : Int)] tA (0, 0))
  rowA : w.ownsRow B tS (m + 2) av A.all.length (scells A.all)
  rowF : w.ownsRow B tF 1 fv A.free.length (fcells A.free)
theorem ArAt.kept {tA tS tF m B : Nat} {w w' : World} {ab : Nat} {A : Ar} {av fv : Value} (h : ArAt tA tS tF m B w ab A av fv) {T : List TypeId} {B' : Nat} (hf : FrT T B' w w') (h1 : tA ∉ T) (h2 : tS ∉ T) (h3 : tF ∉ T) : ArAt tA tS tF m B w' ab A av fv :=
  ⟨h.ok, h.base, hf.blk h.blk h1, hf.row h.rowA h2, hf.row h.rowF h3⟩
theorem ArAt.below {tA tS tF m B : Nat} {w w' : World} {ab : Nat} {A : Ar} {av fv : Value} (h : ArAt tA tS tF m B w ab A av fv) (hf : Below w.heap.size w w') : ArAt tA tS tF m B w' ab A av fv :=
  h.kept (FrT.of_below (T := []) (B := 0) hf) (by simp) (by simp) (by simp)
theorem under31 : Tryd.prog.underlying 31 = some (.struct (Tryd.prog.fieldsOf 31)) := by kernel_rfl
theorem fields31 : (Tryd.prog.fieldsOf 31).toList.map (fun f => (f.name, f.type, f.offset)) = [("Slot", 29, 0), ("Gen", 29, 1)] := by kernel_rfl
theorem stood31 : Tryd.prog.stoodInHeld 31 = false := by kernel_rfl
theorem guard31 : Tryd.prog.eqGuardType Tryd.prog.depth 31 = false := by kernel_rfl
def hEq (a b c e : Int) : Bool := a == c && b == e
theorem hEq_true {a b c e : Int} (h1 : a = c) (h2 : b = e) : hEq a b c e = true := by simp [hEq, h1, h2]
theorem hEq_false {a b c e : Int} (h : a ≠ c ∨ b ≠ e) : hEq a b c e = false := by
  unfold hEq
  rcases h with h | h <;> simp [h]
theorem equalIn_handle (d : Nat) (a b c e : Int) (w : World) : (Op.equalIn (d + 1 + 1) 31 (.agg #[.int .u32 a, .int .u32 b]) (.agg #[.int .u32 c, .int .u32 e])).run Tryd.prog w = .ok (a == c && b == e) w := by
  rw [run_equalIn_struct w (d + 1) 31 _ _ under31 stood31]
  have hf := fields31
  generalize (Tryd.prog.fieldsOf 31).toList = fs at hf
  obtain ⟨f0, f1, rfl⟩ : ∃ f0 f1, fs = [f0, f1] := by
    have hl := congrArg List.length hf
    simp at hl
    match fs, hl with
    | [f0, f1], _ => exact ⟨f0, f1, rfl⟩
  simp only [List.map_cons, List.map_nil, List.cons.injEq, Prod.mk.injEq, and_true] at hf
  obtain ⟨⟨n0, t0, o0⟩, ⟨n1, t1, o1⟩⟩ := hf
  have hu := Tryd.underlying29
  simp [Op.eqFields, n0, n1, t0, t1, o0, o1, go_sem, hu]
  by_cases h : a = c
  · by_cases h2 : b = e <;> simp [h, h2]
  · simp [h]
@[go_sem ↓ high] theorem eql_handle (a b c e : Int) (w : World) : (binOp .eql 31 (.agg #[.int .u32 a, .int .u32 b]) (.agg #[.int .u32 c, .int .u32 e])).run Tryd.prog w = .ok (.bool (hEq a b c e)) w := by
  rw [run_eql_struct, show (10000 : Nat) = 9998 + 1 + 1 from rfl, equalIn_handle]; rfl
@[go_sem ↓ high] theorem neq_handle (a b c e : Int) (w : World) : (binOp .neq 31 (.agg #[.int .u32 a, .int .u32 b]) (.agg #[.int .u32 c, .int .u32 e])).run Tryd.prog w = .ok (.bool (!hEq a b c e)) w := by
  rw [run_neq_struct, show (10000 : Nat) = 9998 + 1 + 1 from rfl, equalIn_handle]; rfl
@[go_sem ↓ high] theorem guard_handle (op : BinOp) (x y : Operand) (xs ys : Array Value) (w : World) : (eqGuard op 31 x y (.agg xs) (.agg ys)).run Tryd.prog w = .ok () w := run_eqGuard_agg w op 31 x y xs ys guard31
end Go.Proofs.YtelhnaphkbpakaaDoor
