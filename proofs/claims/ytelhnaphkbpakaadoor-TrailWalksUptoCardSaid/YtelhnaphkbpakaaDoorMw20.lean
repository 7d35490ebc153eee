/- What the steps of Make behind the arena do, one by one. -/
import Derived.Test.YtelhnaphkbpakaaDoorMw19
namespace Go.Proofs.YtelhnaphkbpakaaDoor
open Go.RowKit
set_option linter.unusedVariables false
set_option maxRecDepth 100000

/-- Where the arena has taken a new node up. -/
structure MkR (B : Nat) (Qa : Nat → Prop) (w W : World) (X : TX) (N : Nd) (s g len nb c7 : Nat) (P : Nd) : Prop where
  fr : FrG [145, 150, 29] Qa w W
  ar : ArNOf B (fun k => Qa k ∨ w.heap.size ≤ k ∧ k < W.heap.size) W X.ab (X.T.alloc (some ⟨nb, 0, none⟩)).1
  node : W.heap[nb]? = some (.cells (ncells P (fun _ => (0, 0)) (len + 1)) 120 (0, 0))
  box : W.heap[c7]? = some (.cells #[.int .u32 (s : Int), .int .u32 (g : Int)] 31 (0, 0))
  res : W.heap[w.heap.size + 1]? = some (.cells #[.int .u32 0, .int .u32 0] 31 (0, 0))
  far : w.heap.size + 1 < nb ∧ w.heap.size + 1 < c7
  own : Fresh w.heap.size W P
  same : P.Same N
/-- The tree behind that: its struct, its two lists; z: how far the arena's new blocks go. -/
structure MkS (B : Nat) (Q Qa : Nat → Prop) (w W : World) (z tb : Nat) (X : TX) (s g len nb c7 : Nat) (P : Nd) (hv fv : Value) (nh nf : Nat) (r0 r1 : Value) : Prop where
  fr : FrG [145, 150, 29, 112, 31] Q w W
  ar : ArNOf B (fun k => Qa k ∨ w.heap.size ≤ k ∧ k < z) W X.ab (X.T.alloc (some ⟨nb, 0, none⟩)).1
  node : W.heap[nb]? = some (.cells (ncells P (fun _ => (0, 0)) (len + 1)) 120 (0, 0))
  box : W.heap[c7]? = some (.cells #[.int .u32 (s : Int), .int .u32 (g : Int)] 31 (0, 0))
  res : W.heap[w.heap.size + 1]? = some (.cells #[r0, r1] 31 (0, 0))
  far : w.heap.size + 1 < nb ∧ w.heap.size + 1 < c7
  own : Fresh w.heap.size W P
  blk : W.heap[tb]? = some (.cells #[.pointer (some ⟨X.ab, 0, none⟩), .int .u64 ((len : Int) + 1), .int .i64 (X.T.S : Int), .int .i64 (X.T.G : Int), hv, fv] 112 (0, 0))
  qt : Q tb
  had : ∃ hc, W.ownsRow B 29 1 hv nh hc
  hq : ∀ k, hv.ownBlock = some k → (Q k ∨ w.heap.size ≤ k) ∧ ¬ Qa k ∧ (w.heap.size ≤ k → z ≤ k)
  fre : ∃ fc, W.ownsRow B 31 2 fv nf fc
  fq : ∀ k, fv.ownBlock = some k → Q k ∧ k < w.heap.size
  zz : z ≤ W.heap.size ∧ w.heap.size + 1 < z
  qa : ∀ k, Qa k → Q k ∧ k < w.heap.size
section
variable {B : Nat} {Q Qa : Nat → Prop} {w W W' : World} {z tb : Nat} {X : TX} {s g len nb c7 : Nat} {P : Nd} {hv fv : Value} {nh nf : Nat} {r0 r1 : Value}
theorem MkS.below (h : MkS B Q Qa w W z tb X s g len nb c7 P hv fv nh nf r0 r1) (b : Below W.heap.size W W') : MkS B Q Qa w W' z tb X s g len nb c7 P hv fv nh nf r0 r1 := by
  have f : FrG [] (fun _ => False) W W' := FrG.of_below b
  exact ⟨h.fr.andBelow b, h.ar.below b, f.blk h.node (by simp), f.blk h.box (by simp), f.blk h.res (by simp), h.far, h.own.below b, f.blk h.blk (by simp), h.qt, by obtain ⟨hc, hr⟩ := h.had; exact ⟨hc, f.row hr (by simp)⟩, h.hq, by obtain ⟨fc, hr⟩ := h.fre; exact ⟨fc, f.row hr (by simp)⟩, h.fq, ⟨Nat.le_trans h.zz.1 b.size, h.zz.2⟩, h.qa⟩
theorem mks_start (h : TreeAt B Q w tb X) {N : Nd} (hqa : ∀ k, Qa k → Q k ∧ k < w.heap.size) (hqh : ∀ k, X.hv.ownBlock = some k → ¬ Qa k) (hm : MkR B Qa w W X N s g len nb c7 P) (hlen : len = X.F.length) (hz : w.heap.size + 1 < W.heap.size) :
    MkS B Q Qa w (W.setCell ⟨tb, 1, none⟩ (.int .u64 ((len : Int) + 1))) W.heap.size tb X s g len nb c7 P X.hv X.fv X.T.all.length X.T.free.length (.int .u32 0) (.int .u32 0) := by
  have hb := hm.fr.blk h.rw.blk (by decide)
  have f1 : FrG [112] (fun k => k = tb) W (W.setCell ⟨tb, 1, none⟩ (.int .u64 ((len : Int) + 1))) := (FrG.refl [112] (fun k => k = tb) W).set (a := ⟨tb, 1, none⟩) (.inl rfl) hb (List.mem_singleton.2 rfl) _
  refine ⟨(hm.fr.mono (T' := [145, 150, 29, 112, 31]) (by decide) (fun k hk => (hqa k hk).1)).set (a := ⟨tb, 1, none⟩) (.inl h.rw.own.1) hb (by decide) _, hm.ar.kept f1 (by decide) (by decide) (by decide), f1.blk hm.node (by decide), f1.blk hm.box (by decide), f1.blk hm.res (by decide), hm.far, hm.own.frg f1 (by decide) (by decide), set_blk hb 1 _, h.rw.own.1, ?_, ?_, ?_, ?_, ⟨by simp, hz⟩, hqa⟩
  · obtain ⟨hc, hr⟩ := h.rw.had.1; exact ⟨hc, f1.row (hm.fr.rowQ hr hqh) (by decide)⟩
  · intro k hk
    obtain ⟨hc, hr⟩ := h.rw.had.1
    have := (hr.lt k hk).2
    exact ⟨.inl (h.rw.had.2 k hk), hqh k hk, fun hh => by omega⟩
  · obtain ⟨fc, hr⟩ := h.rw.fre.1; exact ⟨fc, f1.row (hm.fr.row hr (by decide)) (by decide)⟩
  · intro k hk
    obtain ⟨fc, hr⟩ := h.rw.fre.1
    exact ⟨h.rw.fre.2 k hk, (hr.lt k hk).2⟩
/-- An append onto the list of how many there were; then the struct's field. -/
theorem MkS.push (h : MkS B Q Qa w W z tb X s g len nb c7 P hv fv nh nf r0 r1) (hg : W.grownBy W' hv.ownBlock) {gg cap : Nat} {cs : List Value} (ho : W'.ownsRow B 29 1 (.slice (some ⟨gg, 0, none⟩) (nh + 1) cap) (nh + 1) cs) (hat : hv.ownBlock = some gg ∨ z ≤ gg) :
    MkS B Q Qa w (W'.setCell ⟨tb, 4, none⟩ (.slice (some ⟨gg, 0, none⟩) (nh + 1) cap)) z tb X s g len nb c7 P (.slice (some ⟨gg, 0, none⟩) (nh + 1) cap) fv (nh + 1) nf r0 r1 := by
  obtain ⟨hc, hr⟩ := h.had
  have fg : FrG [29] (fun k => hv.ownBlock = some k) W W' := (FrG.refl [29] (fun k => hv.ownBlock = some k) W).append hr (fun k hk => .inl hk) (List.mem_singleton.2 rfl) hg
  have hb := fg.blk h.blk (by decide)
  have f1 : FrG [112] (fun k => k = tb) W' (W'.setCell ⟨tb, 4, none⟩ (.slice (some ⟨gg, 0, none⟩) (nh + 1) cap)) := (FrG.refl [112] (fun k => k = tb) W').set (a := ⟨tb, 4, none⟩) (.inl rfl) hb (List.mem_singleton.2 rfl) _
  have hna : ∀ k, (Qa k ∨ w.heap.size ≤ k ∧ k < z) → ¬ hv.ownBlock = some k := fun k hk e => by
    obtain ⟨_, h2, h3⟩ := h.hq k e
    rcases hk with hk | hk
    · exact h2 hk
    · have := h3 hk.1; omega
  refine ⟨((h.fr.trans (fg.mono (T' := [145, 150, 29, 112, 31]) (by decide) (fun k hk => hk)) (fun k hk => (h.hq k hk).1))).set (a := ⟨tb, 4, none⟩) (.inl h.qt) hb (by decide) _, (h.ar.keptQ fg hna).kept f1 (by decide) (by decide) (by decide), f1.blk (fg.blk h.node (by decide)) (by decide), f1.blk (fg.blk h.box (by decide)) (by decide), f1.blk (fg.blk h.res (by decide)) (by decide), h.far, (h.own.frg fg (by decide) (by decide)).frg f1 (by decide) (by decide), set_blk hb 4 _, h.qt, ⟨cs, f1.row ho (by decide)⟩, ?_, ?_, h.fq, ⟨Nat.le_trans h.zz.1 (by simpa using hg.size), h.zz.2⟩, h.qa⟩
  · intro k hk
    cases hk
    rcases hat with e | e
    · exact h.hq gg e
    · exact ⟨.inr (Nat.le_trans (Nat.le_trans (Nat.le_succ _) (Nat.le_of_lt h.zz.2)) e), fun hq => absurd (h.qa gg hq).2 (Nat.not_lt.2 (Nat.le_trans (Nat.le_trans (Nat.le_succ _) (Nat.le_of_lt h.zz.2)) e)), fun _ => e⟩
  · obtain ⟨fc, hf⟩ := h.fre; exact ⟨fc, f1.row (fg.row hf (by decide)) (by decide)⟩
/-- The last of the free ones taken off. -/
theorem MkS.pop (h : MkS B Q Qa w W z tb X s g len nb c7 P hv fv nh nf r0 r1) {fv' : Value} {nf' : Nat} (hr : ∃ fc, W.ownsRow B 31 2 fv' nf' fc) (hq : ∀ k, fv'.ownBlock = some k → fv.ownBlock = some k) :
    MkS B Q Qa w (W.setCell ⟨tb, 5, none⟩ fv') z tb X s g len nb c7 P hv fv' nh nf' r0 r1 := by
  have f1 : FrG [112] (fun k => k = tb) W (W.setCell ⟨tb, 5, none⟩ fv') := (FrG.refl [112] (fun k => k = tb) W).set (a := ⟨tb, 5, none⟩) (.inl rfl) h.blk (List.mem_singleton.2 rfl) _
  refine ⟨h.fr.set (a := ⟨tb, 5, none⟩) (.inl h.qt) h.blk (by decide) _, h.ar.kept f1 (by decide) (by decide) (by decide), f1.blk h.node (by decide), f1.blk h.box (by decide), f1.blk h.res (by decide), h.far, h.own.frg f1 (by decide) (by decide), set_blk h.blk 5 _, h.qt, ?_, h.hq, ?_, fun k hk => h.fq k (hq k hk), ⟨by simpa using h.zz.1, h.zz.2⟩, h.qa⟩
  · obtain ⟨hc, hr⟩ := h.had; exact ⟨hc, f1.row hr (by decide)⟩
  · obtain ⟨fc, hr⟩ := hr; exact ⟨fc, f1.row hr (by decide)⟩
/-- How many there were, of a slot: written. -/
theorem MkS.count {gg cap : Nat} (h : MkS B Q Qa w W z tb X s g len nb c7 P (.slice (some ⟨gg, 0, none⟩) nh cap) fv nh nf r0 r1) (i : Nat) (v : Value) :
    MkS B Q Qa w (W.setCell ⟨gg, i, none⟩ v) z tb X s g len nb c7 P (.slice (some ⟨gg, 0, none⟩) nh cap) fv nh nf r0 r1 := by
  obtain ⟨hc, hr⟩ := h.had
  obtain ⟨cur, hcur, _⟩ := ownsRow_blk hr
  have f1 : FrG [29] (fun k => k = gg) W (W.setCell ⟨gg, i, none⟩ v) := (FrG.refl [29] (fun k => k = gg) W).set (a := ⟨gg, i, none⟩) (.inl rfl) hcur (List.mem_singleton.2 rfl) _
  have hna : ∀ k, (Qa k ∨ w.heap.size ≤ k ∧ k < z) → ¬ k = gg := fun k hk e => by
    subst e
    obtain ⟨_, h2, h3⟩ := h.hq k rfl
    rcases hk with hk | hk
    · exact h2 hk
    · have := h3 hk.1; omega
  refine ⟨h.fr.set (a := ⟨gg, i, none⟩) (h.hq gg rfl).1 hcur (by decide) _, h.ar.keptQ f1 hna, f1.blk h.node (by decide), f1.blk h.box (by decide), f1.blk h.res (by decide), h.far, h.own.frg f1 (by decide) (by decide), f1.blk h.blk (by decide), h.qt, ⟨_, (hr.stored i v).1⟩, h.hq, ?_, h.fq, ⟨by simpa using h.zz.1, h.zz.2⟩, h.qa⟩
  obtain ⟨fc, hf⟩ := h.fre; exact ⟨fc, f1.row hf (by decide)⟩
/-- The result's box written. -/
theorem MkS.told (h : MkS B Q Qa w W z tb X s g len nb c7 P hv fv nh nf r0 r1) (a b : Value) :
    MkS B Q Qa w ((W.setCell ⟨w.heap.size + 1, 0, none⟩ a).setCell ⟨w.heap.size + 1, 1, none⟩ b) z tb X s g len nb c7 P hv fv nh nf a b := by
  have h1 := set_blk h.res 0 a
  have f1 : FrG [31] (fun k => k = w.heap.size + 1) W ((W.setCell ⟨w.heap.size + 1, 0, none⟩ a).setCell ⟨w.heap.size + 1, 1, none⟩ b) := ((FrG.refl [31] (fun k => k = w.heap.size + 1) W).set (a := ⟨w.heap.size + 1, 0, none⟩) (.inl rfl) h.res (List.mem_singleton.2 rfl) _).set (a := ⟨w.heap.size + 1, 1, none⟩) (.inl rfl) h1 (List.mem_singleton.2 rfl) _
  have hl : w.heap.size ≤ w.heap.size + 1 := by omega
  refine ⟨(h.fr.setNew (a := ⟨w.heap.size + 1, 0, none⟩) hl _).setNew (a := ⟨w.heap.size + 1, 1, none⟩) hl _, h.ar.kept f1 (by decide) (by decide) (by decide), f1.blk h.node (by decide), f1.blkQ h.box (by have := h.far.2; omega), set_blk h1 1 _, h.far, h.own.frg f1 (by decide) (by decide), f1.blk h.blk (by decide), h.qt, ?_, h.hq, ?_, h.fq, ⟨by simpa using h.zz.1, h.zz.2⟩, h.qa⟩
  · obtain ⟨hc, hr⟩ := h.had; exact ⟨hc, f1.row hr (by decide)⟩
  · obtain ⟨fc, hr⟩ := h.fre; exact ⟨fc, f1.rowQ hr (fun k hk e => by have := (h.fq k hk).2; omega)⟩
theorem MkS.pblk (h : MkS B Q Qa w W z tb X s g len nb c7 P hv fv nh nf r0 r1) (hg : W.grownBy W' hv.ownBlock) : W'.heap[tb]? = some (.cells #[.pointer (some ⟨X.ab, 0, none⟩), .int .u64 ((len : Int) + 1), .int .i64 (X.T.S : Int), .int .i64 (X.T.G : Int), hv, fv] 112 (0, 0)) := by
  obtain ⟨hc, hr⟩ := h.had
  exact ((FrG.refl [29] (fun k => hv.ownBlock = some k) W).append hr (fun k hk => .inl hk) (List.mem_singleton.2 rfl) hg).blk h.blk (by decide)
theorem MkS.hcell {gg cap : Nat} (h : MkS B Q Qa w W z tb X s g len nb c7 P (.slice (some ⟨gg, 0, none⟩) nh cap) fv nh nf r0 r1) {i : Nat} (hi : i < nh) : ∃ v, W.cell? ⟨gg, i, none⟩ = some v ∧ W.frozen? ⟨gg, i, none⟩ = false := by
  obtain ⟨hc, hr⟩ := h.had
  have hl := hr.1
  have hl2 : i < hc.length := by omega
  exact ⟨hc[i], (hr.cellAt i (by omega)).trans (List.getElem?_eq_getElem hl2), hr.frozenAt i⟩
theorem MkS.done (h : TreeAt B Q w tb X) (hok : (X.T.ar encN).Ok 1) (hbig : X.F.length < 1099511627776) (hS : MkS B Q Qa w W z tb X s g X.F.length nb c7 P hv fv nh nf r0 r1)
    (hT : (X.T.free = [] ∧ s = X.T.all.length + 1 ∧ g = 1 ∧ nh = X.T.all.length + 1 ∧ nf = X.T.free.length ∧ X.T.alloc (some ⟨nb, 0, none⟩) = ({ X.T with all := X.T.all ++ [(1, true, some ⟨nb, 0, none⟩)], count := X.T.count + 1 }, s, g, 0)) ∨
      (∃ l k g0 y, X.T.free = l ++ [k] ∧ X.T.all[k]? = some (g0, false, y) ∧ s = k + 1 ∧ g = g0 + 1 ∧ nh = X.T.all.length ∧ nf = l.length ∧ X.T.alloc (some ⟨nb, 0, none⟩) = ({ X.T with all := X.T.all.set k (g0 + 1, true, some ⟨nb, 0, none⟩), free := l, count := X.T.count + 1 }, s, g, 0))) :
    TreeAt B (fun k => Q k ∨ w.heap.size ≤ k ∧ k < W.heap.size) W tb ⟨Made X.F s g, X.M ++ [(nb, P)], (X.T.alloc (some ⟨nb, 0, none⟩)).1, X.ab, hv, fv⟩ ∧ FrG [145, 150, 29, 112, 31] Q w W := by
  have hBw : B ≤ w.heap.size := Nat.le_trans h.rw.own.2 (Nat.le_of_lt (lt_of_some h.rw.blk))
  have hnb : w.heap.size ≤ nb := by have := hS.far.1; omega
  have hhq := fun k hk => (hS.hq k hk).1
  have hqh : ∀ k, hv.ownBlock = some k → ¬ (Qa k ∨ w.heap.size ≤ k ∧ k < z) := fun k hk e => by
    obtain ⟨_, h2, h3⟩ := hS.hq k hk
    rcases e with e | e
    · exact h2 e
    · have := h3 e.1; omega
  have hqa : ∀ k, (Qa k ∨ w.heap.size ≤ k ∧ k < z) → (Q k ∨ w.heap.size ≤ k ∧ k < W.heap.size) ∧ k < W.heap.size := fun k hk => by
    rcases hk with hk | hk
    · exact ⟨.inl (hS.qa k hk).1, Nat.lt_of_lt_of_le (hS.qa k hk).2 hS.fr.size⟩
    · exact ⟨.inr ⟨hk.1, Nat.lt_of_lt_of_le hk.2 hS.zz.1⟩, Nat.lt_of_lt_of_le hk.2 hS.zz.1⟩
  have hP : Fresh B W P := hS.own.mono hBw
  refine ⟨?_, hS.fr⟩
  rcases hT with ⟨t1, t2, t3, t4, t5, t6⟩ | ⟨l, k, g0, y, t1, t2, t3, t4, t5, t6, t7⟩
  · have e1 : (X.T.alloc (some ⟨nb, 0, none⟩)).1 = { X.T with all := X.T.all ++ [(1, true, some ⟨nb, 0, none⟩)], count := X.T.count + 1 } := by rw [t6]
    have har := hS.ar
    rw [e1] at har ⊢
    exact h.made hok hbig (.inl ⟨t1, t2, t3, rfl⟩) hS.fr hBw hnb hS.node hP hS.blk har hqa hqh (by have := hS.had; rw [t4] at this; simpa using this) hhq (by have := hS.fre; rw [t5] at this; exact this) (fun k hk => .inl (hS.fq k hk).1)
  · have e1 : (X.T.alloc (some ⟨nb, 0, none⟩)).1 = { X.T with all := X.T.all.set k (g0 + 1, true, some ⟨nb, 0, none⟩), free := l, count := X.T.count + 1 } := by rw [t7]
    have har := hS.ar
    rw [e1] at har ⊢
    exact h.made hok hbig (.inr ⟨l, k, g0, y, t1, t2, t3, t4, rfl⟩) hS.fr hBw hnb hS.node hP hS.blk har hqa hqh (by have := hS.had; rw [t5] at this; simpa using this) hhq (by have := hS.fre; rw [t6] at this; exact this) (fun k hk => .inl (hS.fq k hk).1)
end
end Go.Proofs.YtelhnaphkbpakaaDoor

