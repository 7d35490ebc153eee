/- Part 37 of the proof of TpP: lemmas. -/
import Derived.Test.YtelhnaphkbpakaaDoorMp36
namespace Go.Proofs.YtelhnaphkbpakaaDoor
open Go.RowKit
set_option linter.unusedVariables false
set_option maxRecDepth 100000
section
variable {B : Nat} {Q : Nat → Prop} {w w' : World} {tb : Nat} {X : TX}
theorem TreeAt.killed (h : TreeAt B Q w tb X) {i : Nat} {xi : FN} (hi : X.F[i]? = some xi) (hil : xi.live = true) (hiu : xi.up = none) (hid : xi.down = []) {fv : Value} {Qa : Nat → Prop} {T' : TA (Option Addr)}
    (hT : T'.all = X.T.all.set (xi.sl - 1) (xi.gn, false, none)) (hS : T'.S = X.T.S) (hG : T'.G = X.T.G)
    (f : FrG [145, 150, 29, 112, 31] Q w w')
    (hblk : w'.heap[tb]? = some (.cells #[.pointer (some ⟨X.ab, 0, none⟩), .int .u64 (X.F.length : Int), .int .i64 (X.T.S : Int), .int .i64 (X.T.G : Int), X.hv, fv] 112 (0, 0)))
    (har : ArNOf B Qa w' X.ab T') (hqa : ∀ k, Qa k → (Q k ∨ w.heap.size ≤ k ∧ k < w'.heap.size) ∧ k < w'.heap.size) (hqh : ∀ k, X.hv.ownBlock = some k → ¬ Qa k)
    (hhad : ∃ hc, w'.ownsRow B 29 1 X.hv X.T.all.length hc)
    (hfre : ∃ fc, w'.ownsRow B 31 2 fv T'.free.length fc) (hfq : ∀ k, fv.ownBlock = some k → Q k ∨ w.heap.size ≤ k) :
    TreeAt B (fun k => Q k ∨ w.heap.size ≤ k ∧ k < w'.heap.size) w' tb ⟨Kill X.F i, X.M, T', X.ab, X.hv, fv⟩ := by
  obtain ⟨si, nbi, Pi, smi, sli⟩ := h.rw.slot i xi hi hil
  have hil2 := (List.getElem?_eq_some_iff.1 sli).1
  have back : ∀ (k : Nat) (x : FN), (Kill X.F i)[k]? = some x → x.live = true → k ≠ i ∧ X.F[k]? = some x := by
    intro k x hx hl
    rw [kill_at] at hx
    by_cases e : k = i
    · rw [if_pos e, hi] at hx
      simp at hx
      rw [← hx] at hl
      cases hl
    · rw [if_neg e] at hx; exact ⟨e, hx⟩
  refine ⟨h.fok.kill hi hiu hid, ⟨by show X.M.length = (Kill X.F i).length; rw [kill_len]; exact h.rw.lenM, ?_, by show (Kill X.F i).length ≤ _; rw [kill_len]; exact h.rw.big, ⟨Qa, har, hqa, hqh⟩, ⟨.inl h.rw.own.1, h.rw.own.2⟩, ?_, ⟨?_, fun k hk => .inl (h.rw.had.2 k hk)⟩, ⟨hfre, fun k hk => ?_⟩, ?_, ?_, ?_, h.rw.nbd, fun p hp => Nat.lt_of_lt_of_le (h.rw.nbl p hp) f.size⟩⟩
  · show T'.all.length ≤ (Kill X.F i).length
    rw [kill_len, hT]; simp; exact h.rw.few
  · show w'.heap[tb]? = some (.cells #[_, .int .u64 ((Kill X.F i).length : Int), .int .i64 (T'.S : Int), .int .i64 (T'.G : Int), _, _] _ _)
    rw [kill_len, hS, hG]; exact hblk
  · obtain ⟨hc, hr⟩ := hhad
    refine ⟨hc, ?_⟩
    show w'.ownsRow B _ 1 X.hv T'.all.length hc
    rw [hT, List.length_set]; exact hr
  · obtain ⟨fc, hr⟩ := hfre
    rcases hfq k hk with h1 | h1
    · exact .inl h1
    · exact .inr ⟨h1, (hr.lt k hk).2⟩
  · intro k x hx hl
    obtain ⟨hne, hx'⟩ := back k x hx hl
    obtain ⟨a1, nb, P, a2, a3⟩ := h.rw.slot k x hx' hl
    refine ⟨a1, nb, P, a2, ?_⟩
    show T'.all[x.sl - 1]? = _
    rw [hT, List.getElem?_set_ne]
    · exact a3
    · intro e
      exact hne (h.rw.hinj hx' hi hl hil (by omega))
  · intro s g p hp
    have hp : T'.all[s]? = some (g, true, p) := hp
    rw [hT] at hp
    by_cases e : s = xi.sl - 1
    · subst e
      simp [hil2] at hp
    · rw [List.getElem?_set_ne (Ne.symm e)] at hp
      obtain ⟨k, x, a1, a2, a3, a4⟩ := h.rw.used s g p hp
      refine ⟨k, x, ?_, a2, a3, a4⟩
      show (Kill X.F i)[k]? = _
      rw [kill_at, if_neg]
      · exact a1
      · rintro rfl
        rw [hi] at a1; cases a1
        exact e (by omega)
  · intro k x nb P hx hl hm
    obtain ⟨hne, hx'⟩ := back k x hx hl
    obtain ⟨a1, a2, a3, a4⟩ := h.rw.node k x nb P hx' hl hm
    refine ⟨a1, .inl a2, ?_, a4.frg f (by decide) (by decide)⟩
    have e : ncells P (toH (Kill X.F i) k) (k + 1) = ncells P (toH X.F k) (k + 1) := by
      have : ∀ j, toH (Kill X.F i) k j = toH X.F k j := fun j => by unfold toH; rw [kill_links, hd_kill]
      unfold ncells
      rw [this 0, this 1, this 2, this 3, this 4]
    show w'.heap[nb]? = some (.cells (ncells P (toH (Kill X.F i) k) (k + 1)) _ _)
    rw [e]
    exact f.blk a3 (by decide)
end
theorem infoH : (Tryd.prog.info? 31).map (fun i => (i.zero, i.size, i.bytes)) = some (some (.agg #[.int .u32 0, .int .u32 0]), 2, 8) := by kernel_rfl
section
variable {B : Nat} {Q : Nat → Prop} {w w' : World} {tb : Nat} {X : TX} {bx : Option Obj}
theorem TreeAt.freed (h : TreeAt B Q w tb X) {i : Nat} {xi : FN} (hi : X.F[i]? = some xi) (hil : xi.live = true) (hiu : xi.up = none) (hid : xi.down = []) {W1 W2 : World} {Qa : Nat → Prop} {fv : Value}
    (f1 : FrG [31, 112] Q w W1) (ha : ArNOf B Qa W1 X.ab X.T) (hqa : ∀ k, Qa k → Q k ∧ k < w.heap.size) (hqh : ∀ k, X.hv.ownBlock = some k → ¬ Qa k)
    (hblk : W1.heap[tb]? = some (.cells #[.pointer (some ⟨X.ab, 0, none⟩), .int .u64 (X.F.length : Int), .int .i64 (X.T.S : Int), .int .i64 (X.T.G : Int), X.hv, fv] 112 (0, 0)))
    (hfre : ∃ fc, W1.ownsRow B 31 2 fv (X.T.drop none xi.sl xi.gn).1.free.length fc) (hfq : ∀ k, fv.ownBlock = some k → Q k ∨ w.heap.size ≤ k)
    (ha2 : ArNOf B (fun k => Qa k ∨ W1.heap.size ≤ k ∧ k < W2.heap.size) W2 X.ab (X.T.drop none xi.sl xi.gn).1) (f2 : FrG [145, 150, 29] Qa W1 W2) :
    TreeAt B (fun k => Q k ∨ w.heap.size ≤ k ∧ k < W2.heap.size) W2 tb ⟨Kill X.F i, X.M, (X.T.drop none xi.sl xi.gn).1, X.ab, X.hv, fv⟩ ∧ FrG [145, 150, 29, 112, 31] Q w W2 := by
  obtain ⟨nb, P, hm, hat, hsl, _, _⟩ := h.rw.at_live hi hil
  have hd : (X.T.drop none xi.sl xi.gn).1.all = X.T.all.set (xi.sl - 1) (xi.gn, false, none) ∧ (X.T.drop none xi.sl xi.gn).1.S = X.T.S ∧ (X.T.drop none xi.sl xi.gn).1.G = X.T.G := by
    unfold TA.drop
    rw [hat]
    by_cases hg : xi.gn < X.T.G
    · simp [hg]
    · simp [hg]
  have f : FrG [145, 150, 29, 112, 31] Q w W2 := (f1.mono (by decide) (fun _ h => h)).trans (f2.mono (T' := [145, 150, 29, 112, 31]) (by decide) (fun _ h => h)) (fun k hk => .inl (hqa k hk).1)
  have hs1 := f1.size
  have hs2 := f2.size
  refine ⟨h.killed hi hil hiu hid hd.1 hd.2.1 hd.2.2 f (f2.blk hblk (by decide)) ha2 (fun k hk => ?_) (fun k hk e => ?_) ?_ ?_ hfq, f⟩
  · rcases hk with hk | hk
    · exact ⟨.inl (hqa k hk).1, by have := (hqa k hk).2; omega⟩
    · exact ⟨.inr ⟨by omega, hk.2⟩, hk.2⟩
  · rcases e with e | e
    · exact hqh k hk e
    · obtain ⟨hc, hr⟩ := h.rw.had.1
      have := (hr.lt k hk).2
      omega
  · obtain ⟨hc, hr⟩ := h.rw.had.1
    exact ⟨hc, f2.rowQ (f1.row hr (by decide)) hqh⟩
  · obtain ⟨fc, hr⟩ := hfre
    exact ⟨fc, f2.row hr (by decide)⟩
theorem TreeAt.freeRow (h : TreeAt B Q w tb X) {w2 w4 : World} {m : Nat} {fv : Value} {fc xs : List Value} {c : Obj} {Qa : Nat → Prop} (hl : Below w.heap.size w w2) (hb2 : ∃ cs, w2.heap[w.heap.size]? = some (.cells cs 31 (0, 0)) ∧ bx = some (.cells cs 31 (0, 0))) (hfv : X.fv = fv)
    (hown : w2.ownsRow B 31 2 fv m fc) (hgrow : (w2.alloc c).drew.grownBy w4 fv.ownBlock) {gg cap : Nat} (hown1 : w4.ownsRow B 31 2 (.slice (some ⟨gg, 0, none⟩) (m + 1) cap) (m + 1) xs) (hat : fv.ownBlock = some gg ∨ gg = w2.heap.size + 1)
    (ha : ArNOf B Qa w X.ab X.T) :
    let W := w4.setCell ⟨tb, 5, none⟩ (.slice (some ⟨gg, 0, none⟩) (m + 1) cap)
    FrG [31, 112] Q w W ∧ ArNOf B Qa W X.ab X.T ∧ W.heap[tb]? = some (.cells #[.pointer (some ⟨X.ab, 0, none⟩), .int .u64 (X.F.length : Int), .int .i64 (X.T.S : Int), .int .i64 (X.T.G : Int), X.hv, .slice (some ⟨gg, 0, none⟩) (m + 1) cap] 112 (0, 0)) ∧
    (∃ fc, W.ownsRow B 31 2 (.slice (some ⟨gg, 0, none⟩) (m + 1) cap) (m + 1) fc) ∧ (∀ k, (Value.slice (some ⟨gg, 0, none⟩) (m + 1) cap).ownBlock = some k → Q k ∨ w.heap.size ≤ k) ∧ W.heap[w.heap.size]? = bx := by
  obtain ⟨cs, hb2, rfl⟩ := hb2
  subst hfv
  intro W
  have hq := h.rw.fre.2
  have hs := hl.size
  have f1 : FrG [31, 112] Q w ((w2.alloc c).drew) := ((FrG.of_below hl).alloc c).drew
  have f2 : FrG [31, 112] Q w w4 := f1.append ((hown.alloc c).drew) (fun k hk => .inl (hq k hk)) (by decide) hgrow
  have hb4 := (f2.mono (T' := [31, 112]) (by decide) (fun _ h => h))
  have hrb : X.fv.ownBlock ≠ some tb := (row_ne hown ((hl.block _ (lt_of_some h.rw.blk)).trans h.rw.blk) (by decide)).symm
  have hblk : w4.heap[tb]? = some (.cells #[.pointer (some ⟨X.ab, 0, none⟩), .int .u64 (X.F.length : Int), .int .i64 (X.T.S : Int), .int .i64 (X.T.G : Int), X.hv, X.fv] 112 (0, 0)) := by
    have e0 := (hl.block _ (lt_of_some h.rw.blk)).trans h.rw.blk
    exact (hgrow.block tb (by simp; have := lt_of_some e0; omega) (fun e => hrb e.symm)).trans (alloc_blk e0 _)
  have f3 : FrG [112] (fun k => k = tb) w4 W := (FrG.refl [112] (fun k => k = tb) w4).set (a := ⟨tb, 5, none⟩) (.inl rfl) hblk (List.mem_singleton.2 rfl) _
  have f4 : FrG [31, 112] Q w W := f2.set (a := ⟨tb, 5, none⟩) (.inl h.rw.own.1) hblk (by decide) _
  have hne : X.fv.ownBlock ≠ some w.heap.size := fun e => by
    obtain ⟨fc0, hr⟩ := h.rw.fre.1
    have := hr.lt _ e
    omega
  have hbox : w4.heap[w.heap.size]? = some (.cells cs 31 (0, 0)) := (hgrow.block _ (by simp; have := lt_of_some hb2; omega) (fun e => hne e.symm)).trans (alloc_blk hb2 _)
  refine ⟨f4, ha.kept f4 (by decide) (by decide) (by decide), set_blk hblk 5 _, ⟨_, f3.row hown1 (by decide)⟩, ?_, ?_⟩
  · intro k hk
    cases hk
    rcases hat with e | e
    · exact .inl (hq _ e)
    · exact .inr (by show w.heap.size ≤ gg; omega)
  · exact f3.blkQ hbox (by intro e; have := lt_of_some h.rw.blk; omega)
set_option maxHeartbeats 8000000 in
theorem drop_ok (h : TreeAt B Q w tb X) {i : Nat} {xi : FN} (hi : X.F[i]? = some xi) (hil : xi.live = true) (hiu : xi.up = none) (hid : xi.down = []) :
    Calls Tryd.prog 74 #[.pointer (some ⟨tb, 0, none⟩), .agg #[.int .u32 (xi.sl : Int), .int .u32 (xi.gn : Int)]] w fun e w' => ∃ fv : Value, e = .returned (.int .i64 0) ∧
      TreeAt B (fun k => Q k ∨ w.heap.size ≤ k ∧ k < w'.heap.size) w' tb ⟨Kill X.F i, X.M, (X.T.drop none xi.sl xi.gn).1, X.ab, X.hv, fv⟩ ∧ FrG [145, 150, 29, 112, 31] Q w w' := by
  obtain ⟨nbc, Pc, hmc, hat, hsl, hs2, hg2⟩ := h.rw.at_live hi hil
  have hnc := (h.rw.node i xi nbc Pc hi hil hmc).2.2.1
  obtain ⟨Qa, ha, hqa, hqh⟩ := h.rw.ar
  have hG := ha.ok.G2
  have hfree : X.T.free.length ≤ 2147483647 := by have h0 := ha.ok.sum; have h1 := ha.ok.len; have h2 := ha.ok.S2; simp [TA.ar] at h0 h1 h2; omega
  obtain ⟨fv0, hfv⟩ : ∃ v, X.fv = v := ⟨_, rfl⟩
  have hGG : X.T.G ≤ 4294967295 := hG
  have huo : toH X.F i 0 = (0, 0) := by unfold toH; show hd X.F (upOf X.F i) = _; unfold upOf; rw [hi]; show hd X.F xi.up = _; rw [hiu]; rfl
  have hdo : toH X.F i 1 = (0, 0) := by unfold toH; show hd X.F (dnOf X.F (some i)).head? = _; unfold dnOf; simp [hi, hid]; rfl
  have HT := Lib.hid h
  have HQ := Lib.hid (And.intro ha (And.intro hqa hqh))
  have HDONE : Hid (∀ (W1 W2 : World) (fv : Value), FrG [31, 112] Q w W1 → ArNOf B Qa W1 X.ab X.T →
      W1.heap[tb]? = some (.cells #[.pointer (some ⟨X.ab, 0, none⟩), .int .u64 (X.F.length : Int), .int .i64 (X.T.S : Int), .int .i64 (X.T.G : Int), X.hv, fv] 112 (0, 0)) →
      (∃ fc, W1.ownsRow B 31 2 fv (X.T.drop none xi.sl xi.gn).1.free.length fc) → (∀ k, fv.ownBlock = some k → Q k ∨ w.heap.size ≤ k) →
      ArNOf B (fun k => Qa k ∨ W1.heap.size ≤ k ∧ k < W2.heap.size) W2 X.ab (X.T.drop none xi.sl xi.gn).1 → FrG [145, 150, 29] Qa W1 W2 →
      TreeAt B (fun k => Q k ∨ w.heap.size ≤ k ∧ k < W2.heap.size) W2 tb ⟨Kill X.F i, X.M, (X.T.drop none xi.sl xi.gn).1, X.ab, X.hv, fv⟩ ∧ FrG [145, 150, 29, 112, 31] Q w W2) :=
    Lib.hid (fun W1 W2 fv f1 a1 b1 r1 q1 a2 f2 => h.freed hi hil hiu hid f1 a1 hqa hqh b1 r1 q1 a2 f2)
  have HFREE : Hid (∀ W, ArNOf B Qa W X.ab X.T → Calls Tryd.prog 103 #[.pointer (some ⟨X.ab, 0, none⟩), .agg #[.int .u32 (xi.sl : Int), .int .u32 (xi.gn : Int)]] W fun e w' => e = .returned (.int .i64 0) ∧ ArNOf B (fun k => Qa k ∨ W.heap.size ≤ k ∧ k < w'.heap.size) w' X.ab (X.T.drop none xi.sl xi.gn).1 ∧ FrG [145, 150, 29] Qa W w') := Lib.hid (fun W hW => by
    have := arNTop_free hW xi.sl xi.gn (by omega) (by omega)
    have e2 : (X.T.drop (none : Option Addr) xi.sl xi.gn).2 = 0 := by
      unfold TA.drop; rw [hat]; by_cases hg : xi.gn < X.T.G <;> simp [hg]
    rw [e2] at this
    exact this)
  have HFL : Hid (xi.gn < X.T.G → (X.T.drop (none : Option Addr) xi.sl xi.gn).1.free.length = X.T.free.length + 1) := Lib.hid (fun hg => by unfold TA.drop; rw [hat]; simp [hg])
  have HFN : Hid (¬ xi.gn < X.T.G → (X.T.drop (none : Option Addr) xi.sl xi.gn).1.free.length = X.T.free.length) := Lib.hid (fun hg => by unfold TA.drop; rw [hat]; simp [hg])
  have HGc : Hid (∀ W, Below w.heap.size w W → Calls Tryd.prog 76 #[.pointer (some ⟨X.ab, 0, none⟩), .agg #[.int .u32 (xi.sl : Int), .int .u32 (xi.gn : Int)]] W fun e w' => e = .returned (.tuple #[.pointer (some ⟨nbc, 0, none⟩), .int .i64 0]) ∧ Below W.heap.size W w') := Lib.hid (fun W bb => (h.rw.below bb).get_live hi hil hmc)
  have HC : Hid (∀ (W : World), Below w.heap.size w W → W.heap[nbc]? = some (.cells (ncells Pc (toH X.F i) (i + 1)) 120 (0, 0))) := Lib.hid (fun W bb => (bb.block _ (lt_of_some hnc)).trans hnc)
  have HTB : Hid (∀ (W : World), Below w.heap.size w W → W.heap[tb]? = some (.cells #[.pointer (some ⟨X.ab, 0, none⟩), .int .u64 (X.F.length : Int), .int .i64 (X.T.S : Int), .int .i64 (X.T.G : Int), X.hv, X.fv] 112 (0, 0))) := Lib.hid (fun W bb => (bb.block _ (lt_of_some h.rw.blk)).trans h.rw.blk)
  have HLT := Lib.hid (And.intro huo hdo)
  have qz : hEq 0 0 0 0 = true := hEq_true rfl rfl
  obtain ⟨G, hGe⟩ : ∃ G, G = X.T.G := ⟨_, rfl⟩
  obtain ⟨m, hme⟩ : ∃ m, m = X.T.free.length := ⟨_, rfl⟩
  rw [← hGe] at HFL HFN hGG
  rw [← hme] at HFL HFN hfree
  have HGE := Lib.hid (And.intro hGe (And.intro hme hfv))
  obtain ⟨s, hs⟩ : ∃ s, s = xi.sl := ⟨_, rfl⟩
  obtain ⟨g, hg⟩ : ∃ g, g = xi.gn := ⟨_, rfl⟩
  have ltb := lt_of_some h.rw.blk
  clear hmc hat hnc ha hqa hqh hG huo hdo hGe hme hfv hiu hid hi hil h
  generalize X.T.drop (none : Option Addr) xi.sl xi.gn = TD at *
  rw [← hs] at HFREE HGc hs2 hsl ⊢
  rw [← hg] at HFREE HGc HFL HFN hg2 ⊢
  clear hs hg
  obtain ⟨V, hV⟩ : ∃ V, V = w.alloc (.cells #[.int .u32 (s : Int), .int .u32 (g : Int)] 31) := ⟨_, rfl⟩
  have bV : Below w.heap.size w V := by rw [hV]; exact (by repeat (first | exact Below.refl _ _ | assumption | refine Below.drew ?_ | refine below_drewN ?_ _ | refine Below.alloc ?_ (by simp <;> omega) _ | refine Below.setCell ?_ (by simp <;> omega) _ | (apply bl_trans; assumption; (simp <;> omega))))
  have hx : V.heap[w.heap.size]? = some (.cells #[.int .u32 (s : Int), .int .u32 (g : Int)] 31 (0, 0)) := by rw [hV]; exact Go.heap_alloc_new w _
  have HX := Lib.hid (And.intro hx bV)
  have HSW : Hid (∀ W, Below V.heap.size V W → (W.cell? ⟨tb, 0, none⟩ = some (.pointer (some ⟨X.ab, 0, none⟩)) ∧ W.cell? ⟨w.heap.size, 0, none⟩ = some (.int .u32 (s : Int)) ∧ W.cell? ⟨w.heap.size, 1, none⟩ = some (.int .u32 (g : Int))) ∧ Below w.heap.size w W ∧ W.heap[w.heap.size]? = some (.cells #[.int .u32 (s : Int), .int .u32 (g : Int)] 31 (0, 0))) := Lib.hid (fun W bb => by
    have hx2 := (bb.block _ (lt_of_some HX.out.1)).trans HX.out.1
    have hl := HX.out.2.trans (bb.mono HX.out.2.size)
    exact ⟨⟨cell_blk (HTB.out W hl) 0 rfl, cell_blk hx2 0 rfl, cell_blk hx2 1 rfl⟩, hl, hx2⟩)
  have HD0 : Hid (Below V.heap.size V V.drew) := Lib.hid (Below.refl _ _).drew
  have hV2 := hV
  clear hV hx bV
  go_enter Tryd.func74, Tryd.ntmps74
  go_wp2_with fail
  rw [← hV2]
  clear hV2
  go_region_held3 (fun W => (W.cell? ⟨tb, 0, none⟩ = some (.pointer (some ⟨X.ab, 0, none⟩)) ∧ W.cell? ⟨w.heap.size, 0, none⟩ = some (.int .u32 (s : Int)) ∧ W.cell? ⟨w.heap.size, 1, none⟩ = some (.int .u32 (g : Int)))) (first | exact (HSW.out _ HD0.out).1 | exact (HSW.out _ HB1.out).1) (first | (go_at_call 76; refine (HGc.out _ (HSW.out _ HD0.out).2.1).mono ?_; rintro e w1 ⟨rfl, b1⟩; have HB1 := Lib.hid (HD0.out.trans (b1.mono HD0.out.size))))
  clear b1 HD0
  have n6 : w1.cell? ⟨nbc, 6, none⟩ = some (.int .u32 ((toH X.F i 0).1 : Int)) := cell_blk (HC.out w1 (HSW.out _ HB1.out).2.1) 6 rfl
  have n7 : w1.cell? ⟨nbc, 7, none⟩ = some (.int .u32 ((toH X.F i 0).2 : Int)) := cell_blk (HC.out w1 (HSW.out _ HB1.out).2.1) 7 rfl
  have n8 : w1.cell? ⟨nbc, 8, none⟩ = some (.int .u32 ((toH X.F i 1).1 : Int)) := cell_blk (HC.out w1 (HSW.out _ HB1.out).2.1) 8 rfl
  have n9 : w1.cell? ⟨nbc, 9, none⟩ = some (.int .u32 ((toH X.F i 1).2 : Int)) := cell_blk (HC.out w1 (HSW.out _ HB1.out).2.1) 9 rfl
  rw [HLT.out.1] at n6 n7
  rw [HLT.out.2] at n8 n9
  simp at n6 n7 n8 n9
  go_upto_region 6 with fail
  clear n6 n7 n8 n9
  obtain ⟨⟨y0, y1, y2⟩, hlow, hbx⟩ := HSW.out _ HB1.out
  have k3 : w1.cell? ⟨tb, 3, none⟩ = some (.int .i64 (G : Int)) := by rw [HGE.out.1]; exact cell_blk (HTB.out w1 hlow) 3 rfl
  have q1 : IntKind.i64.wrap (g : Int) = (g : Int) := IntWalk.i64_in _ (by omega)
  have HB1L := Lib.hid (And.intro hlow hbx)
  clear hlow hbx
  by_cases hgG : g < G
  · have q2 : decide (g < G) = true := by simp; omega
    go_quiet (fail)
    have HB2 : Hid (Below V.heap.size V (w1.drewN nq)) := Lib.hid (below_drewN HB1.out nq)
    generalize w1.drewN nq = w2 at HB2 ⊢
    clear y0 y1 y2 k3 HB1 HB1L q1
    obtain ⟨⟨y0, y1, y2⟩, hlow, hbx⟩ := HSW.out _ HB2.out
    have k5 : w2.cell? ⟨tb, 5, none⟩ = some fv0 := by rw [← HGE.out.2.2]; exact cell_blk (HTB.out w2 hlow) 5 rfl
    have f5 := free_blk (HTB.out w2 hlow) 5
    obtain ⟨fc, hrow⟩ := (HT.out.rw.below hlow).fre.1
    rw [← HGE.out.2.1, HGE.out.2.2] at hrow
    have hB2 : B ≤ w2.heap.size := Nat.le_trans HT.out.rw.own.2 (Nat.le_of_lt (lt_of_some (HTB.out w2 hlow)))
    obtain ⟨i0, hi0, hz0, hz1, hz2⟩ := info_parts infoH
    have HLOW := Lib.hid (And.intro hlow hbx)
    clear hlow hbx
    have HROW := Lib.hid hrow
    have hnew : (w2.alloc (.cells #[.int .u32 (s : Int), .int .u32 (g : Int)] 31)).heap[w2.heap.size]? = some (.cells #[.int .u32 (s : Int), .int .u32 (g : Int)] 31 (0, 0)) := Go.heap_alloc_new w2 _
    have htb := HTB.out w2 HLOW.out.1
    have HTB2 := Lib.hid htb
    have ltb2 : tb < w2.heap.size := lt_of_some htb
    clear htb
    go_wp2_with fail
    go_region_law ((refine step_append_lies _ (by rfl) _ _ 70 (by rfl) B 31 i0 _ 2 8 Tryd.underlying70 hi0 hz0 hz1 hz2 rfl (by omega) fv0 m _ (by rfl) ((hrow.alloc _).drew) ⟨w2.heap.size, 0, none⟩ 1 1 [.int .u32 (s : Int), .int .u32 (g : Int)] (by rfl) (by rfl) (World.news_of_block (cs := #[.int .u32 (s : Int), .int .u32 (g : Int)]) (t := 31) (fr := (0, 0)) hnew) (by simp [Value.oneCell']) (by omega) (by unfold maxLen; omega) (by omega) (by simp; omega) (w2.heap.size + 1) (by simp) ?_; intro gg cap1 w4 hown1 hgrow hat hlt; have nb1 := (hgrow.block tb (by simp; omega) (row_ne HROW.out HTB2.out (by decide))).trans (alloc_blk HTB2.out _); have x1 := cell_blk nb1 5 rfl; have x2 := free_blk nb1 5))
    all_goals have HZ := Lib.hid (HT.out.freeRow (bx := some (.cells #[.int .u32 (s : Int), .int .u32 (g : Int)] 31 (0, 0))) HLOW.out.1 ⟨_, HLOW.out.2, rfl⟩ HGE.out.2.2 HROW.out hgrow hown1 hat HQ.out.1)
    all_goals clear hgrow hown1 hat nb1 hrow hnew k5 f5
    all_goals go_wp2_with fail
    all_goals generalize w4.setCell ⟨tb, 5, none⟩ (.slice (some ⟨gg, 0, none⟩) (m + 1) cap1) = w5 at HZ ⊢
    all_goals clear x1 x2
    all_goals have HS5 : Hid (w5.drew.cell? ⟨tb, 0, none⟩ = some (.pointer (some ⟨X.ab, 0, none⟩)) ∧ w5.drew.cell? ⟨w.heap.size, 0, none⟩ = some (.int .u32 (s : Int)) ∧ w5.drew.cell? ⟨w.heap.size, 1, none⟩ = some (.int .u32 (g : Int))) := Lib.hid ⟨cell_blk HZ.out.2.2.1 0 rfl, cell_blk HZ.out.2.2.2.2.2 0 rfl, cell_blk HZ.out.2.2.2.2.2 1 rfl⟩
    all_goals go_region_held3 (fun W => (W.cell? ⟨tb, 0, none⟩ = some (.pointer (some ⟨X.ab, 0, none⟩)) ∧ W.cell? ⟨w.heap.size, 0, none⟩ = some (.int .u32 (s : Int)) ∧ W.cell? ⟨w.heap.size, 1, none⟩ = some (.int .u32 (g : Int)))) (first | exact HS5.out | exact HS3.out) (first | (go_at_call 103; refine (HFREE.out w5.drew (HZ.out.2.1.below (Below.refl _ _).drew)).mono ?_; rintro e w3 ⟨rfl, a3, f3⟩; have HA3 := Lib.hid (And.intro a3 f3); have hx3 := f3.blk (w := w5.drew) HZ.out.2.2.2.2.2 (by decide); have ht3 := f3.blk (w := w5.drew) HZ.out.2.2.1 (by decide); have HS3 := Lib.hid (And.intro (cell_blk ht3 0 rfl) (And.intro (cell_blk hx3 0 rfl) (cell_blk hx3 1 rfl)))))
    all_goals clear a3 f3 hx3 ht3
    all_goals go_wp2_with fail
    all_goals go_ret
    all_goals exact ⟨_, rfl, HDONE.out w5.drew w3 (.slice (some ⟨gg, 0, none⟩) (m + 1) cap1) HZ.out.1.drew (HZ.out.2.1.below (Below.refl _ _).drew) HZ.out.2.2.1 (by rw [HFL.out hgG]; obtain ⟨fc5, hr5⟩ := HZ.out.2.2.2.1; exact ⟨fc5, hr5.drew⟩) HZ.out.2.2.2.2.1 HA3.out.1 HA3.out.2⟩
  · have q2 : decide (g < G) = false := by simp; omega
    go_quiet (fail)
    have HB2 : Hid (Below V.heap.size V (w1.drewN nq)) := Lib.hid (below_drewN HB1.out nq)
    generalize w1.drewN nq = w2 at HB2 ⊢
    clear y0 y1 y2 k3 HB1 HB1L q1
    have HLOW := Lib.hid (HSW.out _ HB2.out).2
    have HAR2 : Hid (ArNOf B Qa w2 X.ab X.T) := Lib.hid (HQ.out.1.below HLOW.out.1)
    have HD2 : Hid (Below V.heap.size V w2.drew) := Lib.hid HB2.out.drew
    have HF2 : Hid (∃ fc, w2.ownsRow B 31 2 X.fv TD.1.free.length fc) := Lib.hid (by
      rw [HFN.out hgG, HGE.out.2.1]
      exact (HT.out.rw.below HLOW.out.1).fre.1)
    have HD2W : Hid (w2.drew.heap.size = w2.heap.size) := Lib.hid rfl
    go_wp2_with fail
    go_region_held3 (fun W => (W.cell? ⟨tb, 0, none⟩ = some (.pointer (some ⟨X.ab, 0, none⟩)) ∧ W.cell? ⟨w.heap.size, 0, none⟩ = some (.int .u32 (s : Int)) ∧ W.cell? ⟨w.heap.size, 1, none⟩ = some (.int .u32 (g : Int)))) (first | exact (HSW.out _ HD2.out).1 | exact HS3.out) (first | (go_at_call 103; refine (HFREE.out w2.drew (HAR2.out.below (Below.refl _ _).drew)).mono ?_; rintro e w3 ⟨rfl, a3, f3⟩; have HA3 := Lib.hid (And.intro a3 f3); have hx3 := f3.blk ((HSW.out _ HD2.out).2.2) (by decide); have ht3 := f3.blk (HTB.out w2.drew (HSW.out _ HD2.out).2.1) (by decide); have HS3 := Lib.hid (And.intro (cell_blk ht3 0 rfl) (And.intro (cell_blk hx3 0 rfl) (cell_blk hx3 1 rfl)))))
    clear a3 f3 hx3 ht3
    go_wp2_with fail
    go_ret
    exact ⟨X.fv, rfl, HDONE.out w2.drew w3 X.fv (FrG.of_below (HSW.out _ HD2.out).2.1) (HAR2.out.below (Below.refl _ _).drew) (HTB.out w2.drew (HSW.out _ HD2.out).2.1) HF2.out (fun k hk => .inl (HT.out.rw.fre.2 k hk)) HA3.out.1 HA3.out.2⟩
end
section
variable {B : Nat} {Q : Nat → Prop} {w w' : World} {tb : Nat} {X : TX}
end
theorem TreeAt.refStep {B : Nat} {Q Q' : Nat → Prop} {w w' : World} {tb : Nat} {X : TX} {T : List TypeId} (h : TreeAt B Q w tb X) (f : FrG T Q' w w') (hT : ∀ e ∈ T, e = 61 ∨ e = 69) : TreeAt B Q w' tb X := by
  have n : ∀ e, e ≠ 61 → e ≠ 69 → e ∉ T := fun e h1 h2 hm => (hT e hm).elim h1 h2
  have h0 := h.rw
  refine ⟨h.fok, h0.lenM, h0.few, h0.big, ?_, h0.own, f.blk h0.blk (n _ (by decide) (by decide)), ⟨?_, h0.had.2⟩, ⟨?_, h0.fre.2⟩, h0.slot, h0.used, ?_, h0.nbd, fun p hp => Nat.lt_of_lt_of_le (h0.nbl p hp) f.size⟩
  · obtain ⟨Qa, h1, h2, h3⟩ := h0.ar
    exact ⟨Qa, h1.kept f (n _ (by decide) (by decide)) (n _ (by decide) (by decide)) (n _ (by decide) (by decide)), fun k hk => ⟨(h2 k hk).1, Nat.lt_of_lt_of_le (h2 k hk).2 f.size⟩, h3⟩
  · obtain ⟨hc, h1⟩ := h0.had.1; exact ⟨hc, f.row h1 (n _ (by decide) (by decide))⟩
  · obtain ⟨hc, h1⟩ := h0.fre.1; exact ⟨hc, f.row h1 (n _ (by decide) (by decide))⟩
  · intro k x nb P h1 h2 h3
    obtain ⟨a1, a2, a3, a4⟩ := h0.node k x nb P h1 h2 h3
    exact ⟨a1, a2, f.blk a3 (n _ (by decide) (by decide)), a4.frg f (n _ (by decide) (by decide)) (n _ (by decide) (by decide))⟩
theorem TreeAt.mono {B : Nat} {Q Q' : Nat → Prop} {w : World} {tb : Nat} {X : TX} (h : TreeAt B Q w tb X) (hQ : ∀ k, Q k → Q' k) : TreeAt B Q' w tb X := ⟨h.fok, h.rw.mono hQ⟩
def GoodN (N : Nd) : Prop := N.Bd 1099511627776 ∧ checkD N.kind N.name N.data.length (N.L.map LA.name) = 0
structure Both (B : Nat) (Q : Nat → Prop) (w : World) (tb fb : Nat) (X : TX) (R : List RN) (rv : Value) : Prop where
  t : TreeAt B Q w tb X
  f : FoAt B Q w fb X.F R rv
  q : ∀ k, Q k → B ≤ k ∧ k < w.heap.size
  S : X.T.S = 1000
  few : X.F.length ≤ 200
  same : ∀ (k : Nat) nb P r, X.M[k]? = some (nb, P) → R[k]? = some r → P.Same r.2.1 ∧ GoodN r.2.1
section
variable {B : Nat} {Q : Nat → Prop} {w w' : World} {tb fb : Nat} {X : TX} {R : List RN} {rv : Value}
theorem Both.base (h : Both B Q w tb fb X R rv) : B ≤ w.heap.size := by
  have := h.f.own
  have := lt_of_some h.f.blk
  omega
theorem Both.below (h : Both B Q w tb fb X R rv) (b : Below w.heap.size w w') : Both B Q w' tb fb X R rv :=
  ⟨h.t.below b, h.f.below b, fun k hk => ⟨(h.q k hk).1, Nat.lt_of_lt_of_le (h.q k hk).2 b.size⟩, h.S, h.few, h.same⟩
theorem FrG.lowQ {T : List TypeId} (f : FrG T Q w w') (h : ∀ k, Q k → B ≤ k ∧ k < w.heap.size) (hB : B ≤ w.heap.size) : Below B w w' := f.below hB (fun k hk hq => by have := (h k hq).1; omega)
theorem TA.drop_S {α : Type} (T : TA α) (z : α) (s g : Nat) : (T.drop z s g).1.S = T.S := by
  unfold TA.drop
  repeat (first | rfl | split)
theorem TA.alloc_S {α : Type} (T : TA α) (x : α) : (T.alloc x).1.S = T.S := by
  unfold TA.alloc
  repeat (first | rfl | split)
end
section
variable {B : Nat} {Q : Nat → Prop} {w w' : World} {tb : Nat} {X : TX} {Lf : Nat → Nat → Nat × Nat}
set_option maxHeartbeats 2000000 in
theorem born_live (h : TreeRw B Q w tb X Lf) {k : Nat} {x : FN} (hx : X.F[k]? = some x) (hl : x.live = true) :
    Calls Tryd.prog 43 #[.pointer (some ⟨tb, 0, none⟩), .agg #[.int .u32 (x.sl : Int), .int .u32 (x.gn : Int)]] w fun e w' => e = .returned (.tuple #[.int .u64 ((k + 1 : Nat) : Int), .int .i64 0]) ∧ Below w.heap.size w w' := by
  obtain ⟨nb, P, hm, _⟩ := h.at_live hx hl
  have hnode := (h.node k x nb P hx hl hm).2.2.1
  have HG : Hid (∀ W, Below w.heap.size w W → Calls Tryd.prog 76 #[.pointer (some ⟨X.ab, 0, none⟩), .agg #[.int .u32 (x.sl : Int), .int .u32 (x.gn : Int)]] W fun e w' => e = .returned (.tuple #[.pointer (some ⟨nb, 0, none⟩), .int .i64 0]) ∧ Below W.heap.size W w') :=
    Lib.hid (fun W b => (h.below b).get_live hx hl hm)
  have c0 := cell_blk h.blk 0 rfl
  have ltb := lt_of_some h.blk
  have lnb := lt_of_some hnode
  have n0 : w.cell? ⟨nb, 16, none⟩ = some (.int .u64 ((k + 1 : Nat) : Int)) := cell_blk hnode 16 rfl
  simp at c0
  obtain ⟨s, hs⟩ : ∃ s, s = x.sl := ⟨_, rfl⟩
  obtain ⟨g, hg⟩ : ∃ g, g = x.gn := ⟨_, rfl⟩
  obtain ⟨r, hr⟩ : ∃ r : Int, r = ((k + 1 : Nat) : Int) := ⟨_, rfl⟩
  rw [← hs, ← hg] at HG ⊢
  rw [← hr] at n0 ⊢
  clear h hx hl hm hnode hs hg hr
  obtain ⟨V, hV⟩ : ∃ V, V = w.alloc (.cells #[.int .u32 (s : Int), .int .u32 (g : Int)] 31) := ⟨_, rfl⟩
  have bV : Below w.heap.size w V := by rw [hV]; exact (by repeat (first | exact Below.refl _ _ | assumption | refine Below.drew ?_ | refine below_drewN ?_ _ | refine Below.alloc ?_ (by simp <;> omega) _ | refine Below.setCell ?_ (by simp <;> omega) _ | (apply bl_trans; assumption; (simp <;> omega))))
  have hy : V.heap[w.heap.size]? = some (.cells #[.int .u32 (s : Int), .int .u32 (g : Int)] 31 (0, 0)) := by rw [hV]; exact Go.heap_alloc_new w _
  have y0 := cell_blk hy 0 rfl
  have y1 := cell_blk hy 1 rfl
  have d0 := (bV.cell (p := ⟨tb, 0, none⟩) ltb).trans c0
  have HX := Lib.hid bV
  simp at y0 y1
  have hV2 := hV
  clear hV hy bV
  go_enter Tryd.func43, Tryd.ntmps43
  go_wp2_with fail
  rw [← hV2]
  clear hV2 c0
  go_region_with (go_at_call 76; refine (HG.out _ HX.out.drew).mono ?_; rintro e w1 ⟨rfl, b1⟩; have b2 : Below V.heap.size V w1 := (Below.refl _ V).drew.trans b1; have HB := Lib.hid (HX.out.trans (b2.mono HX.out.size)); have m0 := (HB.out.cell (p := ⟨nb, 16, none⟩) lnb).trans n0; clear b1 b2)
  all_goals go_wp2_with fail
  all_goals go_ret2
  all_goals exact ⟨rfl, HB.out⟩
set_option maxHeartbeats 2000000 in
theorem born_dead (h : TreeRw B Q w tb X Lf) {s g : Nat} (hs : s ≤ 4294967295) (hg : g ≤ 4294967295) (hn : NoH X.F s g) :
    Calls Tryd.prog 43 #[.pointer (some ⟨tb, 0, none⟩), .agg #[.int .u32 (s : Int), .int .u32 (g : Int)]] w fun e w' => e = .returned (.tuple #[.int .u64 0, .int .i64 51]) ∧ Below w.heap.size w w' := by
  have HG : Hid (∀ W, Below w.heap.size w W → Calls Tryd.prog 76 #[.pointer (some ⟨X.ab, 0, none⟩), .agg #[.int .u32 (s : Int), .int .u32 (g : Int)]] W fun e w' => e = .returned (.tuple #[.pointer none, .int .i64 51]) ∧ Below W.heap.size W w') :=
    Lib.hid (fun W b => (h.below b).get_dead hs hg hn)
  have c0 := cell_blk h.blk 0 rfl
  have ltb := lt_of_some h.blk
  simp at c0
  clear h hs hg hn
  obtain ⟨V, hV⟩ : ∃ V, V = w.alloc (.cells #[.int .u32 (s : Int), .int .u32 (g : Int)] 31) := ⟨_, rfl⟩
  have bV : Below w.heap.size w V := by rw [hV]; exact (by repeat (first | exact Below.refl _ _ | assumption | refine Below.drew ?_ | refine below_drewN ?_ _ | refine Below.alloc ?_ (by simp <;> omega) _ | refine Below.setCell ?_ (by simp <;> omega) _ | (apply bl_trans; assumption; (simp <;> omega))))
  have hy : V.heap[w.heap.size]? = some (.cells #[.int .u32 (s : Int), .int .u32 (g : Int)] 31 (0, 0)) := by rw [hV]; exact Go.heap_alloc_new w _
  have y0 := cell_blk hy 0 rfl
  have y1 := cell_blk hy 1 rfl
  have d0 := (bV.cell (p := ⟨tb, 0, none⟩) ltb).trans c0
  have HX := Lib.hid bV
  simp at y0 y1
  have hV2 := hV
  clear hV hy bV
  go_enter Tryd.func43, Tryd.ntmps43
  go_wp2_with fail
  rw [← hV2]
  clear hV2 c0
  go_region_with (go_at_call 76; refine (HG.out _ HX.out.drew).mono ?_; rintro e w1 ⟨rfl, b1⟩; have b2 : Below V.heap.size V w1 := (Below.refl _ V).drew.trans b1; have HB := Lib.hid (HX.out.trans (b2.mono HX.out.size)); clear b1 b2)
  all_goals go_wp2_with fail
  all_goals go_ret2
  all_goals exact ⟨rfl, HB.out⟩
set_option maxHeartbeats 4000000 in
theorem node_live (h : TreeRw B Q w tb X Lf) {k : Nat} {x : FN} (hx : X.F[k]? = some x) (hl : x.live = true) {nb : Nat} {P : Nd} (hm : X.M[k]? = some (nb, P)) (hB : P.Bd 1099511627776) :
    Calls Tryd.prog 45 #[.pointer (some ⟨tb, 0, none⟩), .agg #[.int .u32 (x.sl : Int), .int .u32 (x.gn : Int)]] w fun e w' => ∃ M : Nd, e = .returned (.tuple #[M.v, .int .i64 0]) ∧ M.Same P ∧ Fresh w.heap.size w' M ∧ Below w.heap.size w w' := by
  obtain ⟨a1, a2, hnode, hfr⟩ := h.node k x nb P hx hl hm
  have HG : Hid (∀ W, Below w.heap.size w W → Calls Tryd.prog 76 #[.pointer (some ⟨X.ab, 0, none⟩), .agg #[.int .u32 (x.sl : Int), .int .u32 (x.gn : Int)]] W fun e w' => e = .returned (.tuple #[.pointer (some ⟨nb, 0, none⟩), .int .i64 0]) ∧ Below W.heap.size W w') :=
    Lib.hid (fun W b => (h.below b).get_live hx hl hm)
  have HCL : Hid (∀ W, Below w.heap.size w W → Calls Tryd.prog 69 #[P.v] W fun e w' => ∃ M : Nd, e = .returned M.v ∧ M.Same P ∧ Fresh W.heap.size w' M ∧ Below W.heap.size W w') := Lib.hid (fun W bb => clone_calls W P (hfr.nd.below bb) hB)
  have c0 := cell_blk h.blk 0 rfl
  have ltb := lt_of_some h.blk
  have lnb := lt_of_some hnode
  have HND := Lib.hid hnode
  simp at c0
  obtain ⟨s, hs⟩ : ∃ s, s = x.sl := ⟨_, rfl⟩
  obtain ⟨g, hg⟩ : ∃ g, g = x.gn := ⟨_, rfl⟩
  rw [← hs, ← hg] at HG ⊢
  unfold Nd.v Nd.cells at HCL
  obtain ⟨m, em⟩ : ∃ m, m = P.data.length := ⟨_, rfl⟩
  obtain ⟨n, en⟩ : ∃ n, n = P.L.length := ⟨_, rfl⟩
  have n0 : w.cell? ⟨nb, 0, none⟩ = some (.int .i64 P.kind) := cell_blk hnode 0 rfl
  have n1 : w.cell? ⟨nb, 1, none⟩ = some (.string P.name) := cell_blk hnode 1 rfl
  have n2 : w.cell? ⟨nb, 2, none⟩ = some (.slice P.da m P.dc) := by rw [em]; exact cell_blk hnode 2 rfl
  have n3 : w.cell? ⟨nb, 3, none⟩ = some (.slice P.aa n P.ac) := by rw [en]; exact cell_blk hnode 3 rfl
  have n4 : w.cell? ⟨nb, 4, none⟩ = some (.int .u32 P.slot) := cell_blk hnode 4 rfl
  have n5 : w.cell? ⟨nb, 5, none⟩ = some (.int .u32 P.gen) := cell_blk hnode 5 rfl
  rw [← em, ← en] at HCL
  have HSM : Hid (∀ (W : World), Below w.heap.size w W → W.cell? ⟨nb, 0, none⟩ = some (.int .i64 P.kind) ∧ W.cell? ⟨nb, 1, none⟩ = some (.string P.name) ∧ W.cell? ⟨nb, 2, none⟩ = some (.slice P.da m P.dc) ∧ W.cell? ⟨nb, 3, none⟩ = some (.slice P.aa n P.ac) ∧ W.cell? ⟨nb, 4, none⟩ = some (.int .u32 P.slot) ∧ W.cell? ⟨nb, 5, none⟩ = some (.int .u32 P.gen)) := Lib.hid (fun W b =>
    ⟨(b.cell (p := ⟨nb, 0, none⟩) lnb).trans n0, (b.cell (p := ⟨nb, 1, none⟩) lnb).trans n1, (b.cell (p := ⟨nb, 2, none⟩) lnb).trans n2, (b.cell (p := ⟨nb, 3, none⟩) lnb).trans n3, (b.cell (p := ⟨nb, 4, none⟩) lnb).trans n4, (b.cell (p := ⟨nb, 5, none⟩) lnb).trans n5⟩)
  obtain ⟨V, hV⟩ : ∃ V, V = (w.alloc (.cells #[.int .u32 (s : Int), .int .u32 (g : Int)] 31)).alloc (.cells #[.int .i64 0, .string ⟨#[]⟩, .slice none 0 0, .slice none 0 0, .int .u32 0, .int .u32 0] 66) := ⟨_, rfl⟩
  have bV : Below w.heap.size w V := by rw [hV]; exact (by repeat (first | exact Below.refl _ _ | assumption | refine Below.drew ?_ | refine below_drewN ?_ _ | refine Below.alloc ?_ (by simp <;> omega) _ | refine Below.setCell ?_ (by simp <;> omega) _ | (apply bl_trans; assumption; (simp <;> omega))))
  have hy : V.heap[w.heap.size]? = some (.cells #[.int .u32 (s : Int), .int .u32 (g : Int)] 31 (0, 0)) := by rw [hV]; exact alloc_blk (Go.heap_alloc_new w _) _
  have hx2 : V.heap[w.heap.size + 1]? = some (.cells #[.int .i64 0, .string ⟨#[]⟩, .slice none 0 0, .slice none 0 0, .int .u32 0, .int .u32 0] 66 (0, 0)) := by rw [hV]; exact alloc2_blk w _ _
  have y0 := cell_blk hy 0 rfl
  have y1 := cell_blk hy 1 rfl
  have d0 := (bV.cell (p := ⟨tb, 0, none⟩) ltb).trans c0
  have HX := Lib.hid (And.intro bV hx2)
  simp at y0 y1
  have hV2 := hV
  clear hV hy bV hx2 h hx hl hm hnode hfr hB hs hg em en n0 n1 n2 n3 n4 n5 a1 a2
  go_enter Tryd.func45, Tryd.ntmps45
  go_wp2_with fail
  rw [← hV2]
  clear hV2 c0
  go_region_with (go_at_call 76; refine (HG.out _ HX.out.1.drew).mono ?_; rintro e w1 ⟨rfl, b1⟩; have b2 : Below V.heap.size V w1 := (Below.refl _ V).drew.trans b1; have HB := Lib.hid (And.intro (HX.out.1.trans (b2.mono HX.out.1.size)) ((b2.block _ (lt_of_some HX.out.2)).trans HX.out.2)); obtain ⟨m0, m1, m2, m3, m4, m5⟩ := HSM.out w1 HB.out.1; clear b1 b2)
  all_goals go_wp2_with fail
  all_goals refine (HCL.out _ HB.out.1).mono ?_
  all_goals rintro e w2 ⟨M, rfl, hM, hF, b2⟩
  all_goals have hx3 := (b2.block _ (lt_of_some HB.out.2)).trans HB.out.2
  all_goals have HF := Lib.hid (And.intro hM (And.intro (hF.mono HB.out.1.size) (And.intro (HB.out.1.trans (b2.mono HB.out.1.size)) hx3)))
  all_goals have x0 := cell_blk hx3 0 rfl
  all_goals have x1 := cell_blk hx3 1 rfl
  all_goals have x2 := cell_blk hx3 2 rfl
  all_goals have x3 := cell_blk hx3 3 rfl
  all_goals have x4 := cell_blk hx3 4 rfl
  all_goals have x5 := cell_blk hx3 5 rfl
  all_goals have f0 := free_blk hx3 0
  all_goals have f1 := free_blk hx3 1
  all_goals have f2 := free_blk hx3 2
  all_goals have f3 := free_blk hx3 3
  all_goals have f4 := free_blk hx3 4
  all_goals have f5 := free_blk hx3 5
  all_goals simp at x0 x1 x2 x3 x4 x5
  all_goals clear hM hF b2 hx3
  all_goals obtain ⟨m2', em2⟩ : ∃ m, m = M.data.length := ⟨_, rfl⟩
  all_goals obtain ⟨n2', en2⟩ : ∃ m, m = M.L.length := ⟨_, rfl⟩
  all_goals rw [← em2, ← en2]
  all_goals have HEM := Lib.hid (And.intro em2 en2)
  all_goals clear em2 en2
  all_goals go_wp2_with fail
  all_goals have s6 := six_cells HF.out.2.2.2 (.int .i64 M.kind) (.string M.name) (.slice M.da m2' M.dc) (.slice M.aa n2' M.ac) (.int .u32 M.slot) (.int .u32 M.gen)
  all_goals have z0 := cell_blk s6.1 0 rfl
  all_goals have z1 := cell_blk s6.1 1 rfl
  all_goals have z2 := cell_blk s6.1 2 rfl
  all_goals have z3 := cell_blk s6.1 3 rfl
  all_goals have z4 := cell_blk s6.1 4 rfl
  all_goals have z5 := cell_blk s6.1 5 rfl
  all_goals simp at z0 z1 z2 z3 z4 z5
  all_goals refine bodyPost_ret (v := .tuple #[.agg #[.int .i64 M.kind, .string M.name, .slice M.da m2' M.dc, .slice M.aa n2' M.ac, .int .u32 M.slot, .int .u32 M.gen], .int .i64 0]) (by simp [results, Tryd.results45, go_sem, z0, z1, z2, z3, z4, z5]) rfl ⟨M, ?_, HF.out.1, ?_, ?_⟩
  all_goals first | exact HF.out.2.1.frt s6.2 | exact HF.out.2.2.1.trans ((s6.2.below (by have := lt_of_some HF.out.2.2.2; omega)).mono (by omega)) | (rw [HEM.out.1, HEM.out.2]; rfl)
end
def Lv (F : For) (s g : Nat) : Prop := ∃ (k : Nat) (x : FN), F[k]? = some x ∧ x.live = true ∧ x.sl = s ∧ x.gn = g
theorem lv_no {F : For} {s g : Nat} (h : ¬ Lv F s g) : NoH F s g := fun k x a b c d => h ⟨k, x, a, b, c, d⟩
structure HRow (w : World) (gb : Nat) (L : List (Nat × Nat)) : Prop where
  at_ : ∀ j p, L[j]? = some p → w.cell? ⟨gb, j * 2, none⟩ = some (.int .u32 (p.1 : Int)) ∧ w.cell? ⟨gb, j * 2 + 1, none⟩ = some (.int .u32 (p.2 : Int))
  bd : ∀ p ∈ L, p.1 ≤ 4294967295 ∧ p.2 ≤ 4294967295
theorem HRow.below {w w' : World} {gb : Nat} {L : List (Nat × Nat)} (h : HRow w gb L) (b : Below w.heap.size w w') : HRow w' gb L :=
  ⟨fun j p hp => by
    obtain ⟨h1, h2⟩ := h.at_ j p hp
    exact ⟨(b.cell (p := ⟨gb, j * 2, none⟩) (cell_lt h1)).trans h1, (b.cell (p := ⟨gb, j * 2 + 1, none⟩) (cell_lt h2)).trans h2⟩, h.bd⟩
section
variable {B : Nat} {Q : Nat → Prop} {w w' : World} {tb : Nat} {X : TX} {Lf : Nat → Nat → Nat × Nat}
set_option maxHeartbeats 2000000 in
theorem lives_calls (h : TreeRw B Q w tb X Lf) {L : List (Nat × Nat)} {gb cap : Nat} (hL : HRow w gb L) (hn : L.length ≤ 1000) {r : Int} (hr : (r = 0 ∧ ∀ p ∈ L, Lv X.F p.1 p.2) ∨ (r = 51 ∧ ∃ p ∈ L, ¬ Lv X.F p.1 p.2)) :
    Calls Tryd.prog 40 #[.pointer (some ⟨tb, 0, none⟩), .slice (some ⟨gb, 0, none⟩) L.length cap] w fun e w' => e = .returned (.int .i64 r) ∧ Below w.heap.size w w' := by
  have HT := Lib.hid h
  have HL := Lib.hid hL
  have HR := Lib.hid hr
  obtain ⟨n, hnn⟩ : ∃ n, n = L.length := ⟨_, rfl⟩
  rw [← hnn] at hn ⊢
  have HN := Lib.hid hnn
  clear h hL hr hnn
  go_enter Tryd.func40, Tryd.ntmps40
  go_wp2_with fail
  go_loopg [13] n (fun m v wr => ∃ (j : Nat), v = .int .i64 (j : Int) ∧ Hid (j + m = n ∧ Below w.heap.size w wr ∧ ∀ i p, i < j → L[i]? = some p → Lv X.F p.1 p.2))
  case atStart => exact ⟨0, rfl, Lib.hid ⟨by omega, Below.refl _ _, fun i p hi => by omega⟩⟩
  case round =>
    obtain ⟨j, rfl, hw⟩ := hrel
    have hsum := hw.out.1
    have hs1 := hw.out.2.1.size
    have HAL : Hid (∀ o, Below w.heap.size w (wr.alloc o)) := Lib.hid (fun o => hw.out.2.1.alloc hs1 o)
    by_cases hj : j < n
    · obtain ⟨⟨s, g⟩, hp⟩ : ∃ p, L[j]? = some p := ⟨_, List.getElem?_eq_getElem (by have := HN.out; omega)⟩
      obtain ⟨y0, y1⟩ := (HL.out.below hw.out.2.1).at_ j _ hp
      obtain ⟨hs, hg⟩ := HL.out.bd _ (List.mem_of_getElem? hp)
      have l0 := cell_lt y0
      have ql : decide ((j : Int) < (n : Int)) = true := by simp; omega
      have wk : IntKind.i64.wrap ((j : Int) + 1) = (j : Int) + 1 := IntWalk.i64_in _ (by omega)
      simp only at y0 y1 hs hg l0
      have HP := Lib.hid hp
      by_cases hl : Lv X.F s g
      · obtain ⟨k, x, hx, hxl, hxs, hxg⟩ := hl
        have HB : Hid (∀ W, Below w.heap.size w W → Calls Tryd.prog 43 #[.pointer (some ⟨tb, 0, none⟩), .agg #[.int .u32 (s : Int), .int .u32 (g : Int)]] W fun e w' => e = .returned (.tuple #[.int .u64 ((k + 1 : Nat) : Int), .int .i64 0]) ∧ Below W.heap.size W w') := Lib.hid (fun W b => by
          have := born_live (HT.out.below b) hx hxl
          rw [hxs, hxg] at this
          exact this)
        have HLV : Hid (Lv X.F s g) := Lib.hid ⟨k, x, hx, hxl, hxs, hxg⟩
        clear hx hxl hxs hxg hp
        go_wp2_with (go_at_call 43; refine (HB.out _ (HAL.out _)).mono ?_; rintro e w1 ⟨rfl, b1⟩; have HB1 := Lib.hid ((HAL.out _).trans (b1.mono (HAL.out _).size)); clear b1)
        go_roundg (gk - 1)
        case measure => omega
        case rel => exact ⟨j + 1, by go_num, Lib.hid ⟨by omega, HB1.out, fun i p hi hp => by
          by_cases e : i = j
          · subst e; rw [HP.out] at hp; cases hp; exact HLV.out
          · exact hw.out.2.2 i p (by omega) hp⟩⟩
      · have hno := lv_no hl
        have HB : Hid (∀ W, Below w.heap.size w W → Calls Tryd.prog 43 #[.pointer (some ⟨tb, 0, none⟩), .agg #[.int .u32 (s : Int), .int .u32 (g : Int)]] W fun e w' => e = .returned (.tuple #[.int .u64 0, .int .i64 51]) ∧ Below W.heap.size W w') := Lib.hid (fun W b => born_dead (HT.out.below b) hs hg hno)
        have HRES : Hid (r = 51) := Lib.hid (by
          rcases HR.out with ⟨_, ha⟩ | ⟨e, _⟩
          · exact absurd (ha _ (List.mem_of_getElem? hp)) hl
          · exact e)
        clear hl hno hp
        go_wp2_with (go_at_call 43; refine (HB.out _ (HAL.out _)).mono ?_; rintro e w1 ⟨rfl, b1⟩; have HB1 := Lib.hid ((HAL.out _).trans (b1.mono (HAL.out _).size)); clear b1)
        try rw [Exit.noGoto_ret]
        go_ret
        exact ⟨by rw [HRES.out]; rfl, HB1.out⟩
    · have ql : decide ((j : Int) < (n : Int)) = false := by simp; omega
      have HRES : Hid (r = 0) := Lib.hid (by
        rcases HR.out with ⟨e, _⟩ | ⟨_, p, hp, hl⟩
        · exact e
        · obtain ⟨i, hi, e⟩ := List.mem_iff_getElem.1 hp
          refine absurd (hw.out.2.2 i p (by have := HN.out; omega) ?_) hl
          rw [List.getElem?_eq_getElem hi, e])
      go_wp2_with fail
      try rw [Exit.noGoto_ret]
      go_ret
      exact ⟨by rw [HRES.out]; rfl, hw.out.2.1⟩
end
structure NoneAt (w : World) : Prop where
  a : w.cell? ⟨0, 0, none⟩ = some (.int .u32 0)
  b : w.cell? ⟨0, 1, none⟩ = some (.int .u32 0)
theorem NoneAt.below {w w' : World} (h : NoneAt w) (b : Below w.heap.size w w') : NoneAt w' := ⟨(b.cell (p := ⟨0, 0, none⟩) (cell_lt h.a)).trans h.a, (b.cell (p := ⟨0, 1, none⟩) (cell_lt h.b)).trans h.b⟩
theorem NoneAt.lt {w : World} (h : NoneAt w) : 0 < w.heap.size := cell_lt h.a
def hcell (F : For) (k : Nat) : List Value := [.int .u32 ((hd F (some k)).1 : Int), .int .u32 ((hd F (some k)).2 : Int)]
def hcells (F : For) (l : List Nat) : List Value := l.flatMap (hcell F)
theorem hcells_app (F : For) (a b : List Nat) : hcells F (a ++ b) = hcells F a ++ hcells F b := by simp [hcells]
theorem hcells_at {F : For} {l : List Nat} {j k : Nat} (h : l[j]? = some k) : (hcells F l)[j * 2]? = some (.int .u32 ((hd F (some k)).1 : Int)) ∧ (hcells F l)[j * 2 + 1]? = some (.int .u32 ((hd F (some k)).2 : Int)) := by
  induction l generalizing j with
  | nil => simp at h
  | cons y l ih =>
    have e : hcells F (y :: l) = .int .u32 ((hd F (some y)).1 : Int) :: .int .u32 ((hd F (some y)).2 : Int) :: hcells F l := rfl
    cases j with
    | zero =>
      obtain rfl : y = k := by simpa using h
      rw [e]
      exact ⟨rfl, rfl⟩
    | succ i =>
      have h2 : l[i]? = some k := by simpa using h
      have h3 := ih h2
      rw [e, show (i + 1) * 2 = i * 2 + 1 + 1 by omega, show i * 2 + 1 + 1 + 1 = (i * 2 + 1) + 1 + 1 by omega]
      simpa using h3
structure AbR (F : For) (w : World) (l : List Nat) (n : Nat) (W : World) (cur : Option Nat) (rest pre : List Nat) (v : Value) : Prop where
  low : Below w.heap.size w W
  len : rest.length = n
  on : Rest F cur rest
  all : l = pre ++ rest
  live : ∀ k, cur = some k → ∃ x : FN, F[k]? = some x ∧ x.live = true
  row : W.ownsRow (w.heap.size + 1) 31 2 v pre.length (hcells F pre)
section
variable {B : Nat} {Q : Nat → Prop} {w w' : World} {tb : Nat} {X : TX}
set_option maxHeartbeats 4000000 in
theorem above_calls (h : TreeAt B Q w tb X) (hz : NoneAt w) {k : Nat} {x : FN} (hx : X.F[k]? = some x) (hxl : x.live = true) {l : List Nat} (hc : Chain X.F k l) :
    Calls Tryd.prog 41 #[.pointer (some ⟨tb, 0, none⟩), .agg #[.int .u32 (x.sl : Int), .int .u32 (x.gn : Int)]] w fun e w' => ∃ v, e = .returned v ∧ w'.ownsRow w.heap.size 31 2 v l.length (hcells X.F l) ∧ Below w.heap.size w w' := by
  have HT := Lib.hid h
  have HZ := Lib.hid hz
  have hz0' := hz.lt
  have ok := Lib.hid h.fok
  have hbig := h.rw.big
  have hll := hc.len
  have hu0 : hd X.F (some k) = (x.sl, x.gn) := hd_some hx
  obtain ⟨s, hs⟩ : ∃ s, s = x.sl := ⟨_, rfl⟩
  obtain ⟨g, hg⟩ : ∃ g, g = x.gn := ⟨_, rfl⟩
  rw [← hs, ← hg]
  rw [← hs, ← hg] at hu0
  obtain ⟨i0, hi0, hz0, hz1, hz2⟩ := info_parts infoH
  obtain ⟨V, hV⟩ : ∃ V, V = w.alloc (.cells #[.int .u32 (s : Int), .int .u32 (g : Int)] 31) := ⟨_, rfl⟩
  have bV : Below w.heap.size w V := by rw [hV]; exact (by repeat (first | exact Below.refl _ _ | assumption | refine Below.drew ?_ | refine below_drewN ?_ _ | refine Below.alloc ?_ (by simp <;> omega) _ | refine Below.setCell ?_ (by simp <;> omega) _ | (apply bl_trans; assumption; (simp <;> omega))))
  have hxx : V.heap[w.heap.size]? = some (.cells #[.int .u32 (s : Int), .int .u32 (g : Int)] 31 (0, 0)) := by rw [hV]; exact Go.heap_alloc_new w _
  have H0 : Hid (AbR X.F w l l.length V (some k) l [] (.slice none 0 0) ∧ hd X.F (some k) = (s, g)) := Lib.hid ⟨⟨bV, rfl, hc, rfl, fun k' hk => by cases hk; exact ⟨_, hx, hxl⟩, World.ownsRow_nil _ _ _ _⟩, hu0⟩
  have HX := Lib.hid hxx
  obtain ⟨n, hn⟩ : ∃ n, n = l.length := ⟨_, rfl⟩
  have HN := Lib.hid hn
  rw [← hn] at hll
  have hV2 := hV
  clear hV hxx bV h hx hxl hu0 hs hg hc hz hn
  go_enter Tryd.func41, Tryd.ntmps41
  go_wp2_with fail
  rw [← hV2]
  clear hV2
  go_loopg [5] n (fun n' v wr => ∃ (cur : Option Nat) (rest pre : List Nat), Hid (AbR X.F w l n' wr cur rest pre v) ∧ wr.heap[w.heap.size]? = some (.cells #[.int .u32 ((hd X.F cur).1 : Int), .int .u32 ((hd X.F cur).2 : Int)] 31 (0, 0)))
  case atStart => exact ⟨some k, l, [], Lib.hid (by rw [HN.out]; exact H0.out.1), by rw [H0.out.2]; exact HX.out⟩
  case round =>
    obtain ⟨cur, rest, pre, hw, hxx⟩ := hrel
    have x0 := cell_blk hxx 0 rfl
    have x1 := cell_blk hxx 1 rfl
    have HY := Lib.hid hxx
    simp at x0 x1
    have n0 := (HZ.out.below hw.out.low).a
    have n1 := (HZ.out.below hw.out.low).b
    clear hxx
    cases cur with
    | none =>
      rw [hd_none] at x0 x1
      simp at x0 x1
      have q0 : hEq 0 0 0 0 = true := hEq_true rfl rfl
      have HEND : Hid (pre = l) := Lib.hid (by
        have h2 : rest = [] := hw.out.on
        rw [hw.out.all, h2]; simp)
      go_wp2_with fail
      try rw [Exit.noGoto_ret]
      go_ret
      exact ⟨_, rfl, by rw [← HEND.out]; exact hw.out.row.mono (Nat.le_succ _), hw.out.low⟩
    | some c =>
      obtain ⟨xk, hk, hkl⟩ := hw.out.live c rfl
      have e := hd_some hk
      rw [e] at x0 x1
      obtain ⟨nb, P, hm, hat, hsl, hs2, hg2⟩ := HT.out.rw.at_live hk hkl
      have q0 : hEq (xk.sl : Int) (xk.gn : Int) 0 0 = false := hEq_false (.inl (by omega))
      have HF : Hid (∀ W, Below w.heap.size w W → Calls Tryd.prog 54 #[.pointer (some ⟨tb, 0, none⟩), .agg #[.int .u32 (xk.sl : Int), .int .u32 (xk.gn : Int)]] W fun e w' =>
          e = .returned (.tuple #[.agg #[.int .u32 ((hd X.F (upOf X.F c)).1 : Int), .int .u32 ((hd X.F (upOf X.F c)).2 : Int)], .int .i64 0]) ∧ Below W.heap.size W w') := Lib.hid (fun W b => parent_live (HT.out.rw.below b) hk hkl)
      obtain ⟨rt, e1, e2⟩ := hw.out.on.next
      have hlen : pre.length + rest.length = n := by rw [HN.out, hw.out.all]; simp
      have hgk := hw.out.len
      have hrl : rest.length = rt.length + 1 := by rw [e1]; rfl
      have HM : Hid (rt.length < gk) := Lib.hid (by omega)
      have HC : Hid (hcells X.F (pre ++ [c]) = hcells X.F pre ++ [.int .u32 (xk.sl : Int), .int .u32 (xk.gn : Int)]) := Lib.hid (by
        rw [hcells_app]
        have : hcells X.F [c] = [.int .u32 (xk.sl : Int), .int .u32 (xk.gn : Int)] := by
          show hcell X.F c ++ [] = _
          unfold hcell
          rw [e]; rfl
        rw [this])
      have HNX : Hid (∀ W v, Below w.heap.size w W → W.ownsRow (w.heap.size + 1) 31 2 v (pre.length + 1) (hcells X.F (pre ++ [c])) → AbR X.F w l rt.length W (upOf X.F c) rt (pre ++ [c]) v) := Lib.hid (fun W v b hrow => ⟨b, rfl, e2, by rw [hw.out.all, e1]; simp, fun k' hk' => ok.out.up_live hk', by simpa using hrow⟩)
      have HL := Lib.hid hw.out.low
      have hs1 := hw.out.low.size
      have hs1b : w.heap.size + 1 ≤ wr.heap.size := lt_of_some HY.out
      have hs1a : ∀ o, w.heap.size + 1 ≤ (wr.alloc o).heap.size := fun o => Nat.le_trans hs1b ((Below.refl wr.heap.size wr).alloc (Nat.le_refl _) o).size
      have hrow := hw.out.row
      have lx := lt_of_some HY.out
      generalize hpl : pre.length = pl at *
      have hm1 : pl + 1 ≤ maxLen := by unfold maxLen; omega
      have hm2 : (pl + 1) * 8 ≤ 140737488355328 := by omega
      have HE := Lib.hid e
      clear hk hkl e hm hat hsl hs2 hg2 e1 e2 hw hpl hlen hrl
      go_wp2_with (first | (at_builtin; (refine wpList_append_lies _ rfl (.tmp 9) (.tmp 11) 70 rfl (w.heap.size + 1) 31 i0 _ 2 8 Tryd.underlying70 hi0 hz0 hz1 hz2 rfl (by omega) _ pl _ rfl (hrow.alloc _) ⟨wr.heap.size, 0, none⟩ 1 1 [.int .u32 (xk.sl : Int), .int .u32 (xk.gn : Int)] rfl rfl (World.news_of_block (cs := #[.int .u32 (xk.sl : Int), .int .u32 (xk.gn : Int)]) (t := 31) (fr := (0, 0)) (Go.heap_alloc_new wr _)) (by simp [Value.oneCell']) (by omega) hm1 hm2 (hs1a _) (wr.heap.size + 1) (by simp) ?_; intro g2 c2 w2 hown2 hg2 hat2 hlt2; have hb2 : Below w.heap.size w w2 := (HL.out.alloc hs1 _).trans (grown_below hg2 (fun x e => Nat.le_trans (Nat.le_succ _) (hrow.lt x e).1) (Nat.le_trans (Nat.le_succ _) (hs1a _))); have hx2 := (hg2.block _ (Nat.lt_of_lt_of_le lx ((Below.refl wr.heap.size wr).alloc (Nat.le_refl _) _).size) (fun e => by have := (hrow.lt _ e.symm).1; omega)).trans (alloc_blk HY.out _); have y0 := cell_blk hx2 0 rfl; have y1 := cell_blk hx2 1 rfl; rw [HE.out] at y0 y1; simp at y0 y1; have HX2 := Lib.hid hx2; have HB2 := Lib.hid hb2; have HOWN := Lib.hid (HC.out.symm ▸ hown2); clear hat2 hlt2 hx2 hb2 hown2)) | (go_at_call 54; refine (HF.out _ HB2.out).mono ?_; rintro e w3 ⟨rfl, b3⟩; have hx3 := (b3.block _ (lt_of_some HX2.out)).trans HX2.out; have z0 := cell_blk hx3 0 rfl; have z1 := cell_blk hx3 1 rfl; have f0 := free_blk hx3 0; have f1 := free_blk hx3 1; have HX3 := Lib.hid hx3; have HB3 := Lib.hid (HB2.out.trans (b3.mono HB2.out.size)); have HO3 := Lib.hid (row_below HOWN.out b3); clear b3 hx3))
      go_roundg rt.length
      case measure => exact HM.out
      case rel =>
        have hf : ∀ u v, FrG [31] (fun b => b = w.heap.size) w3 ((w3.setCell ⟨w.heap.size, 0, none⟩ u).setCell ⟨w.heap.size, 1, none⟩ v) := fun u v => FrG.set (Q := fun b => b = w.heap.size) (FrG.set (Q := fun b => b = w.heap.size) (FrG.refl _ _ _) (a := ⟨w.heap.size, 0, none⟩) (.inl rfl) HX3.out (List.mem_singleton.2 rfl) u) (a := ⟨w.heap.size, 1, none⟩) (.inl rfl) (set_blk HX3.out 0 u) (List.mem_singleton.2 rfl) v
        exact ⟨upOf X.F c, rt, pre ++ [c], Lib.hid (HNX.out _ _ ((HB3.out.setCell (Nat.le_refl _) _).setCell (Nat.le_refl _) _) ((hf _ _).rowQ HO3.out (fun b hb e => by have := (HO3.out.lt b hb).1; omega))), set_blk (set_blk HX3.out 0 _) 1 _⟩
end
structure HsR (F : For) (w : World) (a : Nat) (c : List Nat) (n : Nat) (W : World) (cur : Option Nat) (rest : List Nat) : Prop where
  low : Below w.heap.size w W
  len : rest.length = n
  on : Rest F cur rest
  mem : a ∈ c ↔ a ∈ rest.tail
  live : ∀ k, cur = some k → ∃ x : FN, F[k]? = some x ∧ x.live = true
section
variable {B : Nat} {Q : Nat → Prop} {w w' : World} {tb : Nat} {X : TX}
set_option maxHeartbeats 4000000 in
theorem hasT_calls (h : TreeAt B Q w tb X) (hz : NoneAt w) {ka kb : Nat} {xa xb : FN} (ha : X.F[ka]? = some xa) (hal : xa.live = true) (hb : X.F[kb]? = some xb) (hbl : xb.live = true) {c : List Nat} (hc : Chain X.F kb (kb :: c)) :
    Calls Tryd.prog 44 #[.pointer (some ⟨tb, 0, none⟩), .agg #[.int .u32 (xa.sl : Int), .int .u32 (xa.gn : Int)], .agg #[.int .u32 (xb.sl : Int), .int .u32 (xb.gn : Int)]] w fun e w' => e = .returned (.bool (decide (ka ∈ c))) ∧ Below w.heap.size w w' := by
  have HT := Lib.hid h
  have HZ := Lib.hid hz
  have ok := Lib.hid h.fok
  have HA := Lib.hid (And.intro ha hal)
  have hu0 : hd X.F (some kb) = (xb.sl, xb.gn) := hd_some hb
  obtain ⟨nba, Pa, hma, hata, hsla, hs2a, hg2a⟩ := h.rw.at_live ha hal
  obtain ⟨s, hs⟩ : ∃ s, s = xb.sl := ⟨_, rfl⟩
  obtain ⟨g, hg⟩ : ∃ g, g = xb.gn := ⟨_, rfl⟩
  obtain ⟨s1, hs1⟩ : ∃ s, s = xa.sl := ⟨_, rfl⟩
  obtain ⟨g1, hg1⟩ : ∃ g, g = xa.gn := ⟨_, rfl⟩
  obtain ⟨r, hr⟩ : ∃ r, r = decide (ka ∈ c) := ⟨_, rfl⟩
  rw [← hs, ← hg, ← hs1, ← hg1, ← hr]
  rw [← hs1] at hsla
  have HS := Lib.hid (And.intro hs1 (And.intro hg1 hr))
  obtain ⟨V, hV⟩ : ∃ V, V = (w.alloc (.cells #[.int .u32 (s1 : Int), .int .u32 (g1 : Int)] 31)).alloc (.cells #[.int .u32 (s : Int), .int .u32 (g : Int)] 31) := ⟨_, rfl⟩
  have bV : Below w.heap.size w V := by rw [hV]; exact (by repeat (first | exact Below.refl _ _ | assumption | refine Below.drew ?_ | refine below_drewN ?_ _ | refine Below.alloc ?_ (by simp <;> omega) _ | refine Below.setCell ?_ (by simp <;> omega) _ | (apply bl_trans; assumption; (simp <;> omega))))
  have hx : V.heap[w.heap.size + 1]? = some (.cells #[.int .u32 (s : Int), .int .u32 (g : Int)] 31 (0, 0)) := by rw [hV]; exact alloc2_blk w _ _
  have hy : V.heap[w.heap.size]? = some (.cells #[.int .u32 (s1 : Int), .int .u32 (g1 : Int)] 31 (0, 0)) := by rw [hV]; exact alloc_blk (Go.heap_alloc_new w _) _
  have H0 : Hid (HsR X.F w ka c (kb :: c).length V (some kb) (kb :: c) ∧ hd X.F (some kb) = (s, g)) := Lib.hid ⟨⟨bV, rfl, hc, Iff.rfl, fun k hk => by cases hk; exact ⟨_, hb, hbl⟩⟩, by rw [hs, hg]; exact hu0⟩
  have HX := Lib.hid (And.intro hx hy)
  have hV2 := hV
  clear hV hx hy bV h ha hal hb hbl hu0 hs hg hs1 hg1 hr hc hma hata hs2a hg2a hz
  go_enter Tryd.func44, Tryd.ntmps44
  go_wp2_with fail
  rw [← hV2]
  clear hV2
  go_loopg [6] (kb :: c).length (fun n v wr => v = .bool false ∧ ∃ (cur : Option Nat) (rest : List Nat), Hid (HsR X.F w ka c n wr cur rest) ∧ wr.heap[w.heap.size + 1]? = some (.cells #[.int .u32 ((hd X.F cur).1 : Int), .int .u32 ((hd X.F cur).2 : Int)] 31 (0, 0)) ∧ wr.heap[w.heap.size]? = some (.cells #[.int .u32 (s1 : Int), .int .u32 (g1 : Int)] 31 (0, 0)))
  case atStart => exact ⟨rfl, some kb, kb :: c, Lib.hid H0.out.1, by rw [H0.out.2]; exact HX.out.1, HX.out.2⟩
  case round =>
    obtain ⟨rfl, cur, rest, hw, hx, hy⟩ := hrel
    have y0 := cell_blk hy 0 rfl
    have y1 := cell_blk hy 1 rfl
    have x0 := cell_blk hx 0 rfl
    have x1 := cell_blk hx 1 rfl
    have HY := Lib.hid (And.intro hx hy)
    have n0 := (HZ.out.below hw.out.low).a
    have n1 := (HZ.out.below hw.out.low).b
    simp at x0 x1 y0 y1
    clear hx hy
    cases cur with
    | none =>
      rw [hd_none] at x0 x1
      simp at x0 x1
      have q0 : hEq 0 0 0 0 = true := hEq_true rfl rfl
      have HR : Hid (r = false) := Lib.hid (by
        have h2 : rest = [] := hw.out.on
        rw [HS.out.2.2]
        exact decide_eq_false (fun hm => by have := hw.out.mem.1 hm; rw [h2] at this; cases this))
      go_wp2_with fail
      try rw [Exit.noGoto_ret]
      go_ret
      exact ⟨by rw [HR.out]; rfl, hw.out.low⟩
    | some k =>
      obtain ⟨xk, hk, hkl⟩ := hw.out.live k rfl
      have e := hd_some hk
      rw [e] at x0 x1
      obtain ⟨nb, P, hm, hat, hsl, hs2, hg2⟩ := HT.out.rw.at_live hk hkl
      have q0 : hEq (xk.sl : Int) (xk.gn : Int) 0 0 = false := hEq_false (.inl (by omega))
      obtain ⟨rt, e1, e2⟩ := hw.out.on.next
      have hgk := hw.out.len
      have HM : Hid (rt.length < gk) := Lib.hid (by rw [← hgk, e1]; simp)
      have HF : Hid (∀ W, Below w.heap.size w W → Calls Tryd.prog 54 #[.pointer (some ⟨tb, 0, none⟩), .agg #[.int .u32 (xk.sl : Int), .int .u32 (xk.gn : Int)]] W fun e w' =>
          e = .returned (.tuple #[.agg #[.int .u32 ((hd X.F (upOf X.F k)).1 : Int), .int .u32 ((hd X.F (upOf X.F k)).2 : Int)], .int .i64 0]) ∧ Below W.heap.size W w') := Lib.hid (fun W b => parent_live (HT.out.rw.below b) hk hkl)
      have HL := Lib.hid hw.out.low
      have HMEM : Hid (ka ∈ c ↔ ka ∈ rt) := Lib.hid (by rw [hw.out.mem, e1]; rfl)
      by_cases hka : upOf X.F k = some ka
      · have q1 : hEq ((hd X.F (upOf X.F k)).1 : Int) ((hd X.F (upOf X.F k)).2 : Int) (s1 : Int) (g1 : Int) = true := by
          rw [hka, hd_some HA.out.1]
          exact hEq_true (by rw [HS.out.1]) (by rw [HS.out.2.1])
        have HR : Hid (r = true) := Lib.hid (by
          rw [HS.out.2.2]
          refine decide_eq_true (HMEM.out.2 ?_)
          rw [hka] at e2
          have e2 : Chain X.F ka rt := e2
          obtain ⟨t, ht⟩ := e2.ne_nil
          rw [ht]; simp)
        clear hk hkl e hm hat hsl hs2 hg2 e1 e2 hw hka
        go_wp2_with (go_at_call 54; refine (HF.out _ HL.out).mono ?_; rintro e w3 ⟨rfl, b3⟩; have hx3 := (b3.block _ (lt_of_some HY.out.1)).trans HY.out.1; have hy3 := (b3.block _ (lt_of_some HY.out.2)).trans HY.out.2; have z0 := cell_blk hx3 0 rfl; have z1 := cell_blk hx3 1 rfl; have f0 := free_blk hx3 0; have f1 := free_blk hx3 1; have v0 := cell_blk hy3 0 rfl; have v1 := cell_blk hy3 1 rfl; have HB3 := Lib.hid (HL.out.trans (b3.mono HL.out.size)); clear b3 hx3 hy3)
        try rw [Exit.noGoto_ret]
        go_ret
        exact ⟨by rw [HR.out]; rfl, (HB3.out.setCell (Nat.le_succ _) _).setCell (Nat.le_succ _) _⟩
      · have q1 : hEq ((hd X.F (upOf X.F k)).1 : Int) ((hd X.F (upOf X.F k)).2 : Int) (s1 : Int) (g1 : Int) = false := by
          refine hEq_false ?_
          cases hup : upOf X.F k with
          | none => rw [hd_none]; exact .inl (by simp only; omega)
          | some u =>
            obtain ⟨xu, hxu, hxul⟩ := ok.out.up_live hup
            rw [hd_some hxu]
            refine .inl (fun e => hka ?_)
            rw [hup]
            congr 1
            exact HT.out.rw.hinj hxu HA.out.1 hxul HA.out.2 (by have := HS.out.1; simp only at e; omega)
        have HNX : Hid (∀ W, Below w.heap.size w W → HsR X.F w ka c rt.length W (upOf X.F k) rt) := Lib.hid (fun W b => ⟨b, rfl, e2, by
          rw [HMEM.out]
          cases hup : upOf X.F k with
          | none => rw [hup] at e2; have e2 : rt = [] := e2; rw [e2]; rfl
          | some u =>
            rw [hup] at e2
            have e2 : Chain X.F u rt := e2
            obtain ⟨t, ht⟩ := e2.ne_nil
            rw [ht]
            have : ka ≠ u := fun e => hka (by rw [hup, e])
            simp [this], fun k' hk' => ok.out.up_live hk'⟩)
        clear hk hkl e hm hat hsl hs2 hg2 e1 e2 hw hka
        go_wp2_with (go_at_call 54; refine (HF.out _ HL.out).mono ?_; rintro e w3 ⟨rfl, b3⟩; have hx3 := (b3.block _ (lt_of_some HY.out.1)).trans HY.out.1; have hy3 := (b3.block _ (lt_of_some HY.out.2)).trans HY.out.2; have z0 := cell_blk hx3 0 rfl; have z1 := cell_blk hx3 1 rfl; have f0 := free_blk hx3 0; have f1 := free_blk hx3 1; have v0 := cell_blk hy3 0 rfl; have v1 := cell_blk hy3 1 rfl; have HXY := Lib.hid (And.intro hx3 hy3); have HB3 := Lib.hid (HL.out.trans (b3.mono HL.out.size)); clear b3 hx3 hy3)
        go_roundg rt.length
        case measure => exact HM.out
        case rel => exact ⟨rfl, upOf X.F k, rt, Lib.hid (HNX.out _ ((HB3.out.setCell (Nat.le_succ _) _).setCell (Nat.le_succ _) _)), set_blk (set_blk HXY.out.1 0 _) 1 _, by rw [heap_setCell_other _ _ _ _ (by simp), heap_setCell_other _ _ _ _ (by simp)]; exact HXY.out.2⟩
set_option maxHeartbeats 2000000 in
theorem aheadT_calls (h : TreeAt B Q w tb X) {ka kb : Nat} {xa xb : FN} (ha : X.F[ka]? = some xa) (hal : xa.live = true) (hb : X.F[kb]? = some xb) (hbl : xb.live = true) :
    Calls Tryd.prog 42 #[.pointer (some ⟨tb, 0, none⟩), .agg #[.int .u32 (xa.sl : Int), .int .u32 (xa.gn : Int)], .agg #[.int .u32 (xb.sl : Int), .int .u32 (xb.gn : Int)]] w fun e w' => e = .returned (.bool (decide (idxF X.F ka < idxF X.F kb))) ∧ Below w.heap.size w w' := by
  have HA : Hid (∀ W, Below w.heap.size w W → Calls Tryd.prog 75 #[.pointer (some ⟨tb, 0, none⟩), .agg #[.int .u32 (xa.sl : Int), .int .u32 (xa.gn : Int)]] W fun e w' => e = .returned (.tuple #[.int .i64 (idxF X.F ka : Int), .int .i64 0]) ∧ Below W.heap.size W w') := Lib.hid (fun W b => index_live (h.below b) ha hal)
  have HB : Hid (∀ W, Below w.heap.size w W → Calls Tryd.prog 75 #[.pointer (some ⟨tb, 0, none⟩), .agg #[.int .u32 (xb.sl : Int), .int .u32 (xb.gn : Int)]] W fun e w' => e = .returned (.tuple #[.int .i64 (idxF X.F kb : Int), .int .i64 0]) ∧ Below W.heap.size W w') := Lib.hid (fun W b => index_live (h.below b) hb hbl)
  generalize idxF X.F ka = i at *
  generalize idxF X.F kb = j at *
  generalize xa.sl = s at *
  generalize xa.gn = g at *
  generalize xb.sl = s1 at *
  generalize xb.gn = g1 at *
  obtain ⟨p, hp⟩ : ∃ p, p = decide (i < j) := ⟨_, rfl⟩
  rw [← hp]
  have HPQ := Lib.hid hp
  clear hp h ha hal hb hbl
  obtain ⟨V, hV⟩ : ∃ V, V = (w.alloc (.cells #[.int .u32 (s : Int), .int .u32 (g : Int)] 31)).alloc (.cells #[.int .u32 (s1 : Int), .int .u32 (g1 : Int)] 31) := ⟨_, rfl⟩
  have bV : Below w.heap.size w V := by rw [hV]; exact (by repeat (first | exact Below.refl _ _ | assumption | refine Below.drew ?_ | refine below_drewN ?_ _ | refine Below.alloc ?_ (by simp <;> omega) _ | refine Below.setCell ?_ (by simp <;> omega) _ | (apply bl_trans; assumption; (simp <;> omega))))
  have hx : V.heap[w.heap.size + 1]? = some (.cells #[.int .u32 (s1 : Int), .int .u32 (g1 : Int)] 31 (0, 0)) := by rw [hV]; exact alloc2_blk w _ _
  have hy : V.heap[w.heap.size]? = some (.cells #[.int .u32 (s : Int), .int .u32 (g : Int)] 31 (0, 0)) := by rw [hV]; exact alloc_blk (Go.heap_alloc_new w _) _
  have HX := Lib.hid (And.intro hx (And.intro hy bV))
  have x0 := cell_blk hx 0 rfl
  have x1 := cell_blk hx 1 rfl
  have y0 := cell_blk hy 0 rfl
  have y1 := cell_blk hy 1 rfl
  have hV2 := hV
  clear hV hx hy bV
  go_enter Tryd.func42, Tryd.ntmps42
  go_wp2_with fail
  rw [← hV2]
  clear hV2
  go_wp2_with (first | (have hh := HW1; go_at_call 75; refine (HB.out _ HW1.out).mono ?_; rintro e w2 ⟨rfl, b2⟩; have HW2 := Lib.hid (HW1.out.trans (b2.mono HW1.out.size)); clear b2) | (go_at_call 75; refine (HA.out _ HX.out.2.2).mono ?_; rintro e w1 ⟨rfl, b1⟩; have HW1 := Lib.hid (HX.out.2.2.trans (b1.mono HX.out.2.2.size)); have hx3 := (b1.block _ (lt_of_some HX.out.1)).trans HX.out.1; have z0 := cell_blk hx3 0 rfl; have z1 := cell_blk hx3 1 rfl; clear b1 hx3))
  go_ret
  exact ⟨by rw [HPQ.out]; rfl, HW2.out⟩
end
end Go.Proofs.YtelhnaphkbpakaaDoor
namespace Go.Proofs.YtelhnaphkbpakaaDoor
set_option linter.unusedVariables false
theorem idx_ahead {l : List Nat} {a b : Nat} (ha : a ∈ l) (hb : b ∈ l) (h : l.idxOf a < l.idxOf b) : Ahead l a b := by
  obtain ⟨x, y, e, hn⟩ : ∃ x y, l = x ++ a :: y ∧ a ∉ x := by
    have hl := List.idxOf_lt_length_of_mem ha
    refine ⟨l.take (l.idxOf a), l.drop (l.idxOf a + 1), ?_, ?_⟩
    · have h1 : l[l.idxOf a] = a := List.getElem_idxOf hl
      conv => lhs; rw [← List.take_append_drop (l.idxOf a) l, List.drop_eq_getElem_cons hl, h1]
    · intro hm
      obtain ⟨j, hj, e⟩ := List.mem_iff_getElem.1 hm
      rw [List.getElem_take] at e
      have hj2 : j < l.idxOf a := by rw [List.length_take] at hj; omega
      have := List.not_of_lt_findIdx (p := fun x => x == a) (xs := l) (i := j) (by simpa [List.idxOf] using hj2)
      simp at this
      exact this e
  subst e
  have h1 : (x ++ a :: y).idxOf a = x.length := idx_split hn
  rw [h1] at h
  have hbx : b ∉ x := by
    intro hm
    have : (x ++ a :: y).idxOf b = x.idxOf b := by rw [List.idxOf_append, if_pos hm]
    rw [this] at h
    have := List.idxOf_lt_length_of_mem hm
    omega
  have hby : b ∈ y := by
    rcases List.mem_append.1 hb with hb | hb
    · exact absurd hb hbx
    · rcases List.mem_cons.1 hb with rfl | hb
      · rw [h1] at h; omega
      · exact hb
  obtain ⟨u, v, e⟩ := List.append_of_mem hby
  exact ⟨x, u, v, by rw [e]; simp⟩
theorem ahead_kids {F : For} (ok : FOk F) {v p q a b : Nat} (hv : v < F.length) (hp : p ∈ dnOf F (some v)) (hq : q ∈ dnOf F (some v)) (h : (dnOf F (some v)).idxOf p < (dnOf F (some v)).idxOf q) (ha : a ∈ preD F p) (hb : b ∈ preD F q) : Ahead (preD F v) a b := by
  obtain ⟨x, y, z, e⟩ := idx_ahead hp hq h
  rw [preD_eq ok hv, e]
  have : v :: (x ++ p :: y ++ q :: z).flatMap (preD F) = (v :: x.flatMap (preD F)) ++ preD F p ++ y.flatMap (preD F) ++ preD F q ++ z.flatMap (preD F) := by simp
  rw [this]
  exact Ahead.of_parts ha hb
theorem Ahead.up {F : For} (ok : FOk F) {r v a b : Nat} (hr : r < F.length) (hv : v < F.length) (hm : v ∈ preD F r) (h : Ahead (preD F v) a b) : Ahead (preD F r) a b := by
  obtain ⟨p, q, e⟩ := preD_infix ok hv r hr hm
  rw [e]; exact h.amid p q
theorem ahead_head {F : For} (ok : FOk F) {v b : Nat} (hv : v < F.length) (hb : b ∈ preD F v) (hne : b ≠ v) : Ahead (preD F v) v b := by
  rw [preD_eq ok hv] at hb ⊢
  rcases List.mem_cons.1 hb with h | h
  · exact absurd h hne
  · obtain ⟨x, y, e⟩ := List.append_of_mem h
    exact ⟨[], x, y, by rw [e]; rfl⟩
structure Meet (F : For) (la lb xs ys s : List Nat) : Prop where
  a : la = xs ++ s
  b : lb = ys ++ s
  ne : s ≠ []
  top : ∀ xs' p ys' q, xs = xs' ++ [p] → ys = ys' ++ [q] → p ≠ q
theorem last_ne {α : Type} {l : List α} (h : l ≠ []) : ∃ t x, l = t ++ [x] := by
  rcases List.eq_nil_or_concat l with e | ⟨t, x, e⟩
  · exact absurd e h
  · exact ⟨t, x, by rw [e, List.concat_eq_append]⟩
theorem meet_up {F : For} {k : Nat} {xs s : List Nat} {p v : Nat} {t : List Nat} (h : Chain F k (xs ++ [p] ++ s)) (hs : s = v :: t) : upOf F p = some v ∧ Chain F v s := by
  subst hs
  have h1 : Chain F p (p :: v :: t) := h.at (a := xs) (by simp)
  cases h1 with
  | up hx hu hc =>
    obtain ⟨t', e⟩ := hc.ne_nil
    simp at e
    obtain ⟨e1, e2⟩ := e
    refine ⟨by unfold upOf; rw [hx]; exact hu.trans (by rw [e1]), ?_⟩
    rw [← e1] at hc
    exact e1 ▸ hc
theorem cmp_ways {F : For} (ok : FOk F) {a b r : Nat} {la lb xs ys s : List Nat} (ha : Chain F a la) (hb : Chain F b lb) (hm : Meet F la lb xs ys s) (hr : s.getLast? = some r) :
    (xs = [] → ys = [] → a = b) ∧ (xs = [] → ys ≠ [] → Ahead (preD F r) a b) ∧ (xs ≠ [] → ys = [] → Ahead (preD F r) b a) ∧
    (∀ xs' p ys' q, xs = xs' ++ [p] → ys = ys' ++ [q] → (idxF F p < idxF F q → Ahead (preD F r) a b) ∧ (¬ idxF F p < idxF F q → Ahead (preD F r) b a)) := by
  obtain ⟨v, t, hs⟩ : ∃ v t, s = v :: t := by cases h : s with
    | nil => exact absurd h hm.ne
    | cons v t => exact ⟨v, t, rfl⟩
  have hv : Chain F v s := by
    have h1 := hm.a
    rw [hs] at h1 ⊢
    exact ha.at h1
  have hvl : v < F.length := hv.mem_lt v (by rw [hs]; simp)
  have hrl : r < F.length := hv.mem_lt r (List.mem_of_getLast? hr)
  have hvr : v ∈ preD F r := (mem_preD ok hrl hv).2 (List.mem_of_getLast? hr)
  have hva : a ∈ preD F v := (mem_preD ok hvl ha).2 (by rw [hm.a, hs]; simp)
  have hvb : b ∈ preD F v := (mem_preD ok hvl hb).2 (by rw [hm.b, hs]; simp)
  have head : ∀ {k : Nat} {l zs : List Nat}, Chain F k l → l = zs ++ s → (zs = [] → k = v) ∧ (zs ≠ [] → k ≠ v) := by
    intro k l zs h e
    obtain ⟨t', ht'⟩ := h.ne_nil
    refine ⟨fun hz => ?_, fun hz hk => ?_⟩
    · rw [hz, hs, ht'] at e; simp at e; exact e.1
    · subst hk
      have h1 := h.det hv
      rw [e] at h1
      have := congrArg List.length h1
      simp at this
      exact hz this
  have kid : ∀ {k : Nat} {l zs : List Nat} {p : Nat}, Chain F k l → l = zs ++ [p] ++ s → p ∈ dnOf F (some v) ∧ k ∈ preD F p := by
    intro k l zs p h e
    obtain ⟨hu, _⟩ := meet_up (e ▸ h) hs
    obtain ⟨y, hy, hd, hmem⟩ := ok.kid hu
    have hpl : p < F.length := h.mem_lt p (by rw [e]; simp)
    exact ⟨by rw [hd]; exact hmem, (mem_preD ok hpl h).2 (by rw [e]; simp)⟩
  refine ⟨fun h1 h2 => ((head ha hm.a).1 h1).trans ((head hb hm.b).1 h2).symm, fun h1 h2 => ?_, fun h1 h2 => ?_, ?_⟩
  · have e := (head ha hm.a).1 h1
    have hn := (head hb hm.b).2 h2
    rw [e]
    exact (ahead_head ok hvl hvb hn).up ok hrl hvl hvr
  · have e := (head hb hm.b).1 h2
    have hn := (head ha hm.a).2 h1
    rw [e]
    exact (ahead_head ok hvl hva hn).up ok hrl hvl hvr
  · intro xs' p ys' q e1 e2
    obtain ⟨hp, hap⟩ := kid ha (by rw [hm.a, e1])
    obtain ⟨hq, hbq⟩ := kid hb (by rw [hm.b, e2])
    have hpu := (ok.kid_up hp).1
    have hqu := (ok.kid_up hq).1
    have ip : idxF F p = (dnOf F (some v)).idxOf p := by unfold idxF; rw [hpu]
    have iq : idxF F q = (dnOf F (some v)).idxOf q := by unfold idxF; rw [hqu]
    rw [ip, iq]
    refine ⟨fun h => (ahead_kids ok hvl hp hq h hap hbq).up ok hrl hvl hvr, fun h => ?_⟩
    have hne : (dnOf F (some v)).idxOf p ≠ (dnOf F (some v)).idxOf q := by
      intro e
      have l1 := List.idxOf_lt_length_of_mem hp
      have l2 := List.idxOf_lt_length_of_mem hq
      have g1 : (dnOf F (some v))[(dnOf F (some v)).idxOf p] = p := List.getElem_idxOf l1
      have g2 : (dnOf F (some v))[(dnOf F (some v)).idxOf q] = q := List.getElem_idxOf l2
      have : p = q := by rw [← g1, ← g2]; congr 1
      exact hm.top xs' p ys' q e1 e2 this
    exact (ahead_kids ok hvl hq hp (by omega) hbq hap).up ok hrl hvl hvr
def cmpP (l : List Nat) (a b : Nat) : Int := if l.idxOf a < l.idxOf b then -1 else if l.idxOf b < l.idxOf a then 1 else 0
theorem cmpP_self (l : List Nat) (a : Nat) : cmpP l a a = 0 := by simp [cmpP]
theorem cmpP_ahead {l : List Nat} {a b : Nat} (h : Ahead l a b) (hn : l.Nodup) : cmpP l a b = -1 := by unfold cmpP; rw [if_pos (h.idx hn)]
theorem cmpP_behind {l : List Nat} {a b : Nat} (h : Ahead l b a) (hn : l.Nodup) : cmpP l a b = 1 := by
  have := h.idx hn
  unfold cmpP
  rw [if_neg (by omega), if_pos this]
theorem cmp_meet {F : For} (ok : FOk F) {a b r : Nat} {la lb xs ys s : List Nat} (ha : Chain F a la) (hb : Chain F b lb) (hm : Meet F la lb xs ys s) (hr : s.getLast? = some r) :
    (xs = [] → ys = [] → cmpP (preD F r) a b = 0) ∧ (xs = [] → ys ≠ [] → cmpP (preD F r) a b = -1) ∧ (xs ≠ [] → ys = [] → cmpP (preD F r) a b = 1) ∧
    (∀ xs' p ys' q, xs = xs' ++ [p] → ys = ys' ++ [q] → cmpP (preD F r) a b = if idxF F p < idxF F q then -1 else 1) := by
  obtain ⟨h1, h2, h3, h4⟩ := cmp_ways ok ha hb hm hr
  have hrl : r < F.length := by
    have : r ∈ la := by rw [hm.a]; exact List.mem_append_right _ (List.mem_of_getLast? hr)
    exact ha.mem_lt r this
  have hn := preD_nodup ok r hrl
  refine ⟨fun e f => by rw [h1 e f]; exact cmpP_self _ _, fun e f => cmpP_ahead (h2 e f) hn, fun e f => cmpP_behind (h3 e f) hn, fun xs' p ys' q e f => ?_⟩
  obtain ⟨k1, k2⟩ := h4 xs' p ys' q e f
  by_cases c : idxF F p < idxF F q
  · rw [if_pos c]; exact cmpP_ahead (k1 c) hn
  · rw [if_neg c]; exact cmpP_behind (k2 c) hn
structure Ways (la lb xs ys s : List Nat) : Prop where
  a : la = xs ++ s
  b : lb = ys ++ s
theorem Ways.meet {F : For} {la lb xs ys s : List Nat} (h : Ways la lb xs ys s) {r : Nat} (ha : la.getLast? = some r) (hb : lb.getLast? = some r) (ht : ∀ xs' p ys' q, xs = xs' ++ [p] → ys = ys' ++ [q] → p ≠ q) : Meet F la lb xs ys s ∧ s.getLast? = some r := by
  have hs : s ≠ [] := by
    intro hs
    have e1 := h.a
    have e2 := h.b
    rw [hs, List.append_nil] at e1 e2
    subst e1 e2
    rcases List.eq_nil_or_concat la with e | ⟨t, p, e⟩
    · rw [e] at ha; cases ha
    · rcases List.eq_nil_or_concat lb with e' | ⟨t', q, e'⟩
      · rw [e'] at hb; cases hb
      · rw [List.concat_eq_append] at e e'
        rw [e, List.getLast?_append] at ha
        rw [e', List.getLast?_append] at hb
        simp at ha hb
        exact ht t p t' q e e' (ha.trans hb.symm)
  refine ⟨⟨h.a, h.b, hs, ht⟩, ?_⟩
  rw [h.a, List.getLast?_append] at ha
  cases e : s.getLast? with
  | none => exact absurd (List.getLast?_eq_none_iff.1 e) hs
  | some v => rw [e] at ha; simpa using ha
theorem Ways.next {la lb xs ys s : List Nat} {p : Nat} (h : Ways la lb (xs ++ [p]) (ys ++ [p]) s) : Ways la lb xs ys (p :: s) := ⟨by rw [h.a]; simp, by rw [h.b]; simp⟩
end Go.Proofs.YtelhnaphkbpakaaDoor
