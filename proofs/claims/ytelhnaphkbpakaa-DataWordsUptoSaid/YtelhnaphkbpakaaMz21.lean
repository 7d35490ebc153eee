/- What DataUnits is given; small laws. No program. What DataUnits' loops ask of a row that a call told; the boxes. No program. The document's Text walked. The words of a value, as data; rows of texts. No program. The document's blank and Words walked. -/
import Derived.Test.YtelhnaphkbpakaaMz20
namespace Go.Proofs.Ytelhnaphkbpakaa
open Go.RowKit
set_option linter.unusedVariables false
set_option maxRecDepth 100000

def cutCells (N : Nd) (off cnt : Int) (ba : Option Addr) (ul bc : Nat) : Array Value :=
  #[.int .i64 N.kind, .string N.name, .slice N.da N.data.length N.dc, .slice N.aa N.L.length N.ac, .int .u32 N.slot, .int .u32 N.gen, .int .i64 off, .int .i64 cnt, .slice ba ul bc]
theorem cut_cells {w : World} {b : Nat} {N : Nd} {off cnt : Int} {ba : Option Addr} {ul bc : Nat} (h : w.heap[b]? = some (.cells (cutCells N off cnt ba ul bc) 40 (0, 0))) :
    w.cell? ⟨b, 0, none⟩ = some (.int .i64 N.kind) ∧ w.cell? ⟨b, 1, none⟩ = some (.string N.name) ∧ w.cell? ⟨b, 2, none⟩ = some (.slice N.da N.data.length N.dc) ∧ w.cell? ⟨b, 3, none⟩ = some (.slice N.aa N.L.length N.ac) ∧ w.cell? ⟨b, 4, none⟩ = some (.int .u32 N.slot) ∧ w.cell? ⟨b, 5, none⟩ = some (.int .u32 N.gen) ∧
    w.cell? ⟨b, 6, none⟩ = some (.int .i64 off) ∧ w.cell? ⟨b, 7, none⟩ = some (.int .i64 cnt) ∧ w.cell? ⟨b, 8, none⟩ = some (.slice ba ul bc) ∧ b < w.heap.size :=
  ⟨cell_blk h 0 rfl, cell_blk h 1 rfl, cell_blk h 2 rfl, cell_blk h 3 rfl, cell_blk h 4 rfl, cell_blk h 5 rfl, cell_blk h 6 rfl, cell_blk h 7 rfl, cell_blk h 8 rfl, lt_of_some h⟩
theorem six_other {w : World} {k g : Nat} {o : Obj} (h : w.heap[k]? = some o) (hne : k ≠ g) (v0 v1 v2 v3 v4 v5 : Value) :
    ((((((w.setCell ⟨g, 0, none⟩ v0).setCell ⟨g, 1, none⟩ v1).setCell ⟨g, 2, none⟩ v2).setCell ⟨g, 3, none⟩ v3).setCell ⟨g, 4, none⟩ v4).setCell ⟨g, 5, none⟩ v5).heap[k]? = some o :=
  set_other (set_other (set_other (set_other (set_other (set_other h hne _) hne _) hne _) hne _) hne _) hne _
theorem Nd.Bd.mono {N : Nd} {b b' : Nat} (h : N.Bd b) (hb : b ≤ b') : N.Bd b' := ⟨Nat.le_trans h.data hb, Nat.le_trans h.attrs hb, fun x hx => Nat.le_trans (h.val x hx) hb⟩

/-- A bound of what a node has, wherever it lies. -/
structure NC.Bd (c : NC) (b : Nat) : Prop where
  data : c.data.length ≤ b
  attrs : c.attrs.length ≤ b
  val : ∀ x ∈ c.attrs, x.2.length ≤ b
theorem Nd.Bd.c {N : Nd} {b : Nat} (h : N.Bd b) : N.c.Bd b := ⟨h.data, by unfold Nd.c; simp; exact h.attrs, fun x hx => by
  unfold Nd.c at hx
  obtain ⟨y, hy, rfl⟩ := List.mem_map.1 hx
  exact h.val y hy⟩
theorem NC.Bd.nd {N : Nd} {b : Nat} (h : N.c.Bd b) : N.Bd b := ⟨h.data, by have := h.attrs; unfold Nd.c at this; simpa using this, fun x hx => h.val (attrOf x) (List.mem_map.2 ⟨x, hx, rfl⟩)⟩
theorem NC.Bd.zero (b : Nat) : NC.zero.Bd b := ⟨Nat.zero_le _, Nat.zero_le _, (fun _ hx => absurd hx (List.not_mem_nil))⟩
theorem replD_bd {c : NC} {b : Nat} (h : c.Bd b) (off cnt : Int) (us : List Nat) {b' : Nat} (hb : b ≤ b') (hs : b + us.length + b ≤ b') : (replD c off cnt us).1.Bd b' := by
  unfold replD
  split
  · refine ⟨?_, Nat.le_trans h.attrs hb, fun x hx => Nat.le_trans (h.val x hx) hb⟩
    have := h.data
    simp only [List.length_append, List.length_take, List.length_drop]
    omega
  · exact NC.Bd.zero _
/-- What Sub tells, if it tells anything. -/
def subX (k off cnt : Int) (data : List Nat) : List Nat := if (partD k off cnt data.length).2 = 0 then subD k off cnt data else []
theorem subX_len (k off cnt : Int) (data : List Nat) : (subX k off cnt data).length ≤ data.length := by
  unfold subX
  split
  · unfold subD; rw [List.length_take, List.length_drop]; omega
  · simp
theorem sub_u (w : World) (N : Nd) (h : NdIn w N) (hB : N.Bd 1099511627776) (off cnt : Int) {k : Int} {xs : List Nat} (e1 : (partD N.kind off cnt N.data.length).2 = k) (e2 : subX N.kind off cnt N.data = xs) :
    Calls Try.prog 23 #[N.v, .int .i64 off, .int .i64 cnt] w fun e w' => ∃ a, e = .returned (.tuple #[.slice a xs.length xs.length, .int .i64 k]) ∧ Clip16 w.heap.size w' a xs ∧ Below w.heap.size w w' := by
  refine (sub_calls w N h hB off cnt).mono ?_
  rintro e w' ⟨hb, hc⟩
  unfold subX at e2
  rcases hc with ⟨h1, h2⟩ | ⟨h1, a, h2, h3⟩
  · rw [if_neg h1] at e2
    subst e2
    exact ⟨none, by rw [h2, e1]; rfl, Clip16.nil _ _, hb⟩
  · rw [if_pos h1] at e2
    subst e2
    rw [h1] at e1
    subst e1
    exact ⟨a, h2, h3, hb⟩
theorem subR_u (w : World) (N : Nd) (h : NdIn w N) (hB : N.Bd 1099511627776) (off cnt : Int) {k : Int} {xs : List Nat} (e1 : (partD N.kind off cnt N.data.length).2 = k) (e2 : subX N.kind off cnt N.data = xs) :
    Calls Try.prog 24 #[N.v, .int .i64 off, .int .i64 cnt] w fun e w' => ∃ a c, e = .returned (.tuple #[.slice a xs.length c, .int .i64 k]) ∧ Clip16 w.heap.size w' a xs ∧ Below w.heap.size w w' := by
  refine (subR_calls w N h hB off cnt).mono ?_
  rintro e w' ⟨hb, hc⟩
  unfold subX at e2
  rcases hc with ⟨h1, h2⟩ | ⟨h1, a, c, h2, h3⟩
  · rw [if_neg h1] at e2
    subst e2
    exact ⟨none, 0, by rw [h2, e1]; rfl, Clip16.nil _ _, hb⟩
  · rw [if_pos h1] at e2
    subst e2
    rw [h1] at e1
    subst e1
    exact ⟨a, c, h2, h3, hb⟩

theorem OutW.grown {lo hi : Nat} {V w w' : World} (h : OutW lo hi V w) {row : Option Nat} (hg : w.grownBy w' row) (hr : ∀ k, row = some k → V.heap.size ≤ k ∨ (lo ≤ k ∧ k < hi)) : OutW lo hi V w' :=
  ⟨Nat.le_trans h.size hg.size, hg.os.trans h.os, hg.tape.trans h.tape, hg.output.trans h.output, fun k o hk ho => by
    have h1 := h.block k o hk ho
    refine (hg.block k (lt_of_some h1) (fun e => ?_)).trans h1
    have h2 := lt_of_some hk
    rcases hr k e.symm with h3 | h3 <;> omega⟩
theorem OutW.set {lo hi : Nat} {V w : World} (h : OutW lo hi V w) {a : Addr} (h1 : lo ≤ a.block) (h2 : a.block < hi) (v : Value) : OutW lo hi V (w.setCell a v) :=
  ⟨by rw [World.size_setCell]; exact h.size, h.os, h.tape, h.output, fun k o hk ho => set_other (h.block k o hk ho) (by rintro rfl; omega) v⟩
theorem OutW.drewN {lo hi : Nat} {V w : World} (h : OutW lo hi V w) (k : Nat) : OutW lo hi V (w.drewN k) := ⟨h.size, h.os, h.tape, h.output, h.block⟩

/-- What the law has in hand after its first steps: the box of what it was given, the node and the units lent. -/
structure CutSt (w : World) (N : Nd) (off cnt : Int) (ba : Option Addr) (bc : Nat) (us : List Nat) (b4 : Nat) (M : Nd) (a5 : Option Addr) (c5 : Nat) (W : World) : Prop where
  bx : W.heap[w.heap.size]? = some (.cells (cutCells N off cnt ba us.length bc) 40 (0, 0))
  x : W.heap[b4]? = some (.cells M.cells 30 (0, 0))
  m : LentNd w.heap.size W M
  by_ : LentU w.heap.size W a5 c5 us
  same : M.Same N
  low : Below w.heap.size w W
theorem CutSt.below {w : World} {N : Nd} {off cnt : Int} {ba : Option Addr} {bc : Nat} {us : List Nat} {b4 : Nat} {M : Nd} {a5 : Option Addr} {c5 : Nat} {W W' : World} (h : CutSt w N off cnt ba bc us b4 M a5 c5 W) (b : Below W.heap.size W W') : CutSt w N off cnt ba bc us b4 M a5 c5 W' :=
  ⟨(b.block _ (lt_of_some h.bx)).trans h.bx, (b.block _ (lt_of_some h.x)).trans h.x, h.m.below b, h.by_.below b, h.same, h.low.trans (b.mono h.low.size)⟩
end Go.Proofs.Ytelhnaphkbpakaa

namespace Go.Proofs.Ytelhnaphkbpakaa
open Go.RowKit
set_option linter.unusedVariables false
set_option maxRecDepth 100000

theorem row_store {B hi : Nat} {V wr : World} {a : Option Addr} {n cap i : Nat} {ys : List Value} (ho : OutW B hi V wr) (hr : wr.ownsRow B 45 1 (.slice a n cap) n ys) (hg : ∀ g, (Value.slice a n cap).ownBlock = some g → g < hi) (hi' : i < n) :
    ∃ g u, a = some ⟨g, 0, none⟩ ∧ g < wr.heap.size ∧ wr.cell? ⟨g, i, none⟩ = some u ∧ wr.frozen? ⟨g, i, none⟩ = false ∧ ∀ v, OutW B hi V (wr.setCell ⟨g, i, none⟩ v) ∧ ∃ ys', (wr.setCell ⟨g, i, none⟩ v).ownsRow B 45 1 (.slice a n cap) n ys' := by
  have hlen := hr.1
  obtain ⟨u, hu⟩ : ∃ u, ys[i]? = some u := ⟨_, List.getElem?_eq_getElem (by omega)⟩
  obtain ⟨b, rfl, hb, hc⟩ := row_src hr hu
  rw [Nat.zero_add] at hc
  obtain ⟨cur, hblk, hB⟩ := rwBlk hr
  exact ⟨b, u, rfl, hb, hc, free_blk hblk i, fun v => ⟨ho.set (a := ⟨b, i, none⟩) hB (hg b rfl) v, _, (hr.stored i v).1⟩⟩
theorem row_olds {B : Nat} {wr w2 : World} {a : Option Addr} {n cap : Nat} {ys : List Value} (hr : wr.ownsRow B 45 1 (.slice a n cap) n ys) (h2 : Below wr.heap.size wr w2) :
    ys.length = n * 1 ∧ (∀ (j : Nat) (u : Value), ys[j]? = some u → ∃ b, a = some b ∧ w2.cell? (b.add j) = some u) ∧ (a = none → n = 0) := by
  refine ⟨hr.1, fun j u hu => ?_, fun h => ?_⟩
  · obtain ⟨b, rfl, hb, hc⟩ := row_src hr hu
    refine ⟨_, rfl, ?_⟩
    rw [show (⟨b, 0, none⟩ : Addr).add j = ⟨b, 0 + j, none⟩ by unfold Addr.add; split <;> simp_all]
    exact (h2.cell (p := ⟨b, 0 + j, none⟩) hb).trans hc
  · subst h
    rcases hr.2 with ⟨h1, h2⟩ | ⟨g, cap', cur, h1, _⟩
    · exact h2
    · cases h1
theorem row_lt {w : World} {B : Nat} {a : Option Addr} {n cap : Nat} {ys : List Value} (hr : w.ownsRow B 45 1 (.slice a n cap) n ys) : ∀ g, (Value.slice a n cap).ownBlock = some g → g < w.heap.size := fun g hg => (hr.lt g hg).2

theorem row_drewN {w : World} {B : Nat} {e : TypeId} {size : Nat} {v : Value} {n : Nat} {ys : List Value} (h : w.ownsRow B e size v n ys) (k : Nat) : (w.drewN k).ownsRow B e size v n ys := row_below h (((FrT.refl [] w.heap.size w).drewN k).below (Nat.le_refl _))
/-- The box of a node, made and filled. -/
theorem box_made {w : World} {B : Nat} (M : Nd) (hB : B ≤ w.heap.size) :
    ∃ W, ((((((((w.alloc (.cells Nd.zero.cells 30)).setCell ⟨w.heap.size, 0, none⟩ (.int .i64 M.kind)).setCell ⟨w.heap.size, 1, none⟩ (.string M.name)).setCell ⟨w.heap.size, 2, none⟩ (.slice M.da M.data.length M.dc)).setCell ⟨w.heap.size, 3, none⟩ (.slice M.aa M.L.length M.ac)).setCell ⟨w.heap.size, 4, none⟩ (.int .u32 M.slot)).setCell ⟨w.heap.size, 5, none⟩ (.int .u32 M.gen))) = W ∧ W.heap[w.heap.size]? = some (.cells M.cells 30 (0, 0)) ∧ Below w.heap.size w W ∧ W.heap.size = w.heap.size + 1 := by
  obtain ⟨h1, h2⟩ := six_cells (Go.heap_alloc_new w (.cells Nd.zero.cells 30)) (.int .i64 M.kind) (.string M.name) (.slice M.da M.data.length M.dc) (.slice M.aa M.L.length M.ac) (.int .u32 M.slot) (.int .u32 M.gen)
  exact ⟨_, rfl, h1, ((Below.refl _ w).alloc (Nat.le_refl _) _).trans (h2.below (by simp)), by simp⟩
end Go.Proofs.Ytelhnaphkbpakaa

namespace Go.Proofs.Ytelhnaphkbpakaa
open Go.RowKit
set_option linter.unusedVariables false
set_option maxRecDepth 100000

theorem unAt_one {us : List Nat} {q u : Nat} (hu : us[q]? = some u) (h : u < 55296 ∨ 57343 < u) : (unAt us q).n = 1 ∧ unC (unAt us q) = u := by
  have e : us.getD q 0 = u := by rw [List.getD_eq_getElem?_getD, hu]; rfl
  unfold unAt
  rw [if_neg (by unfold Pair; rw [e]; omega), e]
  refine ⟨rfl, ?_⟩
  unfold unC
  rw [if_neg (by simp only; omega)]
theorem unAt_two {us : List Nat} {q u v : Nat} (hu : us[q]? = some u) (hv : us[q + 1]? = some v) (h1 : 55296 ≤ u) (h2 : u < 56320) (h3 : 56320 ≤ v) (h4 : v ≤ 57343) : (unAt us q).n = 2 ∧ unC (unAt us q) = 65536 + 1024 * (u - 55296) + v - 56320 := by
  have e : us.getD q 0 = u := by rw [List.getD_eq_getElem?_getD, hu]; rfl
  have e2 : us.getD (q + 1) 0 = v := by rw [List.getD_eq_getElem?_getD, hv]; rfl
  have hl := (List.getElem?_eq_some_iff.1 hv).1
  unfold unAt
  rw [if_pos (by unfold Pair; rw [e, e2]; omega), e, e2]
  refine ⟨rfl, ?_⟩
  unfold unC
  rw [if_neg (by simp only; omega)]
  simp only
  omega
theorem unAt_lone {us : List Nat} {q u : Nat} (hu : us[q]? = some u) (h1 : 55296 ≤ u) (h2 : u ≤ 57343) (h : ¬ (u < 56320 ∧ q + 1 < us.length ∧ ∀ v, us[q + 1]? = some v → 56320 ≤ v ∧ v ≤ 57343)) : (unAt us q).n = 1 ∧ unC (unAt us q) = 65533 := by
  have e : us.getD q 0 = u := by rw [List.getD_eq_getElem?_getD, hu]; rfl
  unfold unAt
  rw [if_neg (by
    intro hp
    unfold Pair at hp
    rw [e] at hp
    refine h ⟨hp.2.1, hp.2.2.1, fun v hv => ?_⟩
    have e2 : us.getD (q + 1) 0 = v := by rw [List.getD_eq_getElem?_getD, hv]; rfl
    rw [e2] at hp
    omega), e]
  refine ⟨rfl, ?_⟩
  unfold unC
  rw [if_pos (by simp only; omega)]
/-- Where the loop of Text stands. -/
structure TR (w0 : World) (us : List Nat) (q : Nat) (pre : List Un) (v : Value) (w : World) : Prop where
  list : uns us = pre ++ unsFrom us q
  size : q ≤ us.length
  row : w.ownsRow w0.heap.size 5 1 v (textU pre).length (encB (textU pre))
  low : Below w0.heap.size w0 w
  le : pre.length ≤ q
theorem TR.step {w0 : World} {us : List Nat} {q : Nat} {pre : List Un} {a : Option Addr} {cap : Nat} {w w' : World} (h : TR w0 us q pre (.slice a (textU pre).length cap) w) {d c : Nat} (hq : q < us.length) (hd : (unAt us q).n = d) (hc : unC (unAt us q) = c) {e : Ending} (hl : LetAt w w0.heap.size a (textU pre).length cap (encB (textU pre)) (runeB c) e w') :
    ∃ a' cap', e = .returned (.slice a' (textU (pre ++ [unAt us q])).length cap') ∧ TR w0 us (q + d) (pre ++ [unAt us q]) (.slice a' (textU (pre ++ [unAt us q])).length cap') w' := by
  obtain ⟨a', cap', rfl, hr, o, hg⟩ := hl
  have ht : textU (pre ++ [unAt us q]) = textU pre ++ runeB c := by rw [textU_snoc, hc]
  have hlen : (textU (pre ++ [unAt us q])).length = (textU pre).length + (runeB c).length := by rw [ht, List.length_append]
  refine ⟨a', cap', by rw [hlen], ?_, ?_, ?_, ?_, ?_⟩
  · rw [h.list, unsFrom_step us q hq, hd]; simp
  · have := unAt_size us q hq; omega
  · rw [hlen, ht, encB_append]; exact hr
  · exact (h.low.alloc h.low.size o).grown hg (by have := h.low.size; simp; omega) (fun k hk => (h.row.lt k hk).1)
  · have := unAt_n us q; have := h.le; simp; omega

set_option maxHeartbeats 8000000 in
theorem textR_calls (w : World) {a : Option Addr} {us : List Nat} (ca : Nat) (hA : Sl16 w a us) (hl : us.length ≤ 1048576) :
    Calls Try.prog 78 #[.slice a us.length ca] w fun e w' => e = .returned (.string (strB (textU (uns us)))) ∧ Below w.heap.size w w' := by
  have HA := Lib.hid hA
  have HB := Lib.hid hA.bnd
  obtain ⟨n, en⟩ : ∃ n, n = us.length := ⟨_, rfl⟩
  rw [← en] at hl ⊢
  have HN := Lib.hid en
  have H0 : Hid (TR w us 0 [] (.slice (some ⟨w.heap.size, 0, none⟩) 0 0) (w.alloc (.cells #[] 5))) := Lib.hid ⟨rfl, Nat.zero_le _, World.ownsRow_lit w #[] 0 (Nat.le_refl _) (by decide) rfl, (Below.refl _ w).alloc (Nat.le_refl _) _, Nat.le_refl _⟩
  clear hA en
  go_enter Try.func78, Try.ntmps78
  go_wp2_with fail
  go_loopw [3, 4] (fun v vi wr => ∃ (q : Nat) (pre : List Un), vi = .int .i64 (q : Nat) ∧ q ≤ n ∧ TR w us q pre v wr) (fun _ v _ => n - (intOf v).toNat)
  case atStart => exact ⟨0, [], rfl, Nat.zero_le _, H0.out⟩
  case round =>
    clear H0
    obtain ⟨q, pre, rfl, hq, hI⟩ := hrel
    have hrow := hI.row
    obtain ⟨va, vc, rfl⟩ := rwSlice hrow
    have HI := Lib.hid hI
    have hpl : (textU pre).length ≤ 70368744177664 := by have := textU_len pre; have := hI.le; omega
    have hwr : w.heap.size ≤ wr.heap.size := hI.low.size
    by_cases hlt : q < n
    · obtain ⟨u, hu⟩ : ∃ u, us[q]? = some u := ⟨_, List.getElem?_eq_getElem (by rw [← HN.out]; exact hlt)⟩
      obtain ⟨hu1, b1, o1, rfl, hb1, c1⟩ := (HA.out.below hI.low).at_ q u hu
      have HU := Lib.hid hu
      have p0 : (0 : Int) ≤ (q : Int) := by omega
      have p1 : (q : Int) < (n : Int) := by omega
      obtain ⟨T, hT⟩ : ∃ T, T = (textU pre).length := ⟨_, rfl⟩
      have HLT : Hid (∀ c : Nat, c ≤ 1114111 → Calls Try.prog 100 #[.slice va T vc, .int .i64 (c : Int)] wr (LetAt wr w.heap.size va (textU pre).length vc (encB (textU pre)) (runeB c))) := Lib.hid (fun c hc => by rw [hT]; exact letter_calls wr w.heap.size hwr hrow hpl c hc)
      rw [← hT]
      clear hI hrow hu hpl hT
      have q1 : IntKind.i64.wrap ((q : Int) + 1) = (q : Int) + 1 := IntWalk.i64_in _ (by omega)
      have q1n : ((q : Int) + 1).toNat = q + 1 := by omega
      have p0n : (0 : Int) ≤ (q : Int) + 1 := by omega
      by_cases a1 : u < 55296
      · have s1 : (u : Int) < 55296 := by omega
        have HS := Lib.hid (unAt_one HU.out (.inl a1))
        go_wp2_with fail
        refine (HLT.out u (by omega)).mono ?_
        rintro e w3 hlet
        obtain ⟨a3, c3, rfl, hI3⟩ := HI.out.step (by rw [← HN.out]; exact hlt) HS.out.1 HS.out.2 hlet
        have H3 := Lib.hid hI3
        clear hlet hI3
        obtain ⟨T3, hT3⟩ : ∃ T3, T3 = (textU (pre ++ [unAt us q])).length := ⟨_, rfl⟩
        rw [← hT3] at H3 ⊢
        clear hT3
        go_wp2_with fail
        go_roundw
        case rel => exact ⟨q + 1, _, by go_num, by have := H3.out.size; rw [← HN.out] at this; exact this, H3.out⟩
        case measure => simp [intOf]; omega
      have s1 : ¬ (u : Int) < 55296 := by omega
      by_cases a2 : 57343 < u
      · have s2 : (57343 : Int) < (u : Int) := by omega
        have HS := Lib.hid (unAt_one HU.out (.inr a2))
        go_wp2_with fail
        refine (HLT.out u (by omega)).mono ?_
        rintro e w3 hlet
        obtain ⟨a3, c3, rfl, hI3⟩ := HI.out.step (by rw [← HN.out]; exact hlt) HS.out.1 HS.out.2 hlet
        have H3 := Lib.hid hI3
        clear hlet hI3
        obtain ⟨T3, hT3⟩ : ∃ T3, T3 = (textU (pre ++ [unAt us q])).length := ⟨_, rfl⟩
        rw [← hT3] at H3 ⊢
        clear hT3
        go_wp2_with fail
        go_roundw
        case rel => exact ⟨q + 1, _, by go_num, by have := H3.out.size; rw [← HN.out] at this; exact this, H3.out⟩
        case measure => simp [intOf]; omega
      have s2 : ¬ (57343 : Int) < (u : Int) := by omega
      by_cases a3 : u < 56320
      · have s3 : (u : Int) < 56320 := by omega
        by_cases a4 : q + 1 < n
        · have s4 : (q : Int) + 1 < (n : Int) := by omega
          obtain ⟨v, hv⟩ : ∃ v, us[q + 1]? = some v := ⟨_, List.getElem?_eq_getElem (by rw [← HN.out]; exact a4)⟩
          obtain ⟨hv1, b2, o2, hbe, hb2, c2⟩ := (HA.out.below HI.out.low).at_ (q + 1) v hv
          cases hbe
          have HVV := Lib.hid hv
          clear hv
          by_cases a5 : 56320 ≤ v
          · have s5 : (56320 : Int) ≤ (v : Int) := by omega
            by_cases a6 : v ≤ 57343
            · have s6 : (v : Int) ≤ 57343 := by omega
              have HS := Lib.hid (unAt_two HU.out HVV.out (by omega) a3 a5 a6)
              obtain ⟨C, hC⟩ : ∃ C, C = 65536 + 1024 * (u - 55296) + v - 56320 := ⟨_, rfl⟩
              rw [← hC] at HS
              have r1 : IntKind.i64.wrap ((u : Int) - 55296) = (u : Int) - 55296 := IntWalk.i64_in _ (by omega)
              have r2 : IntKind.i64.wrap (1024 * ((u : Int) - 55296)) = 1024 * ((u : Int) - 55296) := IntWalk.i64_in _ (by omega)
              have r3 : IntKind.i64.wrap (65536 + 1024 * ((u : Int) - 55296)) = 65536 + 1024 * ((u : Int) - 55296) := IntWalk.i64_in _ (by omega)
              have r4 : IntKind.i64.wrap (65536 + 1024 * ((u : Int) - 55296) + (v : Int)) = 65536 + 1024 * ((u : Int) - 55296) + (v : Int) := IntWalk.i64_in _ (by omega)
              have r5 : IntKind.i64.wrap (65536 + 1024 * ((u : Int) - 55296) + (v : Int) - 56320) = (C : Int) := by rw [IntWalk.i64_in _ (by omega), hC]; omega
              have hC2 : C ≤ 1114111 := by omega
              have q2 : IntKind.i64.wrap ((q : Int) + 1 + 1) = (q : Int) + 1 + 1 := IntWalk.i64_in _ (by omega)
              have rC : 65536 + 1024 * ((u : Int) - 55296) + (v : Int) - 56320 = (C : Int) := by rw [hC]; omega
              clear hC
              go_wp2_with fail
              try rw [rC]
              refine (HLT.out C (by omega)).mono ?_
              rintro e w3 hlet
              obtain ⟨a3, c3, rfl, hI3⟩ := HI.out.step (by rw [← HN.out]; exact hlt) HS.out.1 HS.out.2 hlet
              have H3 := Lib.hid hI3
              clear hlet hI3
              obtain ⟨T3, hT3⟩ : ∃ T3, T3 = (textU (pre ++ [unAt us q])).length := ⟨_, rfl⟩
              rw [← hT3] at H3 ⊢
              clear hT3
              go_wp2_with fail
              go_roundw
              case rel => exact ⟨q + 2, _, by go_num, by have := H3.out.size; rw [← HN.out] at this; exact this, H3.out⟩
              case measure => simp [intOf]; omega
            · have s6 : ¬ (v : Int) ≤ 57343 := by omega
              have HS := Lib.hid (unAt_lone HU.out (by omega) (by omega) (fun k => by have := (k.2.2 v HVV.out).2; omega))
              go_wp2_with fail
              refine (HLT.out 65533 (by omega)).mono ?_
              rintro e w3 hlet
              obtain ⟨a3, c3, rfl, hI3⟩ := HI.out.step (by rw [← HN.out]; exact hlt) HS.out.1 HS.out.2 hlet
              have H3 := Lib.hid hI3
              clear hlet hI3
              obtain ⟨T3, hT3⟩ : ∃ T3, T3 = (textU (pre ++ [unAt us q])).length := ⟨_, rfl⟩
              rw [← hT3] at H3 ⊢
              clear hT3
              go_wp2_with fail
              go_roundw
              case rel => exact ⟨q + 1, _, by go_num, by have := H3.out.size; rw [← HN.out] at this; exact this, H3.out⟩
              case measure => simp [intOf]; omega
          · have s5 : ¬ (56320 : Int) ≤ (v : Int) := by omega
            have HS := Lib.hid (unAt_lone HU.out (by omega) (by omega) (fun k => by have := (k.2.2 v HVV.out).1; omega))
            go_wp2_with fail
            refine (HLT.out 65533 (by omega)).mono ?_
            rintro e w3 hlet
            obtain ⟨a3, c3, rfl, hI3⟩ := HI.out.step (by rw [← HN.out]; exact hlt) HS.out.1 HS.out.2 hlet
            have H3 := Lib.hid hI3
            clear hlet hI3
            obtain ⟨T3, hT3⟩ : ∃ T3, T3 = (textU (pre ++ [unAt us q])).length := ⟨_, rfl⟩
            rw [← hT3] at H3 ⊢
            clear hT3
            go_wp2_with fail
            go_roundw
            case rel => exact ⟨q + 1, _, by go_num, by have := H3.out.size; rw [← HN.out] at this; exact this, H3.out⟩
            case measure => simp [intOf]; omega
        · have s4 : ¬ (q : Int) + 1 < (n : Int) := by omega
          have HS := Lib.hid (unAt_lone HU.out (by omega) (by omega) (fun k => a4 (by rw [HN.out]; exact k.2.1)))
          go_wp2_with fail
          refine (HLT.out 65533 (by omega)).mono ?_
          rintro e w3 hlet
          obtain ⟨a3, c3, rfl, hI3⟩ := HI.out.step (by rw [← HN.out]; exact hlt) HS.out.1 HS.out.2 hlet
          have H3 := Lib.hid hI3
          clear hlet hI3
          obtain ⟨T3, hT3⟩ : ∃ T3, T3 = (textU (pre ++ [unAt us q])).length := ⟨_, rfl⟩
          rw [← hT3] at H3 ⊢
          clear hT3
          go_wp2_with fail
          go_roundw
          case rel => exact ⟨q + 1, _, by go_num, by have := H3.out.size; rw [← HN.out] at this; exact this, H3.out⟩
          case measure => simp [intOf]; omega
      · have s3 : ¬ (u : Int) < 56320 := by omega
        have HS := Lib.hid (unAt_lone HU.out (by omega) (by omega) (fun k => a3 k.1))
        go_wp2_with fail
        refine (HLT.out 65533 (by omega)).mono ?_
        rintro e w3 hlet
        obtain ⟨a3, c3, rfl, hI3⟩ := HI.out.step (by rw [← HN.out]; exact hlt) HS.out.1 HS.out.2 hlet
        have H3 := Lib.hid hI3
        clear hlet hI3
        obtain ⟨T3, hT3⟩ : ∃ T3, T3 = (textU (pre ++ [unAt us q])).length := ⟨_, rfl⟩
        rw [← hT3] at H3 ⊢
        clear hT3
        go_wp2_with fail
        go_roundw
        case rel => exact ⟨q + 1, _, by go_num, by have := H3.out.size; rw [← HN.out] at this; exact this, H3.out⟩
        case measure => simp [intOf]; omega
    · have e : pre = uns us := by rw [hI.list, unsFrom_end us q (by rw [← HN.out]; exact hlt), List.append_nil]
      have hconv := run_string_row (P := Try.prog) (w := wr) (src := 132) (dst := 9) (l := textU pre) Try.underlying132 Try.underlying5 Try.underlying9 hrow (by rw [e]; exact textU_le HB.out)
      have p1 : ¬ (q : Int) < (n : Int) := by omega
      obtain ⟨T, hT⟩ : ∃ T, T = (textU pre).length := ⟨_, rfl⟩
      rw [← hT] at hconv ⊢
      have HE := Lib.hid e
      clear hI hrow hpl e hT hlt
      go_wp2_with fail
      exact bodyPost_ret (v := .string (strB (textU pre))) (by simp [results, Try.results78, go_sem]) rfl ⟨by rw [HE.out], HI.out.low⟩
end Go.Proofs.Ytelhnaphkbpakaa

namespace Go.Proofs.Ytelhnaphkbpakaa
open Go.RowKit
set_option linter.unusedVariables false
set_option maxRecDepth 100000

def isBlank (u : Nat) : Prop := u = 9 ∨ u = 10 ∨ u = 12 ∨ u = 13 ∨ u = 32
instance (u : Nat) : Decidable (isBlank u) := by unfold isBlank; exact inferInstance
def ifRun (g : List Nat) : List (List Nat) := if g = [] then [] else [g]
/-- The runs between blanks: the run under way, what is still to be read. -/
def segs : List Nat → List Nat → List (List Nat)
  | cur, [] => ifRun cur
  | cur, u :: us => if isBlank u then ifRun cur ++ segs [] us else segs (cur ++ [u]) us
def txt (g : List Nat) : ByteArray := strB (textU (uns g))
def hasW (o : List ByteArray) (s : ByteArray) : Bool := o.any fun t => t.toList == s.toList
theorem hasW_iff {o : List ByteArray} {s : ByteArray} : hasW o s = true ↔ s ∈ o := by
  unfold hasW
  rw [List.any_eq_true]
  constructor
  · rintro ⟨t, h1, h2⟩; rw [← ba_eq.1 h2]; exact h1
  · intro h; exact ⟨s, h, ba_eq.2 rfl⟩
def addW (o : List ByteArray) (s : ByteArray) : List ByteArray := if hasW o s = true then o else o ++ [s]
def wordsOf (l : List (List Nat)) : List ByteArray := l.foldl (fun o g => addW o (txt g)) []
def wordsD (us : List Nat) : List ByteArray := wordsOf (segs [] us)
theorem wordsOf_snoc (l : List (List Nat)) (g : List Nat) : wordsOf (l ++ [g]) = addW (wordsOf l) (txt g) := by unfold wordsOf; rw [List.foldl_append]; rfl
theorem addW_in {o : List ByteArray} {s : ByteArray} (h : s ∈ o) : addW o s = o := if_pos (hasW_iff.2 h)
theorem addW_not {o : List ByteArray} {s : ByteArray} (h : s ∉ o) : addW o s = o ++ [s] := if_neg (fun k => h (hasW_iff.1 k))
theorem addW_len (o : List ByteArray) (s : ByteArray) : (addW o s).length ≤ o.length + 1 := by unfold addW; split <;> simp
theorem wordsOf_len (l : List (List Nat)) : (wordsOf l).length ≤ l.length := by
  rcases List.eq_nil_or_concat l with rfl | ⟨l', g, rfl⟩
  · simp [wordsOf]
  · have ih := wordsOf_len l'
    rw [List.concat_eq_append, wordsOf_snoc]
    have := addW_len (wordsOf l') (txt g)
    simp; omega
termination_by l.length
decreasing_by subst_vars; simp
theorem ifRun_len (g : List Nat) : (ifRun g).length ≤ 1 ∧ (ifRun g).length ≤ g.length := by
  unfold ifRun; split
  · simp
  · rename_i h; have : g.length ≠ 0 := fun e => h (List.eq_nil_of_length_eq_zero e); simp; omega
theorem segs_len (cur us : List Nat) : (segs cur us).length ≤ cur.length + us.length := by
  induction us generalizing cur with
  | nil => have := (ifRun_len cur).2; simp [segs]; exact this
  | cons u us ih =>
    unfold segs
    split
    · have h1 := (ifRun_len cur).2; have h2 := ih []; rw [List.length_append]; simp at h2 ⊢; omega
    · have h2 := ih (cur ++ [u]); simp at h2 ⊢; omega
theorem wordsD_len (us : List Nat) : (wordsD us).length ≤ us.length := by
  have h1 := wordsOf_len (segs [] us)
  have h2 := segs_len [] us
  simp at h2
  unfold wordsD; omega
/-- The run from f to i. -/
def run (us : List Nat) (f i : Nat) : List Nat := (us.drop f).take (i - f)
theorem run_self (us : List Nat) (f : Nat) : run us f f = [] := by unfold run; simp
theorem run_len {us : List Nat} {f i : Nat} (hi : i ≤ us.length) (hf : f ≤ i) : (run us f i).length = i - f := by unfold run; rw [List.length_take, List.length_drop]; omega
theorem run_snoc {us : List Nat} {f i u : Nat} (hf : f ≤ i) (hu : us[i]? = some u) : run us f (i + 1) = run us f i ++ [u] := by
  unfold run
  have hi := (List.getElem?_eq_some_iff.1 hu).1
  rw [show i + 1 - f = (i - f) + 1 by omega, List.take_add_one, List.getElem?_drop, show f + (i - f) = i by omega, hu]
  rfl
theorem run_nil {us : List Nat} {f i : Nat} (hi : i ≤ us.length) (hf : f ≤ i) : run us f i = [] ↔ f = i := by
  constructor
  · intro h
    have := run_len hi hf
    rw [h] at this
    simp at this; omega
  · rintro rfl; exact run_self us f
/-- Where either program stands: the runs behind it, the run under way. -/
def AtW (us : List Nat) (pre : List (List Nat)) (f i : Nat) : Prop := if i ≤ us.length then segs [] us = pre ++ segs (run us f i) (us.drop i) else segs [] us = pre
theorem AtW.start (us : List Nat) : AtW us [] 0 0 := by unfold AtW; rw [if_pos (Nat.zero_le _), run_self]; simp
theorem AtW.on {us : List Nat} {pre : List (List Nat)} {f i u : Nat} (h : AtW us pre f i) (hf : f ≤ i) (hu : us[i]? = some u) (hb : ¬ isBlank u) : AtW us pre f (i + 1) := by
  have hi := (List.getElem?_eq_some_iff.1 hu).1
  unfold AtW at *
  rw [if_pos (by omega)] at h ⊢
  rw [h, List.drop_eq_getElem_cons hi, show us[i] = u by rw [List.getElem?_eq_getElem hi] at hu; exact Option.some.inj hu]
  conv => lhs; rw [segs, if_neg hb]
  rw [run_snoc hf hu]
theorem AtW.cut {us : List Nat} {pre : List (List Nat)} {f i : Nat} (h : AtW us pre f i) (hf : f ≤ i) (hi : i ≤ us.length) (hb : ∀ u, us[i]? = some u → isBlank u) : AtW us (pre ++ ifRun (run us f i)) (i + 1) (i + 1) := by
  unfold AtW at *
  rw [if_pos hi] at h
  by_cases hlt : i < us.length
  · have hu := List.getElem?_eq_getElem hlt
    rw [if_pos (by omega), h, List.drop_eq_getElem_cons hlt]
    conv => lhs; rw [segs, if_pos (hb _ hu)]
    rw [run_self, List.append_assoc]
  · rw [if_neg (by omega), h, List.drop_eq_nil_of_le (by omega)]
    rfl
theorem AtW.fin {us : List Nat} {pre : List (List Nat)} {f i : Nat} (h : AtW us pre f i) (hi : us.length < i) : wordsOf pre = wordsD us := by
  unfold AtW at h
  rw [if_neg (by omega)] at h
  unfold wordsD; rw [h]
theorem AtW.fin2 {us : List Nat} {pre : List (List Nat)} {i : Nat} (h : AtW us pre i i) (hi : us.length ≤ i) : wordsOf pre = wordsD us := by
  unfold AtW at h
  unfold wordsD
  split at h
  · rw [h, run_self, List.drop_eq_nil_of_le hi]; simp [segs, ifRun]
  · rw [h]
theorem ifRun_nil {us : List Nat} {i : Nat} : ifRun (run us i i) = [] := by rw [run_self]; rfl
theorem ifRun_one {us : List Nat} {f i : Nat} (hi : i ≤ us.length) (hf : f < i) : ifRun (run us f i) = [run us f i] := by
  unfold ifRun
  rw [if_neg]
  intro h
  have := (run_nil hi (by omega)).1 h
  omega
def strs (l : List ByteArray) : List Value := l.map Value.string
theorem strs_len (l : List ByteArray) : (strs l).length = l.length := by simp [strs]
theorem strs_at {l : List ByteArray} {i : Nat} {s : ByteArray} (h : l[i]? = some s) : (strs l)[i]? = some (.string s) := by unfold strs; rw [List.getElem?_map, h]; rfl
theorem pre_len {us : List Nat} {pre : List (List Nat)} {f i : Nat} (h : AtW us pre f i) : (wordsOf pre).length ≤ us.length := by
  have h1 := wordsOf_len pre
  have h2 := segs_len [] us
  unfold AtW at h
  split at h <;> (rw [h] at h2; simp at h2; omega)
theorem ky_inj {a b : ByteArray} (h : ky a = ky b) : a = b := by
  cases a; cases b; congr 1
  exact Array.toList_inj.1 h
end Go.Proofs.Ytelhnaphkbpakaa

namespace Go.Proofs.Ytelhnaphkbpakaa
open Go.RowKit
set_option linter.unusedVariables false
set_option maxRecDepth 100000

theorem info9 : (Try.prog.info? 9).map (fun i => (i.zero, i.size, i.bytes)) = some (some (.string ⟨#[]⟩), 1, 16) := by kernel_rfl
theorem blank_calls (u : Nat) (w : World) : Calls Try.prog 77 #[.int .u16 (u : Int)] w fun e w' => e = .returned (.bool (decide (isBlank u))) ∧ w = w' := by
  by_cases h : isBlank u
  · rw [decide_eq_true h]
    unfold isBlank at h
    rcases h with rfl | rfl | rfl | rfl | rfl
    all_goals
      go_enter Try.func77, Try.ntmps77
      go_wp2_with fail
      go_ret
      exact ⟨rfl, rfl⟩
  · rw [decide_eq_false h]
    unfold isBlank at h
    have h1 : ((u : Int) == 9) = false := by simp; omega
    have h2 : ((u : Int) == 10) = false := by simp; omega
    have h3 : ((u : Int) == 12) = false := by simp; omega
    have h4 : ((u : Int) == 13) = false := by simp; omega
    have h5 : ((u : Int) == 32) = false := by simp; omega
    clear h
    go_enter Try.func77, Try.ntmps77
    go_wp2_with fail
    go_ret
    exact ⟨rfl, rfl⟩
theorem hasW_next {o : List ByteArray} {s t : ByteArray} {j : Nat} (h : o[j]? = some t) : hasW (o.take (j + 1)) s = (hasW (o.take j) s || (t.toList == s.toList)) := by
  unfold hasW
  rw [List.take_add_one, h, List.any_append]
  simp

/-- Where the outer loop stands. -/
structure WR (w0 : World) (us : List Nat) (i : Nat) (pre : List (List Nat)) (v : Value) (w : World) : Prop where
  at_ : AtW us pre i i
  row : w.ownsRow w0.heap.size 9 1 v (wordsOf pre).length (strs (wordsOf pre))
  low : Below w0.heap.size w0 w

set_option maxHeartbeats 8000000 in
theorem wordsR_calls (w : World) {a : Option Addr} {us : List Nat} (ca : Nat) (hA : Sl16 w a us) (hl : us.length ≤ 1048576) (hca : us.length ≤ ca) :
    Calls Try.prog 37 #[.slice a us.length ca] w fun e w' => ∃ a' c', e = .returned (.slice a' (wordsD us).length c') ∧ w'.ownsRow w.heap.size 9 1 (.slice a' (wordsD us).length c') (wordsD us).length (strs (wordsD us)) ∧ Below w.heap.size w w' := by
  have HA := Lib.hid hA
  obtain ⟨i9, hi9, ia1, ia2, ia3⟩ := info_parts info9
  obtain ⟨n, en⟩ : ∃ n, n = us.length := ⟨_, rfl⟩
  rw [← en] at hl hca ⊢
  have HN := Lib.hid en
  have H0 : Hid (WR w us 0 [] (.slice (some ⟨w.heap.size, 0, none⟩) 0 0) (w.alloc (.cells #[] 9))) := Lib.hid ⟨AtW.start us, World.ownsRow_lit w #[] 0 (Nat.le_refl _) (by decide) rfl, (Below.refl _ w).alloc (Nat.le_refl _) _⟩
  clear hA en
  go_enter Try.func37, Try.ntmps37
  go_wp2_with fail
  go_loopw [3, 4] (fun v vi wr => ∃ (i : Nat) (pre : List (List Nat)), vi = .int .i64 (i : Nat) ∧ i ≤ n + 1 ∧ WR w us i pre v wr) (fun _ v _ => n + 1 - (intOf v).toNat)
  case atStart => exact ⟨0, [], rfl, Nat.zero_le _, H0.out⟩
  case round =>
    clear H0
    obtain ⟨i, pre, rfl, hi, hI⟩ := hrel
    have hrow := hI.row
    obtain ⟨va, vc, rfl⟩ := rwSlice hrow
    obtain ⟨m, hm⟩ : ∃ m, m = (wordsOf pre).length := ⟨_, rfl⟩
    have hml : m ≤ n := by rw [hm, HN.out]; exact pre_len hI.at_
    have hwr : w.heap.size ≤ wr.heap.size := hI.low.size
    rw [← hm] at hrow ⊢
    have HI := Lib.hid (And.intro hI (And.intro hrow hm))
    clear hI hrow hm
    by_cases hlt : i < n
    · have p1 : (i : Int) < (n : Int) := by omega
      have p0 : (0 : Int) ≤ (i : Int) := by omega
      go_wp2_with fail
      go_loopw [5] (fun v wr2 => ∃ k : Nat, v = .int .i64 (k : Nat) ∧ i ≤ k ∧ k ≤ n ∧ AtW us pre i k ∧ wr2 = wr) (fun v _ => n - (intOf v).toNat)
      case atStart => exact ⟨i, rfl, Nat.le_refl _, by omega, HI.out.1.at_, rfl⟩
      case round =>
        obtain ⟨k, rfl, hik, hkn, hat, hw⟩ := hrel
        obtain rfl := hw.symm
        have HAT := Lib.hid hat
        clear hat
        have hA2 := HA.out.below HI.out.1.low
        by_cases hk : k < n
        · obtain ⟨u, hu⟩ : ∃ u, us[k]? = some u := ⟨_, List.getElem?_eq_getElem (by rw [← HN.out]; exact hk)⟩
          obtain ⟨hu1, b1, o1, hae, hb1, c1⟩ := hA2.at_ k u hu
          subst hae
          have HU := Lib.hid hu
          have p2 : (k : Int) < (n : Int) := by omega
          have p3 : (0 : Int) ≤ (k : Int) := by omega
          have hbl := fun w => blank_calls u w
          clear hu hA2
          by_cases hb : isBlank u
          · rw [decide_eq_true hb] at hbl
            have HBL := Lib.hid hbl
            have HCUT := Lib.hid (HAT.out.cut hik (by rw [← HN.out]; omega) (fun v hv => by rw [HU.out] at hv; cases hv; exact hb))
            clear hbl hb
            go_wp2_with fail
            refine (HBL.out _).mono ?_
            rintro e w2 ⟨rfl, rfl⟩
            clear HBL p2 hk c1
            by_cases hki : i < k
            · have p4 : (i : Int) < (k : Int) := by omega
              have p5 : (i : Int) ≤ (k : Int) := by omega
              have p6 : (k : Int) ≤ (ca : Int) := by omega
              have p7 : ¬ ca = i := by omega
              have hrl : (run us i k).length = k - i := run_len (by rw [← HN.out]; omega) (by omega)
              have HTX : Hid (∀ A C, A = Option.map (fun x => x.add i) (some (⟨b1, o1, none⟩ : Addr)) → Calls Try.prog 78 #[.slice A (k - i) C] wr fun e w' => e = .returned (.string (txt (run us i k))) ∧ Below wr.heap.size wr w') := Lib.hid (fun A C hAA => by
                subst hAA
                have h := textR_calls wr C ((HA.out.below HI.out.1.low).part i (k - i) (by rw [← HN.out]; omega)) (by rw [List.length_take]; omega)
                have e : ((us.drop i).take (k - i)).length = k - i := hrl
                rw [e] at h
                exact h)
              have q1 : IntKind.i64.wrap ((k : Int) + 1) = (k : Int) + 1 := IntWalk.i64_in _ (by omega)
              have HONE := Lib.hid (ifRun_one (us := us) (f := i) (i := k) (by rw [← HN.out]; omega) hki)
              clear hrl
              go_wp2_with fail
              refine (HTX.out _ _ (by first | rfl | simp [Addr.add])).mono ?_
              rintro e w3 ⟨rfl, b3⟩
              obtain ⟨s, hs⟩ : ∃ s, s = txt (run us i k) := ⟨_, rfl⟩
              rw [← hs]
              have hrow3 := row_below HI.out.2.1 b3
              have HR3 := Lib.hid (And.intro hrow3 (And.intro b3 hs))
              have s3 := b3.size
              clear HTX hrow3 b3 hs p4 p5 p6 p7
              go_wp2_with fail
              go_loopw [7, 8] (fun v7 v8 wr2 => ∃ j : Nat, v7 = .bool (hasW ((wordsOf pre).take j) s) ∧ v8 = .int .i64 (j : Nat) ∧ j ≤ m ∧ wr2 = w3) (fun _ v _ => m - (intOf v).toNat)
              case atStart => exact ⟨0, by simp [hasW], rfl, Nat.zero_le _, rfl⟩
              case round =>
                obtain ⟨j, rfl, rfl, hj, hw⟩ := hrel
                obtain rfl := hw.symm
                by_cases hjm : j < m
                · obtain ⟨t, ht⟩ : ∃ t, (wordsOf pre)[j]? = some t := ⟨_, List.getElem?_eq_getElem (by rw [← HI.out.2.2]; exact hjm)⟩
                  obtain ⟨bb, hva, hbb, hct⟩ := row_src HR3.out.1 (strs_at ht)
                  subst hva
                  rw [Nat.zero_add] at hct
                  have HT := Lib.hid ht
                  have r0 : (0 : Int) ≤ (j : Int) := by omega
                  have r1 : (j : Int) < (m : Int) := by omega
                  have q2 : IntKind.i64.wrap ((j : Int) + 1) = (j : Int) + 1 := IntWalk.i64_in _ (by omega)
                  obtain ⟨kn, hkn'⟩ : ∃ kn, kn = hasW ((wordsOf pre).take j) s := ⟨_, rfl⟩
                  rw [← hkn']
                  have HKN := Lib.hid hkn'
                  clear ht hkn'
                  cases kn with
                  | true =>
                    go_wp2_with fail
                    go_roundw
                    case rel => exact ⟨j + 1, by rw [hasW_next HT.out, ← HKN.out]; rfl, by go_num, hjm, by first | rfl | trivial⟩
                    case measure => simp [intOf]; omega
                  | false =>
                    go_wp2_with fail
                    go_roundw
                    case rel => exact ⟨j + 1, by rw [hasW_next HT.out, ← HKN.out]; rfl, by go_num, hjm, by first | rfl | trivial⟩
                    case measure => simp [intOf]; omega
                · obtain rfl : m = j := by omega
                  have r1 : ¬ (m : Int) < (m : Int) := by omega
                  have hta : (wordsOf pre).take m = wordsOf pre := List.take_of_length_le (by rw [← HI.out.2.2]; exact Nat.le_refl _)
                  rw [hta]
                  clear hta
                  obtain ⟨kn, hkn'⟩ : ∃ kn, kn = hasW (wordsOf pre) s := ⟨_, rfl⟩
                  rw [← hkn']
                  have HKN := Lib.hid hkn'
                  clear hkn' hjm hj
                  cases kn with
                  | true =>
                    go_wp2_with fail
                    go_roundw
                    case rel =>
                      have e : wordsOf (pre ++ ifRun (run us i k)) = wordsOf pre := by rw [HONE.out, wordsOf_snoc, ← HR3.out.2.2]; exact addW_in (hasW_iff.1 HKN.out.symm)
                      refine ⟨k + 1, pre ++ ifRun (run us i k), by go_num, by omega, ⟨HCUT.out, ?_, HI.out.1.low.trans (HR3.out.2.1.mono hwr)⟩⟩
                      rw [e, ← HI.out.2.2]; exact HR3.out.1
                    case measure => simp [intOf]; omega
                  | false =>
                    have hsz : w.heap.size ≤ (w3.alloc (.cells #[.string s] 9)).heap.size := by simp; omega
                    go_wp2_with (at_builtin; refine wpList_append_any _ rfl (.tmp 54) (.tmp 56) 31 rfl w.heap.size 9 i9 _ 1 16 Try.underlying31 hi9 ia1 ia2 ia3 rfl (by omega) _ m _ rfl (HR3.out.1.alloc _) (some ⟨w3.heap.size, 0, none⟩) 1 1 [.string s] rfl rfl (.inr ⟨_, rfl, World.news_of_block (cs := #[.string s]) (t := 9) (fr := (0, 0)) (Go.heap_alloc_new w3 _)⟩) (by simp [Value.oneCell']) (by unfold maxLen; omega) (by omega) hsz ?_)
                    intro a6 c6 w6 hown6 hgrow6
                    have H6 := Lib.hid (And.intro hown6 hgrow6)
                    clear hown6 hgrow6 hsz
                    go_wp2_with fail
                    go_roundw
                    case rel =>
                      have e : wordsOf (pre ++ ifRun (run us i k)) = wordsOf pre ++ [s] := by rw [HONE.out, wordsOf_snoc, ← HR3.out.2.2]; exact addW_not (fun h => by have := hasW_iff.2 h; rw [← HKN.out] at this; cases this)
                      refine ⟨k + 1, pre ++ ifRun (run us i k), by go_num, by omega, ⟨HCUT.out, ?_, ?_⟩⟩
                      · rw [e, List.length_append, ← HI.out.2.2]
                        have h := H6.out.1
                        have e2 : strs (wordsOf pre ++ [s]) = strs (wordsOf pre) ++ [.string s] := by simp [strs]
                        rw [e2]; exact h
                      · have hlow := HI.out.1.low.trans (HR3.out.2.1.mono hwr)
                        exact (hlow.alloc hlow.size _).grown H6.out.2 (by have := hlow.size; simp; omega) (fun y hy => (HR3.out.1.lt y hy).1)
                    case measure => simp [intOf]; omega
            · obtain rfl : i = k := by omega
              have p4 : ¬ (i : Int) < (i : Int) := by omega
              have q1 : IntKind.i64.wrap ((i : Int) + 1) = (i : Int) + 1 := IntWalk.i64_in _ (by omega)
              go_wp2_with fail
              go_roundw
              case rel =>
                refine ⟨i + 1, pre ++ ifRun (run us i i), by go_num, by omega, ⟨HCUT.out, ?_, HI.out.1.low⟩⟩
                rw [ifRun_nil, List.append_nil, ← HI.out.2.2]; exact HI.out.2.1
              case measure => simp [intOf]; omega
          · rw [decide_eq_false hb] at hbl
            have HBL := Lib.hid hbl
            have HON := Lib.hid (HAT.out.on hik HU.out hb)
            have q1 : IntKind.i64.wrap ((k : Int) + 1) = (k : Int) + 1 := IntWalk.i64_in _ (by omega)
            clear hbl hb
            go_wp2_with fail
            refine (HBL.out _).mono ?_
            rintro e w2 ⟨rfl, rfl⟩
            go_wp2_with fail
            go_roundw
            case rel => exact ⟨k + 1, by go_num, by omega, hk, HON.out, by first | rfl | trivial⟩
            case measure => simp [intOf]; omega
        · obtain rfl : n = k := by omega
          have p2 : ¬ (n : Int) < (n : Int) := by omega
          obtain ⟨u0, hu0⟩ : ∃ u, us[i]? = some u := ⟨_, List.getElem?_eq_getElem (by rw [← HN.out]; exact hlt)⟩
          obtain ⟨_, b1, o1, hae, hb1, _⟩ := hA2.at_ i u0 hu0
          subst hae
          have HCUT := Lib.hid (HAT.out.cut hik (by rw [← HN.out]; omega) (fun v hv => by have := (List.getElem?_eq_some_iff.1 hv).1; rw [← HN.out] at this; omega))
          clear hu0 hA2 hk
          by_cases hki : i < n
          · have p4 : (i : Int) < (n : Int) := by omega
            have p5 : (i : Int) ≤ (n : Int) := by omega
            have p6 : (n : Int) ≤ (ca : Int) := by omega
            have p7 : ¬ ca = i := by omega
            have hrl : (run us i n).length = n - i := run_len (by rw [← HN.out]; omega) (by omega)
            have HTX : Hid (∀ A C, A = Option.map (fun x => x.add i) (some (⟨b1, o1, none⟩ : Addr)) → Calls Try.prog 78 #[.slice A (n - i) C] wr fun e w' => e = .returned (.string (txt (run us i n))) ∧ Below wr.heap.size wr w') := Lib.hid (fun A C hAA => by
              subst hAA
              have h := textR_calls wr C ((HA.out.below HI.out.1.low).part i (n - i) (by rw [← HN.out]; omega)) (by rw [List.length_take]; omega)
              have e : ((us.drop i).take (n - i)).length = n - i := hrl
              rw [e] at h
              exact h)
            have q1 : IntKind.i64.wrap ((n : Int) + 1) = (n : Int) + 1 := IntWalk.i64_in _ (by omega)
            have HONE := Lib.hid (ifRun_one (us := us) (f := i) (i := n) (by rw [← HN.out]; omega) hki)
            clear hrl
            go_wp2_with fail
            refine (HTX.out _ _ (by first | rfl | simp [Addr.add])).mono ?_
            rintro e w3 ⟨rfl, b3⟩
            obtain ⟨s, hs⟩ : ∃ s, s = txt (run us i n) := ⟨_, rfl⟩
            rw [← hs]
            have hrow3 := row_below HI.out.2.1 b3
            have HR3 := Lib.hid (And.intro hrow3 (And.intro b3 hs))
            have s3 := b3.size
            clear HTX hrow3 b3 hs p4 p5 p6 p7
            go_wp2_with fail
            go_loopw [7, 8] (fun v7 v8 wr2 => ∃ j : Nat, v7 = .bool (hasW ((wordsOf pre).take j) s) ∧ v8 = .int .i64 (j : Nat) ∧ j ≤ m ∧ wr2 = w3) (fun _ v _ => m - (intOf v).toNat)
            case atStart => exact ⟨0, by simp [hasW], rfl, Nat.zero_le _, rfl⟩
            case round =>
              obtain ⟨j, rfl, rfl, hj, hw⟩ := hrel
              obtain rfl := hw.symm
              by_cases hjm : j < m
              · obtain ⟨t, ht⟩ : ∃ t, (wordsOf pre)[j]? = some t := ⟨_, List.getElem?_eq_getElem (by rw [← HI.out.2.2]; exact hjm)⟩
                obtain ⟨bb, hva, hbb, hct⟩ := row_src HR3.out.1 (strs_at ht)
                subst hva
                rw [Nat.zero_add] at hct
                have HT := Lib.hid ht
                have r0 : (0 : Int) ≤ (j : Int) := by omega
                have r1 : (j : Int) < (m : Int) := by omega
                have q2 : IntKind.i64.wrap ((j : Int) + 1) = (j : Int) + 1 := IntWalk.i64_in _ (by omega)
                obtain ⟨kn, hkn'⟩ : ∃ kn, kn = hasW ((wordsOf pre).take j) s := ⟨_, rfl⟩
                rw [← hkn']
                have HKN := Lib.hid hkn'
                clear ht hkn'
                cases kn with
                | true =>
                  go_wp2_with fail
                  go_roundw
                  case rel => exact ⟨j + 1, by rw [hasW_next HT.out, ← HKN.out]; rfl, by go_num, hjm, by first | rfl | trivial⟩
                  case measure => simp [intOf]; omega
                | false =>
                  go_wp2_with fail
                  go_roundw
                  case rel => exact ⟨j + 1, by rw [hasW_next HT.out, ← HKN.out]; rfl, by go_num, hjm, by first | rfl | trivial⟩
                  case measure => simp [intOf]; omega
              · obtain rfl : m = j := by omega
                have r1 : ¬ (m : Int) < (m : Int) := by omega
                have hta : (wordsOf pre).take m = wordsOf pre := List.take_of_length_le (by rw [← HI.out.2.2]; exact Nat.le_refl _)
                rw [hta]
                clear hta
                obtain ⟨kn, hkn'⟩ : ∃ kn, kn = hasW (wordsOf pre) s := ⟨_, rfl⟩
                rw [← hkn']
                have HKN := Lib.hid hkn'
                clear hkn' hjm hj
                cases kn with
                | true =>
                  go_wp2_with fail
                  go_roundw
                  case rel =>
                    have e : wordsOf (pre ++ ifRun (run us i n)) = wordsOf pre := by rw [HONE.out, wordsOf_snoc, ← HR3.out.2.2]; exact addW_in (hasW_iff.1 HKN.out.symm)
                    refine ⟨n + 1, pre ++ ifRun (run us i n), by go_num, by omega, ⟨HCUT.out, ?_, HI.out.1.low.trans (HR3.out.2.1.mono hwr)⟩⟩
                    rw [e, ← HI.out.2.2]; exact HR3.out.1
                  case measure => simp [intOf]; omega
                | false =>
                  have hsz : w.heap.size ≤ (w3.alloc (.cells #[.string s] 9)).heap.size := by simp; omega
                  go_wp2_with (at_builtin; refine wpList_append_any _ rfl (.tmp 54) (.tmp 56) 31 rfl w.heap.size 9 i9 _ 1 16 Try.underlying31 hi9 ia1 ia2 ia3 rfl (by omega) _ m _ rfl (HR3.out.1.alloc _) (some ⟨w3.heap.size, 0, none⟩) 1 1 [.string s] rfl rfl (.inr ⟨_, rfl, World.news_of_block (cs := #[.string s]) (t := 9) (fr := (0, 0)) (Go.heap_alloc_new w3 _)⟩) (by simp [Value.oneCell']) (by unfold maxLen; omega) (by omega) hsz ?_)
                  intro a6 c6 w6 hown6 hgrow6
                  have H6 := Lib.hid (And.intro hown6 hgrow6)
                  clear hown6 hgrow6 hsz
                  go_wp2_with fail
                  go_roundw
                  case rel =>
                    have e : wordsOf (pre ++ ifRun (run us i n)) = wordsOf pre ++ [s] := by rw [HONE.out, wordsOf_snoc, ← HR3.out.2.2]; exact addW_not (fun h => by have := hasW_iff.2 h; rw [← HKN.out] at this; cases this)
                    refine ⟨n + 1, pre ++ ifRun (run us i n), by go_num, by omega, ⟨HCUT.out, ?_, ?_⟩⟩
                    · rw [e, List.length_append, ← HI.out.2.2]
                      have h := H6.out.1
                      have e2 : strs (wordsOf pre ++ [s]) = strs (wordsOf pre) ++ [.string s] := by simp [strs]
                      rw [e2]; exact h
                    · have hlow := HI.out.1.low.trans (HR3.out.2.1.mono hwr)
                      exact (hlow.alloc hlow.size _).grown H6.out.2 (by have := hlow.size; simp; omega) (fun y hy => (HR3.out.1.lt y hy).1)
                  case measure => simp [intOf]; omega
          · exfalso; omega
    · have p1 : ¬ (i : Int) < (n : Int) := by omega
      have e : wordsOf pre = wordsD us := HI.out.1.at_.fin2 (by rw [← HN.out]; omega)
      have HE := Lib.hid e
      clear e
      go_wp2_with fail
      have hr := HI.out.2.1
      exact bodyPost_ret (v := .slice va m vc) (by simp [results, Try.results37, go_sem]) rfl ⟨va, vc, by rw [← HE.out, ← HI.out.2.2], by rw [← HE.out, ← HI.out.2.2]; exact hr, HI.out.1.low⟩
end Go.Proofs.Ytelhnaphkbpakaa

