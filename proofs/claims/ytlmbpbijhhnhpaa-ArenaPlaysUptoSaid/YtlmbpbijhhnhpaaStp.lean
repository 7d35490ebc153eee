/- The statement's step of both arenas: both answer alike, and hold the same data again. -/
import Derived.Test.YtlmbpbijhhnhpaaRfT
import Derived.Deep.RegionWith
import Derived.StillTailTactics
namespace Go.Proofs.Ytlmbpbijhhnhpaa
open Go.RowKit
set_option linter.unusedVariables false
set_option maxRecDepth 100000

/-- An op's cells. -/
structure OpV where
  k : Int
  x : Int
  w : Int
  e : Int
  s : Nat
  g : Nat
  h : Bool
def OpV.cells (o : OpV) : List Value := [.int .i64 o.k, .int .i64 o.x, .int .i64 o.w, .int .i64 o.e, .int .u32 (o.s : Int), .int .u32 (o.g : Int), .bool o.h]
structure OpV.Ok (o : OpV) : Prop where
  w1 : -9223372036854775808 ≤ o.w
  w2 : o.w ≤ 9223372036854775807
  s : o.s ≤ 4294967295
  g : o.g ≤ 4294967295

theorem mid_cell {w W w2 : World} {o : Obj} {cs : Array Value} (hb : Below W.heap.size W w2) (hW : W.heap = ((w.alloc o).alloc (.cells cs 39)).heap) (j : Nat) {v : Value} (hv : cs[j]? = some v) : w2.cell? ⟨w.heap.size + 1, j, none⟩ = some v ∧ w2.frozen? ⟨w.heap.size + 1, j, none⟩ = false := by
  have e : W.heap[w.heap.size + 1]? = some (.cells cs 39 (0, 0)) := by rw [hW]; simpa using Go.heap_alloc_new (w.alloc o) (.cells cs 39)
  have hl := lt_of_some e
  have e2 := (hb.block _ hl).trans e
  exact ⟨cell_blk e2 j hv, free_blk e2 j⟩

def o57 (o : OpV) : Obj := .cells #[.int .i64 o.k, .int .i64 o.x, .int .i64 o.w, .int .i64 o.e, .int .u32 (o.s : Int), .int .u32 (o.g : Int), .bool o.h] 57

/-- Behind the step's first line: the op in a block of its own, its handle in another one. -/
structure S1 (w : World) (o : OpV) (hd : Nat × Nat) (b5 : Nat) (wc : World) : Prop where
  h5 : wc.heap[b5]? = some (.cells #[.int .u32 (hd.1 : Int), .int .u32 (hd.2 : Int)] 39 (0, 0))
  op : wc.heap[w.heap.size]? = some (.cells #[.int .i64 o.k, .int .i64 o.x, .int .i64 o.w, .int .i64 o.e, .int .u32 (o.s : Int), .int .u32 (o.g : Int), .bool o.h] 57 (0, 0))
  bel : Below w.heap.size w wc
  new : w.heap.size ≤ b5

theorem s1_after {w W w2 : World} {o : OpV} {hd : Nat × Nat} (hb : Below W.heap.size W w2) (hW : W = (w.alloc (o57 o)).drew) : S1 w o hd w2.heap.size (w2.alloc (.cells #[.int .u32 (hd.1 : Int), .int .u32 (hd.2 : Int)] 39)) := by
  subst hW
  have e : (w.alloc (o57 o)).drew.heap[w.heap.size]? = some (.cells #[.int .i64 o.k, .int .i64 o.x, .int .i64 o.w, .int .i64 o.e, .int .u32 (o.s : Int), .int .u32 (o.g : Int), .bool o.h] 57 (0, 0)) := Go.heap_alloc_new w (o57 o)
  have b1 : Below w.heap.size w (w.alloc (o57 o)).drew := ((Below.refl _ w).alloc (Nat.le_refl _) _).drew
  have b2 := b1.trans (hb.mono b1.size)
  exact ⟨Go.heap_alloc_new w2 _, alloc_blk ((hb.block _ (lt_of_some e)).trans e) _, b2.alloc b2.size _, b2.size⟩

theorem s1_before {w W w2 : World} {o : OpV} {hd : Nat × Nat} (hb : Below W.heap.size W w2) (hW : W = ((w.alloc (o57 o)).alloc (.cells #[.int .u32 0, .int .u32 0] 39)).drew) :
    S1 w o hd (w.heap.size + 1) ((w2.setCell ⟨w.heap.size + 1, 0, none⟩ (.int .u32 (hd.1 : Int))).setCell ⟨w.heap.size + 1, 1, none⟩ (.int .u32 (hd.2 : Int))) := by
  subst hW
  have e0 : (w.alloc (o57 o)).heap[w.heap.size]? = some (.cells #[.int .i64 o.k, .int .i64 o.x, .int .i64 o.w, .int .i64 o.e, .int .u32 (o.s : Int), .int .u32 (o.g : Int), .bool o.h] 57 (0, 0)) := Go.heap_alloc_new w (o57 o)
  have e : ((w.alloc (o57 o)).alloc (.cells #[.int .u32 0, .int .u32 0] 39)).drew.heap[w.heap.size]? = _ := alloc_blk e0 (.cells #[.int .u32 0, .int .u32 0] 39)
  have f : ((w.alloc (o57 o)).alloc (.cells #[.int .u32 0, .int .u32 0] 39)).drew.heap[w.heap.size + 1]? = some (.cells #[.int .u32 0, .int .u32 0] 39 (0, 0)) := by
    have := Go.heap_alloc_new (w.alloc (o57 o)) (.cells #[.int .u32 0, .int .u32 0] 39)
    rw [World.size_alloc] at this
    exact this
  have e2 := (hb.block _ (lt_of_some e)).trans e
  have f2 := (hb.block _ (lt_of_some f)).trans f
  have b1 : Below w.heap.size w ((w.alloc (o57 o)).alloc (.cells #[.int .u32 0, .int .u32 0] 39)).drew := (((Below.refl _ w).alloc (Nat.le_refl _) _).alloc (by simp) _).drew
  have b2 := b1.trans (hb.mono b1.size)
  refine ⟨set_blk (set_blk f2 0 _) 1 _, set_other (set_other e2 (by simp) _) (by simp) _, (b2.setCell (by simp) _).setCell (by simp) _, Nat.le_succ _⟩

/-- What stands while a step goes on: the program's arena and the document's, of data that may differ for a while; the op; its handle. -/
structure St (B : Nat) (w0 : World) (pb ab rb : Nat) (T1 T2 : TA Int) (told : List (Nat × Nat)) (tv : Value) (o : OpV) (hd : Nat × Nat) (b5 : Nat) (w : World) : Prop where
  blk : w.heap[pb]? = some (.cells #[.pointer (some ⟨ab, 0, none⟩), .pointer (some ⟨rb, 0, none⟩), tv] 70 (0, 0))
  ar : ArIOf B w ab T1
  rf : ∃ av fv, RefAt B w rb T2 av fv
  row : w.ownsRow B 39 2 tv told.length (hcells told)
  h5 : w.heap[b5]? = some (.cells #[.int .u32 (hd.1 : Int), .int .u32 (hd.2 : Int)] 39 (0, 0))
  op : w.heap[w0.heap.size]? = some (.cells #[.int .i64 o.k, .int .i64 o.x, .int .i64 o.w, .int .i64 o.e, .int .u32 (o.s : Int), .int .u32 (o.g : Int), .bool o.h] 57 (0, 0))
  bel : Below B w0 w
  le : B ≤ w.heap.size
  size : w0.heap.size ≤ w.heap.size

section
variable {B : Nat} {w0 w w' : World} {pb ab rb : Nat} {T1 T2 : TA Int} {told : List (Nat × Nat)} {tv : Value} {o : OpV} {hd : Nat × Nat} {b5 : Nat}
theorem S1.st (h : S1 w0 o hd b5 w) (p : PairAt B w0 pb ab rb T1 told tv) (hB : B ≤ w0.heap.size) : St B w0 pb ab rb T1 T1 told tv o hd b5 w :=
  have q := p.below h.bel
  ⟨q.blk, q.ar, q.rf, q.row, h.h5, h.op, h.bel.mono hB, Nat.le_trans hB h.bel.size, h.bel.size⟩
theorem St.below (h : St B w0 pb ab rb T1 T2 told tv o hd b5 w) (b : Below w.heap.size w w') : St B w0 pb ab rb T1 T2 told tv o hd b5 w' :=
  have f : FrT [] 0 w w' := FrT.of_below b
  let ⟨_, _, hr⟩ := h.rf
  ⟨f.blk h.blk (by simp), h.ar.below b, ⟨_, _, hr.below b⟩, f.row h.row (by simp), f.blk h.h5 (by simp), f.blk h.op (by simp), h.bel.trans (b.mono h.le), Nat.le_trans h.le b.size, Nat.le_trans h.size b.size⟩
theorem St.prog (h : St B w0 pb ab rb T1 T2 told tv o hd b5 w) {T' : TA Int} (ha : ArIOf B w' ab T') (f : FrT [119, 123, 37] B w w') : St B w0 pb ab rb T' T2 told tv o hd b5 w' :=
  let ⟨_, _, hr⟩ := h.rf
  ⟨f.blk h.blk (by decide), ha, ⟨_, _, hr.kept f (by decide) (by decide) (by decide)⟩, f.row h.row (by decide), f.blk h.h5 (by decide), f.blk h.op (by decide), h.bel.trans (f.below h.le), Nat.le_trans h.le f.size, Nat.le_trans h.size f.size⟩
theorem St.ref (h : St B w0 pb ab rb T1 T2 told tv o hd b5 w) {T' : TA Int} (hr : ∃ av fv, RefAt B w' rb T' av fv) (f : FrT [126, 151, 3] B w w') : St B w0 pb ab rb T1 T' told tv o hd b5 w' :=
  ⟨f.blk h.blk (by decide), h.ar.kept f (by decide) (by decide) (by decide), hr, f.row h.row (by decide), f.blk h.h5 (by decide), f.blk h.op (by decide), h.bel.trans (f.below h.le), Nat.le_trans h.le f.size, Nat.le_trans h.size f.size⟩
theorem St.alloc (h : St B w0 pb ab rb T1 T2 told tv o hd b5 w) (x : Obj) : St B w0 pb ab rb T1 T2 told tv o hd b5 (w.alloc x) := h.below ((Below.refl _ _).alloc (Nat.le_refl _) x)
theorem St.pair (h : St B w0 pb ab rb T1 T1 told tv o hd b5 w) (p : PairAt B w0 pb ab rb T2 told tv) : PairAt B w pb ab rb T1 told tv := ⟨h.blk, p.base, h.ar, h.rf, h.row, p.bnd⟩
end

theorem pre39 {B : Nat} {L : List TypeId} {wc W w3 : World} (hf : FrT L B W w3) (hW : W.heap = (wc.alloc (.cells #[.int .u32 0, .int .u32 0] 39)).heap) (h39 : 39 ∉ L) : w3.heap[wc.heap.size]? = some (.cells #[.int .u32 0, .int .u32 0] 39 (0, 0)) :=
  hf.blk (by rw [hW]; exact Go.heap_alloc_new wc _) h39

section
variable {B : Nat} {w0 w W : World} {pb ab rb : Nat} {T1 T2 T3 T4 : TA Int} {told : List (Nat × Nat)} {tv : Value} {o : OpV} {hd : Nat × Nat} {b5 : Nat}
/-- A store into a handle's block that was not there yet in w. -/
theorem St.set39 (h : St B w0 pb ab rb T1 T2 told tv o hd b5 w) (g : St B w0 pb ab rb T3 T4 told tv o hd b5 W) {b : Nat} {cs : Array Value} (hz : W.heap[b]? = some (.cells cs 39 (0, 0))) (hb : w.heap.size ≤ b) (i : Nat) (u : Value) : St B w0 pb ab rb T3 T4 told tv o hd b5 (W.setCell ⟨b, i, none⟩ u) :=
  have f : FrT [39] 0 W (W.setCell ⟨b, i, none⟩ u) := (FrT.refl _ _ _).set (Nat.zero_le _) hz (by simp) u
  let ⟨_, _, hr⟩ := g.rf
  have l1 := lt_of_some h.blk
  have l2 := lt_of_some h.h5
  have l3 := lt_of_some h.op
  have l4 := h.le
  ⟨set_other g.blk (by simp; omega) u, g.ar.kept f (by decide) (by decide) (by decide), ⟨_, _, hr.kept f (by decide) (by decide) (by decide)⟩,
    ownsRow_setCell_other g.row (by
      rcases h.row.2 with ⟨rfl, _⟩ | ⟨k, cap, cur, rfl, _, hk, _⟩
      · simp [Value.ownBlock]
      · have := lt_of_some hk
        simp [Value.ownBlock]; omega) u,
    set_other g.h5 (by simp; omega) u, set_other g.op (by simp; omega) u, g.bel.setCell (by simp; omega) u, by simpa using g.le, by simpa using g.size⟩

/-- Behind a call that hands back a handle: the handle in a block of its own, laid behind the call or ahead of it. -/
structure Gave (B : Nat) (w0 w1 : World) (pb ab rb : Nat) (T1 T2 : TA Int) (told : List (Nat × Nat)) (tv : Value) (o : OpV) (hd : Nat × Nat) (b5 : Nat) (b s g : Nat) (w : World) : Prop where
  st : St B w0 pb ab rb T1 T2 told tv o hd b5 w
  blk : w.heap[b]? = some (.cells #[.int .u32 (s : Int), .int .u32 (g : Int)] 39 (0, 0))
  new : w1.heap.size ≤ b
theorem St.gaveAfter (g3 : St B w0 pb ab rb T3 T4 told tv o hd b5 W) (hle : w.heap.size ≤ W.heap.size) (s g : Nat) : Gave B w0 w pb ab rb T3 T4 told tv o hd b5 W.heap.size s g (W.alloc (.cells #[.int .u32 (s : Int), .int .u32 (g : Int)] 39)) :=
  ⟨g3.alloc _, Go.heap_alloc_new W _, hle⟩
theorem St.gaveBefore (h : St B w0 pb ab rb T1 T2 told tv o hd b5 w) (g3 : St B w0 pb ab rb T3 T4 told tv o hd b5 W) (hz : W.heap[w.heap.size]? = some (.cells #[.int .u32 0, .int .u32 0] 39 (0, 0))) (s g : Nat) :
    Gave B w0 w pb ab rb T3 T4 told tv o hd b5 w.heap.size s g ((W.setCell ⟨w.heap.size, 0, none⟩ (.int .u32 (s : Int))).setCell ⟨w.heap.size, 1, none⟩ (.int .u32 (g : Int))) :=
  ⟨h.set39 (h.set39 g3 hz (Nat.le_refl _) 0 _) (set_blk hz 0 _) (Nat.le_refl _) 1 _, set_blk (set_blk hz 0 _) 1 _, Nat.le_refl _⟩

/-- The handle is appended to those that were told. -/
theorem St.push {w1 : World} (h : St B w0 pb ab rb T1 T1 told tv o hd b5 W) (p : B ≤ pb) (hb : ∀ h ∈ told, h.1 ≤ 4294967295 ∧ h.2 ≤ 4294967295) {s g : Nat} (hs : s ≤ 4294967295) (hg : g ≤ 4294967295) (c : Obj) (hgrow : ((W.alloc c).drew).grownBy w1 tv.ownBlock) {tv' : Value}
    (hown : w1.ownsRow B 39 2 tv' (told.length + 1) (hcells told ++ [.int .u32 (s : Int), .int .u32 (g : Int)])) :
    PairAt B (w1.setCell ⟨pb, 2, none⟩ tv') pb ab rb T1 (told ++ [(s, g)]) tv' ∧ Below B w0 (w1.setCell ⟨pb, 2, none⟩ tv') := by
  have f1 : FrT [39] B W w1 := ((FrT.refl _ _ _).alloc c).drew.append ((h.row.alloc c).drew) (Nat.le_refl _) (by simp) hgrow
  have b1 := f1.blk h.blk (by decide)
  have f : FrT [39, 70] B W (w1.setCell ⟨pb, 2, none⟩ tv') := (f1.mono (by simp) (Nat.le_refl _)).set p b1 (by simp) tv'
  obtain ⟨_, _, hr⟩ := h.rf
  refine ⟨⟨set_blk b1 2 tv', p, h.ar.kept f (by decide) (by decide) (by decide), ⟨_, _, hr.kept f (by decide) (by decide) (by decide)⟩, ?_, ?_⟩, h.bel.trans (f.below h.le)⟩
  · have := ownsRow_other hown b1 (by decide) 2 tv'
    simpa [hcells] using this
  · intro x hx
    rcases List.mem_append.1 hx with hx | hx
    · exact hb x hx
    · simp at hx; subst hx; exact ⟨hs, hg⟩
end

theorem alloc_code {T : TA Int} (x : Int) : (T.alloc x).2.2.2 = 0 ∨ (T.alloc x).2.2.2 = 52 := by
  unfold TA.alloc
  cases T.free.getLast? with
  | none => by_cases hl : T.all.length < T.S <;> simp [hl]
  | some k => cases hk : T.all[k]? <;> simp [hk]
theorem alloc_bnd {T : TA Int} (ok : (T.ar encI).Ok 1) (x : Int) : (T.alloc x).2.1 ≤ 4294967295 ∧ (T.alloc x).2.2.1 ≤ 4294967295 := by
  have h1 := ok.len
  have h2 := ok.S2
  have h3 := ok.G2
  simp [TA.ar] at h1 h2 h3
  unfold TA.alloc
  cases hg : T.free.getLast? with
  | none => by_cases hl : T.all.length < T.S <;> simp [hl]; omega
  | some k =>
    cases hk : T.all[k]? with
    | none => simp [hk]
    | some y =>
      obtain ⟨g, u, z⟩ := y
      have hkl : k < T.all.length := (List.getElem?_eq_some_iff.1 hk).1
      have hkf : k ∈ T.free := by
        obtain ⟨hne, he⟩ := List.getLast?_eq_some_iff.1 hg
        rw [he]; simp
      obtain ⟨g', t, h5, h6⟩ := ok.free k hkf
      have h7 := TA.ar_get (enc := encI) hk
      rw [h7] at h5
      simp only [Option.some.injEq, Prod.mk.injEq] at h5
      obtain ⟨rfl, _, _⟩ := h5
      simp [TA.ar] at h6
      simp [hk]; omega

theorem handleOf_bnd {told : List (Nat × Nat)} (hb : ∀ h ∈ told, h.1 ≤ 4294967295 ∧ h.2 ≤ 4294967295) (which : Int) (s g : Nat) (hand : Bool) (hs : s ≤ 4294967295) (hg : g ≤ 4294967295) :
    (handleOf which s g hand told).1 ≤ 4294967295 ∧ (handleOf which s g hand told).2 ≤ 4294967295 := by
  unfold handleOf
  by_cases hc : hand = true ∨ told = []
  · rw [if_pos hc]; exact ⟨hs, hg⟩
  · rw [if_neg hc]
    have hl0 : 0 < told.length := by cases told <;> simp_all
    have hp : pickN which told.length < told.length := Nat.mod_lt _ hl0
    have hk : told[pickN which told.length]? = some (told.getD (pickN which told.length) (0, 0)) := by simp [hp]
    exact hb _ (List.mem_of_getElem? hk)

/-- Behind a step: both arenas hold the same data again. -/
structure StepOk (B : Nat) (w : World) (pb ab rb : Nat) (told : List (Nat × Nat)) (w' : World) : Prop where
  ok : ∃ T' told' tv', PairAt B w' pb ab rb T' told' tv' ∧ told'.length ≤ told.length + 1
  bel : Below B w w'

theorem code_true (e : Int) (w : World) : Calls Try.prog 34 #[.bool true, .int .i64 e] w fun r w' => r = .returned (.int .i64 0) ∧ w = w' := by
  go_enter Try.func34, Try.ntmps34
  go_wp2
  go_ret
  exact ⟨rfl, rfl⟩
theorem code_false (e : Int) (w : World) : Calls Try.prog 34 #[.bool false, .int .i64 e] w fun r w' => r = .returned (.int .i64 e) ∧ w = w' := by
  go_enter Try.func34, Try.ntmps34
  go_wp2
  go_ret
  exact ⟨rfl, rfl⟩
theorem code_any (b : Bool) (e : Int) (w : World) : Calls Try.prog 34 #[.bool b, .int .i64 e] w fun r w' => r = .returned (.int .i64 (if b then 0 else e)) ∧ w = w' := by
  cases b
  · exact code_false e w
  · exact code_true e w
theorem drop_code (T : TA Int) (s g : Nat) : ((T.drop 0 s g).2 : Int) = if (T.at s g).isSome then 0 else 51 := by
  unfold TA.drop
  cases T.at s g with
  | none => rfl
  | some x => by_cases h : g < T.G <;> simp [h]
theorem put_code (T : TA Int) (x : Int) (s g : Nat) : ((T.put x s g).2 : Int) = if (T.at s g).isSome then 0 else 51 := by
  unfold TA.put
  cases T.at s g <;> rfl
theorem get_code (T : TA Int) (s g : Nat) : ((T.get 0 s g).2 : Int) = if (T.at s g).isSome then 0 else 51 := by
  unfold TA.get
  cases T.at s g <;> rfl

set_option maxHeartbeats 20000000 in
theorem pair_step {B : Nat} {w : World} {pb ab rb : Nat} {T : TA Int} {told : List (Nat × Nat)} {tv : Value} (h : PairAt B w pb ab rb T told tv) (o : OpV) (ok : o.Ok) (hlen : told.length ≤ 2097152) (hB : B ≤ w.heap.size) :
    Calls Try.prog 35 #[.pointer (some ⟨pb, 0, none⟩), .agg o.cells.toArray] w fun e w' => e = .returned (.bool true) ∧ StepOk B w pb ab rb told w' := by
  have hpb := lt_of_some h.blk
  have a2 := cell_blk h.blk 2 rfl
  simp at a2
  have H := Lib.hid h
  have OK := Lib.hid ok
  clear h ok
  simp only [OpV.cells]
  go_enter Try.func35, Try.ntmps35
  go_upto_region 1 with (fail)
  obtain ⟨hd, hhd⟩ : ∃ hd, hd = handleOf o.w o.s o.g o.h told := ⟨_, rfl⟩
  go_cut [5] (fun v5 wc => ∃ b5, v5 = .pointer (some ⟨b5, 0, none⟩) ∧ S1 w o hd b5 wc)
  case first =>
    as_aux_lemma =>
      go_region_with (go_at_call 25; refine (handle_any o.k o.x o.w o.e o.s o.g o.h _ B _ told (by omega) ⟨OK.out.w1, OK.out.w2⟩ (H.out.below (by repeat (first | exact Below.refl _ _ | assumption | refine Below.drew ?_ | refine below_drewN ?_ _ | refine Below.alloc ?_ (by simp <;> omega) _ | refine Below.setCell ?_ (by simp <;> omega) _ | (apply bl_trans; assumption; (simp <;> omega))))).row).mono ?_; rintro e w2 ⟨rfl, hb⟩; try (obtain ⟨y0, z0⟩ := mid_cell (w := w) (o := .cells #[.int .i64 o.k, .int .i64 o.x, .int .i64 o.w, .int .i64 o.e, .int .u32 (o.s : Int), .int .u32 (o.g : Int), .bool o.h] 57) (cs := #[.int .u32 0, .int .u32 0]) hb rfl 0 rfl; obtain ⟨y1, z1⟩ := mid_cell (w := w) (o := .cells #[.int .i64 o.k, .int .i64 o.x, .int .i64 o.w, .int .i64 o.e, .int .u32 (o.s : Int), .int .u32 (o.g : Int), .bool o.h] 57) (cs := #[.int .u32 0, .int .u32 0]) hb rfl 1 rfl))
      all_goals
        rw [← hhd]
        go_wp2_with fail
        go_meet
        case rel => first | exact ⟨_, rfl, s1_after hb rfl⟩ | exact ⟨_, rfl, s1_before hb rfl⟩
  case rest =>
    obtain ⟨b5, rfl, h1⟩ := hcut
    have hbnd := handleOf_bnd H.out.bnd o.w o.s o.g o.h OK.out.s OK.out.g
    rw [← hhd] at hbnd
    have HS := Lib.hid (h1.st H.out hB)
    have op0 := cell_blk h1.op 0 rfl
    simp at op0
    have hos := lt_of_some h1.op
    clear h1 hhd a2
    by_cases k1 : o.k = 1
    · as_aux_lemma =>
        have q1 : (o.k == 1) = true := by simp [k1]
        clear k1
        go_upto_region 4 with (fail)
        have p0 := cell_blk HS.out.blk 0 rfl
        have x1 := cell_blk HS.out.op 1 rfl
        have hpw := lt_of_some HS.out.blk
        simp at p0 x1
        obtain ⟨R, hR⟩ : ∃ R, R = T.alloc o.x := ⟨_, rfl⟩
        go_cut [6, 7] (fun v6 v7 wx => ∃ b6, v6 = .pointer (some ⟨b6, 0, none⟩) ∧ v7 = .int .i64 (R.2.2.2 : Int) ∧ Gave B w wc pb ab rb R.1 T told tv o hd b5 b6 R.2.1 R.2.2.1 wx)
        case first =>
          as_aux_lemma =>
            go_region_with (go_at_call 27; refine (arITop_alloc (HS.out.below (by repeat (first | exact Below.refl _ _ | assumption | refine Below.drew ?_ | refine below_drewN ?_ _ | refine Below.alloc ?_ (by simp <;> omega) _ | refine Below.setCell ?_ (by simp <;> omega) _ | (apply bl_trans; assumption; (simp <;> omega))))).ar o.x).mono ?_; rintro e w3 ⟨rfl, ha, hf⟩; try (have hz := pre39 (wc := wc) hf rfl (by decide); have z0 := cell_blk hz 0 rfl; have z1 := cell_blk hz 1 rfl; have e0 := free_blk hz 0; have e1 := free_blk hz 1))
            all_goals
              rw [← hR] at ha ⊢
              go_wp2_with fail
              go_meet
              case rel =>
                first
                  | exact ⟨_, rfl, rfl, ((HS.out.below (by repeat (first | exact Below.refl _ _ | assumption | refine Below.drew ?_ | refine below_drewN ?_ _ | refine Below.alloc ?_ (by simp <;> omega) _ | refine Below.setCell ?_ (by simp <;> omega) _ | (apply bl_trans; assumption; (simp <;> omega))))).prog ha hf).gaveAfter (Nat.le_trans (by simp) hf.size) _ _⟩
                  | exact ⟨_, rfl, rfl, HS.out.gaveBefore ((HS.out.below (by repeat (first | exact Below.refl _ _ | assumption | refine Below.drew ?_ | refine below_drewN ?_ _ | refine Below.alloc ?_ (by simp <;> omega) _ | refine Below.setCell ?_ (by simp <;> omega) _ | (apply bl_trans; assumption; (simp <;> omega))))).prog ha hf) hz _ _⟩
        case rest =>
          obtain ⟨b6, rfl, rfl, hg6⟩ := hcut
          have HG := Lib.hid hg6
          have hnw := hg6.new
          have hb6 := lt_of_some hg6.blk
          have htv : tv.ownBlock ≠ some b6 := by
            rcases HS.out.row.2 with ⟨h', _⟩ | ⟨k, cap, cur, h', _, hk, _⟩
            · rw [h']; simp [Value.ownBlock]
            · have := lt_of_some hk
              rw [h']; simp [Value.ownBlock]; omega
          clear hg6 p0 x1 hpw op0
          go_upto_region 5 with (fail)
          have p0 := cell_blk HG.out.st.blk 1 rfl
          have x1 := cell_blk HG.out.st.op 1 rfl
          have hpw := lt_of_some HG.out.st.blk
          have how := lt_of_some HG.out.st.op
          simp at p0 x1
          obtain ⟨av, fv, hr⟩ := HG.out.st.rf
          have HR := Lib.hid hr
          clear hr
          go_cut [8, 9] (fun v8 v9 wy => ∃ b8, v8 = .pointer (some ⟨b8, 0, none⟩) ∧ v9 = .bool (decide (R.2.2.2 = 0)) ∧ Gave B w wc pb ab rb R.1 R.1 told tv o hd b5 b8 R.2.1 R.2.2.1 wy ∧ wy.heap[b6]? = some (.cells #[.int .u32 (R.2.1 : Int), .int .u32 (R.2.2.1 : Int)] 39 (0, 0)))
          case first =>
            as_aux_lemma =>
              go_region_with (go_at_call 59; refine (rf_alloc (HR.out.below (by repeat (first | exact Below.refl _ _ | assumption | refine Below.drew ?_ | refine below_drewN ?_ _ | refine Below.alloc ?_ (by simp <;> omega) _ | refine Below.setCell ?_ (by simp <;> omega) _ | (apply bl_trans; assumption; (simp <;> omega))))) o.x).mono ?_; rintro e w3 ⟨rfl, ha, hf⟩; try (have hz := pre39 (wc := wc) hf rfl (by decide); have z0 := cell_blk hz 0 rfl; have z1 := cell_blk hz 1 rfl; have e0 := free_blk hz 0; have e1 := free_blk hz 1))
              all_goals
                rw [← hR] at ha ⊢
                go_wp2_with fail
                go_meet
                case rel =>
                  first
                    | exact ⟨_, rfl, rfl, ((HG.out.st.below (by repeat (first | exact Below.refl _ _ | assumption | refine Below.drew ?_ | refine below_drewN ?_ _ | refine Below.alloc ?_ (by simp <;> omega) _ | refine Below.setCell ?_ (by simp <;> omega) _ | (apply bl_trans; assumption; (simp <;> omega))))).ref ha hf).gaveAfter (Nat.le_trans (by simp) hf.size) _ _, alloc_blk (hf.blk (by exact (Below.block ((by repeat (first | exact Below.refl _ _ | assumption | refine Below.drew ?_ | refine below_drewN ?_ _ | refine Below.alloc ?_ (by simp <;> omega) _ | refine Below.setCell ?_ (by simp <;> omega) _ | (apply bl_trans; assumption; (simp <;> omega)))) : Below wc.heap.size wc _) _ hb6).trans HG.out.blk) (by decide)) _⟩
                    | exact ⟨_, rfl, rfl, HG.out.st.gaveBefore ((HG.out.st.below (by repeat (first | exact Below.refl _ _ | assumption | refine Below.drew ?_ | refine below_drewN ?_ _ | refine Below.alloc ?_ (by simp <;> omega) _ | refine Below.setCell ?_ (by simp <;> omega) _ | (apply bl_trans; assumption; (simp <;> omega))))).ref ha hf) hz _ _, set_other (set_other (hf.blk (by exact (Below.block ((by repeat (first | exact Below.refl _ _ | assumption | refine Below.drew ?_ | refine below_drewN ?_ _ | refine Below.alloc ?_ (by simp <;> omega) _ | refine Below.setCell ?_ (by simp <;> omega) _ | (apply bl_trans; assumption; (simp <;> omega)))) : Below wc.heap.size wc _) _ hb6).trans HG.out.blk) (by decide)) (by simp; omega) _) (by simp; omega) _⟩
          case rest =>
            obtain ⟨b8, rfl, rfl, hg8, hz6⟩ := hcut
            have hcode := alloc_code (T := T) o.x
            have hbn := alloc_bnd (T := T) (x := o.x) (by obtain ⟨_, _, h⟩ := H.out.ar; exact h.ok)
            rw [← hR] at hcode hbn
            have hn8 := hg8.new
            have hb8 := lt_of_some hg8.blk
            have hrow := hg8.st.row
            have htv8 : tv.ownBlock ≠ some b8 := by
              rcases HG.out.st.row.2 with ⟨h', _⟩ | ⟨k, cap, cur, h', _, hk, _⟩
              · rw [h']; simp [Value.ownBlock]
              · have := lt_of_some hk
                rw [h']; simp [Value.ownBlock]; omega
            have hp1 := lt_of_some HS.out.blk
            have m6 : pb ≠ b6 := by omega
            have m8 : pb ≠ b8 := by omega
            have m6' := m6.symm
            have m8' := m8.symm
            have hbe : B ≤ wc.heap.size := hg8.st.le
            have HG8 := Lib.hid hg8
            have HZ6 := Lib.hid hz6
            clear hg8 HR p0 x1 HG HS hpw how hnw hn8 hb6 hb8 hp1
            obtain ⟨T', s, g, c⟩ := R
            dsimp only at HG8 HZ6 hcode hbn hz6 ⊢
            have hb6 := lt_of_some hz6
            have hb8 := lt_of_some HG8.out.blk
            have hpw := lt_of_some HG8.out.st.blk
            have q9 : hEq (s : Int) (g : Int) (s : Int) (g : Int) = true := hEq_true rfl rfl
            rcases hcode with rfl | rfl
            · as_aux_lemma =>
                have z0 := cell_blk HG8.out.blk 0 rfl
                have z1 := cell_blk HG8.out.blk 1 rfl
                have p2 := cell_blk HG8.out.st.blk 2 rfl
                have e2 := free_blk HG8.out.st.blk 2
                simp at z0 z1 p2
                obtain ⟨i39, hi39, ha1, ha2, ha3⟩ := info_parts (show (Try.prog.info? 39).map (fun i => (i.zero, i.size, i.bytes)) = some (some (.agg #[.int .u32 0, .int .u32 0]), 2, 8) by kernel_rfl)
                clear hz6 hR
                go_upto_region 7 with (fail)
                go_region_law ((refine step_append_lies _ (by rfl) _ _ 36 (by rfl) B 39 i39 _ 2 8 Try.underlying36 hi39 ha1 ha2 ha3 rfl (by omega) tv _ _ (by rfl) ((hrow.alloc _).drew) ⟨wc.heap.size, 0, none⟩ 1 1 [.int .u32 (s : Int), .int .u32 (g : Int)] (by rfl) (by rfl) (World.news_of_block (cs := #[.int .u32 (s : Int), .int .u32 (g : Int)]) (t := 39) (fr := (0, 0)) (Go.heap_alloc_new wc _)) (by simp [Value.oneCell']) (by omega) (by unfold maxLen; omega) (by omega) (by simp; omega) (wc.heap.size + 1) (by simp) ?_; intro gg cap1 w1 hown1 hgrow hat hlt; have nb1 := (hgrow.block pb (by simp; omega) (row_ne hrow HG8.out.st.blk (by decide))).trans (alloc_blk HG8.out.st.blk _); have x1 := cell_blk nb1 2 rfl; have x2 := free_blk nb1 2; have u6 := (hgrow.block b6 (by simp; omega) htv.symm).trans (alloc_blk HZ6.out _); have u8 := (hgrow.block b8 (by simp; omega) htv8.symm).trans (alloc_blk HG8.out.blk _); have t0 := cell_blk u6 0 rfl; have t1 := cell_blk u6 1 rfl; have t2 := cell_blk u8 0 rfl; have t3 := cell_blk u8 1 rfl))
                all_goals simp at t0 t1 t2 t3
                all_goals go_wp2_with (go_at_call 34; refine (code_true 52 _).mono ?_; rintro e w6 ⟨rfl, rfl⟩)
                all_goals go_ret
                all_goals exact ⟨by first | rfl | simp, ⟨_, _, _, (HG8.out.st.push H.out.base H.out.bnd hbn.1 hbn.2 _ hgrow hown1).1, by simp⟩, (HG8.out.st.push H.out.base H.out.bnd hbn.1 hbn.2 _ hgrow hown1).2⟩
            · as_aux_lemma =>
                have z0 := cell_blk HG8.out.blk 0 rfl
                have z1 := cell_blk HG8.out.blk 1 rfl
                have t0 := cell_blk hz6 0 rfl
                have t1 := cell_blk hz6 1 rfl
                simp at z0 z1 t0 t1
                clear hz6 hR hrow
                go_wp2_with (go_at_call 34; refine (code_false 52 _).mono ?_; rintro e w6 ⟨rfl, rfl⟩)
                go_ret
                exact ⟨by first | rfl | simp, ⟨_, told, tv, HG8.out.st.pair H.out, Nat.le_succ _⟩, HG8.out.st.bel⟩
    · have q1 : (o.k == 1) = false := by simp [k1]
      clear k1
      by_cases k2 : o.k = 2
      · as_aux_lemma =>
          have q2 : (o.k == 2) = true := by simp [k2]
          clear k2
          go_upto_region 10 with (fail)
          have p0 := cell_blk HS.out.blk 0 rfl
          have y0 := cell_blk HS.out.h5 0 rfl
          have y1 := cell_blk HS.out.h5 1 rfl
          simp at p0 y0 y1
          go_still_tail 5, (by kernel_rfl)
          change wpList _ _ _ _ _ wc.drew
          have HS2 := Lib.hid (HS.out.below (w' := wc.drew) (by repeat (first | exact Below.refl _ _ | assumption | refine Below.drew ?_ | refine below_drewN ?_ _ | refine Below.alloc ?_ (by simp <;> omega) _ | refine Below.setCell ?_ (by simp <;> omega) _ | (apply bl_trans; assumption; (simp <;> omega)))))
          generalize wc.drew = W2 at HS2 ⊢
          clear p0 y0 y1 op0 HS
          go_wp2_with fail
          refine (arITop_free HS2.out.ar hd.1 hd.2 hbnd.1 hbnd.2).mono ?_
          rintro e w3 ⟨rfl, ha, hf⟩
          have HS3 := Lib.hid (HS2.out.prog ha hf)
          clear ha hf HS2
          go_upto_region 11 with (fail)
          have p0 := cell_blk HS3.out.blk 1 rfl
          have y0 := cell_blk HS3.out.h5 0 rfl
          have y1 := cell_blk HS3.out.h5 1 rfl
          simp at p0 y0 y1
          go_still_tail 5, (by kernel_rfl)
          change wpList _ _ _ _ _ w3.drew
          have HS4 := Lib.hid (HS3.out.below (w' := w3.drew) (by repeat (first | exact Below.refl _ _ | assumption | refine Below.drew ?_ | refine below_drewN ?_ _ | refine Below.alloc ?_ (by simp <;> omega) _ | refine Below.setCell ?_ (by simp <;> omega) _ | (apply bl_trans; assumption; (simp <;> omega)))))
          generalize w3.drew = W4 at HS4 ⊢
          clear p0 y0 y1 HS3
          go_wp2_with fail
          obtain ⟨av, fv, hr⟩ := HS4.out.rf
          refine (rf_drop hr hd.1 hd.2 hbnd.1 hbnd.2).mono ?_
          rintro e w5 ⟨rfl, hr5, hf⟩
          have HS5 := Lib.hid (HS4.out.ref hr5 hf)
          clear hr hr5 hf HS4
          rw [drop_code]
          generalize (T.at hd.1 hd.2).isSome = bb
          cases bb
          all_goals
            go_wp2_with (first | (go_at_call 34; refine (code_true 51 _).mono ?_; rintro e w6 ⟨rfl, rfl⟩) | (go_at_call 34; refine (code_false 51 _).mono ?_; rintro e w6 ⟨rfl, rfl⟩))
            go_ret
            exact ⟨by first | rfl | simp, ⟨_, told, tv, HS5.out.pair H.out, Nat.le_succ _⟩, HS5.out.bel⟩
      · have q2 : (o.k == 2) = false := by simp [k2]
        clear k2
        by_cases k4 : o.k = 4
        · as_aux_lemma =>
            have q3 : (o.k == 3) = false := by simp [k4]
            have q4 : (o.k == 4) = true := by simp [k4]
            clear k4
            go_upto_region 18 with (fail)
            have p0 := cell_blk HS.out.blk 0 rfl
            have y0 := cell_blk HS.out.h5 0 rfl
            have y1 := cell_blk HS.out.h5 1 rfl
            have x1 := cell_blk HS.out.op 1 rfl
            simp at p0 y0 y1 x1
            go_still_tail 7, (by kernel_rfl)
            change wpList _ _ _ _ _ wc.drew
            have HS2 := Lib.hid (HS.out.below (w' := wc.drew) (by repeat (first | exact Below.refl _ _ | assumption | refine Below.drew ?_ | refine below_drewN ?_ _ | refine Below.alloc ?_ (by simp <;> omega) _ | refine Below.setCell ?_ (by simp <;> omega) _ | (apply bl_trans; assumption; (simp <;> omega)))))
            generalize wc.drew = W2 at HS2 ⊢
            clear p0 y0 y1 op0 x1 HS
            go_wp2_with fail
            refine (arITop_set HS2.out.ar hd.1 hd.2 o.x hbnd.1 hbnd.2).mono ?_
            rintro e w3 ⟨rfl, ha, hf⟩
            have HS3 := Lib.hid (HS2.out.prog ha hf)
            clear ha hf HS2
            go_upto_region 19 with (fail)
            have p0 := cell_blk HS3.out.blk 1 rfl
            have y0 := cell_blk HS3.out.h5 0 rfl
            have y1 := cell_blk HS3.out.h5 1 rfl
            have x1 := cell_blk HS3.out.op 1 rfl
            simp at p0 y0 y1 x1
            go_still_tail 7, (by kernel_rfl)
            change wpList _ _ _ _ _ w3.drew
            have HS4 := Lib.hid (HS3.out.below (w' := w3.drew) (by repeat (first | exact Below.refl _ _ | assumption | refine Below.drew ?_ | refine below_drewN ?_ _ | refine Below.alloc ?_ (by simp <;> omega) _ | refine Below.setCell ?_ (by simp <;> omega) _ | (apply bl_trans; assumption; (simp <;> omega)))))
            generalize w3.drew = W4 at HS4 ⊢
            clear p0 y0 y1 x1 HS3
            go_wp2_with fail
            obtain ⟨av, fv, hr⟩ := HS4.out.rf
            refine (rf_set hr hd.1 hd.2 o.x hbnd.1 hbnd.2).mono ?_
            rintro e w5 ⟨rfl, hr5, hf⟩
            have HS5 := Lib.hid (HS4.out.ref hr5 hf)
            clear hr hr5 hf HS4
            rw [put_code]
            generalize (T.at hd.1 hd.2).isSome = bb
            cases bb
            all_goals
              go_wp2_with (first | (go_at_call 34; refine (code_true 51 _).mono ?_; rintro e w6 ⟨rfl, rfl⟩) | (go_at_call 34; refine (code_false 51 _).mono ?_; rintro e w6 ⟨rfl, rfl⟩))
              go_ret
              exact ⟨by first | rfl | simp, ⟨_, told, tv, HS5.out.pair H.out, Nat.le_succ _⟩, HS5.out.bel⟩
        · have q4 : (o.k == 4) = false := by simp [k4]
          clear k4
          by_cases k3 : o.k = 3
          · as_aux_lemma =>
              have q3 : (o.k == 3) = true := by simp [k3]
              clear k3
              go_upto_region 14 with (fail)
              have p0 := cell_blk HS.out.blk 0 rfl
              have y0 := cell_blk HS.out.h5 0 rfl
              have y1 := cell_blk HS.out.h5 1 rfl
              simp at p0 y0 y1
              go_cut [12, 13] (fun v12 v13 wx => v12 = .int .i64 (T.get 0 hd.1 hd.2).1 ∧ v13 = .int .i64 ((T.get 0 hd.1 hd.2).2 : Int) ∧ St B w pb ab rb T T told tv o hd b5 wx)
              case first =>
                as_aux_lemma =>
                  go_region_with (go_at_call 26; refine (arITop_get (HS.out.below (by repeat (first | exact Below.refl _ _ | assumption | refine Below.drew ?_ | refine below_drewN ?_ _ | refine Below.alloc ?_ (by simp <;> omega) _ | refine Below.setCell ?_ (by simp <;> omega) _ | (apply bl_trans; assumption; (simp <;> omega))))).ar hd.1 hd.2 hbnd.1 hbnd.2).mono ?_; rintro e w3 ⟨he, hb⟩; have he := he _ rfl; subst he)
                  all_goals
                    go_wp2_with fail
                    go_meet
                    case rel => exact ⟨rfl, rfl, HS.out.below (bl_trans hb (by simp) (by repeat (first | exact Below.refl _ _ | assumption | refine Below.drew ?_ | refine below_drewN ?_ _ | refine Below.alloc ?_ (by simp <;> omega) _ | refine Below.setCell ?_ (by simp <;> omega) _ | (apply bl_trans; assumption; (simp <;> omega)))))⟩
              case rest =>
                obtain ⟨rfl, rfl, hst⟩ := hcut
                have HS2 := Lib.hid hst
                clear hst HS p0 y0 y1 op0
                have p0 := cell_blk HS2.out.blk 1 rfl
                have y0 := cell_blk HS2.out.h5 0 rfl
                have y1 := cell_blk HS2.out.h5 1 rfl
                simp at p0 y0 y1
                obtain ⟨av, fv, hr⟩ := HS2.out.rf
                have HR := Lib.hid hr
                clear hr
                go_upto_region 15 with (fail)
                go_cut [14, 15] (fun v14 v15 wy => v14 = .int .i64 (T.get 0 hd.1 hd.2).1 ∧ v15 = .bool (T.at hd.1 hd.2).isSome ∧ St B w pb ab rb T T told tv o hd b5 wy)
                case first =>
                  as_aux_lemma =>
                    go_region_with (go_at_call 61; refine (rf_get (HR.out.below (by repeat (first | exact Below.refl _ _ | assumption | refine Below.drew ?_ | refine below_drewN ?_ _ | refine Below.alloc ?_ (by simp <;> omega) _ | refine Below.setCell ?_ (by simp <;> omega) _ | (apply bl_trans; assumption; (simp <;> omega))))) hd.1 hd.2 hbnd.1 hbnd.2).mono ?_; rintro e w3 ⟨rfl, hb⟩)
                    all_goals
                      go_wp2_with fail
                      go_meet
                      case rel => exact ⟨rfl, rfl, HS2.out.below (bl_trans hb (by simp) (by repeat (first | exact Below.refl _ _ | assumption | refine Below.drew ?_ | refine below_drewN ?_ _ | refine Below.alloc ?_ (by simp <;> omega) _ | refine Below.setCell ?_ (by simp <;> omega) _ | (apply bl_trans; assumption; (simp <;> omega)))))⟩
                case rest =>
                  obtain ⟨rfl, rfl, hst⟩ := hcut
                  have HS3 := Lib.hid hst
                  clear hst HS2 p0 y0 y1 HR
                  rw [get_code]
                  generalize (T.get 0 hd.1 hd.2).1 = gx
                  generalize (T.at hd.1 hd.2).isSome = bb
                  cases bb
                  all_goals
                    go_wp2_with (first | (go_at_call 34; refine (code_true 51 _).mono ?_; rintro e w6 ⟨rfl, rfl⟩) | (go_at_call 34; refine (code_false 51 _).mono ?_; rintro e w6 ⟨rfl, rfl⟩))
                    go_ret
                    exact ⟨by first | rfl | simp, ⟨_, told, tv, HS3.out.pair H.out, Nat.le_succ _⟩, HS3.out.bel⟩
          · have q3 : (o.k == 3) = false := by simp [k3]
            clear k3
            go_wp2
            go_ret
            exact ⟨by rfl, ⟨T, told, tv, HS.out.pair H.out, Nat.le_succ _⟩, HS.out.bel⟩
end Go.Proofs.Ytlmbpbijhhnhpaa
