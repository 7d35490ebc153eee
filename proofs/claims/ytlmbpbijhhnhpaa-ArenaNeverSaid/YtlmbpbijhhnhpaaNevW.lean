/- The walk of ArenaNever's function: each round keeps the statement's lists beside the arena. -/
import Derived.Test.YtlmbpbijhhnhpaaHa5
import Derived.Test.YtlmbpbijhhnhpaaNev
import Derived.Deep.DeepCutAuto
import Derived.Deep.CutBlock
namespace Go.Proofs.Ytlmbpbijhhnhpaa
open Go.RowKit
set_option linter.unusedVariables false
set_option maxRecDepth 100000

structure OpD where
  k : Int
  x : Int
  w : Int
  e : Int
  s : Nat
  g : Nat
  h : Bool

def OpD.cells (o : OpD) : List Value := [.int .i64 o.k, .int .i64 o.x, .int .i64 o.w, .int .i64 o.e, .int .u32 (o.s : Int), .int .u32 (o.g : Int), .bool o.h]
structure OpD.Ok (o : OpD) : Prop where
  w1 : -9223372036854775808 ≤ o.w
  w2 : o.w ≤ 9223372036854775807
  s : o.s ≤ 4294967295
  g : o.g ≤ 4294967295

/-- What holds at each round's head. -/
structure NevI (B : Nat) (w0 : World) (ab : Nat) (S G len k : Nat) (T : TA Int) (told : List (Nat × Nat)) (live : List Bool) (thing : List Int) (a b c : Value) (w : World) : Prop where
  le : k ≤ len
  two : k ≤ 2000
  tl : told.length ≤ k
  nev : Nev T told live thing
  ar : ArIOf B w ab T
  S : T.S = S
  G : T.G = G
  rowT : w.ownsRow B 39 2 a told.length (hcells told)
  rowL : w.ownsRow B 4 1 b told.length (live.map Value.bool)
  rowX : w.ownsRow B 3 1 c told.length (thing.map (Value.int .i64))
  bel : Below B w0 w

theorem handleOf_bound {T : TA Int} {told : List (Nat × Nat)} {live : List Bool} {thing : List Int} (h : Nev T told live thing) {m : Nat} {enc : Int → List Value} (ok : (T.ar enc).Ok m) (which : Int) (s g : Nat) (hand : Bool) (hs : s ≤ 4294967295) (hg : g ≤ 4294967295) :
    (handleOf which s g hand told).1 ≤ 4294967295 ∧ (handleOf which s g hand told).2 ≤ 4294967295 := by
  unfold handleOf
  by_cases hc : hand = true ∨ told = []
  · rw [if_pos hc]; exact ⟨hs, hg⟩
  · rw [if_neg hc]
    have hl0 : 0 < told.length := by cases told <;> simp_all
    have hp : pickN which told.length < told.length := Nat.mod_lt _ hl0
    have hk : told[pickN which told.length]? = some (told.getD (pickN which told.length) (0, 0)) := by simp [hp]
    generalize told.getD (pickN which told.length) (0, 0) = x at hk
    obtain ⟨a, b⟩ := x
    obtain ⟨_, _, g', u, x, hx, hgg⟩ := h.old a b (List.mem_of_getElem? hk)
    have h1 := (List.getElem?_eq_some_iff.1 hx).1
    have h2 := ok.len
    have h3 := ok.S2
    have h4 := ok.gen _ (List.mem_of_getElem? (TA.ar_get (enc := enc) hx))
    have h5 := ok.G2
    simp [TA.ar] at h2 h3 h4 h5
    exact ⟨by simp only; omega, by simp only; omega⟩

theorem NevI.next {B : Nat} {w0 : World} {ab : Nat} {S G len k : Nat} {T : TA Int} {told : List (Nat × Nat)} {live : List Bool} {thing : List Int} {a b c : Value} {w : World} (hI : NevI B w0 ab S G len k T told live thing a b c w) (h1 : k < len) (h2 : k < 2000) :
    NevI B w0 ab S G len (k + 1) T told live thing a b c w :=
  ⟨h1, h2, Nat.le_succ_of_le hI.tl, hI.nev, hI.ar, hI.S, hI.G, hI.rowT, hI.rowL, hI.rowX, hI.bel⟩

theorem hgrowBlk {w w' : World} {v : Value} (hg : w.grownBy w' v.ownBlock) {base : Nat} {e : TypeId} {size n : Nat} {xs : List Value} (ho : w.ownsRow base e size v n xs) {k : Nat} {c : Array Value} {e' : TypeId} {fz : Nat × Nat} (hk : w.heap[k]? = some (.cells c e' fz)) (he : e ≠ e') : w'.heap[k]? = some (.cells c e' fz) :=
  (hg.block k (lt_of_some hk) (row_ne ho hk he)).trans hk

/-- The arena and the three lists, in memory. -/
structure Rows3 (B : Nat) (w0 : World) (ab : Nat) (T : TA Int) (told : List (Nat × Nat)) (live : List Bool) (thing : List Int) (a b c : Value) (w : World) : Prop where
  ar : ArIOf B w ab T
  rowT : w.ownsRow B 39 2 a told.length (hcells told)
  rowL : w.ownsRow B 4 1 b live.length (live.map Value.bool)
  rowX : w.ownsRow B 3 1 c thing.length (thing.map (Value.int .i64))
  bel : Below B w0 w
  le : B ≤ w.heap.size

section
variable {B : Nat} {w0 : World} {ab : Nat} {T : TA Int} {told : List (Nat × Nat)} {live : List Bool} {thing : List Int} {a b c : Value} {w w' : World}
theorem Rows3.alloc (h : Rows3 B w0 ab T told live thing a b c w) (o : Obj) : Rows3 B w0 ab T told live thing a b c (w.alloc o) :=
  ⟨h.ar.below (by repeat (first | exact Below.refl _ _ | assumption | refine Below.drew ?_ | refine below_drewN ?_ _ | refine Below.alloc ?_ (by simp <;> omega) _ | refine Below.setCell ?_ (by simp <;> omega) _ | (apply bl_trans; assumption; (simp <;> omega)))), h.rowT.alloc o, h.rowL.alloc o, h.rowX.alloc o, h.bel.alloc h.le o, by simp; have := h.le; omega⟩
theorem Rows3.fr {L : List TypeId} (h : Rows3 B w0 ab T told live thing a b c w) (f : FrT L B w w') (h1 : 119 ∉ L) (h2 : 123 ∉ L) (h3 : 37 ∉ L) : ArIOf B w' ab T ∧ Below B w0 w' ∧ B ≤ w'.heap.size :=
  ⟨h.ar.kept f h1 h2 h3, h.bel.trans (f.below h.le), Nat.le_trans h.le f.size⟩
theorem Rows3.appT (h : Rows3 B w0 ab T told live thing a b c w) (hg : w.grownBy w' a.ownBlock) {s g : Nat} {a' : Value} (ho : w'.ownsRow B 39 2 a' (told.length + 1) (hcells told ++ [.int .u32 (s : Int), .int .u32 (g : Int)])) :
    Rows3 B w0 ab T (told ++ [(s, g)]) live thing a' b c w' :=
  have f : FrT [39] B w w' := (FrT.refl _ _ _).append h.rowT (Nat.le_refl _) (by simp) hg
  have k := h.fr f (by decide) (by decide) (by decide)
  ⟨k.1, by rw [hcells_append, List.length_append]; exact ho, f.row h.rowL (by decide), f.row h.rowX (by decide), k.2.1, k.2.2⟩
theorem Rows3.appL (h : Rows3 B w0 ab T told live thing a b c w) (hg : w.grownBy w' b.ownBlock) {x : Bool} {b' : Value} (ho : w'.ownsRow B 4 1 b' (live.length + 1) (live.map Value.bool ++ [.bool x])) :
    Rows3 B w0 ab T told (live ++ [x]) thing a b' c w' :=
  have f : FrT [4] B w w' := (FrT.refl _ _ _).append h.rowL (Nat.le_refl _) (by simp) hg
  have k := h.fr f (by decide) (by decide) (by decide)
  ⟨k.1, f.row h.rowT (by decide), by rw [List.map_append, List.length_append]; exact ho, f.row h.rowX (by decide), k.2.1, k.2.2⟩
theorem Rows3.appX (h : Rows3 B w0 ab T told live thing a b c w) (hg : w.grownBy w' c.ownBlock) {x : Int} {c' : Value} (ho : w'.ownsRow B 3 1 c' (thing.length + 1) (thing.map (Value.int .i64) ++ [.int .i64 x])) :
    Rows3 B w0 ab T told live (thing ++ [x]) a b c' w' :=
  have f : FrT [3] B w w' := (FrT.refl _ _ _).append h.rowX (Nat.le_refl _) (by simp) hg
  have k := h.fr f (by decide) (by decide) (by decide)
  ⟨k.1, f.row h.rowT (by decide), f.row h.rowL (by decide), by rw [List.map_append, List.length_append]; exact ho, k.2.1, k.2.2⟩
end
theorem info39 : (Try.prog.info? 39).map (fun i => (i.zero, i.size, i.bytes)) = some (some (.agg #[.int .u32 0, .int .u32 0]), 2, 8) := by kernel_rfl
theorem info4 : (Try.prog.info? 4).map (fun i => (i.zero, i.size, i.bytes)) = some (some (.bool false), 1, 1) := by kernel_rfl
theorem info3 : (Try.prog.info? 3).map (fun i => (i.zero, i.size, i.bytes)) = some (some (.int .i64 0), 1, 8) := by kernel_rfl

/-- What the search finds: the place of a handle among those that were told; -1. -/
def Fnd (told : List (Nat × Nat)) (h : Nat × Nat) (kk : Int) : Prop := (kk = -1 ∧ h ∉ told) ∨ ∃ j : Nat, kk = (j : Int) ∧ told[j]? = some h

theorem NevI.below {B : Nat} {w0 : World} {ab : Nat} {S G len k : Nat} {T : TA Int} {told : List (Nat × Nat)} {live : List Bool} {thing : List Int} {a b c : Value} {w w' : World} (hI : NevI B w0 ab S G len k T told live thing a b c w) (bb : Below w.heap.size w w') (hB : B ≤ w.heap.size) :
    NevI B w0 ab S G len k T told live thing a b c w' :=
  have ff : FrT [] 0 w w' := FrT.of_below bb
  ⟨hI.le, hI.two, hI.tl, hI.nev, hI.ar.below bb, hI.S, hI.G, ff.row hI.rowT (by simp), ff.row hI.rowL (by simp), ff.row hI.rowX (by simp), hI.bel.trans (bb.mono hB)⟩

set_option maxHeartbeats 4000000 in
theorem never_walk (S G : Nat) (h1 : 1 ≤ S) (h2 : S ≤ 2147483647) (h3 : 1 ≤ G) (h4 : G ≤ 4294967295) (w : World) (b off len cap : Nat) (ops : List OpD) (hlen : ops.length = len) (hl : len ≤ 9223372036854775807) (hb : b < w.heap.size) (hok : ∀ o ∈ ops, o.Ok)
    (hc : ∀ i o, ops[i]? = some o → ∀ j v, o.cells[j]? = some v → w.cell? ⟨b, off + (i * 7 + j), none⟩ = some v) :
    Calls Try.prog 4 #[.int .i64 (S : Int), .int .i64 (G : Int), .slice (some ⟨b, off, none⟩) len cap] w fun e w' => e = .returned (.bool true) ∧ Below w.heap.size w w' := by
  have HLEN := Lib.hid hlen
  have HC := Lib.hid hc
  have HOK := Lib.hid hok
  clear hlen hc hok
  go_enter Try.func4, Try.ntmps4
  go_wp2_with fail
  refine (awake_true _).mono ?_
  rintro e w1 ⟨rfl, b1⟩
  have B1 := Lib.hid b1
  clear b1
  go_wp2_with fail
  refine (arITop_new S G w.heap.size w1 B1.out.size h1 h2 h3 h4).mono ?_
  rintro e w2 ⟨rfl, a2, b2⟩
  have A2 := Lib.hid a2
  have B2 := Lib.hid (B1.out.trans (b2.mono B1.out.size))
  have b12 := b2.size
  have b11 := B1.out.size
  clear a2 b2 B1
  go_wp2_with fail
  obtain ⟨ab, hab⟩ : ∃ ab, ab = w1.heap.size := ⟨_, rfl⟩
  rw [← hab] at A2 ⊢
  clear hab b12 b11
  go_loopw [10, 11, 12, 13] (fun a b c i wr => ∃ k T told live thing, i = .int .i64 (k : Nat) ∧ NevI w.heap.size w ab S G len k T told live thing a b c wr) (fun _ _ _ i _ => len - (intOf i).toNat)
  case atStart =>
    exact ⟨0, TA.new S G, [], [], [], rfl, ⟨Nat.zero_le _, by omega, Nat.le_refl _, Nev.start S G, A2.out, rfl, rfl, World.ownsRow_nil _ _ _ _, World.ownsRow_nil _ _ _ _, World.ownsRow_nil _ _ _ _, B2.out⟩⟩
  case round =>
    obtain ⟨k, T, told, live, thing, rfl, hI⟩ := hrel
    have hk1 := hI.le
    have hk2 := hI.two
    by_cases hlt : k < len ∧ k < 2000
    · obtain ⟨hlt, hlt2⟩ := hlt
      obtain ⟨o, ho⟩ : ∃ o, ops[k]? = some o := ⟨_, List.getElem?_eq_getElem (by rw [HLEN.out]; exact hlt)⟩
      have hoo := HOK.out o (List.mem_of_getElem? ho)
      have hcc := HC.out k o ho
      have hbw : b < wr.heap.size := Nat.lt_of_lt_of_le hb hI.bel.size
      have c0 := (hI.bel.cell (p := ⟨b, off + (k * 7 + 0), none⟩) hb).trans (hcc 0 _ rfl)
      have c1 := (hI.bel.cell (p := ⟨b, off + (k * 7 + 1), none⟩) hb).trans (hcc 1 _ rfl)
      have c2 := (hI.bel.cell (p := ⟨b, off + (k * 7 + 2), none⟩) hb).trans (hcc 2 _ rfl)
      have c3 := (hI.bel.cell (p := ⟨b, off + (k * 7 + 3), none⟩) hb).trans (hcc 3 _ rfl)
      have c4 := (hI.bel.cell (p := ⟨b, off + (k * 7 + 4), none⟩) hb).trans (hcc 4 _ rfl)
      have c5 := (hI.bel.cell (p := ⟨b, off + (k * 7 + 5), none⟩) hb).trans (hcc 5 _ rfl)
      have c6 := (hI.bel.cell (p := ⟨b, off + (k * 7 + 6), none⟩) hb).trans (hcc 6 _ rfl)
      simp only [← Nat.add_assoc, Nat.add_zero] at c0 c1 c2 c3 c4 c5 c6
      have HO := Lib.hid ho
      have HI := Lib.hid hI
      have hoo1 := hoo.w1
      have hoo2 := hoo.w2
      have hoos := hoo.s
      have hoog := hoo.g
      clear ho hI hcc hoo
      obtain ⟨ua, uc, rfl⟩ : ∃ ua uc, u10 = .slice ua told.length uc := by
        rcases HI.out.rowT.2 with ⟨rfl, hn⟩ | ⟨g, cap, cur, rfl, _⟩
        · exact ⟨none, 0, by rw [hn]⟩
        · exact ⟨_, cap, rfl⟩
      have htl := HI.out.tl
      go_wp2_with fail
      refine (handle_any o.k o.x o.w o.e o.s o.g o.h _ w.heap.size _ told (by omega) ⟨hoo1, hoo2⟩ (HI.out.rowT.alloc _)).mono ?_
      obtain ⟨hd, hhd⟩ : ∃ hd, hd = handleOf o.w o.s o.g o.h told := ⟨_, rfl⟩
      rw [← hhd]
      obtain ⟨hs, hg⟩ := hd
      rintro e w3 ⟨rfl, b3⟩
      have HHD := Lib.hid hhd
      have hW0 : w.heap.size ≤ wr.heap.size := HI.out.bel.size
      have HI3 : Hid (NevI w.heap.size w ab S G len k T told live thing (.slice ua told.length uc) u11 u12 w3) := Lib.hid (HI.out.below (bl_trans b3 (by simp) (by repeat (first | exact Below.refl _ _ | assumption | refine Below.drew ?_ | refine below_drewN ?_ _ | refine Below.alloc ?_ (by simp <;> omega) _ | refine Below.setCell ?_ (by simp <;> omega) _ | (apply bl_trans; assumption; (simp <;> omega))))) hW0)
      have hW3 : w.heap.size ≤ w3.heap.size := HI3.out.bel.size
      have X14 : Hid (w3.heap[wr.heap.size]? = some (.cells #[.int .i64 o.k, .int .i64 o.x, .int .i64 o.w, .int .i64 o.e, .int .u32 (o.s : Int), .int .u32 (o.g : Int), .bool o.h] 57 (0, 0))) := Lib.hid ((b3.block _ (by simp)).trans (Go.heap_alloc_new wr _))
      clear hhd b3 c0 c1 c2 c3 c4 c5 c6 HI
      obtain ⟨b14, hb14⟩ : ∃ b14, b14 = wr.heap.size := ⟨_, rfl⟩
      rw [← hb14] at X14 ⊢
      clear hb14
      go_upto_block 2 with (fail)
      have hI4 := HI3.out.below (w' := w3.alloc (.cells #[.int .u32 (hs : Int), .int .u32 (hg : Int)] 39)) (by repeat (first | exact Below.refl _ _ | assumption | refine Below.drew ?_ | refine below_drewN ?_ _ | refine Below.alloc ?_ (by simp <;> omega) _ | refine Below.setCell ?_ (by simp <;> omega) _ | (apply bl_trans; assumption; (simp <;> omega)))) hW3
      have x14 := alloc_blk X14.out (.cells #[.int .u32 (hs : Int), .int .u32 (hg : Int)] 39)
      have x15 : (w3.alloc (.cells #[.int .u32 (hs : Int), .int .u32 (hg : Int)] 39)).heap[w3.heap.size]? = some (.cells #[.int .u32 (hs : Int), .int .u32 (hg : Int)] 39 (0, 0)) := Go.heap_alloc_new w3 _
      generalize (w3.alloc (.cells #[.int .u32 (hs : Int), .int .u32 (hg : Int)] 39)) = W4 at hI4 x14 x15 ⊢
      obtain ⟨b15, hb15⟩ : ∃ b15, b15 = w3.heap.size := ⟨_, rfl⟩
      rw [← hb15] at x15 ⊢
      have HI4 := Lib.hid hI4
      have Y14 := Lib.hid x14
      have Y15 := Lib.hid x15
      clear hI4 x14 x15 HI3 X14 hb15
      go_cut [16] (fun v16 wc => ∃ (n : Nat) (kk : Int), wc = W4.drewN n ∧ v16 = .int .i64 kk ∧ Fnd told (hs, hg) kk)
      case first =>
        as_aux_lemma =>
          refine wp_block ?_
          go_loopw [16] (fun v wr' => ∃ (n m : Nat), m ≤ told.length ∧ v = .int .i64 ((m : Int) - 1) ∧ wr' = W4.drewN n ∧ ∀ j, m ≤ j → told[j]? ≠ some (hs, hg)) (fun v _ => (intOf v + 1).toNat)
          case atStart => exact ⟨0, told.length, Nat.le_refl _, rfl, rfl, fun j hj => by rw [List.getElem?_eq_none hj]; simp⟩
          case round =>
            obtain ⟨n, m, hm, rfl, rfl, hno⟩ := hrel
            have HNO := Lib.hid hno
            clear hno
            cases m with
            | zero =>
              rw [show ((0 : Nat) : Int) - 1 = -1 by omega]
              go_wp2
              go_quiet (fail)
              go_wp2
              go_meet
              case rel => exact ⟨n + nq, -1, by first | rfl | rw [World.drewN_drewN], rfl, .inl ⟨rfl, fun hm => by obtain ⟨j, hj⟩ := List.getElem?_of_mem hm; exact HNO.out j (Nat.zero_le _) hj⟩⟩
            | succ m =>
              rw [show ((m + 1 : Nat) : Int) - 1 = (m : Int) by omega]
              obtain ⟨tb, rfl⟩ : ∃ tb, ua = some ⟨tb, 0, none⟩ := by
                rcases HI4.out.rowT.2 with ⟨h', hn⟩ | ⟨g, cap, cur, h', _⟩
                · omega
                · simp at h'; exact ⟨g, h'.1⟩
              obtain ⟨⟨ts, tg⟩, htm⟩ : ∃ x, told[m]? = some x := ⟨_, List.getElem?_eq_getElem (by omega)⟩
              obtain ⟨e0, e1⟩ := hcells_at htm
              have d0 := (HI4.out.rowT.cellAt (m * 2) (by omega)).trans e0
              have d1 := (HI4.out.rowT.cellAt (m * 2 + 1) (by omega)).trans e1
              have d2 := cell_blk Y15.out 0 rfl
              have d3 := cell_blk Y15.out 1 rfl
              have p1 : (m : Int) < (told.length : Int) := by omega
              have p2 : (0 : Int) ≤ (m : Int) := by omega
              have HTM := Lib.hid htm
              clear e0 e1 htm
              simp at d0 d1 d2 d3
              by_cases heq : (ts, tg) = (hs, hg)
              · have q0 : hEq ts tg hs hg = true := by cases heq; exact hEq_true rfl rfl
                have HEQ := Lib.hid heq
                clear heq
                go_wp2
                go_quiet (fail)
                go_wp2
                go_meet
                case rel => exact ⟨n + nq, m, by first | rfl | rw [World.drewN_drewN], rfl, .inr ⟨m, rfl, HEQ.out ▸ HTM.out⟩⟩
              · have q0 : hEq ts tg hs hg = false := by
                  cases hh : hEq ts tg hs hg with
                  | false => rfl
                  | true => obtain ⟨a, b⟩ := hEq_iff.1 hh; exact absurd (by simp; omega) heq
                have HNE := Lib.hid heq
                clear heq
                go_wp2
                go_quiet (fail)
                go_wp2
                go_roundw
                case rel => exact ⟨n + nq, m, by omega, rfl, by first | rfl | rw [World.drewN_drewN], fun j hj => by
                  by_cases hjm : j = m
                  · subst hjm; rw [HTM.out]; exact fun h => HNE.out (by cases h; rfl)
                  · exact HNO.out j (by omega)⟩
                case measure => simp [intOf]
      case rest =>
        obtain ⟨n, kk, rfl, rfl, hf⟩ := hcut
        have HF := Lib.hid hf
        have HI5 := Lib.hid (HI4.out.below (w' := W4.drewN n) (by repeat (first | exact Below.refl _ _ | assumption | refine Below.drew ?_ | refine below_drewN ?_ _ | refine Below.alloc ?_ (by simp <;> omega) _ | refine Below.setCell ?_ (by simp <;> omega) _ | (apply bl_trans; assumption; (simp <;> omega)))) HI4.out.bel.size)
        have y14 : (W4.drewN n).heap[b14]? = _ := Y14.out
        have y15 : (W4.drewN n).heap[b15]? = _ := Y15.out
        generalize W4.drewN n = W5 at HI5 y14 y15 ⊢
        have Z14 := Lib.hid y14
        have Z15 := Lib.hid y15
        clear hf y14 y15 HI4 Y14 Y15
        go_upto_region 16 with (fail)
        go_cut [16, 17] (fun v16 v17 wc => v16 = .int .i64 kk ∧ v17 = .bool (T.at hs hg).isSome ∧ W5 = wc)
        case first =>
          as_aux_lemma =>
            rcases HF.out with ⟨rfl, hno⟩ | ⟨j, rfl, hj⟩
            · have hn := HI5.out.nev.notIn hno
              clear hno
              go_wp2
              go_meet
              case rel => exact ⟨rfl, by rw [hn]; rfl, rfl⟩
            · have hv := HI5.out.nev.val j hs hg hj
              have hjl : j < told.length := (List.getElem?_eq_some_iff.1 hj).1
              have hll := HI5.out.nev.l1
              obtain ⟨lb, lc, hlb⟩ : ∃ lb lc, u11 = .slice (some ⟨lb, 0, none⟩) told.length lc := by
                rcases HI5.out.rowL.2 with ⟨rfl, hn⟩ | ⟨g, cap, cur, rfl, _⟩
                · omega
                · exact ⟨g, cap, rfl⟩
              have hrow := HI5.out.rowL
              rw [hlb] at hrow
              have d0 := (hrow.cellAt j (by omega)).trans (show (live.map Value.bool)[j]? = some (.bool (live.getD j false)) by simp [List.getElem?_eq_getElem (show j < live.length by omega)])
              subst hlb
              have hb : (T.at hs hg).isSome = live.getD j false := by rw [hv]; cases live.getD j false <;> rfl
              generalize live.getD j false = lv at d0 hb
              have p1 : (j : Int) < (told.length : Int) := by omega
              have p2 : (0 : Int) ≤ (j : Int) := by omega
              have HB := Lib.hid hb
              clear hv hj hll hrow hb
              go_wp2
              go_meet
              case rel => exact ⟨rfl, by rw [HB.out], rfl⟩
        case rest =>
          obtain ⟨rfl, rfl, rfl⟩ := hcut
          have y0 := cell_blk Z15.out 0 rfl
          have y1 := cell_blk Z15.out 1 rfl
          simp at y0 y1
          obtain ⟨hsb, hgb⟩ := handleOf_bound HI5.out.nev HI5.out.ar.ok o.w o.s o.g o.h hoos hoog
          rw [← HHD.out] at hsb hgb
          simp only at hsb hgb
          go_wp2_with fail
          refine (arITop_get HI5.out.ar hs hg hsb hgb).mono ?_
          rintro e w6 ⟨he, b6⟩
          have he := he _ rfl
          obtain ⟨gx, hgx⟩ : ∃ gx, gx = (T.get 0 hs hg).1 := ⟨_, rfl⟩
          obtain ⟨ge, hge⟩ : ∃ ge, ge = (T.get 0 hs hg).2 := ⟨_, rfl⟩
          rw [← hgx, ← hge] at he
          subst he
          have HI6 := Lib.hid (HI5.out.below b6 HI5.out.bel.size)
          have f6 : FrT [] 0 W5 w6 := FrT.of_below b6
          have U14 := Lib.hid (f6.blk Z14.out (by simp))
          have U15 := Lib.hid (f6.blk Z15.out (by simp))
          have HGX := Lib.hid hgx
          have HGE := Lib.hid hge
          clear hgx hge b6 f6 Z14 Z15 HI5 y0 y1
          go_upto_region 18 with (fail)
          go_cut [17, 121] (fun v17 v wc => v17 = .bool (T.at hs hg).isSome ∧ v = .bool false ∧ w6 = wc)
          case first =>
            as_aux_lemma =>
              cases hat : T.at hs hg with
              | none =>
                have g1 : gx = 0 := by rw [HGX.out]; simp [TA.get, hat]
                have g2 : ge = 51 := by rw [HGE.out]; simp [TA.get, hat]
                subst g1 g2
                have HAT := Lib.hid hat
                clear hat
                rw [show (none : Option Int).isSome = false from rfl]
                go_wp2
                go_meet
                case rel => exact ⟨by rw [HAT.out]; rfl, rfl, rfl⟩
              | some z =>
                have g1 : gx = z := by rw [HGX.out]; simp [TA.get, hat]
                have g2 : ge = 0 := by rw [HGE.out]; simp [TA.get, hat]
                subst g1 g2
                have hin := HI6.out.nev.all _ _ _ hat
                rcases HF.out with ⟨rfl, hno⟩ | ⟨j, rfl, hj⟩
                · exact absurd hin hno
                · have hv := HI6.out.nev.val j hs hg hj
                  rw [hat] at hv
                  have hjl : j < told.length := (List.getElem?_eq_some_iff.1 hj).1
                  have hll := HI6.out.nev.l2
                  obtain ⟨xb, xc, hxb⟩ : ∃ lb lc, u12 = .slice (some ⟨lb, 0, none⟩) told.length lc := by
                    rcases HI6.out.rowX.2 with ⟨rfl, hn⟩ | ⟨g, cap, cur, rfl, _⟩
                    · omega
                    · exact ⟨g, cap, rfl⟩
                  have hrow := HI6.out.rowX
                  rw [hxb] at hrow
                  have hz : thing.getD j 0 = gx := by
                    split at hv
                    · cases hv; rfl
                    · cases hv
                  have d0 := (hrow.cellAt j (by omega)).trans (show (thing.map (Value.int .i64))[j]? = some (.int .i64 gx) by rw [← hz]; simp [List.getElem?_eq_getElem (show j < thing.length by omega)])
                  subst hxb
                  have p1 : (j : Int) < (told.length : Int) := by omega
                  have p2 : (0 : Int) ≤ (j : Int) := by omega
                  have HAT := Lib.hid hat
                  clear hv hj hll hrow hin hat hz
                  rw [show (some gx : Option Int).isSome = true from rfl]
                  go_wp2
                  go_meet
                  case rel => exact ⟨by rw [HAT.out]; rfl, rfl, rfl⟩
          case rest =>
            obtain ⟨rfl, rfl, rfl⟩ := hcut
            have z0 := cell_blk U14.out 0 rfl
            have z1 := cell_blk U14.out 1 rfl
            have y0 := cell_blk U15.out 0 rfl
            have y1 := cell_blk U15.out 1 rfl
            simp at z0 z1 y0 y1
            go_upto_block 4 with (fail)
            go_cut [10, 11, 12, 17] (fun a b c _ wc => ∃ T' told' live' thing', NevI w.heap.size w ab S G len (k + 1) T' told' live' thing' a b c wc)
            case first =>
              as_aux_lemma =>
                by_cases k1 : o.k = 1
                · as_aux_lemma =>
                    have q1 : (o.k == 1) = true := by simp [k1]
                    have K1 := Lib.hid k1
                    clear k1
                    go_wp2_with fail
                    refine (arITop_alloc HI6.out.ar o.x).mono ?_
                    rintro e w7 ⟨rfl, a7, f7⟩
                    have hI := HI6.out
                    have hS : (T.alloc o.x).1.S = S ∧ (T.alloc o.x).1.G = G := by
                      unfold TA.alloc
                      split
                      · split <;> exact ⟨hI.S, hI.G⟩
                      · split <;> exact ⟨hI.S, hI.G⟩
                    have hN := hI.nev.alloc hI.ar.ok o.x
                    generalize T.alloc o.x = R at a7 hN hS ⊢
                    obtain ⟨T1, s1, g1, e1⟩ := R
                    dsimp only at a7 hN hS ⊢
                    rcases hN with ⟨rfl, rfl, rfl, rfl, hfull⟩ | ⟨rfl, r1, r2, r3, r4, hnew, hnv⟩
                    · have hfin : NevI w.heap.size w ab S G len (k + 1) T1 told live thing (.slice ua told.length uc) u11 u12 w7 :=
                        NevI.next ⟨hI.le, hI.two, hI.tl, hI.nev, a7, hI.S, hI.G, f7.row hI.rowT (by decide), f7.row hI.rowL (by decide), f7.row hI.rowX (by decide), hI.bel.trans (f7.below hI.bel.size)⟩ hlt hlt2
                      have HFIN := Lib.hid hfin
                      have q0 : hEq 0 0 0 0 = true := rfl
                      have HFU := Lib.hid hfull
                      clear hfin a7 f7 hI hS hfull
                      go_wp2_with fail
                      refine (arITop_left (HFIN.out.ar.below (by repeat (first | exact Below.refl _ _ | assumption | refine Below.drew ?_ | refine below_drewN ?_ _ | refine Below.alloc ?_ (by simp <;> omega) _ | refine Below.setCell ?_ (by simp <;> omega) _ | (apply bl_trans; assumption; (simp <;> omega)))))).mono ?_
                      rintro e w8 ⟨rfl, b8⟩
                      have hz : (T1.S : Int) - T1.count - T1.ret = 0 := by have := HFU.out; omega
                      rw [hz]
                      have HFIN2 := Lib.hid (HFIN.out.below (w' := w8) (bl_trans b8 (by simp) (by repeat (first | exact Below.refl _ _ | assumption | refine Below.drew ?_ | refine below_drewN ?_ _ | refine Below.alloc ?_ (by simp <;> omega) _ | refine Below.setCell ?_ (by simp <;> omega) _ | (apply bl_trans; assumption; (simp <;> omega))))) HFIN.out.bel.size)
                      clear hz b8
                      go_wp2
                      go_meet
                      case rel => exact ⟨_, _, _, _, HFIN2.out⟩
                    · have R7 : Rows3 w.heap.size w ab T1 told live thing (.slice ua told.length uc) u11 u12 w7 :=
                        ⟨a7, f7.row hI.rowT (by decide), by rw [hI.nev.l1]; exact f7.row hI.rowL (by decide), by rw [hI.nev.l2]; exact f7.row hI.rowX (by decide), hI.bel.trans (f7.below hI.bel.size), Nat.le_trans hI.bel.size f7.size⟩
                      have u14 := f7.blk U14.out (by decide)
                      have hll1 := hI.nev.l1
                      have hll2 := hI.nev.l2
                      have H7 := Lib.hid R7
                      have HNV := Lib.hid hnv
                      have HNEW := Lib.hid hnew
                      have HS2 := Lib.hid hS
                      have V14 := Lib.hid u14
                      have HL1 := Lib.hid hll1
                      have HL2 := Lib.hid hll2
                      have HTS := Lib.hid hI.S
                      have HTG := Lib.hid hI.G
                      clear R7 u14 a7 f7 hI hS hnew hnv hll1 hll2
                      go_wp2_with fail
                      have R8 := H7.out.alloc (.cells #[.int .u32 (s1 : Int), .int .u32 (g1 : Int)] 39)
                      have v14 := alloc_blk V14.out (.cells #[.int .u32 (s1 : Int), .int .u32 (g1 : Int)] 39)
                      have v20 : (w7.alloc (.cells #[.int .u32 (s1 : Int), .int .u32 (g1 : Int)] 39)).heap[w7.heap.size]? = some (.cells #[.int .u32 (s1 : Int), .int .u32 (g1 : Int)] 39 (0, 0)) := Go.heap_alloc_new w7 _
                      generalize (w7.alloc (.cells #[.int .u32 (s1 : Int), .int .u32 (g1 : Int)] 39)) = W8 at R8 v14 v20 ⊢
                      obtain ⟨b20, hb20⟩ : ∃ b20, b20 = w7.heap.size := ⟨_, rfl⟩
                      rw [← hb20] at v20 ⊢
                      have H8 := Lib.hid R8
                      have W14 := Lib.hid v14
                      have W20 := Lib.hid v20
                      clear R8 v14 v20 hb20 H7 V14 z0 z1 y0 y1
                      go_loopw [22] (fun v wr' => ∃ (n j : Nat), j ≤ told.length ∧ v = .int .i64 (j : Int) ∧ wr' = W8.drewN n) (fun v _ => told.length - (intOf v).toNat)
                      case atStart => exact ⟨0, 0, Nat.zero_le _, rfl, rfl⟩
                      case round =>
                        obtain ⟨n, j, hj, rfl, rfl⟩ := hrel
                        by_cases hjl : j < told.length
                        · obtain ⟨tb, rfl⟩ : ∃ tb, ua = some ⟨tb, 0, none⟩ := by
                            rcases H8.out.rowT.2 with ⟨h', hn⟩ | ⟨g, cap, cur, h', _⟩
                            · omega
                            · simp at h'; exact ⟨g, h'.1⟩
                          obtain ⟨⟨ts, tg⟩, htm⟩ : ∃ x, told[j]? = some x := ⟨_, List.getElem?_eq_getElem hjl⟩
                          obtain ⟨e0, e1⟩ := hcells_at htm
                          have d0 := (H8.out.rowT.cellAt (j * 2) (by omega)).trans e0
                          have d1 := (H8.out.rowT.cellAt (j * 2 + 1) (by omega)).trans e1
                          have d2 := cell_blk W20.out 0 rfl
                          have d3 := cell_blk W20.out 1 rfl
                          have p1 : (j : Int) < (told.length : Int) := by omega
                          have p2 : (0 : Int) ≤ (j : Int) := by omega
                          have q0 : hEq ts tg s1 g1 = false := by
                            cases hh : hEq ts tg s1 g1 with
                            | false => rfl
                            | true =>
                              obtain ⟨a, b⟩ := hEq_iff.1 hh
                              have hx : (ts, tg) = (s1, g1) := by simp; omega
                              exact absurd (hx ▸ List.mem_of_getElem? htm) HNEW.out
                          clear e0 e1 htm
                          simp at d0 d1 d2 d3
                          go_wp2
                          go_quiet (fail)
                          go_wp2
                          go_roundw
                          case rel => exact ⟨n + nq, j + 1, hjl, by go_num, by first | rfl | rw [World.drewN_drewN]⟩
                          case measure => simp [intOf]; omega
                        · have hje : j = told.length := by omega
                          subst hje
                          have R9 : Rows3 w.heap.size w ab T1 told live thing (.slice ua told.length uc) u11 u12 (W8.drewN n) :=
                            ⟨H8.out.ar.below (by repeat (first | exact Below.refl _ _ | assumption | refine Below.drew ?_ | refine below_drewN ?_ _ | refine Below.alloc ?_ (by simp <;> omega) _ | refine Below.setCell ?_ (by simp <;> omega) _ | (apply bl_trans; assumption; (simp <;> omega)))), H8.out.rowT, H8.out.rowL, H8.out.rowX, below_drewN H8.out.bel n, H8.out.le⟩
                          have v14 : (W8.drewN n).heap[b14]? = _ := W14.out
                          have v20 : (W8.drewN n).heap[b20]? = _ := W20.out
                          generalize W8.drewN n = W9 at R9 v14 v20 ⊢
                          have H9 := Lib.hid R9
                          have X14 := Lib.hid v14
                          have y0 := cell_blk v20 0 rfl
                          have y1 := cell_blk v20 1 rfl
                          have x1 := cell_blk v14 1 rfl
                          simp at y0 y1 x1
                          clear R9 v14 v20 H8 W14 W20
                          have i1 : (1 : Int) ≤ (s1 : Int) := by omega
                          have i2 : (s1 : Int) ≤ (S : Int) := by have := HTS.out; omega
                          have i3 : (1 : Int) ≤ (g1 : Int) := by omega
                          have i4 : (g1 : Int) ≤ (G : Int) := by have := HTG.out; omega
                          have j1 : ((s1 : Int) == 0) = false := by simp; omega
                          have j2 : ((g1 : Int) == 0) = false := by simp; omega
                          have j3 : decide (S < s1) = false := by simp; omega
                          have j4 : decide (G < g1) = false := by simp; omega
                          obtain ⟨i39, hi39, ha1, ha2, ha3⟩ := info_parts info39
                          obtain ⟨i4', hi4, hb1, hb2, hb3⟩ := info_parts info4
                          obtain ⟨i3', hi3, hc1, hc2, hc3⟩ := info_parts info3
                          have hB9 := H9.out.le
                          have hrowT := H9.out.rowT
                          go_wp2_with (at_builtin; refine wpList_append_lies _ rfl (.tmp 183) (.tmp 185) 36 rfl w.heap.size 39 i39 _ 2 8 Try.underlying36 hi39 ha1 ha2 ha3 rfl (by omega) (.slice ua told.length uc) told.length _ rfl (hrowT.alloc _) ⟨W9.heap.size, 0, none⟩ 1 1 [.int .u32 (s1 : Int), .int .u32 (g1 : Int)] rfl rfl (World.news_of_block (cs := #[.int .u32 (s1 : Int), .int .u32 (g1 : Int)]) (t := 39) (fr := (0, 0)) (Go.heap_alloc_new W9 _)) (by simp [Value.oneCell']) (by omega) (by unfold maxLen; omega) (by omega) (by simp; omega) (W9.heap.size + 1) (by simp) ?_)
                          intro ga capa wa owna growa ata lta
                          have RA := (H9.out.alloc (.cells #[.int .u32 (s1 : Int), .int .u32 (g1 : Int)] 39)).appT growa owna
                          have a14 := hgrowBlk growa (hrowT.alloc _) (alloc_blk X14.out _) (by decide)
                          have HA := Lib.hid RA
                          have A14 := Lib.hid a14
                          clear RA a14 hrowT growa owna ata lta H9 X14 y0 y1 hB9 x1
                          have hBA := HA.out.le
                          have hrowL := HA.out.rowL
                          go_wp2_with (at_builtin; refine wpList_append_lies _ rfl (.tmp 187) (.tmp 188) 55 rfl w.heap.size 4 i4' _ 1 1 Try.underlying55 hi4 hb1 hb2 hb3 rfl (by omega) u11 live.length _ rfl (hrowL.alloc _) ⟨wa.heap.size, 0, none⟩ 1 1 [.bool true] rfl rfl (World.news_of_block (cs := #[.bool true]) (t := 4) (fr := (0, 0)) (Go.heap_alloc_new wa _)) (by simp [Value.oneCell']) (by omega) (by have := HL1.out; unfold maxLen; omega) (by have := HL1.out; omega) (by simp; omega) (wa.heap.size + 1) (by simp) ?_)
                          intro gb' capb wb ownb growb atb ltb
                          have RB := (HA.out.alloc (.cells #[.bool true] 4)).appL growb ownb
                          have b14x := hgrowBlk growb (hrowL.alloc _) (alloc_blk A14.out _) (by decide)
                          have z1 := cell_blk b14x 1 rfl
                          simp at z1
                          have HB := Lib.hid RB
                          clear RB b14x hrowL growb ownb atb ltb HA A14 hBA
                          have hBB := HB.out.le
                          have hrowX := HB.out.rowX
                          go_wp2_with (at_builtin; refine wpList_append_lies _ rfl (.tmp 190) (.tmp 193) 24 rfl w.heap.size 3 i3' _ 1 8 Try.underlying24 hi3 hc1 hc2 hc3 rfl (by omega) u12 thing.length _ rfl (hrowX.alloc _) ⟨wb.heap.size, 0, none⟩ 1 1 [.int .i64 o.x] rfl rfl (World.news_of_block (cs := #[.int .i64 o.x]) (t := 3) (fr := (0, 0)) (Go.heap_alloc_new wb _)) (by simp [Value.oneCell']) (by omega) (by have := HL2.out; unfold maxLen; omega) (by have := HL2.out; omega) (by simp; omega) (wb.heap.size + 1) (by simp) ?_)
                          intro gc capc wc ownc growc atc ltc
                          have RC := (HB.out.alloc (.cells #[.int .i64 o.x] 3)).appX growc ownc
                          have hfin : NevI w.heap.size w ab S G len (k + 1) T1 (told ++ [(s1, g1)]) (live ++ [true]) (thing ++ [o.x]) (.slice (some ⟨ga, 0, none⟩) (told.length + 1) capa) (.slice (some ⟨gb', 0, none⟩) (live.length + 1) capb) (.slice (some ⟨gc, 0, none⟩) (thing.length + 1) capc) wc :=
                            ⟨hlt, hlt2, by simp; omega, HNV.out, RC.ar, HS2.out.1, HS2.out.2, RC.rowT, by have := RC.rowL; rw [HNV.out.l1] at this; exact this, by have := RC.rowX; rw [HNV.out.l2] at this; exact this, RC.bel⟩
                          have HFIN := Lib.hid hfin
                          clear hfin RC ownc growc atc ltc HB hrowX hBB z1
                          go_wp2
                          go_meet
                          case rel => exact ⟨_, _, _, _, HFIN.out⟩
                · by_cases k2 : o.k = 2
                  · as_aux_lemma =>
                      have q1 : (o.k == 1) = false := by simp [k2]
                      have q2 : (o.k == 2) = true := by simp [k2]
                      have K2 := Lib.hid k2
                      clear k1 k2
                      go_wp2_with fail
                      refine (arITop_free HI6.out.ar hs hg hsb hgb).mono ?_
                      rintro e w7 ⟨rfl, a7, f7⟩
                      have hI := HI6.out
                      cases hat : T.at hs hg with
                      | none =>
                        have hd : T.drop 0 hs hg = (T, 51) := by simp [TA.drop, hat]
                        rw [hd] at a7 ⊢
                        rw [show (none : Option Int).isSome = false from rfl]
                        have hfin : NevI w.heap.size w ab S G len (k + 1) T told live thing (.slice ua told.length uc) u11 u12 w7 :=
                          NevI.next ⟨hI.le, hI.two, hI.tl, hI.nev, a7, hI.S, hI.G, f7.row hI.rowT (by decide), f7.row hI.rowL (by decide), f7.row hI.rowX (by decide), hI.bel.trans (f7.below hI.bel.size)⟩ hlt hlt2
                        have HFIN := Lib.hid hfin
                        clear hfin hd hat a7 f7 hI
                        go_wp2
                        go_meet
                        case rel => exact ⟨T, told, live, thing, HFIN.out⟩
                      | some z =>
                        rcases HF.out with ⟨rfl, hno⟩ | ⟨j, rfl, hj⟩
                        · exact absurd (hI.nev.all _ _ _ hat) hno
                        · obtain ⟨hd, hnv⟩ := hI.nev.free hj hat
                          have hjl : j < told.length := (List.getElem?_eq_some_iff.1 hj).1
                          rw [hd]
                          rw [show (some z : Option Int).isSome = true from rfl]
                          obtain ⟨lb, lc, hlb⟩ : ∃ lb lc, u11 = .slice (some ⟨lb, 0, none⟩) told.length lc := by
                            rcases hI.rowL.2 with ⟨rfl, hn⟩ | ⟨g, cap, cur, rfl, _⟩
                            · omega
                            · exact ⟨g, cap, rfl⟩
                          subst hlb
                          have rL := f7.row hI.rowL (by decide)
                          obtain ⟨curL, hcurL, hbL⟩ := ownsRow_blk rL
                          have d0 := rL.cellAt j (by omega)
                          have d0' : w7.cell? ⟨lb, j, none⟩ = some (.bool (live.getD j false)) := d0.trans (by simp [List.getElem?_eq_getElem (show j < live.length by rw [hI.nev.l1]; exact hjl)])
                          have d1 := rL.frozenAt j
                          have p1 : (j : Int) < (told.length : Int) := by omega
                          have p2 : (0 : Int) ≤ (j : Int) := by omega
                          have hS : (T.drop 0 hs hg).1.S = S ∧ (T.drop 0 hs hg).1.G = G := by
                            unfold TA.drop; rw [hat]; simp only; split <;> exact ⟨hI.S, hI.G⟩
                          have hf8 : FrT [4] w.heap.size w7 (w7.setCell ⟨lb, j, none⟩ (.bool false)) := (FrT.refl _ _ _).set hbL hcurL (by simp) _
                          have hfin : NevI w.heap.size w ab S G len (k + 1) (T.drop 0 hs hg).1 told (live.set j false) thing (.slice ua told.length uc) (.slice (some ⟨lb, 0, none⟩) told.length lc) u12 (w7.setCell ⟨lb, j, none⟩ (.bool false)) :=
                            NevI.next ⟨hI.le, hI.two, hI.tl, hnv, a7.kept hf8 (by decide) (by decide) (by decide), hS.1, hS.2, hf8.row (f7.row hI.rowT (by decide)) (by decide), by rw [List.map_set]; exact (rL.stored j _).1, hf8.row (f7.row hI.rowX (by decide)) (by decide), (hI.bel.trans (f7.below hI.bel.size)).setCell hbL _⟩ hlt hlt2
                          have HFIN := Lib.hid hfin
                          clear hfin hd hat a7 f7 hI hnv hj rL hcurL d0 hS hf8
                          go_wp2
                          go_meet
                          case rel => exact ⟨_, _, _, _, HFIN.out⟩
                  · by_cases k4 : o.k = 4
                    · as_aux_lemma =>
                        have q1 : (o.k == 1) = false := by simp [k4]
                        have q2 : (o.k == 2) = false := by simp [k4]
                        have q4 : (o.k == 4) = true := by simp [k4]
                        have K4 := Lib.hid k4
                        clear k1 k2 k4
                        go_wp2_with fail
                        refine (arITop_set HI6.out.ar hs hg o.x hsb hgb).mono ?_
                        rintro e w7 ⟨rfl, a7, f7⟩
                        have hI := HI6.out
                        cases hat : T.at hs hg with
                        | none =>
                          have hd : T.put o.x hs hg = (T, 51) := by simp [TA.put, hat]
                          rw [hd] at a7 ⊢
                          rw [show (none : Option Int).isSome = false from rfl]
                          have hfin : NevI w.heap.size w ab S G len (k + 1) T told live thing (.slice ua told.length uc) u11 u12 w7 :=
                            NevI.next ⟨hI.le, hI.two, hI.tl, hI.nev, a7, hI.S, hI.G, f7.row hI.rowT (by decide), f7.row hI.rowL (by decide), f7.row hI.rowX (by decide), hI.bel.trans (f7.below hI.bel.size)⟩ hlt hlt2
                          have HFIN := Lib.hid hfin
                          clear hfin hd hat a7 f7 hI
                          go_wp2
                          go_meet
                          case rel => exact ⟨T, told, live, thing, HFIN.out⟩
                        | some z =>
                          rcases HF.out with ⟨rfl, hno⟩ | ⟨j, rfl, hj⟩
                          · exact absurd (hI.nev.all _ _ _ hat) hno
                          · obtain ⟨hd, hnv⟩ := hI.nev.set hj hat o.x
                            have hjl : j < told.length := (List.getElem?_eq_some_iff.1 hj).1
                            rw [hd]
                            rw [show (some z : Option Int).isSome = true from rfl]
                            obtain ⟨lb, lc, hlb⟩ : ∃ lb lc, u12 = .slice (some ⟨lb, 0, none⟩) told.length lc := by
                              rcases hI.rowX.2 with ⟨rfl, hn⟩ | ⟨g, cap, cur, rfl, _⟩
                              · omega
                              · exact ⟨g, cap, rfl⟩
                            subst hlb
                            have rL := f7.row hI.rowX (by decide)
                            obtain ⟨curL, hcurL, hbL⟩ := ownsRow_blk rL
                            have d0 := rL.cellAt j (by omega)
                            have d0' : w7.cell? ⟨lb, j, none⟩ = some (.int .i64 (thing.getD j 0)) := d0.trans (by simp [List.getElem?_eq_getElem (show j < thing.length by rw [hI.nev.l2]; exact hjl)])
                            have d1 := rL.frozenAt j
                            have p1 : (j : Int) < (told.length : Int) := by omega
                            have p2 : (0 : Int) ≤ (j : Int) := by omega
                            have hS : (T.put o.x hs hg).1.S = S ∧ (T.put o.x hs hg).1.G = G := by
                              unfold TA.put; rw [hat]; exact ⟨hI.S, hI.G⟩
                            have hf8 : FrT [3] w.heap.size w7 (w7.setCell ⟨lb, j, none⟩ (.int .i64 o.x)) := (FrT.refl _ _ _).set hbL hcurL (by simp) _
                            have hfin : NevI w.heap.size w ab S G len (k + 1) (T.put o.x hs hg).1 told live (thing.set j o.x) (.slice ua told.length uc) u11 (.slice (some ⟨lb, 0, none⟩) told.length lc) (w7.setCell ⟨lb, j, none⟩ (.int .i64 o.x)) :=
                              NevI.next ⟨hI.le, hI.two, hI.tl, hnv, a7.kept hf8 (by decide) (by decide) (by decide), hS.1, hS.2, hf8.row (f7.row hI.rowT (by decide)) (by decide), hf8.row (f7.row hI.rowL (by decide)) (by decide), by rw [List.map_set]; exact (rL.stored j _).1, (hI.bel.trans (f7.below hI.bel.size)).setCell hbL _⟩ hlt hlt2
                            have y14 := (hf8.blk (f7.blk U14.out (by decide)) (by decide))
                            have yy1 := cell_blk (f7.blk U14.out (by decide)) 1 rfl
                            simp at yy1
                            have HFIN := Lib.hid hfin
                            clear hfin hd hat a7 f7 hI hnv hj rL hcurL d0 hS hf8 y14
                            go_wp2
                            go_meet
                            case rel => exact ⟨_, _, _, _, HFIN.out⟩
                    · as_aux_lemma =>
                        have q1 : (o.k == 1) = false := by simpa using k1
                        have q2 : (o.k == 2) = false := by simpa using k2
                        have q4 : (o.k == 4) = false := by simpa using k4
                        clear k1 k2 k4
                        go_wp2
                        go_meet
                        case rel => exact ⟨T, told, live, thing, HI6.out.next hlt hlt2⟩
            case rest =>
              obtain ⟨T', told', live', thing', hI7⟩ := hcut
              have hle := hI7.ar.ok.left
              have hS' := hI7.S
              simp only [TA.ar] at hle
              obtain ⟨C, hC⟩ : ∃ C, C = T'.count := ⟨_, rfl⟩
              obtain ⟨R, hR⟩ : ∃ R, R = T'.ret := ⟨_, rfl⟩
              rw [← hC, ← hR, hS'] at hle
              have HI7 := Lib.hid hI7
              have HC' := Lib.hid hC
              have HR' := Lib.hid hR
              have HS' := Lib.hid hS'
              clear hI7 hC hR hS'
              go_wp2_with fail
              refine (arITop_count HI7.out.ar).mono ?_
              rintro e w8 ⟨rfl, b8⟩
              have HI8 := Lib.hid (HI7.out.below b8 HI7.out.bel.size)
              rw [← HC'.out]
              clear b8 HI7
              go_wp2_with fail
              refine (arITop_left HI8.out.ar).mono ?_
              rintro e w9 ⟨rfl, b9⟩
              have HI9 := Lib.hid (HI8.out.below b9 HI8.out.bel.size)
              rw [← HC'.out, ← HR'.out, HS'.out]
              clear b9 HI8
              go_wp2_with fail
              refine (arITop_retired HI9.out.ar).mono ?_
              rintro e w10 ⟨rfl, b10⟩
              have HI10 := Lib.hid (HI9.out.below b10 HI9.out.bel.size)
              rw [← HR'.out]
              clear b10 HI9
              have q1 : ((C : Int) + ((S : Int) - C - R) + R) = S := by omega
              have Q1 := Lib.hid q1
              clear q1
              go_wp2
              go_roundw
              case rel => exact ⟨k + 1, T', told', live', thing', by go_num, HI10.out⟩
              case measure => simp [intOf]; omega
    · have hor : ¬ (k < len) ∨ ¬ (k < 2000) := by omega
      have HI := Lib.hid hI
      clear hI
      rcases hor with hge | hge
      · go_wp2
        go_ret
        exact ⟨rfl, HI.out.bel⟩
      · by_cases hq : k < len
        · go_wp2
          go_ret
          exact ⟨rfl, HI.out.bel⟩
        · go_wp2
          go_ret
          exact ⟨rfl, HI.out.bel⟩
end Go.Proofs.Ytlmbpbijhhnhpaa
