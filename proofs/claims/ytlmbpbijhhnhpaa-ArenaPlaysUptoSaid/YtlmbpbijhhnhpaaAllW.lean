/- The statement's all: All tells what the document says: wholly, left early, and within its own loop. -/
import Derived.Test.YtlmbpbijhhnhpaaAllI
import Derived.Test.YtlmbpbijhhnhpaaStI
import Derived.Test.YtlmbpbijhhnhpaaEqH
import Derived.Test.YtlmbpbijhhnhpaaHa5
import Derived.Sort.CutIn
namespace Go.Proofs.Ytlmbpbijhhnhpaa
open Go.RowKit Go.Shelf
attribute [local go_sem] Oper.semAt_some encT
set_option linter.unusedVariables false
set_option maxRecDepth 100000

theorem prefix_snoc {α : Type} {pre L : List α} {x : α} : pre ++ [x] <+: L ↔ pre <+: L ∧ L[pre.length]? = some x := by
  constructor
  · rintro ⟨t, rfl⟩
    exact ⟨⟨[x] ++ t, by simp⟩, by simp⟩
  · rintro ⟨⟨t, rfl⟩, h⟩
    cases t with
    | nil => simp at h
    | cons y t => simp at h; subst h; exact ⟨t, by simp⟩

def okP (L pre : List Tell) : Bool := decide (pre <+: L)
theorem okP_nil (L : List Tell) : okP L [] = true := by simp [okP]
theorem okP_of {L pre : List Tell} (h : pre <+: L) : okP L pre = true := by simp [okP, h]
theorem okP_step {L pre : List Tell} {x y : Tell} (hy : L[pre.length]? = some y) : okP L (pre ++ [x]) = (okP L pre && decide (y = x)) := by
  unfold okP
  rw [Bool.eq_iff_iff]
  simp [prefix_snoc, hy]

/-- A block of cells speaks of cells alone. -/
theorem blk_own {β : Type} (b : Nat) (cs : Array Value) (t : TypeId) : Own (fun (_ : β) W => W.heap[b]? = some (.cells cs t (0, 0))) := fun s X Y row hs hg hrow =>
  (hg.block b (lt_of_some hs) (fun e => by obtain ⟨o, ho, hc⟩ := hrow b e.symm; rw [hs] at ho; cases ho; cases hc)).trans hs

/-- What stands between two rounds of the first loop. -/
abbrev I1 (w1 : World) (ab : Nat) (L : List Tell) (hv xv : Value) (pre : List Tell) (W : World) : Prop :=
  ((Boxed W (w1.heap.size + 1 + 1) 3 (.int .i64 (pre.length : Int)) ∧ Boxed W (w1.heap.size + 1 + 1 + 1) 4 (.bool (okP L pre))) ∧ (Boxed W w1.heap.size 36 hv ∧ Boxed W (w1.heap.size + 1) 24 xv)) ∧
    (Boxed W (w1.heap.size + 1 + 1 + 1 + 1) 52 (.pointer (some ⟨ab, 0, none⟩)) ∧ Below w1.heap.size w1 W)
theorem I1_own (w1 : World) (ab : Nat) (L : List Tell) (hv xv : Value) {B : Nat} (hB : w1.heap.size ≤ B) : OwnFrom B (I1 w1 ab L hv xv) :=
  OwnFrom.and (OwnFrom.and (OwnFrom.and (Own.from (boxed_own _ _ _) _) (Own.from (boxed_own _ _ _) _)) (OwnFrom.and (Own.from (boxed_own _ _ _) _) (Own.from (boxed_own _ _ _) _))) (OwnFrom.and (Own.from (boxed_own _ _ _) _) (ownFrom_below (Nat.le_refl _) hB))

theorem under136 : Try.prog.underlying 136 = some (.func #[132] #[] false) := by kernel_rfl
theorem eql_func136 (fn : Fn) (x y : Array Value) (w : World) : (binOp .eql 136 (.func fn x y) .nilFunc).run Try.prog w = .ok (.bool false) w := by
  have h : ∀ d : Nat, (Op.equalIn (d + 1) 136 (.func fn x y) .nilFunc).run Try.prog w = .ok false w := fun d => by
    simp [Op.equalIn, run_underlying under136]
  simp only [binOp]
  simp [Op.equal, Op.maxDepth, h 9999]
theorem store_func (P : Program) (w : World) (a : Addr) (fn : Fn) (x y : Array Value) (m : Mode) : (store a (.func fn x y) m).run P w = stored P w a (.func fn x y) m := run_store P w a _ m rfl
attribute [local go_sem] eql_func136 store_func

def okH (L pre : List Tell) : Bool := decide (pre.map (·.1) <+: L.map (·.1))
theorem okH_nil (L : List Tell) : okH L [] = true := by simp [okH]
theorem okH_self (L : List Tell) : okH L L = true := by simp [okH]
theorem okH_step {L pre : List Tell} {x y : Tell} (hy : L[pre.length]? = some y) : okH L (pre ++ [x]) = (okH L pre && decide (y.1 = x.1)) := by
  unfold okH
  rw [Bool.eq_iff_iff]
  have e : (L.map (·.1))[(pre.map (·.1)).length]? = some y.1 := by simp [hy]
  rw [List.map_append, List.map_cons, List.map_nil]
  simp only [decide_eq_true_eq, prefix_snoc, e, Bool.and_eq_true, Option.some.injEq]

/-- A block that is no cells and lies ahead of B. -/
theorem low_own {β : Type} {B D : Nat} (o : Obj) (h : D < B) : OwnFrom B (fun (_ : β) W => W.heap[D]? = some o) := fun s X Y row hs hg hr =>
  (hg.block D (lt_of_some hs) (fun e => by have := (hr D e.symm).1; omega)).trans hs

/-- What stands between two rounds of the second loop. -/
abbrev I2 (w1 : World) (ab : Nat) (L : List Tell) (hv xv : Value) (s2 D : Nat) (m : Nat) (q : Bool) (W : World) : Prop :=
  ((Boxed W (s2 + 1 + 1) 3 (.int .i64 (m : Int)) ∧ Boxed W (w1.heap.size + 1 + 1 + 1) 4 (.bool q)) ∧ (Boxed W w1.heap.size 36 hv ∧ Boxed W (w1.heap.size + 1) 24 xv)) ∧
    ((Boxed W s2 52 (.pointer (some ⟨ab, 0, none⟩)) ∧ Boxed W (s2 + 1) 136 (.func (.func 82) #[] #[.pointer (some ⟨s2, 0, none⟩)])) ∧ (W.heap[D]? = some (.deferred (some [])) ∧ Below w1.heap.size w1 W))
theorem I2_own {β : Type} (w1 : World) (ab : Nat) (L : List Tell) (hv xv : Value) (s2 D : Nat) (m : β → Nat) (q : β → Bool) {B : Nat} (hB : w1.heap.size ≤ B) (hD : D < B) : OwnFrom B (fun p W => I2 w1 ab L hv xv s2 D (m p) (q p) W) :=
  OwnFrom.and (OwnFrom.and (OwnFrom.and (Own.from (boxed_own _ _ _) _) (Own.from (boxed_own _ _ _) _)) (OwnFrom.and (Own.from (boxed_own _ _ _) _) (Own.from (boxed_own _ _ _) _)))
    (OwnFrom.and (OwnFrom.and (Own.from (boxed_own _ _ _) _) (Own.from (boxed_own _ _ _) _)) (OwnFrom.and (low_own _ hD) (ownFrom_below (Nat.le_refl _) hB)))
section
variable {w1 : World} {ab : Nat} {L : List Tell} {hv xv : Value} {s2 D m : Nat} {q : Bool} {W : World}
theorem I2.alloc (h : I2 w1 ab L hv xv s2 D m q W) (o : Obj) : I2 w1 ab L hv xv s2 D m q (W.alloc o) :=
  ⟨⟨⟨h.1.1.1.alloc o, h.1.1.2.alloc o⟩, h.1.2.1.alloc o, h.1.2.2.alloc o⟩, ⟨h.2.1.1.alloc o, h.2.1.2.alloc o⟩, alloc_blk h.2.2.1 o, h.2.2.2.alloc h.2.2.2.size o⟩
theorem I2.drew (h : I2 w1 ab L hv xv s2 D m q W) : I2 w1 ab L hv xv s2 D m q W.drew :=
  ⟨⟨⟨h.1.1.1, h.1.1.2⟩, h.1.2.1, h.1.2.2⟩, ⟨h.2.1.1, h.2.1.2⟩, h.2.2.1, h.2.2.2.drew⟩
theorem I2.other (h : I2 w1 ab L hv xv s2 D m q W) {b : Nat} (v : Value) (hb : w1.heap.size ≤ b) (h1 : w1.heap.size ≠ b) (h2 : w1.heap.size + 1 ≠ b) (h3 : w1.heap.size + 1 + 1 + 1 ≠ b) (h4 : s2 ≠ b) (h5 : s2 + 1 ≠ b) (h6 : s2 + 1 + 1 ≠ b) (h7 : D ≠ b) : I2 w1 ab L hv xv s2 D m q (W.setCell ⟨b, 0, none⟩ v) :=
  ⟨⟨⟨h.1.1.1.other h6 v, h.1.1.2.other h3 v⟩, h.1.2.1.other h1 v, h.1.2.2.other h2 v⟩, ⟨h.2.1.1.other h4 v, h.2.1.2.other h5 v⟩, set_other h.2.2.1 h7 v, h.2.2.2.setCell (p := ⟨b, 0, none⟩) hb v⟩
theorem I2.setM (h : I2 w1 ab L hv xv s2 D m q W) (m' : Nat) (hs : w1.heap.size + 1 + 1 + 1 < s2) (hD : D ≠ s2 + 1 + 1) : I2 w1 ab L hv xv s2 D m' q (W.setCell ⟨s2 + 1 + 1, 0, none⟩ (.int .i64 (m' : Int))) :=
  ⟨⟨⟨h.1.1.1.set _, h.1.1.2.other (by omega) _⟩, h.1.2.1.other (by omega) _, h.1.2.2.other (by omega) _⟩, ⟨h.2.1.1.other (by omega) _, h.2.1.2.other (by omega) _⟩, set_other h.2.2.1 hD _, h.2.2.2.setCell (p := ⟨s2 + 1 + 1, 0, none⟩) (by simp; omega) _⟩
theorem I2.setQ (h : I2 w1 ab L hv xv s2 D m q W) (q' : Bool) (hs : w1.heap.size + 1 + 1 + 1 < s2) (hD : w1.heap.size + 1 + 1 + 1 < D) : I2 w1 ab L hv xv s2 D m q' (W.setCell ⟨w1.heap.size + 1 + 1 + 1, 0, none⟩ (.bool q')) :=
  ⟨⟨⟨h.1.1.1.other (by omega) _, h.1.1.2.set _⟩, h.1.2.1.other (by omega) _, h.1.2.2.other (by omega) _⟩, ⟨h.2.1.1.other (by omega) _, h.2.1.2.other (by omega) _⟩, set_other h.2.2.1 (by simp; omega) _, h.2.2.2.setCell (p := ⟨w1.heap.size + 1 + 1 + 1, 0, none⟩) (by simp; omega) _⟩
/-- What a round keeps, out of what stands ahead of it and behind. -/
theorem I2.kp {m' : Nat} {q' : Bool} {W' : World} (h : I2 w1 ab L hv xv s2 D m q W) (h' : I2 w1 ab L hv xv s2 D m' q' W') (b : Below w1.heap.size W W') : KpB w1.heap.size s2 W W' :=
  ⟨b, fun o e => by rw [show W.heap[s2]? = _ from h.2.1.1] at e; cases e; exact h'.2.1.1⟩
end

theorem row_slice {w : World} {base : Nat} {e : TypeId} {size : Nat} {v : Value} {n : Nat} {xs : List Value} (h : w.ownsRow base e size v n xs) : ∃ a cap, v = .slice a n cap := by
  rcases h.2 with ⟨rfl, hn⟩ | ⟨g, cap, cur, rfl, _⟩
  · exact ⟨none, 0, by rw [hn]⟩
  · exact ⟨some ⟨g, 0, none⟩, cap, rfl⟩

set_option maxHeartbeats 20000000 in
theorem pair_all {B : Nat} {w : World} {pb ab rb : Nat} {T : TA Int} {told : List (Nat × Nat)} {tv : Value} (h : PairAt B w pb ab rb T told tv) (early : Int) (he1 : -9223372036854775808 ≤ early) (he2 : early ≤ 9223372036854775807) :
    CallsIn Fence.wide 9 Try.prog 37 #[.pointer (some ⟨pb, 0, none⟩), .int .i64 early] w fun e w' => e = .returned (.bool true) ∧ Below w.heap.size w w' := by
  have hN : T.all.length ≤ 2147483647 := by
    have h1 := h.ar.ok.len
    have h2 := h.ar.ok.S2
    simp [TA.ar] at h1 h2
    omega
  have hpb := lt_of_some h.blk
  have p0 := cell_blk h.blk 0 rfl
  have p1 := cell_blk h.blk 1 rfl
  simp at p0 p1
  obtain ⟨av, fv, hr⟩ := h.rf
  have HR := Lib.hid hr
  have H := Lib.hid h
  clear h hr
  have hro : Fence.wide.round = none := rfl
  refine callsIn_of_wp_marks Try.func37 rfl trivial ?_ hro
  simp only [Try.ntmps37, List.size_toArray, List.length_cons, List.length_nil, Nat.reduceAdd, Nat.reduceSub, Array.replicate_succ, Array.replicate_zero, List.push_toArray, List.append_toArray, List.nil_append, List.cons_append]
  obtain ⟨L, hL⟩ : ∃ L, L = tel T.all := ⟨_, rfl⟩
  have hLN : L.length ≤ 2147483647 := by rw [hL]; exact Nat.le_trans (tel_le _) hN
  have HL := Lib.hid hL
  clear hL
  gi_upto_region 4 with ((refine ⟨trivial, ?_⟩; gi_at_call 66; refine (callsIn_wide.2 (rf_told (HR.out.below (by repeat (first | exact Below.refl _ _ | assumption | refine Below.drew ?_ | refine below_drewN ?_ _ | refine Below.alloc ?_ (by simp <;> omega) _ | refine Below.setCell ?_ (by simp <;> omega) _ | (apply bl_trans; assumption; (simp <;> omega))))))).mono ?_; rintro e w1 ⟨hv, xv, rfl, hT⟩; rw [← HL.out] at hT; obtain ⟨ha, hc, rfl⟩ := row_slice hT.rowH; obtain ⟨xa, xc, rfl⟩ := row_slice hT.rowX; have n0 := (hT.bel.block pb (by simp; omega)).trans (alloc_blk H.out.blk _); have n3 := (hT.bel.block w.heap.size (by simp)).trans (Go.heap_alloc_new w _); have p3 := cell_blk n0 0 rfl; have hpb1 := lt_of_some n0; simp at p3; have hpb2 : pb < w1.heap.size + 1 := (by omega); have hpb3 : pb < w1.heap.size + 1 + 1 := (by omega); have hpb4 : pb < w1.heap.size + 1 + 1 + 1 := (by omega)))
  gi_cut [29] from 140 (fun v29 wc => v29 = .func (.func 82) #[] #[.pointer (some ⟨w1.heap.size + 1 + 1 + 1 + 1, 0, none⟩)] ∧ wc.heap.size = w1.heap.size + 1 + 1 + 1 + 1 + 1 ∧ I1 w1 ab L (.slice ha L.length hc) (.slice xa L.length xc) [] wc)
  case first =>
    as_aux_lemma =>
      have c5 := (((Boxed.new w1 36 (.slice ha L.length hc)).alloc (.cells #[.slice xa L.length xc] 24)).alloc (.cells #[.int .i64 0] 3)).alloc (.cells #[.bool true] 4) |>.alloc (.cells #[.pointer (some ⟨ab, 0, none⟩)] 52)
      have c6 := ((Boxed.new (w1.alloc (.cells #[.slice ha L.length hc] 36)) 24 (.slice xa L.length xc)).alloc (.cells #[.int .i64 0] 3)).alloc (.cells #[.bool true] 4) |>.alloc (.cells #[.pointer (some ⟨ab, 0, none⟩)] 52)
      have c7 := (Boxed.new ((w1.alloc (.cells #[.slice ha L.length hc] 36)).alloc (.cells #[.slice xa L.length xc] 24)) 3 (.int .i64 0)).alloc (.cells #[.bool true] 4) |>.alloc (.cells #[.pointer (some ⟨ab, 0, none⟩)] 52)
      have c8 := (Boxed.new (((w1.alloc (.cells #[.slice ha L.length hc] 36)).alloc (.cells #[.slice xa L.length xc] 24)).alloc (.cells #[.int .i64 0] 3)) 4 (.bool true)).alloc (.cells #[.pointer (some ⟨ab, 0, none⟩)] 52)
      have c9 := Boxed.new ((((w1.alloc (.cells #[.slice ha L.length hc] 36)).alloc (.cells #[.slice xa L.length xc] 24)).alloc (.cells #[.int .i64 0] 3)).alloc (.cells #[.bool true] 4)) 52 (.pointer (some ⟨ab, 0, none⟩))
      simp only [World.size_alloc] at c6 c7 c8 c9
      have hI : I1 w1 ab L (.slice ha L.length hc) (.slice xa L.length xc) [] (((((w1.alloc (.cells #[.slice ha L.length hc] 36)).alloc (.cells #[.slice xa L.length xc] 24)).alloc (.cells #[.int .i64 0] 3)).alloc (.cells #[.bool true] 4)).alloc (.cells #[.pointer (some ⟨ab, 0, none⟩)] 52)) := ⟨⟨⟨c7, by rw [okP_nil]; exact c8⟩, c5, c6⟩, c9, (by repeat (first | exact Below.refl _ _ | assumption | refine Below.drew ?_ | refine below_drewN ?_ _ | refine Below.alloc ?_ (by simp <;> omega) _ | refine Below.setCell ?_ (by simp <;> omega) _ | (apply bl_trans; assumption; (simp <;> omega))))⟩
      have HI := Lib.hid hI
      clear c5 c6 c7 c8 c9 hI
      gi_wp2_with (refine ⟨trivial, ?_⟩; gi_at_call 67; refine (all_in Fence.wide _ trivial rfl _ _).mono ?_; rintro e w2 ⟨rfl, rfl⟩)
      gi_meet
      case rel => exact ⟨by simp, by simp, HI.out⟩
  case rest =>
    obtain ⟨rfl, hsz, hI0⟩ := hcut
    have hA1 := H.out.ar.below (((Below.refl w.heap.size w).alloc (Nat.le_refl _) (.cells #[.int .i64 early] 3)).trans (hT.bel.mono (by simp)))
    have hB0 : Below w.heap.size w w1 := ((Below.refl w.heap.size w).alloc (Nat.le_refl _) (.cells #[.int .i64 early] 3)).trans (hT.bel.mono (by simp))
    have hlh : ∀ k y, L[k]? = some y → ∃ g, ha = some ⟨g, 0, none⟩ ∧ g < w1.heap.size ∧ w1.cell? ⟨g, k * 2, none⟩ = some (.int .u32 (y.1.1 : Int)) ∧ w1.cell? ⟨g, k * 2 + 1, none⟩ = some (.int .u32 (y.1.2 : Int)) := by
      intro k y hk
      have hkl : k < L.length := (List.getElem?_eq_some_iff.1 hk).1
      obtain ⟨g, cap, hv, _⟩ := hT.rowH.form (by omega)
      cases hv
      have hk' : (telH L)[k]? = some y.1 := by simp [telH, hk]
      obtain ⟨h0, h1⟩ := hcells_at hk'
      have h2 := (hT.rowH.cellAt (k * 2) (by omega)).trans h0
      have h3 := (hT.rowH.cellAt (k * 2 + 1) (by omega)).trans h1
      exact ⟨g, rfl, block_lt_of_cell h2, h2, h3⟩
    have hlx : ∀ k y, L[k]? = some y → ∃ g, xa = some ⟨g, 0, none⟩ ∧ g < w1.heap.size ∧ w1.cell? ⟨g, k, none⟩ = some (.int .i64 y.2) := by
      intro k y hk
      have hkl : k < L.length := (List.getElem?_eq_some_iff.1 hk).1
      obtain ⟨g, cap, hv, _⟩ := hT.rowX.form (by omega)
      cases hv
      have h2 := (hT.rowX.cellAt k (by omega)).trans (show (telX L)[k]? = some (.int .i64 y.2) by simp [telX, hk])
      exact ⟨g, rfl, block_lt_of_cell h2, h2⟩
    have HH := Lib.hid hlh
    have HX := Lib.hid hlx
    have HA := Lib.hid hA1
    have N3 := Lib.hid n3
    clear hlh hlx hA1 n3 p3 n0 hpb2 hpb3 hpb4 hT p0 p1
    first | gi_step | gi_back
    refine wpIn_cut (fun a' w' => ∃ D pre, a' = { tmps := List.toArray (.pointer (some ⟨pb, 0, none⟩) :: .int .i64 early :: undef :: .pointer (some ⟨w.heap.size, 0, none⟩) :: .bool false :: .pointer (some ⟨w1.heap.size, 0, none⟩) :: .pointer (some ⟨w1.heap.size + 1, 0, none⟩) :: .pointer (some ⟨w1.heap.size + 1 + 1, 0, none⟩) :: .pointer (some ⟨w1.heap.size + 1 + 1 + 1, 0, none⟩) :: undef :: undef :: undef :: undef :: undef :: undef :: undef :: undef :: .tuple #[.slice ha L.length hc, .slice xa L.length xc] :: .pointer (some ⟨pb, 0, none⟩) :: .pointer (some ⟨pb, 0, none⟩) :: .pointer (some ⟨pb, 1, none⟩) :: .pointer (some ⟨rb, 0, none⟩) :: .tuple #[.slice ha L.length hc, .slice xa L.length xc] :: .slice ha L.length hc :: .slice xa L.length xc :: u25 :: u26 :: u27 :: u28 :: .func (.func 82) #[] #[.pointer (some ⟨w1.heap.size + 1 + 1 + 1 + 1, 0, none⟩)] :: undef :: undef :: undef :: undef :: undef :: undef :: undef :: undef :: undef :: undef :: undef :: undef :: undef :: undef :: undef :: undef :: undef :: undef :: undef :: undef :: undef :: undef :: undef :: undef :: undef :: undef :: undef :: undef :: undef :: undef :: undef :: undef :: undef :: undef :: undef :: undef :: undef :: undef :: undef :: undef :: undef :: undef :: undef :: undef :: undef :: undef :: undef :: undef :: undef :: undef :: undef :: undef :: undef :: undef :: undef :: undef :: undef :: undef :: undef :: undef :: undef :: undef :: undef :: undef :: undef :: undef :: undef :: undef :: undef :: undef :: undef :: undef :: undef :: undef :: undef :: undef :: undef :: undef :: undef :: undef :: undef :: undef :: undef :: undef :: undef :: undef :: undef :: undef :: undef :: undef :: undef :: undef :: undef :: undef :: undef :: undef :: undef :: undef :: undef :: undef :: undef :: undef :: undef :: undef :: undef :: undef :: undef :: undef :: undef :: undef :: []), defers := [{ target := .collected D, args := #[] }] } ∧ wc.heap.size ≤ D ∧ w'.heap[D]? = some (.deferred (some [])) ∧ I1 w1 ab L (.slice ha L.length hc) (.slice xa L.length xc) pre w' ∧ okP L pre = true ∧ ((pre.length : Int) = L.length ∨ (pre.length : Int) = early)) ?rest ?first
    case first =>
      intro J K' hJ hK'
      refine wpIn_block ?_
      have hstops := all_stops Fence.wide 8 trivial rfl (by decide) (w1.heap.size + 1 + 1 + 1 + 1) HA.out wc hI0.2.2 hI0.2.1
      rw [← HL.out] at hstops
      refine wpIn_rangeFunc_ownH rfl (by decide) (gf := 82) (lb := #[.pointer (some ⟨w1.heap.size + 1 + 1 + 1 + 1, 0, none⟩)]) rfl trivial (enters_of Try.func82 (by kernel_rfl) rfl)
        hstops (fun h k => h.trans k) (kpB_b (by omega) (by omega)) (Below.refl _ _) (fun _ => rfl)
        (I1 w1 ab L (.slice ha L.length hc) (.slice xa L.length xc))
        (fun c pre W => (c = .exit 0 ∧ (pre.length : Int) = early) ∧ I1 w1 ab L (.slice ha L.length hc) (.slice xa L.length xc) pre W)
        (I1_own _ _ _ _ _ (by omega)) (fun c => OwnFrom.and (ownFrom_pure _ _) (I1_own _ _ _ _ _ (by omega))) hI0
        (fun x a' W => ∃ Bx, w1.heap.size + 1 + 1 + 1 + 1 < Bx ∧ W.heap[Bx]? = some (.cells #[.int .u32 (x.1.1 : Int), .int .u32 (x.1.2 : Int)] 39 (0, 0)) ∧ a' = { tmps := List.toArray (.pointer (some ⟨pb, 0, none⟩) :: .int .i64 early :: undef :: .pointer (some ⟨w.heap.size, 0, none⟩) :: .bool false :: .pointer (some ⟨w1.heap.size, 0, none⟩) :: .pointer (some ⟨w1.heap.size + 1, 0, none⟩) :: .pointer (some ⟨w1.heap.size + 1 + 1, 0, none⟩) :: .pointer (some ⟨w1.heap.size + 1 + 1 + 1, 0, none⟩) :: .pointer (some ⟨Bx, 0, none⟩) :: .int .i64 x.2 :: undef :: undef :: undef :: undef :: undef :: undef :: .tuple #[.slice ha L.length hc, .slice xa L.length xc] :: .pointer (some ⟨pb, 0, none⟩) :: .pointer (some ⟨pb, 0, none⟩) :: .pointer (some ⟨pb, 1, none⟩) :: .pointer (some ⟨rb, 0, none⟩) :: .tuple #[.slice ha L.length hc, .slice xa L.length xc] :: .slice ha L.length hc :: .slice xa L.length xc :: u25 :: u26 :: u27 :: u28 :: .func (.func 82) #[] #[.pointer (some ⟨w1.heap.size + 1 + 1 + 1 + 1, 0, none⟩)] :: .agg #[.int .u32 (x.1.1 : Int), .int .u32 (x.1.2 : Int)] :: .int .i64 x.2 :: undef :: undef :: undef :: undef :: undef :: undef :: undef :: undef :: undef :: undef :: undef :: undef :: undef :: undef :: undef :: undef :: undef :: undef :: undef :: undef :: undef :: undef :: undef :: undef :: undef :: undef :: undef :: undef :: undef :: undef :: undef :: undef :: undef :: undef :: undef :: undef :: undef :: undef :: undef :: undef :: undef :: undef :: undef :: undef :: undef :: undef :: undef :: undef :: undef :: undef :: undef :: undef :: undef :: undef :: undef :: undef :: undef :: undef :: undef :: undef :: undef :: undef :: undef :: undef :: undef :: undef :: undef :: undef :: undef :: undef :: undef :: undef :: undef :: undef :: undef :: undef :: undef :: undef :: undef :: undef :: undef :: undef :: undef :: undef :: undef :: undef :: undef :: undef :: undef :: undef :: undef :: undef :: undef :: undef :: undef :: undef :: undef :: undef :: undef :: undef :: undef :: undef :: undef :: undef :: undef :: undef :: undef :: undef :: []), defers := [] })
        (fun x a' _ X Y row hs hg hr => by obtain ⟨Bx, h1, h2, h3⟩ := hs; exact ⟨Bx, h1, blk_own Bx _ 39 () X Y row h2 hg (fun r e => (hr r e).2), h3⟩)
        ?assign ?body ?done ?stop
      case assign =>
        rintro l pre x W K ⟨⟨⟨b7, b8⟩, b5, b6⟩, b9, hB⟩ hK
        gi_wp2
        exact hK _ _ ((KeepsOthers.alloc _ _).from _) ⟨(Below.refl _ W).alloc hB.size _, fun o e => alloc_blk e _⟩ ⟨⟨⟨b7.alloc _, b8.alloc _⟩, b5.alloc _, b6.alloc _⟩, b9.alloc _, hB.alloc hB.size _⟩ ⟨W.heap.size, b9.lt, Go.heap_alloc_new W _, rfl⟩
      case body =>
        rintro l pre x a' W hl ⟨r, hr⟩ ⟨⟨⟨b7, b8⟩, b5, b6⟩, b9, hB⟩ ⟨Bx, hBx, bX, rfl⟩ hlt
        obtain ⟨y, hy⟩ : ∃ y, L[pre.length]? = some y := ⟨_, List.getElem?_eq_getElem hlt⟩
        obtain ⟨g1, rfl, hg1, y0, y1⟩ := HH.out _ _ hy
        obtain ⟨g2, rfl, hg2, y2⟩ := HX.out _ _ hy
        have z0 := (hB.cell (p := ⟨g1, pre.length * 2, none⟩) hg1).trans y0
        have z1 := (hB.cell (p := ⟨g1, pre.length * 2 + 1, none⟩) hg1).trans y1
        have z2 := (hB.cell (p := ⟨g2, pre.length, none⟩) hg2).trans y2
        have c5 := b5.cell
        have c6 := b6.cell
        have c7 := b7.cell
        have c8 := b8.cell
        have f7 := b7.frozen
        have f8 := b8.frozen
        have x0 := cell_blk bX 0 rfl
        have x1 := cell_blk bX 1 rfl
        have hb3 := (hB.block _ (lt_of_some N3.out)).trans N3.out
        have e3 := cell_blk hb3 0 rfl
        have hw3 := lt_of_some N3.out
        simp at x0 x1 e3
        have hstep := okP_step (x := x) hy
        have hlt' : (pre.length : Int) < (L.length : Int) := by omega
        obtain ⟨m, hm⟩ : ∃ m, m = pre.length := ⟨_, rfl⟩
        rw [← hm] at z0 z1 z2 c7 hlt hlt'
        have HM := Lib.hid hm
        clear y0 y1 y2 hm
        gi_upto_region 7 with (fail)
        gi_cut [] from 140 (fun wc => wc = (W.setCell ⟨w1.heap.size + 1 + 1 + 1, 0, none⟩ (.bool (okP L (pre ++ [x])))).drew)
        case first =>
          as_aux_lemma =>
            cases hok : okP L pre with
            | false =>
              rw [hok] at hstep c8
              have hs2 : okP L (pre ++ [x]) = false := by rw [hstep]; rfl
              clear hstep hok
              refine regionIn_still 23 (by kernel_rfl) (by kernel_rfl) (by simp only [List.take_succ_cons, List.take_zero, allCalm]; repeat (first | exact trivial | refine ⟨by first | exact calm_move | exact calm_pick | exact calm_value (fun ρ => ⟨_, rfl⟩) (fun _ _ => rfl) (fun _ h => by cases h), ?_⟩)) ?_
              simp only [List.take_succ_cons, List.take_zero, List.drop_succ_cons, List.drop_zero]
              iterate 2 (refine StillG.next (fun K hK => ?_); go_simp; refine hK.out _ ?_; clear hK K)
              iterate 4 (refine StillG.next (fun K hK => ?_); go_simp; refine hK.out _ ?_; clear hK K)
              iterate 2 (refine StillG.next (fun K hK => ?_); go_simp; refine hK.out _ ?_; clear hK K)
              iterate 6 (refine StillG.next (fun K hK => ?_); go_simp; refine hK.out _ ?_; clear hK K)
              iterate 2 (refine StillG.next (fun K hK => ?_); go_simp; refine hK.out _ ?_; clear hK K)
              iterate 6 (refine StillG.next (fun K hK => ?_); go_simp; refine hK.out _ ?_; clear hK K)
              iterate 1 (refine StillG.next (fun K hK => ?_); go_simp; refine hK.out _ ?_; clear hK K)
              refine StillG.done ?_
              change wpListIn _ _ _ _ _ _ _ W.drew
              gi_wp2
              gi_meet
              case rel => rw [hs2]
            | true =>
              rw [hok] at hstep c8
              by_cases h1 : y = x
              · have hs2 : okP L (pre ++ [x]) = true := by rw [hstep]; simp [h1]
                subst h1
                have q1 : hEq (y.1.1 : Int) (y.1.2 : Int) (y.1.1 : Int) (y.1.2 : Int) = true := hEq_true rfl rfl
                clear hstep hok
                refine regionIn_still 23 (by kernel_rfl) (by kernel_rfl) (by simp only [List.take_succ_cons, List.take_zero, allCalm]; repeat (first | exact trivial | refine ⟨by first | exact calm_move | exact calm_pick | exact calm_value (fun ρ => ⟨_, rfl⟩) (fun _ _ => rfl) (fun _ h => by cases h), ?_⟩)) ?_
                simp only [List.take_succ_cons, List.take_zero, List.drop_succ_cons, List.drop_zero]
                iterate 23 (refine StillG.next (fun K hK => ?_); go_simp; refine hK.out _ ?_; clear hK K)
                refine StillG.done ?_
                change wpListIn _ _ _ _ _ _ _ W.drew
                gi_wp2
                gi_meet
                case rel => rw [hs2]
              · have hs2 : okP L (pre ++ [x]) = false := by rw [hstep]; simp [h1]
                clear hstep hok
                by_cases h2 : y.1 = x.1
                · have h3 : ¬ x.2 = y.2 := fun e => h1 (Prod.ext h2 e.symm)
                  have q2 : (x.2 == y.2) = false := by simp [h3]
                  have q1 : hEq (x.1.1 : Int) (x.1.2 : Int) (y.1.1 : Int) (y.1.2 : Int) = true := hEq_true (by rw [h2]) (by rw [h2])
                  clear h1 h2
                  refine regionIn_still 23 (by kernel_rfl) (by kernel_rfl) (by simp only [List.take_succ_cons, List.take_zero, allCalm]; repeat (first | exact trivial | refine ⟨by first | exact calm_move | exact calm_pick | exact calm_value (fun ρ => ⟨_, rfl⟩) (fun _ _ => rfl) (fun _ h => by cases h), ?_⟩)) ?_
                  simp only [List.take_succ_cons, List.take_zero, List.drop_succ_cons, List.drop_zero]
                  iterate 23 (refine StillG.next (fun K hK => ?_); go_simp; refine hK.out _ ?_; clear hK K)
                  refine StillG.done ?_
                  change wpListIn _ _ _ _ _ _ _ W.drew
                  gi_wp2
                  gi_meet
                  case rel => rw [hs2]
                · have q1 : hEq (x.1.1 : Int) (x.1.2 : Int) (y.1.1 : Int) (y.1.2 : Int) = false := hEq_false (by
                    by_cases h3 : x.1.1 = y.1.1
                    · right; intro e; exact h2 (Prod.ext h3.symm (by omega))
                    · left; omega)
                  clear h1 h2
                  refine regionIn_still 23 (by kernel_rfl) (by kernel_rfl) (by simp only [List.take_succ_cons, List.take_zero, allCalm]; repeat (first | exact trivial | refine ⟨by first | exact calm_move | exact calm_pick | exact calm_value (fun ρ => ⟨_, rfl⟩) (fun _ _ => rfl) (fun _ h => by cases h), ?_⟩)) ?_
                  simp only [List.take_succ_cons, List.take_zero, List.drop_succ_cons, List.drop_zero]
                  iterate 16 (refine StillG.next (fun K hK => ?_); go_simp; refine hK.out _ ?_; clear hK K)
                  iterate 6 (refine StillG.next (fun K hK => ?_); go_simp; refine hK.out _ ?_; clear hK K)
                  iterate 1 (refine StillG.next (fun K hK => ?_); go_simp; refine hK.out _ ?_; clear hK K)
                  refine StillG.done ?_
                  change wpListIn _ _ _ _ _ _ _ W.drew
                  gi_wp2
                  gi_meet
                  case rel => rw [hs2]
        case rest =>
          subst hcut
          clear c5 c6 c8 z0 z1 z2 x0 x1
          have d7 : Boxed ((W.setCell ⟨w1.heap.size + 1 + 1 + 1, 0, none⟩ (.bool (okP L (pre ++ [x])))).drew) (w1.heap.size + 1 + 1) 3 (.int .i64 (pre.length : Int)) := Boxed.other (W := W) b7 (by omega) _
          have d8 : Boxed ((W.setCell ⟨w1.heap.size + 1 + 1 + 1, 0, none⟩ (.bool (okP L (pre ++ [x])))).drew) (w1.heap.size + 1 + 1 + 1) 4 (.bool (okP L (pre ++ [x]))) := Boxed.set (W := W) _ b8
          have d5 : Boxed ((W.setCell ⟨w1.heap.size + 1 + 1 + 1, 0, none⟩ (.bool (okP L (pre ++ [x])))).drew) w1.heap.size 36 _ := Boxed.other (W := W) b5 (by omega) _
          have d6 : Boxed ((W.setCell ⟨w1.heap.size + 1 + 1 + 1, 0, none⟩ (.bool (okP L (pre ++ [x])))).drew) (w1.heap.size + 1) 24 _ := Boxed.other (W := W) b6 (by omega) _
          have d9 : Boxed ((W.setCell ⟨w1.heap.size + 1 + 1 + 1, 0, none⟩ (.bool (okP L (pre ++ [x])))).drew) (w1.heap.size + 1 + 1 + 1 + 1) 52 _ := Boxed.other (W := W) b9 (by omega) _
          have dB : Below w1.heap.size W ((W.setCell ⟨w1.heap.size + 1 + 1 + 1, 0, none⟩ (.bool (okP L (pre ++ [x])))).drew) := ((Below.refl _ W).setCell (p := ⟨w1.heap.size + 1 + 1 + 1, 0, none⟩) (by simp; omega) _).drew
          have dK : KeepsOthers W ((W.setCell ⟨w1.heap.size + 1 + 1 + 1, 0, none⟩ (.bool (okP L (pre ++ [x])))).drew) := (KeepsOthers.setCell _ _ _).trans (KeepsOthers.drew _)
          have dC : ∀ o, W.heap[w1.heap.size + 1 + 1 + 1 + 1]? = some o → (W.setCell ⟨w1.heap.size + 1 + 1 + 1, 0, none⟩ (.bool (okP L (pre ++ [x])))).drew.heap[w1.heap.size + 1 + 1 + 1 + 1]? = some o := fun o e => set_other (w := W) e (by simp <;> omega) _
          have c3 := (dB.cell (p := ⟨w.heap.size, 0, none⟩) hw3).trans e3
          generalize (W.setCell ⟨w1.heap.size + 1 + 1 + 1, 0, none⟩ (.bool (okP L (pre ++ [x])))).drew = W2 at d7 d8 d5 d6 d9 dB dK dC c3 ⊢
          have g7 := d7.cell
          have g7f := d7.frozen
          rw [← HM.out] at g7
          have q1 : IntKind.i64.wrap ((m : Int) + 1) = (m : Int) + 1 := IntWalk.i64_in _ (by omega)
          have hf : KeepsFrom wc.heap.size W (W2.setCell ⟨w1.heap.size + 1 + 1, 0, none⟩ (.int .i64 ((m : Int) + 1))) ∧ KpB w1.heap.size (w1.heap.size + 1 + 1 + 1 + 1) W (W2.setCell ⟨w1.heap.size + 1 + 1, 0, none⟩ (.int .i64 ((m : Int) + 1))) ∧
              I1 w1 ab L (.slice (some ⟨g1, 0, none⟩) L.length hc) (.slice (some ⟨g2, 0, none⟩) L.length xc) (pre ++ [x]) (W2.setCell ⟨w1.heap.size + 1 + 1, 0, none⟩ (.int .i64 ((m : Int) + 1))) := by
            have e : ((pre ++ [x]).length : Int) = (m : Int) + 1 := by simp [HM.out]
            refine ⟨(dK.trans (KeepsOthers.setCell _ _ _)).from _, ⟨dB.setCell (p := ⟨w1.heap.size + 1 + 1, 0, none⟩) (by simp <;> omega) _, fun o e => set_other (dC o e) (by simp <;> omega) _⟩, ?_⟩
            refine ⟨⟨⟨by rw [e]; exact d7.set _, d8.other (by omega) _⟩, d5.other (by omega) _, d6.other (by omega) _⟩, d9.other (by omega) _, hB.trans (dB.setCell (p := ⟨w1.heap.size + 1 + 1, 0, none⟩) (by simp <;> omega) _)⟩
          have HF := Lib.hid hf
          clear hf d5 d6 d7 d8 d9 dB dK dC
          by_cases he : (m : Int) + 1 = early
          · have q2 : ((m : Int) + 1 == early) = true := by simp [he]
            have HE := Lib.hid he
            clear he
            gi_wp2
            exact ⟨HF.out.1, ⟨rfl, by rw [← HE.out, HM.out]; simp⟩, HF.out.2.2⟩
          · have q2 : ((m : Int) + 1 == early) = false := by simp [he]
            clear he
            gi_wp2
            exact HF.out
      case done =>
        rintro D xs W hD rfl hI hK
        exact hK' _ _ (Met.intro (hJ _ _ ⟨D, xs, rfl, hD, hK, hI, okP_of (List.prefix_refl _), .inl rfl⟩))
      case stop =>
        rintro D c pre W hD hpre ⟨⟨rfl, he⟩, hI⟩ hK
        refine wpIn_exit ?_
        exact hK' _ _ (Met.intro (hJ _ _ ⟨D, pre, rfl, hD, hK, hI, okP_of hpre, .inr he⟩))
    case rest =>
      rintro _ W ⟨D, pre, rfl, hD, hK, ⟨⟨⟨b7, b8⟩, b5, b6⟩, b9, hB⟩, hok, hor⟩
      rw [hok] at b8
      have c5 := b5.cell
      have c7 := b7.cell
      have hb3 := (hB.block _ (lt_of_some N3.out)).trans N3.out
      have e3 := cell_blk hb3 0 rfl
      have hnb := (hB.block _ hpb1).trans ((hB0.block _ hpb).trans H.out.blk)
      have p0 := cell_blk hnb 0 rfl
      simp at e3 p0
      clear hI0 hok
      gi_upto_region 10 with (fail)
      gi_cut [68] from 140 (fun v68 wx => v68 = .bool false ∧ wx = W)
      case first =>
        as_aux_lemma =>
          by_cases h1 : (pre.length : Int) = L.length
          · have q1 : ((pre.length : Int) != (L.length : Int)) = false := by simp [h1]
            clear h1 hor
            gi_wp2
            gi_meet
            case rel => exact ⟨rfl, rfl⟩
          · have q1 : ((pre.length : Int) != (L.length : Int)) = true := by simp [h1]
            have q2 : ((pre.length : Int) != early) = false := by rcases hor with h | h; exact absurd h h1; simp [h]
            clear h1 hor
            gi_wp2
            gi_meet
            case rel => exact ⟨rfl, rfl⟩
      case rest =>
        obtain ⟨rfl, rfl⟩ := hcut
        clear hor c5 c7 e3
        gi_wp2_with (refine ⟨trivial, ?_⟩; gi_at_call 67; refine (all_in Fence.wide _ trivial rfl _ _).mono ?_; rintro e w2 ⟨rfl, rfl⟩)
        have hlow : w1.heap.size + 1 + 1 + 1 + 1 < wc.heap.size := b9.lt
        have hDl := lt_of_some hK
        have d12 := (Boxed.new ((wc.alloc (.cells #[.pointer (some ⟨ab, 0, none⟩)] 52)).alloc (.cells #[.func (.func 82) #[] #[.pointer (some ⟨wc.heap.size, 0, none⟩)]] 136)) 3 (.int .i64 0))
        have d11 := (Boxed.new (wc.alloc (.cells #[.pointer (some ⟨ab, 0, none⟩)] 52)) 136 (.func (.func 82) #[] #[.pointer (some ⟨wc.heap.size, 0, none⟩)])).alloc (.cells #[.int .i64 0] 3)
        have dq := ((Boxed.new wc 52 (.pointer (some ⟨ab, 0, none⟩))).alloc (.cells #[.func (.func 82) #[] #[.pointer (some ⟨wc.heap.size, 0, none⟩)]] 136)).alloc (.cells #[.int .i64 0] 3)
        simp only [World.size_alloc] at d12 d11 dq
        have hI2 : I2 w1 ab L (.slice ha L.length hc) (.slice xa L.length xc) wc.heap.size D 0 true (((wc.alloc (.cells #[.pointer (some ⟨ab, 0, none⟩)] 52)).alloc (.cells #[.func (.func 82) #[] #[.pointer (some ⟨wc.heap.size, 0, none⟩)]] 136)).alloc (.cells #[.int .i64 0] 3)) :=
          ⟨⟨⟨d12, ((b8.alloc _).alloc _).alloc _⟩, ((b5.alloc _).alloc _).alloc _, ((b6.alloc _).alloc _).alloc _⟩, ⟨dq, d11⟩, alloc_blk (alloc_blk (alloc_blk hK _) _) _, ((hB.alloc hB.size _).alloc (by have := hB.size; simp; omega) _).alloc (by have := hB.size; simp; omega) _⟩
        have hs3 : (((wc.alloc (.cells #[.pointer (some ⟨ab, 0, none⟩)] 52)).alloc (.cells #[.func (.func 82) #[] #[.pointer (some ⟨wc.heap.size, 0, none⟩)]] 136)).alloc (.cells #[.int .i64 0] 3)).heap.size = wc.heap.size + 1 + 1 + 1 := by simp
        generalize (((wc.alloc (.cells #[.pointer (some ⟨ab, 0, none⟩)] 52)).alloc (.cells #[.func (.func 82) #[] #[.pointer (some ⟨wc.heap.size, 0, none⟩)]] 136)).alloc (.cells #[.int .i64 0] 3)) = W3 at hI2 hs3 ⊢
        clear d12 d11 dq b5 b6 b7 b8 b9 hK hnb hb3 hB p0
        generalize wc.heap.size = s2 at hI2 hs3 hlow hDl ⊢
        have hs3a : s2 + 1 + 1 + 1 ≤ W3.heap.size := by omega
        have hs3b : W3.heap.size ≤ s2 + 1 + 1 + 1 := by omega
        clear hs3
        have hstops := all_stops Fence.wide 8 trivial rfl (by decide) s2 HA.out W3 hI2.2.2.2 hI2.2.1.1
        rw [← HL.out] at hstops
        refine wpIn_rangeFunc_ownH rfl (by decide) (gf := 82) (lb := #[.pointer (some ⟨s2, 0, none⟩)]) rfl trivial (enters_of Try.func82 (by kernel_rfl) rfl)
          hstops (fun h k => h.trans k) (kpB_b (by omega) (by omega)) (Below.refl _ _) (fun _ => rfl)
          (fun pre W => I2 w1 ab L (.slice ha L.length hc) (.slice xa L.length xc) s2 D pre.length (okH L pre) W)
          (fun _ _ _ => False)
          (I2_own _ _ _ _ _ _ _ _ _ (by omega) (by omega)) (fun c _ _ _ _ hs _ _ => hs) (by rw [okH_nil]; exact hI2)
          (fun x a' W => ∃ Bx, s2 + 1 + 1 < Bx ∧ W.heap[Bx]? = some (.cells #[.int .u32 (x.1.1 : Int), .int .u32 (x.1.2 : Int)] 39 (0, 0)) ∧ a' = { tmps := List.toArray (.pointer (some ⟨pb, 0, none⟩) :: .int .i64 early :: undef :: .pointer (some ⟨w.heap.size, 0, none⟩) :: .bool false :: .pointer (some ⟨w1.heap.size, 0, none⟩) :: .pointer (some ⟨w1.heap.size + 1, 0, none⟩) :: .pointer (some ⟨w1.heap.size + 1 + 1, 0, none⟩) :: .pointer (some ⟨w1.heap.size + 1 + 1 + 1, 0, none⟩) :: undef :: undef :: .pointer (some ⟨s2 + 1, 0, none⟩) :: .pointer (some ⟨s2 + 1 + 1, 0, none⟩) :: .pointer (some ⟨Bx, 0, none⟩) :: undef :: undef :: undef :: .tuple #[.slice ha L.length hc, .slice xa L.length xc] :: .pointer (some ⟨pb, 0, none⟩) :: .pointer (some ⟨pb, 0, none⟩) :: .pointer (some ⟨pb, 1, none⟩) :: .pointer (some ⟨rb, 0, none⟩) :: .tuple #[.slice ha L.length hc, .slice xa L.length xc] :: .slice ha L.length hc :: .slice xa L.length xc :: u25 :: u26 :: u27 :: u28 :: .func (.func 82) #[] #[.pointer (some ⟨w1.heap.size + 1 + 1 + 1 + 1, 0, none⟩)] :: undef :: undef :: undef :: undef :: undef :: undef :: undef :: undef :: undef :: undef :: undef :: undef :: undef :: undef :: undef :: undef :: undef :: undef :: undef :: undef :: undef :: undef :: undef :: undef :: undef :: undef :: undef :: undef :: undef :: undef :: u60 :: u61 :: u62 :: u63 :: u64 :: u65 :: u66 :: u67 :: .bool false :: .pointer (some ⟨pb, 0, none⟩) :: .pointer (some ⟨pb, 0, none⟩) :: .pointer (some ⟨pb, 0, none⟩) :: .pointer (some ⟨ab, 0, none⟩) :: .func (.func 82) #[] #[.pointer (some ⟨s2, 0, none⟩)] :: .func (.func 82) #[] #[.pointer (some ⟨s2, 0, none⟩)] :: .bool false :: .func (.func 82) #[] #[.pointer (some ⟨s2, 0, none⟩)] :: .agg #[.int .u32 (x.1.1 : Int), .int .u32 (x.1.2 : Int)] :: .int .i64 x.2 :: undef :: undef :: undef :: undef :: undef :: undef :: undef :: undef :: undef :: undef :: undef :: undef :: undef :: undef :: undef :: undef :: undef :: undef :: undef :: undef :: undef :: undef :: undef :: undef :: undef :: undef :: undef :: undef :: undef :: undef :: undef :: undef :: undef :: undef :: undef :: undef :: undef :: undef :: undef :: undef :: undef :: undef :: undef :: undef :: undef :: undef :: undef :: undef :: undef :: undef :: undef :: undef :: undef :: undef :: undef :: undef :: undef :: undef :: undef :: undef :: undef :: []), defers := [] })
          (fun x a' _ X Y row hs hg hr => by obtain ⟨Bx, h1, h2, h3⟩ := hs; exact ⟨Bx, h1, blk_own Bx _ 39 () X Y row h2 hg (fun r e => (hr r e).2), h3⟩)
          ?assign2 ?body2 ?done2 ?stop2
        case assign2 =>
          rintro l pre x W K hI hK
          gi_wp2
          exact hK _ _ ((KeepsOthers.alloc _ _).from _) (hI.kp (hI.alloc _) ((Below.refl _ W).alloc hI.2.2.2.size _)) (hI.alloc _) ⟨W.heap.size, hI.1.1.1.lt, Go.heap_alloc_new W _, rfl⟩
        case body2 =>
          rintro l pre x a' W hl ⟨r, hr⟩ hI ⟨Bx, hBx, bX, rfl⟩ hlt
          obtain ⟨y, hy⟩ : ∃ y, L[pre.length]? = some y := ⟨_, List.getElem?_eq_getElem hlt⟩
          obtain ⟨g1, rfl, hg1, y0, y1⟩ := HH.out _ _ hy
          have z0 := (hI.2.2.2.cell (p := ⟨g1, pre.length * 2, none⟩) hg1).trans y0
          have z1 := (hI.2.2.2.cell (p := ⟨g1, pre.length * 2 + 1, none⟩) hg1).trans y1
          have c5 := hI.1.2.1.cell
          have c12 := hI.1.1.1.cell
          have c8 := hI.1.1.2.cell
          have f8 := hI.1.1.2.frozen
          have x0 := cell_blk bX 0 rfl
          have x1 := cell_blk bX 1 rfl
          simp at x0 x1
          have hstep := okH_step (x := x) hy
          have hlt' : (pre.length : Int) < (L.length : Int) := by omega
          obtain ⟨m, hm⟩ : ∃ m, m = pre.length := ⟨_, rfl⟩
          rw [← hm] at z0 z1 c12 hlt hlt'
          have HI := Lib.hid hI
          have HM := Lib.hid hm
          have HRR := Lib.hid hr
          clear y0 y1 hI hm hr
          gi_upto_region 18 with (fail)
          gi_cut [] from 140 (fun wc => wc = (W.setCell ⟨w1.heap.size + 1 + 1 + 1, 0, none⟩ (.bool (okH L (pre ++ [x])))).drew)
          case first =>
            as_aux_lemma =>
              cases hok : okH L pre with
              | false =>
                rw [hok] at hstep c8
                have hs2 : okH L (pre ++ [x]) = false := by rw [hstep]; rfl
                clear hstep hok
                refine regionIn_still 15 (by kernel_rfl) (by kernel_rfl) (by simp only [List.take_succ_cons, List.take_zero, allCalm]; repeat (first | exact trivial | refine ⟨by first | exact calm_move | exact calm_pick | exact calm_value (fun ρ => ⟨_, rfl⟩) (fun _ _ => rfl) (fun _ h => by cases h), ?_⟩)) ?_
                simp only [List.take_succ_cons, List.take_zero, List.drop_succ_cons, List.drop_zero]
                iterate 2 (refine StillG.next (fun K hK => ?_); go_simp; refine hK.out _ ?_; clear hK K)
                iterate 4 (refine StillG.next (fun K hK => ?_); go_simp; refine hK.out _ ?_; clear hK K)
                iterate 2 (refine StillG.next (fun K hK => ?_); go_simp; refine hK.out _ ?_; clear hK K)
                iterate 6 (refine StillG.next (fun K hK => ?_); go_simp; refine hK.out _ ?_; clear hK K)
                iterate 1 (refine StillG.next (fun K hK => ?_); go_simp; refine hK.out _ ?_; clear hK K)
                refine StillG.done ?_
                change wpListIn _ _ _ _ _ _ _ W.drew
                gi_wp2
                gi_meet
                case rel => rw [hs2]
              | true =>
                rw [hok] at hstep c8
                by_cases h2 : y.1 = x.1
                · have hs2 : okH L (pre ++ [x]) = true := by rw [hstep]; simp [h2]
                  have q1 : hEq (x.1.1 : Int) (x.1.2 : Int) (y.1.1 : Int) (y.1.2 : Int) = true := hEq_true (by rw [h2]) (by rw [h2])
                  clear hstep hok h2
                  refine regionIn_still 15 (by kernel_rfl) (by kernel_rfl) (by simp only [List.take_succ_cons, List.take_zero, allCalm]; repeat (first | exact trivial | refine ⟨by first | exact calm_move | exact calm_pick | exact calm_value (fun ρ => ⟨_, rfl⟩) (fun _ _ => rfl) (fun _ h => by cases h), ?_⟩)) ?_
                  simp only [List.take_succ_cons, List.take_zero, List.drop_succ_cons, List.drop_zero]
                  iterate 15 (refine StillG.next (fun K hK => ?_); go_simp; refine hK.out _ ?_; clear hK K)
                  refine StillG.done ?_
                  change wpListIn _ _ _ _ _ _ _ W.drew
                  gi_wp2
                  gi_meet
                  case rel => rw [hs2]
                · have hs2 : okH L (pre ++ [x]) = false := by rw [hstep]; simp [h2]
                  have q1 : hEq (x.1.1 : Int) (x.1.2 : Int) (y.1.1 : Int) (y.1.2 : Int) = false := hEq_false (by
                    by_cases h3 : x.1.1 = y.1.1
                    · right; intro e; exact h2 (Prod.ext h3.symm (by omega))
                    · left; omega)
                  clear hstep hok h2
                  refine regionIn_still 15 (by kernel_rfl) (by kernel_rfl) (by simp only [List.take_succ_cons, List.take_zero, allCalm]; repeat (first | exact trivial | refine ⟨by first | exact calm_move | exact calm_pick | exact calm_value (fun ρ => ⟨_, rfl⟩) (fun _ _ => rfl) (fun _ h => by cases h), ?_⟩)) ?_
                  simp only [List.take_succ_cons, List.take_zero, List.drop_succ_cons, List.drop_zero]
                  iterate 15 (refine StillG.next (fun K hK => ?_); go_simp; refine hK.out _ ?_; clear hK K)
                  refine StillG.done ?_
                  change wpListIn _ _ _ _ _ _ _ W.drew
                  gi_wp2
                  gi_meet
                  case rel => rw [hs2]
          case rest =>
            subst hcut
            clear c5 c8 c12 z0 z1 x0 x1 f8 hstep
            obtain ⟨q, hq⟩ : ∃ q, q = okH L (pre ++ [x]) := ⟨_, rfl⟩
            have HQ := Lib.hid hq
            have hBW : w1.heap.size ≤ W.heap.size := HI.out.2.2.2.size
            have J1 := (HI.out.setQ q (by omega) (by omega)).drew
            have dB : Below w1.heap.size W (W.setCell ⟨w1.heap.size + 1 + 1 + 1, 0, none⟩ (.bool q)).drew := ((Below.refl _ W).setCell (p := ⟨w1.heap.size + 1 + 1 + 1, 0, none⟩) (by simp; omega) _).drew
            have dK : KeepsOthers W (W.setCell ⟨w1.heap.size + 1 + 1 + 1, 0, none⟩ (.bool q)).drew := (KeepsOthers.setCell _ _ _).trans (KeepsOthers.drew _)
            rw [← hq]
            clear hq
            generalize (W.setCell ⟨w1.heap.size + 1 + 1 + 1, 0, none⟩ (.bool q)).drew = W2 at J1 dB dK ⊢
            rw [← HM.out] at J1
            have c12 := J1.1.1.1.cell
            have f12 := J1.1.1.1.frozen
            have hl12 := J1.1.1.1.lt
            have q1 : IntKind.i64.wrap ((m : Int) + 1) = (m : Int) + 1 := IntWalk.i64_in _ (by omega)
            gi_upto_region 21 with (fail)
            have J4 : I2 w1 ab L (.slice (some ⟨g1, 0, none⟩) L.length hc) (.slice xa L.length xc) s2 D (m + 1) q ((W2.setCell ⟨s2 + 1 + 1, 0, none⟩ (.int .i64 ((m : Int) + 1))).alloc (.cells #[.int .i64 0] 3)) := (J1.setM (m + 1) (by omega) (by omega)).alloc _
            have b14' : Boxed ((W2.setCell ⟨s2 + 1 + 1, 0, none⟩ (.int .i64 ((m : Int) + 1))).alloc (.cells #[.int .i64 0] 3)) W2.heap.size 3 (.int .i64 0) := by
              have := Boxed.new (W2.setCell ⟨s2 + 1 + 1, 0, none⟩ (.int .i64 ((m : Int) + 1))) 3 (.int .i64 0)
              rw [World.size_setCell] at this
              exact this
            have dB4 : Below w1.heap.size W ((W2.setCell ⟨s2 + 1 + 1, 0, none⟩ (.int .i64 ((m : Int) + 1))).alloc (.cells #[.int .i64 0] 3)) := (dB.setCell (p := ⟨s2 + 1 + 1, 0, none⟩) (by simp; omega) _).alloc (by have := dB.size; simp; omega) _
            have dK4 : KeepsOthers W ((W2.setCell ⟨s2 + 1 + 1, 0, none⟩ (.int .i64 ((m : Int) + 1))).alloc (.cells #[.int .i64 0] 3)) := (dK.trans (KeepsOthers.setCell _ _ _)).trans (KeepsOthers.alloc _ _)
            have hs4 : ((W2.setCell ⟨s2 + 1 + 1, 0, none⟩ (.int .i64 ((m : Int) + 1))).alloc (.cells #[.int .i64 0] 3)).heap.size = W2.heap.size + 1 := by simp
            have hs5 := dB.size
            have hD4 : D ≠ W2.heap.size := by have := lt_of_some J1.2.2.1; omega
            generalize ((W2.setCell ⟨s2 + 1 + 1, 0, none⟩ (.int .i64 ((m : Int) + 1))).alloc (.cells #[.int .i64 0] 3)) = W4 at J4 b14' dB4 dK4 hs4 ⊢
            generalize W2.heap.size = b14 at b14' hs4 hs5 hl12 hD4 ⊢
            have hs4a : b14 + 1 ≤ W4.heap.size := by omega
            have hs4b : W4.heap.size ≤ b14 + 1 := by omega
            clear J1 dB dK c12 f12 hs4
            have c12 := J4.1.1.1.cell
            have c11 := J4.2.1.2.cell
            by_cases h3 : m + 1 < 3
            · have h3' : ((m : Int) + 1) < 3 := by omega
              clear h3
              gi_wp2
              have hr := HRR.out
              have hr4 : W4.heap[l]? = some (.loop r) := dK4.same _ _ hr rfl
              have hstops3 := all_stops Fence.wide 6 trivial rfl (by decide) s2 HA.out W4 J4.2.2.2 J4.2.1.1
              rw [← HL.out] at hstops3
              refine wpIn_rangeFunc_ownN (l₀ := l) (r₀ := r) rfl hr4 (by decide) (gf := 82) (lb := #[.pointer (some ⟨s2, 0, none⟩)]) rfl trivial (enters_of Try.func82 (by kernel_rfl) rfl)
                (hstops3.inRound l) (fun h k => h.trans k) (kpB_b (by omega) (by omega)) (Below.refl _ _) (fun _ => rfl)
                (fun pre' W' => (I2 w1 ab L (.slice (some ⟨g1, 0, none⟩) L.length hc) (.slice xa L.length xc) s2 D (m + 1) (q && okP L pre') W' ∧ Boxed W' b14 3 (.int .i64 (pre'.length : Int))) ∧ (Below w1.heap.size W W' ∧ KeepsFrom W3.heap.size W W'))
                (fun _ _ _ => False)
                (OwnFrom.and (OwnFrom.and (I2_own _ _ _ _ _ _ _ _ _ (by omega) (by omega)) (Own.from (boxed_own _ _ _) _)) (OwnFrom.and (ownFrom_below hBW (by omega)) (ownFrom_keepsFrom (by omega))))
                (fun c _ _ _ _ hs _ _ => hs)
                ⟨⟨by rw [okP_nil, Bool.and_true]; exact J4, b14'⟩, dB4, dK4.from _⟩
                (fun x2 a' W => ∃ By, b14 < By ∧ W.heap[By]? = some (.cells #[.int .u32 (x2.1.1 : Int), .int .u32 (x2.1.2 : Int)] 39 (0, 0)) ∧ a' = { tmps := List.toArray (.pointer (some ⟨pb, 0, none⟩) :: .int .i64 early :: undef :: .pointer (some ⟨w.heap.size, 0, none⟩) :: .bool false :: .pointer (some ⟨w1.heap.size, 0, none⟩) :: .pointer (some ⟨w1.heap.size + 1, 0, none⟩) :: .pointer (some ⟨w1.heap.size + 1 + 1, 0, none⟩) :: .pointer (some ⟨w1.heap.size + 1 + 1 + 1, 0, none⟩) :: undef :: undef :: .pointer (some ⟨s2 + 1, 0, none⟩) :: .pointer (some ⟨s2 + 1 + 1, 0, none⟩) :: .pointer (some ⟨Bx, 0, none⟩) :: .pointer (some ⟨b14, 0, none⟩) :: .pointer (some ⟨By, 0, none⟩) :: .int .i64 x2.2 :: .tuple #[.slice (some ⟨g1, 0, none⟩) L.length hc, .slice xa L.length xc] :: .pointer (some ⟨pb, 0, none⟩) :: .pointer (some ⟨pb, 0, none⟩) :: .pointer (some ⟨pb, 1, none⟩) :: .pointer (some ⟨rb, 0, none⟩) :: .tuple #[.slice (some ⟨g1, 0, none⟩) L.length hc, .slice xa L.length xc] :: .slice (some ⟨g1, 0, none⟩) L.length hc :: .slice xa L.length xc :: u25 :: u26 :: u27 :: u28 :: .func (.func 82) #[] #[.pointer (some ⟨w1.heap.size + 1 + 1 + 1 + 1, 0, none⟩)] :: undef :: undef :: undef :: undef :: undef :: undef :: undef :: undef :: undef :: undef :: undef :: undef :: undef :: undef :: undef :: undef :: undef :: undef :: undef :: undef :: undef :: undef :: undef :: undef :: undef :: undef :: undef :: undef :: undef :: undef :: u60 :: u61 :: u62 :: u63 :: u64 :: u65 :: u66 :: u67 :: .bool false :: .pointer (some ⟨pb, 0, none⟩) :: .pointer (some ⟨pb, 0, none⟩) :: .pointer (some ⟨pb, 0, none⟩) :: .pointer (some ⟨ab, 0, none⟩) :: .func (.func 82) #[] #[.pointer (some ⟨s2, 0, none⟩)] :: .func (.func 82) #[] #[.pointer (some ⟨s2, 0, none⟩)] :: .bool false :: .func (.func 82) #[] #[.pointer (some ⟨s2, 0, none⟩)] :: .agg #[.int .u32 (x.1.1 : Int), .int .u32 (x.1.2 : Int)] :: .int .i64 x.2 :: u79 :: u80 :: u81 :: u82 :: u83 :: u84 :: u85 :: u86 :: u87 :: u88 :: u89 :: u90 :: u91 :: u92 :: u93 :: .int .i64 (m : Int) :: .int .i64 ((m : Int) + 1) :: .int .i64 ((m : Int) + 1) :: .bool true :: .func (.func 82) #[] #[.pointer (some ⟨s2, 0, none⟩)] :: .agg #[.int .u32 (x2.1.1 : Int), .int .u32 (x2.1.2 : Int)] :: .int .i64 x2.2 :: undef :: undef :: undef :: undef :: undef :: undef :: undef :: undef :: undef :: undef :: undef :: undef :: undef :: undef :: undef :: undef :: undef :: undef :: undef :: undef :: undef :: undef :: undef :: undef :: undef :: undef :: undef :: undef :: undef :: undef :: undef :: undef :: undef :: undef :: undef :: undef :: undef :: undef :: undef :: []), defers := [] })
                (fun x2 a' _ X Y row hs hg hr => by obtain ⟨By, h1, h2, h3⟩ := hs; exact ⟨By, h1, blk_own By _ 39 () X Y row h2 hg (fun r e => (hr r e).2), h3⟩)
                ?assign3 ?body3 ?done3 ?stop3
              case assign3 =>
                rintro l2 pre' x2 W' K ⟨⟨hI3, hb3⟩, hBW', hKF⟩ hK
                gi_wp2
                exact hK _ _ ((KeepsOthers.alloc _ _).from _) (hI3.kp (hI3.alloc _) ((Below.refl _ W').alloc hI3.2.2.2.size _)) ⟨⟨hI3.alloc _, hb3.alloc _⟩, hBW'.alloc (Nat.le_trans hBW hBW'.size) _, hKF.trans ((KeepsOthers.alloc _ _).from _)⟩ ⟨W'.heap.size, hb3.lt, Go.heap_alloc_new W' _, rfl⟩
              case body3 =>
                rintro l2 pre' x2 a' W' hl2 ⟨r2, hr2⟩ ⟨⟨hI3, hb3⟩, hBW', hKF⟩ ⟨By, hBy, bY, rfl⟩ hlt2
                obtain ⟨y2, hy2⟩ : ∃ y2, L[pre'.length]? = some y2 := ⟨_, List.getElem?_eq_getElem hlt2⟩
                obtain ⟨g1', hg1e, hg1', v0, v1⟩ := HH.out _ _ hy2
                obtain rfl : g1 = g1' := by cases hg1e; rfl
                obtain ⟨g2, rfl, hg2, v2⟩ := HX.out _ _ hy2
                have z0 := (hI3.2.2.2.cell (p := ⟨g1, pre'.length * 2, none⟩) hg1).trans v0
                have z1 := (hI3.2.2.2.cell (p := ⟨g1, pre'.length * 2 + 1, none⟩) hg1).trans v1
                have z2 := (hI3.2.2.2.cell (p := ⟨g2, pre'.length, none⟩) hg2).trans v2
                have c5 := hI3.1.2.1.cell
                have c6 := hI3.1.2.2.cell
                have c8 := hI3.1.1.2.cell
                have f8 := hI3.1.1.2.frozen
                have c14 := hb3.cell
                have x0 := cell_blk bY 0 rfl
                have x1 := cell_blk bY 1 rfl
                simp at x0 x1
                have hstep : (q && okP L (pre' ++ [x2])) = ((q && okP L pre') && decide (y2 = x2)) := by rw [okP_step (x := x2) hy2, Bool.and_assoc]
                have hltk : (pre'.length : Int) < (L.length : Int) := by omega
                obtain ⟨k, hk⟩ : ∃ k, k = pre'.length := ⟨_, rfl⟩
                rw [← hk] at z0 z1 z2 c14 hlt2 hltk
                have HI3 := Lib.hid hI3
                have HB3 := Lib.hid hb3
                have HK := Lib.hid hk
                have HBW := Lib.hid hBW'
                have HKF := Lib.hid hKF
                clear v0 v1 v2 hI3 hb3 hk hBW' hKF c11 c12
                gi_upto_region 25 with (fail)
                gi_cut [] from 140 (fun wc => wc = (W'.setCell ⟨w1.heap.size + 1 + 1 + 1, 0, none⟩ (.bool (q && okP L (pre' ++ [x2])))).drew)
                case first =>
                  as_aux_lemma =>
                    cases ho : (q && okP L pre') with
                    | false =>
                      rw [ho] at hstep c8
                      have hs2 : (q && okP L (pre' ++ [x2])) = false := by rw [hstep]; rfl
                      clear hstep ho
                      refine regionIn_still 23 (by kernel_rfl) (by kernel_rfl) (by simp only [List.take_succ_cons, List.take_zero, allCalm]; repeat (first | exact trivial | refine ⟨by first | exact calm_move | exact calm_pick | exact calm_value (fun ρ => ⟨_, rfl⟩) (fun _ _ => rfl) (fun _ h => by cases h), ?_⟩)) ?_
                      simp only [List.take_succ_cons, List.take_zero, List.drop_succ_cons, List.drop_zero]
                      iterate 2 (refine StillG.next (fun K hK => ?_); go_simp; refine hK.out _ ?_; clear hK K)
                      iterate 4 (refine StillG.next (fun K hK => ?_); go_simp; refine hK.out _ ?_; clear hK K)
                      iterate 2 (refine StillG.next (fun K hK => ?_); go_simp; refine hK.out _ ?_; clear hK K)
                      iterate 6 (refine StillG.next (fun K hK => ?_); go_simp; refine hK.out _ ?_; clear hK K)
                      iterate 2 (refine StillG.next (fun K hK => ?_); go_simp; refine hK.out _ ?_; clear hK K)
                      iterate 6 (refine StillG.next (fun K hK => ?_); go_simp; refine hK.out _ ?_; clear hK K)
                      iterate 1 (refine StillG.next (fun K hK => ?_); go_simp; refine hK.out _ ?_; clear hK K)
                      refine StillG.done ?_
                      change wpListIn _ _ _ _ _ _ _ W'.drew
                      gi_wp2
                      gi_meet
                      case rel => rw [hs2]
                    | true =>
                      rw [ho] at hstep c8
                      by_cases h1 : y2 = x2
                      · have hs2 : (q && okP L (pre' ++ [x2])) = true := by rw [hstep]; simp [h1]
                        subst h1
                        have q1 : hEq (y2.1.1 : Int) (y2.1.2 : Int) (y2.1.1 : Int) (y2.1.2 : Int) = true := hEq_true rfl rfl
                        clear hstep ho
                        refine regionIn_still 23 (by kernel_rfl) (by kernel_rfl) (by simp only [List.take_succ_cons, List.take_zero, allCalm]; repeat (first | exact trivial | refine ⟨by first | exact calm_move | exact calm_pick | exact calm_value (fun ρ => ⟨_, rfl⟩) (fun _ _ => rfl) (fun _ h => by cases h), ?_⟩)) ?_
                        simp only [List.take_succ_cons, List.take_zero, List.drop_succ_cons, List.drop_zero]
                        iterate 23 (refine StillG.next (fun K hK => ?_); go_simp; refine hK.out _ ?_; clear hK K)
                        refine StillG.done ?_
                        change wpListIn _ _ _ _ _ _ _ W'.drew
                        gi_wp2
                        gi_meet
                        case rel => rw [hs2]
                      · have hs2 : (q && okP L (pre' ++ [x2])) = false := by rw [hstep]; simp [h1]
                        clear hstep ho
                        by_cases h2 : y2.1 = x2.1
                        · have h3 : ¬ x2.2 = y2.2 := fun e => h1 (Prod.ext h2 e.symm)
                          have q2 : (x2.2 == y2.2) = false := by simp [h3]
                          have q1 : hEq (x2.1.1 : Int) (x2.1.2 : Int) (y2.1.1 : Int) (y2.1.2 : Int) = true := hEq_true (by rw [h2]) (by rw [h2])
                          clear h1 h2
                          refine regionIn_still 23 (by kernel_rfl) (by kernel_rfl) (by simp only [List.take_succ_cons, List.take_zero, allCalm]; repeat (first | exact trivial | refine ⟨by first | exact calm_move | exact calm_pick | exact calm_value (fun ρ => ⟨_, rfl⟩) (fun _ _ => rfl) (fun _ h => by cases h), ?_⟩)) ?_
                          simp only [List.take_succ_cons, List.take_zero, List.drop_succ_cons, List.drop_zero]
                          iterate 23 (refine StillG.next (fun K hK => ?_); go_simp; refine hK.out _ ?_; clear hK K)
                          refine StillG.done ?_
                          change wpListIn _ _ _ _ _ _ _ W'.drew
                          gi_wp2
                          gi_meet
                          case rel => rw [hs2]
                        · have q1 : hEq (x2.1.1 : Int) (x2.1.2 : Int) (y2.1.1 : Int) (y2.1.2 : Int) = false := hEq_false (by
                            by_cases h3 : x2.1.1 = y2.1.1
                            · right; intro e; exact h2 (Prod.ext h3.symm (by omega))
                            · left; omega)
                          clear h1 h2
                          refine regionIn_still 23 (by kernel_rfl) (by kernel_rfl) (by simp only [List.take_succ_cons, List.take_zero, allCalm]; repeat (first | exact trivial | refine ⟨by first | exact calm_move | exact calm_pick | exact calm_value (fun ρ => ⟨_, rfl⟩) (fun _ _ => rfl) (fun _ h => by cases h), ?_⟩)) ?_
                          simp only [List.take_succ_cons, List.take_zero, List.drop_succ_cons, List.drop_zero]
                          iterate 16 (refine StillG.next (fun K hK => ?_); go_simp; refine hK.out _ ?_; clear hK K)
                          iterate 6 (refine StillG.next (fun K hK => ?_); go_simp; refine hK.out _ ?_; clear hK K)
                          iterate 1 (refine StillG.next (fun K hK => ?_); go_simp; refine hK.out _ ?_; clear hK K)
                          refine StillG.done ?_
                          change wpListIn _ _ _ _ _ _ _ W'.drew
                          gi_wp2
                          gi_meet
                          case rel => rw [hs2]
                case rest =>
                  subst hcut
                  clear c5 c6 c8 f8 c14 z0 z1 z2 x0 x1 hstep
                  have hBs : w1.heap.size ≤ W'.heap.size := HI3.out.2.2.2.size
                  have J5 := (HI3.out.setQ (q && okP L (pre' ++ [x2])) (by omega) (by omega)).drew
                  have b5' : Boxed ((W'.setCell ⟨w1.heap.size + 1 + 1 + 1, 0, none⟩ (.bool (q && okP L (pre' ++ [x2])))).drew) b14 3 (.int .i64 (pre'.length : Int)) := Boxed.other (W := W') HB3.out (by omega) _
                  have dB5 : Below w1.heap.size W' ((W'.setCell ⟨w1.heap.size + 1 + 1 + 1, 0, none⟩ (.bool (q && okP L (pre' ++ [x2])))).drew) := ((Below.refl _ W').setCell (p := ⟨w1.heap.size + 1 + 1 + 1, 0, none⟩) (by simp; omega) _).drew
                  have dK5 : KeepsOthers W' ((W'.setCell ⟨w1.heap.size + 1 + 1 + 1, 0, none⟩ (.bool (q && okP L (pre' ++ [x2])))).drew) := (KeepsOthers.setCell _ _ _).trans (KeepsOthers.drew _)
                  generalize (W'.setCell ⟨w1.heap.size + 1 + 1 + 1, 0, none⟩ (.bool (q && okP L (pre' ++ [x2])))).drew = W5 at J5 b5' dB5 dK5 ⊢
                  rw [← HK.out] at b5'
                  have c14 := b5'.cell
                  have f14 := b5'.frozen
                  have q3 : IntKind.i64.wrap ((k : Int) + 1) = (k : Int) + 1 := IntWalk.i64_in _ (by omega)
                  have J6 := J5.other (b := b14) (.int .i64 ((k : Int) + 1)) (by omega) (by omega) (by omega) (by omega) (by omega) (by omega) (by omega) hD4
                  have b6' : Boxed (W5.setCell ⟨b14, 0, none⟩ (.int .i64 ((k : Int) + 1))) b14 3 (.int .i64 (((pre' ++ [x2]).length : Nat) : Int)) := by
                    have e : ((pre' ++ [x2]).length : Int) = (k : Int) + 1 := by simp [HK.out]
                    rw [e]; exact b5'.set _
                  have dB6 := dB5.setCell (p := ⟨b14, 0, none⟩) (by simp; omega) (.int .i64 ((k : Int) + 1))
                  have dK6 : KeepsOthers W' (W5.setCell ⟨b14, 0, none⟩ (.int .i64 ((k : Int) + 1))) := dK5.trans (KeepsOthers.setCell _ _ _)
                  have H6 := Lib.hid (And.intro J6 (And.intro b6' (And.intro dB6 dK6)))
                  clear J5 J6 b5' b6' dB5 dB6 dK5 dK6
                  gi_wp2
                  exact ⟨H6.out.2.2.2.from _, HI3.out.kp H6.out.1 H6.out.2.2.1, ⟨H6.out.1, H6.out.2.1⟩, HBW.out.trans H6.out.2.2.1, HKF.out.trans (H6.out.2.2.2.from _)⟩
              case done3 =>
                rintro ys W' rfl ⟨⟨hI3, hb3⟩, hBW', hKF⟩
                rw [okP_of (List.prefix_refl _), Bool.and_true] at hI3
                have c8 := hI3.1.1.2.cell
                have f8 := hI3.1.1.2.frozen
                have c5 := hI3.1.2.1.cell
                have c14 := hb3.cell
                have J7 := hI3.setQ q (by omega) (by omega)
                have e : (pre ++ [x]).length = m + 1 := by simp [HM.out]
                have dB7 := hBW'.setCell (p := ⟨w1.heap.size + 1 + 1 + 1, 0, none⟩) (by simp; omega) (.bool q)
                have dK7 := hKF.trans ((KeepsOthers.setCell W' ⟨w1.heap.size + 1 + 1 + 1, 0, none⟩ (.bool q)).from W3.heap.size)
                have H7 := Lib.hid (And.intro J7 (And.intro dB7 dK7))
                clear J7 dB7 dK7 hI3 hb3 hBW' hKF c11 c12
                cases q with
                | false =>
                  gi_wp2
                  refine ⟨H7.out.2.2, HI.out.kp H7.out.1 H7.out.2.1, ?_⟩
                  show I2 w1 ab _ _ _ s2 D (pre ++ [x]).length (okH _ (pre ++ [x])) _
                  rw [e, ← HQ.out]
                  exact H7.out.1
                | true =>
                  gi_wp2
                  refine ⟨H7.out.2.2, HI.out.kp H7.out.1 H7.out.2.1, ?_⟩
                  show I2 w1 ab _ _ _ s2 D (pre ++ [x]).length (okH _ (pre ++ [x])) _
                  rw [e, ← HQ.out]
                  exact H7.out.1
              case stop3 =>
                rintro c pre' W' _ h
                exact h.elim
            · have h3' : ¬ ((m : Int) + 1) < 3 := by omega
              clear h3
              gi_wp2
              have e : (pre ++ [x]).length = m + 1 := by simp [HM.out]
              refine ⟨dK4.from _, HI.out.kp J4 dB4, ?_⟩
              show I2 w1 ab L _ _ s2 D (pre ++ [x]).length (okH L (pre ++ [x])) W4
              rw [e, ← HQ.out]
              exact J4
        case done2 =>
          rintro D2 xs W hD2 rfl hI hK
          rw [okH_self] at hI
          have c8 := hI.1.1.2.cell
          have c12 := hI.1.1.1.cell
          have c5 := hI.1.2.1.cell
          gi_wp2
          refine ⟨by simp, .inl ⟨_, _, rfl, run_takeDeferred hK, ?_⟩⟩
          refine ⟨by simp, .inl ⟨_, _, rfl, run_takeDeferred ((World.putObj_heap_other (by omega)).trans hI.2.2.1), ?_⟩⟩
          exact ⟨_, results_tmp rfl _ _ _, rfl, hB0.trans ((hI.2.2.2.mono hB0.size).trans ((belowK_b (w := w1) hB0.size W D2 _ _ (by omega) hK rfl rfl).trans (belowK_b (w := w1) hB0.size _ D _ _ (by omega) ((World.putObj_heap_other (by omega)).trans hI.2.2.1) rfl rfl)))⟩
        case stop2 =>
          rintro D c pre W _ _ h _
          exact h.elim
end Go.Proofs.Ytlmbpbijhhnhpaa
