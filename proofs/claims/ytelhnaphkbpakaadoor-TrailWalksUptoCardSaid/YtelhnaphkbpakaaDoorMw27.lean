/- The law's told: an iterator is what a list says, wholly, left early, within its own loop. -/
import Derived.Sort.CutIn
import Derived.Sort.QuietIn
import Derived.Test.YtelhnaphkbpakaaDoorMw26
namespace Go.Proofs.YtelhnaphkbpakaaDoor
open Go.RowKit Go.Shelf
attribute [local go_sem] Oper.semAt_some
set_option linter.unusedVariables false
set_option maxRecDepth 100000

theorem under53 : Tryd.prog.underlying 53 = some (.func #[98] #[] false) := Tryd.underlying53
theorem eql_func53 (fn : Fn) (x y : Array Value) (w : World) : (binOp .eql 53 (.func fn x y) .nilFunc).run Tryd.prog w = .ok (.bool false) w := by
  have h : ∀ d : Nat, (Op.equalIn (d + 1) 53 (.func fn x y) .nilFunc).run Tryd.prog w = .ok false w := fun d => by
    simp [Op.equalIn, run_underlying under53]
  simp only [binOp]
  simp [Op.equal, Op.maxDepth, h 9999]
theorem store_func (P : Program) (w : World) (a : Addr) (fn : Fn) (x y : Array Value) (m : Mode) : (store a (.func fn x y) m).run P w = stored P w a (.func fn x y) m := run_store P w a _ m rfl
attribute [local go_sem] eql_func53 store_func

/-- What stands between two rounds: the counter, in its box; all else as at V. -/
structure TdI (V : World) (C : Nat) (m : Nat) (W : World) : Prop where
  box : W.heap[C]? = some (.cells #[.int .i64 (m : Int)] 3 (0, 0))
  low : Below V.heap.size V W
section
variable {V W : World} {C m : Nat}
theorem tdI_own {β : Type} {B : Nat} (f : β → Nat) (hB : V.heap.size ≤ B) : OwnFrom B (fun (s : β) W => TdI V C (f s) W) := by
  intro pre A E row hs hg hr
  refine ⟨(hg.block _ (lt_of_some hs.box) (fun e => ?_)).trans hs.box, hs.low.trans (grown_below hg (fun x e => by have := (hr x e).1; omega) hs.low.size)⟩
  obtain ⟨_, o, ho, hc⟩ := hr _ e.symm
  rw [hs.box] at ho
  cases ho
  cases hc
theorem tdI_T {β : Type} {B : Nat} (f : β → Nat) (hB : V.heap.size ≤ B) : AbideT [31] B (fun (s : β) W => TdI V C (f s) W) := fun pre A E hs f' =>
  ⟨f'.block _ _ hs.box (.inr (fun e he => by cases he; decide)), hs.low.trans (f'.lowB hB hs.low.size)⟩
theorem TdI.alloc (h : TdI V C m W) (o : Obj) : TdI V C m (W.alloc o) := ⟨alloc_blk h.box o, h.low.alloc h.low.size o⟩
theorem TdI.next (h : TdI V C m W) (hC : V.heap.size ≤ C) : TdI V C (m + 1) (W.setCell ⟨C, 0, none⟩ (.int .i64 ((m : Int) + 1))).drew :=
  ⟨set_blk h.box 0 _, (h.low.setCell hC _).drew⟩
theorem Below.undrew' {n : Nat} {A B : World} (h : Below n A B.drew) : Below n A B := ⟨h.os, h.tape, h.output, h.size, h.block⟩
theorem TdI.undrew (h : TdI V C m W.drew) : TdI V C m W := ⟨h.box, Below.undrew' h.low⟩
/-- What a round keeps. -/
theorem TdI.kp (h : TdI V C m W) {n0 : Nat} (hn : n0 ≤ V.heap.size) (hC : V.heap.size ≤ C) (v : Value) : KpD n0 W (W.setCell ⟨C, 0, none⟩ v).drew := by
  refine ⟨((Below.refl _ _).setCell (by show n0 ≤ C; omega) _).drew, fun k c t fz ht e => ?_⟩
  have hk : k ≠ C := by
    rintro rfl
    rw [h.box] at e
    cases e
    rcases ht with h | h <;> cases h
  show (W.setCell ⟨C, 0, none⟩ v).heap[k]? = _
  rw [heap_setCell_other _ _ _ _ hk]
  exact e
end
theorem pre_at {pre L : List Nat} {x : Nat} (h : pre ++ [x] <+: L) : L[pre.length]? = some x ∧ pre.length + 1 ≤ L.length := by
  obtain ⟨t, rfl⟩ := h
  simp

/-- What told lays at its start. -/
structure TdV (w V : World) (fb gf : Nat) (lb : Array Value) (wa : Option Addr) (n kc : Nat) (early : Int) : Prop where
  low : Below w.heap.size w V
  v4 : V.heap[w.heap.size]? = some (.cells #[.pointer (some ⟨fb, 0, none⟩)] 26 (0, 0))
  v5 : V.heap[w.heap.size + 1]? = some (.cells #[.func (.func gf) #[] lb] 53 (0, 0))
  v6 : V.heap[w.heap.size + 1 + 1]? = some (.cells #[.slice wa n kc] 67 (0, 0))
  v7 : V.heap[w.heap.size + 1 + 1 + 1]? = some (.cells #[.int .i64 early] 3 (0, 0))
  v8 : V.heap[w.heap.size + 1 + 1 + 1 + 1]? = some (.cells #[.bool false] 4 (0, 0))
theorem TdV.below {w V W : World} {fb gf : Nat} {lb : Array Value} {wa : Option Addr} {n kc : Nat} {early : Int} (h : TdV w V fb gf lb wa n kc early) (b : Below V.heap.size V W) : TdV w W fb gf lb wa n kc early :=
  ⟨h.low.trans (b.mono h.low.size), (b.block _ (lt_of_some h.v4)).trans h.v4, (b.block _ (lt_of_some h.v5)).trans h.v5, (b.block _ (lt_of_some h.v6)).trans h.v6, (b.block _ (lt_of_some h.v7)).trans h.v7, (b.block _ (lt_of_some h.v8)).trans h.v8⟩
theorem TdV.undrew {w W : World} {fb gf : Nat} {lb : Array Value} {wa : Option Addr} {n kc : Nat} {early : Int} (h : TdV w W.drew fb gf lb wa n kc early) : TdV w W fb gf lb wa n kc early :=
  ⟨Below.undrew' h.low, h.v4, h.v5, h.v6, h.v7, h.v8⟩

section
variable {B : Nat} {Q : Nat → Prop} {w : World} {fb : Nat} {F : For} {R : List RN} {rv : Value}
set_option maxHeartbeats 16000000 in
theorem told_in (hf : FoAt B Q w fb F R rv) {base : Nat} {wa : Option Addr} {n kc : Nat} {L : List Nat} (hwt : w.ownsRow base 3 1 (.slice wa n kc) n (icells L)) (hn : L.length = n) (hL : ∀ k ∈ L, k < F.length) (hlen : n ≤ F.length) {gf : Nat} {lb : Array Value}
    (heg : ∀ args w, (callFunc gf args).run Tryd.prog w = .ok (.enter gf args) w)
    (hseq : ∀ (m : Nat) (W : World), 1 ≤ m → Below w.heap.size w W → SeqT [31] Fence.wide m Tryd.prog gf lb (encK F) (KpD w.heap.size) L W)
    {early : Int} :
    CallsIn Fence.wide 12 Tryd.prog 33 #[.pointer (some ⟨fb, 0, none⟩), .func (.func gf) #[] lb, .slice wa n kc, .int .i64 early] w fun e w' => e = .returned (.bool true) ∧ Below w.heap.size w w' := by
  have hbig := hf.big
  have HC : Hid (∀ W, Below w.heap.size w W → ∀ (i k : Nat), L[i]? = some k → ∃ g cap a2 cap2, wa = some ⟨g, 0, none⟩ ∧ kc = cap ∧ W.cell? ⟨g, i, none⟩ = some (.int .i64 (k : Int)) ∧ rv = .slice (some ⟨a2, 0, none⟩) F.length cap2 ∧ W.cell? ⟨fb, 0, none⟩ = some rv ∧ W.cell? ⟨a2, k * 11, none⟩ = some (.int .u32 ((hd F (some k)).1 : Int)) ∧ W.cell? ⟨a2, k * 11 + 1, none⟩ = some (.int .u32 ((hd F (some k)).2 : Int)) ∧ k < F.length ∧ i < n) := Lib.hid (fun W b i k hk => by
    have hkl := (List.getElem?_eq_some_iff.1 hk).1
    obtain ⟨g, c, e⟩ := row_pos hwt (by omega)
    cases e
    have hkF := hL k (List.mem_of_getElem? hk)
    obtain ⟨x, hx⟩ : ∃ x, F[k]? = some x := ⟨_, List.getElem?_eq_getElem hkF⟩
    have hfW := hf.below b
    obtain ⟨a2, cap2, P, dv, e2, _, y0, y1, _⟩ := hfW.get hx
    have hc' : w.cell? ⟨g, i, none⟩ = some (.int .i64 (k : Int)) := (hwt.cellAt i (by omega)).trans (by simp [icells, hk])
    rw [hd_some hx]
    exact ⟨g, kc, a2, cap2, rfl, rfl, (b.cell (p := ⟨g, i, none⟩) (cell_lt hc')).trans hc', e2, hfW.b0, y0, y1, hkF, by omega⟩)
  have HSEQ := Lib.hid hseq
  have HEG := Lib.hid heg
  have HNL := Lib.hid hn
  have HNB : Hid (n ≤ 1099511627776 ∧ F.length ≤ 1099511627776) := Lib.hid ⟨by omega, hbig⟩
  clear hf hwt hL hseq hn hlen hbig heg
  obtain ⟨V, hV⟩ : ∃ V, V = ((((w.alloc (.cells #[.pointer (some ⟨fb, 0, none⟩)] 26)).alloc (.cells #[.func (.func gf) #[] lb] 53)).alloc (.cells #[.slice wa n kc] 67)).alloc (.cells #[.int .i64 early] 3)).alloc (.cells #[.bool false] 4) := ⟨_, rfl⟩
  have v8 : V.heap[w.heap.size + 1 + 1 + 1 + 1]? = some (.cells #[.bool false] 4 (0, 0)) := by rw [hV]; have := Go.heap_alloc_new ((((w.alloc (.cells #[.pointer (some ⟨fb, 0, none⟩)] 26)).alloc (.cells #[.func (.func gf) #[] lb] 53)).alloc (.cells #[.slice wa n kc] 67)).alloc (.cells #[.int .i64 early] 3)) (.cells #[.bool false] 4); simpa using this
  have v7 : V.heap[w.heap.size + 1 + 1 + 1]? = some (.cells #[.int .i64 early] 3 (0, 0)) := by rw [hV]; refine alloc_blk ?_ _; have := Go.heap_alloc_new (((w.alloc (.cells #[.pointer (some ⟨fb, 0, none⟩)] 26)).alloc (.cells #[.func (.func gf) #[] lb] 53)).alloc (.cells #[.slice wa n kc] 67)) (.cells #[.int .i64 early] 3); simpa using this
  have v6 : V.heap[w.heap.size + 1 + 1]? = some (.cells #[.slice wa n kc] 67 (0, 0)) := by rw [hV]; refine alloc_blk (alloc_blk ?_ _) _; have := Go.heap_alloc_new ((w.alloc (.cells #[.pointer (some ⟨fb, 0, none⟩)] 26)).alloc (.cells #[.func (.func gf) #[] lb] 53)) (.cells #[.slice wa n kc] 67); simpa using this
  have v5 : V.heap[w.heap.size + 1]? = some (.cells #[.func (.func gf) #[] lb] 53 (0, 0)) := by rw [hV]; refine alloc_blk (alloc_blk (alloc_blk ?_ _) _) _; have := Go.heap_alloc_new (w.alloc (.cells #[.pointer (some ⟨fb, 0, none⟩)] 26)) (.cells #[.func (.func gf) #[] lb] 53); simpa using this
  have v4 : V.heap[w.heap.size]? = some (.cells #[.pointer (some ⟨fb, 0, none⟩)] 26 (0, 0)) := by rw [hV]; exact alloc_blk (alloc_blk (alloc_blk (alloc_blk (Go.heap_alloc_new w _) _) _) _) _
  have bV : Below w.heap.size w V := by rw [hV]; exact (((((Below.refl _ w).alloc (Nat.le_refl _) _).alloc (by simp) _).alloc (by simp; omega) _).alloc (by simp; omega) _).alloc (by simp; omega) _
  have hVs : V.heap.size = w.heap.size + 1 + 1 + 1 + 1 + 1 := by rw [hV]; simp
  have HV : Hid (TdV w V fb gf lb wa n kc early) := Lib.hid ⟨bV, v4, v5, v6, v7, v8⟩
  have HVS := Lib.hid hVs
  have hV2 := hV
  clear hV bV v4 v5 v6 v7 v8 hVs
  have hro : Fence.wide.round = none := rfl
  refine callsIn_of_wp_marks Tryd.func33 rfl trivial ?_ rfl
  simp only [Tryd.ntmps33, List.size_toArray, List.length_cons, List.length_nil, Nat.reduceAdd, Nat.reduceSub, Array.replicate_succ, Array.replicate_zero, List.push_toArray, List.append_toArray, List.nil_append, List.cons_append]
  gi_wp2
  rw [← hV2]
  clear hV2
  have hI0 : TdI V (w.heap.size + 1 + 1 + 1 + 1 + 1) 0 (V.alloc (.cells #[.int .i64 0] 3)) := ⟨by have := Go.heap_alloc_new V (.cells #[.int .i64 0] 3); rw [HVS.out] at this; exact this, (Below.refl _ V).alloc (Nat.le_refl _) _⟩
  generalize V.alloc (.cells #[.int .i64 0] 3) = W0 at hI0 ⊢
  have hs0 : V.heap.size ≤ W0.heap.size := hI0.low.size
  have hns : w.heap.size ≤ V.heap.size := HV.out.low.size
  have hst := HSEQ.out 11 W0 (by omega) (HV.out.below hI0.low).low
  have hC1 : V.heap.size ≤ w.heap.size + 1 + 1 + 1 + 1 + 1 := Nat.le_of_eq HVS.out
  refine range_TH1 (T := [31]) rfl (by decide) (gf := gf) (lb := lb) rfl trivial HEG.out
    hst (fun h k => h.trans k) (kpD_b (Nat.le_trans hns hs0)) (Below.refl _ _) (fun _ => rfl)
    (fun pre W => TdI V (w.heap.size + 1 + 1 + 1 + 1 + 1) pre.length W) (fun _ _ _ => False) (tdI_own _ hs0) (fun _ _ _ _ _ hs _ _ => hs) (tdI_T _ hs0) (fun _ _ _ _ hs _ => hs) hI0
    10 (fun k => #[.int .u32 ((hd F (some k)).1 : Int), .int .u32 ((hd F (some k)).2 : Int)]) 31 ?assign ?body ?done ?stop
  case stop =>
    rintro D c pre W _ _ h _
    exact h.elim
  case assign =>
    rintro l pre x W K hI hK
    simp only [encK]
    gi_wp2
    have hk := hK W.heap.size _ ((KeepsOthers.alloc _ _).from _) ⟨(Below.refl _ W).alloc (Nat.le_trans hns hI.low.size) _, fun k c t fz _ e => alloc_blk e _⟩ (hI.alloc _) (Go.heap_alloc_new W _)
    simpa [boxAct, encK] using hk
  case body =>
    rintro l pre x xb W hl hr hI hxb hpf
    obtain ⟨hLx, hlt⟩ := pre_at hpf
    have hv := HV.out.below hI.low
    obtain ⟨g, cap, a2, cap2, eg, ec, z0, hrv, zf, zh0, zh1, hxF, hin⟩ := HC.out W hv.low _ _ hLx
    rw [hrv] at zf
    have e4 := cell_blk hv.v4 0 rfl
    have e6 := cell_blk hv.v6 0 rfl
    rw [eg, ec] at e6
    have e9 := cell_blk hI.box 0 rfl
    have x0 := cell_blk hxb 0 rfl
    have x1 := cell_blk hxb 1 rfl
    obtain ⟨m, hm⟩ : ∃ m, m = pre.length := ⟨_, rfl⟩
    rw [← hm] at z0 e9 hin
    have HM := Lib.hid hm
    have HI := Lib.hid (And.intro hI (And.intro hv hpf))
    have hnbb := HNB.out
    have q1 : decide (n ≤ m) = false := by simp; omega
    have q2 : hEq ((hd F (some x)).1 : Int) ((hd F (some x)).2 : Int) ((hd F (some x)).1 : Int) ((hd F (some x)).2 : Int) = true := hEq_true rfl rfl
    simp at e4 e6 e9 x0 x1
    clear hLx hlt hv hrv hm eg ec hI hpf
    generalize hA : boxAct _ _ _ _ _ = A
    simp [boxAct, encK] at hA
    subst hA
    gi_upto_region 6 with (fail)
    gi_cut [37] from 107 (fun v37 wc => v37 = .bool false ∧ wc = W.drew)
    case first =>
      refine regionIn_still 18 (by kernel_rfl) (by kernel_rfl) (by simp only [List.take_succ_cons, List.take_zero, allCalm]; repeat (first | exact trivial | refine ⟨by first | exact calm_move | exact calm_pick | exact calm_nilCheck | exact calm_len rfl | exact calm_value (fun ρ => ⟨_, rfl⟩) (fun _ _ => rfl) (fun _ h => by cases h), ?_⟩)) ?_
      simp only [List.take_succ_cons, List.take_zero, List.drop_succ_cons, List.drop_zero]
      iterate 18 (refine StillG.next (fun K hK => ?_); go_simp; refine hK.out _ ?_; clear hK K)
      refine StillG.done ?_
      change wpListIn _ _ _ _ _ _ _ W.drew
      gi_wp2
      gi_meet
      case rel => exact ⟨rfl, rfl⟩
    case rest =>
      obtain ⟨rfl, rfl⟩ := hcut
      clear z0 zf zh0 zh1 e4 e6 x0 x1 q1 q2
      have e9' : W.drew.cell? ⟨w.heap.size + 1 + 1 + 1 + 1 + 1, 0, none⟩ = some (.int .i64 (m : Int)) := e9
      have f9 : W.drew.frozen? ⟨w.heap.size + 1 + 1 + 1 + 1 + 1, 0, none⟩ = false := free_blk (w := W.drew) HI.out.1.box 0
      have l9 : w.heap.size + 1 + 1 + 1 + 1 + 1 < W.drew.heap.size := lt_of_some HI.out.1.box
      have wk : IntKind.i64.wrap ((m : Int) + 1) = (m : Int) + 1 := IntWalk.i64_in _ (by omega)
      clear e9 hxb
      gi_wp2
      refine ⟨((KeepsOthers.setCell _ _ _).trans (KeepsOthers.drew _)).from _, HI.out.1.kp hns hC1 _, ?_⟩
      have hnx := HI.out.1.next hC1
      rw [← HM.out] at hnx
      show TdI V _ (pre ++ [x]).length _
      rw [List.length_append, ← HM.out]
      exact hnx
  case done =>
    rintro D V2 hD hI1 hK
    have hv2 := HV.out.below hI1.low
    have HV2 := Lib.hid hv2
    have HD : Hid (V2.heap[D]? = some (.deferred (some [])) ∧ V2.heap[w.heap.size + 1 + 1 + 1 + 1 + 1]? = some (.cells #[.int .i64 (L.length : Int)] 3 (0, 0)) ∧ w.heap.size ≤ D) := Lib.hid ⟨hK, hI1.box, by omega⟩
    have e5 := cell_blk hv2.v5 0 rfl
    have l5 := lt_of_some hv2.v5
    have hns2 : w.heap.size ≤ V2.heap.size := hv2.low.size
    simp at e5
    clear hst hI0 hs0 hns hC1 hI1 hK hv2 hD
    gi_wp2
    have hI0 : TdI V2 V2.heap.size 0 (V2.alloc (.cells #[.int .i64 0] 3)) := ⟨Go.heap_alloc_new V2 _, (Below.refl _ V2).alloc (Nat.le_refl _) _⟩
    generalize V2.alloc (.cells #[.int .i64 0] 3) = W0b at hI0 ⊢
    have hs0 : V2.heap.size ≤ W0b.heap.size := hI0.low.size
    have hst := HSEQ.out 11 W0b (by omega) (HV2.out.below hI0.low).low
    refine range_TH1 (T := [31]) rfl (by decide) (gf := gf) (lb := lb) rfl trivial HEG.out
      hst (fun h k => h.trans k) (kpD_b (Nat.le_trans hns2 hs0)) (Below.refl _ _) (fun _ => rfl)
      (fun pre W => TdI V2 V2.heap.size pre.length W) (fun c pre W => (c = .exit 2 ∧ (pre.length : Int) = early) ∧ TdI V2 V2.heap.size pre.length W) (tdI_own _ hs0) (fun c => OwnFrom.and (ownFrom_pure _ _) (tdI_own _ hs0)) (tdI_T _ hs0) (fun c s A C hs f => ⟨hs.1, tdI_T (fun s : List Nat => s.length) hs0 s A C hs.2 f⟩) hI0
      12 (fun k => #[.int .u32 ((hd F (some k)).1 : Int), .int .u32 ((hd F (some k)).2 : Int)]) 31 ?assign ?body ?done ?stop
    case assign =>
      rintro l pre x W K hI hK
      simp only [encK]
      gi_wp2
      have hk := hK W.heap.size _ ((KeepsOthers.alloc _ _).from _) ⟨(Below.refl _ W).alloc (Nat.le_trans hns2 hI.low.size) _, fun k c t fz _ e => alloc_blk e _⟩ (hI.alloc _) (Go.heap_alloc_new W _)
      simpa [boxAct, encK] using hk
    case done =>
      rintro D2 W hD2 hI hK2
      have hv := HV2.out.below hI.low
      have h9 := (hI.low.block _ (lt_of_some HD.out.2.1)).trans HD.out.2.1
      rw [HNL.out] at h9 hI
      have e9 := cell_blk h9 0 rfl
      have e11 := cell_blk hI.box 0 rfl
      have e6 := cell_blk hv.v6 0 rfl
      have e7 := cell_blk hv.v7 0 rfl
      have f8 := free_blk hv.v8 0
      have e8 := cell_blk hv.v8 0 rfl
      have l8 := lt_of_some hv.v8
      have HFIN : Hid (∀ v, ∃ hb, ((W.setCell ⟨w.heap.size + 1 + 1 + 1 + 1, 0, none⟩ v).heap[D2]? = some (.deferred (some [])) ∧ ((W.setCell ⟨w.heap.size + 1 + 1 + 1 + 1, 0, none⟩ v).putObj D2 (.deferred none)).heap[D]? = some (.deferred (some []))) ∧ Below w.heap.size w (((W.setCell ⟨w.heap.size + 1 + 1 + 1 + 1, 0, none⟩ v).putObj D2 (.deferred none)).putObj D (.deferred none)) ∧ (((W.setCell ⟨w.heap.size + 1 + 1 + 1 + 1, 0, none⟩ v).putObj D2 (.deferred none)).putObj D (.deferred none)).heap[w.heap.size + 1 + 1 + 1 + 1]? = some (.cells #[v] 4 hb)) := Lib.hid (fun v => by
        have hd1 : W.heap[D]? = some (.deferred (some [])) := (hI.low.block _ (lt_of_some HD.out.1)).trans HD.out.1
        have hne1 : D ≠ w.heap.size + 1 + 1 + 1 + 1 := fun e => by rw [e, hv.v8] at hd1; cases hd1
        have hne2 : D2 ≠ w.heap.size + 1 + 1 + 1 + 1 := fun e => by rw [e, hv.v8] at hK2; cases hK2
        have hDD : D ≠ D2 := by have := lt_of_some HD.out.1; omega
        have a1 : (W.setCell ⟨w.heap.size + 1 + 1 + 1 + 1, 0, none⟩ v).heap[D2]? = some (.deferred (some [])) := by rw [heap_setCell_other _ _ _ _ hne2]; exact hK2
        have a2 : (W.setCell ⟨w.heap.size + 1 + 1 + 1 + 1, 0, none⟩ v).heap[D]? = some (.deferred (some [])) := by rw [heap_setCell_other _ _ _ _ hne1]; exact hd1
        have a3 : ((W.setCell ⟨w.heap.size + 1 + 1 + 1 + 1, 0, none⟩ v).putObj D2 (.deferred none)).heap[D]? = some (.deferred (some [])) := (World.putObj_heap_other hDD).trans a2
        refine ⟨(0, 0), ⟨a1, a3⟩, ?_, ?_⟩
        · exact ((hv.low.setCell (Nat.le_trans (Nat.le_add_right _ 4) (Nat.le_refl _)) v).trans (belowK_b (w := w) (Nat.le_refl _) _ D2 _ _ (by have := hns2; omega) a1 rfl rfl)).trans (belowK_b (w := w) (Nat.le_refl _) _ D _ _ HD.out.2.2 a3 rfl rfl)
        · refine (World.putObj_heap_other (Ne.symm hne1)).trans ((World.putObj_heap_other (Ne.symm hne2)).trans ?_)
          exact set_blk hv.v8 0 v)
      clear h9 hst hI0 hs0
      have q1 : ((n : Int) == (n : Int)) = true := by simp
      clear hI hv hK2 hD2
      gi_wp2
      obtain ⟨hb, ⟨a1, a3⟩, ab, af⟩ := HFIN.out (.bool true)
      refine ⟨by simp, .inl ⟨_, _, rfl, run_takeDeferred a1, ?_⟩⟩
      refine ⟨by simp, .inl ⟨_, _, rfl, run_takeDeferred a3, ?_⟩⟩
      have z0 := cell_blk af 0 rfl
      exact ⟨.bool true, by simp [results, Tryd.results33, go_sem, z0], rfl, ab⟩
    case stop =>
      rintro D2 c pre W hD2 hpf ⟨⟨rfl, hea⟩, hI⟩ hK2
      have hv := HV2.out.below hI.low
      have h9 := (hI.low.block _ (lt_of_some HD.out.2.1)).trans HD.out.2.1
      rw [HNL.out] at h9
      have e9 := cell_blk h9 0 rfl
      have e11 := cell_blk hI.box 0 rfl
      have e6 := cell_blk hv.v6 0 rfl
      have e7 := cell_blk hv.v7 0 rfl
      have f8 := free_blk hv.v8 0
      have e8 := cell_blk hv.v8 0 rfl
      have l8 := lt_of_some hv.v8
      have HFIN : Hid (∀ v, ∃ hb, ((W.setCell ⟨w.heap.size + 1 + 1 + 1 + 1, 0, none⟩ v).heap[D2]? = some (.deferred (some [])) ∧ ((W.setCell ⟨w.heap.size + 1 + 1 + 1 + 1, 0, none⟩ v).putObj D2 (.deferred none)).heap[D]? = some (.deferred (some []))) ∧ Below w.heap.size w (((W.setCell ⟨w.heap.size + 1 + 1 + 1 + 1, 0, none⟩ v).putObj D2 (.deferred none)).putObj D (.deferred none)) ∧ (((W.setCell ⟨w.heap.size + 1 + 1 + 1 + 1, 0, none⟩ v).putObj D2 (.deferred none)).putObj D (.deferred none)).heap[w.heap.size + 1 + 1 + 1 + 1]? = some (.cells #[v] 4 hb)) := Lib.hid (fun v => by
        have hd1 : W.heap[D]? = some (.deferred (some [])) := (hI.low.block _ (lt_of_some HD.out.1)).trans HD.out.1
        have hne1 : D ≠ w.heap.size + 1 + 1 + 1 + 1 := fun e => by rw [e, hv.v8] at hd1; cases hd1
        have hne2 : D2 ≠ w.heap.size + 1 + 1 + 1 + 1 := fun e => by rw [e, hv.v8] at hK2; cases hK2
        have hDD : D ≠ D2 := by have := lt_of_some HD.out.1; omega
        have a1 : (W.setCell ⟨w.heap.size + 1 + 1 + 1 + 1, 0, none⟩ v).heap[D2]? = some (.deferred (some [])) := by rw [heap_setCell_other _ _ _ _ hne2]; exact hK2
        have a2 : (W.setCell ⟨w.heap.size + 1 + 1 + 1 + 1, 0, none⟩ v).heap[D]? = some (.deferred (some [])) := by rw [heap_setCell_other _ _ _ _ hne1]; exact hd1
        have a3 : ((W.setCell ⟨w.heap.size + 1 + 1 + 1 + 1, 0, none⟩ v).putObj D2 (.deferred none)).heap[D]? = some (.deferred (some [])) := (World.putObj_heap_other hDD).trans a2
        refine ⟨(0, 0), ⟨a1, a3⟩, ?_, ?_⟩
        · exact ((hv.low.setCell (Nat.le_trans (Nat.le_add_right _ 4) (Nat.le_refl _)) v).trans (belowK_b (w := w) (Nat.le_refl _) _ D2 _ _ (by have := hns2; omega) a1 rfl rfl)).trans (belowK_b (w := w) (Nat.le_refl _) _ D _ _ HD.out.2.2 a3 rfl rfl)
        · refine (World.putObj_heap_other (Ne.symm hne1)).trans ((World.putObj_heap_other (Ne.symm hne2)).trans ?_)
          exact set_blk hv.v8 0 v)
      clear h9 hst hI0 hs0
      generalize pre.length = m at *
      subst hea
      have q1 : ((n : Int) == (n : Int)) = true := by simp
      have q2 : ((m : Int) == (m : Int)) = true := by simp
      clear hI hv hK2 hD2 hpf
      by_cases hmn : m = n
      · subst hmn
        gi_wp2
        obtain ⟨hb, ⟨a1, a3⟩, ab, af⟩ := HFIN.out (.bool true)
        refine ⟨by simp, .inl ⟨_, _, rfl, run_takeDeferred a1, ?_⟩⟩
        refine ⟨by simp, .inl ⟨_, _, rfl, run_takeDeferred a3, ?_⟩⟩
        have z0 := cell_blk af 0 rfl
        exact ⟨.bool true, by simp [results, Tryd.results33, go_sem, z0], rfl, ab⟩
      · have q3 : ((m : Int) == (n : Int)) = false := by simp; omega
        have q4 : (m == n) = false := by simp [hmn]
        gi_wp2
        obtain ⟨hb, ⟨a1, a3⟩, ab, af⟩ := HFIN.out (.bool true)
        refine ⟨by simp, .inl ⟨_, _, rfl, run_takeDeferred a1, ?_⟩⟩
        refine ⟨by simp, .inl ⟨_, _, rfl, run_takeDeferred a3, ?_⟩⟩
        have z0 := cell_blk af 0 rfl
        exact ⟨.bool true, by simp [results, Tryd.results33, go_sem, z0], rfl, ab⟩
    case body =>
      rintro l pre x xb W hl hr hI hxb hpf
      obtain ⟨hLx, hlt⟩ := pre_at hpf
      have hv := HV2.out.below hI.low
      obtain ⟨g, cap, a2, cap2, eg, ec, z0, hrv, zf, zh0, zh1, hxF, hin⟩ := HC.out W hv.low _ _ hLx
      rw [hrv] at zf
      have e4 := cell_blk hv.v4 0 rfl
      have e6 := cell_blk hv.v6 0 rfl
      rw [eg, ec] at e6
      have e9 := cell_blk hI.box 0 rfl
      have x0 := cell_blk hxb 0 rfl
      have x1 := cell_blk hxb 1 rfl
      obtain ⟨m, hm⟩ : ∃ m, m = pre.length := ⟨_, rfl⟩
      rw [← hm] at z0 e9 hin
      have HM := Lib.hid hm
      have HI := Lib.hid (And.intro hI (And.intro hv hpf))
      have hnbb := HNB.out
      have q1 : decide (n ≤ m) = false := by simp; omega
      have q2 : hEq ((hd F (some x)).1 : Int) ((hd F (some x)).2 : Int) ((hd F (some x)).1 : Int) ((hd F (some x)).2 : Int) = true := hEq_true rfl rfl
      simp at e4 e6 e9 x0 x1
      clear hLx hlt hv hrv hm eg ec hI hpf
      generalize hA : boxAct _ _ _ _ _ = A
      simp [boxAct, encK] at hA
      subst hA
      gi_upto_region 12 with (fail)
      gi_cut [60] from 107 (fun v60 wc => v60 = .bool false ∧ wc = W.drew)
      case first =>
        refine regionIn_still 18 (by kernel_rfl) (by kernel_rfl) (by simp only [List.take_succ_cons, List.take_zero, allCalm]; repeat (first | exact trivial | refine ⟨by first | exact calm_move | exact calm_pick | exact calm_nilCheck | exact calm_len rfl | exact calm_value (fun ρ => ⟨_, rfl⟩) (fun _ _ => rfl) (fun _ h => by cases h), ?_⟩)) ?_
        simp only [List.take_succ_cons, List.take_zero, List.drop_succ_cons, List.drop_zero]
        iterate 18 (refine StillG.next (fun K hK => ?_); go_simp; refine hK.out _ ?_; clear hK K)
        refine StillG.done ?_
        change wpListIn _ _ _ _ _ _ _ W.drew
        gi_wp2
        gi_meet
        case rel => exact ⟨rfl, rfl⟩
      case rest =>
        obtain ⟨rfl, rfl⟩ := hcut
        clear z0 zf zh0 zh1 e4 e6 x0 x1 q1 q2
        have e9' : W.drew.cell? ⟨V2.heap.size, 0, none⟩ = some (.int .i64 (m : Int)) := e9
        have f9 : W.drew.frozen? ⟨V2.heap.size, 0, none⟩ = false := free_blk (w := W.drew) HI.out.1.box 0
        have l9 : V2.heap.size < W.drew.heap.size := lt_of_some HI.out.1.box
        have wk : IntKind.i64.wrap ((m : Int) + 1) = (m : Int) + 1 := IntWalk.i64_in _ (by omega)
        have e7 : W.drew.cell? ⟨w.heap.size + 1 + 1 + 1, 0, none⟩ = some (.int .i64 early) := cell_blk (w := W.drew) HI.out.2.1.v7 0 rfl
        have ne7 : ¬ V2.heap.size = w.heap.size + 1 + 1 + 1 := by have := lt_of_some HV2.out.v7; omega
        have ne7' : ¬ w.heap.size + 1 + 1 + 1 = V2.heap.size := by omega
        have l7 : w.heap.size + 1 + 1 + 1 < W.drew.heap.size := lt_of_some HI.out.2.1.v7
        clear e9 hxb
        have hnx := HI.out.1.next (Nat.le_refl _)
        rw [← HM.out] at hnx
        have hvx := HV2.out.below hnx.low
        have e9n : (W.setCell ⟨V2.heap.size, 0, none⟩ (.int .i64 ((m : Int) + 1))).cell? ⟨V2.heap.size, 0, none⟩ = some (.int .i64 ((m : Int) + 1)) := cell_blk hnx.box 0 rfl
        have e7n : (W.setCell ⟨V2.heap.size, 0, none⟩ (.int .i64 ((m : Int) + 1))).cell? ⟨w.heap.size + 1 + 1 + 1, 0, none⟩ = some (.int .i64 early) := cell_blk hvx.v7 0 rfl
        have e5n : (W.setCell ⟨V2.heap.size, 0, none⟩ (.int .i64 ((m : Int) + 1))).cell? ⟨w.heap.size + 1, 0, none⟩ = some (.func (.func gf) #[] lb) := cell_blk hvx.v5 0 rfl
        have HNX := Lib.hid (And.intro hnx hvx)
        have l5n : w.heap.size + 1 < W.heap.size := lt_of_some HI.out.2.1.v5
        have HKP := Lib.hid (HI.out.1.kp hns2 (Nat.le_refl _) (.int .i64 ((m : Int) + 1)))
        have HKO := Lib.hid (((KeepsOthers.setCell W ⟨V2.heap.size, 0, none⟩ (.int .i64 ((m : Int) + 1))).trans (KeepsOthers.drew _)))
        clear hnx hvx
        by_cases hea : (m : Int) + 1 = early
        · have q3 : ((m : Int) + 1 == early) = true := by simp [hea]
          have HEA := Lib.hid hea
          clear hea
          gi_wp2
          have h3 := HNX.out.1.undrew
          have hv3 := HNX.out.2.undrew
          have hs3 : (W.setCell ⟨V2.heap.size, 0, none⟩ (.int .i64 ((m : Int) + 1))).heap.size = W.heap.size := by simp
          obtain ⟨r, hr⟩ := hr
          have hl3 : (W.setCell ⟨V2.heap.size, 0, none⟩ (.int .i64 ((m : Int) + 1))).heap[l]? = some (.loop r) := (heap_setCell_other _ _ _ _ (fun (e : l = V2.heap.size) => by have h1 := HI.out.1.box; rw [← e] at h1; rw [hr] at h1; cases h1)).trans hr
          have HKO3 : Hid (∀ B', KeepsFrom B' W (W.setCell ⟨V2.heap.size, 0, none⟩ (.int .i64 ((m : Int) + 1)))) := Lib.hid (fun B' => (KeepsOthers.setCell _ _ _).from _)
          clear e5n e7n e9n HNX HKP HKO hr hl
          generalize W.setCell ⟨V2.heap.size, 0, none⟩ (.int .i64 ((m : Int) + 1)) = V3 at h3 hv3 hs3 hl3 HKO3 ⊢
          have HV3 := Lib.hid hv3
          have H3 := Lib.hid h3
          have hns3 : w.heap.size ≤ V3.heap.size := hv3.low.size
          have hC3 : V3.heap.size ≤ W.heap.size := Nat.le_of_eq hs3
          have hI0 : TdI V3 W.heap.size 0 (V3.alloc (.cells #[.int .i64 0] 3)).drew := ⟨by have := Go.heap_alloc_new V3 (.cells #[.int .i64 0] 3); rw [hs3] at this; exact this, ((Below.refl _ V3).alloc (Nat.le_refl _) _).drew⟩
          have hl0 : (V3.alloc (.cells #[.int .i64 0] 3)).drew.heap[l]? = some (.loop r) := alloc_blk hl3 _
          generalize (V3.alloc (.cells #[.int .i64 0] 3)).drew = W0c at hI0 hl0 ⊢
          have hs0 : V3.heap.size ≤ W0c.heap.size := hI0.low.size
          have hst := (HSEQ.out 9 W0c (by omega) (HV3.out.below hI0.low).low).inRound l
          clear hv3 h3 hl3
          refine range_TN1 (T := [31]) (l₀ := l) (r₀ := r) rfl hl0 (by decide) (gf := gf) (lb := lb) rfl trivial HEG.out
            hst (fun h k => h.trans k) (kpD_b (Nat.le_trans hns3 hs0)) (Below.refl _ _) (fun _ => rfl)
            (fun pre W' => TdI V3 W.heap.size pre.length W') (fun _ _ _ => False) (tdI_own _ hs0) (fun _ _ _ _ _ hs _ _ => hs) (tdI_T _ hs0) (fun _ _ _ _ hs _ => hs) hI0
            14 (fun k => #[.int .u32 ((hd F (some k)).1 : Int), .int .u32 ((hd F (some k)).2 : Int)]) 31 ?assign ?body ?done ?stop
          case stop =>
            rintro c pre' W' _ h
            exact h.elim
          case assign =>
            rintro l' pre' y W' K hI hK
            simp only [encK]
            gi_wp2
            have hk := hK W'.heap.size _ ((KeepsOthers.alloc _ _).from _) ⟨(Below.refl _ W').alloc (Nat.le_trans hns3 hI.low.size) _, fun k c t fz _ e => alloc_blk e _⟩ (hI.alloc _) (Go.heap_alloc_new W' _)
            simpa [boxAct, encK] using hk
          case done =>
            rintro W' hI
            have hv := HV3.out.below hI.low
            have e13 := cell_blk hI.box 0 rfl
            have e6 := cell_blk hv.v6 0 rfl
            rw [HNL.out] at e13
            have q1 : ((n : Int) == (n : Int)) = true := by simp
            simp at e13 e6
            have HIN := Lib.hid (And.intro hI hv)
            clear hI hv hst hI0 hl0
            gi_wp2
            refine ⟨⟨Nat.le_trans (HKO3.out 0).size HIN.out.1.low.size, fun k o hB hk ho => ?_⟩, ⟨rfl, ?_⟩, ?_⟩
            · have hk3 := (HKO3.out 0).same k o (Nat.zero_le _) hk ho
              exact (HIN.out.1.low.block _ (lt_of_some hk3)).trans hk3
            · rw [List.length_append, ← HM.out, ← HEA.out]; simp
            · show TdI V2 _ (pre ++ [x]).length _
              rw [List.length_append, ← HM.out]
              exact ⟨(HIN.out.1.low.block _ (lt_of_some H3.out.box)).trans H3.out.box, H3.out.low.trans (HIN.out.1.low.mono H3.out.low.size)⟩
          case body =>
            rintro l' pre' y yb W' hl' hr' hI hyb hpf'
            obtain ⟨hLx, hlt⟩ := pre_at hpf'
            have hv := HV3.out.below hI.low
            obtain ⟨g, cap, a2, cap2, eg, ec, z0, hrv, zf, zh0, zh1, hxF, hin⟩ := HC.out W' hv.low _ _ hLx
            rw [hrv] at zf
            have e4 := cell_blk hv.v4 0 rfl
            have e6 := cell_blk hv.v6 0 rfl
            rw [eg, ec] at e6
            have e9 := cell_blk hI.box 0 rfl
            have x0 := cell_blk hyb 0 rfl
            have x1 := cell_blk hyb 1 rfl
            obtain ⟨m3, hm⟩ : ∃ m, m = pre'.length := ⟨_, rfl⟩
            rw [← hm] at z0 e9 hin
            have HM3 := Lib.hid hm
            have HI3 := Lib.hid (And.intro hI (And.intro hv hpf'))
            have hnbb := HNB.out
            have q1 : decide (n ≤ m3) = false := by simp; omega
            have q2 : hEq ((hd F (some y)).1 : Int) ((hd F (some y)).2 : Int) ((hd F (some y)).1 : Int) ((hd F (some y)).2 : Int) = true := hEq_true rfl rfl
            simp at e4 e6 e9 x0 x1
            clear hLx hlt hv hrv hm eg ec hI hpf'
            generalize hA : boxAct _ _ _ _ _ = A
            simp [boxAct, encK] at hA
            subst hA
            gi_upto_region 19 with (fail)
            gi_cut [86] from 107 (fun v86 wc => v86 = .bool false ∧ wc = W'.drew)
            case first =>
              refine regionIn_still 18 (by kernel_rfl) (by kernel_rfl) (by simp only [List.take_succ_cons, List.take_zero, allCalm]; repeat (first | exact trivial | refine ⟨by first | exact calm_move | exact calm_pick | exact calm_nilCheck | exact calm_len rfl | exact calm_value (fun ρ => ⟨_, rfl⟩) (fun _ _ => rfl) (fun _ h => by cases h), ?_⟩)) ?_
              simp only [List.take_succ_cons, List.take_zero, List.drop_succ_cons, List.drop_zero]
              iterate 18 (refine StillG.next (fun K hK => ?_); go_simp; refine hK.out _ ?_; clear hK K)
              refine StillG.done ?_
              change wpListIn _ _ _ _ _ _ _ W'.drew
              gi_wp2
              gi_meet
              case rel => exact ⟨rfl, rfl⟩
            case rest =>
              obtain ⟨rfl, rfl⟩ := hcut
              clear z0 zf zh0 zh1 e4 e6 x0 x1 q1 q2
              have e9' : W'.drew.cell? ⟨W.heap.size, 0, none⟩ = some (.int .i64 (m3 : Int)) := e9
              have f9 : W'.drew.frozen? ⟨W.heap.size, 0, none⟩ = false := free_blk (w := W'.drew) HI3.out.1.box 0
              have l9 : W.heap.size < W'.drew.heap.size := lt_of_some HI3.out.1.box
              have wk3 : IntKind.i64.wrap ((m3 : Int) + 1) = (m3 : Int) + 1 := IntWalk.i64_in _ (by omega)
              clear e9 hyb
              gi_wp2
              refine ⟨((KeepsOthers.setCell _ _ _).trans (KeepsOthers.drew _)).from _, HI3.out.1.kp hns3 hC3 _, ?_⟩
              have hnx := HI3.out.1.next hC3
              rw [← HM3.out] at hnx
              show TdI V3 _ (pre' ++ [y]).length _
              rw [List.length_append, ← HM3.out]
              exact hnx
        · have q3 : ((m : Int) + 1 == early) = false := by simp [hea]
          clear hea
          gi_wp2
          refine ⟨HKO.out.from _, HKP.out, ?_⟩
          show TdI V2 _ (pre ++ [x]).length _
          rw [List.length_append, ← HM.out]
          exact HNX.out.1
end
end Go.Proofs.YtelhnaphkbpakaaDoor

