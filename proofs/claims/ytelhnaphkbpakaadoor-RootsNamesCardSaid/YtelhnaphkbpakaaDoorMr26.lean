/- Part 26 of the proof of RoP: lemmas. -/
import Derived.LoopN
import Derived.Test.YtelhnaphkbpakaaDoorMr25
namespace Go.Proofs.YtelhnaphkbpakaaDoor
open Go.RowKit Go.Shelf
attribute [local go_sem] Oper.semAt_some
set_option linter.unusedVariables false
set_option maxRecDepth 100000
theorem putObj_same {w : World} {m : Nat} {o : Obj} (h : w.heap[m]? = some o) : w.putObj m o = w := by
  have hm := lt_of_some h
  have : w.heap.setIfInBounds m o = w.heap := by
    apply Array.ext_getElem?
    intro i
    rw [Array.getElem?_setIfInBounds]
    split
    · rename_i e; subst e; rw [h]
    · rfl
  simp only [World.putObj, this]
theorem update_same {w : World} {m ck n : Nat} {t e : TypeId} {a b : Int} {v : Value} (hm : w.heap[m]? = some (.map #[⟨.agg #[.int .u32 a, .int .u32 b], v, n⟩] ck)) (ht : Tryd.prog.underlying t = some (.map 31 e)) :
    (Instr.mapUpdate t (.map (some m)) (.agg #[.int .u32 a, .int .u32 b]) v).run Tryd.prog w = .ok () w := by
  rw [update_one hm ht v, putObj_same hm]
theorem below_own {β : Type} {V : World} {B : Nat} (hB : V.heap.size ≤ B) : OwnFrom B (fun (s : β) W => Below V.heap.size V W) := fun pre A E row hs hg hr =>
  hs.trans (grown_below hg (fun x e => by have := (hr x e).1; omega) hs.size)
theorem below_T {β : Type} {V : World} {B : Nat} (hB : V.heap.size ≤ B) : AbideT [31] B (fun (s : β) W => Below V.heap.size V W) := fun pre A E hs f => hs.trans (f.lowB hB hs.size)
section
variable {B : Nat} {Q : Nat → Prop} {w0 w : World} {tb rb m ck : Nat} {X : TX} {es : Array MapEntry}
set_option maxHeartbeats 8000000 in
theorem next_calls (h : TreeAt B Q w0 tb X) (hz : NoneAt w0) (hr : RT w0 tb rb m es ck) (hB : Below w0.heap.size w0 w) {b1 b2 b3 b5 rm c2 n0 g cap base : Nat} (h1 : w.heap[b1]? = some (.cells #[.pointer (some ⟨rb, 0, none⟩)] 56 (0, 0))) (h2 : w.heap[b2]? = some (.cells #[.map (some rm)] 139 (0, 0))) (h3 : w.heap[b3]? = some (.cells #[.slice (some ⟨g, 0, none⟩) 1 cap] 70 (0, 0))) (hn3 : w0.heap.size ≤ b3)
    {k : Nat} {x : FN} (hx : X.F[k]? = some x) (hl : x.live = true) (hu : x.up = none) (hpd : preD X.F k = [k]) {nb : Nat} {N : Nd} (hm : X.M[k]? = some (nb, N)) (hN : N.Bd 1099511627776) (hN2 : N.slot = 0 ∧ N.gen = 0)
    (hrm : w.heap[rm]? = some (.map #[⟨.agg #[.int .u32 (x.sl : Int), .int .u32 (x.gn : Int)], .bool true, n0⟩] c2))
    (hg : w.ownsRow base 31 2 (.slice (some ⟨g, 0, none⟩) 1 cap) 1 [.int .u32 (x.sl : Int), .int .u32 (x.gn : Int)]) :
    Calls Tryd.prog 94 #[.pointer (some ⟨b3, 0, none⟩), .pointer (some ⟨b1, 0, none⟩), .pointer (some ⟨b2, 0, none⟩), .pointer (some ⟨b5, 0, none⟩)] w fun e w' => e = .returned (.tuple #[]) ∧ FrX (fun k => k = b3) w w' := by
  refine (callsIn_wide (n := 12)).1 ?_
  have HND : Hid (∀ W, Below w0.heap.size w0 W → Calls Tryd.prog 45 #[.pointer (some ⟨tb, 0, none⟩), .agg #[.int .u32 (x.sl : Int), .int .u32 (x.gn : Int)]] W fun e w' => ∃ M : Nd, e = .returned (.tuple #[.agg #[.int .i64 M.kind, .string M.name, .slice M.da M.data.length M.dc, .slice M.aa M.L.length M.ac, .int .u32 0, .int .u32 0], .int .i64 0]) ∧ Below W.heap.size W w') := Lib.hid (fun W b => (node_live (h.below b).rw hx hl hm hN).mono (by
    rintro e w' ⟨M, rfl, h1, h2, h3⟩
    have e1 := h1.slot.trans hN2.1
    have e2 := h1.gen.trans hN2.2
    exact ⟨M, by simp only [Nd.v, Nd.cells, e1, e2], h3⟩))
  have HSEQ : Hid (∀ W Bt Bh, Below w0.heap.size w0 W → W.heap[Bt]? = some (.cells #[.pointer (some ⟨tb, 0, none⟩)] 25 (0, 0)) → W.heap[Bh]? = some (.cells #[.int .u32 (x.sl : Int), .int .u32 (x.gn : Int)] 31 (0, 0)) → SeqT [31] Fence.wide 11 Tryd.prog 56 #[.pointer (some ⟨Bt, 0, none⟩), .pointer (some ⟨Bh, 0, none⟩)] (encK X.F) (KpD w0.heap.size) [k] W) := Lib.hid (fun W Bt Bh b h1 h2 => by have := down1_seq h hz hx hl 11 (by omega) b h1 h2; rw [hpd] at this; exact this)
  have HK : Hid (encK X.F k = #[.agg #[.int .u32 (x.sl : Int), .int .u32 (x.gn : Int)]] ∧ hd X.F (some k) = (x.sl, x.gn)) := Lib.hid ⟨by simp [encK, hd_some hx], hd_some hx⟩
  have hw0 := hB.size
  obtain ⟨cur, hcur, hbg⟩ := rwBlk hg
  have hg0 : w.cell? ⟨g, 0, none⟩ = some (.int .u32 (x.sl : Int)) := (hg.cellAt 0 (by omega)).trans (by simp)
  have hg1 : w.cell? ⟨g, 1, none⟩ = some (.int .u32 (x.gn : Int)) := (hg.cellAt 1 (by omega)).trans (by simp)
  have hrb := hr.below hB
  have l3 := lt_of_some h3
  have c3 := cell_blk h3 0 rfl
  have f3 := free_blk h3 0
  simp at c3
  have n31 : b1 ≠ b3 := fun e => by subst e; rw [h1] at h3; cases h3
  have n32 : b2 ≠ b3 := fun e => by subst e; rw [h2] at h3; cases h3
  have n3m : rm ≠ b3 := fun e => by subst e; rw [hrm] at h3; cases h3
  have n3r : rb ≠ b3 := fun e => by subst e; rw [hrb.blk] at h3; cases h3
  have HP := Lib.hid (And.intro h1 (And.intro h2 (And.intro h3 (And.intro hrm (And.intro hrb.blk (And.intro hB hn3))))))
  have HNE := Lib.hid (And.intro n31 (And.intro n32 (And.intro n3m n3r)))
  clear h hz hr hB h1 h2 h3 hrm hg hrb hm hN hN2 hx hl hu hpd n31 n32 n3m n3r
  generalize x.sl = s at *
  generalize x.gn = gn at *
  refine callsIn_of_wp_marks Tryd.func94 rfl trivial ?_ rfl
  simp only [Tryd.ntmps94, List.size_toArray, List.length_cons, List.length_nil, Nat.reduceAdd, Nat.reduceSub, Array.replicate_succ, Array.replicate_zero, List.push_toArray, List.append_toArray, List.nil_append, List.cons_append]
  gi_wp2
  refine wpIn_loop_rounds 2 ?_
  rw [roundsIn_succ]
  gi_upto_region 3 with (fail)
  obtain ⟨V, hV⟩ : ∃ V, V = (w.setCell ⟨b3, 0, none⟩ (.slice (some ⟨g, 0, none⟩) 0 cap)).alloc (.cells #[.int .u32 (s : Int), .int .u32 (gn : Int)] 31) := ⟨_, rfl⟩
  have HV : Hid ((Below w0.heap.size w0 V ∧ FrX (fun k => k = b3) w V) ∧ V.heap[w.heap.size]? = some (.cells #[.int .u32 (s : Int), .int .u32 (gn : Int)] 31 (0, 0)) ∧ (V.heap[b1]? = some (.cells #[.pointer (some ⟨rb, 0, none⟩)] 56 (0, 0)) ∧ V.heap[b2]? = some (.cells #[.map (some rm)] 139 (0, 0)) ∧ V.heap[rm]? = some (.map #[⟨.agg #[.int .u32 (s : Int), .int .u32 (gn : Int)], .bool true, n0⟩] c2) ∧ V.heap[rb]? = some (.cells #[.pointer (some ⟨tb, 0, none⟩), .map (some m)] 105 (0, 0))) ∧ V.heap[b3]? = some (.cells #[.slice (some ⟨g, 0, none⟩) 0 cap] 70 (0, 0))) := Lib.hid (by
    have hz : (w.setCell ⟨b3, 0, none⟩ (.slice (some ⟨g, 0, none⟩) 0 cap)).heap.size = w.heap.size := by simp
    have hoth : ∀ k, k ≠ b3 → ∀ o, w.heap[k]? = some o → V.heap[k]? = some o := fun k hk o ho => by rw [hV]; exact alloc_blk (by rw [heap_setCell_other _ _ _ _ hk]; exact ho) _
    refine ⟨⟨?_, ?_⟩, ?_, ⟨hoth _ HNE.out.1 _ HP.out.1, hoth _ HNE.out.2.1 _ HP.out.2.1, hoth _ HNE.out.2.2.1 _ HP.out.2.2.2.1, hoth _ HNE.out.2.2.2 _ HP.out.2.2.2.2.1⟩, ?_⟩
    · rw [hV]; exact (HP.out.2.2.2.2.2.1.setCell HP.out.2.2.2.2.2.2 _).alloc (by simp; omega) _
    · rw [hV]; exact (FrX.setCell (P := fun k => k = b3) (FrX.of_below (Below.refl _ w)) (.inl rfl) _).alloc _
    · rw [hV, ← hz]; exact Go.heap_alloc_new _ _
    · rw [hV]; exact alloc_blk (set_blk HP.out.2.2.1 0 _) _)
  rw [← hV]
  have lV := lt_of_some HV.out.2.1
  have HS : Hid (∀ W, Below V.heap.size V W → W.cell? ⟨b1, 0, none⟩ = some (.pointer (some ⟨rb, 0, none⟩)) ∧ W.cell? ⟨rb, 0, none⟩ = some (.pointer (some ⟨tb, 0, none⟩)) ∧ W.cell? ⟨w.heap.size, 0, none⟩ = some (.int .u32 (s : Int)) ∧ W.cell? ⟨w.heap.size, 1, none⟩ = some (.int .u32 (gn : Int))) := Lib.hid (fun W b => ⟨cell_blk ((b.block _ (lt_of_some HV.out.2.2.1.1)).trans HV.out.2.2.1.1) 0 rfl, cell_blk ((b.block _ (lt_of_some HV.out.2.2.1.2.2.2)).trans HV.out.2.2.1.2.2.2) 0 rfl, cell_blk ((b.block _ lV).trans HV.out.2.1) 0 rfl, cell_blk ((b.block _ lV).trans HV.out.2.1) 1 rfl⟩)
  clear hV hg0 hg1 c3 f3 l3 hcur hbg
  have HD1 : Hid (Below V.heap.size V V.drew) := Lib.hid (Below.refl _ V).drew
  gi_cut [27] from 28 (fun v27 wc => ∃ Bt Bh, v27 = .func (.func 56) #[] #[.pointer (some ⟨Bt, 0, none⟩), .pointer (some ⟨Bh, 0, none⟩)] ∧ Hid (Below V.heap.size V wc ∧ wc.heap[Bt]? = some (.cells #[.pointer (some ⟨tb, 0, none⟩)] 25 (0, 0)) ∧ wc.heap[Bh]? = some (.cells #[.int .u32 (s : Int), .int .u32 (gn : Int)] 31 (0, 0))))
  case first =>
    refine wpIn_wide.2 ?_
    have HDB : Hid (∀ (u v : Obj), Below V.heap.size V ((V.drew.alloc u).alloc v)) := Lib.hid (fun u v => ((HD1.out.alloc (Nat.le_refl _) u).alloc (by simp) v))
    go_region_held3 (fun W => W.cell? ⟨b1, 0, none⟩ = some (.pointer (some ⟨rb, 0, none⟩)) ∧ W.cell? ⟨rb, 0, none⟩ = some (.pointer (some ⟨tb, 0, none⟩)) ∧ W.cell? ⟨w.heap.size, 0, none⟩ = some (.int .u32 (s : Int)) ∧ W.cell? ⟨w.heap.size, 1, none⟩ = some (.int .u32 (gn : Int))) (first | exact HS.out _ HD1.out | exact HS.out _ (HDB.out _ _)) ((go_at_call 26; refine (downT_calls _ _ _ _).mono ?_; rintro e w4 ⟨rfl, rfl⟩))
    gi_wp2_with fail
    gi_meet
    case rel => exact ⟨_, _, rfl, Lib.hid ⟨HDB.out _ _, alloc_blk (Go.heap_alloc_new V _) _, alloc2_blk V _ _⟩⟩
  case rest =>
    obtain ⟨Bt, Bh, rfl, hw⟩ := hcut
    have bw : Below w0.heap.size w0 wc := HV.out.1.1.trans (hw.out.1.mono HV.out.1.1.size)
    have hs0 := bw.size
    have hst := HSEQ.out wc Bt Bh bw hw.out.2.1 hw.out.2.2
    have hI0 : Below wc.heap.size wc wc := Below.refl _ _
    have HW := Lib.hid (And.intro bw (And.intro (HV.out.1.2.andBelow (hw.out.1.mono (Nat.le_refl _))) hw.out.1))
    have HC : Hid (∀ W, Below wc.heap.size wc W → (W.heap[b1]? = some (.cells #[.pointer (some ⟨rb, 0, none⟩)] 56 (0, 0)) ∧ W.heap[b2]? = some (.cells #[.map (some rm)] 139 (0, 0)) ∧ W.heap[rm]? = some (.map #[⟨.agg #[.int .u32 (s : Int), .int .u32 (gn : Int)], .bool true, n0⟩] c2) ∧ W.heap[rb]? = some (.cells #[.pointer (some ⟨tb, 0, none⟩), .map (some m)] 105 (0, 0))) ∧ W.heap[b3]? = some (.cells #[.slice (some ⟨g, 0, none⟩) 0 cap] 70 (0, 0))) := Lib.hid (fun W b => by
      have b' := hw.out.1.trans (b.mono hw.out.1.size)
      obtain ⟨⟨e1, e2, e3, e4⟩, e5⟩ := HV.out.2.2
      exact ⟨⟨(b'.block _ (lt_of_some e1)).trans e1, (b'.block _ (lt_of_some e2)).trans e2, (b'.block _ (lt_of_some e3)).trans e3, (b'.block _ (lt_of_some e4)).trans e4⟩, (b'.block _ (lt_of_some e5)).trans e5⟩)
    clear bw hw HS HD1 HV lV HP HNE
    gi_wp2
    refine range_TH1 (T := [31]) rfl (by decide) (gf := 56) (lb := #[.pointer (some ⟨Bt, 0, none⟩), .pointer (some ⟨Bh, 0, none⟩)]) rfl trivial (enters_of Tryd.func56 (by kernel_rfl) rfl)
      hst (fun h k => h.trans k) (kpD_b hs0) (Below.refl _ _) (fun _ => rfl)
      (fun (_ : List Nat) W => Below wc.heap.size wc W) (fun _ _ _ => False) (below_own (Nat.le_refl _)) (fun _ _ _ _ _ hs _ _ => hs) (below_T (Nat.le_refl _)) (fun _ _ _ _ hs _ => hs) hI0
      5 (fun k => #[.int .u32 ((hd X.F (some k)).1 : Int), .int .u32 ((hd X.F (some k)).2 : Int)]) 31 ?assign ?body ?done ?stop
    case assign =>
      rintro l pre x W K hI hK
      simp only [encK]
      gi_wp2
      have hk := hK W.heap.size _ ((KeepsOthers.alloc _ _).from _) ⟨(Below.refl _ W).alloc (Nat.le_trans hs0 hI.size) _, fun k c t fz _ e => alloc_blk e _⟩ (hI.alloc hI.size _) (Go.heap_alloc_new W _)
      simpa [boxAct, encK] using hk
    case stop =>
      rintro D c pre W _ _ h _
      exact h.elim
    case done =>
      rintro D W hD hI hK
      obtain ⟨_, h3⟩ := HC.out W hI
      have c3 := cell_blk h3 0 rfl
      have l3 := lt_of_some h3
      simp at c3
      have HD2 : Hid (FrX (fun k => k = b3) w (W.putObj D (.deferred none)) ∧ W.heap[D]? = some (.deferred (some []))) := Lib.hid ⟨(HW.out.2.1.andBelow hI).putObj (.inr (by have := HW.out.2.1.size; omega)) _, hK⟩
      clear hst h3 hK hD
      gi_wp2
      rw [roundsIn_succ]
      gi_wp2
      refine ⟨by simp, .inl ⟨_, _, rfl, run_takeDeferred HD2.out.2, ?_⟩⟩
      exact ⟨.tuple #[], by simp [results, Tryd.results94, go_sem], rfl, HD2.out.1⟩
    case body =>
      rintro l pre x xb W hl hr hI hxb hpf
      obtain rfl : x = k := by
        have := (pre_at hpf).1
        match pre, this with
        | [], e => exact (by simpa using e : k = x).symm
        | _ :: _, e => simp at e
      rw [HK.out.2] at hxb
      rw [HK.out.1]
      obtain ⟨⟨k1, k2, km, kr⟩, k3⟩ := HC.out W hI
      have hup := update_same (t := 139) (v := .bool true) km Tryd.underlying139
      have c2 := cell_blk k2 0 rfl
      have l2 := lt_of_some k2
      have x0 := cell_blk hxb 0 rfl
      have x1 := cell_blk hxb 1 rfl
      have lx := lt_of_some hxb
      simp at c2 x0 x1
      generalize hA : boxAct _ _ _ _ _ = A
      simp [boxAct] at hA
      subst hA
      gi_upto_region 6 with (fail)
      clear hup c2 l2 x0 x1 lx k2 k3 hl hr
      have HS6 : Hid (∀ V, Below W.heap.size W V → V.cell? ⟨b1, 0, none⟩ = some (.pointer (some ⟨rb, 0, none⟩)) ∧ V.cell? ⟨rb, 0, none⟩ = some (.pointer (some ⟨tb, 0, none⟩)) ∧ V.cell? ⟨xb, 0, none⟩ = some (.int .u32 (s : Int)) ∧ V.cell? ⟨xb, 1, none⟩ = some (.int .u32 (gn : Int))) := Lib.hid (fun V b => ⟨cell_blk ((b.block _ (lt_of_some k1)).trans k1) 0 rfl, cell_blk ((b.block _ (lt_of_some kr)).trans kr) 0 rfl, cell_blk ((b.block _ (lt_of_some hxb)).trans hxb) 0 rfl, cell_blk ((b.block _ (lt_of_some hxb)).trans hxb) 1 rfl⟩)
      have HWW : Hid (Below w0.heap.size w0 W ∧ Below wc.heap.size wc W) := Lib.hid ⟨HW.out.1.trans (hI.mono hs0), hI⟩
      have HD0 : Hid (Below W.heap.size W W.drew) := Lib.hid (Below.refl _ W).drew
      have HCA : Hid (∀ V, Below W.heap.size W V → Calls Tryd.prog 45 #[.pointer (some ⟨tb, 0, none⟩), .agg #[.int .u32 (s : Int), .int .u32 (gn : Int)]] V fun e w' => ∃ M : Nd, e = .returned (.tuple #[.agg #[.int .i64 M.kind, .string M.name, .slice M.da M.data.length M.dc, .slice M.aa M.L.length M.ac, .int .u32 0, .int .u32 0], .int .i64 0]) ∧ Below V.heap.size V w') := Lib.hid (fun V b => HND.out V (HWW.out.1.trans (b.mono HWW.out.1.size)))
      clear k1 kr km hxb hI
      gi_cut [6, 7] from 31 (fun v6 v7 wd => ∃ b, (v6 = .pointer (some ⟨b, 0, none⟩) ∧ v7 = .int .i64 0) ∧ Hid (Below W.heap.size W wd ∧ ∃ M : Nd, wd.heap[b]? = some (.cells #[.int .i64 M.kind, .string M.name, .slice M.da M.data.length M.dc, .slice M.aa M.L.length M.ac, .int .u32 0, .int .u32 0] 66 (0, 0))))
      case first =>
        refine wpIn_round_until (S := fun V => Below W.heap.size W V) (k := 11) (by as_aux_lemma => kernel_rfl) (by as_aux_lemma => kernel_rfl) ?_
        refine wpAnyU_take (i := 0) (v := ?_) [1, 2, 3, 5, 10, 11] rfl (by as_aux_lemma => kernel_rfl) (by as_aux_lemma => kernel_rfl) (by as_aux_lemma => kernel_rfl) (by as_aux_lemma => kernel_rfl) (by as_aux_lemma => kernel_rfl) (by as_aux_lemma => kernel_rfl) (by as_aux_lemma => kernel_rfl) (fun _ _ _ h => h) (Or.inl ⟨by kernel_rfl, ?_⟩) HD0.out ?_
        rotate_left
        · intro w' hSw; (try dsimp only at hSw); obtain ⟨s1, s2, s3, s4⟩ := HS6.out _ hSw; go_simp; try with_reducible rfl
        refine wpAnyU_take (i := 1) (v := ?_) [2, 3, 5, 10, 11] rfl (by as_aux_lemma => kernel_rfl) (by as_aux_lemma => kernel_rfl) (by as_aux_lemma => kernel_rfl) (by as_aux_lemma => kernel_rfl) (by as_aux_lemma => kernel_rfl) (by as_aux_lemma => kernel_rfl) (by as_aux_lemma => kernel_rfl) (fun _ _ _ h => h) (Or.inl ⟨by kernel_rfl, ?_⟩) HD0.out ?_
        rotate_left
        · intro w' hSw; (try dsimp only at hSw); obtain ⟨s1, s2, s3, s4⟩ := HS6.out _ hSw; go_simp; try with_reducible rfl
        refine wpAnyU_take (i := 2) (v := ?_) [3, 5, 10, 11] rfl (by as_aux_lemma => kernel_rfl) (by as_aux_lemma => kernel_rfl) (by as_aux_lemma => kernel_rfl) (by as_aux_lemma => kernel_rfl) (by as_aux_lemma => kernel_rfl) (by as_aux_lemma => kernel_rfl) (by as_aux_lemma => kernel_rfl) (fun _ _ _ h => h) (Or.inl ⟨by kernel_rfl, ?_⟩) HD0.out ?_
        rotate_left
        · intro w' hSw; (try dsimp only at hSw); obtain ⟨s1, s2, s3, s4⟩ := HS6.out _ hSw; go_simp; try with_reducible rfl
        refine wpAnyU_take (i := 3) (v := ?_) [5, 10, 11] rfl (by as_aux_lemma => kernel_rfl) (by as_aux_lemma => kernel_rfl) (by as_aux_lemma => kernel_rfl) (by as_aux_lemma => kernel_rfl) (by as_aux_lemma => kernel_rfl) (by as_aux_lemma => kernel_rfl) (by as_aux_lemma => kernel_rfl) (fun _ _ _ h => h) (Or.inl ⟨by kernel_rfl, ?_⟩) HD0.out ?_
        rotate_left
        · intro w' hSw; (try dsimp only at hSw); obtain ⟨s1, s2, s3, s4⟩ := HS6.out _ hSw; go_simp; try with_reducible rfl
        refine wpAnyU_take (i := 4) (v := ?_) [5, 10, 11] rfl (by as_aux_lemma => kernel_rfl) (by as_aux_lemma => kernel_rfl) (by as_aux_lemma => kernel_rfl) (by as_aux_lemma => kernel_rfl) (by as_aux_lemma => kernel_rfl) (by as_aux_lemma => kernel_rfl) (by as_aux_lemma => kernel_rfl) (fun _ _ _ h => h) (Or.inl ⟨by kernel_rfl, ?_⟩) HD0.out ?_
        rotate_left
        · intro w' hSw; (try dsimp only at hSw); obtain ⟨s1, s2, s3, s4⟩ := HS6.out _ hSw; go_simp; try with_reducible rfl
        refine wpAnyU_two (i := 5) (j := 9) (by as_aux_lemma => kernel_rfl) rfl rfl (fun K' hK => ?_) (fun K' hK => ?_)
        · go_simp
          go_at_call 45
          refine (HCA.out _ HD0.out).mono ?_
          rintro e w5 ⟨M, rfl, b5'⟩
          have HB5 : Hid (Below W.heap.size W w5) := Lib.hid (HD0.out.trans (b5'.mono HD0.out.size))
          clear b5'
          refine hK.out _ _ (fun _ _ => HB5.out) ?_
          clear hK K'
          refine wpAnyU_take (i := 6) (v := ?_) [7, 8, 10, 11] rfl (by as_aux_lemma => kernel_rfl) (by as_aux_lemma => kernel_rfl) (by as_aux_lemma => kernel_rfl) (by as_aux_lemma => kernel_rfl) (by as_aux_lemma => kernel_rfl) (by as_aux_lemma => kernel_rfl) (by as_aux_lemma => kernel_rfl) (fun _ _ _ h => h) (Or.inl ⟨by kernel_rfl, ?_⟩) HB5.out ?_
          rotate_left
          · intro w' hSw; (try dsimp only at hSw); obtain ⟨s1, s2, s3, s4⟩ := HS6.out _ hSw; go_simp; try with_reducible rfl
          refine wpAnyU_take (i := 7) (v := ?_) [10, 11] rfl (by as_aux_lemma => kernel_rfl) (by as_aux_lemma => kernel_rfl) (by as_aux_lemma => kernel_rfl) (by as_aux_lemma => kernel_rfl) (by as_aux_lemma => kernel_rfl) (by as_aux_lemma => kernel_rfl) (by as_aux_lemma => kernel_rfl) (fun _ _ _ h => h) (Or.inl ⟨by kernel_rfl, ?_⟩) HB5.out ?_
          rotate_left
          · intro w' hSw; (try dsimp only at hSw); obtain ⟨s1, s2, s3, s4⟩ := HS6.out _ hSw; go_simp; try with_reducible rfl
          refine wpAnyU_take (i := 8) (v := ?_) [11] rfl (by as_aux_lemma => kernel_rfl) (by as_aux_lemma => kernel_rfl) (by as_aux_lemma => kernel_rfl) (by as_aux_lemma => kernel_rfl) (by as_aux_lemma => kernel_rfl) (by as_aux_lemma => kernel_rfl) (by as_aux_lemma => kernel_rfl) (fun _ _ _ h => h) (Or.inl ⟨by kernel_rfl, ?_⟩) HB5.out ?_
          rotate_left
          · intro w' hSw; (try dsimp only at hSw); obtain ⟨s1, s2, s3, s4⟩ := HS6.out _ hSw; go_simp; try with_reducible rfl
          refine wpAnyU_one (i := 9) (by as_aux_lemma => kernel_rfl) rfl (fun K' hK => ?_)
          go_simp
          refine hK.out _ _ (fun _ _ => HB5.out.alloc HB5.out.size _) ?_
          clear hK K'
          have HZ5 : Hid (Below W.heap.size W (w5.alloc (.cells #[.int .i64 0, .string ByteArray.empty, .slice none 0 0, .slice none 0 0, .int .u32 0, .int .u32 0] 66))) := Lib.hid (HB5.out.alloc HB5.out.size _)
          refine wpAnyU_one (i := 10) (by as_aux_lemma => kernel_rfl) rfl (fun K' hK => ?_)
          go_simp
          refine hK.out _ _ (fun _ _ => HB5.out.alloc HB5.out.size _) ?_
          clear hK K'
          refine wpAnyU_one (i := 11) (by as_aux_lemma => kernel_rfl) rfl (fun K' hK => ?_)
          go_simp
          refine hK.out _ _ (fun _ h => absurd rfl h) ?_
          clear hK K'
          refine wpAnyU_done (by kernel_rfl) ?_ _
          unfold onlyN
          gi_wp2_with fail
          gi_meet
          case rel => exact ⟨_, ⟨rfl, rfl⟩, Lib.hid ⟨HB5.out.alloc HB5.out.size _, M, Go.heap_alloc_new w5 _⟩⟩
        · go_simp
          have HB4 : Hid (∀ u, Below W.heap.size W (W.alloc u).drew) := Lib.hid (fun u => ((Below.refl _ W).alloc (Nat.le_refl _) u).drew)
          refine hK.out _ _ (fun _ _ => HB4.out _) ?_
          clear hK K'
          have hnb : (W.alloc (.cells #[.int .i64 0, .string ByteArray.empty, .slice none 0 0, .slice none 0 0, .int .u32 0, .int .u32 0] 66)).drew.heap[W.heap.size]? = some (.cells #[.int .i64 0, .string ByteArray.empty, .slice none 0 0, .slice none 0 0, .int .u32 0, .int .u32 0] 66 (0, 0)) := Go.heap_alloc_new W _
          refine wpAnyU_one (i := 5) (by as_aux_lemma => kernel_rfl) rfl (fun K' hK => ?_)
          obtain ⟨s1, s2, s3, s4⟩ := HS6.out _ (HB4.out (.cells #[.int .i64 0, .string ByteArray.empty, .slice none 0 0, .slice none 0 0, .int .u32 0, .int .u32 0] 66))
          go_simp
          go_at_call 45
          refine (HCA.out _ (HB4.out _)).mono ?_
          rintro e w5 ⟨M, rfl, b5'⟩
          have HB5 : Hid (Below W.heap.size W w5) := Lib.hid ((HB4.out _).trans (b5'.mono (HB4.out _).size))
          have hnb5 := (b5'.block _ (lt_of_some hnb)).trans hnb
          have HN5 := Lib.hid hnb5
          refine hK.out _ _ (fun _ _ => HB5.out) ?_
          clear hK K' b5' s1 s2 s3 s4 hnb HB4
          refine wpAnyU_take (i := 6) (v := ?_) [7, 8, 10, 11] rfl (by as_aux_lemma => kernel_rfl) (by as_aux_lemma => kernel_rfl) (by as_aux_lemma => kernel_rfl) (by as_aux_lemma => kernel_rfl) (by as_aux_lemma => kernel_rfl) (by as_aux_lemma => kernel_rfl) (by as_aux_lemma => kernel_rfl) (fun _ _ _ h => h) (Or.inl ⟨by kernel_rfl, ?_⟩) HB5.out ?_
          rotate_left
          · intro w' hSw; (try dsimp only at hSw); obtain ⟨s1, s2, s3, s4⟩ := HS6.out _ hSw; go_simp; try with_reducible rfl
          refine wpAnyU_take (i := 7) (v := ?_) [10, 11] rfl (by as_aux_lemma => kernel_rfl) (by as_aux_lemma => kernel_rfl) (by as_aux_lemma => kernel_rfl) (by as_aux_lemma => kernel_rfl) (by as_aux_lemma => kernel_rfl) (by as_aux_lemma => kernel_rfl) (by as_aux_lemma => kernel_rfl) (fun _ _ _ h => h) (Or.inl ⟨by kernel_rfl, ?_⟩) HB5.out ?_
          rotate_left
          · intro w' hSw; (try dsimp only at hSw); obtain ⟨s1, s2, s3, s4⟩ := HS6.out _ hSw; go_simp; try with_reducible rfl
          refine wpAnyU_take (i := 8) (v := ?_) [11] rfl (by as_aux_lemma => kernel_rfl) (by as_aux_lemma => kernel_rfl) (by as_aux_lemma => kernel_rfl) (by as_aux_lemma => kernel_rfl) (by as_aux_lemma => kernel_rfl) (by as_aux_lemma => kernel_rfl) (by as_aux_lemma => kernel_rfl) (fun _ _ _ h => h) (Or.inl ⟨by kernel_rfl, ?_⟩) HB5.out ?_
          rotate_left
          · intro w' hSw; (try dsimp only at hSw); obtain ⟨s1, s2, s3, s4⟩ := HS6.out _ hSw; go_simp; try with_reducible rfl
          have y0 := free_blk hnb5 0
          have y1 := free_blk hnb5 1
          have y2 := free_blk hnb5 2
          have y3 := free_blk hnb5 3
          have y4 := free_blk hnb5 4
          have y5 := free_blk hnb5 5
          have q0 := cell_blk hnb5 0 rfl
          have q1 := cell_blk hnb5 1 rfl
          have q2 := cell_blk hnb5 2 rfl
          have q3 := cell_blk hnb5 3 rfl
          have q4 := cell_blk hnb5 4 rfl
          have q5 := cell_blk hnb5 5 rfl
          have ln5 := lt_of_some hnb5
          clear hnb5
          refine wpAnyU_one (i := 10) (by as_aux_lemma => kernel_rfl) rfl (fun K' hK => ?_)
          go_simp
          refine hK.out _ _ (fun _ _ => Below.setCell (Below.setCell (Below.setCell (Below.setCell (Below.setCell (Below.setCell HB5.out (Nat.le_refl _) _) (Nat.le_refl _) _) (Nat.le_refl _) _) (Nat.le_refl _) _) (Nat.le_refl _) _) (Nat.le_refl _) _) ?_
          clear hK K'
          refine wpAnyU_one (i := 11) (by as_aux_lemma => kernel_rfl) rfl (fun K' hK => ?_)
          go_simp
          refine hK.out _ _ (fun _ h => absurd rfl h) ?_
          clear hK K'
          refine wpAnyU_done (by kernel_rfl) ?_ _
          unfold onlyN
          gi_wp2_with fail
          gi_meet
          case rel => exact ⟨_, ⟨rfl, rfl⟩, Lib.hid ⟨Below.setCell (Below.setCell (Below.setCell (Below.setCell (Below.setCell (Below.setCell HB5.out (Nat.le_refl _) _) (Nat.le_refl _) _) (Nat.le_refl _) _) (Nat.le_refl _) _) (Nat.le_refl _) _) (Nat.le_refl _) _, M, set_blk (set_blk (set_blk (set_blk (set_blk (set_blk HN5.out 0 _) 1 _) 2 _) 3 _) 4 _) 5 _⟩⟩
      case rest =>
        obtain ⟨b6, ⟨rfl, rfl⟩, hw6⟩ := hcut
        obtain ⟨bw6, M, hb6⟩ := hw6.out
        have y4 := cell_blk hb6 4 rfl
        have y5 := cell_blk hb6 5 rfl
        simp at y4 y5
        have hEz : hEq 0 0 0 0 = true := hEq_true rfl rfl
        clear hst hb6
        gi_wp2
        exact ⟨⟨bw6.size, fun k o _ hk _ => (bw6.block _ (lt_of_some hk)).trans hk⟩, ⟨bw6.mono HWW.out.1.size, fun k c t fz _ e => (bw6.block _ (lt_of_some e)).trans e⟩, HWW.out.2.trans (bw6.mono HWW.out.2.size)⟩
end
end Go.Proofs.YtelhnaphkbpakaaDoor
namespace Go.Proofs.YtelhnaphkbpakaaDoor
open Go.RowKit
set_option linter.unusedVariables false
set_option maxRecDepth 100000
section
variable {w : World} {m r ck n : Nat} {k v : Value}
theorem next_one (hr : w.heap[r]? = some (.mapIter (some m) ck #[] ck)) (hm : w.heap[m]? = some (.map #[⟨k, v, n⟩] ck)) (hn : n < ck) (ty : TypeId) :
    ∃ W', (Instr.next (.pointer (some ⟨r, 0, none⟩)) false ty).run Tryd.prog w = .ok (.tuple #[.bool true, k, v]) W' ∧ FrX (fun i => i = r) w W' ∧ W'.heap[r]? = some (.mapIter (some m) ck #[n] ck) := by
  have hl : leftOf #[(⟨k, v, n⟩ : MapEntry)] #[] = #[⟨k, v, n⟩] := by simp [leftOf]
  rcases run_next_at (P := Tryd.prog) w ty r m ck ck #[] #[⟨k, v, n⟩] ck hr hm (by simpa using hn) (Nat.le_refl _) with ⟨h0, _⟩ | ⟨e, he, w1, hw, hrun⟩
  · rw [hl] at h0; cases h0
  · rw [hl] at he
    obtain rfl : e = ⟨k, v, n⟩ := by simpa using he
    refine ⟨_, hrun, ?_, ?_⟩
    · rcases hw with rfl | rfl
      · exact (FrX.of_below (P := fun i => i = r) (Below.refl _ w1)).putObj (.inl rfl) _
      · exact ((FrX.of_below (P := fun i => i = r) (Below.refl _ w)).drew).putObj (.inl rfl) _
    · rcases hw with rfl | rfl
      · exact World.putObj_heap_same (lt_of_some hr)
      · exact World.putObj_heap_same (w := w.drew) (lt_of_some hr)
theorem next_over (hr : w.heap[r]? = some (.mapIter (some m) ck #[n] ck)) (hm : w.heap[m]? = some (.map #[⟨k, v, n⟩] ck)) (hn : n < ck) (ty : TypeId) :
    (Instr.next (.pointer (some ⟨r, 0, none⟩)) false ty).run Tryd.prog w = .ok (.tuple #[.bool false]) w := by
  have hl : leftOf #[(⟨k, v, n⟩ : MapEntry)] #[n] = #[] := by simp [leftOf]
  rcases run_next_at (P := Tryd.prog) w ty r m ck ck #[n] #[⟨k, v, n⟩] ck hr hm (by simpa using hn) (Nat.le_refl _) with ⟨_, h⟩ | ⟨e, he, _⟩
  · exact h
  · rw [hl] at he; simp at he
theorem entry_one (hr : w.heap[r]? = some (.mapIter (some m) ck #[n] ck)) (hm : w.heap[m]? = some (.map #[⟨k, v, n⟩] ck)) :
    (Instr.entry (.pointer (some ⟨r, 0, none⟩))).run Tryd.prog w = .ok (.tuple #[k, v]) w := by
  simp [Instr.entry, getObj, Sem.run, Sem.run_bind, Sem.run_pure, hr, hm, Result.andThen]
end
section
theorem clip_calls (a : Option Addr) (n cap : Nat) (h : n ≤ cap) (h2 : cap ≤ 9223372036854775807) (w : World) :
    Calls Tryd.prog 96 #[.slice a n cap] w fun e w' => e = .returned (.slice a n n) ∧ w' = w := by
  have p1 : (n : Int) ≤ (cap : Int) := by omega
  go_enter Tryd.func96, Tryd.ntmps96
  go_wp2
  go_ret
  exact ⟨rfl, rfl⟩
end
end Go.Proofs.YtelhnaphkbpakaaDoor
namespace Go.Proofs.YtelhnaphkbpakaaDoor
open Go.RowKit Go.Shelf
attribute [local go_sem] Oper.semAt_some
set_option linter.unusedVariables false
set_option maxRecDepth 100000
section
variable {B : Nat} {Q : Nat → Prop} {w w0 : World} {tb : Nat} {X : TX}
end
end Go.Proofs.YtelhnaphkbpakaaDoor
namespace Go.Proofs.YtelhnaphkbpakaaDoor
open Go.RowKit
set_option linter.unusedVariables false
set_option maxRecDepth 100000
section
variable {B : Nat} {Q : Nat → Prop} {w w' : World} {tb : Nat} {X : TX} {Lf : Nat → Nat → Nat × Nat}
end
section
variable {B : Nat} {Q : Nat → Prop} {w w' : World} {tb : Nat} {X : TX}
end
end Go.Proofs.YtelhnaphkbpakaaDoor
namespace Go.Proofs.YtelhnaphkbpakaaDoor
set_option linter.unusedVariables false
end Go.Proofs.YtelhnaphkbpakaaDoor
namespace Go.Proofs.YtelhnaphkbpakaaDoor
open Go.RowKit
set_option linter.unusedVariables false
set_option maxRecDepth 100000
section
variable {B : Nat} {Q : Nat → Prop} {w w' : World} {tb : Nat} {X : TX}
end
end Go.Proofs.YtelhnaphkbpakaaDoor
namespace Go.Proofs.YtelhnaphkbpakaaDoor
set_option linter.unusedVariables false
end Go.Proofs.YtelhnaphkbpakaaDoor
namespace Go.Proofs.YtelhnaphkbpakaaDoor
open Go Go.RowKit
set_option linter.unusedVariables false
section
variable {P : Program} (w : World)
end
end Go.Proofs.YtelhnaphkbpakaaDoor
namespace Go.Proofs.YtelhnaphkbpakaaDoor
open Go.RowKit Go.Shelf
set_option linter.unusedVariables false
set_option maxRecDepth 100000
theorem row_notcells {w : World} {base : Nat} {e : TypeId} {size : Nat} {v : Value} {n : Nat} {xs : List Value} (h : w.ownsRow base e size v n xs) {r : Nat} {o : Obj} (ho : w.heap[r]? = some o) (hc : o.isCells = false) : v.ownBlock ≠ some r := by
  intro hb
  rcases h.2 with ⟨rfl, _⟩ | ⟨g, cap, cur, rfl, _, hg, _⟩
  · cases hb
  · cases hb
    rw [hg] at ho
    cases ho
    cases hc
section
variable {F : For} {w5 W W' : World} {T10 T11 N sr gr : Nat} {pre : List Nat} {v : Value}
end
section
variable {F : For} {w5 : World} {T10 T11 N sr gr : Nat}
end
theorem wpListIn_append_lies {P : Program} (w : World) {F : Fence} {nF : Nat} {ops : Array Oper} {rest : List Oper} {o : Oper} {a : Act} {Q : Exit → Act → World → Prop} (hgd : o.guard = none) (s x : Operand) (t : TypeId)
    (ho : o.op = .call { callee := .builtin .append, args := #[s, x], argTypes := #[t, t] })
    (base : Nat) (e : TypeId) (i : TypeInfo) (z : Value) (size bytes : Nat) (ht : P.underlying t = some (.slice e)) (hi : P.info? e = some i) (hz : i.zero = some z)
    (hsize : i.size = size) (hby : i.bytes = bytes) (hzs : z.cells.size = size) (hsz : 0 < size)
    (v : Value) (n : Nat) (xs : List Value) (hs : a.eval s = v) (hown : w.ownsRow base e size v n xs)
    (ad : Addr) (m c : Nat) (news : List Value) (hx : a.eval x = .slice (some ad) m c) (hl : news.length = m * size) (hnews : ∀ j u, news[j]? = some u → w.cell? (ad.add j) = some u) (h1 : ∀ u ∈ news, u.oneCell' = true)
    (hm : 0 < m) (h63 : n + m ≤ maxLen) (hbytes : (n + m) * bytes ≤ 140737488355328) (hbase : base ≤ w.heap.size) (H : Nat) (hH : w.heap.size = H)
    (h : ∀ g cap w', w'.ownsRow base e size (.slice (some ⟨g, 0, none⟩) (n + m) cap) (n + m) (xs ++ news) → w.grownBy w' v.ownBlock → (v.ownBlock = some g ∨ g = H) → g < w'.heap.size → wpListIn F nF P ops Q rest (a.put o.dst (.slice (some ⟨g, 0, none⟩) (n + m) cap)) w') : wpListIn F nF P ops Q (o :: rest) a w := by
  obtain ⟨g, cap, w', hr, h2, h3, h4, h5⟩ := run_append_lies (P := P) w t o.type base e i z size bytes ht hi hz hsize hby hzs hsz v n xs hown ad m c news hl hnews h1 hm h63 hbytes hbase H hH
  refine wpListIn_plain hgd fun K hK => ?_
  unfold Oper.wpIn
  refine ⟨by simp [Oper.about, ho, resolve, Target.leads, Sem.run_pure], ?_⟩
  rw [Oper.semAt_plain F _ _ (by rw [ho]; intro c hc'; cases hc')]
  simp [execOp, ho, resolve, invoke, builtin, hs, hx, hr, Result.andThen]
  exact hK _ _ (h g cap w' h2 h3 h4 h5)
end Go.Proofs.YtelhnaphkbpakaaDoor
namespace Go.Proofs.YtelhnaphkbpakaaDoor
open Go.RowKit
set_option linter.unusedVariables false
def flN (a : Nat × Nat) (l : List (Nat × Nat)) : List (Nat × Nat) := l.filter (fun p => !(decide (p = a)))
def hcl (l : List (Nat × Nat)) : List Value := l.flatMap fun p => [.int .u32 (p.1 : Int), .int .u32 (p.2 : Int)]
theorem flN_same {a : Nat × Nat} {l : List (Nat × Nat)} {p : Nat × Nat} (h : p = a) : flN a (l ++ [p]) = flN a l := by simp [flN, h]
theorem flN_other {a : Nat × Nat} {l : List (Nat × Nat)} {p : Nat × Nat} (h : ¬ p = a) : flN a (l ++ [p]) = flN a l ++ [p] := by simp [flN, h]
theorem hcl_app (l : List (Nat × Nat)) (p : Nat × Nat) : hcl (l ++ [p]) = hcl l ++ [.int .u32 (p.1 : Int), .int .u32 (p.2 : Int)] := by simp [hcl]
theorem flN_len (a : Nat × Nat) (l : List (Nat × Nat)) : (flN a l).length ≤ l.length := List.length_filter_le _ _
structure OuI (w4 : World) (o : Nat) (l : List (Nat × Nat)) (v : Value) (W : World) : Prop where
  low : Below w4.heap.size w4 W
  box : W.heap[o]? = some (.cells #[v] 70 (0, 0))
  row : W.ownsRow (w4.heap.size + 1) 31 2 v l.length (hcl l)
theorem ouI_own {β : Type} {w4 : World} {B o : Nat} (f : β → List (Nat × Nat)) (hB : w4.heap.size ≤ B) : OwnFrom B (fun s W => ∃ v, OuI w4 o (f s) v W) := by
  rintro s A C row ⟨v, h⟩ hg hr
  have nc : ∀ (k : Nat) (c : Array Value) (t : TypeId) (fz : Nat × Nat), A.heap[k]? = some (.cells c t fz) → some k ≠ row := fun k c t fz hk e => by
    obtain ⟨_, o', ho, hc⟩ := hr _ e.symm
    rw [hk] at ho
    cases ho
    cases hc
  refine ⟨v, h.low.trans (grown_below hg (fun x e => by have := (hr x e).1; omega) h.low.size), (hg.block _ (lt_of_some h.box) (nc _ _ _ _ h.box)).trans h.box, h.row.1, ?_⟩
  rcases h.row.2 with h' | ⟨g, cap, cur, rfl, hb, hgg, rest⟩
  · exact .inl h'
  · exact .inr ⟨g, cap, cur, rfl, hb, (hg.block _ (lt_of_some hgg) (nc _ _ _ _ hgg)).trans hgg, rest⟩
theorem OuI.alloc {w4 W : World} {o : Nat} {l : List (Nat × Nat)} {v : Value} (h : OuI w4 o l v W) (x : Obj) : OuI w4 o l v (W.alloc x) := ⟨h.low.alloc h.low.size _, alloc_blk h.box _, h.row.alloc _⟩
end Go.Proofs.YtelhnaphkbpakaaDoor
namespace Go.Proofs.YtelhnaphkbpakaaDoor
open Go.RowKit Go.Shelf
attribute [local go_sem] Oper.semAt_some
attribute [local go_sem] store_func
set_option linter.unusedVariables false
set_option maxRecDepth 100000
theorem FrX.weak {P P' : Nat → Prop} {w w' : World} (h : FrX P w w') (hP : ∀ i, i < w.heap.size → P i → P' i) : FrX P' w w' := ⟨h.os, h.tape, h.output, h.size, fun i hi hp => h.block i hi (fun hq => hp (hP i hi hq))⟩
section
variable {B : Nat} {Q : Nat → Prop} {w : World} {tb rb m ck n0 : Nat} {X : TX}
set_option maxHeartbeats 8000000 in
theorem dead_calls {k : Nat} {x : FN} (h : TreeAt B Q w tb X) (hz : NoneAt w) (hr : RT w tb rb m #[⟨.agg #[.int .u32 (x.sl : Int), .int .u32 (x.gn : Int)], .int .i64 1, n0⟩] ck) (hn0 : n0 < ck)
    (hx : X.F[k]? = some x) (hl : x.live = true) (hu : x.up = none) (hpd : preD X.F k = [k]) {nb : Nat} {N : Nd} (hm : X.M[k]? = some (nb, N)) (hN : N.Bd 1099511627776) (hN2 : N.slot = 0 ∧ N.gen = 0)
    {L : List (Nat × Nat)} {y : Nat × Nat} (hL : liveL X.T = L) (hf : flN (x.sl, x.gn) L = [y]) (hLn : L.length ≤ 1000) :
    Calls Tryd.prog 63 #[.pointer (some ⟨rb, 0, none⟩)] w fun e w' => ∃ g, e = .returned (.slice (some ⟨g, 0, none⟩) 1 1) ∧ Below w.heap.size w w' ∧ w'.cell? ⟨g, 0, none⟩ = some (.int .u32 (y.1 : Int)) ∧ w'.cell? ⟨g, 1, none⟩ = some (.int .u32 (y.2 : Int)) := by
  refine (callsIn_wide (n := 12)).1 ?_
  have HMK : Hid (∀ W, Below w.heap.size w W → ∀ b1 b2 b3 rm, W.heap[b1]? = some (.cells #[.pointer (some ⟨rb, 0, none⟩)] 56 (0, 0)) → W.heap[b2]? = some (.cells #[.map (some rm)] 139 (0, 0)) → W.heap[b3]? = some (.cells #[.slice none 0 0] 70 (0, 0)) → W.heap[rm]? = some (.map #[] 0) →
    Calls Tryd.prog 92 #[.agg #[.int .u32 (x.sl : Int), .int .u32 (x.gn : Int)], .pointer (some ⟨b1, 0, none⟩), .pointer (some ⟨b2, 0, none⟩), .pointer (some ⟨b3, 0, none⟩)] W fun e w' => e = .returned (.tuple #[]) ∧ FrX (fun k => k = rm ∨ k = b3) W w' ∧ w'.heap[rm]? = some (.map #[⟨.agg #[.int .u32 (x.sl : Int), .int .u32 (x.gn : Int)], .bool true, 0⟩] 1) ∧
      ∃ g cap, w'.heap[b3]? = some (.cells #[.slice (some ⟨g, 0, none⟩) 1 cap] 70 (0, 0)) ∧ w'.ownsRow W.heap.size 31 2 (.slice (some ⟨g, 0, none⟩) 1 cap) 1 [.int .u32 (x.sl : Int), .int .u32 (x.gn : Int)]) := Lib.hid (fun W b b1 b2 b3 rm h1 h2 h3 h4 => mark_calls (h.below b) (hr.below b) h1 h2 h3 h4 hx hl hu)
  have HNX : Hid (∀ W, Below w.heap.size w W → ∀ b1 b2 b3 b5 rm base g cap, w.heap.size ≤ b3 → W.heap[b1]? = some (.cells #[.pointer (some ⟨rb, 0, none⟩)] 56 (0, 0)) → W.heap[b2]? = some (.cells #[.map (some rm)] 139 (0, 0)) → W.heap[b3]? = some (.cells #[.slice (some ⟨g, 0, none⟩) 1 cap] 70 (0, 0)) → W.heap[rm]? = some (.map #[⟨.agg #[.int .u32 (x.sl : Int), .int .u32 (x.gn : Int)], .bool true, 0⟩] 1) → W.ownsRow base 31 2 (.slice (some ⟨g, 0, none⟩) 1 cap) 1 [.int .u32 (x.sl : Int), .int .u32 (x.gn : Int)] →
    Calls Tryd.prog 94 #[.pointer (some ⟨b3, 0, none⟩), .pointer (some ⟨b1, 0, none⟩), .pointer (some ⟨b2, 0, none⟩), .pointer (some ⟨b5, 0, none⟩)] W fun e w' => e = .returned (.tuple #[]) ∧ FrX (fun k => k = b3) W w') := Lib.hid (fun W b b1 b2 b3 b5 rm base g cap hn3 h1 h2 h3 h4 h5 => next_calls h hz hr b h1 h2 h3 hn3 hx hl hu hpd hm hN hN2 h4 h5)
  have HSEQ : Hid (∀ W Bt, Below w.heap.size w W → W.heap[Bt]? = some (.cells #[.pointer (some ⟨tb, 0, none⟩)] 25 (0, 0)) → SeqO Fence.wide 11 Tryd.prog 108 #[.pointer (some ⟨Bt, 0, none⟩)] encHd (KpE w.heap.size) L W) := Lib.hid (fun W Bt b h1 => by have := all1T h 11 Bt b h1; rw [hL] at this; exact this)
  have HR : Hid (w.heap[rb]? = some (.cells #[.pointer (some ⟨tb, 0, none⟩), .map (some m)] 105 (0, 0)) ∧ w.heap[m]? = some (.map #[⟨.agg #[.int .u32 (x.sl : Int), .int .u32 (x.gn : Int)], .int .i64 1, n0⟩] ck) ∧ n0 < ck) := Lib.hid ⟨hr.blk, hr.map, hn0⟩
  have HF := Lib.hid (And.intro hf hLn)
  have d0 := cell_blk hr.blk 0 rfl
  have d1 := cell_blk hr.blk 1 rfl
  have lr := lt_of_some hr.blk
  have lm := lt_of_some hr.map
  have hmm := @run_makeMap Tryd.prog
  simp at d0 d1
  clear h hz hr hx hl hu hpd hm hN hN2 hL hn0 hf hLn
  generalize x.sl = s at *
  generalize x.gn = gn at *
  refine callsIn_of_wp_marks Tryd.func63 rfl trivial ?_ rfl
  simp only [Tryd.ntmps63, List.size_toArray, List.length_cons, List.length_nil, Nat.reduceAdd, Nat.reduceSub, Array.replicate_succ, Array.replicate_zero, List.push_toArray, List.append_toArray, List.nil_append, List.cons_append]
  gi_upto_region 4 with (fail)
  obtain ⟨V, hV⟩ : ∃ V, V = ((((w.alloc (.cells #[.pointer (some ⟨rb, 0, none⟩)] 56)).alloc (.map #[] 0)).alloc (.cells #[.map (some (w.heap.size + 1))] 139)).alloc (.cells #[.slice none 0 0] 70)).alloc (.cells #[.func (.func 92) #[] #[.pointer (some ⟨w.heap.size, 0, none⟩), .pointer (some ⟨w.heap.size + 1 + 1, 0, none⟩), .pointer (some ⟨w.heap.size + 1 + 1 + 1, 0, none⟩)]] 140) := ⟨_, rfl⟩
  have HV : Hid (Below w.heap.size w V ∧ V.heap[w.heap.size]? = some (.cells #[.pointer (some ⟨rb, 0, none⟩)] 56 (0, 0)) ∧ V.heap[w.heap.size + 1]? = some (.map #[] 0) ∧ V.heap[w.heap.size + 1 + 1]? = some (.cells #[.map (some (w.heap.size + 1))] 139 (0, 0)) ∧ V.heap[w.heap.size + 1 + 1 + 1]? = some (.cells #[.slice none 0 0] 70 (0, 0)) ∧ V.heap[w.heap.size + 1 + 1 + 1 + 1]? = some (.cells #[.func (.func 92) #[] #[.pointer (some ⟨w.heap.size, 0, none⟩), .pointer (some ⟨w.heap.size + 1 + 1, 0, none⟩), .pointer (some ⟨w.heap.size + 1 + 1 + 1, 0, none⟩)]] 140 (0, 0)) ∧ V.heap.size = w.heap.size + 5) := Lib.hid (by
    rw [hV]
    refine ⟨?_, alloc_blk (alloc_blk (alloc_blk (alloc_blk (Go.heap_alloc_new w _) _) _) _) _, alloc_blk (alloc_blk (alloc_blk (alloc2_blk w _ _) _) _) _, ?_, ?_, ?_, by simp⟩
    · exact (((((Below.refl _ w).alloc (Nat.le_refl _) _).alloc (by simp) _).alloc (by simp; omega) _).alloc (by simp; omega) _).alloc (by simp; omega) _
    · refine alloc_blk (alloc_blk ?_ _) _
      have := Go.heap_alloc_new ((w.alloc (.cells #[.pointer (some ⟨rb, 0, none⟩)] 56)).alloc (.map #[] 0)) (.cells #[.map (some (w.heap.size + 1))] 139)
      simpa using this
    · refine alloc_blk ?_ _
      have := Go.heap_alloc_new (((w.alloc (.cells #[.pointer (some ⟨rb, 0, none⟩)] 56)).alloc (.map #[] 0)).alloc (.cells #[.map (some (w.heap.size + 1))] 139)) (.cells #[.slice none 0 0] 70)
      simpa using this
    · have := Go.heap_alloc_new ((((w.alloc (.cells #[.pointer (some ⟨rb, 0, none⟩)] 56)).alloc (.map #[] 0)).alloc (.cells #[.map (some (w.heap.size + 1))] 139)).alloc (.cells #[.slice none 0 0] 70)) (.cells #[.func (.func 92) #[] #[.pointer (some ⟨w.heap.size, 0, none⟩), .pointer (some ⟨w.heap.size + 1 + 1, 0, none⟩), .pointer (some ⟨w.heap.size + 1 + 1 + 1, 0, none⟩)]] 140)
      simpa using this)
  rw [← hV]
  clear hV
  have HRV : Hid (∀ P : Nat → Prop, (∀ i, P i → w.heap.size ≤ i) → ∀ W, FrX P V W → W.heap[rb]? = some (.cells #[.pointer (some ⟨tb, 0, none⟩), .map (some m)] 105 (0, 0)) ∧ W.heap[m]? = some (.map #[⟨.agg #[.int .u32 (s : Int), .int .u32 (gn : Int)], .int .i64 1, n0⟩] ck) ∧ Below w.heap.size w W) := Lib.hid (fun P hP W f => by
    have bW : Below w.heap.size w W := HV.out.1.trans (f.low HV.out.1.size (fun i hi hp => by have := hP i hp; omega))
    exact ⟨(bW.block _ (lt_of_some HR.out.1)).trans HR.out.1, (bW.block _ (lt_of_some HR.out.2.1)).trans HR.out.2.1, bW⟩)
  clear d0 d1 lr lm
  obtain ⟨vr, vm, _⟩ := HRV.out (fun _ => False) (fun _ h => h.elim) V (FrX.of_below (Below.refl _ V))
  have e1 := cell_blk HV.out.2.1 0 rfl
  have d1 := cell_blk vr 1 rfl
  have l1 := lt_of_some HV.out.2.1
  have lr := lt_of_some vr
  have hrg := run_range_map (P := Tryd.prog) V 103 31 3 m _ ck Tryd.underlying103 vm
  simp at e1 d1
  have hvm1 := alloc_blk vm (.mapIter (some m) ck #[] ck)
  obtain ⟨W1, hn1, f1, hit1⟩ := next_one (Go.heap_alloc_new V (.mapIter (some m) ck #[] ck)) hvm1 HR.out.2.2 0
  have hm1 : W1.heap[m]? = some (.map #[⟨.agg #[.int .u32 (s : Int), .int .u32 (gn : Int)], .int .i64 1, n0⟩] ck) := f1.blk hvm1 (by have := lt_of_some vm; show ¬ m = V.heap.size; omega)
  have hen := entry_one hit1 hm1
  have F1 : FrX (fun _ => False) V W1 := ((FrX.of_below (Below.refl _ V)).alloc _).trans f1 (fun i h1 h2 => by subst h2; omega)
  have hs1 := F1.size
  have b5 := F1.blk HV.out.2.2.2.2.2.1 (fun h => h)
  have b5a := alloc_blk b5 (.cells #[.int .u32 (s : Int), .int .u32 (gn : Int)] 31)
  have c5 := cell_blk b5a 0 rfl
  have l5 := lt_of_some b5a
  simp at c5
  have HW1 := Lib.hid (And.intro F1 hit1)
  have HM : Hid (Calls Tryd.prog 92 #[.agg #[.int .u32 (s : Int), .int .u32 (gn : Int)], .pointer (some ⟨w.heap.size, 0, none⟩), .pointer (some ⟨w.heap.size + 1 + 1, 0, none⟩), .pointer (some ⟨w.heap.size + 1 + 1 + 1, 0, none⟩)] (W1.alloc (.cells #[.int .u32 (s : Int), .int .u32 (gn : Int)] 31)) fun e w' => e = .returned (.tuple #[]) ∧ FrX (fun i => i = w.heap.size + 1 ∨ i = w.heap.size + 1 + 1 + 1) V w' ∧ w'.heap[w.heap.size + 1]? = some (.map #[⟨.agg #[.int .u32 (s : Int), .int .u32 (gn : Int)], .bool true, 0⟩] 1) ∧ w'.heap[V.heap.size]? = some (.mapIter (some m) ck #[n0] ck) ∧
      ∃ g cap base, w'.heap[w.heap.size + 1 + 1 + 1]? = some (.cells #[.slice (some ⟨g, 0, none⟩) 1 cap] 70 (0, 0)) ∧ w'.ownsRow base 31 2 (.slice (some ⟨g, 0, none⟩) 1 cap) 1 [.int .u32 (s : Int), .int .u32 (gn : Int)]) := Lib.hid (by
    have F2 := F1.alloc (.cells #[.int .u32 (s : Int), .int .u32 (gn : Int)] 31)
    have hlow : Below w.heap.size w (W1.alloc (.cells #[.int .u32 (s : Int), .int .u32 (gn : Int)] 31)) := (HRV.out _ (fun i h => h.elim) _ F2).2.2
    refine (HMK.out _ hlow _ _ _ _ (F2.blk HV.out.2.1 (fun h => h)) (F2.blk HV.out.2.2.2.1 (fun h => h)) (F2.blk HV.out.2.2.2.2.1 (fun h => h)) (F2.blk HV.out.2.2.1 (fun h => h))).mono ?_
    rintro e w' ⟨rfl, hf, h1, g, cap, h2, h3⟩
    have hV5 := HV.out.2.2.2.2.2.2
    refine ⟨rfl, (F2.weak (fun i _ h => h.elim)).trans hf (fun i _ h => h), h1, hf.blk (alloc_blk hit1 _) (by omega), g, cap, _, h2, h3⟩)
  clear vm hvm1 f1 F1 b5 b5a hm1
  gi_wp2
  refine wpIn_loop_rounds 2 ?_
  rw [roundsIn_succ]
  gi_wp2_with (refine ⟨trivial, ?_⟩; gi_at_call 92; refine (callsIn_wide.2 HM.out).mono ?_; rintro e w3 ⟨rfl, hf3, hr3, hi3, g, cap, base, hb3, hg3⟩; have H3 := Lib.hid (And.intro hf3 (And.intro hr3 (And.intro hi3 (And.intro hb3 hg3)))); clear hf3 hr3 hi3 hb3 hg3)
  have hV5 := HV.out.2.2.2.2.2.2
  obtain ⟨vr3, vm3, bw3⟩ := HRV.out _ (fun i h => by rcases h with rfl | rfl <;> omega) _ H3.out.1
  have hov := next_over H3.out.2.2.1 vm3 HR.out.2.2 0
  have hs3 := H3.out.1.size
  have HNC : Hid (Calls Tryd.prog 94 #[.pointer (some ⟨w.heap.size + 1 + 1 + 1, 0, none⟩), .pointer (some ⟨w.heap.size, 0, none⟩), .pointer (some ⟨w.heap.size + 1 + 1, 0, none⟩), .pointer (some ⟨w.heap.size + 1 + 1 + 1 + 1, 0, none⟩)] w3 fun e w' => e = .returned (.tuple #[]) ∧ FrX (fun i => i = w.heap.size + 1 + 1 + 1) w3 w') := Lib.hid (HNX.out w3 bw3 _ _ _ _ _ _ _ _ (by omega) (H3.out.1.blk HV.out.2.1 (by omega)) (H3.out.1.blk HV.out.2.2.2.1 (by omega)) H3.out.2.2.2.1 H3.out.2.1 H3.out.2.2.2.2)
  clear hn1 hen hit1 c5 l5 e1 d1 l1 lr hrg vr vr3 vm3 bw3 hs1 hV5
  rw [roundsIn_succ]
  gi_upto_region 11 with (refine ⟨trivial, ?_⟩; gi_at_call 94; refine (callsIn_wide.2 HNC.out).mono ?_; rintro e w4 ⟨rfl, hf4⟩; have H4 := Lib.hid hf4; clear hf4)
  have F4 : FrX (fun i => i = w.heap.size + 1 ∨ i = w.heap.size + 1 + 1 + 1) V w4 := H3.out.1.trans H4.out (fun i _ h => .inr h)
  have hr4 : w4.heap[w.heap.size + 1]? = some (.map #[⟨.agg #[.int .u32 (s : Int), .int .u32 (gn : Int)], .bool true, 0⟩] 1) := H4.out.blk H3.out.2.1 (by omega)
  have HP : Hid (∀ i, (i = w.heap.size + 1 ∨ i = w.heap.size + 1 + 1 + 1) → w.heap.size ≤ i) := Lib.hid (fun i h => by rcases h with rfl | rfl <;> omega)
  have H4B : Hid (FrX (fun i => i = w.heap.size + 1 ∨ i = w.heap.size + 1 + 1 + 1) V w4 ∧ w4.heap[w.heap.size + 1]? = some (.map #[⟨.agg #[.int .u32 (s : Int), .int .u32 (gn : Int)], .bool true, 0⟩] 1) ∧ Below w.heap.size w w4 ∧ w4.heap[w.heap.size]? = some (.cells #[.pointer (some ⟨rb, 0, none⟩)] 56 (0, 0)) ∧ w4.heap[rb]? = some (.cells #[.pointer (some ⟨tb, 0, none⟩), .map (some m)] 105 (0, 0)) ∧ w4.heap[w.heap.size + 1 + 1]? = some (.cells #[.map (some (w.heap.size + 1))] 139 (0, 0))) := Lib.hid ⟨F4, hr4, (HRV.out _ HP.out _ F4).2.2, F4.blk HV.out.2.1 (by omega), (HRV.out _ HP.out _ F4).1, F4.blk HV.out.2.2.2.1 (by omega)⟩
  have q1 := alloc_blk H4B.out.2.2.2.1 (.cells #[.slice none 0 0] 70)
  have q2 := alloc_blk H4B.out.2.2.2.2.1 (.cells #[.slice none 0 0] 70)
  have e1 := cell_blk q1 0 rfl
  have e2 := cell_blk q2 0 rfl
  have l1 := lt_of_some q1
  have l2 := lt_of_some q2
  simp at e1 e2
  clear q1 q2 F4 hr4 hov hs3
  gi_wp2_with (refine ⟨trivial, ?_⟩; gi_at_call 95; refine (callsIn_wide.2 (allT_calls _ _)).mono ?_; rintro e w6 ⟨rfl, rfl⟩)
  have a1 := alloc2_blk w4 (.cells #[.slice none 0 0] 70) (.cells #[.pointer (some ⟨tb, 0, none⟩)] 25)
  have hI0 : ∃ v, OuI w4 w4.heap.size (flN (s, gn) []) v ((w4.alloc (.cells #[.slice none 0 0] 70)).alloc (.cells #[.pointer (some ⟨tb, 0, none⟩)] 25)) := ⟨_, ((Below.refl _ w4).alloc (Nat.le_refl _) _).alloc (by simp) _, alloc_blk (Go.heap_alloc_new w4 _) _, World.ownsRow_nil _ _ _ _⟩
  have hw6 : Below w.heap.size w ((w4.alloc (.cells #[.slice none 0 0] 70)).alloc (.cells #[.pointer (some ⟨tb, 0, none⟩)] 25)) := (H4B.out.2.2.1.alloc H4B.out.2.2.1.size _).alloc (by have := H4B.out.2.2.1.size; simp; omega) _
  have hs64 : w4.heap.size + 1 < ((w4.alloc (.cells #[.slice none 0 0] 70)).alloc (.cells #[.pointer (some ⟨tb, 0, none⟩)] 25)).heap.size := by simp
  generalize (w4.alloc (.cells #[.slice none 0 0] 70)).alloc (.cells #[.pointer (some ⟨tb, 0, none⟩)] 25) = W6 at a1 hI0 hw6 hs64 ⊢
  have hst := HSEQ.out W6 _ hw6 a1
  have hs6 := hw6.size
  have hs4 := H4B.out.2.2.1.size
  clear e1 e2 l1 l2 a1 hw6
  refine range_OH1 (gf := 108) (lb := #[.pointer (some ⟨w4.heap.size + 1, 0, none⟩)]) rfl (by decide) rfl trivial (enters_of Tryd.func108 (by kernel_rfl) rfl)
    hst (fun h k => h.trans k) (kpE_b hs6) (Below.refl _ _) (fun _ => rfl)
    (fun pre U => ∃ v, OuI w4 w4.heap.size (flN (s, gn) pre) v U) (fun _ _ _ => False) (ouI_own _ (by omega)) (fun _ _ _ _ _ hs _ _ => hs) hI0
    9 (fun p => #[.int .u32 (p.1 : Int), .int .u32 (p.2 : Int)]) 31 ?assign ?body ?done ?stop
  case assign =>
    rintro l pre p U K ⟨v, hI⟩ hK
    simp only [encHd]
    gi_wp2
    have hk := hK U.heap.size _ ((KeepsOthers.alloc _ _).from _) ⟨(Below.refl _ U).alloc (Nat.le_trans hs4 hI.low.size) _, fun k c t fz _ e => alloc_blk e _⟩ ⟨v, hI.alloc _⟩ (Go.heap_alloc_new U _)
    simpa [boxAct, encHd] using hk
  case stop =>
    rintro D c pre U _ _ h _
    exact h.elim
  case done =>
    rintro D U hD ⟨v, hI⟩ hK
    rw [HF.out.1] at hI
    obtain ⟨g2, c2, rfl⟩ := row_pos hI.row (by simp)
    have c8 := cell_blk hI.box 0 rfl
    have l8 := lt_of_some hI.box
    simp at c8
    have HFIN : Hid (Below w.heap.size w (U.putObj D (.deferred none)) ∧ (U.putObj D (.deferred none)).cell? ⟨g2, 0, none⟩ = some (.int .u32 (y.1 : Int)) ∧ (U.putObj D (.deferred none)).cell? ⟨g2, 1, none⟩ = some (.int .u32 (y.2 : Int)) ∧ 1 ≤ c2 ∧ c2 ≤ 9223372036854775807) := Lib.hid (by
      obtain ⟨cur, hcur, hbg⟩ := rwBlk hI.row
      have hne : g2 ≠ D := fun e => by rw [e, hK] at hcur; cases hcur
      have hcel : ∀ i, (U.putObj D (.deferred none)).cell? ⟨g2, i, none⟩ = U.cell? ⟨g2, i, none⟩ := fun i => by simp only [World.cell?]; rw [World.putObj_heap_other hne]
      have hcap : 1 ≤ c2 ∧ c2 ≤ 9223372036854775807 := by
        rcases hI.row.2 with ⟨h, _⟩ | ⟨g', cap', cur', h, _, _, h1, h2, _⟩
        · cases h
        · cases h; exact ⟨h1, h2⟩
      exact ⟨(H4B.out.2.2.1.trans (hI.low.mono hs4)).trans (belowK_b (w := w) (Nat.le_refl _) U D _ _ (by omega) hK rfl rfl), (hcel 0).trans ((hI.row.cellAt 0 (by simp)).trans (by simp [hcl])), (hcel 1).trans ((hI.row.cellAt 1 (by simp)).trans (by simp [hcl])), hcap⟩)
    have HK := Lib.hid hK
    clear hK hI hst
    have hclip := clip_calls (some ⟨g2, 0, none⟩) 1 c2 HFIN.out.2.2.2.1 HFIN.out.2.2.2.2 U
    gi_wp2_with (refine ⟨trivial, ?_⟩; gi_at_call 96; refine (callsIn_wide.2 hclip).mono ?_; rintro e w7 ⟨rfl, rfl⟩)
    refine ⟨by simp, .inl ⟨_, _, rfl, run_takeDeferred HK.out, ?_⟩⟩
    exact ⟨.slice (some ⟨g2, 0, none⟩) 1 1, by simp [results, Tryd.results63, go_sem], g2, rfl, HFIN.out.1, HFIN.out.2.1, HFIN.out.2.2.1⟩
  case body =>
    rintro l pre p xb U hl hr ⟨v, hI⟩ hxb hpf
    have hpl : pre.length + 1 ≤ 1000 := by have := hpf.length_le; simp at this; have := HF.out.2; omega
    have hfl := flN_len (s, gn) pre
    have hmU := (hI.low.block _ (lt_of_some H4B.out.2.1)).trans H4B.out.2.1
    have h2U := (hI.low.block _ (lt_of_some H4B.out.2.2.2.2.2)).trans H4B.out.2.2.2.2.2
    have c2 := cell_blk h2U 0 rfl
    have l2 := lt_of_some h2U
    have x0 := cell_blk hxb 0 rfl
    have x1 := cell_blk hxb 1 rfl
    have lx := lt_of_some hxb
    simp at c2 x0 x1
    have hlk := look_one (t := 139) hmU Tryd.underlying139 z4 (p.1 : Int) (p.2 : Int)
    have HI := Lib.hid hI
    generalize hA : boxAct _ _ _ _ _ = A
    simp [boxAct, encHd] at hA
    subst hA
    by_cases hp : p = (s, gn)
    · have hq : hEq (p.1 : Int) (p.2 : Int) (s : Int) (gn : Int) = true := hEq_true (by rw [hp]) (by rw [hp])
      rw [hq, if_pos rfl] at hlk
      have HPQ := Lib.hid hp
      clear hI hxb hmU h2U hr hq hp
      gi_wp2
      exact ⟨KeepsFrom.refl _ _, KpE.refl _ _, v, by rw [flN_same HPQ.out]; exact HI.out⟩
    · have hq : hEq (p.1 : Int) (p.2 : Int) (s : Int) (gn : Int) = false := hEq_false (by
        by_cases h : p.1 = s
        · refine .inr (fun e => hp ?_)
          obtain ⟨p1, p2⟩ := p
          simp only at h e
          rw [h, Int.ofNat.inj e]
        · exact .inl (fun e => h (Int.ofNat.inj e)))
      rw [hq, if_neg (by simp)] at hlk
      have c8 := cell_blk hI.box 0 rfl
      have l8 := lt_of_some hI.box
      simp at c8
      have hrow := hI.row
      have hlt := hrow.lt
      have hlow := hI.low
      have hsl := hlow.size
      have hbx := hI.box
      obtain ⟨i0, hi0, hzi0, hzi1, hzi2⟩ := info_parts infoH
      have hm1 : (flN (s, gn) pre).length + 1 ≤ maxLen := by have : maxLen = 9223372036854775807 := rfl; omega
      have hm2 : ((flN (s, gn) pre).length + 1) * 8 ≤ 140737488355328 := by omega
      have hbase : ∀ o, w4.heap.size + 1 ≤ (U.alloc o).heap.size := fun o => by simp; omega
      clear hI hxb hmU h2U hr hq
      gi_wp2_with (gi_at_builtin; refine wpListIn_append_lies _ rfl (.tmp 37) (.tmp 39) 70 rfl (w4.heap.size + 1) 31 i0 _ 2 8 Tryd.underlying70 hi0 hzi0 hzi1 hzi2 rfl (by omega) v (flN (s, gn) pre).length (hcl (flN (s, gn) pre)) rfl (hrow.alloc _) ⟨U.heap.size, 0, none⟩ 1 1 [.int .u32 (p.1 : Int), .int .u32 (p.2 : Int)] rfl rfl (World.news_of_block (cs := #[.int .u32 (p.1 : Int), .int .u32 (p.2 : Int)]) (t := 31) (fr := (0, 0)) (Go.heap_alloc_new U _)) (by simp [Value.oneCell']) (by omega) hm1 hm2 (hbase _) (U.heap.size + 1) (by simp) ?_; intro g2 c2 w5 hown2 hg2 hat2 hlt2; have hbox2 := (hg2.block _ (Nat.lt_of_lt_of_le l8 (by simp)) (fun e => by have := (hlt _ e.symm).1; omega)).trans (alloc_blk hbx _); have z0 := cell_blk hbox2 0 rfl; have f0 := free_blk hbox2 0)
      have hs5 := hg2.size
      have hs5' : U.heap.size + 1 ≤ w5.heap.size := by simpa using hs5
      have hcells : ∀ (j : Nat) (o : Obj), v.ownBlock = some j → (U.alloc (.cells #[.int .u32 (p.1 : Int), .int .u32 (p.2 : Int)] 31)).heap[j]? = some o → o.isCells = true := fun j o hj ho => by
        cases hc : o.isCells with
        | true => rfl
        | false => exact absurd hj (row_notcells (hrow.alloc _) ho hc)
      have hle5 : Below w4.heap.size U w5 := ((Below.refl _ U).alloc hsl _).trans (grown_below hg2 (fun y e => by have := (hlt y e).1; omega) (by simp; omega))
      have hgne : g2 ≠ w4.heap.size := by
        rcases hat2 with h | h
        · have h5 := (hlt _ h).1; omega
        · omega
      refine ⟨(((KeepsOthers.alloc U _).trans (KeepsOthers.of_grownBy hg2 hcells)).trans (KeepsOthers.setCell _ _ _)).from _, ⟨(hle5.setCell (Nat.le_refl _) _).mono hs4, fun j c t fz ht e => ?_⟩, .slice (some ⟨g2, 0, none⟩) ((flN (s, gn) pre).length + 1) c2, ⟨(hlow.trans hle5).setCell (Nat.le_refl _) _, set_blk hbox2 0 _, ?_⟩⟩
      · have n1 : j ≠ w4.heap.size := fun e1 => by subst e1; rw [hbx] at e; cases e; rcases ht with h | h | h <;> cases h
        have n2 : some j ≠ v.ownBlock := rwNe hrow e (by rcases ht with h | h | h <;> subst h <;> decide)
        rw [heap_setCell_other _ _ _ _ n1]
        exact (hg2.block _ (Nat.lt_of_lt_of_le (lt_of_some e) (by simp)) n2).trans (alloc_blk e _)
      · have h6 := rwSet hown2 ⟨w4.heap.size, 0, none⟩ (by simp [Value.ownBlock]; exact hgne) (.slice (some ⟨g2, 0, none⟩) ((flN (s, gn) pre).length + 1) c2)
        rw [flN_other hp, hcl_app, List.length_append]
        exact h6
end
end Go.Proofs.YtelhnaphkbpakaaDoor
namespace Go.Proofs.YtelhnaphkbpakaaDoor
open Go.RowKit
set_option linter.unusedVariables false
set_option maxRecDepth 100000
section
variable {B : Nat} {Q : Nat → Prop} {w : World} {tb : Nat} {X : TX}
set_option maxHeartbeats 4000000 in
theorem unlink_root (h : TreeAt B Q w tb X) {i : Nat} {xi : FN} (hi : X.F[i]? = some xi) (hil : xi.live = true) (hiu : xi.up = none) :
    Calls Tryd.prog 73 #[.pointer (some ⟨tb, 0, none⟩), .agg #[.int .u32 (xi.sl : Int), .int .u32 (xi.gn : Int)]] w fun e w' => e = .returned (.int .i64 73) ∧ Below w.heap.size w w' := by
  have h0 : toH X.F i 0 = (0, 0) := by
    have : lkO X.F i 0 = none := by show upOf X.F i = none; unfold upOf; rw [hi]; exact hiu
    unfold toH; rw [this]; rfl
  obtain ⟨nbc, Pc, hmc, _⟩ := h.rw.at_live hi hil
  have hnc := (h.rw.node i xi nbc Pc hi hil hmc).2.2.1
  have HC : Hid (∀ (W : World), Below w.heap.size w W → W.heap[nbc]? = some (.cells (ncells Pc (toH X.F i) (i + 1)) 120 (0, 0))) := Lib.hid (fun W b => (b.block _ (lt_of_some hnc)).trans hnc)
  have HGc : Hid (∀ W, Below w.heap.size w W → Calls Tryd.prog 76 #[.pointer (some ⟨X.ab, 0, none⟩), .agg #[.int .u32 (xi.sl : Int), .int .u32 (xi.gn : Int)]] W fun e w' => e = .returned (.tuple #[.pointer (some ⟨nbc, 0, none⟩), .int .i64 0]) ∧ Below W.heap.size W w') := Lib.hid (fun W bb => (h.rw.below bb).get_live hi hil hmc)
  have qz : hEq 0 0 0 0 = true := hEq_true rfl rfl
  have c0 := cell_blk h.rw.blk 0 rfl
  have ltb := lt_of_some h.rw.blk
  simp at c0
  have HLT := Lib.hid h0
  clear h0 h hi hil hiu hmc hnc
  generalize xi.sl = si at *
  generalize xi.gn = gi at *
  obtain ⟨V, hV⟩ : ∃ V, V = w.alloc (.cells #[.int .u32 (si : Int), .int .u32 (gi : Int)] 31) := ⟨_, rfl⟩
  have bV : Below w.heap.size w V := by rw [hV]; exact (by repeat (first | exact Below.refl _ _ | assumption | refine Below.drew ?_ | refine below_drewN ?_ _ | refine Below.alloc ?_ (by simp <;> omega) _ | refine Below.setCell ?_ (by simp <;> omega) _ | (apply bl_trans; assumption; (simp <;> omega))))
  have hx : V.heap[w.heap.size]? = some (.cells #[.int .u32 (si : Int), .int .u32 (gi : Int)] 31 (0, 0)) := by rw [hV]; exact Go.heap_alloc_new w _
  have HX := Lib.hid (And.intro hx bV)
  have HSW : Hid (∀ W, Below V.heap.size V W → (W.cell? ⟨tb, 0, none⟩ = some (.pointer (some ⟨X.ab, 0, none⟩)) ∧ W.cell? ⟨w.heap.size, 0, none⟩ = some (.int .u32 (si : Int)) ∧ W.cell? ⟨w.heap.size, 1, none⟩ = some (.int .u32 (gi : Int))) ∧ Below w.heap.size w W) := Lib.hid (fun W bb => by
    have hx2 := (bb.block _ (lt_of_some HX.out.1)).trans HX.out.1
    exact ⟨⟨((HX.out.2.trans (bb.mono HX.out.2.size)).cell (p := ⟨tb, 0, none⟩) ltb).trans c0, cell_blk hx2 0 rfl, cell_blk hx2 1 rfl⟩, HX.out.2.trans (bb.mono HX.out.2.size)⟩)
  have HD0 : Hid (Below V.heap.size V V.drew) := Lib.hid (Below.refl _ _).drew
  have hV2 := hV
  clear hV hx bV
  go_enter Tryd.func73, Tryd.ntmps73
  go_wp2_with fail
  rw [← hV2]
  clear hV2
  go_region_held3 (fun W => (W.cell? ⟨tb, 0, none⟩ = some (.pointer (some ⟨X.ab, 0, none⟩)) ∧ W.cell? ⟨w.heap.size, 0, none⟩ = some (.int .u32 (si : Int)) ∧ W.cell? ⟨w.heap.size, 1, none⟩ = some (.int .u32 (gi : Int)))) (first | exact (HSW.out _ HD0.out).1 | exact (HSW.out _ HB1.out).1) (first | (go_at_call 76; refine (HGc.out _ (HSW.out _ HD0.out).2).mono ?_; rintro e w1 ⟨rfl, b1⟩; have HB1 := Lib.hid (HD0.out.trans (b1.mono HD0.out.size))))
  clear b1 HD0
  have hlow := (HSW.out _ HB1.out).2
  have m6 : w1.cell? ⟨nbc, 6, none⟩ = some (.int .u32 ((toH X.F i 0).1 : Int)) := cell_blk (HC.out w1 hlow) 6 rfl
  have m7 : w1.cell? ⟨nbc, 7, none⟩ = some (.int .u32 ((toH X.F i 0).2 : Int)) := cell_blk (HC.out w1 hlow) 7 rfl
  rw [HLT.out] at m6 m7
  simp at m6 m7
  have lnc1 : nbc < w1.heap.size := lt_of_some (HC.out w1 hlow)
  have HLOW := Lib.hid hlow
  clear hlow
  go_wp2_with fail
  try rw [Exit.noGoto_ret]
  go_ret
  exact ⟨rfl, HLOW.out⟩
end
end Go.Proofs.YtelhnaphkbpakaaDoor
namespace Go.Proofs.YtelhnaphkbpakaaDoor
open Go.RowKit Go.Shelf
set_option linter.unusedVariables false
set_option maxRecDepth 100000
theorem frgLow {T : List TypeId} {Q : Nat → Prop} {w w' : World} (f : FrG T Q w w') {n : Nat} (hq : ∀ k, Q k → n ≤ k) (hn : n ≤ w.heap.size) : Below n w w' :=
  ⟨f.os, f.tape, f.output, f.size, fun k hk => by
    have e : w.heap[k]? = some w.heap[k] := Array.getElem?_eq_getElem (by omega)
    exact (f.block k _ e (.inl (fun h => by have := hq k h; omega))).trans e.symm⟩
section
variable {B : Nat} {Q : Nat → Prop} {w : World} {tb rb m ck n0 : Nat} {X : TX}
set_option maxHeartbeats 8000000 in
theorem collect_calls {k : Nat} {x : FN} (h : TreeAt B Q w tb X) (hz : NoneAt w) (hQ : ∀ k, Q k → k < w.heap.size) (hr : RT w tb rb m #[⟨.agg #[.int .u32 (x.sl : Int), .int .u32 (x.gn : Int)], .int .i64 1, n0⟩] ck) (hn0 : n0 < ck)
    (hx : X.F[k]? = some x) (hl : x.live = true) (hu : x.up = none) (hpd : preD X.F k = [k]) {nb : Nat} {N : Nd} (hm : X.M[k]? = some (nb, N)) (hN : N.Bd 1099511627776) (hN2 : N.slot = 0 ∧ N.gen = 0)
    {L : List (Nat × Nat)} {i : Nat} {y : FN} (hi : X.F[i]? = some y) (hil : y.live = true) (hiu : y.up = none) (hid : y.down = []) (hne : hEq (y.sl : Int) (y.gn : Int) (x.sl : Int) (x.gn : Int) = false) (hL : liveL X.T = L) (hf : flN (x.sl, x.gn) L = [(y.sl, y.gn)]) (hLn : L.length ≤ 1000) :
    Calls Tryd.prog 64 #[.pointer (some ⟨rb, 0, none⟩)] w fun e w' => e = .returned (.int .i64 1) ∧ (∃ Q' fv, TreeAt B Q' w' tb ⟨Kill X.F i, X.M, (X.T.drop none y.sl y.gn).1, X.ab, X.hv, fv⟩) ∧ ∀ n, n ≤ w.heap.size → (∀ k, Q k → n ≤ k) → Below n w w' := by
  have HDD : Hid (Calls Tryd.prog 63 #[.pointer (some ⟨rb, 0, none⟩)] w fun e w' => ∃ g, e = .returned (.slice (some ⟨g, 0, none⟩) 1 1) ∧ Below w.heap.size w w' ∧ w'.cell? ⟨g, 0, none⟩ = some (.int .u32 (y.sl : Int)) ∧ w'.cell? ⟨g, 1, none⟩ = some (.int .u32 (y.gn : Int))) := Lib.hid (dead_calls h hz hr hn0 hx hl hu hpd hm hN hN2 hL hf hLn)
  have HUN : Hid (∀ W, Below w.heap.size w W → Calls Tryd.prog 73 #[.pointer (some ⟨tb, 0, none⟩), .agg #[.int .u32 (y.sl : Int), .int .u32 (y.gn : Int)]] W fun e w' => e = .returned (.int .i64 73) ∧ Below W.heap.size W w') := Lib.hid (fun W b => unlink_root (h.below b) hi hil hiu)
  have HDR : Hid (∀ W, Below w.heap.size w W → Calls Tryd.prog 74 #[.pointer (some ⟨tb, 0, none⟩), .agg #[.int .u32 (y.sl : Int), .int .u32 (y.gn : Int)]] W fun e w' => e = .returned (.int .i64 0) ∧ (∃ Q' fv, TreeAt B Q' w' tb ⟨Kill X.F i, X.M, (X.T.drop none y.sl y.gn).1, X.ab, X.hv, fv⟩) ∧ FrG [145, 150, 29, 112, 31] Q W w') := Lib.hid (fun W b => (drop_ok (h.below b) hi hil hiu hid).mono (by
    rintro e w' ⟨fv, rfl, h1, h2⟩
    exact ⟨rfl, ⟨_, fv, h1⟩, h2⟩))
  have HR := Lib.hid (And.intro hr (And.intro hQ hne))
  clear h hz hQ hr hn0 hx hl hu hpd hm hN hN2 hi hil hiu hid hne hL hf hLn
  generalize y.sl = s at *
  generalize y.gn = gn at *
  go_enter Tryd.func64, Tryd.ntmps64
  go_wp2_with (go_at_call 63; refine HDD.out.mono ?_; rintro e w1 ⟨g, rfl, b1, c0, c1⟩; have H1 := Lib.hid (And.intro b1 (And.intro c0 c1)); clear b1)
  have lg := block_lt_of_cell c0
  refine wp_loop_rounds 2 ?_
  rw [rounds_succ]
  go_upto_region 5 with fail
  obtain ⟨V, hV⟩ : ∃ V, V = w1.alloc (.cells #[.int .u32 (s : Int), .int .u32 (gn : Int)] 31) := ⟨_, rfl⟩
  have HV : Hid (Below w1.heap.size w1 V ∧ V.heap[w1.heap.size]? = some (.cells #[.int .u32 (s : Int), .int .u32 (gn : Int)] 31 (0, 0))) := Lib.hid (by rw [hV]; exact ⟨(Below.refl _ w1).alloc (Nat.le_refl _) _, Go.heap_alloc_new w1 _⟩)
  have HLO : Hid (∀ W, Below w1.heap.size w1 W → Below w.heap.size w W) := Lib.hid (fun W b => H1.out.1.trans (b.mono H1.out.1.size))
  rw [← hV]
  clear hV c0 c1 lg
  have HS : Hid (∀ W, Below V.heap.size V W → (W.cell? ⟨rb, 0, none⟩ = some (.pointer (some ⟨tb, 0, none⟩)) ∧ W.cell? ⟨w1.heap.size, 0, none⟩ = some (.int .u32 (s : Int)) ∧ W.cell? ⟨w1.heap.size, 1, none⟩ = some (.int .u32 (gn : Int))) ∧ Below w.heap.size w W) := Lib.hid (fun W b => by
    have bl := HLO.out W (HV.out.1.trans (b.mono HV.out.1.size))
    have hh := (b.block _ (lt_of_some HV.out.2)).trans HV.out.2
    exact ⟨⟨cell_blk (HR.out.1.below bl).blk 0 rfl, cell_blk hh 0 rfl, cell_blk hh 1 rfl⟩, bl⟩)
  have HD0 : Hid (Below V.heap.size V V.drew) := Lib.hid (Below.refl _ V).drew
  go_region_held3 (fun W => W.cell? ⟨rb, 0, none⟩ = some (.pointer (some ⟨tb, 0, none⟩)) ∧ W.cell? ⟨w1.heap.size, 0, none⟩ = some (.int .u32 (s : Int)) ∧ W.cell? ⟨w1.heap.size, 1, none⟩ = some (.int .u32 (gn : Int))) (first | exact (HS.out _ HD0.out).1 | exact (HS.out _ HB1.out).1) ((go_at_call 73; refine (HUN.out _ (HS.out _ HD0.out).2).mono ?_; rintro e w2 ⟨rfl, b2⟩; have HB1 := Lib.hid (HD0.out.trans (b2.mono HD0.out.size)); clear b2))
  have HW : Hid (Below w.heap.size w w2 ∧ w2.cell? ⟨g, 0, none⟩ = some (.int .u32 (s : Int)) ∧ w2.cell? ⟨g, 1, none⟩ = some (.int .u32 (gn : Int))) := Lib.hid (by
    have b := HV.out.1.trans (HB1.out.mono HV.out.1.size)
    exact ⟨HLO.out _ b, (b.cell (p := ⟨g, 0, none⟩) (cell_lt H1.out.2.1)).trans H1.out.2.1, (b.cell (p := ⟨g, 1, none⟩) (cell_lt H1.out.2.2)).trans H1.out.2.2⟩)
  have c0 := HW.out.2.1
  have c1 := HW.out.2.2
  have lg := block_lt_of_cell c0
  clear HS HD0 HV HB1
  go_wp2_with fail
  rw [rounds_succ]
  go_wp2_with fail
  refine wp_loop_rounds 2 ?_
  rw [rounds_succ]
  go_upto_region 10 with fail
  obtain ⟨V, hV⟩ : ∃ V, V = w2.alloc (.cells #[.int .u32 (s : Int), .int .u32 (gn : Int)] 31) := ⟨_, rfl⟩
  have HV : Hid (Below w.heap.size w V ∧ V.heap[w2.heap.size]? = some (.cells #[.int .u32 (s : Int), .int .u32 (gn : Int)] 31 (0, 0))) := Lib.hid (by rw [hV]; exact ⟨HW.out.1.alloc HW.out.1.size _, Go.heap_alloc_new w2 _⟩)
  rw [← hV]
  have hge := HW.out.1.size
  clear hV c0 c1 lg
  have HS : Hid (∀ W, Below V.heap.size V W → (W.cell? ⟨rb, 0, none⟩ = some (.pointer (some ⟨tb, 0, none⟩)) ∧ W.cell? ⟨w2.heap.size, 0, none⟩ = some (.int .u32 (s : Int)) ∧ W.cell? ⟨w2.heap.size, 1, none⟩ = some (.int .u32 (gn : Int))) ∧ Below w.heap.size w W) := Lib.hid (fun W b => by
    have bl := HV.out.1.trans (b.mono HV.out.1.size)
    have hh := (b.block _ (lt_of_some HV.out.2)).trans HV.out.2
    exact ⟨⟨cell_blk (HR.out.1.below bl).blk 0 rfl, cell_blk hh 0 rfl, cell_blk hh 1 rfl⟩, bl⟩)
  have HD0 : Hid (Below V.heap.size V V.drew) := Lib.hid (Below.refl _ V).drew
  have HFI : Hid (∀ W, FrG [145, 150, 29, 112, 31] Q V.drew W → W.heap[rb]? = some (.cells #[.pointer (some ⟨tb, 0, none⟩), .map (some m)] 105 (0, 0)) ∧ W.heap[w2.heap.size]? = some (.cells #[.int .u32 (s : Int), .int .u32 (gn : Int)] 31 (0, 0)) ∧ W.heap[m]? = some (.map #[⟨.agg #[.int .u32 (x.sl : Int), .int .u32 (x.gn : Int)], .int .i64 1, n0⟩] ck)) := Lib.hid (fun W f => by
    have hb := HR.out.1.below HV.out.1
    exact ⟨f.blk (w := V.drew) hb.blk (by decide), f.blkQ (w := V.drew) HV.out.2 (fun hq => by have := HR.out.2.1 _ hq; omega), f.block (w := V.drew) _ _ hb.map (.inr (fun e he => by cases he))⟩)
  go_region_held3 (fun W => W.cell? ⟨rb, 0, none⟩ = some (.pointer (some ⟨tb, 0, none⟩)) ∧ W.cell? ⟨w2.heap.size, 0, none⟩ = some (.int .u32 (s : Int)) ∧ W.cell? ⟨w2.heap.size, 1, none⟩ = some (.int .u32 (gn : Int))) (first | exact (HS.out _ HD0.out).1 | exact HS3.out) ((go_at_call 74; refine (HDR.out _ (HS.out _ HD0.out).2).mono ?_; rintro e w3 ⟨rfl, ht3, hf3⟩; have H3 := Lib.hid (And.intro ht3 (HFI.out _ hf3)); have HL3 := Lib.hid hf3; have HS3 : Hid (w3.cell? ⟨rb, 0, none⟩ = some (.pointer (some ⟨tb, 0, none⟩)) ∧ w3.cell? ⟨w2.heap.size, 0, none⟩ = some (.int .u32 (s : Int)) ∧ w3.cell? ⟨w2.heap.size, 1, none⟩ = some (.int .u32 (gn : Int))) := Lib.hid ⟨cell_blk H3.out.2.1 0 rfl, cell_blk H3.out.2.2.1 0 rfl, cell_blk H3.out.2.2.1 1 rfl⟩; clear ht3 hf3))
  have hdel := delete_other (w := w3.drew) (t := 103) H3.out.2.2.2 Tryd.underlying103 HR.out.2.2 103
  rw [putObj_same (w := w3.drew) H3.out.2.2.2] at hdel
  have HS4 : Hid (w3.drew.cell? ⟨rb, 1, none⟩ = some (.map (some m)) ∧ w3.drew.cell? ⟨w2.heap.size, 0, none⟩ = some (.int .u32 (s : Int)) ∧ w3.drew.cell? ⟨w2.heap.size, 1, none⟩ = some (.int .u32 (gn : Int))) := Lib.hid ⟨cell_blk (w := w3) H3.out.2.1 1 rfl, cell_blk (w := w3) H3.out.2.2.1 0 rfl, cell_blk (w := w3) H3.out.2.2.1 1 rfl⟩
  have hdel2 := delete_other (w := w3.drew) (t := 103) H3.out.2.2.2 Tryd.underlying103 HR.out.2.2 0
  rw [putObj_same (w := w3.drew) H3.out.2.2.2] at hdel2
  go_wp2_with fail
  go_region_held3 (fun W => W.cell? ⟨rb, 1, none⟩ = some (.map (some m)) ∧ W.cell? ⟨w2.heap.size, 0, none⟩ = some (.int .u32 (s : Int)) ∧ W.cell? ⟨w2.heap.size, 1, none⟩ = some (.int .u32 (gn : Int))) (exact HS4.out) (fail)
  go_wp2_with fail
  rw [rounds_succ]
  go_wp2_with fail
  go_ret
  obtain ⟨Q', fv, ht⟩ := H3.out.1
  refine ⟨rfl, ⟨Q', fv, ht.below (Below.refl _ w3).drew⟩, fun n hn hq => ?_⟩
  have hvs := HV.out.1.size
  exact ((HV.out.1.mono hn).drew.trans (frgLow HL3.out hq (by show n ≤ V.heap.size; omega))).drew
end
end Go.Proofs.YtelhnaphkbpakaaDoor
namespace Go.Proofs.YtelhnaphkbpakaaDoor
open Go.RowKit
set_option linter.unusedVariables false
set_option maxRecDepth 100000
def N3 : Nd := ⟨3, ByteArray.empty, none, 0, [], none, 0, [], 0, 0⟩
theorem n3_in (w : World) : NdIn w N3 := ⟨Sl16.nil w none, ⟨fun j u hu => by simp [cellsA, N3] at hu, by show (0 : Nat) ≤ _; omega, (fun x hx => (by cases hx)), (fun x hx => (by cases hx))⟩, by show (0 : Nat) ≤ _; omega, by show (0 : Nat) ≤ 0 ∧ (0 : Nat) ≤ _ ∧ (0 : Nat) ≤ 0 ∧ (0 : Nat) ≤ _; omega⟩
theorem n3_bd : N3.Bd 1099511627776 := ⟨Nat.zero_le _, Nat.zero_le _, fun x hx => by cases hx⟩
theorem n3_ck : checkD N3.kind N3.name N3.data.length (N3.L.map LA.name) = 0 := by kernel_rfl
theorem sameBd {M N : Nd} (h : M.Same N) {b : Nat} (hb : N.Bd b) : M.Bd b :=
  ⟨by rw [h.data]; exact hb.data, by rw [h.len]; exact hb.attrs, fun x hx => by
    have hm : attrOf x ∈ N.L.map attrOf := by rw [← h.attrs]; exact List.mem_map_of_mem hx
    obtain ⟨y, hy, e⟩ := List.mem_map.1 hm
    have : x.val = y.val := (congrArg Prod.snd e).symm
    rw [this]
    exact hb.val y hy⟩
section
variable {B : Nat} {Q : Nat → Prop} {w : World} {tb : Nat} {X : TX}
theorem make3 (h : TreeAt B Q w tb X) (hroom : X.T.free ≠ [] ∨ X.T.all.length < X.T.S) (hbig : X.F.length < 1099511627776) :
    Calls Tryd.prog 37 #[.pointer (some ⟨tb, 0, none⟩), .agg #[.int .i64 3, .string ByteArray.empty, .slice none 0 0, .slice none 0 0, .int .u32 0, .int .u32 0]] w fun e w' => ∃ (s g nb : Nat) (P : Nd) (hv fv : Value), e = .returned (.tuple #[.agg #[.int .u32 (s : Int), .int .u32 (g : Int)], .int .i64 0]) ∧ (P.Bd 1099511627776 ∧ P.slot = 0 ∧ P.gen = 0) ∧ (X.T.alloc (some ⟨nb, 0, none⟩)).2 = (s, g, 0) ∧
      TreeAt B (fun k => Q k ∨ w.heap.size ≤ k ∧ k < w'.heap.size) w' tb ⟨Made X.F s g, X.M ++ [(nb, P)], (X.T.alloc (some ⟨nb, 0, none⟩)).1, X.ab, hv, fv⟩ ∧ FrG [145, 150, 29, 112, 31] Q w w' :=
  (make_calls h N3 (n3_in w) n3_bd n3_ck hroom hbig).mono (by
    rintro e w' ⟨s, g, nb, P, hv, fv, rfl, hs, ha, ht, hf⟩
    exact ⟨s, g, nb, P, hv, fv, rfl, ⟨sameBd hs n3_bd, hs.slot, hs.gen⟩, ha, ht, hf⟩)
theorem noneFrg {T : List TypeId} {w' : World} (f : FrG T Q w w') (h : NoneAt w) (hq : ¬ Q 0) : NoneAt w' := by
  obtain ⟨o, ho, _⟩ := cells_of_cell h.a
  have e : w'.heap[0]? = w.heap[0]? := (f.block 0 o ho (.inl hq)).trans ho.symm
  exact ⟨(World.cell?_of_block (a := ⟨0, 0, none⟩) e).trans h.a, (World.cell?_of_block (a := ⟨0, 1, none⟩) e).trans h.b⟩
end
theorem two_all (n1 n2 : Nat) : ∃ T : TA (Option Addr), ((TA.new 9 9 : TA (Option Addr)).alloc (some ⟨n1, 0, none⟩)).2 = (1, 1, 0) ∧ (((TA.new 9 9 : TA (Option Addr)).alloc (some ⟨n1, 0, none⟩)).1.alloc (some ⟨n2, 0, none⟩)).2 = (2, 1, 0) ∧ (((TA.new 9 9 : TA (Option Addr)).alloc (some ⟨n1, 0, none⟩)).1.alloc (some ⟨n2, 0, none⟩)).1 = T ∧ liveL T = [(1, 1), (2, 1)] ∧ (T.drop none 2 1).1.count = 1 := ⟨_, rfl, rfl, rfl, rfl, rfl⟩
theorem two_room (n1 : Nat) : ((TA.new 9 9 : TA (Option Addr)).alloc (some ⟨n1, 0, none⟩)).1.all.length < ((TA.new 9 9 : TA (Option Addr)).alloc (some ⟨n1, 0, none⟩)).1.S := by show 1 < 9; omega
theorem lone_pre {F : For} (ok : FOk F) {k : Nat} {x : FN} (hx : F[k]? = some x) (hd : x.down = []) : preD F k = [k] := by
  have hk := (List.getElem?_eq_some_iff.1 hx).1
  rw [preD_eq ok hk]
  have : dnOf F (some k) = [] := by unfold dnOf; simp [hx, hd]
  rw [this]; rfl
end Go.Proofs.YtelhnaphkbpakaaDoor
