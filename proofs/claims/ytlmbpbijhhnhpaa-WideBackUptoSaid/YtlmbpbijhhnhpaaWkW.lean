/- WideBack walked. -/
import Derived.Test.YtlmbpbijhhnhpaaWd18
import Derived.Test.YtlmbpbijhhnhpaaWj5
import Derived.Test.YtlmbpbijhhnhpaaWk6
import Derived.Test.YtlmbpbijhhnhpaaWtW
import Derived.Deep.DeepCutAuto
import Derived.Sort.CutIn
import Derived.Test.YtlmbpbijhhnhpaaAp4
import Derived.Test.YtlmbpbijhhnhpaaAp5
import Derived.Deep.CutBlock
namespace Go.Proofs.Ytlmbpbijhhnhpaa
open Go.RowKit Go.Shelf Go.Lib
attribute [local go_sem] Oper.semAt_some
set_option linter.unusedVariables false
set_option maxRecDepth 100000

/-- What holds between the rounds of the loop over the bad pieces. -/
structure BkI (B bw : Nat) (w0 : World) (s : ByteArray) (q : Nat × List Nat) (W : World) : Prop where
  box : BoxRow 100 5 bw bw (encB q.2) w0 W
  str : W.heap[B]? = some (.cells #[.string s] 9 (0, 0))
  res : W.heap[B + 1]? = some (.cells #[.bool false] 4 (0, 0))
  from_ : W.heap[bw + 1]? = some (.cells #[.int .i64 (q.1 : Int)] 3 (0, 0))
  ok : StOk s q
theorem bkI_own {β : Type} (B bw : Nat) (w0 : World) (s : ByteArray) (f : β → Nat × List Nat) (D : Nat) (hD : bw ≤ D) : OwnFrom D (fun x W => BkI B bw w0 s (f x) W) := fun x X Y row hs hg hr =>
  ⟨hs.box.grow hg (fun r e => ⟨Nat.le_trans hD (hr r e).1, (hr r e).2⟩), blkGrow hs.str hg (fun r e => (hr r e).2), blkGrow hs.res hg (fun r e => (hr r e).2), blkGrow hs.from_ hg (fun r e => (hr r e).2), hs.ok⟩

theorem lone_lt (us : List Nat) : ∀ p ∈ loneL (uns us), p < us.length := by
  intro p hp
  obtain ⟨x, hx, rfl⟩ := List.mem_map.1 hp
  obtain ⟨q, hq, rfl⟩ := unsFrom_mem us 0 x (List.mem_filter.1 hx).1
  have : (unAt us q).p = q := by unfold unAt; split <;> rfl
  omega
theorem setAll_step (us L : List Nat) (i p : Nat) (h : L[i]? = some p) : setAll us (L.take (i + 1)) = (setAll us (L.take i)).set p 65533 := by
  rw [List.take_add_one, h]
  simp [setAll]

set_option maxHeartbeats 8000000 in
theorem back_in (w : World) (s : ByteArray) (hs : s.size ≤ 1048576) {a : Option Addr} {us : List Nat} (ca : Nat) (hA : Sl16 w a us) (hu : us.length ≤ 1048576) :
    CallsIn Fence.wide 9 Try.prog 10 #[.string s, .slice a us.length ca] w fun e w' => e = .returned (.bool true) ∧ Below w.heap.size w w' := by
  have HA := Lib.hid hA
  obtain ⟨n, hn⟩ : ∃ n, n = us.length := ⟨_, rfl⟩
  rw [← hn] at hu ⊢
  have HN := Lib.hid hn
  have hS := fun w => from_calls s (by omega) w
  have hback : textU (uns (fromPc (pcs s))) = textU (uns (fromPc (pcs s))) := rfl
  have lS : (fromPc (pcs s)).length ≤ 2097152 := by have h1 := fromPc_len (pcs s); have h2 := pcs_len s; omega
  obtain ⟨U, hU⟩ : ∃ U, U = fromPc (pcs s) := ⟨_, rfl⟩
  rw [← hU] at hS lS
  have HU := Lib.hid hU
  obtain ⟨x, hx⟩ : ∃ x, x = U.length := ⟨_, rfl⟩
  rw [← hx] at hS lS
  have HX := Lib.hid hx
  have HS := Lib.hid hS
  clear hA hn hS hback hU hx
  obtain ⟨i5, hi5, hb1, hb2, hb3⟩ := info_parts info5
  obtain ⟨i79, hi79, ha1, ha2, ha3⟩ := info_parts info79
  refine callsIn_of_wp_marks Try.func10 rfl trivial ?_ rfl
  simp only [Try.ntmps10, List.size_toArray, List.length_cons, List.length_nil, Nat.reduceAdd, Nat.reduceSub, Array.replicate_succ, Array.replicate_zero, List.push_toArray, List.append_toArray, List.nil_append, List.cons_append]
  gi_wp2_with fail
  refine ⟨trivial, ?_⟩
  refine (callsIn_wide.2 (alive_true _)).mono ?_
  rintro e w1 ⟨rfl, b1⟩
  have hB : Below w.heap.size w ((w.alloc (.cells #[.string s] 9)).alloc (.cells #[.bool false] 4)) := ((Below.refl _ w).alloc (Nat.le_refl _) _).alloc (by simp) _
  have hs1 : w.heap.size + 1 + 1 ≤ w1.heap.size := by have := b1.size; simp at this; omega
  have B1 := Lib.hid (hB.trans (b1.mono (by simp; omega)))
  have X0 := Lib.hid ((b1.block w.heap.size (by simp; omega)).trans (alloc_blk (Go.heap_alloc_new w (.cells #[.string s] 9)) (.cells #[.bool false] 4)))
  have X1 : Hid (w1.heap[w.heap.size + 1]? = some (.cells #[.bool false] 4 (0, 0))) := Lib.hid ((b1.block (w.heap.size + 1) (by simp)).trans (by have := Go.heap_alloc_new (w.alloc (.cells #[.string s] 9)) (.cells #[.bool false] 4); rwa [World.size_alloc] at this))
  have c0 := cell_blk X0.out 0 rfl
  simp at c0
  clear hB b1
  gi_wp2_with fail
  refine ⟨trivial, ?_⟩
  refine (callsIn_wide.2 (HS.out _)).mono ?_
  rintro e w2 ⟨a2, rfl, hc2, b2⟩
  have hs2 : w1.heap.size ≤ w2.heap.size := b2.size
  have B2 := Lib.hid (B1.out.trans (b2.mono (by omega)))
  have Y0 := Lib.hid ((b2.block _ (lt_of_some X0.out)).trans X0.out)
  have Y1 := Lib.hid ((b2.block _ (lt_of_some X1.out)).trans X1.out)
  have HC2 := Lib.hid hc2.sl
  clear b2 hc2 X0 X1 B1 c0
  gi_wp2_with fail
  refine ⟨trivial, ?_⟩
  rw [HX.out]
  refine (callsIn_wide.2 (text_calls w2 _ HC2.out (by rw [← HX.out]; omega))).mono ?_
  rw [← HX.out]
  rintro e wq ⟨rfl, b3⟩
  have hs3 : w2.heap.size ≤ wq.heap.size := b3.size
  have B3 := Lib.hid (B2.out.trans (b3.mono (by omega)))
  have X0 := Lib.hid ((b3.block _ (lt_of_some Y0.out)).trans Y0.out)
  have X1 := Lib.hid ((b3.block _ (lt_of_some Y1.out)).trans Y1.out)
  have HC3 := Lib.hid (HC2.out.below b3)
  have c0 := cell_blk X0.out 0 rfl
  simp at c0
  have l0 : w.heap.size < wq.heap.size := by omega
  have l1 : w.heap.size < wq.heap.size + 1 := by omega
  clear b3 HC2 Y0 Y1 B2
  gi_wp2_with fail
  refine ⟨trivial, ?_⟩
  refine (callsIn_wide.2 (bad_calls s _)).mono ?_
  rintro e w4 ⟨rfl, rfl⟩
  obtain ⟨bw, hbw⟩ : ∃ bw, bw = wq.heap.size := ⟨_, rfl⟩
  obtain ⟨P, hP⟩ : ∃ P, P = ((wq.alloc (.cells #[.slice none 0 0] 100)).alloc (.cells #[.int .i64 0] 3)).alloc (.cells #[.string s] 9) := ⟨_, rfl⟩
  have hPb : Below bw wq P := by rw [hP, hbw]; exact (((Below.refl _ wq).alloc (Nat.le_refl _) _).alloc (by rw [World.size_alloc]; omega) _).alloc (by rw [World.size_alloc, World.size_alloc]; omega) _
  have hPs : P.heap.size = bw + 3 := by rw [hP, hbw]; simp
  have FP : Hid (BkI w.heap.size bw wq s (stL s []) P ∧ P.heap[bw + 1 + 1]? = some (.cells #[.string s] 9 (0, 0)) ∧ w.heap.size + 2 ≤ bw ∧ P.heap.size = bw + 3 ∧ Below wq.heap.size wq P) := Lib.hid (by
    refine ⟨⟨⟨⟨none, 0, ?_, World.ownsRow_nil _ _ _ _⟩, hPb, by omega, by omega⟩, ?_, ?_, ?_, StOk.zero s⟩, ?_, by omega, hPs, ?_⟩
    · rw [hP, hbw]; exact alloc_blk (alloc_blk (Go.heap_alloc_new wq _) _) _
    · rw [hP]; exact alloc_blk (alloc_blk (alloc_blk X0.out _) _) _
    · rw [hP]; exact alloc_blk (alloc_blk (alloc_blk X1.out _) _) _
    · rw [hP, hbw]; have := Go.heap_alloc_new (wq.alloc (.cells #[.slice none 0 0] 100)) (.cells #[.int .i64 0] 3); rw [World.size_alloc] at this; exact alloc_blk this _
    · rw [hP, hbw]; have := Go.heap_alloc_new ((wq.alloc (.cells #[.slice none 0 0] 100)).alloc (.cells #[.int .i64 0] 3)) (.cells #[.string s] 9); simpa using this
    · rw [← hbw]; exact hPb)
  simp only [World.size_alloc, ← hbw, ← hP]
  have HBW := Lib.hid hbw
  clear hP hbw hPb hPs X0 X1 c0 l0 l1 hs1 hs2 hs3
  gi_wp2_with fail
  -- LOOP1
  have hst := bad_stops 8 (bw + 1 + 1) s (by omega) (w0 := wq) P FP.out.2.1
  rw [← HBW.out] at hst
  refine wpIn_rangeFunc_ownF rfl (by decide) (gf := 76) (lb := #[.pointer (some ⟨bw + 1 + 1, 0, none⟩)]) rfl trivial (enters_of Try.func76 (by kernel_rfl) rfl)
    hst (fun h k => h.trans k) (kpY_b (by have := HBW.out; have := FP.out.2.2.1; have := FP.out.2.2.2.1; omega)) (Below.refl _ _) (fun _ => rfl)
    (fun pre W => BkI w.heap.size bw wq s (stL s pre) W) (fun c pre _ => c = .ret ∧ ¬ pre <+: badL (pcs s)) (bkI_own _ _ _ _ _ _ (by have := FP.out.2.2.1; have := FP.out.2.2.2.1; omega)) (fun _ _ _ _ _ hs _ _ => hs) FP.out.1
    (fun y => { tmps := #[.string s, .slice a n ca, .pointer (some ⟨w.heap.size, 0, none⟩), undef, .pointer (some ⟨w.heap.size + 1, 0, none⟩), .bool true, .slice a2 x x, .string (strB (textU (uns U))), .pointer (some ⟨bw, 0, none⟩), .pointer (some ⟨bw + 1, 0, none⟩), .int .i64 (y.p : Int), .int .i64 (y.n : Int), undef, undef, undef, undef, undef, undef, .bool true, .bool true, .bool false, .string s, .slice a2 x x, .slice a2 x x, .string (strB (textU (uns U))), .string s, .func (.func 76) #[] #[.pointer (some ⟨bw + 1 + 1, 0, none⟩)], .int .i64 (y.p : Int), .int .i64 (y.n : Int), undef, undef, undef, undef, undef, undef, undef, undef, undef, undef, undef, undef, undef, undef, undef, undef, undef, undef, undef, undef, undef, undef, undef, undef, undef, undef, undef, undef, undef, undef, undef, undef, undef, undef, undef, undef, undef, undef, undef, undef, undef, undef, undef, undef, undef, undef, undef, undef, undef, undef, undef, undef, undef, undef, undef, undef, undef, undef, undef, undef, undef, undef, undef, undef, undef, undef, undef, undef, undef, undef, undef, undef, undef, undef, undef, undef, undef, undef, undef, undef, undef, undef, undef, undef, undef, undef, undef, undef, undef], defers := [] }) ?assign ?body ?done ?stop
  case assign =>
    intro l y W K hK
    simp only [encBd]
    gi_wp2
    exact hK
  case body =>
    rintro l pre y W hI hlt
    have hq := hI.ok
    have lW := lt_of_some hI.from_
    have hbw := FP.out.2.2.1
    have l1 : w.heap.size < W.heap.size := by omega
    have l2 : w.heap.size + 1 < W.heap.size := by omega
    have l3 : bw < W.heap.size := by omega
    have c0 := cell_blk hI.str 0 rfl
    have c1 := cell_blk hI.res 0 rfl
    have f1 := free_blk hI.res 0
    have c2 := cell_blk hI.from_ 0 rfl
    simp at c0 c1 c2
    have HI := Lib.hid hI
    have hfit := fits_bad s pre y
    obtain ⟨from', hfr⟩ : ∃ from', from' = (stL s pre).1 := ⟨_, rfl⟩
    have hfm := HI.out.from_
    rw [← hfr] at hfit c2 hfm
    have HFM := Lib.hid hfm
    clear hfm
    have hfl : from' ≤ 1048576 := by have := hq.le; omega
    have HFR := Lib.hid hfr
    have HFIT := Lib.hid hfit
    clear hI hfr hfit hq
    by_cases hx : Fits s from' y
    · obtain ⟨h1, h2, h3, h4⟩ := hx
      have p1 : ¬ (y.p : Int) < (from' : Int) := by omega
      have p2 : ¬ (y.n : Int) < 1 := by omega
      have p3 : ¬ (3 : Int) < (y.n : Int) := by omega
      have p4 : ¬ (s.size : Int) - (y.n : Int) < (y.p : Int) := by omega
      have q1 : IntKind.i64.wrap ((s.size : Int) - (y.n : Int)) = (s.size : Int) - (y.n : Int) := IntWalk.i64_in _ (by omega)
      have q2 : IntKind.i64.wrap ((y.p : Int) + (y.n : Int)) = (y.p : Int) + (y.n : Int) := IntWalk.i64_in _ (by omega)
      have p5 : (from' : Int) ≤ (y.p : Int) := by omega
      have p6 : (y.p : Int) ≤ (s.size : Int) := by omega
      have hyp : y.p ≤ s.size := by omega
      obtain ⟨ba, bc, hbx, hrow⟩ := HI.out.box.row
      have cb := cell_blk hbx 0 rfl
      have fb := free_blk hbx 0
      obtain ⟨nn, hnn⟩ : ∃ nn, nn = (encB (stL s pre).2).length := ⟨_, rfl⟩
      rw [← hnn] at hbx hrow cb
      simp at cb
      have hnl : nn ≤ 4194304 := by rw [hnn, encB_len]; have := HI.out.ok.len; have := HI.out.ok.le; omega
      have HR := Lib.hid (And.intro hbx (And.intro hrow hnn))
      clear hbx hrow hnn
      gi_upto_region 13 with (fail)
      gi_cut [] from 29 (fun wc => BoxRow 100 5 bw bw (encB ((stL s pre).2 ++ bytesOf s from' y.p)) wq wc ∧ KeepsOthers W wc ∧ KpY 146 bw W wc ∧ wc.heap[w.heap.size]? = some (.cells #[.string s] 9 (0, 0)) ∧ wc.heap[w.heap.size + 1]? = some (.cells #[.bool false] 4 (0, 0)) ∧ wc.heap[bw + 1]? = some (.cells #[.int .i64 (from' : Int)] 3 (0, 0)))
      case first =>
        refine wpIn_region_any (by kernel_rfl) ?_
        change wpAnyIn _ _ _ _ _ _ _ _ _ (World.drew _)
        refine wpAnyIn_all (rs := [0, 1, 2, 3]) (by kernel_rfl) (by simp) (fun i hi => ?_)
        have hi' : i = 0 ∨ i = 1 ∨ i = 2 ∨ i = 3 := by simpa using hi
        clear hi
        rcases hi' with rfl | rfl | rfl | rfl
        · refine wpOpIn_step rfl (fun K hK => ?_)
          go_simp
          refine hK _ _ ?_
          clear hK K
          refine wpAnyIn_all (rs := [1, 2, 3]) (by kernel_rfl) (by simp) (fun i hi => ?_)
          have hi' : i = 1 ∨ i = 2 ∨ i = 3 := by simpa using hi
          clear hi
          rcases hi' with rfl | rfl | rfl
          · refine wpOpIn_step rfl (fun K hK => ?_)
            go_simp
            refine hK _ _ ?_
            clear hK K
            refine wpAnyIn_all (rs := [2, 3]) (by kernel_rfl) (by simp) (fun i hi => ?_)
            have hi' : i = 2 ∨ i = 3 := by simpa using hi
            clear hi
            rcases hi' with rfl | rfl
            · refine wpOpIn_step rfl (fun K hK => ?_)
              go_simp
              refine hK _ _ ?_
              clear hK K
              refine wpAnyIn_all (rs := [3]) (by kernel_rfl) (by simp) (fun i hi => ?_)
              obtain rfl : i = 3 := by simpa using hi
              clear hi
              refine wpOpIn_step rfl (fun K hK => ?_)
              go_simp
              refine hK _ _ ?_
              clear hK K
              refine wpAnyIn_all (rs := [4]) (by kernel_rfl) (by simp) (fun i hi => ?_)
              obtain rfl : i = 4 := by simpa using hi
              clear hi
              refine wpOpIn_step rfl (fun K hK => ?_)
              go_simp
              refine hK _ _ ?_
              clear hK K
              refine wpAnyIn_all (rs := [5]) (by kernel_rfl) (by simp) (fun i hi => ?_)
              obtain rfl : i = 5 := by simpa using hi
              clear hi
              refine wpOpIn_step rfl (fun K hK => ?_)
              refine stepIn_append_string _ rfl (.tmp 48) (.tmp 52) 100 9 rfl bw 5 i5 Try.underlying100 Try.underlying9 hi5 hb1 hb2 hb3 (.slice ba nn bc) nn _ rfl HR.out.2.1.drew (s.extract from' y.p) rfl (by rw [ByteArray.size_extract]; unfold maxLen; omega) (by rw [ByteArray.size_extract]; omega) (by have := HI.out.box.le; exact this) ?_
              intro v3 w3 hown3 hgrow3
              refine hK _ _ ?_
              clear hK K
              rw [strCells_extract s from' y.p h1 hyp, ← encB_append, show (s.extract from' y.p).size = y.p - from' by rw [ByteArray.size_extract]; omega] at hown3
              obtain ⟨xa, xc, rfl⟩ := rwSlice hown3
              have f3 : FrT [5] bw W w3 := ((FrT.refl _ _ _).drew).append HR.out.2.1.drew (Nat.le_refl _) (by simp) hgrow3
              have ko3 : KeepsOthers W w3 := (KeepsOthers.drew W).trans (KeepsOthers.of_grownBy hgrow3 (fun j x hj hx => by
                rcases HR.out.2.1.drew.2 with ⟨hv, _⟩ | ⟨g', cap', cur, hv, _, hg, _⟩
                · rw [hv] at hj; cases hj
                · rw [hv] at hj; cases hj; rw [hg] at hx; cases hx; rfl))
              have hb3 := f3.blk HR.out.1 (by simp)
              have e1 := cell_blk hb3 0 rfl
              have e2 := free_blk hb3 0
              have e3 := lt_of_some hb3
              have HPUT := Lib.hid (HI.out.box.put f3 ko3 HR.out.1 rfl hown3 (by have := hown3.1; simpa using this.symm))
              clear hown3 hgrow3 hb3 f3 ko3 cb fb
              refine wpAnyIn_all (rs := [6]) (by kernel_rfl) (by simp) (fun i hi => ?_)
              obtain rfl : i = 6 := by simpa using hi
              clear hi
              refine wpOpIn_step rfl (fun K hK => ?_)
              go_simp
              refine hK _ _ ?_
              clear hK K
              refine wpAnyIn_done (by kernel_rfl) ?_ _
              gi_wp2
              gi_meet
              case rel => exact ⟨HPUT.out.1, HPUT.out.2.1, HPUT.out.2.2.1, HPUT.out.2.2.2 _ _ _ _ HI.out.str (by decide) (by omega), HPUT.out.2.2.2 _ _ _ _ HI.out.res (by decide) (by omega), HPUT.out.2.2.2 _ _ _ _ HFM.out (by decide) (by omega)⟩
            · refine wpOpIn_step rfl (fun K hK => ?_)
              go_simp
              refine hK _ _ ?_
              clear hK K
              refine wpAnyIn_all (rs := [2]) (by kernel_rfl) (by simp) (fun i hi => ?_)
              obtain rfl : i = 2 := by simpa using hi
              clear hi
              refine wpOpIn_step rfl (fun K hK => ?_)
              go_simp
              refine hK _ _ ?_
              clear hK K
              refine wpAnyIn_all (rs := [4]) (by kernel_rfl) (by simp) (fun i hi => ?_)
              obtain rfl : i = 4 := by simpa using hi
              clear hi
              refine wpOpIn_step rfl (fun K hK => ?_)
              go_simp
              refine hK _ _ ?_
              clear hK K
              refine wpAnyIn_all (rs := [5]) (by kernel_rfl) (by simp) (fun i hi => ?_)
              obtain rfl : i = 5 := by simpa using hi
              clear hi
              refine wpOpIn_step rfl (fun K hK => ?_)
              refine stepIn_append_string _ rfl (.tmp 48) (.tmp 52) 100 9 rfl bw 5 i5 Try.underlying100 Try.underlying9 hi5 hb1 hb2 hb3 (.slice ba nn bc) nn _ rfl HR.out.2.1.drew (s.extract from' y.p) rfl (by rw [ByteArray.size_extract]; unfold maxLen; omega) (by rw [ByteArray.size_extract]; omega) (by have := HI.out.box.le; exact this) ?_
              intro v3 w3 hown3 hgrow3
              refine hK _ _ ?_
              clear hK K
              rw [strCells_extract s from' y.p h1 hyp, ← encB_append, show (s.extract from' y.p).size = y.p - from' by rw [ByteArray.size_extract]; omega] at hown3
              obtain ⟨xa, xc, rfl⟩ := rwSlice hown3
              have f3 : FrT [5] bw W w3 := ((FrT.refl _ _ _).drew).append HR.out.2.1.drew (Nat.le_refl _) (by simp) hgrow3
              have ko3 : KeepsOthers W w3 := (KeepsOthers.drew W).trans (KeepsOthers.of_grownBy hgrow3 (fun j x hj hx => by
                rcases HR.out.2.1.drew.2 with ⟨hv, _⟩ | ⟨g', cap', cur, hv, _, hg, _⟩
                · rw [hv] at hj; cases hj
                · rw [hv] at hj; cases hj; rw [hg] at hx; cases hx; rfl))
              have hb3 := f3.blk HR.out.1 (by simp)
              have e1 := cell_blk hb3 0 rfl
              have e2 := free_blk hb3 0
              have e3 := lt_of_some hb3
              have HPUT := Lib.hid (HI.out.box.put f3 ko3 HR.out.1 rfl hown3 (by have := hown3.1; simpa using this.symm))
              clear hown3 hgrow3 hb3 f3 ko3 cb fb
              refine wpAnyIn_all (rs := [6]) (by kernel_rfl) (by simp) (fun i hi => ?_)
              obtain rfl : i = 6 := by simpa using hi
              clear hi
              refine wpOpIn_step rfl (fun K hK => ?_)
              go_simp
              refine hK _ _ ?_
              clear hK K
              refine wpAnyIn_done (by kernel_rfl) ?_ _
              gi_wp2
              gi_meet
              case rel => exact ⟨HPUT.out.1, HPUT.out.2.1, HPUT.out.2.2.1, HPUT.out.2.2.2 _ _ _ _ HI.out.str (by decide) (by omega), HPUT.out.2.2.2 _ _ _ _ HI.out.res (by decide) (by omega), HPUT.out.2.2.2 _ _ _ _ HFM.out (by decide) (by omega)⟩
          · refine wpOpIn_step rfl (fun K hK => ?_)
            go_simp
            refine hK _ _ ?_
            clear hK K
            refine wpAnyIn_all (rs := [1, 3]) (by kernel_rfl) (by simp) (fun i hi => ?_)
            have hi' : i = 1 ∨ i = 3 := by simpa using hi
            clear hi
            rcases hi' with rfl | rfl
            · refine wpOpIn_step rfl (fun K hK => ?_)
              go_simp
              refine hK _ _ ?_
              clear hK K
              refine wpAnyIn_all (rs := [3]) (by kernel_rfl) (by simp) (fun i hi => ?_)
              obtain rfl : i = 3 := by simpa using hi
              clear hi
              refine wpOpIn_step rfl (fun K hK => ?_)
              go_simp
              refine hK _ _ ?_
              clear hK K
              refine wpAnyIn_all (rs := [4]) (by kernel_rfl) (by simp) (fun i hi => ?_)
              obtain rfl : i = 4 := by simpa using hi
              clear hi
              refine wpOpIn_step rfl (fun K hK => ?_)
              go_simp
              refine hK _ _ ?_
              clear hK K
              refine wpAnyIn_all (rs := [5]) (by kernel_rfl) (by simp) (fun i hi => ?_)
              obtain rfl : i = 5 := by simpa using hi
              clear hi
              refine wpOpIn_step rfl (fun K hK => ?_)
              refine stepIn_append_string _ rfl (.tmp 48) (.tmp 52) 100 9 rfl bw 5 i5 Try.underlying100 Try.underlying9 hi5 hb1 hb2 hb3 (.slice ba nn bc) nn _ rfl HR.out.2.1.drew (s.extract from' y.p) rfl (by rw [ByteArray.size_extract]; unfold maxLen; omega) (by rw [ByteArray.size_extract]; omega) (by have := HI.out.box.le; exact this) ?_
              intro v3 w3 hown3 hgrow3
              refine hK _ _ ?_
              clear hK K
              rw [strCells_extract s from' y.p h1 hyp, ← encB_append, show (s.extract from' y.p).size = y.p - from' by rw [ByteArray.size_extract]; omega] at hown3
              obtain ⟨xa, xc, rfl⟩ := rwSlice hown3
              have f3 : FrT [5] bw W w3 := ((FrT.refl _ _ _).drew).append HR.out.2.1.drew (Nat.le_refl _) (by simp) hgrow3
              have ko3 : KeepsOthers W w3 := (KeepsOthers.drew W).trans (KeepsOthers.of_grownBy hgrow3 (fun j x hj hx => by
                rcases HR.out.2.1.drew.2 with ⟨hv, _⟩ | ⟨g', cap', cur, hv, _, hg, _⟩
                · rw [hv] at hj; cases hj
                · rw [hv] at hj; cases hj; rw [hg] at hx; cases hx; rfl))
              have hb3 := f3.blk HR.out.1 (by simp)
              have e1 := cell_blk hb3 0 rfl
              have e2 := free_blk hb3 0
              have e3 := lt_of_some hb3
              have HPUT := Lib.hid (HI.out.box.put f3 ko3 HR.out.1 rfl hown3 (by have := hown3.1; simpa using this.symm))
              clear hown3 hgrow3 hb3 f3 ko3 cb fb
              refine wpAnyIn_all (rs := [6]) (by kernel_rfl) (by simp) (fun i hi => ?_)
              obtain rfl : i = 6 := by simpa using hi
              clear hi
              refine wpOpIn_step rfl (fun K hK => ?_)
              go_simp
              refine hK _ _ ?_
              clear hK K
              refine wpAnyIn_done (by kernel_rfl) ?_ _
              gi_wp2
              gi_meet
              case rel => exact ⟨HPUT.out.1, HPUT.out.2.1, HPUT.out.2.2.1, HPUT.out.2.2.2 _ _ _ _ HI.out.str (by decide) (by omega), HPUT.out.2.2.2 _ _ _ _ HI.out.res (by decide) (by omega), HPUT.out.2.2.2 _ _ _ _ HFM.out (by decide) (by omega)⟩
            · refine wpOpIn_step rfl (fun K hK => ?_)
              go_simp
              refine hK _ _ ?_
              clear hK K
              refine wpAnyIn_all (rs := [1]) (by kernel_rfl) (by simp) (fun i hi => ?_)
              obtain rfl : i = 1 := by simpa using hi
              clear hi
              refine wpOpIn_step rfl (fun K hK => ?_)
              go_simp
              refine hK _ _ ?_
              clear hK K
              refine wpAnyIn_all (rs := [4]) (by kernel_rfl) (by simp) (fun i hi => ?_)
              obtain rfl : i = 4 := by simpa using hi
              clear hi
              refine wpOpIn_step rfl (fun K hK => ?_)
              go_simp
              refine hK _ _ ?_
              clear hK K
              refine wpAnyIn_all (rs := [5]) (by kernel_rfl) (by simp) (fun i hi => ?_)
              obtain rfl : i = 5 := by simpa using hi
              clear hi
              refine wpOpIn_step rfl (fun K hK => ?_)
              refine stepIn_append_string _ rfl (.tmp 48) (.tmp 52) 100 9 rfl bw 5 i5 Try.underlying100 Try.underlying9 hi5 hb1 hb2 hb3 (.slice ba nn bc) nn _ rfl HR.out.2.1.drew (s.extract from' y.p) rfl (by rw [ByteArray.size_extract]; unfold maxLen; omega) (by rw [ByteArray.size_extract]; omega) (by have := HI.out.box.le; exact this) ?_
              intro v3 w3 hown3 hgrow3
              refine hK _ _ ?_
              clear hK K
              rw [strCells_extract s from' y.p h1 hyp, ← encB_append, show (s.extract from' y.p).size = y.p - from' by rw [ByteArray.size_extract]; omega] at hown3
              obtain ⟨xa, xc, rfl⟩ := rwSlice hown3
              have f3 : FrT [5] bw W w3 := ((FrT.refl _ _ _).drew).append HR.out.2.1.drew (Nat.le_refl _) (by simp) hgrow3
              have ko3 : KeepsOthers W w3 := (KeepsOthers.drew W).trans (KeepsOthers.of_grownBy hgrow3 (fun j x hj hx => by
                rcases HR.out.2.1.drew.2 with ⟨hv, _⟩ | ⟨g', cap', cur, hv, _, hg, _⟩
                · rw [hv] at hj; cases hj
                · rw [hv] at hj; cases hj; rw [hg] at hx; cases hx; rfl))
              have hb3 := f3.blk HR.out.1 (by simp)
              have e1 := cell_blk hb3 0 rfl
              have e2 := free_blk hb3 0
              have e3 := lt_of_some hb3
              have HPUT := Lib.hid (HI.out.box.put f3 ko3 HR.out.1 rfl hown3 (by have := hown3.1; simpa using this.symm))
              clear hown3 hgrow3 hb3 f3 ko3 cb fb
              refine wpAnyIn_all (rs := [6]) (by kernel_rfl) (by simp) (fun i hi => ?_)
              obtain rfl : i = 6 := by simpa using hi
              clear hi
              refine wpOpIn_step rfl (fun K hK => ?_)
              go_simp
              refine hK _ _ ?_
              clear hK K
              refine wpAnyIn_done (by kernel_rfl) ?_ _
              gi_wp2
              gi_meet
              case rel => exact ⟨HPUT.out.1, HPUT.out.2.1, HPUT.out.2.2.1, HPUT.out.2.2.2 _ _ _ _ HI.out.str (by decide) (by omega), HPUT.out.2.2.2 _ _ _ _ HI.out.res (by decide) (by omega), HPUT.out.2.2.2 _ _ _ _ HFM.out (by decide) (by omega)⟩
          · refine wpOpIn_step rfl (fun K hK => ?_)
            go_simp
            refine hK _ _ ?_
            clear hK K
            refine wpAnyIn_all (rs := [1, 2]) (by kernel_rfl) (by simp) (fun i hi => ?_)
            have hi' : i = 1 ∨ i = 2 := by simpa using hi
            clear hi
            rcases hi' with rfl | rfl
            · refine wpOpIn_step rfl (fun K hK => ?_)
              go_simp
              refine hK _ _ ?_
              clear hK K
              refine wpAnyIn_all (rs := [2]) (by kernel_rfl) (by simp) (fun i hi => ?_)
              obtain rfl : i = 2 := by simpa using hi
              clear hi
              refine wpOpIn_step rfl (fun K hK => ?_)
              go_simp
              refine hK _ _ ?_
              clear hK K
              refine wpAnyIn_all (rs := [4]) (by kernel_rfl) (by simp) (fun i hi => ?_)
              obtain rfl : i = 4 := by simpa using hi
              clear hi
              refine wpOpIn_step rfl (fun K hK => ?_)
              go_simp
              refine hK _ _ ?_
              clear hK K
              refine wpAnyIn_all (rs := [5]) (by kernel_rfl) (by simp) (fun i hi => ?_)
              obtain rfl : i = 5 := by simpa using hi
              clear hi
              refine wpOpIn_step rfl (fun K hK => ?_)
              refine stepIn_append_string _ rfl (.tmp 48) (.tmp 52) 100 9 rfl bw 5 i5 Try.underlying100 Try.underlying9 hi5 hb1 hb2 hb3 (.slice ba nn bc) nn _ rfl HR.out.2.1.drew (s.extract from' y.p) rfl (by rw [ByteArray.size_extract]; unfold maxLen; omega) (by rw [ByteArray.size_extract]; omega) (by have := HI.out.box.le; exact this) ?_
              intro v3 w3 hown3 hgrow3
              refine hK _ _ ?_
              clear hK K
              rw [strCells_extract s from' y.p h1 hyp, ← encB_append, show (s.extract from' y.p).size = y.p - from' by rw [ByteArray.size_extract]; omega] at hown3
              obtain ⟨xa, xc, rfl⟩ := rwSlice hown3
              have f3 : FrT [5] bw W w3 := ((FrT.refl _ _ _).drew).append HR.out.2.1.drew (Nat.le_refl _) (by simp) hgrow3
              have ko3 : KeepsOthers W w3 := (KeepsOthers.drew W).trans (KeepsOthers.of_grownBy hgrow3 (fun j x hj hx => by
                rcases HR.out.2.1.drew.2 with ⟨hv, _⟩ | ⟨g', cap', cur, hv, _, hg, _⟩
                · rw [hv] at hj; cases hj
                · rw [hv] at hj; cases hj; rw [hg] at hx; cases hx; rfl))
              have hb3 := f3.blk HR.out.1 (by simp)
              have e1 := cell_blk hb3 0 rfl
              have e2 := free_blk hb3 0
              have e3 := lt_of_some hb3
              have HPUT := Lib.hid (HI.out.box.put f3 ko3 HR.out.1 rfl hown3 (by have := hown3.1; simpa using this.symm))
              clear hown3 hgrow3 hb3 f3 ko3 cb fb
              refine wpAnyIn_all (rs := [6]) (by kernel_rfl) (by simp) (fun i hi => ?_)
              obtain rfl : i = 6 := by simpa using hi
              clear hi
              refine wpOpIn_step rfl (fun K hK => ?_)
              go_simp
              refine hK _ _ ?_
              clear hK K
              refine wpAnyIn_done (by kernel_rfl) ?_ _
              gi_wp2
              gi_meet
              case rel => exact ⟨HPUT.out.1, HPUT.out.2.1, HPUT.out.2.2.1, HPUT.out.2.2.2 _ _ _ _ HI.out.str (by decide) (by omega), HPUT.out.2.2.2 _ _ _ _ HI.out.res (by decide) (by omega), HPUT.out.2.2.2 _ _ _ _ HFM.out (by decide) (by omega)⟩
            · refine wpOpIn_step rfl (fun K hK => ?_)
              go_simp
              refine hK _ _ ?_
              clear hK K
              refine wpAnyIn_all (rs := [1]) (by kernel_rfl) (by simp) (fun i hi => ?_)
              obtain rfl : i = 1 := by simpa using hi
              clear hi
              refine wpOpIn_step rfl (fun K hK => ?_)
              go_simp
              refine hK _ _ ?_
              clear hK K
              refine wpAnyIn_all (rs := [4]) (by kernel_rfl) (by simp) (fun i hi => ?_)
              obtain rfl : i = 4 := by simpa using hi
              clear hi
              refine wpOpIn_step rfl (fun K hK => ?_)
              go_simp
              refine hK _ _ ?_
              clear hK K
              refine wpAnyIn_all (rs := [5]) (by kernel_rfl) (by simp) (fun i hi => ?_)
              obtain rfl : i = 5 := by simpa using hi
              clear hi
              refine wpOpIn_step rfl (fun K hK => ?_)
              refine stepIn_append_string _ rfl (.tmp 48) (.tmp 52) 100 9 rfl bw 5 i5 Try.underlying100 Try.underlying9 hi5 hb1 hb2 hb3 (.slice ba nn bc) nn _ rfl HR.out.2.1.drew (s.extract from' y.p) rfl (by rw [ByteArray.size_extract]; unfold maxLen; omega) (by rw [ByteArray.size_extract]; omega) (by have := HI.out.box.le; exact this) ?_
              intro v3 w3 hown3 hgrow3
              refine hK _ _ ?_
              clear hK K
              rw [strCells_extract s from' y.p h1 hyp, ← encB_append, show (s.extract from' y.p).size = y.p - from' by rw [ByteArray.size_extract]; omega] at hown3
              obtain ⟨xa, xc, rfl⟩ := rwSlice hown3
              have f3 : FrT [5] bw W w3 := ((FrT.refl _ _ _).drew).append HR.out.2.1.drew (Nat.le_refl _) (by simp) hgrow3
              have ko3 : KeepsOthers W w3 := (KeepsOthers.drew W).trans (KeepsOthers.of_grownBy hgrow3 (fun j x hj hx => by
                rcases HR.out.2.1.drew.2 with ⟨hv, _⟩ | ⟨g', cap', cur, hv, _, hg, _⟩
                · rw [hv] at hj; cases hj
                · rw [hv] at hj; cases hj; rw [hg] at hx; cases hx; rfl))
              have hb3 := f3.blk HR.out.1 (by simp)
              have e1 := cell_blk hb3 0 rfl
              have e2 := free_blk hb3 0
              have e3 := lt_of_some hb3
              have HPUT := Lib.hid (HI.out.box.put f3 ko3 HR.out.1 rfl hown3 (by have := hown3.1; simpa using this.symm))
              clear hown3 hgrow3 hb3 f3 ko3 cb fb
              refine wpAnyIn_all (rs := [6]) (by kernel_rfl) (by simp) (fun i hi => ?_)
              obtain rfl : i = 6 := by simpa using hi
              clear hi
              refine wpOpIn_step rfl (fun K hK => ?_)
              go_simp
              refine hK _ _ ?_
              clear hK K
              refine wpAnyIn_done (by kernel_rfl) ?_ _
              gi_wp2
              gi_meet
              case rel => exact ⟨HPUT.out.1, HPUT.out.2.1, HPUT.out.2.2.1, HPUT.out.2.2.2 _ _ _ _ HI.out.str (by decide) (by omega), HPUT.out.2.2.2 _ _ _ _ HI.out.res (by decide) (by omega), HPUT.out.2.2.2 _ _ _ _ HFM.out (by decide) (by omega)⟩
        · refine wpOpIn_step rfl (fun K hK => ?_)
          go_simp
          refine hK _ _ ?_
          clear hK K
          refine wpAnyIn_all (rs := [0, 2, 3]) (by kernel_rfl) (by simp) (fun i hi => ?_)
          have hi' : i = 0 ∨ i = 2 ∨ i = 3 := by simpa using hi
          clear hi
          rcases hi' with rfl | rfl | rfl
          · refine wpOpIn_step rfl (fun K hK => ?_)
            go_simp
            refine hK _ _ ?_
            clear hK K
            refine wpAnyIn_all (rs := [2, 3]) (by kernel_rfl) (by simp) (fun i hi => ?_)
            have hi' : i = 2 ∨ i = 3 := by simpa using hi
            clear hi
            rcases hi' with rfl | rfl
            · refine wpOpIn_step rfl (fun K hK => ?_)
              go_simp
              refine hK _ _ ?_
              clear hK K
              refine wpAnyIn_all (rs := [3]) (by kernel_rfl) (by simp) (fun i hi => ?_)
              obtain rfl : i = 3 := by simpa using hi
              clear hi
              refine wpOpIn_step rfl (fun K hK => ?_)
              go_simp
              refine hK _ _ ?_
              clear hK K
              refine wpAnyIn_all (rs := [4]) (by kernel_rfl) (by simp) (fun i hi => ?_)
              obtain rfl : i = 4 := by simpa using hi
              clear hi
              refine wpOpIn_step rfl (fun K hK => ?_)
              go_simp
              refine hK _ _ ?_
              clear hK K
              refine wpAnyIn_all (rs := [5]) (by kernel_rfl) (by simp) (fun i hi => ?_)
              obtain rfl : i = 5 := by simpa using hi
              clear hi
              refine wpOpIn_step rfl (fun K hK => ?_)
              refine stepIn_append_string _ rfl (.tmp 48) (.tmp 52) 100 9 rfl bw 5 i5 Try.underlying100 Try.underlying9 hi5 hb1 hb2 hb3 (.slice ba nn bc) nn _ rfl HR.out.2.1.drew (s.extract from' y.p) rfl (by rw [ByteArray.size_extract]; unfold maxLen; omega) (by rw [ByteArray.size_extract]; omega) (by have := HI.out.box.le; exact this) ?_
              intro v3 w3 hown3 hgrow3
              refine hK _ _ ?_
              clear hK K
              rw [strCells_extract s from' y.p h1 hyp, ← encB_append, show (s.extract from' y.p).size = y.p - from' by rw [ByteArray.size_extract]; omega] at hown3
              obtain ⟨xa, xc, rfl⟩ := rwSlice hown3
              have f3 : FrT [5] bw W w3 := ((FrT.refl _ _ _).drew).append HR.out.2.1.drew (Nat.le_refl _) (by simp) hgrow3
              have ko3 : KeepsOthers W w3 := (KeepsOthers.drew W).trans (KeepsOthers.of_grownBy hgrow3 (fun j x hj hx => by
                rcases HR.out.2.1.drew.2 with ⟨hv, _⟩ | ⟨g', cap', cur, hv, _, hg, _⟩
                · rw [hv] at hj; cases hj
                · rw [hv] at hj; cases hj; rw [hg] at hx; cases hx; rfl))
              have hb3 := f3.blk HR.out.1 (by simp)
              have e1 := cell_blk hb3 0 rfl
              have e2 := free_blk hb3 0
              have e3 := lt_of_some hb3
              have HPUT := Lib.hid (HI.out.box.put f3 ko3 HR.out.1 rfl hown3 (by have := hown3.1; simpa using this.symm))
              clear hown3 hgrow3 hb3 f3 ko3 cb fb
              refine wpAnyIn_all (rs := [6]) (by kernel_rfl) (by simp) (fun i hi => ?_)
              obtain rfl : i = 6 := by simpa using hi
              clear hi
              refine wpOpIn_step rfl (fun K hK => ?_)
              go_simp
              refine hK _ _ ?_
              clear hK K
              refine wpAnyIn_done (by kernel_rfl) ?_ _
              gi_wp2
              gi_meet
              case rel => exact ⟨HPUT.out.1, HPUT.out.2.1, HPUT.out.2.2.1, HPUT.out.2.2.2 _ _ _ _ HI.out.str (by decide) (by omega), HPUT.out.2.2.2 _ _ _ _ HI.out.res (by decide) (by omega), HPUT.out.2.2.2 _ _ _ _ HFM.out (by decide) (by omega)⟩
            · refine wpOpIn_step rfl (fun K hK => ?_)
              go_simp
              refine hK _ _ ?_
              clear hK K
              refine wpAnyIn_all (rs := [2]) (by kernel_rfl) (by simp) (fun i hi => ?_)
              obtain rfl : i = 2 := by simpa using hi
              clear hi
              refine wpOpIn_step rfl (fun K hK => ?_)
              go_simp
              refine hK _ _ ?_
              clear hK K
              refine wpAnyIn_all (rs := [4]) (by kernel_rfl) (by simp) (fun i hi => ?_)
              obtain rfl : i = 4 := by simpa using hi
              clear hi
              refine wpOpIn_step rfl (fun K hK => ?_)
              go_simp
              refine hK _ _ ?_
              clear hK K
              refine wpAnyIn_all (rs := [5]) (by kernel_rfl) (by simp) (fun i hi => ?_)
              obtain rfl : i = 5 := by simpa using hi
              clear hi
              refine wpOpIn_step rfl (fun K hK => ?_)
              refine stepIn_append_string _ rfl (.tmp 48) (.tmp 52) 100 9 rfl bw 5 i5 Try.underlying100 Try.underlying9 hi5 hb1 hb2 hb3 (.slice ba nn bc) nn _ rfl HR.out.2.1.drew (s.extract from' y.p) rfl (by rw [ByteArray.size_extract]; unfold maxLen; omega) (by rw [ByteArray.size_extract]; omega) (by have := HI.out.box.le; exact this) ?_
              intro v3 w3 hown3 hgrow3
              refine hK _ _ ?_
              clear hK K
              rw [strCells_extract s from' y.p h1 hyp, ← encB_append, show (s.extract from' y.p).size = y.p - from' by rw [ByteArray.size_extract]; omega] at hown3
              obtain ⟨xa, xc, rfl⟩ := rwSlice hown3
              have f3 : FrT [5] bw W w3 := ((FrT.refl _ _ _).drew).append HR.out.2.1.drew (Nat.le_refl _) (by simp) hgrow3
              have ko3 : KeepsOthers W w3 := (KeepsOthers.drew W).trans (KeepsOthers.of_grownBy hgrow3 (fun j x hj hx => by
                rcases HR.out.2.1.drew.2 with ⟨hv, _⟩ | ⟨g', cap', cur, hv, _, hg, _⟩
                · rw [hv] at hj; cases hj
                · rw [hv] at hj; cases hj; rw [hg] at hx; cases hx; rfl))
              have hb3 := f3.blk HR.out.1 (by simp)
              have e1 := cell_blk hb3 0 rfl
              have e2 := free_blk hb3 0
              have e3 := lt_of_some hb3
              have HPUT := Lib.hid (HI.out.box.put f3 ko3 HR.out.1 rfl hown3 (by have := hown3.1; simpa using this.symm))
              clear hown3 hgrow3 hb3 f3 ko3 cb fb
              refine wpAnyIn_all (rs := [6]) (by kernel_rfl) (by simp) (fun i hi => ?_)
              obtain rfl : i = 6 := by simpa using hi
              clear hi
              refine wpOpIn_step rfl (fun K hK => ?_)
              go_simp
              refine hK _ _ ?_
              clear hK K
              refine wpAnyIn_done (by kernel_rfl) ?_ _
              gi_wp2
              gi_meet
              case rel => exact ⟨HPUT.out.1, HPUT.out.2.1, HPUT.out.2.2.1, HPUT.out.2.2.2 _ _ _ _ HI.out.str (by decide) (by omega), HPUT.out.2.2.2 _ _ _ _ HI.out.res (by decide) (by omega), HPUT.out.2.2.2 _ _ _ _ HFM.out (by decide) (by omega)⟩
          · refine wpOpIn_step rfl (fun K hK => ?_)
            go_simp
            refine hK _ _ ?_
            clear hK K
            refine wpAnyIn_all (rs := [0, 3]) (by kernel_rfl) (by simp) (fun i hi => ?_)
            have hi' : i = 0 ∨ i = 3 := by simpa using hi
            clear hi
            rcases hi' with rfl | rfl
            · refine wpOpIn_step rfl (fun K hK => ?_)
              go_simp
              refine hK _ _ ?_
              clear hK K
              refine wpAnyIn_all (rs := [3]) (by kernel_rfl) (by simp) (fun i hi => ?_)
              obtain rfl : i = 3 := by simpa using hi
              clear hi
              refine wpOpIn_step rfl (fun K hK => ?_)
              go_simp
              refine hK _ _ ?_
              clear hK K
              refine wpAnyIn_all (rs := [4]) (by kernel_rfl) (by simp) (fun i hi => ?_)
              obtain rfl : i = 4 := by simpa using hi
              clear hi
              refine wpOpIn_step rfl (fun K hK => ?_)
              go_simp
              refine hK _ _ ?_
              clear hK K
              refine wpAnyIn_all (rs := [5]) (by kernel_rfl) (by simp) (fun i hi => ?_)
              obtain rfl : i = 5 := by simpa using hi
              clear hi
              refine wpOpIn_step rfl (fun K hK => ?_)
              refine stepIn_append_string _ rfl (.tmp 48) (.tmp 52) 100 9 rfl bw 5 i5 Try.underlying100 Try.underlying9 hi5 hb1 hb2 hb3 (.slice ba nn bc) nn _ rfl HR.out.2.1.drew (s.extract from' y.p) rfl (by rw [ByteArray.size_extract]; unfold maxLen; omega) (by rw [ByteArray.size_extract]; omega) (by have := HI.out.box.le; exact this) ?_
              intro v3 w3 hown3 hgrow3
              refine hK _ _ ?_
              clear hK K
              rw [strCells_extract s from' y.p h1 hyp, ← encB_append, show (s.extract from' y.p).size = y.p - from' by rw [ByteArray.size_extract]; omega] at hown3
              obtain ⟨xa, xc, rfl⟩ := rwSlice hown3
              have f3 : FrT [5] bw W w3 := ((FrT.refl _ _ _).drew).append HR.out.2.1.drew (Nat.le_refl _) (by simp) hgrow3
              have ko3 : KeepsOthers W w3 := (KeepsOthers.drew W).trans (KeepsOthers.of_grownBy hgrow3 (fun j x hj hx => by
                rcases HR.out.2.1.drew.2 with ⟨hv, _⟩ | ⟨g', cap', cur, hv, _, hg, _⟩
                · rw [hv] at hj; cases hj
                · rw [hv] at hj; cases hj; rw [hg] at hx; cases hx; rfl))
              have hb3 := f3.blk HR.out.1 (by simp)
              have e1 := cell_blk hb3 0 rfl
              have e2 := free_blk hb3 0
              have e3 := lt_of_some hb3
              have HPUT := Lib.hid (HI.out.box.put f3 ko3 HR.out.1 rfl hown3 (by have := hown3.1; simpa using this.symm))
              clear hown3 hgrow3 hb3 f3 ko3 cb fb
              refine wpAnyIn_all (rs := [6]) (by kernel_rfl) (by simp) (fun i hi => ?_)
              obtain rfl : i = 6 := by simpa using hi
              clear hi
              refine wpOpIn_step rfl (fun K hK => ?_)
              go_simp
              refine hK _ _ ?_
              clear hK K
              refine wpAnyIn_done (by kernel_rfl) ?_ _
              gi_wp2
              gi_meet
              case rel => exact ⟨HPUT.out.1, HPUT.out.2.1, HPUT.out.2.2.1, HPUT.out.2.2.2 _ _ _ _ HI.out.str (by decide) (by omega), HPUT.out.2.2.2 _ _ _ _ HI.out.res (by decide) (by omega), HPUT.out.2.2.2 _ _ _ _ HFM.out (by decide) (by omega)⟩
            · refine wpOpIn_step rfl (fun K hK => ?_)
              go_simp
              refine hK _ _ ?_
              clear hK K
              refine wpAnyIn_all (rs := [0, 4]) (by kernel_rfl) (by simp) (fun i hi => ?_)
              have hi' : i = 0 ∨ i = 4 := by simpa using hi
              clear hi
              rcases hi' with rfl | rfl
              · refine wpOpIn_step rfl (fun K hK => ?_)
                go_simp
                refine hK _ _ ?_
                clear hK K
                refine wpAnyIn_all (rs := [4]) (by kernel_rfl) (by simp) (fun i hi => ?_)
                obtain rfl : i = 4 := by simpa using hi
                clear hi
                refine wpOpIn_step rfl (fun K hK => ?_)
                go_simp
                refine hK _ _ ?_
                clear hK K
                refine wpAnyIn_all (rs := [5]) (by kernel_rfl) (by simp) (fun i hi => ?_)
                obtain rfl : i = 5 := by simpa using hi
                clear hi
                refine wpOpIn_step rfl (fun K hK => ?_)
                refine stepIn_append_string _ rfl (.tmp 48) (.tmp 52) 100 9 rfl bw 5 i5 Try.underlying100 Try.underlying9 hi5 hb1 hb2 hb3 (.slice ba nn bc) nn _ rfl HR.out.2.1.drew (s.extract from' y.p) rfl (by rw [ByteArray.size_extract]; unfold maxLen; omega) (by rw [ByteArray.size_extract]; omega) (by have := HI.out.box.le; exact this) ?_
                intro v3 w3 hown3 hgrow3
                refine hK _ _ ?_
                clear hK K
                rw [strCells_extract s from' y.p h1 hyp, ← encB_append, show (s.extract from' y.p).size = y.p - from' by rw [ByteArray.size_extract]; omega] at hown3
                obtain ⟨xa, xc, rfl⟩ := rwSlice hown3
                have f3 : FrT [5] bw W w3 := ((FrT.refl _ _ _).drew).append HR.out.2.1.drew (Nat.le_refl _) (by simp) hgrow3
                have ko3 : KeepsOthers W w3 := (KeepsOthers.drew W).trans (KeepsOthers.of_grownBy hgrow3 (fun j x hj hx => by
                  rcases HR.out.2.1.drew.2 with ⟨hv, _⟩ | ⟨g', cap', cur, hv, _, hg, _⟩
                  · rw [hv] at hj; cases hj
                  · rw [hv] at hj; cases hj; rw [hg] at hx; cases hx; rfl))
                have hb3 := f3.blk HR.out.1 (by simp)
                have e1 := cell_blk hb3 0 rfl
                have e2 := free_blk hb3 0
                have e3 := lt_of_some hb3
                have HPUT := Lib.hid (HI.out.box.put f3 ko3 HR.out.1 rfl hown3 (by have := hown3.1; simpa using this.symm))
                clear hown3 hgrow3 hb3 f3 ko3 cb fb
                refine wpAnyIn_all (rs := [6]) (by kernel_rfl) (by simp) (fun i hi => ?_)
                obtain rfl : i = 6 := by simpa using hi
                clear hi
                refine wpOpIn_step rfl (fun K hK => ?_)
                go_simp
                refine hK _ _ ?_
                clear hK K
                refine wpAnyIn_done (by kernel_rfl) ?_ _
                gi_wp2
                gi_meet
                case rel => exact ⟨HPUT.out.1, HPUT.out.2.1, HPUT.out.2.2.1, HPUT.out.2.2.2 _ _ _ _ HI.out.str (by decide) (by omega), HPUT.out.2.2.2 _ _ _ _ HI.out.res (by decide) (by omega), HPUT.out.2.2.2 _ _ _ _ HFM.out (by decide) (by omega)⟩
              · refine wpOpIn_step rfl (fun K hK => ?_)
                go_simp
                refine hK _ _ ?_
                clear hK K
                refine wpAnyIn_all (rs := [0]) (by kernel_rfl) (by simp) (fun i hi => ?_)
                obtain rfl : i = 0 := by simpa using hi
                clear hi
                refine wpOpIn_step rfl (fun K hK => ?_)
                go_simp
                refine hK _ _ ?_
                clear hK K
                refine wpAnyIn_all (rs := [5]) (by kernel_rfl) (by simp) (fun i hi => ?_)
                obtain rfl : i = 5 := by simpa using hi
                clear hi
                refine wpOpIn_step rfl (fun K hK => ?_)
                refine stepIn_append_string _ rfl (.tmp 48) (.tmp 52) 100 9 rfl bw 5 i5 Try.underlying100 Try.underlying9 hi5 hb1 hb2 hb3 (.slice ba nn bc) nn _ rfl HR.out.2.1.drew (s.extract from' y.p) rfl (by rw [ByteArray.size_extract]; unfold maxLen; omega) (by rw [ByteArray.size_extract]; omega) (by have := HI.out.box.le; exact this) ?_
                intro v3 w3 hown3 hgrow3
                refine hK _ _ ?_
                clear hK K
                rw [strCells_extract s from' y.p h1 hyp, ← encB_append, show (s.extract from' y.p).size = y.p - from' by rw [ByteArray.size_extract]; omega] at hown3
                obtain ⟨xa, xc, rfl⟩ := rwSlice hown3
                have f3 : FrT [5] bw W w3 := ((FrT.refl _ _ _).drew).append HR.out.2.1.drew (Nat.le_refl _) (by simp) hgrow3
                have ko3 : KeepsOthers W w3 := (KeepsOthers.drew W).trans (KeepsOthers.of_grownBy hgrow3 (fun j x hj hx => by
                  rcases HR.out.2.1.drew.2 with ⟨hv, _⟩ | ⟨g', cap', cur, hv, _, hg, _⟩
                  · rw [hv] at hj; cases hj
                  · rw [hv] at hj; cases hj; rw [hg] at hx; cases hx; rfl))
                have hb3 := f3.blk HR.out.1 (by simp)
                have e1 := cell_blk hb3 0 rfl
                have e2 := free_blk hb3 0
                have e3 := lt_of_some hb3
                have HPUT := Lib.hid (HI.out.box.put f3 ko3 HR.out.1 rfl hown3 (by have := hown3.1; simpa using this.symm))
                clear hown3 hgrow3 hb3 f3 ko3 cb fb
                refine wpAnyIn_all (rs := [6]) (by kernel_rfl) (by simp) (fun i hi => ?_)
                obtain rfl : i = 6 := by simpa using hi
                clear hi
                refine wpOpIn_step rfl (fun K hK => ?_)
                go_simp
                refine hK _ _ ?_
                clear hK K
                refine wpAnyIn_done (by kernel_rfl) ?_ _
                gi_wp2
                gi_meet
                case rel => exact ⟨HPUT.out.1, HPUT.out.2.1, HPUT.out.2.2.1, HPUT.out.2.2.2 _ _ _ _ HI.out.str (by decide) (by omega), HPUT.out.2.2.2 _ _ _ _ HI.out.res (by decide) (by omega), HPUT.out.2.2.2 _ _ _ _ HFM.out (by decide) (by omega)⟩
          · refine wpOpIn_step rfl (fun K hK => ?_)
            go_simp
            refine hK _ _ ?_
            clear hK K
            refine wpAnyIn_all (rs := [0, 2]) (by kernel_rfl) (by simp) (fun i hi => ?_)
            have hi' : i = 0 ∨ i = 2 := by simpa using hi
            clear hi
            rcases hi' with rfl | rfl
            · refine wpOpIn_step rfl (fun K hK => ?_)
              go_simp
              refine hK _ _ ?_
              clear hK K
              refine wpAnyIn_all (rs := [2]) (by kernel_rfl) (by simp) (fun i hi => ?_)
              obtain rfl : i = 2 := by simpa using hi
              clear hi
              refine wpOpIn_step rfl (fun K hK => ?_)
              go_simp
              refine hK _ _ ?_
              clear hK K
              refine wpAnyIn_all (rs := [4]) (by kernel_rfl) (by simp) (fun i hi => ?_)
              obtain rfl : i = 4 := by simpa using hi
              clear hi
              refine wpOpIn_step rfl (fun K hK => ?_)
              go_simp
              refine hK _ _ ?_
              clear hK K
              refine wpAnyIn_all (rs := [5]) (by kernel_rfl) (by simp) (fun i hi => ?_)
              obtain rfl : i = 5 := by simpa using hi
              clear hi
              refine wpOpIn_step rfl (fun K hK => ?_)
              refine stepIn_append_string _ rfl (.tmp 48) (.tmp 52) 100 9 rfl bw 5 i5 Try.underlying100 Try.underlying9 hi5 hb1 hb2 hb3 (.slice ba nn bc) nn _ rfl HR.out.2.1.drew (s.extract from' y.p) rfl (by rw [ByteArray.size_extract]; unfold maxLen; omega) (by rw [ByteArray.size_extract]; omega) (by have := HI.out.box.le; exact this) ?_
              intro v3 w3 hown3 hgrow3
              refine hK _ _ ?_
              clear hK K
              rw [strCells_extract s from' y.p h1 hyp, ← encB_append, show (s.extract from' y.p).size = y.p - from' by rw [ByteArray.size_extract]; omega] at hown3
              obtain ⟨xa, xc, rfl⟩ := rwSlice hown3
              have f3 : FrT [5] bw W w3 := ((FrT.refl _ _ _).drew).append HR.out.2.1.drew (Nat.le_refl _) (by simp) hgrow3
              have ko3 : KeepsOthers W w3 := (KeepsOthers.drew W).trans (KeepsOthers.of_grownBy hgrow3 (fun j x hj hx => by
                rcases HR.out.2.1.drew.2 with ⟨hv, _⟩ | ⟨g', cap', cur, hv, _, hg, _⟩
                · rw [hv] at hj; cases hj
                · rw [hv] at hj; cases hj; rw [hg] at hx; cases hx; rfl))
              have hb3 := f3.blk HR.out.1 (by simp)
              have e1 := cell_blk hb3 0 rfl
              have e2 := free_blk hb3 0
              have e3 := lt_of_some hb3
              have HPUT := Lib.hid (HI.out.box.put f3 ko3 HR.out.1 rfl hown3 (by have := hown3.1; simpa using this.symm))
              clear hown3 hgrow3 hb3 f3 ko3 cb fb
              refine wpAnyIn_all (rs := [6]) (by kernel_rfl) (by simp) (fun i hi => ?_)
              obtain rfl : i = 6 := by simpa using hi
              clear hi
              refine wpOpIn_step rfl (fun K hK => ?_)
              go_simp
              refine hK _ _ ?_
              clear hK K
              refine wpAnyIn_done (by kernel_rfl) ?_ _
              gi_wp2
              gi_meet
              case rel => exact ⟨HPUT.out.1, HPUT.out.2.1, HPUT.out.2.2.1, HPUT.out.2.2.2 _ _ _ _ HI.out.str (by decide) (by omega), HPUT.out.2.2.2 _ _ _ _ HI.out.res (by decide) (by omega), HPUT.out.2.2.2 _ _ _ _ HFM.out (by decide) (by omega)⟩
            · refine wpOpIn_step rfl (fun K hK => ?_)
              go_simp
              refine hK _ _ ?_
              clear hK K
              refine wpAnyIn_all (rs := [0, 4]) (by kernel_rfl) (by simp) (fun i hi => ?_)
              have hi' : i = 0 ∨ i = 4 := by simpa using hi
              clear hi
              rcases hi' with rfl | rfl
              · refine wpOpIn_step rfl (fun K hK => ?_)
                go_simp
                refine hK _ _ ?_
                clear hK K
                refine wpAnyIn_all (rs := [4]) (by kernel_rfl) (by simp) (fun i hi => ?_)
                obtain rfl : i = 4 := by simpa using hi
                clear hi
                refine wpOpIn_step rfl (fun K hK => ?_)
                go_simp
                refine hK _ _ ?_
                clear hK K
                refine wpAnyIn_all (rs := [5]) (by kernel_rfl) (by simp) (fun i hi => ?_)
                obtain rfl : i = 5 := by simpa using hi
                clear hi
                refine wpOpIn_step rfl (fun K hK => ?_)
                refine stepIn_append_string _ rfl (.tmp 48) (.tmp 52) 100 9 rfl bw 5 i5 Try.underlying100 Try.underlying9 hi5 hb1 hb2 hb3 (.slice ba nn bc) nn _ rfl HR.out.2.1.drew (s.extract from' y.p) rfl (by rw [ByteArray.size_extract]; unfold maxLen; omega) (by rw [ByteArray.size_extract]; omega) (by have := HI.out.box.le; exact this) ?_
                intro v3 w3 hown3 hgrow3
                refine hK _ _ ?_
                clear hK K
                rw [strCells_extract s from' y.p h1 hyp, ← encB_append, show (s.extract from' y.p).size = y.p - from' by rw [ByteArray.size_extract]; omega] at hown3
                obtain ⟨xa, xc, rfl⟩ := rwSlice hown3
                have f3 : FrT [5] bw W w3 := ((FrT.refl _ _ _).drew).append HR.out.2.1.drew (Nat.le_refl _) (by simp) hgrow3
                have ko3 : KeepsOthers W w3 := (KeepsOthers.drew W).trans (KeepsOthers.of_grownBy hgrow3 (fun j x hj hx => by
                  rcases HR.out.2.1.drew.2 with ⟨hv, _⟩ | ⟨g', cap', cur, hv, _, hg, _⟩
                  · rw [hv] at hj; cases hj
                  · rw [hv] at hj; cases hj; rw [hg] at hx; cases hx; rfl))
                have hb3 := f3.blk HR.out.1 (by simp)
                have e1 := cell_blk hb3 0 rfl
                have e2 := free_blk hb3 0
                have e3 := lt_of_some hb3
                have HPUT := Lib.hid (HI.out.box.put f3 ko3 HR.out.1 rfl hown3 (by have := hown3.1; simpa using this.symm))
                clear hown3 hgrow3 hb3 f3 ko3 cb fb
                refine wpAnyIn_all (rs := [6]) (by kernel_rfl) (by simp) (fun i hi => ?_)
                obtain rfl : i = 6 := by simpa using hi
                clear hi
                refine wpOpIn_step rfl (fun K hK => ?_)
                go_simp
                refine hK _ _ ?_
                clear hK K
                refine wpAnyIn_done (by kernel_rfl) ?_ _
                gi_wp2
                gi_meet
                case rel => exact ⟨HPUT.out.1, HPUT.out.2.1, HPUT.out.2.2.1, HPUT.out.2.2.2 _ _ _ _ HI.out.str (by decide) (by omega), HPUT.out.2.2.2 _ _ _ _ HI.out.res (by decide) (by omega), HPUT.out.2.2.2 _ _ _ _ HFM.out (by decide) (by omega)⟩
              · refine wpOpIn_step rfl (fun K hK => ?_)
                go_simp
                refine hK _ _ ?_
                clear hK K
                refine wpAnyIn_all (rs := [0]) (by kernel_rfl) (by simp) (fun i hi => ?_)
                obtain rfl : i = 0 := by simpa using hi
                clear hi
                refine wpOpIn_step rfl (fun K hK => ?_)
                go_simp
                refine hK _ _ ?_
                clear hK K
                refine wpAnyIn_all (rs := [5]) (by kernel_rfl) (by simp) (fun i hi => ?_)
                obtain rfl : i = 5 := by simpa using hi
                clear hi
                refine wpOpIn_step rfl (fun K hK => ?_)
                refine stepIn_append_string _ rfl (.tmp 48) (.tmp 52) 100 9 rfl bw 5 i5 Try.underlying100 Try.underlying9 hi5 hb1 hb2 hb3 (.slice ba nn bc) nn _ rfl HR.out.2.1.drew (s.extract from' y.p) rfl (by rw [ByteArray.size_extract]; unfold maxLen; omega) (by rw [ByteArray.size_extract]; omega) (by have := HI.out.box.le; exact this) ?_
                intro v3 w3 hown3 hgrow3
                refine hK _ _ ?_
                clear hK K
                rw [strCells_extract s from' y.p h1 hyp, ← encB_append, show (s.extract from' y.p).size = y.p - from' by rw [ByteArray.size_extract]; omega] at hown3
                obtain ⟨xa, xc, rfl⟩ := rwSlice hown3
                have f3 : FrT [5] bw W w3 := ((FrT.refl _ _ _).drew).append HR.out.2.1.drew (Nat.le_refl _) (by simp) hgrow3
                have ko3 : KeepsOthers W w3 := (KeepsOthers.drew W).trans (KeepsOthers.of_grownBy hgrow3 (fun j x hj hx => by
                  rcases HR.out.2.1.drew.2 with ⟨hv, _⟩ | ⟨g', cap', cur, hv, _, hg, _⟩
                  · rw [hv] at hj; cases hj
                  · rw [hv] at hj; cases hj; rw [hg] at hx; cases hx; rfl))
                have hb3 := f3.blk HR.out.1 (by simp)
                have e1 := cell_blk hb3 0 rfl
                have e2 := free_blk hb3 0
                have e3 := lt_of_some hb3
                have HPUT := Lib.hid (HI.out.box.put f3 ko3 HR.out.1 rfl hown3 (by have := hown3.1; simpa using this.symm))
                clear hown3 hgrow3 hb3 f3 ko3 cb fb
                refine wpAnyIn_all (rs := [6]) (by kernel_rfl) (by simp) (fun i hi => ?_)
                obtain rfl : i = 6 := by simpa using hi
                clear hi
                refine wpOpIn_step rfl (fun K hK => ?_)
                go_simp
                refine hK _ _ ?_
                clear hK K
                refine wpAnyIn_done (by kernel_rfl) ?_ _
                gi_wp2
                gi_meet
                case rel => exact ⟨HPUT.out.1, HPUT.out.2.1, HPUT.out.2.2.1, HPUT.out.2.2.2 _ _ _ _ HI.out.str (by decide) (by omega), HPUT.out.2.2.2 _ _ _ _ HI.out.res (by decide) (by omega), HPUT.out.2.2.2 _ _ _ _ HFM.out (by decide) (by omega)⟩
        · refine wpOpIn_step rfl (fun K hK => ?_)
          go_simp
          refine hK _ _ ?_
          clear hK K
          refine wpAnyIn_all (rs := [0, 1, 3]) (by kernel_rfl) (by simp) (fun i hi => ?_)
          have hi' : i = 0 ∨ i = 1 ∨ i = 3 := by simpa using hi
          clear hi
          rcases hi' with rfl | rfl | rfl
          · refine wpOpIn_step rfl (fun K hK => ?_)
            go_simp
            refine hK _ _ ?_
            clear hK K
            refine wpAnyIn_all (rs := [1, 3]) (by kernel_rfl) (by simp) (fun i hi => ?_)
            have hi' : i = 1 ∨ i = 3 := by simpa using hi
            clear hi
            rcases hi' with rfl | rfl
            · refine wpOpIn_step rfl (fun K hK => ?_)
              go_simp
              refine hK _ _ ?_
              clear hK K
              refine wpAnyIn_all (rs := [3]) (by kernel_rfl) (by simp) (fun i hi => ?_)
              obtain rfl : i = 3 := by simpa using hi
              clear hi
              refine wpOpIn_step rfl (fun K hK => ?_)
              go_simp
              refine hK _ _ ?_
              clear hK K
              refine wpAnyIn_all (rs := [4]) (by kernel_rfl) (by simp) (fun i hi => ?_)
              obtain rfl : i = 4 := by simpa using hi
              clear hi
              refine wpOpIn_step rfl (fun K hK => ?_)
              go_simp
              refine hK _ _ ?_
              clear hK K
              refine wpAnyIn_all (rs := [5]) (by kernel_rfl) (by simp) (fun i hi => ?_)
              obtain rfl : i = 5 := by simpa using hi
              clear hi
              refine wpOpIn_step rfl (fun K hK => ?_)
              refine stepIn_append_string _ rfl (.tmp 48) (.tmp 52) 100 9 rfl bw 5 i5 Try.underlying100 Try.underlying9 hi5 hb1 hb2 hb3 (.slice ba nn bc) nn _ rfl HR.out.2.1.drew (s.extract from' y.p) rfl (by rw [ByteArray.size_extract]; unfold maxLen; omega) (by rw [ByteArray.size_extract]; omega) (by have := HI.out.box.le; exact this) ?_
              intro v3 w3 hown3 hgrow3
              refine hK _ _ ?_
              clear hK K
              rw [strCells_extract s from' y.p h1 hyp, ← encB_append, show (s.extract from' y.p).size = y.p - from' by rw [ByteArray.size_extract]; omega] at hown3
              obtain ⟨xa, xc, rfl⟩ := rwSlice hown3
              have f3 : FrT [5] bw W w3 := ((FrT.refl _ _ _).drew).append HR.out.2.1.drew (Nat.le_refl _) (by simp) hgrow3
              have ko3 : KeepsOthers W w3 := (KeepsOthers.drew W).trans (KeepsOthers.of_grownBy hgrow3 (fun j x hj hx => by
                rcases HR.out.2.1.drew.2 with ⟨hv, _⟩ | ⟨g', cap', cur, hv, _, hg, _⟩
                · rw [hv] at hj; cases hj
                · rw [hv] at hj; cases hj; rw [hg] at hx; cases hx; rfl))
              have hb3 := f3.blk HR.out.1 (by simp)
              have e1 := cell_blk hb3 0 rfl
              have e2 := free_blk hb3 0
              have e3 := lt_of_some hb3
              have HPUT := Lib.hid (HI.out.box.put f3 ko3 HR.out.1 rfl hown3 (by have := hown3.1; simpa using this.symm))
              clear hown3 hgrow3 hb3 f3 ko3 cb fb
              refine wpAnyIn_all (rs := [6]) (by kernel_rfl) (by simp) (fun i hi => ?_)
              obtain rfl : i = 6 := by simpa using hi
              clear hi
              refine wpOpIn_step rfl (fun K hK => ?_)
              go_simp
              refine hK _ _ ?_
              clear hK K
              refine wpAnyIn_done (by kernel_rfl) ?_ _
              gi_wp2
              gi_meet
              case rel => exact ⟨HPUT.out.1, HPUT.out.2.1, HPUT.out.2.2.1, HPUT.out.2.2.2 _ _ _ _ HI.out.str (by decide) (by omega), HPUT.out.2.2.2 _ _ _ _ HI.out.res (by decide) (by omega), HPUT.out.2.2.2 _ _ _ _ HFM.out (by decide) (by omega)⟩
            · refine wpOpIn_step rfl (fun K hK => ?_)
              go_simp
              refine hK _ _ ?_
              clear hK K
              refine wpAnyIn_all (rs := [1]) (by kernel_rfl) (by simp) (fun i hi => ?_)
              obtain rfl : i = 1 := by simpa using hi
              clear hi
              refine wpOpIn_step rfl (fun K hK => ?_)
              go_simp
              refine hK _ _ ?_
              clear hK K
              refine wpAnyIn_all (rs := [4]) (by kernel_rfl) (by simp) (fun i hi => ?_)
              obtain rfl : i = 4 := by simpa using hi
              clear hi
              refine wpOpIn_step rfl (fun K hK => ?_)
              go_simp
              refine hK _ _ ?_
              clear hK K
              refine wpAnyIn_all (rs := [5]) (by kernel_rfl) (by simp) (fun i hi => ?_)
              obtain rfl : i = 5 := by simpa using hi
              clear hi
              refine wpOpIn_step rfl (fun K hK => ?_)
              refine stepIn_append_string _ rfl (.tmp 48) (.tmp 52) 100 9 rfl bw 5 i5 Try.underlying100 Try.underlying9 hi5 hb1 hb2 hb3 (.slice ba nn bc) nn _ rfl HR.out.2.1.drew (s.extract from' y.p) rfl (by rw [ByteArray.size_extract]; unfold maxLen; omega) (by rw [ByteArray.size_extract]; omega) (by have := HI.out.box.le; exact this) ?_
              intro v3 w3 hown3 hgrow3
              refine hK _ _ ?_
              clear hK K
              rw [strCells_extract s from' y.p h1 hyp, ← encB_append, show (s.extract from' y.p).size = y.p - from' by rw [ByteArray.size_extract]; omega] at hown3
              obtain ⟨xa, xc, rfl⟩ := rwSlice hown3
              have f3 : FrT [5] bw W w3 := ((FrT.refl _ _ _).drew).append HR.out.2.1.drew (Nat.le_refl _) (by simp) hgrow3
              have ko3 : KeepsOthers W w3 := (KeepsOthers.drew W).trans (KeepsOthers.of_grownBy hgrow3 (fun j x hj hx => by
                rcases HR.out.2.1.drew.2 with ⟨hv, _⟩ | ⟨g', cap', cur, hv, _, hg, _⟩
                · rw [hv] at hj; cases hj
                · rw [hv] at hj; cases hj; rw [hg] at hx; cases hx; rfl))
              have hb3 := f3.blk HR.out.1 (by simp)
              have e1 := cell_blk hb3 0 rfl
              have e2 := free_blk hb3 0
              have e3 := lt_of_some hb3
              have HPUT := Lib.hid (HI.out.box.put f3 ko3 HR.out.1 rfl hown3 (by have := hown3.1; simpa using this.symm))
              clear hown3 hgrow3 hb3 f3 ko3 cb fb
              refine wpAnyIn_all (rs := [6]) (by kernel_rfl) (by simp) (fun i hi => ?_)
              obtain rfl : i = 6 := by simpa using hi
              clear hi
              refine wpOpIn_step rfl (fun K hK => ?_)
              go_simp
              refine hK _ _ ?_
              clear hK K
              refine wpAnyIn_done (by kernel_rfl) ?_ _
              gi_wp2
              gi_meet
              case rel => exact ⟨HPUT.out.1, HPUT.out.2.1, HPUT.out.2.2.1, HPUT.out.2.2.2 _ _ _ _ HI.out.str (by decide) (by omega), HPUT.out.2.2.2 _ _ _ _ HI.out.res (by decide) (by omega), HPUT.out.2.2.2 _ _ _ _ HFM.out (by decide) (by omega)⟩
          · refine wpOpIn_step rfl (fun K hK => ?_)
            go_simp
            refine hK _ _ ?_
            clear hK K
            refine wpAnyIn_all (rs := [0, 3]) (by kernel_rfl) (by simp) (fun i hi => ?_)
            have hi' : i = 0 ∨ i = 3 := by simpa using hi
            clear hi
            rcases hi' with rfl | rfl
            · refine wpOpIn_step rfl (fun K hK => ?_)
              go_simp
              refine hK _ _ ?_
              clear hK K
              refine wpAnyIn_all (rs := [3]) (by kernel_rfl) (by simp) (fun i hi => ?_)
              obtain rfl : i = 3 := by simpa using hi
              clear hi
              refine wpOpIn_step rfl (fun K hK => ?_)
              go_simp
              refine hK _ _ ?_
              clear hK K
              refine wpAnyIn_all (rs := [4]) (by kernel_rfl) (by simp) (fun i hi => ?_)
              obtain rfl : i = 4 := by simpa using hi
              clear hi
              refine wpOpIn_step rfl (fun K hK => ?_)
              go_simp
              refine hK _ _ ?_
              clear hK K
              refine wpAnyIn_all (rs := [5]) (by kernel_rfl) (by simp) (fun i hi => ?_)
              obtain rfl : i = 5 := by simpa using hi
              clear hi
              refine wpOpIn_step rfl (fun K hK => ?_)
              refine stepIn_append_string _ rfl (.tmp 48) (.tmp 52) 100 9 rfl bw 5 i5 Try.underlying100 Try.underlying9 hi5 hb1 hb2 hb3 (.slice ba nn bc) nn _ rfl HR.out.2.1.drew (s.extract from' y.p) rfl (by rw [ByteArray.size_extract]; unfold maxLen; omega) (by rw [ByteArray.size_extract]; omega) (by have := HI.out.box.le; exact this) ?_
              intro v3 w3 hown3 hgrow3
              refine hK _ _ ?_
              clear hK K
              rw [strCells_extract s from' y.p h1 hyp, ← encB_append, show (s.extract from' y.p).size = y.p - from' by rw [ByteArray.size_extract]; omega] at hown3
              obtain ⟨xa, xc, rfl⟩ := rwSlice hown3
              have f3 : FrT [5] bw W w3 := ((FrT.refl _ _ _).drew).append HR.out.2.1.drew (Nat.le_refl _) (by simp) hgrow3
              have ko3 : KeepsOthers W w3 := (KeepsOthers.drew W).trans (KeepsOthers.of_grownBy hgrow3 (fun j x hj hx => by
                rcases HR.out.2.1.drew.2 with ⟨hv, _⟩ | ⟨g', cap', cur, hv, _, hg, _⟩
                · rw [hv] at hj; cases hj
                · rw [hv] at hj; cases hj; rw [hg] at hx; cases hx; rfl))
              have hb3 := f3.blk HR.out.1 (by simp)
              have e1 := cell_blk hb3 0 rfl
              have e2 := free_blk hb3 0
              have e3 := lt_of_some hb3
              have HPUT := Lib.hid (HI.out.box.put f3 ko3 HR.out.1 rfl hown3 (by have := hown3.1; simpa using this.symm))
              clear hown3 hgrow3 hb3 f3 ko3 cb fb
              refine wpAnyIn_all (rs := [6]) (by kernel_rfl) (by simp) (fun i hi => ?_)
              obtain rfl : i = 6 := by simpa using hi
              clear hi
              refine wpOpIn_step rfl (fun K hK => ?_)
              go_simp
              refine hK _ _ ?_
              clear hK K
              refine wpAnyIn_done (by kernel_rfl) ?_ _
              gi_wp2
              gi_meet
              case rel => exact ⟨HPUT.out.1, HPUT.out.2.1, HPUT.out.2.2.1, HPUT.out.2.2.2 _ _ _ _ HI.out.str (by decide) (by omega), HPUT.out.2.2.2 _ _ _ _ HI.out.res (by decide) (by omega), HPUT.out.2.2.2 _ _ _ _ HFM.out (by decide) (by omega)⟩
            · refine wpOpIn_step rfl (fun K hK => ?_)
              go_simp
              refine hK _ _ ?_
              clear hK K
              refine wpAnyIn_all (rs := [0, 4]) (by kernel_rfl) (by simp) (fun i hi => ?_)
              have hi' : i = 0 ∨ i = 4 := by simpa using hi
              clear hi
              rcases hi' with rfl | rfl
              · refine wpOpIn_step rfl (fun K hK => ?_)
                go_simp
                refine hK _ _ ?_
                clear hK K
                refine wpAnyIn_all (rs := [4]) (by kernel_rfl) (by simp) (fun i hi => ?_)
                obtain rfl : i = 4 := by simpa using hi
                clear hi
                refine wpOpIn_step rfl (fun K hK => ?_)
                go_simp
                refine hK _ _ ?_
                clear hK K
                refine wpAnyIn_all (rs := [5]) (by kernel_rfl) (by simp) (fun i hi => ?_)
                obtain rfl : i = 5 := by simpa using hi
                clear hi
                refine wpOpIn_step rfl (fun K hK => ?_)
                refine stepIn_append_string _ rfl (.tmp 48) (.tmp 52) 100 9 rfl bw 5 i5 Try.underlying100 Try.underlying9 hi5 hb1 hb2 hb3 (.slice ba nn bc) nn _ rfl HR.out.2.1.drew (s.extract from' y.p) rfl (by rw [ByteArray.size_extract]; unfold maxLen; omega) (by rw [ByteArray.size_extract]; omega) (by have := HI.out.box.le; exact this) ?_
                intro v3 w3 hown3 hgrow3
                refine hK _ _ ?_
                clear hK K
                rw [strCells_extract s from' y.p h1 hyp, ← encB_append, show (s.extract from' y.p).size = y.p - from' by rw [ByteArray.size_extract]; omega] at hown3
                obtain ⟨xa, xc, rfl⟩ := rwSlice hown3
                have f3 : FrT [5] bw W w3 := ((FrT.refl _ _ _).drew).append HR.out.2.1.drew (Nat.le_refl _) (by simp) hgrow3
                have ko3 : KeepsOthers W w3 := (KeepsOthers.drew W).trans (KeepsOthers.of_grownBy hgrow3 (fun j x hj hx => by
                  rcases HR.out.2.1.drew.2 with ⟨hv, _⟩ | ⟨g', cap', cur, hv, _, hg, _⟩
                  · rw [hv] at hj; cases hj
                  · rw [hv] at hj; cases hj; rw [hg] at hx; cases hx; rfl))
                have hb3 := f3.blk HR.out.1 (by simp)
                have e1 := cell_blk hb3 0 rfl
                have e2 := free_blk hb3 0
                have e3 := lt_of_some hb3
                have HPUT := Lib.hid (HI.out.box.put f3 ko3 HR.out.1 rfl hown3 (by have := hown3.1; simpa using this.symm))
                clear hown3 hgrow3 hb3 f3 ko3 cb fb
                refine wpAnyIn_all (rs := [6]) (by kernel_rfl) (by simp) (fun i hi => ?_)
                obtain rfl : i = 6 := by simpa using hi
                clear hi
                refine wpOpIn_step rfl (fun K hK => ?_)
                go_simp
                refine hK _ _ ?_
                clear hK K
                refine wpAnyIn_done (by kernel_rfl) ?_ _
                gi_wp2
                gi_meet
                case rel => exact ⟨HPUT.out.1, HPUT.out.2.1, HPUT.out.2.2.1, HPUT.out.2.2.2 _ _ _ _ HI.out.str (by decide) (by omega), HPUT.out.2.2.2 _ _ _ _ HI.out.res (by decide) (by omega), HPUT.out.2.2.2 _ _ _ _ HFM.out (by decide) (by omega)⟩
              · refine wpOpIn_step rfl (fun K hK => ?_)
                go_simp
                refine hK _ _ ?_
                clear hK K
                refine wpAnyIn_all (rs := [0]) (by kernel_rfl) (by simp) (fun i hi => ?_)
                obtain rfl : i = 0 := by simpa using hi
                clear hi
                refine wpOpIn_step rfl (fun K hK => ?_)
                go_simp
                refine hK _ _ ?_
                clear hK K
                refine wpAnyIn_all (rs := [5]) (by kernel_rfl) (by simp) (fun i hi => ?_)
                obtain rfl : i = 5 := by simpa using hi
                clear hi
                refine wpOpIn_step rfl (fun K hK => ?_)
                refine stepIn_append_string _ rfl (.tmp 48) (.tmp 52) 100 9 rfl bw 5 i5 Try.underlying100 Try.underlying9 hi5 hb1 hb2 hb3 (.slice ba nn bc) nn _ rfl HR.out.2.1.drew (s.extract from' y.p) rfl (by rw [ByteArray.size_extract]; unfold maxLen; omega) (by rw [ByteArray.size_extract]; omega) (by have := HI.out.box.le; exact this) ?_
                intro v3 w3 hown3 hgrow3
                refine hK _ _ ?_
                clear hK K
                rw [strCells_extract s from' y.p h1 hyp, ← encB_append, show (s.extract from' y.p).size = y.p - from' by rw [ByteArray.size_extract]; omega] at hown3
                obtain ⟨xa, xc, rfl⟩ := rwSlice hown3
                have f3 : FrT [5] bw W w3 := ((FrT.refl _ _ _).drew).append HR.out.2.1.drew (Nat.le_refl _) (by simp) hgrow3
                have ko3 : KeepsOthers W w3 := (KeepsOthers.drew W).trans (KeepsOthers.of_grownBy hgrow3 (fun j x hj hx => by
                  rcases HR.out.2.1.drew.2 with ⟨hv, _⟩ | ⟨g', cap', cur, hv, _, hg, _⟩
                  · rw [hv] at hj; cases hj
                  · rw [hv] at hj; cases hj; rw [hg] at hx; cases hx; rfl))
                have hb3 := f3.blk HR.out.1 (by simp)
                have e1 := cell_blk hb3 0 rfl
                have e2 := free_blk hb3 0
                have e3 := lt_of_some hb3
                have HPUT := Lib.hid (HI.out.box.put f3 ko3 HR.out.1 rfl hown3 (by have := hown3.1; simpa using this.symm))
                clear hown3 hgrow3 hb3 f3 ko3 cb fb
                refine wpAnyIn_all (rs := [6]) (by kernel_rfl) (by simp) (fun i hi => ?_)
                obtain rfl : i = 6 := by simpa using hi
                clear hi
                refine wpOpIn_step rfl (fun K hK => ?_)
                go_simp
                refine hK _ _ ?_
                clear hK K
                refine wpAnyIn_done (by kernel_rfl) ?_ _
                gi_wp2
                gi_meet
                case rel => exact ⟨HPUT.out.1, HPUT.out.2.1, HPUT.out.2.2.1, HPUT.out.2.2.2 _ _ _ _ HI.out.str (by decide) (by omega), HPUT.out.2.2.2 _ _ _ _ HI.out.res (by decide) (by omega), HPUT.out.2.2.2 _ _ _ _ HFM.out (by decide) (by omega)⟩
          · refine wpOpIn_step rfl (fun K hK => ?_)
            go_simp
            refine hK _ _ ?_
            clear hK K
            refine wpAnyIn_all (rs := [0, 1]) (by kernel_rfl) (by simp) (fun i hi => ?_)
            have hi' : i = 0 ∨ i = 1 := by simpa using hi
            clear hi
            rcases hi' with rfl | rfl
            · refine wpOpIn_step rfl (fun K hK => ?_)
              go_simp
              refine hK _ _ ?_
              clear hK K
              refine wpAnyIn_all (rs := [1]) (by kernel_rfl) (by simp) (fun i hi => ?_)
              obtain rfl : i = 1 := by simpa using hi
              clear hi
              refine wpOpIn_step rfl (fun K hK => ?_)
              go_simp
              refine hK _ _ ?_
              clear hK K
              refine wpAnyIn_all (rs := [4]) (by kernel_rfl) (by simp) (fun i hi => ?_)
              obtain rfl : i = 4 := by simpa using hi
              clear hi
              refine wpOpIn_step rfl (fun K hK => ?_)
              go_simp
              refine hK _ _ ?_
              clear hK K
              refine wpAnyIn_all (rs := [5]) (by kernel_rfl) (by simp) (fun i hi => ?_)
              obtain rfl : i = 5 := by simpa using hi
              clear hi
              refine wpOpIn_step rfl (fun K hK => ?_)
              refine stepIn_append_string _ rfl (.tmp 48) (.tmp 52) 100 9 rfl bw 5 i5 Try.underlying100 Try.underlying9 hi5 hb1 hb2 hb3 (.slice ba nn bc) nn _ rfl HR.out.2.1.drew (s.extract from' y.p) rfl (by rw [ByteArray.size_extract]; unfold maxLen; omega) (by rw [ByteArray.size_extract]; omega) (by have := HI.out.box.le; exact this) ?_
              intro v3 w3 hown3 hgrow3
              refine hK _ _ ?_
              clear hK K
              rw [strCells_extract s from' y.p h1 hyp, ← encB_append, show (s.extract from' y.p).size = y.p - from' by rw [ByteArray.size_extract]; omega] at hown3
              obtain ⟨xa, xc, rfl⟩ := rwSlice hown3
              have f3 : FrT [5] bw W w3 := ((FrT.refl _ _ _).drew).append HR.out.2.1.drew (Nat.le_refl _) (by simp) hgrow3
              have ko3 : KeepsOthers W w3 := (KeepsOthers.drew W).trans (KeepsOthers.of_grownBy hgrow3 (fun j x hj hx => by
                rcases HR.out.2.1.drew.2 with ⟨hv, _⟩ | ⟨g', cap', cur, hv, _, hg, _⟩
                · rw [hv] at hj; cases hj
                · rw [hv] at hj; cases hj; rw [hg] at hx; cases hx; rfl))
              have hb3 := f3.blk HR.out.1 (by simp)
              have e1 := cell_blk hb3 0 rfl
              have e2 := free_blk hb3 0
              have e3 := lt_of_some hb3
              have HPUT := Lib.hid (HI.out.box.put f3 ko3 HR.out.1 rfl hown3 (by have := hown3.1; simpa using this.symm))
              clear hown3 hgrow3 hb3 f3 ko3 cb fb
              refine wpAnyIn_all (rs := [6]) (by kernel_rfl) (by simp) (fun i hi => ?_)
              obtain rfl : i = 6 := by simpa using hi
              clear hi
              refine wpOpIn_step rfl (fun K hK => ?_)
              go_simp
              refine hK _ _ ?_
              clear hK K
              refine wpAnyIn_done (by kernel_rfl) ?_ _
              gi_wp2
              gi_meet
              case rel => exact ⟨HPUT.out.1, HPUT.out.2.1, HPUT.out.2.2.1, HPUT.out.2.2.2 _ _ _ _ HI.out.str (by decide) (by omega), HPUT.out.2.2.2 _ _ _ _ HI.out.res (by decide) (by omega), HPUT.out.2.2.2 _ _ _ _ HFM.out (by decide) (by omega)⟩
            · refine wpOpIn_step rfl (fun K hK => ?_)
              go_simp
              refine hK _ _ ?_
              clear hK K
              refine wpAnyIn_all (rs := [0, 4]) (by kernel_rfl) (by simp) (fun i hi => ?_)
              have hi' : i = 0 ∨ i = 4 := by simpa using hi
              clear hi
              rcases hi' with rfl | rfl
              · refine wpOpIn_step rfl (fun K hK => ?_)
                go_simp
                refine hK _ _ ?_
                clear hK K
                refine wpAnyIn_all (rs := [4]) (by kernel_rfl) (by simp) (fun i hi => ?_)
                obtain rfl : i = 4 := by simpa using hi
                clear hi
                refine wpOpIn_step rfl (fun K hK => ?_)
                go_simp
                refine hK _ _ ?_
                clear hK K
                refine wpAnyIn_all (rs := [5]) (by kernel_rfl) (by simp) (fun i hi => ?_)
                obtain rfl : i = 5 := by simpa using hi
                clear hi
                refine wpOpIn_step rfl (fun K hK => ?_)
                refine stepIn_append_string _ rfl (.tmp 48) (.tmp 52) 100 9 rfl bw 5 i5 Try.underlying100 Try.underlying9 hi5 hb1 hb2 hb3 (.slice ba nn bc) nn _ rfl HR.out.2.1.drew (s.extract from' y.p) rfl (by rw [ByteArray.size_extract]; unfold maxLen; omega) (by rw [ByteArray.size_extract]; omega) (by have := HI.out.box.le; exact this) ?_
                intro v3 w3 hown3 hgrow3
                refine hK _ _ ?_
                clear hK K
                rw [strCells_extract s from' y.p h1 hyp, ← encB_append, show (s.extract from' y.p).size = y.p - from' by rw [ByteArray.size_extract]; omega] at hown3
                obtain ⟨xa, xc, rfl⟩ := rwSlice hown3
                have f3 : FrT [5] bw W w3 := ((FrT.refl _ _ _).drew).append HR.out.2.1.drew (Nat.le_refl _) (by simp) hgrow3
                have ko3 : KeepsOthers W w3 := (KeepsOthers.drew W).trans (KeepsOthers.of_grownBy hgrow3 (fun j x hj hx => by
                  rcases HR.out.2.1.drew.2 with ⟨hv, _⟩ | ⟨g', cap', cur, hv, _, hg, _⟩
                  · rw [hv] at hj; cases hj
                  · rw [hv] at hj; cases hj; rw [hg] at hx; cases hx; rfl))
                have hb3 := f3.blk HR.out.1 (by simp)
                have e1 := cell_blk hb3 0 rfl
                have e2 := free_blk hb3 0
                have e3 := lt_of_some hb3
                have HPUT := Lib.hid (HI.out.box.put f3 ko3 HR.out.1 rfl hown3 (by have := hown3.1; simpa using this.symm))
                clear hown3 hgrow3 hb3 f3 ko3 cb fb
                refine wpAnyIn_all (rs := [6]) (by kernel_rfl) (by simp) (fun i hi => ?_)
                obtain rfl : i = 6 := by simpa using hi
                clear hi
                refine wpOpIn_step rfl (fun K hK => ?_)
                go_simp
                refine hK _ _ ?_
                clear hK K
                refine wpAnyIn_done (by kernel_rfl) ?_ _
                gi_wp2
                gi_meet
                case rel => exact ⟨HPUT.out.1, HPUT.out.2.1, HPUT.out.2.2.1, HPUT.out.2.2.2 _ _ _ _ HI.out.str (by decide) (by omega), HPUT.out.2.2.2 _ _ _ _ HI.out.res (by decide) (by omega), HPUT.out.2.2.2 _ _ _ _ HFM.out (by decide) (by omega)⟩
              · refine wpOpIn_step rfl (fun K hK => ?_)
                go_simp
                refine hK _ _ ?_
                clear hK K
                refine wpAnyIn_all (rs := [0]) (by kernel_rfl) (by simp) (fun i hi => ?_)
                obtain rfl : i = 0 := by simpa using hi
                clear hi
                refine wpOpIn_step rfl (fun K hK => ?_)
                go_simp
                refine hK _ _ ?_
                clear hK K
                refine wpAnyIn_all (rs := [5]) (by kernel_rfl) (by simp) (fun i hi => ?_)
                obtain rfl : i = 5 := by simpa using hi
                clear hi
                refine wpOpIn_step rfl (fun K hK => ?_)
                refine stepIn_append_string _ rfl (.tmp 48) (.tmp 52) 100 9 rfl bw 5 i5 Try.underlying100 Try.underlying9 hi5 hb1 hb2 hb3 (.slice ba nn bc) nn _ rfl HR.out.2.1.drew (s.extract from' y.p) rfl (by rw [ByteArray.size_extract]; unfold maxLen; omega) (by rw [ByteArray.size_extract]; omega) (by have := HI.out.box.le; exact this) ?_
                intro v3 w3 hown3 hgrow3
                refine hK _ _ ?_
                clear hK K
                rw [strCells_extract s from' y.p h1 hyp, ← encB_append, show (s.extract from' y.p).size = y.p - from' by rw [ByteArray.size_extract]; omega] at hown3
                obtain ⟨xa, xc, rfl⟩ := rwSlice hown3
                have f3 : FrT [5] bw W w3 := ((FrT.refl _ _ _).drew).append HR.out.2.1.drew (Nat.le_refl _) (by simp) hgrow3
                have ko3 : KeepsOthers W w3 := (KeepsOthers.drew W).trans (KeepsOthers.of_grownBy hgrow3 (fun j x hj hx => by
                  rcases HR.out.2.1.drew.2 with ⟨hv, _⟩ | ⟨g', cap', cur, hv, _, hg, _⟩
                  · rw [hv] at hj; cases hj
                  · rw [hv] at hj; cases hj; rw [hg] at hx; cases hx; rfl))
                have hb3 := f3.blk HR.out.1 (by simp)
                have e1 := cell_blk hb3 0 rfl
                have e2 := free_blk hb3 0
                have e3 := lt_of_some hb3
                have HPUT := Lib.hid (HI.out.box.put f3 ko3 HR.out.1 rfl hown3 (by have := hown3.1; simpa using this.symm))
                clear hown3 hgrow3 hb3 f3 ko3 cb fb
                refine wpAnyIn_all (rs := [6]) (by kernel_rfl) (by simp) (fun i hi => ?_)
                obtain rfl : i = 6 := by simpa using hi
                clear hi
                refine wpOpIn_step rfl (fun K hK => ?_)
                go_simp
                refine hK _ _ ?_
                clear hK K
                refine wpAnyIn_done (by kernel_rfl) ?_ _
                gi_wp2
                gi_meet
                case rel => exact ⟨HPUT.out.1, HPUT.out.2.1, HPUT.out.2.2.1, HPUT.out.2.2.2 _ _ _ _ HI.out.str (by decide) (by omega), HPUT.out.2.2.2 _ _ _ _ HI.out.res (by decide) (by omega), HPUT.out.2.2.2 _ _ _ _ HFM.out (by decide) (by omega)⟩
        · refine wpOpIn_step rfl (fun K hK => ?_)
          go_simp
          refine hK _ _ ?_
          clear hK K
          refine wpAnyIn_all (rs := [0, 1, 2]) (by kernel_rfl) (by simp) (fun i hi => ?_)
          have hi' : i = 0 ∨ i = 1 ∨ i = 2 := by simpa using hi
          clear hi
          rcases hi' with rfl | rfl | rfl
          · refine wpOpIn_step rfl (fun K hK => ?_)
            go_simp
            refine hK _ _ ?_
            clear hK K
            refine wpAnyIn_all (rs := [1, 2]) (by kernel_rfl) (by simp) (fun i hi => ?_)
            have hi' : i = 1 ∨ i = 2 := by simpa using hi
            clear hi
            rcases hi' with rfl | rfl
            · refine wpOpIn_step rfl (fun K hK => ?_)
              go_simp
              refine hK _ _ ?_
              clear hK K
              refine wpAnyIn_all (rs := [2]) (by kernel_rfl) (by simp) (fun i hi => ?_)
              obtain rfl : i = 2 := by simpa using hi
              clear hi
              refine wpOpIn_step rfl (fun K hK => ?_)
              go_simp
              refine hK _ _ ?_
              clear hK K
              refine wpAnyIn_all (rs := [4]) (by kernel_rfl) (by simp) (fun i hi => ?_)
              obtain rfl : i = 4 := by simpa using hi
              clear hi
              refine wpOpIn_step rfl (fun K hK => ?_)
              go_simp
              refine hK _ _ ?_
              clear hK K
              refine wpAnyIn_all (rs := [5]) (by kernel_rfl) (by simp) (fun i hi => ?_)
              obtain rfl : i = 5 := by simpa using hi
              clear hi
              refine wpOpIn_step rfl (fun K hK => ?_)
              refine stepIn_append_string _ rfl (.tmp 48) (.tmp 52) 100 9 rfl bw 5 i5 Try.underlying100 Try.underlying9 hi5 hb1 hb2 hb3 (.slice ba nn bc) nn _ rfl HR.out.2.1.drew (s.extract from' y.p) rfl (by rw [ByteArray.size_extract]; unfold maxLen; omega) (by rw [ByteArray.size_extract]; omega) (by have := HI.out.box.le; exact this) ?_
              intro v3 w3 hown3 hgrow3
              refine hK _ _ ?_
              clear hK K
              rw [strCells_extract s from' y.p h1 hyp, ← encB_append, show (s.extract from' y.p).size = y.p - from' by rw [ByteArray.size_extract]; omega] at hown3
              obtain ⟨xa, xc, rfl⟩ := rwSlice hown3
              have f3 : FrT [5] bw W w3 := ((FrT.refl _ _ _).drew).append HR.out.2.1.drew (Nat.le_refl _) (by simp) hgrow3
              have ko3 : KeepsOthers W w3 := (KeepsOthers.drew W).trans (KeepsOthers.of_grownBy hgrow3 (fun j x hj hx => by
                rcases HR.out.2.1.drew.2 with ⟨hv, _⟩ | ⟨g', cap', cur, hv, _, hg, _⟩
                · rw [hv] at hj; cases hj
                · rw [hv] at hj; cases hj; rw [hg] at hx; cases hx; rfl))
              have hb3 := f3.blk HR.out.1 (by simp)
              have e1 := cell_blk hb3 0 rfl
              have e2 := free_blk hb3 0
              have e3 := lt_of_some hb3
              have HPUT := Lib.hid (HI.out.box.put f3 ko3 HR.out.1 rfl hown3 (by have := hown3.1; simpa using this.symm))
              clear hown3 hgrow3 hb3 f3 ko3 cb fb
              refine wpAnyIn_all (rs := [6]) (by kernel_rfl) (by simp) (fun i hi => ?_)
              obtain rfl : i = 6 := by simpa using hi
              clear hi
              refine wpOpIn_step rfl (fun K hK => ?_)
              go_simp
              refine hK _ _ ?_
              clear hK K
              refine wpAnyIn_done (by kernel_rfl) ?_ _
              gi_wp2
              gi_meet
              case rel => exact ⟨HPUT.out.1, HPUT.out.2.1, HPUT.out.2.2.1, HPUT.out.2.2.2 _ _ _ _ HI.out.str (by decide) (by omega), HPUT.out.2.2.2 _ _ _ _ HI.out.res (by decide) (by omega), HPUT.out.2.2.2 _ _ _ _ HFM.out (by decide) (by omega)⟩
            · refine wpOpIn_step rfl (fun K hK => ?_)
              go_simp
              refine hK _ _ ?_
              clear hK K
              refine wpAnyIn_all (rs := [1]) (by kernel_rfl) (by simp) (fun i hi => ?_)
              obtain rfl : i = 1 := by simpa using hi
              clear hi
              refine wpOpIn_step rfl (fun K hK => ?_)
              go_simp
              refine hK _ _ ?_
              clear hK K
              refine wpAnyIn_all (rs := [4]) (by kernel_rfl) (by simp) (fun i hi => ?_)
              obtain rfl : i = 4 := by simpa using hi
              clear hi
              refine wpOpIn_step rfl (fun K hK => ?_)
              go_simp
              refine hK _ _ ?_
              clear hK K
              refine wpAnyIn_all (rs := [5]) (by kernel_rfl) (by simp) (fun i hi => ?_)
              obtain rfl : i = 5 := by simpa using hi
              clear hi
              refine wpOpIn_step rfl (fun K hK => ?_)
              refine stepIn_append_string _ rfl (.tmp 48) (.tmp 52) 100 9 rfl bw 5 i5 Try.underlying100 Try.underlying9 hi5 hb1 hb2 hb3 (.slice ba nn bc) nn _ rfl HR.out.2.1.drew (s.extract from' y.p) rfl (by rw [ByteArray.size_extract]; unfold maxLen; omega) (by rw [ByteArray.size_extract]; omega) (by have := HI.out.box.le; exact this) ?_
              intro v3 w3 hown3 hgrow3
              refine hK _ _ ?_
              clear hK K
              rw [strCells_extract s from' y.p h1 hyp, ← encB_append, show (s.extract from' y.p).size = y.p - from' by rw [ByteArray.size_extract]; omega] at hown3
              obtain ⟨xa, xc, rfl⟩ := rwSlice hown3
              have f3 : FrT [5] bw W w3 := ((FrT.refl _ _ _).drew).append HR.out.2.1.drew (Nat.le_refl _) (by simp) hgrow3
              have ko3 : KeepsOthers W w3 := (KeepsOthers.drew W).trans (KeepsOthers.of_grownBy hgrow3 (fun j x hj hx => by
                rcases HR.out.2.1.drew.2 with ⟨hv, _⟩ | ⟨g', cap', cur, hv, _, hg, _⟩
                · rw [hv] at hj; cases hj
                · rw [hv] at hj; cases hj; rw [hg] at hx; cases hx; rfl))
              have hb3 := f3.blk HR.out.1 (by simp)
              have e1 := cell_blk hb3 0 rfl
              have e2 := free_blk hb3 0
              have e3 := lt_of_some hb3
              have HPUT := Lib.hid (HI.out.box.put f3 ko3 HR.out.1 rfl hown3 (by have := hown3.1; simpa using this.symm))
              clear hown3 hgrow3 hb3 f3 ko3 cb fb
              refine wpAnyIn_all (rs := [6]) (by kernel_rfl) (by simp) (fun i hi => ?_)
              obtain rfl : i = 6 := by simpa using hi
              clear hi
              refine wpOpIn_step rfl (fun K hK => ?_)
              go_simp
              refine hK _ _ ?_
              clear hK K
              refine wpAnyIn_done (by kernel_rfl) ?_ _
              gi_wp2
              gi_meet
              case rel => exact ⟨HPUT.out.1, HPUT.out.2.1, HPUT.out.2.2.1, HPUT.out.2.2.2 _ _ _ _ HI.out.str (by decide) (by omega), HPUT.out.2.2.2 _ _ _ _ HI.out.res (by decide) (by omega), HPUT.out.2.2.2 _ _ _ _ HFM.out (by decide) (by omega)⟩
          · refine wpOpIn_step rfl (fun K hK => ?_)
            go_simp
            refine hK _ _ ?_
            clear hK K
            refine wpAnyIn_all (rs := [0, 2]) (by kernel_rfl) (by simp) (fun i hi => ?_)
            have hi' : i = 0 ∨ i = 2 := by simpa using hi
            clear hi
            rcases hi' with rfl | rfl
            · refine wpOpIn_step rfl (fun K hK => ?_)
              go_simp
              refine hK _ _ ?_
              clear hK K
              refine wpAnyIn_all (rs := [2]) (by kernel_rfl) (by simp) (fun i hi => ?_)
              obtain rfl : i = 2 := by simpa using hi
              clear hi
              refine wpOpIn_step rfl (fun K hK => ?_)
              go_simp
              refine hK _ _ ?_
              clear hK K
              refine wpAnyIn_all (rs := [4]) (by kernel_rfl) (by simp) (fun i hi => ?_)
              obtain rfl : i = 4 := by simpa using hi
              clear hi
              refine wpOpIn_step rfl (fun K hK => ?_)
              go_simp
              refine hK _ _ ?_
              clear hK K
              refine wpAnyIn_all (rs := [5]) (by kernel_rfl) (by simp) (fun i hi => ?_)
              obtain rfl : i = 5 := by simpa using hi
              clear hi
              refine wpOpIn_step rfl (fun K hK => ?_)
              refine stepIn_append_string _ rfl (.tmp 48) (.tmp 52) 100 9 rfl bw 5 i5 Try.underlying100 Try.underlying9 hi5 hb1 hb2 hb3 (.slice ba nn bc) nn _ rfl HR.out.2.1.drew (s.extract from' y.p) rfl (by rw [ByteArray.size_extract]; unfold maxLen; omega) (by rw [ByteArray.size_extract]; omega) (by have := HI.out.box.le; exact this) ?_
              intro v3 w3 hown3 hgrow3
              refine hK _ _ ?_
              clear hK K
              rw [strCells_extract s from' y.p h1 hyp, ← encB_append, show (s.extract from' y.p).size = y.p - from' by rw [ByteArray.size_extract]; omega] at hown3
              obtain ⟨xa, xc, rfl⟩ := rwSlice hown3
              have f3 : FrT [5] bw W w3 := ((FrT.refl _ _ _).drew).append HR.out.2.1.drew (Nat.le_refl _) (by simp) hgrow3
              have ko3 : KeepsOthers W w3 := (KeepsOthers.drew W).trans (KeepsOthers.of_grownBy hgrow3 (fun j x hj hx => by
                rcases HR.out.2.1.drew.2 with ⟨hv, _⟩ | ⟨g', cap', cur, hv, _, hg, _⟩
                · rw [hv] at hj; cases hj
                · rw [hv] at hj; cases hj; rw [hg] at hx; cases hx; rfl))
              have hb3 := f3.blk HR.out.1 (by simp)
              have e1 := cell_blk hb3 0 rfl
              have e2 := free_blk hb3 0
              have e3 := lt_of_some hb3
              have HPUT := Lib.hid (HI.out.box.put f3 ko3 HR.out.1 rfl hown3 (by have := hown3.1; simpa using this.symm))
              clear hown3 hgrow3 hb3 f3 ko3 cb fb
              refine wpAnyIn_all (rs := [6]) (by kernel_rfl) (by simp) (fun i hi => ?_)
              obtain rfl : i = 6 := by simpa using hi
              clear hi
              refine wpOpIn_step rfl (fun K hK => ?_)
              go_simp
              refine hK _ _ ?_
              clear hK K
              refine wpAnyIn_done (by kernel_rfl) ?_ _
              gi_wp2
              gi_meet
              case rel => exact ⟨HPUT.out.1, HPUT.out.2.1, HPUT.out.2.2.1, HPUT.out.2.2.2 _ _ _ _ HI.out.str (by decide) (by omega), HPUT.out.2.2.2 _ _ _ _ HI.out.res (by decide) (by omega), HPUT.out.2.2.2 _ _ _ _ HFM.out (by decide) (by omega)⟩
            · refine wpOpIn_step rfl (fun K hK => ?_)
              go_simp
              refine hK _ _ ?_
              clear hK K
              refine wpAnyIn_all (rs := [0, 4]) (by kernel_rfl) (by simp) (fun i hi => ?_)
              have hi' : i = 0 ∨ i = 4 := by simpa using hi
              clear hi
              rcases hi' with rfl | rfl
              · refine wpOpIn_step rfl (fun K hK => ?_)
                go_simp
                refine hK _ _ ?_
                clear hK K
                refine wpAnyIn_all (rs := [4]) (by kernel_rfl) (by simp) (fun i hi => ?_)
                obtain rfl : i = 4 := by simpa using hi
                clear hi
                refine wpOpIn_step rfl (fun K hK => ?_)
                go_simp
                refine hK _ _ ?_
                clear hK K
                refine wpAnyIn_all (rs := [5]) (by kernel_rfl) (by simp) (fun i hi => ?_)
                obtain rfl : i = 5 := by simpa using hi
                clear hi
                refine wpOpIn_step rfl (fun K hK => ?_)
                refine stepIn_append_string _ rfl (.tmp 48) (.tmp 52) 100 9 rfl bw 5 i5 Try.underlying100 Try.underlying9 hi5 hb1 hb2 hb3 (.slice ba nn bc) nn _ rfl HR.out.2.1.drew (s.extract from' y.p) rfl (by rw [ByteArray.size_extract]; unfold maxLen; omega) (by rw [ByteArray.size_extract]; omega) (by have := HI.out.box.le; exact this) ?_
                intro v3 w3 hown3 hgrow3
                refine hK _ _ ?_
                clear hK K
                rw [strCells_extract s from' y.p h1 hyp, ← encB_append, show (s.extract from' y.p).size = y.p - from' by rw [ByteArray.size_extract]; omega] at hown3
                obtain ⟨xa, xc, rfl⟩ := rwSlice hown3
                have f3 : FrT [5] bw W w3 := ((FrT.refl _ _ _).drew).append HR.out.2.1.drew (Nat.le_refl _) (by simp) hgrow3
                have ko3 : KeepsOthers W w3 := (KeepsOthers.drew W).trans (KeepsOthers.of_grownBy hgrow3 (fun j x hj hx => by
                  rcases HR.out.2.1.drew.2 with ⟨hv, _⟩ | ⟨g', cap', cur, hv, _, hg, _⟩
                  · rw [hv] at hj; cases hj
                  · rw [hv] at hj; cases hj; rw [hg] at hx; cases hx; rfl))
                have hb3 := f3.blk HR.out.1 (by simp)
                have e1 := cell_blk hb3 0 rfl
                have e2 := free_blk hb3 0
                have e3 := lt_of_some hb3
                have HPUT := Lib.hid (HI.out.box.put f3 ko3 HR.out.1 rfl hown3 (by have := hown3.1; simpa using this.symm))
                clear hown3 hgrow3 hb3 f3 ko3 cb fb
                refine wpAnyIn_all (rs := [6]) (by kernel_rfl) (by simp) (fun i hi => ?_)
                obtain rfl : i = 6 := by simpa using hi
                clear hi
                refine wpOpIn_step rfl (fun K hK => ?_)
                go_simp
                refine hK _ _ ?_
                clear hK K
                refine wpAnyIn_done (by kernel_rfl) ?_ _
                gi_wp2
                gi_meet
                case rel => exact ⟨HPUT.out.1, HPUT.out.2.1, HPUT.out.2.2.1, HPUT.out.2.2.2 _ _ _ _ HI.out.str (by decide) (by omega), HPUT.out.2.2.2 _ _ _ _ HI.out.res (by decide) (by omega), HPUT.out.2.2.2 _ _ _ _ HFM.out (by decide) (by omega)⟩
              · refine wpOpIn_step rfl (fun K hK => ?_)
                go_simp
                refine hK _ _ ?_
                clear hK K
                refine wpAnyIn_all (rs := [0]) (by kernel_rfl) (by simp) (fun i hi => ?_)
                obtain rfl : i = 0 := by simpa using hi
                clear hi
                refine wpOpIn_step rfl (fun K hK => ?_)
                go_simp
                refine hK _ _ ?_
                clear hK K
                refine wpAnyIn_all (rs := [5]) (by kernel_rfl) (by simp) (fun i hi => ?_)
                obtain rfl : i = 5 := by simpa using hi
                clear hi
                refine wpOpIn_step rfl (fun K hK => ?_)
                refine stepIn_append_string _ rfl (.tmp 48) (.tmp 52) 100 9 rfl bw 5 i5 Try.underlying100 Try.underlying9 hi5 hb1 hb2 hb3 (.slice ba nn bc) nn _ rfl HR.out.2.1.drew (s.extract from' y.p) rfl (by rw [ByteArray.size_extract]; unfold maxLen; omega) (by rw [ByteArray.size_extract]; omega) (by have := HI.out.box.le; exact this) ?_
                intro v3 w3 hown3 hgrow3
                refine hK _ _ ?_
                clear hK K
                rw [strCells_extract s from' y.p h1 hyp, ← encB_append, show (s.extract from' y.p).size = y.p - from' by rw [ByteArray.size_extract]; omega] at hown3
                obtain ⟨xa, xc, rfl⟩ := rwSlice hown3
                have f3 : FrT [5] bw W w3 := ((FrT.refl _ _ _).drew).append HR.out.2.1.drew (Nat.le_refl _) (by simp) hgrow3
                have ko3 : KeepsOthers W w3 := (KeepsOthers.drew W).trans (KeepsOthers.of_grownBy hgrow3 (fun j x hj hx => by
                  rcases HR.out.2.1.drew.2 with ⟨hv, _⟩ | ⟨g', cap', cur, hv, _, hg, _⟩
                  · rw [hv] at hj; cases hj
                  · rw [hv] at hj; cases hj; rw [hg] at hx; cases hx; rfl))
                have hb3 := f3.blk HR.out.1 (by simp)
                have e1 := cell_blk hb3 0 rfl
                have e2 := free_blk hb3 0
                have e3 := lt_of_some hb3
                have HPUT := Lib.hid (HI.out.box.put f3 ko3 HR.out.1 rfl hown3 (by have := hown3.1; simpa using this.symm))
                clear hown3 hgrow3 hb3 f3 ko3 cb fb
                refine wpAnyIn_all (rs := [6]) (by kernel_rfl) (by simp) (fun i hi => ?_)
                obtain rfl : i = 6 := by simpa using hi
                clear hi
                refine wpOpIn_step rfl (fun K hK => ?_)
                go_simp
                refine hK _ _ ?_
                clear hK K
                refine wpAnyIn_done (by kernel_rfl) ?_ _
                gi_wp2
                gi_meet
                case rel => exact ⟨HPUT.out.1, HPUT.out.2.1, HPUT.out.2.2.1, HPUT.out.2.2.2 _ _ _ _ HI.out.str (by decide) (by omega), HPUT.out.2.2.2 _ _ _ _ HI.out.res (by decide) (by omega), HPUT.out.2.2.2 _ _ _ _ HFM.out (by decide) (by omega)⟩
          · refine wpOpIn_step rfl (fun K hK => ?_)
            go_simp
            refine hK _ _ ?_
            clear hK K
            refine wpAnyIn_all (rs := [0, 1]) (by kernel_rfl) (by simp) (fun i hi => ?_)
            have hi' : i = 0 ∨ i = 1 := by simpa using hi
            clear hi
            rcases hi' with rfl | rfl
            · refine wpOpIn_step rfl (fun K hK => ?_)
              go_simp
              refine hK _ _ ?_
              clear hK K
              refine wpAnyIn_all (rs := [1]) (by kernel_rfl) (by simp) (fun i hi => ?_)
              obtain rfl : i = 1 := by simpa using hi
              clear hi
              refine wpOpIn_step rfl (fun K hK => ?_)
              go_simp
              refine hK _ _ ?_
              clear hK K
              refine wpAnyIn_all (rs := [4]) (by kernel_rfl) (by simp) (fun i hi => ?_)
              obtain rfl : i = 4 := by simpa using hi
              clear hi
              refine wpOpIn_step rfl (fun K hK => ?_)
              go_simp
              refine hK _ _ ?_
              clear hK K
              refine wpAnyIn_all (rs := [5]) (by kernel_rfl) (by simp) (fun i hi => ?_)
              obtain rfl : i = 5 := by simpa using hi
              clear hi
              refine wpOpIn_step rfl (fun K hK => ?_)
              refine stepIn_append_string _ rfl (.tmp 48) (.tmp 52) 100 9 rfl bw 5 i5 Try.underlying100 Try.underlying9 hi5 hb1 hb2 hb3 (.slice ba nn bc) nn _ rfl HR.out.2.1.drew (s.extract from' y.p) rfl (by rw [ByteArray.size_extract]; unfold maxLen; omega) (by rw [ByteArray.size_extract]; omega) (by have := HI.out.box.le; exact this) ?_
              intro v3 w3 hown3 hgrow3
              refine hK _ _ ?_
              clear hK K
              rw [strCells_extract s from' y.p h1 hyp, ← encB_append, show (s.extract from' y.p).size = y.p - from' by rw [ByteArray.size_extract]; omega] at hown3
              obtain ⟨xa, xc, rfl⟩ := rwSlice hown3
              have f3 : FrT [5] bw W w3 := ((FrT.refl _ _ _).drew).append HR.out.2.1.drew (Nat.le_refl _) (by simp) hgrow3
              have ko3 : KeepsOthers W w3 := (KeepsOthers.drew W).trans (KeepsOthers.of_grownBy hgrow3 (fun j x hj hx => by
                rcases HR.out.2.1.drew.2 with ⟨hv, _⟩ | ⟨g', cap', cur, hv, _, hg, _⟩
                · rw [hv] at hj; cases hj
                · rw [hv] at hj; cases hj; rw [hg] at hx; cases hx; rfl))
              have hb3 := f3.blk HR.out.1 (by simp)
              have e1 := cell_blk hb3 0 rfl
              have e2 := free_blk hb3 0
              have e3 := lt_of_some hb3
              have HPUT := Lib.hid (HI.out.box.put f3 ko3 HR.out.1 rfl hown3 (by have := hown3.1; simpa using this.symm))
              clear hown3 hgrow3 hb3 f3 ko3 cb fb
              refine wpAnyIn_all (rs := [6]) (by kernel_rfl) (by simp) (fun i hi => ?_)
              obtain rfl : i = 6 := by simpa using hi
              clear hi
              refine wpOpIn_step rfl (fun K hK => ?_)
              go_simp
              refine hK _ _ ?_
              clear hK K
              refine wpAnyIn_done (by kernel_rfl) ?_ _
              gi_wp2
              gi_meet
              case rel => exact ⟨HPUT.out.1, HPUT.out.2.1, HPUT.out.2.2.1, HPUT.out.2.2.2 _ _ _ _ HI.out.str (by decide) (by omega), HPUT.out.2.2.2 _ _ _ _ HI.out.res (by decide) (by omega), HPUT.out.2.2.2 _ _ _ _ HFM.out (by decide) (by omega)⟩
            · refine wpOpIn_step rfl (fun K hK => ?_)
              go_simp
              refine hK _ _ ?_
              clear hK K
              refine wpAnyIn_all (rs := [0, 4]) (by kernel_rfl) (by simp) (fun i hi => ?_)
              have hi' : i = 0 ∨ i = 4 := by simpa using hi
              clear hi
              rcases hi' with rfl | rfl
              · refine wpOpIn_step rfl (fun K hK => ?_)
                go_simp
                refine hK _ _ ?_
                clear hK K
                refine wpAnyIn_all (rs := [4]) (by kernel_rfl) (by simp) (fun i hi => ?_)
                obtain rfl : i = 4 := by simpa using hi
                clear hi
                refine wpOpIn_step rfl (fun K hK => ?_)
                go_simp
                refine hK _ _ ?_
                clear hK K
                refine wpAnyIn_all (rs := [5]) (by kernel_rfl) (by simp) (fun i hi => ?_)
                obtain rfl : i = 5 := by simpa using hi
                clear hi
                refine wpOpIn_step rfl (fun K hK => ?_)
                refine stepIn_append_string _ rfl (.tmp 48) (.tmp 52) 100 9 rfl bw 5 i5 Try.underlying100 Try.underlying9 hi5 hb1 hb2 hb3 (.slice ba nn bc) nn _ rfl HR.out.2.1.drew (s.extract from' y.p) rfl (by rw [ByteArray.size_extract]; unfold maxLen; omega) (by rw [ByteArray.size_extract]; omega) (by have := HI.out.box.le; exact this) ?_
                intro v3 w3 hown3 hgrow3
                refine hK _ _ ?_
                clear hK K
                rw [strCells_extract s from' y.p h1 hyp, ← encB_append, show (s.extract from' y.p).size = y.p - from' by rw [ByteArray.size_extract]; omega] at hown3
                obtain ⟨xa, xc, rfl⟩ := rwSlice hown3
                have f3 : FrT [5] bw W w3 := ((FrT.refl _ _ _).drew).append HR.out.2.1.drew (Nat.le_refl _) (by simp) hgrow3
                have ko3 : KeepsOthers W w3 := (KeepsOthers.drew W).trans (KeepsOthers.of_grownBy hgrow3 (fun j x hj hx => by
                  rcases HR.out.2.1.drew.2 with ⟨hv, _⟩ | ⟨g', cap', cur, hv, _, hg, _⟩
                  · rw [hv] at hj; cases hj
                  · rw [hv] at hj; cases hj; rw [hg] at hx; cases hx; rfl))
                have hb3 := f3.blk HR.out.1 (by simp)
                have e1 := cell_blk hb3 0 rfl
                have e2 := free_blk hb3 0
                have e3 := lt_of_some hb3
                have HPUT := Lib.hid (HI.out.box.put f3 ko3 HR.out.1 rfl hown3 (by have := hown3.1; simpa using this.symm))
                clear hown3 hgrow3 hb3 f3 ko3 cb fb
                refine wpAnyIn_all (rs := [6]) (by kernel_rfl) (by simp) (fun i hi => ?_)
                obtain rfl : i = 6 := by simpa using hi
                clear hi
                refine wpOpIn_step rfl (fun K hK => ?_)
                go_simp
                refine hK _ _ ?_
                clear hK K
                refine wpAnyIn_done (by kernel_rfl) ?_ _
                gi_wp2
                gi_meet
                case rel => exact ⟨HPUT.out.1, HPUT.out.2.1, HPUT.out.2.2.1, HPUT.out.2.2.2 _ _ _ _ HI.out.str (by decide) (by omega), HPUT.out.2.2.2 _ _ _ _ HI.out.res (by decide) (by omega), HPUT.out.2.2.2 _ _ _ _ HFM.out (by decide) (by omega)⟩
              · refine wpOpIn_step rfl (fun K hK => ?_)
                go_simp
                refine hK _ _ ?_
                clear hK K
                refine wpAnyIn_all (rs := [0]) (by kernel_rfl) (by simp) (fun i hi => ?_)
                obtain rfl : i = 0 := by simpa using hi
                clear hi
                refine wpOpIn_step rfl (fun K hK => ?_)
                go_simp
                refine hK _ _ ?_
                clear hK K
                refine wpAnyIn_all (rs := [5]) (by kernel_rfl) (by simp) (fun i hi => ?_)
                obtain rfl : i = 5 := by simpa using hi
                clear hi
                refine wpOpIn_step rfl (fun K hK => ?_)
                refine stepIn_append_string _ rfl (.tmp 48) (.tmp 52) 100 9 rfl bw 5 i5 Try.underlying100 Try.underlying9 hi5 hb1 hb2 hb3 (.slice ba nn bc) nn _ rfl HR.out.2.1.drew (s.extract from' y.p) rfl (by rw [ByteArray.size_extract]; unfold maxLen; omega) (by rw [ByteArray.size_extract]; omega) (by have := HI.out.box.le; exact this) ?_
                intro v3 w3 hown3 hgrow3
                refine hK _ _ ?_
                clear hK K
                rw [strCells_extract s from' y.p h1 hyp, ← encB_append, show (s.extract from' y.p).size = y.p - from' by rw [ByteArray.size_extract]; omega] at hown3
                obtain ⟨xa, xc, rfl⟩ := rwSlice hown3
                have f3 : FrT [5] bw W w3 := ((FrT.refl _ _ _).drew).append HR.out.2.1.drew (Nat.le_refl _) (by simp) hgrow3
                have ko3 : KeepsOthers W w3 := (KeepsOthers.drew W).trans (KeepsOthers.of_grownBy hgrow3 (fun j x hj hx => by
                  rcases HR.out.2.1.drew.2 with ⟨hv, _⟩ | ⟨g', cap', cur, hv, _, hg, _⟩
                  · rw [hv] at hj; cases hj
                  · rw [hv] at hj; cases hj; rw [hg] at hx; cases hx; rfl))
                have hb3 := f3.blk HR.out.1 (by simp)
                have e1 := cell_blk hb3 0 rfl
                have e2 := free_blk hb3 0
                have e3 := lt_of_some hb3
                have HPUT := Lib.hid (HI.out.box.put f3 ko3 HR.out.1 rfl hown3 (by have := hown3.1; simpa using this.symm))
                clear hown3 hgrow3 hb3 f3 ko3 cb fb
                refine wpAnyIn_all (rs := [6]) (by kernel_rfl) (by simp) (fun i hi => ?_)
                obtain rfl : i = 6 := by simpa using hi
                clear hi
                refine wpOpIn_step rfl (fun K hK => ?_)
                go_simp
                refine hK _ _ ?_
                clear hK K
                refine wpAnyIn_done (by kernel_rfl) ?_ _
                gi_wp2
                gi_meet
                case rel => exact ⟨HPUT.out.1, HPUT.out.2.1, HPUT.out.2.2.1, HPUT.out.2.2.2 _ _ _ _ HI.out.str (by decide) (by omega), HPUT.out.2.2.2 _ _ _ _ HI.out.res (by decide) (by omega), HPUT.out.2.2.2 _ _ _ _ HFM.out (by decide) (by omega)⟩

      case rest =>
        obtain ⟨hbr, ko, kp, z0, z1, z2⟩ := hcut
        obtain ⟨ba2, bc2, hb2x, hrow2⟩ := hbr.row
        have d0 := cell_blk hb2x 0 rfl
        have d2 := cell_blk z2 0 rfl
        have g2 := free_blk z2 0
        obtain ⟨n2, hn2⟩ : ∃ n2, n2 = (encB ((stL s pre).2 ++ bytesOf s from' y.p)).length := ⟨_, rfl⟩
        rw [← hn2] at hb2x hrow2 d0
        simp at d0 d2
        have hn2l : n2 ≤ 5242880 := by rw [hn2, encB_len, List.length_append, bytesOf_len]; have := HI.out.ok.len; have := HI.out.ok.le; omega
        have lb := lt_of_some hb2x
        have lb1 := lt_of_some z2
        have hle2 := hbr.le
        have HR2 := Lib.hid (And.intro hb2x (And.intro hrow2 hn2))
        have HC := Lib.hid (And.intro hbr (And.intro ko (And.intro kp (And.intro z0 (And.intro z1 z2)))))
        clear hb2x hrow2 hn2 hbr ko kp z0 z1 z2 HR
        gi_wp2_with (gi_at_builtin; refine wpListIn_append_own _ rfl _ _ 100 rfl bw 5 i5 _ 1 1 Try.underlying100 hi5 hb1 hb2 hb3 rfl (by omega) _ n2 _ rfl (HR2.out.2.1.alloc _) ⟨wc.heap.size, 0, none⟩ 3 3 (encB [239, 191, 189]) rfl rfl (World.news_of_block (cs := #[.int .u8 239, .int .u8 191, .int .u8 189]) (t := 5) (fr := (0, 0)) (Go.heap_alloc_new wc _)) (by simp [encB, Value.oneCell']) (by unfold maxLen; omega) (by omega) (by simp; omega) ?_)
        intro v5 w5 hown5 hgrow5 _
        obtain ⟨g5, cap5, rfl⟩ := ownsRow_succ hown5
        have f5 : FrT [5] bw wc w5 := ((FrT.refl _ _ _).alloc _).append (HR2.out.2.1.alloc _) (Nat.le_refl _) (by simp) hgrow5
        have ko5 : KeepsOthers wc w5 := (KeepsOthers.alloc wc _).trans (KeepsOthers.of_grownBy hgrow5 (fun j x hj hx => by
          rcases (HR2.out.2.1.alloc _).2 with ⟨hv, _⟩ | ⟨g', cap', cur, hv, _, hg, _⟩
          · rw [hv] at hj; cases hj
          · rw [hv] at hj; cases hj; rw [hg] at hx; cases hx; rfl))
        have hb5 := f5.blk HR2.out.1 (by simp)
        have e1 := cell_blk hb5 0 rfl
        have e2 := free_blk hb5 0
        have e3 := lt_of_some hb5
        rw [← encB_append] at hown5
        have HPUT := Lib.hid (HC.out.1.put f5 ko5 HR2.out.1 rfl hown5 (by have := hown5.1; simpa using this.symm))
        have hm5 := HPUT.out.2.2.2 _ _ _ _ HC.out.2.2.2.2.2 (by decide) (by omega)
        have i1 := cell_blk hm5 0 rfl
        have i2 := free_blk hm5 0
        have i3 := lt_of_some hm5
        simp at i1
        have HM5 := Lib.hid hm5
        clear hown5 hgrow5 hb5 f5 ko5 hm5 d0 d2 g2
        gi_wp2
        have hst2 : stL s (pre ++ [y]) = (y.p + y.n, ((stL s pre).2 ++ bytesOf s from' y.p) ++ [239, 191, 189]) := by rw [stL_snoc, HFR.out]; rfl
        have hok := HI.out.ok.next (x := y) (by rw [← HFR.out]; exact ⟨h1, h2, h3, h4⟩)
        rw [← stL_snoc, hst2] at hok
        refine ⟨(HC.out.2.1.trans HPUT.out.2.1).trans (KeepsOthers.setCell _ _ _), (HC.out.2.2.1.trans HPUT.out.2.2.1).trans (kpY_set _ (by simp) HM5.out (by decide)), ?_⟩
        show BkI w.heap.size bw wq s (stL s (pre ++ [y])) _
        rw [hst2]
        exact ⟨HPUT.out.1.other HM5.out (by decide) (by omega) (by omega) _, set_other (HPUT.out.2.2.2 _ _ _ _ HC.out.2.2.2.1 (by decide) (by omega)) (by simp; omega) _, set_other (HPUT.out.2.2.2 _ _ _ _ HC.out.2.2.2.2.1 (by decide) (by omega)) (by simp; omega) _, set_blk HM5.out 0 _, hok⟩
    · have HNF : Hid (¬ pre ++ [y] <+: badL (pcs s)) := Lib.hid (fun h => hx (HFIT.out h))
      unfold Fits at hx
      by_cases h1 : y.p < from'
      · have p1 : (y.p : Int) < (from' : Int) := by omega
        clear hx
        gi_wp2
        exact ⟨KeepsOthers.setCell _ _ _, rfl, HNF.out⟩
      · have p1 : ¬ (y.p : Int) < (from' : Int) := by omega
        by_cases h2 : y.n < 1
        · have p2 : (y.n : Int) < 1 := by omega
          clear hx
          gi_wp2
          exact ⟨KeepsOthers.setCell _ _ _, rfl, HNF.out⟩
        · have p2 : ¬ (y.n : Int) < 1 := by omega
          by_cases h3 : 3 < y.n
          · have p3 : (3 : Int) < (y.n : Int) := by omega
            clear hx
            gi_wp2
            exact ⟨KeepsOthers.setCell _ _ _, rfl, HNF.out⟩
          · have p3 : ¬ (3 : Int) < (y.n : Int) := by omega
            have p4 : (s.size : Int) - (y.n : Int) < (y.p : Int) := by omega
            have q1 : IntKind.i64.wrap ((s.size : Int) - (y.n : Int)) = (s.size : Int) - (y.n : Int) := IntWalk.i64_in _ (by omega)
            clear hx
            gi_wp2
            exact ⟨KeepsOthers.setCell _ _ _, rfl, HNF.out⟩
  case done =>
    rintro D ys W hD rfl hI hKD
    obtain ⟨from', hfr⟩ : ∃ from', from' = (stL s (badL (pcs s))).1 := ⟨_, rfl⟩
    obtain ⟨hga, hgb⟩ := gathered s
    rw [← HU.out] at hgb
    have hfm := hI.from_
    rw [← hfr] at hga hgb hfm
    have lW := lt_of_some hI.from_
    have hbw := FP.out.2.2.1
    have hPz := FP.out.2.2.2.1
    have l1 : w.heap.size < W.heap.size := by omega
    have l2 : w.heap.size + 1 < W.heap.size := by omega
    have l3 : bw < W.heap.size := by omega
    have c0 := cell_blk hI.str 0 rfl
    have c2 := cell_blk hfm 0 rfl
    have p5 : (from' : Int) ≤ (s.size : Int) := by omega
    simp at c0 c2
    obtain ⟨ba, bc, hbx, hrow⟩ := hI.box.row
    have cb := cell_blk hbx 0 rfl
    have fb := free_blk hbx 0
    obtain ⟨nn, hnn⟩ : ∃ nn, nn = (encB (stL s (badL (pcs s))).2).length := ⟨_, rfl⟩
    rw [← hnn] at hbx hrow cb
    simp at cb
    have hnl : nn ≤ 4194304 := by rw [hnn, encB_len]; have := hI.ok.len; have := hI.ok.le; omega
    have HR := Lib.hid (And.intro hbx (And.intro hrow hnn))
    have HI := Lib.hid hI
    have HGB := Lib.hid hgb
    have HKD := Lib.hid hKD
    clear hbx hrow hnn hI hgb hfm hfr hKD hst
    gi_upto_region 16 with (fail)
    gi_cut [] from 60 (fun wc => BoxRow 100 5 bw bw (encB (textU (uns U))) wq wc ∧ wc.heap[w.heap.size]? = some (.cells #[.string s] 9 (0, 0)) ∧ wc.heap[w.heap.size + 1]? = some (.cells #[.bool false] 4 (0, 0)) ∧ wc.heap[D]? = some (.deferred (some [])))
    case first =>
      refine wpIn_region_any (by kernel_rfl) ?_
      change wpAnyIn _ _ _ _ _ _ _ _ _ (World.drew _)
      refine wpAnyIn_all (rs := [0, 1, 2]) (by kernel_rfl) (by simp) (fun i hi => ?_)
      have hi' : i = 0 ∨ i = 1 ∨ i = 2 := by simpa using hi
      clear hi
      rcases hi' with rfl | rfl | rfl
      · refine wpOpIn_step rfl (fun K hK => ?_)
        go_simp
        refine hK _ _ ?_
        clear hK K
        refine wpAnyIn_all (rs := [1, 2]) (by kernel_rfl) (by simp) (fun i hi => ?_)
        have hi' : i = 1 ∨ i = 2 := by simpa using hi
        clear hi
        rcases hi' with rfl | rfl
        · refine wpOpIn_step rfl (fun K hK => ?_)
          go_simp
          refine hK _ _ ?_
          clear hK K
          refine wpAnyIn_all (rs := [2]) (by kernel_rfl) (by simp) (fun i hi => ?_)
          obtain rfl : i = 2 := by simpa using hi
          clear hi
          refine wpOpIn_step rfl (fun K hK => ?_)
          go_simp
          refine hK _ _ ?_
          clear hK K
          refine wpAnyIn_all (rs := [3]) (by kernel_rfl) (by simp) (fun i hi => ?_)
          obtain rfl : i = 3 := by simpa using hi
          clear hi
          refine wpOpIn_step rfl (fun K hK => ?_)
          go_simp
          refine hK _ _ ?_
          clear hK K
          refine wpAnyIn_all (rs := [4]) (by kernel_rfl) (by simp) (fun i hi => ?_)
          obtain rfl : i = 4 := by simpa using hi
          clear hi
          refine wpOpIn_step rfl (fun K hK => ?_)
          refine stepIn_append_string _ rfl (.tmp 60) (.tmp 63) 100 9 rfl bw 5 i5 Try.underlying100 Try.underlying9 hi5 hb1 hb2 hb3 (.slice ba nn bc) nn _ rfl HR.out.2.1.drew (s.extract from' s.size) rfl (by rw [ByteArray.size_extract]; unfold maxLen; omega) (by rw [ByteArray.size_extract]; omega) (by have := HI.out.box.le; exact this) ?_
          intro v3 w3 hown3 hgrow3
          refine hK _ _ ?_
          clear hK K
          rw [strCells_extract s from' s.size hga (Nat.le_refl _), ← encB_append, show (s.extract from' s.size).size = s.size - from' by rw [ByteArray.size_extract]; omega, HGB.out] at hown3
          obtain ⟨xa, xc, rfl⟩ := rwSlice hown3
          have f3 : FrT [5] bw W w3 := ((FrT.refl _ _ _).drew).append HR.out.2.1.drew (Nat.le_refl _) (by simp) hgrow3
          have ko3 : KeepsOthers W w3 := (KeepsOthers.drew W).trans (KeepsOthers.of_grownBy hgrow3 (fun j x hj hx => by
            rcases HR.out.2.1.drew.2 with ⟨hv, _⟩ | ⟨g', cap', cur, hv, _, hg, _⟩
            · rw [hv] at hj; cases hj
            · rw [hv] at hj; cases hj; rw [hg] at hx; cases hx; rfl))
          have hb3 := f3.blk HR.out.1 (by simp)
          have e1 := cell_blk hb3 0 rfl
          have e2 := free_blk hb3 0
          have e3 := lt_of_some hb3
          have HPUT := Lib.hid (HI.out.box.put f3 ko3 HR.out.1 rfl hown3 (by have := hown3.1; simpa using this.symm))
          clear hown3 hgrow3 hb3 f3 ko3 cb fb
          refine wpAnyIn_all (rs := [5]) (by kernel_rfl) (by simp) (fun i hi => ?_)
          obtain rfl : i = 5 := by simpa using hi
          clear hi
          refine wpOpIn_step rfl (fun K hK => ?_)
          go_simp
          refine hK _ _ ?_
          clear hK K
          refine wpAnyIn_done (by kernel_rfl) ?_ _
          gi_wp2
          gi_meet
          case rel => exact ⟨HPUT.out.1, HPUT.out.2.2.2 _ _ _ _ HI.out.str (by decide) (by omega), HPUT.out.2.2.2 _ _ _ _ HI.out.res (by decide) (by omega), HPUT.out.2.1.same _ _ HKD.out rfl⟩
        · refine wpOpIn_step rfl (fun K hK => ?_)
          go_simp
          refine hK _ _ ?_
          clear hK K
          refine wpAnyIn_all (rs := [1]) (by kernel_rfl) (by simp) (fun i hi => ?_)
          obtain rfl : i = 1 := by simpa using hi
          clear hi
          refine wpOpIn_step rfl (fun K hK => ?_)
          go_simp
          refine hK _ _ ?_
          clear hK K
          refine wpAnyIn_all (rs := [3]) (by kernel_rfl) (by simp) (fun i hi => ?_)
          obtain rfl : i = 3 := by simpa using hi
          clear hi
          refine wpOpIn_step rfl (fun K hK => ?_)
          go_simp
          refine hK _ _ ?_
          clear hK K
          refine wpAnyIn_all (rs := [4]) (by kernel_rfl) (by simp) (fun i hi => ?_)
          obtain rfl : i = 4 := by simpa using hi
          clear hi
          refine wpOpIn_step rfl (fun K hK => ?_)
          refine stepIn_append_string _ rfl (.tmp 60) (.tmp 63) 100 9 rfl bw 5 i5 Try.underlying100 Try.underlying9 hi5 hb1 hb2 hb3 (.slice ba nn bc) nn _ rfl HR.out.2.1.drew (s.extract from' s.size) rfl (by rw [ByteArray.size_extract]; unfold maxLen; omega) (by rw [ByteArray.size_extract]; omega) (by have := HI.out.box.le; exact this) ?_
          intro v3 w3 hown3 hgrow3
          refine hK _ _ ?_
          clear hK K
          rw [strCells_extract s from' s.size hga (Nat.le_refl _), ← encB_append, show (s.extract from' s.size).size = s.size - from' by rw [ByteArray.size_extract]; omega, HGB.out] at hown3
          obtain ⟨xa, xc, rfl⟩ := rwSlice hown3
          have f3 : FrT [5] bw W w3 := ((FrT.refl _ _ _).drew).append HR.out.2.1.drew (Nat.le_refl _) (by simp) hgrow3
          have ko3 : KeepsOthers W w3 := (KeepsOthers.drew W).trans (KeepsOthers.of_grownBy hgrow3 (fun j x hj hx => by
            rcases HR.out.2.1.drew.2 with ⟨hv, _⟩ | ⟨g', cap', cur, hv, _, hg, _⟩
            · rw [hv] at hj; cases hj
            · rw [hv] at hj; cases hj; rw [hg] at hx; cases hx; rfl))
          have hb3 := f3.blk HR.out.1 (by simp)
          have e1 := cell_blk hb3 0 rfl
          have e2 := free_blk hb3 0
          have e3 := lt_of_some hb3
          have HPUT := Lib.hid (HI.out.box.put f3 ko3 HR.out.1 rfl hown3 (by have := hown3.1; simpa using this.symm))
          clear hown3 hgrow3 hb3 f3 ko3 cb fb
          refine wpAnyIn_all (rs := [5]) (by kernel_rfl) (by simp) (fun i hi => ?_)
          obtain rfl : i = 5 := by simpa using hi
          clear hi
          refine wpOpIn_step rfl (fun K hK => ?_)
          go_simp
          refine hK _ _ ?_
          clear hK K
          refine wpAnyIn_done (by kernel_rfl) ?_ _
          gi_wp2
          gi_meet
          case rel => exact ⟨HPUT.out.1, HPUT.out.2.2.2 _ _ _ _ HI.out.str (by decide) (by omega), HPUT.out.2.2.2 _ _ _ _ HI.out.res (by decide) (by omega), HPUT.out.2.1.same _ _ HKD.out rfl⟩
      · refine wpOpIn_step rfl (fun K hK => ?_)
        go_simp
        refine hK _ _ ?_
        clear hK K
        refine wpAnyIn_all (rs := [0, 2]) (by kernel_rfl) (by simp) (fun i hi => ?_)
        have hi' : i = 0 ∨ i = 2 := by simpa using hi
        clear hi
        rcases hi' with rfl | rfl
        · refine wpOpIn_step rfl (fun K hK => ?_)
          go_simp
          refine hK _ _ ?_
          clear hK K
          refine wpAnyIn_all (rs := [2]) (by kernel_rfl) (by simp) (fun i hi => ?_)
          obtain rfl : i = 2 := by simpa using hi
          clear hi
          refine wpOpIn_step rfl (fun K hK => ?_)
          go_simp
          refine hK _ _ ?_
          clear hK K
          refine wpAnyIn_all (rs := [3]) (by kernel_rfl) (by simp) (fun i hi => ?_)
          obtain rfl : i = 3 := by simpa using hi
          clear hi
          refine wpOpIn_step rfl (fun K hK => ?_)
          go_simp
          refine hK _ _ ?_
          clear hK K
          refine wpAnyIn_all (rs := [4]) (by kernel_rfl) (by simp) (fun i hi => ?_)
          obtain rfl : i = 4 := by simpa using hi
          clear hi
          refine wpOpIn_step rfl (fun K hK => ?_)
          refine stepIn_append_string _ rfl (.tmp 60) (.tmp 63) 100 9 rfl bw 5 i5 Try.underlying100 Try.underlying9 hi5 hb1 hb2 hb3 (.slice ba nn bc) nn _ rfl HR.out.2.1.drew (s.extract from' s.size) rfl (by rw [ByteArray.size_extract]; unfold maxLen; omega) (by rw [ByteArray.size_extract]; omega) (by have := HI.out.box.le; exact this) ?_
          intro v3 w3 hown3 hgrow3
          refine hK _ _ ?_
          clear hK K
          rw [strCells_extract s from' s.size hga (Nat.le_refl _), ← encB_append, show (s.extract from' s.size).size = s.size - from' by rw [ByteArray.size_extract]; omega, HGB.out] at hown3
          obtain ⟨xa, xc, rfl⟩ := rwSlice hown3
          have f3 : FrT [5] bw W w3 := ((FrT.refl _ _ _).drew).append HR.out.2.1.drew (Nat.le_refl _) (by simp) hgrow3
          have ko3 : KeepsOthers W w3 := (KeepsOthers.drew W).trans (KeepsOthers.of_grownBy hgrow3 (fun j x hj hx => by
            rcases HR.out.2.1.drew.2 with ⟨hv, _⟩ | ⟨g', cap', cur, hv, _, hg, _⟩
            · rw [hv] at hj; cases hj
            · rw [hv] at hj; cases hj; rw [hg] at hx; cases hx; rfl))
          have hb3 := f3.blk HR.out.1 (by simp)
          have e1 := cell_blk hb3 0 rfl
          have e2 := free_blk hb3 0
          have e3 := lt_of_some hb3
          have HPUT := Lib.hid (HI.out.box.put f3 ko3 HR.out.1 rfl hown3 (by have := hown3.1; simpa using this.symm))
          clear hown3 hgrow3 hb3 f3 ko3 cb fb
          refine wpAnyIn_all (rs := [5]) (by kernel_rfl) (by simp) (fun i hi => ?_)
          obtain rfl : i = 5 := by simpa using hi
          clear hi
          refine wpOpIn_step rfl (fun K hK => ?_)
          go_simp
          refine hK _ _ ?_
          clear hK K
          refine wpAnyIn_done (by kernel_rfl) ?_ _
          gi_wp2
          gi_meet
          case rel => exact ⟨HPUT.out.1, HPUT.out.2.2.2 _ _ _ _ HI.out.str (by decide) (by omega), HPUT.out.2.2.2 _ _ _ _ HI.out.res (by decide) (by omega), HPUT.out.2.1.same _ _ HKD.out rfl⟩
        · refine wpOpIn_step rfl (fun K hK => ?_)
          go_simp
          refine hK _ _ ?_
          clear hK K
          refine wpAnyIn_all (rs := [0, 3]) (by kernel_rfl) (by simp) (fun i hi => ?_)
          have hi' : i = 0 ∨ i = 3 := by simpa using hi
          clear hi
          rcases hi' with rfl | rfl
          · refine wpOpIn_step rfl (fun K hK => ?_)
            go_simp
            refine hK _ _ ?_
            clear hK K
            refine wpAnyIn_all (rs := [3]) (by kernel_rfl) (by simp) (fun i hi => ?_)
            obtain rfl : i = 3 := by simpa using hi
            clear hi
            refine wpOpIn_step rfl (fun K hK => ?_)
            go_simp
            refine hK _ _ ?_
            clear hK K
            refine wpAnyIn_all (rs := [4]) (by kernel_rfl) (by simp) (fun i hi => ?_)
            obtain rfl : i = 4 := by simpa using hi
            clear hi
            refine wpOpIn_step rfl (fun K hK => ?_)
            refine stepIn_append_string _ rfl (.tmp 60) (.tmp 63) 100 9 rfl bw 5 i5 Try.underlying100 Try.underlying9 hi5 hb1 hb2 hb3 (.slice ba nn bc) nn _ rfl HR.out.2.1.drew (s.extract from' s.size) rfl (by rw [ByteArray.size_extract]; unfold maxLen; omega) (by rw [ByteArray.size_extract]; omega) (by have := HI.out.box.le; exact this) ?_
            intro v3 w3 hown3 hgrow3
            refine hK _ _ ?_
            clear hK K
            rw [strCells_extract s from' s.size hga (Nat.le_refl _), ← encB_append, show (s.extract from' s.size).size = s.size - from' by rw [ByteArray.size_extract]; omega, HGB.out] at hown3
            obtain ⟨xa, xc, rfl⟩ := rwSlice hown3
            have f3 : FrT [5] bw W w3 := ((FrT.refl _ _ _).drew).append HR.out.2.1.drew (Nat.le_refl _) (by simp) hgrow3
            have ko3 : KeepsOthers W w3 := (KeepsOthers.drew W).trans (KeepsOthers.of_grownBy hgrow3 (fun j x hj hx => by
              rcases HR.out.2.1.drew.2 with ⟨hv, _⟩ | ⟨g', cap', cur, hv, _, hg, _⟩
              · rw [hv] at hj; cases hj
              · rw [hv] at hj; cases hj; rw [hg] at hx; cases hx; rfl))
            have hb3 := f3.blk HR.out.1 (by simp)
            have e1 := cell_blk hb3 0 rfl
            have e2 := free_blk hb3 0
            have e3 := lt_of_some hb3
            have HPUT := Lib.hid (HI.out.box.put f3 ko3 HR.out.1 rfl hown3 (by have := hown3.1; simpa using this.symm))
            clear hown3 hgrow3 hb3 f3 ko3 cb fb
            refine wpAnyIn_all (rs := [5]) (by kernel_rfl) (by simp) (fun i hi => ?_)
            obtain rfl : i = 5 := by simpa using hi
            clear hi
            refine wpOpIn_step rfl (fun K hK => ?_)
            go_simp
            refine hK _ _ ?_
            clear hK K
            refine wpAnyIn_done (by kernel_rfl) ?_ _
            gi_wp2
            gi_meet
            case rel => exact ⟨HPUT.out.1, HPUT.out.2.2.2 _ _ _ _ HI.out.str (by decide) (by omega), HPUT.out.2.2.2 _ _ _ _ HI.out.res (by decide) (by omega), HPUT.out.2.1.same _ _ HKD.out rfl⟩
          · refine wpOpIn_step rfl (fun K hK => ?_)
            go_simp
            refine hK _ _ ?_
            clear hK K
            refine wpAnyIn_all (rs := [0]) (by kernel_rfl) (by simp) (fun i hi => ?_)
            obtain rfl : i = 0 := by simpa using hi
            clear hi
            refine wpOpIn_step rfl (fun K hK => ?_)
            go_simp
            refine hK _ _ ?_
            clear hK K
            refine wpAnyIn_all (rs := [4]) (by kernel_rfl) (by simp) (fun i hi => ?_)
            obtain rfl : i = 4 := by simpa using hi
            clear hi
            refine wpOpIn_step rfl (fun K hK => ?_)
            refine stepIn_append_string _ rfl (.tmp 60) (.tmp 63) 100 9 rfl bw 5 i5 Try.underlying100 Try.underlying9 hi5 hb1 hb2 hb3 (.slice ba nn bc) nn _ rfl HR.out.2.1.drew (s.extract from' s.size) rfl (by rw [ByteArray.size_extract]; unfold maxLen; omega) (by rw [ByteArray.size_extract]; omega) (by have := HI.out.box.le; exact this) ?_
            intro v3 w3 hown3 hgrow3
            refine hK _ _ ?_
            clear hK K
            rw [strCells_extract s from' s.size hga (Nat.le_refl _), ← encB_append, show (s.extract from' s.size).size = s.size - from' by rw [ByteArray.size_extract]; omega, HGB.out] at hown3
            obtain ⟨xa, xc, rfl⟩ := rwSlice hown3
            have f3 : FrT [5] bw W w3 := ((FrT.refl _ _ _).drew).append HR.out.2.1.drew (Nat.le_refl _) (by simp) hgrow3
            have ko3 : KeepsOthers W w3 := (KeepsOthers.drew W).trans (KeepsOthers.of_grownBy hgrow3 (fun j x hj hx => by
              rcases HR.out.2.1.drew.2 with ⟨hv, _⟩ | ⟨g', cap', cur, hv, _, hg, _⟩
              · rw [hv] at hj; cases hj
              · rw [hv] at hj; cases hj; rw [hg] at hx; cases hx; rfl))
            have hb3 := f3.blk HR.out.1 (by simp)
            have e1 := cell_blk hb3 0 rfl
            have e2 := free_blk hb3 0
            have e3 := lt_of_some hb3
            have HPUT := Lib.hid (HI.out.box.put f3 ko3 HR.out.1 rfl hown3 (by have := hown3.1; simpa using this.symm))
            clear hown3 hgrow3 hb3 f3 ko3 cb fb
            refine wpAnyIn_all (rs := [5]) (by kernel_rfl) (by simp) (fun i hi => ?_)
            obtain rfl : i = 5 := by simpa using hi
            clear hi
            refine wpOpIn_step rfl (fun K hK => ?_)
            go_simp
            refine hK _ _ ?_
            clear hK K
            refine wpAnyIn_done (by kernel_rfl) ?_ _
            gi_wp2
            gi_meet
            case rel => exact ⟨HPUT.out.1, HPUT.out.2.2.2 _ _ _ _ HI.out.str (by decide) (by omega), HPUT.out.2.2.2 _ _ _ _ HI.out.res (by decide) (by omega), HPUT.out.2.1.same _ _ HKD.out rfl⟩
      · refine wpOpIn_step rfl (fun K hK => ?_)
        go_simp
        refine hK _ _ ?_
        clear hK K
        refine wpAnyIn_all (rs := [0, 1]) (by kernel_rfl) (by simp) (fun i hi => ?_)
        have hi' : i = 0 ∨ i = 1 := by simpa using hi
        clear hi
        rcases hi' with rfl | rfl
        · refine wpOpIn_step rfl (fun K hK => ?_)
          go_simp
          refine hK _ _ ?_
          clear hK K
          refine wpAnyIn_all (rs := [1]) (by kernel_rfl) (by simp) (fun i hi => ?_)
          obtain rfl : i = 1 := by simpa using hi
          clear hi
          refine wpOpIn_step rfl (fun K hK => ?_)
          go_simp
          refine hK _ _ ?_
          clear hK K
          refine wpAnyIn_all (rs := [3]) (by kernel_rfl) (by simp) (fun i hi => ?_)
          obtain rfl : i = 3 := by simpa using hi
          clear hi
          refine wpOpIn_step rfl (fun K hK => ?_)
          go_simp
          refine hK _ _ ?_
          clear hK K
          refine wpAnyIn_all (rs := [4]) (by kernel_rfl) (by simp) (fun i hi => ?_)
          obtain rfl : i = 4 := by simpa using hi
          clear hi
          refine wpOpIn_step rfl (fun K hK => ?_)
          refine stepIn_append_string _ rfl (.tmp 60) (.tmp 63) 100 9 rfl bw 5 i5 Try.underlying100 Try.underlying9 hi5 hb1 hb2 hb3 (.slice ba nn bc) nn _ rfl HR.out.2.1.drew (s.extract from' s.size) rfl (by rw [ByteArray.size_extract]; unfold maxLen; omega) (by rw [ByteArray.size_extract]; omega) (by have := HI.out.box.le; exact this) ?_
          intro v3 w3 hown3 hgrow3
          refine hK _ _ ?_
          clear hK K
          rw [strCells_extract s from' s.size hga (Nat.le_refl _), ← encB_append, show (s.extract from' s.size).size = s.size - from' by rw [ByteArray.size_extract]; omega, HGB.out] at hown3
          obtain ⟨xa, xc, rfl⟩ := rwSlice hown3
          have f3 : FrT [5] bw W w3 := ((FrT.refl _ _ _).drew).append HR.out.2.1.drew (Nat.le_refl _) (by simp) hgrow3
          have ko3 : KeepsOthers W w3 := (KeepsOthers.drew W).trans (KeepsOthers.of_grownBy hgrow3 (fun j x hj hx => by
            rcases HR.out.2.1.drew.2 with ⟨hv, _⟩ | ⟨g', cap', cur, hv, _, hg, _⟩
            · rw [hv] at hj; cases hj
            · rw [hv] at hj; cases hj; rw [hg] at hx; cases hx; rfl))
          have hb3 := f3.blk HR.out.1 (by simp)
          have e1 := cell_blk hb3 0 rfl
          have e2 := free_blk hb3 0
          have e3 := lt_of_some hb3
          have HPUT := Lib.hid (HI.out.box.put f3 ko3 HR.out.1 rfl hown3 (by have := hown3.1; simpa using this.symm))
          clear hown3 hgrow3 hb3 f3 ko3 cb fb
          refine wpAnyIn_all (rs := [5]) (by kernel_rfl) (by simp) (fun i hi => ?_)
          obtain rfl : i = 5 := by simpa using hi
          clear hi
          refine wpOpIn_step rfl (fun K hK => ?_)
          go_simp
          refine hK _ _ ?_
          clear hK K
          refine wpAnyIn_done (by kernel_rfl) ?_ _
          gi_wp2
          gi_meet
          case rel => exact ⟨HPUT.out.1, HPUT.out.2.2.2 _ _ _ _ HI.out.str (by decide) (by omega), HPUT.out.2.2.2 _ _ _ _ HI.out.res (by decide) (by omega), HPUT.out.2.1.same _ _ HKD.out rfl⟩
        · refine wpOpIn_step rfl (fun K hK => ?_)
          go_simp
          refine hK _ _ ?_
          clear hK K
          refine wpAnyIn_all (rs := [0, 3]) (by kernel_rfl) (by simp) (fun i hi => ?_)
          have hi' : i = 0 ∨ i = 3 := by simpa using hi
          clear hi
          rcases hi' with rfl | rfl
          · refine wpOpIn_step rfl (fun K hK => ?_)
            go_simp
            refine hK _ _ ?_
            clear hK K
            refine wpAnyIn_all (rs := [3]) (by kernel_rfl) (by simp) (fun i hi => ?_)
            obtain rfl : i = 3 := by simpa using hi
            clear hi
            refine wpOpIn_step rfl (fun K hK => ?_)
            go_simp
            refine hK _ _ ?_
            clear hK K
            refine wpAnyIn_all (rs := [4]) (by kernel_rfl) (by simp) (fun i hi => ?_)
            obtain rfl : i = 4 := by simpa using hi
            clear hi
            refine wpOpIn_step rfl (fun K hK => ?_)
            refine stepIn_append_string _ rfl (.tmp 60) (.tmp 63) 100 9 rfl bw 5 i5 Try.underlying100 Try.underlying9 hi5 hb1 hb2 hb3 (.slice ba nn bc) nn _ rfl HR.out.2.1.drew (s.extract from' s.size) rfl (by rw [ByteArray.size_extract]; unfold maxLen; omega) (by rw [ByteArray.size_extract]; omega) (by have := HI.out.box.le; exact this) ?_
            intro v3 w3 hown3 hgrow3
            refine hK _ _ ?_
            clear hK K
            rw [strCells_extract s from' s.size hga (Nat.le_refl _), ← encB_append, show (s.extract from' s.size).size = s.size - from' by rw [ByteArray.size_extract]; omega, HGB.out] at hown3
            obtain ⟨xa, xc, rfl⟩ := rwSlice hown3
            have f3 : FrT [5] bw W w3 := ((FrT.refl _ _ _).drew).append HR.out.2.1.drew (Nat.le_refl _) (by simp) hgrow3
            have ko3 : KeepsOthers W w3 := (KeepsOthers.drew W).trans (KeepsOthers.of_grownBy hgrow3 (fun j x hj hx => by
              rcases HR.out.2.1.drew.2 with ⟨hv, _⟩ | ⟨g', cap', cur, hv, _, hg, _⟩
              · rw [hv] at hj; cases hj
              · rw [hv] at hj; cases hj; rw [hg] at hx; cases hx; rfl))
            have hb3 := f3.blk HR.out.1 (by simp)
            have e1 := cell_blk hb3 0 rfl
            have e2 := free_blk hb3 0
            have e3 := lt_of_some hb3
            have HPUT := Lib.hid (HI.out.box.put f3 ko3 HR.out.1 rfl hown3 (by have := hown3.1; simpa using this.symm))
            clear hown3 hgrow3 hb3 f3 ko3 cb fb
            refine wpAnyIn_all (rs := [5]) (by kernel_rfl) (by simp) (fun i hi => ?_)
            obtain rfl : i = 5 := by simpa using hi
            clear hi
            refine wpOpIn_step rfl (fun K hK => ?_)
            go_simp
            refine hK _ _ ?_
            clear hK K
            refine wpAnyIn_done (by kernel_rfl) ?_ _
            gi_wp2
            gi_meet
            case rel => exact ⟨HPUT.out.1, HPUT.out.2.2.2 _ _ _ _ HI.out.str (by decide) (by omega), HPUT.out.2.2.2 _ _ _ _ HI.out.res (by decide) (by omega), HPUT.out.2.1.same _ _ HKD.out rfl⟩
          · refine wpOpIn_step rfl (fun K hK => ?_)
            go_simp
            refine hK _ _ ?_
            clear hK K
            refine wpAnyIn_all (rs := [0]) (by kernel_rfl) (by simp) (fun i hi => ?_)
            obtain rfl : i = 0 := by simpa using hi
            clear hi
            refine wpOpIn_step rfl (fun K hK => ?_)
            go_simp
            refine hK _ _ ?_
            clear hK K
            refine wpAnyIn_all (rs := [4]) (by kernel_rfl) (by simp) (fun i hi => ?_)
            obtain rfl : i = 4 := by simpa using hi
            clear hi
            refine wpOpIn_step rfl (fun K hK => ?_)
            refine stepIn_append_string _ rfl (.tmp 60) (.tmp 63) 100 9 rfl bw 5 i5 Try.underlying100 Try.underlying9 hi5 hb1 hb2 hb3 (.slice ba nn bc) nn _ rfl HR.out.2.1.drew (s.extract from' s.size) rfl (by rw [ByteArray.size_extract]; unfold maxLen; omega) (by rw [ByteArray.size_extract]; omega) (by have := HI.out.box.le; exact this) ?_
            intro v3 w3 hown3 hgrow3
            refine hK _ _ ?_
            clear hK K
            rw [strCells_extract s from' s.size hga (Nat.le_refl _), ← encB_append, show (s.extract from' s.size).size = s.size - from' by rw [ByteArray.size_extract]; omega, HGB.out] at hown3
            obtain ⟨xa, xc, rfl⟩ := rwSlice hown3
            have f3 : FrT [5] bw W w3 := ((FrT.refl _ _ _).drew).append HR.out.2.1.drew (Nat.le_refl _) (by simp) hgrow3
            have ko3 : KeepsOthers W w3 := (KeepsOthers.drew W).trans (KeepsOthers.of_grownBy hgrow3 (fun j x hj hx => by
              rcases HR.out.2.1.drew.2 with ⟨hv, _⟩ | ⟨g', cap', cur, hv, _, hg, _⟩
              · rw [hv] at hj; cases hj
              · rw [hv] at hj; cases hj; rw [hg] at hx; cases hx; rfl))
            have hb3 := f3.blk HR.out.1 (by simp)
            have e1 := cell_blk hb3 0 rfl
            have e2 := free_blk hb3 0
            have e3 := lt_of_some hb3
            have HPUT := Lib.hid (HI.out.box.put f3 ko3 HR.out.1 rfl hown3 (by have := hown3.1; simpa using this.symm))
            clear hown3 hgrow3 hb3 f3 ko3 cb fb
            refine wpAnyIn_all (rs := [5]) (by kernel_rfl) (by simp) (fun i hi => ?_)
            obtain rfl : i = 5 := by simpa using hi
            clear hi
            refine wpOpIn_step rfl (fun K hK => ?_)
            go_simp
            refine hK _ _ ?_
            clear hK K
            refine wpAnyIn_done (by kernel_rfl) ?_ _
            gi_wp2
            gi_meet
            case rel => exact ⟨HPUT.out.1, HPUT.out.2.2.2 _ _ _ _ HI.out.str (by decide) (by omega), HPUT.out.2.2.2 _ _ _ _ HI.out.res (by decide) (by omega), HPUT.out.2.1.same _ _ HKD.out rfl⟩

    case rest =>
      obtain ⟨hbr, z0, z1, zD⟩ := hcut
      clear c0 c2 l1 l2 l3 lW cb fb
      have b0 : Below w.heap.size w wc := B3.out.trans (hbr.bel.mono (by have := HBW.out; omega))
      have hsl : Sl16 wc a2 U := HC3.out.below (by rw [← HBW.out]; exact hbr.bel)
      obtain ⟨ba2, bc2, hb2x, hrow2⟩ := hbr.row
      have d0 := cell_blk hb2x 0 rfl
      have hconv := run_string_row (P := Try.prog) (w := wc) (src := 100) (dst := 9) (l := textU (uns U)) Try.underlying100 Try.underlying5 Try.underlying9 hrow2 (textU_le hsl.bnd)
      obtain ⟨n2, hn2⟩ : ∃ n2, n2 = (encB (textU (uns U))).length := ⟨_, rfl⟩
      rw [← hn2] at hb2x hrow2 d0 hconv
      have hlx := callsIn_wide.1 (lone_in wc x hsl (by rw [← HX.out]; omega))
      have hlz : loneL (uns U) = [] := by rw [HU.out]; exact from_lone s
      rw [← HX.out, hlz] at hlx
      clear hlz
      simp at d0
      have Z := Lib.hid (And.intro z0 (And.intro z1 (And.intro zD b0)))
      have HLX := Lib.hid hlx
      have le1 := lt_of_some z0
      have le2 := lt_of_some z1
      have le3 := lt_of_some hb2x
      clear hbr z0 z1 zD b0 hsl hb2x hrow2 hn2 hlx
      gi_wp2_with fail
      refine ⟨trivial, ?_⟩
      refine (callsIn_wide.2 HLX.out).mono ?_
      rintro e wl ⟨pa, pc, rfl, _, bl⟩
      simp only [List.length_nil]
      have hsl : wc.heap.size ≤ wl.heap.size := bl.size
      have Z2 := Lib.hid (And.intro ((bl.block _ (lt_of_some Z.out.1)).trans Z.out.1) (And.intro ((bl.block _ (lt_of_some Z.out.2.1)).trans Z.out.2.1) (And.intro ((bl.block _ (lt_of_some Z.out.2.2.1)).trans Z.out.2.2.1) (Z.out.2.2.2.trans (bl.mono (by omega))))))
      clear bl d0 hconv HLX
      gi_wp2_with fail
      refine ⟨trivial, ?_⟩
      rw [HN.out]
      refine (callsIn_wide.2 (text_calls wl ca (HA.out.below Z2.out.2.2.2) (by rw [← HN.out]; omega))).mono ?_
      rw [← HN.out]
      rintro e wt ⟨rfl, bt⟩
      have hst : wl.heap.size ≤ wt.heap.size := bt.size
      have lT : (strB (textU (uns us))).size ≤ 4194304 := by have h1 := textU_len (uns us); have h2 := uns_len us; rw [strB_size]; have := HN.out; omega
      have hTB := text_bad us HA.out.bnd
      have hTF := mended us HA.out.bnd
      obtain ⟨T, hT⟩ : ∃ T, T = strB (textU (uns us)) := ⟨_, rfl⟩
      rw [← hT] at lT hTB hTF ⊢
      have hFT := fun w => from_calls T (by omega) w
      rw [hTF] at hFT
      have hVl : (setAll us (loneL (uns us))).length = n := by rw [setAll_len, HN.out]
      rw [hVl] at hFT
      have HFT := Lib.hid hFT
      have HTB := Lib.hid hTB
      have HVL := Lib.hid hVl
      clear hTB hTF hFT hT hVl
      have Z3 := Lib.hid (And.intro ((bt.block _ (lt_of_some Z2.out.1)).trans Z2.out.1) (And.intro ((bt.block _ (lt_of_some Z2.out.2.1)).trans Z2.out.2.1) (And.intro ((bt.block _ (lt_of_some Z2.out.2.2.1)).trans Z2.out.2.2.1) (Z2.out.2.2.2.trans (bt.mono (by omega))))))
      clear bt Z Z2
      gi_wp2_with fail
      refine ⟨trivial, ?_⟩
      refine (callsIn_wide.2 (bad_calls T _)).mono ?_
      rintro e wb ⟨rfl, rfl⟩
      obtain ⟨qb, hqb⟩ : ∃ qb, qb = wt.heap.size := ⟨_, rfl⟩
      obtain ⟨Q, hQ⟩ : ∃ Q, Q = (wt.alloc (.cells #[.int .i64 0] 3)).alloc (.cells #[.string T] 9) := ⟨_, rfl⟩
      have FQ : Hid (Q.heap[qb]? = some (.cells #[.int .i64 0] 3 (0, 0)) ∧ Q.heap[qb + 1]? = some (.cells #[.string T] 9 (0, 0)) ∧ Q.heap[w.heap.size + 1]? = some (.cells #[.bool false] 4 (0, 0)) ∧ Q.heap[D]? = some (.deferred (some [])) ∧ Q.heap.size = qb + 2 ∧ Below w.heap.size w Q ∧ w.heap.size + 2 ≤ qb) := Lib.hid (by
        have h1 := lt_of_some Z3.out.2.1
        refine ⟨?_, ?_, ?_, ?_, ?_, ?_, by omega⟩
        · rw [hQ, hqb]; exact alloc_blk (Go.heap_alloc_new wt _) _
        · rw [hQ, hqb]; have := Go.heap_alloc_new (wt.alloc (.cells #[.int .i64 0] 3)) (.cells #[.string T] 9); rwa [World.size_alloc] at this
        · rw [hQ]; exact alloc_blk (alloc_blk Z3.out.2.1 _) _
        · rw [hQ]; exact alloc_blk (alloc_blk Z3.out.2.2.1 _) _
        · rw [hQ, hqb]; simp
        · rw [hQ]; exact (Z3.out.2.2.2.alloc (by omega) _).alloc (by simp; omega) _)
      have hDq : D < qb := by rw [hqb]; exact lt_of_some Z3.out.2.2.1
      simp only [World.size_alloc, ← hqb, ← hQ]
      clear hqb hQ Z3 hst hsl le1 le2 le3
      have hst2 := bad_stops 8 (qb + 1) T (by omega) (w0 := Q) Q FQ.out.2.1
      gi_wp2_with fail
      refine wpIn_rangeFunc_ownF rfl (by decide) (gf := 76) (lb := #[.pointer (some ⟨qb + 1, 0, none⟩)]) rfl trivial (enters_of Try.func76 (by kernel_rfl) rfl)
        hst2 (fun h k => h.trans k) (kpY_b (Nat.le_refl _)) (Below.refl _ _) (fun _ => rfl)
        (fun _ W => Below Q.heap.size Q W) (fun _ _ _ => False) (fun _ _ _ _ hs hg hr => hs.grown hg hs.size (fun r e => (hr r e).1)) (fun _ _ _ _ _ hs _ _ => hs) (Below.refl _ _)
        ?fr2 ?assign2 ?body2 ?done2 ?stop2
      case assign2 =>
        intro l y W K hK
        simp only [encBd]
        gi_wp2
        exact hK
      case body2 =>
        intro l pre y W hI hlt
        rw [HTB.out] at hlt
        exact absurd hlt (Nat.not_lt_zero _)
      case stop2 =>
        intro D2 c pre W _ _ h _
        exact h.elim
      case done2 =>
        rintro D2 ys W2 hD2 _ hI2 hKD2
        have hqs := FQ.out.2.2.2.2.1
        have hb2 : w.heap.size + 2 ≤ qb := FQ.out.2.2.2.2.2.2
        have Z4 : Hid (W2.heap[qb]? = some (.cells #[.int .i64 0] 3 (0, 0)) ∧ W2.heap[w.heap.size + 1]? = some (.cells #[.bool false] 4 (0, 0)) ∧ W2.heap[D]? = some (.deferred (some [])) ∧ W2.heap[D2]? = some (.deferred (some [])) ∧ Below w.heap.size w W2) := Lib.hid ⟨(hI2.block _ (by omega)).trans FQ.out.1, (hI2.block _ (by omega)).trans FQ.out.2.2.1, (hI2.block _ (by omega)).trans FQ.out.2.2.2.1, hKD2, FQ.out.2.2.2.2.2.1.trans (hI2.mono (by omega))⟩
        have hD12 : D < D2 := by omega
        clear hI2 hKD2 hst2
        gi_wp2_with fail
        refine ⟨trivial, ?_⟩
        refine (callsIn_wide.2 (HFT.out _)).mono ?_
        rintro e w5 ⟨a14, rfl, hc5, b5⟩
        have hs5 : W2.heap.size ≤ w5.heap.size := b5.size
        have Z5 : Hid (w5.heap[qb]? = some (.cells #[.int .i64 0] 3 (0, 0)) ∧ w5.heap[w.heap.size + 1]? = some (.cells #[.bool false] 4 (0, 0)) ∧ w5.heap[D]? = some (.deferred (some [])) ∧ w5.heap[D2]? = some (.deferred (some [])) ∧ Below w.heap.size w w5) := Lib.hid ⟨(b5.block _ (lt_of_some Z4.out.1)).trans Z4.out.1, (b5.block _ (lt_of_some Z4.out.2.1)).trans Z4.out.2.1, (b5.block _ (lt_of_some Z4.out.2.2.1)).trans Z4.out.2.2.1, (b5.block _ (lt_of_some Z4.out.2.2.2.1)).trans Z4.out.2.2.2.1, Z4.out.2.2.2.2.trans (b5.mono (by have := lt_of_some Z4.out.2.1; omega))⟩
        have HSL := Lib.hid hc5.sl
        have hlr := lt_of_some Z4.out.2.1
        clear b5 hc5 Z4
        have HZ := Lib.hid (R16.zero (Below.refl w5.heap.size w5) (Nat.le_refl _))
        have HA5 := Lib.hid ((HA.out.below Z5.out.2.2.2.2).below ((Below.refl _ w5).alloc (Nat.le_refl _) (.cells #[] 79)))
        have hle5 := HZ.out.le
        gi_wp2_with (gi_at_builtin; refine wpListIn_append_any _ rfl (.tmp 89) (.tmp 90) 73 rfl w5.heap.size 79 i79 _ 1 2 Try.underlying73 hi79 ha1 ha2 ha3 rfl (by omega) _ 0 [] rfl HZ.out.row a n ca (enc16 us) rfl (by rw [enc16_len, HN.out]; simp) (by rw [HN.out]; exact HA5.out.src) enc16_one (by unfold maxLen; omega) (by omega) hle5 ?_)
        intro a6 c6 w6 hown6 hgrow6
        have HR6 : Hid (R16 w5.heap.size w5 w6 a6 n c6 us) := Lib.hid (by
          have h := HZ.out.push (c' := c6) (a' := a6) (m := n) (vs := us) HA.out.bnd HN.out.symm (by rw [Nat.zero_add]; exact hown6) hgrow6
          rw [Nat.zero_add] at h; exact h)
        clear hown6 hgrow6 HZ HA5 hle5
        gi_wp2_with fail
        refine ⟨trivial, ?_⟩
        rw [HN.out]
        refine (callsIn_wide.2 (callsIn_wide.1 (lone_in w6 ca (HA.out.below (Z5.out.2.2.2.2.trans (HR6.out.bel.mono (by omega)))) (by rw [← HN.out]; omega)))).mono ?_
        rw [← HN.out]
        obtain ⟨L, hL⟩ : ∃ L, L = loneL (uns us) := ⟨_, rfl⟩
        rw [← hL] at HSL HVL ⊢
        have hLp : ∀ p ∈ L, p < n := by rw [hL, HN.out]; exact lone_lt us
        have hLl : L.length ≤ 1048576 := by have h1 := loneL_len (uns us); have h2 := uns_len us; rw [hL]; have := HN.out; omega
        obtain ⟨m, hm⟩ : ∃ m, m = L.length := ⟨_, rfl⟩
        rw [← hm] at hLl ⊢
        have HM := Lib.hid hm
        have HLP := Lib.hid hLp
        clear hL hLp hm
        rintro e w7 ⟨pa, pc, rfl, hrow7, b7⟩
        have hs7 : w6.heap.size ≤ w7.heap.size := b7.size
        have LB : Hid (∀ x, (Value.slice a6 n c6).ownBlock = some x → w5.heap.size ≤ x ∧ x < w6.heap.size) := Lib.hid (fun x hx => HR6.out.row.lt x hx)
        have HR7 := Lib.hid (HR6.out.below b7)
        have HL7 := Lib.hid hrow7
        clear hrow7 b7 HR6
        have NEW : Hid (∀ x, (Value.slice pa m pc).ownBlock = some x → (Value.slice a6 n c6).ownBlock ≠ some x) := Lib.hid (fun x hx he => by
          have h1 := (HL7.out.lt x hx).1
          have h2 := LB.out x he
          omega)
        gi_wp2_with fail
        gi_loopw [95] (fun v wr => ∃ i : Nat, v = .int .i64 (i : Nat) ∧ i ≤ m ∧ R16 w5.heap.size w5 wr a6 n c6 (setAll us (L.take i)) ∧ w7.grownBy wr (Value.slice a6 n c6).ownBlock) (fun v _ => m - (intOf v).toNat)
        case atStart => exact ⟨0, rfl, Nat.zero_le _, HR7.out, grown_self _ _⟩
        case round =>
          obtain ⟨i, rfl, hi, hr, hgr⟩ := hrel
          by_cases hlt : i < m
          · have hrw := grown_row hgr HL7.out NEW.out
            obtain ⟨p, hp⟩ : ∃ p, L[i]? = some p := ⟨_, List.getElem?_eq_getElem (by rw [← HM.out]; exact hlt)⟩
            have hpn : p < n := HLP.out p (List.mem_of_getElem? hp)
            obtain ⟨g, _, hv, _, hgl⟩ := hr.row.form (by omega)
            obtain ⟨gw, _, hv', _, hgwl⟩ := hrw.form (by omega)
            obtain ⟨rfl, rfl⟩ : a6 = some ⟨g, 0, none⟩ ∧ c6 = _ := by simpa using hv
            obtain ⟨rfl, rfl⟩ : pa = some ⟨gw, 0, none⟩ ∧ pc = _ := by simpa using hv'
            have hpe : (encP L)[i]? = some (.int .i64 (p : Int)) := by simp [encP, hp]
            obtain ⟨u, hu⟩ : ∃ u, (enc16 (setAll us (L.take i)))[p]? = some u := ⟨_, List.getElem?_eq_getElem (by rw [enc16_len, hr.len]; exact hpn)⟩
            have c0 := (hr.row.cellAt p (by omega)).trans hu
            have f0 := hr.row.frozenAt p
            have c1 := (hrw.cellAt i (by omega)).trans hpe
            have p1 : (i : Int) < (m : Int) := by omega
            have p2 : (0 : Int) ≤ (i : Int) := by omega
            have p3 : ¬ (p : Int) < (0 : Int) := by omega
            have p4 : ¬ (n : Int) ≤ (p : Int) := by omega
            have p5 : (0 : Int) ≤ (p : Int) := by omega
            have p6 : (p : Int) < (n : Int) := by omega
            have hgw := (HL7.out.lt gw rfl)
            have hgg := LB.out g rfl
            have HR := Lib.hid (And.intro hr (And.intro hgr hp))
            clear hr hgr hrw hp hpe hv hv' hu
            gi_wp2_with fail
            go_roundw
            case rel =>
              refine ⟨i + 1, by go_num, hlt, ?_, ?_⟩
              · have h1 := (World.ownsRow.stored HR.out.1.row p (.int .u16 65533)).1
                have hbl := HR.out.1.bel.setCell (p := ⟨g, p, none⟩) hgg.1 (.int .u16 65533)
                rw [setAll_step us L i p HR.out.2.2]
                refine ⟨?_, by rw [List.length_set]; exact HR.out.1.len, fun x hx => ?_, hbl, hbl.size⟩
                · simpa [enc16, List.map_set] using h1
                · rcases List.mem_or_eq_of_mem_set hx with h2 | h2
                  · exact HR.out.1.bnd x h2
                  · omega
              · exact grown_trans HR.out.2.1 (grown_set wr ⟨g, p, none⟩ _) (fun x e => by cases e; exact .inl rfl)
            case measure => simp [intOf]; omega
          · obtain rfl : i = m := by omega
            rw [List.take_of_length_le (by rw [HM.out]; exact Nat.le_refl _)] at hr
            have hsame := ref_same n c6 (HSL.out.below hr.bel) (hr.sl (by omega))
            rw [HVL.out, decide_eq_true rfl] at hsame
            have z0 := (hr.bel.block _ (lt_of_some Z5.out.1)).trans Z5.out.1
            have z1 := (hr.bel.block _ (lt_of_some Z5.out.2.1)).trans Z5.out.2.1
            have z2 := (hr.bel.block _ (lt_of_some Z5.out.2.2.1)).trans Z5.out.2.2.1
            have z3 := (hr.bel.block _ (lt_of_some Z5.out.2.2.2.1)).trans Z5.out.2.2.2.1
            have zb := Z5.out.2.2.2.2.trans (hr.bel.mono (by have := lt_of_some Z5.out.2.1; omega))
            have d0 := cell_blk z0 0 rfl
            have d1 := cell_blk z1 0 rfl
            have f1 := free_blk z1 0
            have le1 := lt_of_some z1
            simp at d0 d1
            have HSAME := Lib.hid hsame
            have Z := Lib.hid (And.intro z1 (And.intro z2 (And.intro z3 zb)))
            have p1 : ¬ (i : Int) < (i : Int) := by omega
            clear hr hgr hsame z0 z1 z2 z3 zb hlt
            gi_wp2_with fail
            refine ⟨trivial, ?_⟩
            refine (callsIn_wide.2 HSAME.out).mono ?_
            rintro e w8 ⟨rfl, k8, rfl⟩
            gi_wp2
            have hk2 : ((wr.drewN k8).setCell ⟨w.heap.size + 1, 0, none⟩ (.bool true)).heap[D2]? = some (.deferred (some [])) := (KeepsOthers.setCell (wr.drewN k8) _ _).same _ _ Z.out.2.2.1 rfl
            have hk1 : ((wr.drewN k8).setCell ⟨w.heap.size + 1, 0, none⟩ (.bool true)).heap[D]? = some (.deferred (some [])) := (KeepsOthers.setCell (wr.drewN k8) _ _).same _ _ Z.out.2.1 rfl
            have hc := World.cell?_setCell_same' (wr.drewN k8) ⟨w.heap.size + 1, 0, none⟩ (.bool true) (by show (wr.cell? _).isSome = true; rw [d1]; rfl)
            have hk1' := (World.putObj_heap_other (w := (wr.drewN k8).setCell ⟨w.heap.size + 1, 0, none⟩ (.bool true)) (r := D2) (o := .deferred none) (fun e => by omega)).trans hk1
            have hc2 := cell_kept hc (grownBy_putObj' _ D2 (.deferred none)) (fun r e => by cases e; exact ⟨_, hk2, rfl⟩)
            have hc3 := cell_kept hc2 (grownBy_putObj' _ D (.deferred none)) (fun r e => by cases e; exact ⟨_, hk1', rfl⟩)
            refine ⟨by simp, .inl ⟨_, _, rfl, run_takeDeferred hk2, ?_⟩⟩
            refine ⟨by simp, .inl ⟨_, _, rfl, run_takeDeferred hk1', ?_⟩⟩
            have hbz : Below w.heap.size w ((wr.drewN k8).setCell ⟨w.heap.size + 1, 0, none⟩ (.bool true)) := (Z.out.2.2.2.trans (((FrT.refl [] _ wr).drewN k8).below (Nat.le_refl wr.heap.size) |>.mono (by omega))).setCell (p := ⟨w.heap.size + 1, 0, none⟩) (by simp) _
            refine ⟨.bool true, ?_, rfl, hbz.trans ((belowK_b (w := w) (Nat.le_refl _) _ D2 _ _ (by omega) hk2 rfl rfl).trans (belowK_b (w := w) (Nat.le_refl _) _ D _ _ (by omega) hk1' rfl rfl))⟩
            simp [results, Try.f10, go_sem, hc3]
  case stop =>
    rintro D c pre W _ hp ⟨_, hn⟩ _
    exact absurd hp hn

theorem back_walk (w : World) (s : ByteArray) (hs : s.size ≤ 1048576) {a : Option Addr} {us : List Nat} (ca : Nat) (hA : Sl16 w a us) (hu : us.length ≤ 1048576) :
    Calls Try.prog 10 #[.string s, .slice a us.length ca] w fun e w' => e = .returned (.bool true) ∧ Below w.heap.size w w' := callsIn_wide.1 (back_in w s hs ca hA hu)
end Go.Proofs.Ytlmbpbijhhnhpaa
