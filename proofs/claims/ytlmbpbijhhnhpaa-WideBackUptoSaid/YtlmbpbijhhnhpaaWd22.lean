/- Lone, by both hands. -/
import Derived.Test.YtlmbpbijhhnhpaaWd21
namespace Go.Proofs.Ytlmbpbijhhnhpaa
open Go.RowKit Go.Shelf
attribute [local go_sem] Oper.semAt_some
set_option linter.unusedVariables false
set_option maxRecDepth 100000

def isHalf (c : Nat) : Bool := decide (55296 ≤ c ∧ c ≤ 57343)
/-- Where halves stand alone. -/
def loneL (l : List Un) : List Nat := (l.filter fun x => isHalf x.c).map fun x => x.p
def encP (l : List Nat) : List Value := l.map fun (p : Nat) => Value.int .i64 (p : Int)
theorem encP_len (l : List Nat) : (encP l).length = l.length := by simp [encP]
theorem encP_append (a b : List Nat) : encP (a ++ b) = encP a ++ encP b := by simp [encP]
theorem loneL_len (l : List Un) : (loneL l).length ≤ l.length := by simp [loneL]; exact List.length_filter_le _ _
theorem loneL_snoc (l : List Un) (x : Un) : loneL (l ++ [x]) = loneL l ++ if isHalf x.c then [x.p] else [] := by
  cases h : isHalf x.c <;> simp [loneL, h]
theorem info3w : (Try.prog.info? 3).map (fun i => (i.zero, i.size, i.bytes)) = some (some (.int .i64 0), 1, 8) := by kernel_rfl

structure LnI (w0 : World) (l : List Un) (uv : Value) (ps : List Nat) (v : Value) (w : World) : Prop where
  un : UnI w0 l uv w
  row : w.ownsRow w0.heap.size 3 1 v ps.length (encP ps)

theorem take_snoc_lone {l : List Un} {k : Nat} {x : Un} (h : l[k]? = some x) : loneL (l.take (k + 1)) = loneL (l.take k) ++ if isHalf x.c then [x.p] else [] := by
  rw [List.take_add_one, h]
  exact loneL_snoc _ _

set_option maxHeartbeats 4000000 in
theorem ref_lone {w : World} {a : Option Addr} {us : List Nat} (ca : Nat) (hA : Sl16 w a us) (hl : us.length ≤ 1099511627776) :
    Calls Try.prog 52 #[.slice a us.length ca] w fun e w' => ∃ pa pc, e = .returned (.slice pa (loneL (uns us)).length pc) ∧ w'.ownsRow w.heap.size 3 1 (.slice pa (loneL (uns us)).length pc) (loneL (uns us)).length (encP (loneL (uns us))) ∧ Below w.heap.size w w' := by
  have HA := Lib.hid hA
  have hbnd := hA.bnd
  have HB := Lib.hid hbnd
  obtain ⟨N, hN⟩ : ∃ N, N = us.length := ⟨_, rfl⟩
  have HN := Lib.hid hN
  rw [← hN] at hl ⊢
  obtain ⟨i3, hi3, ha1, ha2, ha3⟩ := info_parts info3w
  clear hA hN hbnd
  go_enter Try.func52, Try.ntmps52
  go_wp2_with fail
  rw [HN.out]
  refine (ref_units ca HA.out (by rw [← HN.out]; omega)).mono ?_
  rw [← HN.out]
  rintro e w1 ⟨uv, rfl, hU⟩
  have hul := uns_len us
  obtain ⟨L, hL⟩ : ∃ L, L = uns us := ⟨_, rfl⟩
  have HLL := Lib.hid hL
  rw [← hL] at hU hul
  obtain ⟨ua, uc, rfl⟩ := rwSlice hU.row
  obtain ⟨M, hM⟩ : ∃ M, M = L.length := ⟨_, rfl⟩
  have HM := Lib.hid hM
  have hMl : M ≤ 1099511627776 := by rw [hM]; rw [← HN.out] at hul; omega
  rw [← hM] at hU ⊢
  have HU := Lib.hid hU
  clear hU hul hL hM
  go_wp2_with fail
  go_loopw [4, 5] (fun v vi wr => ∃ k : Nat, k ≤ M ∧ vi = .int .i64 (k : Nat) ∧ LnI w L (.slice ua M uc) (loneL (L.take k)) v wr) (fun _ v _ => M - (intOf v).toNat)
  case atStart => exact ⟨0, Nat.zero_le _, rfl, HU.out, World.ownsRow_nil _ _ _ _⟩
  case round =>
    obtain ⟨k, hk, rfl, hI⟩ := hrel
    have HI := Lib.hid hI
    by_cases hlt : k < M
    · obtain ⟨x, hx⟩ : ∃ x, L[k]? = some x := ⟨_, List.getElem?_eq_getElem (by rw [← HM.out]; exact hlt)⟩
      obtain ⟨g, cap, hv, hg, c0, c1, c2, c3⟩ := hI.un.slot hx
      rw [← HM.out] at hv
      simp at hv
      obtain ⟨rfl, rfl⟩ := hv
      have p1 : (k : Int) < (M : Int) := by omega
      have p2 : (0 : Int) ≤ (k : Int) := by omega
      have hxm : x ∈ uns us := by rw [← HLL.out]; exact List.mem_of_getElem? hx
      have hlo := (un_lone HB.out hxm).2
      have hts := take_snoc_lone hx
      have hle := hI.un.le
      have hrow := hI.row
      obtain ⟨va, vc, rfl⟩ := rwSlice hrow
      have hlen : (loneL (L.take k)).length ≤ M := by
        have h1 := loneL_len (L.take k)
        have h2 : (L.take k).length ≤ k := by simp; omega
        omega
      obtain ⟨n, hn⟩ : ∃ n, n = (loneL (L.take k)).length := ⟨_, rfl⟩
      rw [← hn] at hlen hrow ⊢
      have HTS := Lib.hid hts
      have HROW := Lib.hid hrow
      have HNN := Lib.hid hn
      clear hx hxm hts hI hrow hn c1 c2
      cases hxl : x.lone with
      | true =>
        have hh : isHalf x.c = true := by unfold isHalf; rw [decide_eq_true (hlo.1 hxl)]
        rw [hh] at HTS
        rw [hxl] at c3
        clear hlo hh hxl
        go_wp2_with (at_builtin; refine wpList_append_lies _ rfl (.tmp 19) (.tmp 25) 24 rfl w.heap.size 3 i3 _ 1 8 Try.underlying24 hi3 ha1 ha2 ha3 rfl (by omega) _ n _ rfl (HROW.out.alloc _) ⟨wr.heap.size, 0, none⟩ 1 1 [.int .i64 (x.p : Int)] rfl rfl (World.news_of_block (cs := #[.int .i64 (x.p : Int)]) (t := 3) (fr := (0, 0)) (Go.heap_alloc_new wr _)) (by simp [Value.oneCell']) (by omega) (by unfold maxLen; omega) (by omega) (by simp; omega) _ rfl ?_)
        intro g3 c3 w3 hown3 hgrow3 _ _
        have HF : Hid (LnI w L (.slice (some ⟨g, 0, none⟩) M uc) (loneL (L.take (k + 1))) (.slice (some ⟨g3, 0, none⟩) (n + 1) c3) w3) := Lib.hid (by
          have f : FrT [3] w.heap.size wr w3 := ((FrT.refl _ _ _).alloc _).append (HROW.out.alloc _) (Nat.le_refl _) (by simp) hgrow3
          refine ⟨HI.out.un.keep f (by decide) (Nat.le_refl _), ?_⟩
          rw [HTS.out]
          simp only [if_true, encP_append, List.length_append, List.length_cons, List.length_nil, ← HNN.out]
          exact hown3)
        clear hown3 hgrow3
        go_wp2
        go_roundw
        case rel => exact ⟨k + 1, hlt, by go_num, HF.out⟩
        case measure => simp [intOf]; omega
      | false =>
        have hh : isHalf x.c = false := by unfold isHalf; rw [decide_eq_false (fun hc => by rw [hlo.2 hc] at hxl; cases hxl)]
        rw [hh] at HTS
        rw [hxl] at c3
        have HF : Hid (LnI w L (.slice (some ⟨g, 0, none⟩) M uc) (loneL (L.take (k + 1))) (.slice va n vc) wr) := Lib.hid (by
          refine ⟨HI.out.un, ?_⟩
          rw [HTS.out]
          simp only [if_false, List.append_nil, ← HNN.out, Bool.false_eq_true]
          exact HROW.out)
        clear hlo hh hxl
        go_wp2
        go_roundw
        case rel => exact ⟨k + 1, hlt, by go_num, HF.out⟩
        case measure => simp [intOf]; omega
    · have e : L.take k = uns us := by rw [List.take_of_length_le (by rw [← HM.out]; omega), HLL.out]
      rw [e] at HI
      have hrow := HI.out.row
      obtain ⟨va, vc, rfl⟩ := rwSlice hrow
      have HROW := Lib.hid hrow
      clear hrow e hI
      go_wp2
      go_ret
      exact ⟨va, vc, rfl, HROW.out, HI.out.un.bel⟩

theorem clip3 (a : Option Addr) (n cap : Nat) (hn : n ≤ cap) (hm : cap ≤ 9223372036854775807) (w : World) :
    Calls Try.prog 78 #[.slice a n cap] w fun e w' => e = .returned (.slice a n n) ∧ w = w' := by
  have p1 : (n : Int) ≤ (cap : Int) := by omega
  go_enter Try.func78, Try.ntmps78
  go_wp2
  go_ret
  exact ⟨rfl, rfl⟩

structure LoneI (B : Nat) (n : Nat) (a : Option Addr) (cap : Nat) (w0 : World) (pre : List Un) (W : World) : Prop where
  box : BoxRow 24 3 B B (encP (loneL pre)) w0 W
  cap : W.heap[B + 1]? = some (.cells #[.slice a n cap] 73 (0, 0))
theorem loneI_own (B : Nat) (n : Nat) (a : Option Addr) (cap : Nat) (w0 : World) (D : Nat) (hD : B ≤ D) : OwnFrom D (LoneI B n a cap w0) := fun s X Y row hs hg hr =>
  ⟨hs.box.grow hg (fun r e => ⟨Nat.le_trans hD (hr r e).1, (hr r e).2⟩), blkGrow hs.cap hg (fun r e => (hr r e).2)⟩
theorem LoneI.step {B : Nat} {n : Nat} {a : Option Addr} {cap : Nat} {w0 W w3 : World} {pre : List Un} {x : Un} (h : LoneI B n a cap w0 pre W) {ba : Option Addr} {bn bc g c3 : Nat} {o : Obj} (hx : isHalf x.c = true)
    (hbx : W.heap[B]? = some (.cells #[.slice ba bn bc] 24 (0, 0))) (hrow : W.ownsRow B 3 1 (.slice ba bn bc) bn (encP (loneL pre))) (hn : bn = (encP (loneL pre)).length)
    (hown : w3.ownsRow B 3 1 (.slice (some ⟨g, 0, none⟩) (bn + 1) c3) (bn + 1) (encP (loneL pre) ++ [.int .i64 (x.p : Int)])) (hgrow : (W.alloc o).grownBy w3 (Value.slice ba bn bc).ownBlock) :
    LoneI B n a cap w0 (pre ++ [x]) (w3.setCell ⟨B, 0, none⟩ (.slice (some ⟨g, 0, none⟩) (bn + 1) c3)) ∧ KeepsOthers W (w3.setCell ⟨B, 0, none⟩ (.slice (some ⟨g, 0, none⟩) (bn + 1) c3)) ∧ KpX B (B + 1) W (w3.setCell ⟨B, 0, none⟩ (.slice (some ⟨g, 0, none⟩) (bn + 1) c3)) := by
  obtain ⟨h1, h2, h3⟩ := h.box.push (by decide) hbx hrow hn hown hgrow rfl
  have hk := push_keeps (bx := B) hrow hgrow h.cap (by decide) (by omega) (.slice (some ⟨g, 0, none⟩) (bn + 1) c3)
  refine ⟨⟨by rw [loneL_snoc, hx, if_pos rfl, encP_append]; exact h1, hk⟩, h2, h3, fun o' ho' => by rw [h.cap] at ho'; cases ho'; exact hk⟩

set_option maxHeartbeats 4000000 in
theorem lone_in (w : World) {a : Option Addr} {us : List Nat} (cap : Nat) (hA : Sl16 w a us) (hl : us.length ≤ 1099511627776) :
    CallsIn Fence.wide 5 Try.prog 51 #[.slice a us.length cap] w fun e w' => ∃ pa pc, e = .returned (.slice pa (loneL (uns us)).length (loneL (uns us)).length) ∧ w'.ownsRow w.heap.size 3 1 (.slice pa (loneL (uns us)).length pc) (loneL (uns us)).length (encP (loneL (uns us))) ∧ Below w.heap.size w w' := by
  have HA := Lib.hid hA
  have hLl := uns_len us
  obtain ⟨L, hL⟩ : ∃ L, L = uns us := ⟨_, rfl⟩
  have HLV : Hid (L.map id = uns us) := Lib.hid (by rw [hL]; simp)
  rw [← hL] at hLl ⊢
  obtain ⟨n, hn⟩ : ∃ n, n = us.length := ⟨_, rfl⟩
  have HN := Lib.hid hn
  rw [← hn] at hl hLl ⊢
  clear hA hn hL
  refine callsIn_of_wp_marks Try.func51 rfl trivial ?_ rfl
  simp only [Try.ntmps51, List.size_toArray, List.length_cons, List.length_nil, Nat.reduceAdd, Nat.reduceSub, Array.replicate_succ, Array.replicate_zero, List.push_toArray, List.append_toArray, List.nil_append, List.cons_append]
  gi_wp2_with (refine ⟨trivial, ?_⟩; gi_at_call 55; refine (callsIn_wide.2 (points_calls _ _ _ _)).mono ?_; rintro e w' ⟨rfl, rfl⟩)
  have hw0 : Below w.heap.size w ((w.alloc (.cells #[.slice none 0 0] 24)).alloc (.cells #[.slice a n cap] 73)) := ((Below.refl _ w).alloc (Nat.le_refl _) _).alloc (by simp) _
  have hbx0 : ((w.alloc (.cells #[.slice none 0 0] 24)).alloc (.cells #[.slice a n cap] 73)).heap[w.heap.size]? = some (.cells #[.slice none 0 0] 24 (0, 0)) := alloc_blk (Go.heap_alloc_new w _) _
  have hbx1 : ((w.alloc (.cells #[.slice none 0 0] 24)).alloc (.cells #[.slice a n cap] 73)).heap[w.heap.size + 1]? = some (.cells #[.slice a n cap] 73 (0, 0)) := by
    have := Go.heap_alloc_new (w.alloc (.cells #[.slice none 0 0] 24)) (.cells #[.slice a n cap] 73)
    rwa [World.size_alloc] at this
  have hI0 : LoneI w.heap.size n a cap w [] ((w.alloc (.cells #[.slice none 0 0] 24)).alloc (.cells #[.slice a n cap] 73)) :=
    ⟨⟨⟨none, 0, hbx0, World.ownsRow_nil _ _ _ _⟩, hw0, hw0.size, Nat.le_refl _⟩, hbx1⟩
  have hst := points_stops id L 4 (by decide) (w.heap.size + 1) (cap := cap) HA.out HLV.out _ hw0 (by rw [← HN.out]; exact hbx1)
  generalize hW : ((w.alloc (.cells #[.slice none 0 0] 24)).alloc (.cells #[.slice a n cap] 73)) = W0 at hw0 hI0 hst ⊢
  have hW0 : W0.heap.size = w.heap.size + 1 + 1 := by rw [← hW]; simp
  clear hbx0 hbx1 hW
  obtain ⟨i3, hi3, ha1, ha2, ha3⟩ := info_parts info3w
  refine wpIn_rangeFunc_ownF rfl (by decide) (gf := 80) (lb := #[.pointer (some ⟨w.heap.size + 1, 0, none⟩)]) rfl trivial (enters_of Try.func80 (by kernel_rfl) rfl)
    hst (fun h k => h.trans k) (kpX_b (by omega) (by omega)) (Below.refl _ _) (fun _ => rfl)
    (LoneI w.heap.size n a cap w) (fun _ _ _ => False) (loneI_own _ _ _ _ _ _ (by omega)) (fun _ _ _ _ _ hs _ _ => hs) hI0
    (fun x => { tmps := #[.slice a n cap, undef, .slice none 0 0, .pointer (some ⟨w.heap.size, 0, none⟩), .int .i64 (x.p : Int), .int .i32 (x.c : Int), .slice a n cap, .func (.func 80) #[] #[.pointer (some ⟨w.heap.size + 1, 0, none⟩)], .int .i64 (x.p : Int), .int .i32 (x.c : Int), undef, undef, undef, undef, undef, undef, undef, undef], defers := [] }) ?assign ?body ?done ?stop
  case assign =>
    intro l x W K hK
    simp only [encU, id]
    gi_wp2
    exact hK
  case body =>
    rintro l pre x W hI hlt
    obtain ⟨ba, bc, hbx, hrow⟩ := hI.box.row
    have c0 := cell_blk hbx 0 rfl
    have f0 := free_blk hbx 0
    have hbl := loneL_len pre
    obtain ⟨bn, hbn⟩ : ∃ bn, bn = (encP (loneL pre)).length := ⟨_, rfl⟩
    rw [← hbn] at hbx hrow c0
    have hbn' : bn ≤ 1099511627776 := by rw [hbn, encP_len]; omega
    have hsz : w.heap.size < W.heap.size := lt_of_some hbx
    simp at c0
    have HI := Lib.hid hI
    have HR := Lib.hid (And.intro hbx (And.intro hrow hbn))
    have HL1 := Lib.hid (lone_half (x.c : Int))
    clear hI hbx hrow hbn hbl
    by_cases hlone : 55296 ≤ x.c ∧ x.c ≤ 57343
    · have e1 : isHalf x.c = true := decide_eq_true hlone
      have e2 : decide ((55296 : Int) ≤ (x.c : Int) ∧ (x.c : Int) ≤ 57343) = true := by simp; omega
      rw [e2] at HL1
      have E1 := Lib.hid e1
      clear e1 e2 hlone
      gi_wp2_with (first | (refine ⟨trivial, ?_⟩; gi_at_call 73; refine (CallsIn.inRound l (callsIn_wide.2 (HL1.out _))).mono ?_; rintro e w' ⟨rfl, rfl⟩) | (gi_at_builtin; refine wpListIn_append_own _ rfl _ _ 24 rfl w.heap.size 3 i3 _ 1 8 Try.underlying24 hi3 ha1 ha2 ha3 rfl (by omega) _ bn _ rfl (HR.out.2.1.alloc _) ⟨W.heap.size, 0, none⟩ 1 1 [.int .i64 (x.p : Int)] rfl rfl (World.news_of_block (cs := #[.int .i64 (x.p : Int)]) (t := 3) (fr := (0, 0)) (Go.heap_alloc_new W _)) (by simp [Value.oneCell']) (by unfold maxLen; omega) (by omega) (by simp; omega) ?_; intro v' w3 hown hgrow _; obtain ⟨g, cap3, rfl⟩ := ownsRow_succ hown; have HO := Lib.hid (And.intro hown hgrow); have hb3 := rwApp HR.out.2.1 hgrow HR.out.1 (by decide); have d0 := cell_blk hb3 0 rfl; have d1 := free_blk hb3 0; have d2 := lt_of_some hb3; clear hown hgrow hb3 c0 f0))
      have hs := HI.out.step E1.out HR.out.1 HR.out.2.1 HR.out.2.2 HO.out.1 HO.out.2
      exact ⟨hs.2.1, hs.2.2, hs.1⟩
    · have e1 : isHalf x.c = false := decide_eq_false hlone
      have e2 : decide ((55296 : Int) ≤ (x.c : Int) ∧ (x.c : Int) ≤ 57343) = false := by simp; omega
      rw [e2] at HL1
      have E1 := Lib.hid e1
      clear e1 e2 hlone
      gi_wp2_with (refine ⟨trivial, ?_⟩; gi_at_call 73; refine (CallsIn.inRound l (callsIn_wide.2 (HL1.out _))).mono ?_; rintro e w' ⟨rfl, rfl⟩)
      refine ⟨KeepsOthers.refl _, ⟨Below.refl _ _, fun _ h => h⟩, ⟨?_, HI.out.cap⟩⟩
      rw [loneL_snoc, E1.out]
      simpa using HI.out.box
  case done =>
    rintro D ys W hD rfl hI hK
    obtain ⟨ba, bc, hbx, hrow⟩ := hI.box.row
    have c0 := cell_blk hbx 0 rfl
    obtain ⟨bn, hbn⟩ : ∃ bn, bn = (encP (loneL ys)).length := ⟨_, rfl⟩
    rw [← hbn] at hbx hrow c0
    have hcap : bn ≤ bc ∧ bc ≤ 9223372036854775807 := by
      rcases hrow.2 with ⟨h1, h2⟩ | ⟨g, cap', cur, h1, _, _, h4, h5, _⟩
      · obtain ⟨_, _, h3⟩ : ba = none ∧ bn = 0 ∧ bc = 0 := by simpa using h1
        omega
      · cases h1; unfold maxLen at h5; omega
    have hbn2 : (loneL ys).length = bn := by rw [hbn, encP_len]
    have HB2 := Lib.hid hbn2
    simp at c0
    have HI := Lib.hid hI
    have HR := Lib.hid hrow
    have HKK := Lib.hid hK
    obtain ⟨hcap1, hcap2⟩ := hcap
    clear hI hbx hrow hbn hbn2
    gi_wp2_with (refine ⟨trivial, ?_⟩; gi_at_call 78; refine (callsIn_wide.2 (clip3 _ _ _ hcap1 hcap2 _)).mono ?_; rintro e w' ⟨rfl, rfl⟩)
    refine ⟨by simp, .inl ⟨_, _, rfl, run_takeDeferred HKK.out, ?_⟩⟩
    exact ⟨_, results_tmp rfl _ _ _, ba, bc, by rw [HB2.out]; rfl, by rw [HB2.out]; exact ownsRow_putObj HR.out _ HKK.out rfl, HI.out.box.bel.trans (belowK_b (w := w) (Nat.le_refl _) W D _ _ (by omega) HKK.out rfl rfl)⟩
  case stop =>
    rintro D c pre W _ _ h _
    exact h.elim
end Go.Proofs.Ytlmbpbijhhnhpaa
