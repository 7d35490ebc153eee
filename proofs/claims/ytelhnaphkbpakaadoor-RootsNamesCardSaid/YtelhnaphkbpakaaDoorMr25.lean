/- Part 25 of the proof of RoP: lemmas. -/
import Derived.ProofKit
import Derived.Maps.RangeRun
import Derived.RangeFuncRecord
import Derived.OrdersHeld
import Derived.Deep.RegionHeld
import Derived.Test.YtelhnaphkbpakaaDoorMr24
namespace Go.Proofs.YtelhnaphkbpakaaDoor
open Go.RowKit Go.Shelf
attribute [local go_sem] Oper.semAt_some
set_option linter.unusedVariables false
set_option maxRecDepth 100000
abbrev TellN := (Nat × Nat) × Option Addr
def encTN (x : TellN) : Array Value := #[.agg #[.int .u32 (x.1.1 : Int), .int .u32 (x.1.2 : Int)], .pointer x.2]
def telN (all : List (Nat × Bool × Option Addr)) : List TellN := all.zipIdx.filterMap fun p => if p.1.2.1 then some ((p.2 + 1, p.1.1), p.1.2.2) else none
theorem telN_snoc (all : List (Nat × Bool × Option Addr)) (s : Nat × Bool × Option Addr) : telN (all ++ [s]) = telN all ++ if s.2.1 then [((all.length + 1, s.1), s.2.2)] else [] := by
  unfold telN
  rw [List.zipIdx_append, List.filterMap_append]
  cases h : s.2.1 <;> simp [h]
theorem telN_take {all : List (Nat × Bool × Option Addr)} {k : Nat} {s : Nat × Bool × Option Addr} (h : all[k]? = some s) : telN (all.take (k + 1)) = telN (all.take k) ++ if s.2.1 then [((k + 1, s.1), s.2.2)] else [] := by
  have hk : k < all.length := (List.getElem?_eq_some_iff.1 h).1
  rw [List.take_add_one, h, Option.toList_some, telN_snoc]
  simp [Nat.min_eq_left (Nat.le_of_lt hk)]
theorem telN_append (a b : List (Nat × Bool × Option Addr)) : ∃ r, telN (a ++ b) = telN a ++ r := by
  unfold telN
  rw [List.zipIdx_append, List.filterMap_append]
  exact ⟨_, rfl⟩
theorem telN_prefix (all : List (Nat × Bool × Option Addr)) (k : Nat) : telN (all.take k) <+: telN all := by
  obtain ⟨r, hr⟩ := telN_append (all.take k) (all.drop k)
  rw [List.take_append_drop] at hr
  exact ⟨r, hr.symm⟩
structure KpE (n0 : Nat) (W W' : World) : Prop where
  below : Below n0 W W'
  box : ∀ (k : Nat) (c : Array Value) (t : TypeId) (fz : Nat × Nat), t = 106 ∨ t = 25 ∨ t = 98 → W.heap[k]? = some (.cells c t fz) → W'.heap[k]? = some (.cells c t fz)
theorem KpE.trans {n0 : Nat} {A B C : World} (h : KpE n0 A B) (k : KpE n0 B C) : KpE n0 A C := ⟨h.below.trans k.below, fun i c t fz ht e => k.box i c t fz ht (h.box i c t fz ht e)⟩
theorem KpE.refl (n0 : Nat) (W : World) : KpE n0 W W := ⟨Below.refl _ _, fun _ _ _ _ _ e => e⟩
theorem kpE_b {n0 : Nat} {w : World} (hn : n0 ≤ w.heap.size) (W : World) (l : Nat) (o o' : Obj) (hl : w.heap.size ≤ l) (h : W.heap[l]? = some o) (h1 : o.isCells = false) (h2 : o.isWalk = false) : KpE n0 W (W.putObj l o') :=
  ⟨belowK_b hn W l o o' hl h h1 h2, fun k c t fz _ e => (World.putObj_heap_other (fun e1 => by subst e1; rw [h] at e; cases e; cases h1)).trans e⟩
section
variable {B : Nat} {Q : Nat → Prop} {w0 w : World}
set_option maxHeartbeats 4000000 in
theorem all1N (n : Nat) (hn : 1 ≤ n) (Bn : Nat) {ab : Nat} {T : TA (Option Addr)} (hA : ArNOf B Q w0 ab T) (hB : Below w0.heap.size w0 w) (hBn : w.heap[Bn]? = some (.cells #[.pointer (some ⟨ab, 0, none⟩)] 106 (0, 0))) :
    SeqO Fence.wide n Tryd.prog 116 #[.pointer (some ⟨Bn, 0, none⟩)] encTN (KpE w0.heap.size) (telN T.all) w := by
  intro l J Jx W hW hJ hJx hY h0
  replace hBn := (hW.block _ (lt_of_some hBn)).trans hBn
  replace hB := hB.trans (hW.mono hB.size)
  have hl : T.all.length ≤ 2147483647 := by
    obtain ⟨av, fv, hat, _⟩ := hA
    have h1 := hat.ok.len
    have h2 := hat.ok.S2
    simp [TA.ar] at h1 h2
    omega
  obtain ⟨av, fv, hat, _⟩ := hA
  obtain ⟨a, cap, rfl⟩ : ∃ a cap, av = .slice a T.all.length cap := by
    rcases hat.rowA.2 with ⟨rfl, hn⟩ | ⟨g, cap, cur, rfl, _⟩
    · exact ⟨none, 0, by simp [TA.ar] at hn; simp [hn]⟩
    · exact ⟨some ⟨g, 0, none⟩, cap, by simp [TA.ar]⟩
  have HAT := Lib.hid hat
  obtain ⟨N, hN⟩ : ∃ N, N = T.all.length := ⟨_, rfl⟩
  have HN := Lib.hid hN
  have hbox := cell_blk hBn 0 rfl
  have hat1 := hat.kept (FrT.of_below (T := []) (B := 0) hB) (by simp) (by simp) (by simp)
  have a2 := cell_blk hat1.blk 2 rfl
  simp at hbox a2
  rw [← hN] at a2 hl
  have HY := Lib.hid hY
  have HJ := Lib.hid hJ
  have HP : Hid (∀ k, telN (T.all.take k) <+: telN T.all) := Lib.hid (telN_prefix T.all)
  clear hat hat1 hN hY hJ hJx hW
  refine callsIn_of_wp Tryd.func116 rfl trivial ?_ rfl
  simp only [Tryd.ntmps116, List.size_toArray, List.length_cons, List.length_nil, Nat.reduceAdd, Nat.reduceSub, Array.replicate_succ, Array.replicate_zero, List.push_toArray, List.append_toArray, List.nil_append, List.cons_append]
  gi_wp2
  gi_loopw [10] (fun v wr => ∃ k : Nat, k ≤ N ∧ v = .int .i64 (k : Nat) ∧ J (telN (T.all.take k)) wr ∧ Below w0.heap.size w0 wr ∧ wr.heap[Bn]? = some (.cells #[.pointer (some ⟨ab, 0, none⟩)] 106 (0, 0))) (fun v _ => N - (intOf v).toNat)
  case atStart => exact ⟨0, Nat.zero_le _, rfl, h0, hB, hBn⟩
  case round =>
    obtain ⟨k, hk, rfl, hJs, hBr, hBx⟩ := hrel
    clear hbox a2
    by_cases hlt : k < N
    · obtain ⟨s, hs⟩ : ∃ s, T.all[k]? = some s := ⟨_, List.getElem?_eq_getElem (by rw [← HN.out]; exact hlt)⟩
      obtain ⟨g, u, y⟩ := s
      have hat1 := HAT.out.kept (FrT.of_below (T := []) (B := 0) hBr) (by simp) (by simp) (by simp)
      have hs' := TA.ar_get (enc := encN) hs
      obtain ⟨gb, cap', hav⟩ := hat1.head hs'
      simp [TA.ar] at hav
      obtain ⟨rfl, rfl⟩ := hav
      have c0 := slotAt hat1 (by simp [TA.ar]) hs' 0 (by omega)
      have c1 := slotAt hat1 (by simp [TA.ar]) hs' 1 (by omega)
      have c2 := slotAt hat1 (by simp [TA.ar]) hs' 2 (by omega)
      have hbox := cell_blk hBx 0 rfl
      have a2 := cell_blk hat1.blk 2 rfl
      simp [encN] at c0 c1 c2 hbox a2
      rw [← HN.out] at a2
      have q1 : IntKind.u32.wrap ((k : Int) + 1) = (k : Int) + 1 := IntWalk.u32_in _ (by omega)
      have p1 : (k : Int) < (N : Int) := by omega
      have ht := telN_take hs
      have hJn := HJ.out _ wr _ none hJs (World.grownBy_alloc wr (.cells #[.int .u32 (g : Int), .bool u, .pointer y] 150) none) (fun _ h => by cases h)
      have hBn' := hBr.alloc hBr.size (.cells #[.int .u32 (g : Int), .bool u, .pointer y] 150)
      have hBx' := alloc_blk hBx (.cells #[.int .u32 (g : Int), .bool u, .pointer y] 150)
      have HS := Lib.hid (And.intro hJn (And.intro hBn' hBx'))
      have HT := Lib.hid ht
      have HSS := Lib.hid hs
      clear hJn hBn' hBx' ht hs hs' hat1 hJs hBr hBx
      cases u with
      | false =>
        gi_wp2
        refine ⟨fun _ h => (by cases h), ?_⟩
        gi_wp2
        go_roundw
        case rel => exact ⟨k + 1, hlt, by go_num, by rw [HT.out]; simpa using HS.out.1, HS.out.2.1, HS.out.2.2⟩
        case measure => simp [intOf]; omega
      | true =>
        have hpr : telN (T.all.take k) ++ [((k + 1, g), y)] <+: telN T.all := by have := HP.out (k + 1); rw [HT.out] at this; simpa using this
        obtain ⟨fn, tmps, assign, body, hy, hR⟩ := HY.out _ ((k + 1, g), y) _ HS.out.1 hpr
        have HPR := Lib.hid hpr
        clear hpr
        simp [encTN] at hy
        gi_wp2
        refine hR.mono ?_
        rintro e W3 (⟨rfl, hJ3, hk3, _⟩ | ⟨rfl, hJx3, _⟩)
        · gi_wp2
          go_roundw
          case rel => exact ⟨k + 1, hlt, by go_num, by rw [HT.out]; simpa using hJ3, HS.out.2.1.trans hk3.below, hk3.box _ _ _ _ (.inl rfl) HS.out.2.2⟩
          case measure => simp [intOf]; omega
        · gi_wp2
          refine bodyPost_ret (results_none rfl _ _ _) rfl ?_
          exact ⟨⟨_, rfl⟩, .inr ⟨_, HPR.out, hJx3⟩⟩
    · have e : T.all.take k = T.all := List.take_of_length_le (by rw [← HN.out]; omega)
      rw [e] at hJs
      gi_wp2
      go_end0
      exact ⟨⟨_, rfl⟩, .inl hJs⟩
theorem allN_calls (p : Option Addr) (w : World) :
    Calls Tryd.prog 109 #[.pointer p] w fun e w' => e = .returned (.func (.func 116) #[] #[.pointer (some ⟨w.heap.size, 0, none⟩)]) ∧ w' = w.alloc (.cells #[.pointer p] 106) := by
  go_enter Tryd.func109, Tryd.ntmps109
  go_wp2
  go_ret
  exact ⟨rfl, rfl⟩
theorem allT_calls (p : Option Addr) (w : World) :
    Calls Tryd.prog 95 #[.pointer p] w fun e w' => e = .returned (.func (.func 108) #[] #[.pointer (some ⟨w.heap.size, 0, none⟩)]) ∧ w' = w.alloc (.cells #[.pointer p] 25) := by
  go_enter Tryd.func95, Tryd.ntmps95
  go_wp2
  go_ret
  exact ⟨rfl, rfl⟩
theorem RoundIn.inR {F : Fence} {n : Nat} {P : Program} {l : Nat} {f : FuncId} {tmps : Array Value} {assign body : Code} {w : World} {R : Ending → World → Prop} (l' : Nat) (h : RoundIn F n P l f tmps assign body w R) : RoundIn (F.inRound l') n P l f tmps assign body w R := h
def encHd (x : Nat × Nat) : Array Value := #[.agg #[.int .u32 (x.1 : Int), .int .u32 (x.2 : Int)]]
def liveL (T : TA (Option Addr)) : List (Nat × Nat) := (telN T.all).map Prod.fst
set_option maxHeartbeats 8000000 in
theorem all1T {tb : Nat} {X : TX} (h : TreeAt B Q w0 tb X) (n : Nat) (Bt : Nat) (hB : Below w0.heap.size w0 w) (hBt : w.heap[Bt]? = some (.cells #[.pointer (some ⟨tb, 0, none⟩)] 25 (0, 0))) :
    SeqO Fence.wide n Tryd.prog 108 #[.pointer (some ⟨Bt, 0, none⟩)] encHd (KpE w0.heap.size) (liveL X.T) w := by
  intro l J Jx W hW hJ hJx hY h0
  replace hBt := (hW.block _ (lt_of_some hBt)).trans hBt
  replace hB := hB.trans (hW.mono hB.size)
  obtain ⟨Qa, hA, _⟩ := h.rw.ar
  have hblk := (h.below hB).rw.blk
  have HA := Lib.hid hA
  have hs0 := hB.size
  have HP : Hid (∀ pre x, pre ++ [x] <+: telN X.T.all → pre.map Prod.fst ++ [x.1] <+: liveL X.T) := Lib.hid (fun pre x hp => by obtain ⟨r, hr⟩ := hp; exact ⟨r.map Prod.fst, by unfold liveL; rw [← hr]; simp⟩)
  have HY : Hid (∀ pre x W1 m, J pre W1 → pre ++ [x] <+: liveL X.T → YieldAt Fence.wide m Tryd.prog l (encHd x) W1 fun e W' => (e = .returned (.bool true) ∧ J (pre ++ [x]) W' ∧ KpE w0.heap.size W1 W' ∧ KeepsFrom W.heap.size W1 W') ∨ (e = .returned (.bool false) ∧ Jx (pre ++ [x]) W' ∧ KeepsFrom W.heap.size W1 W')) := Lib.hid (fun pre x W1 m h1 h2 => yieldAny rfl m (hY pre x W1 h1 h2))
  have HJ := Lib.hid (And.intro hJ hJx)
  have c0 := cell_blk hBt 0 rfl
  have d0 := cell_blk hblk 0 rfl
  simp at c0 d0
  have lb := lt_of_some hBt
  have ld := lt_of_some hblk
  have HB := Lib.hid hB
  have HJ0 := Lib.hid h0
  clear h hA hblk hBt hY hJ hJx hB hW h0
  refine callsIn_wide.2 ((callsIn_wide (n := 12)).1 ?_)
  refine callsIn_of_wp_marks Tryd.func108 rfl trivial ?_ rfl
  simp only [Tryd.ntmps108, List.size_toArray, List.length_cons, List.length_nil, Nat.reduceAdd, Nat.reduceSub, Array.replicate_succ, Array.replicate_zero, List.push_toArray, List.append_toArray, List.nil_append, List.cons_append]
  gi_wp2_with (refine ⟨trivial, ?_⟩; gi_at_call 109; refine (callsIn_wide.2 (allN_calls _ _)).mono ?_; rintro e w2 ⟨rfl, rfl⟩)
  obtain ⟨V, hV⟩ : ∃ V, V = (W.alloc (.cells #[.func (.yield l) #[] #[]] 98)).alloc (.cells #[.pointer (some ⟨X.ab, 0, none⟩)] 106) := ⟨_, rfl⟩
  have hv1 : V.heap[W.heap.size]? = some (.cells #[.func (.yield l) #[] #[]] 98 (0, 0)) := by rw [hV]; exact alloc_blk (Go.heap_alloc_new W _) _
  have hv2 : V.heap[W.heap.size + 1]? = some (.cells #[.pointer (some ⟨X.ab, 0, none⟩)] 106 (0, 0)) := by rw [hV]; exact alloc2_blk W _ _
  have hbV : Below w0.heap.size w0 V := by rw [hV]; exact (HB.out.alloc hs0 _).alloc (by simp; omega) _
  have hJV : J [] V := by rw [hV]; exact HJ.out.1.alloc _ (HJ.out.1.alloc _ HJ0.out)
  have hWV : W.heap.size ≤ V.heap.size := by rw [hV]; simp; omega
  rw [← hV]
  clear hV c0 d0 lb ld
  have hst := all1N (Q := Qa) 11 (by omega) (W.heap.size + 1) HA.out hbV hv2
  have hs1 := hbV.size
  have HWV := Lib.hid hWV
  refine range_OH1 (gf := 116) (lb := #[.pointer (some ⟨W.heap.size + 1, 0, none⟩)]) rfl (by decide) rfl trivial (enters_of Tryd.func116 (by kernel_rfl) rfl)
    hst (fun h k => h.trans k) (kpE_b hs1) (Below.refl _ _) (fun _ => rfl)
    (fun pre U => J (pre.map Prod.fst) U ∧ U.heap[W.heap.size]? = some (.cells #[.func (.yield l) #[] #[]] 98 (0, 0))) (fun c pre U => c = .ret ∧ Jx (pre.map Prod.fst) U) ?ownI ?ownX ⟨hJV, hv1⟩
    3 (fun x => #[.int .u32 (x.1.1 : Int), .int .u32 (x.1.2 : Int)]) 31 ?assign ?body ?done ?stop
  case ownI =>
    intro pre A C row hs hg hr
    refine ⟨HJ.out.1 _ A C row hs.1 hg (fun r e => ⟨Nat.le_trans hWV (hr r e).1, (hr r e).2⟩), (hg.block _ (lt_of_some hs.2) (fun e => ?_)).trans hs.2⟩
    obtain ⟨_, o, ho, hc⟩ := hr _ e.symm
    rw [hs.2] at ho
    cases ho
    cases hc
  case ownX =>
    intro c pre A C row hs hg hr
    exact ⟨hs.1, HJ.out.2 _ A C row hs.2 hg (fun r e => ⟨Nat.le_trans hWV (hr r e).1, (hr r e).2⟩)⟩
  case assign =>
    rintro l2 pre x U K ⟨hI, hI2⟩ hK
    have hg : w0.heap.size ≤ U.heap.size := by have := lt_of_some hI2; omega
    simp only [encTN]
    gi_wp2
    have hk := hK U.heap.size _ ((KeepsOthers.alloc _ _).from _) ⟨(Below.refl _ U).alloc hg _, fun k c t fz _ e => alloc_blk e _⟩ ⟨HJ.out.1.alloc _ hI, alloc_blk hI2 _⟩ (Go.heap_alloc_new U _)
    simpa [boxAct, encTN] using hk
  case done =>
    rintro D U hD ⟨hI, _⟩ hK
    have HI := Lib.hid (And.intro hI hK)
    have HO := HJ.out.1.putObj (.deferred none) hI (by omega) hK rfl
    clear hI
    gi_wp2
    refine ⟨by simp, .inl ⟨_, _, rfl, run_takeDeferred hK, ?_⟩⟩
    exact ⟨.tuple #[], by simp [results, Tryd.results108, go_sem], ⟨_, rfl⟩, .inl HO⟩
  case stop =>
    rintro D c pre U hD hpre ⟨rfl, hx⟩ hK
    have HO := HJ.out.2.putObj (.deferred none) hx (by omega) hK rfl
    have HQ : Hid (∃ q, q <+: liveL X.T ∧ Jx q (U.putObj D (.deferred none))) := Lib.hid ⟨pre.map Prod.fst, by obtain ⟨r, hr⟩ := hpre; exact ⟨r.map Prod.fst, by unfold liveL; rw [← hr]; simp⟩, HO⟩
    clear hx HO hpre
    gi_wp2
    refine ⟨by simp, .inl ⟨_, _, rfl, run_takeDeferred hK, ?_⟩⟩
    exact ⟨.tuple #[], by simp [results, Tryd.results108, go_sem], ⟨_, rfl⟩, .inr HQ.out⟩
  case body =>
    rintro l2 pre x xb U hl hr ⟨hI, hI2⟩ hxb hpf
    have y0 := cell_blk hI2 0 rfl
    have x0 := cell_blk hxb 0 rfl
    have x1 := cell_blk hxb 1 rfl
    simp at y0 x0 x1
    obtain ⟨fn, tmps, assign, body, hy, hR⟩ := HY.out _ x.1 U (12 - 1 - 1 - 1) hI (HP.out pre x hpf)
    have HI2 := Lib.hid hI2
    simp [encHd] at hy
    generalize hA : boxAct _ _ _ _ _ = A
    simp [boxAct, encTN] at hA
    subst hA
    clear hI hI2 hxb hpf hr
    gi_wp2
    refine (RoundIn.inR l2 hR).mono ?_
    rintro e W3 (⟨rfl, hJ3, hk3, hf3⟩ | ⟨rfl, hJx3, hf3⟩)
    · have HF : Hid (ownPostG V.heap.size (KpE w0.heap.size) (fun pre U => J (pre.map Prod.fst) U ∧ U.heap[W.heap.size]? = some (.cells #[.func (.yield l) #[] #[]] 98 (0, 0))) (fun c pre U => c = .ret ∧ Jx (pre.map Prod.fst) U) (pre ++ [x]) U .normal { tmps := #[], defers := [] } W3) := Lib.hid ⟨keepsUp hf3 HWV.out, hk3, by simpa using hJ3, hk3.box _ _ _ _ (.inr (.inr rfl)) HI2.out⟩
      clear hJ3 hk3 hf3
      gi_wp2
      exact HF.out
    · have HF : Hid (KeepsFrom V.heap.size U W3 ∧ Jx ((pre ++ [x]).map Prod.fst) W3) := Lib.hid ⟨keepsUp hf3 HWV.out, by simpa using hJx3⟩
      clear hJx3 hf3
      gi_wp2
      exact ⟨HF.out.1, rfl, HF.out.2⟩
end
end Go.Proofs.YtelhnaphkbpakaaDoor
namespace Go.Proofs.YtelhnaphkbpakaaDoor
open Go.RowKit
set_option linter.unusedVariables false
set_option maxRecDepth 100000
theorem hfields : ∃ f0 f1, Tryd.prog.fieldsOf 31 = #[f0, f1] ∧ (f0.name = "Slot" ∧ f0.type = 29 ∧ f0.offset = 0) ∧ f1.name = "Gen" ∧ f1.type = 29 ∧ f1.offset = 1 := by
  have hf := fields31
  generalize Tryd.prog.fieldsOf 31 = A at hf
  obtain ⟨fs⟩ := A
  simp only at hf
  obtain ⟨f0, f1, rfl⟩ : ∃ f0 f1, fs = [f0, f1] := by
    have hl := congrArg List.length hf
    simp at hl
    match fs, hl with
    | [f0, f1], _ => exact ⟨f0, f1, rfl⟩
  simp only [List.map_cons, List.map_nil, List.cons.injEq, Prod.mk.injEq, and_true] at hf
  exact ⟨f0, f1, rfl, hf.1, hf.2⟩
theorem hsize (w : World) : (sizeOf 29).run Tryd.prog w = .ok 1 w := by kernel_rfl
theorem check_handle (em : Bool) (n : Nat) (a b : Int) (w : World) : (Instr.checkKey em (n + 1 + 1) 31 (.agg #[.int .u32 a, .int .u32 b])).run Tryd.prog w = .ok () w := by
  obtain ⟨f0, f1, hfs, ⟨n0, t0, o0⟩, ⟨n1, t1, o1⟩⟩ := hfields
  have hu := Tryd.underlying29
  have hs := under31
  rw [hfs] at hs
  simp [Instr.checkKey, run_underlying hs, run_underlying hu, n0, n1, t0, t1, o0, o1, go_sem]
theorem find_none (a b : Int) (w : World) : (Instr.findKey 31 (.agg #[.int .u32 a, .int .u32 b]) []).run Tryd.prog w = .ok none w := by
  obtain ⟨f0, f1, hfs, _⟩ := hfields
  have hs := under31
  rw [hfs] at hs
  simp [Instr.findKey, Instr.findNow, run_underlying hs, Sem.run_bind, Sem.run_pure, Result.andThen]
theorem find_one (a b c d : Int) (v : Value) (n : Nat) (w : World) : (Instr.findKey 31 (.agg #[.int .u32 a, .int .u32 b]) [⟨.agg #[.int .u32 c, .int .u32 d], v, n⟩]).run Tryd.prog w = .ok (if hEq a b c d then some (0, v) else none) w := by
  obtain ⟨f0, f1, hfs, _⟩ := hfields
  have hs := under31
  rw [hfs] at hs
  have he : (Op.equal 31 (.agg #[.int .u32 a, .int .u32 b]) (.agg #[.int .u32 c, .int .u32 d])).run Tryd.prog w = .ok (hEq a b c d) w := by
    unfold Op.equal
    rw [show Op.maxDepth = 9998 + 1 + 1 from rfl]
    exact equalIn_handle _ _ _ _ _ _
  simp [Instr.findKey, Instr.findNow, Instr.sameNow, Instr.findAsking, run_underlying hs, Sem.run_bind, Sem.run_pure, Result.andThen, he]
  cases hEq a b c d <;> simp [Sem.run_pure]
theorem check_h (em : Bool) (a b : Int) (w : World) : (Instr.checkKey em 10000 31 (.agg #[.int .u32 a, .int .u32 b])).run Tryd.prog w = .ok () w := check_handle em 9998 a b w
section
variable {w : World} {m ck : Nat} {t e : TypeId} {z : Value}
theorem look_none (hm : w.heap[m]? = some (.map #[] ck)) (ht : Tryd.prog.underlying t = some (.map 31 e)) (hz : ∀ w, (zeroValue e).run Tryd.prog w = .ok z w) (a b : Int) :
    (Instr.lookup t (.map (some m)) (.agg #[.int .u32 a, .int .u32 b]) false).run Tryd.prog w = .ok z w := by
  simp [Instr.lookup, run_underlying ht, MapKept.run_getObj_map hm, check_h, find_none, hz, Sem.run_bind, Sem.run_pure, Result.andThen]
theorem look_one {c d : Int} {v : Value} {n : Nat} (hm : w.heap[m]? = some (.map #[⟨.agg #[.int .u32 c, .int .u32 d], v, n⟩] ck)) (ht : Tryd.prog.underlying t = some (.map 31 e)) (hz : ∀ w, (zeroValue e).run Tryd.prog w = .ok z w) (a b : Int) :
    (Instr.lookup t (.map (some m)) (.agg #[.int .u32 a, .int .u32 b]) false).run Tryd.prog w = .ok (if hEq a b c d then v else z) w := by
  simp [Instr.lookup, run_underlying ht, MapKept.run_getObj_map hm, check_h, find_one, hz, Sem.run_bind, Sem.run_pure, Result.andThen]
  cases hEq a b c d <;> simp [hz, Sem.run_bind, Sem.run_pure, Result.andThen]
theorem setObj_map {es : Array MapEntry} (hm : w.heap[m]? = some (.map es ck)) (o : Obj) : (setObj m o).run Tryd.prog w = .ok () (w.putObj m o) := by
  simp [setObj, Sem.run, hm, World.putObj]
theorem update_none (hm : w.heap[m]? = some (.map #[] ck)) (ht : Tryd.prog.underlying t = some (.map 31 e)) (a b : Int) (v : Value) :
    (Instr.mapUpdate t (.map (some m)) (.agg #[.int .u32 a, .int .u32 b]) v).run Tryd.prog w = .ok () (w.putObj m (.map #[⟨.agg #[.int .u32 a, .int .u32 b], v, ck⟩] (ck + 1))) := by
  simp [Instr.mapUpdate, run_underlying ht, MapKept.run_getObj_map hm, check_h, find_none, setObj_map hm, Sem.run_bind, Sem.run_pure, Result.andThen]
theorem stays_same (a b : Int) (w : World) : (Instr.keyThatStays (.agg #[.int .u32 a, .int .u32 b]) (.agg #[.int .u32 a, .int .u32 b])).run Tryd.prog w = .ok (.agg #[.int .u32 a, .int .u32 b]) w := by
  have : Instr.sameBits 10000 (.agg #[.int .u32 a, .int .u32 b]) (.agg #[.int .u32 a, .int .u32 b]) = true := by
    rw [show (10000 : Nat) = 9998 + 1 + 1 from rfl]
    simp [Instr.sameBits]
  simp [Instr.keyThatStays, this, Sem.run_pure]
theorem update_one {v0 : Value} {n : Nat} {a b : Int} (hm : w.heap[m]? = some (.map #[⟨.agg #[.int .u32 a, .int .u32 b], v0, n⟩] ck)) (ht : Tryd.prog.underlying t = some (.map 31 e)) (v : Value) :
    (Instr.mapUpdate t (.map (some m)) (.agg #[.int .u32 a, .int .u32 b]) v).run Tryd.prog w = .ok () (w.putObj m (.map #[⟨.agg #[.int .u32 a, .int .u32 b], v, n⟩] ck)) := by
  have h1 : hEq a b a b = true := hEq_true rfl rfl
  simp [Instr.mapUpdate, run_underlying ht, MapKept.run_getObj_map hm, check_h, find_one, h1, stays_same, setObj_map hm, Sem.run_bind, Sem.run_pure, Result.andThen]
theorem entry_none (hm : w.heap[m]? = some (.map #[] ck)) (ht : Tryd.prog.underlying t = some (.map 31 e)) (hz : ∀ w, (zeroValue e).run Tryd.prog w = .ok z w) (a b : Int) :
    (Instr.mapEntry t (.map (some m)) (.agg #[.int .u32 a, .int .u32 b])).run Tryd.prog w = .ok (.tuple #[z, .int .i64 (ck : Int)]) (w.putObj m (.map #[⟨.agg #[.int .u32 a, .int .u32 b], z, ck⟩] (ck + 1))) := by
  simp [Instr.mapEntry, run_underlying ht, MapKept.run_getObj_map hm, check_h, find_none, hz, setObj_map hm, Sem.run_bind, Sem.run_pure, Result.andThen, goInt]
theorem entryStore_one {k v0 : Value} {n : Nat} (hm : w.heap[m]? = some (.map #[⟨k, v0, n⟩] ck)) (v : Value) :
    (Instr.entryStore t (.map (some m)) (.int .i64 (n : Int)) v).run Tryd.prog w = .ok () (w.putObj m (.map #[⟨k, v, n⟩] ck)) := by
  simp [Instr.entryStore, MapKept.run_getObj_map hm, setObj_map hm, asInt, asIntOf, Sem.run_bind, Sem.run_pure, Result.andThen]
theorem delete_other {c d : Int} {v : Value} {n : Nat} {a b : Int} (hm : w.heap[m]? = some (.map #[⟨.agg #[.int .u32 c, .int .u32 d], v, n⟩] ck)) (ht : Tryd.prog.underlying t = some (.map 31 e)) (hne : hEq a b c d = false) (ty : TypeId) :
    (Builtin.delete_ #[t, 31] ty #[.map (some m), .agg #[.int .u32 a, .int .u32 b]]).run Tryd.prog w = .ok (.tuple #[]) (w.putObj m (.map #[⟨.agg #[.int .u32 c, .int .u32 d], v, n⟩] ck)) := by
  simp [Builtin.delete_, run_underlying ht, MapKept.run_getObj_map hm, check_h, find_one, hne, setObj_map hm, Sem.run_bind, Sem.run_pure, Result.andThen]
end
end Go.Proofs.YtelhnaphkbpakaaDoor
namespace Go.Proofs.YtelhnaphkbpakaaDoor
open Go.RowKit
set_option linter.unusedVariables false
end Go.Proofs.YtelhnaphkbpakaaDoor
namespace Go.Proofs.YtelhnaphkbpakaaDoor
open Go
set_option linter.unusedVariables false
section
variable {P : Program} {ops : Array Oper} {Q : Exit → Act → World → Prop} {md : Region.Mode} {S : World → Prop} {k : Nat}
def wpAnyU (P : Program) (md : Region.Mode) (ops : Array Oper) (Q : Exit → Act → World → Prop) (S : World → Prop) (k : Nat) : Nat → Array Bool → Act → World → Prop
  | 0, l, a, w => Region.ready md ops l = [] ∧ Q .normal a w
  | f + 1, l, a, w => (Region.ready md ops l = [] → Q .normal a w) ∧
    ∀ i ∈ Region.ready md ops l, wpOp P ops Q i (fun a' w' => (l.getD k false = false → i ≠ k → S w') ∧ wpAnyU P md ops Q S k f (l.setIfInBounds i true) a' w') a w
theorem wpAny_of_until : ∀ (f : Nat) (l : Array Bool) (a : Act) (w : World), wpAnyU P md ops Q S k f l a w → wpAny P md ops Q f l a w
  | 0, _, _, _, h => h
  | f + 1, _, _, _, h => ⟨h.1, fun i hi => wpOp_mono (fun a' w' h' => wpAny_of_until f _ a' w' h'.2) (h.2 i hi)⟩
def waits (md : Region.Mode) (ops : Array Oper) (bs : List Nat) (i : Nat) : Bool := bs.all fun k => match ops[k]? with
  | some o => o.after.any (fun e => Region.binds md e && (e.on == i || bs.contains e.on))
  | none => false
theorem waits_spec {bs : List Nat} {i k : Nat} (h : waits md ops bs i = true) (hk : k ∈ bs) {o : Oper} (ho : ops[k]? = some o) : ∃ e ∈ o.after, Region.binds md e = true ∧ (e.on = i ∨ e.on ∈ bs) := by
  unfold waits at h
  rw [List.all_eq_true] at h
  have h := h k hk
  rw [ho] at h
  simp only [Array.any_eq_true'] at h
  obtain ⟨e, he, h2⟩ := h
  simp only [Bool.and_eq_true, Bool.or_eq_true, beq_iff_eq, List.contains_iff_mem] at h2
  exact ⟨e, he, h2.1, h2.2⟩
theorem wpAnyU_first {bs : List Nat} {i : Nat} {oi : Oper} {v : Value} (hi : ops[i]? = some oi) (hib : i ∉ bs) (hkb : k ∈ bs) (hk : waits md ops bs i = true) (hsel : ∀ (j : Nat) (o : Oper) cs b, ops[j]? = some o → o.op ≠ .select cs b)
    (hQ : ∀ c a w, Q (.panic c) (a.put oi.dst v) w → Q (.panic c) a w) :
    ∀ (f : Nat) (l : Array Bool) (a : Act) (w : World),
      (∀ j oj, ops[j]? = some oj → j ≠ i → l.getD j true = false → (∀ e ∈ oj.after, Region.binds md e = true → e.on ≠ i) → oi.apart ops oj = true) →
      i ∈ Region.ready md ops l → (∀ b ∈ bs, l.getD b false = false) → YieldsIf P ops S oi v a → S w →
      wpAnyU P md ops Q S k f (l.setIfInBounds i true) (a.put oi.dst v) w → wpAnyU P md ops Q S k (f + 1) l a w := by
  intro f
  have hik : i ≠ k := fun e => hib (e ▸ hkb)
  induction f with
  | zero =>
    intro l a w _ hr _ hy hS H
    refine ⟨fun h => (by rw [h] at hr; cases hr), fun j hj => ?_⟩
    by_cases hji : j = i
    · subst hji; exact hy.wpOp hi hS ⟨fun _ _ => hS, H⟩
    · have := ready_mono hj hji
      rw [H.1] at this
      cases this
  | succ f ih =>
    intro l a w hfree hr hkl hy hS H
    refine ⟨fun h => (by rw [h] at hr; cases hr), fun j hj => ?_⟩
    by_cases hji : j = i
    · subst hji; exact hy.wpOp hi hS ⟨fun _ _ => hS, H⟩
    · have h1 := H.2 j (ready_mono hj hji)
      obtain ⟨hjun, oj, hoj, hall⟩ := mem_ready.1 hj
      have hlist : ∀ x, l.getD x true = false ∨ l.getD x false = false → ∀ e ∈ oj.after, Region.binds md e = true → e.on = x → l.getD x false = false → False := fun x _ e he hb heq h0 => by
        have h1 := hall e he hb
        rw [heq, h0] at h1
        cases h1
      have hnot : ∀ e ∈ oj.after, Region.binds md e = true → e.on ≠ i := fun e he hb heq => by
        have h1 := hall e he hb
        have h0 := (mem_ready.1 hr).1
        rw [heq] at h1
        rcases Nat.lt_or_ge i l.size with h' | h'
        · simp [h'] at h0 h1; rw [h0] at h1; cases h1
        · simp [Array.getElem?_eq_none h'] at h1
      have hjb : j ∉ bs := fun hm => by
        obtain ⟨e, he, hb, hon⟩ := waits_spec hk hm hoj
        rcases hon with hon | hon
        · exact hnot e he hb hon
        · exact hlist _ (Or.inr (hkl _ hon)) e he hb rfl (hkl _ hon)
      have hjk : j ≠ k := fun e => hjb (e ▸ hkb)
      have h2 := wpOp_putIf hoj (hfree j oj hoj hji hjun hnot) (fun cs b => hsel i oi cs b hi) (fun cs b => hsel j oj cs b hoj) hQ hy h1
      have hfree' : ∀ k' ok, ops[k']? = some ok → k' ≠ i → (l.setIfInBounds j true).getD k' true = false →
          (∀ e ∈ ok.after, Region.binds md e = true → e.on ≠ i) → oi.apart ops ok = true := fun k' ok hk' hki hun hno => by
        refine hfree k' ok hk' hki ?_ hno
        by_cases hjk' : j = k'
        · subst hjk'; exact hjun
        · rw [getD_set_ne true hjk'] at hun; exact hun
      refine wpOp_mono (fun a' w' h3 => ?_) h2
      have hS' : S w' := h3.2.1 (by rw [getD_set_ne false hik]; exact hkl k hkb) hjk
      refine ⟨fun _ _ => hS', ih (l.setIfInBounds j true) a' w' hfree' (ready_mono hr (Ne.symm hji)) (fun b hb => by
        have hne : j ≠ b := fun e => hjb (by rw [e]; exact hb)
        rw [getD_set_ne false hne]; exact hkl b hb) h3.1 hS' ?_⟩
      rw [Array.setIfInBounds_comm _ _ hji]
      exact h3.2.2
theorem wpAnyU_take {i : Nat} {oi : Oper} {v : Value} {f : Nat} {l : Array Bool} {a : Act} {w : World} (bs : List Nat) (hi : ops[i]? = some oi) (hib : bs.contains i = false) (hkb : bs.contains k = true) (hk : waits md ops bs i = true) (hkl : bs.all (fun b => !l.getD b false) = true)
    (hs : Region.noSelect ops = true) (hf : Region.free md ops l i = true) (hr : (Region.ready md ops l).contains i = true)
    (hQ : ∀ c a w, Q (.panic c) (a.put oi.dst v) w → Q (.panic c) a w) (hy : YieldsIf P ops S oi v a) (hS : S w)
    (h : wpAnyU P md ops Q S k f (l.setIfInBounds i true) (a.put oi.dst v) w) : wpAnyU P md ops Q S k (f + 1) l a w :=
  wpAnyU_first (bs := bs) hi (fun hm => by rw [List.contains_iff_mem.2 hm] at hib; cases hib) (List.contains_iff_mem.1 hkb) hk (Region.noSelect_spec hs) hQ f l a w (Region.free_spec hi hf) (by simpa using hr) (fun b hb => by
    have := (List.all_eq_true.1 hkl) b hb
    cases hg : l.getD b false with
    | true => rw [hg] at this; cases this
    | false => rfl) hy hS h
theorem wpAnyU_one {i : Nat} {o : Oper} {f : Nat} {l : Array Bool} {a : Act} {w : World} (hr : Region.ready md ops l = [i]) (ho : ops[i]? = some o)
    (h : ∀ K' : Act → World → Prop, Shut (∀ a w, (l.getD k false = false → i ≠ k → S w) → wpAnyU P md ops Q S k f (l.setIfInBounds i true) a w → K' a w) → if Region.wanted o (yielded ops a.tmps) = true then Oper.wp P o a w K' Q else K' (a.put o.dst undef) w) :
    wpAnyU P md ops Q S k (f + 1) l a w := by
  refine And.intro (fun h0 => ?_) (fun j hj => ?_)
  · rw [hr] at h0
    cases h0
  · rw [hr] at hj
    obtain rfl : j = i := by simpa using hj
    exact wpOp_step ho (fun K' hK => h K' (fun a w hS hW => hK a w ⟨hS, hW⟩))
theorem wpAnyU_done {l : Array Bool} {a : Act} {w : World} (hr : Region.ready md ops l = []) (h : Q .normal a w) : ∀ f, wpAnyU P md ops Q S k f l a w
  | 0 => ⟨hr, h⟩
  | _ + 1 => ⟨fun _ => h, by rw [hr]; simp⟩
theorem wp_region_until_drew {id : Nat} {a : Act} {w : World} (hm : P.follows .mixedOrders = true)
    (h : wpAnyU P .any ops Q S k ops.size (Array.replicate ops.size false) a w.drew) : (Code.region id ops true).wp P Q a w :=
  wp_region_any hm (wpAny_of_until _ _ _ _ h)
end
end Go.Proofs.YtelhnaphkbpakaaDoor
namespace Go.Proofs.YtelhnaphkbpakaaDoor
open Go.RowKit
set_option linter.unusedVariables false
set_option maxRecDepth 100000
structure FrC (w w' : World) : Prop where
  size : w.heap.size ≤ w'.heap.size
  blk : ∀ (k : Nat) (c : Array Value) (t : TypeId) (fz : Nat × Nat), w.heap[k]? = some (.cells c t fz) → w'.heap[k]? = some (.cells c t fz)
section
variable {w w' w'' : World}
theorem FrC.trans (h : FrC w w') (k : FrC w' w'') : FrC w w'' := ⟨Nat.le_trans h.size k.size, fun i c t fz e => k.blk i c t fz (h.blk i c t fz e)⟩
theorem FrC.of_below (b : Below w.heap.size w w') : FrC w w' := ⟨b.size, fun k c t fz e => (b.block k (lt_of_some e)).trans e⟩
theorem FrC.putMap {m ck : Nat} {es : Array MapEntry} (hm : w.heap[m]? = some (.map es ck)) (o : Obj) : FrC w (w.putObj m o) :=
  ⟨by simp [World.putObj], fun k c t fz e => (World.putObj_heap_other (fun hk => by subst hk; rw [hm] at e; cases e)).trans e⟩
theorem FrC.row (f : FrC w w') {base : Nat} {e : TypeId} {size : Nat} {v : Value} {n : Nat} {xs : List Value} (ho : w.ownsRow base e size v n xs) : w'.ownsRow base e size v n xs := by
  refine ⟨ho.1, ?_⟩
  rcases ho.2 with hn | ⟨g, cap, cur, rfl, hb, hgg, rest⟩
  · exact .inl hn
  · exact .inr ⟨g, cap, cur, rfl, hb, f.blk _ _ _ _ hgg, rest⟩
theorem Clip16.frc {B : Nat} {a : Option Addr} {L : List Nat} (f : FrC w w') (h : Clip16 B w a L) : Clip16 B w' a L := ⟨by obtain ⟨cap, hr⟩ := h.row; exact ⟨cap, f.row hr⟩, h.bnd, h.len⟩
theorem Fresh.frc {B : Nat} {N : Nd} (f : FrC w w') (h : Fresh B w N) : Fresh B w' N :=
  ⟨h.data.frc f, h.dc, ⟨by obtain ⟨cap, hr⟩ := h.attrs.row; exact ⟨cap, f.row hr⟩, fun x hx => ⟨(h.attrs.val x hx).1.frc f, (h.attrs.val x hx).2⟩, h.attrs.nam⟩, h.ac, h.nam, h.len⟩
theorem TreeAt.frc {B : Nat} {Q : Nat → Prop} {tb : Nat} {X : TX} (h : TreeAt B Q w tb X) (f : FrC w w') : TreeAt B Q w' tb X := by
  have h0 := h.rw
  refine ⟨h.fok, h0.lenM, h0.few, h0.big, ?_, h0.own, f.blk _ _ _ _ h0.blk, ⟨?_, h0.had.2⟩, ⟨?_, h0.fre.2⟩, h0.slot, h0.used, ?_, h0.nbd, fun p hp => Nat.lt_of_lt_of_le (h0.nbl p hp) f.size⟩
  · obtain ⟨Qa, ⟨av, fv, h1, q⟩, h2, h3⟩ := h0.ar
    exact ⟨Qa, ⟨av, fv, ⟨h1.ok, h1.base, f.blk _ _ _ _ h1.blk, f.row h1.rowA, f.row h1.rowF⟩, q⟩, fun k hk => ⟨(h2 k hk).1, Nat.lt_of_lt_of_le (h2 k hk).2 f.size⟩, h3⟩
  · obtain ⟨hc, h1⟩ := h0.had.1; exact ⟨hc, f.row h1⟩
  · obtain ⟨hc, h1⟩ := h0.fre.1; exact ⟨hc, f.row h1⟩
  · intro k x nb P h1 h2 h3
    obtain ⟨a1, a2, a3, a4⟩ := h0.node k x nb P h1 h2 h3
    exact ⟨a1, a2, f.blk _ _ _ _ a3, a4.frc f⟩
end
structure RT (w : World) (tb rb m : Nat) (es : Array MapEntry) (ck : Nat) : Prop where
  blk : w.heap[rb]? = some (.cells #[.pointer (some ⟨tb, 0, none⟩), .map (some m)] 105 (0, 0))
  map : w.heap[m]? = some (.map es ck)
theorem RT.below {w w' : World} {tb rb m ck : Nat} {es : Array MapEntry} (h : RT w tb rb m es ck) (b : Below w.heap.size w w') : RT w' tb rb m es ck := ⟨(b.block _ (lt_of_some h.blk)).trans h.blk, (b.block _ (lt_of_some h.map)).trans h.map⟩
theorem z3 (w : World) : (zeroValue 3).run Tryd.prog w = .ok (.int .i64 0) w := by kernel_rfl
theorem z4 (w : World) : (zeroValue 4).run Tryd.prog w = .ok (.bool false) w := by kernel_rfl
set_option maxHeartbeats 2000000 in
theorem newR_calls (w : World) (tb : Nat) : Calls Tryd.prog 29 #[.pointer (some ⟨tb, 0, none⟩)] w fun e w' => ∃ rb m, e = .returned (.tuple #[.pointer (some ⟨rb, 0, none⟩), .int .i64 0]) ∧ RT w' tb rb m #[] 0 ∧ (w.heap.size ≤ rb ∧ w.heap.size ≤ m) ∧ Below w.heap.size w w' := by
  have hmm := @run_makeMap Tryd.prog
  go_enter Tryd.func29, Tryd.ntmps29
  go_wp2_with fail
  go_ret2
  exact ⟨w.heap.size + 1, w.heap.size, rfl, ⟨by have := Go.heap_alloc_new (w.alloc (.map #[] 0)) (.cells #[.pointer (some ⟨tb, 0, none⟩), .map (some w.heap.size)] 105); simpa using this, alloc_blk (Go.heap_alloc_new w _) _⟩, ⟨Nat.le_succ _, Nat.le_refl _⟩, ((Below.refl _ w).alloc (Nat.le_refl _) _).alloc (by simp) _⟩
theorem newR_nil (w : World) : Calls Tryd.prog 29 #[.pointer none] w fun e w' => e = .returned (.tuple #[.pointer none, .int .i64 1]) ∧ w' = w := by
  go_enter Tryd.func29, Tryd.ntmps29
  go_wp2_with fail
  go_ret2
  exact ⟨rfl, rfl⟩
section
variable {B : Nat} {Q : Nat → Prop} {w : World} {tb rb m ck : Nat} {X : TX} {es : Array MapEntry}
set_option maxHeartbeats 2000000 in
theorem livesR_calls (h : TreeAt B Q w tb X) (hr : RT w tb rb m es ck) {k : Nat} {x : FN} (hx : X.F[k]? = some x) (hl : x.live = true) :
    Calls Tryd.prog 91 #[.pointer (some ⟨rb, 0, none⟩), .agg #[.int .u32 (x.sl : Int), .int .u32 (x.gn : Int)]] w fun e w' => e = .returned (.int .i64 0) ∧ Below w.heap.size w w' := by
  have HBO : Hid (∀ W, Below w.heap.size w W → Calls Tryd.prog 43 #[.pointer (some ⟨tb, 0, none⟩), .agg #[.int .u32 (x.sl : Int), .int .u32 (x.gn : Int)]] W fun e w' => e = .returned (.tuple #[.int .u64 ((k + 1 : Nat) : Int), .int .i64 0]) ∧ Below W.heap.size W w') := Lib.hid (fun W b => born_live (h.below b).rw hx hl)
  have c0 := cell_blk hr.blk 0 rfl
  have HR := Lib.hid hr
  have lr := lt_of_some hr.blk
  clear h hr hx hl
  generalize x.sl = s at *
  generalize x.gn = g at *
  have HS : Hid (∀ W, Below w.heap.size w W → W.heap[w.heap.size]? = some (.cells #[.int .u32 (s : Int), .int .u32 (g : Int)] 31 (0, 0)) → W.cell? ⟨rb, 0, none⟩ = some (.pointer (some ⟨tb, 0, none⟩)) ∧ W.cell? ⟨w.heap.size, 0, none⟩ = some (.int .u32 (s : Int)) ∧ W.cell? ⟨w.heap.size, 1, none⟩ = some (.int .u32 (g : Int))) := Lib.hid (fun W b h2 => ⟨cell_blk (HR.out.below b).blk 0 rfl, cell_blk h2 0 rfl, cell_blk h2 1 rfl⟩)
  have HD0 : Hid (Below w.heap.size w (w.alloc (.cells #[.int .u32 (s : Int), .int .u32 (g : Int)] 31)).drew ∧ (w.alloc (.cells #[.int .u32 (s : Int), .int .u32 (g : Int)] 31)).drew.heap[w.heap.size]? = some (.cells #[.int .u32 (s : Int), .int .u32 (g : Int)] 31 (0, 0))) := Lib.hid ⟨((Below.refl _ w).alloc (Nat.le_refl _) _).drew, Go.heap_alloc_new w _⟩
  clear c0
  go_enter Tryd.func91, Tryd.ntmps91
  go_wp2_with fail
  go_cut [6] from 24 (fun v6 wc => v6 = .int .i64 0 ∧ Hid (Below w.heap.size w wc))
  case first =>
    go_region_held3 (fun W => W.cell? ⟨rb, 0, none⟩ = some (.pointer (some ⟨tb, 0, none⟩)) ∧ W.cell? ⟨w.heap.size, 0, none⟩ = some (.int .u32 (s : Int)) ∧ W.cell? ⟨w.heap.size, 1, none⟩ = some (.int .u32 (g : Int))) (first | exact HS.out _ HB1.out.1 HB1.out.2 | exact HS.out _ HD0.out.1 HD0.out.2) (first | (go_at_call 43; refine (HBO.out _ HD0.out.1).mono ?_; rintro e w1 ⟨rfl, b1⟩; have HB1 := Lib.hid (And.intro (HD0.out.1.trans (b1.mono HD0.out.1.size)) ((b1.block _ (lt_of_some HD0.out.2)).trans HD0.out.2)); clear b1))
    all_goals go_wp2_with fail
    all_goals go_meet
    all_goals exact ⟨rfl, Lib.hid HB1.out.1⟩
  case rest =>
    obtain ⟨rfl, hb⟩ := hcut
    go_wp2_with fail
    go_ret
    exact ⟨rfl, hb.out⟩
set_option maxHeartbeats 2000000 in
theorem heldR_calls (h : TreeAt B Q w tb X) {c d : Nat} {v : Value} {n : Nat} (hr : RT w tb rb m #[⟨.agg #[.int .u32 (c : Int), .int .u32 (d : Int)], v, n⟩] ck) {k : Nat} {x : FN} (hx : X.F[k]? = some x) (hl : x.live = true) (hq : (if hEq (x.sl : Int) (x.gn : Int) (c : Int) (d : Int) then v else .int .i64 0) = .int .i64 1) :
    Calls Tryd.prog 61 #[.pointer (some ⟨rb, 0, none⟩), .agg #[.int .u32 (x.sl : Int), .int .u32 (x.gn : Int)]] w fun e w' => e = .returned (.int .i64 1) ∧ Below w.heap.size w w' := by
  have HLV : Hid (∀ W, Below w.heap.size w W → Calls Tryd.prog 91 #[.pointer (some ⟨rb, 0, none⟩), .agg #[.int .u32 (x.sl : Int), .int .u32 (x.gn : Int)]] W fun e w' => e = .returned (.int .i64 0) ∧ Below W.heap.size W w') := Lib.hid (fun W b => livesR_calls (h.below b) (hr.below b) hx hl)
  have HR := Lib.hid hr
  clear h hr hx hl
  generalize x.sl = s at *
  generalize x.gn = g at *
  have HX : Hid (Below w.heap.size w (w.alloc (.cells #[.int .u32 (s : Int), .int .u32 (g : Int)] 31)) ∧ (w.alloc (.cells #[.int .u32 (s : Int), .int .u32 (g : Int)] 31)).heap[w.heap.size]? = some (.cells #[.int .u32 (s : Int), .int .u32 (g : Int)] 31 (0, 0))) := Lib.hid ⟨(Below.refl _ w).alloc (Nat.le_refl _) _, Go.heap_alloc_new w _⟩
  have HQ := Lib.hid hq
  clear hq
  go_enter Tryd.func61, Tryd.ntmps61
  go_upto_region 3 with (go_at_call 91; refine (HLV.out _ HX.out.1).mono ?_; rintro e w1 ⟨rfl, b1⟩; have HB1 := Lib.hid (And.intro (HX.out.1.trans (b1.mono HX.out.1.size)) ((b1.block _ (lt_of_some HX.out.2)).trans HX.out.2)); clear b1)
  have hS : w1.drew.cell? ⟨rb, 1, none⟩ = some (.map (some m)) ∧ w1.drew.cell? ⟨w.heap.size, 0, none⟩ = some (.int .u32 (s : Int)) ∧ w1.drew.cell? ⟨w.heap.size, 1, none⟩ = some (.int .u32 (g : Int)) ∧ w1.drew.heap[m]? = some (.map #[⟨.agg #[.int .u32 (c : Int), .int .u32 (d : Int)], v, n⟩] ck) := ⟨cell_blk (w := w1) (HR.out.below HB1.out.1).blk 1 rfl, cell_blk (w := w1) HB1.out.2 0 rfl, cell_blk (w := w1) HB1.out.2 1 rfl, (HR.out.below HB1.out.1).map⟩
  refine wp_region_noPanic ?_
  refine wp_region_until_drew (S := (fun W => W.cell? ⟨rb, 1, none⟩ = some (.map (some m)) ∧ W.cell? ⟨w.heap.size, 0, none⟩ = some (.int .u32 (s : Int)) ∧ W.cell? ⟨w.heap.size, 1, none⟩ = some (.int .u32 (g : Int)) ∧ W.heap[m]? = some (.map #[⟨.agg #[.int .u32 (c : Int), .int .u32 (d : Int)], v, n⟩] ck))) (k := 6) (by kernel_rfl) ?_
  refine wpAnyU_take (i := 0) (v := ?_) [1, 2, 3, 5, 6] rfl (by as_aux_lemma => kernel_rfl) (by as_aux_lemma => kernel_rfl) (by as_aux_lemma => kernel_rfl) (by as_aux_lemma => kernel_rfl) (by as_aux_lemma => kernel_rfl) (by as_aux_lemma => kernel_rfl) (by as_aux_lemma => kernel_rfl) (fun _ _ _ h => h) (Or.inl ⟨by kernel_rfl, ?_⟩) hS ?_
  rotate_left
  · intro w hSw; (try dsimp only at hSw); go_simp; try with_reducible rfl
  refine wpAnyU_take (i := 1) (v := ?_) [2, 3, 5, 6] rfl (by as_aux_lemma => kernel_rfl) (by as_aux_lemma => kernel_rfl) (by as_aux_lemma => kernel_rfl) (by as_aux_lemma => kernel_rfl) (by as_aux_lemma => kernel_rfl) (by as_aux_lemma => kernel_rfl) (by as_aux_lemma => kernel_rfl) (fun _ _ _ h => h) (Or.inl ⟨by kernel_rfl, ?_⟩) hS ?_
  rotate_left
  · intro w hSw; (try dsimp only at hSw); go_simp; try with_reducible rfl
  refine wpAnyU_take (i := 2) (v := ?_) [3, 5, 6] rfl (by as_aux_lemma => kernel_rfl) (by as_aux_lemma => kernel_rfl) (by as_aux_lemma => kernel_rfl) (by as_aux_lemma => kernel_rfl) (by as_aux_lemma => kernel_rfl) (by as_aux_lemma => kernel_rfl) (by as_aux_lemma => kernel_rfl) (fun _ _ _ h => h) (Or.inl ⟨by kernel_rfl, ?_⟩) hS ?_
  rotate_left
  · intro w hSw; (try dsimp only at hSw); go_simp; try with_reducible rfl
  refine wpAnyU_take (i := 3) (v := ?_) [5, 6] rfl (by as_aux_lemma => kernel_rfl) (by as_aux_lemma => kernel_rfl) (by as_aux_lemma => kernel_rfl) (by as_aux_lemma => kernel_rfl) (by as_aux_lemma => kernel_rfl) (by as_aux_lemma => kernel_rfl) (by as_aux_lemma => kernel_rfl) (fun _ _ _ h => h) (Or.inl ⟨by kernel_rfl, ?_⟩) hS ?_
  rotate_left
  · intro w hSw; (try dsimp only at hSw); go_simp; try with_reducible rfl
  refine wpAnyU_take (i := 4) (v := ?_) [5, 6] rfl (by as_aux_lemma => kernel_rfl) (by as_aux_lemma => kernel_rfl) (by as_aux_lemma => kernel_rfl) (by as_aux_lemma => kernel_rfl) (by as_aux_lemma => kernel_rfl) (by as_aux_lemma => kernel_rfl) (by as_aux_lemma => kernel_rfl) (fun _ _ _ h => h) (Or.inl ⟨by kernel_rfl, ?_⟩) hS ?_
  rotate_left
  · intro w hSw; (try dsimp only at hSw); go_simp; try with_reducible rfl
  refine wpAnyU_take (i := 5) (v := .int .i64 1) [6] rfl (by as_aux_lemma => kernel_rfl) (by as_aux_lemma => kernel_rfl) (by as_aux_lemma => kernel_rfl) (by as_aux_lemma => kernel_rfl) (by as_aux_lemma => kernel_rfl) (by as_aux_lemma => kernel_rfl) (by as_aux_lemma => kernel_rfl) (fun _ _ _ h => h) (Or.inl ⟨by kernel_rfl, ?_⟩) hS ?_
  · intro w' hSw; have hl := look_one (t := 103) hSw.2.2.2 Tryd.underlying103 z3 (s : Int) (g : Int); rw [HQ.out] at hl; go_simp; try with_reducible rfl
  refine wpAnyU_one (i := 6) (by as_aux_lemma => kernel_rfl) rfl (fun K' hK => ?_)
  go_simp
  refine hK.out _ _ (fun _ h => absurd rfl h) ?_
  clear hK K'
  refine wpAnyU_done (by kernel_rfl) ?_ _
  refine NoPanic.normal ?_
  go_wp2_with fail
  go_ret
  exact ⟨rfl, HB1.out.1.drew⟩
set_option maxHeartbeats 2000000 in
theorem releaseR_none (h : TreeAt B Q w tb X) {c d : Nat} {v : Value} {n : Nat} (hr : RT w tb rb m #[⟨.agg #[.int .u32 (c : Int), .int .u32 (d : Int)], v, n⟩] ck) {k : Nat} {x : FN} (hx : X.F[k]? = some x) (hl : x.live = true) (hq : (if hEq (x.sl : Int) (x.gn : Int) (c : Int) (d : Int) then v else .int .i64 0) = .int .i64 0) :
    Calls Tryd.prog 62 #[.pointer (some ⟨rb, 0, none⟩), .agg #[.int .u32 (x.sl : Int), .int .u32 (x.gn : Int)]] w fun e w' => e = .returned (.int .i64 101) ∧ Below w.heap.size w w' := by
  have HLV : Hid (∀ W, Below w.heap.size w W → Calls Tryd.prog 91 #[.pointer (some ⟨rb, 0, none⟩), .agg #[.int .u32 (x.sl : Int), .int .u32 (x.gn : Int)]] W fun e w' => e = .returned (.int .i64 0) ∧ Below W.heap.size W w') := Lib.hid (fun W b => livesR_calls (h.below b) (hr.below b) hx hl)
  have HR := Lib.hid hr
  clear h hr hx hl
  generalize x.sl = s at *
  generalize x.gn = g at *
  have HX : Hid (Below w.heap.size w (w.alloc (.cells #[.int .u32 (s : Int), .int .u32 (g : Int)] 31)) ∧ (w.alloc (.cells #[.int .u32 (s : Int), .int .u32 (g : Int)] 31)).heap[w.heap.size]? = some (.cells #[.int .u32 (s : Int), .int .u32 (g : Int)] 31 (0, 0))) := Lib.hid ⟨(Below.refl _ w).alloc (Nat.le_refl _) _, Go.heap_alloc_new w _⟩
  have HQ := Lib.hid hq
  clear hq
  go_enter Tryd.func62, Tryd.ntmps62
  go_upto_region 4 with (go_at_call 91; refine (HLV.out _ HX.out.1).mono ?_; rintro e w1 ⟨rfl, b1⟩; have HB1 := Lib.hid (And.intro (HX.out.1.trans (b1.mono HX.out.1.size)) ((b1.block _ (lt_of_some HX.out.2)).trans HX.out.2)); clear b1)
  have hS : w1.drew.cell? ⟨rb, 1, none⟩ = some (.map (some m)) ∧ w1.drew.cell? ⟨w.heap.size, 0, none⟩ = some (.int .u32 (s : Int)) ∧ w1.drew.cell? ⟨w.heap.size, 1, none⟩ = some (.int .u32 (g : Int)) ∧ w1.drew.heap[m]? = some (.map #[⟨.agg #[.int .u32 (c : Int), .int .u32 (d : Int)], v, n⟩] ck) := ⟨cell_blk (w := w1) (HR.out.below HB1.out.1).blk 1 rfl, cell_blk (w := w1) HB1.out.2 0 rfl, cell_blk (w := w1) HB1.out.2 1 rfl, (HR.out.below HB1.out.1).map⟩
  refine wp_region_noPanic ?_
  refine wp_region_until_drew (S := (fun W => W.cell? ⟨rb, 1, none⟩ = some (.map (some m)) ∧ W.cell? ⟨w.heap.size, 0, none⟩ = some (.int .u32 (s : Int)) ∧ W.cell? ⟨w.heap.size, 1, none⟩ = some (.int .u32 (g : Int)) ∧ W.heap[m]? = some (.map #[⟨.agg #[.int .u32 (c : Int), .int .u32 (d : Int)], v, n⟩] ck))) (k := 6) (by kernel_rfl) ?_
  refine wpAnyU_take (i := 0) (v := ?_) [1, 2, 3, 5, 6] rfl (by as_aux_lemma => kernel_rfl) (by as_aux_lemma => kernel_rfl) (by as_aux_lemma => kernel_rfl) (by as_aux_lemma => kernel_rfl) (by as_aux_lemma => kernel_rfl) (by as_aux_lemma => kernel_rfl) (by as_aux_lemma => kernel_rfl) (fun _ _ _ h => h) (Or.inl ⟨by kernel_rfl, ?_⟩) hS ?_
  rotate_left
  · intro w hSw; (try dsimp only at hSw); go_simp; try with_reducible rfl
  refine wpAnyU_take (i := 1) (v := ?_) [2, 3, 5, 6] rfl (by as_aux_lemma => kernel_rfl) (by as_aux_lemma => kernel_rfl) (by as_aux_lemma => kernel_rfl) (by as_aux_lemma => kernel_rfl) (by as_aux_lemma => kernel_rfl) (by as_aux_lemma => kernel_rfl) (by as_aux_lemma => kernel_rfl) (fun _ _ _ h => h) (Or.inl ⟨by kernel_rfl, ?_⟩) hS ?_
  rotate_left
  · intro w hSw; (try dsimp only at hSw); go_simp; try with_reducible rfl
  refine wpAnyU_take (i := 2) (v := ?_) [3, 5, 6] rfl (by as_aux_lemma => kernel_rfl) (by as_aux_lemma => kernel_rfl) (by as_aux_lemma => kernel_rfl) (by as_aux_lemma => kernel_rfl) (by as_aux_lemma => kernel_rfl) (by as_aux_lemma => kernel_rfl) (by as_aux_lemma => kernel_rfl) (fun _ _ _ h => h) (Or.inl ⟨by kernel_rfl, ?_⟩) hS ?_
  rotate_left
  · intro w hSw; (try dsimp only at hSw); go_simp; try with_reducible rfl
  refine wpAnyU_take (i := 3) (v := ?_) [5, 6] rfl (by as_aux_lemma => kernel_rfl) (by as_aux_lemma => kernel_rfl) (by as_aux_lemma => kernel_rfl) (by as_aux_lemma => kernel_rfl) (by as_aux_lemma => kernel_rfl) (by as_aux_lemma => kernel_rfl) (by as_aux_lemma => kernel_rfl) (fun _ _ _ h => h) (Or.inl ⟨by kernel_rfl, ?_⟩) hS ?_
  rotate_left
  · intro w hSw; (try dsimp only at hSw); go_simp; try with_reducible rfl
  refine wpAnyU_take (i := 4) (v := ?_) [5, 6] rfl (by as_aux_lemma => kernel_rfl) (by as_aux_lemma => kernel_rfl) (by as_aux_lemma => kernel_rfl) (by as_aux_lemma => kernel_rfl) (by as_aux_lemma => kernel_rfl) (by as_aux_lemma => kernel_rfl) (by as_aux_lemma => kernel_rfl) (fun _ _ _ h => h) (Or.inl ⟨by kernel_rfl, ?_⟩) hS ?_
  rotate_left
  · intro w hSw; (try dsimp only at hSw); go_simp; try with_reducible rfl
  refine wpAnyU_take (i := 5) (v := .int .i64 0) [6] rfl (by as_aux_lemma => kernel_rfl) (by as_aux_lemma => kernel_rfl) (by as_aux_lemma => kernel_rfl) (by as_aux_lemma => kernel_rfl) (by as_aux_lemma => kernel_rfl) (by as_aux_lemma => kernel_rfl) (by as_aux_lemma => kernel_rfl) (fun _ _ _ h => h) (Or.inl ⟨by kernel_rfl, ?_⟩) hS ?_
  · intro w' hSw; have hl := look_one (t := 103) hSw.2.2.2 Tryd.underlying103 z3 (s : Int) (g : Int); rw [HQ.out] at hl; go_simp; try with_reducible rfl
  refine wpAnyU_one (i := 6) (by as_aux_lemma => kernel_rfl) rfl (fun K' hK => ?_)
  go_simp
  refine hK.out _ _ (fun _ h => absurd rfl h) ?_
  clear hK K'
  refine wpAnyU_done (by kernel_rfl) ?_ _
  refine NoPanic.normal ?_
  go_wp2_with fail
  go_ret
  exact ⟨rfl, HB1.out.1.drew⟩
end
section
variable {B : Nat} {Q : Nat → Prop} {w : World} {tb rb m ck : Nat} {X : TX}
set_option maxHeartbeats 4000000 in
theorem holdR_calls (h : TreeAt B Q w tb X) (hr : RT w tb rb m #[] ck) (hne : rb ≠ m) {k : Nat} {x : FN} (hx : X.F[k]? = some x) (hl : x.live = true) :
    Calls Tryd.prog 60 #[.pointer (some ⟨rb, 0, none⟩), .agg #[.int .u32 (x.sl : Int), .int .u32 (x.gn : Int)]] w fun e w' => e = .returned (.int .i64 0) ∧ RT w' tb rb m #[⟨.agg #[.int .u32 (x.sl : Int), .int .u32 (x.gn : Int)], .int .i64 1, ck⟩] (ck + 1) ∧ FrC w w' ∧ ∀ n, n ≤ m → n ≤ w.heap.size → Below n w w' := by
  have HLV : Hid (∀ W, Below w.heap.size w W → Calls Tryd.prog 91 #[.pointer (some ⟨rb, 0, none⟩), .agg #[.int .u32 (x.sl : Int), .int .u32 (x.gn : Int)]] W fun e w' => e = .returned (.int .i64 0) ∧ Below W.heap.size W w') := Lib.hid (fun W b => livesR_calls (h.below b) (hr.below b) hx hl)
  have HR := Lib.hid hr
  have HNE := Lib.hid hne
  have lm := lt_of_some hr.map
  clear h hr hx hl hne
  generalize x.sl = s at *
  generalize x.gn = g at *
  have HX : Hid (Below w.heap.size w (w.alloc (.cells #[.int .u32 (s : Int), .int .u32 (g : Int)] 31)) ∧ (w.alloc (.cells #[.int .u32 (s : Int), .int .u32 (g : Int)] 31)).heap[w.heap.size]? = some (.cells #[.int .u32 (s : Int), .int .u32 (g : Int)] 31 (0, 0))) := Lib.hid ⟨(Below.refl _ w).alloc (Nat.le_refl _) _, Go.heap_alloc_new w _⟩
  have HLM := Lib.hid lm
  clear lm
  go_enter Tryd.func60, Tryd.ntmps60
  go_upto_region 4 with (go_at_call 91; refine (HLV.out _ HX.out.1).mono ?_; rintro e w1 ⟨rfl, b1⟩; have HB1 := Lib.hid (And.intro (HX.out.1.trans (b1.mono HX.out.1.size)) ((b1.block _ (lt_of_some HX.out.2)).trans HX.out.2)); clear b1)
  refine wp_region_noPanic ?_
  refine wp_region_until_drew (S := (fun W => W.cell? ⟨rb, 1, none⟩ = some (.map (some m)) ∧ W.cell? ⟨w.heap.size, 0, none⟩ = some (.int .u32 (s : Int)) ∧ W.cell? ⟨w.heap.size, 1, none⟩ = some (.int .u32 (g : Int)) ∧ (W.heap[m]? = some (.map #[] ck) ∨ W.heap[m]? = some (.map #[⟨.agg #[.int .u32 (s : Int), .int .u32 (g : Int)], .int .i64 0, ck⟩] (ck + 1))))) (k := 9) (by kernel_rfl) ?_
  have hm0 : w1.drew.heap[m]? = some (.map #[] ck) := (HR.out.below HB1.out.1).map
  have hS : w1.drew.cell? ⟨rb, 1, none⟩ = some (.map (some m)) ∧ w1.drew.cell? ⟨w.heap.size, 0, none⟩ = some (.int .u32 (s : Int)) ∧ w1.drew.cell? ⟨w.heap.size, 1, none⟩ = some (.int .u32 (g : Int)) ∧ (w1.drew.heap[m]? = some (.map #[] ck) ∨ w1.drew.heap[m]? = some (.map #[⟨.agg #[.int .u32 (s : Int), .int .u32 (g : Int)], .int .i64 0, ck⟩] (ck + 1))) := ⟨cell_blk (w := w1) (HR.out.below HB1.out.1).blk 1 rfl, cell_blk (w := w1) HB1.out.2 0 rfl, cell_blk (w := w1) HB1.out.2 1 rfl, .inl hm0⟩
  have he := entry_none (t := 103) hm0 Tryd.underlying103 z3 (s : Int) (g : Int)
  have hb1r : w1.drew.heap[rb]? = some (.cells #[.pointer (some ⟨tb, 0, none⟩), .map (some m)] 105 (0, 0)) := (HR.out.below HB1.out.1).blk
  have hb1x : w1.drew.heap[w.heap.size]? = some (.cells #[.int .u32 (s : Int), .int .u32 (g : Int)] 31 (0, 0)) := HB1.out.2
  have HC1 : Hid (Below w.heap.size w w1.drew) := Lib.hid HB1.out.1.drew
  generalize w1.drew = wd at hm0 hS he hb1r hb1x HC1 ⊢
  have hm1 : (wd.putObj m (.map #[⟨.agg #[.int .u32 (s : Int), .int .u32 (g : Int)], .int .i64 0, ck⟩] (ck + 1))).heap[m]? = some (.map #[⟨.agg #[.int .u32 (s : Int), .int .u32 (g : Int)], .int .i64 0, ck⟩] (ck + 1)) := World.putObj_heap_same (lt_of_some hm0)
  have hb2r := (World.putObj_heap_other (w := wd) (o := .map #[⟨.agg #[.int .u32 (s : Int), .int .u32 (g : Int)], .int .i64 0, ck⟩] (ck + 1)) HNE.out).trans hb1r
  have hb2x := (World.putObj_heap_other (w := wd) (r := m) (o := .map #[⟨.agg #[.int .u32 (s : Int), .int .u32 (g : Int)], .int .i64 0, ck⟩] (ck + 1)) (by have := HLM.out; omega)).trans hb1x
  have hS7 : (wd.putObj m (.map #[⟨.agg #[.int .u32 (s : Int), .int .u32 (g : Int)], .int .i64 0, ck⟩] (ck + 1))).cell? ⟨rb, 1, none⟩ = some (.map (some m)) ∧ (wd.putObj m (.map #[⟨.agg #[.int .u32 (s : Int), .int .u32 (g : Int)], .int .i64 0, ck⟩] (ck + 1))).cell? ⟨w.heap.size, 0, none⟩ = some (.int .u32 (s : Int)) ∧ (wd.putObj m (.map #[⟨.agg #[.int .u32 (s : Int), .int .u32 (g : Int)], .int .i64 0, ck⟩] (ck + 1))).cell? ⟨w.heap.size, 1, none⟩ = some (.int .u32 (g : Int)) ∧ ((wd.putObj m (.map #[⟨.agg #[.int .u32 (s : Int), .int .u32 (g : Int)], .int .i64 0, ck⟩] (ck + 1))).heap[m]? = some (.map #[] ck) ∨ (wd.putObj m (.map #[⟨.agg #[.int .u32 (s : Int), .int .u32 (g : Int)], .int .i64 0, ck⟩] (ck + 1))).heap[m]? = some (.map #[⟨.agg #[.int .u32 (s : Int), .int .u32 (g : Int)], .int .i64 0, ck⟩] (ck + 1))) := ⟨cell_blk hb2r 1 rfl, cell_blk hb2x 0 rfl, cell_blk hb2x 1 rfl, .inr hm1⟩
  have hw1 : IntKind.i64.wrap 1 = 1 := IntWalk.i64_in _ (by omega)
  have hst := entryStore_one (t := 103) hm1 (.int .i64 1)
  have HP : Hid (FrC w ((wd.putObj m (.map #[⟨.agg #[.int .u32 (s : Int), .int .u32 (g : Int)], .int .i64 0, ck⟩] (ck + 1))).putObj m (.map #[⟨.agg #[.int .u32 (s : Int), .int .u32 (g : Int)], .int .i64 1, ck⟩] (ck + 1))) ∧ RT ((wd.putObj m (.map #[⟨.agg #[.int .u32 (s : Int), .int .u32 (g : Int)], .int .i64 0, ck⟩] (ck + 1))).putObj m (.map #[⟨.agg #[.int .u32 (s : Int), .int .u32 (g : Int)], .int .i64 1, ck⟩] (ck + 1))) tb rb m #[⟨.agg #[.int .u32 (s : Int), .int .u32 (g : Int)], .int .i64 1, ck⟩] (ck + 1) ∧ ∀ n, n ≤ m → n ≤ w.heap.size → Below n w ((wd.putObj m (.map #[⟨.agg #[.int .u32 (s : Int), .int .u32 (g : Int)], .int .i64 0, ck⟩] (ck + 1))).putObj m (.map #[⟨.agg #[.int .u32 (s : Int), .int .u32 (g : Int)], .int .i64 1, ck⟩] (ck + 1)))) := Lib.hid
    ⟨((FrC.of_below HC1.out).trans (FrC.putMap hm0 _)).trans (FrC.putMap hm1 _), ⟨(World.putObj_heap_other HNE.out).trans hb2r, World.putObj_heap_same (lt_of_some hm1)⟩, fun n h1 h2 => by
      have b := HC1.out.mono h2
      exact ⟨b.os, b.tape, b.output, by simp [World.putObj]; exact b.size, fun k hk => (World.putObj_heap_other (by omega)).trans ((World.putObj_heap_other (by omega)).trans (b.block k hk))⟩⟩
  clear hm0 hb1r hb1x hb2r hb2x hm1 HC1
  refine wpAnyU_take (i := 0) (v := ?_) [1, 2, 3, 9] rfl (by as_aux_lemma => kernel_rfl) (by as_aux_lemma => kernel_rfl) (by as_aux_lemma => kernel_rfl) (by as_aux_lemma => kernel_rfl) (by as_aux_lemma => kernel_rfl) (by as_aux_lemma => kernel_rfl) (by as_aux_lemma => kernel_rfl) (fun _ _ _ h => h) (Or.inl ⟨by kernel_rfl, ?_⟩) hS ?_
  rotate_left
  · intro w hSw; (try dsimp only at hSw); go_simp; try with_reducible rfl
  refine wpAnyU_take (i := 1) (v := ?_) [2, 3, 9] rfl (by as_aux_lemma => kernel_rfl) (by as_aux_lemma => kernel_rfl) (by as_aux_lemma => kernel_rfl) (by as_aux_lemma => kernel_rfl) (by as_aux_lemma => kernel_rfl) (by as_aux_lemma => kernel_rfl) (by as_aux_lemma => kernel_rfl) (fun _ _ _ h => h) (Or.inl ⟨by kernel_rfl, ?_⟩) hS ?_
  rotate_left
  · intro w hSw; (try dsimp only at hSw); go_simp; try with_reducible rfl
  refine wpAnyU_take (i := 2) (v := ?_) [3, 9] rfl (by as_aux_lemma => kernel_rfl) (by as_aux_lemma => kernel_rfl) (by as_aux_lemma => kernel_rfl) (by as_aux_lemma => kernel_rfl) (by as_aux_lemma => kernel_rfl) (by as_aux_lemma => kernel_rfl) (by as_aux_lemma => kernel_rfl) (fun _ _ _ h => h) (Or.inl ⟨by kernel_rfl, ?_⟩) hS ?_
  rotate_left
  · intro w hSw; (try dsimp only at hSw); go_simp; try with_reducible rfl
  refine wpAnyU_take (i := 3) (v := ?_) [9] rfl (by as_aux_lemma => kernel_rfl) (by as_aux_lemma => kernel_rfl) (by as_aux_lemma => kernel_rfl) (by as_aux_lemma => kernel_rfl) (by as_aux_lemma => kernel_rfl) (by as_aux_lemma => kernel_rfl) (by as_aux_lemma => kernel_rfl) (fun _ _ _ h => h) (Or.inl ⟨by kernel_rfl, ?_⟩) hS ?_
  rotate_left
  · intro w hSw; (try dsimp only at hSw); go_simp; try with_reducible rfl
  refine wpAnyU_take (i := 4) (v := ?_) [5, 6, 9] rfl (by as_aux_lemma => kernel_rfl) (by as_aux_lemma => kernel_rfl) (by as_aux_lemma => kernel_rfl) (by as_aux_lemma => kernel_rfl) (by as_aux_lemma => kernel_rfl) (by as_aux_lemma => kernel_rfl) (by as_aux_lemma => kernel_rfl) (fun _ _ _ h => h) (Or.inl ⟨by kernel_rfl, ?_⟩) hS ?_
  rotate_left
  · intro w hSw; (try dsimp only at hSw); go_simp; try with_reducible rfl
  refine wpAnyU_take (i := 5) (v := .int .i64 0) [6, 9] rfl (by as_aux_lemma => kernel_rfl) (by as_aux_lemma => kernel_rfl) (by as_aux_lemma => kernel_rfl) (by as_aux_lemma => kernel_rfl) (by as_aux_lemma => kernel_rfl) (by as_aux_lemma => kernel_rfl) (by as_aux_lemma => kernel_rfl) (fun _ _ _ h => h) (Or.inl ⟨by kernel_rfl, ?_⟩) hS ?_
  · intro w' hSw; rcases hSw.2.2.2 with hq | hq; (have hl := look_none (t := 103) hq Tryd.underlying103 z3 (s : Int) (g : Int); go_simp; try with_reducible rfl); (have hl := look_one (t := 103) hq Tryd.underlying103 z3 (s : Int) (g : Int); rw [ite_self] at hl; go_simp; try with_reducible rfl)
  refine wpAnyU_take (i := 6) (v := ?_) [9] rfl (by as_aux_lemma => kernel_rfl) (by as_aux_lemma => kernel_rfl) (by as_aux_lemma => kernel_rfl) (by as_aux_lemma => kernel_rfl) (by as_aux_lemma => kernel_rfl) (by as_aux_lemma => kernel_rfl) (by as_aux_lemma => kernel_rfl) (fun _ _ _ h => h) (Or.inl ⟨by kernel_rfl, ?_⟩) hS ?_
  rotate_left
  · intro w hSw; (try dsimp only at hSw); go_simp; try with_reducible rfl
  refine wpAnyU_one (i := 7) (by as_aux_lemma => kernel_rfl) rfl (fun K' hK => ?_)
  go_simp
  refine hK.out _ _ (fun _ _ => hS7) ?_
  clear hK K'
  refine wpAnyU_one (i := 8) (by as_aux_lemma => kernel_rfl) rfl (fun K' hK => ?_)
  go_simp
  refine hK.out _ _ (fun _ _ => hS7) ?_
  clear hK K'
  refine wpAnyU_one (i := 9) (by as_aux_lemma => kernel_rfl) rfl (fun K' hK => ?_)
  go_simp
  refine hK.out _ _ (fun _ h => absurd rfl h) ?_
  clear hK K'
  refine wpAnyU_done (by kernel_rfl) ?_ _
  refine NoPanic.normal ?_
  go_wp2_with fail
  go_ret
  exact ⟨rfl, HP.out.2.1, HP.out.1, HP.out.2.2⟩
end
section
variable {B : Nat} {Q : Nat → Prop} {w : World} {tb : Nat} {X : TX}
set_option maxHeartbeats 2000000 in
theorem rootT_calls (h : TreeAt B Q w tb X) {k : Nat} {x : FN} (hx : X.F[k]? = some x) (hl : x.live = true) (hu : x.up = none) :
    Calls Tryd.prog 93 #[.pointer (some ⟨tb, 0, none⟩), .agg #[.int .u32 (x.sl : Int), .int .u32 (x.gn : Int)]] w fun e w' => e = .returned (.tuple #[.agg #[.int .u32 (x.sl : Int), .int .u32 (x.gn : Int)], .int .i64 0]) ∧ Below w.heap.size w w' := by
  have h0 : toH X.F k 0 = (0, 0) := by
    have : lkO X.F k 0 = none := by show upOf X.F k = none; unfold upOf; rw [hx]; exact hu
    unfold toH; rw [this]; rfl
  have HF : Hid (∀ W, Below w.heap.size w W → Calls Tryd.prog 90 #[.pointer (some ⟨tb, 0, none⟩), .agg #[.int .u32 (x.sl : Int), .int .u32 (x.gn : Int)], .int .i64 0] W fun e w' => e = .returned (.tuple #[.agg #[.int .u32 0, .int .u32 0], .int .i64 0]) ∧ Below W.heap.size W w') := Lib.hid (fun W b => by
    have := follow_live (h.below b).rw hx hl 0 (by decide)
    rw [h0] at this
    exact this)
  clear h hx hl hu h0
  generalize x.sl = s at *
  generalize x.gn = g at *
  have q0 : hEq 0 0 0 0 = true := hEq_true rfl rfl
  have HX : Hid (Below w.heap.size w ((w.alloc (.cells #[.int .u32 (s : Int), .int .u32 (g : Int)] 31)).alloc (.cells #[.int .u32 0, .int .u32 0] 31)) ∧ ((w.alloc (.cells #[.int .u32 (s : Int), .int .u32 (g : Int)] 31)).alloc (.cells #[.int .u32 0, .int .u32 0] 31)).heap[w.heap.size]? = some (.cells #[.int .u32 (s : Int), .int .u32 (g : Int)] 31 (0, 0)) ∧ ((w.alloc (.cells #[.int .u32 (s : Int), .int .u32 (g : Int)] 31)).alloc (.cells #[.int .u32 0, .int .u32 0] 31)).heap[w.heap.size + 1]? = some (.cells #[.int .u32 0, .int .u32 0] 31 (0, 0))) := Lib.hid ⟨((Below.refl _ w).alloc (Nat.le_refl _) _).alloc (by simp) _, alloc_blk (Go.heap_alloc_new w _) _, by have := Go.heap_alloc_new (w.alloc (.cells #[.int .u32 (s : Int), .int .u32 (g : Int)] 31)) (.cells #[.int .u32 0, .int .u32 0] 31); simpa using this⟩
  go_enter Tryd.func93, Tryd.ntmps93
  go_wp2_with fail
  refine (HF.out _ HX.out.1).mono ?_
  rintro e w1 ⟨rfl, b1⟩
  have h3 := (b1.block _ (lt_of_some HX.out.2.1)).trans HX.out.2.1
  have h4 := (b1.block _ (lt_of_some HX.out.2.2)).trans HX.out.2.2
  have HB1 := Lib.hid (And.intro (HX.out.1.trans (b1.mono HX.out.1.size)) (And.intro h3 h4))
  have c0 := cell_blk h3 0 rfl
  have c1 := cell_blk h3 1 rfl
  have d0 := cell_blk h4 0 rfl
  have d1 := cell_blk h4 1 rfl
  have f0 := free_blk h4 0
  have f1 := free_blk h4 1
  have l3 := lt_of_some h3
  have l4 := lt_of_some h4
  clear h3 h4 b1
  go_wp2_with fail
  go_loopg [7] 1 (fun m v7 wr => v7 = .int .i64 0 ∧ m = 1 ∧ wr = w1.alloc (.cells #[.int .u32 0, .int .u32 0] 31))
  case atStart => exact ⟨rfl, rfl, rfl⟩
  case round =>
    obtain ⟨rfl, rfl, rfl⟩ := hrel
    have n0 := cell_blk (Go.heap_alloc_new w1 (.cells #[.int .u32 0, .int .u32 0] 31)) 0 rfl
    have n1 := cell_blk (Go.heap_alloc_new w1 (.cells #[.int .u32 0, .int .u32 0] 31)) 1 rfl
    go_wp2_with fail
    have hF := alloc_blk (set_blk (set_blk HB1.out.2.2 0 (.int .u32 (s : Int))) 1 (.int .u32 (g : Int))) (.cells #[.int .u32 0, .int .u32 0] 31)
    have y0 := cell_blk hF 0 rfl
    have y1 := cell_blk hF 1 rfl
    try rw [Exit.noGoto_ret]
    exact bodyPost_ret (v := .tuple #[.agg #[.int .u32 (s : Int), .int .u32 (g : Int)], .int .i64 0]) (by simp [results, Tryd.results93, go_sem, y0, y1]) rfl ⟨rfl, ((HB1.out.1.setCell (Nat.le_succ _) _).setCell (Nat.le_succ _) _).alloc (by simp; exact HB1.out.1.size) _⟩
end
structure FrX (P : Nat → Prop) (w w' : World) : Prop where
  os : w'.os = w.os
  tape : w'.tape = w.tape
  output : w'.output = w.output
  size : w.heap.size ≤ w'.heap.size
  block : ∀ k, k < w.heap.size → ¬ P k → w'.heap[k]? = w.heap[k]?
section
variable {P : Nat → Prop} {w w' w'' : World}
theorem FrX.of_below (h : Below w.heap.size w w') : FrX P w w' := ⟨h.os, h.tape, h.output, h.size, fun k hk _ => h.block k hk⟩
theorem FrX.andBelow (h : FrX P w w') (b : Below w'.heap.size w' w'') : FrX P w w'' := ⟨b.os.trans h.os, b.tape.trans h.tape, b.output.trans h.output, Nat.le_trans h.size b.size, fun k hk hp => (b.block k (Nat.lt_of_lt_of_le hk h.size)).trans (h.block k hk hp)⟩
theorem FrX.trans {P' : Nat → Prop} (h : FrX P w w') (k : FrX P' w' w'') (hP : ∀ i, i < w.heap.size → P' i → P i) : FrX P w w'' := ⟨k.os.trans h.os, k.tape.trans h.tape, k.output.trans h.output, Nat.le_trans h.size k.size, fun i hi hp => (k.block i (Nat.lt_of_lt_of_le hi h.size) (fun hq => hp (hP i hi hq))).trans (h.block i hi hp)⟩
theorem FrX.putObj (h : FrX P w w') {m : Nat} (hm : P m ∨ w.heap.size ≤ m) (o : Obj) : FrX P w (w'.putObj m o) := ⟨h.os, h.tape, h.output, by simp [World.putObj]; exact h.size, fun k hk hp => (World.putObj_heap_other (fun e => by subst e; rcases hm with hm | hm; exact hp hm; omega)).trans (h.block k hk hp)⟩
theorem FrX.setCell (h : FrX P w w') {a : Addr} (hm : P a.block ∨ w.heap.size ≤ a.block) (v : Value) : FrX P w (w'.setCell a v) := ⟨h.os, h.tape, h.output, by simpa using h.size, fun k hk hp => by rw [heap_setCell_other _ _ _ _ (fun e => by subst e; rcases hm with hm | hm; exact hp hm; omega)]; exact h.block k hk hp⟩
theorem FrX.alloc (h : FrX P w w') (o : Obj) : FrX P w (w'.alloc o) := h.andBelow ((Below.refl _ _).alloc (Nat.le_refl _) o)
theorem FrX.drew (h : FrX P w w') : FrX P w w'.drew := ⟨h.os, h.tape, h.output, h.size, h.block⟩
theorem FrX.blk (h : FrX P w w') {b : Nat} {o : Obj} (hb : w.heap[b]? = some o) (hp : ¬ P b) : w'.heap[b]? = some o := (h.block b (lt_of_some hb) hp).trans hb
theorem FrX.low (h : FrX P w w') {n : Nat} (hn : n ≤ w.heap.size) (hp : ∀ k, k < n → ¬ P k) : Below n w w' := ⟨h.os, h.tape, h.output, h.size, fun k hk => h.block k (by omega) (hp k hk)⟩
theorem FrX.grown (h : FrX P w w') {row : Option Nat} (hg : w'.grownBy w'' row) (hr : ∀ r, row = some r → P r ∨ w.heap.size ≤ r) : FrX P w w'' := ⟨hg.os.trans h.os, hg.tape.trans h.tape, hg.output.trans h.output, Nat.le_trans h.size hg.size, fun k hk hp => (hg.block k (Nat.lt_of_lt_of_le hk h.size) (fun e => by rcases hr k e.symm with q | q; exact hp q; omega)).trans (h.block k hk hp)⟩
end
section
variable {B : Nat} {Q : Nat → Prop} {w : World} {tb rb m ck : Nat} {X : TX} {es : Array MapEntry}
set_option maxHeartbeats 4000000 in
theorem mark_calls (h : TreeAt B Q w tb X) (hr : RT w tb rb m es ck) {b1 b2 b3 rm c2 : Nat} (h1 : w.heap[b1]? = some (.cells #[.pointer (some ⟨rb, 0, none⟩)] 56 (0, 0))) (h2 : w.heap[b2]? = some (.cells #[.map (some rm)] 139 (0, 0))) (h3 : w.heap[b3]? = some (.cells #[.slice none 0 0] 70 (0, 0))) (hm : w.heap[rm]? = some (.map #[] c2))
    {k : Nat} {x : FN} (hx : X.F[k]? = some x) (hl : x.live = true) (hu : x.up = none) :
    Calls Tryd.prog 92 #[.agg #[.int .u32 (x.sl : Int), .int .u32 (x.gn : Int)], .pointer (some ⟨b1, 0, none⟩), .pointer (some ⟨b2, 0, none⟩), .pointer (some ⟨b3, 0, none⟩)] w fun e w' => e = .returned (.tuple #[]) ∧ FrX (fun k => k = rm ∨ k = b3) w w' ∧ w'.heap[rm]? = some (.map #[⟨.agg #[.int .u32 (x.sl : Int), .int .u32 (x.gn : Int)], .bool true, c2⟩] (c2 + 1)) ∧
      ∃ g cap, w'.heap[b3]? = some (.cells #[.slice (some ⟨g, 0, none⟩) 1 cap] 70 (0, 0)) ∧ w'.ownsRow w.heap.size 31 2 (.slice (some ⟨g, 0, none⟩) 1 cap) 1 [.int .u32 (x.sl : Int), .int .u32 (x.gn : Int)] := by
  have HRO : Hid (∀ W, Below w.heap.size w W → Calls Tryd.prog 93 #[.pointer (some ⟨tb, 0, none⟩), .agg #[.int .u32 (x.sl : Int), .int .u32 (x.gn : Int)]] W fun e w' => e = .returned (.tuple #[.agg #[.int .u32 (x.sl : Int), .int .u32 (x.gn : Int)], .int .i64 0]) ∧ Below W.heap.size W w') := Lib.hid (fun W b => rootT_calls (h.below b) hx hl hu)
  have HR := Lib.hid (And.intro hr (And.intro h1 (And.intro h2 (And.intro h3 hm))))
  have l1 := lt_of_some h1
  have l2 := lt_of_some h2
  have l3 := lt_of_some h3
  have HL := Lib.hid (And.intro l1 (And.intro l2 (And.intro l3 (And.intro (lt_of_some hm) (lt_of_some hr.blk)))))
  clear h hr h1 h2 h3 hm hx hl hu l1 l2 l3
  generalize x.sl = s at *
  generalize x.gn = g at *
  have HS : Hid (∀ W, Below w.heap.size w W → W.heap[w.heap.size]? = some (.cells #[.int .u32 (s : Int), .int .u32 (g : Int)] 31 (0, 0)) → W.cell? ⟨b1, 0, none⟩ = some (.pointer (some ⟨rb, 0, none⟩)) ∧ W.cell? ⟨rb, 0, none⟩ = some (.pointer (some ⟨tb, 0, none⟩)) ∧ W.cell? ⟨w.heap.size, 0, none⟩ = some (.int .u32 (s : Int)) ∧ W.cell? ⟨w.heap.size, 1, none⟩ = some (.int .u32 (g : Int))) := Lib.hid (fun W b hh => ⟨cell_blk ((b.block _ HL.out.1).trans HR.out.2.1) 0 rfl, cell_blk (HR.out.1.below b).blk 0 rfl, cell_blk hh 0 rfl, cell_blk hh 1 rfl⟩)
  obtain ⟨V, hV⟩ : ∃ V, V = w.alloc (.cells #[.int .u32 (s : Int), .int .u32 (g : Int)] 31) := ⟨_, rfl⟩
  have HV : Hid (Below w.heap.size w V ∧ V.heap[w.heap.size]? = some (.cells #[.int .u32 (s : Int), .int .u32 (g : Int)] 31 (0, 0))) := Lib.hid (by rw [hV]; exact ⟨(Below.refl _ w).alloc (Nat.le_refl _) _, Go.heap_alloc_new w _⟩)
  have HD0 : Hid (Below V.heap.size V (V.alloc (.cells #[.int .u32 0, .int .u32 0] 31)).drew ∧ (V.alloc (.cells #[.int .u32 0, .int .u32 0] 31)).drew.heap[V.heap.size]? = some (.cells #[.int .u32 0, .int .u32 0] 31 (0, 0))) := Lib.hid ⟨((Below.refl _ V).alloc (Nat.le_refl _) _).drew, Go.heap_alloc_new V _⟩
  have HD1 : Hid (Below V.heap.size V V.drew) := Lib.hid (Below.refl _ V).drew
  have HSV : Hid (∀ W, Below V.heap.size V W → W.cell? ⟨b1, 0, none⟩ = some (.pointer (some ⟨rb, 0, none⟩)) ∧ W.cell? ⟨rb, 0, none⟩ = some (.pointer (some ⟨tb, 0, none⟩)) ∧ W.cell? ⟨w.heap.size, 0, none⟩ = some (.int .u32 (s : Int)) ∧ W.cell? ⟨w.heap.size, 1, none⟩ = some (.int .u32 (g : Int))) := Lib.hid (fun W b => HS.out W (HV.out.1.trans (b.mono HV.out.1.size)) ((b.block _ (lt_of_some HV.out.2)).trans HV.out.2))
  have HROV : Hid (∀ W, Below V.heap.size V W → Calls Tryd.prog 93 #[.pointer (some ⟨tb, 0, none⟩), .agg #[.int .u32 (s : Int), .int .u32 (g : Int)]] W fun e w' => e = .returned (.tuple #[.agg #[.int .u32 (s : Int), .int .u32 (g : Int)], .int .i64 0]) ∧ Below W.heap.size W w') := Lib.hid (fun W b => HRO.out W (HV.out.1.trans (b.mono HV.out.1.size)))
  obtain ⟨i0, hi0, hz0, hz1, hz2⟩ := info_parts infoH
  clear HS HRO
  go_enter Tryd.func92, Tryd.ntmps92
  go_upto_region 1 with fail
  rw [← hV]
  clear hV
  go_cut [5, 6] from 30 (fun v5 v6 wc => ∃ b, (v5 = .pointer (some ⟨b, 0, none⟩) ∧ v6 = .int .i64 0) ∧ Hid (Below V.heap.size V wc ∧ wc.heap[b]? = some (.cells #[.int .u32 (s : Int), .int .u32 (g : Int)] 31 (0, 0)) ∧ V.heap.size ≤ b))
  case first =>
    go_region_held3 (fun W => W.cell? ⟨b1, 0, none⟩ = some (.pointer (some ⟨rb, 0, none⟩)) ∧ W.cell? ⟨rb, 0, none⟩ = some (.pointer (some ⟨tb, 0, none⟩)) ∧ W.cell? ⟨w.heap.size, 0, none⟩ = some (.int .u32 (s : Int)) ∧ W.cell? ⟨w.heap.size, 1, none⟩ = some (.int .u32 (g : Int))) (first | exact HSV.out _ ((HB3.out.setCell (Nat.le_refl _) _).setCell (Nat.le_refl _) _) | exact HSV.out _ (HB3.out.alloc HB3.out.size _) | exact HSV.out _ HB3.out | exact HSV.out _ HD0.out.1 | exact HSV.out _ HD1.out) (first | (go_at_call 93; refine (HROV.out _ HD0.out.1).mono ?_; rintro e w3 ⟨rfl, b3'⟩; have HB3 := Lib.hid (HD0.out.1.trans (b3'.mono HD0.out.1.size)); have hb3 := (b3'.block _ (lt_of_some HD0.out.2)).trans HD0.out.2; have f0 := free_blk hb3 0; have f1 := free_blk hb3 1; have g0 := cell_blk hb3 0 rfl; have g1 := cell_blk hb3 1 rfl; have l3 := lt_of_some hb3; have HX3 := Lib.hid hb3; clear b3' hb3) | (go_at_call 93; refine (HROV.out _ HD1.out).mono ?_; rintro e w3 ⟨rfl, b3'⟩; have HB3 := Lib.hid (HD1.out.trans (b3'.mono HD1.out.size)); clear b3'))
    all_goals go_wp2_with fail
    all_goals go_meet
    all_goals first | exact ⟨w3.heap.size, ⟨rfl, rfl⟩, Lib.hid ⟨HB3.out.alloc HB3.out.size _, Go.heap_alloc_new w3 _, HB3.out.size⟩⟩ | exact ⟨V.heap.size, ⟨rfl, rfl⟩, Lib.hid ⟨(HB3.out.setCell (Nat.le_refl _) _).setCell (Nat.le_refl _) _, set_blk (set_blk HX3.out 0 _) 1 _, Nat.le_refl _⟩⟩
  case rest =>
    obtain ⟨b5, ⟨rfl, rfl⟩, hw⟩ := hcut
    have bW : Below w.heap.size w wc := HV.out.1.trans (hw.out.1.mono HV.out.1.size)
    have hbm : wc.heap[rm]? = some (.map #[] c2) := (bW.block _ HL.out.2.2.2.1).trans HR.out.2.2.2.2
    have hb2 : wc.heap[b2]? = some (.cells #[.map (some rm)] 139 (0, 0)) := (bW.block _ HL.out.2.1).trans HR.out.2.2.1
    have hb3 : wc.heap[b3]? = some (.cells #[.slice none 0 0] 70 (0, 0)) := (bW.block _ HL.out.2.2.1).trans HR.out.2.2.2.1
    have hlk := look_none (t := 139) hbm Tryd.underlying139 z4 (s : Int) (g : Int)
    have hup := update_none (t := 139) hbm Tryd.underlying139 (s : Int) (g : Int) (.bool true)
    have n2 : rm ≠ b2 := fun e => by subst e; rw [hbm] at hb2; cases hb2
    have n3 : rm ≠ b3 := fun e => by subst e; rw [hbm] at hb3; cases hb3
    have n5 : rm ≠ b5 := fun e => by subst e; have := hw.out.2.1; rw [hbm] at this; cases this
    have x2 := cell_blk hb2 0 rfl
    have y0 := cell_blk hw.out.2.1 0 rfl
    have y1 := cell_blk hw.out.2.1 1 rfl
    have l2 := lt_of_some hb2
    have l5 := lt_of_some hw.out.2.1
    go_upto_region 3 with fail
    go_upto_region 4 with fail
    have hmp : (wc.putObj rm (.map #[⟨.agg #[.int .u32 (s : Int), .int .u32 (g : Int)], .bool true, c2⟩] (c2 + 1))).heap[rm]? = some (.map #[⟨.agg #[.int .u32 (s : Int), .int .u32 (g : Int)], .bool true, c2⟩] (c2 + 1)) := World.putObj_heap_same (lt_of_some hbm)
    have hfx : FrX (fun k => k = rm ∨ k = b3) w (wc.putObj rm (.map #[⟨.agg #[.int .u32 (s : Int), .int .u32 (g : Int)], .bool true, c2⟩] (c2 + 1))) := (FrX.of_below bW).putObj (.inl (.inl rfl)) _
    have hb3' := (World.putObj_heap_other (w := wc) (o := .map #[⟨.agg #[.int .u32 (s : Int), .int .u32 (g : Int)], .bool true, c2⟩] (c2 + 1)) (Ne.symm n3)).trans hb3
    have hb5' := (World.putObj_heap_other (w := wc) (o := .map #[⟨.agg #[.int .u32 (s : Int), .int .u32 (g : Int)], .bool true, c2⟩] (c2 + 1)) (Ne.symm n5)).trans hw.out.2.1
    clear hlk hup x2 y0 y1 l2 l5 hb2 hb3 hbm hw bW
    generalize wc.putObj rm (.map #[⟨.agg #[.int .u32 (s : Int), .int .u32 (g : Int)], .bool true, c2⟩] (c2 + 1)) = W2 at hmp hfx hb3' hb5' ⊢
    have x3 := cell_blk hb3' 0 rfl
    have y0 := cell_blk hb5' 0 rfl
    have y1 := cell_blk hb5' 1 rfl
    have l3 := lt_of_some hb3'
    have l5 := lt_of_some hb5'
    have hs2 := hfx.size
    have H2 := Lib.hid (And.intro hmp (And.intro hfx (And.intro hb3' n3)))
    have hba : ∀ o, w.heap.size ≤ (W2.alloc o).heap.size := fun o => by simp; omega
    have hm1 : 0 + 1 ≤ maxLen := by have : maxLen = 9223372036854775807 := rfl; omega
    have hm2 : (0 + 1) * 8 ≤ 140737488355328 := by omega
    clear hmp hfx n2 n3 n5 hb5' HV HD0 HD1 HSV HROV
    go_wp2_with (at_builtin; refine wpList_append_lies _ rfl (.tmp 26) (.tmp 28) 70 rfl w.heap.size 31 i0 _ 2 8 Tryd.underlying70 hi0 hz0 hz1 hz2 rfl (by omega) (.slice none 0 0) 0 [] rfl (World.ownsRow_nil _ _ _ _) ⟨W2.heap.size, 0, none⟩ 1 1 [.int .u32 (s : Int), .int .u32 (g : Int)] rfl rfl (World.news_of_block (cs := #[.int .u32 (s : Int), .int .u32 (g : Int)]) (t := 31) (fr := (0, 0)) (Go.heap_alloc_new W2 _)) (by simp [Value.oneCell']) (by omega) hm1 hm2 (hba _) (W2.heap.size + 1) (by simp) ?_; intro g2 cc w5 hown2 hg2 hat2 hlt2; have hbox5 := (hg2.block _ (Nat.lt_of_lt_of_le l3 (by simp)) (by simp [Value.ownBlock])).trans (alloc_blk hb3' _); have k0 := cell_blk hbox5 0 rfl; have kf := free_blk hbox5 0; have lk := lt_of_some hbox5)
    go_end0
    have hm5 := (hg2.block _ (Nat.lt_of_lt_of_le (lt_of_some H2.out.1) (by simp)) (by simp [Value.ownBlock])).trans (alloc_blk H2.out.1 _)
    have hgne : g2 ≠ b3 := by
      rcases hat2 with h | h
      · simp [Value.ownBlock] at h
      · have := l3; omega
    refine ⟨rfl, ((H2.out.2.1.alloc _).grown hg2 (fun r e => by simp [Value.ownBlock] at e)).setCell (.inl (.inr rfl)) _, ?_, g2, cc, set_blk hbox5 0 _, ?_⟩
    · rw [heap_setCell_other _ _ _ _ (show rm ≠ b3 from H2.out.2.2.2)]
      exact hm5
    · exact rwSet hown2 ⟨b3, 0, none⟩ (by simp [Value.ownBlock]; exact hgne) _
end
end Go.Proofs.YtelhnaphkbpakaaDoor
namespace Go.Proofs.YtelhnaphkbpakaaDoor
open Go
set_option linter.unusedVariables false
def onlyN (Q : Exit → Act → World → Prop) : Exit → Act → World → Prop
  | .normal, a, w => Q .normal a w
  | _, _, _ => False
def noDefer (ops : Array Oper) : Bool := ops.all fun o => match o.op with | .defer _ => false | _ => true
theorem noDefer_spec {ops : Array Oper} (h : noDefer ops = true) {i : Nat} {o : Oper} (ho : ops[i]? = some o) : ∀ c, o.op ≠ .defer c := by
  unfold noDefer at h
  rw [Array.all_eq_true'] at h
  have h := h o (Array.mem_of_getElem? ho)
  intro c e
  rw [e] at h
  cases h
section
variable {P : Program} {ops : Array Oper} {Q : Exit → Act → World → Prop} {md : Region.Mode} {S : World → Prop} {k l n : Nat}
theorem op_round {o : Oper} {a : Act} {w : World} {K : Act → World → Prop} (hd : ∀ c, o.op ≠ .defer c) (h : o.wp P a w K Q) : o.wpIn (Fence.wide.inRound l) n P a w K Q := by
  refine ⟨fun _ _ => trivial, ?_⟩
  rw [Fence.inRound_round, Oper.semAt_some _ _ _ hd]
  unfold Oper.wp at h
  generalize (execOp a.eval o).run P w = r at h
  cases r with
  | ok x w' =>
    cases x with
    | value v => exact h
    | skip => exact h
    | defer d => exact h
    | enter f args => exact ⟨fun e => (by cases e), CallsIn.inRound l (callsIn_wide.2 h)⟩
    | row row args => exact ⟨fun e => (by cases e), fun c cs _ => let ⟨v, w'', r, s⟩ := h c cs; ⟨v, w'', r, (stepsIn_wide.2 s : StepsIn (Machine.fenced P Fence.wide) _ _ _)⟩⟩
    | _ => exact h.elim
  | halt x w' =>
    cases x with
    | panic v => exact h
    | _ => exact h.elim
theorem any_round (hnd : noDefer ops = true) (hQ : ¬ LetsOut Q) : ∀ (f : Nat) (g : Array Bool) (a : Act) (w : World), wpAny P md ops Q f g a w → wpAnyIn (Fence.wide.inRound l) n P md ops Q f g a w
  | 0, _, _, _, h => h
  | f + 1, g, a, w, h => ⟨h.1, fun i hi => by
    have h2 := h.2 i hi
    unfold wpOp at h2
    unfold wpOpIn
    cases ho : ops[i]? with
    | none => rw [ho] at h2; exact any_round hnd hQ f _ _ _ h2
    | some o =>
      rw [ho] at h2
      simp only at h2 ⊢
      split at h2
      · rename_i hw
        rw [if_pos hw]
        rcases h2 with h2 | h2
        · exact Oper.wpIn_mono (fun a w h => any_round hnd hQ f _ _ _ h) (op_round (noDefer_spec hnd ho) h2)
        · exact (hQ h2.2).elim
      · rename_i hw
        rw [if_neg hw]
        exact ⟨fun _ _ => trivial, any_round hnd hQ f _ _ _ h2⟩⟩
theorem wpIn_round_until {id : Nat} {a : Act} {w : World} (hm : P.follows .mixedOrders = true) (hnd : noDefer ops = true)
    (h : wpAnyU P .any ops (onlyN Q) S k ops.size (Array.replicate ops.size false) a w.drew) : (Code.region id ops true).wpIn (Fence.wide.inRound l) n P Q a w :=
  wpIn_mono (wpIn_region_any (Q := onlyN Q) hm (any_round hnd (fun ⟨_, _, h⟩ => h) _ _ _ _ (wpAny_of_until _ _ _ _ h))) (fun e a w h => by cases e <;> first | exact h | exact h.elim)
theorem wpAnyU_two {i j : Nat} {o p : Oper} {f : Nat} {g : Array Bool} {a : Act} {w : World} (hr : Region.ready md ops g = [i, j]) (ho : ops[i]? = some o) (hp : ops[j]? = some p)
    (h : ∀ K' : Act → World → Prop, Shut (∀ a w, (g.getD k false = false → i ≠ k → S w) → wpAnyU P md ops Q S k f (g.setIfInBounds i true) a w → K' a w) → if Region.wanted o (yielded ops a.tmps) = true then Oper.wp P o a w K' Q else K' (a.put o.dst undef) w)
    (h2 : ∀ K' : Act → World → Prop, Shut (∀ a w, (g.getD k false = false → j ≠ k → S w) → wpAnyU P md ops Q S k f (g.setIfInBounds j true) a w → K' a w) → if Region.wanted p (yielded ops a.tmps) = true then Oper.wp P p a w K' Q else K' (a.put p.dst undef) w) :
    wpAnyU P md ops Q S k (f + 1) g a w := by
  refine And.intro (fun h0 => ?_) (fun x hx => ?_)
  · rw [hr] at h0
    cases h0
  · rw [hr] at hx
    rcases List.mem_cons.1 hx with rfl | hx
    · exact wpOp_step ho (fun K' hK => h K' (fun a w hS hW => hK a w ⟨hS, hW⟩))
    · obtain rfl : x = j := by simpa using hx
      exact wpOp_step hp (fun K' hK => h2 K' (fun a w hS hW => hK a w ⟨hS, hW⟩))
end
end Go.Proofs.YtelhnaphkbpakaaDoor
