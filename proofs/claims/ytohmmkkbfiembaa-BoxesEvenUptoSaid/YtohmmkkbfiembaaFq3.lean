/- BoxesPlaces: the law walked. -/
import Derived.Test.YtohmmkkbfiembaaFq2
import Derived.Test.YtohmmkkbfiembaaFa2
namespace Go.Proofs.Ytohmmkkbfiembaa
open Go.RowKit Go.Shelf
attribute [local go_sem] Oper.semAt_some
attribute [local go_sem] run_store_float
set_option linter.unusedVariables false
set_option maxRecDepth 100000

/-- One number, as the two sides have it. -/
def Sm (a b : Nat) : Prop := ∃ o, VR o (fl a) ∧ VR o (fl b)
theorem Sm.of {o : Option Nat} {a b : Nat} (h1 : VR o (fl a)) (h2 : VR o (fl b)) : Sm a b := ⟨o, h1, h2⟩
theorem Sm.self {a : Nat} (h : a < 18446744073709551616) : Sm a a := ⟨_, VR.self h, VR.self h⟩
theorem sm_calls (w : World) {x y : Nat} (h : Sm x y) : Calls Try.prog 17 #[fl x, fl y] w fun e w' => e = .returned (.bool true) ∧ w = w' := by
  obtain ⟨o, h1, h2⟩ := h
  exact same_calls w h1 h2
theorem sameRect_calls (w : World) {x y z t x' y' z' t' : Nat} (h1 : Sm x x') (h2 : Sm y y') (h3 : Sm z z') (h4 : Sm t t') :
    Calls Try.prog 16 #[.agg #[fl x, fl y, fl z, fl t], .agg #[fl x', fl y', fl z', fl t']] w fun e w' => e = .returned (.bool true) ∧ Below w.heap.size w w' := by
  have H : Hid (∀ a b, (a = x ∧ b = x') ∨ (a = y ∧ b = y') ∨ (a = z ∧ b = z') ∨ (a = t ∧ b = t') → ∀ w, Calls Try.prog 17 #[fl a, fl b] w fun e w' => e = .returned (.bool true) ∧ w = w') := Lib.hid (fun a b h w => by
    rcases h with ⟨rfl, rfl⟩ | ⟨rfl, rfl⟩ | ⟨rfl, rfl⟩ | ⟨rfl, rfl⟩
    · exact sm_calls w h1
    · exact sm_calls w h2
    · exact sm_calls w h3
    · exact sm_calls w h4)
  clear h1 h2 h3 h4
  go_enter Try.func16, Try.ntmps16
  go_wp2_with (go_at_call 17; refine (H.out _ _ (by first | exact .inl ⟨rfl, rfl⟩ | exact .inr (.inl ⟨rfl, rfl⟩) | exact .inr (.inr (.inl ⟨rfl, rfl⟩)) | exact .inr (.inr (.inr ⟨rfl, rfl⟩))) _).mono ?_; rintro e w1 ⟨rfl, rfl⟩)
  go_ret
  exact ⟨rfl, ((Below.refl _ w).alloc (Nat.le_refl _) _).alloc (by simp) _⟩
theorem vr_ret {P : Program} {f : FuncId} {args : Array Value} {w : World} {o : Option Nat} {B : World → Prop} (h : Calls P f args w fun e w' => ∃ v, e = .returned v ∧ VR o v ∧ B w') : Calls P f args w fun e w' => ∃ s : Nat, e = .returned (fl s) ∧ VR o (fl s) ∧ B w' := h.mono fun e w' ⟨v, h1, h2, h3⟩ => by
  obtain ⟨x, rfl, h5⟩ := h2
  exact ⟨x, h1, ⟨x, rfl, h5⟩, h3⟩
/-- Of any box: both say the same. -/
theorem place_both (a : Option Addr) (n cap : Nat) (A : Nat → Int) (R : Nat → Nat → Nat) (hn : n ≤ 4398046511104) (k : Int) : ∃ o r2 r3, (∀ w, BxIn w a n A R → Calls Try.prog 14 #[.slice a n cap, .int .i64 k] w (PlPost w o r2 r3)) ∧ (∀ w, BxIn w a n A R → Calls Try.prog 15 #[.slice a n cap, .int .i64 k] w (PlPost w o r2 r3) ∧ r2 < 18446744073709551616 ∧ r3 < 18446744073709551616) := by
  by_cases h : k < 0 ∨ (n : Int) ≤ k
  · exact ⟨none, 0, 0, fun w _ => progOut_calls w a n cap k h hn, fun w _ => ⟨refOut_calls w a n cap k h hn, by decide, by decide⟩⟩
  · obtain ⟨j, rfl⟩ : ∃ j : Nat, k = (j : Int) := ⟨k.toNat, by omega⟩
    obtain ⟨o, ho⟩ := Pl.all A R j
    exact ⟨o, R j 2, R j 3, fun w hb => progPlace_calls a n cap A R hn ho (by omega) w hb, fun w hb => ⟨refPlace_calls a n cap A R hn ho (by omega) w hb, (hb.at_ j (by omega)).2.1 2 (by decide), (hb.at_ j (by omega)).2.1 3 (by decide)⟩⟩
/-- Whole numbers that came in. -/
structure SlI (w : World) (a : Option Addr) (n : Nat) (f : Nat → Int) : Prop where
  at_ : ∀ i, i < n → ∃ b off, a = some ⟨b, off, none⟩ ∧ w.cell? ⟨b, off + i, none⟩ = some (.int .i64 (f i))
theorem SlI.below {w w' : World} {a : Option Addr} {n : Nat} {f : Nat → Int} (h : SlI w a n f) (hb : Below w.heap.size w w') : SlI w' a n f := ⟨fun i hi => by
  obtain ⟨b, off, h1, h2⟩ := h.at_ i hi
  exact ⟨b, off, h1, (hb.cell (p := ⟨b, off + i, none⟩) (cell_lt' h2)).trans h2⟩⟩
set_option maxHeartbeats 600000 in
theorem boxesPlaces_true (w : World) {a1 a2 a3 a4 : Option Addr} {n1 n2 n3 n4 c1 c2 c3 c4 : Nat} {A : Nat → Int} {R : Nat → Nat → Nat} {K : Nat → Int} {X : Nat → Nat} (h1 : BxIn w a1 n1 A R) (h2 : SlI w a2 n2 K) (h3 : SlF w a3 n3 X)
    (hn1 : n1 ≤ 4398046511104) (hn2 : n2 ≤ 35184372088832) (hn3 : n3 ≤ 35184372088832) :
    Calls Try.prog 6 #[.slice a1 n1 c1, .slice a2 n2 c2, .slice a3 n3 c3, .slice a4 n4 c4] w fun e w' => e = .returned (.bool true) ∧ Below w.heap.size w w' := by
  have H1 : Hid (∀ W, Below w.heap.size w W → BxIn W a1 n1 A R) := Lib.hid (fun W hW => h1.below hW)
  have H2 : Hid (∀ W, Below w.heap.size w W → SlI W a2 n2 K) := Lib.hid (fun W hW => h2.below hW)
  have H3 : Hid (∀ W, Below w.heap.size w W → SlF W a3 n3 X) := Lib.hid (fun W hW => h3.below hW)
  have HP := Lib.hid (fun k => place_both a1 n1 c1 A R hn1 k)
  have HAW := Lib.hid (awake18_true w)
  clear h1 h2 h3 hn1
  go_enter Try.func6, Try.ntmps6
  go_wp2_with (go_at_call 7; refine HAW.out.mono ?_; rintro e w1 ⟨rfl, b1⟩; have HB1 := Lib.hid b1; clear b1)
  go_loopg [21] n2 (fun gh v wr => ∃ i : Nat, v = .int .i64 (i : Int) ∧ Hid (i + gh = n2 ∧ Below w.heap.size w wr))
  case atStart => exact ⟨0, rfl, Lib.hid ⟨by omega, HB1.out⟩⟩
  case round =>
    obtain ⟨i, rfl, hw⟩ := hrel
    have hsum := hw.out.1
    have HB := Lib.hid hw.out.2
    clear hw
    have q0 : IntKind.i64.wrap ((i : Int) + 1) = (i : Int) + 1 := IntWalk.i64_in _ (by omega)
    by_cases hi : i < n2
    · obtain ⟨b, off, rfl, hc⟩ := (H2.out wr HB.out).at_ i hi
      obtain ⟨k, hk⟩ : ∃ k, k = K i := ⟨_, rfl⟩
      rw [← hk] at hc
      clear hk
      obtain ⟨o, r2, r3, hp, hq⟩ := HP.out k
      have HPP := Lib.hid hp
      have HQQ := Lib.hid hq
      have HM : Hid (gk - 1 < gk) := Lib.hid (by omega)
      have HSM : Hid (i + 1 + (gk - 1) = n2) := Lib.hid (by omega)
      clear hp hq hsum
      cases o with
      | none =>
        go_upto_region 6 with (go_at_call 14; refine (HPP.out _ (H1.out _ HB.out)).mono ?_; rintro e w2 ⟨b2, rfl⟩; have HB2 := Lib.hid (HB.out.trans (b2.mono HB.out.size)); clear b2)
        obtain ⟨M, hM⟩ : ∃ M, M = w2.heap.size := ⟨_, rfl⟩
        obtain ⟨W2, hW2⟩ : ∃ W, W = w2.alloc (.cells #[fl 0, fl 0, fl 0, fl 0] 43) := ⟨_, rfl⟩
        have hM2 : W2.heap[M]? = some (.cells #[fl 0, fl 0, fl 0, fl 0] 43 (0, 0)) := by rw [hW2, hM]; exact Go.heap_alloc_new w2 _
        have lM : M < W2.heap.size := lt_of_some hM2
        have HBW2 : Hid (Below w.heap.size w W2) := Lib.hid (by rw [hW2]; exact HB2.out.alloc HB2.out.size _)
        have HR := Lib.hid (HQQ.out W2 (H1.out _ HBW2.out))
        rw [← hW2]
        try rw [← hM]
        clear hW2 hM
        have HSA := Lib.hid (Sm.self (a := 0) (by decide))
        go_upto_region 7 with (go_at_call 15; refine HR.out.1.mono ?_; rintro e w3 ⟨b3, rfl⟩; have hM3 := (b3.block _ lM).trans hM2; have lM3 := Nat.lt_of_lt_of_le lM b3.size; have HB3 := Lib.hid (HBW2.out.trans (b3.mono HBW2.out.size)); clear b3)
        clear HR HPP HQQ hM2 lM
        obtain ⟨m0, m1, m2, m3, _, _, _, _⟩ := rect_facts hM3
        have HSS := Lib.hid (fun w => sameRect_calls w HSA.out HSA.out HSA.out HSA.out)
        go_wp2_with (go_at_call 16; refine (HSS.out _).mono ?_; rintro e w4 ⟨rfl, b4⟩; have HB4 := Lib.hid b4; clear b4)
        go_roundg (gk - 1)
        case measure => exact HM.out
        case rel => exact ⟨i + 1, by go_num, Lib.hid ⟨HSM.out, (HB3.out.alloc HB3.out.size _).trans (HB4.out.mono (HB3.out.alloc HB3.out.size _).size)⟩⟩
      | some p =>
        go_upto_region 6 with (go_at_call 14; refine (HPP.out _ (H1.out _ HB.out)).mono ?_; rintro e w2 ⟨b2, x, y, rfl, v1, v2⟩; have HB2 := Lib.hid (HB.out.trans (b2.mono HB.out.size)); clear b2; have HV := Lib.hid (And.intro v1 v2); clear v1 v2)
        obtain ⟨M, hM⟩ : ∃ M, M = w2.heap.size := ⟨_, rfl⟩
        obtain ⟨W2, hW2⟩ : ∃ W, W = w2.alloc (.cells #[fl x, fl y, fl r2, fl r3] 43) := ⟨_, rfl⟩
        have hM2 : W2.heap[M]? = some (.cells #[fl x, fl y, fl r2, fl r3] 43 (0, 0)) := by rw [hW2, hM]; exact Go.heap_alloc_new w2 _
        have lM : M < W2.heap.size := lt_of_some hM2
        have HBW2 : Hid (Below w.heap.size w W2) := Lib.hid (by rw [hW2]; exact HB2.out.alloc HB2.out.size _)
        have HR := Lib.hid (HQQ.out W2 (H1.out _ HBW2.out))
        rw [← hW2]
        try rw [← hM]
        clear hW2 hM
        have HSA := Lib.hid (And.intro (Sm.self HR.out.2.1) (Sm.self HR.out.2.2))
        go_upto_region 7 with (go_at_call 15; refine HR.out.1.mono ?_; rintro e w3 ⟨b3, x', y', rfl, v3, v4⟩; have hM3 := (b3.block _ lM).trans hM2; have lM3 := Nat.lt_of_lt_of_le lM b3.size; have HB3 := Lib.hid (HBW2.out.trans (b3.mono HBW2.out.size)); clear b3; have HV2 := Lib.hid (And.intro (Sm.of HV.out.1 v3) (Sm.of HV.out.2 v4)); clear v3 v4)
        clear HR HPP HQQ hM2 lM
        obtain ⟨m0, m1, m2, m3, _, _, _, _⟩ := rect_facts hM3
        have HSS := Lib.hid (fun w => sameRect_calls w HV2.out.1 HV2.out.2 HSA.out.1 HSA.out.2)
        go_wp2_with (go_at_call 16; refine (HSS.out _).mono ?_; rintro e w4 ⟨rfl, b4⟩; have HB4 := Lib.hid b4; clear b4)
        go_roundg (gk - 1)
        case measure => exact HM.out
        case rel => exact ⟨i + 1, by go_num, Lib.hid ⟨HSM.out, (HB3.out.alloc HB3.out.size _).trans (HB4.out.mono (HB3.out.alloc HB3.out.size _).size)⟩⟩
    · obtain rfl : i = n2 := by omega
      go_wp2_with fail
      go_loopg [49] n3 (fun gh v wr => ∃ i : Nat, v = .int .i64 (i : Int) ∧ Hid (i + gh = n3 ∧ Below w.heap.size w wr))
      case atStart => exact ⟨0, rfl, Lib.hid ⟨by omega, HB.out⟩⟩
      case round =>
        obtain ⟨j, rfl, hw⟩ := hrel
        have hsum2 := hw.out.1
        have HB2 := Lib.hid hw.out.2
        clear hw
        have q0 : IntKind.i64.wrap ((j : Int) + 1) = (j : Int) + 1 := IntWalk.i64_in _ (by omega)
        by_cases hj : j < n3
        · obtain ⟨h64, b, off, rfl, hc⟩ := (H3.out wr HB2.out).at_ j hj
          obtain ⟨x, hx⟩ : ∃ x, x = X j := ⟨_, rfl⟩
          rw [← hx] at hc
          clear hx h64
          have HM : Hid (gk - 1 < gk) := Lib.hid (by omega)
          have HSM : Hid (j + 1 + (gk - 1) = n3) := Lib.hid (by omega)
          have HS1 := Lib.hid (fun w => vr_ret (snapB_any w x))
          have HS2 := Lib.hid (fun w => vr_ret (snapR_any w x))
          have HW1 := Lib.hid (fun w => vr_ret (wideB_any w a4 n4 c4 x))
          have HW2 := Lib.hid (fun w => vr_ret (wideR_any w a4 n4 c4 x))
          have HSC := Lib.hid (fun w (a b : Nat) (h : Sm a b) => sm_calls w h)
          clear hsum2 hsum
          go_wp2_with fail
          go_at_call 18
          refine (HS1.out _).mono ?_
          rintro e w3 ⟨s1, rfl, hv, hb⟩
          have HV3 := Lib.hid hv
          have HB3 := Lib.hid (HB2.out.trans (hb.mono HB2.out.size))
          clear hv hb
          go_wp2_with fail
          go_at_call 19
          refine (HS2.out _).mono ?_
          rintro e w4 ⟨s2, rfl, hv, hb⟩
          have HV4 := Lib.hid hv
          have HB4 := Lib.hid (HB3.out.trans (hb.mono HB3.out.size))
          clear hv hb
          go_wp2_with fail
          go_at_call 17
          refine (HSC.out _ _ _ (Sm.of HV3.out HV4.out)).mono ?_
          rintro e w5 ⟨rfl, rfl⟩
          go_wp2_with fail
          go_at_call 20
          refine (HW1.out _).mono ?_
          rintro e w6 ⟨s3, rfl, hv, hb⟩
          have HV6 := Lib.hid hv
          have HB6 := Lib.hid (HB4.out.trans (hb.mono HB4.out.size))
          clear hv hb
          go_wp2_with fail
          go_at_call 21
          refine (HW2.out _).mono ?_
          rintro e w7 ⟨s4, rfl, hv, hb⟩
          have HV7 := Lib.hid hv
          have HB7 := Lib.hid (HB6.out.trans (hb.mono HB6.out.size))
          clear hv hb
          go_wp2_with fail
          go_at_call 17
          refine (HSC.out _ _ _ (Sm.of HV6.out HV7.out)).mono ?_
          rintro e w8 ⟨rfl, rfl⟩
          go_wp2_with fail
          go_roundg (gk - 1)
          case measure => exact HM.out
          case rel => exact ⟨j + 1, by go_num, Lib.hid ⟨HSM.out, HB7.out⟩⟩
        · obtain rfl : j = n3 := by omega
          go_wp2_with fail
          go_ret
          exact ⟨rfl, HB2.out⟩
theorem fq3_end : True := trivial
end Go.Proofs.Ytohmmkkbfiembaa
