/- The reference's Common, Compare, Position, Step. The reference's Step: what stands next to a node in the order. What a round of TrailWalks asks of Next, Prev and Step: one answer on both sides. What a script of makings does to a forest. No program. -/
import Derived.Test.YtelhnaphkbpakaaDoorMw28
namespace Go.Proofs.YtelhnaphkbpakaaDoor
open Go.RowKit
set_option linter.unusedVariables false
set_option maxRecDepth 100000

section
variable {B : Nat} {Q : Nat → Prop} {w w' : World} {fb : Nat} {F : For} {R : List RN} {rv : Value}
set_option maxHeartbeats 4000000 in
theorem rcommon_calls (h : FoAt B Q w fb F R rv) {a b : Nat} {la lb : List Nat} (ha : Chain F a la) (hb : Chain F b lb) :
    Calls Tryd.prog 20 #[.pointer (some ⟨fb, 0, none⟩), .int .i64 (a : Int), .int .i64 (b : Int)] w fun e w' => e = .returned (.int .i64 (upI (la.find? (fun u => decide (u ∈ lb))))) ∧ Below w.heap.size w w' := by
  have H := Lib.hid h
  have hbig := h.big
  obtain ⟨c, rfl⟩ := hb.ne_nil
  have HC := Lib.hid (And.intro ha hb)
  obtain ⟨r, hr⟩ : ∃ r, r = la.find? (fun u => decide (u ∈ b :: c)) := ⟨_, rfl⟩
  rw [← hr]
  have HR := Lib.hid hr
  have HHAS : Hid (∀ W u, Below w.heap.size w W → Calls Tryd.prog 18 #[.pointer (some ⟨fb, 0, none⟩), .int .i64 ((u : Nat) : Int), .int .i64 (b : Int)] W fun e w' => e = .returned (.bool (decide (u ∈ c))) ∧ Below W.heap.size W w') := Lib.hid (fun W u bb => rhas_calls (h.below bb) hb)
  clear h ha hb hr
  go_enter Tryd.func20, Tryd.ntmps20
  go_wp2_with fail
  go_loopg [7, 8] la.length (fun n v7 v8 wr => ∃ (o : Option Nat) (pre rest : List Nat), v7 = .int .i64 (upI o) ∧ Hid (((o = none ∧ rest = []) ∨ ∃ u, o = some u ∧ Chain F u rest) ∧ la = pre ++ rest ∧ (∀ x ∈ pre, x ∉ b :: c) ∧ rest.length = n ∧ Below w.heap.size w wr))
  case atStart => exact ⟨some a, [], la, rfl, Lib.hid ⟨.inr ⟨a, rfl, HC.out.1⟩, rfl, by simp, rfl, Below.refl _ _⟩⟩
  case round =>
    obtain ⟨o, pre, rest, rfl, hw⟩ := hrel
    cases o with
    | none =>
      have hres : r = none := by
        rcases hw.out.1 with ⟨_, e⟩ | ⟨u, e, _⟩
        · rw [HR.out, hw.out.2.1, e, List.append_nil]; exact find_none hw.out.2.2.1
        · cases e
      have HRR := Lib.hid hres
      clear hres
      have e8 : upI none = -1 := rfl
      rw [e8]
      clear e8
      go_wp2_with fail
      try rw [Exit.noGoto_ret]
      go_ret
      exact ⟨by rw [HRR.out]; rfl, hw.out.2.2.2.2⟩
    | some u =>
      have hN : ∃ y, F[u]? = some y ∧ ∃ t, rest = u :: t ∧ ((y.up = none ∧ t = []) ∨ ∃ v, y.up = some v ∧ Chain F v t) := by
        rcases hw.out.1 with ⟨e, _⟩ | ⟨u', e, hc⟩
        · cases e
        · cases e
          cases hc with
          | root a b => exact ⟨_, a, [], rfl, .inl ⟨b, rfl⟩⟩
          | up a b c => exact ⟨_, a, _, rfl, .inr ⟨_, b, c⟩⟩
      obtain ⟨y, hy, t, ht, hct⟩ := hN
      have hul := (List.getElem?_eq_some_iff.1 hy).1
      have hlow := hw.out.2.2.2.2
      have eu : upI (some u) = (u : Int) := rfl
      rw [eu]
      have ud : decide (0 ≤ (u : Int)) = true := by simp
      by_cases hm : u ∈ b :: c
      · have HRR : Hid (r = some u) := Lib.hid (by rw [HR.out]; exact find_at (by rw [hw.out.2.1, ht]) hw.out.2.2.1 hm)
        by_cases hub : u = b
        · have q1 : ((u : Int) == (b : Int)) = true := by simp [hub]
          have HU : Hid (∀ W, Below w.heap.size w W → Calls Tryd.prog 18 #[.pointer (some ⟨fb, 0, none⟩), .int .i64 ((u : Nat) : Int), .int .i64 (b : Int)] W fun e w' => e = .returned (.bool (decide (u ∈ c))) ∧ Below W.heap.size W w') := Lib.hid (fun W bb => HHAS.out W u bb)
          have HB := Lib.hid hub
          have HLO := Lib.hid hlow
          clear hct ht hm hub eu hlow hul
          go_wp2_with (go_at_call 18; refine (HU.out _ HLO.out).mono ?_; rintro e w1 ⟨rfl, b1⟩; have HB1 := Lib.hid (HLO.out.trans (b1.mono HLO.out.size)); clear b1)
          try rw [Exit.noGoto_ret]
          go_ret
          exact ⟨by rw [HRR.out]; rfl, HB1.out⟩
        · have q1 : ((u : Int) == (b : Int)) = false := by simp; omega
          have q2 : ¬ ((u : Int) = (b : Int)) := by omega
          have huc : u ∈ c := (List.mem_cons.1 hm).resolve_left hub
          have HU : Hid (∀ W, Below w.heap.size w W → Calls Tryd.prog 18 #[.pointer (some ⟨fb, 0, none⟩), .int .i64 ((u : Nat) : Int), .int .i64 (b : Int)] W fun e w' => e = .returned (.bool true) ∧ Below W.heap.size W w') := Lib.hid (fun W bb => (HHAS.out W u bb).mono (by
            rintro e w' ⟨rfl, h2⟩
            exact ⟨by rw [decide_eq_true huc], h2⟩))
          have HLO := Lib.hid hlow
          clear hct ht hm hub eu hlow huc hul
          go_wp2_with (go_at_call 18; refine (HU.out _ HLO.out).mono ?_; rintro e w1 ⟨rfl, b1⟩; have HB1 := Lib.hid (HLO.out.trans (b1.mono HLO.out.size)); clear b1)
          try rw [Exit.noGoto_ret]
          go_ret
          exact ⟨by rw [HRR.out]; rfl, HB1.out⟩
      · have hub : u ≠ b := fun e => hm (by rw [e]; simp)
        have q1 : ((u : Int) == (b : Int)) = false := by simp; omega
        have q2 : ¬ ((u : Int) = (b : Int)) := by omega
        have huc : u ∉ c := fun h => hm (List.mem_cons_of_mem _ h)
        have HU : Hid (∀ W, Below w.heap.size w W → Calls Tryd.prog 18 #[.pointer (some ⟨fb, 0, none⟩), .int .i64 ((u : Nat) : Int), .int .i64 (b : Int)] W fun e w' => e = .returned (.bool false) ∧ Below W.heap.size W w') := Lib.hid (fun W bb => (HHAS.out W u bb).mono (by
          rintro e w' ⟨rfl, h2⟩
          exact ⟨by rw [decide_eq_false huc], h2⟩))
        have HLO := Lib.hid hlow
        have HN := Lib.hid (And.intro hct (And.intro (show la = (pre ++ [u]) ++ t by rw [hw.out.2.1, ht]; simp) (And.intro (show ∀ x ∈ pre ++ [u], x ∉ b :: c by
          intro x hx
          rcases List.mem_append.1 hx with hx | hx
          · exact hw.out.2.2.1 x hx
          · obtain rfl := List.mem_singleton.1 hx; exact hm) (show t.length < gk by have := hw.out.2.2.2.1; rw [ht] at this; simp at this; omega))))
        have HGET : Hid (∀ W, Below w.heap.size w W → ∃ g cap, W.cell? ⟨fb, 0, none⟩ = some (.slice (some ⟨g, 0, none⟩) F.length cap) ∧ W.cell? ⟨g, u * 11 + 8, none⟩ = some (.int .i64 (upI y.up))) := Lib.hid (fun W bb => by
          have h2 := H.out.below bb
          have b0 := h2.b0
          obtain ⟨g2, cap2, P2, dv2, e2, hR2, z0, z1, z8, z9, z10⟩ := h2.get hy
          rw [e2] at b0
          exact ⟨g2, cap2, b0, z8⟩)
        clear hct ht hm hub eu hlow huc hy
        go_wp2_with (go_at_call 18; refine (HU.out _ HLO.out).mono ?_; rintro e w1 ⟨rfl, b1⟩; have HB1 := Lib.hid (HLO.out.trans (b1.mono HLO.out.size)); obtain ⟨g2, cap2, b0, z8⟩ := HGET.out w1 HB1.out; clear b1)
        go_roundg t.length
        case measure => exact HN.out.2.2.2
        case rel => exact ⟨y.up, pre ++ [u], t, rfl, Lib.hid ⟨HN.out.1, HN.out.2.1, HN.out.2.2.1, rfl, HB1.out⟩⟩

theorem plI_mem {L : List Nat} {v : Nat} (h : v ∈ L) : plI L v = (L.idxOf v : Int) := by unfold plI; rw [if_pos h]
set_option maxHeartbeats 4000000 in
theorem rcompare_calls (h : FoAt B Q w fb F R rv) (ok : FOk F) {a b ra rb : Nat} {la lb : List Nat} (ha : Chain F a la) (hb : Chain F b lb) (hra : la.getLast? = some ra) (hrb : lb.getLast? = some rb)
    {rc : Int} {ro : Bool} (hres : (ra ≠ rb → rc = 0 ∧ ro = false) ∧ (ra = rb → rc = cmpP (preD F ra) a b ∧ ro = true)) :
    Calls Tryd.prog 17 #[.pointer (some ⟨fb, 0, none⟩), .int .i64 (a : Int), .int .i64 (b : Int)] w fun e w' => e = .returned (.tuple #[.int .i64 rc, .bool ro]) ∧ Below w.heap.size w w' := by
  have hbig := h.big
  have hrl : ra < F.length := ha.mem_lt ra (List.mem_of_getLast? hra)
  have HRA : Hid (∀ W, Below w.heap.size w W → Calls Tryd.prog 49 #[.pointer (some ⟨fb, 0, none⟩), .int .i64 (a : Int)] W fun e w' => e = .returned (.int .i64 (ra : Int)) ∧ Below W.heap.size W w') := Lib.hid (fun W bb => rroot_calls (h.below bb) ha hra)
  have HRB : Hid (∀ W, Below w.heap.size w W → Calls Tryd.prog 49 #[.pointer (some ⟨fb, 0, none⟩), .int .i64 (b : Int)] W fun e w' => e = .returned (.int .i64 (rb : Int)) ∧ Below W.heap.size W w') := Lib.hid (fun W bb => rroot_calls (h.below bb) hb hrb)
  have HDN : Hid (∀ W, Below w.heap.size w W → Calls Tryd.prog 31 #[.pointer (some ⟨fb, 0, none⟩), .int .i64 (ra : Int)] W fun e w' => ∃ v, e = .returned v ∧ w'.ownsRow W.heap.size 3 1 v (preD F ra).length (icells (preD F ra)) ∧ Below W.heap.size W w') := Lib.hid (fun W bb => rdown_calls h ok ra hrl W bb)
  have hpl : (preD F ra).length ≤ 9223372036854775807 := by have := preD_len ok hrl; omega
  have HPL : Hid (∀ W v u, W.ownsRow w.heap.size 3 1 v (preD F ra).length (icells (preD F ra)) → Calls Tryd.prog 50 #[v, .int .i64 ((u : Nat) : Int)] W fun e w' => e = .returned (.int .i64 (plI (preD F ra) u)) ∧ Below W.heap.size W w') := Lib.hid (fun W v u hv => rplace_calls hv hpl u)
  have WARM : True := trivial
  by_cases hr : ra = rb
  · have HRES := Lib.hid (hres.2 hr)
    have e1 : plI (preD F ra) a = ((preD F ra).idxOf a : Int) := plI_mem ((mem_preD ok hrl ha).2 (List.mem_of_getLast? hra))
    have e2 : plI (preD F ra) b = ((preD F ra).idxOf b : Int) := plI_mem ((mem_preD ok hrl hb).2 (by rw [hr]; exact List.mem_of_getLast? hrb))
    obtain ⟨x, hx⟩ : ∃ x, x = (preD F ra).idxOf a := ⟨_, rfl⟩
    obtain ⟨y, hy⟩ : ∃ x, x = (preD F ra).idxOf b := ⟨_, rfl⟩
    rw [← hx] at e1
    rw [← hy] at e2
    have HPA : Hid (∀ W v, W.ownsRow w.heap.size 3 1 v (preD F ra).length (icells (preD F ra)) → Calls Tryd.prog 50 #[v, .int .i64 (a : Int)] W fun e w' => e = .returned (.int .i64 (x : Int)) ∧ Below W.heap.size W w') := Lib.hid (fun W v hv => by have := HPL.out W v a hv; rw [e1] at this; exact this)
    have HPB : Hid (∀ W v, W.ownsRow w.heap.size 3 1 v (preD F ra).length (icells (preD F ra)) → Calls Tryd.prog 50 #[v, .int .i64 (b : Int)] W fun e w' => e = .returned (.int .i64 (y : Int)) ∧ Below W.heap.size W w') := Lib.hid (fun W v hv => by have := HPL.out W v b hv; rw [e2] at this; exact this)
    have HC : Hid (rc = if x < y then -1 else if y < x then 1 else 0) := Lib.hid (by rw [HRES.out.1]; unfold cmpP; rw [← hx, ← hy])
    rw [← hr] at HRB
    clear h ok ha hb hra hrb hres hr e1 e2 hx hy hpl hrl HPL
    rw [HRES.out.2]
    have q0 : ((ra : Int) == (ra : Int)) = true := by simp
    by_cases c1 : x < y
    · rw [if_pos c1] at HC
      have d1 : decide ((x : Int) < (y : Int)) = true := by simp; omega
      rw [HC.out]
      go_enter Tryd.func17, Tryd.ntmps17
      go_wp2_with (first | (have hh := HB4; (go_at_call 50; refine (HPB.out _ _ HB4.out.1).mono ?_; rintro e w5 ⟨rfl, b5⟩; have HB5 := Lib.hid (HB4.out.2.trans (b5.mono HB4.out.2.size)); clear b5)) | (have hh := HB3; (go_at_call 50; refine (HPA.out _ _ HB3.out.1).mono ?_; rintro e w4 ⟨rfl, b4⟩; have HB4 := Lib.hid (And.intro (row_below HB3.out.1 b4) (HB3.out.2.trans (b4.mono HB3.out.2.size))); clear b4)) | (go_at_call 31; refine (HDN.out _ HB2.out).mono ?_; rintro e w3 ⟨v, rfl, hv, b3⟩; have HB3 := Lib.hid (And.intro (hv.mono HB2.out.size) (HB2.out.trans (b3.mono HB2.out.size))); clear b3 hv) | (have hh := HB1; (go_at_call 49; refine (HRB.out _ HB1.out).mono ?_; rintro e w2 ⟨rfl, b2⟩; have HB2 := Lib.hid (HB1.out.trans (b2.mono HB1.out.size)); clear b2)) | (go_at_call 49; refine (HRA.out _ (Below.refl _ _)).mono ?_; rintro e w1 ⟨rfl, b1⟩; have HB1 := Lib.hid b1; clear b1))
      try rw [Exit.noGoto_ret]
      go_ret2
      exact ⟨rfl, HB5.out⟩
    · rw [if_neg c1] at HC
      have d1 : decide ((x : Int) < (y : Int)) = false := by simp; omega
      have d1' : ¬ ((x : Int) < (y : Int)) := by omega
      by_cases c2 : y < x
      · rw [if_pos c2] at HC
        have d2 : decide ((y : Int) < (x : Int)) = true := by simp; omega
        rw [HC.out]
        go_enter Tryd.func17, Tryd.ntmps17
        go_wp2_with (first | (have hh := HB4; (go_at_call 50; refine (HPB.out _ _ HB4.out.1).mono ?_; rintro e w5 ⟨rfl, b5⟩; have HB5 := Lib.hid (HB4.out.2.trans (b5.mono HB4.out.2.size)); clear b5)) | (have hh := HB3; (go_at_call 50; refine (HPA.out _ _ HB3.out.1).mono ?_; rintro e w4 ⟨rfl, b4⟩; have HB4 := Lib.hid (And.intro (row_below HB3.out.1 b4) (HB3.out.2.trans (b4.mono HB3.out.2.size))); clear b4)) | (go_at_call 31; refine (HDN.out _ HB2.out).mono ?_; rintro e w3 ⟨v, rfl, hv, b3⟩; have HB3 := Lib.hid (And.intro (hv.mono HB2.out.size) (HB2.out.trans (b3.mono HB2.out.size))); clear b3 hv) | (have hh := HB1; (go_at_call 49; refine (HRB.out _ HB1.out).mono ?_; rintro e w2 ⟨rfl, b2⟩; have HB2 := Lib.hid (HB1.out.trans (b2.mono HB1.out.size)); clear b2)) | (go_at_call 49; refine (HRA.out _ (Below.refl _ _)).mono ?_; rintro e w1 ⟨rfl, b1⟩; have HB1 := Lib.hid b1; clear b1))
        try rw [Exit.noGoto_ret]
        go_ret2
        exact ⟨rfl, HB5.out⟩
      · rw [if_neg c2] at HC
        have d2 : decide ((y : Int) < (x : Int)) = false := by simp; omega
        have d2' : ¬ ((y : Int) < (x : Int)) := by omega
        rw [HC.out]
        go_enter Tryd.func17, Tryd.ntmps17
        go_wp2_with (first | (have hh := HB4; (go_at_call 50; refine (HPB.out _ _ HB4.out.1).mono ?_; rintro e w5 ⟨rfl, b5⟩; have HB5 := Lib.hid (HB4.out.2.trans (b5.mono HB4.out.2.size)); clear b5)) | (have hh := HB3; (go_at_call 50; refine (HPA.out _ _ HB3.out.1).mono ?_; rintro e w4 ⟨rfl, b4⟩; have HB4 := Lib.hid (And.intro (row_below HB3.out.1 b4) (HB3.out.2.trans (b4.mono HB3.out.2.size))); clear b4)) | (go_at_call 31; refine (HDN.out _ HB2.out).mono ?_; rintro e w3 ⟨v, rfl, hv, b3⟩; have HB3 := Lib.hid (And.intro (hv.mono HB2.out.size) (HB2.out.trans (b3.mono HB2.out.size))); clear b3 hv) | (have hh := HB1; (go_at_call 49; refine (HRB.out _ HB1.out).mono ?_; rintro e w2 ⟨rfl, b2⟩; have HB2 := Lib.hid (HB1.out.trans (b2.mono HB1.out.size)); clear b2)) | (go_at_call 49; refine (HRA.out _ (Below.refl _ _)).mono ?_; rintro e w1 ⟨rfl, b1⟩; have HB1 := Lib.hid b1; clear b1))
        try rw [Exit.noGoto_ret]
        go_ret2
        exact ⟨rfl, HB5.out⟩
  · have HRES := Lib.hid (hres.1 hr)
    have q0 : ((rb : Int) == (ra : Int)) = false := by simp; omega
    have q1 : ¬ ((rb : Int) = (ra : Int)) := by omega
    clear h ok ha hb hra hrb hres hr hpl hrl HPL HDN
    rw [HRES.out.1, HRES.out.2]
    go_enter Tryd.func17, Tryd.ntmps17
    go_wp2_with (first | (have hh := HB1; (go_at_call 49; refine (HRB.out _ HB1.out).mono ?_; rintro e w2 ⟨rfl, b2⟩; have HB2 := Lib.hid (HB1.out.trans (b2.mono HB1.out.size)); clear b2)) | (go_at_call 49; refine (HRA.out _ (Below.refl _ _)).mono ?_; rintro e w1 ⟨rfl, b1⟩; have HB1 := Lib.hid b1; clear b1))
    try rw [Exit.noGoto_ret]
    go_ret2
    exact ⟨rfl, HB2.out⟩

/-- What Position tells, by what its calls tell. -/
theorem rposition_calls (h : FoAt B Q w fb F R rv) (ok : FOk F) {a b ra rb : Nat} {ca cb : List Nat} (ha : Chain F a (a :: ca)) (hb : Chain F b (b :: cb)) (hra : (a :: ca).getLast? = some ra) (hrb : (b :: cb).getLast? = some rb) :
    Calls Tryd.prog 22 #[.pointer (some ⟨fb, 0, none⟩), .int .i64 (a : Int), .int .i64 (b : Int)] w fun e w' => e = .returned (.int .i64 (posF F a b ra rb ca cb)) ∧ Below w.heap.size w w' := by
  obtain ⟨rp, hrp⟩ : ∃ r, r = posF F a b ra rb ca cb := ⟨_, rfl⟩
  rw [← hrp]
  obtain ⟨rc, hrc⟩ : ∃ r : Int, r = if ra = rb then cmpP (preD F ra) a b else 0 := ⟨_, rfl⟩
  obtain ⟨ro, hro⟩ : ∃ r : Bool, r = decide (ra = rb) := ⟨_, rfl⟩
  have HCM : Hid (∀ W, Below w.heap.size w W → Calls Tryd.prog 17 #[.pointer (some ⟨fb, 0, none⟩), .int .i64 (a : Int), .int .i64 (b : Int)] W fun e w' => e = .returned (.tuple #[.int .i64 rc, .bool ro]) ∧ Below W.heap.size W w') := Lib.hid (fun W bb => rcompare_calls (h.below bb) ok ha hb hra hrb ⟨fun e => ⟨by rw [hrc, if_neg e], by rw [hro]; exact decide_eq_false e⟩, fun e => ⟨by rw [hrc, if_pos e], by rw [hro]; exact decide_eq_true e⟩⟩)
  have HH1 : Hid (∀ W, Below w.heap.size w W → Calls Tryd.prog 18 #[.pointer (some ⟨fb, 0, none⟩), .int .i64 (b : Int), .int .i64 (a : Int)] W fun e w' => e = .returned (.bool (decide (b ∈ ca))) ∧ Below W.heap.size W w') := Lib.hid (fun W bb => rhas_calls (h.below bb) ha)
  have HH2 : Hid (∀ W, Below w.heap.size w W → Calls Tryd.prog 18 #[.pointer (some ⟨fb, 0, none⟩), .int .i64 (a : Int), .int .i64 (b : Int)] W fun e w' => e = .returned (.bool (decide (a ∈ cb))) ∧ Below W.heap.size W w') := Lib.hid (fun W bb => rhas_calls (h.below bb) hb)
  have HP := Lib.hid hrp
  have HRC := Lib.hid hrc
  obtain ⟨up, hup⟩ : ∃ u, u = decide (b ∈ ca) := ⟨_, rfl⟩
  obtain ⟨dn, hdn⟩ : ∃ u, u = decide (a ∈ cb) := ⟨_, rfl⟩
  rw [← hup] at HH1
  rw [← hdn] at HH2
  have HUD := Lib.hid (And.intro hup (And.intro hdn hro))
  have WARM : True := trivial
  clear h ok ha hb hra hrb hrp hrc hup hdn hro
  by_cases e1 : a = b
  · have HR : Hid (rp = 0) := Lib.hid (by rw [HP.out]; unfold posF; rw [if_pos e1])
    have q : ((a : Int) == (b : Int)) = true := by simp [e1]
    clear e1
    go_enter Tryd.func22, Tryd.ntmps22
    go_wp2_with (first | (have hh := HB2; (go_at_call 18; refine (HH2.out _ HB2.out).mono ?_; rintro e w3 ⟨rfl, b3⟩; have HB3 := Lib.hid (HB2.out.trans (b3.mono HB2.out.size)); clear b3)) | (have hh := HB1; (go_at_call 18; refine (HH1.out _ HB1.out).mono ?_; rintro e w2 ⟨rfl, b2⟩; have HB2 := Lib.hid (HB1.out.trans (b2.mono HB1.out.size)); clear b2)) | (go_at_call 17; refine (HCM.out _ (Below.refl _ _)).mono ?_; rintro e w1 ⟨rfl, b1⟩; have HB1 := Lib.hid b1; clear b1))
    try rw [Exit.noGoto_ret]
    go_ret
    exact ⟨by rw [HR.out]; rfl, HB3.out⟩
  have E1 := Lib.hid e1
  have q : ((a : Int) == (b : Int)) = false := by simp; omega
  have q' : ¬ ((a : Int) = (b : Int)) := by omega
  clear e1
  cases ro with
  | false =>
    have e2 : ra ≠ rb := of_decide_eq_false HUD.out.2.2.symm
    have E2 := Lib.hid e2
    clear e2
    by_cases e3 : b < a
    · have HR : Hid (rp = 35) := Lib.hid (by rw [HP.out]; unfold posF; rw [if_neg E1.out, if_pos E2.out, if_pos e3])
      have d2 : decide ((b : Int) < (a : Int)) = true := by simp; omega
      have d1 : (b : Int) < (a : Int) := by omega
      clear e3
      go_enter Tryd.func22, Tryd.ntmps22
      go_wp2_with (first | (have hh := HB2; (go_at_call 18; refine (HH2.out _ HB2.out).mono ?_; rintro e w3 ⟨rfl, b3⟩; have HB3 := Lib.hid (HB2.out.trans (b3.mono HB2.out.size)); clear b3)) | (have hh := HB1; (go_at_call 18; refine (HH1.out _ HB1.out).mono ?_; rintro e w2 ⟨rfl, b2⟩; have HB2 := Lib.hid (HB1.out.trans (b2.mono HB1.out.size)); clear b2)) | (go_at_call 17; refine (HCM.out _ (Below.refl _ _)).mono ?_; rintro e w1 ⟨rfl, b1⟩; have HB1 := Lib.hid b1; clear b1))
      try rw [Exit.noGoto_ret]
      go_ret
      exact ⟨by rw [HR.out]; rfl, HB3.out⟩
    · have HR : Hid (rp = 37) := Lib.hid (by rw [HP.out]; unfold posF; rw [if_neg E1.out, if_pos E2.out, if_neg e3])
      have d2 : decide ((b : Int) < (a : Int)) = false := by simp; omega
      have d1 : ¬ ((b : Int) < (a : Int)) := by omega
      clear e3
      go_enter Tryd.func22, Tryd.ntmps22
      go_wp2_with (first | (have hh := HB2; (go_at_call 18; refine (HH2.out _ HB2.out).mono ?_; rintro e w3 ⟨rfl, b3⟩; have HB3 := Lib.hid (HB2.out.trans (b3.mono HB2.out.size)); clear b3)) | (have hh := HB1; (go_at_call 18; refine (HH1.out _ HB1.out).mono ?_; rintro e w2 ⟨rfl, b2⟩; have HB2 := Lib.hid (HB1.out.trans (b2.mono HB1.out.size)); clear b2)) | (go_at_call 17; refine (HCM.out _ (Below.refl _ _)).mono ?_; rintro e w1 ⟨rfl, b1⟩; have HB1 := Lib.hid b1; clear b1))
      try rw [Exit.noGoto_ret]
      go_ret
      exact ⟨by rw [HR.out]; rfl, HB3.out⟩
  | true =>
    have e2 : ra = rb := of_decide_eq_true HUD.out.2.2.symm
    have E2 := Lib.hid e2
    clear e2
    cases up with
    | true =>
      have HR : Hid (rp = 10) := Lib.hid (by rw [HP.out]; unfold posF; rw [if_neg E1.out, if_neg (fun h => h E2.out), if_pos (of_decide_eq_true HUD.out.1.symm)])
      go_enter Tryd.func22, Tryd.ntmps22
      go_wp2_with (first | (have hh := HB2; (go_at_call 18; refine (HH2.out _ HB2.out).mono ?_; rintro e w3 ⟨rfl, b3⟩; have HB3 := Lib.hid (HB2.out.trans (b3.mono HB2.out.size)); clear b3)) | (have hh := HB1; (go_at_call 18; refine (HH1.out _ HB1.out).mono ?_; rintro e w2 ⟨rfl, b2⟩; have HB2 := Lib.hid (HB1.out.trans (b2.mono HB1.out.size)); clear b2)) | (go_at_call 17; refine (HCM.out _ (Below.refl _ _)).mono ?_; rintro e w1 ⟨rfl, b1⟩; have HB1 := Lib.hid b1; clear b1))
      try rw [Exit.noGoto_ret]
      go_ret
      exact ⟨by rw [HR.out]; rfl, HB3.out⟩
    | false =>
      cases dn with
      | true =>
        have HR : Hid (rp = 20) := Lib.hid (by rw [HP.out]; unfold posF; rw [if_neg E1.out, if_neg (fun h => h E2.out), if_neg (of_decide_eq_false HUD.out.1.symm), if_pos (of_decide_eq_true HUD.out.2.1.symm)])
        go_enter Tryd.func22, Tryd.ntmps22
        go_wp2_with (first | (have hh := HB2; (go_at_call 18; refine (HH2.out _ HB2.out).mono ?_; rintro e w3 ⟨rfl, b3⟩; have HB3 := Lib.hid (HB2.out.trans (b3.mono HB2.out.size)); clear b3)) | (have hh := HB1; (go_at_call 18; refine (HH1.out _ HB1.out).mono ?_; rintro e w2 ⟨rfl, b2⟩; have HB2 := Lib.hid (HB1.out.trans (b2.mono HB1.out.size)); clear b2)) | (go_at_call 17; refine (HCM.out _ (Below.refl _ _)).mono ?_; rintro e w1 ⟨rfl, b1⟩; have HB1 := Lib.hid b1; clear b1))
        try rw [Exit.noGoto_ret]
        go_ret
        exact ⟨by rw [HR.out]; rfl, HB3.out⟩
      | false =>
        by_cases e5 : 0 < rc
        · have HR : Hid (rp = 2) := Lib.hid (by
            have h5 := e5
            rw [HRC.out, if_pos E2.out] at h5
            rw [HP.out]; unfold posF; rw [if_neg E1.out, if_neg (fun h => h E2.out), if_neg (of_decide_eq_false HUD.out.1.symm), if_neg (of_decide_eq_false HUD.out.2.1.symm), if_pos h5])
          have d5 : decide (0 < rc) = true := decide_eq_true e5
          go_enter Tryd.func22, Tryd.ntmps22
          go_wp2_with (first | (have hh := HB2; (go_at_call 18; refine (HH2.out _ HB2.out).mono ?_; rintro e w3 ⟨rfl, b3⟩; have HB3 := Lib.hid (HB2.out.trans (b3.mono HB2.out.size)); clear b3)) | (have hh := HB1; (go_at_call 18; refine (HH1.out _ HB1.out).mono ?_; rintro e w2 ⟨rfl, b2⟩; have HB2 := Lib.hid (HB1.out.trans (b2.mono HB1.out.size)); clear b2)) | (go_at_call 17; refine (HCM.out _ (Below.refl _ _)).mono ?_; rintro e w1 ⟨rfl, b1⟩; have HB1 := Lib.hid b1; clear b1))
          try rw [Exit.noGoto_ret]
          go_ret
          exact ⟨by rw [HR.out]; rfl, HB3.out⟩
        · have HR : Hid (rp = 4) := Lib.hid (by
            have h5 := e5
            rw [HRC.out, if_pos E2.out] at h5
            rw [HP.out]; unfold posF; rw [if_neg E1.out, if_neg (fun h => h E2.out), if_neg (of_decide_eq_false HUD.out.1.symm), if_neg (of_decide_eq_false HUD.out.2.1.symm), if_neg h5])
          have d5 : decide (0 < rc) = false := decide_eq_false e5
          go_enter Tryd.func22, Tryd.ntmps22
          go_wp2_with (first | (have hh := HB2; (go_at_call 18; refine (HH2.out _ HB2.out).mono ?_; rintro e w3 ⟨rfl, b3⟩; have HB3 := Lib.hid (HB2.out.trans (b3.mono HB2.out.size)); clear b3)) | (have hh := HB1; (go_at_call 18; refine (HH1.out _ HB1.out).mono ?_; rintro e w2 ⟨rfl, b2⟩; have HB2 := Lib.hid (HB1.out.trans (b2.mono HB1.out.size)); clear b2)) | (go_at_call 17; refine (HCM.out _ (Below.refl _ _)).mono ?_; rintro e w1 ⟨rfl, b1⟩; have HB1 := Lib.hid b1; clear b1))
          try rw [Exit.noGoto_ret]
          go_ret
          exact ⟨by rw [HR.out]; rfl, HB3.out⟩
end
end Go.Proofs.YtelhnaphkbpakaaDoor

namespace Go.Proofs.YtelhnaphkbpakaaDoor
open Go.RowKit
set_option linter.unusedVariables false
set_option maxRecDepth 100000

section
variable {B : Nat} {Q : Nat → Prop} {w w' : World} {fb : Nat} {F : For} {R : List RN} {rv : Value}
set_option maxHeartbeats 4000000 in
theorem rstep_calls (h : FoAt B Q w fb F R rv) (ok : FOk F) {i r : Nat} (hr : r < F.length) {d : Int} (hd : d = 1 ∨ d = -1) {sv : Int} {sb : Bool}
    (hres : (i ∉ preD F r → sv = -1 ∧ sb = false) ∧ ∀ p q, preD F r = p ++ i :: q → sb = true ∧ (d = 1 → sv = upI q.head?) ∧ (d = -1 → sv = upI p.getLast?)) :
    Calls Tryd.prog 34 #[.pointer (some ⟨fb, 0, none⟩), .int .i64 (i : Int), .int .i64 (r : Int), .int .i64 d] w fun e w' => e = .returned (.tuple #[.int .i64 sv, .bool sb]) ∧ Below w.heap.size w w' := by
  have hbig := h.big
  have hnd := preD_nodup ok r hr
  have hle := preD_len ok hr
  have h0 : 0 < (preD F r).length := by rw [preD_eq ok hr]; simp
  have HDN : Hid (∀ W, Below w.heap.size w W → Calls Tryd.prog 31 #[.pointer (some ⟨fb, 0, none⟩), .int .i64 (r : Int)] W fun e w' => ∃ v, e = .returned v ∧ w'.ownsRow W.heap.size 3 1 v (preD F r).length (icells (preD F r)) ∧ Below W.heap.size W w' ∧ ∃ g c, v = .slice (some ⟨g, 0, none⟩) (preD F r).length c) := Lib.hid (fun W bb => (rdown_calls h ok r hr W bb).mono (by
    rintro e w' ⟨v, rfl, h1, h2⟩
    exact ⟨v, rfl, h1, h2, row_pos h1 h0⟩))
  obtain ⟨L, hL⟩ : ∃ L, L = preD F r := ⟨_, rfl⟩
  rw [← hL] at hres hnd hle h0 HDN
  have HPL : Hid (∀ W v, W.ownsRow w.heap.size 3 1 v L.length (icells L) → Calls Tryd.prog 50 #[v, .int .i64 (i : Int)] W fun e w' => e = .returned (.int .i64 (plI L i)) ∧ Below W.heap.size W w') := Lib.hid (fun W v hv => rplace_calls hv (by omega) i)
  clear h ok hL
  have HRES := Lib.hid hres
  have WARM : True := trivial
  by_cases hm : i ∈ L
  · obtain ⟨p, q, e⟩ := List.append_of_mem hm
    have hip : i ∉ p := fun h => by
      rw [e] at hnd
      exact (List.nodup_append.1 hnd).2.2 i h i (by simp) rfl
    have e1 : plI L i = (p.length : Int) := by rw [plI_mem hm, e, idx_split hip]
    have hlen : L.length = p.length + 1 + q.length := by rw [e]; simp; omega
    obtain ⟨r1, r2, r3⟩ := hres.2 p q e
    rw [r1]
    have HCE : Hid (∀ (W : World) (g c : Nat), W.ownsRow w.heap.size 3 1 (.slice (some ⟨g, 0, none⟩) L.length c) L.length (icells L) → ∀ j x, L[j]? = some x → W.cell? ⟨g, j, none⟩ = some (.int .i64 ((x : Nat) : Int))) := Lib.hid (fun W g c hv j x hj => by
      have hk := (List.getElem?_eq_some_iff.1 hj).1
      rw [hv.cellAt j (by omega)]
      unfold icells
      rw [List.getElem?_map, hj]; rfl)
    have HL := Lib.hid e
    rw [e1] at HPL
    obtain ⟨k, hk⟩ : ∃ k, k = p.length := ⟨_, rfl⟩
    obtain ⟨n, hn⟩ : ∃ n, n = L.length := ⟨_, rfl⟩
    rw [← hk] at HPL hlen
    rw [← hn] at HPL HDN HCE hlen hle h0
    have HK := Lib.hid (And.intro hk hn)
    have z0 : decide ((k : Int) < 0) = false := by simp
    have z0' : ¬ ((k : Int) < 0) := by omega
    clear hres hm e hip e1 r1 hnd hk hn
    rcases hd with rfl | rfl
    · have wk : IntKind.i64.wrap ((k : Int) + 1) = (k : Int) + 1 := IntWalk.i64_in _ (by omega)
      have z1 : decide ((k : Int) + 1 < 0) = false := by simp; omega
      have z1' : ¬ ((k : Int) + 1 < 0) := by omega
      cases q with
      | nil =>
        have HV : Hid (sv = -1) := Lib.hid (by rw [r2 rfl]; rfl)
        have z2 : decide ((n : Int) ≤ (k : Int) + 1) = true := by simp at hlen ⊢; omega
        have z2' : (n : Int) ≤ (k : Int) + 1 := by simp at hlen; omega
        clear r2 r3
        go_enter Tryd.func34, Tryd.ntmps34
        go_wp2_with (first | (have hh := HB1; go_at_call 50; refine (HPL.out _ _ HB1.out.1).mono ?_; rintro e w2 ⟨rfl, b2⟩; have HB2 := Lib.hid (HB1.out.2.trans (b2.mono HB1.out.2.size)); obtain ⟨g, c, rfl⟩ := HSH.out; clear b2 HB1 hh) | (go_at_call 31; refine (HDN.out _ (Below.refl _ _)).mono ?_; rintro e w1 ⟨v, rfl, hv, b1, hsh⟩; have HB1 := Lib.hid (And.intro hv b1); have HSH := Lib.hid hsh; clear b1 hv hsh))
        try rw [Exit.noGoto_ret]
        go_ret2
        exact ⟨by rw [HV.out]; rfl, HB2.out⟩
      | cons y q' =>
        have HV : Hid (sv = (y : Int)) := Lib.hid (by rw [r2 rfl]; rfl)
        have z2 : decide ((n : Int) ≤ (k : Int) + 1) = false := by simp at hlen ⊢; omega
        have z2' : ¬ ((n : Int) ≤ (k : Int) + 1) := by simp at hlen; omega
        have z3 : k + 1 < n := by simp at hlen; omega
        have z4 : ((k : Int) + 1) = ((k + 1 : Nat) : Int) := by omega
        have HJ : Hid (L[k + 1]? = some y) := Lib.hid (by rw [HL.out, HK.out.1]; simp)
        clear r2 r3
        rw [z4] at wk z1 z1' z2 z2'
        clear z4
        go_enter Tryd.func34, Tryd.ntmps34
        go_wp2_with (first | (have hh := HB1; go_at_call 50; refine (HPL.out _ _ HB1.out.1).mono ?_; rintro e w2 ⟨rfl, b2⟩; have HB2 := Lib.hid (HB1.out.2.trans (b2.mono HB1.out.2.size)); obtain ⟨g, c, rfl⟩ := HSH.out; have y0 := HCE.out _ _ _ (row_below HB1.out.1 b2) _ _ HJ.out; clear b2 HB1 hh) | (go_at_call 31; refine (HDN.out _ (Below.refl _ _)).mono ?_; rintro e w1 ⟨v, rfl, hv, b1, hsh⟩; have HB1 := Lib.hid (And.intro hv b1); have HSH := Lib.hid hsh; clear b1 hv hsh))
        try rw [Exit.noGoto_ret]
        go_ret2
        exact ⟨by rw [HV.out]; rfl, HB2.out⟩
    · rcases List.eq_nil_or_concat p with e | ⟨p', y, e⟩
      · have HV : Hid (sv = -1) := Lib.hid (by rw [r3 rfl, e]; rfl)
        have hk0 : k = 0 := by rw [HK.out.1, e]; rfl
        clear r2 r3
        subst hk0
        have wk : IntKind.i64.wrap ((0 : Int) + -1) = -1 := by decide
        go_enter Tryd.func34, Tryd.ntmps34
        go_wp2_with (first | (have hh := HB1; go_at_call 50; refine (HPL.out _ _ HB1.out.1).mono ?_; rintro e w2 ⟨rfl, b2⟩; have HB2 := Lib.hid (HB1.out.2.trans (b2.mono HB1.out.2.size)); obtain ⟨g, c, rfl⟩ := HSH.out; clear b2 HB1 hh) | (go_at_call 31; refine (HDN.out _ (Below.refl _ _)).mono ?_; rintro e w1 ⟨v, rfl, hv, b1, hsh⟩; have HB1 := Lib.hid (And.intro hv b1); have HSH := Lib.hid hsh; clear b1 hv hsh))
        try rw [Exit.noGoto_ret]
        go_ret2
        exact ⟨by rw [HV.out]; rfl, HB2.out⟩
      · rw [List.concat_eq_append] at e
        have HV : Hid (sv = (y : Int)) := Lib.hid (by rw [r3 rfl, e]; simp [upI])
        obtain ⟨k', hk'⟩ : ∃ k', k = k' + 1 := ⟨p'.length, by rw [HK.out.1, e]; simp⟩
        have wk : IntKind.i64.wrap ((k : Int) + -1) = (k' : Int) := by rw [show ((k : Int) + -1) = (k' : Int) by omega]; exact IntWalk.i64_in _ (by omega)
        have z1 : decide ((k' : Int) < 0) = false := by simp
        have z1' : ¬ ((k' : Int) < 0) := by omega
        have z2 : decide ((n : Int) ≤ (k' : Int)) = false := by simp; omega
        have z2' : ¬ ((n : Int) ≤ (k' : Int)) := by omega
        have z3 : k' < n := by omega
        have HJ : Hid (L[k']? = some y) := Lib.hid (by
          have : k' = p'.length := by have := HK.out.1; rw [e] at this; simp at this; omega
          rw [HL.out, e, this]; simp)
        clear r2 r3 hk'
        go_enter Tryd.func34, Tryd.ntmps34
        go_wp2_with (first | (have hh := HB1; go_at_call 50; refine (HPL.out _ _ HB1.out.1).mono ?_; rintro e w2 ⟨rfl, b2⟩; have HB2 := Lib.hid (HB1.out.2.trans (b2.mono HB1.out.2.size)); obtain ⟨g, c, rfl⟩ := HSH.out; have y0 := HCE.out _ _ _ (row_below HB1.out.1 b2) _ _ HJ.out; clear b2 HB1 hh) | (go_at_call 31; refine (HDN.out _ (Below.refl _ _)).mono ?_; rintro e w1 ⟨v, rfl, hv, b1, hsh⟩; have HB1 := Lib.hid (And.intro hv b1); have HSH := Lib.hid hsh; clear b1 hv hsh))
        try rw [Exit.noGoto_ret]
        go_ret2
        exact ⟨by rw [HV.out]; rfl, HB2.out⟩
  · have e1 : plI L i = -1 := by unfold plI; rw [if_neg hm]
    obtain ⟨r1, r2⟩ := hres.1 hm
    rw [e1] at HPL
    rw [r1, r2]
    obtain ⟨n, hn⟩ : ∃ n, n = L.length := ⟨_, rfl⟩
    rw [← hn] at HPL HDN
    clear hres hm e1 r1 r2 hnd hn
    go_enter Tryd.func34, Tryd.ntmps34
    go_wp2_with (first | (have hh := HB1; go_at_call 50; refine (HPL.out _ _ HB1.out.1).mono ?_; rintro e w2 ⟨rfl, b2⟩; have HB2 := Lib.hid (HB1.out.2.trans (b2.mono HB1.out.2.size)); obtain ⟨g, c, rfl⟩ := HSH.out; clear b2 HB1 hh) | (go_at_call 31; refine (HDN.out _ (Below.refl _ _)).mono ?_; rintro e w1 ⟨v, rfl, hv, b1, hsh⟩; have HB1 := Lib.hid (And.intro hv b1); have HSH := Lib.hid hsh; clear b1 hv hsh))
    try rw [Exit.noGoto_ret]
    go_ret2
    exact ⟨rfl, HB2.out⟩
end
end Go.Proofs.YtelhnaphkbpakaaDoor

namespace Go.Proofs.YtelhnaphkbpakaaDoor
open Go.RowKit
set_option linter.unusedVariables false
set_option maxRecDepth 100000

theorem atI_cases (F : For) (s g : Nat) : (atI F s g = -1 ∧ ¬ Lv F s g) ∨ ∃ (k : Nat) (x : FN), atI F s g = (k : Int) ∧ F[k]? = some x ∧ x.live = true ∧ x.sl = s ∧ x.gn = g := by
  unfold atI
  cases h : F.findIdx? (isH s g) with
  | none =>
    refine .inl ⟨rfl, ?_⟩
    rintro ⟨k, x, hx, hl, hs, hg⟩
    have := List.findIdx?_eq_none_iff.1 h x (List.mem_of_getElem? hx)
    simp [isH, hl, hs, hg] at this
  | some k =>
    obtain ⟨hk, hp, _⟩ := List.findIdx?_eq_some_iff_getElem.1 h
    simp only [isH, Bool.and_eq_true, decide_eq_true_eq] at hp
    exact .inr ⟨k, F[k], rfl, List.getElem?_eq_getElem hk, hp.1, hp.2.1, hp.2.2⟩

section
variable {B B' : Nat} {Q Q' : Nat → Prop} {w : World} {tb fb : Nat} {X : TX} {R : List RN} {rv : Value}
theorem rhandle_o (h : FoAt B' Q' w fb X.F R rv) {o : Option Nat} (ho : ∀ m, o = some m → m < X.F.length) :
    Calls Tryd.prog 19 #[.pointer (some ⟨fb, 0, none⟩), .int .i64 (upI o)] w fun e w' => e = .returned (.agg #[.int .u32 ((hd X.F o).1 : Int), .int .u32 ((hd X.F o).2 : Int)]) ∧ Below w.heap.size w w' := by
  cases o with
  | none => exact rhandle_none w fb (by decide)
  | some m =>
    have hx : X.F[m]? = some (X.F[m]'(ho m rfl)) := List.getElem?_eq_getElem _
    have e := hd_some hx
    rw [e]
    exact rhandle_calls h hx
/-- What is asked of Next and Prev, and what the document answers. -/
structure NxR (X : TX) (w : World) (tb fb sa ga sc gc : Nat) (g : Int) (nh ph : Nat × Nat) : Prop where
  next : ∀ W, Below w.heap.size w W → Calls Tryd.prog 23 #[.pointer (some ⟨tb, 0, none⟩), .agg #[.int .u32 (sa : Int), .int .u32 (ga : Int)], .agg #[.int .u32 (sc : Int), .int .u32 (gc : Int)]] W fun e w' => e = .returned (.tuple #[.agg #[.int .u32 (nh.1 : Int), .int .u32 (nh.2 : Int)], .int .i64 g]) ∧ Below W.heap.size W w'
  prev : ∀ W, Below w.heap.size w W → Calls Tryd.prog 24 #[.pointer (some ⟨tb, 0, none⟩), .agg #[.int .u32 (sa : Int), .int .u32 (ga : Int)], .agg #[.int .u32 (sc : Int), .int .u32 (gc : Int)]] W fun e w' => e = .returned (.tuple #[.agg #[.int .u32 (ph.1 : Int), .int .u32 (ph.2 : Int)], .int .i64 g]) ∧ Below W.heap.size W w'
structure StQ (X : TX) (w : World) (fb : Nat) (x r : Int) (is : Bool) (g : Int) (nh ph : Nat × Nat) : Prop where
  ex : ∃ j k : Int, (∀ W, Below w.heap.size w W → Calls Tryd.prog 34 #[.pointer (some ⟨fb, 0, none⟩), .int .i64 x, .int .i64 r, .int .i64 1] W fun e w' => e = .returned (.tuple #[.int .i64 j, .bool is]) ∧ Below W.heap.size W w') ∧
    (∀ W, Below w.heap.size w W → Calls Tryd.prog 34 #[.pointer (some ⟨fb, 0, none⟩), .int .i64 x, .int .i64 r, .int .i64 (-1)] W fun e w' => e = .returned (.tuple #[.int .i64 k, .bool is]) ∧ Below W.heap.size W w') ∧
    ((is = false ∧ g = 1 ∧ nh = (0, 0) ∧ ph = (0, 0)) ∨ (is = true ∧ g = 0 ∧
      (∀ W, Below w.heap.size w W → Calls Tryd.prog 19 #[.pointer (some ⟨fb, 0, none⟩), .int .i64 j] W fun e w' => e = .returned (.agg #[.int .u32 (nh.1 : Int), .int .u32 (nh.2 : Int)]) ∧ Below W.heap.size W w') ∧
      (∀ W, Below w.heap.size w W → Calls Tryd.prog 19 #[.pointer (some ⟨fb, 0, none⟩), .int .i64 k] W fun e w' => e = .returned (.agg #[.int .u32 (ph.1 : Int), .int .u32 (ph.2 : Int)]) ∧ Below W.heap.size W w')))
set_option maxHeartbeats 2000000 in
theorem walk_next (h : TreeAt B Q w tb X) (hf : FoAt B' Q' w fb X.F R rv) (hz : NoneAt w) {sa ga sc gc : Nat} (hsa : sa ≤ 4294967295 ∧ ga ≤ 4294967295) (hsc : sc ≤ 4294967295 ∧ gc ≤ 4294967295) :
    ∃ g nh ph, NxR X w tb fb sa ga sc gc g nh ph ∧ (((atI X.F sa ga < 0 ∨ atI X.F sc gc < 0) ∧ g = 51 ∧ nh = (0, 0) ∧ ph = (0, 0)) ∨ ((0 ≤ atI X.F sa ga ∧ 0 ≤ atI X.F sc gc) ∧ ∃ is, StQ X w fb (atI X.F sa ga) (atI X.F sc gc) is g nh ph)) := by
  have ok := h.fok
  have dead : (¬ Lv X.F sa ga ∨ ¬ Lv X.F sc gc) → NxR X w tb fb sa ga sc gc 51 (0, 0) (0, 0) := fun hd => by
    have hd2 : Dead2 X.F sc gc sa ga := ⟨⟨hsc.1, hsc.2, hsa.1, hsa.2⟩, hd.symm⟩
    exact ⟨fun W b => nextT_bad (hz.below b) (by decide) (fun W2 b2 => withinT_dead (h.rw.below (b.trans (b2.mono b.size))) (hz.below (b.trans (b2.mono b.size))) hd2), fun W b => prevT_bad (hz.below b) (by decide) (fun W2 b2 => withinT_dead (h.rw.below (b.trans (b2.mono b.size))) (hz.below (b.trans (b2.mono b.size))) hd2)⟩
  rcases atI_cases X.F sa ga with ⟨e1, hn⟩ | ⟨k, xk, e1, hk, hkl, rfl, rfl⟩
  · exact ⟨51, (0, 0), (0, 0), dead (.inl hn), .inl ⟨.inl (by rw [e1]; decide), rfl, rfl, rfl⟩⟩
  rcases atI_cases X.F sc gc with ⟨e2, hn⟩ | ⟨r, xr, e2, hr, hrl, rfl, rfl⟩
  · exact ⟨51, (0, 0), (0, 0), dead (.inr hn), .inl ⟨.inr (by rw [e2]; decide), rfl, rfl, rfl⟩⟩
  have hrlen := (List.getElem?_eq_some_iff.1 hr).1
  obtain ⟨lk, hlk⟩ := ok.acyc k xk hk
  obtain ⟨c, rfl⟩ := hlk.ne_nil
  have hmem := mem_preD ok hrlen hlk
  by_cases hm : r ∈ k :: c
  · obtain ⟨p, q, hpq⟩ := List.append_of_mem (hmem.2 hm)
    have hnx := step_next ok r hrlen hpq hlk
    have hp0 : p.getLast? = none → k = r := fun hpn => by
      have hp : p = [] := by cases p with
        | nil => rfl
        | cons a t => simp at hpn
      subst hp
      obtain ⟨t, ht⟩ := preD_head ok hrlen
      rw [ht] at hpq
      simp at hpq
      exact hpq.1.symm
    have hlt : ∀ m, m ∈ preD X.F r → m < X.F.length := fun m => preD_lt ok hrlen
    have hql : ∀ m, q.head? = some m → m < X.F.length := fun m hm2 => hlt m (by rw [hpq]; exact List.mem_append_right _ (List.mem_cons_of_mem _ (List.mem_of_mem_head? hm2)))
    have hplt : ∀ m, p.getLast? = some m → m < X.F.length := fun m hm2 => hlt m (by rw [hpq]; exact List.mem_append_left _ (List.mem_of_mem_getLast? hm2))
    refine ⟨0, hd X.F q.head?, hd X.F p.getLast?, ⟨fun W b => ?_, fun W b => ?_⟩, .inr ⟨⟨by rw [e1]; omega, by rw [e2]; omega⟩, true, ⟨upI q.head?, upI p.getLast?, fun W b => ?_, fun W b => ?_, .inr ⟨rfl, rfl, fun W b => rhandle_o (hf.below b) hql, fun W b => rhandle_o (hf.below b) hplt⟩⟩⟩⟩
    · rw [hnx]
      exact nextT_calls (h.below b) (hz.below b) hk hkl hr hrl hlk hm
    · cases hpl : p.getLast? with
      | none =>
        have hkr := hp0 hpl
        subst hkr
        have : xk = xr := by rw [hk] at hr; cases hr; rfl
        subst this
        exact prevT_root (hz.below b) ⟨rfl, rfl⟩ (fun W2 b2 => withinT_calls (h.below (b.trans (b2.mono b.size))) (hz.below (b.trans (b2.mono b.size))) hk hkl hr hrl hlk (.inl ⟨hm, rfl⟩))
      | some t =>
        have hxt : X.F[t]? = some (X.F[t]'(hplt t hpl)) := List.getElem?_eq_getElem _
        rw [hd_some hxt]
        refine prevT_calls (h.below b) (hz.below b) hk hkl hr hrl hlk hm (fun e => ?_) hpq hpl hxt
        subst e
        obtain ⟨t2, ht2⟩ := preD_head ok hrlen
        have hnd := preD_nodup ok k hrlen
        have h0 := split_once hnd hpq (show preD X.F k = [] ++ k :: t2 from ht2)
        rw [h0.1] at hpl
        cases hpl
    · rw [e1, e2]
      exact rstep_calls (hf.below b) ok hrlen (.inl rfl) ⟨fun hn => absurd (hmem.2 hm) hn, fun p' q' h' => ⟨rfl, fun _ => by rw [(split_once (preD_nodup ok r hrlen) hpq h').2], fun hh => absurd hh (by decide)⟩⟩
    · rw [e1, e2]
      exact rstep_calls (hf.below b) ok hrlen (.inr rfl) ⟨fun hn => absurd (hmem.2 hm) hn, fun p' q' h' => ⟨rfl, fun hh => absurd hh (by decide), fun _ => by rw [(split_once (preD_nodup ok r hrlen) hpq h').1]⟩⟩
  · have hw1 : ∀ W, Below w.heap.size w W → Calls Tryd.prog 52 #[.pointer (some ⟨tb, 0, none⟩), .agg #[.int .u32 (xk.sl : Int), .int .u32 (xk.gn : Int)], .agg #[.int .u32 (xr.sl : Int), .int .u32 (xr.gn : Int)]] W fun e w' => e = .returned (.int .i64 1) ∧ Below W.heap.size W w' := fun W b => withinT_calls (h.below b) (hz.below b) hk hkl hr hrl hlk (.inr ⟨hm, rfl⟩)
    have hno : k ∉ preD X.F r := fun hh => hm (hmem.1 hh)
    refine ⟨1, (0, 0), (0, 0), ⟨fun W b => nextT_bad (hz.below b) (by decide) (fun W2 b2 => hw1 W2 (b.trans (b2.mono b.size))), fun W b => prevT_bad (hz.below b) (by decide) (fun W2 b2 => hw1 W2 (b.trans (b2.mono b.size)))⟩, .inr ⟨⟨by rw [e1]; omega, by rw [e2]; omega⟩, false, ⟨-1, -1, fun W b => ?_, fun W b => ?_, .inl ⟨rfl, rfl, rfl, rfl⟩⟩⟩⟩
    · rw [e1, e2]
      exact rstep_calls (hf.below b) ok hrlen (.inl rfl) ⟨fun _ => ⟨rfl, rfl⟩, fun p q hpq => absurd (by rw [hpq]; simp) hno⟩
    · rw [e1, e2]
      exact rstep_calls (hf.below b) ok hrlen (.inr rfl) ⟨fun _ => ⟨rfl, rfl⟩, fun p q hpq => absurd (by rw [hpq]; simp) hno⟩
end
end Go.Proofs.YtelhnaphkbpakaaDoor

namespace Go.Proofs.YtelhnaphkbpakaaDoor
set_option linter.unusedVariables false

/-- One of a script, as data: what it does, to whom, where. -/
structure Mk where
  kind : Int
  a : Int
  b : Int
  back : Int
def upFuel (F : For) : Nat → Nat → List Nat
  | 0, _ => []
  | n + 1, k => match upOf F k with
    | none => []
    | some u => u :: upFuel F n u
/-- All that have a node. -/
def ups (F : For) (k : Nat) : List Nat := upFuel F F.length k
theorem upFuel_chain {F : For} {k : Nat} {c : List Nat} (h : Chain F k c) : ∀ n l, c = k :: l → l.length ≤ n → upFuel F n k = l := by
  induction h with
  | @root k x hx hu =>
    intro n l e hl
    obtain rfl : l = [] := by simpa using e.symm
    cases n with
    | zero => rfl
    | succ n =>
      have : upOf F k = none := by unfold upOf; rw [hx]; exact hu
      unfold upFuel
      rw [this]
  | @up k u x c hx hu hc ih =>
    intro n l e hl
    obtain rfl : c = l := by simpa using e
    obtain ⟨t, ht⟩ := hc.ne_nil
    subst ht
    cases n with
    | zero => simp at hl
    | succ n =>
      have : upOf F k = some u := by unfold upOf; rw [hx]; exact hu
      unfold upFuel
      rw [this]
      show u :: upFuel F n u = u :: t
      rw [ih n t rfl (by simp at hl; omega)]
theorem ups_chain {F : For} {k : Nat} {l : List Nat} (h : Chain F k (k :: l)) : ups F k = l :=
  upFuel_chain h _ l rfl (by have := h.len; simp at this; omega)
def moveF (F : For) (m : Mk) : For :=
  match F[pick8 m.a F.length]?, F[pick8 m.b F.length]? with
  | some x, some y =>
    if x.live = false ∨ y.live = false then F
    else if m.kind = 6 then (if pick8 m.a F.length = pick8 m.b F.length ∨ pick8 m.a F.length ∈ ups F (pick8 m.b F.length) ∨ x.up.isSome = true then F else hng F (pick8 m.a F.length) (pick8 m.b F.length) (y.down.length - pick8 m.back (y.down.length + 1)))
    else if m.kind = 7 then (match x.up with | none => F | some u => cutF F (pick8 m.a F.length) u)
    else if m.kind = 8 then (if x.up.isSome = true ∨ x.down.isEmpty = false then F else Kill F (pick8 m.a F.length))
    else F
  | _, _ => F
def stepF (F : For) (m : Mk) : For := if 1 ≤ m.kind ∧ m.kind ≤ 5 then Made F 0 0 else moveF F m
def runS (L : List Mk) : For := L.foldl stepF []
theorem runS_snoc (L : List Mk) (m : Mk) : runS (L ++ [m]) = stepF (runS L) m := by simp [runS]
/-- A forest but for its handles. -/
def fg (x : FN) : FN := { x with sl := 0, gn := 0 }
def fgt (F : For) : For := F.map fg
theorem fgt_len (F : For) : (fgt F).length = F.length := by simp [fgt]
theorem fgt_at (F : For) (k : Nat) : (fgt F)[k]? = (F[k]?).map fg := by simp [fgt]
theorem fgt_made (F : For) (s g : Nat) : fgt (Made F s g) = Made (fgt F) 0 0 := by simp [fgt, Made, fg]
theorem fgt_mod {F : For} {k : Nat} {f g : FN → FN} (h : ∀ x, fg (f x) = g (fg x)) : fgt (F.modify k f) = (fgt F).modify k g := by
  apply List.ext_getElem?
  intro j
  rw [fgt_at, List.getElem?_modify, List.getElem?_modify, fgt_at]
  by_cases e : k = j
  · subst e
    cases F[k]? with
    | none => rfl
    | some x => simp [h]
  · simp [e]
theorem fgt_hng (F : For) (i u p : Nat) : fgt (hng F i u p) = hng (fgt F) i u p := by
  unfold hng
  rw [fgt_mod (g := fun x => { x with up := some u }) (fun x => rfl), fgt_mod (g := fun y => { y with down := ins y.down p i }) (fun x => rfl)]
theorem fgt_cut (F : For) (i u : Nat) : fgt (cutF F i u) = cutF (fgt F) i u := by
  unfold cutF
  rw [fgt_mod (g := fun x => { x with up := none }) (fun x => rfl), fgt_mod (g := fun y => { y with down := y.down.filter (fun c => c != i) }) (fun x => rfl)]
theorem fgt_kill (F : For) (i : Nat) : fgt (Kill F i) = Kill (fgt F) i := by
  unfold Kill
  exact fgt_mod (fun x => rfl)
theorem fgt_up (F : For) (k : Nat) : upOf (fgt F) k = upOf F k := by
  unfold upOf
  rw [fgt_at]
  cases F[k]? <;> rfl
theorem fgt_upFuel (F : For) : ∀ n k, upFuel (fgt F) n k = upFuel F n k := by
  intro n
  induction n with
  | zero => intro k; rfl
  | succ n ih =>
    intro k
    unfold upFuel
    rw [fgt_up]
    cases upOf F k with
    | none => rfl
    | some u => show u :: _ = u :: _; rw [ih]
theorem fgt_ups (F : For) (k : Nat) : ups (fgt F) k = ups F k := by unfold ups; rw [fgt_len, fgt_upFuel]
theorem fgt_move (F : For) (m : Mk) : fgt (moveF F m) = moveF (fgt F) m := by
  unfold moveF
  rw [fgt_len, fgt_at, fgt_at, fgt_ups]
  cases h1 : F[pick8 m.a F.length]? with
  | none => rfl
  | some x =>
    cases h2 : F[pick8 m.b F.length]? with
    | none => rfl
    | some y =>
      simp only [Option.map_some]
      show fgt (if x.live = false ∨ y.live = false then F else _) = (if x.live = false ∨ y.live = false then fgt F else if m.kind = 6 then (if pick8 m.a F.length = pick8 m.b F.length ∨ pick8 m.a F.length ∈ ups F (pick8 m.b F.length) ∨ x.up.isSome = true then fgt F else hng (fgt F) (pick8 m.a F.length) (pick8 m.b F.length) (y.down.length - pick8 m.back (y.down.length + 1)))
        else if m.kind = 7 then (match x.up with | none => fgt F | some u => cutF (fgt F) (pick8 m.a F.length) u)
        else if m.kind = 8 then (if x.up.isSome = true ∨ x.down.isEmpty = false then fgt F else Kill (fgt F) (pick8 m.a F.length))
        else fgt F)
      split
      · rfl
      · split
        · split
          · rfl
          · exact fgt_hng _ _ _ _
        · split
          · cases x.up with
            | none => rfl
            | some u => exact fgt_cut _ _ _
          · split
            · split
              · rfl
              · exact fgt_kill _ _
            · rfl
theorem move_len (F : For) (m : Mk) : (moveF F m).length = F.length := by
  unfold moveF
  split
  · split
    · rfl
    · split
      · split
        · rfl
        · exact hng_len _ _ _ _
      · split
        · split
          · rfl
          · exact cutF_len _ _ _
        · split
          · split
            · rfl
            · exact kill_len _ _
          · rfl
  · rfl
theorem step_len (F : For) (m : Mk) : (stepF F m).length ≤ F.length + 1 := by
  unfold stepF
  split
  · simp [Made]
  · rw [move_len]; omega
theorem runS_len (L : List Mk) : ∀ F : For, (L.foldl stepF F).length ≤ F.length + L.length := by
  induction L with
  | nil => intro F; simp
  | cons m L ih =>
    intro F
    have h1 := ih (stepF F m)
    have h2 := step_len F m
    simp only [List.foldl_cons, List.length_cons]
    omega
theorem run_made {F : For} {L : List Mk} {m : Mk} (h : fgt F = runS L) (hm : 1 ≤ m.kind ∧ m.kind ≤ 5) (s g : Nat) : fgt (Made F s g) = runS (L ++ [m]) := by
  rw [runS_snoc, ← h, fgt_made]
  unfold stepF
  rw [if_pos hm]
theorem run_move {F : For} {L : List Mk} {m : Mk} (h : fgt F = runS L) (hm : ¬ (1 ≤ m.kind ∧ m.kind ≤ 5)) : fgt (moveF F m) = runS (L ++ [m]) := by
  rw [runS_snoc, ← h, fgt_move]
  unfold stepF
  rw [if_neg hm]
end Go.Proofs.YtelhnaphkbpakaaDoor

