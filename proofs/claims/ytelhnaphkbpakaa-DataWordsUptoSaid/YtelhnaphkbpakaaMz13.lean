/- Same: are two nodes one in all fields? What spoiling a node's lists leaves: a frame by cells. No program. spoil: a node's lists are written over. What is told of them: plain. spoil walked. -/
import Derived.Laws.Strings
import Derived.Deep.DeepCutAuto
import Derived.Test.YtelhnaphkbpakaaMz12
namespace Go.Proofs.Ytelhnaphkbpakaa
open Go.RowKit
set_option linter.unusedVariables false
set_option maxRecDepth 100000

theorem ba_eq {a b : ByteArray} : (a.toList == b.toList) = true ↔ a = b := by
  rw [ByteArray.toList_eq, ByteArray.toList_eq, beq_iff_eq]
  constructor
  · intro h
    cases a; cases b
    simp at h
    rw [h]
  · rintro rfl; rfl
theorem ba_ne {a b : ByteArray} (h : a ≠ b) : (a.toList == b.toList) = false := by
  cases e : (a.toList == b.toList) with
  | false => rfl
  | true => exact absurd (ba_eq.1 e) h
theorem ba_refl (a : ByteArray) : (a.toList == a.toList) = true := ba_eq.2 rfl

theorem sameUnits_q {w : World} {a b : Option Addr} {us vs : List Nat} (ca cb : Nat) (ha : Sl16 w a us) (hb : Sl16 w b vs) (n : Nat) :
    Calls Try.prog 25 #[.slice a us.length ca, .slice b vs.length cb] (w.drewN n) fun e w' => e = .returned (.bool (decide (us = vs))) ∧ ∃ m, w' = w.drewN m :=
  (sameUnits_calls ca cb (ha.drewN n) (hb.drewN n)).mono fun e w' ⟨he, k, hw⟩ => ⟨he, n + k, by rw [← hw, World.drewN_drewN]⟩
theorem sameUnits_qa {w : World} {a b : Option Addr} {us vs : List Nat} (ca cb : Nat) (ha : Sl16 w a us) (hb : Sl16 w b vs) (q n : Nat) :
    Calls Try.prog 25 #[.slice a us.length ca, .slice b vs.length cb] (w.drewN (q + n)) fun e w' => e = .returned (.bool (decide (us = vs))) ∧ ∃ m, w' = w.drewN (q + m) :=
  (sameUnits_calls ca cb (ha.drewN (q + n)) (hb.drewN (q + n))).mono fun e w' ⟨he, k, hw⟩ => ⟨he, n + k, by rw [← hw, World.drewN_drewN, Nat.add_assoc]⟩
theorem attrs_at {L M : List LA} {i : Nat} {x y : LA} (h : L.map attrOf = M.map attrOf) (hx : L[i]? = some x) (hy : M[i]? = some y) : x.name = y.name ∧ x.val = y.val := by
  have := congrArg (fun l : List (ByteArray × List Nat) => l[i]?) h
  simp only [List.getElem?_map, hx, hy, Option.map_some, Option.some.injEq] at this
  exact ⟨congrArg Prod.fst this, congrArg Prod.snd this⟩
theorem attrs_ext {L M : List LA} (hl : L.length = M.length) (h : ∀ (j : Nat) (x y : LA), j < L.length → L[j]? = some x → M[j]? = some y → attrOf x = attrOf y) : L.map attrOf = M.map attrOf := by
  apply List.ext_getElem?
  intro j
  rw [List.getElem?_map, List.getElem?_map]
  rcases Nat.lt_or_ge j L.length with hj | hj
  · rw [List.getElem?_eq_getElem hj, List.getElem?_eq_getElem (by omega)]
    simp only [Option.map_some]
    exact congrArg some (h j _ _ hj (List.getElem?_eq_getElem hj) (List.getElem?_eq_getElem (by omega)))
  · rw [List.getElem?_eq_none hj, List.getElem?_eq_none (by omega)]

def SamePost (c d : NC) (w : World) (e : Ending) (w' : World) : Prop := ∃ r, e = .returned (.bool r) ∧ (r = true ↔ c = d) ∧ Below w.heap.size w w'
theorem below_dN {B : Nat} {w V : World} (h : Below B w V) (hB : B ≤ V.heap.size) (k : Nat) : Below B w (V.drewN k) := h.trans (((FrT.refl [] B V).drewN k).below hB)

set_option maxHeartbeats 8000000 in
theorem same_calls (w : World) (M N : Nd) (hM : NdIn w M) (hN : NdIn w N) :
    Calls Try.prog 35 #[M.v, N.v] w (SamePost M.c N.c w) := by
  obtain ⟨hMd, hMa, hMn, _⟩ := hM
  obtain ⟨hNd, hNa, hNn, _⟩ := hN
  obtain ⟨k, nm, da, dc, data, aa, ac, L, sl, ge⟩ := M
  obtain ⟨k2, nm2, da2, dc2, data2, aa2, ac2, L2, sl2, ge2⟩ := N
  simp only [Nd.v, Nd.cells] at *
  obtain ⟨n, en⟩ : ∃ n, n = L.length := ⟨_, rfl⟩
  obtain ⟨n2, en2⟩ : ∃ n2, n2 = L2.length := ⟨_, rfl⟩
  obtain ⟨m, em⟩ : ∃ m, m = data.length := ⟨_, rfl⟩
  obtain ⟨m2, em2⟩ : ∃ m2, m2 = data2.length := ⟨_, rfl⟩
  have hl1 := hMa.len
  have hl2 := hNa.len
  rw [← en, ← em, ← en2, ← em2]
  rw [← en] at hl1
  rw [← en2] at hl2
  obtain ⟨V, hV⟩ : ∃ V, V = (w.alloc (.cells #[.int .i64 k, .string nm, .slice da m dc, .slice aa n ac, .int .u32 sl, .int .u32 ge] 30)).alloc (.cells #[.int .i64 k2, .string nm2, .slice da2 m2 dc2, .slice aa2 n2 ac2, .int .u32 sl2, .int .u32 ge2] 30) := ⟨_, rfl⟩
  have hbV : Below w.heap.size w V := by rw [hV]; exact ((Below.refl _ w).alloc (Nat.le_refl _) _).alloc (by simp) _
  have v0 : V.heap[w.heap.size]? = some (.cells #[.int .i64 k, .string nm, .slice da m dc, .slice aa n ac, .int .u32 sl, .int .u32 ge] 30 (0, 0)) := by rw [hV]; exact alloc_blk (Go.heap_alloc_new w _) _
  have v1 : V.heap[w.heap.size + 1]? = some (.cells #[.int .i64 k2, .string nm2, .slice da2 m2 dc2, .slice aa2 n2 ac2, .int .u32 sl2, .int .u32 ge2] 30 (0, 0)) := by
    rw [hV]; have := Go.heap_alloc_new (w.alloc (.cells #[.int .i64 k, .string nm, .slice da m dc, .slice aa n ac, .int .u32 sl, .int .u32 ge] 30)) (.cells #[.int .i64 k2, .string nm2, .slice da2 m2 dc2, .slice aa2 n2 ac2, .int .u32 sl2, .int .u32 ge2] 30); rwa [World.size_alloc] at this
  have he := sameUnits_calls dc dc2 (hMd.below hbV) (hNd.below hbV)
  rw [← em, ← em2] at he
  have HE := Lib.hid he
  have HV := Lib.hid (And.intro hV (And.intro hbV (And.intro v0 v1)))
  have HA := Lib.hid (And.intro hMa hNa)
  have HL := Lib.hid (And.intro en en2)
  clear he hbV v0 v1 hMa hNa hMd hNd en en2 em em2
  by_cases hall : k = k2 ∧ nm = nm2 ∧ sl = sl2 ∧ ge = ge2 ∧ data = data2 ∧ n = n2
  · obtain ⟨rfl, rfl, rfl, rfl, rfl, rfl⟩ := hall
    have HE2 := HE.out
    rw [decide_eq_true rfl, hV] at HE2
    have HE3 := Lib.hid HE2
    clear HE2 HE
    go_enter Try.func35, Try.ntmps35
    go_wp2_with (go_at_call 25; refine HE3.out.mono ?_; rintro e w2 ⟨rfl, kk, rfl⟩)
    have c03 := cell_blk HV.out.2.2.1 3 rfl
    have c13 := cell_blk HV.out.2.2.2 3 rfl
    have l0 := lt_of_some HV.out.2.2.1
    have l1 := lt_of_some HV.out.2.2.2
    rw [← hV]
    have HVV := Lib.hid hV
    clear hV
    go_loopw [6] (fun v wr => ∃ (i q : Nat), v = .int .i64 (i : Nat) ∧ i ≤ n ∧ (∀ (j : Nat) (x y : LA), j < i → L[j]? = some x → L2[j]? = some y → attrOf x = attrOf y) ∧ wr = V.drewN q) (fun v _ => n - (intOf v).toNat)
    case atStart => exact ⟨0, kk, rfl, Nat.zero_le _, fun _ _ _ h => absurd h (Nat.not_lt_zero _), rfl⟩
    case round =>
      obtain ⟨i, q, rfl, hi, hall, rfl⟩ := hrel
      by_cases hlt : i < n
      · obtain ⟨x, hx⟩ : ∃ x, L[i]? = some x := ⟨_, List.getElem?_eq_getElem (by rw [← HL.out.1]; exact hlt)⟩
        obtain ⟨y, hy⟩ : ∃ y, L2[i]? = some y := ⟨_, List.getElem?_eq_getElem (by rw [← HL.out.2]; exact hlt)⟩
        obtain ⟨b1, o1, rfl, hb1, x1, x2⟩ := (HA.out.1.below HV.out.2.1).get hx
        obtain ⟨b2, o2, rfl, hb2, y1, y2⟩ := (HA.out.2.below HV.out.2.1).get hy
        have sx := ((HA.out.1.below HV.out.2.1).val x (List.mem_of_getElem? hx))
        have sy := ((HA.out.2.below HV.out.2.1).val y (List.mem_of_getElem? hy))
        have HQ := Lib.hid (sameUnits_qa x.vc y.vc sx sy q)
        obtain ⟨xl, exl⟩ : ∃ xl, xl = x.val.length := ⟨_, rfl⟩
        obtain ⟨yl, eyl⟩ : ∃ yl, yl = y.val.length := ⟨_, rfl⟩
        rw [← exl] at x2 HQ
        rw [← eyl] at y2 HQ
        have p0 : (0 : Int) ≤ (i : Int) := by omega
        have p1 : (i : Int) < (n : Int) := by omega
        have HH := Lib.hid (And.intro hall (And.intro hx hy))
        clear hall hx hy sx sy exl eyl
        by_cases hnm : x.name = y.name
        · rw [← hnm] at y1
          have HNM := Lib.hid hnm
          clear hnm
          cases hd : decide (x.val = y.val) with
          | true =>
            rw [hd] at HQ
            have HD := Lib.hid hd
            clear hd
            go_wp2_with fail
            go_quiet ((go_at_call 25; exact HQ.out _))
            go_wp2_with fail
            go_quiet (fail)
            go_wp2_with fail
            go_roundw
            case rel =>
              refine ⟨i + 1, _, by go_num, hlt, fun j x' y' hj hx' hy' => ?_, rfl⟩
              rcases Nat.lt_or_ge j i with h | h
              · exact HH.out.1 j x' y' h hx' hy'
              · obtain rfl : j = i := by omega
                rw [HH.out.2.1] at hx'
                rw [HH.out.2.2] at hy'
                cases hx'; cases hy'
                unfold attrOf
                rw [HNM.out, of_decide_eq_true HD.out]
            case measure => simp [intOf]; omega
          | false =>
            rw [hd] at HQ
            have HD := Lib.hid hd
            clear hd
            go_wp2_with fail
            go_quiet ((go_at_call 25; exact HQ.out _))
            go_wp2_with fail
            go_quiet (fail)
            go_wp2_with fail
            go_ret
            refine ⟨false, rfl, ⟨fun h => absurd h (by simp), fun h => ?_⟩, by repeat (first | exact HV.out.2.1 | exact HV.out.2.1.size | refine below_dN ?_ ?_ _)⟩
            exact absurd (attrs_at (congrArg NC.attrs h) HH.out.2.1 HH.out.2.2).2 (of_decide_eq_false HD.out)
        · have e2 : (x.name.toList == y.name.toList) = false := ba_ne hnm
          have e1 : (x.name.toList != y.name.toList) = true := by rw [bne, e2]; rfl
          obtain ⟨r, hr⟩ : ∃ r, r = decide (x.val = y.val) := ⟨_, rfl⟩
          rw [← hr] at HQ
          have HNM := Lib.hid hnm
          clear hnm hr
          go_wp2_with fail
          go_quiet ((go_at_call 25; exact HQ.out _))
          go_wp2_with fail
          go_quiet (fail)
          go_wp2_with fail
          go_ret
          refine ⟨false, rfl, ⟨fun h => absurd h (by simp), fun h => ?_⟩, by repeat (first | exact HV.out.2.1 | exact HV.out.2.1.size | refine below_dN ?_ ?_ _)⟩
          exact absurd (attrs_at (congrArg NC.attrs h) HH.out.2.1 HH.out.2.2).1 HNM.out
      · obtain rfl : i = n := by omega
        have p1 : ¬ (i : Int) < (i : Int) := by omega
        have HALL := Lib.hid hall
        clear hall hlt
        go_wp2_with fail
        go_ret
        refine ⟨true, rfl, ⟨fun _ => ?_, fun _ => rfl⟩, by repeat (first | exact HV.out.2.1 | exact HV.out.2.1.size | refine below_dN ?_ ?_ _)⟩
        have : L.map attrOf = L2.map attrOf := attrs_ext (by rw [← HL.out.1, ← HL.out.2]) (fun j x y hj hx hy => HALL.out j x y (by rw [HL.out.1]; exact hj) hx hy)
        unfold Nd.c
        rw [this]
  · have HNE : Hid (Nd.c ⟨k, nm, da, dc, data, aa, ac, L, sl, ge⟩ ≠ Nd.c ⟨k2, nm2, da2, dc2, data2, aa2, ac2, L2, sl2, ge2⟩) := Lib.hid (fun h => hall (by
      unfold Nd.c at h
      simp only [NC.mk.injEq] at h
      obtain ⟨h1, h2, h3, h4, h5, h6⟩ := h
      have h7 := congrArg List.length h4
      simp only [List.length_map] at h7
      exact ⟨h1, h2, h5, h6, h3, by rw [HL.out.1, HL.out.2, h7]⟩))
    have HB := Lib.hid HV.out.2.1
    rw [hV] at HB HE
    obtain ⟨r, hr⟩ : ∃ r, r = decide (data = data2) := ⟨_, rfl⟩
    rw [← hr] at HE
    by_cases hk : k = k2
    · subst hk
      by_cases hn : nm = nm2
      · subst hn
        by_cases hs : sl = sl2
        · subst hs
          by_cases hg : ge = ge2
          · subst hg
            cases r with
            | false =>
              clear hall hr hV
              go_enter Try.func35, Try.ntmps35
              go_wp2_with (go_at_call 25; refine HE.out.mono ?_; rintro e w2 ⟨rfl, kk, rfl⟩)
              all_goals go_ret
              all_goals exact ⟨false, rfl, ⟨fun h => absurd h (by simp), fun h => absurd h HNE.out⟩, by repeat (first | exact HB.out | exact HB.out.size | refine below_dN ?_ ?_ _)⟩
            | true =>
              have hnn : ¬ n = n2 := fun h => hall ⟨rfl, rfl, rfl, rfl, of_decide_eq_true hr.symm, h⟩
              have e1 : ((n : Int) != (n2 : Int)) = true := by simp; omega
              clear hall hr hV hnn
              go_enter Try.func35, Try.ntmps35
              go_wp2_with (go_at_call 25; refine HE.out.mono ?_; rintro e w2 ⟨rfl, kk, rfl⟩)
              all_goals go_ret
              all_goals exact ⟨false, rfl, ⟨fun h => absurd h (by simp), fun h => absurd h HNE.out⟩, by repeat (first | exact HB.out | exact HB.out.size | refine below_dN ?_ ?_ _)⟩
          · have e1 : (ge == ge2) = false := by simpa using hg
            clear hall hr hV hg
            go_enter Try.func35, Try.ntmps35
            go_wp2_with (go_at_call 25; refine HE.out.mono ?_; rintro e w2 ⟨rfl, kk, rfl⟩)
            all_goals go_ret
            all_goals exact ⟨false, rfl, ⟨fun h => absurd h (by simp), fun h => absurd h HNE.out⟩, by repeat (first | exact HB.out | exact HB.out.size | refine below_dN ?_ ?_ _)⟩
        · have e1 : (sl == sl2) = false := by simpa using hs
          clear hall hr hV hs
          go_enter Try.func35, Try.ntmps35
          go_wp2_with (go_at_call 25; refine HE.out.mono ?_; rintro e w2 ⟨rfl, kk, rfl⟩)
          all_goals go_ret
          all_goals exact ⟨false, rfl, ⟨fun h => absurd h (by simp), fun h => absurd h HNE.out⟩, by repeat (first | exact HB.out | exact HB.out.size | refine below_dN ?_ ?_ _)⟩
      · have e1 : (nm.toList == nm2.toList) = false := ba_ne hn
        have e2 : (nm.toList != nm2.toList) = true := by rw [bne, e1]; rfl
        clear hall hr hV hn
        go_enter Try.func35, Try.ntmps35
        go_wp2_with (go_at_call 25; refine HE.out.mono ?_; rintro e w2 ⟨rfl, kk, rfl⟩)
        all_goals go_ret
        all_goals exact ⟨false, rfl, ⟨fun h => absurd h (by simp), fun h => absurd h HNE.out⟩, by repeat (first | exact HB.out | exact HB.out.size | refine below_dN ?_ ?_ _)⟩
    · have e1 : (k != k2) = true := by simpa using hk
      clear hall hr hV hk
      go_enter Try.func35, Try.ntmps35
      go_wp2_with (go_at_call 25; refine HE.out.mono ?_; rintro e w2 ⟨rfl, kk, rfl⟩)
      all_goals go_ret
      all_goals exact ⟨false, rfl, ⟨fun h => absurd h (by simp), fun h => absurd h HNE.out⟩, by repeat (first | exact HB.out | exact HB.out.size | refine below_dN ?_ ?_ _)⟩
end Go.Proofs.Ytelhnaphkbpakaa

namespace Go.Proofs.Ytelhnaphkbpakaa
open Go.RowKit
set_option linter.unusedVariables false
set_option maxRecDepth 100000

def spName : ByteArray := ⟨#[115, 112, 111, 105, 108, 116]⟩
/-- w' is w but for new blocks; and in the blocks from lo to hi a unit may have become m, a name 'spoilt'. -/
structure SpW (lo hi : Nat) (m : Int) (w w' : World) : Prop where
  os : w'.os = w.os
  tape : w'.tape = w.tape
  output : w'.output = w.output
  size : w.heap.size ≤ w'.heap.size
  block : ∀ (k : Nat) o, w.heap[k]? = some o → (k < lo ∨ hi ≤ k ∨ (oty o ≠ some 45 ∧ oty o ≠ some 72)) → w'.heap[k]? = some o
  unit : ∀ (k : Nat) (c : Array Value), w.heap[k]? = some (.cells c 45 (0, 0)) → ∃ c' : Array Value, w'.heap[k]? = some (.cells c' 45 (0, 0)) ∧ c'.size = c.size ∧ ∀ j : Nat, c'[j]? = c[j]? ∨ c'[j]? = some (.int .u16 m)
  name : ∀ (k : Nat) (c : Array Value), w.heap[k]? = some (.cells c 72 (0, 0)) → ∃ c' : Array Value, w'.heap[k]? = some (.cells c' 72 (0, 0)) ∧ c'.size = c.size ∧ ∀ j : Nat, c'[j]? = c[j]? ∨ (j % 2 = 0 ∧ c'[j]? = some (.string spName))

section
variable {lo hi : Nat} {m : Int} {w w' w'' : World}
theorem SpW.refl (lo hi : Nat) (m : Int) (w : World) : SpW lo hi m w w :=
  ⟨rfl, rfl, rfl, Nat.le_refl _, fun _ _ h _ => h, fun _ c h => ⟨c, h, rfl, fun _ => .inl rfl⟩, fun _ c h => ⟨c, h, rfl, fun _ => .inl rfl⟩⟩
theorem SpW.trans (h : SpW lo hi m w w') (k : SpW lo hi m w' w'') : SpW lo hi m w w'' :=
  ⟨k.os.trans h.os, k.tape.trans h.tape, k.output.trans h.output, Nat.le_trans h.size k.size, fun i o hi' ho => k.block i o (h.block i o hi' ho) ho,
    fun i c hc => by
      obtain ⟨c1, h1, h2, h3⟩ := h.unit i c hc
      obtain ⟨c2, k1, k2, k3⟩ := k.unit i c1 h1
      exact ⟨c2, k1, k2.trans h2, fun j => (k3 j).elim (fun e => (h3 j).imp (fun f => e.trans f) (fun f => e.trans f)) .inr⟩,
    fun i c hc => by
      obtain ⟨c1, h1, h2, h3⟩ := h.name i c hc
      obtain ⟨c2, k1, k2, k3⟩ := k.name i c1 h1
      exact ⟨c2, k1, k2.trans h2, fun j => (k3 j).elim (fun e => (h3 j).imp (fun f => e.trans f) (fun f => ⟨f.1, e.trans f.2⟩)) .inr⟩⟩
theorem SpW.of_below (b : Below w.heap.size w w') : SpW lo hi m w w' :=
  ⟨b.os, b.tape, b.output, b.size, fun k o h _ => (b.block k (lt_of_some h)).trans h, fun k c h => ⟨c, (b.block k (lt_of_some h)).trans h, rfl, fun _ => .inl rfl⟩, fun k c h => ⟨c, (b.block k (lt_of_some h)).trans h, rfl, fun _ => .inl rfl⟩⟩
theorem SpW.below (h : SpW lo hi m w w') (hB : lo ≤ w.heap.size) : Below lo w w' :=
  ⟨h.os, h.tape, h.output, h.size, fun k hk => by
    have hl : k < w.heap.size := Nat.lt_of_lt_of_le hk hB
    have e : w.heap[k]? = some w.heap[k] := Array.getElem?_eq_getElem hl
    rw [e]; exact h.block k _ e (.inl hk)⟩
/-- A unit is written. -/
theorem SpW.set_unit {b : Nat} {c : Array Value} (hb : w.heap[b]? = some (.cells c 45 (0, 0))) (h1 : lo ≤ b) (h2 : b < hi) (j : Nat) : SpW lo hi m w (w.setCell ⟨b, j, none⟩ (.int .u16 m)) := by
  have hne : ∀ (k : Nat) o, w.heap[k]? = some o → k ≠ b → (w.setCell ⟨b, j, none⟩ (.int .u16 m)).heap[k]? = some o := fun k o hk hkb => set_other hk hkb _
  have hset := set_blk hb j (.int .u16 m)
  refine ⟨rfl, rfl, rfl, by simp, fun k o hk ho => ?_, fun k c1 hk => ?_, fun k c1 hk => ?_⟩
  · by_cases e : k = b
    · subst e
      rw [hb] at hk
      cases hk
      rcases ho with ho | ho | ho
      · omega
      · omega
      · exact absurd rfl ho.1
    · exact hne k o hk e
  · by_cases e : k = b
    · subst e
      rw [hb] at hk
      cases hk
      refine ⟨_, hset, by simp, fun i => ?_⟩
      rw [Array.getElem?_setIfInBounds]
      by_cases e2 : j = i
      · subst e2
        by_cases e3 : j < c.size
        · right; simp [e3]
        · left; simp [e3]
      · left; rw [if_neg e2]
    · exact ⟨c1, hne k _ hk e, rfl, fun _ => .inl rfl⟩
  · by_cases e : k = b
    · subst e; rw [hb] at hk; cases hk
    · exact ⟨c1, hne k _ hk e, rfl, fun _ => .inl rfl⟩
/-- A name is written. -/
theorem SpW.set_name {b : Nat} {c : Array Value} (hb : w.heap[b]? = some (.cells c 72 (0, 0))) (h1 : lo ≤ b) (h2 : b < hi) (j : Nat) : SpW lo hi m w (w.setCell ⟨b, j * 2, none⟩ (.string spName)) := by
  have hne : ∀ (k : Nat) o, w.heap[k]? = some o → k ≠ b → (w.setCell ⟨b, j * 2, none⟩ (.string spName)).heap[k]? = some o := fun k o hk hkb => set_other hk hkb _
  have hset := set_blk hb (j * 2) (.string spName)
  refine ⟨rfl, rfl, rfl, by simp, fun k o hk ho => ?_, fun k c1 hk => ?_, fun k c1 hk => ?_⟩
  · by_cases e : k = b
    · subst e
      rw [hb] at hk
      cases hk
      rcases ho with ho | ho | ho
      · omega
      · omega
      · exact absurd rfl ho.2
    · exact hne k o hk e
  · by_cases e : k = b
    · subst e; rw [hb] at hk; cases hk
    · exact ⟨c1, hne k _ hk e, rfl, fun _ => .inl rfl⟩
  · by_cases e : k = b
    · subst e
      rw [hb] at hk
      cases hk
      refine ⟨_, hset, by simp, fun i => ?_⟩
      rw [Array.getElem?_setIfInBounds]
      by_cases e2 : j * 2 = i
      · subst e2
        by_cases e3 : j * 2 < c.size
        · right; exact ⟨by omega, by simp [e3]⟩
        · left; simp [e3]
      · left; rw [if_neg e2]
    · exact ⟨c1, hne k _ hk e, rfl, fun _ => .inl rfl⟩
/-- A row that lies elsewhere. -/
theorem SpW.row {base : Nat} {e : TypeId} {size : Nat} {v : Value} {n : Nat} {xs : List Value} (h : SpW lo hi m w w') (ho : w.ownsRow base e size v n xs) (hb : hi ≤ base) : w'.ownsRow base e size v n xs := by
  refine ⟨ho.1, ?_⟩
  rcases ho.2 with hn | ⟨g, cap, cur, rfl, hbg, hg, rest⟩
  · exact .inl hn
  · exact .inr ⟨g, cap, cur, rfl, hbg, h.block g _ hg (.inr (.inl (by omega))), rest⟩
theorem SpW.clip {B : Nat} {a : Option Addr} {us : List Nat} (h : SpW lo hi m w w') (hc : Clip16 B w a us) (hb : hi ≤ B) : Clip16 B w' a us := ⟨by obtain ⟨cap, hr⟩ := hc.row; exact ⟨cap, h.row hr hb⟩, hc.bnd, hc.len⟩
theorem SpW.fresh {B : Nat} {N : Nd} (h : SpW lo hi m w w') (hf : Fresh B w N) (hb : hi ≤ B) : Fresh B w' N :=
  ⟨h.clip hf.data hb, hf.dc, ⟨by obtain ⟨cap, hr⟩ := hf.attrs.row; exact ⟨cap, h.row hr hb⟩, fun x hx => ⟨h.clip (hf.attrs.val x hx).1 hb, (hf.attrs.val x hx).2⟩, hf.attrs.nam⟩, hf.ac, hf.nam, hf.len⟩
/-- A unit that has become m stays it. -/
theorem SpW.keep_unit (h : SpW lo hi m w w') {b j : Nat} {c : Array Value} (hb : w.heap[b]? = some (.cells c 45 (0, 0))) (hc : w.cell? ⟨b, j, none⟩ = some (.int .u16 m)) : w'.cell? ⟨b, j, none⟩ = some (.int .u16 m) := by
  obtain ⟨c', h1, h2, h3⟩ := h.unit b c hb
  rw [cell_of_row w b j c 45 (0, 0) hb] at hc
  rw [cell_of_row w' b j c' 45 (0, 0) h1]
  rcases h3 j with e | e
  · rw [e]; exact hc
  · exact e
theorem SpW.keep_name (h : SpW lo hi m w w') {b j : Nat} {c : Array Value} (hb : w.heap[b]? = some (.cells c 72 (0, 0))) (hc : w.cell? ⟨b, j, none⟩ = some (.string spName)) : w'.cell? ⟨b, j, none⟩ = some (.string spName) := by
  obtain ⟨c', h1, h2, h3⟩ := h.name b c hb
  rw [cell_of_row w b j c 72 (0, 0) hb] at hc
  rw [cell_of_row w' b j c' 72 (0, 0) h1]
  rcases h3 j with e | e
  · rw [e]; exact hc
  · exact e.2
/-- A value's slice stands. -/
theorem SpW.keep_odd (h : SpW lo hi m w w') {b j : Nat} {c : Array Value} {v : Value} (hb : w.heap[b]? = some (.cells c 72 (0, 0))) (hj : j % 2 = 1) (hc : w.cell? ⟨b, j, none⟩ = some v) : w'.cell? ⟨b, j, none⟩ = some v := by
  obtain ⟨c', h1, h2, h3⟩ := h.name b c hb
  rw [cell_of_row w b j c 72 (0, 0) hb] at hc
  rw [cell_of_row w' b j c' 72 (0, 0) h1]
  rcases h3 j with e | e
  · rw [e]; exact hc
  · omega
end
end Go.Proofs.Ytelhnaphkbpakaa

namespace Go.Proofs.Ytelhnaphkbpakaa
open Go.RowKit
set_option linter.unusedVariables false
set_option maxRecDepth 100000

theorem row_blk {w : World} {base : Nat} {e : TypeId} {size : Nat} {a : Option Addr} {n cap m : Nat} {xs : List Value} (h : w.ownsRow base e size (.slice a n cap) m xs) (hm : 0 < m) :
    ∃ b cur, a = some ⟨b, 0, none⟩ ∧ base ≤ b ∧ b < w.heap.size ∧ w.heap[b]? = some (.cells cur e (0, 0)) ∧ m * size ≤ cur.size := by
  rcases h.2 with ⟨h1, h2⟩ | ⟨g, cap', cur, h1, h2, h3, h4, h5, h6, _⟩
  · omega
  · cases h1
    exact ⟨g, cur, rfl, h2, lt_of_some h3, h3, by rw [h6]; exact Nat.mul_le_mul_right _ h4⟩
/-- Where a fresh node's units, its attributes and their values lie. -/
theorem Fresh.blk_data {lo : Nat} {w : World} {N : Nd} (h : Fresh lo w N) (hp : 0 < N.data.length) : ∃ b cur, N.da = some ⟨b, 0, none⟩ ∧ lo ≤ b ∧ b < w.heap.size ∧ w.heap[b]? = some (.cells cur 45 (0, 0)) ∧ N.data.length ≤ cur.size := by
  obtain ⟨cap, hr⟩ := h.data.row
  obtain ⟨b, cur, h1, h2, h3, h4, h5⟩ := row_blk hr hp
  exact ⟨b, cur, h1, h2, h3, h4, by omega⟩
theorem Fresh.blk_attrs {lo : Nat} {w : World} {N : Nd} (h : Fresh lo w N) (hp : 0 < N.L.length) : ∃ b cur, N.aa = some ⟨b, 0, none⟩ ∧ lo ≤ b ∧ b < w.heap.size ∧ w.heap[b]? = some (.cells cur 72 (0, 0)) ∧ N.L.length * 2 ≤ cur.size ∧ ∀ (j : Nat) (u : Value), (cellsA N.L)[j]? = some u → w.cell? ⟨b, j, none⟩ = some u := by
  obtain ⟨cap, hr⟩ := h.attrs.row
  obtain ⟨b, cur, h1, h2, h3, h4, h5⟩ := row_blk hr hp
  refine ⟨b, cur, h1, h2, h3, h4, h5, fun j u hu => ?_⟩
  obtain ⟨b', e1, _, e3⟩ := row_src hr hu
  rw [h1] at e1
  cases e1
  rw [Nat.zero_add] at e3
  exact e3
theorem Fresh.blk_val {lo : Nat} {w : World} {N : Nd} (h : Fresh lo w N) {x : LA} (hx : x ∈ N.L) (hp : 0 < x.val.length) : ∃ b cur, x.va = some ⟨b, 0, none⟩ ∧ lo ≤ b ∧ b < w.heap.size ∧ w.heap[b]? = some (.cells cur 45 (0, 0)) ∧ x.val.length ≤ cur.size := by
  obtain ⟨cap, hr⟩ := (h.attrs.val x hx).1.row
  obtain ⟨b, cur, h1, h2, h3, h4, h5⟩ := row_blk hr hp
  exact ⟨b, cur, h1, h2, h3, h4, by omega⟩

/-- The units are m; of the first i attributes the names are 'spoilt' and the values m. -/
structure AllMi (w : World) (N : Nd) (m : Int) (i : Nat) : Prop where
  data : ∀ j, j < N.data.length → ∃ b, N.da = some ⟨b, 0, none⟩ ∧ w.cell? ⟨b, j, none⟩ = some (.int .u16 m)
  name : ∀ (a : Nat) (x : LA), a < i → N.L[a]? = some x → ∃ b, N.aa = some ⟨b, 0, none⟩ ∧ w.cell? ⟨b, a * 2, none⟩ = some (.string spName)
  val : ∀ (a : Nat) (x : LA), a < i → N.L[a]? = some x → ∀ k, k < x.val.length → ∃ b, x.va = some ⟨b, 0, none⟩ ∧ w.cell? ⟨b, k, none⟩ = some (.int .u16 m)
theorem AllMi.keep {lo : Nat} {w0 W wr wr' : World} {N : Nd} {m : Int} {i : Nat} (hf : Fresh lo w0 N) (hb : Below w0.heap.size w0 W) (h1 : SpW lo w0.heap.size m W wr) (h2 : SpW lo w0.heap.size m wr wr') (h : AllMi wr N m i) : AllMi wr' N m i := by
  refine ⟨fun j hj => ?_, fun a x ha hx => ?_, fun a x ha hx k hk => ?_⟩
  · obtain ⟨b, e1, e2⟩ := h.data j hj
    obtain ⟨b', cur, f1, _, f3, f4, _⟩ := hf.blk_data (by omega)
    rw [e1] at f1; cases f1
    obtain ⟨c', g1, _⟩ := h1.unit b cur ((hb.block b f3).trans f4)
    exact ⟨b, e1, h2.keep_unit g1 e2⟩
  · obtain ⟨b, e1, e2⟩ := h.name a x ha hx
    obtain ⟨b', cur, f1, _, f3, f4, _⟩ := hf.blk_attrs (by have := (List.getElem?_eq_some_iff.1 hx).1; omega)
    rw [e1] at f1; cases f1
    obtain ⟨c', g1, _⟩ := h1.name b cur ((hb.block b f3).trans f4)
    exact ⟨b, e1, h2.keep_name g1 e2⟩
  · obtain ⟨b, e1, e2⟩ := h.val a x ha hx k hk
    obtain ⟨b', cur, f1, _, f3, f4, _⟩ := hf.blk_val (List.mem_of_getElem? hx) (by omega)
    rw [e1] at f1; cases f1
    obtain ⟨c', g1, _⟩ := h1.unit b cur ((hb.block b f3).trans f4)
    exact ⟨b, e1, h2.keep_unit g1 e2⟩
/-- A unit of a row of the node's can be written. -/
theorem unit_cell {lo hi : Nat} {w0 W wr : World} {m : Int} {b : Nat} {cur : Array Value} (hb : Below w0.heap.size w0 W) (h1 : SpW lo hi m W wr) (hlt : b < w0.heap.size) (hc : w0.heap[b]? = some (.cells cur 45 (0, 0))) {j n : Nat} (hj : j < n) (hn : n ≤ cur.size) :
    ∃ c u, wr.heap[b]? = some (.cells c 45 (0, 0)) ∧ wr.cell? ⟨b, j, none⟩ = some u ∧ wr.frozen? ⟨b, j, none⟩ = false := by
  obtain ⟨c', g1, g2, _⟩ := h1.unit b cur ((hb.block b hlt).trans hc)
  obtain ⟨u, hu⟩ : ∃ u, c'[j]? = some u := ⟨_, Array.getElem?_eq_getElem (by omega)⟩
  exact ⟨c', u, g1, cell_blk g1 j hu, free_blk g1 j⟩
theorem SpW.grown {lo hi : Nat} {m : Int} {V w w' : World} (h : SpW lo hi m V w) {row : Option Nat} (hg : w.grownBy w' row) (hr : ∀ k, row = some k → V.heap.size ≤ k) : SpW lo hi m V w' := by
  have hk : ∀ (k : Nat) o, w.heap[k]? = some o → k < V.heap.size → w'.heap[k]? = some o := fun k o ho hk => (hg.block k (lt_of_some ho) (fun e => by have := hr k e.symm; omega)).trans ho
  refine ⟨hg.os.trans h.os, hg.tape.trans h.tape, hg.output.trans h.output, Nat.le_trans h.size hg.size, fun k o ho hc => hk k o (h.block k o ho hc) (lt_of_some ho), fun k c hc => ?_, fun k c hc => ?_⟩
  · obtain ⟨c', h1, h2, h3⟩ := h.unit k c hc
    exact ⟨c', hk k _ h1 (lt_of_some hc), h2, h3⟩
  · obtain ⟨c', h1, h2, h3⟩ := h.name k c hc
    exact ⟨c', hk k _ h1 (lt_of_some hc), h2, h3⟩
theorem AllMi.grown {lo : Nat} {w0 w w' : World} {N : Nd} {m : Int} {i : Nat} (hf : Fresh lo w0 N) (h : AllMi w N m i) (hw : w0.heap.size ≤ w.heap.size) {row : Option Nat} (hg : w.grownBy w' row) (hr : ∀ k, row = some k → w0.heap.size ≤ k) : AllMi w' N m i := by
  have hc : ∀ (b j : Nat), b < w0.heap.size → w'.cell? ⟨b, j, none⟩ = w.cell? ⟨b, j, none⟩ := fun b j hb => by
    have hB : Below w0.heap.size w w' := grown_below hg hr hw
    exact hB.cell (p := ⟨b, j, none⟩) hb
  refine ⟨fun j hj => ?_, fun a x ha hx => ?_, fun a x ha hx k hk => ?_⟩
  · obtain ⟨b, e1, e2⟩ := h.data j hj
    obtain ⟨b', cur, f1, _, f3, f4, _⟩ := hf.blk_data (by omega)
    rw [e1] at f1; cases f1
    exact ⟨b, e1, (hc b j f3).trans e2⟩
  · obtain ⟨b, e1, e2⟩ := h.name a x ha hx
    obtain ⟨b', cur, f1, _, f3, f4, _⟩ := hf.blk_attrs (by have := (List.getElem?_eq_some_iff.1 hx).1; omega)
    rw [e1] at f1; cases f1
    exact ⟨b, e1, (hc b _ f3).trans e2⟩
  · obtain ⟨b, e1, e2⟩ := h.val a x ha hx k hk
    obtain ⟨b', cur, f1, _, f3, f4, _⟩ := hf.blk_val (List.mem_of_getElem? hx) (by omega)
    rw [e1] at f1; cases f1
    exact ⟨b, e1, (hc b _ f3).trans e2⟩
theorem vdone_grown {lo : Nat} {w0 w w' : World} {N : Nd} {m : Int} (hf : Fresh lo w0 N) {x : LA} (hx : x ∈ N.L) {n : Nat} (hn : n ≤ x.val.length) (h : ∀ j, j < n → ∃ b, x.va = some ⟨b, 0, none⟩ ∧ w.cell? ⟨b, j, none⟩ = some (.int .u16 m)) (hw : w0.heap.size ≤ w.heap.size) {row : Option Nat} (hg : w.grownBy w' row) (hr : ∀ k, row = some k → w0.heap.size ≤ k) :
    ∀ j, j < n → ∃ b, x.va = some ⟨b, 0, none⟩ ∧ w'.cell? ⟨b, j, none⟩ = some (.int .u16 m) := fun j hj => by
  obtain ⟨b, e1, e2⟩ := h j hj
  obtain ⟨b', cur, f1, _, f3, f4, _⟩ := hf.blk_val hx (by omega)
  rw [e1] at f1; cases f1
  have hB : Below w0.heap.size w w' := grown_below hg hr hw
  exact ⟨b, e1, (hB.cell (p := ⟨b, j, none⟩) f3).trans e2⟩
/-- The cells of a row of units as they stand. -/
theorem unit_olds {lo hi : Nat} {w0 W wr w2 : World} {m : Int} {a : Option Addr} {n : Nat} (hb : Below w0.heap.size w0 W) (h1 : SpW lo hi m W wr) (hbl : 0 < n → ∃ b cur, a = some ⟨b, 0, none⟩ ∧ b < w0.heap.size ∧ w0.heap[b]? = some (.cells cur 45 (0, 0)) ∧ n ≤ cur.size) (h2 : Below wr.heap.size wr w2) :
    ∃ olds : List Value, olds.length = n * 1 ∧ (∀ (j : Nat) (u : Value), olds[j]? = some u → ∃ b, a = some b ∧ w2.cell? (b.add j) = some u) ∧ (a = none → n = 0) := by
  rcases Nat.eq_zero_or_pos n with h0 | h0
  · subst h0
    exact ⟨[], rfl, fun j u h => by simp at h, fun _ => rfl⟩
  · obtain ⟨b, cur, rfl, h3, h4, h5⟩ := hbl h0
    obtain ⟨c', g1, g2, _⟩ := h1.unit b cur ((hb.block b h3).trans h4)
    have g3 := (h2.block b (lt_of_some g1)).trans g1
    refine ⟨c'.toList.take n, by rw [List.length_take, Array.length_toList]; omega, fun j u hu => ?_, fun h => by cases h⟩
    have hj : j < n := by have := (List.getElem?_eq_some_iff.1 hu).1; rw [List.length_take] at this; omega
    rw [List.getElem?_take, if_pos hj, Array.getElem?_toList] at hu
    refine ⟨_, rfl, ?_⟩
    rw [show (⟨b, 0, none⟩ : Addr).add j = ⟨b, 0 + j, none⟩ by unfold Addr.add; split <;> simp_all, Nat.zero_add]
    exact cell_blk g3 j hu
theorem name_cell {lo hi : Nat} {w0 W wr : World} {m : Int} {b : Nat} {cur : Array Value} (hb : Below w0.heap.size w0 W) (h1 : SpW lo hi m W wr) (hlt : b < w0.heap.size) (hc : w0.heap[b]? = some (.cells cur 72 (0, 0))) {j : Nat} (hj : j < cur.size) :
    ∃ c u, wr.heap[b]? = some (.cells c 72 (0, 0)) ∧ wr.cell? ⟨b, j, none⟩ = some u ∧ wr.frozen? ⟨b, j, none⟩ = false := by
  obtain ⟨c', g1, g2, _⟩ := h1.name b cur ((hb.block b hlt).trans hc)
  obtain ⟨u, hu⟩ : ∃ u, c'[j]? = some u := ⟨_, Array.getElem?_eq_getElem (by omega)⟩
  exact ⟨c', u, g1, cell_blk g1 j hu, free_blk g1 j⟩
theorem vdone_keep {lo : Nat} {w0 W wr wr' : World} {N : Nd} {m : Int} (hf : Fresh lo w0 N) (hb : Below w0.heap.size w0 W) {x : LA} (hx : x ∈ N.L) {n : Nat} (hn : n ≤ x.val.length) (h1 : SpW lo w0.heap.size m W wr) (h2 : SpW lo w0.heap.size m wr wr')
    (h : ∀ j, j < n → ∃ b, x.va = some ⟨b, 0, none⟩ ∧ wr.cell? ⟨b, j, none⟩ = some (.int .u16 m)) : ∀ j, j < n → ∃ b, x.va = some ⟨b, 0, none⟩ ∧ wr'.cell? ⟨b, j, none⟩ = some (.int .u16 m) := fun j hj => by
  obtain ⟨b, e1, e2⟩ := h j hj
  obtain ⟨b', cur, f1, _, f3, f4, _⟩ := hf.blk_val hx (by omega)
  rw [e1] at f1; cases f1
  obtain ⟨c', g1, _⟩ := h1.unit b cur ((hb.block b f3).trans f4)
  exact ⟨b, e1, h2.keep_unit g1 e2⟩
theorem name_olds {lo hi : Nat} {w0 W wr w2 : World} {m : Int} {a : Option Addr} {n : Nat} (hb : Below w0.heap.size w0 W) (h1 : SpW lo hi m W wr) (hbl : 0 < n → ∃ b cur, a = some ⟨b, 0, none⟩ ∧ b < w0.heap.size ∧ w0.heap[b]? = some (.cells cur 72 (0, 0)) ∧ n * 2 ≤ cur.size) (h2 : Below wr.heap.size wr w2) :
    ∃ olds : List Value, olds.length = n * 2 ∧ (∀ (j : Nat) (u : Value), olds[j]? = some u → ∃ b, a = some b ∧ w2.cell? (b.add j) = some u) ∧ (a = none → n = 0) := by
  rcases Nat.eq_zero_or_pos n with h0 | h0
  · subst h0
    exact ⟨[], rfl, fun j u h => by simp at h, fun _ => rfl⟩
  · obtain ⟨b, cur, rfl, h3, h4, h5⟩ := hbl h0
    obtain ⟨c', g1, g2, _⟩ := h1.name b cur ((hb.block b h3).trans h4)
    have g3 := (h2.block b (lt_of_some g1)).trans g1
    refine ⟨c'.toList.take (n * 2), by rw [List.length_take, Array.length_toList]; omega, fun j u hu => ?_, fun h => by cases h⟩
    have hj : j < n * 2 := by have := (List.getElem?_eq_some_iff.1 hu).1; rw [List.length_take] at this; omega
    rw [List.getElem?_take, if_pos hj, Array.getElem?_toList] at hu
    refine ⟨_, rfl, ?_⟩
    rw [show (⟨b, 0, none⟩ : Addr).add j = ⟨b, 0 + j, none⟩ by unfold Addr.add; split <;> simp_all, Nat.zero_add]
    exact cell_blk g3 j hu
def grName : ByteArray := ⟨#[103, 114, 111, 119, 110]⟩
end Go.Proofs.Ytelhnaphkbpakaa

namespace Go.Proofs.Ytelhnaphkbpakaa
open Go.RowKit
set_option linter.unusedVariables false
set_option maxRecDepth 100000

set_option maxHeartbeats 8000000 in
theorem spoil_calls (lo : Nat) (w0 w : World) (N : Nd) (hf : Fresh lo w0 N) (hb : Below w0.heap.size w0 w) (hB : N.Bd 1099511627776) (hlo : lo ≤ w0.heap.size) (m : Nat) (hm : m < 65535) :
    Calls Try.prog 62 #[N.v, .int .u16 (m : Int)] w fun e w' => (∃ v, e = .returned v) ∧ SpW lo w0.heap.size (m : Int) w w' ∧ AllMi w' N (m : Int) N.L.length := by
  obtain ⟨V, hV⟩ : ∃ V, V = w.alloc (.cells N.cells 30) := ⟨_, rfl⟩
  have hbV : Below w.heap.size w V := by rw [hV]; exact (Below.refl _ w).alloc (Nat.le_refl _) _
  have hbox : V.heap[w.heap.size]? = some (.cells N.cells 30 (0, 0)) := by rw [hV]; exact Go.heap_alloc_new w _
  have HBOX : Hid (∀ wr, SpW lo w0.heap.size (m : Int) V wr → wr.heap[w.heap.size]? = some (.cells N.cells 30 (0, 0))) := Lib.hid (fun wr h => h.block _ _ hbox (.inr (.inr ⟨by simp [oty], by simp [oty]⟩)))
  have hV2 := hV
  unfold Nd.cells at hV2
  unfold Nd.v Nd.cells
  obtain ⟨n, en⟩ : ∃ n, n = N.L.length := ⟨_, rfl⟩
  obtain ⟨md, ed⟩ : ∃ md, md = N.data.length := ⟨_, rfl⟩
  have hn := hB.attrs
  have hd := hB.data
  have hv := hB.val
  rw [← en] at hn hV2 ⊢
  rw [← ed] at hd hV2 ⊢
  have HN := Lib.hid en
  have HD := Lib.hid ed
  have HF := Lib.hid hf
  have HV := Lib.hid (And.intro hV2 (And.intro hbV (hb.trans (hbV.mono hb.size))))
  have HVL := Lib.hid hv
  have hsz : w0.heap.size ≤ w.heap.size := hb.size
  have q9 : IntKind.u16.wrap ((m : Int) + 1) = (m : Int) + 1 := IntWalk.u16_in _ (by omega)
  clear hV hV2 hbV hbox en ed hf hb hv hB
  go_enter Try.func62, Try.ntmps62
  go_wp2_with fail
  rw [← HV.out.1]
  go_loopw [15] (fun v wr => ∃ i : Nat, v = .int .i64 (i : Nat) ∧ i ≤ md ∧ SpW lo w0.heap.size (m : Int) V wr ∧ ∀ j, j < i → ∃ b, N.da = some ⟨b, 0, none⟩ ∧ wr.cell? ⟨b, j, none⟩ = some (.int .u16 (m : Int))) (fun v _ => md - (intOf v).toNat)
  case atStart => exact ⟨0, rfl, Nat.zero_le _, SpW.refl _ _ _ _, fun j hj => absurd hj (Nat.not_lt_zero _)⟩
  case round =>
    obtain ⟨i, rfl, hi, hsp, hdone⟩ := hrel
    have x0 := HBOX.out wr hsp
    have c2 : wr.cell? ⟨w.heap.size, 2, none⟩ = some (.slice N.da md N.dc) := by rw [HD.out]; exact cell_blk x0 2 rfl
    have l0 := lt_of_some x0
    by_cases hlt : i < md
    · obtain ⟨b, cur, hda, hb1, hb2, hb3, hb4⟩ := HF.out.blk_data (by rw [← HD.out]; omega)
      obtain ⟨c', u, g1, g2, g3⟩ := unit_cell HV.out.2.2 hsp hb2 hb3 (j := i) (n := md) hlt (by rw [HD.out]; exact hb4)
      rw [hda] at c2
      have p0 : (0 : Int) ≤ (i : Int) := by omega
      have p1 : (i : Int) < (md : Int) := by omega
      have lb := lt_of_some g1
      have HH := Lib.hid (And.intro hsp (And.intro hdone (And.intro hda (And.intro g1 (And.intro hb1 (And.intro hb2 (And.intro hb3 x0)))))))
      clear hsp hdone hda hb3 hb4 g1 x0
      go_wp2_with fail
      go_roundw
      case rel =>
        have hs := SpW.set_unit (lo := lo) (hi := w0.heap.size) (m := (m : Int)) HH.out.2.2.2.1 hb1 hb2 i
        refine ⟨i + 1, by go_num, hlt, HH.out.1.trans hs, fun j hj => ?_⟩
        rcases Nat.lt_or_ge j i with h | h
        · obtain ⟨b', e1, e2⟩ := HH.out.2.1 j h
          rw [HH.out.2.2.1] at e1; cases e1
          exact ⟨b, HH.out.2.2.1, hs.keep_unit HH.out.2.2.2.1 e2⟩
        · obtain rfl : j = i := by omega
          exact ⟨b, HH.out.2.2.1, World.cell?_setCell_same' wr ⟨b, j, none⟩ _ (by rw [g2]; rfl)⟩
      case measure => simp [intOf]; omega
    · obtain rfl : i = md := by omega
      have p1 : ¬ (i : Int) < (i : Int) := by omega
      have c3 : wr.cell? ⟨w.heap.size, 3, none⟩ = some (.slice N.aa n N.ac) := by rw [HN.out]; exact cell_blk x0 3 rfl
      have HA0 : Hid (SpW lo w0.heap.size (m : Int) V wr ∧ AllMi wr N (m : Int) 0) := Lib.hid ⟨hsp, fun j hj => hdone j (by rw [HD.out]; exact hj), fun a x ha => absurd ha (Nat.not_lt_zero _), fun a x ha => absurd ha (Nat.not_lt_zero _)⟩
      clear hsp hdone hlt x0
      go_wp2_with fail
      go_loopw [27] (fun v wr => ∃ a : Nat, v = .int .i64 (a : Nat) ∧ a ≤ n ∧ SpW lo w0.heap.size (m : Int) V wr ∧ AllMi wr N (m : Int) a) (fun v _ => n - (intOf v).toNat)
      case atStart => exact ⟨0, rfl, Nat.zero_le _, HA0.out⟩
      case round =>
        clear c2 c3 l0
        obtain ⟨a, rfl, ha, hsp, hall⟩ := hrel
        have x0 := HBOX.out wr hsp
        have c2 : wr.cell? ⟨w.heap.size, 2, none⟩ = some (.slice N.da i N.dc) := by rw [HD.out]; exact cell_blk x0 2 rfl
        have c3 : wr.cell? ⟨w.heap.size, 3, none⟩ = some (.slice N.aa n N.ac) := by rw [HN.out]; exact cell_blk x0 3 rfl
        have l0 := lt_of_some x0
        by_cases hlt : a < n
        · obtain ⟨x, hx⟩ : ∃ x, N.L[a]? = some x := ⟨_, List.getElem?_eq_getElem (by rw [← HN.out]; exact hlt)⟩
          obtain ⟨bA, cur, hda, hb1, hb2, hb3, hb4, hb5⟩ := HF.out.blk_attrs (by rw [← HN.out]; omega)
          obtain ⟨xl, exl⟩ : ∃ xl, xl = x.val.length := ⟨_, rfl⟩
          have hVA := (HV.out.2.2.block bA hb2).trans hb3
          have hslV : V.cell? ⟨bA, a * 2 + 1, none⟩ = some (.slice x.va xl x.vc) := by rw [exl]; exact (HV.out.2.2.cell (p := ⟨bA, a * 2 + 1, none⟩) hb2).trans (hb5 _ _ (cellsA_at hx).2)
          have HSL : Hid (∀ wr2, SpW lo w0.heap.size (m : Int) V wr2 → wr2.cell? ⟨bA, a * 2 + 1, none⟩ = some (.slice x.va xl x.vc) ∧ wr2.cell? ⟨w.heap.size, 3, none⟩ = some (.slice (some ⟨bA, 0, none⟩) n N.ac) ∧ w.heap.size < wr2.heap.size ∧ bA < wr2.heap.size) := Lib.hid (fun wr2 h => by
            have hx0 := HBOX.out wr2 h
            refine ⟨h.keep_odd hVA (by omega) hslV, ?_, lt_of_some hx0, by obtain ⟨c', g1, _⟩ := h.name bA cur hVA; exact lt_of_some g1⟩
            rw [← hda, HN.out]; exact cell_blk hx0 3 rfl)
          obtain ⟨s1, s2, s3, s4⟩ := HSL.out wr hsp
          have p0 : (0 : Int) ≤ (a : Int) := by omega
          have p1 : (a : Int) < (n : Int) := by omega
          have hxm := List.mem_of_getElem? hx
          have hxl : xl ≤ 1099511627776 := by rw [exl]; exact HVL.out x hxm
          have HX := Lib.hid (And.intro hx (And.intro hxm (And.intro exl (And.intro hda (And.intro hVA hb1)))))
          have HS := Lib.hid (And.intro hsp hall)
          clear hsp hall hx hxm exl hda hVA hslV hb3 hb4 hb5 x0 c2 c3
          go_wp2_with fail
          go_loopw [37] (fun v wr2 => ∃ k : Nat, v = .int .i64 (k : Nat) ∧ k ≤ xl ∧ SpW lo w0.heap.size (m : Int) V wr2 ∧ AllMi wr2 N (m : Int) a ∧ ∀ j, j < k → ∃ b, x.va = some ⟨b, 0, none⟩ ∧ wr2.cell? ⟨b, j, none⟩ = some (.int .u16 (m : Int))) (fun v _ => xl - (intOf v).toNat)
          case atStart => exact ⟨0, rfl, Nat.zero_le _, HS.out.1, HS.out.2, fun j hj => absurd hj (Nat.not_lt_zero _)⟩
          case round =>
            clear s1 s2 s3 s4
            obtain ⟨k, rfl, hk, hsp, hall, hdone⟩ := hrel
            obtain ⟨s1, s2, s3, s4⟩ := HSL.out wr hsp
            by_cases hlt2 : k < xl
            · obtain ⟨bv, curv, hva, hv1, hv2, hv3, hv4⟩ := HF.out.blk_val HX.out.2.1 (by rw [← HX.out.2.2.1]; omega)
              obtain ⟨c', u, g1, g2, g3⟩ := unit_cell HV.out.2.2 hsp hv2 hv3 (j := k) (n := xl) hlt2 (by rw [HX.out.2.2.1]; exact hv4)
              rw [hva] at s1
              have r0 : (0 : Int) ≤ (k : Int) := by omega
              have r1 : (k : Int) < (xl : Int) := by omega
              have lb := lt_of_some g1
              have HH := Lib.hid (And.intro hsp (And.intro hall (And.intro hdone (And.intro hva g1))))
              clear hsp hall hdone hva hv3 hv4 g1
              go_wp2_with fail
              go_roundw
              case rel =>
                have hs := SpW.set_unit (lo := lo) (hi := w0.heap.size) (m := (m : Int)) HH.out.2.2.2.2 hv1 hv2 k
                refine ⟨k + 1, by go_num, hlt2, HH.out.1.trans hs, HH.out.2.1.keep HF.out HV.out.2.2 HH.out.1 hs, fun j hj => ?_⟩
                rcases Nat.lt_or_ge j k with h | h
                · obtain ⟨b', e1, e2⟩ := HH.out.2.2.1 j h
                  rw [HH.out.2.2.2.1] at e1; cases e1
                  exact ⟨bv, HH.out.2.2.2.1, hs.keep_unit HH.out.2.2.2.2 e2⟩
                · obtain rfl : j = k := by omega
                  exact ⟨bv, HH.out.2.2.2.1, World.cell?_setCell_same' wr ⟨bv, j, none⟩ _ (by rw [g2]; rfl)⟩
              case measure => simp [intOf]; omega
            · obtain rfl : k = xl := by omega
              have r1 : ¬ (k : Int) < (k : Int) := by omega
              have HH := Lib.hid (And.intro hsp (And.intro hall hdone))
              clear hsp hall hdone hlt2
              go_wp2_with fail
              have hvc : x.vc = k := by rw [(HF.out.attrs.val x HX.out.2.1).2, ← HX.out.2.2.1]
              rw [hvc]
              have hVs : V.heap.size ≤ wr.heap.size := HH.out.1.size
              have hwV : w0.heap.size ≤ V.heap.size := HV.out.2.2.size
              clear s1 s2 s3 s4 hvc
              go_loopw [7, 8] (fun v7 v8 wr => ∃ q : Nat, v8 = .int .i64 (q : Nat) ∧ q ≤ 9 ∧ SpW lo w0.heap.size (m : Int) V wr ∧ AllMi wr N (m : Int) a ∧ (∀ j, j < k → ∃ b, x.va = some ⟨b, 0, none⟩ ∧ wr.cell? ⟨b, j, none⟩ = some (.int .u16 (m : Int))) ∧ ((q = 0 ∧ v7 = .slice x.va k k) ∨ (0 < q ∧ ∃ xs, wr.ownsRow V.heap.size 45 1 v7 (k + q) xs))) (fun _ v _ => 9 - (intOf v).toNat)
              case atStart => exact ⟨0, rfl, Nat.zero_le _, HH.out.1, HH.out.2.1, HH.out.2.2, .inl ⟨rfl, rfl⟩⟩
              case round =>
                obtain ⟨q, rfl, hq, hsp, hall, hdone, hcase⟩ := hrel
                have hVr : V.heap.size ≤ wr.heap.size := hsp.size
                have HG := Lib.hid (And.intro hsp (And.intro hall hdone))
                obtain ⟨i45, hi45, ia1, ia2, ia3⟩ := info_parts info79
                by_cases hlt3 : q < 9
                · have r2 : (q : Int) < 9 := by omega
                  rcases hcase with ⟨rfl, rfl⟩ | ⟨hq0, xs, hown⟩
                  · obtain ⟨olds, ho1, ho2, ho3⟩ := unit_olds (w2 := wr.alloc (.cells #[.int .u16 ((m : Int) + 1)] 45)) (a := x.va) (n := k) HV.out.2.2 hsp (fun h => by
                      obtain ⟨bv, curv, e1, e2, e3, e4, e5⟩ := HF.out.blk_val HX.out.2.1 (by rw [← HX.out.2.2.1]; exact h)
                      exact ⟨bv, curv, e1, e3, e4, by rw [HX.out.2.2.1]; exact e5⟩) ((Below.refl _ wr).alloc (Nat.le_refl _) _)
                    clear hsp hall hdone
                    go_wp2_with (at_builtin; refine wpList_append_full _ rfl (.tmp 60) (.tmp 63) 24 rfl 45 i45 _ 1 2 Try.underlying24 hi45 ia1 ia2 ia3 rfl (by omega) x.va k olds rfl ho1 ho2 ho3 ⟨wr.heap.size, 0, none⟩ 1 1 [.int .u16 ((m : Int) + 1)] rfl rfl (World.news_of_block (cs := #[.int .u16 ((m : Int) + 1)]) (t := 45) (fr := (0, 0)) (Go.heap_alloc_new wr _)) (by simp [Value.oneCell']) (by omega) (by unfold maxLen; omega) (by omega) ?_; intro g6 c6 w6 hown6 hgrow6 hge6)
                    go_roundw
                    case rel =>
                      have ha := World.grownBy_alloc wr (.cells #[.int .u16 ((m : Int) + 1)] 45) none
                      refine ⟨1, by go_num, by omega, (HG.out.1.grown ha (fun _ e => by cases e)).grown hgrow6 (fun _ e => by cases e), (HG.out.2.1.grown HF.out (by omega) ha (fun _ e => by cases e)).grown HF.out (by simp; omega) hgrow6 (fun _ e => by cases e), vdone_grown HF.out HX.out.2.1 (by rw [← HX.out.2.2.1]; exact Nat.le_refl _) (vdone_grown HF.out HX.out.2.1 (by rw [← HX.out.2.2.1]; exact Nat.le_refl _) HG.out.2.2 (by omega) ha (fun _ e => by cases e)) (by simp; omega) hgrow6 (fun _ e => by cases e), .inr ⟨by omega, _, hown6.mono (by simp; omega)⟩⟩
                    case measure => simp [intOf]
                  · obtain ⟨av, cv, rfl⟩ := rwSlice hown
                    have HO := Lib.hid hown
                    clear hsp hall hdone hown
                    go_wp2_with (at_builtin; refine wpList_append_any _ rfl (.tmp 60) (.tmp 63) 24 rfl V.heap.size 45 i45 _ 1 2 Try.underlying24 hi45 ia1 ia2 ia3 rfl (by omega) _ (k + q) xs rfl (HO.out.alloc _) (some ⟨wr.heap.size, 0, none⟩) 1 1 [.int .u16 ((m : Int) + 1)] rfl rfl (.inr ⟨_, rfl, World.news_of_block (cs := #[.int .u16 ((m : Int) + 1)]) (t := 45) (fr := (0, 0)) (Go.heap_alloc_new wr _)⟩) (by simp [Value.oneCell']) (by unfold maxLen; omega) (by omega) (by simp; omega) ?_; intro a6 c6 w6 hown6 hgrow6)
                    go_roundw
                    case rel =>
                      have ha := World.grownBy_alloc wr (.cells #[.int .u16 ((m : Int) + 1)] 45) none
                      have hr : ∀ y, (Value.slice av (k + q) cv).ownBlock = some y → V.heap.size ≤ y := fun y hy => (HO.out.lt y hy).1
                      refine ⟨q + 1, by go_num, by omega, (HG.out.1.grown ha (fun _ e => by cases e)).grown hgrow6 hr, (HG.out.2.1.grown HF.out (by omega) ha (fun _ e => by cases e)).grown HF.out (by simp; omega) hgrow6 (fun y e => Nat.le_trans hwV (hr y e)), vdone_grown HF.out HX.out.2.1 (by rw [← HX.out.2.2.1]; exact Nat.le_refl _) (vdone_grown HF.out HX.out.2.1 (by rw [← HX.out.2.2.1]; exact Nat.le_refl _) HG.out.2.2 (by omega) ha (fun _ e => by cases e)) (by simp; omega) hgrow6 (fun y e => Nat.le_trans hwV (hr y e)), .inr ⟨by omega, _, by rw [← Nat.add_assoc]; exact hown6⟩⟩
                    case measure => simp [intOf]; omega
                · obtain rfl : q = 9 := by omega
                  clear hcase hlt3
                  obtain ⟨s1, s2, s3, s4⟩ := HSL.out wr hsp
                  obtain ⟨bA', cur', f1, f2, f3, f4, f5, _⟩ := HF.out.blk_attrs (by rw [← HN.out]; omega)
                  obtain rfl : bA' = bA := by have := f1.symm.trans HX.out.2.2.2.1; simpa using this
                  obtain ⟨c', u, g1, g2, g3⟩ := name_cell HV.out.2.2 hsp f3 f4 (j := a * 2) (by rw [← HN.out] at f5; omega)
                  have HE := Lib.hid (And.intro f1 (And.intro f2 (And.intro f3 g1)))
                  clear hsp hall hdone f1 f2 f4 f5 g1
                  go_wp2_with fail
                  go_roundw
                  case rel =>
                    have hs := SpW.set_name (lo := lo) (hi := w0.heap.size) (m := (m : Int)) HE.out.2.2.2 HE.out.2.1 HE.out.2.2.1 a
                    have hk := HG.out.2.1.keep HF.out HV.out.2.2 HG.out.1 hs
                    have hv := vdone_keep HF.out HV.out.2.2 HX.out.2.1 (by rw [← HX.out.2.2.1]; exact Nat.le_refl _) HG.out.1 hs HG.out.2.2
                    refine ⟨a + 1, by go_num, hlt, HG.out.1.trans hs, hk.data, fun b y hb hy => ?_, fun b y hb hy j hj => ?_⟩
                    · rcases Nat.lt_or_ge b a with h | h
                      · exact hk.name b y h hy
                      · obtain rfl : b = a := by omega
                        exact ⟨bA', HE.out.1, World.cell?_setCell_same' wr ⟨bA', b * 2, none⟩ _ (by rw [g2]; rfl)⟩
                    · rcases Nat.lt_or_ge b a with h | h
                      · exact hk.val b y h hy j hj
                      · obtain rfl : b = a := by omega
                        rw [HX.out.1] at hy
                        cases hy
                        exact hv j (by rw [HX.out.2.2.1]; exact hj)
                  case measure => simp [intOf]; omega
        · obtain rfl : a = n := by omega
          have p1 : ¬ (a : Int) < (a : Int) := by omega
          have HS := Lib.hid (And.intro hsp hall)
          clear hsp hall hlt x0
          go_wp2_with fail
          go_quiet (fail)
          go_wp2_with fail
          have hdc : N.dc = i := by rw [HF.out.dc, ← HD.out]
          have hac : N.ac = a := by rw [HF.out.ac, ← HN.out]
          rw [hdc, hac]
          have hwV : w0.heap.size ≤ V.heap.size := HV.out.2.2.size
          have HQ : Hid (SpW lo w0.heap.size (m : Int) V (wr.drewN nq) ∧ AllMi (wr.drewN nq) N (m : Int) a) := Lib.hid ⟨HS.out.1.grown (grown_drewN wr nq none) (fun _ e => by cases e), HS.out.2.grown HF.out (by have := HS.out.1.size; omega) (grown_drewN wr nq none) (fun _ e => by cases e)⟩
          clear hdc hac c2 c3 l0
          go_loopw [9, 10, 11] (fun v9 v10 v11 wr => ∃ q : Nat, v11 = .int .i64 (q : Nat) ∧ q ≤ 9 ∧ SpW lo w0.heap.size (m : Int) V wr ∧ AllMi wr N (m : Int) a ∧ ((q = 0 ∧ v9 = .slice N.da i i ∧ v10 = .slice N.aa a a) ∨ (0 < q ∧ ∃ xs ys, wr.ownsRow V.heap.size 45 1 v9 (i + q) xs ∧ wr.ownsRow V.heap.size 72 2 v10 (a + q) ys))) (fun _ _ v _ => 9 - (intOf v).toNat)
          case atStart => exact ⟨0, rfl, Nat.zero_le _, HQ.out.1, HQ.out.2, .inl ⟨rfl, rfl, rfl⟩⟩
          case round =>
            obtain ⟨q, rfl, hq, hsp, hall, hcase⟩ := hrel
            have hVr : V.heap.size ≤ wr.heap.size := hsp.size
            have HG := Lib.hid (And.intro hsp hall)
            obtain ⟨i45, hi45, ia1, ia2, ia3⟩ := info_parts info79
            obtain ⟨i72, hi72, ja1, ja2, ja3⟩ := info_parts info72
            by_cases hlt3 : q < 9
            · have r2 : (q : Int) < 9 := by omega
              rcases hcase with ⟨rfl, rfl, rfl⟩ | ⟨hq0, xs, ys, hown, hown2⟩
              · obtain ⟨olds, ho1, ho2, ho3⟩ := unit_olds (w2 := wr.alloc (.cells #[.int .u16 ((m : Int) + 1)] 45)) (a := N.da) (n := i) HV.out.2.2 hsp (fun h => by
                  obtain ⟨bv, curv, e1, e2, e3, e4, e5⟩ := HF.out.blk_data (by rw [← HD.out]; exact h)
                  exact ⟨bv, curv, e1, e3, e4, by rw [HD.out]; exact e5⟩) ((Below.refl _ wr).alloc (Nat.le_refl _) _)
                clear hsp hall
                go_wp2_with (at_builtin; refine wpList_append_full _ rfl (.tmp 79) (.tmp 82) 24 rfl 45 i45 _ 1 2 Try.underlying24 hi45 ia1 ia2 ia3 rfl (by omega) N.da i olds rfl ho1 ho2 ho3 ⟨wr.heap.size, 0, none⟩ 1 1 [.int .u16 ((m : Int) + 1)] rfl rfl (World.news_of_block (cs := #[.int .u16 ((m : Int) + 1)]) (t := 45) (fr := (0, 0)) (Go.heap_alloc_new wr _)) (by simp [Value.oneCell']) (by omega) (by unfold maxLen; omega) (by omega) ?_)
                intro g6 c6 w6 hown6 hgrow6 hge6
                have ha := World.grownBy_alloc wr (.cells #[.int .u16 ((m : Int) + 1)] 45) none
                have hs6 := (HG.out.1.grown ha (fun _ e => by cases e)).grown hgrow6 (fun _ e => by cases e)
                have hm6 := (HG.out.2.grown HF.out (by omega) ha (fun _ e => by cases e)).grown HF.out (by simp; omega) hgrow6 (fun _ e => by cases e)
                have hV6 : V.heap.size ≤ w6.heap.size := hs6.size
                obtain ⟨olds2, hp1, hp2, hp3⟩ := name_olds (w2 := w6.alloc (.cells #[.string grName, .slice none 0 0] 72)) (a := N.aa) (n := a) HV.out.2.2 hs6 (fun h => by
                  obtain ⟨bv, curv, e1, e2, e3, e4, e5, _⟩ := HF.out.blk_attrs (by rw [← HN.out]; exact h)
                  exact ⟨bv, curv, e1, e3, e4, by rw [HN.out]; exact e5⟩) ((Below.refl _ w6).alloc (Nat.le_refl _) _)
                have H6 := Lib.hid (And.intro hs6 (And.intro hm6 (hown6.mono (show V.heap.size ≤ _ by omega))))
                clear hs6 hm6 hown6 hgrow6 ha ho1 ho2 ho3
                go_wp2_with (at_builtin; refine wpList_append_full _ rfl (.tmp 84) (.tmp 86) 25 rfl 72 i72 _ 2 40 Try.underlying25 hi72 ja1 ja2 ja3 rfl (by omega) N.aa a olds2 rfl hp1 hp2 hp3 ⟨w6.heap.size, 0, none⟩ 1 1 [.string grName, .slice none 0 0] rfl rfl (World.news_of_block (cs := #[.string grName, .slice none 0 0]) (t := 72) (fr := (0, 0)) (Go.heap_alloc_new w6 _)) (by simp [Value.oneCell']) (by omega) (by unfold maxLen; omega) (by omega) ?_; intro g7 c7 w7 hown7 hgrow7 hge7)
                go_roundw
                case rel =>
                  have ha := World.grownBy_alloc w6 (.cells #[.string grName, .slice none 0 0] 72) none
                  refine ⟨1, by go_num, by omega, (H6.out.1.grown ha (fun _ e => by cases e)).grown hgrow7 (fun _ e => by cases e), (H6.out.2.1.grown HF.out (by omega) ha (fun _ e => by cases e)).grown HF.out (by simp; omega) hgrow7 (fun _ e => by cases e), .inr ⟨by omega, _, _, grown_row hgrow7 (H6.out.2.2.alloc _) (fun _ _ e => by cases e), hown7.mono (by simp; omega)⟩⟩
                case measure => simp [intOf]
              · obtain ⟨av, cv, rfl⟩ := rwSlice hown
                obtain ⟨bv, dv, rfl⟩ := rwSlice hown2
                have HO := Lib.hid (And.intro hown hown2)
                clear hsp hall hown hown2
                go_wp2_with (at_builtin; refine wpList_append_any _ rfl (.tmp 79) (.tmp 82) 24 rfl V.heap.size 45 i45 _ 1 2 Try.underlying24 hi45 ia1 ia2 ia3 rfl (by omega) _ (i + q) xs rfl (HO.out.1.alloc _) (some ⟨wr.heap.size, 0, none⟩) 1 1 [.int .u16 ((m : Int) + 1)] rfl rfl (.inr ⟨_, rfl, World.news_of_block (cs := #[.int .u16 ((m : Int) + 1)]) (t := 45) (fr := (0, 0)) (Go.heap_alloc_new wr _)⟩) (by simp [Value.oneCell']) (by unfold maxLen; omega) (by omega) (by simp; omega) ?_)
                intro a6 c6 w6 hown6 hgrow6
                have ha := World.grownBy_alloc wr (.cells #[.int .u16 ((m : Int) + 1)] 45) none
                have hr : ∀ y, (Value.slice av (i + q) cv).ownBlock = some y → V.heap.size ≤ y := fun y hy => (HO.out.1.lt y hy).1
                have hs6 := (HG.out.1.grown ha (fun _ e => by cases e)).grown hgrow6 hr
                have hm6 := (HG.out.2.grown HF.out (by omega) ha (fun _ e => by cases e)).grown HF.out (by simp; omega) hgrow6 (fun y e => Nat.le_trans hwV (hr y e))
                have hV6 : V.heap.size ≤ w6.heap.size := hs6.size
                have h26 := (HO.out.2.alloc (.cells #[.int .u16 ((m : Int) + 1)] 45)).kept hgrow6 (rwRowNe HO.out.2 HO.out.1 (by decide))
                have H6 := Lib.hid (And.intro hs6 (And.intro hm6 (And.intro hown6 h26)))
                clear hs6 hm6 hown6 hgrow6 ha hr h26
                go_wp2_with (at_builtin; refine wpList_append_any _ rfl (.tmp 84) (.tmp 86) 25 rfl V.heap.size 72 i72 _ 2 40 Try.underlying25 hi72 ja1 ja2 ja3 rfl (by omega) _ (a + q) ys rfl (H6.out.2.2.2.alloc _) (some ⟨w6.heap.size, 0, none⟩) 1 1 [.string grName, .slice none 0 0] rfl rfl (.inr ⟨_, rfl, World.news_of_block (cs := #[.string grName, .slice none 0 0]) (t := 72) (fr := (0, 0)) (Go.heap_alloc_new w6 _)⟩) (by simp [Value.oneCell']) (by unfold maxLen; omega) (by omega) (by simp; omega) ?_; intro a7 c7 w7 hown7 hgrow7)
                go_roundw
                case rel =>
                  have ha := World.grownBy_alloc w6 (.cells #[.string grName, .slice none 0 0] 72) none
                  have hr : ∀ y, (Value.slice bv (a + q) dv).ownBlock = some y → V.heap.size ≤ y := fun y hy => (H6.out.2.2.2.lt y hy).1
                  refine ⟨q + 1, by go_num, by omega, (H6.out.1.grown ha (fun _ e => by cases e)).grown hgrow7 hr, (H6.out.2.1.grown HF.out (by omega) ha (fun _ e => by cases e)).grown HF.out (by simp; omega) hgrow7 (fun y e => Nat.le_trans hwV (hr y e)), .inr ⟨by omega, _, _, by rw [← Nat.add_assoc]; exact (H6.out.2.2.1.alloc _).kept hgrow7 (rwRowNe H6.out.2.2.1 H6.out.2.2.2 (by decide)), by rw [← Nat.add_assoc]; exact hown7⟩⟩
                case measure => simp [intOf]; omega
            · obtain rfl : q = 9 := by omega
              clear hcase hlt3
              go_wp2_with fail
              go_end0
              exact ⟨⟨_, rfl⟩, (SpW.of_below HV.out.2.1).trans HG.out.1, HG.out.2⟩
end Go.Proofs.Ytelhnaphkbpakaa

