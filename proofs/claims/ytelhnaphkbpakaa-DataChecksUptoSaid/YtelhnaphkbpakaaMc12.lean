/- Same: are two nodes one in all fields? The comparison of two attributes walked: by name, then by value. What spoiling a node's lists leaves: a frame by cells. No program. spoil: a node's lists are written over. What is told of them: plain. -/
import Derived.Laws.Strings
import Derived.Laws.Externs
import Derived.Test.YtelhnaphkbpakaaMc11
namespace Go.Proofs.Ytelhnaphkbpakaa
open Go.RowKit
set_option linter.unusedVariables false
set_option maxRecDepth 100000

theorem ba_eq {a b : ByteArray} : (a.toList == b.toList) = true ↔ a = b := by
  rw [ByteArray.toList_eq, ByteArray.toList_eq, beq_iff_eq]
  constructor
  · intro h
    cases a; cases b
    simp at h
    rw [h]
  · rintro rfl; rfl
theorem ba_ne {a b : ByteArray} (h : a ≠ b) : (a.toList == b.toList) = false := by
  cases e : (a.toList == b.toList) with
  | false => rfl
  | true => exact absurd (ba_eq.1 e) h
theorem ba_refl (a : ByteArray) : (a.toList == a.toList) = true := ba_eq.2 rfl

theorem sameUnits_q {w : World} {a b : Option Addr} {us vs : List Nat} (ca cb : Nat) (ha : Sl16 w a us) (hb : Sl16 w b vs) (n : Nat) :
    Calls Try.prog 25 #[.slice a us.length ca, .slice b vs.length cb] (w.drewN n) fun e w' => e = .returned (.bool (decide (us = vs))) ∧ ∃ m, w' = w.drewN m :=
  (sameUnits_calls ca cb (ha.drewN n) (hb.drewN n)).mono fun e w' ⟨he, k, hw⟩ => ⟨he, n + k, by rw [← hw, World.drewN_drewN]⟩
theorem sameUnits_qa {w : World} {a b : Option Addr} {us vs : List Nat} (ca cb : Nat) (ha : Sl16 w a us) (hb : Sl16 w b vs) (q n : Nat) :
    Calls Try.prog 25 #[.slice a us.length ca, .slice b vs.length cb] (w.drewN (q + n)) fun e w' => e = .returned (.bool (decide (us = vs))) ∧ ∃ m, w' = w.drewN (q + m) :=
  (sameUnits_calls ca cb (ha.drewN (q + n)) (hb.drewN (q + n))).mono fun e w' ⟨he, k, hw⟩ => ⟨he, n + k, by rw [← hw, World.drewN_drewN, Nat.add_assoc]⟩
theorem attrs_at {L M : List LA} {i : Nat} {x y : LA} (h : L.map attrOf = M.map attrOf) (hx : L[i]? = some x) (hy : M[i]? = some y) : x.name = y.name ∧ x.val = y.val := by
  have := congrArg (fun l : List (ByteArray × List Nat) => l[i]?) h
  simp only [List.getElem?_map, hx, hy, Option.map_some, Option.some.injEq] at this
  exact ⟨congrArg Prod.fst this, congrArg Prod.snd this⟩
theorem attrs_ext {L M : List LA} (hl : L.length = M.length) (h : ∀ (j : Nat) (x y : LA), j < L.length → L[j]? = some x → M[j]? = some y → attrOf x = attrOf y) : L.map attrOf = M.map attrOf := by
  apply List.ext_getElem?
  intro j
  rw [List.getElem?_map, List.getElem?_map]
  rcases Nat.lt_or_ge j L.length with hj | hj
  · rw [List.getElem?_eq_getElem hj, List.getElem?_eq_getElem (by omega)]
    simp only [Option.map_some]
    exact congrArg some (h j _ _ hj (List.getElem?_eq_getElem hj) (List.getElem?_eq_getElem (by omega)))
  · rw [List.getElem?_eq_none hj, List.getElem?_eq_none (by omega)]

def SamePost (c d : NC) (w : World) (e : Ending) (w' : World) : Prop := ∃ r, e = .returned (.bool r) ∧ (r = true ↔ c = d) ∧ Below w.heap.size w w'
theorem below_dN {B : Nat} {w V : World} (h : Below B w V) (hB : B ≤ V.heap.size) (k : Nat) : Below B w (V.drewN k) := h.trans (((FrT.refl [] B V).drewN k).below hB)

set_option maxHeartbeats 8000000 in
theorem same_calls (w : World) (M N : Nd) (hM : NdIn w M) (hN : NdIn w N) :
    Calls Try.prog 35 #[M.v, N.v] w (SamePost M.c N.c w) := by
  obtain ⟨hMd, hMa, hMn, _⟩ := hM
  obtain ⟨hNd, hNa, hNn, _⟩ := hN
  obtain ⟨k, nm, da, dc, data, aa, ac, L, sl, ge⟩ := M
  obtain ⟨k2, nm2, da2, dc2, data2, aa2, ac2, L2, sl2, ge2⟩ := N
  simp only [Nd.v, Nd.cells] at *
  obtain ⟨n, en⟩ : ∃ n, n = L.length := ⟨_, rfl⟩
  obtain ⟨n2, en2⟩ : ∃ n2, n2 = L2.length := ⟨_, rfl⟩
  obtain ⟨m, em⟩ : ∃ m, m = data.length := ⟨_, rfl⟩
  obtain ⟨m2, em2⟩ : ∃ m2, m2 = data2.length := ⟨_, rfl⟩
  have hl1 := hMa.len
  have hl2 := hNa.len
  rw [← en, ← em, ← en2, ← em2]
  rw [← en] at hl1
  rw [← en2] at hl2
  obtain ⟨V, hV⟩ : ∃ V, V = (w.alloc (.cells #[.int .i64 k, .string nm, .slice da m dc, .slice aa n ac, .int .u32 sl, .int .u32 ge] 30)).alloc (.cells #[.int .i64 k2, .string nm2, .slice da2 m2 dc2, .slice aa2 n2 ac2, .int .u32 sl2, .int .u32 ge2] 30) := ⟨_, rfl⟩
  have hbV : Below w.heap.size w V := by rw [hV]; exact ((Below.refl _ w).alloc (Nat.le_refl _) _).alloc (by simp) _
  have v0 : V.heap[w.heap.size]? = some (.cells #[.int .i64 k, .string nm, .slice da m dc, .slice aa n ac, .int .u32 sl, .int .u32 ge] 30 (0, 0)) := by rw [hV]; exact alloc_blk (Go.heap_alloc_new w _) _
  have v1 : V.heap[w.heap.size + 1]? = some (.cells #[.int .i64 k2, .string nm2, .slice da2 m2 dc2, .slice aa2 n2 ac2, .int .u32 sl2, .int .u32 ge2] 30 (0, 0)) := by
    rw [hV]; have := Go.heap_alloc_new (w.alloc (.cells #[.int .i64 k, .string nm, .slice da m dc, .slice aa n ac, .int .u32 sl, .int .u32 ge] 30)) (.cells #[.int .i64 k2, .string nm2, .slice da2 m2 dc2, .slice aa2 n2 ac2, .int .u32 sl2, .int .u32 ge2] 30); rwa [World.size_alloc] at this
  have he := sameUnits_calls dc dc2 (hMd.below hbV) (hNd.below hbV)
  rw [← em, ← em2] at he
  have HE := Lib.hid he
  have HV := Lib.hid (And.intro hV (And.intro hbV (And.intro v0 v1)))
  have HA := Lib.hid (And.intro hMa hNa)
  have HL := Lib.hid (And.intro en en2)
  clear he hbV v0 v1 hMa hNa hMd hNd en en2 em em2
  by_cases hall : k = k2 ∧ nm = nm2 ∧ sl = sl2 ∧ ge = ge2 ∧ data = data2 ∧ n = n2
  · obtain ⟨rfl, rfl, rfl, rfl, rfl, rfl⟩ := hall
    have HE2 := HE.out
    rw [decide_eq_true rfl, hV] at HE2
    have HE3 := Lib.hid HE2
    clear HE2 HE
    go_enter Try.func35, Try.ntmps35
    go_wp2_with (go_at_call 25; refine HE3.out.mono ?_; rintro e w2 ⟨rfl, kk, rfl⟩)
    have c03 := cell_blk HV.out.2.2.1 3 rfl
    have c13 := cell_blk HV.out.2.2.2 3 rfl
    have l0 := lt_of_some HV.out.2.2.1
    have l1 := lt_of_some HV.out.2.2.2
    rw [← hV]
    have HVV := Lib.hid hV
    clear hV
    go_loopw [6] (fun v wr => ∃ (i q : Nat), v = .int .i64 (i : Nat) ∧ i ≤ n ∧ (∀ (j : Nat) (x y : LA), j < i → L[j]? = some x → L2[j]? = some y → attrOf x = attrOf y) ∧ wr = V.drewN q) (fun v _ => n - (intOf v).toNat)
    case atStart => exact ⟨0, kk, rfl, Nat.zero_le _, fun _ _ _ h => absurd h (Nat.not_lt_zero _), rfl⟩
    case round =>
      obtain ⟨i, q, rfl, hi, hall, rfl⟩ := hrel
      by_cases hlt : i < n
      · obtain ⟨x, hx⟩ : ∃ x, L[i]? = some x := ⟨_, List.getElem?_eq_getElem (by rw [← HL.out.1]; exact hlt)⟩
        obtain ⟨y, hy⟩ : ∃ y, L2[i]? = some y := ⟨_, List.getElem?_eq_getElem (by rw [← HL.out.2]; exact hlt)⟩
        obtain ⟨b1, o1, rfl, hb1, x1, x2⟩ := (HA.out.1.below HV.out.2.1).get hx
        obtain ⟨b2, o2, rfl, hb2, y1, y2⟩ := (HA.out.2.below HV.out.2.1).get hy
        have sx := ((HA.out.1.below HV.out.2.1).val x (List.mem_of_getElem? hx))
        have sy := ((HA.out.2.below HV.out.2.1).val y (List.mem_of_getElem? hy))
        have HQ := Lib.hid (sameUnits_qa x.vc y.vc sx sy q)
        obtain ⟨xl, exl⟩ : ∃ xl, xl = x.val.length := ⟨_, rfl⟩
        obtain ⟨yl, eyl⟩ : ∃ yl, yl = y.val.length := ⟨_, rfl⟩
        rw [← exl] at x2 HQ
        rw [← eyl] at y2 HQ
        have p0 : (0 : Int) ≤ (i : Int) := by omega
        have p1 : (i : Int) < (n : Int) := by omega
        have HH := Lib.hid (And.intro hall (And.intro hx hy))
        clear hall hx hy sx sy exl eyl
        by_cases hnm : x.name = y.name
        · rw [← hnm] at y1
          have HNM := Lib.hid hnm
          clear hnm
          cases hd : decide (x.val = y.val) with
          | true =>
            rw [hd] at HQ
            have HD := Lib.hid hd
            clear hd
            go_wp2_with fail
            go_quiet ((go_at_call 25; exact HQ.out _))
            go_wp2_with fail
            go_quiet (fail)
            go_wp2_with fail
            go_roundw
            case rel =>
              refine ⟨i + 1, _, by go_num, hlt, fun j x' y' hj hx' hy' => ?_, rfl⟩
              rcases Nat.lt_or_ge j i with h | h
              · exact HH.out.1 j x' y' h hx' hy'
              · obtain rfl : j = i := by omega
                rw [HH.out.2.1] at hx'
                rw [HH.out.2.2] at hy'
                cases hx'; cases hy'
                unfold attrOf
                rw [HNM.out, of_decide_eq_true HD.out]
            case measure => simp [intOf]; omega
          | false =>
            rw [hd] at HQ
            have HD := Lib.hid hd
            clear hd
            go_wp2_with fail
            go_quiet ((go_at_call 25; exact HQ.out _))
            go_wp2_with fail
            go_quiet (fail)
            go_wp2_with fail
            go_ret
            refine ⟨false, rfl, ⟨fun h => absurd h (by simp), fun h => ?_⟩, by repeat (first | exact HV.out.2.1 | exact HV.out.2.1.size | refine below_dN ?_ ?_ _)⟩
            exact absurd (attrs_at (congrArg NC.attrs h) HH.out.2.1 HH.out.2.2).2 (of_decide_eq_false HD.out)
        · have e2 : (x.name.toList == y.name.toList) = false := ba_ne hnm
          have e1 : (x.name.toList != y.name.toList) = true := by rw [bne, e2]; rfl
          obtain ⟨r, hr⟩ : ∃ r, r = decide (x.val = y.val) := ⟨_, rfl⟩
          rw [← hr] at HQ
          have HNM := Lib.hid hnm
          clear hnm hr
          go_wp2_with fail
          go_quiet ((go_at_call 25; exact HQ.out _))
          go_wp2_with fail
          go_quiet (fail)
          go_wp2_with fail
          go_ret
          refine ⟨false, rfl, ⟨fun h => absurd h (by simp), fun h => ?_⟩, by repeat (first | exact HV.out.2.1 | exact HV.out.2.1.size | refine below_dN ?_ ?_ _)⟩
          exact absurd (attrs_at (congrArg NC.attrs h) HH.out.2.1 HH.out.2.2).1 HNM.out
      · obtain rfl : i = n := by omega
        have p1 : ¬ (i : Int) < (i : Int) := by omega
        have HALL := Lib.hid hall
        clear hall hlt
        go_wp2_with fail
        go_ret
        refine ⟨true, rfl, ⟨fun _ => ?_, fun _ => rfl⟩, by repeat (first | exact HV.out.2.1 | exact HV.out.2.1.size | refine below_dN ?_ ?_ _)⟩
        have : L.map attrOf = L2.map attrOf := attrs_ext (by rw [← HL.out.1, ← HL.out.2]) (fun j x y hj hx hy => HALL.out j x y (by rw [HL.out.1]; exact hj) hx hy)
        unfold Nd.c
        rw [this]
  · have HNE : Hid (Nd.c ⟨k, nm, da, dc, data, aa, ac, L, sl, ge⟩ ≠ Nd.c ⟨k2, nm2, da2, dc2, data2, aa2, ac2, L2, sl2, ge2⟩) := Lib.hid (fun h => hall (by
      unfold Nd.c at h
      simp only [NC.mk.injEq] at h
      obtain ⟨h1, h2, h3, h4, h5, h6⟩ := h
      have h7 := congrArg List.length h4
      simp only [List.length_map] at h7
      exact ⟨h1, h2, h5, h6, h3, by rw [HL.out.1, HL.out.2, h7]⟩))
    have HB := Lib.hid HV.out.2.1
    rw [hV] at HB HE
    obtain ⟨r, hr⟩ : ∃ r, r = decide (data = data2) := ⟨_, rfl⟩
    rw [← hr] at HE
    by_cases hk : k = k2
    · subst hk
      by_cases hn : nm = nm2
      · subst hn
        by_cases hs : sl = sl2
        · subst hs
          by_cases hg : ge = ge2
          · subst hg
            cases r with
            | false =>
              clear hall hr hV
              go_enter Try.func35, Try.ntmps35
              go_wp2_with (go_at_call 25; refine HE.out.mono ?_; rintro e w2 ⟨rfl, kk, rfl⟩)
              all_goals go_ret
              all_goals exact ⟨false, rfl, ⟨fun h => absurd h (by simp), fun h => absurd h HNE.out⟩, by repeat (first | exact HB.out | exact HB.out.size | refine below_dN ?_ ?_ _)⟩
            | true =>
              have hnn : ¬ n = n2 := fun h => hall ⟨rfl, rfl, rfl, rfl, of_decide_eq_true hr.symm, h⟩
              have e1 : ((n : Int) != (n2 : Int)) = true := by simp; omega
              clear hall hr hV hnn
              go_enter Try.func35, Try.ntmps35
              go_wp2_with (go_at_call 25; refine HE.out.mono ?_; rintro e w2 ⟨rfl, kk, rfl⟩)
              all_goals go_ret
              all_goals exact ⟨false, rfl, ⟨fun h => absurd h (by simp), fun h => absurd h HNE.out⟩, by repeat (first | exact HB.out | exact HB.out.size | refine below_dN ?_ ?_ _)⟩
          · have e1 : (ge == ge2) = false := by simpa using hg
            clear hall hr hV hg
            go_enter Try.func35, Try.ntmps35
            go_wp2_with (go_at_call 25; refine HE.out.mono ?_; rintro e w2 ⟨rfl, kk, rfl⟩)
            all_goals go_ret
            all_goals exact ⟨false, rfl, ⟨fun h => absurd h (by simp), fun h => absurd h HNE.out⟩, by repeat (first | exact HB.out | exact HB.out.size | refine below_dN ?_ ?_ _)⟩
        · have e1 : (sl == sl2) = false := by simpa using hs
          clear hall hr hV hs
          go_enter Try.func35, Try.ntmps35
          go_wp2_with (go_at_call 25; refine HE.out.mono ?_; rintro e w2 ⟨rfl, kk, rfl⟩)
          all_goals go_ret
          all_goals exact ⟨false, rfl, ⟨fun h => absurd h (by simp), fun h => absurd h HNE.out⟩, by repeat (first | exact HB.out | exact HB.out.size | refine below_dN ?_ ?_ _)⟩
      · have e1 : (nm.toList == nm2.toList) = false := ba_ne hn
        have e2 : (nm.toList != nm2.toList) = true := by rw [bne, e1]; rfl
        clear hall hr hV hn
        go_enter Try.func35, Try.ntmps35
        go_wp2_with (go_at_call 25; refine HE.out.mono ?_; rintro e w2 ⟨rfl, kk, rfl⟩)
        all_goals go_ret
        all_goals exact ⟨false, rfl, ⟨fun h => absurd h (by simp), fun h => absurd h HNE.out⟩, by repeat (first | exact HB.out | exact HB.out.size | refine below_dN ?_ ?_ _)⟩
    · have e1 : (k != k2) = true := by simpa using hk
      clear hall hr hV hk
      go_enter Try.func35, Try.ntmps35
      go_wp2_with (go_at_call 25; refine HE.out.mono ?_; rintro e w2 ⟨rfl, kk, rfl⟩)
      all_goals go_ret
      all_goals exact ⟨false, rfl, ⟨fun h => absurd h (by simp), fun h => absurd h HNE.out⟩, by repeat (first | exact HB.out | exact HB.out.size | refine below_dN ?_ ?_ _)⟩
end Go.Proofs.Ytelhnaphkbpakaa

namespace Go.Proofs.Ytelhnaphkbpakaa
open Go.RowKit
set_option linter.unusedVariables false
set_option maxRecDepth 100000

theorem nameCmp91 (a b : ByteArray) (w : World) : Calls Try.prog 91 #[.string a, .string b] w fun e w' => e = .returned (.int .i64 (cmp16 (byN a) (byN b))) ∧ w = w' := by
  go_enter Try.func91, Try.ntmps91
  go_wp2
  rw [run_callFunc_extern Try.func106 (by kernel_rfl) (by kernel_rfl) (by kernel_rfl) (e := Extern.BytealgCompare.compare) (by kernel_rfl), Lib.run_compareString]
  simp only [Result.andThen]
  rw [Oper.upon_value]
  go_wp2
  exact bodyPost_ret (v := .int .i64 (Lib.compareBytes a.data.toList b.data.toList)) (by simp [results, Try.results91, go_sem]) rfl ⟨by rw [cb_eq]; rfl, rfl⟩
theorem nameCmp (a b : ByteArray) (w : World) : Calls Try.prog 58 #[.string a, .string b] w fun e w' => e = .returned (.int .i64 (cmp16 (byN a) (byN b))) ∧ w = w' := by
  have H := Lib.hid (fun w => nameCmp91 a b w)
  go_enter Try.func58, Try.ntmps58
  go_wp2_with fail
  refine (H.out _).mono ?_
  rintro e w' ⟨rfl, rfl⟩
  go_wp2_with fail
  go_ret
  exact ⟨rfl, rfl⟩
theorem or_calls (w : World) (b : Nat) (x y : Int) (hb : w.heap[b]? = some (.cells #[.int .i64 x, .int .i64 y] 3 (0, 0))) : Calls Try.prog 57 #[.slice (some ⟨b, 0, none⟩) 2 2] w fun e w' => e = .returned (.int .i64 (if x ≠ 0 then x else y)) ∧ ∃ k, w' = w.drewN k := by
  have c0 := cell_blk hb 0 rfl
  have c1 := cell_blk hb 1 rfl
  have lb := lt_of_some hb
  obtain ⟨r, hr⟩ : ∃ r, r = (if x ≠ 0 then x else y) := ⟨_, rfl⟩
  rw [← hr]
  have HR := Lib.hid hr
  simp at c0 c1
  clear hb hr
  go_enter Try.func57, Try.ntmps57
  go_wp2_with fail
  go_loopw [8] (fun v wr => ∃ i k : Nat, v = .int .i64 (i : Nat) ∧ i ≤ 2 ∧ (1 ≤ i → x = 0) ∧ (2 ≤ i → y = 0) ∧ wr = w.drewN k) (fun v _ => 2 - (intOf v).toNat)
  case atStart => exact ⟨0, 0, rfl, by omega, by omega, by omega, rfl⟩
  case round =>
    obtain ⟨i, k, rfl, hi, h1, h2, rfl⟩ := hrel
    have hi' : i = 0 ∨ i = 1 ∨ i = 2 := by omega
    rcases hi' with rfl | rfl | rfl
    · by_cases hx : x = 0
      · have q : (x != 0) = false := by simp [hx]
        have HX := Lib.hid hx
        clear h1 h2 hx
        go_wp2_with fail
        go_roundw
        case rel => exact ⟨1, _, by go_num, by omega, fun _ => HX.out, by omega, by first | rfl | trivial⟩
        case measure => simp [intOf]
      · have q : (x != 0) = true := by simp [hx]
        have e : r = x := by rw [HR.out]; exact if_pos hx
        have HE := Lib.hid e
        clear h1 h2 hx e
        go_wp2_with fail
        exact bodyPost_ret (v := .int .i64 x) (by simp [results, Try.results57, go_sem]) rfl ⟨by rw [HE.out], _, rfl⟩
    · have hx := h1 (by omega)
      by_cases hy : y = 0
      · have q : (y != 0) = false := by simp [hy]
        have HX := Lib.hid (And.intro hx hy)
        clear h1 h2 hx hy
        go_wp2_with fail
        go_roundw
        case rel => exact ⟨2, _, by go_num, by omega, fun _ => HX.out.1, fun _ => HX.out.2, by first | rfl | trivial⟩
        case measure => simp [intOf]
      · have q : (y != 0) = true := by simp [hy]
        have e : r = y := by rw [HR.out]; exact if_neg (fun h => h hx)
        have HE := Lib.hid e
        clear h1 h2 hx hy e
        go_wp2_with fail
        exact bodyPost_ret (v := .int .i64 y) (by simp [results, Try.results57, go_sem]) rfl ⟨by rw [HE.out], _, rfl⟩
    · have e : r = 0 := by rw [HR.out, if_neg (fun h => h (h1 (by omega)))]; exact h2 (by omega)
      have HE := Lib.hid e
      clear h1 h2 e
      go_wp2_with fail
      exact bodyPost_ret (v := .int .i64 0) (by simp [results, Try.results57, go_sem]) rfl ⟨by rw [HE.out], _, rfl⟩

set_option maxHeartbeats 4000000 in
theorem cmpA_calls (w : World) (x y : LA) (hx : Sl16 w x.va x.val) (hy : Sl16 w y.va y.val) :
    Calls Try.prog 56 #[x.v, y.v] w fun e w' => e = .returned (.int .i64 (cmpA (attrOf x) (attrOf y))) ∧ Below w.heap.size w w' := by
  obtain ⟨V, hV⟩ : ∃ V, V = (w.alloc (.cells #[.string x.name, .slice x.va x.val.length x.vc] 72)).alloc (.cells #[.string y.name, .slice y.va y.val.length y.vc] 72) := ⟨_, rfl⟩
  have hVs : V.heap.size = w.heap.size + 2 := by rw [hV]; simp
  have hbV : Below w.heap.size w V := by rw [hV]; exact ((Below.refl _ w).alloc (Nat.le_refl _) _).alloc (by simp) _
  have x0 : V.heap[w.heap.size]? = some (.cells #[.string x.name, .slice x.va x.val.length x.vc] 72 (0, 0)) := by rw [hV]; exact alloc_blk (Go.heap_alloc_new w _) _
  have x1 : V.heap[w.heap.size + 1]? = some (.cells #[.string y.name, .slice y.va y.val.length y.vc] 72 (0, 0)) := by
    rw [hV]; have := Go.heap_alloc_new (w.alloc (.cells #[.string x.name, .slice x.va x.val.length x.vc] 72)) (.cells #[.string y.name, .slice y.va y.val.length y.vc] 72); rwa [World.size_alloc] at this
  have HS : Hid (∀ W, Below V.heap.size V W → (W.cell? ⟨w.heap.size, 0, none⟩ = some (.string x.name) ∧ W.cell? ⟨w.heap.size, 1, none⟩ = some (.slice x.va x.val.length x.vc) ∧ W.cell? ⟨w.heap.size + 1, 0, none⟩ = some (.string y.name) ∧ W.cell? ⟨w.heap.size + 1, 1, none⟩ = some (.slice y.va y.val.length y.vc))) := Lib.hid (fun W b => by
    have y0 := (b.block _ (lt_of_some x0)).trans x0
    have y1 := (b.block _ (lt_of_some x1)).trans x1
    exact ⟨cell_blk y0 0 rfl, cell_blk y0 1 rfl, cell_blk y1 0 rfl, cell_blk y1 1 rfl⟩)
  have HN := Lib.hid (fun w => nameCmp x.name y.name w)
  have HWC := Lib.hid (wide_compare (w := V.drew) x.vc y.vc ((hx.below hbV).below ((Below.refl _ V).drew)) ((hy.below hbV).below ((Below.refl _ V).drew)))
  have HV := Lib.hid (And.intro hV hbV)
  have HOR : Hid (Calls Try.prog 57 #[.slice (some ⟨V.heap.size, 0, none⟩) 2 2] ((V.alloc (.cells #[.int .i64 (cmp16 (byN x.name) (byN y.name)), .int .i64 (cmp16 x.val y.val)] 3)).drew) fun e w' => e = .returned (.int .i64 (cmpA (attrOf x) (attrOf y))) ∧ ∃ k, w' = (V.alloc (.cells #[.int .i64 (cmp16 (byN x.name) (byN y.name)), .int .i64 (cmp16 x.val y.val)] 3)).drew.drewN k) := Lib.hid (or_calls _ V.heap.size _ _ (Go.heap_alloc_new V _))
  have hS0 := HS.out V (Below.refl _ _)
  have HD := Lib.hid ((Below.refl V.heap.size V).drew)
  unfold LA.v
  rw [hV] at hS0
  obtain ⟨s0, s1, s2, s3⟩ := hS0
  have l0 : w.heap.size < V.heap.size := by omega
  have l1 : w.heap.size + 1 < V.heap.size := by omega
  rw [hV] at l0 l1
  have HVS := Lib.hid hVs
  clear hVs hV hbV x0 x1 hx hy
  go_enter Try.func56, Try.ntmps56
  go_wp2_with fail
  rw [← HV.out.1] at s0 s1 s2 s3 l0 l1 ⊢
  refine wp_region_held_drew (S := fun W => (W.cell? ⟨w.heap.size, 0, none⟩ = some (.string x.name) ∧ W.cell? ⟨w.heap.size, 1, none⟩ = some (.slice x.va x.val.length x.vc) ∧ W.cell? ⟨w.heap.size + 1, 0, none⟩ = some (.string y.name) ∧ W.cell? ⟨w.heap.size + 1, 1, none⟩ = some (.slice y.va y.val.length y.vc))) (by kernel_rfl) ⟨s0, s1, s2, s3⟩ (fun hHeld => ?_)
  refine wpAnyH_take (i := 0) (v := ?_) rfl (by kernel_rfl) (by kernel_rfl) (by kernel_rfl) (fun _ _ _ h => h) (Or.inl ⟨by rfl, ?_⟩) (by assumption) ?_
  rotate_left
  · intro w hSw; (try dsimp only at hSw); go_simp; try with_reducible rfl
  refine wpAnyH_take (i := 1) (v := ?_) rfl (by kernel_rfl) (by kernel_rfl) (by kernel_rfl) (fun _ _ _ h => h) (Or.inl ⟨by rfl, ?_⟩) (by assumption) ?_
  rotate_left
  · intro w hSw; (try dsimp only at hSw); go_simp; try with_reducible rfl
  refine wpAnyH_take (i := 2) (v := ?_) rfl (by kernel_rfl) (by kernel_rfl) (by kernel_rfl) (fun _ _ _ h => h) (Or.inl ⟨by rfl, ?_⟩) (by assumption) ?_
  rotate_left
  · intro w hSw; (try dsimp only at hSw); go_simp; try with_reducible rfl
  refine wpAnyH_take (i := 3) (v := ?_) rfl (by kernel_rfl) (by kernel_rfl) (by kernel_rfl) (fun _ _ _ h => h) (Or.inl ⟨by rfl, ?_⟩) (by assumption) ?_
  rotate_left
  · intro w hSw; (try dsimp only at hSw); go_simp; try with_reducible rfl
  refine wpAnyH_take (i := 5) (v := ?_) rfl (by kernel_rfl) (by kernel_rfl) (by kernel_rfl) (fun _ _ _ h => h) (Or.inl ⟨by rfl, ?_⟩) (by assumption) ?_
  rotate_left
  · intro w hSw; (try dsimp only at hSw); go_simp; try with_reducible rfl
  refine wpAnyH_take (i := 6) (v := ?_) rfl (by kernel_rfl) (by kernel_rfl) (by kernel_rfl) (fun _ _ _ h => h) (Or.inl ⟨by rfl, ?_⟩) (by assumption) ?_
  rotate_left
  · intro w hSw; (try dsimp only at hSw); go_simp; try with_reducible rfl
  refine wpAnyH_take (i := 7) (v := ?_) rfl (by kernel_rfl) (by kernel_rfl) (by kernel_rfl) (fun _ _ _ h => h) (Or.inl ⟨by rfl, ?_⟩) (by assumption) ?_
  rotate_left
  · intro w hSw; (try dsimp only at hSw); go_simp; try with_reducible rfl
  refine wpAnyH_take (i := 8) (v := ?_) rfl (by kernel_rfl) (by kernel_rfl) (by kernel_rfl) (fun _ _ _ h => h) (Or.inl ⟨by rfl, ?_⟩) (by assumption) ?_
  rotate_left
  · intro w hSw; (try dsimp only at hSw); go_simp; try with_reducible rfl
  refine wpAnyH_ready (rs := [4]) (by kernel_rfl) (by simp) ?_
  refine AllReadyH.cons rfl (fun K' hK => ?_) AllReadyH.nil
  go_simp
  go_at_call 58
  refine (HN.out _).mono ?_
  rintro e w5 ⟨rfl, rfl⟩
  refine hK.out _ _ hHeld (fun hHeld => ?_)
  clear hK K'
  refine wpAnyH_ready (rs := [9]) (by kernel_rfl) (by simp) ?_
  refine AllReadyH.cons rfl (fun K' hK => ?_) AllReadyH.nil
  go_simp
  go_at_call 59
  refine HWC.out.mono ?_
  rintro e w6 ⟨rfl, rfl⟩
  refine hK.out _ _ hHeld (fun hHeld => ?_)
  clear hK K'
  refine wpAnyH_ready (rs := [10]) (by kernel_rfl) (by simp) ?_
  refine AllReadyH.cons rfl (fun K' hK => ?_) AllReadyH.nil
  go_simp
  refine hK.out _ _ (HS.out _ (((Below.refl _ V).alloc (Nat.le_refl _) _).drew)) (fun hHeld => ?_)
  clear hK K'
  refine wpAnyH_ready (rs := [11]) (by kernel_rfl) (by simp) ?_
  refine AllReadyH.cons rfl (fun K' hK => ?_) AllReadyH.nil
  go_simp
  go_at_call 57
  refine HOR.out.mono ?_
  rintro e w9 ⟨rfl, k9, rfl⟩
  have hb9 : Below V.heap.size V ((V.alloc (.cells #[.int .i64 (cmp16 (byN x.name) (byN y.name)), .int .i64 (cmp16 x.val y.val)] 3)).drew.drewN k9) := below_dN (((Below.refl _ V).alloc (Nat.le_refl _) _).drew) (by simp) k9
  refine hK.out _ _ (HS.out _ hb9) (fun hHeld => ?_)
  have HB9 := Lib.hid hb9
  clear hK K' hb9
  refine wpAnyH_ready (rs := [12]) (by kernel_rfl) (by simp) ?_
  refine AllReadyH.cons rfl (fun K' hK => ?_) AllReadyH.nil
  go_simp
  refine hK.out _ _ hHeld (fun hHeld => ?_)
  clear hK K'
  refine wpAnyH_done (by kernel_rfl) ?_ _
  clear hHeld
  go_wp2
  exact bodyPost_ret (v := .int .i64 (cmpA (attrOf x) (attrOf y))) (by simp [results, Try.results56, go_sem]) rfl ⟨rfl, below_dN (HV.out.2.alloc HV.out.2.size _) (Nat.le_trans HV.out.2.size (by simp)) _⟩
end Go.Proofs.Ytelhnaphkbpakaa

namespace Go.Proofs.Ytelhnaphkbpakaa
open Go.RowKit
set_option linter.unusedVariables false
set_option maxRecDepth 100000

def spName : ByteArray := ⟨#[115, 112, 111, 105, 108, 116]⟩
/-- w' is w but for new blocks; and in the blocks from lo to hi a unit may have become m, a name 'spoilt'. -/
structure SpW (lo hi : Nat) (m : Int) (w w' : World) : Prop where
  os : w'.os = w.os
  tape : w'.tape = w.tape
  output : w'.output = w.output
  size : w.heap.size ≤ w'.heap.size
  block : ∀ (k : Nat) o, w.heap[k]? = some o → (k < lo ∨ hi ≤ k ∨ (oty o ≠ some 45 ∧ oty o ≠ some 72)) → w'.heap[k]? = some o
  unit : ∀ (k : Nat) (c : Array Value), w.heap[k]? = some (.cells c 45 (0, 0)) → ∃ c' : Array Value, w'.heap[k]? = some (.cells c' 45 (0, 0)) ∧ c'.size = c.size ∧ ∀ j : Nat, c'[j]? = c[j]? ∨ c'[j]? = some (.int .u16 m)
  name : ∀ (k : Nat) (c : Array Value), w.heap[k]? = some (.cells c 72 (0, 0)) → ∃ c' : Array Value, w'.heap[k]? = some (.cells c' 72 (0, 0)) ∧ c'.size = c.size ∧ ∀ j : Nat, c'[j]? = c[j]? ∨ (j % 2 = 0 ∧ c'[j]? = some (.string spName))

section
variable {lo hi : Nat} {m : Int} {w w' w'' : World}
theorem SpW.refl (lo hi : Nat) (m : Int) (w : World) : SpW lo hi m w w :=
  ⟨rfl, rfl, rfl, Nat.le_refl _, fun _ _ h _ => h, fun _ c h => ⟨c, h, rfl, fun _ => .inl rfl⟩, fun _ c h => ⟨c, h, rfl, fun _ => .inl rfl⟩⟩
theorem SpW.trans (h : SpW lo hi m w w') (k : SpW lo hi m w' w'') : SpW lo hi m w w'' :=
  ⟨k.os.trans h.os, k.tape.trans h.tape, k.output.trans h.output, Nat.le_trans h.size k.size, fun i o hi' ho => k.block i o (h.block i o hi' ho) ho,
    fun i c hc => by
      obtain ⟨c1, h1, h2, h3⟩ := h.unit i c hc
      obtain ⟨c2, k1, k2, k3⟩ := k.unit i c1 h1
      exact ⟨c2, k1, k2.trans h2, fun j => (k3 j).elim (fun e => (h3 j).imp (fun f => e.trans f) (fun f => e.trans f)) .inr⟩,
    fun i c hc => by
      obtain ⟨c1, h1, h2, h3⟩ := h.name i c hc
      obtain ⟨c2, k1, k2, k3⟩ := k.name i c1 h1
      exact ⟨c2, k1, k2.trans h2, fun j => (k3 j).elim (fun e => (h3 j).imp (fun f => e.trans f) (fun f => ⟨f.1, e.trans f.2⟩)) .inr⟩⟩
theorem SpW.of_below (b : Below w.heap.size w w') : SpW lo hi m w w' :=
  ⟨b.os, b.tape, b.output, b.size, fun k o h _ => (b.block k (lt_of_some h)).trans h, fun k c h => ⟨c, (b.block k (lt_of_some h)).trans h, rfl, fun _ => .inl rfl⟩, fun k c h => ⟨c, (b.block k (lt_of_some h)).trans h, rfl, fun _ => .inl rfl⟩⟩
theorem SpW.below (h : SpW lo hi m w w') (hB : lo ≤ w.heap.size) : Below lo w w' :=
  ⟨h.os, h.tape, h.output, h.size, fun k hk => by
    have hl : k < w.heap.size := Nat.lt_of_lt_of_le hk hB
    have e : w.heap[k]? = some w.heap[k] := Array.getElem?_eq_getElem hl
    rw [e]; exact h.block k _ e (.inl hk)⟩
/-- A unit is written. -/
theorem SpW.set_unit {b : Nat} {c : Array Value} (hb : w.heap[b]? = some (.cells c 45 (0, 0))) (h1 : lo ≤ b) (h2 : b < hi) (j : Nat) : SpW lo hi m w (w.setCell ⟨b, j, none⟩ (.int .u16 m)) := by
  have hne : ∀ (k : Nat) o, w.heap[k]? = some o → k ≠ b → (w.setCell ⟨b, j, none⟩ (.int .u16 m)).heap[k]? = some o := fun k o hk hkb => set_other hk hkb _
  have hset := set_blk hb j (.int .u16 m)
  refine ⟨rfl, rfl, rfl, by simp, fun k o hk ho => ?_, fun k c1 hk => ?_, fun k c1 hk => ?_⟩
  · by_cases e : k = b
    · subst e
      rw [hb] at hk
      cases hk
      rcases ho with ho | ho | ho
      · omega
      · omega
      · exact absurd rfl ho.1
    · exact hne k o hk e
  · by_cases e : k = b
    · subst e
      rw [hb] at hk
      cases hk
      refine ⟨_, hset, by simp, fun i => ?_⟩
      rw [Array.getElem?_setIfInBounds]
      by_cases e2 : j = i
      · subst e2
        by_cases e3 : j < c.size
        · right; simp [e3]
        · left; simp [e3]
      · left; rw [if_neg e2]
    · exact ⟨c1, hne k _ hk e, rfl, fun _ => .inl rfl⟩
  · by_cases e : k = b
    · subst e; rw [hb] at hk; cases hk
    · exact ⟨c1, hne k _ hk e, rfl, fun _ => .inl rfl⟩
/-- A name is written. -/
theorem SpW.set_name {b : Nat} {c : Array Value} (hb : w.heap[b]? = some (.cells c 72 (0, 0))) (h1 : lo ≤ b) (h2 : b < hi) (j : Nat) : SpW lo hi m w (w.setCell ⟨b, j * 2, none⟩ (.string spName)) := by
  have hne : ∀ (k : Nat) o, w.heap[k]? = some o → k ≠ b → (w.setCell ⟨b, j * 2, none⟩ (.string spName)).heap[k]? = some o := fun k o hk hkb => set_other hk hkb _
  have hset := set_blk hb (j * 2) (.string spName)
  refine ⟨rfl, rfl, rfl, by simp, fun k o hk ho => ?_, fun k c1 hk => ?_, fun k c1 hk => ?_⟩
  · by_cases e : k = b
    · subst e
      rw [hb] at hk
      cases hk
      rcases ho with ho | ho | ho
      · omega
      · omega
      · exact absurd rfl ho.2
    · exact hne k o hk e
  · by_cases e : k = b
    · subst e; rw [hb] at hk; cases hk
    · exact ⟨c1, hne k _ hk e, rfl, fun _ => .inl rfl⟩
  · by_cases e : k = b
    · subst e
      rw [hb] at hk
      cases hk
      refine ⟨_, hset, by simp, fun i => ?_⟩
      rw [Array.getElem?_setIfInBounds]
      by_cases e2 : j * 2 = i
      · subst e2
        by_cases e3 : j * 2 < c.size
        · right; exact ⟨by omega, by simp [e3]⟩
        · left; simp [e3]
      · left; rw [if_neg e2]
    · exact ⟨c1, hne k _ hk e, rfl, fun _ => .inl rfl⟩
/-- A row that lies elsewhere. -/
theorem SpW.row {base : Nat} {e : TypeId} {size : Nat} {v : Value} {n : Nat} {xs : List Value} (h : SpW lo hi m w w') (ho : w.ownsRow base e size v n xs) (hb : hi ≤ base) : w'.ownsRow base e size v n xs := by
  refine ⟨ho.1, ?_⟩
  rcases ho.2 with hn | ⟨g, cap, cur, rfl, hbg, hg, rest⟩
  · exact .inl hn
  · exact .inr ⟨g, cap, cur, rfl, hbg, h.block g _ hg (.inr (.inl (by omega))), rest⟩
theorem SpW.clip {B : Nat} {a : Option Addr} {us : List Nat} (h : SpW lo hi m w w') (hc : Clip16 B w a us) (hb : hi ≤ B) : Clip16 B w' a us := ⟨by obtain ⟨cap, hr⟩ := hc.row; exact ⟨cap, h.row hr hb⟩, hc.bnd, hc.len⟩
theorem SpW.fresh {B : Nat} {N : Nd} (h : SpW lo hi m w w') (hf : Fresh B w N) (hb : hi ≤ B) : Fresh B w' N :=
  ⟨h.clip hf.data hb, hf.dc, ⟨by obtain ⟨cap, hr⟩ := hf.attrs.row; exact ⟨cap, h.row hr hb⟩, fun x hx => ⟨h.clip (hf.attrs.val x hx).1 hb, (hf.attrs.val x hx).2⟩, hf.attrs.nam⟩, hf.ac, hf.nam, hf.len⟩
/-- A unit that has become m stays it. -/
theorem SpW.keep_unit (h : SpW lo hi m w w') {b j : Nat} {c : Array Value} (hb : w.heap[b]? = some (.cells c 45 (0, 0))) (hc : w.cell? ⟨b, j, none⟩ = some (.int .u16 m)) : w'.cell? ⟨b, j, none⟩ = some (.int .u16 m) := by
  obtain ⟨c', h1, h2, h3⟩ := h.unit b c hb
  rw [cell_of_row w b j c 45 (0, 0) hb] at hc
  rw [cell_of_row w' b j c' 45 (0, 0) h1]
  rcases h3 j with e | e
  · rw [e]; exact hc
  · exact e
theorem SpW.keep_name (h : SpW lo hi m w w') {b j : Nat} {c : Array Value} (hb : w.heap[b]? = some (.cells c 72 (0, 0))) (hc : w.cell? ⟨b, j, none⟩ = some (.string spName)) : w'.cell? ⟨b, j, none⟩ = some (.string spName) := by
  obtain ⟨c', h1, h2, h3⟩ := h.name b c hb
  rw [cell_of_row w b j c 72 (0, 0) hb] at hc
  rw [cell_of_row w' b j c' 72 (0, 0) h1]
  rcases h3 j with e | e
  · rw [e]; exact hc
  · exact e.2
/-- A value's slice stands. -/
theorem SpW.keep_odd (h : SpW lo hi m w w') {b j : Nat} {c : Array Value} {v : Value} (hb : w.heap[b]? = some (.cells c 72 (0, 0))) (hj : j % 2 = 1) (hc : w.cell? ⟨b, j, none⟩ = some v) : w'.cell? ⟨b, j, none⟩ = some v := by
  obtain ⟨c', h1, h2, h3⟩ := h.name b c hb
  rw [cell_of_row w b j c 72 (0, 0) hb] at hc
  rw [cell_of_row w' b j c' 72 (0, 0) h1]
  rcases h3 j with e | e
  · rw [e]; exact hc
  · omega
end
end Go.Proofs.Ytelhnaphkbpakaa

namespace Go.Proofs.Ytelhnaphkbpakaa
open Go.RowKit
set_option linter.unusedVariables false
set_option maxRecDepth 100000

theorem row_blk {w : World} {base : Nat} {e : TypeId} {size : Nat} {a : Option Addr} {n cap m : Nat} {xs : List Value} (h : w.ownsRow base e size (.slice a n cap) m xs) (hm : 0 < m) :
    ∃ b cur, a = some ⟨b, 0, none⟩ ∧ base ≤ b ∧ b < w.heap.size ∧ w.heap[b]? = some (.cells cur e (0, 0)) ∧ m * size ≤ cur.size := by
  rcases h.2 with ⟨h1, h2⟩ | ⟨g, cap', cur, h1, h2, h3, h4, h5, h6, _⟩
  · omega
  · cases h1
    exact ⟨g, cur, rfl, h2, lt_of_some h3, h3, by rw [h6]; exact Nat.mul_le_mul_right _ h4⟩
/-- Where a fresh node's units, its attributes and their values lie. -/
theorem Fresh.blk_data {lo : Nat} {w : World} {N : Nd} (h : Fresh lo w N) (hp : 0 < N.data.length) : ∃ b cur, N.da = some ⟨b, 0, none⟩ ∧ lo ≤ b ∧ b < w.heap.size ∧ w.heap[b]? = some (.cells cur 45 (0, 0)) ∧ N.data.length ≤ cur.size := by
  obtain ⟨cap, hr⟩ := h.data.row
  obtain ⟨b, cur, h1, h2, h3, h4, h5⟩ := row_blk hr hp
  exact ⟨b, cur, h1, h2, h3, h4, by omega⟩
theorem Fresh.blk_attrs {lo : Nat} {w : World} {N : Nd} (h : Fresh lo w N) (hp : 0 < N.L.length) : ∃ b cur, N.aa = some ⟨b, 0, none⟩ ∧ lo ≤ b ∧ b < w.heap.size ∧ w.heap[b]? = some (.cells cur 72 (0, 0)) ∧ N.L.length * 2 ≤ cur.size ∧ ∀ (j : Nat) (u : Value), (cellsA N.L)[j]? = some u → w.cell? ⟨b, j, none⟩ = some u := by
  obtain ⟨cap, hr⟩ := h.attrs.row
  obtain ⟨b, cur, h1, h2, h3, h4, h5⟩ := row_blk hr hp
  refine ⟨b, cur, h1, h2, h3, h4, h5, fun j u hu => ?_⟩
  obtain ⟨b', e1, _, e3⟩ := row_src hr hu
  rw [h1] at e1
  cases e1
  rw [Nat.zero_add] at e3
  exact e3
theorem Fresh.blk_val {lo : Nat} {w : World} {N : Nd} (h : Fresh lo w N) {x : LA} (hx : x ∈ N.L) (hp : 0 < x.val.length) : ∃ b cur, x.va = some ⟨b, 0, none⟩ ∧ lo ≤ b ∧ b < w.heap.size ∧ w.heap[b]? = some (.cells cur 45 (0, 0)) ∧ x.val.length ≤ cur.size := by
  obtain ⟨cap, hr⟩ := (h.attrs.val x hx).1.row
  obtain ⟨b, cur, h1, h2, h3, h4, h5⟩ := row_blk hr hp
  exact ⟨b, cur, h1, h2, h3, h4, by omega⟩

/-- The units are m; of the first i attributes the names are 'spoilt' and the values m. -/
structure AllMi (w : World) (N : Nd) (m : Int) (i : Nat) : Prop where
  data : ∀ j, j < N.data.length → ∃ b, N.da = some ⟨b, 0, none⟩ ∧ w.cell? ⟨b, j, none⟩ = some (.int .u16 m)
  name : ∀ (a : Nat) (x : LA), a < i → N.L[a]? = some x → ∃ b, N.aa = some ⟨b, 0, none⟩ ∧ w.cell? ⟨b, a * 2, none⟩ = some (.string spName)
  val : ∀ (a : Nat) (x : LA), a < i → N.L[a]? = some x → ∀ k, k < x.val.length → ∃ b, x.va = some ⟨b, 0, none⟩ ∧ w.cell? ⟨b, k, none⟩ = some (.int .u16 m)
theorem AllMi.keep {lo : Nat} {w0 W wr wr' : World} {N : Nd} {m : Int} {i : Nat} (hf : Fresh lo w0 N) (hb : Below w0.heap.size w0 W) (h1 : SpW lo w0.heap.size m W wr) (h2 : SpW lo w0.heap.size m wr wr') (h : AllMi wr N m i) : AllMi wr' N m i := by
  refine ⟨fun j hj => ?_, fun a x ha hx => ?_, fun a x ha hx k hk => ?_⟩
  · obtain ⟨b, e1, e2⟩ := h.data j hj
    obtain ⟨b', cur, f1, _, f3, f4, _⟩ := hf.blk_data (by omega)
    rw [e1] at f1; cases f1
    obtain ⟨c', g1, _⟩ := h1.unit b cur ((hb.block b f3).trans f4)
    exact ⟨b, e1, h2.keep_unit g1 e2⟩
  · obtain ⟨b, e1, e2⟩ := h.name a x ha hx
    obtain ⟨b', cur, f1, _, f3, f4, _⟩ := hf.blk_attrs (by have := (List.getElem?_eq_some_iff.1 hx).1; omega)
    rw [e1] at f1; cases f1
    obtain ⟨c', g1, _⟩ := h1.name b cur ((hb.block b f3).trans f4)
    exact ⟨b, e1, h2.keep_name g1 e2⟩
  · obtain ⟨b, e1, e2⟩ := h.val a x ha hx k hk
    obtain ⟨b', cur, f1, _, f3, f4, _⟩ := hf.blk_val (List.mem_of_getElem? hx) (by omega)
    rw [e1] at f1; cases f1
    obtain ⟨c', g1, _⟩ := h1.unit b cur ((hb.block b f3).trans f4)
    exact ⟨b, e1, h2.keep_unit g1 e2⟩
/-- A unit of a row of the node's can be written. -/
theorem unit_cell {lo hi : Nat} {w0 W wr : World} {m : Int} {b : Nat} {cur : Array Value} (hb : Below w0.heap.size w0 W) (h1 : SpW lo hi m W wr) (hlt : b < w0.heap.size) (hc : w0.heap[b]? = some (.cells cur 45 (0, 0))) {j n : Nat} (hj : j < n) (hn : n ≤ cur.size) :
    ∃ c u, wr.heap[b]? = some (.cells c 45 (0, 0)) ∧ wr.cell? ⟨b, j, none⟩ = some u ∧ wr.frozen? ⟨b, j, none⟩ = false := by
  obtain ⟨c', g1, g2, _⟩ := h1.unit b cur ((hb.block b hlt).trans hc)
  obtain ⟨u, hu⟩ : ∃ u, c'[j]? = some u := ⟨_, Array.getElem?_eq_getElem (by omega)⟩
  exact ⟨c', u, g1, cell_blk g1 j hu, free_blk g1 j⟩
theorem SpW.grown {lo hi : Nat} {m : Int} {V w w' : World} (h : SpW lo hi m V w) {row : Option Nat} (hg : w.grownBy w' row) (hr : ∀ k, row = some k → V.heap.size ≤ k) : SpW lo hi m V w' := by
  have hk : ∀ (k : Nat) o, w.heap[k]? = some o → k < V.heap.size → w'.heap[k]? = some o := fun k o ho hk => (hg.block k (lt_of_some ho) (fun e => by have := hr k e.symm; omega)).trans ho
  refine ⟨hg.os.trans h.os, hg.tape.trans h.tape, hg.output.trans h.output, Nat.le_trans h.size hg.size, fun k o ho hc => hk k o (h.block k o ho hc) (lt_of_some ho), fun k c hc => ?_, fun k c hc => ?_⟩
  · obtain ⟨c', h1, h2, h3⟩ := h.unit k c hc
    exact ⟨c', hk k _ h1 (lt_of_some hc), h2, h3⟩
  · obtain ⟨c', h1, h2, h3⟩ := h.name k c hc
    exact ⟨c', hk k _ h1 (lt_of_some hc), h2, h3⟩
theorem AllMi.grown {lo : Nat} {w0 w w' : World} {N : Nd} {m : Int} {i : Nat} (hf : Fresh lo w0 N) (h : AllMi w N m i) (hw : w0.heap.size ≤ w.heap.size) {row : Option Nat} (hg : w.grownBy w' row) (hr : ∀ k, row = some k → w0.heap.size ≤ k) : AllMi w' N m i := by
  have hc : ∀ (b j : Nat), b < w0.heap.size → w'.cell? ⟨b, j, none⟩ = w.cell? ⟨b, j, none⟩ := fun b j hb => by
    have hB : Below w0.heap.size w w' := grown_below hg hr hw
    exact hB.cell (p := ⟨b, j, none⟩) hb
  refine ⟨fun j hj => ?_, fun a x ha hx => ?_, fun a x ha hx k hk => ?_⟩
  · obtain ⟨b, e1, e2⟩ := h.data j hj
    obtain ⟨b', cur, f1, _, f3, f4, _⟩ := hf.blk_data (by omega)
    rw [e1] at f1; cases f1
    exact ⟨b, e1, (hc b j f3).trans e2⟩
  · obtain ⟨b, e1, e2⟩ := h.name a x ha hx
    obtain ⟨b', cur, f1, _, f3, f4, _⟩ := hf.blk_attrs (by have := (List.getElem?_eq_some_iff.1 hx).1; omega)
    rw [e1] at f1; cases f1
    exact ⟨b, e1, (hc b _ f3).trans e2⟩
  · obtain ⟨b, e1, e2⟩ := h.val a x ha hx k hk
    obtain ⟨b', cur, f1, _, f3, f4, _⟩ := hf.blk_val (List.mem_of_getElem? hx) (by omega)
    rw [e1] at f1; cases f1
    exact ⟨b, e1, (hc b _ f3).trans e2⟩
theorem vdone_grown {lo : Nat} {w0 w w' : World} {N : Nd} {m : Int} (hf : Fresh lo w0 N) {x : LA} (hx : x ∈ N.L) {n : Nat} (hn : n ≤ x.val.length) (h : ∀ j, j < n → ∃ b, x.va = some ⟨b, 0, none⟩ ∧ w.cell? ⟨b, j, none⟩ = some (.int .u16 m)) (hw : w0.heap.size ≤ w.heap.size) {row : Option Nat} (hg : w.grownBy w' row) (hr : ∀ k, row = some k → w0.heap.size ≤ k) :
    ∀ j, j < n → ∃ b, x.va = some ⟨b, 0, none⟩ ∧ w'.cell? ⟨b, j, none⟩ = some (.int .u16 m) := fun j hj => by
  obtain ⟨b, e1, e2⟩ := h j hj
  obtain ⟨b', cur, f1, _, f3, f4, _⟩ := hf.blk_val hx (by omega)
  rw [e1] at f1; cases f1
  have hB : Below w0.heap.size w w' := grown_below hg hr hw
  exact ⟨b, e1, (hB.cell (p := ⟨b, j, none⟩) f3).trans e2⟩
/-- The cells of a row of units as they stand. -/
theorem unit_olds {lo hi : Nat} {w0 W wr w2 : World} {m : Int} {a : Option Addr} {n : Nat} (hb : Below w0.heap.size w0 W) (h1 : SpW lo hi m W wr) (hbl : 0 < n → ∃ b cur, a = some ⟨b, 0, none⟩ ∧ b < w0.heap.size ∧ w0.heap[b]? = some (.cells cur 45 (0, 0)) ∧ n ≤ cur.size) (h2 : Below wr.heap.size wr w2) :
    ∃ olds : List Value, olds.length = n * 1 ∧ (∀ (j : Nat) (u : Value), olds[j]? = some u → ∃ b, a = some b ∧ w2.cell? (b.add j) = some u) ∧ (a = none → n = 0) := by
  rcases Nat.eq_zero_or_pos n with h0 | h0
  · subst h0
    exact ⟨[], rfl, fun j u h => by simp at h, fun _ => rfl⟩
  · obtain ⟨b, cur, rfl, h3, h4, h5⟩ := hbl h0
    obtain ⟨c', g1, g2, _⟩ := h1.unit b cur ((hb.block b h3).trans h4)
    have g3 := (h2.block b (lt_of_some g1)).trans g1
    refine ⟨c'.toList.take n, by rw [List.length_take, Array.length_toList]; omega, fun j u hu => ?_, fun h => by cases h⟩
    have hj : j < n := by have := (List.getElem?_eq_some_iff.1 hu).1; rw [List.length_take] at this; omega
    rw [List.getElem?_take, if_pos hj, Array.getElem?_toList] at hu
    refine ⟨_, rfl, ?_⟩
    rw [show (⟨b, 0, none⟩ : Addr).add j = ⟨b, 0 + j, none⟩ by unfold Addr.add; split <;> simp_all, Nat.zero_add]
    exact cell_blk g3 j hu
theorem name_cell {lo hi : Nat} {w0 W wr : World} {m : Int} {b : Nat} {cur : Array Value} (hb : Below w0.heap.size w0 W) (h1 : SpW lo hi m W wr) (hlt : b < w0.heap.size) (hc : w0.heap[b]? = some (.cells cur 72 (0, 0))) {j : Nat} (hj : j < cur.size) :
    ∃ c u, wr.heap[b]? = some (.cells c 72 (0, 0)) ∧ wr.cell? ⟨b, j, none⟩ = some u ∧ wr.frozen? ⟨b, j, none⟩ = false := by
  obtain ⟨c', g1, g2, _⟩ := h1.name b cur ((hb.block b hlt).trans hc)
  obtain ⟨u, hu⟩ : ∃ u, c'[j]? = some u := ⟨_, Array.getElem?_eq_getElem (by omega)⟩
  exact ⟨c', u, g1, cell_blk g1 j hu, free_blk g1 j⟩
theorem vdone_keep {lo : Nat} {w0 W wr wr' : World} {N : Nd} {m : Int} (hf : Fresh lo w0 N) (hb : Below w0.heap.size w0 W) {x : LA} (hx : x ∈ N.L) {n : Nat} (hn : n ≤ x.val.length) (h1 : SpW lo w0.heap.size m W wr) (h2 : SpW lo w0.heap.size m wr wr')
    (h : ∀ j, j < n → ∃ b, x.va = some ⟨b, 0, none⟩ ∧ wr.cell? ⟨b, j, none⟩ = some (.int .u16 m)) : ∀ j, j < n → ∃ b, x.va = some ⟨b, 0, none⟩ ∧ wr'.cell? ⟨b, j, none⟩ = some (.int .u16 m) := fun j hj => by
  obtain ⟨b, e1, e2⟩ := h j hj
  obtain ⟨b', cur, f1, _, f3, f4, _⟩ := hf.blk_val hx (by omega)
  rw [e1] at f1; cases f1
  obtain ⟨c', g1, _⟩ := h1.unit b cur ((hb.block b f3).trans f4)
  exact ⟨b, e1, h2.keep_unit g1 e2⟩
theorem name_olds {lo hi : Nat} {w0 W wr w2 : World} {m : Int} {a : Option Addr} {n : Nat} (hb : Below w0.heap.size w0 W) (h1 : SpW lo hi m W wr) (hbl : 0 < n → ∃ b cur, a = some ⟨b, 0, none⟩ ∧ b < w0.heap.size ∧ w0.heap[b]? = some (.cells cur 72 (0, 0)) ∧ n * 2 ≤ cur.size) (h2 : Below wr.heap.size wr w2) :
    ∃ olds : List Value, olds.length = n * 2 ∧ (∀ (j : Nat) (u : Value), olds[j]? = some u → ∃ b, a = some b ∧ w2.cell? (b.add j) = some u) ∧ (a = none → n = 0) := by
  rcases Nat.eq_zero_or_pos n with h0 | h0
  · subst h0
    exact ⟨[], rfl, fun j u h => by simp at h, fun _ => rfl⟩
  · obtain ⟨b, cur, rfl, h3, h4, h5⟩ := hbl h0
    obtain ⟨c', g1, g2, _⟩ := h1.name b cur ((hb.block b h3).trans h4)
    have g3 := (h2.block b (lt_of_some g1)).trans g1
    refine ⟨c'.toList.take (n * 2), by rw [List.length_take, Array.length_toList]; omega, fun j u hu => ?_, fun h => by cases h⟩
    have hj : j < n * 2 := by have := (List.getElem?_eq_some_iff.1 hu).1; rw [List.length_take] at this; omega
    rw [List.getElem?_take, if_pos hj, Array.getElem?_toList] at hu
    refine ⟨_, rfl, ?_⟩
    rw [show (⟨b, 0, none⟩ : Addr).add j = ⟨b, 0 + j, none⟩ by unfold Addr.add; split <;> simp_all, Nat.zero_add]
    exact cell_blk g3 j hu
def grName : ByteArray := ⟨#[103, 114, 111, 119, 110]⟩
end Go.Proofs.Ytelhnaphkbpakaa

