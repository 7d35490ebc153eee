/- at: the place of an attribute; Attr: its value. Rows of units compared: slices.Equal; two attributes compared. The order of attributes, as data: total, transitive; equal where it tells nought. No program. Clone: the same node in memory of the call's own. Units lent with marks behind them (units), kept (keptUnits); SameUnits. Bad: its iterator tells the pieces that are none. -/
import Derived.Lib.Bytealg
import Derived.Deep.RegionHeld3
import Derived.Deep.DeepCutAuto
import Derived.Laws.OwnMore
import Derived.Deep.Onto
import Derived.Conc.MuLone
import Derived.Test.YtelhnaphkbpakaaMc7
namespace Go.Proofs.Ytelhnaphkbpakaa
open Go.RowKit
set_option linter.unusedVariables false
set_option maxRecDepth 100000

theorem at1_calls (w : World) (nm name : ByteArray) (va : Option Addr) (vn vc b : Nat) (hb : w.heap[b]? = some (.cells #[.string name] 9 (0, 0))) :
    Calls Try.prog 95 #[.agg #[.string nm, .slice va vn vc], .pointer (some ⟨b, 0, none⟩)] w fun e w' => e = .returned (.bool (nm.toList == name.toList)) ∧ Below w.heap.size w w' := by
  have c0 := cell_blk hb 0 rfl
  have l0 := lt_of_some hb
  simp at c0
  go_enter Try.func95, Try.ntmps95
  go_wp2_with fail
  go_ret
  exact ⟨rfl, (by repeat (first | exact Below.refl _ _ | assumption | refine Below.drew ?_ | refine below_drewN ?_ _ | refine Below.alloc ?_ (by simp <;> omega) _ | refine Below.setCell ?_ (by simp <;> omega) _ | (apply bl_trans; assumption; (simp <;> omega))))⟩

def isNm (name : ByteArray) (x : LA) : Bool := x.name.toList == name.toList
def atD (L : List LA) (name : ByteArray) : Int := if L.findIdx (isNm name) < L.length then (L.findIdx (isNm name) : Int) else -1

set_option maxHeartbeats 4000000 in
theorem index_calls (w : World) {a : Option Addr} {L : List LA} (ac : Nat) (hA : SlA w a L) (name : ByteArray) (b : Nat) (hb : w.heap[b]? = some (.cells #[.string name] 9 (0, 0))) :
    Calls Try.prog 94 #[.slice a L.length ac, .func (.func 95) #[] #[.pointer (some ⟨b, 0, none⟩)]] w fun e w' => e = .returned (.int .i64 (atD L name)) ∧ Below w.heap.size w w' := by
  obtain ⟨n, en⟩ : ∃ n, n = L.length := ⟨_, rfl⟩
  have hl := hA.len
  rw [← en] at hl ⊢
  have HN := Lib.hid en
  have HA := Lib.hid hA
  clear hA en
  go_enter Try.func94, Try.ntmps94
  go_wp2_with fail
  go_loopw [8] (fun v wr => ∃ (i : Nat), v = .int .i64 (i : Nat) ∧ i ≤ n ∧ (∀ (j : Nat) (x : LA), j < i → L[j]? = some x → isNm name x = false) ∧ Below w.heap.size w wr) (fun v _ => n - (intOf v).toNat)
  case atStart => exact ⟨0, rfl, Nat.zero_le _, fun _ _ h => absurd h (Nat.not_lt_zero _), Below.refl _ _⟩
  case round =>
    obtain ⟨i, rfl, hi, hno, hbel⟩ := hrel
    by_cases hlt : i < n
    · obtain ⟨x, hx⟩ : ∃ x, L[i]? = some x := ⟨_, List.getElem?_eq_getElem (by rw [← HN.out]; exact hlt)⟩
      obtain ⟨bb, off, rfl, hbl, c1, c2⟩ := (HA.out.below hbel).get hx
      have p1 : (i : Int) < (n : Int) := by omega
      have p2 : (0 : Int) ≤ (i : Int) := by omega
      have hb2 := (hbel.block b (lt_of_some hb)).trans hb
      have hc := at1_calls wr x.name name x.va x.val.length x.vc b hb2
      have hs := hbel.size
      cases hm : isNm name x with
      | true =>
        have hm2 : (x.name.toList == name.toList) = true := hm
        rw [hm2] at hc
        have hat : atD L name = (i : Int) := by
          have h1 : L.findIdx (isNm name) = i := by
            have hil : i < L.length := by rw [← HN.out]; exact hlt
            rw [List.findIdx_eq hil]
            have hxe : L[i] = x := by rw [List.getElem?_eq_getElem hil] at hx; exact Option.some.inj hx
            refine ⟨by rw [hxe]; exact hm, fun j hj => ?_⟩
            exact hno j _ hj (List.getElem?_eq_getElem (by omega))
          unfold atD
          rw [h1, if_pos (by rw [← HN.out]; exact hlt)]
        have HAT := Lib.hid hat
        have HC := Lib.hid hc
        clear hc hx hno hm hm2 hat hb2
        go_wp2_with (go_at_call 95; refine HC.out.mono ?_; rintro e w2 ⟨rfl, b2⟩)
        go_ret
        exact ⟨by rw [HAT.out]; rfl, hbel.trans (b2.mono hs)⟩
      | false =>
        have hm2 : (x.name.toList == name.toList) = false := hm
        rw [hm2] at hc
        have HC := Lib.hid hc
        have HNO := Lib.hid hno
        have HX := Lib.hid (And.intro hx hm)
        clear hc hx hno hm hm2 hb2
        go_wp2_with (go_at_call 95; refine HC.out.mono ?_; rintro e w2 ⟨rfl, b2⟩)
        go_roundw
        case rel =>
          refine ⟨i + 1, by go_num, hlt, fun j y hj hy => ?_, hbel.trans (b2.mono hs)⟩
          rcases Nat.lt_or_ge j i with h | h
          · exact HNO.out j y h hy
          · obtain rfl : j = i := by omega
            rw [HX.out.1] at hy
            cases hy
            exact HX.out.2
        case measure => simp [intOf]; omega
    · obtain rfl : i = n := by omega
      have p1 : ¬ (i : Int) < (i : Int) := by omega
      have hat : atD L name = -1 := by
        unfold atD
        rw [if_neg]
        intro h
        have h1 := List.findIdx_getElem (w := h)
        rw [hno _ _ (by rw [HN.out]; exact h) (List.getElem?_eq_getElem h)] at h1
        exact absurd h1 (by simp)
      have HAT := Lib.hid hat
      clear hno hat hlt
      go_wp2_with fail
      go_ret
      exact ⟨by rw [HAT.out]; rfl, hbel⟩

set_option maxHeartbeats 4000000 in
theorem at_calls (w : World) (N : Nd) (h : NdIn w N) (name : ByteArray) :
    Calls Try.prog 71 #[N.v, .string name] w fun e w' => e = .returned (.int .i64 (atD N.L name)) ∧ Below w.heap.size w w' := by
  have hA := h.attrs
  obtain ⟨k, nm, da, dc, data, aa, ac, L, sl, ge⟩ := N
  simp only [Nd.v, Nd.cells] at *
  have hb0 : Below w.heap.size w ((w.alloc (.cells #[.int .i64 k, .string nm, .slice da data.length dc, .slice aa L.length ac, .int .u32 sl, .int .u32 ge] 30)).alloc (.cells #[.string name] 9)) := ((Below.refl _ w).alloc (Nat.le_refl _) _).alloc (by simp) _
  have hx : ((w.alloc (.cells #[.int .i64 k, .string nm, .slice da data.length dc, .slice aa L.length ac, .int .u32 sl, .int .u32 ge] 30)).alloc (.cells #[.string name] 9)).heap[w.heap.size + 1]? = some (.cells #[.string name] 9 (0, 0)) := by
    have := Go.heap_alloc_new (w.alloc (.cells #[.int .i64 k, .string nm, .slice da data.length dc, .slice aa L.length ac, .int .u32 sl, .int .u32 ge] 30)) (.cells #[.string name] 9); rwa [World.size_alloc] at this
  have hi := index_calls _ ac (hA.below hb0) name _ hx
  have HI := Lib.hid hi
  have HB := Lib.hid hb0
  clear hi hx hb0 h hA
  go_enter Try.func71, Try.ntmps71
  go_wp2_with (go_at_call 94; refine HI.out.mono ?_; rintro e w2 ⟨rfl, b2⟩)
  go_ret
  exact ⟨rfl, HB.out.trans (b2.mono (by simp; omega))⟩
end Go.Proofs.Ytelhnaphkbpakaa

namespace Go.Proofs.Ytelhnaphkbpakaa
open Go.RowKit
set_option linter.unusedVariables false
set_option maxRecDepth 100000

set_option maxHeartbeats 4000000 in
theorem eq16_calls {w : World} {a b : Option Addr} {us vs : List Nat} (ca cb : Nat) (ha : Sl16 w a us) (hb : Sl16 w b vs) :
    Calls Try.prog 52 #[.slice a us.length ca, .slice b vs.length cb] w fun e w' => e = .returned (.bool (decide (us = vs))) ∧ ∃ k, w.drewN k = w' := by
  obtain ⟨n, en⟩ : ∃ n, n = us.length := ⟨_, rfl⟩
  obtain ⟨m, em⟩ : ∃ m, m = vs.length := ⟨_, rfl⟩
  have hl1 := ha.len
  have hl2 := hb.len
  rw [← en] at hl1 ⊢
  rw [← em] at hl2 ⊢
  have HN := Lib.hid en
  have HM := Lib.hid em
  have HA := Lib.hid ha
  have HB := Lib.hid hb
  clear en em ha hb
  by_cases hnm : n = m
  · subst hnm
    obtain ⟨r, hr⟩ : ∃ r, r = decide (us = vs) := ⟨_, rfl⟩
    rw [← hr]
    have HR := Lib.hid hr
    clear hr
    go_enter Try.func52, Try.ntmps52
    go_wp2_with fail
    go_loopw [13] (fun v wr => ∃ i k : Nat, v = .int .i64 (i : Nat) ∧ i ≤ n ∧ (∀ j, j < i → us[j]? = vs[j]?) ∧ wr = w.drewN k) (fun v _ => n - (intOf v).toNat)
    case atStart => exact ⟨0, 0, rfl, Nat.zero_le _, fun j hj => absurd hj (by omega), rfl⟩
    case round =>
      obtain ⟨i, k, rfl, hi, heq, rfl⟩ := hrel
      have HE := Lib.hid heq
      clear heq
      by_cases h1 : i < n
      · obtain ⟨u, hu⟩ : ∃ u, us[i]? = some u := ⟨_, List.getElem?_eq_getElem (by rw [← HN.out]; exact h1)⟩
        obtain ⟨hu1, b1, o1, rfl, hb1, c1⟩ := HA.out.at_ i u hu
        obtain ⟨v, hv⟩ : ∃ v, vs[i]? = some v := ⟨_, List.getElem?_eq_getElem (by rw [← HM.out]; exact h1)⟩
        obtain ⟨hv1, b2, o2, rfl, hb2, c2⟩ := HB.out.at_ i v hv
        have HU := Lib.hid hu
        have HV := Lib.hid hv
        clear hu hv
        have p0 : (0 : Int) ≤ (i : Int) := by omega
        have p1 : (i : Int) < (n : Int) := by omega
        by_cases hne : u = v
        · subst hne
          have q : ((u : Int) != (u : Int)) = false := by simp
          go_wp2_with fail
          go_quiet (fail)
          go_wp2
          go_roundw
          case rel => exact ⟨i + 1, _, by go_num, h1, fun j hj => by
              rcases Nat.lt_or_ge j i with h | h
              · exact HE.out j h
              · obtain rfl : j = i := by omega
                rw [HU.out, HV.out], rfl⟩
          case measure => simp [intOf]; omega
        · have hrf : r = false := by
            rw [HR.out]
            refine decide_eq_false (fun e => hne ?_)
            have := HU.out
            rw [e, HV.out] at this
            exact (Option.some.inj this).symm
          have q : ((u : Int) != (v : Int)) = true := by simp; omega
          have HRF := Lib.hid hrf
          clear hrf
          go_wp2_with fail
          go_quiet (fail)
          go_wp2
          go_ret
          exact ⟨by rw [HRF.out]; rfl, _, by rw [World.drewN_drewN]⟩
      · obtain rfl : i = n := by omega
        have hrf : r = true := by
          rw [HR.out]
          refine decide_eq_true (List.ext_getElem? (fun j => ?_))
          rcases Nat.lt_or_ge j i with h | h
          · exact HE.out j h
          · rw [List.getElem?_eq_none (by rw [← HN.out]; exact h), List.getElem?_eq_none (by rw [← HM.out]; exact h)]
        have HRF := Lib.hid hrf
        have p1 : ¬ (i : Int) < (i : Int) := by omega
        clear hrf h1
        go_wp2_with fail
        go_ret
        exact ⟨by rw [HRF.out]; rfl, _, rfl⟩
  · have hne : us ≠ vs := fun e => hnm (by rw [HN.out, HM.out, e])
    rw [decide_eq_false hne]
    have q : ((n : Int) != (m : Int)) = true := by simp; omega
    clear hne
    go_enter Try.func52, Try.ntmps52
    go_wp2
    go_ret
    exact ⟨rfl, 0, rfl⟩

/-- Two attributes: the same name, the same value. -/
def eqAt (x y : LA) : Bool := x.name.toList == y.name.toList && decide (x.val = y.val)
set_option maxHeartbeats 4000000 in
theorem eqAt_calls (w : World) (x y : LA) (hx : Sl16 w x.va x.val) (hy : Sl16 w y.va y.val) :
    Calls Try.prog 61 #[x.v, y.v] w fun e w' => e = .returned (.bool (eqAt x y)) ∧ Below w.heap.size w w' := by
  have hb : Below w.heap.size w ((w.alloc (.cells #[.string x.name, .slice x.va x.val.length x.vc] 72)).alloc (.cells #[.string y.name, .slice y.va y.val.length y.vc] 72)) := ((Below.refl _ w).alloc (Nat.le_refl _) _).alloc (by simp) _
  have he := eq16_calls x.vc y.vc (hx.below hb) (hy.below hb)
  obtain ⟨r, hr⟩ : ∃ r, r = eqAt x y := ⟨_, rfl⟩
  rw [← hr]
  unfold LA.v
  unfold eqAt at hr
  cases hn : (x.name.toList == y.name.toList) with
  | false =>
    rw [hn, Bool.false_and] at hr
    subst hr
    have HBB := Lib.hid hb
    clear he hb
    go_enter Try.func61, Try.ntmps61
    go_wp2
    go_ret
    exact ⟨rfl, HBB.out⟩
  | true =>
    rw [hn, Bool.true_and] at hr
    rw [← hr] at he
    have HE := Lib.hid he
    have HBB := Lib.hid hb
    clear he hb hr
    go_enter Try.func61, Try.ntmps61
    go_wp2_with (go_at_call 52; refine HE.out.mono ?_; rintro e w2 ⟨rfl, k, rfl⟩)
    go_ret
    exact ⟨by first | rfl | (cases r <;> rfl), HBB.out.trans (((FrT.refl [] _ _).drewN k).below (Nat.le_refl _) |>.mono (by simp; omega))⟩
end Go.Proofs.Ytelhnaphkbpakaa

namespace Go.Proofs.Ytelhnaphkbpakaa
open Go.RowKit
set_option linter.unusedVariables false
set_option maxRecDepth 100000

theorem c16_neg (a b : List Nat) : cmp16 a b = -cmp16 b a := by
  induction a generalizing b with
  | nil => cases b <;> rfl
  | cons x xs ih =>
    cases b with
    | nil => rfl
    | cons y ys =>
      simp only [cmp16]
      by_cases h : x = y
      · rw [if_pos h, if_pos h.symm]; exact ih ys
      · rw [if_neg h, if_neg (Ne.symm h)]
        by_cases h1 : x < y
        · rw [if_pos h1, if_neg (by omega)]
        · rw [if_neg h1, if_pos (by omega)]; rfl
theorem c16_trans {a b c : List Nat} (h1 : cmp16 a b ≤ 0) (h2 : cmp16 b c ≤ 0) : cmp16 a c ≤ 0 := by
  induction a generalizing b c with
  | nil => cases c <;> simp [cmp16]
  | cons x xs ih =>
    cases b with
    | nil => simp [cmp16] at h1
    | cons y ys =>
      cases c with
      | nil => simp [cmp16] at h2
      | cons z zs =>
        simp only [cmp16] at h1 h2 ⊢
        by_cases e1 : x = y
        · subst e1
          rw [if_pos rfl] at h1
          by_cases e2 : x = z
          · subst e2
            rw [if_pos rfl] at h2 ⊢
            exact ih h1 h2
          · rw [if_neg e2] at h2 ⊢
            exact h2
        · rw [if_neg e1] at h1
          have l1 : x < y := by
            by_cases k : x < y
            · exact k
            · rw [if_neg k] at h1; omega
          by_cases e2 : y = z
          · subst e2
            rw [if_neg e1, if_pos l1]; decide
          · rw [if_neg e2] at h2
            have l2 : y < z := by
              by_cases k : y < z
              · exact k
              · rw [if_neg k] at h2; omega
            rw [if_neg (by omega), if_pos (by omega)]; decide
def byN (s : ByteArray) : List Nat := s.data.toList.map UInt8.toNat
theorem byN_inj {a b : ByteArray} (h : byN a = byN b) : a = b := by
  cases a; cases b; congr 1
  refine Array.toList_inj.1 ?_
  exact (List.map_inj_right (fun x y e => UInt8.toNat_inj.1 e)).1 h
theorem cb_eq (a b : List UInt8) : Lib.compareBytes a b = cmp16 (a.map UInt8.toNat) (b.map UInt8.toNat) := by
  induction a generalizing b with
  | nil => cases b <;> rfl
  | cons x xs ih =>
    cases b with
    | nil => rfl
    | cons y ys =>
      simp only [Lib.compareBytes, List.map_cons, cmp16]
      by_cases h : x = y
      · subst h
        rw [if_neg (UInt8.lt_irrefl x), if_neg (UInt8.lt_irrefl x), if_pos rfl]; exact ih ys
      · have hn : x.toNat ≠ y.toNat := fun e => h (UInt8.toNat_inj.1 e)
        rw [if_neg hn]
        by_cases h1 : x < y
        · rw [if_pos h1, if_pos (UInt8.lt_iff_toNat_lt.1 h1)]
        · have h2 : ¬ x.toNat < y.toNat := fun k => h1 (UInt8.lt_iff_toNat_lt.2 k)
          have h3 : y < x := UInt8.lt_iff_toNat_lt.2 (by omega)
          rw [if_neg h1, if_pos h3, if_neg h2]
/-- The order of attributes: by name, then by value. -/
def cmpA (x y : ByteArray × List Nat) : Int := if cmp16 (byN x.1) (byN y.1) ≠ 0 then cmp16 (byN x.1) (byN y.1) else cmp16 x.2 y.2
theorem cmpA_neg (x y : ByteArray × List Nat) : cmpA x y = -cmpA y x := by
  unfold cmpA
  have h1 := c16_neg (byN x.1) (byN y.1)
  have h2 := c16_neg x.2 y.2
  by_cases h : cmp16 (byN y.1) (byN x.1) = 0
  · rw [if_neg (by omega), if_neg (by omega)]; exact h2
  · rw [if_pos (by omega), if_pos h]; exact h1
theorem cmpA_zero {x y : ByteArray × List Nat} : cmpA x y = 0 ↔ x = y := by
  unfold cmpA
  constructor
  · intro h
    split at h
    · rename_i k; exact absurd h k
    · rename_i k
      have e1 := byN_inj (cmp16_zero.1 (Decidable.not_not.1 k))
      exact Prod.ext e1 (cmp16_zero.1 h)
  · rintro rfl
    rw [if_neg (by rw [cmp16_zero.2 rfl]; simp), cmp16_zero.2 rfl]
theorem cmpA_trans {x y z : ByteArray × List Nat} (h1 : cmpA x y ≤ 0) (h2 : cmpA y z ≤ 0) : cmpA x z ≤ 0 := by
  unfold cmpA at *
  have t := c16_trans (a := byN x.1) (b := byN y.1) (c := byN z.1)
  have n1 := c16_neg (byN x.1) (byN y.1)
  have n2 := c16_neg (byN y.1) (byN z.1)
  have n3 := c16_neg (byN x.1) (byN z.1)
  have t' := c16_trans (a := byN z.1) (b := byN y.1) (c := byN x.1)
  have tl := c16_trans (a := byN z.1) (b := byN x.1) (c := byN y.1)
  have tr := c16_trans (a := byN y.1) (b := byN z.1) (c := byN x.1)
  split at h1
  · split at h2
    · split
      · exact t h1 h2
      · rename_i a b c
        have e : cmp16 (byN x.1) (byN z.1) = 0 := Decidable.not_not.1 c
        have e' := cmp16_zero.1 e
        rw [← e'] at h2
        omega
    · rename_i a b
      have e := cmp16_zero.1 (Decidable.not_not.1 b)
      rw [← e, if_pos a]; exact h1
  · rename_i a
    have e := cmp16_zero.1 (Decidable.not_not.1 a)
    rw [e]
    split at h2
    · rename_i b; rw [if_pos b]; exact h2
    · rename_i b; rw [if_neg b]; exact c16_trans h1 h2
end Go.Proofs.Ytelhnaphkbpakaa

namespace Go.Proofs.Ytelhnaphkbpakaa
open Go.RowKit
set_option linter.unusedVariables false
set_option maxRecDepth 100000

theorem info72 : (Try.prog.info? 72).map (fun i => (i.zero, i.size, i.bytes)) = some (some (.agg #[.string ⟨#[]⟩, .slice none 0 0]), 2, 40) := by kernel_rfl

/-- What a cell holds, told as a fact that a store keeps. -/
def Cl (w : World) (a : Addr) : Value := (w.cell? a).getD (.bool false)
theorem cl_of {w : World} {a : Addr} {v : Value} (h : w.cell? a = some v) : w.cell? a = some (Cl w a) := by unfold Cl; rw [h]; rfl
theorem cl_set {w : World} {p : Addr} {x : Value} (a : Addr) (v : Value) (h : w.cell? p = some x) : (w.setCell a v).cell? p = some (Cl (w.setCell a v) p) := by
  obtain ⟨y, hy⟩ := cell?_setCell_some (w := w) (p := a) (x := v) (q := p) (v := x) h
  exact cl_of hy

theorem set2_far {w : World} {g b : Nat} (hne : b ≠ g) (i j k : Nat) (u v : Value) : ((w.setCell ⟨g, i, none⟩ u).setCell ⟨g, j, none⟩ v).cell? ⟨b, k, none⟩ = w.cell? ⟨b, k, none⟩ :=
  (World.cell?_setCell_other _ _ _ _ (fun e => hne (congrArg Addr.block e).symm)).trans (World.cell?_setCell_other _ _ _ _ (fun e => hne (congrArg Addr.block e).symm))

theorem take_two {xs : List Value} {i : Nat} (h : i * 2 + 1 < xs.length) (a b : Value) : ((xs.set (i * 2) a).set (i * 2 + 1) b).take ((i + 1) * 2) = xs.take (i * 2) ++ [a, b] := by
  apply List.ext_getElem?
  intro j
  rw [List.getElem?_take, List.getElem?_append, List.length_take, Nat.min_eq_left (by omega)]
  by_cases h1 : j < i * 2
  · rw [if_pos (by omega), if_pos h1, List.getElem?_set_ne (by omega), List.getElem?_set_ne (by omega), List.getElem?_take, if_pos h1]
  · rw [if_neg h1]
    by_cases h2 : j = i * 2
    · subst h2
      rw [if_pos (by omega), List.getElem?_set_ne (by omega), List.getElem?_set_self (by omega)]
      simp
    · by_cases h3 : j = i * 2 + 1
      · subst h3
        rw [if_pos (by omega), List.getElem?_set_self (by rw [List.length_set]; exact h)]
        simp
      · rw [if_neg (by omega)]
        obtain ⟨r, hr⟩ : ∃ r, j - i * 2 = r + 2 := ⟨j - i * 2 - 2, by omega⟩
        rw [hr]
        simp

/-- A block of six cells is written anew. -/
theorem six_cells {w : World} {b : Nat} {u0 u1 u2 u3 u4 u5 : Value} {e : TypeId} (hb : w.heap[b]? = some (.cells #[u0, u1, u2, u3, u4, u5] e (0, 0))) (v0 v1 v2 v3 v4 v5 : Value) :
    ((((((w.setCell ⟨b, 0, none⟩ v0).setCell ⟨b, 1, none⟩ v1).setCell ⟨b, 2, none⟩ v2).setCell ⟨b, 3, none⟩ v3).setCell ⟨b, 4, none⟩ v4).setCell ⟨b, 5, none⟩ v5).heap[b]? = some (.cells #[v0, v1, v2, v3, v4, v5] e (0, 0)) ∧
    FrT [e] b w ((((((w.setCell ⟨b, 0, none⟩ v0).setCell ⟨b, 1, none⟩ v1).setCell ⟨b, 2, none⟩ v2).setCell ⟨b, 3, none⟩ v3).setCell ⟨b, 4, none⟩ v4).setCell ⟨b, 5, none⟩ v5) := by
  have h0 := set_blk hb 0 v0
  have h1 := set_blk h0 1 v1
  have h2 := set_blk h1 2 v2
  have h3 := set_blk h2 3 v3
  have h4 := set_blk h3 4 v4
  have h5 := set_blk h4 5 v5
  exact ⟨h5, ((((((FrT.refl _ _ _).set (a := ⟨b, 0, none⟩) (Nat.le_refl _) hb (by simp) _).set (a := ⟨b, 1, none⟩) (Nat.le_refl _) h0 (by simp) _).set (a := ⟨b, 2, none⟩) (Nat.le_refl _) h1 (by simp) _).set (a := ⟨b, 3, none⟩) (Nat.le_refl _) h2 (by simp) _).set (a := ⟨b, 4, none⟩) (Nat.le_refl _) h3 (by simp) _).set (a := ⟨b, 5, none⟩) (Nat.le_refl _) h4 (by simp) _⟩

set_option maxHeartbeats 4000000 in
theorem clone_calls (w : World) (N : Nd) (h : NdIn w N) (hB : N.Bd 1099511627776) :
    Calls Try.prog 20 #[N.v] w fun e w' => ∃ M : Nd, e = .returned M.v ∧ M.Same N ∧ Fresh w.heap.size w' M ∧ Below w.heap.size w w' := by
  obtain ⟨k, nm, da, dc, data, aa, ac, L, sl, ge⟩ := N
  obtain ⟨hd, ha, hn, hcap⟩ := h
  clear hcap
  obtain ⟨hb1, hb2, hb3⟩ := hB
  simp only [Nd.v, Nd.cells] at *
  obtain ⟨n, en⟩ : ∃ n, n = L.length := ⟨_, rfl⟩
  obtain ⟨m, em⟩ : ∃ m, m = data.length := ⟨_, rfl⟩
  rw [← en] at hb2 ⊢
  rw [← em] at hb1 ⊢
  have HN := Lib.hid en
  have HM := Lib.hid em
  have HD := Lib.hid hd
  have HA := Lib.hid ha
  clear en em hd ha
  go_enter Try.func20, Try.ntmps20
  go_wp2_with fail
  obtain ⟨P, hP⟩ : ∃ P, P = (w.alloc (.cells #[.int .i64 k, .string nm, .slice da m dc, .slice aa n ac, .int .u32 sl, .int .u32 ge] 30)).alloc (.cells #[.int .i64 0, .string ⟨#[]⟩, .slice none 0 0, .slice none 0 0, .int .u32 0, .int .u32 0] 30) := ⟨_, rfl⟩
  have hPb : Below w.heap.size w P := by rw [hP]; exact ((Below.refl _ w).alloc (Nat.le_refl _) _).alloc (by simp) _
  have hPs : P.heap.size = w.heap.size + 2 := by rw [hP]; simp
  have x0 : P.heap[w.heap.size]? = some (.cells #[.int .i64 k, .string nm, .slice da m dc, .slice aa n ac, .int .u32 sl, .int .u32 ge] 30 (0, 0)) := by rw [hP]; exact alloc_blk (Go.heap_alloc_new w _) _
  have x1 : P.heap[w.heap.size + 1]? = some (.cells #[.int .i64 0, .string ⟨#[]⟩, .slice none 0 0, .slice none 0 0, .int .u32 0, .int .u32 0] 30 (0, 0)) := by
    rw [hP]; have := Go.heap_alloc_new (w.alloc (.cells #[.int .i64 k, .string nm, .slice da m dc, .slice aa n ac, .int .u32 sl, .int .u32 ge] 30)) (.cells #[.int .i64 0, .string ⟨#[]⟩, .slice none 0 0, .slice none 0 0, .int .u32 0, .int .u32 0] 30); rwa [World.size_alloc] at this
  rw [← hP]
  rw [HM.out]
  refine (own_calls P dc (HD.out.below hPb) (by rw [← HM.out]; omega)).mono ?_
  rw [← HM.out]
  rintro e w1 ⟨a1, rfl, hc1, b1⟩
  have X0 := Lib.hid ((b1.block _ (by omega)).trans x0)
  have X1 := Lib.hid ((b1.block _ (by omega)).trans x1)
  have B1 := Lib.hid (hPb.trans (b1.mono (by omega)))
  have HC1 := Lib.hid hc1
  have hs1 := b1.size
  have hw1 : w.heap.size + 2 ≤ w1.heap.size := by omega
  have c0 := fun j u (h : (#[Value.int .i64 k, .string nm, .slice da m dc, .slice aa n ac, .int .u32 sl, .int .u32 ge] : Array Value)[j]? = some u) => cell_blk X0.out j h
  have c02 := c0 2 _ rfl
  have c03 := c0 3 _ rfl
  have f02 := free_blk X0.out 2
  have l0 : w.heap.size < w1.heap.size := by omega
  simp at c02 c03
  clear c0 hP hPb x0 x1 b1 hc1
  obtain ⟨i72, hi72, ia1, ia2, ia3⟩ := info_parts info72
  obtain ⟨Q, hQ⟩ : ∃ Q, Q = w1.setCell ⟨w.heap.size, 2, none⟩ (.slice a1 m m) := ⟨_, rfl⟩
  have y0 : Q.heap[w.heap.size]? = some (.cells #[.int .i64 k, .string nm, .slice a1 m m, .slice aa n ac, .int .u32 sl, .int .u32 ge] 30 (0, 0)) := by rw [hQ]; exact set_blk X0.out 2 _
  have y1 : Q.heap[w.heap.size + 1]? = some (.cells #[.int .i64 0, .string ⟨#[]⟩, .slice none 0 0, .slice none 0 0, .int .u32 0, .int .u32 0] 30 (0, 0)) := by rw [hQ]; exact set_other X1.out (by simp) _
  have hQb : Below w.heap.size w Q := by rw [hQ]; exact B1.out.setCell (by simp) _
  have hQs : Q.heap.size = w1.heap.size := by rw [hQ]; simp
  have hQc : Clip16 w.heap.size Q a1 data := by
    rw [hQ]
    obtain ⟨cap, hr⟩ := HC1.out.row
    exact ⟨⟨cap, (rwOther hr X0.out (by decide) 2 _).mono (by omega)⟩, HC1.out.bnd, HC1.out.len⟩
  have Y0 := Lib.hid y0
  have Y1 := Lib.hid y1
  have BQ := Lib.hid hQb
  have HCQ := Lib.hid hQc
  clear y0 y1 hQb hQc
  go_wp2_with (at_make; refine wpList_make_full _ rfl _ _ 25 rfl w.heap.size 72 i72 _ 2 Try.underlying25 hi72 ia1 ia2 .i64 .i64 _ _ n rfl rfl rfl rfl (by rw [ia3]; omega) (by unfold maxLen; omega) (by rw [World.size_setCell]; omega) ?_)
  intro w2 hrow hgrow
  rw [← hQ] at hgrow
  have hs2 : w1.heap.size ≤ w2.heap.size := by rw [← hQs]; exact hgrow.size
  have b2 : Below Q.heap.size Q w2 := grown_below hgrow (fun x h => by cases h) (Nat.le_refl _)
  have X0 := Lib.hid ((b2.block _ (lt_of_some Y0.out)).trans Y0.out)
  have X1 := Lib.hid ((b2.block _ (lt_of_some Y1.out)).trans Y1.out)
  have B2 := Lib.hid (BQ.out.trans (b2.mono (by omega)))
  have HC2 := Lib.hid (HCQ.out.below b2)
  have c03 := cell_blk X0.out 3 rfl
  have l0 : w.heap.size < w2.heap.size := by omega
  simp at c03
  have HG : Hid (∀ x, (Value.slice (some ⟨w1.heap.size, 0, none⟩) n n).ownBlock = some x → w.heap.size + 2 ≤ x ∧ x < w2.heap.size) := Lib.hid (fun x hx => by have := hrow.lt x hx; have e : w1.heap.size = x := Option.some.inj hx; omega)
  have HROW := Lib.hid hrow
  clear hrow hgrow b2 hQ Y0 Y1 HCQ B1 c02 f02
  go_wp2_with fail
  go_loopw [17] (fun v wr => ∃ (i : Nat) (K : List LA) (xs : List Value), v = .int .i64 (i : Nat) ∧ i ≤ n ∧ K.length = i ∧ K.map attrOf = (L.take i).map attrOf ∧ xs.take (i * 2) = cellsA K ∧ wr.ownsRow w.heap.size 72 2 (.slice (some ⟨w1.heap.size, 0, none⟩) n n) n xs ∧ (∀ x ∈ K, Clip16 w.heap.size wr x.va x.val ∧ x.vc = x.val.length) ∧ FrT [72] w1.heap.size w2 wr) (fun v _ => n - (intOf v).toNat)
  case atStart => exact ⟨0, [], _, rfl, Nat.zero_le _, rfl, rfl, rfl, HROW.out, by simp, FrT.refl _ _ _⟩
  case round =>
    obtain ⟨i, K, xs, rfl, hi, hKl, hKm, hxs, hrow, hcl, hfr⟩ := hrel
    have hwr := hfr.size
    by_cases hlt : i < n
    · obtain ⟨x, hx⟩ : ∃ x, L[i]? = some x := ⟨_, List.getElem?_eq_getElem (by rw [← HN.out]; exact hlt)⟩
      have hbel : Below w.heap.size w wr := B2.out.trans ((hfr.below hs2).mono (by omega))
      obtain ⟨b, off, rfl, hbl, c1, c2⟩ := (HA.out.below hbel).get hx
      have p1 : (i : Int) < (n : Int) := by omega
      have p2 : (0 : Int) ≤ (i : Int) := by omega
      have hxv := (HA.out.below hbel).val x (List.mem_of_getElem? hx)
      have hxl := hb3 x (List.mem_of_getElem? hx)
      have HR := Lib.hid (And.intro hKl (And.intro hKm (And.intro hxs (And.intro hrow (And.intro hcl (And.intro hfr hx))))))
      have HXV := Lib.hid hxv
      clear hKl hKm hxs hrow hcl hfr hx hxv
      obtain ⟨xl, exl⟩ : ∃ xl, xl = x.val.length := ⟨_, rfl⟩
      rw [← exl] at hxl c2
      have HXL := Lib.hid exl
      clear exl
      go_wp2_with fail
      have hW0 : (wr.alloc (.cells #[.string x.name, .slice x.va xl x.vc] 72)).drew.heap[wr.heap.size]? = some (.cells #[.string x.name, .slice x.va xl x.vc] 72 (0, 0)) := Go.heap_alloc_new wr _
      obtain ⟨W, hW⟩ : ∃ W, W = (wr.alloc (.cells #[.string x.name, .slice x.va xl x.vc] 72)).drew := ⟨_, rfl⟩
      have hfW : FrT [72] w1.heap.size wr W := by rw [hW]; exact ((FrT.refl _ _ _).alloc _).drew
      have hWs : W.heap.size = wr.heap.size + 1 := by rw [hW]; simp
      rw [← hW] at hW0
      have hz0 := cell_blk hW0 0 rfl
      have hz1 := cell_blk hW0 1 rfl
      have hbW : Below wr.heap.size wr W := by rw [hW]; exact ((Below.refl _ wr).alloc (Nat.le_refl _) _).drew
      have hown := own_calls W x.vc (HXV.out.below hbW) (by rw [← HXL.out]; exact hxl)
      rw [← HXL.out] at hown
      have HOWN := Lib.hid hown
      have hrW : W.ownsRow w.heap.size 72 2 (.slice (some ⟨w1.heap.size, 0, none⟩) n n) n xs := row_below HR.out.2.2.2.1 hbW
      obtain ⟨u0, hu0⟩ : ∃ u, xs[i * 2]? = some u := ⟨_, List.getElem?_eq_getElem (by have := hrW.1; omega)⟩
      obtain ⟨u1, hu1⟩ : ∃ u, xs[i * 2 + 1]? = some u := ⟨_, List.getElem?_eq_getElem (by have := hrW.1; omega)⟩
      have hd0 := cl_of ((hrW.cellAt (i * 2) (by omega)).trans hu0)
      have hd1 := cl_of ((hrW.cellAt (i * 2 + 1) (by omega)).trans hu1)
      have he0 := hrW.frozenAt (i * 2)
      have he1 := hrW.frozenAt (i * 2 + 1)
      have HZ := Lib.hid (And.intro hz0 (And.intro hz1 (And.intro hd0 (And.intro hd1 (And.intro he0 he1)))))
      have HRW := Lib.hid hrW
      have HW := Lib.hid (And.intro hW (And.intro hfW hbW))
      have lW : wr.heap.size < W.heap.size := by omega
      have lW1 : w1.heap.size < W.heap.size := by omega
      clear hown hz0 hz1 hW0 hfW hbW hrW hu0 hu1 hd0 hd1 he0 he1
      have hne : wr.heap.size ≠ w1.heap.size := by have := HG.out w1.heap.size rfl; omega
      have hS0 := HZ.out
      rw [hW] at hS0
      obtain ⟨s0, s1, s2, s3, s4, s5⟩ := hS0
      go_region_held3 (fun w' => w'.cell? ⟨wr.heap.size, 0, none⟩ = some (.string x.name) ∧ w'.cell? ⟨wr.heap.size, 1, none⟩ = some (.slice x.va xl x.vc) ∧ w'.cell? ⟨w1.heap.size, i * 2, none⟩ = some (Cl w' ⟨w1.heap.size, i * 2, none⟩) ∧ w'.cell? ⟨w1.heap.size, i * 2 + 1, none⟩ = some (Cl w' ⟨w1.heap.size, i * 2 + 1, none⟩) ∧ w'.frozen? ⟨w1.heap.size, i * 2, none⟩ = false ∧ w'.frozen? ⟨w1.heap.size, i * 2 + 1, none⟩ = false)
        (first | exact ⟨s0, s1, s2, s3, s4, s5⟩ | exact ⟨(b5.cell (p := ⟨wr.heap.size, 0, none⟩) lW).trans HZ.out.1, (b5.cell (p := ⟨wr.heap.size, 1, none⟩) lW).trans HZ.out.2.1, cl_of ((b5.cell (p := ⟨w1.heap.size, i * 2, none⟩) lW1).trans HZ.out.2.2.1), cl_of ((b5.cell (p := ⟨w1.heap.size, i * 2 + 1, none⟩) lW1).trans HZ.out.2.2.2.1), (b5.frozen (p := ⟨w1.heap.size, i * 2, none⟩) lW1).trans HZ.out.2.2.2.2.1, (b5.frozen (p := ⟨w1.heap.size, i * 2 + 1, none⟩) lW1).trans HZ.out.2.2.2.2.2⟩ | exact ⟨(set2_far hne _ _ _ _ _).trans ((b5.cell (p := ⟨wr.heap.size, 0, none⟩) lW).trans HZ.out.1), (set2_far hne _ _ _ _ _).trans ((b5.cell (p := ⟨wr.heap.size, 1, none⟩) lW).trans HZ.out.2.1), cl_set _ _ (cl_set _ _ ((b5.cell (p := ⟨w1.heap.size, i * 2, none⟩) lW1).trans HZ.out.2.2.1)), cl_set _ _ (cl_set _ _ ((b5.cell (p := ⟨w1.heap.size, i * 2 + 1, none⟩) lW1).trans HZ.out.2.2.2.1)), by simp only [World.frozen?_setCell]; exact (b5.frozen (p := ⟨w1.heap.size, i * 2, none⟩) lW1).trans HZ.out.2.2.2.2.1, by simp only [World.frozen?_setCell]; exact (b5.frozen (p := ⟨w1.heap.size, i * 2 + 1, none⟩) lW1).trans HZ.out.2.2.2.2.2⟩ | (go_keep; done))
        (first | (go_at_call 64; rw [← hW]; refine HOWN.out.mono ?_; rintro e w5 ⟨a5, rfl, hc5, b5⟩))
      have hr5 := row_below HRW.out b5
      have hs5 := b5.size
      have hg1 := rwBlk hr5
      obtain ⟨cur1, hg1, _⟩ := hg1
      obtain ⟨hr6, _⟩ := World.ownsRow.stored hr5 (i * 2) (.string x.name)
      obtain ⟨cur2, hg2, _⟩ := rwBlk hr6
      obtain ⟨hr7, _⟩ := World.ownsRow.stored hr6 (i * 2 + 1) (.slice a5 xl xl)
      have hw5w : W.heap.size ≤ w5.heap.size := hs5
      have hkeep : ∀ {B : Nat} {a : Option Addr} {us : List Nat}, Clip16 B w5 a us → Clip16 B ((w5.setCell ⟨w1.heap.size, i * 2, none⟩ (.string x.name)).setCell ⟨w1.heap.size, i * 2 + 1, none⟩ (.slice a5 xl xl)) a us := fun h => by
        obtain ⟨cap, hr⟩ := h.row
        exact ⟨⟨cap, rwOther (rwOther hr hg1 (by decide) _ _) hg2 (by decide) _ _⟩, h.bnd, h.len⟩
      have hfin : FrT [72] w1.heap.size w2 ((w5.setCell ⟨w1.heap.size, i * 2, none⟩ (.string x.name)).setCell ⟨w1.heap.size, i * 2 + 1, none⟩ (.slice a5 xl xl)) :=
        (((HR.out.2.2.2.2.2.1.trans HW.out.2.1).trans (FrT.of_below b5)).set (a := ⟨w1.heap.size, i * 2, none⟩) (Nat.le_refl _) hg1 (by simp) _).set (a := ⟨w1.heap.size, i * 2 + 1, none⟩) (Nat.le_refl _) hg2 (by simp) _
      have FIN := Lib.hid (And.intro hr7 (And.intro (@hkeep) (And.intro hfin hc5)))
      clear hr5 hr6 hr7 hkeep hfin hc5 hg1 hg2 s0 s1 s2 s3 s4 s5
      go_wp2
      go_roundw
      case rel =>
        refine ⟨i + 1, K ++ [⟨x.name, a5, xl, x.val⟩], _, by go_num, hlt, by simp [HR.out.1], ?_, ?_, FIN.out.1, ?_, FIN.out.2.2.1⟩
        · rw [List.take_add_one, HR.out.2.2.2.2.2.2]
          simp [HR.out.2.1, attrOf]
        · have hK2 : (cellsA K).length = i * 2 := by rw [cellsA_len, HR.out.1]
          have hxs := HR.out.2.2.1
          have hxl2 : xs.length = n * 2 := HRW.out.1
          rw [cellsA_append, ← hxs, take_two (by omega), HXL.out]
          rfl
        · intro y hy
          rcases List.mem_append.1 hy with hy | hy
          · have h1 := HR.out.2.2.2.2.1 y hy
            exact ⟨FIN.out.2.1 ((h1.1.below HW.out.2.2).below b5), h1.2⟩
          · obtain rfl := by simpa using hy
            have h1 := FIN.out.2.2.2
            exact ⟨FIN.out.2.1 ⟨by obtain ⟨cap, hr⟩ := h1.row; exact ⟨cap, hr.mono (by omega)⟩, h1.bnd, h1.len⟩, by rw [HXL.out]⟩
      case measure => simp [intOf]; omega
    · obtain rfl : i = n := by omega
      have p1 : ¬ (i : Int) < (i : Int) := by omega
      have x0 := hfr.blk X0.out (by decide)
      have x1 := hfr.blk X1.out (by decide)
      have c0 := fun j u (h : (#[Value.int .i64 k, .string nm, .slice a1 m m, .slice aa i ac, .int .u32 sl, .int .u32 ge] : Array Value)[j]? = some u) => cell_blk x0 j h
      have c00 := c0 0 _ rfl
      have c01 := c0 1 _ rfl
      have c02 := c0 2 _ rfl
      have c03 := c0 3 _ rfl
      have c04 := c0 4 _ rfl
      have c05 := c0 5 _ rfl
      have f03 := free_blk x0 3
      have d0 := fun j u (h : (#[Value.int .i64 0, .string ⟨#[]⟩, .slice none 0 0, .slice none 0 0, .int .u32 0, .int .u32 0] : Array Value)[j]? = some u) => cell_blk x1 j h
      have d00 := d0 0 _ rfl
      have d01 := d0 1 _ rfl
      have d02 := d0 2 _ rfl
      have d03 := d0 3 _ rfl
      have d04 := d0 4 _ rfl
      have d05 := d0 5 _ rfl
      have g0 := fun j => free_blk x1 j
      have le0 := lt_of_some x0
      have le1 := lt_of_some x1
      simp at c00 c01 c02 c03 c04 c05 d00 d01 d02 d03 d04 d05
      have HX := Lib.hid (And.intro x0 x1)
      have HR := Lib.hid (And.intro hKl (And.intro hKm (And.intro hxs (And.intro hrow (And.intro hcl hfr)))))
      clear hKl hKm hxs hrow hcl hfr x0 x1 hlt c0 d0
      go_wp2_with fail
      obtain ⟨hE, hF⟩ := six_cells (set_other HX.out.2 (show w.heap.size + 1 ≠ (⟨w.heap.size, 3, none⟩ : Addr).block by simp) (.slice (some ⟨w1.heap.size, 0, none⟩) i i)) (.int .i64 k) (.string nm) (.slice a1 m m) (.slice (some ⟨w1.heap.size, 0, none⟩) i i) (.int .u32 sl) (.int .u32 ge)
      have hF0 : FrT [30] w.heap.size wr (wr.setCell ⟨w.heap.size, 3, none⟩ (.slice (some ⟨w1.heap.size, 0, none⟩) i i)) := (FrT.refl _ _ _).set (a := ⟨w.heap.size, 3, none⟩) (Nat.le_refl _) HX.out.1 (by simp) _
      have hFF := hF0.trans (hF.mono (fun _ h => h) (by omega))
      have z0 := cell_blk hE 0 rfl
      have z1 := cell_blk hE 1 rfl
      have z2 := cell_blk hE 2 rfl
      have z3 := cell_blk hE 3 rfl
      have z4 := cell_blk hE 4 rfl
      have z5 := cell_blk hE 5 rfl
      skip
      obtain ⟨hKl, hKm, hxs, hrow, hcl, hfr⟩ := HR.out
      have hxs2 : xs = cellsA K := by rw [← hxs, List.take_of_length_le (by have := hrow.1; omega)]
      refine bodyPost_ret (v := .agg #[.int .i64 k, .string nm, .slice a1 m m, .slice (some ⟨w1.heap.size, 0, none⟩) i i, .int .u32 sl, .int .u32 ge]) (by simp [results, Try.results20, go_sem, z0, z1, z2, z3, z4, z5]) rfl ⟨⟨k, nm, a1, m, data, some ⟨w1.heap.size, 0, none⟩, i, K, sl, ge⟩, ?_, ?_, ?_, ?_⟩
      · simp only [hKl, ← HM.out]
      · exact ⟨rfl, rfl, rfl, by rw [hKm, List.take_of_length_le (by rw [HN.out]; exact Nat.le_refl _)], rfl, rfl⟩
      · have hC := HC2.out
        refine ⟨?_, HM.out, ⟨⟨i, ?_⟩, ?_, ?_⟩, hKl.symm, hn, ?_⟩
        · obtain ⟨cap, hr⟩ := hC.row
          exact ⟨⟨cap, hFF.row (hfr.row hr (by decide)) (by decide)⟩, hC.bnd, hC.len⟩
        · simp only [hKl]
          rw [← hxs2]
          exact hFF.row hrow (by decide)
        · intro y hy
          obtain ⟨h1, h2⟩ := hcl y hy
          obtain ⟨cap, hr⟩ := h1.row
          exact ⟨⟨⟨cap, hFF.row hr (by decide)⟩, h1.bnd, h1.len⟩, h2⟩
        · intro y hy
          have : attrOf y ∈ L.map attrOf := by
            have h1 : attrOf y ∈ K.map attrOf := List.mem_map.2 ⟨y, hy, rfl⟩
            rw [hKm] at h1
            obtain ⟨z, hz, hz2⟩ := List.mem_map.1 h1
            exact List.mem_map.2 ⟨z, List.mem_of_mem_take hz, hz2⟩
          obtain ⟨z, hz, hz2⟩ := List.mem_map.1 this
          have h3 := HA.out.nam z hz
          have h4 : z.name = y.name := congrArg Prod.fst hz2
          rwa [h4] at h3
        · simp only [hKl]; omega
      · exact B2.out.trans (((hfr.below hs2).mono (by omega)).trans (hFF.below (by omega)))
end Go.Proofs.Ytelhnaphkbpakaa

namespace Go.Proofs.Ytelhnaphkbpakaa
open Go.RowKit
set_option linter.unusedVariables false
set_option maxRecDepth 100000

set_option maxHeartbeats 4000000 in
theorem sameUnits_calls {w : World} {a b : Option Addr} {us vs : List Nat} (ca cb : Nat) (ha : Sl16 w a us) (hb : Sl16 w b vs) :
    Calls Try.prog 25 #[.slice a us.length ca, .slice b vs.length cb] w fun e w' => e = .returned (.bool (decide (us = vs))) ∧ ∃ k, w.drewN k = w' := by
  obtain ⟨n, en⟩ : ∃ n, n = us.length := ⟨_, rfl⟩
  obtain ⟨m, em⟩ : ∃ m, m = vs.length := ⟨_, rfl⟩
  have hl1 := ha.len
  have hl2 := hb.len
  rw [← en] at hl1 ⊢
  rw [← em] at hl2 ⊢
  have HN := Lib.hid en
  have HM := Lib.hid em
  have HA := Lib.hid ha
  have HB := Lib.hid hb
  clear en em ha hb
  by_cases hnm : n = m
  · subst hnm
    obtain ⟨r, hr⟩ : ∃ r, r = decide (us = vs) := ⟨_, rfl⟩
    rw [← hr]
    have HR := Lib.hid hr
    clear hr
    go_enter Try.func25, Try.ntmps25
    go_wp2_with fail
    go_loopw [5] (fun v wr => ∃ i k : Nat, v = .int .i64 (i : Nat) ∧ i ≤ n ∧ (∀ j, j < i → us[j]? = vs[j]?) ∧ wr = w.drewN k) (fun v _ => n - (intOf v).toNat)
    case atStart => exact ⟨0, 0, rfl, Nat.zero_le _, fun j hj => absurd hj (by omega), rfl⟩
    case round =>
      obtain ⟨i, k, rfl, hi, heq, rfl⟩ := hrel
      have HE := Lib.hid heq
      clear heq
      by_cases h1 : i < n
      · obtain ⟨u, hu⟩ : ∃ u, us[i]? = some u := ⟨_, List.getElem?_eq_getElem (by rw [← HN.out]; exact h1)⟩
        obtain ⟨hu1, b1, o1, rfl, hb1, c1⟩ := HA.out.at_ i u hu
        obtain ⟨v, hv⟩ : ∃ v, vs[i]? = some v := ⟨_, List.getElem?_eq_getElem (by rw [← HM.out]; exact h1)⟩
        obtain ⟨hv1, b2, o2, rfl, hb2, c2⟩ := HB.out.at_ i v hv
        have HU := Lib.hid hu
        have HV := Lib.hid hv
        clear hu hv
        have p0 : (0 : Int) ≤ (i : Int) := by omega
        have p1 : (i : Int) < (n : Int) := by omega
        by_cases hne : u = v
        · subst hne
          have q : ((u : Int) != (u : Int)) = false := by simp
          go_wp2_with fail
          go_quiet (fail)
          go_wp2
          go_roundw
          case rel => exact ⟨i + 1, _, by go_num, h1, fun j hj => by
              rcases Nat.lt_or_ge j i with h | h
              · exact HE.out j h
              · obtain rfl : j = i := by omega
                rw [HU.out, HV.out], rfl⟩
          case measure => simp [intOf]; omega
        · have hrf : r = false := by
            rw [HR.out]
            refine decide_eq_false (fun e => hne ?_)
            have := HU.out
            rw [e, HV.out] at this
            exact (Option.some.inj this).symm
          have q : ((u : Int) != (v : Int)) = true := by simp; omega
          have HRF := Lib.hid hrf
          clear hrf
          go_wp2_with fail
          go_quiet (fail)
          go_wp2
          go_ret
          exact ⟨by rw [HRF.out]; rfl, _, by rw [World.drewN_drewN]⟩
      · obtain rfl : i = n := by omega
        have hrf : r = true := by
          rw [HR.out]
          refine decide_eq_true (List.ext_getElem? (fun j => ?_))
          rcases Nat.lt_or_ge j i with h | h
          · exact HE.out j h
          · rw [List.getElem?_eq_none (by rw [← HN.out]; exact h), List.getElem?_eq_none (by rw [← HM.out]; exact h)]
        have HRF := Lib.hid hrf
        have p1 : ¬ (i : Int) < (i : Int) := by omega
        clear hrf h1
        go_wp2_with fail
        go_ret
        exact ⟨by rw [HRF.out]; rfl, _, rfl⟩
  · have hne : us ≠ vs := fun e => hnm (by rw [HN.out, HM.out, e])
    rw [decide_eq_false hne]
    have q : ((n : Int) != (m : Int)) = true := by simp; omega
    clear hne
    go_enter Try.func25, Try.ntmps25
    go_wp2
    go_ret
    exact ⟨rfl, 0, rfl⟩


structure LentU (B : Nat) (w : World) (a : Option Addr) (cap : Nat) (us : List Nat) : Prop where
  row : w.ownsRow B 45 1 (.slice a (us.length + 2) cap) (us.length + 2) (enc16 us ++ [.int .u16 48879, .int .u16 48879])
  bnd : ∀ u ∈ us, u ≤ 65535
  len : us.length ≤ 1048576
theorem LentU.sl {B : Nat} {w : World} {a : Option Addr} {cap : Nat} {us : List Nat} (h : LentU B w a cap us) : Sl16 w a us := sl16_of_row (n := 0) h.row (by omega) h.bnd (by have := h.len; omega)
theorem LentU.below {B : Nat} {w w' : World} {a : Option Addr} {cap : Nat} {us : List Nat} (h : LentU B w a cap us) (b : Below w.heap.size w w') : LentU B w' a cap us :=
  ⟨(FrT.of_below (T := []) (B := 0) b).row h.row (by simp), h.bnd, h.len⟩
theorem LentU.cap {B : Nat} {w : World} {a : Option Addr} {cap : Nat} {us : List Nat} (h : LentU B w a cap us) : us.length + 2 ≤ cap := by
  rcases h.row.2 with ⟨h', _⟩ | ⟨g, cap', cur, h', _, _, _, h4, _⟩
  · cases h'
  · cases h'; omega

set_option maxHeartbeats 2000000 in
theorem units_calls {w : World} {a : Option Addr} {us : List Nat} (ca : Nat) (ha : Sl16 w a us) (hlen : us.length ≤ 1048576) :
    Calls Try.prog 22 #[.slice a us.length ca] w fun e w' => ∃ a' cap, e = .returned (.slice a' us.length cap) ∧ LentU w.heap.size w' a' cap us ∧ Below w.heap.size w w' := by
  have HA := Lib.hid ha
  have hb := ha.bnd
  have HB := Lib.hid hb
  clear ha hb
  obtain ⟨n, hn⟩ : ∃ n, n = us.length := ⟨_, rfl⟩
  rw [← hn] at hlen ⊢
  have HN := Lib.hid hn
  clear hn
  obtain ⟨i79, hi79, ha1, ha2, ha3⟩ := info_parts info79
  have q1 : IntKind.i64.wrap ((n : Int) + 2) = (n : Int) + 2 := IntWalk.i64_in _ (by omega)
  go_enter Try.func22, Try.ntmps22
  go_wp2_with (at_make; refine wpList_make_own _ rfl _ _ 24 rfl w.heap.size 45 i79 _ 1 Try.underlying24 hi79 ha1 ha2 .i64 .i64 _ (n + 2) rfl rfl (by omega) (by rw [ha3]; omega) (by unfold maxLen; omega) (Nat.le_refl _) ?_)
  intro w1 hown1 hgrow1
  have HO1 := Lib.hid hown1
  have hs1 : w.heap.size ≤ w1.heap.size := hgrow1.size
  have hb1 : Below w.heap.size w w1 := (Below.refl _ w).grown hgrow1 (Nat.le_refl _) (fun _ e => by cases e)
  have HA1 := Lib.hid (HA.out.below hb1)
  have HB1 := Lib.hid hb1
  clear hown1 hgrow1 hb1
  go_wp2_with (at_builtin; refine wpList_append_any _ rfl (.tmp 8) (.tmp 9) 24 rfl w.heap.size 45 i79 _ 1 2 Try.underlying24 hi79 ha1 ha2 ha3 rfl (by omega) _ 0 [] rfl HO1.out a n ca (enc16 us) rfl (by rw [enc16_len, HN.out]; simp) (by rw [HN.out]; exact HA1.out.src) enc16_one (by unfold maxLen; omega) (by omega) hs1 ?_)
  intro a2 c2 w2 hown2 hgrow2
  have hb2 : Below w.heap.size w1 w2 := (Below.refl _ w1).grown hgrow2 hs1 (fun k e => by simp [Value.ownBlock] at e; omega)
  have HB2 := Lib.hid (HB1.out.trans hb2)
  have hs2 := Nat.le_trans hs1 hb2.size
  have HO2 := Lib.hid hown2
  clear hown2 hgrow2 hb2 HA1
  go_wp2_with (at_builtin; refine wpList_append_lies _ rfl (.tmp 11) (.tmp 12) 24 rfl w.heap.size 45 i79 _ 1 2 Try.underlying24 hi79 ha1 ha2 ha3 rfl (by omega) _ n _ rfl (HO2.out.alloc _) ⟨w2.heap.size, 0, none⟩ 2 2 [.int .u16 48879, .int .u16 48879] rfl rfl (World.news_of_block (cs := #[.int .u16 48879, .int .u16 48879]) (t := 45) (fr := (0, 0)) (Go.heap_alloc_new w2 _)) (by simp [Value.oneCell']) (by omega) (by unfold maxLen; omega) (by omega) (by simp; omega) _ rfl ?_)
  intro g3 c3 w3 hown3 hgrow3 hat3 hlt3
  have f3 : FrT [45] w.heap.size w2 w3 := ((FrT.refl _ _ _).alloc _).append (HO2.out.alloc _) (Nat.le_refl _) (by simp) hgrow3
  have HB3 := Lib.hid (HB2.out.trans (f3.below hs2))
  have HL3 : Hid (LentU w.heap.size w3 (some ⟨g3, 0, none⟩) c3 us) := Lib.hid ⟨by rw [← HN.out]; exact hown3, HB.out, by rw [← HN.out]; exact hlen⟩
  have hcap := HL3.out.cap
  rw [← HN.out] at hcap
  clear hown3 hgrow3 hat3 f3
  go_wp2
  go_ret
  exact ⟨_, _, rfl, HL3.out, HB3.out⟩
theorem keptUnits_true {B : Nat} {w : World} {a a' : Option Addr} {us : List Nat} (ca cap : Nat) (hl : LentU B w a' cap us) (hu : Sl16 w a us) :
    Calls Try.prog 28 #[.slice a' us.length cap, .slice a us.length ca] w fun e w' => e = .returned (.bool true) ∧ ∃ k, w.drewN k = w' := by
  have HL := Lib.hid hl
  have HU := Lib.hid hu
  have hlen := hl.len
  have hcap := hl.cap
  obtain ⟨g, cap', hv, hg0, hg⟩ := hl.row.form (by omega)
  cases hv
  have c0 := (hl.row.cellAt us.length (by omega)).trans (show (enc16 us ++ [.int .u16 48879, .int .u16 48879])[us.length]? = some (.int .u16 48879) by rw [List.getElem?_append_right (by rw [enc16_len]; omega), enc16_len]; simp)
  have c1 := (hl.row.cellAt (us.length + 1) (by omega)).trans (show (enc16 us ++ [.int .u16 48879, .int .u16 48879])[us.length + 1]? = some (.int .u16 48879) by rw [List.getElem?_append_right (by rw [enc16_len]; omega), enc16_len]; simp)
  clear hl hu
  obtain ⟨n, hn⟩ : ∃ n, n = us.length := ⟨_, rfl⟩
  rw [← hn] at hlen hcap c0 c1 ⊢
  have HN := Lib.hid hn
  clear hn
  have q1 : IntKind.i64.wrap ((n : Int) + 2) = (n : Int) + 2 := IntWalk.i64_in _ (by omega)
  have q2 : IntKind.i64.wrap ((n : Int) + 1) = (n : Int) + 1 := IntWalk.i64_in _ (by omega)
  go_enter Try.func28, Try.ntmps28
  go_wp2_with fail
  rw [HN.out]
  refine (sameUnits_calls cap ca HL.out.sl HU.out).mono ?_
  rw [decide_eq_true rfl, ← HN.out]
  rintro e w2 ⟨rfl, k, rfl⟩
  go_wp2
  go_ret
  exact ⟨rfl, k, rfl⟩
end Go.Proofs.Ytelhnaphkbpakaa

namespace Go.Proofs.Ytelhnaphkbpakaa
open Go.RowKit Go.Shelf
attribute [local go_sem] Oper.semAt_some
set_option linter.unusedVariables false
set_option maxRecDepth 100000

theorem roomAny {F : Fence} (hd : F.depth = none) (k : Nat) : F.room k := fun d h => by rw [hd] at h; cases h
/-- Where no depth is asked the figures are all one. -/
theorem roundAny {F : Fence} (hd : F.depth = none) {m m' : Nat} {P : Program} {l : Nat} {f : FuncId} {tmps : Array Value} {assign body : Code} {w : World} {R : Ending → World → Prop} (h : RoundIn F m P l f tmps assign body w R) : RoundIn F m' P l f tmps assign body w R := ⟨h.1, fun c cs _ => h.2 c cs (roomAny hd _)⟩
theorem yieldAny {F : Fence} (hd : F.depth = none) {m : Nat} (m' : Nat) {P : Program} {l : Nat} {args : Array Value} {W : World} {R : Ending → World → Prop} (h : YieldAt F m P l args W R) : YieldAt F m' P l args W R := by
  obtain ⟨fn, tmps, assign, body, hy, hR⟩ := h
  exact ⟨fn, tmps, assign, body, hy, roundAny hd hR⟩

/-- What a round keeps: all that lay below n0; what a range walks over; boxes of one type (yield's). -/
structure KpY (t : TypeId) (n0 : Nat) (W W' : World) : Prop where
  below : Below n0 W W'
  walks : KeepsWalks W W'
  box : ∀ (k : Nat) (c : Array Value) (fz : Nat × Nat), W.heap[k]? = some (.cells c t fz) → W'.heap[k]? = some (.cells c t fz)
theorem KpY.trans {t : TypeId} {n0 : Nat} {A B C : World} (h : KpY t n0 A B) (k : KpY t n0 B C) : KpY t n0 A C := ⟨h.below.trans k.below, h.walks.trans k.walks, fun i c fz e => k.box i c fz (h.box i c fz e)⟩
theorem kpY_b {t : TypeId} {n0 : Nat} {w : World} (hn : n0 ≤ w.heap.size) (W : World) (l : Nat) (o o' : Obj) (hl : w.heap.size ≤ l) (h : W.heap[l]? = some o) (h1 : o.isCells = false) (h2 : o.isWalk = false) : KpY t n0 W (W.putObj l o') :=
  ⟨belowK_b hn W l o o' hl h h1 h2, KeepsWalks.putObj o' h h2, fun k c fz e => (World.putObj_heap_other (fun e1 => by subst e1; rw [h] at e; cases e; cases h1)).trans e⟩
theorem KpY.refl (t : TypeId) (n0 : Nat) (W : World) : KpY t n0 W W := ⟨Below.refl _ _, KeepsWalks.refl _, fun _ _ _ h => h⟩

def badL (l : List Pc) : List Pc := l.filter fun x => !x.ok
theorem badL_snoc (l : List Pc) (x : Pc) : badL (l ++ [x]) = badL l ++ if x.ok then [] else [x] := by cases h : x.ok <;> simp [badL, h]
def encBd (x : Pc) : Array Value := #[.int .i64 (x.p : Int), .int .i64 (x.n : Int)]

theorem bad_calls (s : ByteArray) (w : World) :
    Calls Try.prog 46 #[.string s] w fun e w' => e = .returned (.func (.func 87) #[] #[.pointer (some ⟨w.heap.size, 0, none⟩)]) ∧ w' = w.alloc (.cells #[.string s] 9) := by
  go_enter Try.func46, Try.ntmps46
  go_wp2
  go_ret
  exact ⟨rfl, rfl⟩

set_option maxHeartbeats 2000000 in
/-- The inner closure: it asks the loop, if the piece is none. -/
theorem bad_yield (m l yb : Nat) (at_ n c : Int) (bad : Bool) (W : World) (R : Ending → World → Prop) (hyb : W.heap[yb]? = some (.cells #[.func (.yield l) #[] #[]] 122 (0, 0)))
    (hgood : bad = false → R (.returned (.bool true)) W)
    (hY : bad = true → YieldAt Fence.wide (m - 1) Try.prog l #[.int .i64 at_, .int .i64 n] W (fun e W' => (e = .returned (.bool true) ∧ R (.returned (.bool true)) W') ∨ (e = .returned (.bool false) ∧ R (.returned (.bool false)) W'))) :
    CallsIn Fence.wide m Try.prog 89 #[.int .i64 at_, .int .i64 n, .int .i32 c, .bool bad, .pointer (some ⟨yb, 0, none⟩)] W R := by
  have HG := Lib.hid hgood
  have c0 := cell_blk hyb 0 rfl
  simp at c0
  clear hgood
  cases bad with
  | false =>
    clear hY
    refine callsIn_of_wp Try.func89 rfl trivial ?_ rfl
    simp only [Try.ntmps89, List.size_toArray, List.length_cons, List.length_nil, Nat.reduceAdd, Nat.reduceSub, Array.replicate_succ, Array.replicate_zero, List.push_toArray, List.append_toArray, List.nil_append, List.cons_append]
    gi_wp2
    refine ⟨fun _ h => (by cases h), ?_⟩
    gi_wp2
    exact HG.out trivial
  | true =>
    obtain ⟨fn, tmps, assign, body, hy, hR⟩ := hY rfl
    clear hY
    refine callsIn_of_wp Try.func89 rfl trivial ?_ rfl
    simp only [Try.ntmps89, List.size_toArray, List.length_cons, List.length_nil, Nat.reduceAdd, Nat.reduceSub, Array.replicate_succ, Array.replicate_zero, List.push_toArray, List.append_toArray, List.nil_append, List.cons_append]
    gi_wp2
    refine ⟨fun h => (by cases h), ?_⟩
    refine hR.mono ?_
    rintro e W' (⟨rfl, hr⟩ | ⟨rfl, hr⟩)
    · have HRR := Lib.hid hr
      clear hr
      gi_wp2
      exact HRR.out
    · have HRR := Lib.hid hr
      clear hr
      gi_wp2
      exact HRR.out

set_option maxHeartbeats 2000000 in
theorem bad1_in (n : Nat) (l Bn : Nat) (s : ByteArray) (hs : s.size ≤ 1099511627776) {w0 : World} (J Jx : List Pc → World → Prop) (W : World) (hJ : AbidesFrom W.heap.size J)
    (hY : ∀ pre x W1, J pre W1 → pre.length < (badL (pcs s)).length → YieldAt Fence.wide (n - 1) Try.prog l (encBd x) W1 fun e W' =>
      (e = .returned (.bool true) ∧ J (pre ++ [x]) W' ∧ KpY 122 w0.heap.size W1 W') ∨ (e = .returned (.bool false) ∧ Jx (pre ++ [x]) W'))
    (hBn : W.heap[Bn]? = some (.cells #[.string s] 9 (0, 0))) (h0 : J [] W) :
    CallsIn Fence.wide n Try.prog 87 #[.func (.yield l) #[] #[], .pointer (some ⟨Bn, 0, none⟩)] W fun e W' => (∃ v, e = .returned v) ∧
      ((∃ ys, ys = badL (pcs s) ∧ J ys W') ∨ (∃ pre, pre <+: badL (pcs s) ∧ Jx pre W')) := by
  have c0 := cell_blk hBn 0 rfl
  have lB := lt_of_some hBn
  have HY := Lib.hid hY
  have HJ := Lib.hid hJ
  have hyield : ∀ pre x W1, (J (badL pre) W1 ∧ W1.heap[W.heap.size]? = some (.cells #[.func (.yield l) #[] #[]] 122 (0, 0))) → (∃ rest, pcs s = pre ++ x :: rest) → CallsIn Fence.wide (3 - 1) Try.prog 89 #[.int .i64 (x.p : Int), .int .i64 (x.n : Int), .int .i32 (x.c : Int), .bool (!x.ok), .pointer (some ⟨W.heap.size, 0, none⟩)] W1 fun e W' =>
      (e = .returned (.bool true) ∧ (J (badL (pre ++ [x])) W' ∧ W'.heap[W.heap.size]? = some (.cells #[.func (.yield l) #[] #[]] 122 (0, 0))) ∧ KeepsWalks W1 W') ∨ (e = .returned (.bool false) ∧ Jx (badL (pre ++ [x])) W') := by
    rintro pre x W1 ⟨hj, hb⟩ ⟨rest, hrest⟩
    refine bad_yield (3 - 1) l W.heap.size _ _ _ _ _ (fun e W' =>
      (e = .returned (.bool true) ∧ (J (badL (pre ++ [x])) W' ∧ W'.heap[W.heap.size]? = some (.cells #[.func (.yield l) #[] #[]] 122 (0, 0))) ∧ KeepsWalks W1 W') ∨ (e = .returned (.bool false) ∧ Jx (badL (pre ++ [x])) W')) hb ?_ ?_
    · intro hok
      have hok' : x.ok = true := by simpa using hok
      refine .inl ⟨rfl, ⟨?_, hb⟩, KeepsWalks.refl _⟩
      rw [badL_snoc, hok', if_pos rfl, List.append_nil]
      exact hj
    · intro hok
      have hok' : x.ok = false := by simpa using hok
      have hlt : (badL pre).length < (badL (pcs s)).length := by
        rw [hrest]
        simp [badL, hok']
      have e : badL (pre ++ [x]) = badL pre ++ [x] := by rw [badL_snoc, hok']; rfl
      refine (yieldAny rfl (3 - 1 - 1) (HY.out (badL pre) x W1 hj hlt)).mono ?_
      rw [e]
      rintro e W' (⟨rfl, h1, h2⟩ | ⟨rfl, h1⟩)
      · exact .inl ⟨rfl, .inl ⟨rfl, ⟨h1, h2.box _ _ _ hb⟩, h2.walks⟩⟩
      · exact .inr ⟨rfl, .inr ⟨rfl, h1⟩⟩
  have hread := read_in 3 89 W.heap.size (by omega) s (by omega) (fun pre W1 => J (badL pre) W1 ∧ W1.heap[W.heap.size]? = some (.cells #[.func (.yield l) #[] #[]] 122 (0, 0))) (fun pre W1 => Jx (badL pre) W1) (W.alloc (.cells #[.func (.yield l) #[] #[]] 122)) (fun args w => Go.MuLone.run_callFunc_enter (P := Try.prog) (f := 89) (fn := Try.f89) Try.func89 (by kernel_rfl) rfl args w)
    (fun pre A B row hj hg hr => ⟨HJ.out _ A B row hj.1 hg (fun r e => by obtain ⟨h1, h2⟩ := hr r e; exact ⟨by simp at h1; omega, h2⟩), blkGrow hj.2 hg (fun r e => by obtain ⟨_, o, ho, hw⟩ := hr r e; exact ⟨o, ho, Obj.not_cells_of_walk hw⟩)⟩)
    hyield ⟨HJ.out [] W _ none h0 (World.grownBy_alloc W _ none) (fun r e => by cases e), Go.heap_alloc_new W _⟩
  have HR := Lib.hid hread
  simp at c0
  clear hread hyield hY hJ hBn
  refine callsIn_of_wp Try.func87 rfl trivial ?_ rfl
  simp only [Try.ntmps87, List.size_toArray, List.length_cons, List.length_nil, Nat.reduceAdd, Nat.reduceSub, Array.replicate_succ, Array.replicate_zero, List.push_toArray, List.append_toArray, List.nil_append, List.cons_append]
  gi_wp2_with fail
  refine ⟨trivial, fun h => (by cases h), ?_⟩
  refine (callsIn_wide.2 (callsIn_wide.1 HR.out)).mono ?_
  rintro e W' ⟨⟨v, rfl⟩, hor⟩
  have HO := Lib.hid hor
  clear hor
  gi_wp2
  go_end0
  refine ⟨⟨_, rfl⟩, ?_⟩
  rcases HO.out with h | ⟨pre, ⟨r, hr⟩, h⟩
  · exact .inl ⟨_, rfl, h.1⟩
  · exact .inr ⟨badL pre, ⟨badL r, by rw [← hr]; simp [badL]⟩, h⟩

theorem bad_stops (n Bn : Nat) (s : ByteArray) (hs : s.size ≤ 1099511627776) {w0 : World} (w : World) (hBn : w.heap[Bn]? = some (.cells #[.string s] 9 (0, 0))) :
    SeqStopsK Fence.wide n Try.prog 87 #[.pointer (some ⟨Bn, 0, none⟩)] encBd (KpY 122 w0.heap.size) (fun ys => ys = badL (pcs s)) (fun pre => pre <+: badL (pcs s)) (badL (pcs s)).length w := fun l J Jx W hW hJ _ hY h0 =>
  bad1_in n l Bn s hs J Jx W hJ hY ((hW.block _ (lt_of_some hBn)).trans hBn) h0
end Go.Proofs.Ytelhnaphkbpakaa

