/- fits: does a node have just what its kind has; part: where some of its units end. part: where some of a node's units end; Sub: some of a node's units. at: the place of an attribute; Attr: its value. Attr: an attribute's value. append onto a slice without room, wherever it lies, elements of any size: always a new block. No program. -/
import Derived.Deep.DeepCutAuto
import Derived.Deep.Onto
import Derived.ArgAppend
import Derived.Deep.AppendLies
import Derived.OwnWalkIn
import Derived.Test.YtelhnaphkbpakaaMl14
namespace Go.Proofs.Ytelhnaphkbpakaa
open Go.RowKit
set_option linter.unusedVariables false
set_option maxRecDepth 100000

theorem beq0 (n : Nat) : ((n : Int) == 0) = (n == 0) := by cases n <;> rfl
def noName (nm : ByteArray) : Bool := decide (nm.toList = [])
def fitsD (k : Int) (nm : ByteArray) (dl al : Nat) : Bool :=
  if k = 1 then dl == 0
  else if k = 7 then al == 0
  else if k = 3 ∨ k = 8 then noName nm && al == 0
  else if k = 10 then dl == 0 && al == 0
  else if k = 9 ∨ k = 11 then noName nm && dl == 0 && al == 0
  else false

set_option maxHeartbeats 4000000 in
theorem fits_calls (w : World) (N : Nd) (h : NdIn w N) :
    Calls Try.prog 49 #[N.v] w fun e w' => e = .returned (.bool (fitsD N.kind N.name N.data.length N.L.length)) ∧ Below w.heap.size w w' := by
  obtain ⟨k, nm, da, dc, data, aa, ac, L, sl, ge⟩ := N
  simp only [Nd.v, Nd.cells] at *
  obtain ⟨n, en⟩ : ∃ n, n = L.length := ⟨_, rfl⟩
  obtain ⟨m, em⟩ : ∃ m, m = data.length := ⟨_, rfl⟩
  have hl1 := h.data.len
  have hl2 := h.attrs.len
  have hl3 := h.nam
  simp only [] at hl1 hl2 hl3
  rw [← en] at hl2 ⊢
  rw [← em] at hl1 ⊢
  clear en em h
  go_enter Try.func49, Try.ntmps49
  go_wp2_with fail
  all_goals go_ret
  all_goals refine ⟨?_, (by repeat (first | exact Below.refl _ _ | assumption | refine Below.drew ?_ | refine below_drewN ?_ _ | refine Below.alloc ?_ (by simp <;> omega) _ | refine Below.setCell ?_ (by simp <;> omega) _ | (apply bl_trans; assumption; (simp <;> omega))))⟩
  all_goals simp_all [fitsD, noName]
  all_goals first | exact beq0 _ | (rw [beq0] <;> simp_all) | (simp_all [beq0])
end Go.Proofs.Ytelhnaphkbpakaa

namespace Go.Proofs.Ytelhnaphkbpakaa
open Go.RowKit
set_option linter.unusedVariables false
set_option maxRecDepth 100000

def partD (k off cnt : Int) (m : Nat) : Int × Int :=
  if ¬ (k = 3 ∨ k = 8 ∨ k = 7) then (0, 63)
  else if off < 0 ∨ (m : Int) < off ∨ cnt < 0 then (0, 61)
  else (off + min cnt (m - off), 0)

set_option maxHeartbeats 4000000 in
theorem part_calls (w : World) (N : Nd) (h : NdIn w N) (off cnt : Int) :
    Calls Try.prog 65 #[N.v, .int .i64 off, .int .i64 cnt] w fun e w' => e = .returned (.tuple #[.int .i64 (partD N.kind off cnt N.data.length).1, .int .i64 (partD N.kind off cnt N.data.length).2]) ∧ Below w.heap.size w w' := by
  obtain ⟨k, nm, da, dc, data, aa, ac, L, sl, ge⟩ := N
  simp only [Nd.v, Nd.cells] at *
  obtain ⟨m, em⟩ : ∃ m, m = data.length := ⟨_, rfl⟩
  have hl1 := h.data.len
  simp only [] at hl1
  rw [← em] at hl1 ⊢
  clear em h
  by_cases hk : k = 3 ∨ k = 8 ∨ k = 7
  · by_cases ho : off < 0 ∨ (m : Int) < off ∨ cnt < 0
    · have e : partD k off cnt m = (0, 61) := by unfold partD; rw [if_neg (by simp [hk]), if_pos ho]
      rw [e]
      clear e
      go_enter Try.func65, Try.ntmps65
      go_wp2_with fail
      all_goals first | exact bodyPost_ret (v := .tuple #[.int .i64 0, .int .i64 61]) (by simp [results, Try.results65, go_sem]) rfl ⟨rfl, (by repeat (first | exact Below.refl _ _ | assumption | refine Below.drew ?_ | refine below_drewN ?_ _ | refine Below.alloc ?_ (by simp <;> omega) _ | refine Below.setCell ?_ (by simp <;> omega) _ | (apply bl_trans; assumption; (simp <;> omega))))⟩ | (exfalso; omega) | (exfalso; simp_all; done)
    · have e : partD k off cnt m = (off + min cnt (m - off), 0) := by unfold partD; rw [if_neg (by simp [hk]), if_neg ho]
      rw [e]
      clear e
      have p1 : ¬ off < 0 := by omega
      have p2 : ¬ (m : Int) < off := by omega
      have p3 : ¬ cnt < 0 := by omega
      have q1 : IntKind.i64.wrap ((m : Int) - off) = (m : Int) - off := IntWalk.i64_in _ (by omega)
      have q2 : IntKind.i64.wrap (off + min cnt ((m : Int) - off)) = off + min cnt ((m : Int) - off) := IntWalk.i64_in _ (by omega)
      clear ho
      go_enter Try.func65, Try.ntmps65
      go_wp2_with fail
      all_goals first | exact bodyPost_ret (v := .tuple #[.int .i64 (off + min cnt ((m : Int) - off)), .int .i64 0]) (by simp [results, Try.results65, go_sem] <;> omega) rfl ⟨rfl, (by repeat (first | exact Below.refl _ _ | assumption | refine Below.drew ?_ | refine below_drewN ?_ _ | refine Below.alloc ?_ (by simp <;> omega) _ | refine Below.setCell ?_ (by simp <;> omega) _ | (apply bl_trans; assumption; (simp <;> omega))))⟩ | (exfalso; omega) | (exfalso; simp_all; done)
  · have e : partD k off cnt m = (0, 63) := by unfold partD; rw [if_pos hk]
    rw [e]
    clear e
    go_enter Try.func65, Try.ntmps65
    go_wp2_with fail
    all_goals first | exact bodyPost_ret (v := .tuple #[.int .i64 0, .int .i64 63]) (by simp [results, Try.results65, go_sem]) rfl ⟨rfl, (by repeat (first | exact Below.refl _ _ | assumption | refine Below.drew ?_ | refine below_drewN ?_ _ | refine Below.alloc ?_ (by simp <;> omega) _ | refine Below.setCell ?_ (by simp <;> omega) _ | (apply bl_trans; assumption; (simp <;> omega))))⟩ | (exfalso; omega) | (exfalso; simp_all; done)

/-- What Sub tells. -/
def subD (k off cnt : Int) (data : List Nat) : List Nat := (data.drop off.toNat).take ((partD k off cnt data.length).1 - off).toNat
theorem partD_good {k off cnt : Int} {m : Nat} (h : (partD k off cnt m).2 = 0) : (k = 3 ∨ k = 8 ∨ k = 7) ∧ 0 ≤ off ∧ off ≤ (m : Int) ∧ 0 ≤ cnt ∧ partD k off cnt m = (off + min cnt (m - off), 0) := by
  unfold partD at h ⊢
  by_cases h1 : ¬ (k = 3 ∨ k = 8 ∨ k = 7)
  · rw [if_pos h1] at h; simp at h
  · rw [if_neg h1] at h ⊢
    by_cases h2 : off < 0 ∨ (m : Int) < off ∨ cnt < 0
    · rw [if_pos h2] at h; simp at h
    · rw [if_neg h2]
      exact ⟨Decidable.not_not.1 h1, by omega, by omega, by omega, rfl⟩
theorem partD_bad {k off cnt : Int} {m : Nat} (h : (partD k off cnt m).2 ≠ 0) : (partD k off cnt m).1 = 0 ∧ ((partD k off cnt m).2 = 61 ∨ (partD k off cnt m).2 = 63) := by
  unfold partD at h ⊢
  by_cases h1 : ¬ (k = 3 ∨ k = 8 ∨ k = 7)
  · rw [if_pos h1]; simp
  · rw [if_neg h1] at h ⊢
    by_cases h2 : off < 0 ∨ (m : Int) < off ∨ cnt < 0
    · rw [if_pos h2]; simp
    · rw [if_neg h2] at h; simp at h
/-- A slice of a slice. -/
theorem Sl16.part {w : World} {a : Option Addr} {us : List Nat} (h : Sl16 w a us) (i n : Nat) (hn : i + n ≤ us.length) : Sl16 w (a.map (·.add i)) ((us.drop i).take n) := by
  refine ⟨fun j u hu => ?_, by have := h.len; rw [List.length_take, List.length_drop]; omega⟩
  have hj : j < n := by
    have := (List.getElem?_eq_some_iff.1 hu).1
    rw [List.length_take] at this; omega
  rw [List.getElem?_take, if_pos hj, List.getElem?_drop] at hu
  obtain ⟨h1, b, off, h2, h3, h4⟩ := h.at_ _ _ hu
  subst h2
  exact ⟨h1, b, off + i, by simp [Addr.add], h3, by rw [show off + i + j = off + (i + j) by omega]; exact h4⟩

set_option maxHeartbeats 4000000 in
theorem sub_calls (w : World) (N : Nd) (h : NdIn w N) (hB : N.Bd 1099511627776) (off cnt : Int) :
    Calls Try.prog 23 #[N.v, .int .i64 off, .int .i64 cnt] w fun e w' => Below w.heap.size w w' ∧
      (((partD N.kind off cnt N.data.length).2 ≠ 0 ∧ e = .returned (.tuple #[.slice none 0 0, .int .i64 (partD N.kind off cnt N.data.length).2])) ∨
       ((partD N.kind off cnt N.data.length).2 = 0 ∧ ∃ a, e = .returned (.tuple #[.slice a (subD N.kind off cnt N.data).length (subD N.kind off cnt N.data).length, .int .i64 0]) ∧ Clip16 w.heap.size w' a (subD N.kind off cnt N.data))) := by
  have hpart := fun w' (b : Below w.heap.size w w') => part_calls w' N (h.below b) off cnt
  obtain ⟨k, nm, da, dc, data, aa, ac, L, sl, ge⟩ := N
  have hd := h.data
  have hb1 := hB.data
  have hcap := h.cap
  simp only [Nd.v, Nd.cells] at *
  obtain ⟨m, em⟩ : ∃ m, m = data.length := ⟨_, rfl⟩
  rw [← em] at hb1 hpart hcap ⊢
  obtain ⟨hcap1, hcap2, _, _⟩ := hcap
  have HM := Lib.hid em
  have HD := Lib.hid hd
  have HP := Lib.hid hpart
  clear em h hd hpart hB
  by_cases hg : (partD k off cnt m).2 = 0
  · obtain ⟨hk, p1, p2, p3, hp⟩ := partD_good hg
    rw [hp] at HP ⊢
    obtain ⟨r, hr⟩ : ∃ r, r = off + min cnt ((m : Int) - off) := ⟨_, rfl⟩
    obtain ⟨us, hus⟩ : ∃ us, us = subD k off cnt data := ⟨_, rfl⟩
    have hsd : us = (data.drop off.toNat).take (r - off).toNat := by rw [hus, hr]; unfold subD; rw [← HM.out, hp]
    have p4 : off ≤ r := by omega
    have p5 : r ≤ (m : Int) := by omega
    have p6 : r ≤ (dc : Int) := by omega
    have hul : us.length = (r - off).toNat := by rw [hsd, List.length_take, List.length_drop, ← HM.out]; omega
    have q2 : r.toNat - off.toNat = us.length := by omega
    have q3 : off.toNat + us.length ≤ m := by omega
    have q4 : us.length ≤ 1099511627776 := by omega
    have HUS : Hid (∀ w', Sl16 w' da data → Sl16 w' (da.map (·.add off.toNat)) us) := Lib.hid (fun w' h => by rw [hsd]; exact h.part _ _ (by rw [← HM.out]; omega))
    rw [← hr] at HP ⊢
    rw [← hus]
    clear hp hr hus hsd hul
    go_enter Try.func23, Try.ntmps23
    go_wp2_with fail
    have hb0 : Below w.heap.size w (w.alloc (.cells #[.int .i64 k, .string nm, .slice da m dc, .slice aa L.length ac, .int .u32 sl, .int .u32 ge] 30)) := (Below.refl _ w).alloc (Nat.le_refl _) _
    refine (HP.out _ hb0).mono ?_
    rintro e w1 ⟨rfl, b1⟩
    have x0 := (b1.block w.heap.size (by simp)).trans (Go.heap_alloc_new w _)
    have c2 := cell_blk x0 2 rfl
    have l0 := lt_of_some x0
    simp at c2
    have B1 := Lib.hid (hb0.trans (b1.mono (by simp)))
    have HOWN : Hid (∀ A C, (A = da.map (·.add off.toNat) ∨ us = []) → Calls Try.prog 64 #[.slice A us.length C] w1 fun e w' => ∃ a', e = .returned (.slice a' us.length us.length) ∧ Clip16 w1.heap.size w' a' us ∧ Below w1.heap.size w1 w') := Lib.hid (fun A C h => by
      rcases h with rfl | h
      · exact own_calls w1 C (HUS.out _ (HD.out.below B1.out)) q4
      · exact own_calls w1 C (by rw [h]; exact Sl16.nil w1 A) q4)
    have hs1 : w.heap.size ≤ w1.heap.size := by omega
    clear b1 hb0 x0 hg
    go_wp2_with fail
    all_goals ((try rw [q2]); refine (HOWN.out _ _ (by first | exact .inl rfl | exact .inr (List.eq_nil_of_length_eq_zero (by omega)))).mono ?_; rintro e w2 ⟨a', rfl, hc2, b2⟩)
    all_goals have HC2 := Lib.hid (And.intro hc2 b2)
    all_goals clear hc2 b2
    all_goals go_wp2
    all_goals exact bodyPost_ret (v := .tuple #[.slice a' us.length us.length, .int .i64 0]) (by simp [results, Try.results23, go_sem]) rfl ⟨B1.out.trans (HC2.out.2.mono hs1), .inr ⟨trivial, a', rfl, ⟨by obtain ⟨cap, hr⟩ := HC2.out.1.row; exact ⟨cap, hr.mono hs1⟩, HC2.out.1.bnd, HC2.out.1.len⟩⟩⟩
  · obtain ⟨h1, h2⟩ := partD_bad hg
    rw [h1] at HP
    obtain ⟨c, hc⟩ : ∃ c, c = (partD k off cnt m).2 := ⟨_, rfl⟩
    rw [← hc] at HP hg h2 ⊢
    clear hc h1
    have hcc : (c != 0) = true := by simpa using hg
    go_enter Try.func23, Try.ntmps23
    go_wp2_with (go_at_call 65; refine (HP.out _ ((Below.refl _ w).alloc (Nat.le_refl _) _)).mono ?_; rintro e w1 ⟨rfl, b1⟩)
    exact bodyPost_ret (v := .tuple #[.slice none 0 0, .int .i64 c]) (by simp [results, Try.results23, go_sem]) rfl ⟨(by repeat (first | exact Below.refl _ _ | assumption | refine Below.drew ?_ | refine below_drewN ?_ _ | refine Below.alloc ?_ (by simp <;> omega) _ | refine Below.setCell ?_ (by simp <;> omega) _ | (apply bl_trans; assumption; (simp <;> omega)))), .inl ⟨hg, rfl⟩⟩
end Go.Proofs.Ytelhnaphkbpakaa

namespace Go.Proofs.Ytelhnaphkbpakaa
open Go.RowKit
set_option linter.unusedVariables false
set_option maxRecDepth 100000

theorem at1_calls (w : World) (nm name : ByteArray) (va : Option Addr) (vn vc b : Nat) (hb : w.heap[b]? = some (.cells #[.string name] 9 (0, 0))) :
    Calls Try.prog 95 #[.agg #[.string nm, .slice va vn vc], .pointer (some ⟨b, 0, none⟩)] w fun e w' => e = .returned (.bool (nm.toList == name.toList)) ∧ Below w.heap.size w w' := by
  have c0 := cell_blk hb 0 rfl
  have l0 := lt_of_some hb
  simp at c0
  go_enter Try.func95, Try.ntmps95
  go_wp2_with fail
  go_ret
  exact ⟨rfl, (by repeat (first | exact Below.refl _ _ | assumption | refine Below.drew ?_ | refine below_drewN ?_ _ | refine Below.alloc ?_ (by simp <;> omega) _ | refine Below.setCell ?_ (by simp <;> omega) _ | (apply bl_trans; assumption; (simp <;> omega))))⟩

def isNm (name : ByteArray) (x : LA) : Bool := x.name.toList == name.toList
def atD (L : List LA) (name : ByteArray) : Int := if L.findIdx (isNm name) < L.length then (L.findIdx (isNm name) : Int) else -1

set_option maxHeartbeats 4000000 in
theorem index_calls (w : World) {a : Option Addr} {L : List LA} (ac : Nat) (hA : SlA w a L) (name : ByteArray) (b : Nat) (hb : w.heap[b]? = some (.cells #[.string name] 9 (0, 0))) :
    Calls Try.prog 94 #[.slice a L.length ac, .func (.func 95) #[] #[.pointer (some ⟨b, 0, none⟩)]] w fun e w' => e = .returned (.int .i64 (atD L name)) ∧ Below w.heap.size w w' := by
  obtain ⟨n, en⟩ : ∃ n, n = L.length := ⟨_, rfl⟩
  have hl := hA.len
  rw [← en] at hl ⊢
  have HN := Lib.hid en
  have HA := Lib.hid hA
  clear hA en
  go_enter Try.func94, Try.ntmps94
  go_wp2_with fail
  go_loopw [8] (fun v wr => ∃ (i : Nat), v = .int .i64 (i : Nat) ∧ i ≤ n ∧ (∀ (j : Nat) (x : LA), j < i → L[j]? = some x → isNm name x = false) ∧ Below w.heap.size w wr) (fun v _ => n - (intOf v).toNat)
  case atStart => exact ⟨0, rfl, Nat.zero_le _, fun _ _ h => absurd h (Nat.not_lt_zero _), Below.refl _ _⟩
  case round =>
    obtain ⟨i, rfl, hi, hno, hbel⟩ := hrel
    by_cases hlt : i < n
    · obtain ⟨x, hx⟩ : ∃ x, L[i]? = some x := ⟨_, List.getElem?_eq_getElem (by rw [← HN.out]; exact hlt)⟩
      obtain ⟨bb, off, rfl, hbl, c1, c2⟩ := (HA.out.below hbel).get hx
      have p1 : (i : Int) < (n : Int) := by omega
      have p2 : (0 : Int) ≤ (i : Int) := by omega
      have hb2 := (hbel.block b (lt_of_some hb)).trans hb
      have hc := at1_calls wr x.name name x.va x.val.length x.vc b hb2
      have hs := hbel.size
      cases hm : isNm name x with
      | true =>
        have hm2 : (x.name.toList == name.toList) = true := hm
        rw [hm2] at hc
        have hat : atD L name = (i : Int) := by
          have h1 : L.findIdx (isNm name) = i := by
            have hil : i < L.length := by rw [← HN.out]; exact hlt
            rw [List.findIdx_eq hil]
            have hxe : L[i] = x := by rw [List.getElem?_eq_getElem hil] at hx; exact Option.some.inj hx
            refine ⟨by rw [hxe]; exact hm, fun j hj => ?_⟩
            exact hno j _ hj (List.getElem?_eq_getElem (by omega))
          unfold atD
          rw [h1, if_pos (by rw [← HN.out]; exact hlt)]
        have HAT := Lib.hid hat
        have HC := Lib.hid hc
        clear hc hx hno hm hm2 hat hb2
        go_wp2_with (go_at_call 95; refine HC.out.mono ?_; rintro e w2 ⟨rfl, b2⟩)
        go_ret
        exact ⟨by rw [HAT.out]; rfl, hbel.trans (b2.mono hs)⟩
      | false =>
        have hm2 : (x.name.toList == name.toList) = false := hm
        rw [hm2] at hc
        have HC := Lib.hid hc
        have HNO := Lib.hid hno
        have HX := Lib.hid (And.intro hx hm)
        clear hc hx hno hm hm2 hb2
        go_wp2_with (go_at_call 95; refine HC.out.mono ?_; rintro e w2 ⟨rfl, b2⟩)
        go_roundw
        case rel =>
          refine ⟨i + 1, by go_num, hlt, fun j y hj hy => ?_, hbel.trans (b2.mono hs)⟩
          rcases Nat.lt_or_ge j i with h | h
          · exact HNO.out j y h hy
          · obtain rfl : j = i := by omega
            rw [HX.out.1] at hy
            cases hy
            exact HX.out.2
        case measure => simp [intOf]; omega
    · obtain rfl : i = n := by omega
      have p1 : ¬ (i : Int) < (i : Int) := by omega
      have hat : atD L name = -1 := by
        unfold atD
        rw [if_neg]
        intro h
        have h1 := List.findIdx_getElem (w := h)
        rw [hno _ _ (by rw [HN.out]; exact h) (List.getElem?_eq_getElem h)] at h1
        exact absurd h1 (by simp)
      have HAT := Lib.hid hat
      clear hno hat hlt
      go_wp2_with fail
      go_ret
      exact ⟨by rw [HAT.out]; rfl, hbel⟩

set_option maxHeartbeats 4000000 in
theorem at_calls (w : World) (N : Nd) (h : NdIn w N) (name : ByteArray) :
    Calls Try.prog 71 #[N.v, .string name] w fun e w' => e = .returned (.int .i64 (atD N.L name)) ∧ Below w.heap.size w w' := by
  have hA := h.attrs
  obtain ⟨k, nm, da, dc, data, aa, ac, L, sl, ge⟩ := N
  simp only [Nd.v, Nd.cells] at *
  have hb0 : Below w.heap.size w ((w.alloc (.cells #[.int .i64 k, .string nm, .slice da data.length dc, .slice aa L.length ac, .int .u32 sl, .int .u32 ge] 30)).alloc (.cells #[.string name] 9)) := ((Below.refl _ w).alloc (Nat.le_refl _) _).alloc (by simp) _
  have hx : ((w.alloc (.cells #[.int .i64 k, .string nm, .slice da data.length dc, .slice aa L.length ac, .int .u32 sl, .int .u32 ge] 30)).alloc (.cells #[.string name] 9)).heap[w.heap.size + 1]? = some (.cells #[.string name] 9 (0, 0)) := by
    have := Go.heap_alloc_new (w.alloc (.cells #[.int .i64 k, .string nm, .slice da data.length dc, .slice aa L.length ac, .int .u32 sl, .int .u32 ge] 30)) (.cells #[.string name] 9); rwa [World.size_alloc] at this
  have hi := index_calls _ ac (hA.below hb0) name _ hx
  have HI := Lib.hid hi
  have HB := Lib.hid hb0
  clear hi hx hb0 h hA
  go_enter Try.func71, Try.ntmps71
  go_wp2_with (go_at_call 94; refine HI.out.mono ?_; rintro e w2 ⟨rfl, b2⟩)
  go_ret
  exact ⟨rfl, HB.out.trans (b2.mono (by simp; omega))⟩
end Go.Proofs.Ytelhnaphkbpakaa

namespace Go.Proofs.Ytelhnaphkbpakaa
open Go.RowKit
set_option linter.unusedVariables false
set_option maxRecDepth 100000

/-- An attribute's value: of the first of that name. -/
def attrD (l : List (ByteArray × List Nat)) (name : ByteArray) : Option (List Nat) := (l.find? fun x => x.1.toList == name.toList).map Prod.snd
theorem atD_none {L : List LA} {name : ByteArray} (h : L.find? (isNm name) = none) : atD L name = -1 := by
  unfold atD
  rw [if_neg]
  intro h1
  have h2 := List.findIdx_getElem (w := h1)
  have h3 := List.find?_eq_none.1 h _ (List.getElem_mem h1)
  exact h3 h2
theorem atD_some {L : List LA} {name : ByteArray} {x : LA} (h : L.find? (isNm name) = some x) : ∃ i : Nat, i < L.length ∧ L[i]? = some x ∧ atD L name = (i : Int) ∧ isNm name x = true ∧ ∀ j, j < i → ∀ y, L[j]? = some y → isNm name y = false := by
  obtain ⟨h1, i, hi, h2, h3⟩ := List.find?_eq_some_iff_getElem.1 h
  have hf : L.findIdx (isNm name) = i := by
    rw [List.findIdx_eq hi]
    exact ⟨by rw [h2]; exact h1, fun j hj => by simpa using h3 j hj⟩
  refine ⟨i, hi, by rw [List.getElem?_eq_getElem hi, h2], ?_, h1, fun j hj y hy => ?_⟩
  · unfold atD; rw [hf, if_pos hi]
  · have := h3 j hj
    rw [List.getElem?_eq_getElem (by omega)] at hy
    injection hy with hy
    rw [hy] at this
    simpa using this
theorem attrD_find (L : List LA) (name : ByteArray) : attrD (L.map attrOf) name = (L.find? (isNm name)).map LA.val := by
  unfold attrD
  rw [List.find?_map]
  show Option.map Prod.snd (Option.map attrOf (L.find? (isNm name))) = _
  cases L.find? (isNm name) <;> rfl

set_option maxHeartbeats 4000000 in
theorem attr_calls (w : World) (N : Nd) (h : NdIn w N) (hB : N.Bd 1099511627776) (name : ByteArray) :
    Calls Try.prog 29 #[N.v, .string name] w fun e w' => Below w.heap.size w w' ∧
      ((N.kind ≠ 1 ∧ e = .returned (.tuple #[.slice none 0 0, .bool false, .int .i64 63])) ∨
       (N.kind = 1 ∧ attrD (N.L.map attrOf) name = none ∧ e = .returned (.tuple #[.slice none 0 0, .bool false, .int .i64 0])) ∨
       (N.kind = 1 ∧ ∃ us a, attrD (N.L.map attrOf) name = some us ∧ e = .returned (.tuple #[.slice a us.length us.length, .bool true, .int .i64 0]) ∧ Clip16 w.heap.size w' a us)) := by
  have hat := fun w' (b : Below w.heap.size w w') => at_calls w' N (h.below b) name
  have hA := h.attrs
  obtain ⟨k, nm, da, dc, data, aa, ac, L, sl, ge⟩ := N
  have hv := hB.val
  simp only [Nd.v, Nd.cells] at *
  rw [attrD_find]
  obtain ⟨n, en⟩ : ∃ n, n = L.length := ⟨_, rfl⟩
  rw [← en] at hat ⊢
  have HN := Lib.hid en
  have HA := Lib.hid hA
  have HV := Lib.hid hv
  clear en hA h hB hv
  have hb0 : Below w.heap.size w (w.alloc (.cells #[.int .i64 k, .string nm, .slice da data.length dc, .slice aa n ac, .int .u32 sl, .int .u32 ge] 30)) := (Below.refl _ w).alloc (Nat.le_refl _) _
  have HB0 := Lib.hid hb0
  have HAT := Lib.hid (hat _ hb0)
  clear hb0 hat
  by_cases hk : k = 1
  · subst hk
    cases hf : L.find? (isNm name) with
    | none =>
      have HAT2 := HAT.out
      rw [atD_none hf] at HAT2
      have HAT3 := Lib.hid HAT2
      clear HAT2 HAT hf
      go_enter Try.func29, Try.ntmps29
      go_wp2_with (go_at_call 71; refine HAT3.out.mono ?_; rintro e w1 ⟨rfl, b1⟩)
      exact bodyPost_ret (v := .tuple #[.slice none 0 0, .bool false, .int .i64 0]) (by simp [results, Try.results29, go_sem]) rfl ⟨HB0.out.trans (b1.mono (by simp)), .inr (.inl ⟨trivial, rfl, rfl⟩)⟩
    | some x =>
      obtain ⟨i, hi, hx, hia, _, _⟩ := atD_some hf
      rw [← HN.out] at hi
      have HAT2 := HAT.out
      rw [hia] at HAT2
      have HAT3 := Lib.hid HAT2
      have HXV := Lib.hid (HV.out x (List.mem_of_getElem? hx))
      have HX := Lib.hid hx
      clear HAT2 HAT hf hx hia
      have p1 : (i : Int) < (n : Int) := by omega
      have p2 : (0 : Int) ≤ (i : Int) := by omega
      go_enter Try.func29, Try.ntmps29
      go_wp2_with fail
      refine HAT3.out.mono ?_
      rintro e w1 ⟨rfl, b1⟩
      have x0 := (b1.block w.heap.size (by simp)).trans (Go.heap_alloc_new w _)
      have c3 := cell_blk x0 3 rfl
      have l0 := lt_of_some x0
      simp at c3
      have B1 := Lib.hid (HB0.out.trans (b1.mono (by simp)))
      clear b1 x0
      obtain ⟨bb, off, rfl, hbl, c1, c2⟩ := (HA.out.below B1.out).get HX.out
      have HO := Lib.hid (own_calls w1 x.vc ((HA.out.below B1.out).val x (List.mem_of_getElem? HX.out)) HXV.out)
      have hs1 : w.heap.size ≤ w1.heap.size := by omega
      go_wp2_with (go_at_call 64; refine HO.out.mono ?_; rintro e w2 ⟨a', rfl, hc2, b2⟩)
      exact bodyPost_ret (v := .tuple #[.slice a' x.val.length x.val.length, .bool true, .int .i64 0]) (by simp [results, Try.results29, go_sem]) rfl ⟨B1.out.trans (b2.mono hs1), .inr (.inr ⟨trivial, x.val, a', rfl, rfl, ⟨by obtain ⟨cap, hr⟩ := hc2.row; exact ⟨cap, hr.mono hs1⟩, hc2.bnd, hc2.len⟩⟩)⟩
  · have hk2 : (k == 1) = false := by simpa using hk
    go_enter Try.func29, Try.ntmps29
    go_wp2
    exact bodyPost_ret (v := .tuple #[.slice none 0 0, .bool false, .int .i64 63]) (by simp [results, Try.results29, go_sem]) rfl ⟨HB0.out, .inl ⟨hk, rfl⟩⟩
end Go.Proofs.Ytelhnaphkbpakaa

namespace Go.Proofs.Ytelhnaphkbpakaa
open Go Go.RowKit
set_option linter.unusedVariables false

section
variable {P : Program} (w : World)
theorem run_append_full (t ty : TypeId) (e : TypeId) (i : TypeInfo) (z : Value) (size bytes : Nat) (ht : P.underlying t = some (.slice e)) (hi : P.info? e = some i) (hz : i.zero = some z)
    (hsize : i.size = size) (hby : i.bytes = bytes) (hzs : z.cells.size = size) (hsz : 0 < size)
    (ao : Option Addr) (n : Nat) (olds : List Value) (hlo : olds.length = n * size) (holds : ∀ j u, olds[j]? = some u → ∃ b, ao = some b ∧ w.cell? (b.add j) = some u) (hnil : ao = none → n = 0)
    (ad : Addr) (m c : Nat) (news : List Value) (hl : news.length = m * size) (hsrc : ∀ j u, news[j]? = some u → w.cell? (ad.add j) = some u) (h1 : ∀ u ∈ news, u.oneCell' = true) (hm : 0 < m)
    (h63 : n + m ≤ maxLen) (hbytes : (n + m) * bytes ≤ 140737488355328) :
    ∃ g c' w', (Builtin.append_ #[t, t] ty #[.slice ao n n, .slice (some ad) m c]).run P w = .ok (.slice (some ⟨g, 0, none⟩) (n + m) c') w' ∧ w'.ownsRow w.heap.size e size (.slice (some ⟨g, 0, none⟩) (n + m) c') (n + m) (olds ++ news) ∧ w.grownBy w' none ∧ w.heap.size ≤ g := by
  cases ao with
  | none =>
    obtain rfl := hnil rfl
    obtain rfl : olds = [] := List.eq_nil_of_length_eq_zero (by simpa using hlo)
    obtain ⟨g, c', w', hr, h2, h3, h4, _⟩ := run_append_lies (P := P) w t ty w.heap.size e i z size bytes ht hi hz hsize hby hzs hsz (.slice none 0 0) 0 [] (World.ownsRow_nil w _ e size) ad m c news hl hsrc h1 hm h63 hbytes (Nat.le_refl _) _ rfl
    refine ⟨g, c', w', hr, h2, h3, ?_⟩
    rcases h4 with h4 | h4
    · cases h4
    · exact Nat.le_of_eq h4.symm
  | some b =>
    obtain ⟨v', w', hr, r1, r2⟩ := run_append_arg_grows (P := P) w t ty e i z size bytes ht hi hz hsize hby hzs hsz b n n olds hlo (fun j u hj => by obtain ⟨b', hb, hc⟩ := holds j u hj; cases hb; exact hc) ad m c news hl hsrc (by omega) h63 hbytes
    obtain ⟨g', cap', rfl, hg, _⟩ := r1.form (by omega)
    exact ⟨g', cap', w', hr, r1, r2, hg⟩

theorem step_append_full {ops : Array Oper} {o : Oper} {a : Act} {K : Act → World → Prop} {Q : Exit → Act → World → Prop} {E : Prop} (hgd : o.guard = none) (s x : Operand) (t : TypeId)
    (ho : o.op = .call { callee := .builtin .append, args := #[s, x], argTypes := #[t, t] })
    (e : TypeId) (i : TypeInfo) (z : Value) (size bytes : Nat) (ht : P.underlying t = some (.slice e)) (hi : P.info? e = some i) (hz : i.zero = some z)
    (hsize : i.size = size) (hby : i.bytes = bytes) (hzs : z.cells.size = size) (hsz : 0 < size)
    (ao : Option Addr) (n : Nat) (olds : List Value) (hs : a.eval s = .slice ao n n) (hlo : olds.length = n * size) (holds : ∀ j u, olds[j]? = some u → ∃ b, ao = some b ∧ w.cell? (b.add j) = some u) (hnil : ao = none → n = 0)
    (ad : Addr) (m c : Nat) (news : List Value) (hx : a.eval x = .slice (some ad) m c) (hl : news.length = m * size) (hsrc : ∀ j u, news[j]? = some u → w.cell? (ad.add j) = some u) (h1 : ∀ u ∈ news, u.oneCell' = true) (hm : 0 < m)
    (h63 : n + m ≤ maxLen) (hbytes : (n + m) * bytes ≤ 140737488355328)
    (h : ∀ g c' w', w'.ownsRow w.heap.size e size (.slice (some ⟨g, 0, none⟩) (n + m) c') (n + m) (olds ++ news) → w.grownBy w' none → w.heap.size ≤ g → K (a.put o.dst (.slice (some ⟨g, 0, none⟩) (n + m) c')) w') :
    if Region.wanted o (yielded ops a.tmps) = true then Oper.wp P o a w K Q else E := by
  have hw : Region.wanted o (yielded ops a.tmps) = true := by simp [Region.wanted, hgd]
  rw [if_pos hw]
  obtain ⟨g, c', w', hr, h2, h3, h4⟩ := run_append_full (P := P) w t o.type e i z size bytes ht hi hz hsize hby hzs hsz ao n olds hlo holds hnil ad m c news hl hsrc h1 hm h63 hbytes
  unfold Oper.wp
  simp [execOp, ho, resolve, invoke, builtin, hs, hx, hr, Result.andThen]
  exact h g c' w' h2 h3 h4

theorem wpList_append_full {ops : Array Oper} {rest : List Oper} {o : Oper} {a : Act} {Q : Exit → Act → World → Prop} (hgd : o.guard = none) (s x : Operand) (t : TypeId)
    (ho : o.op = .call { callee := .builtin .append, args := #[s, x], argTypes := #[t, t] })
    (e : TypeId) (i : TypeInfo) (z : Value) (size bytes : Nat) (ht : P.underlying t = some (.slice e)) (hi : P.info? e = some i) (hz : i.zero = some z)
    (hsize : i.size = size) (hby : i.bytes = bytes) (hzs : z.cells.size = size) (hsz : 0 < size)
    (ao : Option Addr) (n : Nat) (olds : List Value) (hs : a.eval s = .slice ao n n) (hlo : olds.length = n * size) (holds : ∀ j u, olds[j]? = some u → ∃ b, ao = some b ∧ w.cell? (b.add j) = some u) (hnil : ao = none → n = 0)
    (ad : Addr) (m c : Nat) (news : List Value) (hx : a.eval x = .slice (some ad) m c) (hl : news.length = m * size) (hsrc : ∀ j u, news[j]? = some u → w.cell? (ad.add j) = some u) (h1 : ∀ u ∈ news, u.oneCell' = true) (hm : 0 < m)
    (h63 : n + m ≤ maxLen) (hbytes : (n + m) * bytes ≤ 140737488355328)
    (h : ∀ g c' w', w'.ownsRow w.heap.size e size (.slice (some ⟨g, 0, none⟩) (n + m) c') (n + m) (olds ++ news) → w.grownBy w' none → w.heap.size ≤ g → wpList P ops Q rest (a.put o.dst (.slice (some ⟨g, 0, none⟩) (n + m) c')) w') : wpList P ops Q (o :: rest) a w := by
  obtain ⟨g, c', w', hr, h2, h3, h4⟩ := run_append_full (P := P) w t o.type e i z size bytes ht hi hz hsize hby hzs hsz ao n olds hlo holds hnil ad m c news hl hsrc h1 hm h63 hbytes
  exact Lib.wpList_append_run w hgd s x t t ho _ _ hs hx _ w' hr (h g c' w' h2 h3 h4)
end
end Go.Proofs.Ytelhnaphkbpakaa

