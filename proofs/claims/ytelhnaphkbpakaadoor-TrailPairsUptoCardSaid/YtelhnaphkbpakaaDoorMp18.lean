/- Part 18 of the proof of TpP: lemmas. -/
import Derived.Test.YtelhnaphkbpakaaDoorMp17
namespace Go.Proofs.YtelhnaphkbpakaaDoor
open Go.RowKit
set_option linter.unusedVariables false
set_option maxRecDepth 100000
theorem OutW.set {lo hi : Nat} {V w : World} (h : OutW lo hi V w) {a : Addr} (h1 : lo ≤ a.block) (h2 : a.block < hi) (v : Value) : OutW lo hi V (w.setCell a v) :=
  ⟨by rw [World.size_setCell]; exact h.size, h.os, h.tape, h.output, fun k o hk ho => set_other (h.block k o hk ho) (by rintro rfl; omega) v⟩
theorem OutW.drewN {lo hi : Nat} {V w : World} (h : OutW lo hi V w) (k : Nat) : OutW lo hi V (w.drewN k) := ⟨h.size, h.os, h.tape, h.output, h.block⟩
theorem row_drewN {w : World} {B : Nat} {e : TypeId} {size : Nat} {v : Value} {n : Nat} {ys : List Value} (h : w.ownsRow B e size v n ys) (k : Nat) : (w.drewN k).ownsRow B e size v n ys := row_below h (((FrT.refl [] w.heap.size w).drewN k).below (Nat.le_refl _))
theorem cellsA_put {L : List LA} {i : Nat} (h : i < L.length) (y : LA) : cellsA (L.set i y) = ((cellsA L).set (i * 2) (.string y.name)).set (i * 2 + 1) (.slice y.va y.val.length y.vc) := by
  induction L generalizing i with
  | nil => simp at h
  | cons z l ih =>
    have e (z : LA) (m : List LA) : cellsA (z :: m) = .string z.name :: .slice z.va z.val.length z.vc :: cellsA m := rfl
    cases i with
    | zero => rfl
    | succ i =>
      have h2 : i < l.length := by simpa using h
      rw [List.set_cons_succ, e, e, ih h2, show (i + 1) * 2 = i * 2 + 1 + 1 by omega]
      rfl
theorem swOff {w : World} {g i j : Nat} (h : i ≠ j) (v : Value) : (w.setCell ⟨g, j, none⟩ v).cell? ⟨g, i, none⟩ = w.cell? ⟨g, i, none⟩ := by
  have : (⟨g, j, none⟩ : Addr) ≠ ⟨g, i, none⟩ := fun e => h (by cases e; rfl)
  exact World.cell?_setCell_other _ _ _ _ this
def swapW (w : World) (g i j : Nat) (x y : LA) : World := (((w.setCell ⟨g, i * 2, none⟩ (.string y.name)).setCell ⟨g, i * 2 + 1, none⟩ (.slice y.va y.val.length y.vc)).setCell ⟨g, j * 2, none⟩ (.string x.name)).setCell ⟨g, j * 2 + 1, none⟩ (.slice x.va x.val.length x.vc)
theorem row_swap {lo hi B : Nat} {V wr : World} {a : Option Addr} {n cap i j : Nat} {L : List LA} {x y : LA} (ho : OutW lo hi V wr) (hr : wr.ownsRow B 114 2 (.slice a n cap) n (cellsA L)) (hg : ∀ g, (Value.slice a n cap).ownBlock = some g → lo ≤ g ∧ g < hi) (hx : L[i]? = some x) (hy : L[j]? = some y) :
    ∃ g, a = some ⟨g, 0, none⟩ ∧ g < wr.heap.size ∧ wr.cell? ⟨g, i * 2, none⟩ = some (.string x.name) ∧ wr.cell? ⟨g, i * 2 + 1, none⟩ = some (.slice x.va x.val.length x.vc) ∧ wr.cell? ⟨g, j * 2, none⟩ = some (.string y.name) ∧ wr.cell? ⟨g, j * 2 + 1, none⟩ = some (.slice y.va y.val.length y.vc) ∧ (∀ k, wr.frozen? ⟨g, k, none⟩ = false) ∧
      OutW lo hi V (swapW wr g i j x y) ∧ (swapW wr g i j x y).ownsRow B 114 2 (.slice a n cap) n (cellsA ((L.set i y).set j x)) := by
  obtain ⟨b, rfl, hb, c0⟩ := row_src hr (cellsA_at hx).1
  obtain ⟨b1, e1, _, c1⟩ := row_src hr (cellsA_at hx).2
  obtain ⟨b2, e2, _, c2⟩ := row_src hr (cellsA_at hy).1
  obtain ⟨b3, e3, _, c3⟩ := row_src hr (cellsA_at hy).2
  cases e1; cases e2; cases e3
  rw [Nat.zero_add] at c0 c1 c2 c3
  obtain ⟨cur, hblk, hB⟩ := rwBlk hr
  obtain ⟨h1, h2⟩ := hg b rfl
  refine ⟨b, rfl, hb, c0, c1, c2, c3, fun k => free_blk hblk k, ?_, ?_⟩
  · exact (((ho.set (a := ⟨b, i * 2, none⟩) h1 h2 _).set (a := ⟨b, i * 2 + 1, none⟩) h1 h2 _).set (a := ⟨b, j * 2, none⟩) h1 h2 _).set (a := ⟨b, j * 2 + 1, none⟩) h1 h2 _
  · have hi' := (List.getElem?_eq_some_iff.1 hx).1
    have hj' := (List.getElem?_eq_some_iff.1 hy).1
    rw [cellsA_put (by rw [List.length_set]; exact hj'), cellsA_put hi']
    exact ((((hr.stored (i * 2) _).1.stored (i * 2 + 1) _).1.stored (j * 2) _).1.stored (j * 2 + 1) _).1
theorem swap_perm {L : List LA} {i j : Nat} {x y : LA} (hx : L[i]? = some x) (hy : L[j]? = some y) : ((L.set i y).set j x).Perm L := by
  have hi := (List.getElem?_eq_some_iff.1 hx).1
  have hj := (List.getElem?_eq_some_iff.1 hy).1
  have ex : L[i] = x := by rw [List.getElem?_eq_getElem hi] at hx; exact Option.some.inj hx
  have ey : L[j] = y := by rw [List.getElem?_eq_getElem hj] at hy; exact Option.some.inj hy
  subst ex ey
  exact List.set_set_perm hi hj
theorem swap_at {L : List LA} {i j : Nat} {x y : LA} (hx : L[i]? = some x) (hy : L[j]? = some y) (k : Nat) : ((L.set i y).set j x)[k]? = if k = j then some x else if k = i then some y else L[k]? := by
  have hi := (List.getElem?_eq_some_iff.1 hx).1
  have hj := (List.getElem?_eq_some_iff.1 hy).1
  by_cases e : k = j
  · subst e; rw [if_pos rfl, List.getElem?_set_self (by rw [List.length_set]; exact hj)]
  · rw [if_neg e, List.getElem?_set_ne (Ne.symm e)]
    by_cases e2 : k = i
    · subst e2; rw [if_pos rfl, List.getElem?_set_self hi]
    · rw [if_neg e2, List.getElem?_set_ne (Ne.symm e2)]
structure RowTo (lo hi B : Nat) (V w : World) (a : Option Addr) (n cap : Nat) (L : List LA) : Prop where
  out : OutW lo hi V w
  row : w.ownsRow B 114 2 (.slice a n cap) n (cellsA L)
theorem RowTo.drewN {lo hi B : Nat} {V w : World} {a : Option Addr} {n cap : Nat} {L : List LA} (h : RowTo lo hi B V w a n cap L) (k : Nat) : RowTo lo hi B V (w.drewN k) a n cap L := ⟨h.out.drewN k, row_drewN h.row k⟩
theorem RowTo.drew {lo hi B : Nat} {V w : World} {a : Option Addr} {n cap : Nat} {L : List LA} (h : RowTo lo hi B V w a n cap L) : RowTo lo hi B V w.drew a n cap L := ⟨⟨h.out.size, h.out.os, h.out.tape, h.out.output, h.out.block⟩, row_below h.row (((FrT.refl [] w.heap.size w).drew).below (Nat.le_refl _))⟩
theorem RowTo.len {lo hi B : Nat} {V w : World} {a : Option Addr} {n cap : Nat} {L : List LA} (h : RowTo lo hi B V w a n cap L) : L.length = n := by have h1 := h.row.1; rw [cellsA_len] at h1; omega
set_option maxHeartbeats 4000000 in
theorem swapRange_calls (w : World) (F : Value) {lo hi B : Nat} {V : World} {a : Option Addr} {n cap : Nat} {L : List LA} (h : RowTo lo hi B V w a n cap L) (hg : ∀ g, (Value.slice a n cap).ownBlock = some g → lo ≤ g ∧ g < hi) (p q c : Nat) (hn : n ≤ 1099511627776) (hp : p + c ≤ n) (hq : q + c ≤ n) (hpq : p + c ≤ q ∨ q + c ≤ p) :
    Calls Tryd.prog 124 #[.slice a n cap, .int .i64 (p : Int), .int .i64 (q : Int), .int .i64 (c : Int), F] w fun e w' => (∃ v, e = .returned v) ∧ ∃ L', RowTo lo hi B V w' a n cap L' ∧ L'.Perm L ∧ ∀ k, L'[k]? = if p ≤ k ∧ k < p + c then L[k - p + q]? else if q ≤ k ∧ k < q + c then L[k - q + p]? else L[k]? := by
  have HH := Lib.hid h
  have HG := Lib.hid hg
  clear h hg
  go_enter Tryd.func124, Tryd.ntmps124
  go_wp2_with fail
  go_loopw [10] (fun v wr => ∃ (i : Nat) (L' : List LA), v = .int .i64 (i : Nat) ∧ i ≤ c ∧ RowTo lo hi B V wr a n cap L' ∧ L'.Perm L ∧ ∀ k, L'[k]? = if p ≤ k ∧ k < p + i then L[k - p + q]? else if q ≤ k ∧ k < q + i then L[k - q + p]? else L[k]?) (fun v _ => c - (intOf v).toNat)
  case atStart => exact ⟨0, L, rfl, Nat.zero_le _, HH.out, List.Perm.refl _, fun k => by rw [if_neg (by omega), if_neg (by omega)]⟩
  case round =>
    obtain ⟨i, L', rfl, hi', hR, hperm, hat⟩ := hrel
    by_cases hlt : i < c
    · have hL := hR.len
      obtain ⟨x, hx⟩ : ∃ x, L'[p + i]? = some x := ⟨_, List.getElem?_eq_getElem (by omega)⟩
      obtain ⟨y, hy⟩ : ∃ y, L'[q + i]? = some y := ⟨_, List.getElem?_eq_getElem (by omega)⟩
      obtain ⟨g, hga, lg, c0, c1, c2, c3, hfr, hout, hrow⟩ := row_swap hR.out hR.row HG.out hx hy
      subst hga
      have HX := Lib.hid (And.intro hx (And.intro hy (And.intro hperm (And.intro hat (And.intro hout hrow)))))
      have r1 : (i : Int) < (c : Int) := by omega
      have w1 : IntKind.i64.wrap ((p : Int) + (i : Int)) = (p : Int) + (i : Int) := IntWalk.i64_in _ (by omega)
      have w2 : IntKind.i64.wrap ((q : Int) + (i : Int)) = (q : Int) + (i : Int) := IntWalk.i64_in _ (by omega)
      have t1 : ((p : Int) + (i : Int)).toNat = p + i := by omega
      have t2 : ((q : Int) + (i : Int)).toNat = q + i := by omega
      have b1 : (0 : Int) ≤ (p : Int) + (i : Int) := by omega
      have b2 : (0 : Int) ≤ (q : Int) + (i : Int) := by omega
      have b3 : (p : Int) + (i : Int) < (n : Int) := by omega
      have b4 : (q : Int) + (i : Int) < (n : Int) := by omega
      have f0 := hfr ((p + i) * 2)
      have f1 := hfr ((p + i) * 2 + 1)
      obtain ⟨xl, exl⟩ : ∃ xl, xl = x.val.length := ⟨_, rfl⟩
      obtain ⟨yl, eyl⟩ : ∃ yl, yl = y.val.length := ⟨_, rfl⟩
      rw [← exl] at c1
      rw [← eyl] at c3
      have HXL := Lib.hid (And.intro exl eyl)
      clear hR hx hy hperm hat hout hrow hL exl eyl
      have hne : p + i ≠ q + i := by omega
      have HW1 : Hid (∀ v0 v1, ((wr.setCell ⟨g, (p + i) * 2, none⟩ v0).setCell ⟨g, (p + i) * 2 + 1, none⟩ v1).cell? ⟨g, (q + i) * 2, none⟩ = some (.string y.name) ∧ ((wr.setCell ⟨g, (p + i) * 2, none⟩ v0).setCell ⟨g, (p + i) * 2 + 1, none⟩ v1).cell? ⟨g, (q + i) * 2 + 1, none⟩ = some (.slice y.va yl y.vc) ∧ g < ((wr.setCell ⟨g, (p + i) * 2, none⟩ v0).setCell ⟨g, (p + i) * 2 + 1, none⟩ v1).heap.size ∧ ∀ k, ((wr.setCell ⟨g, (p + i) * 2, none⟩ v0).setCell ⟨g, (p + i) * 2 + 1, none⟩ v1).frozen? ⟨g, k, none⟩ = false) := Lib.hid (fun v0 v1 => by
        refine ⟨(swOff (by omega) _).trans ((swOff (by omega) _).trans c2), (swOff (by omega) _).trans ((swOff (by omega) _).trans c3), by simpa using lg, fun k => by rw [World.frozen?_setCell, World.frozen?_setCell]; exact hfr k⟩)
      clear hfr hne
      go_wp2_with fail
      refine wp_region_held_drew (S := fun _ => True) (by kernel_rfl) trivial (fun hHeld => ?_)
      refine wpAnyH_take (i := 0) (v := ?_) rfl (by kernel_rfl) (by kernel_rfl) (by kernel_rfl) (fun _ _ _ h => h) (Or.inl ⟨by rfl, ?_⟩) (by assumption) ?_
      rotate_left
      · intro w hSw; (try dsimp only at hSw); go_simp; try with_reducible rfl
      refine wpAnyH_take (i := 1) (v := ?_) rfl (by kernel_rfl) (by kernel_rfl) (by kernel_rfl) (fun _ _ _ h => h) (Or.inl ⟨by rfl, ?_⟩) (by assumption) ?_
      rotate_left
      · intro w hSw; (try dsimp only at hSw); go_simp; try with_reducible rfl
      refine wpAnyH_take (i := 2) (v := ?_) rfl (by kernel_rfl) (by kernel_rfl) (by kernel_rfl) (fun _ _ _ h => h) (Or.inl ⟨by rfl, ?_⟩) (by assumption) ?_
      rotate_left
      · intro w hSw; (try dsimp only at hSw); go_simp; try with_reducible rfl
      refine wpAnyH_take (i := 3) (v := ?_) rfl (by kernel_rfl) (by kernel_rfl) (by kernel_rfl) (fun _ _ _ h => h) (Or.inl ⟨by rfl, ?_⟩) (by assumption) ?_
      rotate_left
      · intro w hSw; (try dsimp only at hSw); go_simp; try with_reducible rfl
      refine wpAnyH_take (i := 4) (v := ?_) rfl (by kernel_rfl) (by kernel_rfl) (by kernel_rfl) (fun _ _ _ h => h) (Or.inl ⟨by rfl, ?_⟩) (by assumption) ?_
      rotate_left
      · intro w hSw; (try dsimp only at hSw); go_simp; try with_reducible rfl
      refine wpAnyH_take (i := 5) (v := ?_) rfl (by kernel_rfl) (by kernel_rfl) (by kernel_rfl) (fun _ _ _ h => h) (Or.inl ⟨by rfl, ?_⟩) (by assumption) ?_
      rotate_left
      · intro w hSw; (try dsimp only at hSw); go_simp; try with_reducible rfl
      refine wpAnyH_take (i := 6) (v := ?_) rfl (by kernel_rfl) (by kernel_rfl) (by kernel_rfl) (fun _ _ _ h => h) (Or.inl ⟨by rfl, ?_⟩) (by assumption) ?_
      rotate_left
      · intro w hSw; (try dsimp only at hSw); go_simp; try with_reducible rfl
      refine wpAnyH_take (i := 7) (v := ?_) rfl (by kernel_rfl) (by kernel_rfl) (by kernel_rfl) (fun _ _ _ h => h) (Or.inl ⟨by rfl, ?_⟩) (by assumption) ?_
      rotate_left
      · intro w hSw; (try dsimp only at hSw); go_simp; try with_reducible rfl
      refine wpAnyH_take (i := 8) (v := ?_) rfl (by kernel_rfl) (by kernel_rfl) (by kernel_rfl) (fun _ _ _ h => h) (Or.inl ⟨by rfl, ?_⟩) (by assumption) ?_
      rotate_left
      · intro w hSw; (try dsimp only at hSw); go_simp; try with_reducible rfl
      refine wpAnyH_take (i := 9) (v := ?_) rfl (by kernel_rfl) (by kernel_rfl) (by kernel_rfl) (fun _ _ _ h => h) (Or.inl ⟨by rfl, ?_⟩) (by assumption) ?_
      rotate_left
      · intro w hSw; (try dsimp only at hSw); go_simp; try with_reducible rfl
      refine wpAnyH_take (i := 10) (v := ?_) rfl (by kernel_rfl) (by kernel_rfl) (by kernel_rfl) (fun _ _ _ h => h) (Or.inl ⟨by rfl, ?_⟩) (by assumption) ?_
      rotate_left
      · intro w hSw; (try dsimp only at hSw); go_simp; try with_reducible rfl
      refine wpAnyH_take (i := 11) (v := ?_) rfl (by kernel_rfl) (by kernel_rfl) (by kernel_rfl) (fun _ _ _ h => h) (Or.inl ⟨by rfl, ?_⟩) (by assumption) ?_
      rotate_left
      · intro w hSw; (try dsimp only at hSw); go_simp; try with_reducible rfl
      refine wpAnyH_take (i := 12) (v := ?_) rfl (by kernel_rfl) (by kernel_rfl) (by kernel_rfl) (fun _ _ _ h => h) (Or.inl ⟨by rfl, ?_⟩) (by assumption) ?_
      rotate_left
      · intro w hSw; (try dsimp only at hSw); go_simp; try with_reducible rfl
      refine wpAnyH_take (i := 14) (v := ?_) rfl (by kernel_rfl) (by kernel_rfl) (by kernel_rfl) (fun _ _ _ h => h) (Or.inl ⟨by rfl, ?_⟩) (by assumption) ?_
      rotate_left
      · intro w hSw; (try dsimp only at hSw); go_simp; try with_reducible rfl
      refine wpAnyH_take (i := 15) (v := ?_) rfl (by kernel_rfl) (by kernel_rfl) (by kernel_rfl) (fun _ _ _ h => h) (Or.inl ⟨by rfl, ?_⟩) (by assumption) ?_
      rotate_left
      · intro w hSw; (try dsimp only at hSw); go_simp; try with_reducible rfl
      refine wpAnyH_take (i := 16) (v := ?_) rfl (by kernel_rfl) (by kernel_rfl) (by kernel_rfl) (fun _ _ _ h => h) (Or.inl ⟨by rfl, ?_⟩) (by assumption) ?_
      rotate_left
      · intro w hSw; (try dsimp only at hSw); go_simp; try with_reducible rfl
      refine wpAnyH_take (i := 17) (v := ?_) rfl (by kernel_rfl) (by kernel_rfl) (by kernel_rfl) (fun _ _ _ h => h) (Or.inl ⟨by rfl, ?_⟩) (by assumption) ?_
      rotate_left
      · intro w hSw; (try dsimp only at hSw); go_simp; try with_reducible rfl
      refine wpAnyH_take (i := 18) (v := ?_) rfl (by kernel_rfl) (by kernel_rfl) (by kernel_rfl) (fun _ _ _ h => h) (Or.inl ⟨by rfl, ?_⟩) (by assumption) ?_
      rotate_left
      · intro w hSw; (try dsimp only at hSw); go_simp; try with_reducible rfl
      refine wpAnyH_ready (rs := [13, 19]) (by kernel_rfl) (by simp) ?_
      refine AllReadyH.cons rfl (fun K' hK => ?_) (AllReadyH.cons rfl (fun K' hK => ?_) AllReadyH.nil)
      · go_simp
        refine hK.out _ _ trivial (fun hHeld => ?_)
        clear hK K'
        refine wpAnyH_ready (rs := [19]) (by kernel_rfl) (by simp) ?_
        refine AllReadyH.cons rfl (fun K' hK => ?_) AllReadyH.nil
        go_simp
        refine hK.out _ _ trivial (fun hHeld => ?_)
        clear hK K'
        refine wpAnyH_take (i := 20) (v := ?_) rfl (by kernel_rfl) (by kernel_rfl) (by kernel_rfl) (fun _ _ _ h => h) (Or.inl ⟨by rfl, ?_⟩) (by assumption) ?_
        rotate_left
        · intro w hSw; (try dsimp only at hSw); go_simp; try with_reducible rfl
        refine wpAnyH_ready (rs := [21]) (by kernel_rfl) (by simp) ?_
        refine AllReadyH.cons rfl (fun K' hK => ?_) AllReadyH.nil
        go_simp
        refine hK.out _ _ trivial (fun hHeld => ?_)
        clear hK K' c0 c1 c2 c3 f0 f1
        obtain ⟨e0, e1, e2, e3⟩ := HW1.out (.string y.name) (.slice y.va yl y.vc)
        have f2 := e3 ((q + i) * 2)
        have f3 := e3 ((q + i) * 2 + 1)
        clear e3
        refine wpAnyH_take (i := 22) (v := ?_) rfl (by kernel_rfl) (by kernel_rfl) (by kernel_rfl) (fun _ _ _ h => h) (Or.inl ⟨by rfl, ?_⟩) (by assumption) ?_
        rotate_left
        · intro w hSw; (try dsimp only at hSw); go_simp; try with_reducible rfl
        refine wpAnyH_ready (rs := [23]) (by kernel_rfl) (by simp) ?_
        refine AllReadyH.cons rfl (fun K' hK => ?_) AllReadyH.nil
        go_simp
        refine hK.out _ _ trivial (fun hHeld => ?_)
        clear hK K' e0 e1 e2 f2 f3
        refine wpAnyH_done (by kernel_rfl) ?_ _
        clear hHeld
        go_wp2
        go_roundw
        case rel =>
          obtain ⟨hx, hy, hperm, hat, hout, hrow⟩ := HX.out
          refine ⟨i + 1, (L'.set (p + i) y).set (q + i) x, by go_num, hlt, ?_, (swap_perm hx hy).trans hperm, fun k => ?_⟩
          · rw [HXL.out.1, HXL.out.2]
            exact RowTo.drew ⟨hout, hrow⟩
          · rw [swap_at hx hy]
            have ex := hat (p + i)
            rw [hx, if_neg (by omega), if_neg (by omega)] at ex
            have ey := hat (q + i)
            rw [hy, if_neg (by omega), if_neg (by omega)] at ey
            by_cases k1 : k = q + i
            · subst k1
              rw [if_pos rfl, if_neg (by omega), if_pos (by omega), show q + i - q + p = p + i by omega]; exact ex
            · rw [if_neg k1]
              by_cases k2 : k = p + i
              · subst k2
                rw [if_pos rfl, if_pos (by omega), show p + i - p + q = q + i by omega]; exact ey
              · rw [if_neg k2, hat k]
                have hA : (p ≤ k ∧ k < p + (i + 1)) ↔ (p ≤ k ∧ k < p + i) := by omega
                have hB : (q ≤ k ∧ k < q + (i + 1)) ↔ (q ≤ k ∧ k < q + i) := by omega
                simp only [hA, hB]
        case measure => simp [intOf]; omega
      · go_simp
        refine hK.out _ _ trivial (fun hHeld => ?_)
        clear hK K'
        refine wpAnyH_ready (rs := [13]) (by kernel_rfl) (by simp) ?_
        refine AllReadyH.cons rfl (fun K' hK => ?_) AllReadyH.nil
        go_simp
        refine hK.out _ _ trivial (fun hHeld => ?_)
        clear hK K'
        refine wpAnyH_take (i := 20) (v := ?_) rfl (by kernel_rfl) (by kernel_rfl) (by kernel_rfl) (fun _ _ _ h => h) (Or.inl ⟨by rfl, ?_⟩) (by assumption) ?_
        rotate_left
        · intro w hSw; (try dsimp only at hSw); go_simp; try with_reducible rfl
        refine wpAnyH_ready (rs := [21]) (by kernel_rfl) (by simp) ?_
        refine AllReadyH.cons rfl (fun K' hK => ?_) AllReadyH.nil
        go_simp
        refine hK.out _ _ trivial (fun hHeld => ?_)
        clear hK K' c0 c1 c2 c3 f0 f1
        obtain ⟨e0, e1, e2, e3⟩ := HW1.out (.string y.name) (.slice y.va yl y.vc)
        have f2 := e3 ((q + i) * 2)
        have f3 := e3 ((q + i) * 2 + 1)
        clear e3
        refine wpAnyH_take (i := 22) (v := ?_) rfl (by kernel_rfl) (by kernel_rfl) (by kernel_rfl) (fun _ _ _ h => h) (Or.inl ⟨by rfl, ?_⟩) (by assumption) ?_
        rotate_left
        · intro w hSw; (try dsimp only at hSw); go_simp; try with_reducible rfl
        refine wpAnyH_ready (rs := [23]) (by kernel_rfl) (by simp) ?_
        refine AllReadyH.cons rfl (fun K' hK => ?_) AllReadyH.nil
        go_simp
        refine hK.out _ _ trivial (fun hHeld => ?_)
        clear hK K' e0 e1 e2 f2 f3
        refine wpAnyH_done (by kernel_rfl) ?_ _
        clear hHeld
        go_wp2
        go_roundw
        case rel =>
          obtain ⟨hx, hy, hperm, hat, hout, hrow⟩ := HX.out
          refine ⟨i + 1, (L'.set (p + i) y).set (q + i) x, by go_num, hlt, ?_, (swap_perm hx hy).trans hperm, fun k => ?_⟩
          · rw [HXL.out.1, HXL.out.2]
            exact RowTo.drew ⟨hout, hrow⟩
          · rw [swap_at hx hy]
            have ex := hat (p + i)
            rw [hx, if_neg (by omega), if_neg (by omega)] at ex
            have ey := hat (q + i)
            rw [hy, if_neg (by omega), if_neg (by omega)] at ey
            by_cases k1 : k = q + i
            · subst k1
              rw [if_pos rfl, if_neg (by omega), if_pos (by omega), show q + i - q + p = p + i by omega]; exact ex
            · rw [if_neg k1]
              by_cases k2 : k = p + i
              · subst k2
                rw [if_pos rfl, if_pos (by omega), show p + i - p + q = q + i by omega]; exact ey
              · rw [if_neg k2, hat k]
                have hA : (p ≤ k ∧ k < p + (i + 1)) ↔ (p ≤ k ∧ k < p + i) := by omega
                have hB : (q ≤ k ∧ k < q + (i + 1)) ↔ (q ≤ k ∧ k < q + i) := by omega
                simp only [hA, hB]
        case measure => simp [intOf]; omega
    · obtain rfl : c = i := by omega
      have r1 : ¬ (c : Int) < (c : Int) := by omega
      have HX := Lib.hid (And.intro hR (And.intro hperm hat))
      clear hR hperm hat hlt
      go_wp2_with fail
      go_end0
      exact ⟨⟨_, rfl⟩, L', HX.out.1, HX.out.2.1, HX.out.2.2⟩
def rotF (f : Nat → Option LA) (s m e k : Nat) : Option LA := if s ≤ k ∧ k < e then (if k < s + (e - m) then f (k + (m - s)) else f (k - (e - m))) else f k
def swpF (f : Nat → Option LA) (p q c k : Nat) : Option LA := if p ≤ k ∧ k < p + c then f (k - p + q) else if q ≤ k ∧ k < q + c then f (k - q + p) else f k
theorem rot1 (f : Nat → Option LA) {m i j : Nat} (hi : i ≤ m) (hji : j < i) (hj : 0 < j) (k : Nat) : rotF (swpF f (m - i) m j) (m - (i - j)) m (m + j) k = rotF f (m - i) m (m + j) k := by
  unfold rotF swpF
  repeat' split
  all_goals first | rfl | (exfalso; omega) | (congr 1; omega)
theorem rot2 (f : Nat → Option LA) {m i j : Nat} (hi : i ≤ m) (hij : i < j) (h0 : 0 < i) (k : Nat) : rotF (swpF f (m - i) (m + j - i) i) (m - i) m (m + (j - i)) k = rotF f (m - i) m (m + j) k := by
  unfold rotF swpF
  repeat' split
  all_goals first | rfl | (exfalso; omega) | (congr 1; omega)
theorem rot3 (f : Nat → Option LA) {m i : Nat} (hi : i ≤ m) (k : Nat) : swpF f (m - i) m i k = rotF f (m - i) m (m + i) k := by
  unfold rotF swpF
  repeat' split
  all_goals first | rfl | (exfalso; omega) | (congr 1; omega)
theorem rotF_congr {f g : Nat → Option LA} (h : ∀ k, f k = g k) (s m e k : Nat) : rotF f s m e k = rotF g s m e k := by
  have : f = g := funext h
  rw [this]
set_option maxHeartbeats 4000000 in
theorem rotate_calls (w : World) (F : Value) {lo hi B : Nat} {V : World} {a : Option Addr} {n cap : Nat} {L : List LA} (h : RowTo lo hi B V w a n cap L) (hg : ∀ g, (Value.slice a n cap).ownBlock = some g → lo ≤ g ∧ g < hi) (s m b : Nat) (hn : n ≤ 1099511627776) (hsm : s < m) (hmb : m < b) (hb : b ≤ n) :
    Calls Tryd.prog 120 #[.slice a n cap, .int .i64 (s : Int), .int .i64 (m : Int), .int .i64 (b : Int), F] w fun e w' => (∃ v, e = .returned v) ∧ ∃ L', RowTo lo hi B V w' a n cap L' ∧ L'.Perm L ∧ ∀ k, L'[k]? = rotF (fun k => L[k]?) s m b k := by
  have HH := Lib.hid h
  have HG := Lib.hid hg
  have q0 : IntKind.i64.wrap ((m : Int) - (s : Int)) = (m : Int) - (s : Int) := IntWalk.i64_in _ (by omega)
  have q1 : IntKind.i64.wrap ((b : Int) - (m : Int)) = (b : Int) - (m : Int) := IntWalk.i64_in _ (by omega)
  have i0 : (m : Int) - (s : Int) = ((m - s : Nat) : Int) := by omega
  have j0 : (b : Int) - (m : Int) = ((b - m : Nat) : Int) := by omega
  have H0 := Lib.hid (And.intro i0 j0)
  clear h hg i0 j0
  go_enter Tryd.func120, Tryd.ntmps120
  go_wp2_with fail
  go_loopw [10, 11] (fun vi vj wr => ∃ (i j : Nat) (L' : List LA), vi = .int .i64 (i : Nat) ∧ vj = .int .i64 (j : Nat) ∧ 0 < i ∧ 0 < j ∧ i ≤ m ∧ m + j ≤ n ∧ RowTo lo hi B V wr a n cap L' ∧ L'.Perm L ∧ ∀ k, rotF (fun k => L'[k]?) (m - i) m (m + j) k = rotF (fun k => L[k]?) s m b k) (fun vi vj _ => (intOf vi).toNat + (intOf vj).toNat)
  case atStart => exact ⟨m - s, b - m, L, by rw [← H0.out.1], by rw [← H0.out.2], by omega, by omega, by omega, by omega, HH.out, List.Perm.refl _, fun k => by rw [show m - (m - s) = s by omega, show m + (b - m) = b by omega]⟩
  case round =>
    obtain ⟨i, j, L', rfl, rfl, hi0, hj0, him, hjn, hR, hperm, hat⟩ := hrel
    have HX := Lib.hid (And.intro hR (And.intro hperm hat))
    clear hR hperm hat q0 q1
    by_cases hij : i = j
    · subst hij
      have hne : ((i : Int) != (i : Int)) = false := by simp
      have q2 : IntKind.i64.wrap ((m : Int) - (i : Int)) = (m : Int) - (i : Int) := IntWalk.i64_in _ (by omega)
      have hsw := swapRange_calls wr F HX.out.1 HG.out (m - i) m i hn (by omega) (by omega) (by omega)
      rw [show ((m - i : Nat) : Int) = (m : Int) - (i : Int) by omega] at hsw
      have HSW := Lib.hid hsw
      clear hsw
      go_wp2_with fail
      refine HSW.out.mono ?_
      rintro e w2 ⟨⟨v, rfl⟩, L2, hR2, hp2, ha2⟩
      have H2 := Lib.hid (And.intro hR2 (And.intro hp2 ha2))
      clear hR2 hp2 ha2
      go_wp2_with fail
      go_end0
      refine ⟨⟨_, rfl⟩, L2, H2.out.1, H2.out.2.1.trans HX.out.2.1, fun k => ?_⟩
      rw [← HX.out.2.2 k, ← rot3 _ him]
      exact H2.out.2.2 k
    · have hne : ((i : Int) != (j : Int)) = true := by simp; omega
      by_cases hgt : j < i
      · have p1 : (j : Int) < (i : Int) := by omega
        have q2 : IntKind.i64.wrap ((m : Int) - (i : Int)) = (m : Int) - (i : Int) := IntWalk.i64_in _ (by omega)
        have q3 : IntKind.i64.wrap ((i : Int) - (j : Int)) = (i : Int) - (j : Int) := IntWalk.i64_in _ (by omega)
        have hsw := swapRange_calls wr F HX.out.1 HG.out (m - i) m j hn (by omega) (by omega) (by omega)
        rw [show ((m - i : Nat) : Int) = (m : Int) - (i : Int) by omega] at hsw
        have HSW := Lib.hid hsw
        clear hsw
        go_wp2_with fail
        refine HSW.out.mono ?_
        rintro e w2 ⟨⟨v, rfl⟩, L2, hR2, hp2, ha2⟩
        have H2 := Lib.hid (And.intro hR2 (And.intro hp2 ha2))
        clear hR2 hp2 ha2
        go_wp2_with fail
        go_roundw
        case rel =>
          refine ⟨i - j, j, L2, by first | (congr 1; omega) | (go_num; done), rfl, by omega, hj0, by omega, hjn, H2.out.1, H2.out.2.1.trans HX.out.2.1, fun k => ?_⟩
          rw [← HX.out.2.2 k, ← rot1 _ him hgt hj0]
          exact rotF_congr H2.out.2.2 _ _ _ k
        case measure => simp [intOf]; omega
      · have p1 : ¬ (j : Int) < (i : Int) := by omega
        have q2 : IntKind.i64.wrap ((m : Int) - (i : Int)) = (m : Int) - (i : Int) := IntWalk.i64_in _ (by omega)
        have q3 : IntKind.i64.wrap ((m : Int) + (j : Int)) = (m : Int) + (j : Int) := IntWalk.i64_in _ (by omega)
        have q4 : IntKind.i64.wrap ((m : Int) + (j : Int) - (i : Int)) = (m : Int) + (j : Int) - (i : Int) := IntWalk.i64_in _ (by omega)
        have q5 : IntKind.i64.wrap ((j : Int) - (i : Int)) = (j : Int) - (i : Int) := IntWalk.i64_in _ (by omega)
        have hsw := swapRange_calls wr F HX.out.1 HG.out (m - i) (m + j - i) i hn (by omega) (by omega) (by omega)
        rw [show ((m - i : Nat) : Int) = (m : Int) - (i : Int) by omega, show ((m + j - i : Nat) : Int) = (m : Int) + (j : Int) - (i : Int) by omega] at hsw
        have HSW := Lib.hid hsw
        clear hsw
        go_wp2_with fail
        refine HSW.out.mono ?_
        rintro e w2 ⟨⟨v, rfl⟩, L2, hR2, hp2, ha2⟩
        have H2 := Lib.hid (And.intro hR2 (And.intro hp2 ha2))
        clear hR2 hp2 ha2
        go_wp2_with fail
        go_roundw
        case rel =>
          refine ⟨i, j - i, L2, rfl, by first | (congr 1; omega) | (go_num; done), hi0, by omega, him, by omega, H2.out.1, H2.out.2.1.trans HX.out.2.1, fun k => ?_⟩
          exact (rotF_congr H2.out.2.2 _ _ _ k).trans ((rot2 (fun k => L'[k]?) him (show i < j by omega) hi0 k).trans (HX.out.2.2 k))
        case measure => simp [intOf]; omega
def leA (x y : LA) : Prop := cmpA (attrOf x) (attrOf y) ≤ 0
theorem leA.trans {x y z : LA} (h1 : leA x y) (h2 : leA y z) : leA x z := cmpA_trans h1 h2
theorem leA.of_not {x y : LA} (h : ¬ cmpA (attrOf x) (attrOf y) < 0) : leA y x := by unfold leA; rw [cmpA_neg]; omega
def SrtX (L : List LA) (s b j : Nat) : Prop := ∀ (p q : Nat) (x y : LA), s ≤ p → p < q → q < b → q ≠ j → L[p]? = some x → L[q]? = some y → leA x y
def Srt (L : List LA) (s b : Nat) : Prop := ∀ (p q : Nat) (x y : LA), s ≤ p → p < q → q < b → L[p]? = some x → L[q]? = some y → leA x y
theorem Srt.one (L : List LA) (s : Nat) : Srt L s (s + 1) := fun p q x y h1 h2 h3 => by omega
theorem Srt.less {L : List LA} {s b : Nat} (h : b ≤ s + 1) : Srt L s b := fun p q x y h1 h2 h3 => by omega
theorem Srt.open_ {L : List LA} {s i : Nat} (h : Srt L s i) : SrtX L s (i + 1) i := fun p q x y h1 h2 h3 h4 hx hy => h p q x y h1 h2 (by omega) hx hy
theorem SrtX.low {L : List LA} {s b : Nat} (h : SrtX L s b s) : Srt L s b := fun p q x y h1 h2 h3 hx hy => h p q x y h1 h2 h3 (by omega) hx hy
theorem SrtX.close {L : List LA} {s b j : Nat} {x y : LA} (h : SrtX L s b j) (hj : s < j) (hjb : j < b) (hx : L[j]? = some x) (hy : L[j - 1]? = some y) (hc : ¬ cmpA (attrOf x) (attrOf y) < 0) : Srt L s b := fun p q u v h1 h2 h3 hu hv => by
  by_cases e : q = j
  · subst e
    rw [hx] at hv; cases hv
    have hyx : leA y x := leA.of_not hc
    by_cases e2 : p = q - 1
    · subst e2; rw [hy] at hu; cases hu; exact hyx
    · exact (h p (q - 1) u y h1 (by omega) (by omega) (by omega) hu hy).trans hyx
  · exact h p q u v h1 h2 h3 e hu hv
theorem SrtX.step {L : List LA} {s b j : Nat} {x y : LA} (h : SrtX L s b j) (hj : s < j) (hjb : j < b) (hx : L[j]? = some x) (hy : L[j - 1]? = some y) (hc : cmpA (attrOf x) (attrOf y) < 0) : SrtX ((L.set j y).set (j - 1) x) s b (j - 1) := fun p q u v h1 h2 h3 h4 hu hv => by
  rw [swap_at hx hy] at hu hv
  rw [if_neg h4] at hv
  by_cases e : q = j
  · rw [if_pos e] at hv; cases hv
    by_cases e2 : p = j - 1
    · rw [if_pos e2] at hu; cases hu; exact Int.le_of_lt hc
    · rw [if_neg e2, if_neg (by omega)] at hu
      exact h p (j - 1) u y h1 (by omega) (by omega) (by omega) hu hy
  · rw [if_neg e] at hv
    by_cases e2 : p = j - 1
    · rw [if_pos e2] at hu; cases hu
      exact h j q x v (by omega) (by omega) h3 e hx hv
    · rw [if_neg e2] at hu
      by_cases e3 : p = j
      · rw [if_pos e3] at hu; cases hu
        exact h (j - 1) q y v (by omega) (by omega) h3 e hy hv
      · rw [if_neg e3] at hu
        exact h p q u v h1 h2 h3 e hu hv
theorem RowTo.below {lo hi B : Nat} {V w w' : World} {a : Option Addr} {n cap : Nat} {L : List LA} (h : RowTo lo hi B V w a n cap L) (b : Below w.heap.size w w') : RowTo lo hi B V w' a n cap L := ⟨h.out.trans (OutW.of_below b), row_below h.row b⟩
def ValOk (lo hi : Nat) (V : World) (L : List LA) : Prop := ∀ x ∈ L, ∀ w', OutW lo hi V w' → Sl16 w' x.va x.val
theorem ValOk.perm {lo hi : Nat} {V : World} {L L' : List LA} (h : ValOk lo hi V L) (p : L'.Perm L) : ValOk lo hi V L' := fun x hx => h x (p.mem_iff.1 hx)
theorem sorted_unique {l m : List (ByteArray × List Nat)} (hp : l.Perm m) (hl : l.Pairwise (fun x y => cmpA x y ≤ 0)) (hm : m.Pairwise (fun x y => cmpA x y ≤ 0)) : l = m :=
  hp.eq_of_pairwise (fun x y _ _ h1 h2 => cmpA_zero.1 (by have := cmpA_neg x y; omega)) hl hm
theorem Srt.pairwise {L : List LA} (h : Srt L 0 L.length) : (L.map attrOf).Pairwise (fun x y => cmpA x y ≤ 0) := by
  rw [List.pairwise_map, List.pairwise_iff_getElem]
  intro p q hp hq hpq
  exact h p q _ _ (Nat.zero_le _) hpq hq (List.getElem?_eq_getElem hp) (List.getElem?_eq_getElem hq)
end Go.Proofs.YtelhnaphkbpakaaDoor
