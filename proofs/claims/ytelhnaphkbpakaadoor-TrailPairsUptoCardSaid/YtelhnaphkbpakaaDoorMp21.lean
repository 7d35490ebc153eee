/- Part 21 of the proof of TpP: lemmas. -/
import Derived.Test.YtelhnaphkbpakaaDoorMp20
namespace Go.Proofs.YtelhnaphkbpakaaDoor
open Go.RowKit
set_option linter.unusedVariables false
set_option maxRecDepth 100000
def SrtTo (lo hi B : Nat) (V : World) (a : Option Addr) (n cap : Nat) (L : List LA) (s b : Nat) (w' : World) : Prop := ∃ L', RowTo lo hi B V w' a n cap L' ∧ L'.Perm L ∧ (∀ k, (k < s ∨ b ≤ k) → L'[k]? = L[k]?) ∧ Srt L' s b
set_option maxHeartbeats 8000000 in
theorem symLow_calls (w : World) {lo hi B : Nat} {V : World} {a : Option Addr} {n cap : Nat} {L : List LA} (h : RowTo lo hi B V w a n cap L) (hg : ∀ g, (Value.slice a n cap).ownBlock = some g → lo ≤ g ∧ g < hi) (hv : ValOk lo hi V L) (s m b : Nat) (hn : n ≤ 1099511627776) (hm : m = s + 1) (hmb : m < b) (hb : b ≤ n) (h2 : Srt L m b) :
    Calls Tryd.prog 113 #[.slice a n cap, .int .i64 (s : Int), .int .i64 (m : Int), .int .i64 (b : Int), .func (.func 81) #[] #[]] w fun e w' => (∃ v, e = .returned v) ∧ SrtTo lo hi B V a n cap L s b w' := by
  have HH := Lib.hid h
  have HG := Lib.hid hg
  have HV := Lib.hid hv
  have H2 := Lib.hid h2
  have HM := Lib.hid hm
  have hsm : s < m := by omega
  have hms : m ≤ s + 1 := by omega
  have q0 : IntKind.i64.wrap ((m : Int) - (s : Int)) = 1 := by rw [show (m : Int) - (s : Int) = 1 by omega]; rfl
  clear h hg hv hm h2
  go_enter Tryd.func113, Tryd.ntmps113
  go_wp2_with fail
  go_loopw [10, 11] (fun vi vj wr => ∃ (i j : Nat), vi = .int .i64 (i : Nat) ∧ vj = .int .i64 (j : Nat) ∧ m ≤ i ∧ i ≤ j ∧ j ≤ b ∧ RowTo lo hi B V wr a n cap L ∧ (∀ x y, m < i → L[i - 1]? = some x → L[s]? = some y → leA x y) ∧ (∀ x y, j < b → L[j]? = some x → L[s]? = some y → leA y x)) (fun vi vj _ => (intOf vj).toNat - (intOf vi).toNat)
  case atStart => exact ⟨m, b, rfl, rfl, Nat.le_refl _, by omega, Nat.le_refl _, HH.out, fun x y hh => by omega, fun x y hh => by omega⟩
  case round =>
    obtain ⟨i, j, rfl, rfl, hi1, hi2, hi3, hR, hlo, hhi⟩ := hrel
    clear q0
    by_cases hlt : i < j
    · have p1 : (i : Int) < (j : Int) := by omega
      obtain ⟨c, hc⟩ : ∃ c : Nat, c = (i + j) / 2 := ⟨_, rfl⟩
      have hci : i ≤ c := by omega
      have hcj : c < j := by omega
      have hcI : ((i : Int) + (j : Int)) / 2 = (c : Int) := by omega
      clear hc
      have hL := hR.len
      obtain ⟨x, hx⟩ : ∃ x, L[c]? = some x := ⟨_, List.getElem?_eq_getElem (by omega)⟩
      obtain ⟨y, hy⟩ : ∃ y, L[s]? = some y := ⟨_, List.getElem?_eq_getElem (by omega)⟩
      have hvx := fun w' (hw : OutW lo hi V w') => HV.out x (List.mem_of_getElem? hx) w' hw
      have hvy := fun w' (hw : OutW lo hi V w') => HV.out y (List.mem_of_getElem? hy) w' hw
      obtain ⟨g, hga, lg, c0, c1, c2, c3, hfr, hout, hrow⟩ := row_swap hR.out hR.row HG.out hx hy
      subst hga
      have HCM := Lib.hid (cmpA_calls wr.drew x y (hvx _ hR.drew.out) (hvy _ hR.drew.out))
      obtain ⟨xl, exl⟩ : ∃ xl, xl = x.val.length := ⟨_, rfl⟩
      obtain ⟨yl, eyl⟩ : ∃ yl, yl = y.val.length := ⟨_, rfl⟩
      unfold LA.v at HCM
      rw [← exl] at c1 HCM
      rw [← eyl] at c3 HCM
      have HX := Lib.hid (And.intro hR (And.intro hx (And.intro hy (And.intro hlo hhi))))
      have w1 : IntKind.i64.wrap ((i : Int) + (j : Int)) = (i : Int) + (j : Int) := IntWalk.i64_in _ (by omega)
      have w2 : IntKind.u64.wrap ((i : Int) + (j : Int)) = (i : Int) + (j : Int) := IntWalk.u64_in _ (by omega)
      have w3 : IntKind.u64.wrap (c : Int) = (c : Int) := IntWalk.u64_in _ (by omega)
      have w4 : IntKind.i64.wrap (c : Int) = (c : Int) := IntWalk.i64_in _ (by omega)
      have w5 : IntKind.i64.wrap ((c : Int) + 1) = (c : Int) + 1 := IntWalk.i64_in _ (by omega)
      have b1 : (0 : Int) ≤ (c : Int) := by omega
      have b2 : (0 : Int) ≤ (s : Int) := by omega
      have b3 : (c : Int) < (n : Int) := by omega
      have b4 : (s : Int) < (n : Int) := by omega
      have HS : Hid (∀ W, Below wr.heap.size wr W → (W.cell? ⟨g, c * 2, none⟩ = some (.string x.name) ∧ W.cell? ⟨g, c * 2 + 1, none⟩ = some (.slice x.va xl x.vc) ∧ W.cell? ⟨g, s * 2, none⟩ = some (.string y.name) ∧ W.cell? ⟨g, s * 2 + 1, none⟩ = some (.slice y.va yl y.vc))) := Lib.hid (fun W bb =>
        ⟨(bb.cell (p := ⟨g, c * 2, none⟩) lg).trans c0, (bb.cell (p := ⟨g, c * 2 + 1, none⟩) lg).trans c1, (bb.cell (p := ⟨g, s * 2, none⟩) lg).trans c2, (bb.cell (p := ⟨g, s * 2 + 1, none⟩) lg).trans c3⟩)
      clear hR hx hy hout hrow hL exl eyl hvx hvy hfr hlo hhi
      go_wp2_with fail
      refine wp_region_held_drew (S := fun W => (W.cell? ⟨g, c * 2, none⟩ = some (.string x.name) ∧ W.cell? ⟨g, c * 2 + 1, none⟩ = some (.slice x.va xl x.vc) ∧ W.cell? ⟨g, s * 2, none⟩ = some (.string y.name) ∧ W.cell? ⟨g, s * 2 + 1, none⟩ = some (.slice y.va yl y.vc))) (by kernel_rfl) ⟨c0, c1, c2, c3⟩ (fun hHeld => ?_)
      refine wpAnyH_take (i := 0) (v := ?_) rfl (by kernel_rfl) (by kernel_rfl) (by kernel_rfl) (fun _ _ _ h => h) (Or.inl ⟨by first | kernel_rfl | rfl, ?_⟩) (by assumption) ?_
      rotate_left
      · intro w hSw; (try dsimp only at hSw); go_simp; try with_reducible rfl
      refine wpAnyH_take (i := 1) (v := ?_) rfl (by kernel_rfl) (by kernel_rfl) (by kernel_rfl) (fun _ _ _ h => h) (Or.inl ⟨by first | kernel_rfl | rfl, ?_⟩) (by assumption) ?_
      rotate_left
      · intro w hSw; (try dsimp only at hSw); go_simp; try with_reducible rfl
      refine wpAnyH_take (i := 2) (v := ?_) rfl (by kernel_rfl) (by kernel_rfl) (by kernel_rfl) (fun _ _ _ h => h) (Or.inl ⟨by first | kernel_rfl | rfl, ?_⟩) (by assumption) ?_
      rotate_left
      · intro w hSw; (try dsimp only at hSw); go_simp; try with_reducible rfl
      refine wpAnyH_take (i := 3) (v := ?_) rfl (by kernel_rfl) (by kernel_rfl) (by kernel_rfl) (fun _ _ _ h => h) (Or.inl ⟨by first | kernel_rfl | rfl, ?_⟩) (by assumption) ?_
      rotate_left
      · intro w hSw; (try dsimp only at hSw); go_simp; try with_reducible rfl
      refine wpAnyH_take (i := 4) (v := ?_) rfl (by kernel_rfl) (by kernel_rfl) (by kernel_rfl) (fun _ _ _ h => h) (Or.inl ⟨by first | kernel_rfl | rfl, ?_⟩) (by assumption) ?_
      rotate_left
      · intro w hSw; (try dsimp only at hSw); go_simp; try with_reducible rfl
      refine wpAnyH_take (i := 5) (v := ?_) rfl (by kernel_rfl) (by kernel_rfl) (by kernel_rfl) (fun _ _ _ h => h) (Or.inl ⟨by first | kernel_rfl | rfl, ?_⟩) (by assumption) ?_
      rotate_left
      · intro w hSw; (try dsimp only at hSw); go_simp; try with_reducible rfl
      refine wpAnyH_take (i := 6) (v := ?_) rfl (by kernel_rfl) (by kernel_rfl) (by kernel_rfl) (fun _ _ _ h => h) (Or.inl ⟨by first | kernel_rfl | rfl, ?_⟩) (by assumption) ?_
      rotate_left
      · intro w hSw; (try dsimp only at hSw); go_simp; try with_reducible rfl
      refine wpAnyH_take (i := 7) (v := ?_) rfl (by kernel_rfl) (by kernel_rfl) (by kernel_rfl) (fun _ _ _ h => h) (Or.inl ⟨by first | kernel_rfl | rfl, ?_⟩) (by assumption) ?_
      rotate_left
      · intro w hSw; (try dsimp only at hSw); go_simp; try with_reducible rfl
      refine wpAnyH_take (i := 8) (v := ?_) rfl (by kernel_rfl) (by kernel_rfl) (by kernel_rfl) (fun _ _ _ h => h) (Or.inl ⟨by first | kernel_rfl | rfl, ?_⟩) (by assumption) ?_
      rotate_left
      · intro w hSw; (try dsimp only at hSw); go_simp; try with_reducible rfl
      refine wpAnyH_ready (rs := [9]) (by kernel_rfl) (by simp) ?_
      refine AllReadyH.cons rfl (fun K' hK => ?_) AllReadyH.nil
      go_simp
      go_at_call 81
      refine HCM.out.mono ?_
      rintro e w5 ⟨rfl, bb5⟩
      have hb5 : Below wr.heap.size wr w5 := ((Below.refl _ wr).drew).trans bb5
      refine hK.out _ _ (HS.out _ hb5) (fun hHeld => ?_)
      clear hK K' hHeld
      have hHeld := HS.out _ hb5
      have HR5 := Lib.hid (HX.out.1.below hb5)
      obtain ⟨C, hC⟩ : ∃ C, C = cmpA (attrOf x) (attrOf y) := ⟨_, rfl⟩
      rw [← hC]
      have HCC := Lib.hid hC
      clear bb5 hb5 hC HCM HS c0 c1 c2 c3
      refine wpAnyH_take (i := 10) (v := ?_) rfl (by kernel_rfl) (by kernel_rfl) (by kernel_rfl) (fun _ _ _ h => h) (Or.inl ⟨by first | kernel_rfl | rfl, ?_⟩) (by assumption) ?_
      rotate_left
      · intro w hSw; (try dsimp only at hSw); go_simp; try with_reducible rfl
      refine wpAnyH_done (by kernel_rfl) ?_ _
      clear hHeld
      by_cases hc : C < 0
      · go_wp2_with fail
        go_roundw
        case rel =>
          obtain ⟨hR, hx, hy, hlo, hhi⟩ := HX.out
          refine ⟨c + 1, j, by go_num, rfl, by omega, by omega, hi3, HR5.out, fun x' y' hh h1 h2 => ?_, hhi⟩
          rw [show c + 1 - 1 = c by omega, hx] at h1
          rw [hy] at h2
          cases h1
          cases h2
          exact Int.le_of_lt (by rw [← HCC.out]; exact hc)
        case measure => simp [intOf]; omega
      · go_wp2_with fail
        go_roundw
        case rel =>
          obtain ⟨hR, hx, hy, hlo, hhi⟩ := HX.out
          refine ⟨i, c, rfl, rfl, by omega, by omega, by omega, HR5.out, hlo, fun x' y' hh h1 h2 => ?_⟩
          rw [hx] at h1
          rw [hy] at h2
          cases h1
          cases h2
          exact leA.of_not (by rw [← HCC.out]; exact hc)
        case measure => simp [intOf]; omega
    · obtain rfl : i = j := by omega
      have p1 : ¬ (i : Int) < (i : Int) := by omega
      have HX := Lib.hid (And.intro hR (And.intro hlo hhi))
      clear hR hlo hhi hlt
      go_wp2_with fail
      go_loopw [13] (fun vk wr => ∃ (k : Nat) (M : List LA), vk = .int .i64 (k : Nat) ∧ s ≤ k ∧ k + 1 ≤ i ∧ RowTo lo hi B V wr a n cap M ∧ M.Perm L ∧ ∀ q, M[q]? = rotF (fun q => L[q]?) s (s + 1) (k + 1) q) (fun vk _ => n - (intOf vk).toNat)
      case atStart => exact ⟨s, L, rfl, Nat.le_refl _, by omega, HX.out.1, List.Perm.refl _, fun q => rot_none (.inr rfl) q⟩
      case round =>
        have HI := HX
        clear HX
        obtain ⟨k, M, rfl, hk1, hk2, hR, hperm, hat⟩ := hrel
        have w6 : IntKind.i64.wrap ((i : Int) - 1) = (i : Int) - 1 := IntWalk.i64_in _ (by omega)
        by_cases hlt : k + 1 < i
        · have p2 : (k : Int) < (i : Int) - 1 := by omega
          have hL := hR.len
          obtain ⟨x, hx⟩ : ∃ x, M[k]? = some x := ⟨_, List.getElem?_eq_getElem (by omega)⟩
          obtain ⟨y, hy⟩ : ∃ y, M[(k + 1)]? = some y := ⟨_, List.getElem?_eq_getElem (by omega)⟩
          obtain ⟨g, hga, lg, c0, c1, c2, c3, hfr, hout, hrow⟩ := row_swap hR.out hR.row HG.out hx hy
          subst hga
          obtain ⟨xl, exl⟩ : ∃ xl, xl = x.val.length := ⟨_, rfl⟩
          obtain ⟨yl, eyl⟩ : ∃ yl, yl = y.val.length := ⟨_, rfl⟩
          rw [← exl] at c1
          rw [← eyl] at c3
          have HXL := Lib.hid (And.intro exl eyl)
          have HX := Lib.hid (And.intro hx (And.intro hy (And.intro hperm hat)))
          have HY := Lib.hid (And.intro hout hrow)
          have HFR := Lib.hid hfr
          have f0 := hfr (k * 2)
          have f1 := hfr (k * 2 + 1)
          have w7 : IntKind.i64.wrap ((k : Int) + 1) = (k : Int) + 1 := IntWalk.i64_in _ (by omega)
          have t2 : ((k : Int) + 1).toNat = k + 1 := by omega
          have b1 : (0 : Int) ≤ (k : Int) := by omega
          have b2 : (0 : Int) ≤ (k : Int) + 1 := by omega
          have b3 : (k : Int) < (n : Int) := by omega
          have b4 : (k : Int) + 1 < (n : Int) := by omega
          have HW1 : Hid (∀ v0 v1, ((wr.setCell ⟨g, k * 2, none⟩ v0).setCell ⟨g, k * 2 + 1, none⟩ v1).cell? ⟨g, (k + 1) * 2, none⟩ = some (.string y.name) ∧ ((wr.setCell ⟨g, k * 2, none⟩ v0).setCell ⟨g, k * 2 + 1, none⟩ v1).cell? ⟨g, (k + 1) * 2 + 1, none⟩ = some (.slice y.va yl y.vc) ∧ g < ((wr.setCell ⟨g, k * 2, none⟩ v0).setCell ⟨g, k * 2 + 1, none⟩ v1).heap.size ∧ ∀ k, ((wr.setCell ⟨g, k * 2, none⟩ v0).setCell ⟨g, k * 2 + 1, none⟩ v1).frozen? ⟨g, k, none⟩ = false) := Lib.hid (fun v0 v1 => by
            refine ⟨(swOff (by omega) _).trans ((swOff (by omega) _).trans c2), (swOff (by omega) _).trans ((swOff (by omega) _).trans c3), by simpa using lg, fun k => by rw [World.frozen?_setCell, World.frozen?_setCell]; exact hfr k⟩)
          clear hR hx hy hout hrow hL exl eyl hfr hperm hat
          go_wp2_with fail
          refine wp_region_held_drew (S := fun _ => True) (by kernel_rfl) trivial (fun hHeld => ?_)
          refine wpAnyH_take (i := 0) (v := ?_) rfl (by kernel_rfl) (by kernel_rfl) (by kernel_rfl) (fun _ _ _ h => h) (Or.inl ⟨by first | kernel_rfl | rfl, ?_⟩) (by assumption) ?_
          rotate_left
          · intro w hSw; (try dsimp only at hSw); go_simp; try with_reducible rfl
          refine wpAnyH_take (i := 1) (v := ?_) rfl (by kernel_rfl) (by kernel_rfl) (by kernel_rfl) (fun _ _ _ h => h) (Or.inl ⟨by first | kernel_rfl | rfl, ?_⟩) (by assumption) ?_
          rotate_left
          · intro w hSw; (try dsimp only at hSw); go_simp; try with_reducible rfl
          refine wpAnyH_take (i := 2) (v := ?_) rfl (by kernel_rfl) (by kernel_rfl) (by kernel_rfl) (fun _ _ _ h => h) (Or.inl ⟨by first | kernel_rfl | rfl, ?_⟩) (by assumption) ?_
          rotate_left
          · intro w hSw; (try dsimp only at hSw); go_simp; try with_reducible rfl
          refine wpAnyH_take (i := 3) (v := ?_) rfl (by kernel_rfl) (by kernel_rfl) (by kernel_rfl) (fun _ _ _ h => h) (Or.inl ⟨by first | kernel_rfl | rfl, ?_⟩) (by assumption) ?_
          rotate_left
          · intro w hSw; (try dsimp only at hSw); go_simp; try with_reducible rfl
          refine wpAnyH_take (i := 4) (v := ?_) rfl (by kernel_rfl) (by kernel_rfl) (by kernel_rfl) (fun _ _ _ h => h) (Or.inl ⟨by first | kernel_rfl | rfl, ?_⟩) (by assumption) ?_
          rotate_left
          · intro w hSw; (try dsimp only at hSw); go_simp; try with_reducible rfl
          refine wpAnyH_take (i := 5) (v := ?_) rfl (by kernel_rfl) (by kernel_rfl) (by kernel_rfl) (fun _ _ _ h => h) (Or.inl ⟨by first | kernel_rfl | rfl, ?_⟩) (by assumption) ?_
          rotate_left
          · intro w hSw; (try dsimp only at hSw); go_simp; try with_reducible rfl
          refine wpAnyH_take (i := 6) (v := ?_) rfl (by kernel_rfl) (by kernel_rfl) (by kernel_rfl) (fun _ _ _ h => h) (Or.inl ⟨by first | kernel_rfl | rfl, ?_⟩) (by assumption) ?_
          rotate_left
          · intro w hSw; (try dsimp only at hSw); go_simp; try with_reducible rfl
          refine wpAnyH_take (i := 7) (v := ?_) rfl (by kernel_rfl) (by kernel_rfl) (by kernel_rfl) (fun _ _ _ h => h) (Or.inl ⟨by first | kernel_rfl | rfl, ?_⟩) (by assumption) ?_
          rotate_left
          · intro w hSw; (try dsimp only at hSw); go_simp; try with_reducible rfl
          refine wpAnyH_take (i := 8) (v := ?_) rfl (by kernel_rfl) (by kernel_rfl) (by kernel_rfl) (fun _ _ _ h => h) (Or.inl ⟨by first | kernel_rfl | rfl, ?_⟩) (by assumption) ?_
          rotate_left
          · intro w hSw; (try dsimp only at hSw); go_simp; try with_reducible rfl
          refine wpAnyH_take (i := 10) (v := ?_) rfl (by kernel_rfl) (by kernel_rfl) (by kernel_rfl) (fun _ _ _ h => h) (Or.inl ⟨by first | kernel_rfl | rfl, ?_⟩) (by assumption) ?_
          rotate_left
          · intro w hSw; (try dsimp only at hSw); go_simp; try with_reducible rfl
          refine wpAnyH_take (i := 11) (v := ?_) rfl (by kernel_rfl) (by kernel_rfl) (by kernel_rfl) (fun _ _ _ h => h) (Or.inl ⟨by first | kernel_rfl | rfl, ?_⟩) (by assumption) ?_
          rotate_left
          · intro w hSw; (try dsimp only at hSw); go_simp; try with_reducible rfl
          refine wpAnyH_take (i := 12) (v := ?_) rfl (by kernel_rfl) (by kernel_rfl) (by kernel_rfl) (fun _ _ _ h => h) (Or.inl ⟨by first | kernel_rfl | rfl, ?_⟩) (by assumption) ?_
          rotate_left
          · intro w hSw; (try dsimp only at hSw); go_simp; try with_reducible rfl
          refine wpAnyH_ready (rs := [9, 13]) (by kernel_rfl) (by simp) ?_
          refine AllReadyH.cons rfl (fun K' hK => ?_) (AllReadyH.cons rfl (fun K' hK => ?_) AllReadyH.nil)
          · go_simp
            refine hK.out _ _ trivial (fun hHeld => ?_)
            clear hK K'
            refine wpAnyH_ready (rs := [13]) (by kernel_rfl) (by simp) ?_
            refine AllReadyH.cons rfl (fun K' hK => ?_) AllReadyH.nil
            go_simp
            refine hK.out _ _ trivial (fun hHeld => ?_)
            clear hK K'
            refine wpAnyH_take (i := 14) (v := ?_) rfl (by kernel_rfl) (by kernel_rfl) (by kernel_rfl) (fun _ _ _ h => h) (Or.inl ⟨by first | kernel_rfl | rfl, ?_⟩) (by assumption) ?_
            rotate_left
            · intro w hSw; (try dsimp only at hSw); go_simp; try with_reducible rfl
            refine wpAnyH_ready (rs := [15]) (by kernel_rfl) (by simp) ?_
            refine AllReadyH.cons rfl (fun K' hK => ?_) AllReadyH.nil
            go_simp
            refine hK.out _ _ trivial (fun hHeld => ?_)
            clear hK K' c0 c1 c2 c3 f0 f1
            obtain ⟨e0, e1, e2, e3⟩ := HW1.out (.string y.name) (.slice y.va yl y.vc)
            have f2 := e3 ((k + 1) * 2)
            have f3 := e3 ((k + 1) * 2 + 1)
            clear e3
            have f4 := HFR.out ((k + 1) * 2)
            have f5 := HFR.out ((k + 1) * 2 + 1)
            refine wpAnyH_take (i := 16) (v := ?_) rfl (by kernel_rfl) (by kernel_rfl) (by kernel_rfl) (fun _ _ _ h => h) (Or.inl ⟨by first | kernel_rfl | rfl, ?_⟩) (by assumption) ?_
            rotate_left
            · intro w hSw; (try dsimp only at hSw); go_simp; try with_reducible rfl
            refine wpAnyH_ready (rs := [17]) (by kernel_rfl) (by simp) ?_
            refine AllReadyH.cons rfl (fun K' hK => ?_) AllReadyH.nil
            go_simp
            refine hK.out _ _ trivial (fun hHeld => ?_)
            clear hK K' e0 e1 e2 f2 f3 f4 f5
            refine wpAnyH_done (by kernel_rfl) ?_ _
            clear hHeld
            go_wp2
            go_roundw
            case rel =>
              obtain ⟨hx, hy, hperm, hat⟩ := HX.out
              refine ⟨k + 1, (M.set k y).set (k + 1) x, by go_num, by omega, by omega, ?_, (swap_perm hx hy).trans hperm, rot_up hk1 hat hx hy⟩
              rw [HXL.out.1, HXL.out.2]
              exact RowTo.drew ⟨HY.out.1, HY.out.2⟩
            case measure => simp [intOf]; omega
          · go_simp
            refine hK.out _ _ trivial (fun hHeld => ?_)
            clear hK K'
            refine wpAnyH_ready (rs := [9]) (by kernel_rfl) (by simp) ?_
            refine AllReadyH.cons rfl (fun K' hK => ?_) AllReadyH.nil
            go_simp
            refine hK.out _ _ trivial (fun hHeld => ?_)
            clear hK K'
            refine wpAnyH_take (i := 14) (v := ?_) rfl (by kernel_rfl) (by kernel_rfl) (by kernel_rfl) (fun _ _ _ h => h) (Or.inl ⟨by first | kernel_rfl | rfl, ?_⟩) (by assumption) ?_
            rotate_left
            · intro w hSw; (try dsimp only at hSw); go_simp; try with_reducible rfl
            refine wpAnyH_ready (rs := [15]) (by kernel_rfl) (by simp) ?_
            refine AllReadyH.cons rfl (fun K' hK => ?_) AllReadyH.nil
            go_simp
            refine hK.out _ _ trivial (fun hHeld => ?_)
            clear hK K' c0 c1 c2 c3 f0 f1
            obtain ⟨e0, e1, e2, e3⟩ := HW1.out (.string y.name) (.slice y.va yl y.vc)
            have f2 := e3 ((k + 1) * 2)
            have f3 := e3 ((k + 1) * 2 + 1)
            clear e3
            have f4 := HFR.out ((k + 1) * 2)
            have f5 := HFR.out ((k + 1) * 2 + 1)
            refine wpAnyH_take (i := 16) (v := ?_) rfl (by kernel_rfl) (by kernel_rfl) (by kernel_rfl) (fun _ _ _ h => h) (Or.inl ⟨by first | kernel_rfl | rfl, ?_⟩) (by assumption) ?_
            rotate_left
            · intro w hSw; (try dsimp only at hSw); go_simp; try with_reducible rfl
            refine wpAnyH_ready (rs := [17]) (by kernel_rfl) (by simp) ?_
            refine AllReadyH.cons rfl (fun K' hK => ?_) AllReadyH.nil
            go_simp
            refine hK.out _ _ trivial (fun hHeld => ?_)
            clear hK K' e0 e1 e2 f2 f3 f4 f5
            refine wpAnyH_done (by kernel_rfl) ?_ _
            clear hHeld
            go_wp2
            go_roundw
            case rel =>
              obtain ⟨hx, hy, hperm, hat⟩ := HX.out
              refine ⟨k + 1, (M.set k y).set (k + 1) x, by go_num, by omega, by omega, ?_, (swap_perm hx hy).trans hperm, rot_up hk1 hat hx hy⟩
              rw [HXL.out.1, HXL.out.2]
              exact RowTo.drew ⟨HY.out.1, HY.out.2⟩
            case measure => simp [intOf]; omega
        · have p2 : ¬ (k : Int) < (i : Int) - 1 := by omega
          have HX := Lib.hid (And.intro hR (And.intro hperm hat))
          clear hR hperm hat
          go_wp2_with fail
          try simp only [Exit.inBlock, Exit.then]
          refine bodyPost_ret (results_none rfl _ _ _) rfl ?_
          obtain ⟨hR, hperm, hat⟩ := HX.out
          obtain rfl : m = s + 1 := HM.out
          obtain rfl : k + 1 = i := by omega
          have hl := HH.out.len
          obtain ⟨z, hz⟩ : ∃ z, L[s]? = some z := ⟨_, List.getElem?_eq_getElem (by omega)⟩
          refine ⟨⟨_, rfl⟩, M, hR, hperm, fun q hq => ?_, ins_low H2.out hi1 hi3 hz hat (fun p x hp1 hp2 hx => ?_) (fun p x hp1 hp2 hx => ?_)⟩
          · rw [hat]; unfold rotF; rw [if_neg (by omega)]
          · obtain ⟨u, hu⟩ : ∃ u, L[k + 1 - 1]? = some u := ⟨_, List.getElem?_eq_getElem (by omega)⟩
            exact (H2.out.le hp1 (show p ≤ k + 1 - 1 by omega) (by omega) hx hu).trans (HI.out.2.1 u z (by omega) hu hz)
          · obtain ⟨u, hu⟩ : ∃ u, L[k + 1]? = some u := ⟨_, List.getElem?_eq_getElem (by omega)⟩
            exact (HI.out.2.2 u z (by omega) hu hz).trans (H2.out.le hi1 hp1 hp2 hu hx)
end Go.Proofs.YtelhnaphkbpakaaDoor
