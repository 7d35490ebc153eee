/- Part 19 of the proof of TpP: lemmas. -/
import Derived.Test.YtelhnaphkbpakaaDoorMp18
namespace Go.Proofs.YtelhnaphkbpakaaDoor
open Go.RowKit
set_option linter.unusedVariables false
set_option maxRecDepth 100000
set_option maxHeartbeats 8000000 in
theorem insert_calls (w : World) {lo hi B : Nat} {V : World} {a : Option Addr} {n cap : Nat} {L : List LA} (h : RowTo lo hi B V w a n cap L) (hg : ∀ g, (Value.slice a n cap).ownBlock = some g → lo ≤ g ∧ g < hi) (hv : ValOk lo hi V L) (s b : Nat) (hn : n ≤ 1099511627776) (hsb : s ≤ b) (hb : b ≤ n) :
    Calls Tryd.prog 112 #[.slice a n cap, .int .i64 (s : Int), .int .i64 (b : Int), .func (.func 81) #[] #[]] w fun e w' => (∃ v, e = .returned v) ∧ ∃ L', RowTo lo hi B V w' a n cap L' ∧ L'.Perm L ∧ (∀ k, (k < s ∨ b ≤ k) → L'[k]? = L[k]?) ∧ Srt L' s b := by
  have HH := Lib.hid h
  have HG := Lib.hid hg
  have HV := Lib.hid hv
  have q0 : IntKind.i64.wrap ((s : Int) + 1) = (s : Int) + 1 := IntWalk.i64_in _ (by omega)
  clear h hg hv
  go_enter Tryd.func112, Tryd.ntmps112
  go_wp2_with fail
  go_loopw [8] (fun v wr => ∃ (i : Nat) (L' : List LA), v = .int .i64 (i : Nat) ∧ s + 1 ≤ i ∧ (i ≤ b ∨ (i = s + 1 ∧ L' = L)) ∧ RowTo lo hi B V wr a n cap L' ∧ L'.Perm L ∧ (∀ k, (k < s ∨ i ≤ k) → L'[k]? = L[k]?) ∧ Srt L' s i) (fun v _ => b + 1 - (intOf v).toNat)
  case atStart => exact ⟨s + 1, L, by go_num, Nat.le_refl _, .inr ⟨rfl, rfl⟩, HH.out, List.Perm.refl _, fun _ _ => rfl, Srt.one L s⟩
  case round =>
    obtain ⟨i, L', rfl, hi1, hi2, hR, hperm, hat, hsrt⟩ := hrel
    have HX := Lib.hid (And.intro hR (And.intro hperm (And.intro hat hsrt)))
    clear hR hperm hat hsrt q0
    have q1 : IntKind.i64.wrap ((i : Int) + 1) = (i : Int) + 1 := IntWalk.i64_in _ (by omega)
    by_cases hlt : i < b
    · have p1 : (i : Int) < (b : Int) := by omega
      go_wp2_with fail
      go_loopw [9] (fun v wr2 => ∃ (j : Nat) (L2 : List LA), v = .int .i64 (j : Nat) ∧ s ≤ j ∧ j ≤ i ∧ RowTo lo hi B V wr2 a n cap L2 ∧ L2.Perm L ∧ (∀ k, (k < s ∨ i + 1 ≤ k) → L2[k]? = L[k]?) ∧ SrtX L2 s (i + 1) j) (fun v _ => (intOf v).toNat)
      case atStart => exact ⟨i, L', rfl, by omega, Nat.le_refl _, HX.out.1, HX.out.2.1, fun k hk => HX.out.2.2.1 k (by omega), HX.out.2.2.2.open_⟩
      case round =>
        clear HX
        obtain ⟨j, L2, rfl, hsj, hji, hR, hperm, hat, hsx⟩ := hrel
        by_cases hgt : s < j
        · have p2 : (s : Int) < (j : Int) := by omega
          have hL := hR.len
          obtain ⟨x, hx⟩ : ∃ x, L2[j]? = some x := ⟨_, List.getElem?_eq_getElem (by omega)⟩
          obtain ⟨y, hy⟩ : ∃ y, L2[j - 1]? = some y := ⟨_, List.getElem?_eq_getElem (by omega)⟩
          have hvx := fun w' (hw : OutW lo hi V w') => HV.out.perm hperm x (List.mem_of_getElem? hx) w' hw
          have hvy := fun w' (hw : OutW lo hi V w') => HV.out.perm hperm y (List.mem_of_getElem? hy) w' hw
          obtain ⟨g, hga, lg, c0, c1, c2, c3, hfr, hout, hrow⟩ := row_swap hR.out hR.row HG.out hx hy
          subst hga
          have HCM := Lib.hid (cmpA_calls wr.drew x y (hvx _ hR.drew.out) (hvy _ hR.drew.out))
          obtain ⟨xl, exl⟩ : ∃ xl, xl = x.val.length := ⟨_, rfl⟩
          obtain ⟨yl, eyl⟩ : ∃ yl, yl = y.val.length := ⟨_, rfl⟩
          unfold LA.v at HCM
          rw [← exl] at c1 HCM
          rw [← eyl] at c3 HCM
          have HXL := Lib.hid (And.intro exl eyl)
          have HX := Lib.hid (And.intro hR (And.intro hperm (And.intro hat (And.intro hsx (And.intro hx hy)))))
          have w2 : IntKind.i64.wrap ((j : Int) - 1) = (j : Int) - 1 := IntWalk.i64_in _ (by omega)
          have t2 : ((j : Int) - 1).toNat = j - 1 := by omega
          have b1 : (0 : Int) ≤ (j : Int) := by omega
          have b2 : (0 : Int) ≤ (j : Int) - 1 := by omega
          have b3 : (j : Int) < (n : Int) := by omega
          have b4 : (j : Int) - 1 < (n : Int) := by omega
          have b5 : (1 : Int) ≤ (j : Int) := by omega
          have HS : Hid (∀ W, Below wr.heap.size wr W → (W.cell? ⟨g, j * 2, none⟩ = some (.string x.name) ∧ W.cell? ⟨g, j * 2 + 1, none⟩ = some (.slice x.va xl x.vc) ∧ W.cell? ⟨g, (j - 1) * 2, none⟩ = some (.string y.name) ∧ W.cell? ⟨g, (j - 1) * 2 + 1, none⟩ = some (.slice y.va yl y.vc))) := Lib.hid (fun W bb =>
            ⟨(bb.cell (p := ⟨g, j * 2, none⟩) lg).trans c0, (bb.cell (p := ⟨g, j * 2 + 1, none⟩) lg).trans c1, (bb.cell (p := ⟨g, (j - 1) * 2, none⟩) lg).trans c2, (bb.cell (p := ⟨g, (j - 1) * 2 + 1, none⟩) lg).trans c3⟩)
          clear hR hx hy hperm hat hout hrow hL exl eyl hsx hvx hvy hfr
          go_wp2_with fail
          refine wp_region_held_drew (S := fun W => (W.cell? ⟨g, j * 2, none⟩ = some (.string x.name) ∧ W.cell? ⟨g, j * 2 + 1, none⟩ = some (.slice x.va xl x.vc) ∧ W.cell? ⟨g, (j - 1) * 2, none⟩ = some (.string y.name) ∧ W.cell? ⟨g, (j - 1) * 2 + 1, none⟩ = some (.slice y.va yl y.vc))) (by kernel_rfl) ⟨c0, c1, c2, c3⟩ (fun hHeld => ?_)
          refine wpAnyH_take (i := 0) (v := ?_) rfl (by kernel_rfl) (by kernel_rfl) (by kernel_rfl) (fun _ _ _ h => h) (Or.inl ⟨by first | kernel_rfl | rfl, ?_⟩) (by assumption) ?_
          rotate_left
          · intro w hSw; (try dsimp only at hSw); go_simp; try with_reducible rfl
          refine wpAnyH_take (i := 1) (v := ?_) rfl (by kernel_rfl) (by kernel_rfl) (by kernel_rfl) (fun _ _ _ h => h) (Or.inl ⟨by first | kernel_rfl | rfl, ?_⟩) (by assumption) ?_
          rotate_left
          · intro w hSw; (try dsimp only at hSw); go_simp; try with_reducible rfl
          refine wpAnyH_take (i := 2) (v := ?_) rfl (by kernel_rfl) (by kernel_rfl) (by kernel_rfl) (fun _ _ _ h => h) (Or.inl ⟨by first | kernel_rfl | rfl, ?_⟩) (by assumption) ?_
          rotate_left
          · intro w hSw; (try dsimp only at hSw); go_simp; try with_reducible rfl
          refine wpAnyH_take (i := 3) (v := ?_) rfl (by kernel_rfl) (by kernel_rfl) (by kernel_rfl) (fun _ _ _ h => h) (Or.inl ⟨by first | kernel_rfl | rfl, ?_⟩) (by assumption) ?_
          rotate_left
          · intro w hSw; (try dsimp only at hSw); go_simp; try with_reducible rfl
          refine wpAnyH_take (i := 4) (v := ?_) rfl (by kernel_rfl) (by kernel_rfl) (by kernel_rfl) (fun _ _ _ h => h) (Or.inl ⟨by first | kernel_rfl | rfl, ?_⟩) (by assumption) ?_
          rotate_left
          · intro w hSw; (try dsimp only at hSw); go_simp; try with_reducible rfl
          refine wpAnyH_take (i := 5) (v := ?_) rfl (by kernel_rfl) (by kernel_rfl) (by kernel_rfl) (fun _ _ _ h => h) (Or.inl ⟨by first | kernel_rfl | rfl, ?_⟩) (by assumption) ?_
          rotate_left
          · intro w hSw; (try dsimp only at hSw); go_simp; try with_reducible rfl
          refine wpAnyH_take (i := 6) (v := ?_) rfl (by kernel_rfl) (by kernel_rfl) (by kernel_rfl) (fun _ _ _ h => h) (Or.inl ⟨by first | kernel_rfl | rfl, ?_⟩) (by assumption) ?_
          rotate_left
          · intro w hSw; (try dsimp only at hSw); go_simp; try with_reducible rfl
          refine wpAnyH_take (i := 7) (v := ?_) rfl (by kernel_rfl) (by kernel_rfl) (by kernel_rfl) (fun _ _ _ h => h) (Or.inl ⟨by first | kernel_rfl | rfl, ?_⟩) (by assumption) ?_
          rotate_left
          · intro w hSw; (try dsimp only at hSw); go_simp; try with_reducible rfl
          refine wpAnyH_take (i := 8) (v := ?_) rfl (by kernel_rfl) (by kernel_rfl) (by kernel_rfl) (fun _ _ _ h => h) (Or.inl ⟨by first | kernel_rfl | rfl, ?_⟩) (by assumption) ?_
          rotate_left
          · intro w hSw; (try dsimp only at hSw); go_simp; try with_reducible rfl
          refine wpAnyH_take (i := 9) (v := ?_) rfl (by kernel_rfl) (by kernel_rfl) (by kernel_rfl) (fun _ _ _ h => h) (Or.inl ⟨by first | kernel_rfl | rfl, ?_⟩) (by assumption) ?_
          rotate_left
          · intro w hSw; (try dsimp only at hSw); go_simp; try with_reducible rfl
          refine wpAnyH_take (i := 10) (v := ?_) rfl (by kernel_rfl) (by kernel_rfl) (by kernel_rfl) (fun _ _ _ h => h) (Or.inl ⟨by first | kernel_rfl | rfl, ?_⟩) (by assumption) ?_
          rotate_left
          · intro w hSw; (try dsimp only at hSw); go_simp; try with_reducible rfl
          refine wpAnyH_take (i := 11) (v := ?_) rfl (by kernel_rfl) (by kernel_rfl) (by kernel_rfl) (fun _ _ _ h => h) (Or.inl ⟨by first | kernel_rfl | rfl, ?_⟩) (by assumption) ?_
          rotate_left
          · intro w hSw; (try dsimp only at hSw); go_simp; try with_reducible rfl
          refine wpAnyH_take (i := 12) (v := ?_) rfl (by kernel_rfl) (by kernel_rfl) (by kernel_rfl) (fun _ _ _ h => h) (Or.inl ⟨by first | kernel_rfl | rfl, ?_⟩) (by assumption) ?_
          rotate_left
          · intro w hSw; (try dsimp only at hSw); go_simp; try with_reducible rfl
          refine wpAnyH_take (i := 13) (v := ?_) rfl (by kernel_rfl) (by kernel_rfl) (by kernel_rfl) (fun _ _ _ h => h) (Or.inl ⟨by first | kernel_rfl | rfl, ?_⟩) (by assumption) ?_
          rotate_left
          · intro w hSw; (try dsimp only at hSw); go_simp; try with_reducible rfl
          refine wpAnyH_ready (rs := [14]) (by kernel_rfl) (by simp) ?_
          refine AllReadyH.cons rfl (fun K' hK => ?_) AllReadyH.nil
          go_simp
          go_at_call 81
          refine HCM.out.mono ?_
          rintro e w5 ⟨rfl, bb5⟩
          have hb5 : Below wr.heap.size wr w5 := ((Below.refl _ wr).drew).trans bb5
          refine hK.out _ _ (HS.out _ hb5) (fun hHeld => ?_)
          clear hK K' hHeld
          have hHeld := HS.out _ hb5
          have HR5 := Lib.hid (HX.out.1.below hb5)
          obtain ⟨C, hC⟩ : ∃ C, C = cmpA (attrOf x) (attrOf y) := ⟨_, rfl⟩
          rw [← hC]
          have HCC := Lib.hid hC
          clear bb5 hb5 hC HCM HS c0 c1 c2 c3
          refine wpAnyH_take (i := 15) (v := ?_) rfl (by kernel_rfl) (by kernel_rfl) (by kernel_rfl) (fun _ _ _ h => h) (Or.inl ⟨by first | kernel_rfl | rfl, ?_⟩) (by assumption) ?_
          rotate_left
          · intro w hSw; (try dsimp only at hSw); go_simp; try with_reducible rfl
          refine wpAnyH_take (i := 16) (v := ?_) rfl (by kernel_rfl) (by kernel_rfl) (by kernel_rfl) (fun _ _ _ h => h) (Or.inl ⟨by first | kernel_rfl | rfl, ?_⟩) (by assumption) ?_
          rotate_left
          · intro w hSw; (try dsimp only at hSw); go_simp; try with_reducible rfl
          refine wpAnyH_done (by kernel_rfl) ?_ _
          clear hHeld
          by_cases hc : C < 0
          · obtain ⟨g', hga', lg', c0, c1, c2, c3, hfr, hout, hrow⟩ := row_swap HR5.out.out HR5.out.row HG.out HX.out.2.2.2.2.1 HX.out.2.2.2.2.2
            obtain rfl : g = g' := by simpa using hga'
            rw [← HXL.out.1] at c1
            rw [← HXL.out.2] at c3
            have HY := Lib.hid (And.intro hout hrow)
            have f0 := hfr (j * 2)
            have f1 := hfr (j * 2 + 1)
            have HW1 : Hid (∀ v0 v1, ((w5.setCell ⟨g, j * 2, none⟩ v0).setCell ⟨g, j * 2 + 1, none⟩ v1).cell? ⟨g, (j - 1) * 2, none⟩ = some (.string y.name) ∧ ((w5.setCell ⟨g, j * 2, none⟩ v0).setCell ⟨g, j * 2 + 1, none⟩ v1).cell? ⟨g, (j - 1) * 2 + 1, none⟩ = some (.slice y.va yl y.vc) ∧ g < ((w5.setCell ⟨g, j * 2, none⟩ v0).setCell ⟨g, j * 2 + 1, none⟩ v1).heap.size ∧ ∀ k, ((w5.setCell ⟨g, j * 2, none⟩ v0).setCell ⟨g, j * 2 + 1, none⟩ v1).frozen? ⟨g, k, none⟩ = false) := Lib.hid (fun v0 v1 => by
              refine ⟨(swOff (by omega) _).trans ((swOff (by omega) _).trans c2), (swOff (by omega) _).trans ((swOff (by omega) _).trans c3), by simpa using lg', fun k => by rw [World.frozen?_setCell, World.frozen?_setCell]; exact hfr k⟩)
            clear hfr hout hrow hga' lg
            go_wp2_with fail
            refine wp_region_held_drew (S := fun _ => True) (by kernel_rfl) trivial (fun hHeld => ?_)
            refine wpAnyH_take (i := 0) (v := ?_) rfl (by kernel_rfl) (by kernel_rfl) (by kernel_rfl) (fun _ _ _ h => h) (Or.inl ⟨by first | kernel_rfl | rfl, ?_⟩) (by assumption) ?_
            rotate_left
            · intro w hSw; (try dsimp only at hSw); go_simp; try with_reducible rfl
            refine wpAnyH_take (i := 1) (v := ?_) rfl (by kernel_rfl) (by kernel_rfl) (by kernel_rfl) (fun _ _ _ h => h) (Or.inl ⟨by first | kernel_rfl | rfl, ?_⟩) (by assumption) ?_
            rotate_left
            · intro w hSw; (try dsimp only at hSw); go_simp; try with_reducible rfl
            refine wpAnyH_take (i := 2) (v := ?_) rfl (by kernel_rfl) (by kernel_rfl) (by kernel_rfl) (fun _ _ _ h => h) (Or.inl ⟨by first | kernel_rfl | rfl, ?_⟩) (by assumption) ?_
            rotate_left
            · intro w hSw; (try dsimp only at hSw); go_simp; try with_reducible rfl
            refine wpAnyH_take (i := 3) (v := ?_) rfl (by kernel_rfl) (by kernel_rfl) (by kernel_rfl) (fun _ _ _ h => h) (Or.inl ⟨by first | kernel_rfl | rfl, ?_⟩) (by assumption) ?_
            rotate_left
            · intro w hSw; (try dsimp only at hSw); go_simp; try with_reducible rfl
            refine wpAnyH_take (i := 4) (v := ?_) rfl (by kernel_rfl) (by kernel_rfl) (by kernel_rfl) (fun _ _ _ h => h) (Or.inl ⟨by first | kernel_rfl | rfl, ?_⟩) (by assumption) ?_
            rotate_left
            · intro w hSw; (try dsimp only at hSw); go_simp; try with_reducible rfl
            refine wpAnyH_take (i := 5) (v := ?_) rfl (by kernel_rfl) (by kernel_rfl) (by kernel_rfl) (fun _ _ _ h => h) (Or.inl ⟨by first | kernel_rfl | rfl, ?_⟩) (by assumption) ?_
            rotate_left
            · intro w hSw; (try dsimp only at hSw); go_simp; try with_reducible rfl
            refine wpAnyH_take (i := 6) (v := ?_) rfl (by kernel_rfl) (by kernel_rfl) (by kernel_rfl) (fun _ _ _ h => h) (Or.inl ⟨by first | kernel_rfl | rfl, ?_⟩) (by assumption) ?_
            rotate_left
            · intro w hSw; (try dsimp only at hSw); go_simp; try with_reducible rfl
            refine wpAnyH_take (i := 7) (v := ?_) rfl (by kernel_rfl) (by kernel_rfl) (by kernel_rfl) (fun _ _ _ h => h) (Or.inl ⟨by first | kernel_rfl | rfl, ?_⟩) (by assumption) ?_
            rotate_left
            · intro w hSw; (try dsimp only at hSw); go_simp; try with_reducible rfl
            refine wpAnyH_take (i := 8) (v := ?_) rfl (by kernel_rfl) (by kernel_rfl) (by kernel_rfl) (fun _ _ _ h => h) (Or.inl ⟨by first | kernel_rfl | rfl, ?_⟩) (by assumption) ?_
            rotate_left
            · intro w hSw; (try dsimp only at hSw); go_simp; try with_reducible rfl
            refine wpAnyH_take (i := 10) (v := ?_) rfl (by kernel_rfl) (by kernel_rfl) (by kernel_rfl) (fun _ _ _ h => h) (Or.inl ⟨by first | kernel_rfl | rfl, ?_⟩) (by assumption) ?_
            rotate_left
            · intro w hSw; (try dsimp only at hSw); go_simp; try with_reducible rfl
            refine wpAnyH_take (i := 11) (v := ?_) rfl (by kernel_rfl) (by kernel_rfl) (by kernel_rfl) (fun _ _ _ h => h) (Or.inl ⟨by first | kernel_rfl | rfl, ?_⟩) (by assumption) ?_
            rotate_left
            · intro w hSw; (try dsimp only at hSw); go_simp; try with_reducible rfl
            refine wpAnyH_take (i := 12) (v := ?_) rfl (by kernel_rfl) (by kernel_rfl) (by kernel_rfl) (fun _ _ _ h => h) (Or.inl ⟨by first | kernel_rfl | rfl, ?_⟩) (by assumption) ?_
            rotate_left
            · intro w hSw; (try dsimp only at hSw); go_simp; try with_reducible rfl
            refine wpAnyH_ready (rs := [9, 13]) (by kernel_rfl) (by simp) ?_
            refine AllReadyH.cons rfl (fun K' hK => ?_) (AllReadyH.cons rfl (fun K' hK => ?_) AllReadyH.nil)
            · go_simp
              refine hK.out _ _ trivial (fun hHeld => ?_)
              clear hK K'
              refine wpAnyH_ready (rs := [13]) (by kernel_rfl) (by simp) ?_
              refine AllReadyH.cons rfl (fun K' hK => ?_) AllReadyH.nil
              go_simp
              refine hK.out _ _ trivial (fun hHeld => ?_)
              clear hK K'
              refine wpAnyH_take (i := 14) (v := ?_) rfl (by kernel_rfl) (by kernel_rfl) (by kernel_rfl) (fun _ _ _ h => h) (Or.inl ⟨by first | kernel_rfl | rfl, ?_⟩) (by assumption) ?_
              rotate_left
              · intro w hSw; (try dsimp only at hSw); go_simp; try with_reducible rfl
              refine wpAnyH_ready (rs := [15]) (by kernel_rfl) (by simp) ?_
              refine AllReadyH.cons rfl (fun K' hK => ?_) AllReadyH.nil
              go_simp
              refine hK.out _ _ trivial (fun hHeld => ?_)
              clear hK K' c0 c1 c2 c3 f0 f1
              obtain ⟨e0, e1, e2, e3⟩ := HW1.out (.string y.name) (.slice y.va yl y.vc)
              have f2 := e3 ((j - 1) * 2)
              have f3 := e3 ((j - 1) * 2 + 1)
              clear e3
              refine wpAnyH_take (i := 16) (v := ?_) rfl (by kernel_rfl) (by kernel_rfl) (by kernel_rfl) (fun _ _ _ h => h) (Or.inl ⟨by first | kernel_rfl | rfl, ?_⟩) (by assumption) ?_
              rotate_left
              · intro w hSw; (try dsimp only at hSw); go_simp; try with_reducible rfl
              refine wpAnyH_ready (rs := [17]) (by kernel_rfl) (by simp) ?_
              refine AllReadyH.cons rfl (fun K' hK => ?_) AllReadyH.nil
              go_simp
              refine hK.out _ _ trivial (fun hHeld => ?_)
              clear hK K' e0 e1 e2 f2 f3
              refine wpAnyH_done (by kernel_rfl) ?_ _
              clear hHeld
              go_wp2
              go_roundw
              case rel =>
                obtain ⟨hR, hperm, hat, hsx, hx, hy⟩ := HX.out
                refine ⟨j - 1, (L2.set j y).set (j - 1) x, by first | (congr 1; omega) | (go_num; done), by omega, by omega, ?_, (swap_perm hx hy).trans hperm, fun k hk => ?_, hsx.step hgt (by omega) hx hy (by rw [← HCC.out]; exact hc)⟩
                · rw [HXL.out.1, HXL.out.2]
                  exact RowTo.drew ⟨HY.out.1, HY.out.2⟩
                · rw [swap_at hx hy, if_neg (by omega), if_neg (by omega)]; exact hat k hk
              case measure => simp [intOf]; omega
            · go_simp
              refine hK.out _ _ trivial (fun hHeld => ?_)
              clear hK K'
              refine wpAnyH_ready (rs := [9]) (by kernel_rfl) (by simp) ?_
              refine AllReadyH.cons rfl (fun K' hK => ?_) AllReadyH.nil
              go_simp
              refine hK.out _ _ trivial (fun hHeld => ?_)
              clear hK K'
              refine wpAnyH_take (i := 14) (v := ?_) rfl (by kernel_rfl) (by kernel_rfl) (by kernel_rfl) (fun _ _ _ h => h) (Or.inl ⟨by first | kernel_rfl | rfl, ?_⟩) (by assumption) ?_
              rotate_left
              · intro w hSw; (try dsimp only at hSw); go_simp; try with_reducible rfl
              refine wpAnyH_ready (rs := [15]) (by kernel_rfl) (by simp) ?_
              refine AllReadyH.cons rfl (fun K' hK => ?_) AllReadyH.nil
              go_simp
              refine hK.out _ _ trivial (fun hHeld => ?_)
              clear hK K' c0 c1 c2 c3 f0 f1
              obtain ⟨e0, e1, e2, e3⟩ := HW1.out (.string y.name) (.slice y.va yl y.vc)
              have f2 := e3 ((j - 1) * 2)
              have f3 := e3 ((j - 1) * 2 + 1)
              clear e3
              refine wpAnyH_take (i := 16) (v := ?_) rfl (by kernel_rfl) (by kernel_rfl) (by kernel_rfl) (fun _ _ _ h => h) (Or.inl ⟨by first | kernel_rfl | rfl, ?_⟩) (by assumption) ?_
              rotate_left
              · intro w hSw; (try dsimp only at hSw); go_simp; try with_reducible rfl
              refine wpAnyH_ready (rs := [17]) (by kernel_rfl) (by simp) ?_
              refine AllReadyH.cons rfl (fun K' hK => ?_) AllReadyH.nil
              go_simp
              refine hK.out _ _ trivial (fun hHeld => ?_)
              clear hK K' e0 e1 e2 f2 f3
              refine wpAnyH_done (by kernel_rfl) ?_ _
              clear hHeld
              go_wp2
              go_roundw
              case rel =>
                obtain ⟨hR, hperm, hat, hsx, hx, hy⟩ := HX.out
                refine ⟨j - 1, (L2.set j y).set (j - 1) x, by first | (congr 1; omega) | (go_num; done), by omega, by omega, ?_, (swap_perm hx hy).trans hperm, fun k hk => ?_, hsx.step hgt (by omega) hx hy (by rw [← HCC.out]; exact hc)⟩
                · rw [HXL.out.1, HXL.out.2]
                  exact RowTo.drew ⟨HY.out.1, HY.out.2⟩
                · rw [swap_at hx hy, if_neg (by omega), if_neg (by omega)]; exact hat k hk
              case measure => simp [intOf]; omega
          · go_wp2_with fail
            go_roundw
            case rel => exact ⟨i + 1, L2, by go_num, by omega, .inl (by omega), HR5.out, HX.out.2.1, HX.out.2.2.1, HX.out.2.2.2.1.close hgt (by omega) HX.out.2.2.2.2.1 HX.out.2.2.2.2.2 (by rw [← HCC.out]; exact hc)⟩
            case measure => simp [intOf]; omega
        · obtain rfl : s = j := by omega
          have p2 : ¬ (s : Int) < (s : Int) := by omega
          have HX := Lib.hid (And.intro hR (And.intro hperm (And.intro hat hsx)))
          clear hR hperm hat hsx hgt
          go_wp2_with fail
          go_quiet (fail)
          go_wp2_with fail
          go_roundw
          case rel => exact ⟨i + 1, L2, by go_num, by omega, .inl (by omega), HX.out.1.drewN _, HX.out.2.1, HX.out.2.2.1, HX.out.2.2.2.low⟩
          case measure => simp [intOf]; omega
    · have p1 : ¬ (i : Int) < (b : Int) := by omega
      go_wp2_with fail
      go_end0
      exact ⟨⟨_, rfl⟩, L', HX.out.1, HX.out.2.1, fun k hk => (by rcases hi2 with h | ⟨_, h⟩; exact HX.out.2.2.1 k (by omega); rw [h]), fun p q x y h1 h2 h3 hx hy => HX.out.2.2.2 p q x y h1 h2 (by omega) hx hy⟩
end Go.Proofs.YtelhnaphkbpakaaDoor
