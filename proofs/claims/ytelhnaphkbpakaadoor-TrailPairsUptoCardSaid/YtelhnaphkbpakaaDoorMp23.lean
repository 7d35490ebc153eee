/- Part 23 of the proof of TpP: lemmas. -/
import Derived.Test.YtelhnaphkbpakaaDoorMp22
namespace Go.Proofs.YtelhnaphkbpakaaDoor
open Go.RowKit
set_option linter.unusedVariables false
set_option maxRecDepth 100000
theorem sym_end {lo hi B : Nat} {V w2 : World} {a : Option Addr} {n cap : Nat} {L R L1 : List LA} {s d b : Nat} (hsd : s ≤ d) (hdb : d ≤ b) (hp : R.Perm L) (ho : ∀ k, (k < s ∨ b ≤ k) → R[k]? = L[k]?) (hc : Crs R s d b)
    (hp1 : L1.Perm R) (ho1 : ∀ k, (k < s ∨ d ≤ k) → L1[k]? = R[k]?) (hs1 : Srt L1 s d) (h2 : SrtTo lo hi B V a n cap L1 d b w2) : SrtTo lo hi B V a n cap L s b w2 := by
  obtain ⟨L2, hR2, hp2, ho2, hs2⟩ := h2
  refine ⟨L2, hR2, (hp2.trans hp1).trans hp, fun k hk => ?_, (hs1.same (fun k k1 k2 => ho2 k (.inl k2))).join hs2 (hc.perm (fun p x a1 a2 hx => ?_) (fun p x a1 a2 hx => ?_))⟩
  · rw [ho2 k (by omega), ho1 k (by omega), ho k hk]
  · rw [ho2 p (.inl a2)] at hx
    exact perm_in hp1 ho1 a1 a2 hx
  · obtain ⟨p', b1, b2, b3⟩ := perm_in hp2 ho2 a1 a2 hx
    rw [ho1 p' (.inr b1)] at b3
    exact ⟨p', b1, b2, b3⟩
def SymIH (lo hi B : Nat) (V : World) (a : Option Addr) (n cap : Nat) (l : Nat) : Prop := ∀ (w' : World) (L' : List LA) (s' m' b' : Nat), RowTo lo hi B V w' a n cap L' → ValOk lo hi V L' → s' < m' → m' < b' → b' ≤ n → b' - s' < l → Srt L' s' m' → Srt L' m' b' →
  Calls Tryd.prog 113 #[.slice a n cap, .int .i64 (s' : Int), .int .i64 (m' : Int), .int .i64 (b' : Int), .func (.func 81) #[] #[]] w' fun e w'' => (∃ v, e = .returned v) ∧ SrtTo lo hi B V a n cap L' s' b' w''
set_option maxHeartbeats 8000000 in
theorem symMid_calls (w : World) {lo hi B : Nat} {V : World} {a : Option Addr} {n cap : Nat} {L : List LA} (h : RowTo lo hi B V w a n cap L) (hg : ∀ g, (Value.slice a n cap).ownBlock = some g → lo ≤ g ∧ g < hi) (hv : ValOk lo hi V L) (s m b : Nat) (hn : n ≤ 1099511627776) (hsm : s + 1 < m) (hmb : m + 1 < b) (hb : b ≤ n) (h1 : Srt L s m) (h2 : Srt L m b) (ih : SymIH lo hi B V a n cap (b - s)) :
    Calls Tryd.prog 113 #[.slice a n cap, .int .i64 (s : Int), .int .i64 (m : Int), .int .i64 (b : Int), .func (.func 81) #[] #[]] w fun e w' => (∃ v, e = .returned v) ∧ SrtTo lo hi B V a n cap L s b w' := by
  have HH := Lib.hid h
  have HG := Lib.hid hg
  have HV := Lib.hid hv
  have HS12 := Lib.hid (And.intro h1 h2)
  have HIH := Lib.hid ih
  have q0 : IntKind.i64.wrap ((m : Int) - (s : Int)) = (m : Int) - (s : Int) := IntWalk.i64_in _ (by omega)
  have q1 : IntKind.i64.wrap ((b : Int) - (m : Int)) = (b : Int) - (m : Int) := IntWalk.i64_in _ (by omega)
  have q2 : ((m : Int) - (s : Int) == 1) = false := by simp; omega
  have q3 : ((b : Int) - (m : Int) == 1) = false := by simp; omega
  obtain ⟨d, hd⟩ : ∃ d : Nat, d = (s + b) / 2 := ⟨_, rfl⟩
  have hds : s < d := by omega
  have hdb : d < b := by omega
  have hd2 : 2 * d ≤ s + b := by omega
  have hd3 : s + b ≤ 2 * d + 1 := by omega
  have hdI : ((s : Int) + (b : Int)) / 2 = (d : Int) := by omega
  have r1 : IntKind.i64.wrap ((s : Int) + (b : Int)) = (s : Int) + (b : Int) := IntWalk.i64_in _ (by omega)
  have r2 : IntKind.u64.wrap ((s : Int) + (b : Int)) = (s : Int) + (b : Int) := IntWalk.u64_in _ (by omega)
  have r3 : IntKind.u64.wrap (d : Int) = (d : Int) := IntWalk.u64_in _ (by omega)
  have r4 : IntKind.i64.wrap (d : Int) = (d : Int) := IntWalk.i64_in _ (by omega)
  have r5 : IntKind.i64.wrap ((d : Int) + (m : Int)) = (d : Int) + (m : Int) := IntWalk.i64_in _ (by omega)
  clear h hg hv h1 h2 hd ih
  go_enter Tryd.func113, Tryd.ntmps113
  go_upto_if 140 with fail
  go_cut [20, 21] from 138 to 146 (fun v20 v21 wc => ∃ st r : Nat, v20 = .int .i64 (st : Int) ∧ v21 = .int .i64 (r : Int) ∧ ((d < m ∧ st + b = d + m ∧ r = d) ∨ (m ≤ d ∧ st = s ∧ r = m)) ∧ w = wc)
  case first =>
    by_cases hdm : d < m
    · have p1 : (d : Int) < (m : Int) := by omega
      obtain ⟨st, hst⟩ : ∃ st : Nat, st = d + m - b := ⟨_, rfl⟩
      have hst2 : st + b = d + m := by omega
      have hstI : (d : Int) + (m : Int) - (b : Int) = (st : Int) := by omega
      have r6 : IntKind.i64.wrap (st : Int) = (st : Int) := IntWalk.i64_in _ (by omega)
      clear hst
      go_wp2_with fail
      go_meet
      exact ⟨st, d, rfl, rfl, .inl ⟨hdm, hst2, rfl⟩, rfl⟩
    · have p1 : ¬ (d : Int) < (m : Int) := by omega
      go_wp2_with fail
      go_meet
      exact ⟨s, m, rfl, rfl, .inr ⟨by omega, rfl, rfl⟩, rfl⟩
  case rest =>
    obtain ⟨st, rr, rfl, rfl, hsr, rfl⟩ := hcut
    have hst1 : s ≤ st := by omega
    have hst2 : st ≤ rr := by omega
    have hrr : rr ≤ d := by omega
    have hrm : rr ≤ m := by omega
    obtain ⟨P, hP⟩ : ∃ P : Nat, P + 1 = d + m := ⟨d + m - 1, by omega⟩
    have hPI : (d : Int) + (m : Int) - 1 = (P : Int) := by omega
    have r7 : IntKind.i64.wrap (P : Int) = (P : Int) := IntWalk.i64_in _ (by omega)
    clear q0 q1 q2 q3 r1 r2 hdI
    go_wp2_with fail
    go_loopw [20, 21] (fun vi vj wr => ∃ (i j : Nat), vi = .int .i64 (i : Nat) ∧ vj = .int .i64 (j : Nat) ∧ st ≤ i ∧ i ≤ j ∧ j ≤ rr ∧ RowTo lo hi B V wr a n cap L ∧ (∀ x y, st < i → L[i - 1]? = some x → L[P - (i - 1)]? = some y → leA x y) ∧ (∀ x y, j < rr → L[P - j]? = some x → L[j]? = some y → leA x y)) (fun vi vj _ => (intOf vj).toNat - (intOf vi).toNat)
    case atStart => exact ⟨st, rr, rfl, rfl, Nat.le_refl _, hst2, Nat.le_refl _, HH.out, fun x y hh => by omega, fun x y hh => by omega⟩
    case round =>
      obtain ⟨i, j, rfl, rfl, hi1, hi2, hi3, hR, hlo, hhi⟩ := hrel
      clear r3 r4 r5 r7 hPI
      by_cases hlt : i < j
      · have p1 : (i : Int) < (j : Int) := by omega
        obtain ⟨c, hc⟩ : ∃ c : Nat, c = (i + j) / 2 := ⟨_, rfl⟩
        have hci : i ≤ c := by omega
        have hcj : c < j := by omega
        have hcI : ((i : Int) + (j : Int)) / 2 = (c : Int) := by omega
        obtain ⟨u, hu⟩ : ∃ u : Nat, u = P - c := ⟨_, rfl⟩
        have huI : (P : Int) - (c : Int) = (u : Int) := by omega
        have hub : u < b := by omega
        have HU := Lib.hid hu
        clear hc hu
        have hL := hR.len
        obtain ⟨x, hx⟩ : ∃ x, L[u]? = some x := ⟨_, List.getElem?_eq_getElem (by omega)⟩
        obtain ⟨y, hy⟩ : ∃ y, L[c]? = some y := ⟨_, List.getElem?_eq_getElem (by omega)⟩
        have hvx := fun w' (hw : OutW lo hi V w') => HV.out x (List.mem_of_getElem? hx) w' hw
        have hvy := fun w' (hw : OutW lo hi V w') => HV.out y (List.mem_of_getElem? hy) w' hw
        obtain ⟨g, hga, lg, c0, c1, c2, c3, hfr, hout, hrow⟩ := row_swap hR.out hR.row HG.out hx hy
        subst hga
        have HCM := Lib.hid (cmpA_calls wr.drew x y (hvx _ hR.drew.out) (hvy _ hR.drew.out))
        obtain ⟨xl, exl⟩ : ∃ xl, xl = x.val.length := ⟨_, rfl⟩
        obtain ⟨yl, eyl⟩ : ∃ yl, yl = y.val.length := ⟨_, rfl⟩
        unfold LA.v at HCM
        rw [← exl] at c1 HCM
        rw [← eyl] at c3 HCM
        have HX := Lib.hid (And.intro hR (And.intro hx (And.intro hy (And.intro hlo hhi))))
        have w1 : IntKind.i64.wrap ((i : Int) + (j : Int)) = (i : Int) + (j : Int) := IntWalk.i64_in _ (by omega)
        have w2 : IntKind.u64.wrap ((i : Int) + (j : Int)) = (i : Int) + (j : Int) := IntWalk.u64_in _ (by omega)
        have w3 : IntKind.u64.wrap (c : Int) = (c : Int) := IntWalk.u64_in _ (by omega)
        have w4 : IntKind.i64.wrap (c : Int) = (c : Int) := IntWalk.i64_in _ (by omega)
        have w5 : IntKind.i64.wrap ((c : Int) + 1) = (c : Int) + 1 := IntWalk.i64_in _ (by omega)
        have w6 : IntKind.i64.wrap (u : Int) = (u : Int) := IntWalk.i64_in _ (by omega)
        have b1 : (0 : Int) ≤ (c : Int) := by omega
        have b2 : (0 : Int) ≤ (u : Int) := by omega
        have b3 : (c : Int) < (n : Int) := by omega
        have b4 : (u : Int) < (n : Int) := by omega
        have HS : Hid (∀ W, Below wr.heap.size wr W → (W.cell? ⟨g, u * 2, none⟩ = some (.string x.name) ∧ W.cell? ⟨g, u * 2 + 1, none⟩ = some (.slice x.va xl x.vc) ∧ W.cell? ⟨g, c * 2, none⟩ = some (.string y.name) ∧ W.cell? ⟨g, c * 2 + 1, none⟩ = some (.slice y.va yl y.vc))) := Lib.hid (fun W bb =>
          ⟨(bb.cell (p := ⟨g, u * 2, none⟩) lg).trans c0, (bb.cell (p := ⟨g, u * 2 + 1, none⟩) lg).trans c1, (bb.cell (p := ⟨g, c * 2, none⟩) lg).trans c2, (bb.cell (p := ⟨g, c * 2 + 1, none⟩) lg).trans c3⟩)
        clear hR hx hy hout hrow hL exl eyl hvx hvy hfr hlo hhi
        go_wp2_with fail
        refine wp_region_held_drew (S := fun W => (W.cell? ⟨g, u * 2, none⟩ = some (.string x.name) ∧ W.cell? ⟨g, u * 2 + 1, none⟩ = some (.slice x.va xl x.vc) ∧ W.cell? ⟨g, c * 2, none⟩ = some (.string y.name) ∧ W.cell? ⟨g, c * 2 + 1, none⟩ = some (.slice y.va yl y.vc))) (by kernel_rfl) ⟨c0, c1, c2, c3⟩ (fun hHeld => ?_)
        refine wpAnyH_take (i := 0) (v := ?_) rfl (by kernel_rfl) (by kernel_rfl) (by kernel_rfl) (fun _ _ _ h => h) (Or.inl ⟨by first | kernel_rfl | rfl, ?_⟩) (by assumption) ?_
        rotate_left
        · intro w hSw; (try dsimp only at hSw); go_simp; try with_reducible rfl
        refine wpAnyH_take (i := 1) (v := ?_) rfl (by kernel_rfl) (by kernel_rfl) (by kernel_rfl) (fun _ _ _ h => h) (Or.inl ⟨by first | kernel_rfl | rfl, ?_⟩) (by assumption) ?_
        rotate_left
        · intro w hSw; (try dsimp only at hSw); go_simp; try with_reducible rfl
        refine wpAnyH_take (i := 2) (v := ?_) rfl (by kernel_rfl) (by kernel_rfl) (by kernel_rfl) (fun _ _ _ h => h) (Or.inl ⟨by first | kernel_rfl | rfl, ?_⟩) (by assumption) ?_
        rotate_left
        · intro w hSw; (try dsimp only at hSw); go_simp; try with_reducible rfl
        refine wpAnyH_take (i := 3) (v := ?_) rfl (by kernel_rfl) (by kernel_rfl) (by kernel_rfl) (fun _ _ _ h => h) (Or.inl ⟨by first | kernel_rfl | rfl, ?_⟩) (by assumption) ?_
        rotate_left
        · intro w hSw; (try dsimp only at hSw); go_simp; try with_reducible rfl
        refine wpAnyH_take (i := 4) (v := ?_) rfl (by kernel_rfl) (by kernel_rfl) (by kernel_rfl) (fun _ _ _ h => h) (Or.inl ⟨by first | kernel_rfl | rfl, ?_⟩) (by assumption) ?_
        rotate_left
        · intro w hSw; (try dsimp only at hSw); go_simp; try with_reducible rfl
        refine wpAnyH_take (i := 5) (v := ?_) rfl (by kernel_rfl) (by kernel_rfl) (by kernel_rfl) (fun _ _ _ h => h) (Or.inl ⟨by first | kernel_rfl | rfl, ?_⟩) (by assumption) ?_
        rotate_left
        · intro w hSw; (try dsimp only at hSw); go_simp; try with_reducible rfl
        refine wpAnyH_take (i := 6) (v := ?_) rfl (by kernel_rfl) (by kernel_rfl) (by kernel_rfl) (fun _ _ _ h => h) (Or.inl ⟨by first | kernel_rfl | rfl, ?_⟩) (by assumption) ?_
        rotate_left
        · intro w hSw; (try dsimp only at hSw); go_simp; try with_reducible rfl
        refine wpAnyH_take (i := 7) (v := ?_) rfl (by kernel_rfl) (by kernel_rfl) (by kernel_rfl) (fun _ _ _ h => h) (Or.inl ⟨by first | kernel_rfl | rfl, ?_⟩) (by assumption) ?_
        rotate_left
        · intro w hSw; (try dsimp only at hSw); go_simp; try with_reducible rfl
        refine wpAnyH_take (i := 8) (v := ?_) rfl (by kernel_rfl) (by kernel_rfl) (by kernel_rfl) (fun _ _ _ h => h) (Or.inl ⟨by first | kernel_rfl | rfl, ?_⟩) (by assumption) ?_
        rotate_left
        · intro w hSw; (try dsimp only at hSw); go_simp; try with_reducible rfl
        refine wpAnyH_take (i := 9) (v := ?_) rfl (by kernel_rfl) (by kernel_rfl) (by kernel_rfl) (fun _ _ _ h => h) (Or.inl ⟨by first | kernel_rfl | rfl, ?_⟩) (by assumption) ?_
        rotate_left
        · intro w hSw; (try dsimp only at hSw); go_simp; try with_reducible rfl
        refine wpAnyH_take (i := 10) (v := ?_) rfl (by kernel_rfl) (by kernel_rfl) (by kernel_rfl) (fun _ _ _ h => h) (Or.inl ⟨by first | kernel_rfl | rfl, ?_⟩) (by assumption) ?_
        rotate_left
        · intro w hSw; (try dsimp only at hSw); go_simp; try with_reducible rfl
        refine wpAnyH_ready (rs := [11]) (by kernel_rfl) (by simp) ?_
        refine AllReadyH.cons rfl (fun K' hK => ?_) AllReadyH.nil
        go_simp
        go_at_call 81
        refine HCM.out.mono ?_
        rintro e w5 ⟨rfl, bb5⟩
        have hb5 : Below wr.heap.size wr w5 := ((Below.refl _ wr).drew).trans bb5
        refine hK.out _ _ (HS.out _ hb5) (fun hHeld => ?_)
        clear hK K' hHeld
        have hHeld := HS.out _ hb5
        have HR5 := Lib.hid (HX.out.1.below hb5)
        obtain ⟨C, hC⟩ : ∃ C, C = cmpA (attrOf x) (attrOf y) := ⟨_, rfl⟩
        rw [← hC]
        have HCC := Lib.hid hC
        clear bb5 hb5 hC HCM HS c0 c1 c2 c3
        refine wpAnyH_take (i := 12) (v := ?_) rfl (by kernel_rfl) (by kernel_rfl) (by kernel_rfl) (fun _ _ _ h => h) (Or.inl ⟨by first | kernel_rfl | rfl, ?_⟩) (by assumption) ?_
        rotate_left
        · intro w hSw; (try dsimp only at hSw); go_simp; try with_reducible rfl
        refine wpAnyH_take (i := 13) (v := ?_) rfl (by kernel_rfl) (by kernel_rfl) (by kernel_rfl) (fun _ _ _ h => h) (Or.inl ⟨by first | kernel_rfl | rfl, ?_⟩) (by assumption) ?_
        rotate_left
        · intro w hSw; (try dsimp only at hSw); go_simp; try with_reducible rfl
        refine wpAnyH_done (by kernel_rfl) ?_ _
        clear hHeld
        obtain ⟨D, hD⟩ : ∃ D : Bool, D = !decide (C < 0) := ⟨_, rfl⟩
        rw [← hD]
        have HD := Lib.hid hD
        clear hD
        cases D
        · have HCN : Hid (C < 0) := Lib.hid (by simpa using HD.out)
          go_wp2_with fail
          go_roundw
          case rel =>
            obtain ⟨hR, hx, hy, hlo, hhi⟩ := HX.out
            refine ⟨i, c, rfl, rfl, by omega, by omega, by omega, HR5.out, hlo, fun x' y' hh h1 h2 => ?_⟩
            rw [← HU.out, hx] at h1
            rw [hy] at h2
            cases h1
            cases h2
            exact Int.le_of_lt (by rw [← HCC.out]; exact HCN.out)
          case measure => simp [intOf]; omega
        · have HCN : Hid (¬ C < 0) := Lib.hid (by simpa using HD.out)
          go_wp2_with fail
          go_roundw
          case rel =>
            obtain ⟨hR, hx, hy, hlo, hhi⟩ := HX.out
            refine ⟨c + 1, j, by go_num, rfl, by omega, by omega, hi3, HR5.out, fun x' y' hh h1 h2 => ?_, hhi⟩
            rw [show c + 1 - 1 = c by omega, hy] at h1
            rw [show c + 1 - 1 = c by omega, ← HU.out, hx] at h2
            cases h1
            cases h2
            exact leA.of_not (by rw [← HCC.out]; exact HCN.out)
          case measure => simp [intOf]; omega
      · obtain rfl : i = j := by omega
        have p1 : ¬ (i : Int) < (i : Int) := by omega
        obtain ⟨t, ht⟩ : ∃ t, t = i := ⟨_, rfl⟩
        obtain ⟨e, he⟩ : ∃ e : Nat, e + i = d + m := ⟨d + m - i, by omega⟩
        have heI : (d : Int) + (m : Int) - (i : Int) = (e : Int) := by omega
        have r8 : IntKind.i64.wrap (e : Int) = (e : Int) := IntWalk.i64_in _ (by omega)
        have hsi : s ≤ i := by omega
        have him : i ≤ m := by omega
        have hid_ : i ≤ d := by omega
        have hme : m ≤ e := by omega
        have heb : e ≤ b := by omega
        have hde : d ≤ e := by omega
        have HX := Lib.hid (And.intro hlo hhi)
        have HRC := Lib.hid hR
        clear hR hlo hhi hlt ht t
        go_upto_region 39 with fail
        go_cut [185] from 178 to 185 (fun v wc => ∃ c : Bool, v = .bool c ∧ Hid (c = true ↔ (i < m ∧ m < e)) ∧ RowTo lo hi B V wc a n cap L)
        case first =>
          by_cases g1 : i < m
          · have p1 : (i : Int) < (m : Int) := by omega
            by_cases g2 : m < e
            · have p2 : (m : Int) < (e : Int) := by omega
              go_wp2_with fail
              go_meet
              exact ⟨true, rfl, Lib.hid (by simp [g1, g2]), HRC.out⟩
            · have p2 : ¬ (m : Int) < (e : Int) := by omega
              go_wp2_with fail
              go_meet
              exact ⟨false, rfl, Lib.hid (by simp [g1, g2]), HRC.out⟩
          · have p1 : ¬ (i : Int) < (m : Int) := by omega
            go_wp2_with fail
            go_meet
            exact ⟨false, rfl, Lib.hid (by simp [g1]), HRC.out⟩
        case rest =>
          obtain ⟨c, rfl, hc, hR⟩ := hcut
          clear HRC p1 heI r8
          have HRC := Lib.hid hR
          clear hR
          go_upto_if 185 with fail
          go_cut [] from 178 to 191 (fun wc => ∃ R : List LA, RowTo lo hi B V wc a n cap R ∧ R.Perm L ∧ ∀ k, R[k]? = rotF (fun k => L[k]?) i m e k)
          case first =>
            cases c
            · go_wp2_with fail
              go_meet
              have hc' : ¬ (i < m ∧ m < e) := fun hh => by simpa using hc.out.2 hh
              exact ⟨L, HRC.out, List.Perm.refl _, fun k => rot_none (by omega) k⟩
            · have hc' := hc.out.1 rfl
              have HRT := Lib.hid (fun F => rotate_calls _ F HRC.out HG.out i m e hn hc'.1 hc'.2 (by omega))
              clear hc'
              go_wp2_with fail
              refine (HRT.out _).mono ?_
              rintro ee w5 ⟨⟨v5, rfl⟩, R, hR, hp, hat⟩
              have HRR := Lib.hid (And.intro hR (And.intro hp hat))
              clear hR hp hat HRT
              go_wp2_with fail
              go_meet
              exact ⟨R, HRR.out⟩
          case rest =>
            obtain ⟨R, hR, hp, hat⟩ := hcut
            clear HRC hc
            have HRC := Lib.hid hR
            have HRR := Lib.hid (And.intro hp hat)
            clear hR hp hat
            have HPT : Hid ((Srt R s i ∧ Srt R i d ∧ Srt R d e ∧ Srt R e b) ∧ Crs R s d b ∧ (∀ k, (k < s ∨ b ≤ k) → R[k]? = L[k]?)) := Lib.hid ⟨rot_parts HS12.out.1 HS12.out.2 hsi him hme heb (by omega) HRR.out.2,
              sym_cross HS12.out.1 HS12.out.2 hsi him hme heb (by omega) HRR.out.2 (fun c1 c2 x y hx hy => HX.out.1 x y (by omega) hx (by rw [show P - (i - 1) = e by omega]; exact hy)) (fun c1 c2 x y hx hy => HX.out.2 x y (by omega) (by rw [show P - i = e - 1 by omega]; exact hx) hy) (by rw [HH.out.len]; exact hb),
              fun k hk => by rw [HRR.out.2]; unfold rotF; rw [if_neg (by omega)]⟩
            go_upto_region 41 with fail
            go_cut [199] from 192 to 199 (fun v wc => ∃ c : Bool, v = .bool c ∧ Hid (c = true ↔ (s < i ∧ i < d)) ∧ RowTo lo hi B V wc a n cap R)
            case first =>
              by_cases g1 : s < i
              · have p1 : (s : Int) < (i : Int) := by omega
                by_cases g2 : i < d
                · have p2 : (i : Int) < (d : Int) := by omega
                  go_wp2_with fail
                  go_meet
                  exact ⟨true, rfl, Lib.hid (by simp [g1, g2]), HRC.out⟩
                · have p2 : ¬ (i : Int) < (d : Int) := by omega
                  go_wp2_with fail
                  go_meet
                  exact ⟨false, rfl, Lib.hid (by simp [g1, g2]), HRC.out⟩
              · have p1 : ¬ (s : Int) < (i : Int) := by omega
                go_wp2_with fail
                go_meet
                exact ⟨false, rfl, Lib.hid (by simp [g1]), HRC.out⟩
            case rest =>
              obtain ⟨c, rfl, hc, hR⟩ := hcut
              clear HRC
              have HRC := Lib.hid hR
              clear hR
              go_upto_if 199 with fail
              go_cut [] from 192 to 205 (fun wc => SrtTo lo hi B V a n cap R s d wc)
              case first =>
                cases c
                · go_wp2_with fail
                  go_meet
                  have hc' : ¬ (s < i ∧ i < d) := fun hh => by simpa using hc.out.2 hh
                  refine ⟨R, HRC.out, List.Perm.refl _, fun _ _ => rfl, ?_⟩
                  rcases (show i = s ∨ i = d by omega) with e1 | e1
                  · subst e1; exact HPT.out.1.2.1
                  · subst e1; exact HPT.out.1.1
                · have hc' := hc.out.1 rfl
                  have HRT := Lib.hid (HIH.out _ R s i d HRC.out (HV.out.perm HRR.out.1) hc'.1 hc'.2 (by omega) (by omega) HPT.out.1.1 HPT.out.1.2.1)
                  clear hc'
                  go_wp2_with fail
                  refine HRT.out.mono ?_
                  rintro ee w6 ⟨⟨v6, rfl⟩, hS⟩
                  have HSS := Lib.hid hS
                  clear hS HRT
                  go_wp2_with fail
                  go_meet
                  exact HSS.out
              case rest =>
                obtain ⟨L1, hR, hp1, ho1, hs1⟩ := hcut
                clear HRC hc
                have HRC := Lib.hid hR
                have H11 := Lib.hid (And.intro hp1 (And.intro ho1 hs1))
                clear hR hp1 ho1 hs1
                go_upto_region 43 with fail
                go_cut [213] from 206 to 213 (fun v wc => ∃ c : Bool, v = .bool c ∧ Hid (c = true ↔ (d < e ∧ e < b)) ∧ RowTo lo hi B V wc a n cap L1)
                case first =>
                  by_cases g1 : d < e
                  · have p1 : (d : Int) < (e : Int) := by omega
                    by_cases g2 : e < b
                    · have p2 : (e : Int) < (b : Int) := by omega
                      go_wp2_with fail
                      go_meet
                      exact ⟨true, rfl, Lib.hid (by simp [g1, g2]), HRC.out⟩
                    · have p2 : ¬ (e : Int) < (b : Int) := by omega
                      go_wp2_with fail
                      go_meet
                      exact ⟨false, rfl, Lib.hid (by simp [g1, g2]), HRC.out⟩
                  · have p1 : ¬ (d : Int) < (e : Int) := by omega
                    go_wp2_with fail
                    go_meet
                    exact ⟨false, rfl, Lib.hid (by simp [g1]), HRC.out⟩
                case rest =>
                  obtain ⟨c, rfl, hc, hR⟩ := hcut
                  clear HRC
                  have HRC := Lib.hid hR
                  clear hR
                  have HE : Hid (∀ w2, SrtTo lo hi B V a n cap L1 d b w2 → SrtTo lo hi B V a n cap L s b w2) := Lib.hid (fun w2 h2 => sym_end (by omega) (by omega) HRR.out.1 HPT.out.2.2 HPT.out.2.1 H11.out.1 H11.out.2.1 H11.out.2.2 h2)
                  cases c
                  · have HF : Hid (Srt L1 d b) := Lib.hid (by
                      have hc' : ¬ (d < e ∧ e < b) := fun hh => by simpa using hc.out.2 hh
                      rcases (show e = d ∨ e = b by omega) with e1 | e1
                      · subst e1; exact HPT.out.1.2.2.2.same (fun k k1 k2 => H11.out.2.1 k (.inr (by omega)))
                      · subst e1; exact HPT.out.1.2.2.1.same (fun k k1 k2 => H11.out.2.1 k (.inr (by omega))))
                    go_wp2_with fail
                    go_end0
                    exact ⟨⟨_, rfl⟩, HE.out _ ⟨L1, HRC.out, List.Perm.refl _, fun _ _ => rfl, HF.out⟩⟩
                  · have hc' := hc.out.1 rfl
                    have HRT := Lib.hid (HIH.out _ L1 d e b HRC.out ((HV.out.perm HRR.out.1).perm H11.out.1) hc'.1 hc'.2 (by omega) (by omega) (HPT.out.1.2.2.1.same (fun k k1 k2 => H11.out.2.1 k (.inr (by omega)))) (HPT.out.1.2.2.2.same (fun k k1 k2 => H11.out.2.1 k (.inr (by omega)))))
                    clear hc'
                    go_wp2_with fail
                    refine HRT.out.mono ?_
                    rintro ee w6 ⟨⟨v6, rfl⟩, hS⟩
                    have HSS := Lib.hid hS
                    clear hS HRT
                    go_wp2_with fail
                    go_end0
                    exact ⟨⟨_, rfl⟩, HE.out _ HSS.out⟩
theorem symMerge_all {lo hi B : Nat} {V : World} {a : Option Addr} {n cap : Nat} (hg : ∀ g, (Value.slice a n cap).ownBlock = some g → lo ≤ g ∧ g < hi) (hn : n ≤ 1099511627776) (l : Nat) : SymIH lo hi B V a n cap l := by
  induction l with
  | zero => intro w L s m b h hv hsm hmb hb hl; omega
  | succ l ih =>
    intro w L s m b h hv hsm hmb hb hl h1 h2
    by_cases e1 : m = s + 1
    · exact symLow_calls w h hg hv s m b hn e1 hmb hb h2
    · by_cases e2 : b = m + 1
      · exact symHigh_calls w h hg hv s m b hn (by omega) e2 hb h1
      · exact symMid_calls w h hg hv s m b hn (by omega) (by omega) hb h1 h2 (fun w' L' s' m' b' g1 g2 g3 g4 g5 g6 => ih w' L' s' m' b' g1 g2 g3 g4 g5 (by omega))
theorem symMerge_calls (w : World) {lo hi B : Nat} {V : World} {a : Option Addr} {n cap : Nat} {L : List LA} (h : RowTo lo hi B V w a n cap L) (hg : ∀ g, (Value.slice a n cap).ownBlock = some g → lo ≤ g ∧ g < hi) (hv : ValOk lo hi V L) (s m b : Nat) (hn : n ≤ 1099511627776) (hsm : s < m) (hmb : m < b) (hb : b ≤ n) (h1 : Srt L s m) (h2 : Srt L m b) :
    Calls Tryd.prog 113 #[.slice a n cap, .int .i64 (s : Int), .int .i64 (m : Int), .int .i64 (b : Int), .func (.func 81) #[] #[]] w fun e w' => (∃ v, e = .returned v) ∧ SrtTo lo hi B V a n cap L s b w' := symMerge_all hg hn (b - s + 1) w L s m b h hv hsm hmb hb (by omega) h1 h2
end Go.Proofs.YtelhnaphkbpakaaDoor
