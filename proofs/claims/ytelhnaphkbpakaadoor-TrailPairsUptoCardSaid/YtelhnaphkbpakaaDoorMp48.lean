/- Part 48 of the proof of TpP: lemmas. -/
import Derived.Test.YtelhnaphkbpakaaDoorMp47
namespace Go.Proofs.YtelhnaphkbpakaaDoor
open Go.RowKit
set_option linter.unusedVariables false
set_option maxRecDepth 100000
def BdH (F : For) : Prop := ∀ x ∈ F, x.sl ≤ 4294967295 ∧ x.gn ≤ 4294967295
theorem bdH_nil : BdH [] := fun x h => absurd h (List.not_mem_nil)
theorem bdH_mod {F : For} (h : BdH F) (k : Nat) (f : FN → FN) (hf : ∀ x, (f x).sl = x.sl ∧ (f x).gn = x.gn) : BdH (F.modify k f) := by
 intro x hx
 obtain ⟨i, hi⟩ := List.mem_iff_getElem?.1 hx
 rw [List.getElem?_modify] at hi
 cases e : F[i]? with
 | none => rw [e] at hi; simp at hi
 | some y =>
  rw [e] at hi
  have hi : some (if k = i then f y else y) = some x := by simpa using hi
  simp only [Option.some.injEq] at hi
  have hy := h y (List.mem_of_getElem? e)
  split at hi
  ·subst hi; rw [(hf y).1, (hf y).2]; exact hy
  ·subst hi; exact hy
theorem bdH_move {F : For} (h : BdH F) (m : Mk) : BdH (moveF F m) := by
 unfold moveF
 split
 ·split
  ·exact h
  ·split
   ·split
    ·exact h
    ·unfold hng; refine bdH_mod (bdH_mod h _ _ ?_) _ _ ?_ <;> exact fun x => ⟨rfl, rfl⟩
   ·split
    ·split
     ·exact h
     ·unfold cutF; exact bdH_mod (bdH_mod h _ (fun y => { y with down := List.filter _ y.down }) (fun x => ⟨rfl, rfl⟩)) _ (fun x => { x with up := none }) (fun x => ⟨rfl, rfl⟩)
    ·split
     ·split
      ·exact h
      ·unfold Kill; exact bdH_mod h _ (fun x => { x with live := false }) (fun x => ⟨rfl, rfl⟩)
     ·exact h
 ·exact h
theorem bdH_made {F : For} (h : BdH F) {B : Nat} {Q : Nat → Prop} {w : World} {tb : Nat} {X : TX} {s g : Nat} (ht : TreeAt B Q w tb X) (e : X.F = Made F s g) : BdH (Made F s g) := by
 intro x hx
 have hx' : x ∈ F ++ [⟨s, g, none, [], true⟩] := hx
 rcases List.mem_append.1 hx' with hx | hx
 ·exact h x hx
 ·obtain rfl := List.mem_singleton.1 hx
  obtain ⟨nb, P, _, _, _, h2, h3⟩ := ht.rw.at_live (k := F.length) (by rw [e]; exact made_at) rfl
  exact ⟨by simp only at h2 ⊢; omega, h3⟩
def GrPB (w : World) (L : List MkV) (tb fb : Nat) (w' : World) : Prop := ∃ Q X R rv i, Both w.heap.size Q w' tb fb X R rv ∧ fgt X.F = runS ((L.map MkV.m).take i) ∧ (L.length ≤ i ∨ 200 ≤ X.F.length) ∧ Below w.heap.size w w' ∧ BdH X.F
def GrJ (w : World) (L : List MkV) (tb fb i : Nat) (W : World) : Prop := ∃ Q X R rv, Both w.heap.size Q W tb fb X R rv ∧ fgt X.F = runS ((L.map MkV.m).take i) ∧ Below w.heap.size w W ∧ BdH X.F
set_option maxHeartbeats 8000000 in
theorem grownB_calls {w : World} {a : Option Addr} {L : List MkV} {cap : Nat} (hL : MksIn w a L) (hlen : L.length ≤ 1099511627776) (hnode : ∀ x ∈ L, 1 ≤ x.m.kind → x.m.kind ≤ 5 → NodeC x) :
  Calls Tryd.prog 9 #[.slice a L.length cap] w fun e w' => ∃ tb fb, e = .returned (.tuple #[.pointer (some ⟨tb, 0, none⟩), .pointer (some ⟨fb, 0, none⟩), .bool true]) ∧ GrPB w L tb fb w' := by
 have HL := Lib.hid hL
 have HNODE := Lib.hid hnode
 obtain ⟨n, hn⟩ : ∃ n, n = L.length := ⟨_, rfl⟩
 rw [← hn] at hlen ⊢
 have HN := Lib.hid hn
 clear hL hnode hn
 go_enter Tryd.func9, Tryd.ntmps9
 go_wp2_with (go_at_call 35; refine (newT_calls 1000 3 w.heap.size w (Nat.le_refl _) (by omega) (by omega) (by omega) (by omega)).mono ?_; rintro e w1 ⟨tb, ab, rfl, ht1, b1⟩; have H1 := Lib.hid (And.intro ht1 b1); clear ht1 b1)
 have HST := Lib.hid (Both.start H1.out.1 H1.out.2)
 have HLO : Hid (Below w.heap.size w (w1.alloc (.cells #[.slice none 0 0] 61))) := Lib.hid (H1.out.2.alloc H1.out.2.size _)
 go_loopg [8] n (fun m v wr => ∃ (i : Nat), v = .int .i64 (i : Int) ∧ Hid (i + m = n ∧ GrJ w L tb w1.heap.size i wr))
 case atStart => exact ⟨0, rfl, Lib.hid ⟨by omega, _, _, _, _, HST.out, by simp [fgt, runS], HLO.out, bdH_nil⟩⟩
 case round =>
  obtain ⟨i, rfl, hw⟩ := hrel
  have hsum := hw.out.1
  obtain ⟨Q, X, R, rv, hb, hfg, hlow, hbdh⟩ := hw.out.2
  have HBD := Lib.hid hbdh
  clear hbdh
  have HB := Lib.hid (And.intro hb (And.intro hfg hlow))
  have b0 := hb.f.b0
  obtain ⟨ra, rcap, hrv⟩ := hb.f.shape
  rw [hrv] at b0
  have hfew := hb.few
  have hs1 := hlow.size
  have lb0 := cell_lt b0
  simp only at lb0
  obtain ⟨fl, hfl⟩ : ∃ k, k = X.F.length := ⟨_, rfl⟩
  rw [← hfl] at b0 hfew
  have HFL := Lib.hid hfl
  clear hb hfg hrv hfl hw
  have HLOW := Lib.hid hlow
  clear hlow
  by_cases hi : i < n
  ·have ql : decide ((i : Int) < (n : Int)) = true := by simp; omega
   by_cases hf : fl < 200
   ·have qf : decide ((fl : Int) < 200) = true := by simp; omega
    have wk : IntKind.i64.wrap ((i : Int) + 1) = (i : Int) + 1 := IntWalk.i64_in _ (by omega)
    obtain ⟨x, hx⟩ : ∃ x, L[i]? = some x := ⟨_, List.getElem?_eq_getElem (by have := HN.out; omega)⟩
    obtain ⟨xb, off, ea, hc⟩ := HL.out.at_ i x hx
    have hxok := HL.out.ok x (List.mem_of_getElem? hx)
    have c0 := hc 0 _ rfl
    have c1 := hc 1 _ rfl
    have c2 := hc 2 _ rfl
    have c3 := hc 3 _ rfl
    have c4 := hc 4 _ rfl
    have c5 := hc 5 _ rfl
    have lx := cell_lt c0
    simp only at lx
    have d0 := (HLOW.out.cell (p := ⟨xb, off + i * 6 + 0, none⟩) lx).trans c0
    have d1 := (HLOW.out.cell (p := ⟨xb, off + i * 6 + 1, none⟩) lx).trans c1
    have d2 := (HLOW.out.cell (p := ⟨xb, off + i * 6 + 2, none⟩) lx).trans c2
    have d3 := (HLOW.out.cell (p := ⟨xb, off + i * 6 + 3, none⟩) lx).trans c3
    have d4 := (HLOW.out.cell (p := ⟨xb, off + i * 6 + 4, none⟩) lx).trans c4
    have d5 := (HLOW.out.cell (p := ⟨xb, off + i * 6 + 5, none⟩) lx).trans c5
    rw [Nat.add_zero] at d0
    have lx2 : xb < wr.heap.size := by omega
    have HX := Lib.hid (And.intro hx hxok)
    subst ea
    have HAL : Hid (∀ o, Below wr.heap.size wr (wr.alloc o)) := Lib.hid (fun o => (Below.refl _ _).alloc (Nat.le_refl _) o)
    have HM : Hid (gk - 1 < gk) := Lib.hid (by omega)
    have HSM : Hid (i + 1 + (gk - 1) = n) := Lib.hid (by omega)
    clear c0 c1 c2 c3 c4 c5 hc hx hxok
    by_cases hk : 1 ≤ x.m.kind ∧ x.m.kind ≤ 5
    ·have k1 : decide ((1 : Int) ≤ x.m.kind) = true := by simp; omega
     have k2 : decide (x.m.kind ≤ (5 : Int)) = true := by simp; omega
     have hk1 := hk.1
     have hk2 := hk.2
     have k3 : ¬ (x.m.kind < 1) := by omega
     have HK := Lib.hid hk
     clear hk
     have HND : Hid (∀ W, Below wr.heap.size wr W → Calls Tryd.prog 36 #[.agg #[.int .i64 x.m.kind, .int .i64 x.m.a, .int .i64 x.m.b, .int .i64 x.m.back, .string x.nm, .slice x.ua x.un.length x.uc]] W fun e w' => ∃ N : Nd, e = .returned (.agg #[.int .i64 N.kind, .string N.name, .slice N.da N.data.length N.dc, .slice N.aa N.L.length N.ac, .int .u32 N.slot, .int .u32 N.gen]) ∧ NdK Q w' N ∧ N.Bd 1099511627776 ∧ checkD N.kind N.name N.data.length (N.L.map LA.name) = 0 ∧ Below W.heap.size W w') := Lib.hid (fun W b =>
      (HNODE.out x (List.mem_of_getElem? HX.out.1) HK.out.1 HK.out.2).ok Q W (Both.mkIn (HB.out.1.below b) (HLOW.out.trans (b.mono HLOW.out.size)) (Nat.le_refl _) HX.out.2) (fun k hk => ((HB.out.1.below b).q k hk).2))
     have HMK : Hid (∀ W N, Below wr.heap.size wr W → NdK Q W N → N.Bd 1099511627776 → checkD N.kind N.name N.data.length (N.L.map LA.name) = 0 → Calls Tryd.prog 37 #[.pointer (some ⟨tb, 0, none⟩), .agg #[.int .i64 N.kind, .string N.name, .slice N.da N.data.length N.dc, .slice N.aa N.L.length N.ac, .int .u32 N.slot, .int .u32 N.gen]] W fun e w' => ∃ (s g nb : Nat) (P : Nd) (hv fv : Value), e = .returned (.tuple #[.agg #[.int .u32 (s : Int), .int .u32 (g : Int)], .int .i64 0]) ∧ P.Same N ∧ (X.T.alloc (some ⟨nb, 0, none⟩)).2 = (s, g, 0) ∧
       TreeAt w.heap.size (fun k => Q k ∨ W.heap.size ≤ k ∧ k < w'.heap.size) w' tb ⟨Made X.F s g, X.M ++ [(nb, P)], (X.T.alloc (some ⟨nb, 0, none⟩)).1, X.ab, hv, fv⟩ ∧ FrG [145, 150, 29, 112, 31] Q W w') := Lib.hid (fun W N b hN hB hck => make_calls (HB.out.1.t.below b) N hN.now hB hck (.inr (by have := HB.out.1.t.rw.few; have := HB.out.1.S; have := HFL.out; omega)) (by have := HFL.out; omega))
     have HRM : Hid (∀ W W3 W4 N s g, Below wr.heap.size wr W → FrG [145, 150, 29, 112, 31] Q W W3 → Below W3.heap.size W3 W4 → NdK Q W N → Calls Tryd.prog 38 #[.pointer (some ⟨w1.heap.size, 0, none⟩), .agg #[.int .u32 ((s : Nat) : Int), .int .u32 ((g : Nat) : Int)], .agg #[.int .i64 N.kind, .string N.name, .slice N.da N.data.length N.dc, .slice N.aa N.L.length N.ac, .int .u32 N.slot, .int .u32 N.gen]] W4 fun e w' => ∃ rv' : Value, e = .returned (.tuple #[]) ∧
       FoAt w.heap.size (fun k => (Q k ∨ W.heap.size ≤ k ∧ k < W3.heap.size) ∨ W4.heap.size ≤ k ∧ k < w'.heap.size) w' w1.heap.size (Made X.F s g) (R ++ [(⟨s, g, none, [], true⟩, N, .slice none 0 0)]) rv' ∧ FrG [61, 69] (fun k => Q k ∨ W.heap.size ≤ k ∧ k < W3.heap.size) W4 w') := Lib.hid (fun W W3 W4 N s g b f b4 hN => rmade_calls (((HB.out.1.f.below b).frg f (by decide) (by decide) (by decide)).below b4) (by have := (HB.out.1.below b).base; have := f.size; have := b4.size; omega) s g N ((hN.frg f).below b4) (by have := HFL.out; omega))
     go_wp2_with (first | (go_at_call 36; refine (HND.out _ (HAL.out _)).mono ?_; rintro e w2 ⟨N, rfl, hN, hNB, hNC, b2⟩; have HN2 := Lib.hid (And.intro hN (And.intro hNB hNC)); have HB2 := Lib.hid ((HAL.out _).trans (b2.mono (HAL.out _).size)); have s2 := HB2.out.size; clear hN hNB hNC b2) | (go_at_call 37; refine (HMK.out _ N (HB2.out.alloc s2 _) (HN2.out.1.below ((Below.refl _ _).alloc (Nat.le_refl _) _)) HN2.out.2.1 HN2.out.2.2).mono ?_; rintro e w3 ⟨s, g, nb, P, hv, fv, rfl, hsame, halloc, ht3, f3⟩; have hnb := f3.blk (Go.heap_alloc_new w2 (.cells #[.int .i64 N.kind, .string N.name, .slice N.da N.data.length N.dc, .slice N.aa N.L.length N.ac, .int .u32 N.slot, .int .u32 N.gen] 66)) (by decide); have e0 := cell_blk hnb 0 rfl; have e1 := cell_blk hnb 1 rfl; have e2 := cell_blk hnb 2 rfl; have e3 := cell_blk hnb 3 rfl; have e4 := cell_blk hnb 4 rfl; have e5 := cell_blk hnb 5 rfl; have le := lt_of_some hnb; have H3 := Lib.hid (And.intro hsame (And.intro ht3 f3)); clear hsame halloc ht3 f3 hnb) | (go_at_call 38; refine (HRM.out _ w3 _ N s g (HB2.out.alloc s2 _) H3.out.2.2 ((Below.refl _ _).alloc (Nat.le_refl _) _) (HN2.out.1.below ((Below.refl _ _).alloc (Nat.le_refl _) _))).mono ?_; rintro e w4 ⟨rv', rfl, hf4, f4⟩; have H4 := Lib.hid (And.intro hf4 f4); clear hf4 f4))
     have HBM := Lib.hid ((HB.out.1.below (HB2.out.alloc s2 _)).made H3.out.2.1 H3.out.2.2 ((Below.refl _ _).alloc (Nat.le_refl _) _) H4.out.1 H4.out.2 ⟨H3.out.1, HN2.out.2⟩ (by have := HFL.out; omega))
     go_roundg (gk - 1)
     case measure => exact HM.out
     case rel => exact ⟨i + 1, by go_num, Lib.hid ⟨HSM.out, _, _, _, _, HBM.out.1, by rw [take_next HX.out.1]; exact run_made HB.out.2.1 HK.out s g, (HLOW.out.trans ((HB2.out.alloc s2 _).mono HLOW.out.size)).trans HBM.out.2, bdH_made HBD.out H3.out.2.1 rfl⟩⟩
    ·have hk' : x.m.kind < 1 ∨ 5 < x.m.kind := by omega
     have HK := Lib.hid hk
     clear hk
     have HMV : Hid (∀ W, Below wr.heap.size wr W → 0 < fl → Calls Tryd.prog 39 #[.pointer (some ⟨tb, 0, none⟩), .pointer (some ⟨w1.heap.size, 0, none⟩), .agg #[.int .i64 x.m.kind, .int .i64 x.m.a, .int .i64 x.m.b, .int .i64 x.m.back, .string x.nm, .slice x.ua x.un.length x.uc]] W fun e w' => e = .returned (.bool true) ∧ GrJ w L tb w1.heap.size (i + 1) w') := Lib.hid (fun W b hpos => (moved_calls (HB.out.1.below b) HX.out.2.1 (by rw [← HFL.out]; exact hpos)).mono (by
      rintro e w' ⟨rfl, Q', X', R', h1, h2, h3⟩
      refine ⟨rfl, Q', X', R', rv, h1, ?_, (HLOW.out.trans (b.mono HLOW.out.size)).trans h3, by rw [h2]; exact bdH_move HBD.out _⟩
      rw [h2, take_next HX.out.1]
      exact run_move HB.out.2.1 HK.out))
     by_cases hz : fl = 0
     ·have HNX : Hid (∀ W, Below wr.heap.size wr W → GrJ w L tb w1.heap.size (i + 1) W) := Lib.hid (fun W b => ⟨Q, X, R, rv, HB.out.1.below b, by
       rw [take_next HX.out.1]
       have hmv : moveF X.F x.m = X.F := by
        have he : X.F = [] := List.eq_nil_of_length_eq_zero (by rw [← HFL.out]; exact hz)
        rw [he]; rfl
       have := run_move HB.out.2.1 HK.out
       rw [hmv] at this
       exact this, HLOW.out.trans (b.mono HLOW.out.size), HBD.out⟩)
      subst hz
      rcases hk' with hk' | hk'
      ·have k1 : decide ((1 : Int) ≤ x.m.kind) = false := by simp; omega
       have k3 : ¬ ((1 : Int) ≤ x.m.kind) := by omega
       go_wp2_with fail
       go_roundg (gk - 1)
       case measure => exact HM.out
       case rel => exact ⟨i + 1, by go_num, Lib.hid ⟨HSM.out, HNX.out _ (HAL.out _)⟩⟩
      ·have k1 : decide ((1 : Int) ≤ x.m.kind) = true := by simp; omega
       have k2 : decide (x.m.kind ≤ (5 : Int)) = false := by simp; omega
       have k3 : (1 : Int) ≤ x.m.kind := by omega
       have k4 : ¬ (x.m.kind ≤ (5 : Int)) := by omega
       go_wp2_with fail
       go_roundg (gk - 1)
       case measure => exact HM.out
       case rel => exact ⟨i + 1, by go_num, Lib.hid ⟨HSM.out, HNX.out _ (HAL.out _)⟩⟩
     ·have hz1 : ((fl : Int) == 0) = false := by simp; omega
      have hz2 : ¬ ((fl : Int) = 0) := by omega
      have HP : Hid (0 < fl) := Lib.hid (by omega)
      rcases hk' with hk' | hk'
      ·have k1 : decide ((1 : Int) ≤ x.m.kind) = false := by simp; omega
       have k3 : ¬ ((1 : Int) ≤ x.m.kind) := by omega
       go_wp2_with (go_at_call 39; refine (HMV.out _ (HAL.out _) HP.out).mono ?_; rintro e w2 ⟨rfl, hg2⟩; have HG2 := Lib.hid hg2; clear hg2)
       go_roundg (gk - 1)
       case measure => exact HM.out
       case rel => exact ⟨i + 1, by go_num, Lib.hid ⟨HSM.out, HG2.out⟩⟩
      ·have k1 : decide ((1 : Int) ≤ x.m.kind) = true := by simp; omega
       have k2 : decide (x.m.kind ≤ (5 : Int)) = false := by simp; omega
       have k3 : (1 : Int) ≤ x.m.kind := by omega
       have k4 : ¬ (x.m.kind ≤ (5 : Int)) := by omega
       go_wp2_with (go_at_call 39; refine (HMV.out _ (HAL.out _) HP.out).mono ?_; rintro e w2 ⟨rfl, hg2⟩; have HG2 := Lib.hid hg2; clear hg2)
       go_roundg (gk - 1)
       case measure => exact HM.out
       case rel => exact ⟨i + 1, by go_num, Lib.hid ⟨HSM.out, HG2.out⟩⟩
   ·have qf : decide ((fl : Int) < 200) = false := by simp; omega
    have qf2 : ¬ (fl < 200) := hf
    have HEND : Hid (GrPB w L tb w1.heap.size wr) := Lib.hid ⟨Q, X, R, rv, i, HB.out.1, HB.out.2.1, .inr (by rw [← HFL.out]; omega), HLOW.out, HBD.out⟩
    go_wp2_with fail
    try rw [Exit.noGoto_ret]
    go_ret3
    exact ⟨tb, w1.heap.size, rfl, HEND.out⟩
  ·have ql : decide ((i : Int) < (n : Int)) = false := by simp; omega
   have hi2 : ¬ (i < n) := hi
   have HEND : Hid (GrPB w L tb w1.heap.size wr) := Lib.hid ⟨Q, X, R, rv, i, HB.out.1, HB.out.2.1, .inl (by have := HN.out; omega), HLOW.out, HBD.out⟩
   go_wp2_with fail
   try rw [Exit.noGoto_ret]
   go_ret3
   exact ⟨tb, w1.heap.size, rfl, HEND.out⟩
theorem grown_calls {w : World} {a : Option Addr} {L : List MkV} {cap : Nat} (hL : MksIn w a L) (hlen : L.length ≤ 1099511627776) (hnode : ∀ x ∈ L, 1 ≤ x.m.kind → x.m.kind ≤ 5 → NodeC x) :
  Calls Tryd.prog 9 #[.slice a L.length cap] w fun e w' => ∃ tb fb, e = .returned (.tuple #[.pointer (some ⟨tb, 0, none⟩), .pointer (some ⟨fb, 0, none⟩), .bool true]) ∧ GrPost w L tb fb w' :=
 (grownB_calls hL hlen hnode).mono (by
  rintro e w' ⟨tb, fb, he, Q, X, R, rv, i, h1, h2, h3, h4, _⟩
  exact ⟨tb, fb, he, Q, X, R, rv, i, h1, h2, h3, h4⟩)
end Go.Proofs.YtelhnaphkbpakaaDoor
