/- kept: does a node that node made stand as it was, the room too? Check: may a node be so? The attributes' order in Equal, at one attribute or none; EqualFunc. -/
import Derived.Maps.OwnOps
import Derived.Maps.Views
import Derived.Deep.CutBlock
import Derived.Test.YtelhnaphkbpakaaMc18
namespace Go.Proofs.Ytelhnaphkbpakaa
open Go.RowKit
set_option linter.unusedVariables false
set_option maxRecDepth 100000

theorem LentU.drewN {B : Nat} {w : World} {a : Option Addr} {cap : Nat} {us : List Nat} (h : LentU B w a cap us) (k : Nat) : LentU B (w.drewN k) a cap us := h.below (((FrT.refl [] w.heap.size w).drewN k).below (Nat.le_refl _))
theorem keptUnits_q {B : Nat} {w : World} {a a' : Option Addr} {us vs : List Nat} (ca cap : Nat) (hl : LentU B w a' cap us) (hu : Sl16 w a vs) (e : us = vs) (q n : Nat) :
    Calls Try.prog 28 #[.slice a' us.length cap, .slice a vs.length ca] (w.drewN (q + n)) fun e w' => e = .returned (.bool true) ∧ ∃ m, w' = w.drewN (q + m) := by
  subst e
  exact (keptUnits_true ca cap (hl.drewN (q + n)) (hu.drewN (q + n))).mono fun e w' ⟨he, k, hw⟩ => ⟨he, n + k, by rw [← hw, World.drewN_drewN, Nat.add_assoc]⟩

set_option maxHeartbeats 8000000 in
theorem kept_true {B : Nat} (w : World) (M N : Nd) (hM : LentNd B w M) (hN : NdIn w N) (hS : M.Same N) :
    Calls Try.prog 21 #[M.v, N.v] w fun e w' => e = .returned (.bool true) ∧ Below w.heap.size w w' := by
  obtain ⟨V, hV⟩ : ∃ V, V = (w.alloc (.cells M.cells 30)).alloc (.cells N.cells 30) := ⟨_, rfl⟩
  have hVs : V.heap.size = w.heap.size + 2 := by rw [hV]; simp
  have hbV : Below w.heap.size w V := by rw [hV]; exact ((Below.refl _ w).alloc (Nat.le_refl _) _).alloc (by simp) _
  have x0 : V.heap[w.heap.size]? = some (.cells M.cells 30 (0, 0)) := by rw [hV]; exact alloc_blk (Go.heap_alloc_new w _) _
  have x1 : V.heap[w.heap.size + 1]? = some (.cells N.cells 30 (0, 0)) := by
    rw [hV]; have := Go.heap_alloc_new (w.alloc (.cells M.cells 30)) (.cells N.cells 30); rwa [World.size_alloc] at this
  have H1 := Lib.hid (same_true V M N (hM.nd.below hbV) (hN.below hbV) hS.c)
  have hV2 := hV
  have hbd := hM.bd.attrs
  have hcap := row_cap hM.attrs
  obtain ⟨g, c', hv, hg0, hg⟩ := hM.attrs.form (by omega)
  have hL : N.L.length = M.L.length := hS.len.symm
  have hD : N.data.length = M.data.length := by rw [hS.data]
  have hlt := hM.attrs.lt g (by rw [hv]; rfl)
  have hvA : M.aa = some ⟨g, 0, none⟩ := by simpa using congrArg (fun v => match v with | .slice a _ _ => a | _ => none) hv
  have hlen := cellsA_len M.L
  have hrow := hM.attrs
  rw [hvA] at hrow
  have r0 := (hrow.cellAt (M.L.length * 2) (by omega)).trans (show (cellsA M.L ++ roomCells)[M.L.length * 2]? = some (.string roomName) by rw [List.getElem?_append_right (by omega), hlen]; simp [roomCells])
  have r1 := (hrow.cellAt ((M.L.length + 1) * 2) (by omega)).trans (show (cellsA M.L ++ roomCells)[(M.L.length + 1) * 2]? = some (.string roomName) by rw [List.getElem?_append_right (by omega), hlen, show (M.L.length + 1) * 2 - M.L.length * 2 = 2 by omega]; rfl)
  have HP := Lib.hid (And.intro hM (And.intro hN (And.intro hS (And.intro hvA hrow))))
  have HR := Lib.hid (And.intro r0 r1)
  have HV := Lib.hid (And.intro hV (And.intro hbV (And.intro x0 x1)))
  obtain ⟨z0, z1, z2, z3, z4, z5, lz⟩ := box_cells x0
  obtain ⟨y0, y1, y2, y3, y4, y5, ly⟩ := box_cells x1
  rw [hL] at y3
  rw [hD] at y2
  rw [hvA] at z3
  obtain ⟨n, en⟩ : ∃ n, n = M.L.length := ⟨_, rfl⟩
  obtain ⟨m, em⟩ : ∃ m, m = M.data.length := ⟨_, rfl⟩
  unfold Nd.cells at hV2
  unfold Nd.v Nd.cells at H1 ⊢
  rw [hL, hD, hvA] at hV2 H1 ⊢
  rw [← en] at z3 y3 hV2 H1 hbd hcap HR ⊢
  rw [← em] at z2 y2 hV2 H1 ⊢
  rw [hV2] at H1 z0 z1 z2 z3 z4 z5 y0 y1 y2 y3 y4 y5
  obtain ⟨_, hc1, hc2⟩ := hcap
  have HN := Lib.hid en
  have HM := Lib.hid em
  have p1 : ((n : Int) + 2) ≤ (M.ac : Int) := by omega
  have q1 : IntKind.i64.wrap ((n : Int) + 2) = (n : Int) + 2 := IntWalk.i64_in _ (by omega)
  have q2 : IntKind.i64.wrap ((n : Int) + 1) = (n : Int) + 1 := IntWalk.i64_in _ (by omega)
  clear hV x0 x1 hbV hM hN hS hv hlen hrow r0 r1 hL hD hg0 hvA en em hc1
  go_enter Try.func21, Try.ntmps21
  go_wp2_with fail
  refine H1.out.mono ?_
  rintro e wa ⟨rfl, ba⟩
  rw [← hV2] at ba
  clear z0 z1 z2 z3 z4 z5 y0 y1 y2 y3 y4 y5 lz ly
  have x0 := (ba.block _ (lt_of_some HV.out.2.2.1)).trans HV.out.2.2.1
  have x1 := (ba.block _ (lt_of_some HV.out.2.2.2)).trans HV.out.2.2.2
  obtain ⟨z0, z1, z2, z3, z4, z5, lz⟩ := box_cells x0
  obtain ⟨y0, y1, y2, y3, y4, y5, ly⟩ := box_cells x1
  rw [HP.out.2.2.2.1, ← HN.out] at z3
  rw [← HM.out] at z2
  rw [HP.out.2.2.1.len.symm, ← HN.out] at y3
  rw [← HP.out.2.2.1.data, ← HM.out] at y2
  have hsa := ba.size
  have hba := HV.out.2.1.trans (ba.mono (by omega))
  have r0 := (hba.cell (p := ⟨g, n * 2, none⟩) hlt.2).trans HR.out.1
  have r1 := (hba.cell (p := ⟨g, (n + 1) * 2, none⟩) hlt.2).trans HR.out.2
  have lg : g < wa.heap.size := by omega
  have qn : (roomName.toList != roomName.toList) = false := by rw [bne, ba_refl]; rfl
  unfold roomName at r0 r1 qn
  have HBA := Lib.hid hba
  have KU := Lib.hid (keptUnits_true N.dc M.dc (HP.out.1.data.below hba) (by rw [HP.out.2.2.1.data]; exact (HP.out.2.1.below hba).data))
  rw [← HM.out] at KU
  clear ba hba x0 x1 hV2 H1 z0 z1 z4 z5 y0 y1 y4 y5
  go_wp2_with (go_at_call 28; refine KU.out.mono ?_; rintro e wb ⟨rfl, k0, rfl⟩)
  clear r0 r1
  go_loopw [50] (fun v wr => ∃ i q : Nat, v = .int .i64 (i : Nat) ∧ i ≤ n ∧ wr = wa.drewN q) (fun v _ => n - (intOf v).toNat)
  case atStart => exact ⟨0, k0, rfl, Nat.zero_le _, rfl⟩
  case round =>
    obtain ⟨i, q, rfl, hi, rfl⟩ := hrel
    by_cases hlt : i < n
    · obtain ⟨x, hx⟩ : ∃ x, M.L[i]? = some x := ⟨_, List.getElem?_eq_getElem (by rw [← HN.out]; exact hlt)⟩
      obtain ⟨y, hy⟩ : ∃ y, N.L[i]? = some y := ⟨_, List.getElem?_eq_getElem (by rw [← HP.out.2.2.1.len, ← HN.out]; exact hlt)⟩
      obtain ⟨b2, o2, hNA, hb2, _, e2⟩ := (HP.out.2.1.below HBA.out).attrs.get hy
      have e1 := (HBA.out.cell (p := ⟨g, i * 2 + 1, none⟩) hg).trans ((HP.out.2.2.2.2.cellAt (i * 2 + 1) (by rw [← HN.out]; omega)).trans ((List.getElem?_append_left (by rw [cellsA_len, ← HN.out]; omega)).trans (cellsA_at hx).2))
      have hval : x.val = y.val := by
        have := (attrs_at HP.out.2.2.1.attrs hx hy).2
        exact this
      have HQ := Lib.hid (keptUnits_q y.vc x.vc ((HP.out.1.val x (List.mem_of_getElem? hx)).below HBA.out) ((HP.out.2.1.below HBA.out).attrs.val y (List.mem_of_getElem? hy)) hval q)
      rw [← hval] at HQ e2
      obtain ⟨xl, exl⟩ : ∃ xl, xl = x.val.length := ⟨_, rfl⟩
      rw [← exl] at HQ e1 e2
      rw [hNA] at y3
      have p0 : (0 : Int) ≤ (i : Int) := by omega
      have p2 : (i : Int) < (n : Int) := by omega
      clear hx hy hval exl hNA
      go_wp2_with fail
      go_quiet ((go_at_call 28; exact HQ.out _))
      go_wp2_with fail
      go_roundw
      case rel => exact ⟨i + 1, _, by go_num, hlt, rfl⟩
      case measure => simp [intOf]; omega
    · obtain rfl : i = n := by omega
      have p2 : ¬ (i : Int) < (i : Int) := by omega
      clear hlt
      go_wp2_with fail
      go_ret
      exact ⟨rfl, below_dN HBA.out (by omega) _⟩
end Go.Proofs.Ytelhnaphkbpakaa

namespace Go.Proofs.Ytelhnaphkbpakaa
open Go.RowKit Go.Maps
set_option linter.unusedVariables false
set_option maxRecDepth 100000

abbrev ky (s : ByteArray) : List UInt8 := s.data.toList
/-- All names may be, and none is there twice. -/
def goodA (l : List ByteArray) : Bool := l.all namedD && decide ((l.map ky).Nodup)
def checkD (k : Int) (nm : ByteArray) (dl : Nat) (names : List ByteArray) : Int :=
  if fitsD k nm dl names.length = false then 63
  else if (k = 1 ∨ k = 7 ∨ k = 10) ∧ namedD nm = false then 62
  else if goodA names then 0 else 62

theorem zero3 (w : World) : (zeroValue 3).run Try.prog w = .ok (.int .i64 0) w := by kernel_rfl
theorem law9 : Keyed Try.prog 9 := string_keyed Try.underlying9
/-- The map of names seen, each once. -/
structure SeenOk {H : Type} (D : Go.DataW H) (l : List (List UInt8)) : Prop where
  map : IsMap D
  at_ : ∀ s : List UInt8, D.atKey (.string s) (.lit (.int .i64 0)) = .lit (.int .i64 (if s ∈ l then 1 else 0))
theorem seen_next {H : Type} {D : Go.DataW H} {l : List (List UInt8)} (h : SeenOk D l) {s : List UInt8} (hs : s ∉ l) : SeenOk (D.put (.string s) (.lit (.int .i64 1))) (l ++ [s]) := by
  refine ⟨h.map.put _ _, fun t => ?_⟩
  by_cases e : t = s
  · subst e
    rw [atKey_put_same h.map (show WideAt.IsKeyLit (.string t) from trivial)]
    simp
  · rw [atKey_put_other (by intro hh; injection hh with hh; exact e hh), h.at_ t]
    simp [e]
theorem goodA_snoc (l : List ByteArray) (x : ByteArray) : goodA (l ++ [x]) = (goodA l && namedD x && decide (ky x ∉ l.map ky)) := by
  unfold goodA
  rw [List.all_append, List.map_append]
  have : ((l.map ky) ++ [ky x]).Nodup ↔ (l.map ky).Nodup ∧ ky x ∉ l.map ky := by
    rw [List.nodup_append]
    simp
  simp only [List.map_cons, List.map_nil, decide_eq_decide.2 this]
  simp only [List.all_cons, List.all_nil, Bool.and_true]
  cases l.all namedD <;> cases namedD x <;> simp
theorem goodA_pre {l m : List ByteArray} (h : goodA (l ++ m) = true) : goodA l = true := by
  unfold goodA at *
  rw [List.all_append, List.map_append] at h
  simp only [Bool.and_eq_true, decide_eq_true_eq] at *
  exact ⟨h.1.1, (List.nodup_append.1 h.2).1⟩

theorem grown_of_below {w w' : World} (b : Below w.heap.size w w') : w.grownBy w' none := ⟨b.os, b.tape, b.output, b.size, fun i hi _ => b.block i hi⟩
theorem look_after {w2 w3 : World} {mb n : Nat} {D : DataW Unit} {nx : ByteArray} {v : Int} (hD : IsMap D) (h : w2.ownsMap Try.prog 9 (plainElem (H := Unit) Try.prog 3) mb n (D.put (.string nx.data.toList) (.lit (.int .i64 v)))) (b : Below w2.heap.size w2 w3)
    (hkey : keyOf Try.prog 9 (.string nx) = some (.string nx.data.toList)) :
    (Instr.lookup 80 (.map (some mb)) (.string nx) false).run Try.prog w3 = .ok (.int .i64 v) w3 ∧ w3.ownsMap Try.prog 9 (plainElem (H := Unit) Try.prog 3) mb n (D.put (.string nx.data.toList) (.lit (.int .i64 v))) := by
  have h3 := h.kept (grown_of_below b) (by simp)
  obtain ⟨c, hrun, hat, _⟩ := h3.lookup_int (t := 80) law9 Try.underlying80 Try.underlying3 (zero3 _) hkey
  rw [atKey_put_same hD (show WideAt.IsKeyLit (.string nx.data.toList) from trivial)] at hat
  injection hat with h1
  injection h1 with h2 h4
  rw [← h4] at hrun
  exact ⟨hrun, h3⟩

set_option maxHeartbeats 8000000 in
theorem check_calls (w : World) (N : Nd) (h : NdIn w N) :
    Calls Try.prog 15 #[N.v] w fun e w' => e = .returned (.int .i64 (checkD N.kind N.name N.data.length (N.L.map LA.name))) ∧ Below w.heap.size w w' := by
  have hfits := fun w' (b : Below w.heap.size w w') => fits_calls w' N (h.below b)
  have hA := h.attrs
  have hn := h.nam
  obtain ⟨k, nm, da, dc, data, aa, ac, L, sl, ge⟩ := N
  simp only [Nd.v, Nd.cells] at *
  obtain ⟨n, en⟩ : ∃ n, n = L.length := ⟨_, rfl⟩
  obtain ⟨m, em⟩ : ∃ m, m = data.length := ⟨_, rfl⟩
  have hl := hA.len
  rw [← en, ← em] at hfits ⊢
  rw [← en] at hl
  have HN := Lib.hid en
  have HA := Lib.hid hA
  have HF := Lib.hid hfits
  clear en em hA hfits h
  obtain ⟨c, hc⟩ : ∃ c, c = checkD k nm m (L.map LA.name) := ⟨_, rfl⟩
  rw [← hc]
  have HC := Lib.hid hc
  clear hc
  have hmm := @run_makeMap Try.prog
  have hb0 : Below w.heap.size w (w.alloc (.cells #[.int .i64 k, .string nm, .slice da m dc, .slice aa n ac, .int .u32 sl, .int .u32 ge] 30)) := (Below.refl _ w).alloc (Nat.le_refl _) _
  have HB0 := Lib.hid hb0
  clear hb0
  cases hfd : fitsD k nm m n with
  | false =>
    have hcc : c = 63 := by rw [HC.out]; unfold checkD; rw [List.length_map, ← HN.out, hfd]; rfl
    have HF2 := HF.out
    rw [hfd] at HF2
    have HF3 := Lib.hid HF2
    clear HF2 HF hfd
    have HCC := Lib.hid hcc
    clear hcc
    go_enter Try.func15, Try.ntmps15
    go_wp2_with (go_at_call 49; refine (HF3.out _ HB0.out).mono ?_; rintro e w1 ⟨rfl, b1⟩)
    go_ret
    exact ⟨by rw [HCC.out]; rfl, HB0.out.trans (b1.mono (by simp))⟩
  | true =>
    have HF2 := HF.out
    rw [hfd] at HF2
    have HF3 := Lib.hid HF2
    have hcd : c = if (k = 1 ∨ k = 7 ∨ k = 10) ∧ namedD nm = false then 62 else if goodA (L.map LA.name) then 0 else 62 := by rw [HC.out]; unfold checkD; rw [List.length_map, ← HN.out, hfd]; rfl
    have HCD := Lib.hid hcd
    clear HF2 HF hfd hcd
    go_enter Try.func15, Try.ntmps15
    go_wp2_with fail
    refine (HF3.out _ HB0.out).mono ?_
    rintro e w1 ⟨rfl, b1⟩
    have x0 := (b1.block w.heap.size (by simp)).trans (Go.heap_alloc_new w _)
    have c0 := cell_blk x0 0 rfl
    have c1 := cell_blk x0 1 rfl
    have l0 := lt_of_some x0
    simp at c0 c1
    have B1 := Lib.hid (HB0.out.trans (b1.mono (by simp)))
    have HX := Lib.hid x0
    clear b1 x0
    have hnm := named_calls w1 nm hn
    have HNM := Lib.hid hnm
    clear hnm
    go_upto_block 0 with fail
    go_cut [] from 9 (fun wc => ((k = 1 ∨ k = 7 ∨ k = 10) → namedD nm = true) ∧ Below w1.heap.size w1 wc)
    case first =>
      by_cases hk : k = 1 ∨ k = 7 ∨ k = 10
      · cases hnd : namedD nm with
        | true =>
          have HNM2 := HNM.out
          rw [hnd] at HNM2
          have HNM3 := Lib.hid HNM2
          have HND := Lib.hid hnd
          clear HNM2 HNM hnd
          rcases hk with rfl | rfl | rfl
          all_goals go_wp2_with (go_at_call 12; refine HNM3.out.mono ?_; rintro e w2 ⟨rfl, b2⟩)
          all_goals go_meet
          all_goals exact ⟨fun _ => HND.out, b2⟩
        | false =>
          have HNM2 := HNM.out
          rw [hnd] at HNM2
          have HNM3 := Lib.hid HNM2
          have hcc : c = 62 := by rw [HCD.out, if_pos ⟨hk, hnd⟩]
          have HCC := Lib.hid hcc
          clear HNM2 HNM hnd hcc
          rcases hk with rfl | rfl | rfl
          all_goals go_wp2_with (go_at_call 12; refine HNM3.out.mono ?_; rintro e w2 ⟨rfl, b2⟩)
          all_goals go_ret
          all_goals exact ⟨by rw [HCC.out]; rfl, B1.out.trans (b2.mono (by omega))⟩
      · have e1 : (k == 1) = false := by simp; omega
        have e2 : (k == 7) = false := by simp; omega
        have e3 : (k == 10) = false := by simp; omega
        have HK := Lib.hid hk
        clear hk
        go_wp2
        go_meet
        exact ⟨fun h => absurd h HK.out, Below.refl _ _⟩
    case rest =>
      obtain ⟨hknm, bc⟩ := hcut
      have hs1 : w.heap.size < w1.heap.size := lt_of_some HX.out
      have hsc := bc.size
      have x0 := (bc.block _ hs1).trans HX.out
      have BC := Lib.hid (B1.out.trans (bc.mono (by omega)))
      have c3 := cell_blk x0 3 rfl
      have l0 := lt_of_some x0
      simp at c3
      have HKN := Lib.hid hknm
      clear c0 c1 HX HNM hknm x0 bc
      go_wp2_with fail
      obtain ⟨mb, hmb⟩ : ∃ mb, mb = wc.heap.size := ⟨_, rfl⟩
      have hm0 : (wc.alloc (.map #[] 0)).ownsMap Try.prog 9 (plainElem (H := Unit) Try.prog 3) mb 0 (.map []) := by rw [hmb]; exact World.ownsMap_made _ _ _ _
      rw [← hmb]
      have hbm : Below wc.heap.size wc (wc.alloc (.map #[] 0)) := (Below.refl _ _).alloc (Nat.le_refl _) _
      have HM0 := Lib.hid (And.intro hm0 hbm)
      have HMB := Lib.hid hmb
      clear hm0 hbm hmb c3
      go_loopw [23] (fun v wr => ∃ (i : Nat) (D : DataW Unit), v = .int .i64 (i : Nat) ∧ i ≤ n ∧ wr.ownsMap Try.prog 9 (plainElem (H := Unit) Try.prog 3) mb i D ∧ SeenOk D ((L.take i).map fun x => ky x.name) ∧ goodA ((L.take i).map LA.name) = true ∧ Below wc.heap.size wc wr) (fun v _ => n - (intOf v).toNat)
      case atStart => exact ⟨0, .map [], rfl, Nat.zero_le _, HM0.out.1, ⟨isMap_empty, fun s => by simp [DataW.atKey]⟩, by simp [goodA], HM0.out.2⟩
      case round =>
        obtain ⟨i, D, rfl, hi, hown, hseen, hgood, hbel⟩ := hrel
        have hbw : Below w.heap.size w wr := BC.out.trans (hbel.mono (by omega))
        by_cases hlt : i < n
        · obtain ⟨x, hx⟩ : ∃ x, L[i]? = some x := ⟨_, List.getElem?_eq_getElem (by rw [← HN.out]; exact hlt)⟩
          obtain ⟨bb, off, rfl, hbl, c1, c2⟩ := (HA.out.below hbw).get hx
          have p1 : (i : Int) < (n : Int) := by omega
          have p2 : (0 : Int) ≤ (i : Int) := by omega
          obtain ⟨nx, hnx⟩ : ∃ nx, nx = x.name := ⟨_, rfl⟩
          obtain ⟨xl, hxl⟩ : ∃ xl, xl = x.val.length := ⟨_, rfl⟩
          have hnz : nx.size ≤ 9223372036854775807 := by rw [hnx]; exact HA.out.nam x (List.mem_of_getElem? hx)
          rw [← hnx] at c1
          rw [← hxl] at c2
          have hkey : keyOf Try.prog 9 (.string nx) = some (.string nx.data.toList) := Go.WideMaps.keyOf_string_mk Try.underlying9 (by unfold maxLen; omega)
          obtain ⟨q, hq⟩ : ∃ q : Int, q = if nx.data.toList ∈ (L.take i).map (fun x => ky x.name) then 1 else 0 := ⟨_, rfl⟩
          have hq01 : q = 0 ∨ q = 1 := by rw [hq]; split <;> simp
          have hml : mb < wr.heap.size := hown.lt
          have hownW := hown.kept (World.grownBy_alloc wr (.cells #[.string nx, .slice x.va xl x.vc] 72) none) (by simp)
          obtain ⟨c', hrun, hat, _⟩ := hownW.lookup_int (t := 80) law9 Try.underlying80 Try.underlying3 (zero3 _) hkey
          obtain rfl : c' = q := by
            rw [hseen.at_ nx.data.toList, ← hq] at hat
            injection hat with h1
            injection h1 with h2 h3
            exact h3.symm
          have q1 : IntKind.i64.wrap (c' + 1) = c' + 1 := IntWalk.i64_in _ (by omega)
          have HH := Lib.hid (And.intro hseen (And.intro hgood (And.intro hbel (And.intro hx hq))))
          have HNX := Lib.hid hnx
          have HKEY := Lib.hid hkey
          have HOW := Lib.hid hownW
          have hsr : wc.heap.size ≤ wr.heap.size := hbel.size
          clear hseen hgood hbel hx hq hown hownW hat hnx hxl hkey
          have HQ : Hid (∀ w2, (wr.alloc (.cells #[.string nx, .slice x.va xl x.vc] 72)).grownBy w2 (some mb) → w2.cell? ⟨wr.heap.size, 0, none⟩ = some (.string nx) ∧ wr.heap.size < w2.heap.size ∧ Below wc.heap.size wc w2) := Lib.hid (fun w2 hg => by
            have h1 := grown_blk hg (Go.heap_alloc_new wr (.cells #[.string nx, .slice x.va xl x.vc] 72)) (by intro e; injection e with e; omega)
            have h2 := cell_blk h1 0 rfl
            refine ⟨h2, lt_of_some h1, ?_⟩
            exact (HH.out.2.2.1.alloc hsr _).grown hg (by simp; omega) (fun r e => by cases e; rw [HMB.out]; exact Nat.le_refl _))
          cases hnd : namedD nx with
          | false =>
            have hcc : c = 62 := by
              rw [HCD.out]
              have : goodA (L.map LA.name) = false := by
                have hm : nx ∈ L.map LA.name := List.mem_map.2 ⟨x, List.mem_of_getElem? HH.out.2.2.2.1, HNX.out.symm⟩
                unfold goodA
                have : (L.map LA.name).all namedD = false := by
                  rw [List.all_eq_false]
                  exact ⟨nx, hm, by simp [hnd]⟩
                rw [this]; rfl
              rw [this]; simp
            have HCC := Lib.hid hcc
            have HND := Lib.hid hnd
            clear hcc hnd
            go_wp2_with (first | (at_mapUpdate; refine wpList_mapUpdate_own _ rfl _ _ _ 80 rfl 9 3 law9 Try.underlying80 (plainElem (H := Unit) Try.prog 3) mb i D rfl HOW.out (by unfold maxLen; omega) _ _ _ rfl rfl HKEY.out _ [] (plainElem_int Try.underlying3 (WalkArith.wf_i64 (by omega))) ?_; intro w2 hown2 hgrow2; obtain ⟨e0, e1, e2⟩ := HQ.out w2 hgrow2; clear hown2 hgrow2) | (go_at_call 12; refine (named_calls _ nx hnz).mono ?_; rw [HND.out]; rintro e w3 ⟨rfl, b3⟩))
            go_ret
            exact ⟨by rw [HCC.out]; rfl, (BC.out.trans (e2.mono (by omega))).trans (b3.mono (by omega))⟩
          | true =>
            have HND := Lib.hid hnd
            clear hnd
            by_cases hin : nx.data.toList ∈ (L.take i).map (fun x => ky x.name)
            · have hq1 : c' = 1 := by rw [HH.out.2.2.2.2, if_pos hin]
              subst hq1
              have hcc : c = 62 := by
                rw [HCD.out]
                have : goodA (L.map LA.name) = false := by
                  cases hg : goodA (L.map LA.name) with
                  | false => rfl
                  | true =>
                    have e : L.map LA.name = ((L.take (i + 1)).map LA.name) ++ (L.drop (i + 1)).map LA.name := by rw [← List.map_append, List.take_append_drop]
                    rw [e] at hg
                    have h1 := goodA_pre hg
                    rw [List.take_add_one, HH.out.2.2.2.1] at h1
                    simp only [Option.toList_some, List.map_append, List.map_cons, List.map_nil] at h1
                    rw [goodA_snoc] at h1
                    simp only [Bool.and_eq_true, decide_eq_true_eq] at h1
                    refine absurd ?_ h1.2
                    rw [List.map_map, ← HNX.out]
                    exact hin
                rw [this]; simp
              have HCC := Lib.hid hcc
              clear hcc hin
              go_wp2_with (first | (at_mapUpdate; refine wpList_mapUpdate_own _ rfl _ _ _ 80 rfl 9 3 law9 Try.underlying80 (plainElem (H := Unit) Try.prog 3) mb i D rfl HOW.out (by unfold maxLen; omega) _ _ _ rfl rfl HKEY.out _ [] (plainElem_int Try.underlying3 (WalkArith.wf_i64 (by omega))) ?_; intro w2 hown2 hgrow2; obtain ⟨e0, e1, e2⟩ := HQ.out w2 hgrow2; have HO2 := Lib.hid hown2; clear hown2 hgrow2) | (go_at_call 12; refine (named_calls _ nx hnz).mono ?_; rw [HND.out]; rintro e w3 ⟨rfl, b3⟩; obtain ⟨hrun3, hown3⟩ := look_after HH.out.1.map HO2.out b3 HKEY.out; have e3 := (b3.cell (p := ⟨wr.heap.size, 0, none⟩) e1).trans e0; have e4 := Nat.lt_of_lt_of_le e1 b3.size))
              go_ret
              exact ⟨by rw [HCC.out]; rfl, (BC.out.trans (e2.mono (by omega))).trans (b3.mono (by omega))⟩
            · have hq1 : c' = 0 := by rw [HH.out.2.2.2.2, if_neg hin]
              subst hq1
              have HIN := Lib.hid hin
              clear hin
              go_wp2_with (first | (at_mapUpdate; refine wpList_mapUpdate_own _ rfl _ _ _ 80 rfl 9 3 law9 Try.underlying80 (plainElem (H := Unit) Try.prog 3) mb i D rfl HOW.out (by unfold maxLen; omega) _ _ _ rfl rfl HKEY.out _ [] (plainElem_int Try.underlying3 (WalkArith.wf_i64 (by omega))) ?_; intro w2 hown2 hgrow2; obtain ⟨e0, e1, e2⟩ := HQ.out w2 hgrow2; have HO2 := Lib.hid hown2; clear hown2 hgrow2) | (go_at_call 12; refine (named_calls _ nx hnz).mono ?_; rw [HND.out]; rintro e w3 ⟨rfl, b3⟩; obtain ⟨hrun3, hown3⟩ := look_after HH.out.1.map HO2.out b3 HKEY.out; have e3 := (b3.cell (p := ⟨wr.heap.size, 0, none⟩) e1).trans e0; have e4 := Nat.lt_of_lt_of_le e1 b3.size; have HO3 := Lib.hid hown3; clear hown3))
              go_roundw
              case rel =>
                have hnm : (List.take (i + 1) L).map (fun x => ky x.name) = (List.take i L).map (fun x => ky x.name) ++ [nx.data.toList] := by
                  rw [List.take_add_one, HH.out.2.2.2.1, HNX.out]; simp
                refine ⟨i + 1, _, by go_num, hlt, HO3.out, by rw [hnm]; exact seen_next HH.out.1 HIN.out, ?_, e2.trans (b3.mono (by omega))⟩
                rw [List.take_add_one, HH.out.2.2.2.1]
                simp only [Option.toList_some, List.map_append, List.map_cons, List.map_nil]
                rw [goodA_snoc, HH.out.2.1, ← HNX.out, HND.out]
                simp only [Bool.true_and, decide_eq_true_eq]
                rw [List.map_map]
                exact HIN.out
              case measure => simp [intOf]; omega
        · obtain rfl : i = n := by omega
          have p1 : ¬ (i : Int) < (i : Int) := by omega
          have hcc : c = 0 := by
            rw [List.take_of_length_le (by rw [HN.out]; exact Nat.le_refl _)] at hgood
            rw [HCD.out, if_neg, hgood]; · rfl
            rintro ⟨h1, h2⟩
            rw [HKN.out h1] at h2
            cases h2
          have HCC := Lib.hid hcc
          clear hcc hown hseen hgood hlt
          go_wp2_with fail
          go_ret
          exact ⟨by rw [HCC.out]; rfl, BC.out.trans (hbel.mono (by omega))⟩
end Go.Proofs.Ytelhnaphkbpakaa

namespace Go.Proofs.Ytelhnaphkbpakaa
open Go.RowKit
set_option linter.unusedVariables false
set_option maxRecDepth 100000

theorem SlA.src {w : World} {a : Option Addr} {L : List LA} (h : SlA w a L) : L.length = 0 ∨ ∃ ad, a = some ad ∧ ∀ j u, (cellsA L)[j]? = some u → w.cell? (ad.add j) = some u := by
  rcases Nat.eq_zero_or_pos L.length with h0 | h0
  · exact .inl h0
  · obtain ⟨u, hu⟩ : ∃ u, (cellsA L)[0]? = some u := ⟨_, List.getElem?_eq_getElem (by rw [cellsA_len]; omega)⟩
    obtain ⟨b, off, rfl, _, _⟩ := h.at_ 0 u hu
    refine .inr ⟨_, rfl, fun j v hv => ?_⟩
    obtain ⟨b', off', h1, _, h3⟩ := h.at_ j v hv
    cases h1
    rw [show (⟨b, off, none⟩ : Addr).add j = ⟨b, off + j, none⟩ by unfold Addr.add; split <;> simp_all]
    exact h3

set_option maxHeartbeats 1000000 in
theorem clone54_calls (w : World) {ad : Addr} {L : List LA} (ca : Nat) (hA : SlA w (some ad) L) (hl : L.length ≤ 1099511627776) :
    Calls Try.prog 54 #[.slice (some ad) L.length ca] w fun e w' => ∃ a' c', e = .returned (.slice a' L.length c') ∧ w'.ownsRow w.heap.size 72 2 (.slice a' L.length c') L.length (cellsA L) ∧ Below w.heap.size w w' := by
  obtain ⟨i72, hi72, ia1, ia2, ia3⟩ := info_parts info72
  have HA := Lib.hid (hA.below ((Below.refl _ w).alloc (Nat.le_refl _) (.cells #[] 72)))
  obtain ⟨n, hn⟩ : ∃ n, n = L.length := ⟨_, rfl⟩
  rw [← hn] at hl ⊢
  have HN := Lib.hid hn
  clear hn hA
  have heq : ∀ w, (binOp .eql 25 (.slice (some ad) n ca) (.slice none 0 0)).run Try.prog w = .ok (.bool false) w := fun w => Lib.run_eql_slice_nil w _ _ (some ad) n ca 0 0 Try.underlying25
  go_enter Try.func54, Try.ntmps54
  go_wp2_with (at_builtin; refine wpList_append_any _ rfl (.tmp 5) (.tmp 6) 25 rfl w.heap.size 72 i72 _ 2 40 Try.underlying25 hi72 ia1 ia2 ia3 rfl (by omega) _ 0 [] rfl (World.ownsRow_lit w #[] 0 (Nat.le_refl _) (by decide) rfl) (some ad) n ca (cellsA L) rfl (by rw [cellsA_len, HN.out]) (by rw [HN.out]; exact HA.out.src) (cellsA_one L) (by unfold maxLen; omega) (by omega) (by simp) ?_)
  intro a2 c2 w2 hown hgrow
  have hb : Below w.heap.size w w2 := ((FrT.refl [72] w.heap.size w).alloc (.cells #[] 72) |>.append (World.ownsRow_lit (size := 2) w #[] 0 (Nat.le_refl _) (by decide) rfl) (Nat.le_refl _) (by simp) hgrow).below (Nat.le_refl _)
  go_wp2
  go_ret
  exact ⟨a2, c2, rfl, by simpa using hown, hb⟩

set_option maxHeartbeats 1000000 in
theorem insort1_calls (w : World) (v f : Value) (n : Nat) (hn : n ≤ 1) : Calls Try.prog 104 #[v, .int .i64 0, .int .i64 (n : Int), f] w fun e w' => (∃ v, e = .returned v) ∧ w = w' := by
  have p1 : ¬ (1 : Int) < (n : Int) := by omega
  go_enter Try.func104, Try.ntmps104
  go_wp2_with fail
  go_loopw [8] (fun v wr => v = .int .i64 1 ∧ w = wr) (fun _ _ => 0)
  case atStart => exact ⟨rfl, rfl⟩
  case round =>
    obtain ⟨rfl, rfl⟩ := hrel
    go_wp2
    go_end0
    exact ⟨⟨_, rfl⟩, rfl⟩
theorem stab1_calls (w : World) (v f : Value) (n : Nat) (hn : n ≤ 1) : Calls Try.prog 90 #[v, .int .i64 (n : Int), f] w fun e w' => (∃ v, e = .returned v) ∧ w = w' := by
  have p1 : ¬ (20 : Int) ≤ (n : Int) := by omega
  have p2 : ¬ (20 : Int) < (n : Int) := by omega
  have hi := insort1_calls w v f n hn
  go_enter Try.func90, Try.ntmps90
  go_wp2_with fail
  go_loopw [7, 8] (fun u v wr => u = .int .i64 0 ∧ v = .int .i64 20 ∧ w = wr) (fun _ _ _ => 0)
  case atStart => exact ⟨rfl, rfl, rfl⟩
  case round =>
    obtain ⟨rfl, rfl, rfl⟩ := hrel
    go_wp2_with (go_at_call 104; refine hi.mono ?_; rintro e w2 ⟨⟨r, rfl⟩, rfl⟩)
    go_loopw [6] (fun v wr => v = .int .i64 20 ∧ w = wr) (fun _ _ => 0)
    case atStart => exact ⟨rfl, rfl⟩
    case round =>
      obtain ⟨rfl, rfl⟩ := hrel
      go_wp2
      go_end0
      exact ⟨⟨_, rfl⟩, rfl⟩
theorem sort1_calls (w : World) (v f : Value) (a : Option Addr) (n c : Nat) (hn : n ≤ 1) (hv : v = .slice a n c) : Calls Try.prog 55 #[v, f] w fun e w' => (∃ v, e = .returned v) ∧ w = w' := by
  subst hv
  have hi := stab1_calls w (.slice a n c) f n hn
  go_enter Try.func55, Try.ntmps55
  go_wp2_with (go_at_call 90; refine hi.mono ?_; rintro e w2 ⟨⟨r, rfl⟩, rfl⟩)
  go_end0
  exact ⟨⟨_, rfl⟩, rfl⟩
/-- The order of one attribute, or of none. -/
theorem order1_calls (w : World) {ad : Addr} {L : List LA} (ca : Nat) (hA : SlA w (some ad) L) (hl : L.length ≤ 1) :
    Calls Try.prog 53 #[.slice (some ad) L.length ca] w fun e w' => ∃ a' c', e = .returned (.slice a' L.length c') ∧ w'.ownsRow w.heap.size 72 2 (.slice a' L.length c') L.length (cellsA L) ∧ Below w.heap.size w w' := by
  have hc := clone54_calls w ca hA (by omega)
  obtain ⟨n, hn⟩ : ∃ n, n = L.length := ⟨_, rfl⟩
  rw [← hn] at hl hc ⊢
  have HC := Lib.hid hc
  clear hn hc
  go_enter Try.func53, Try.ntmps53
  go_wp2_with (first | (go_at_call 54; refine HC.out.mono ?_; rintro e w2 ⟨a2, c2, rfl, hown, hb⟩; have HO := Lib.hid (And.intro hown hb); clear hown hb) | (go_at_call 55; refine (sort1_calls _ _ _ a2 n c2 hl rfl).mono ?_; rintro e w3 ⟨⟨r, rfl⟩, rfl⟩))
  go_ret
  exact ⟨a2, c2, rfl, HO.out⟩
/-- EqualFunc, at one attribute on either side. -/
theorem equalFunc1_calls (w : World) {a b : Option Addr} {x y : LA} (ca cb : Nat) (hA : SlA w a [x]) (hB : SlA w b [y]) :
    Calls Try.prog 60 #[.slice a 1 ca, .slice b 1 cb, .func (.func 61) #[] #[]] w fun e w' => e = .returned (.bool (eqAt x y)) ∧ Below w.heap.size w w' := by
  obtain ⟨b1, o1, rfl, hl1, c1, c2⟩ := hA.get (i := 0) (x := x) rfl
  obtain ⟨b2, o2, rfl, hl2, d1, d2⟩ := hB.get (i := 0) (x := y) rfl
  simp at c1 c2 d1 d2
  have hx := hA.val x (by simp)
  have hy := hB.val y (by simp)
  have HX := Lib.hid hx
  have HY := Lib.hid hy
  clear hA hB hx hy
  have hbW : Below w.heap.size w ((w.alloc (.cells #[.string x.name, .slice x.va x.val.length x.vc] 72)).alloc (.cells #[.string y.name, .slice y.va y.val.length y.vc] 72)) := ((Below.refl _ w).alloc (Nat.le_refl _) _).alloc (by simp) _
  have he := eqAt_calls ((w.alloc (.cells #[.string x.name, .slice x.va x.val.length x.vc] 72)).alloc (.cells #[.string y.name, .slice y.va y.val.length y.vc] 72)) x y (HX.out.below hbW) (HY.out.below hbW)
  unfold LA.v at he
  obtain ⟨r, hr⟩ : ∃ r, r = eqAt x y := ⟨_, rfl⟩
  rw [← hr] at he ⊢
  have HBW := Lib.hid hbW
  have HE := Lib.hid he
  clear hbW he hr HX HY
  go_enter Try.func60, Try.ntmps60
  go_wp2_with fail
  go_loopw [17] (fun v wr => (v = .int .i64 0 ∧ w = wr) ∨ (v = .int .i64 1 ∧ r = true ∧ Below w.heap.size w wr)) (fun v _ => 1 - (intOf v).toNat)
  case atStart => exact .inl ⟨rfl, rfl⟩
  case round =>
    rcases hrel with ⟨rfl, rfl⟩ | ⟨rfl, rfl, hb⟩
    · cases r with
      | true =>
        go_wp2_with (go_at_call 61; refine HE.out.mono ?_; rintro e w2 ⟨rfl, b2⟩)
        go_roundw
        case rel => exact .inr ⟨rfl, trivial, HBW.out.trans (b2.mono (by simp; omega))⟩
        case measure => simp [intOf]
      | false =>
        go_wp2_with (go_at_call 61; refine HE.out.mono ?_; rintro e w2 ⟨rfl, b2⟩)
        go_ret
        exact ⟨rfl, HBW.out.trans (b2.mono (by simp; omega))⟩
    · go_wp2
      go_ret
      exact ⟨rfl, hb⟩

theorem sla_one {w : World} {B : Nat} {a : Option Addr} {c : Nat} {z : LA} (hr : w.ownsRow B 72 2 (.slice a 1 c) 1 (cellsA [z])) (hz : Sl16 w z.va z.val) (hn : z.name.size ≤ 9223372036854775807) : SlA w a [z] := by
  refine ⟨fun j u hu => ?_, by simp, fun t ht => ?_, fun t ht => ?_⟩
  · obtain ⟨b, h1, h2, h3⟩ := row_src hr hu
    exact ⟨b, 0, h1, h2, h3⟩
  · rw [List.mem_singleton.1 ht]; exact hz
  · rw [List.mem_singleton.1 ht]; exact hn

set_option maxHeartbeats 8000000 in
/-- Equal of two nodes of one attribute each, which have the same. -/
theorem equal1_calls (w : World) (M N : Nd) (hM : NdIn w M) (hN : NdIn w N) (hc : M.c = N.c) (x y : LA) (hx : M.L = [x]) (hy : N.L = [y]) :
    Calls Try.prog 17 #[M.v, N.v] w fun e w' => e = .returned (.bool true) ∧ Below w.heap.size w w' := by
  have hac : attrOf x = attrOf y := by
    have := congrArg NC.attrs hc
    simp only [Nd.c, hx, hy, List.map_cons, List.map_nil, List.cons.injEq, and_true] at this
    exact this
  have heq : eqAt x y = true := by
    unfold eqAt
    have h1 : x.name = y.name := congrArg Prod.fst hac
    have h2 : x.val = y.val := congrArg Prod.snd hac
    rw [h1, h2]; simp
  have hMa := hM.attrs
  have hNa := hN.attrs
  have hMd := hM.data
  have hNd := hN.data
  obtain ⟨k, nm, da, dc, data, aa, ac, L, sl, ge⟩ := M
  obtain ⟨k2, nm2, da2, dc2, data2, aa2, ac2, L2, sl2, ge2⟩ := N
  simp only [Nd.c, NC.mk.injEq] at hc hx hy hMa hNa hMd hNd
  obtain ⟨rfl, rfl, rfl, _, rfl, rfl⟩ := hc
  subst hx hy
  obtain ⟨b1, o1, rfl, _, _, _⟩ := hMa.get (i := 0) (x := x) rfl
  obtain ⟨b2, o2, rfl, _, _, _⟩ := hNa.get (i := 0) (x := y) rfl
  simp only [Nd.v, Nd.cells, List.length_cons, List.length_nil, Nat.zero_add]
  obtain ⟨m, em⟩ : ∃ m, m = data.length := ⟨_, rfl⟩
  rw [← em]
  obtain ⟨V, hV⟩ : ∃ V, V = (w.alloc (.cells #[.int .i64 k, .string nm, .slice da m dc, .slice (some ⟨b1, o1, none⟩) 1 ac, .int .u32 sl, .int .u32 ge] 30)).alloc (.cells #[.int .i64 k, .string nm, .slice da2 m dc2, .slice (some ⟨b2, o2, none⟩) 1 ac2, .int .u32 sl, .int .u32 ge] 30) := ⟨_, rfl⟩
  have hbV : Below w.heap.size w V := by rw [hV]; exact ((Below.refl _ w).alloc (Nat.le_refl _) _).alloc (by simp) _
  have v0 : V.heap[w.heap.size]? = some (.cells #[.int .i64 k, .string nm, .slice da m dc, .slice (some ⟨b1, o1, none⟩) 1 ac, .int .u32 sl, .int .u32 ge] 30 (0, 0)) := by rw [hV]; exact alloc_blk (Go.heap_alloc_new w _) _
  have v1 : V.heap[w.heap.size + 1]? = some (.cells #[.int .i64 k, .string nm, .slice da2 m dc2, .slice (some ⟨b2, o2, none⟩) 1 ac2, .int .u32 sl, .int .u32 ge] 30 (0, 0)) := by
    rw [hV]; have := Go.heap_alloc_new (w.alloc (.cells #[.int .i64 k, .string nm, .slice da m dc, .slice (some ⟨b1, o1, none⟩) 1 ac, .int .u32 sl, .int .u32 ge] 30)) (.cells #[.int .i64 k, .string nm, .slice da2 m dc2, .slice (some ⟨b2, o2, none⟩) 1 ac2, .int .u32 sl, .int .u32 ge] 30); rwa [World.size_alloc] at this
  have he := eq16_calls dc dc2 (hMd.below hbV) (hNd.below hbV)
  rw [← em, decide_eq_true rfl, hV] at he
  have HE := Lib.hid he
  have HV := Lib.hid (And.intro hV (And.intro hbV (And.intro v0 v1)))
  have HA := Lib.hid (And.intro hMa hNa)
  have HQ := Lib.hid heq
  clear he hV hbV v0 v1 hMa hNa heq hM hN hMd hNd em hac
  go_enter Try.func17, Try.ntmps17
  go_wp2_with (go_at_call 52; refine HE.out.mono ?_; rintro e w2 ⟨rfl, kk, rfl⟩)
  have HO1 : Hid (∀ w', Below V.heap.size V w' → Calls Try.prog 53 #[.slice (some ⟨b1, o1, none⟩) 1 ac] w' fun e w'' => ∃ a' c', e = .returned (.slice a' 1 c') ∧ w''.ownsRow w'.heap.size 72 2 (.slice a' 1 c') 1 (cellsA [x]) ∧ Below w'.heap.size w' w'') := Lib.hid (fun w' hb => order1_calls w' ac (HA.out.1.below (HV.out.2.1.trans (hb.mono HV.out.2.1.size))) (by simp))
  have HO2 : Hid (∀ w', Below V.heap.size V w' → Calls Try.prog 53 #[.slice (some ⟨b2, o2, none⟩) 1 ac2] w' fun e w'' => ∃ a' c', e = .returned (.slice a' 1 c') ∧ w''.ownsRow w'.heap.size 72 2 (.slice a' 1 c') 1 (cellsA [y]) ∧ Below w'.heap.size w' w'') := Lib.hid (fun w' hb => order1_calls w' ac2 (HA.out.2.below (HV.out.2.1.trans (hb.mono HV.out.2.1.size))) (by simp))
  have HSW : Hid (∀ w', Below V.heap.size V w' → w'.cell? ⟨w.heap.size, 3, none⟩ = some (.slice (some ⟨b1, o1, none⟩) 1 ac) ∧ w'.cell? ⟨w.heap.size + 1, 3, none⟩ = some (.slice (some ⟨b2, o2, none⟩) 1 ac2)) := Lib.hid (fun w' hb =>
    ⟨cell_blk ((hb.block _ (lt_of_some HV.out.2.2.1)).trans HV.out.2.2.1) 3 rfl, cell_blk ((hb.block _ (lt_of_some HV.out.2.2.2)).trans HV.out.2.2.2) 3 rfl⟩)
  have HD0 : Hid (Below V.heap.size V (((w.alloc (.cells #[.int .i64 k, .string nm, .slice da m dc, .slice (some ⟨b1, o1, none⟩) 1 ac, .int .u32 sl, .int .u32 ge] 30)).alloc (.cells #[.int .i64 k, .string nm, .slice da2 m dc2, .slice (some ⟨b2, o2, none⟩) 1 ac2, .int .u32 sl, .int .u32 ge] 30)).drewN kk).drew) := Lib.hid (by rw [← HV.out.1]; exact ((FrT.refl [] _ V).drewN kk).below (Nat.le_refl _) |>.drew)
  have HEF : Hid (∀ (w' : World) (a' b' : Option Addr) (ca cb : Nat), SlA w' a' [x] → SlA w' b' [y] → Calls Try.prog 60 #[.slice a' 1 ca, .slice b' 1 cb, .func (.func 61) #[] #[]] w' fun e w'' => e = .returned (.bool true) ∧ Below w'.heap.size w' w'') := Lib.hid (fun w' a' b' ca cb h1 h2 => by
    have h := equalFunc1_calls w' ca cb h1 h2
    rw [HQ.out] at h
    exact h)
  go_region_held3 (fun w' => w'.cell? ⟨w.heap.size, 3, none⟩ = some (.slice (some ⟨b1, o1, none⟩) 1 ac) ∧ w'.cell? ⟨w.heap.size + 1, 3, none⟩ = some (.slice (some ⟨b2, o2, none⟩) 1 ac2))
    (first | exact HSW.out _ HD0.out | exact HSW.out _ hb5 | exact HSW.out _ hb6 | exact HSW.out _ hb7)
    (first | (go_at_call 53; refine (HO1.out _ HD0.out).mono ?_; rintro e w5 ⟨a5, c5, rfl, hr5, b5⟩; have hb5 := HD0.out.trans (b5.mono HD0.out.size)) | (go_at_call 53; refine (HO2.out _ hb5).mono ?_; rintro e w6 ⟨a6, c6, rfl, hr6, b6⟩; have hb6 := hb5.trans (b6.mono hb5.size)) | (go_at_call 60; refine (HEF.out _ _ _ _ _ (sla_one (row_below hr5 b6) (HA.out.1.val x (by simp) |>.below (HV.out.2.1.trans (hb6.mono HV.out.2.1.size))) (HA.out.1.nam x (by simp))) (sla_one hr6 (HA.out.2.val y (by simp) |>.below (HV.out.2.1.trans (hb6.mono HV.out.2.1.size))) (HA.out.2.nam y (by simp)))).mono ?_; rintro e w7 ⟨rfl, b7⟩; have hb7 := hb6.trans (b7.mono hb6.size)))
  go_wp2
  go_ret
  exact ⟨rfl, HV.out.2.1.trans (hb7.mono HV.out.2.1.size)⟩
end Go.Proofs.Ytelhnaphkbpakaa

