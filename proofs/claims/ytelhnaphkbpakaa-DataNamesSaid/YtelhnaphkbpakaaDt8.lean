/- Check: may a node be so? -/
import Derived.Test.YtelhnaphkbpakaaDt4
import Derived.Test.YtelhnaphkbpakaaDt7
import Derived.Maps.OwnOps
import Derived.Maps.Views
import Derived.Deep.CutBlock
namespace Go.Proofs.Ytelhnaphkbpakaa
open Go.RowKit Go.Maps
set_option linter.unusedVariables false
set_option maxRecDepth 100000

abbrev ky (s : ByteArray) : List UInt8 := s.data.toList
/-- All names may be, and none is there twice. -/
def goodA (l : List ByteArray) : Bool := l.all namedD && decide ((l.map ky).Nodup)
def checkD (k : Int) (nm : ByteArray) (dl : Nat) (names : List ByteArray) : Int :=
  if fitsD k nm dl names.length = false then 63
  else if (k = 1 ∨ k = 7 ∨ k = 10) ∧ namedD nm = false then 62
  else if goodA names then 0 else 62

theorem zero3 (w : World) : (zeroValue 3).run Try.prog w = .ok (.int .i64 0) w := by kernel_rfl
theorem law9 : Keyed Try.prog 9 := string_keyed Try.underlying9
/-- The map of names seen, each once. -/
structure SeenOk {H : Type} (D : Go.DataW H) (l : List (List UInt8)) : Prop where
  map : IsMap D
  at_ : ∀ s : List UInt8, D.atKey (.string s) (.lit (.int .i64 0)) = .lit (.int .i64 (if s ∈ l then 1 else 0))
theorem seen_next {H : Type} {D : Go.DataW H} {l : List (List UInt8)} (h : SeenOk D l) {s : List UInt8} (hs : s ∉ l) : SeenOk (D.put (.string s) (.lit (.int .i64 1))) (l ++ [s]) := by
  refine ⟨h.map.put _ _, fun t => ?_⟩
  by_cases e : t = s
  · subst e
    rw [atKey_put_same h.map (show WideAt.IsKeyLit (.string t) from trivial)]
    simp
  · rw [atKey_put_other (by intro hh; injection hh with hh; exact e hh), h.at_ t]
    simp [e]
theorem goodA_snoc (l : List ByteArray) (x : ByteArray) : goodA (l ++ [x]) = (goodA l && namedD x && decide (ky x ∉ l.map ky)) := by
  unfold goodA
  rw [List.all_append, List.map_append]
  have : ((l.map ky) ++ [ky x]).Nodup ↔ (l.map ky).Nodup ∧ ky x ∉ l.map ky := by
    rw [List.nodup_append]
    simp
  simp only [List.map_cons, List.map_nil, decide_eq_decide.2 this]
  simp only [List.all_cons, List.all_nil, Bool.and_true]
  cases l.all namedD <;> cases namedD x <;> simp
theorem goodA_pre {l m : List ByteArray} (h : goodA (l ++ m) = true) : goodA l = true := by
  unfold goodA at *
  rw [List.all_append, List.map_append] at h
  simp only [Bool.and_eq_true, decide_eq_true_eq] at *
  exact ⟨h.1.1, (List.nodup_append.1 h.2).1⟩

theorem grown_of_below {w w' : World} (b : Below w.heap.size w w') : w.grownBy w' none := ⟨b.os, b.tape, b.output, b.size, fun i hi _ => b.block i hi⟩
theorem look_after {w2 w3 : World} {mb n : Nat} {D : DataW Unit} {nx : ByteArray} {v : Int} (hD : IsMap D) (h : w2.ownsMap Try.prog 9 (plainElem (H := Unit) Try.prog 3) mb n (D.put (.string nx.data.toList) (.lit (.int .i64 v)))) (b : Below w2.heap.size w2 w3)
    (hkey : keyOf Try.prog 9 (.string nx) = some (.string nx.data.toList)) :
    (Instr.lookup 80 (.map (some mb)) (.string nx) false).run Try.prog w3 = .ok (.int .i64 v) w3 ∧ w3.ownsMap Try.prog 9 (plainElem (H := Unit) Try.prog 3) mb n (D.put (.string nx.data.toList) (.lit (.int .i64 v))) := by
  have h3 := h.kept (grown_of_below b) (by simp)
  obtain ⟨c, hrun, hat, _⟩ := h3.lookup_int (t := 80) law9 Try.underlying80 Try.underlying3 (zero3 _) hkey
  rw [atKey_put_same hD (show WideAt.IsKeyLit (.string nx.data.toList) from trivial)] at hat
  injection hat with h1
  injection h1 with h2 h4
  rw [← h4] at hrun
  exact ⟨hrun, h3⟩

set_option maxHeartbeats 8000000 in
theorem check_calls (w : World) (N : Nd) (h : NdIn w N) :
    Calls Try.prog 15 #[N.v] w fun e w' => e = .returned (.int .i64 (checkD N.kind N.name N.data.length (N.L.map LA.name))) ∧ Below w.heap.size w w' := by
  have hfits := fun w' (b : Below w.heap.size w w') => fits_calls w' N (h.below b)
  have hA := h.attrs
  have hn := h.nam
  obtain ⟨k, nm, da, dc, data, aa, ac, L, sl, ge⟩ := N
  simp only [Nd.v, Nd.cells] at *
  obtain ⟨n, en⟩ : ∃ n, n = L.length := ⟨_, rfl⟩
  obtain ⟨m, em⟩ : ∃ m, m = data.length := ⟨_, rfl⟩
  have hl := hA.len
  rw [← en, ← em] at hfits ⊢
  rw [← en] at hl
  have HN := Lib.hid en
  have HA := Lib.hid hA
  have HF := Lib.hid hfits
  clear en em hA hfits h
  obtain ⟨c, hc⟩ : ∃ c, c = checkD k nm m (L.map LA.name) := ⟨_, rfl⟩
  rw [← hc]
  have HC := Lib.hid hc
  clear hc
  have hmm := @run_makeMap Try.prog
  have hb0 : Below w.heap.size w (w.alloc (.cells #[.int .i64 k, .string nm, .slice da m dc, .slice aa n ac, .int .u32 sl, .int .u32 ge] 30)) := (Below.refl _ w).alloc (Nat.le_refl _) _
  have HB0 := Lib.hid hb0
  clear hb0
  cases hfd : fitsD k nm m n with
  | false =>
    have hcc : c = 63 := by rw [HC.out]; unfold checkD; rw [List.length_map, ← HN.out, hfd]; rfl
    have HF2 := HF.out
    rw [hfd] at HF2
    have HF3 := Lib.hid HF2
    clear HF2 HF hfd
    have HCC := Lib.hid hcc
    clear hcc
    go_enter Try.func15, Try.ntmps15
    go_wp2_with (go_at_call 49; refine (HF3.out _ HB0.out).mono ?_; rintro e w1 ⟨rfl, b1⟩)
    go_ret
    exact ⟨by rw [HCC.out]; rfl, HB0.out.trans (b1.mono (by simp))⟩
  | true =>
    have HF2 := HF.out
    rw [hfd] at HF2
    have HF3 := Lib.hid HF2
    have hcd : c = if (k = 1 ∨ k = 7 ∨ k = 10) ∧ namedD nm = false then 62 else if goodA (L.map LA.name) then 0 else 62 := by rw [HC.out]; unfold checkD; rw [List.length_map, ← HN.out, hfd]; rfl
    have HCD := Lib.hid hcd
    clear HF2 HF hfd hcd
    go_enter Try.func15, Try.ntmps15
    go_wp2_with fail
    refine (HF3.out _ HB0.out).mono ?_
    rintro e w1 ⟨rfl, b1⟩
    have x0 := (b1.block w.heap.size (by simp)).trans (Go.heap_alloc_new w _)
    have c0 := cell_blk x0 0 rfl
    have c1 := cell_blk x0 1 rfl
    have l0 := lt_of_some x0
    simp at c0 c1
    have B1 := Lib.hid (HB0.out.trans (b1.mono (by simp)))
    have HX := Lib.hid x0
    clear b1 x0
    have hnm := named_calls w1 nm hn
    have HNM := Lib.hid hnm
    clear hnm
    go_upto_block 0 with fail
    go_cut [] from 9 (fun wc => ((k = 1 ∨ k = 7 ∨ k = 10) → namedD nm = true) ∧ Below w1.heap.size w1 wc)
    case first =>
      by_cases hk : k = 1 ∨ k = 7 ∨ k = 10
      · cases hnd : namedD nm with
        | true =>
          have HNM2 := HNM.out
          rw [hnd] at HNM2
          have HNM3 := Lib.hid HNM2
          have HND := Lib.hid hnd
          clear HNM2 HNM hnd
          rcases hk with rfl | rfl | rfl
          all_goals go_wp2_with (go_at_call 12; refine HNM3.out.mono ?_; rintro e w2 ⟨rfl, b2⟩)
          all_goals go_meet
          all_goals exact ⟨fun _ => HND.out, b2⟩
        | false =>
          have HNM2 := HNM.out
          rw [hnd] at HNM2
          have HNM3 := Lib.hid HNM2
          have hcc : c = 62 := by rw [HCD.out, if_pos ⟨hk, hnd⟩]
          have HCC := Lib.hid hcc
          clear HNM2 HNM hnd hcc
          rcases hk with rfl | rfl | rfl
          all_goals go_wp2_with (go_at_call 12; refine HNM3.out.mono ?_; rintro e w2 ⟨rfl, b2⟩)
          all_goals go_ret
          all_goals exact ⟨by rw [HCC.out]; rfl, B1.out.trans (b2.mono (by omega))⟩
      · have e1 : (k == 1) = false := by simp; omega
        have e2 : (k == 7) = false := by simp; omega
        have e3 : (k == 10) = false := by simp; omega
        have HK := Lib.hid hk
        clear hk
        go_wp2
        go_meet
        exact ⟨fun h => absurd h HK.out, Below.refl _ _⟩
    case rest =>
      obtain ⟨hknm, bc⟩ := hcut
      have hs1 : w.heap.size < w1.heap.size := lt_of_some HX.out
      have hsc := bc.size
      have x0 := (bc.block _ hs1).trans HX.out
      have BC := Lib.hid (B1.out.trans (bc.mono (by omega)))
      have c3 := cell_blk x0 3 rfl
      have l0 := lt_of_some x0
      simp at c3
      have HKN := Lib.hid hknm
      clear c0 c1 HX HNM hknm x0 bc
      go_wp2_with fail
      obtain ⟨mb, hmb⟩ : ∃ mb, mb = wc.heap.size := ⟨_, rfl⟩
      have hm0 : (wc.alloc (.map #[] 0)).ownsMap Try.prog 9 (plainElem (H := Unit) Try.prog 3) mb 0 (.map []) := by rw [hmb]; exact World.ownsMap_made _ _ _ _
      rw [← hmb]
      have hbm : Below wc.heap.size wc (wc.alloc (.map #[] 0)) := (Below.refl _ _).alloc (Nat.le_refl _) _
      have HM0 := Lib.hid (And.intro hm0 hbm)
      have HMB := Lib.hid hmb
      clear hm0 hbm hmb c3
      go_loopw [23] (fun v wr => ∃ (i : Nat) (D : DataW Unit), v = .int .i64 (i : Nat) ∧ i ≤ n ∧ wr.ownsMap Try.prog 9 (plainElem (H := Unit) Try.prog 3) mb i D ∧ SeenOk D ((L.take i).map fun x => ky x.name) ∧ goodA ((L.take i).map LA.name) = true ∧ Below wc.heap.size wc wr) (fun v _ => n - (intOf v).toNat)
      case atStart => exact ⟨0, .map [], rfl, Nat.zero_le _, HM0.out.1, ⟨isMap_empty, fun s => by simp [DataW.atKey]⟩, by simp [goodA], HM0.out.2⟩
      case round =>
        obtain ⟨i, D, rfl, hi, hown, hseen, hgood, hbel⟩ := hrel
        have hbw : Below w.heap.size w wr := BC.out.trans (hbel.mono (by omega))
        by_cases hlt : i < n
        · obtain ⟨x, hx⟩ : ∃ x, L[i]? = some x := ⟨_, List.getElem?_eq_getElem (by rw [← HN.out]; exact hlt)⟩
          obtain ⟨bb, off, rfl, hbl, c1, c2⟩ := (HA.out.below hbw).get hx
          have p1 : (i : Int) < (n : Int) := by omega
          have p2 : (0 : Int) ≤ (i : Int) := by omega
          obtain ⟨nx, hnx⟩ : ∃ nx, nx = x.name := ⟨_, rfl⟩
          obtain ⟨xl, hxl⟩ : ∃ xl, xl = x.val.length := ⟨_, rfl⟩
          have hnz : nx.size ≤ 9223372036854775807 := by rw [hnx]; exact HA.out.nam x (List.mem_of_getElem? hx)
          rw [← hnx] at c1
          rw [← hxl] at c2
          have hkey : keyOf Try.prog 9 (.string nx) = some (.string nx.data.toList) := Go.WideMaps.keyOf_string_mk Try.underlying9 (by unfold maxLen; omega)
          obtain ⟨q, hq⟩ : ∃ q : Int, q = if nx.data.toList ∈ (L.take i).map (fun x => ky x.name) then 1 else 0 := ⟨_, rfl⟩
          have hq01 : q = 0 ∨ q = 1 := by rw [hq]; split <;> simp
          have hml : mb < wr.heap.size := hown.lt
          have hownW := hown.kept (World.grownBy_alloc wr (.cells #[.string nx, .slice x.va xl x.vc] 72) none) (by simp)
          obtain ⟨c', hrun, hat, _⟩ := hownW.lookup_int (t := 80) law9 Try.underlying80 Try.underlying3 (zero3 _) hkey
          obtain rfl : c' = q := by
            rw [hseen.at_ nx.data.toList, ← hq] at hat
            injection hat with h1
            injection h1 with h2 h3
            exact h3.symm
          have q1 : IntKind.i64.wrap (c' + 1) = c' + 1 := IntWalk.i64_in _ (by omega)
          have HH := Lib.hid (And.intro hseen (And.intro hgood (And.intro hbel (And.intro hx hq))))
          have HNX := Lib.hid hnx
          have HKEY := Lib.hid hkey
          have HOW := Lib.hid hownW
          have hsr : wc.heap.size ≤ wr.heap.size := hbel.size
          clear hseen hgood hbel hx hq hown hownW hat hnx hxl hkey
          have HQ : Hid (∀ w2, (wr.alloc (.cells #[.string nx, .slice x.va xl x.vc] 72)).grownBy w2 (some mb) → w2.cell? ⟨wr.heap.size, 0, none⟩ = some (.string nx) ∧ wr.heap.size < w2.heap.size ∧ Below wc.heap.size wc w2) := Lib.hid (fun w2 hg => by
            have h1 := grown_blk hg (Go.heap_alloc_new wr (.cells #[.string nx, .slice x.va xl x.vc] 72)) (by intro e; injection e with e; omega)
            have h2 := cell_blk h1 0 rfl
            refine ⟨h2, lt_of_some h1, ?_⟩
            exact (HH.out.2.2.1.alloc hsr _).grown hg (by simp; omega) (fun r e => by cases e; rw [HMB.out]; exact Nat.le_refl _))
          cases hnd : namedD nx with
          | false =>
            have hcc : c = 62 := by
              rw [HCD.out]
              have : goodA (L.map LA.name) = false := by
                have hm : nx ∈ L.map LA.name := List.mem_map.2 ⟨x, List.mem_of_getElem? HH.out.2.2.2.1, HNX.out.symm⟩
                unfold goodA
                have : (L.map LA.name).all namedD = false := by
                  rw [List.all_eq_false]
                  exact ⟨nx, hm, by simp [hnd]⟩
                rw [this]; rfl
              rw [this]; simp
            have HCC := Lib.hid hcc
            have HND := Lib.hid hnd
            clear hcc hnd
            go_wp2_with (first | (at_mapUpdate; refine wpList_mapUpdate_own _ rfl _ _ _ 80 rfl 9 3 law9 Try.underlying80 (plainElem (H := Unit) Try.prog 3) mb i D rfl HOW.out (by unfold maxLen; omega) _ _ _ rfl rfl HKEY.out _ [] (plainElem_int Try.underlying3 (WalkArith.wf_i64 (by omega))) ?_; intro w2 hown2 hgrow2; obtain ⟨e0, e1, e2⟩ := HQ.out w2 hgrow2; clear hown2 hgrow2) | (go_at_call 12; refine (named_calls _ nx hnz).mono ?_; rw [HND.out]; rintro e w3 ⟨rfl, b3⟩))
            go_ret
            exact ⟨by rw [HCC.out]; rfl, (BC.out.trans (e2.mono (by omega))).trans (b3.mono (by omega))⟩
          | true =>
            have HND := Lib.hid hnd
            clear hnd
            by_cases hin : nx.data.toList ∈ (L.take i).map (fun x => ky x.name)
            · have hq1 : c' = 1 := by rw [HH.out.2.2.2.2, if_pos hin]
              subst hq1
              have hcc : c = 62 := by
                rw [HCD.out]
                have : goodA (L.map LA.name) = false := by
                  cases hg : goodA (L.map LA.name) with
                  | false => rfl
                  | true =>
                    have e : L.map LA.name = ((L.take (i + 1)).map LA.name) ++ (L.drop (i + 1)).map LA.name := by rw [← List.map_append, List.take_append_drop]
                    rw [e] at hg
                    have h1 := goodA_pre hg
                    rw [List.take_add_one, HH.out.2.2.2.1] at h1
                    simp only [Option.toList_some, List.map_append, List.map_cons, List.map_nil] at h1
                    rw [goodA_snoc] at h1
                    simp only [Bool.and_eq_true, decide_eq_true_eq] at h1
                    refine absurd ?_ h1.2
                    rw [List.map_map, ← HNX.out]
                    exact hin
                rw [this]; simp
              have HCC := Lib.hid hcc
              clear hcc hin
              go_wp2_with (first | (at_mapUpdate; refine wpList_mapUpdate_own _ rfl _ _ _ 80 rfl 9 3 law9 Try.underlying80 (plainElem (H := Unit) Try.prog 3) mb i D rfl HOW.out (by unfold maxLen; omega) _ _ _ rfl rfl HKEY.out _ [] (plainElem_int Try.underlying3 (WalkArith.wf_i64 (by omega))) ?_; intro w2 hown2 hgrow2; obtain ⟨e0, e1, e2⟩ := HQ.out w2 hgrow2; have HO2 := Lib.hid hown2; clear hown2 hgrow2) | (go_at_call 12; refine (named_calls _ nx hnz).mono ?_; rw [HND.out]; rintro e w3 ⟨rfl, b3⟩; obtain ⟨hrun3, hown3⟩ := look_after HH.out.1.map HO2.out b3 HKEY.out; have e3 := (b3.cell (p := ⟨wr.heap.size, 0, none⟩) e1).trans e0; have e4 := Nat.lt_of_lt_of_le e1 b3.size))
              go_ret
              exact ⟨by rw [HCC.out]; rfl, (BC.out.trans (e2.mono (by omega))).trans (b3.mono (by omega))⟩
            · have hq1 : c' = 0 := by rw [HH.out.2.2.2.2, if_neg hin]
              subst hq1
              have HIN := Lib.hid hin
              clear hin
              go_wp2_with (first | (at_mapUpdate; refine wpList_mapUpdate_own _ rfl _ _ _ 80 rfl 9 3 law9 Try.underlying80 (plainElem (H := Unit) Try.prog 3) mb i D rfl HOW.out (by unfold maxLen; omega) _ _ _ rfl rfl HKEY.out _ [] (plainElem_int Try.underlying3 (WalkArith.wf_i64 (by omega))) ?_; intro w2 hown2 hgrow2; obtain ⟨e0, e1, e2⟩ := HQ.out w2 hgrow2; have HO2 := Lib.hid hown2; clear hown2 hgrow2) | (go_at_call 12; refine (named_calls _ nx hnz).mono ?_; rw [HND.out]; rintro e w3 ⟨rfl, b3⟩; obtain ⟨hrun3, hown3⟩ := look_after HH.out.1.map HO2.out b3 HKEY.out; have e3 := (b3.cell (p := ⟨wr.heap.size, 0, none⟩) e1).trans e0; have e4 := Nat.lt_of_lt_of_le e1 b3.size; have HO3 := Lib.hid hown3; clear hown3))
              go_roundw
              case rel =>
                have hnm : (List.take (i + 1) L).map (fun x => ky x.name) = (List.take i L).map (fun x => ky x.name) ++ [nx.data.toList] := by
                  rw [List.take_add_one, HH.out.2.2.2.1, HNX.out]; simp
                refine ⟨i + 1, _, by go_num, hlt, HO3.out, by rw [hnm]; exact seen_next HH.out.1 HIN.out, ?_, e2.trans (b3.mono (by omega))⟩
                rw [List.take_add_one, HH.out.2.2.2.1]
                simp only [Option.toList_some, List.map_append, List.map_cons, List.map_nil]
                rw [goodA_snoc, HH.out.2.1, ← HNX.out, HND.out]
                simp only [Bool.true_and, decide_eq_true_eq]
                rw [List.map_map]
                exact HIN.out
              case measure => simp [intOf]; omega
        · obtain rfl : i = n := by omega
          have p1 : ¬ (i : Int) < (i : Int) := by omega
          have hcc : c = 0 := by
            rw [List.take_of_length_le (by rw [HN.out]; exact Nat.le_refl _)] at hgood
            rw [HCD.out, if_neg, hgood]; · rfl
            rintro ⟨h1, h2⟩
            rw [HKN.out h1] at h2
            cases h2
          have HCC := Lib.hid hcc
          clear hcc hown hseen hgood hlt
          go_wp2_with fail
          go_ret
          exact ⟨by rw [HCC.out]; rfl, BC.out.trans (hbel.mono (by omega))⟩
end Go.Proofs.Ytelhnaphkbpakaa
