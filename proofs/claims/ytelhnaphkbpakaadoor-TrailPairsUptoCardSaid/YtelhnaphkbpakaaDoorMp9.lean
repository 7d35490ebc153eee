/- Part 9 of the proof of TpP: lemmas. -/
import Derived.Maps.OwnOps
import Derived.Maps.Views
import Derived.Deep.CutBlock
import Derived.Lib.Bytealg
import Derived.Deep.RegionHeld3
import Derived.Laws.OwnMore
import Derived.Test.YtelhnaphkbpakaaDoorMp8
namespace Go.Proofs.YtelhnaphkbpakaaDoor
open Go.RowKit Go.Maps
set_option linter.unusedVariables false
set_option maxRecDepth 100000
abbrev ky (s : ByteArray) : List UInt8 := s.data.toList
def goodA (l : List ByteArray) : Bool := l.all namedD && decide ((l.map ky).Nodup)
def checkD (k : Int) (nm : ByteArray) (dl : Nat) (names : List ByteArray) : Int :=
  if fitsD k nm dl names.length = false then 63
  else if (k = 1 ∨ k = 7 ∨ k = 10) ∧ namedD nm = false then 62
  else if goodA names then 0 else 62
theorem zero3 (w : World) : (zeroValue 3).run Tryd.prog w = .ok (.int .i64 0) w := by kernel_rfl
theorem law9 : Keyed Tryd.prog 9 := string_keyed Tryd.underlying9
structure SeenOk {H : Type} (D : Go.DataW H) (l : List (List UInt8)) : Prop where
  map : IsMap D
  at_ : ∀ s : List UInt8, D.atKey (.string s) (.lit (.int .i64 0)) = .lit (.int .i64 (if s ∈ l then 1 else 0))
theorem seen_next {H : Type} {D : Go.DataW H} {l : List (List UInt8)} (h : SeenOk D l) {s : List UInt8} (hs : s ∉ l) : SeenOk (D.put (.string s) (.lit (.int .i64 1))) (l ++ [s]) := by
  refine ⟨h.map.put _ _, fun t => ?_⟩
  by_cases e : t = s
  · subst e
    rw [atKey_put_same h.map (show WideAt.IsKeyLit (.string t) from trivial)]
    simp
  · rw [atKey_put_other (by intro hh; injection hh with hh; exact e hh), h.at_ t]
    simp [e]
theorem goodA_snoc (l : List ByteArray) (x : ByteArray) : goodA (l ++ [x]) = (goodA l && namedD x && decide (ky x ∉ l.map ky)) := by
  unfold goodA
  rw [List.all_append, List.map_append]
  have : ((l.map ky) ++ [ky x]).Nodup ↔ (l.map ky).Nodup ∧ ky x ∉ l.map ky := by
    rw [List.nodup_append]
    simp
  simp only [List.map_cons, List.map_nil, decide_eq_decide.2 this]
  simp only [List.all_cons, List.all_nil, Bool.and_true]
  cases l.all namedD <;> cases namedD x <;> simp
theorem goodA_pre {l m : List ByteArray} (h : goodA (l ++ m) = true) : goodA l = true := by
  unfold goodA at *
  rw [List.all_append, List.map_append] at h
  simp only [Bool.and_eq_true, decide_eq_true_eq] at *
  exact ⟨h.1.1, (List.nodup_append.1 h.2).1⟩
theorem grown_of_below {w w' : World} (b : Below w.heap.size w w') : w.grownBy w' none := ⟨b.os, b.tape, b.output, b.size, fun i hi _ => b.block i hi⟩
theorem look_after {w2 w3 : World} {mb n : Nat} {D : DataW Unit} {nx : ByteArray} {v : Int} (hD : IsMap D) (h : w2.ownsMap Tryd.prog 9 (plainElem (H := Unit) Tryd.prog 3) mb n (D.put (.string nx.data.toList) (.lit (.int .i64 v)))) (b : Below w2.heap.size w2 w3)
    (hkey : keyOf Tryd.prog 9 (.string nx) = some (.string nx.data.toList)) :
    (Instr.lookup 148 (.map (some mb)) (.string nx) false).run Tryd.prog w3 = .ok (.int .i64 v) w3 ∧ w3.ownsMap Tryd.prog 9 (plainElem (H := Unit) Tryd.prog 3) mb n (D.put (.string nx.data.toList) (.lit (.int .i64 v))) := by
  have h3 := h.kept (grown_of_below b) (by simp)
  obtain ⟨c, hrun, hat, _⟩ := h3.lookup_int (t := 148) law9 Tryd.underlying148 Tryd.underlying3 (zero3 _) hkey
  rw [atKey_put_same hD (show WideAt.IsKeyLit (.string nx.data.toList) from trivial)] at hat
  injection hat with h1
  injection h1 with h2 h4
  rw [← h4] at hrun
  exact ⟨hrun, h3⟩
set_option maxHeartbeats 8000000 in
theorem check_calls (w : World) (N : Nd) (h : NdIn w N) :
    Calls Tryd.prog 67 #[N.v] w fun e w' => e = .returned (.int .i64 (checkD N.kind N.name N.data.length (N.L.map LA.name))) ∧ Below w.heap.size w w' := by
  have hfits := fun w' (b : Below w.heap.size w w') => fits_calls w' N (h.below b)
  have hA := h.attrs
  have hn := h.nam
  obtain ⟨k, nm, da, dc, data, aa, ac, L, sl, ge⟩ := N
  simp only [Nd.v, Nd.cells] at *
  obtain ⟨n, en⟩ : ∃ n, n = L.length := ⟨_, rfl⟩
  obtain ⟨m, em⟩ : ∃ m, m = data.length := ⟨_, rfl⟩
  have hl := hA.len
  rw [← en, ← em] at hfits ⊢
  rw [← en] at hl
  have HN := Lib.hid en
  have HA := Lib.hid hA
  have HF := Lib.hid hfits
  clear en em hA hfits h
  obtain ⟨c, hc⟩ : ∃ c, c = checkD k nm m (L.map LA.name) := ⟨_, rfl⟩
  rw [← hc]
  have HC := Lib.hid hc
  clear hc
  have hmm := @run_makeMap Tryd.prog
  have hb0 : Below w.heap.size w (w.alloc (.cells #[.int .i64 k, .string nm, .slice da m dc, .slice aa n ac, .int .u32 sl, .int .u32 ge] 66)) := (Below.refl _ w).alloc (Nat.le_refl _) _
  have HB0 := Lib.hid hb0
  clear hb0
  cases hfd : fitsD k nm m n with
  | false =>
    have hcc : c = 63 := by rw [HC.out]; unfold checkD; rw [List.length_map, ← HN.out, hfd]; rfl
    have HF2 := HF.out
    rw [hfd] at HF2
    have HF3 := Lib.hid HF2
    clear HF2 HF hfd
    have HCC := Lib.hid hcc
    clear hcc
    go_enter Tryd.func67, Tryd.ntmps67
    go_wp2_with (go_at_call 98; refine (HF3.out _ HB0.out).mono ?_; rintro e w1 ⟨rfl, b1⟩)
    go_ret
    exact ⟨by rw [HCC.out]; rfl, HB0.out.trans (b1.mono (by simp))⟩
  | true =>
    have HF2 := HF.out
    rw [hfd] at HF2
    have HF3 := Lib.hid HF2
    have hcd : c = if (k = 1 ∨ k = 7 ∨ k = 10) ∧ namedD nm = false then 62 else if goodA (L.map LA.name) then 0 else 62 := by rw [HC.out]; unfold checkD; rw [List.length_map, ← HN.out, hfd]; rfl
    have HCD := Lib.hid hcd
    clear HF2 HF hfd hcd
    go_enter Tryd.func67, Tryd.ntmps67
    go_wp2_with fail
    refine (HF3.out _ HB0.out).mono ?_
    rintro e w1 ⟨rfl, b1⟩
    have x0 := (b1.block w.heap.size (by simp)).trans (Go.heap_alloc_new w _)
    have c0 := cell_blk x0 0 rfl
    have c1 := cell_blk x0 1 rfl
    have l0 := lt_of_some x0
    simp at c0 c1
    have B1 := Lib.hid (HB0.out.trans (b1.mono (by simp)))
    have HX := Lib.hid x0
    clear b1 x0
    have hnm := named_calls w1 nm hn
    have HNM := Lib.hid hnm
    clear hnm
    go_upto_block 0 with fail
    go_cut [] from 9 (fun wc => ((k = 1 ∨ k = 7 ∨ k = 10) → namedD nm = true) ∧ Below w1.heap.size w1 wc)
    case first =>
      by_cases hk : k = 1 ∨ k = 7 ∨ k = 10
      · cases hnd : namedD nm with
        | true =>
          have HNM2 := HNM.out
          rw [hnd] at HNM2
          have HNM3 := Lib.hid HNM2
          have HND := Lib.hid hnd
          clear HNM2 HNM hnd
          rcases hk with rfl | rfl | rfl
          all_goals go_wp2_with (go_at_call 99; refine HNM3.out.mono ?_; rintro e w2 ⟨rfl, b2⟩)
          all_goals go_meet
          all_goals exact ⟨fun _ => HND.out, b2⟩
        | false =>
          have HNM2 := HNM.out
          rw [hnd] at HNM2
          have HNM3 := Lib.hid HNM2
          have hcc : c = 62 := by rw [HCD.out, if_pos ⟨hk, hnd⟩]
          have HCC := Lib.hid hcc
          clear HNM2 HNM hnd hcc
          rcases hk with rfl | rfl | rfl
          all_goals go_wp2_with (go_at_call 99; refine HNM3.out.mono ?_; rintro e w2 ⟨rfl, b2⟩)
          all_goals go_ret
          all_goals exact ⟨by rw [HCC.out]; rfl, B1.out.trans (b2.mono (by omega))⟩
      · have e1 : (k == 1) = false := by simp; omega
        have e2 : (k == 7) = false := by simp; omega
        have e3 : (k == 10) = false := by simp; omega
        have HK := Lib.hid hk
        clear hk
        go_wp2
        go_meet
        exact ⟨fun h => absurd h HK.out, Below.refl _ _⟩
    case rest =>
      obtain ⟨hknm, bc⟩ := hcut
      have hs1 : w.heap.size < w1.heap.size := lt_of_some HX.out
      have hsc := bc.size
      have x0 := (bc.block _ hs1).trans HX.out
      have BC := Lib.hid (B1.out.trans (bc.mono (by omega)))
      have c3 := cell_blk x0 3 rfl
      have l0 := lt_of_some x0
      simp at c3
      have HKN := Lib.hid hknm
      clear c0 c1 HX HNM hknm x0 bc
      go_wp2_with fail
      obtain ⟨mb, hmb⟩ : ∃ mb, mb = wc.heap.size := ⟨_, rfl⟩
      have hm0 : (wc.alloc (.map #[] 0)).ownsMap Tryd.prog 9 (plainElem (H := Unit) Tryd.prog 3) mb 0 (.map []) := by rw [hmb]; exact World.ownsMap_made _ _ _ _
      rw [← hmb]
      have hbm : Below wc.heap.size wc (wc.alloc (.map #[] 0)) := (Below.refl _ _).alloc (Nat.le_refl _) _
      have HM0 := Lib.hid (And.intro hm0 hbm)
      have HMB := Lib.hid hmb
      clear hm0 hbm hmb c3
      go_loopw [23] (fun v wr => ∃ (i : Nat) (D : DataW Unit), v = .int .i64 (i : Nat) ∧ i ≤ n ∧ wr.ownsMap Tryd.prog 9 (plainElem (H := Unit) Tryd.prog 3) mb i D ∧ SeenOk D ((L.take i).map fun x => ky x.name) ∧ goodA ((L.take i).map LA.name) = true ∧ Below wc.heap.size wc wr) (fun v _ => n - (intOf v).toNat)
      case atStart => exact ⟨0, .map [], rfl, Nat.zero_le _, HM0.out.1, ⟨isMap_empty, fun s => by simp [DataW.atKey]⟩, by simp [goodA], HM0.out.2⟩
      case round =>
        obtain ⟨i, D, rfl, hi, hown, hseen, hgood, hbel⟩ := hrel
        have hbw : Below w.heap.size w wr := BC.out.trans (hbel.mono (by omega))
        by_cases hlt : i < n
        · obtain ⟨x, hx⟩ : ∃ x, L[i]? = some x := ⟨_, List.getElem?_eq_getElem (by rw [← HN.out]; exact hlt)⟩
          obtain ⟨bb, off, rfl, hbl, c1, c2⟩ := (HA.out.below hbw).get hx
          have p1 : (i : Int) < (n : Int) := by omega
          have p2 : (0 : Int) ≤ (i : Int) := by omega
          obtain ⟨nx, hnx⟩ : ∃ nx, nx = x.name := ⟨_, rfl⟩
          obtain ⟨xl, hxl⟩ : ∃ xl, xl = x.val.length := ⟨_, rfl⟩
          have hnz : nx.size ≤ 9223372036854775807 := by rw [hnx]; exact HA.out.nam x (List.mem_of_getElem? hx)
          rw [← hnx] at c1
          rw [← hxl] at c2
          have hkey : keyOf Tryd.prog 9 (.string nx) = some (.string nx.data.toList) := Go.WideMaps.keyOf_string_mk Tryd.underlying9 (by unfold maxLen; omega)
          obtain ⟨q, hq⟩ : ∃ q : Int, q = if nx.data.toList ∈ (L.take i).map (fun x => ky x.name) then 1 else 0 := ⟨_, rfl⟩
          have hq01 : q = 0 ∨ q = 1 := by rw [hq]; split <;> simp
          have hml : mb < wr.heap.size := hown.lt
          have hownW := hown.kept (World.grownBy_alloc wr (.cells #[.string nx, .slice x.va xl x.vc] 114) none) (by simp)
          obtain ⟨c', hrun, hat, _⟩ := hownW.lookup_int (t := 148) law9 Tryd.underlying148 Tryd.underlying3 (zero3 _) hkey
          obtain rfl : c' = q := by
            rw [hseen.at_ nx.data.toList, ← hq] at hat
            injection hat with h1
            injection h1 with h2 h3
            exact h3.symm
          have q1 : IntKind.i64.wrap (c' + 1) = c' + 1 := IntWalk.i64_in _ (by omega)
          have HH := Lib.hid (And.intro hseen (And.intro hgood (And.intro hbel (And.intro hx hq))))
          have HNX := Lib.hid hnx
          have HKEY := Lib.hid hkey
          have HOW := Lib.hid hownW
          have hsr : wc.heap.size ≤ wr.heap.size := hbel.size
          clear hseen hgood hbel hx hq hown hownW hat hnx hxl hkey
          have HQ : Hid (∀ w2, (wr.alloc (.cells #[.string nx, .slice x.va xl x.vc] 114)).grownBy w2 (some mb) → w2.cell? ⟨wr.heap.size, 0, none⟩ = some (.string nx) ∧ wr.heap.size < w2.heap.size ∧ Below wc.heap.size wc w2) := Lib.hid (fun w2 hg => by
            have h1 := grown_blk hg (Go.heap_alloc_new wr (.cells #[.string nx, .slice x.va xl x.vc] 114)) (by intro e; injection e with e; omega)
            have h2 := cell_blk h1 0 rfl
            refine ⟨h2, lt_of_some h1, ?_⟩
            exact (HH.out.2.2.1.alloc hsr _).grown hg (by simp; omega) (fun r e => by cases e; rw [HMB.out]; exact Nat.le_refl _))
          cases hnd : namedD nx with
          | false =>
            have hcc : c = 62 := by
              rw [HCD.out]
              have : goodA (L.map LA.name) = false := by
                have hm : nx ∈ L.map LA.name := List.mem_map.2 ⟨x, List.mem_of_getElem? HH.out.2.2.2.1, HNX.out.symm⟩
                unfold goodA
                have : (L.map LA.name).all namedD = false := by
                  rw [List.all_eq_false]
                  exact ⟨nx, hm, by simp [hnd]⟩
                rw [this]; rfl
              rw [this]; simp
            have HCC := Lib.hid hcc
            have HND := Lib.hid hnd
            clear hcc hnd
            go_wp2_with (first | (at_mapUpdate; refine wpList_mapUpdate_own _ rfl _ _ _ 148 rfl 9 3 law9 Tryd.underlying148 (plainElem (H := Unit) Tryd.prog 3) mb i D rfl HOW.out (by unfold maxLen; omega) _ _ _ rfl rfl HKEY.out _ [] (plainElem_int Tryd.underlying3 (WalkArith.wf_i64 (by omega))) ?_; intro w2 hown2 hgrow2; obtain ⟨e0, e1, e2⟩ := HQ.out w2 hgrow2; clear hown2 hgrow2) | (go_at_call 99; refine (named_calls _ nx hnz).mono ?_; rw [HND.out]; rintro e w3 ⟨rfl, b3⟩))
            go_ret
            exact ⟨by rw [HCC.out]; rfl, (BC.out.trans (e2.mono (by omega))).trans (b3.mono (by omega))⟩
          | true =>
            have HND := Lib.hid hnd
            clear hnd
            by_cases hin : nx.data.toList ∈ (L.take i).map (fun x => ky x.name)
            · have hq1 : c' = 1 := by rw [HH.out.2.2.2.2, if_pos hin]
              subst hq1
              have hcc : c = 62 := by
                rw [HCD.out]
                have : goodA (L.map LA.name) = false := by
                  cases hg : goodA (L.map LA.name) with
                  | false => rfl
                  | true =>
                    have e : L.map LA.name = ((L.take (i + 1)).map LA.name) ++ (L.drop (i + 1)).map LA.name := by rw [← List.map_append, List.take_append_drop]
                    rw [e] at hg
                    have h1 := goodA_pre hg
                    rw [List.take_add_one, HH.out.2.2.2.1] at h1
                    simp only [Option.toList_some, List.map_append, List.map_cons, List.map_nil] at h1
                    rw [goodA_snoc] at h1
                    simp only [Bool.and_eq_true, decide_eq_true_eq] at h1
                    refine absurd ?_ h1.2
                    rw [List.map_map, ← HNX.out]
                    exact hin
                rw [this]; simp
              have HCC := Lib.hid hcc
              clear hcc hin
              go_wp2_with (first | (at_mapUpdate; refine wpList_mapUpdate_own _ rfl _ _ _ 148 rfl 9 3 law9 Tryd.underlying148 (plainElem (H := Unit) Tryd.prog 3) mb i D rfl HOW.out (by unfold maxLen; omega) _ _ _ rfl rfl HKEY.out _ [] (plainElem_int Tryd.underlying3 (WalkArith.wf_i64 (by omega))) ?_; intro w2 hown2 hgrow2; obtain ⟨e0, e1, e2⟩ := HQ.out w2 hgrow2; have HO2 := Lib.hid hown2; clear hown2 hgrow2) | (go_at_call 99; refine (named_calls _ nx hnz).mono ?_; rw [HND.out]; rintro e w3 ⟨rfl, b3⟩; obtain ⟨hrun3, hown3⟩ := look_after HH.out.1.map HO2.out b3 HKEY.out; have e3 := (b3.cell (p := ⟨wr.heap.size, 0, none⟩) e1).trans e0; have e4 := Nat.lt_of_lt_of_le e1 b3.size))
              go_ret
              exact ⟨by rw [HCC.out]; rfl, (BC.out.trans (e2.mono (by omega))).trans (b3.mono (by omega))⟩
            · have hq1 : c' = 0 := by rw [HH.out.2.2.2.2, if_neg hin]
              subst hq1
              have HIN := Lib.hid hin
              clear hin
              go_wp2_with (first | (at_mapUpdate; refine wpList_mapUpdate_own _ rfl _ _ _ 148 rfl 9 3 law9 Tryd.underlying148 (plainElem (H := Unit) Tryd.prog 3) mb i D rfl HOW.out (by unfold maxLen; omega) _ _ _ rfl rfl HKEY.out _ [] (plainElem_int Tryd.underlying3 (WalkArith.wf_i64 (by omega))) ?_; intro w2 hown2 hgrow2; obtain ⟨e0, e1, e2⟩ := HQ.out w2 hgrow2; have HO2 := Lib.hid hown2; clear hown2 hgrow2) | (go_at_call 99; refine (named_calls _ nx hnz).mono ?_; rw [HND.out]; rintro e w3 ⟨rfl, b3⟩; obtain ⟨hrun3, hown3⟩ := look_after HH.out.1.map HO2.out b3 HKEY.out; have e3 := (b3.cell (p := ⟨wr.heap.size, 0, none⟩) e1).trans e0; have e4 := Nat.lt_of_lt_of_le e1 b3.size; have HO3 := Lib.hid hown3; clear hown3))
              go_roundw
              case rel =>
                have hnm : (List.take (i + 1) L).map (fun x => ky x.name) = (List.take i L).map (fun x => ky x.name) ++ [nx.data.toList] := by
                  rw [List.take_add_one, HH.out.2.2.2.1, HNX.out]; simp
                refine ⟨i + 1, _, by go_num, hlt, HO3.out, by rw [hnm]; exact seen_next HH.out.1 HIN.out, ?_, e2.trans (b3.mono (by omega))⟩
                rw [List.take_add_one, HH.out.2.2.2.1]
                simp only [Option.toList_some, List.map_append, List.map_cons, List.map_nil]
                rw [goodA_snoc, HH.out.2.1, ← HNX.out, HND.out]
                simp only [Bool.true_and, decide_eq_true_eq]
                rw [List.map_map]
                exact HIN.out
              case measure => simp [intOf]; omega
        · obtain rfl : i = n := by omega
          have p1 : ¬ (i : Int) < (i : Int) := by omega
          have hcc : c = 0 := by
            rw [List.take_of_length_le (by rw [HN.out]; exact Nat.le_refl _)] at hgood
            rw [HCD.out, if_neg, hgood]; · rfl
            rintro ⟨h1, h2⟩
            rw [HKN.out h1] at h2
            cases h2
          have HCC := Lib.hid hcc
          clear hcc hown hseen hgood hlt
          go_wp2_with fail
          go_ret
          exact ⟨by rw [HCC.out]; rfl, BC.out.trans (hbel.mono (by omega))⟩
end Go.Proofs.YtelhnaphkbpakaaDoor
namespace Go.Proofs.YtelhnaphkbpakaaDoor
set_option linter.unusedVariables false
theorem perm_of_sub {α : Type} : ∀ {A B : List α}, A.Nodup → A.length = B.length → (∀ x ∈ A, x ∈ B) → A.Perm B := by
  intro A
  induction A with
  | nil => intro B _ hl _; rw [List.eq_nil_of_length_eq_zero hl.symm]
  | cons x A ih =>
    intro B hn hl hs
    obtain ⟨p, q, e⟩ := List.append_of_mem (hs x (by simp))
    subst e
    have h1 : A.Perm (p ++ q) := ih (List.nodup_cons.1 hn).2 (by simp at hl ⊢; omega) (fun y hy => by
      have h2 := hs y (List.mem_cons_of_mem _ hy)
      have hne : y ≠ x := fun e => (List.nodup_cons.1 hn).1 (e ▸ hy)
      rcases List.mem_append.1 h2 with h2 | h2
      · exact List.mem_append_left _ h2
      · exact List.mem_append_right _ ((List.mem_cons.1 h2).resolve_left hne))
    exact (h1.cons x).trans List.perm_middle.symm
theorem nodup_of_map {α β : Type} {f : α → β} : ∀ {l : List α}, (l.map f).Nodup → l.Nodup := by
  intro l
  induction l with
  | nil => intro _; exact List.nodup_nil
  | cons x l ih =>
    intro h
    rw [List.map_cons, List.nodup_cons] at h
    exact List.nodup_cons.2 ⟨fun hm => h.1 (List.mem_map.2 ⟨x, hm, rfl⟩), ih h.2⟩
def LikeA (A B : List (ByteArray × List Nat)) : Prop := A.length = B.length ∧ ∀ x ∈ A, x ∈ B
theorem likeA_perm {A B : List (ByteArray × List Nat)} (hA : goodA (A.map Prod.fst) = true) : LikeA A B ↔ A.Perm B := by
  unfold goodA at hA
  simp only [Bool.and_eq_true, decide_eq_true_eq] at hA
  have hn := nodup_of_map (nodup_of_map hA.2)
  exact ⟨fun h => perm_of_sub hn h.1 h.2, fun h => ⟨h.length_eq, fun x hx => h.mem_iff.1 hx⟩⟩
theorem good_of_check {k : Int} {nm : ByteArray} {dl : Nat} {names : List ByteArray} (h : checkD k nm dl names = 0) : goodA names = true := by
  unfold checkD at h
  split at h
  · cases h
  · split at h
    · cases h
    · split at h
      · assumption
      · cases h
end Go.Proofs.YtelhnaphkbpakaaDoor
namespace Go.Proofs.YtelhnaphkbpakaaDoor
open Go.RowKit
set_option linter.unusedVariables false
set_option maxRecDepth 100000
theorem c16_neg (a b : List Nat) : cmp16 a b = -cmp16 b a := by
  induction a generalizing b with
  | nil => cases b <;> rfl
  | cons x xs ih =>
    cases b with
    | nil => rfl
    | cons y ys =>
      simp only [cmp16]
      by_cases h : x = y
      · rw [if_pos h, if_pos h.symm]; exact ih ys
      · rw [if_neg h, if_neg (Ne.symm h)]
        by_cases h1 : x < y
        · rw [if_pos h1, if_neg (by omega)]
        · rw [if_neg h1, if_pos (by omega)]; rfl
theorem c16_trans {a b c : List Nat} (h1 : cmp16 a b ≤ 0) (h2 : cmp16 b c ≤ 0) : cmp16 a c ≤ 0 := by
  induction a generalizing b c with
  | nil => cases c <;> simp [cmp16]
  | cons x xs ih =>
    cases b with
    | nil => simp [cmp16] at h1
    | cons y ys =>
      cases c with
      | nil => simp [cmp16] at h2
      | cons z zs =>
        simp only [cmp16] at h1 h2 ⊢
        by_cases e1 : x = y
        · subst e1
          rw [if_pos rfl] at h1
          by_cases e2 : x = z
          · subst e2
            rw [if_pos rfl] at h2 ⊢
            exact ih h1 h2
          · rw [if_neg e2] at h2 ⊢
            exact h2
        · rw [if_neg e1] at h1
          have l1 : x < y := by
            by_cases k : x < y
            · exact k
            · rw [if_neg k] at h1; omega
          by_cases e2 : y = z
          · subst e2
            rw [if_neg e1, if_pos l1]; decide
          · rw [if_neg e2] at h2
            have l2 : y < z := by
              by_cases k : y < z
              · exact k
              · rw [if_neg k] at h2; omega
            rw [if_neg (by omega), if_pos (by omega)]; decide
def byN (s : ByteArray) : List Nat := s.data.toList.map UInt8.toNat
theorem byN_inj {a b : ByteArray} (h : byN a = byN b) : a = b := by
  cases a; cases b; congr 1
  refine Array.toList_inj.1 ?_
  exact (List.map_inj_right (fun x y e => UInt8.toNat_inj.1 e)).1 h
theorem cb_eq (a b : List UInt8) : Lib.compareBytes a b = cmp16 (a.map UInt8.toNat) (b.map UInt8.toNat) := by
  induction a generalizing b with
  | nil => cases b <;> rfl
  | cons x xs ih =>
    cases b with
    | nil => rfl
    | cons y ys =>
      simp only [Lib.compareBytes, List.map_cons, cmp16]
      by_cases h : x = y
      · subst h
        rw [if_neg (UInt8.lt_irrefl x), if_neg (UInt8.lt_irrefl x), if_pos rfl]; exact ih ys
      · have hn : x.toNat ≠ y.toNat := fun e => h (UInt8.toNat_inj.1 e)
        rw [if_neg hn]
        by_cases h1 : x < y
        · rw [if_pos h1, if_pos (UInt8.lt_iff_toNat_lt.1 h1)]
        · have h2 : ¬ x.toNat < y.toNat := fun k => h1 (UInt8.lt_iff_toNat_lt.2 k)
          have h3 : y < x := UInt8.lt_iff_toNat_lt.2 (by omega)
          rw [if_neg h1, if_pos h3, if_neg h2]
def cmpA (x y : ByteArray × List Nat) : Int := if cmp16 (byN x.1) (byN y.1) ≠ 0 then cmp16 (byN x.1) (byN y.1) else cmp16 x.2 y.2
theorem cmpA_neg (x y : ByteArray × List Nat) : cmpA x y = -cmpA y x := by
  unfold cmpA
  have h1 := c16_neg (byN x.1) (byN y.1)
  have h2 := c16_neg x.2 y.2
  by_cases h : cmp16 (byN y.1) (byN x.1) = 0
  · rw [if_neg (by omega), if_neg (by omega)]; exact h2
  · rw [if_pos (by omega), if_pos h]; exact h1
theorem cmpA_zero {x y : ByteArray × List Nat} : cmpA x y = 0 ↔ x = y := by
  unfold cmpA
  constructor
  · intro h
    split at h
    · rename_i k; exact absurd h k
    · rename_i k
      have e1 := byN_inj (cmp16_zero.1 (Decidable.not_not.1 k))
      exact Prod.ext e1 (cmp16_zero.1 h)
  · rintro rfl
    rw [if_neg (by rw [cmp16_zero.2 rfl]; simp), cmp16_zero.2 rfl]
theorem cmpA_trans {x y z : ByteArray × List Nat} (h1 : cmpA x y ≤ 0) (h2 : cmpA y z ≤ 0) : cmpA x z ≤ 0 := by
  unfold cmpA at *
  have t := c16_trans (a := byN x.1) (b := byN y.1) (c := byN z.1)
  have n1 := c16_neg (byN x.1) (byN y.1)
  have n2 := c16_neg (byN y.1) (byN z.1)
  have n3 := c16_neg (byN x.1) (byN z.1)
  have t' := c16_trans (a := byN z.1) (b := byN y.1) (c := byN x.1)
  have tl := c16_trans (a := byN z.1) (b := byN x.1) (c := byN y.1)
  have tr := c16_trans (a := byN y.1) (b := byN z.1) (c := byN x.1)
  split at h1
  · split at h2
    · split
      · exact t h1 h2
      · rename_i a b c
        have e : cmp16 (byN x.1) (byN z.1) = 0 := Decidable.not_not.1 c
        have e' := cmp16_zero.1 e
        rw [← e'] at h2
        omega
    · rename_i a b
      have e := cmp16_zero.1 (Decidable.not_not.1 b)
      rw [← e, if_pos a]; exact h1
  · rename_i a
    have e := cmp16_zero.1 (Decidable.not_not.1 a)
    rw [e]
    split at h2
    · rename_i b; rw [if_pos b]; exact h2
    · rename_i b; rw [if_neg b]; exact c16_trans h1 h2
theorem info114 : (Tryd.prog.info? 114).map (fun i => (i.zero, i.size, i.bytes)) = some (some (.agg #[.string ⟨#[]⟩, .slice none 0 0]), 2, 40) := by kernel_rfl
def Cl (w : World) (a : Addr) : Value := (w.cell? a).getD (.bool false)
theorem cl_of {w : World} {a : Addr} {v : Value} (h : w.cell? a = some v) : w.cell? a = some (Cl w a) := by unfold Cl; rw [h]; rfl
theorem cl_set {w : World} {p : Addr} {x : Value} (a : Addr) (v : Value) (h : w.cell? p = some x) : (w.setCell a v).cell? p = some (Cl (w.setCell a v) p) := by
  obtain ⟨y, hy⟩ := cell?_setCell_some (w := w) (p := a) (x := v) (q := p) (v := x) h
  exact cl_of hy
theorem set2_far {w : World} {g b : Nat} (hne : b ≠ g) (i j k : Nat) (u v : Value) : ((w.setCell ⟨g, i, none⟩ u).setCell ⟨g, j, none⟩ v).cell? ⟨b, k, none⟩ = w.cell? ⟨b, k, none⟩ :=
  (World.cell?_setCell_other _ _ _ _ (fun e => hne (congrArg Addr.block e).symm)).trans (World.cell?_setCell_other _ _ _ _ (fun e => hne (congrArg Addr.block e).symm))
theorem take_two {xs : List Value} {i : Nat} (h : i * 2 + 1 < xs.length) (a b : Value) : ((xs.set (i * 2) a).set (i * 2 + 1) b).take ((i + 1) * 2) = xs.take (i * 2) ++ [a, b] := by
  apply List.ext_getElem?
  intro j
  rw [List.getElem?_take, List.getElem?_append, List.length_take, Nat.min_eq_left (by omega)]
  by_cases h1 : j < i * 2
  · rw [if_pos (by omega), if_pos h1, List.getElem?_set_ne (by omega), List.getElem?_set_ne (by omega), List.getElem?_take, if_pos h1]
  · rw [if_neg h1]
    by_cases h2 : j = i * 2
    · subst h2
      rw [if_pos (by omega), List.getElem?_set_ne (by omega), List.getElem?_set_self (by omega)]
      simp
    · by_cases h3 : j = i * 2 + 1
      · subst h3
        rw [if_pos (by omega), List.getElem?_set_self (by rw [List.length_set]; exact h)]
        simp
      · rw [if_neg (by omega)]
        obtain ⟨r, hr⟩ : ∃ r, j - i * 2 = r + 2 := ⟨j - i * 2 - 2, by omega⟩
        rw [hr]
        simp
theorem six_cells {w : World} {b : Nat} {u0 u1 u2 u3 u4 u5 : Value} {e : TypeId} (hb : w.heap[b]? = some (.cells #[u0, u1, u2, u3, u4, u5] e (0, 0))) (v0 v1 v2 v3 v4 v5 : Value) :
    ((((((w.setCell ⟨b, 0, none⟩ v0).setCell ⟨b, 1, none⟩ v1).setCell ⟨b, 2, none⟩ v2).setCell ⟨b, 3, none⟩ v3).setCell ⟨b, 4, none⟩ v4).setCell ⟨b, 5, none⟩ v5).heap[b]? = some (.cells #[v0, v1, v2, v3, v4, v5] e (0, 0)) ∧
    FrT [e] b w ((((((w.setCell ⟨b, 0, none⟩ v0).setCell ⟨b, 1, none⟩ v1).setCell ⟨b, 2, none⟩ v2).setCell ⟨b, 3, none⟩ v3).setCell ⟨b, 4, none⟩ v4).setCell ⟨b, 5, none⟩ v5) := by
  have h0 := set_blk hb 0 v0
  have h1 := set_blk h0 1 v1
  have h2 := set_blk h1 2 v2
  have h3 := set_blk h2 3 v3
  have h4 := set_blk h3 4 v4
  have h5 := set_blk h4 5 v5
  exact ⟨h5, ((((((FrT.refl _ _ _).set (a := ⟨b, 0, none⟩) (Nat.le_refl _) hb (by simp) _).set (a := ⟨b, 1, none⟩) (Nat.le_refl _) h0 (by simp) _).set (a := ⟨b, 2, none⟩) (Nat.le_refl _) h1 (by simp) _).set (a := ⟨b, 3, none⟩) (Nat.le_refl _) h2 (by simp) _).set (a := ⟨b, 4, none⟩) (Nat.le_refl _) h3 (by simp) _).set (a := ⟨b, 5, none⟩) (Nat.le_refl _) h4 (by simp) _⟩
set_option maxHeartbeats 4000000 in
theorem clone_calls (w : World) (N : Nd) (h : NdIn w N) (hB : N.Bd 1099511627776) :
    Calls Tryd.prog 69 #[N.v] w fun e w' => ∃ M : Nd, e = .returned M.v ∧ M.Same N ∧ Fresh w.heap.size w' M ∧ Below w.heap.size w w' := by
  obtain ⟨k, nm, da, dc, data, aa, ac, L, sl, ge⟩ := N
  obtain ⟨hd, ha, hn, hcap⟩ := h
  clear hcap
  obtain ⟨hb1, hb2, hb3⟩ := hB
  simp only [Nd.v, Nd.cells] at *
  obtain ⟨n, en⟩ : ∃ n, n = L.length := ⟨_, rfl⟩
  obtain ⟨m, em⟩ : ∃ m, m = data.length := ⟨_, rfl⟩
  rw [← en] at hb2 ⊢
  rw [← em] at hb1 ⊢
  have HN := Lib.hid en
  have HM := Lib.hid em
  have HD := Lib.hid hd
  have HA := Lib.hid ha
  clear en em hd ha
  go_enter Tryd.func69, Tryd.ntmps69
  go_wp2_with fail
  obtain ⟨P, hP⟩ : ∃ P, P = (w.alloc (.cells #[.int .i64 k, .string nm, .slice da m dc, .slice aa n ac, .int .u32 sl, .int .u32 ge] 66)).alloc (.cells #[.int .i64 0, .string ⟨#[]⟩, .slice none 0 0, .slice none 0 0, .int .u32 0, .int .u32 0] 66) := ⟨_, rfl⟩
  have hPb : Below w.heap.size w P := by rw [hP]; exact ((Below.refl _ w).alloc (Nat.le_refl _) _).alloc (by simp) _
  have hPs : P.heap.size = w.heap.size + 2 := by rw [hP]; simp
  have x0 : P.heap[w.heap.size]? = some (.cells #[.int .i64 k, .string nm, .slice da m dc, .slice aa n ac, .int .u32 sl, .int .u32 ge] 66 (0, 0)) := by rw [hP]; exact alloc_blk (Go.heap_alloc_new w _) _
  have x1 : P.heap[w.heap.size + 1]? = some (.cells #[.int .i64 0, .string ⟨#[]⟩, .slice none 0 0, .slice none 0 0, .int .u32 0, .int .u32 0] 66 (0, 0)) := by
    rw [hP]; have := Go.heap_alloc_new (w.alloc (.cells #[.int .i64 k, .string nm, .slice da m dc, .slice aa n ac, .int .u32 sl, .int .u32 ge] 66)) (.cells #[.int .i64 0, .string ⟨#[]⟩, .slice none 0 0, .slice none 0 0, .int .u32 0, .int .u32 0] 66); rwa [World.size_alloc] at this
  rw [← hP]
  rw [HM.out]
  refine (own_calls P dc (HD.out.below hPb) (by rw [← HM.out]; omega)).mono ?_
  rw [← HM.out]
  rintro e w1 ⟨a1, rfl, hc1, b1⟩
  have X0 := Lib.hid ((b1.block _ (by omega)).trans x0)
  have X1 := Lib.hid ((b1.block _ (by omega)).trans x1)
  have B1 := Lib.hid (hPb.trans (b1.mono (by omega)))
  have HC1 := Lib.hid hc1
  have hs1 := b1.size
  have hw1 : w.heap.size + 2 ≤ w1.heap.size := by omega
  have c0 := fun j u (h : (#[Value.int .i64 k, .string nm, .slice da m dc, .slice aa n ac, .int .u32 sl, .int .u32 ge] : Array Value)[j]? = some u) => cell_blk X0.out j h
  have c02 := c0 2 _ rfl
  have c03 := c0 3 _ rfl
  have f02 := free_blk X0.out 2
  have l0 : w.heap.size < w1.heap.size := by omega
  simp at c02 c03
  clear c0 hP hPb x0 x1 b1 hc1
  obtain ⟨i72, hi72, ia1, ia2, ia3⟩ := info_parts info114
  obtain ⟨Q, hQ⟩ : ∃ Q, Q = w1.setCell ⟨w.heap.size, 2, none⟩ (.slice a1 m m) := ⟨_, rfl⟩
  have y0 : Q.heap[w.heap.size]? = some (.cells #[.int .i64 k, .string nm, .slice a1 m m, .slice aa n ac, .int .u32 sl, .int .u32 ge] 66 (0, 0)) := by rw [hQ]; exact set_blk X0.out 2 _
  have y1 : Q.heap[w.heap.size + 1]? = some (.cells #[.int .i64 0, .string ⟨#[]⟩, .slice none 0 0, .slice none 0 0, .int .u32 0, .int .u32 0] 66 (0, 0)) := by rw [hQ]; exact set_other X1.out (by simp) _
  have hQb : Below w.heap.size w Q := by rw [hQ]; exact B1.out.setCell (by simp) _
  have hQs : Q.heap.size = w1.heap.size := by rw [hQ]; simp
  have hQc : Clip16 w.heap.size Q a1 data := by
    rw [hQ]
    obtain ⟨cap, hr⟩ := HC1.out.row
    exact ⟨⟨cap, (rwOther hr X0.out (by decide) 2 _).mono (by omega)⟩, HC1.out.bnd, HC1.out.len⟩
  have Y0 := Lib.hid y0
  have Y1 := Lib.hid y1
  have BQ := Lib.hid hQb
  have HCQ := Lib.hid hQc
  clear y0 y1 hQb hQc
  go_wp2_with (at_make; refine wpList_make_full _ rfl _ _ 64 rfl w.heap.size 114 i72 _ 2 Tryd.underlying64 hi72 ia1 ia2 .i64 .i64 _ _ n rfl rfl rfl rfl (by rw [ia3]; omega) (by unfold maxLen; omega) (by rw [World.size_setCell]; omega) ?_)
  intro w2 hrow hgrow
  rw [← hQ] at hgrow
  have hs2 : w1.heap.size ≤ w2.heap.size := by rw [← hQs]; exact hgrow.size
  have b2 : Below Q.heap.size Q w2 := grown_below hgrow (fun x h => by cases h) (Nat.le_refl _)
  have X0 := Lib.hid ((b2.block _ (lt_of_some Y0.out)).trans Y0.out)
  have X1 := Lib.hid ((b2.block _ (lt_of_some Y1.out)).trans Y1.out)
  have B2 := Lib.hid (BQ.out.trans (b2.mono (by omega)))
  have HC2 := Lib.hid (HCQ.out.below b2)
  have c03 := cell_blk X0.out 3 rfl
  have l0 : w.heap.size < w2.heap.size := by omega
  simp at c03
  have HG : Hid (∀ x, (Value.slice (some ⟨w1.heap.size, 0, none⟩) n n).ownBlock = some x → w.heap.size + 2 ≤ x ∧ x < w2.heap.size) := Lib.hid (fun x hx => by have := hrow.lt x hx; have e : w1.heap.size = x := Option.some.inj hx; omega)
  have HROW := Lib.hid hrow
  clear hrow hgrow b2 hQ Y0 Y1 HCQ B1 c02 f02
  go_wp2_with fail
  go_loopw [17] (fun v wr => ∃ (i : Nat) (K : List LA) (xs : List Value), v = .int .i64 (i : Nat) ∧ i ≤ n ∧ K.length = i ∧ K.map attrOf = (L.take i).map attrOf ∧ xs.take (i * 2) = cellsA K ∧ wr.ownsRow w.heap.size 114 2 (.slice (some ⟨w1.heap.size, 0, none⟩) n n) n xs ∧ (∀ x ∈ K, Clip16 w.heap.size wr x.va x.val ∧ x.vc = x.val.length) ∧ FrT [114] w1.heap.size w2 wr) (fun v _ => n - (intOf v).toNat)
  case atStart => exact ⟨0, [], _, rfl, Nat.zero_le _, rfl, rfl, rfl, HROW.out, by simp, FrT.refl _ _ _⟩
  case round =>
    obtain ⟨i, K, xs, rfl, hi, hKl, hKm, hxs, hrow, hcl, hfr⟩ := hrel
    have hwr := hfr.size
    by_cases hlt : i < n
    · obtain ⟨x, hx⟩ : ∃ x, L[i]? = some x := ⟨_, List.getElem?_eq_getElem (by rw [← HN.out]; exact hlt)⟩
      have hbel : Below w.heap.size w wr := B2.out.trans ((hfr.below hs2).mono (by omega))
      obtain ⟨b, off, rfl, hbl, c1, c2⟩ := (HA.out.below hbel).get hx
      have p1 : (i : Int) < (n : Int) := by omega
      have p2 : (0 : Int) ≤ (i : Int) := by omega
      have hxv := (HA.out.below hbel).val x (List.mem_of_getElem? hx)
      have hxl := hb3 x (List.mem_of_getElem? hx)
      have HR := Lib.hid (And.intro hKl (And.intro hKm (And.intro hxs (And.intro hrow (And.intro hcl (And.intro hfr hx))))))
      have HXV := Lib.hid hxv
      clear hKl hKm hxs hrow hcl hfr hx hxv
      obtain ⟨xl, exl⟩ : ∃ xl, xl = x.val.length := ⟨_, rfl⟩
      rw [← exl] at hxl c2
      have HXL := Lib.hid exl
      clear exl
      go_wp2_with fail
      have hW0 : (wr.alloc (.cells #[.string x.name, .slice x.va xl x.vc] 114)).drew.heap[wr.heap.size]? = some (.cells #[.string x.name, .slice x.va xl x.vc] 114 (0, 0)) := Go.heap_alloc_new wr _
      obtain ⟨W, hW⟩ : ∃ W, W = (wr.alloc (.cells #[.string x.name, .slice x.va xl x.vc] 114)).drew := ⟨_, rfl⟩
      have hfW : FrT [114] w1.heap.size wr W := by rw [hW]; exact ((FrT.refl _ _ _).alloc _).drew
      have hWs : W.heap.size = wr.heap.size + 1 := by rw [hW]; simp
      rw [← hW] at hW0
      have hz0 := cell_blk hW0 0 rfl
      have hz1 := cell_blk hW0 1 rfl
      have hbW : Below wr.heap.size wr W := by rw [hW]; exact ((Below.refl _ wr).alloc (Nat.le_refl _) _).drew
      have hown := own_calls W x.vc (HXV.out.below hbW) (by rw [← HXL.out]; exact hxl)
      rw [← HXL.out] at hown
      have HOWN := Lib.hid hown
      have hrW : W.ownsRow w.heap.size 114 2 (.slice (some ⟨w1.heap.size, 0, none⟩) n n) n xs := row_below HR.out.2.2.2.1 hbW
      obtain ⟨u0, hu0⟩ : ∃ u, xs[i * 2]? = some u := ⟨_, List.getElem?_eq_getElem (by have := hrW.1; omega)⟩
      obtain ⟨u1, hu1⟩ : ∃ u, xs[i * 2 + 1]? = some u := ⟨_, List.getElem?_eq_getElem (by have := hrW.1; omega)⟩
      have hd0 := cl_of ((hrW.cellAt (i * 2) (by omega)).trans hu0)
      have hd1 := cl_of ((hrW.cellAt (i * 2 + 1) (by omega)).trans hu1)
      have he0 := hrW.frozenAt (i * 2)
      have he1 := hrW.frozenAt (i * 2 + 1)
      have HZ := Lib.hid (And.intro hz0 (And.intro hz1 (And.intro hd0 (And.intro hd1 (And.intro he0 he1)))))
      have HRW := Lib.hid hrW
      have HW := Lib.hid (And.intro hW (And.intro hfW hbW))
      have lW : wr.heap.size < W.heap.size := by omega
      have lW1 : w1.heap.size < W.heap.size := by omega
      clear hown hz0 hz1 hW0 hfW hbW hrW hu0 hu1 hd0 hd1 he0 he1
      have hne : wr.heap.size ≠ w1.heap.size := by have := HG.out w1.heap.size rfl; omega
      have hS0 := HZ.out
      rw [hW] at hS0
      obtain ⟨s0, s1, s2, s3, s4, s5⟩ := hS0
      go_region_held3 (fun w' => w'.cell? ⟨wr.heap.size, 0, none⟩ = some (.string x.name) ∧ w'.cell? ⟨wr.heap.size, 1, none⟩ = some (.slice x.va xl x.vc) ∧ w'.cell? ⟨w1.heap.size, i * 2, none⟩ = some (Cl w' ⟨w1.heap.size, i * 2, none⟩) ∧ w'.cell? ⟨w1.heap.size, i * 2 + 1, none⟩ = some (Cl w' ⟨w1.heap.size, i * 2 + 1, none⟩) ∧ w'.frozen? ⟨w1.heap.size, i * 2, none⟩ = false ∧ w'.frozen? ⟨w1.heap.size, i * 2 + 1, none⟩ = false)
        (first | exact ⟨s0, s1, s2, s3, s4, s5⟩ | exact ⟨(b5.cell (p := ⟨wr.heap.size, 0, none⟩) lW).trans HZ.out.1, (b5.cell (p := ⟨wr.heap.size, 1, none⟩) lW).trans HZ.out.2.1, cl_of ((b5.cell (p := ⟨w1.heap.size, i * 2, none⟩) lW1).trans HZ.out.2.2.1), cl_of ((b5.cell (p := ⟨w1.heap.size, i * 2 + 1, none⟩) lW1).trans HZ.out.2.2.2.1), (b5.frozen (p := ⟨w1.heap.size, i * 2, none⟩) lW1).trans HZ.out.2.2.2.2.1, (b5.frozen (p := ⟨w1.heap.size, i * 2 + 1, none⟩) lW1).trans HZ.out.2.2.2.2.2⟩ | exact ⟨(set2_far hne _ _ _ _ _).trans ((b5.cell (p := ⟨wr.heap.size, 0, none⟩) lW).trans HZ.out.1), (set2_far hne _ _ _ _ _).trans ((b5.cell (p := ⟨wr.heap.size, 1, none⟩) lW).trans HZ.out.2.1), cl_set _ _ (cl_set _ _ ((b5.cell (p := ⟨w1.heap.size, i * 2, none⟩) lW1).trans HZ.out.2.2.1)), cl_set _ _ (cl_set _ _ ((b5.cell (p := ⟨w1.heap.size, i * 2 + 1, none⟩) lW1).trans HZ.out.2.2.2.1)), by simp only [World.frozen?_setCell]; exact (b5.frozen (p := ⟨w1.heap.size, i * 2, none⟩) lW1).trans HZ.out.2.2.2.2.1, by simp only [World.frozen?_setCell]; exact (b5.frozen (p := ⟨w1.heap.size, i * 2 + 1, none⟩) lW1).trans HZ.out.2.2.2.2.2⟩ | (go_keep; done))
        (first | (go_at_call 100; rw [← hW]; refine HOWN.out.mono ?_; rintro e w5 ⟨a5, rfl, hc5, b5⟩))
      have hr5 := row_below HRW.out b5
      have hs5 := b5.size
      have hg1 := rwBlk hr5
      obtain ⟨cur1, hg1, _⟩ := hg1
      obtain ⟨hr6, _⟩ := World.ownsRow.stored hr5 (i * 2) (.string x.name)
      obtain ⟨cur2, hg2, _⟩ := rwBlk hr6
      obtain ⟨hr7, _⟩ := World.ownsRow.stored hr6 (i * 2 + 1) (.slice a5 xl xl)
      have hw5w : W.heap.size ≤ w5.heap.size := hs5
      have hkeep : ∀ {B : Nat} {a : Option Addr} {us : List Nat}, Clip16 B w5 a us → Clip16 B ((w5.setCell ⟨w1.heap.size, i * 2, none⟩ (.string x.name)).setCell ⟨w1.heap.size, i * 2 + 1, none⟩ (.slice a5 xl xl)) a us := fun h => by
        obtain ⟨cap, hr⟩ := h.row
        exact ⟨⟨cap, rwOther (rwOther hr hg1 (by decide) _ _) hg2 (by decide) _ _⟩, h.bnd, h.len⟩
      have hfin : FrT [114] w1.heap.size w2 ((w5.setCell ⟨w1.heap.size, i * 2, none⟩ (.string x.name)).setCell ⟨w1.heap.size, i * 2 + 1, none⟩ (.slice a5 xl xl)) :=
        (((HR.out.2.2.2.2.2.1.trans HW.out.2.1).trans (FrT.of_below b5)).set (a := ⟨w1.heap.size, i * 2, none⟩) (Nat.le_refl _) hg1 (by simp) _).set (a := ⟨w1.heap.size, i * 2 + 1, none⟩) (Nat.le_refl _) hg2 (by simp) _
      have FIN := Lib.hid (And.intro hr7 (And.intro (@hkeep) (And.intro hfin hc5)))
      clear hr5 hr6 hr7 hkeep hfin hc5 hg1 hg2 s0 s1 s2 s3 s4 s5
      go_wp2
      go_roundw
      case rel =>
        refine ⟨i + 1, K ++ [⟨x.name, a5, xl, x.val⟩], _, by go_num, hlt, by simp [HR.out.1], ?_, ?_, FIN.out.1, ?_, FIN.out.2.2.1⟩
        · rw [List.take_add_one, HR.out.2.2.2.2.2.2]
          simp [HR.out.2.1, attrOf]
        · have hK2 : (cellsA K).length = i * 2 := by rw [cellsA_len, HR.out.1]
          have hxs := HR.out.2.2.1
          have hxl2 : xs.length = n * 2 := HRW.out.1
          rw [cellsA_append, ← hxs, take_two (by omega), HXL.out]
          rfl
        · intro y hy
          rcases List.mem_append.1 hy with hy | hy
          · have h1 := HR.out.2.2.2.2.1 y hy
            exact ⟨FIN.out.2.1 ((h1.1.below HW.out.2.2).below b5), h1.2⟩
          · obtain rfl := by simpa using hy
            have h1 := FIN.out.2.2.2
            exact ⟨FIN.out.2.1 ⟨by obtain ⟨cap, hr⟩ := h1.row; exact ⟨cap, hr.mono (by omega)⟩, h1.bnd, h1.len⟩, by rw [HXL.out]⟩
      case measure => simp [intOf]; omega
    · obtain rfl : i = n := by omega
      have p1 : ¬ (i : Int) < (i : Int) := by omega
      have x0 := hfr.blk X0.out (by decide)
      have x1 := hfr.blk X1.out (by decide)
      have c0 := fun j u (h : (#[Value.int .i64 k, .string nm, .slice a1 m m, .slice aa i ac, .int .u32 sl, .int .u32 ge] : Array Value)[j]? = some u) => cell_blk x0 j h
      have c00 := c0 0 _ rfl
      have c01 := c0 1 _ rfl
      have c02 := c0 2 _ rfl
      have c03 := c0 3 _ rfl
      have c04 := c0 4 _ rfl
      have c05 := c0 5 _ rfl
      have f03 := free_blk x0 3
      have d0 := fun j u (h : (#[Value.int .i64 0, .string ⟨#[]⟩, .slice none 0 0, .slice none 0 0, .int .u32 0, .int .u32 0] : Array Value)[j]? = some u) => cell_blk x1 j h
      have d00 := d0 0 _ rfl
      have d01 := d0 1 _ rfl
      have d02 := d0 2 _ rfl
      have d03 := d0 3 _ rfl
      have d04 := d0 4 _ rfl
      have d05 := d0 5 _ rfl
      have g0 := fun j => free_blk x1 j
      have le0 := lt_of_some x0
      have le1 := lt_of_some x1
      simp at c00 c01 c02 c03 c04 c05 d00 d01 d02 d03 d04 d05
      have HX := Lib.hid (And.intro x0 x1)
      have HR := Lib.hid (And.intro hKl (And.intro hKm (And.intro hxs (And.intro hrow (And.intro hcl hfr)))))
      clear hKl hKm hxs hrow hcl hfr x0 x1 hlt c0 d0
      go_wp2_with fail
      obtain ⟨hE, hF⟩ := six_cells (set_other HX.out.2 (show w.heap.size + 1 ≠ (⟨w.heap.size, 3, none⟩ : Addr).block by simp) (.slice (some ⟨w1.heap.size, 0, none⟩) i i)) (.int .i64 k) (.string nm) (.slice a1 m m) (.slice (some ⟨w1.heap.size, 0, none⟩) i i) (.int .u32 sl) (.int .u32 ge)
      have hF0 : FrT [66] w.heap.size wr (wr.setCell ⟨w.heap.size, 3, none⟩ (.slice (some ⟨w1.heap.size, 0, none⟩) i i)) := (FrT.refl _ _ _).set (a := ⟨w.heap.size, 3, none⟩) (Nat.le_refl _) HX.out.1 (by simp) _
      have hFF := hF0.trans (hF.mono (fun _ h => h) (by omega))
      have z0 := cell_blk hE 0 rfl
      have z1 := cell_blk hE 1 rfl
      have z2 := cell_blk hE 2 rfl
      have z3 := cell_blk hE 3 rfl
      have z4 := cell_blk hE 4 rfl
      have z5 := cell_blk hE 5 rfl
      skip
      obtain ⟨hKl, hKm, hxs, hrow, hcl, hfr⟩ := HR.out
      have hxs2 : xs = cellsA K := by rw [← hxs, List.take_of_length_le (by have := hrow.1; omega)]
      refine bodyPost_ret (v := .agg #[.int .i64 k, .string nm, .slice a1 m m, .slice (some ⟨w1.heap.size, 0, none⟩) i i, .int .u32 sl, .int .u32 ge]) (by simp [results, Tryd.results69, go_sem, z0, z1, z2, z3, z4, z5]) rfl ⟨⟨k, nm, a1, m, data, some ⟨w1.heap.size, 0, none⟩, i, K, sl, ge⟩, ?_, ?_, ?_, ?_⟩
      · simp only [hKl, ← HM.out]
      · exact ⟨rfl, rfl, rfl, by rw [hKm, List.take_of_length_le (by rw [HN.out]; exact Nat.le_refl _)], rfl, rfl⟩
      · have hC := HC2.out
        refine ⟨?_, HM.out, ⟨⟨i, ?_⟩, ?_, ?_⟩, hKl.symm, hn, ?_⟩
        · obtain ⟨cap, hr⟩ := hC.row
          exact ⟨⟨cap, hFF.row (hfr.row hr (by decide)) (by decide)⟩, hC.bnd, hC.len⟩
        · simp only [hKl]
          rw [← hxs2]
          exact hFF.row hrow (by decide)
        · intro y hy
          obtain ⟨h1, h2⟩ := hcl y hy
          obtain ⟨cap, hr⟩ := h1.row
          exact ⟨⟨⟨cap, hFF.row hr (by decide)⟩, h1.bnd, h1.len⟩, h2⟩
        · intro y hy
          have : attrOf y ∈ L.map attrOf := by
            have h1 : attrOf y ∈ K.map attrOf := List.mem_map.2 ⟨y, hy, rfl⟩
            rw [hKm] at h1
            obtain ⟨z, hz, hz2⟩ := List.mem_map.1 h1
            exact List.mem_map.2 ⟨z, List.mem_of_mem_take hz, hz2⟩
          obtain ⟨z, hz, hz2⟩ := List.mem_map.1 this
          have h3 := HA.out.nam z hz
          have h4 : z.name = y.name := congrArg Prod.fst hz2
          rwa [h4] at h3
        · simp only [hKl]; omega
      · exact B2.out.trans (((hfr.below hs2).mono (by omega)).trans (hFF.below (by omega)))
end Go.Proofs.YtelhnaphkbpakaaDoor
namespace Go.Proofs.YtelhnaphkbpakaaDoor
open Go Go.RowKit
set_option linter.unusedVariables false
section
variable {P : Program} (w : World)
end
end Go.Proofs.YtelhnaphkbpakaaDoor
