/- Part 17 of the proof of RoP: lemmas. -/
import Derived.Maps.OwnOps
import Derived.Maps.Views
import Derived.Deep.CutBlock
import Derived.Deep.DeepMust
import Derived.Test.YtelhnaphkbpakaaDoorMr16
namespace Go.Proofs.YtelhnaphkbpakaaDoor
open Go.RowKit
set_option linter.unusedVariables false
set_option maxRecDepth 100000
section
variable {B : Nat} {Q : Nat → Prop} {w w' : World} {tb : Nat} {X : TX}
end
end Go.Proofs.YtelhnaphkbpakaaDoor
namespace Go.Proofs.YtelhnaphkbpakaaDoor
set_option linter.unusedVariables false
theorem made_lt {F : For} {s g k : Nat} (h : k < F.length) : (Made F s g)[k]? = F[k]? := by unfold Made; rw [List.getElem?_append_left h]
theorem made_at {F : For} {s g : Nat} : (Made F s g)[F.length]? = some ⟨s, g, none, [], true⟩ := by unfold Made; simp
theorem made_len (F : For) (s g : Nat) : (Made F s g).length = F.length + 1 := by simp [Made]
theorem made_cases {F : For} {s g k : Nat} {x : FN} (h : (Made F s g)[k]? = some x) : F[k]? = some x ∧ k < F.length ∨ k = F.length ∧ x = ⟨s, g, none, [], true⟩ := by
  rcases Nat.lt_or_ge k F.length with h1 | h1
  · rw [made_lt h1] at h; exact .inl ⟨h, h1⟩
  · have h2 := (List.getElem?_eq_some_iff.1 h).1
    rw [made_len] at h2
    obtain rfl : k = F.length := by omega
    rw [made_at] at h
    cases h
    exact .inr ⟨rfl, rfl⟩
theorem mem_prev {l : List Nat} {k m : Nat} (h : prevOf l k = some m) : m ∈ l := by
  unfold prevOf at h
  split at h
  · cases h
  · exact List.mem_of_getElem? h
theorem mem_next {l : List Nat} {k m : Nat} (h : nextOf l k = some m) : m ∈ l := List.mem_of_getElem? h
theorem FOk.dn_lt {F : For} (h : FOk F) {o : Option Nat} {m : Nat} (hm : m ∈ dnOf F o) : m < F.length := by
  unfold dnOf at hm
  split at hm
  · rename_i x hx
    cases o with
    | none => cases hx
    | some u =>
      obtain ⟨z, hz, _⟩ := h.dn u x hx m hm
      exact (List.getElem?_eq_some_iff.1 hz).1
  · cases hm
theorem FOk.up_lt {F : For} (h : FOk F) {k m : Nat} (hm : upOf F k = some m) : m < F.length := by
  unfold upOf at hm
  obtain ⟨z, hz, e⟩ := Option.bind_eq_some_iff.1 hm
  obtain ⟨y, hy, _⟩ := h.upd k z m hz e
  exact (List.getElem?_eq_some_iff.1 hy).1
theorem FOk.lk_lt {F : For} (h : FOk F) {k j m : Nat} (hm : lkO F k j = some m) : m < F.length := by
  match j with
  | 0 => exact h.up_lt hm
  | 1 => exact h.dn_lt (List.mem_of_head? hm)
  | 2 => exact h.dn_lt (List.mem_of_getLast? hm)
  | 3 => exact h.dn_lt (mem_prev hm)
  | 4 => exact h.dn_lt (mem_next hm)
  | j + 5 => cases hm
theorem hd_made {F : For} {s g : Nat} {o : Option Nat} (h : ∀ m, o = some m → m < F.length) : hd (Made F s g) o = hd F o := by
  cases o with
  | none => rfl
  | some m => unfold hd; simp only [Option.bind_some]; rw [made_lt (h m rfl)]
theorem up_made {F : For} {s g k : Nat} (h : k < F.length) : upOf (Made F s g) k = upOf F k := by unfold upOf; rw [made_lt h]
theorem dn_made {F : For} {s g : Nat} {o : Option Nat} (h : ∀ m, o = some m → m < F.length) : dnOf (Made F s g) o = dnOf F o := by
  cases o with
  | none => rfl
  | some m => unfold dnOf; simp only [Option.bind_some]; rw [made_lt (h m rfl)]
theorem lk_made {F : For} (ok : FOk F) {s g k : Nat} (h : k < F.length) (j : Nat) : lkO (Made F s g) k j = lkO F k j := by
  have h1 := up_made (s := s) (g := g) h
  have h2 : dnOf (Made F s g) (some k) = dnOf F (some k) := dn_made (fun m hm => by cases hm; exact h)
  have h3 : dnOf (Made F s g) (upOf F k) = dnOf F (upOf F k) := dn_made (fun m hm => ok.up_lt hm)
  match j with
  | 0 => exact h1
  | 1 => simp only [lkO, h2]
  | 2 => simp only [lkO, h2]
  | 3 => simp only [lkO, h1, h3]
  | 4 => simp only [lkO, h1, h3]
  | j + 5 => rfl
theorem lk_new {F : For} (s g j : Nat) : lkO (Made F s g) F.length j = none := by
  have h1 : upOf (Made F s g) F.length = none := by unfold upOf; rw [made_at]; rfl
  have h2 : dnOf (Made F s g) (some F.length) = [] := by unfold dnOf; simp only [Option.bind_some]; rw [made_at]
  match j with
  | 0 => exact h1
  | 1 => simp only [lkO, h2]; rfl
  | 2 => simp only [lkO, h2]; rfl
  | 3 => simp only [lkO, h1]; rfl
  | 4 => simp only [lkO, h1]; rfl
  | j + 5 => rfl
end Go.Proofs.YtelhnaphkbpakaaDoor
namespace Go.Proofs.YtelhnaphkbpakaaDoor
open Go.RowKit Go.Maps
set_option linter.unusedVariables false
set_option maxRecDepth 100000
abbrev ky (s : ByteArray) : List UInt8 := s.data.toList
def goodA (l : List ByteArray) : Bool := l.all namedD && decide ((l.map ky).Nodup)
def checkD (k : Int) (nm : ByteArray) (dl : Nat) (names : List ByteArray) : Int :=
  if fitsD k nm dl names.length = false then 63
  else if (k = 1 ∨ k = 7 ∨ k = 10) ∧ namedD nm = false then 62
  else if goodA names then 0 else 62
theorem zero3 (w : World) : (zeroValue 3).run Tryd.prog w = .ok (.int .i64 0) w := by kernel_rfl
theorem law9 : Keyed Tryd.prog 9 := string_keyed Tryd.underlying9
structure SeenOk {H : Type} (D : Go.DataW H) (l : List (List UInt8)) : Prop where
  map : IsMap D
  at_ : ∀ s : List UInt8, D.atKey (.string s) (.lit (.int .i64 0)) = .lit (.int .i64 (if s ∈ l then 1 else 0))
theorem seen_next {H : Type} {D : Go.DataW H} {l : List (List UInt8)} (h : SeenOk D l) {s : List UInt8} (hs : s ∉ l) : SeenOk (D.put (.string s) (.lit (.int .i64 1))) (l ++ [s]) := by
  refine ⟨h.map.put _ _, fun t => ?_⟩
  by_cases e : t = s
  · subst e
    rw [atKey_put_same h.map (show WideAt.IsKeyLit (.string t) from trivial)]
    simp
  · rw [atKey_put_other (by intro hh; injection hh with hh; exact e hh), h.at_ t]
    simp [e]
theorem goodA_snoc (l : List ByteArray) (x : ByteArray) : goodA (l ++ [x]) = (goodA l && namedD x && decide (ky x ∉ l.map ky)) := by
  unfold goodA
  rw [List.all_append, List.map_append]
  have : ((l.map ky) ++ [ky x]).Nodup ↔ (l.map ky).Nodup ∧ ky x ∉ l.map ky := by
    rw [List.nodup_append]
    simp
  simp only [List.map_cons, List.map_nil, decide_eq_decide.2 this]
  simp only [List.all_cons, List.all_nil, Bool.and_true]
  cases l.all namedD <;> cases namedD x <;> simp
theorem goodA_pre {l m : List ByteArray} (h : goodA (l ++ m) = true) : goodA l = true := by
  unfold goodA at *
  rw [List.all_append, List.map_append] at h
  simp only [Bool.and_eq_true, decide_eq_true_eq] at *
  exact ⟨h.1.1, (List.nodup_append.1 h.2).1⟩
theorem grown_of_below {w w' : World} (b : Below w.heap.size w w') : w.grownBy w' none := ⟨b.os, b.tape, b.output, b.size, fun i hi _ => b.block i hi⟩
theorem look_after {w2 w3 : World} {mb n : Nat} {D : DataW Unit} {nx : ByteArray} {v : Int} (hD : IsMap D) (h : w2.ownsMap Tryd.prog 9 (plainElem (H := Unit) Tryd.prog 3) mb n (D.put (.string nx.data.toList) (.lit (.int .i64 v)))) (b : Below w2.heap.size w2 w3)
    (hkey : keyOf Tryd.prog 9 (.string nx) = some (.string nx.data.toList)) :
    (Instr.lookup 148 (.map (some mb)) (.string nx) false).run Tryd.prog w3 = .ok (.int .i64 v) w3 ∧ w3.ownsMap Tryd.prog 9 (plainElem (H := Unit) Tryd.prog 3) mb n (D.put (.string nx.data.toList) (.lit (.int .i64 v))) := by
  have h3 := h.kept (grown_of_below b) (by simp)
  obtain ⟨c, hrun, hat, _⟩ := h3.lookup_int (t := 148) law9 Tryd.underlying148 Tryd.underlying3 (zero3 _) hkey
  rw [atKey_put_same hD (show WideAt.IsKeyLit (.string nx.data.toList) from trivial)] at hat
  injection hat with h1
  injection h1 with h2 h4
  rw [← h4] at hrun
  exact ⟨hrun, h3⟩
set_option maxHeartbeats 8000000 in
theorem check_calls (w : World) (N : Nd) (h : NdIn w N) :
    Calls Tryd.prog 67 #[N.v] w fun e w' => e = .returned (.int .i64 (checkD N.kind N.name N.data.length (N.L.map LA.name))) ∧ Below w.heap.size w w' := by
  have hfits := fun w' (b : Below w.heap.size w w') => fits_calls w' N (h.below b)
  have hA := h.attrs
  have hn := h.nam
  obtain ⟨k, nm, da, dc, data, aa, ac, L, sl, ge⟩ := N
  simp only [Nd.v, Nd.cells] at *
  obtain ⟨n, en⟩ : ∃ n, n = L.length := ⟨_, rfl⟩
  obtain ⟨m, em⟩ : ∃ m, m = data.length := ⟨_, rfl⟩
  have hl := hA.len
  rw [← en, ← em] at hfits ⊢
  rw [← en] at hl
  have HN := Lib.hid en
  have HA := Lib.hid hA
  have HF := Lib.hid hfits
  clear en em hA hfits h
  obtain ⟨c, hc⟩ : ∃ c, c = checkD k nm m (L.map LA.name) := ⟨_, rfl⟩
  rw [← hc]
  have HC := Lib.hid hc
  clear hc
  have hmm := @run_makeMap Tryd.prog
  have hb0 : Below w.heap.size w (w.alloc (.cells #[.int .i64 k, .string nm, .slice da m dc, .slice aa n ac, .int .u32 sl, .int .u32 ge] 66)) := (Below.refl _ w).alloc (Nat.le_refl _) _
  have HB0 := Lib.hid hb0
  clear hb0
  cases hfd : fitsD k nm m n with
  | false =>
    have hcc : c = 63 := by rw [HC.out]; unfold checkD; rw [List.length_map, ← HN.out, hfd]; rfl
    have HF2 := HF.out
    rw [hfd] at HF2
    have HF3 := Lib.hid HF2
    clear HF2 HF hfd
    have HCC := Lib.hid hcc
    clear hcc
    go_enter Tryd.func67, Tryd.ntmps67
    go_wp2_with (go_at_call 98; refine (HF3.out _ HB0.out).mono ?_; rintro e w1 ⟨rfl, b1⟩)
    go_ret
    exact ⟨by rw [HCC.out]; rfl, HB0.out.trans (b1.mono (by simp))⟩
  | true =>
    have HF2 := HF.out
    rw [hfd] at HF2
    have HF3 := Lib.hid HF2
    have hcd : c = if (k = 1 ∨ k = 7 ∨ k = 10) ∧ namedD nm = false then 62 else if goodA (L.map LA.name) then 0 else 62 := by rw [HC.out]; unfold checkD; rw [List.length_map, ← HN.out, hfd]; rfl
    have HCD := Lib.hid hcd
    clear HF2 HF hfd hcd
    go_enter Tryd.func67, Tryd.ntmps67
    go_wp2_with fail
    refine (HF3.out _ HB0.out).mono ?_
    rintro e w1 ⟨rfl, b1⟩
    have x0 := (b1.block w.heap.size (by simp)).trans (Go.heap_alloc_new w _)
    have c0 := cell_blk x0 0 rfl
    have c1 := cell_blk x0 1 rfl
    have l0 := lt_of_some x0
    simp at c0 c1
    have B1 := Lib.hid (HB0.out.trans (b1.mono (by simp)))
    have HX := Lib.hid x0
    clear b1 x0
    have hnm := named_calls w1 nm hn
    have HNM := Lib.hid hnm
    clear hnm
    go_upto_block 0 with fail
    go_cut [] from 9 (fun wc => ((k = 1 ∨ k = 7 ∨ k = 10) → namedD nm = true) ∧ Below w1.heap.size w1 wc)
    case first =>
      by_cases hk : k = 1 ∨ k = 7 ∨ k = 10
      · cases hnd : namedD nm with
        | true =>
          have HNM2 := HNM.out
          rw [hnd] at HNM2
          have HNM3 := Lib.hid HNM2
          have HND := Lib.hid hnd
          clear HNM2 HNM hnd
          rcases hk with rfl | rfl | rfl
          all_goals go_wp2_with (go_at_call 99; refine HNM3.out.mono ?_; rintro e w2 ⟨rfl, b2⟩)
          all_goals go_meet
          all_goals exact ⟨fun _ => HND.out, b2⟩
        | false =>
          have HNM2 := HNM.out
          rw [hnd] at HNM2
          have HNM3 := Lib.hid HNM2
          have hcc : c = 62 := by rw [HCD.out, if_pos ⟨hk, hnd⟩]
          have HCC := Lib.hid hcc
          clear HNM2 HNM hnd hcc
          rcases hk with rfl | rfl | rfl
          all_goals go_wp2_with (go_at_call 99; refine HNM3.out.mono ?_; rintro e w2 ⟨rfl, b2⟩)
          all_goals go_ret
          all_goals exact ⟨by rw [HCC.out]; rfl, B1.out.trans (b2.mono (by omega))⟩
      · have e1 : (k == 1) = false := by simp; omega
        have e2 : (k == 7) = false := by simp; omega
        have e3 : (k == 10) = false := by simp; omega
        have HK := Lib.hid hk
        clear hk
        go_wp2
        go_meet
        exact ⟨fun h => absurd h HK.out, Below.refl _ _⟩
    case rest =>
      obtain ⟨hknm, bc⟩ := hcut
      have hs1 : w.heap.size < w1.heap.size := lt_of_some HX.out
      have hsc := bc.size
      have x0 := (bc.block _ hs1).trans HX.out
      have BC := Lib.hid (B1.out.trans (bc.mono (by omega)))
      have c3 := cell_blk x0 3 rfl
      have l0 := lt_of_some x0
      simp at c3
      have HKN := Lib.hid hknm
      clear c0 c1 HX HNM hknm x0 bc
      go_wp2_with fail
      obtain ⟨mb, hmb⟩ : ∃ mb, mb = wc.heap.size := ⟨_, rfl⟩
      have hm0 : (wc.alloc (.map #[] 0)).ownsMap Tryd.prog 9 (plainElem (H := Unit) Tryd.prog 3) mb 0 (.map []) := by rw [hmb]; exact World.ownsMap_made _ _ _ _
      rw [← hmb]
      have hbm : Below wc.heap.size wc (wc.alloc (.map #[] 0)) := (Below.refl _ _).alloc (Nat.le_refl _) _
      have HM0 := Lib.hid (And.intro hm0 hbm)
      have HMB := Lib.hid hmb
      clear hm0 hbm hmb c3
      go_loopw [23] (fun v wr => ∃ (i : Nat) (D : DataW Unit), v = .int .i64 (i : Nat) ∧ i ≤ n ∧ wr.ownsMap Tryd.prog 9 (plainElem (H := Unit) Tryd.prog 3) mb i D ∧ SeenOk D ((L.take i).map fun x => ky x.name) ∧ goodA ((L.take i).map LA.name) = true ∧ Below wc.heap.size wc wr) (fun v _ => n - (intOf v).toNat)
      case atStart => exact ⟨0, .map [], rfl, Nat.zero_le _, HM0.out.1, ⟨isMap_empty, fun s => by simp [DataW.atKey]⟩, by simp [goodA], HM0.out.2⟩
      case round =>
        obtain ⟨i, D, rfl, hi, hown, hseen, hgood, hbel⟩ := hrel
        have hbw : Below w.heap.size w wr := BC.out.trans (hbel.mono (by omega))
        by_cases hlt : i < n
        · obtain ⟨x, hx⟩ : ∃ x, L[i]? = some x := ⟨_, List.getElem?_eq_getElem (by rw [← HN.out]; exact hlt)⟩
          obtain ⟨bb, off, rfl, hbl, c1, c2⟩ := (HA.out.below hbw).get hx
          have p1 : (i : Int) < (n : Int) := by omega
          have p2 : (0 : Int) ≤ (i : Int) := by omega
          obtain ⟨nx, hnx⟩ : ∃ nx, nx = x.name := ⟨_, rfl⟩
          obtain ⟨xl, hxl⟩ : ∃ xl, xl = x.val.length := ⟨_, rfl⟩
          have hnz : nx.size ≤ 9223372036854775807 := by rw [hnx]; exact HA.out.nam x (List.mem_of_getElem? hx)
          rw [← hnx] at c1
          rw [← hxl] at c2
          have hkey : keyOf Tryd.prog 9 (.string nx) = some (.string nx.data.toList) := Go.WideMaps.keyOf_string_mk Tryd.underlying9 (by unfold maxLen; omega)
          obtain ⟨q, hq⟩ : ∃ q : Int, q = if nx.data.toList ∈ (L.take i).map (fun x => ky x.name) then 1 else 0 := ⟨_, rfl⟩
          have hq01 : q = 0 ∨ q = 1 := by rw [hq]; split <;> simp
          have hml : mb < wr.heap.size := hown.lt
          have hownW := hown.kept (World.grownBy_alloc wr (.cells #[.string nx, .slice x.va xl x.vc] 114) none) (by simp)
          obtain ⟨c', hrun, hat, _⟩ := hownW.lookup_int (t := 148) law9 Tryd.underlying148 Tryd.underlying3 (zero3 _) hkey
          obtain rfl : c' = q := by
            rw [hseen.at_ nx.data.toList, ← hq] at hat
            injection hat with h1
            injection h1 with h2 h3
            exact h3.symm
          have q1 : IntKind.i64.wrap (c' + 1) = c' + 1 := IntWalk.i64_in _ (by omega)
          have HH := Lib.hid (And.intro hseen (And.intro hgood (And.intro hbel (And.intro hx hq))))
          have HNX := Lib.hid hnx
          have HKEY := Lib.hid hkey
          have HOW := Lib.hid hownW
          have hsr : wc.heap.size ≤ wr.heap.size := hbel.size
          clear hseen hgood hbel hx hq hown hownW hat hnx hxl hkey
          have HQ : Hid (∀ w2, (wr.alloc (.cells #[.string nx, .slice x.va xl x.vc] 114)).grownBy w2 (some mb) → w2.cell? ⟨wr.heap.size, 0, none⟩ = some (.string nx) ∧ wr.heap.size < w2.heap.size ∧ Below wc.heap.size wc w2) := Lib.hid (fun w2 hg => by
            have h1 := grown_blk hg (Go.heap_alloc_new wr (.cells #[.string nx, .slice x.va xl x.vc] 114)) (by intro e; injection e with e; omega)
            have h2 := cell_blk h1 0 rfl
            refine ⟨h2, lt_of_some h1, ?_⟩
            exact (HH.out.2.2.1.alloc hsr _).grown hg (by simp; omega) (fun r e => by cases e; rw [HMB.out]; exact Nat.le_refl _))
          cases hnd : namedD nx with
          | false =>
            have hcc : c = 62 := by
              rw [HCD.out]
              have : goodA (L.map LA.name) = false := by
                have hm : nx ∈ L.map LA.name := List.mem_map.2 ⟨x, List.mem_of_getElem? HH.out.2.2.2.1, HNX.out.symm⟩
                unfold goodA
                have : (L.map LA.name).all namedD = false := by
                  rw [List.all_eq_false]
                  exact ⟨nx, hm, by simp [hnd]⟩
                rw [this]; rfl
              rw [this]; simp
            have HCC := Lib.hid hcc
            have HND := Lib.hid hnd
            clear hcc hnd
            go_wp2_with (first | (at_mapUpdate; refine wpList_mapUpdate_own _ rfl _ _ _ 148 rfl 9 3 law9 Tryd.underlying148 (plainElem (H := Unit) Tryd.prog 3) mb i D rfl HOW.out (by unfold maxLen; omega) _ _ _ rfl rfl HKEY.out _ [] (plainElem_int Tryd.underlying3 (WalkArith.wf_i64 (by omega))) ?_; intro w2 hown2 hgrow2; obtain ⟨e0, e1, e2⟩ := HQ.out w2 hgrow2; clear hown2 hgrow2) | (go_at_call 99; refine (named_calls _ nx hnz).mono ?_; rw [HND.out]; rintro e w3 ⟨rfl, b3⟩))
            go_ret
            exact ⟨by rw [HCC.out]; rfl, (BC.out.trans (e2.mono (by omega))).trans (b3.mono (by omega))⟩
          | true =>
            have HND := Lib.hid hnd
            clear hnd
            by_cases hin : nx.data.toList ∈ (L.take i).map (fun x => ky x.name)
            · have hq1 : c' = 1 := by rw [HH.out.2.2.2.2, if_pos hin]
              subst hq1
              have hcc : c = 62 := by
                rw [HCD.out]
                have : goodA (L.map LA.name) = false := by
                  cases hg : goodA (L.map LA.name) with
                  | false => rfl
                  | true =>
                    have e : L.map LA.name = ((L.take (i + 1)).map LA.name) ++ (L.drop (i + 1)).map LA.name := by rw [← List.map_append, List.take_append_drop]
                    rw [e] at hg
                    have h1 := goodA_pre hg
                    rw [List.take_add_one, HH.out.2.2.2.1] at h1
                    simp only [Option.toList_some, List.map_append, List.map_cons, List.map_nil] at h1
                    rw [goodA_snoc] at h1
                    simp only [Bool.and_eq_true, decide_eq_true_eq] at h1
                    refine absurd ?_ h1.2
                    rw [List.map_map, ← HNX.out]
                    exact hin
                rw [this]; simp
              have HCC := Lib.hid hcc
              clear hcc hin
              go_wp2_with (first | (at_mapUpdate; refine wpList_mapUpdate_own _ rfl _ _ _ 148 rfl 9 3 law9 Tryd.underlying148 (plainElem (H := Unit) Tryd.prog 3) mb i D rfl HOW.out (by unfold maxLen; omega) _ _ _ rfl rfl HKEY.out _ [] (plainElem_int Tryd.underlying3 (WalkArith.wf_i64 (by omega))) ?_; intro w2 hown2 hgrow2; obtain ⟨e0, e1, e2⟩ := HQ.out w2 hgrow2; have HO2 := Lib.hid hown2; clear hown2 hgrow2) | (go_at_call 99; refine (named_calls _ nx hnz).mono ?_; rw [HND.out]; rintro e w3 ⟨rfl, b3⟩; obtain ⟨hrun3, hown3⟩ := look_after HH.out.1.map HO2.out b3 HKEY.out; have e3 := (b3.cell (p := ⟨wr.heap.size, 0, none⟩) e1).trans e0; have e4 := Nat.lt_of_lt_of_le e1 b3.size))
              go_ret
              exact ⟨by rw [HCC.out]; rfl, (BC.out.trans (e2.mono (by omega))).trans (b3.mono (by omega))⟩
            · have hq1 : c' = 0 := by rw [HH.out.2.2.2.2, if_neg hin]
              subst hq1
              have HIN := Lib.hid hin
              clear hin
              go_wp2_with (first | (at_mapUpdate; refine wpList_mapUpdate_own _ rfl _ _ _ 148 rfl 9 3 law9 Tryd.underlying148 (plainElem (H := Unit) Tryd.prog 3) mb i D rfl HOW.out (by unfold maxLen; omega) _ _ _ rfl rfl HKEY.out _ [] (plainElem_int Tryd.underlying3 (WalkArith.wf_i64 (by omega))) ?_; intro w2 hown2 hgrow2; obtain ⟨e0, e1, e2⟩ := HQ.out w2 hgrow2; have HO2 := Lib.hid hown2; clear hown2 hgrow2) | (go_at_call 99; refine (named_calls _ nx hnz).mono ?_; rw [HND.out]; rintro e w3 ⟨rfl, b3⟩; obtain ⟨hrun3, hown3⟩ := look_after HH.out.1.map HO2.out b3 HKEY.out; have e3 := (b3.cell (p := ⟨wr.heap.size, 0, none⟩) e1).trans e0; have e4 := Nat.lt_of_lt_of_le e1 b3.size; have HO3 := Lib.hid hown3; clear hown3))
              go_roundw
              case rel =>
                have hnm : (List.take (i + 1) L).map (fun x => ky x.name) = (List.take i L).map (fun x => ky x.name) ++ [nx.data.toList] := by
                  rw [List.take_add_one, HH.out.2.2.2.1, HNX.out]; simp
                refine ⟨i + 1, _, by go_num, hlt, HO3.out, by rw [hnm]; exact seen_next HH.out.1 HIN.out, ?_, e2.trans (b3.mono (by omega))⟩
                rw [List.take_add_one, HH.out.2.2.2.1]
                simp only [Option.toList_some, List.map_append, List.map_cons, List.map_nil]
                rw [goodA_snoc, HH.out.2.1, ← HNX.out, HND.out]
                simp only [Bool.true_and, decide_eq_true_eq]
                rw [List.map_map]
                exact HIN.out
              case measure => simp [intOf]; omega
        · obtain rfl : i = n := by omega
          have p1 : ¬ (i : Int) < (i : Int) := by omega
          have hcc : c = 0 := by
            rw [List.take_of_length_le (by rw [HN.out]; exact Nat.le_refl _)] at hgood
            rw [HCD.out, if_neg, hgood]; · rfl
            rintro ⟨h1, h2⟩
            rw [HKN.out h1] at h2
            cases h2
          have HCC := Lib.hid hcc
          clear hcc hown hseen hgood hlt
          go_wp2_with fail
          go_ret
          exact ⟨by rw [HCC.out]; rfl, BC.out.trans (hbel.mono (by omega))⟩
end Go.Proofs.YtelhnaphkbpakaaDoor
namespace Go.Proofs.YtelhnaphkbpakaaDoor
open Go.RowKit
set_option linter.unusedVariables false
set_option maxRecDepth 100000
theorem FOk.nil : FOk [] := ⟨by simp, by simp, by simp, by simp, by simp⟩
set_option maxHeartbeats 1000000 in
theorem newT_calls (S G : Nat) (B : Nat) (w : World) (hB : B ≤ w.heap.size) (h1 : 1 ≤ S) (h2 : S ≤ 2147483647) (h3 : 1 ≤ G) (h4 : G ≤ 4294967295) :
    Calls Tryd.prog 35 #[.int .i64 (S : Int), .int .i64 (G : Int)] w fun e w' => ∃ tb ab, e = .returned (.tuple #[.pointer (some ⟨tb, 0, none⟩), .int .i64 0]) ∧
      TreeAt B (fun k => w.heap.size ≤ k ∧ k < w'.heap.size) w' tb ⟨[], [], TA.new S G, ab, .slice none 0 0, .slice none 0 0⟩ ∧ Below w.heap.size w w' := by
  have HN := Lib.hid (arNTop_new S G B w hB h1 h2 h3 h4)
  have HB := Lib.hid hB
  clear hB h1 h2 h3 h4
  go_enter Tryd.func35, Tryd.ntmps35
  go_wp2_with fail
  refine HN.out.mono ?_
  rintro e w1 ⟨rfl, ha, b1⟩
  have HA := Lib.hid ha
  have HB1 := Lib.hid b1
  clear ha b1
  go_wp2_with fail
  go_ret2
  have l1 := HA.out.lt
  have lB : w.heap.size ≤ w1.heap.size := HB1.out.size
  have bn : Below w1.heap.size w1 (w1.alloc (.cells #[.pointer (some ⟨w.heap.size, 0, none⟩), .int .u64 0, .int .i64 (S : Int), .int .i64 (G : Int), .slice none 0 0, .slice none 0 0] 112)) := (Below.refl _ _).alloc (Nat.le_refl _) _
  refine ⟨w1.heap.size, w.heap.size, rfl, ⟨FOk.nil, rfl, Nat.zero_le _, Nat.zero_le _, ⟨fun k => w.heap.size ≤ k ∧ k < w1.heap.size, HA.out.below bn, fun k hk => ⟨⟨hk.1, by simp; omega⟩, by simp; omega⟩, fun k hk => by cases hk⟩, ⟨⟨lB, by simp⟩, Nat.le_trans HB.out lB⟩, Go.heap_alloc_new w1 _, ⟨⟨[], World.ownsRow_nil _ _ _ _⟩, fun k hk => by cases hk⟩, ⟨⟨[], World.ownsRow_nil _ _ _ _⟩, fun k hk => by cases hk⟩, by simp, by simp [TA.new], by simp, by simp, by simp⟩, HB1.out.trans (bn.mono lB)⟩
theorem alloc_room {T : TA (Option Addr)} (ok : (T.ar encN).Ok 1) (h : T.free ≠ [] ∨ T.all.length < T.S) :
    (T.free = [] ∧ ∀ x, T.alloc x = ({ T with all := T.all ++ [(1, true, x)], count := T.count + 1 }, T.all.length + 1, 1, 0)) ∨
    (∃ l k g y, T.free = l ++ [k] ∧ T.all[k]? = some (g, false, y) ∧ g < T.G ∧ ∀ x, T.alloc x = ({ T with all := T.all.set k (g + 1, true, x), free := l, count := T.count + 1 }, k + 1, g + 1, 0)) := by
  cases hg : T.free.getLast? with
  | none =>
    have hf : T.free = [] := List.getLast?_eq_none_iff.1 hg
    rw [hf] at h
    have hl : T.all.length < T.S := by rcases h with h | h; exact absurd rfl h; exact h
    exact .inl ⟨hf, fun x => by unfold TA.alloc; rw [hg]; simp [hl]⟩
  | some k =>
    obtain ⟨l, hl⟩ : ∃ l, T.free = l ++ [k] := by
      obtain ⟨hne, he⟩ := List.getLast?_eq_some_iff.1 hg
      exact ⟨_, he⟩
    obtain ⟨g, t, h1, h2⟩ := ok.free k (by show k ∈ T.free; rw [hl]; simp)
    simp only [TA.ar, List.getElem?_map, Option.map_eq_some_iff] at h1
    obtain ⟨⟨g', u, y⟩, h3, h4⟩ := h1
    simp only [Prod.mk.injEq] at h4
    obtain ⟨rfl, rfl, _⟩ := h4
    refine .inr ⟨l, k, g', y, hl, h3, h2, fun x => ?_⟩
    have hd : T.free.dropLast = l := by rw [hl]; simp
    simp only [TA.alloc, hg, h3, hd]
section
variable {B : Nat} {Q : Nat → Prop} {w w' : World} {tb : Nat} {X : TX}
theorem TreeAt.made (h : TreeAt B Q w tb X) (hok : (X.T.ar encN).Ok 1) {s g nb : Nat} {P : Nd} {hv fv : Value} {Qa : Nat → Prop} {T' : TA (Option Addr)}
    (hbig : X.F.length < 1099511627776)
    (hT : (X.T.free = [] ∧ s = X.T.all.length + 1 ∧ g = 1 ∧ T' = { X.T with all := X.T.all ++ [(1, true, some ⟨nb, 0, none⟩)], count := X.T.count + 1 }) ∨
      (∃ l k g0 y, X.T.free = l ++ [k] ∧ X.T.all[k]? = some (g0, false, y) ∧ s = k + 1 ∧ g = g0 + 1 ∧ T' = { X.T with all := X.T.all.set k (g0 + 1, true, some ⟨nb, 0, none⟩), free := l, count := X.T.count + 1 }))
    (f : FrG [145, 150, 29, 112, 31] Q w w') (hB : B ≤ w.heap.size) (hnb : w.heap.size ≤ nb) (hn : w'.heap[nb]? = some (.cells (ncells P (fun _ => (0, 0)) (X.F.length + 1)) 120 (0, 0))) (hP : Fresh B w' P)
    (hblk : w'.heap[tb]? = some (.cells #[.pointer (some ⟨X.ab, 0, none⟩), .int .u64 ((X.F.length + 1 : Nat) : Int), .int .i64 (T'.S : Int), .int .i64 (T'.G : Int), hv, fv] 112 (0, 0)))
    (har : ArNOf B Qa w' X.ab T') (hqa : ∀ k, Qa k → (Q k ∨ w.heap.size ≤ k ∧ k < w'.heap.size) ∧ k < w'.heap.size) (hqh : ∀ k, hv.ownBlock = some k → ¬ Qa k)
    (hhad : ∃ hc, w'.ownsRow B 29 1 hv T'.all.length hc) (hhq : ∀ k, hv.ownBlock = some k → Q k ∨ w.heap.size ≤ k)
    (hfre : ∃ fc, w'.ownsRow B 31 2 fv T'.free.length fc) (hfq : ∀ k, fv.ownBlock = some k → Q k ∨ w.heap.size ≤ k) :
    TreeAt B (fun k => Q k ∨ w.heap.size ≤ k ∧ k < w'.heap.size) w' tb ⟨Made X.F s g, X.M ++ [(nb, P)], T', X.ab, hv, fv⟩ := by
  have hML := h.rw.lenM
  have hold : ∀ (k : Nat) (x : FN), X.F[k]? = some x → x.live = true → T'.all[x.sl - 1]? = X.T.all[x.sl - 1]? := by
    intro k x hx hl
    obtain ⟨h1, nb', P', h2, h3⟩ := h.rw.slot k x hx hl
    rcases hT with ⟨_, _, _, rfl⟩ | ⟨l, k0, g0, y, _, h4, _, _, rfl⟩
    · show (X.T.all ++ _)[_]? = _
      rw [List.getElem?_append_left (List.getElem?_eq_some_iff.1 h3).1]
    · show (X.T.all.set k0 _)[_]? = _
      rw [List.getElem?_set_ne]
      rintro rfl
      rw [h4] at h3
      cases h3
  have hnew : 1 ≤ s ∧ T'.all[s - 1]? = some (g, true, some ⟨nb, 0, none⟩) := by
    rcases hT with ⟨_, rfl, rfl, rfl⟩ | ⟨l, k0, g0, y, _, h4, rfl, rfl, rfl⟩
    · exact ⟨by omega, by show (X.T.all ++ _)[_]? = _; simp⟩
    · refine ⟨by omega, ?_⟩
      show (X.T.all.set k0 _)[_]? = _
      have := (List.getElem?_eq_some_iff.1 h4).1
      simp [this]
  have hsz := f.size
  have hMget : ∀ k nb' P', X.M[k]? = some (nb', P') → (X.M ++ [(nb, P)])[k]? = some (nb', P') := fun k nb' P' hk => by rw [List.getElem?_append_left (List.getElem?_eq_some_iff.1 hk).1]; exact hk
  have hMlast : (X.M ++ [(nb, P)])[X.F.length]? = some (nb, P) := by rw [← hML]; simp
  refine ⟨h.fok.made s g, ⟨by simp [made_len, hML], ?_, by show (Made X.F s g).length ≤ _; rw [made_len]; omega, ⟨Qa, har, hqa, hqh⟩, ⟨.inl h.rw.own.1, h.rw.own.2⟩, ?_, ⟨hhad, fun k hk => ?_⟩, ⟨hfre, fun k hk => ?_⟩, ?_, ?_, ?_, ?_, ?_⟩⟩
  · show T'.all.length ≤ (Made X.F s g).length
    rw [made_len]
    have := h.rw.few
    rcases hT with ⟨_, _, _, rfl⟩ | ⟨l, k0, g0, y, _, h4, _, _, rfl⟩
    · simp; omega
    · simp; omega
  · show w'.heap[tb]? = some (.cells #[_, .int .u64 ((Made X.F s g).length : Int), _, _, _, _] _ _)
    rw [made_len]
    exact hblk
  · obtain ⟨hc, hr⟩ := hhad
    rcases hhq k hk with h1 | h1
    · exact .inl h1
    · exact .inr ⟨h1, (hr.lt k hk).2⟩
  · obtain ⟨hc, hr⟩ := hfre
    rcases hfq k hk with h1 | h1
    · exact .inl h1
    · exact .inr ⟨h1, (hr.lt k hk).2⟩
  · intro k x hx hl
    rcases made_cases hx with ⟨h1, _⟩ | ⟨rfl, rfl⟩
    · obtain ⟨a1, nb', P', a2, a3⟩ := h.rw.slot k x h1 hl
      exact ⟨a1, nb', P', hMget _ _ _ a2, (hold k x h1 hl).trans a3⟩
    · exact ⟨hnew.1, nb, P, hMlast, hnew.2⟩
  · intro s' g' p hp
    have key : X.T.all[s']? = some (g', true, p) ∨ (s' + 1 = s ∧ g' = g) := by
      rcases hT with ⟨_, rfl, rfl, rfl⟩ | ⟨l, k0, g0, y, _, h4, rfl, rfl, rfl⟩
      · have hp : (X.T.all ++ [(1, true, some ⟨nb, 0, none⟩)])[s']? = some (g', true, p) := hp
        rcases Nat.lt_or_ge s' X.T.all.length with h1 | h1
        · rw [List.getElem?_append_left h1] at hp; exact .inl hp
        · rw [List.getElem?_append_right h1] at hp
          obtain ⟨h2, h3⟩ := List.getElem?_eq_some_iff.1 hp
          simp at h2 h3
          exact .inr ⟨by omega, h3.1.symm⟩
      · have hp : (X.T.all.set k0 (g0 + 1, true, some ⟨nb, 0, none⟩))[s']? = some (g', true, p) := hp
        by_cases e : s' = k0
        · subst e
          have := (List.getElem?_eq_some_iff.1 h4).1
          simp [this] at hp
          exact .inr ⟨rfl, hp.1.symm⟩
        · rw [List.getElem?_set_ne (Ne.symm e)] at hp; exact .inl hp
    rcases key with h1 | ⟨h1, rfl⟩
    · obtain ⟨k, x, a1, a2, a3, a4⟩ := h.rw.used s' g' p h1
      exact ⟨k, x, by show (Made X.F s g)[k]? = _; rw [made_lt (List.getElem?_eq_some_iff.1 a1).1]; exact a1, a2, a3, a4⟩
    · exact ⟨X.F.length, _, made_at, rfl, h1.symm, rfl⟩
  · intro k x nb' P' hx hl hm
    rcases made_cases hx with ⟨h1, h2⟩ | ⟨rfl, rfl⟩
    · have hm' : X.M[k]? = some (nb', P') := by
        have : (X.M ++ [(nb, P)])[k]? = X.M[k]? := List.getElem?_append_left (by rw [hML]; exact h2)
        rw [← this]; exact hm
      obtain ⟨a1, a2, a3, a4⟩ := h.rw.node k x nb' P' h1 hl hm'
      refine ⟨a1, .inl a2, ?_, a4.frg f (by decide) (by decide)⟩
      have e : ncells P' (toH (Made X.F s g) k) (k + 1) = ncells P' (toH X.F k) (k + 1) := by
        have : ∀ j, toH (Made X.F s g) k j = toH X.F k j := fun j => by
          unfold toH
          rw [lk_made h.fok h2 j, hd_made (fun m hm => h.fok.lk_lt hm)]
        unfold ncells
        rw [this 0, this 1, this 2, this 3, this 4]
      rw [e]
      exact f.blk a3 (by decide)
    · have hm : (X.M ++ [(nb, P)])[X.F.length]? = some (nb', P') := hm
      rw [hMlast] at hm
      cases hm
      have e : ncells P (toH (Made X.F s g) X.F.length) (X.F.length + 1) = ncells P (fun _ => (0, 0)) (X.F.length + 1) := by
        have : ∀ j, toH (Made X.F s g) X.F.length j = (0, 0) := fun j => by unfold toH; rw [lk_new]; rfl
        unfold ncells
        rw [this 0, this 1, this 2, this 3, this 4]
      refine ⟨Nat.le_trans hB hnb, .inr ⟨hnb, lt_of_some hn⟩, ?_, hP⟩
      show w'.heap[nb]? = some (.cells (ncells P (toH (Made X.F s g) X.F.length) (X.F.length + 1)) _ _)
      rw [e]; exact hn
  · show ((X.M ++ [(nb, P)]).map Prod.fst).Nodup
    rw [List.map_append]
    refine List.nodup_append.2 ⟨h.rw.nbd, by simp, ?_⟩
    intro a ha b hb
    simp at hb
    subst hb
    obtain ⟨p, hp, rfl⟩ := List.mem_map.1 ha
    have := h.rw.nbl p hp
    omega
  · intro p hp
    rcases List.mem_append.1 hp with hp | hp
    · exact Nat.lt_of_lt_of_le (h.rw.nbl p hp) hsz
    · simp at hp; subst hp; exact lt_of_some hn
end
end Go.Proofs.YtelhnaphkbpakaaDoor
namespace Go.Proofs.YtelhnaphkbpakaaDoor
set_option linter.unusedVariables false
theorem kill_links (F : For) (i k j : Nat) : lkO (Kill F i) k j = lkO F k j := by
  have hu : ∀ k, upOf (Kill F i) k = upOf F k := by
    intro k; unfold upOf; rw [kill_at]
    by_cases h : k = i
    · subst h; rw [if_pos rfl]; cases F[k]? <;> rfl
    · rw [if_neg h]
  have hd : ∀ o, dnOf (Kill F i) o = dnOf F o := by
    intro o
    cases o with
    | none => rfl
    | some k =>
      unfold dnOf; simp only [Option.bind_some]; rw [kill_at]
      by_cases h : k = i
      · subst h; rw [if_pos rfl]; cases F[k]? <;> rfl
      · rw [if_neg h]
  match j with
  | 0 => exact hu k
  | 1 => simp only [lkO, hd]
  | 2 => simp only [lkO, hd]
  | 3 => simp only [lkO, hd, hu]
  | 4 => simp only [lkO, hd, hu]
  | j + 5 => rfl
theorem hd_kill (F : For) (i : Nat) (o : Option Nat) : hd (Kill F i) o = hd F o := by
  cases o with
  | none => rfl
  | some k =>
    unfold hd; simp only [Option.bind_some]; rw [kill_at]
    by_cases h : k = i
    · subst h; rw [if_pos rfl]; cases F[k]? <;> rfl
    · rw [if_neg h]
end Go.Proofs.YtelhnaphkbpakaaDoor
namespace Go.Proofs.YtelhnaphkbpakaaDoor
open Go.RowKit
set_option linter.unusedVariables false
set_option maxRecDepth 100000
section
variable {B : Nat} {Q : Nat → Prop} {w w' : World} {tb : Nat} {X : TX}
theorem TreeAt.killed (h : TreeAt B Q w tb X) {i : Nat} {xi : FN} (hi : X.F[i]? = some xi) (hil : xi.live = true) (hiu : xi.up = none) (hid : xi.down = []) {fv : Value} {Qa : Nat → Prop} {T' : TA (Option Addr)}
    (hT : T'.all = X.T.all.set (xi.sl - 1) (xi.gn, false, none)) (hS : T'.S = X.T.S) (hG : T'.G = X.T.G)
    (f : FrG [145, 150, 29, 112, 31] Q w w')
    (hblk : w'.heap[tb]? = some (.cells #[.pointer (some ⟨X.ab, 0, none⟩), .int .u64 (X.F.length : Int), .int .i64 (X.T.S : Int), .int .i64 (X.T.G : Int), X.hv, fv] 112 (0, 0)))
    (har : ArNOf B Qa w' X.ab T') (hqa : ∀ k, Qa k → (Q k ∨ w.heap.size ≤ k ∧ k < w'.heap.size) ∧ k < w'.heap.size) (hqh : ∀ k, X.hv.ownBlock = some k → ¬ Qa k)
    (hhad : ∃ hc, w'.ownsRow B 29 1 X.hv X.T.all.length hc)
    (hfre : ∃ fc, w'.ownsRow B 31 2 fv T'.free.length fc) (hfq : ∀ k, fv.ownBlock = some k → Q k ∨ w.heap.size ≤ k) :
    TreeAt B (fun k => Q k ∨ w.heap.size ≤ k ∧ k < w'.heap.size) w' tb ⟨Kill X.F i, X.M, T', X.ab, X.hv, fv⟩ := by
  obtain ⟨si, nbi, Pi, smi, sli⟩ := h.rw.slot i xi hi hil
  have hil2 := (List.getElem?_eq_some_iff.1 sli).1
  have back : ∀ (k : Nat) (x : FN), (Kill X.F i)[k]? = some x → x.live = true → k ≠ i ∧ X.F[k]? = some x := by
    intro k x hx hl
    rw [kill_at] at hx
    by_cases e : k = i
    · rw [if_pos e, hi] at hx
      simp at hx
      rw [← hx] at hl
      cases hl
    · rw [if_neg e] at hx; exact ⟨e, hx⟩
  refine ⟨h.fok.kill hi hiu hid, ⟨by show X.M.length = (Kill X.F i).length; rw [kill_len]; exact h.rw.lenM, ?_, by show (Kill X.F i).length ≤ _; rw [kill_len]; exact h.rw.big, ⟨Qa, har, hqa, hqh⟩, ⟨.inl h.rw.own.1, h.rw.own.2⟩, ?_, ⟨?_, fun k hk => .inl (h.rw.had.2 k hk)⟩, ⟨hfre, fun k hk => ?_⟩, ?_, ?_, ?_, h.rw.nbd, fun p hp => Nat.lt_of_lt_of_le (h.rw.nbl p hp) f.size⟩⟩
  · show T'.all.length ≤ (Kill X.F i).length
    rw [kill_len, hT]; simp; exact h.rw.few
  · show w'.heap[tb]? = some (.cells #[_, .int .u64 ((Kill X.F i).length : Int), .int .i64 (T'.S : Int), .int .i64 (T'.G : Int), _, _] _ _)
    rw [kill_len, hS, hG]; exact hblk
  · obtain ⟨hc, hr⟩ := hhad
    refine ⟨hc, ?_⟩
    show w'.ownsRow B _ 1 X.hv T'.all.length hc
    rw [hT, List.length_set]; exact hr
  · obtain ⟨fc, hr⟩ := hfre
    rcases hfq k hk with h1 | h1
    · exact .inl h1
    · exact .inr ⟨h1, (hr.lt k hk).2⟩
  · intro k x hx hl
    obtain ⟨hne, hx'⟩ := back k x hx hl
    obtain ⟨a1, nb, P, a2, a3⟩ := h.rw.slot k x hx' hl
    refine ⟨a1, nb, P, a2, ?_⟩
    show T'.all[x.sl - 1]? = _
    rw [hT, List.getElem?_set_ne]
    · exact a3
    · intro e
      exact hne (h.rw.hinj hx' hi hl hil (by omega))
  · intro s g p hp
    have hp : T'.all[s]? = some (g, true, p) := hp
    rw [hT] at hp
    by_cases e : s = xi.sl - 1
    · subst e
      simp [hil2] at hp
    · rw [List.getElem?_set_ne (Ne.symm e)] at hp
      obtain ⟨k, x, a1, a2, a3, a4⟩ := h.rw.used s g p hp
      refine ⟨k, x, ?_, a2, a3, a4⟩
      show (Kill X.F i)[k]? = _
      rw [kill_at, if_neg]
      · exact a1
      · rintro rfl
        rw [hi] at a1; cases a1
        exact e (by omega)
  · intro k x nb P hx hl hm
    obtain ⟨hne, hx'⟩ := back k x hx hl
    obtain ⟨a1, a2, a3, a4⟩ := h.rw.node k x nb P hx' hl hm
    refine ⟨a1, .inl a2, ?_, a4.frg f (by decide) (by decide)⟩
    have e : ncells P (toH (Kill X.F i) k) (k + 1) = ncells P (toH X.F k) (k + 1) := by
      have : ∀ j, toH (Kill X.F i) k j = toH X.F k j := fun j => by unfold toH; rw [kill_links, hd_kill]
      unfold ncells
      rw [this 0, this 1, this 2, this 3, this 4]
    show w'.heap[nb]? = some (.cells (ncells P (toH (Kill X.F i) k) (k + 1)) _ _)
    rw [e]
    exact f.blk a3 (by decide)
end
theorem infoH : (Tryd.prog.info? 31).map (fun i => (i.zero, i.size, i.bytes)) = some (some (.agg #[.int .u32 0, .int .u32 0]), 2, 8) := by kernel_rfl
section
variable {B : Nat} {Q : Nat → Prop} {w w' : World} {tb : Nat} {X : TX} {bx : Option Obj}
theorem TreeAt.freed (h : TreeAt B Q w tb X) {i : Nat} {xi : FN} (hi : X.F[i]? = some xi) (hil : xi.live = true) (hiu : xi.up = none) (hid : xi.down = []) {W1 W2 : World} {Qa : Nat → Prop} {fv : Value}
    (f1 : FrG [31, 112] Q w W1) (ha : ArNOf B Qa W1 X.ab X.T) (hqa : ∀ k, Qa k → Q k ∧ k < w.heap.size) (hqh : ∀ k, X.hv.ownBlock = some k → ¬ Qa k)
    (hblk : W1.heap[tb]? = some (.cells #[.pointer (some ⟨X.ab, 0, none⟩), .int .u64 (X.F.length : Int), .int .i64 (X.T.S : Int), .int .i64 (X.T.G : Int), X.hv, fv] 112 (0, 0)))
    (hfre : ∃ fc, W1.ownsRow B 31 2 fv (X.T.drop none xi.sl xi.gn).1.free.length fc) (hfq : ∀ k, fv.ownBlock = some k → Q k ∨ w.heap.size ≤ k)
    (ha2 : ArNOf B (fun k => Qa k ∨ W1.heap.size ≤ k ∧ k < W2.heap.size) W2 X.ab (X.T.drop none xi.sl xi.gn).1) (f2 : FrG [145, 150, 29] Qa W1 W2) :
    TreeAt B (fun k => Q k ∨ w.heap.size ≤ k ∧ k < W2.heap.size) W2 tb ⟨Kill X.F i, X.M, (X.T.drop none xi.sl xi.gn).1, X.ab, X.hv, fv⟩ ∧ FrG [145, 150, 29, 112, 31] Q w W2 := by
  obtain ⟨nb, P, hm, hat, hsl, _, _⟩ := h.rw.at_live hi hil
  have hd : (X.T.drop none xi.sl xi.gn).1.all = X.T.all.set (xi.sl - 1) (xi.gn, false, none) ∧ (X.T.drop none xi.sl xi.gn).1.S = X.T.S ∧ (X.T.drop none xi.sl xi.gn).1.G = X.T.G := by
    unfold TA.drop
    rw [hat]
    by_cases hg : xi.gn < X.T.G
    · simp [hg]
    · simp [hg]
  have f : FrG [145, 150, 29, 112, 31] Q w W2 := (f1.mono (by decide) (fun _ h => h)).trans (f2.mono (T' := [145, 150, 29, 112, 31]) (by decide) (fun _ h => h)) (fun k hk => .inl (hqa k hk).1)
  have hs1 := f1.size
  have hs2 := f2.size
  refine ⟨h.killed hi hil hiu hid hd.1 hd.2.1 hd.2.2 f (f2.blk hblk (by decide)) ha2 (fun k hk => ?_) (fun k hk e => ?_) ?_ ?_ hfq, f⟩
  · rcases hk with hk | hk
    · exact ⟨.inl (hqa k hk).1, by have := (hqa k hk).2; omega⟩
    · exact ⟨.inr ⟨by omega, hk.2⟩, hk.2⟩
  · rcases e with e | e
    · exact hqh k hk e
    · obtain ⟨hc, hr⟩ := h.rw.had.1
      have := (hr.lt k hk).2
      omega
  · obtain ⟨hc, hr⟩ := h.rw.had.1
    exact ⟨hc, f2.rowQ (f1.row hr (by decide)) hqh⟩
  · obtain ⟨fc, hr⟩ := hfre
    exact ⟨fc, f2.row hr (by decide)⟩
theorem TreeAt.freeRow (h : TreeAt B Q w tb X) {w2 w4 : World} {m : Nat} {fv : Value} {fc xs : List Value} {c : Obj} {Qa : Nat → Prop} (hl : Below w.heap.size w w2) (hb2 : ∃ cs, w2.heap[w.heap.size]? = some (.cells cs 31 (0, 0)) ∧ bx = some (.cells cs 31 (0, 0))) (hfv : X.fv = fv)
    (hown : w2.ownsRow B 31 2 fv m fc) (hgrow : (w2.alloc c).drew.grownBy w4 fv.ownBlock) {gg cap : Nat} (hown1 : w4.ownsRow B 31 2 (.slice (some ⟨gg, 0, none⟩) (m + 1) cap) (m + 1) xs) (hat : fv.ownBlock = some gg ∨ gg = w2.heap.size + 1)
    (ha : ArNOf B Qa w X.ab X.T) :
    let W := w4.setCell ⟨tb, 5, none⟩ (.slice (some ⟨gg, 0, none⟩) (m + 1) cap)
    FrG [31, 112] Q w W ∧ ArNOf B Qa W X.ab X.T ∧ W.heap[tb]? = some (.cells #[.pointer (some ⟨X.ab, 0, none⟩), .int .u64 (X.F.length : Int), .int .i64 (X.T.S : Int), .int .i64 (X.T.G : Int), X.hv, .slice (some ⟨gg, 0, none⟩) (m + 1) cap] 112 (0, 0)) ∧
    (∃ fc, W.ownsRow B 31 2 (.slice (some ⟨gg, 0, none⟩) (m + 1) cap) (m + 1) fc) ∧ (∀ k, (Value.slice (some ⟨gg, 0, none⟩) (m + 1) cap).ownBlock = some k → Q k ∨ w.heap.size ≤ k) ∧ W.heap[w.heap.size]? = bx := by
  obtain ⟨cs, hb2, rfl⟩ := hb2
  subst hfv
  intro W
  have hq := h.rw.fre.2
  have hs := hl.size
  have f1 : FrG [31, 112] Q w ((w2.alloc c).drew) := ((FrG.of_below hl).alloc c).drew
  have f2 : FrG [31, 112] Q w w4 := f1.append ((hown.alloc c).drew) (fun k hk => .inl (hq k hk)) (by decide) hgrow
  have hb4 := (f2.mono (T' := [31, 112]) (by decide) (fun _ h => h))
  have hrb : X.fv.ownBlock ≠ some tb := (row_ne hown ((hl.block _ (lt_of_some h.rw.blk)).trans h.rw.blk) (by decide)).symm
  have hblk : w4.heap[tb]? = some (.cells #[.pointer (some ⟨X.ab, 0, none⟩), .int .u64 (X.F.length : Int), .int .i64 (X.T.S : Int), .int .i64 (X.T.G : Int), X.hv, X.fv] 112 (0, 0)) := by
    have e0 := (hl.block _ (lt_of_some h.rw.blk)).trans h.rw.blk
    exact (hgrow.block tb (by simp; have := lt_of_some e0; omega) (fun e => hrb e.symm)).trans (alloc_blk e0 _)
  have f3 : FrG [112] (fun k => k = tb) w4 W := (FrG.refl [112] (fun k => k = tb) w4).set (a := ⟨tb, 5, none⟩) (.inl rfl) hblk (List.mem_singleton.2 rfl) _
  have f4 : FrG [31, 112] Q w W := f2.set (a := ⟨tb, 5, none⟩) (.inl h.rw.own.1) hblk (by decide) _
  have hne : X.fv.ownBlock ≠ some w.heap.size := fun e => by
    obtain ⟨fc0, hr⟩ := h.rw.fre.1
    have := hr.lt _ e
    omega
  have hbox : w4.heap[w.heap.size]? = some (.cells cs 31 (0, 0)) := (hgrow.block _ (by simp; have := lt_of_some hb2; omega) (fun e => hne e.symm)).trans (alloc_blk hb2 _)
  refine ⟨f4, ha.kept f4 (by decide) (by decide) (by decide), set_blk hblk 5 _, ⟨_, f3.row hown1 (by decide)⟩, ?_, ?_⟩
  · intro k hk
    cases hk
    rcases hat with e | e
    · exact .inl (hq _ e)
    · exact .inr (by show w.heap.size ≤ gg; omega)
  · exact f3.blkQ hbox (by intro e; have := lt_of_some h.rw.blk; omega)
set_option maxHeartbeats 8000000 in
theorem drop_ok (h : TreeAt B Q w tb X) {i : Nat} {xi : FN} (hi : X.F[i]? = some xi) (hil : xi.live = true) (hiu : xi.up = none) (hid : xi.down = []) :
    Calls Tryd.prog 74 #[.pointer (some ⟨tb, 0, none⟩), .agg #[.int .u32 (xi.sl : Int), .int .u32 (xi.gn : Int)]] w fun e w' => ∃ fv : Value, e = .returned (.int .i64 0) ∧
      TreeAt B (fun k => Q k ∨ w.heap.size ≤ k ∧ k < w'.heap.size) w' tb ⟨Kill X.F i, X.M, (X.T.drop none xi.sl xi.gn).1, X.ab, X.hv, fv⟩ ∧ FrG [145, 150, 29, 112, 31] Q w w' := by
  obtain ⟨nbc, Pc, hmc, hat, hsl, hs2, hg2⟩ := h.rw.at_live hi hil
  have hnc := (h.rw.node i xi nbc Pc hi hil hmc).2.2.1
  obtain ⟨Qa, ha, hqa, hqh⟩ := h.rw.ar
  have hG := ha.ok.G2
  have hfree : X.T.free.length ≤ 2147483647 := by have h0 := ha.ok.sum; have h1 := ha.ok.len; have h2 := ha.ok.S2; simp [TA.ar] at h0 h1 h2; omega
  obtain ⟨fv0, hfv⟩ : ∃ v, X.fv = v := ⟨_, rfl⟩
  have hGG : X.T.G ≤ 4294967295 := hG
  have huo : toH X.F i 0 = (0, 0) := by unfold toH; show hd X.F (upOf X.F i) = _; unfold upOf; rw [hi]; show hd X.F xi.up = _; rw [hiu]; rfl
  have hdo : toH X.F i 1 = (0, 0) := by unfold toH; show hd X.F (dnOf X.F (some i)).head? = _; unfold dnOf; simp [hi, hid]; rfl
  have HT := Lib.hid h
  have HQ := Lib.hid (And.intro ha (And.intro hqa hqh))
  have HDONE : Hid (∀ (W1 W2 : World) (fv : Value), FrG [31, 112] Q w W1 → ArNOf B Qa W1 X.ab X.T →
      W1.heap[tb]? = some (.cells #[.pointer (some ⟨X.ab, 0, none⟩), .int .u64 (X.F.length : Int), .int .i64 (X.T.S : Int), .int .i64 (X.T.G : Int), X.hv, fv] 112 (0, 0)) →
      (∃ fc, W1.ownsRow B 31 2 fv (X.T.drop none xi.sl xi.gn).1.free.length fc) → (∀ k, fv.ownBlock = some k → Q k ∨ w.heap.size ≤ k) →
      ArNOf B (fun k => Qa k ∨ W1.heap.size ≤ k ∧ k < W2.heap.size) W2 X.ab (X.T.drop none xi.sl xi.gn).1 → FrG [145, 150, 29] Qa W1 W2 →
      TreeAt B (fun k => Q k ∨ w.heap.size ≤ k ∧ k < W2.heap.size) W2 tb ⟨Kill X.F i, X.M, (X.T.drop none xi.sl xi.gn).1, X.ab, X.hv, fv⟩ ∧ FrG [145, 150, 29, 112, 31] Q w W2) :=
    Lib.hid (fun W1 W2 fv f1 a1 b1 r1 q1 a2 f2 => h.freed hi hil hiu hid f1 a1 hqa hqh b1 r1 q1 a2 f2)
  have HFREE : Hid (∀ W, ArNOf B Qa W X.ab X.T → Calls Tryd.prog 103 #[.pointer (some ⟨X.ab, 0, none⟩), .agg #[.int .u32 (xi.sl : Int), .int .u32 (xi.gn : Int)]] W fun e w' => e = .returned (.int .i64 0) ∧ ArNOf B (fun k => Qa k ∨ W.heap.size ≤ k ∧ k < w'.heap.size) w' X.ab (X.T.drop none xi.sl xi.gn).1 ∧ FrG [145, 150, 29] Qa W w') := Lib.hid (fun W hW => by
    have := arNTop_free hW xi.sl xi.gn (by omega) (by omega)
    have e2 : (X.T.drop (none : Option Addr) xi.sl xi.gn).2 = 0 := by
      unfold TA.drop; rw [hat]; by_cases hg : xi.gn < X.T.G <;> simp [hg]
    rw [e2] at this
    exact this)
  have HFL : Hid (xi.gn < X.T.G → (X.T.drop (none : Option Addr) xi.sl xi.gn).1.free.length = X.T.free.length + 1) := Lib.hid (fun hg => by unfold TA.drop; rw [hat]; simp [hg])
  have HFN : Hid (¬ xi.gn < X.T.G → (X.T.drop (none : Option Addr) xi.sl xi.gn).1.free.length = X.T.free.length) := Lib.hid (fun hg => by unfold TA.drop; rw [hat]; simp [hg])
  have HGc : Hid (∀ W, Below w.heap.size w W → Calls Tryd.prog 76 #[.pointer (some ⟨X.ab, 0, none⟩), .agg #[.int .u32 (xi.sl : Int), .int .u32 (xi.gn : Int)]] W fun e w' => e = .returned (.tuple #[.pointer (some ⟨nbc, 0, none⟩), .int .i64 0]) ∧ Below W.heap.size W w') := Lib.hid (fun W bb => (h.rw.below bb).get_live hi hil hmc)
  have HC : Hid (∀ (W : World), Below w.heap.size w W → W.heap[nbc]? = some (.cells (ncells Pc (toH X.F i) (i + 1)) 120 (0, 0))) := Lib.hid (fun W bb => (bb.block _ (lt_of_some hnc)).trans hnc)
  have HTB : Hid (∀ (W : World), Below w.heap.size w W → W.heap[tb]? = some (.cells #[.pointer (some ⟨X.ab, 0, none⟩), .int .u64 (X.F.length : Int), .int .i64 (X.T.S : Int), .int .i64 (X.T.G : Int), X.hv, X.fv] 112 (0, 0))) := Lib.hid (fun W bb => (bb.block _ (lt_of_some h.rw.blk)).trans h.rw.blk)
  have HLT := Lib.hid (And.intro huo hdo)
  have qz : hEq 0 0 0 0 = true := hEq_true rfl rfl
  obtain ⟨G, hGe⟩ : ∃ G, G = X.T.G := ⟨_, rfl⟩
  obtain ⟨m, hme⟩ : ∃ m, m = X.T.free.length := ⟨_, rfl⟩
  rw [← hGe] at HFL HFN hGG
  rw [← hme] at HFL HFN hfree
  have HGE := Lib.hid (And.intro hGe (And.intro hme hfv))
  obtain ⟨s, hs⟩ : ∃ s, s = xi.sl := ⟨_, rfl⟩
  obtain ⟨g, hg⟩ : ∃ g, g = xi.gn := ⟨_, rfl⟩
  have ltb := lt_of_some h.rw.blk
  clear hmc hat hnc ha hqa hqh hG huo hdo hGe hme hfv hiu hid hi hil h
  generalize X.T.drop (none : Option Addr) xi.sl xi.gn = TD at *
  rw [← hs] at HFREE HGc hs2 hsl ⊢
  rw [← hg] at HFREE HGc HFL HFN hg2 ⊢
  clear hs hg
  obtain ⟨V, hV⟩ : ∃ V, V = w.alloc (.cells #[.int .u32 (s : Int), .int .u32 (g : Int)] 31) := ⟨_, rfl⟩
  have bV : Below w.heap.size w V := by rw [hV]; exact (by repeat (first | exact Below.refl _ _ | assumption | refine Below.drew ?_ | refine below_drewN ?_ _ | refine Below.alloc ?_ (by simp <;> omega) _ | refine Below.setCell ?_ (by simp <;> omega) _ | (apply bl_trans; assumption; (simp <;> omega))))
  have hx : V.heap[w.heap.size]? = some (.cells #[.int .u32 (s : Int), .int .u32 (g : Int)] 31 (0, 0)) := by rw [hV]; exact Go.heap_alloc_new w _
  have HX := Lib.hid (And.intro hx bV)
  have HSW : Hid (∀ W, Below V.heap.size V W → (W.cell? ⟨tb, 0, none⟩ = some (.pointer (some ⟨X.ab, 0, none⟩)) ∧ W.cell? ⟨w.heap.size, 0, none⟩ = some (.int .u32 (s : Int)) ∧ W.cell? ⟨w.heap.size, 1, none⟩ = some (.int .u32 (g : Int))) ∧ Below w.heap.size w W ∧ W.heap[w.heap.size]? = some (.cells #[.int .u32 (s : Int), .int .u32 (g : Int)] 31 (0, 0))) := Lib.hid (fun W bb => by
    have hx2 := (bb.block _ (lt_of_some HX.out.1)).trans HX.out.1
    have hl := HX.out.2.trans (bb.mono HX.out.2.size)
    exact ⟨⟨cell_blk (HTB.out W hl) 0 rfl, cell_blk hx2 0 rfl, cell_blk hx2 1 rfl⟩, hl, hx2⟩)
  have HD0 : Hid (Below V.heap.size V V.drew) := Lib.hid (Below.refl _ _).drew
  have hV2 := hV
  clear hV hx bV
  go_enter Tryd.func74, Tryd.ntmps74
  go_wp2_with fail
  rw [← hV2]
  clear hV2
  go_region_held3 (fun W => (W.cell? ⟨tb, 0, none⟩ = some (.pointer (some ⟨X.ab, 0, none⟩)) ∧ W.cell? ⟨w.heap.size, 0, none⟩ = some (.int .u32 (s : Int)) ∧ W.cell? ⟨w.heap.size, 1, none⟩ = some (.int .u32 (g : Int)))) (first | exact (HSW.out _ HD0.out).1 | exact (HSW.out _ HB1.out).1) (first | (go_at_call 76; refine (HGc.out _ (HSW.out _ HD0.out).2.1).mono ?_; rintro e w1 ⟨rfl, b1⟩; have HB1 := Lib.hid (HD0.out.trans (b1.mono HD0.out.size))))
  clear b1 HD0
  have n6 : w1.cell? ⟨nbc, 6, none⟩ = some (.int .u32 ((toH X.F i 0).1 : Int)) := cell_blk (HC.out w1 (HSW.out _ HB1.out).2.1) 6 rfl
  have n7 : w1.cell? ⟨nbc, 7, none⟩ = some (.int .u32 ((toH X.F i 0).2 : Int)) := cell_blk (HC.out w1 (HSW.out _ HB1.out).2.1) 7 rfl
  have n8 : w1.cell? ⟨nbc, 8, none⟩ = some (.int .u32 ((toH X.F i 1).1 : Int)) := cell_blk (HC.out w1 (HSW.out _ HB1.out).2.1) 8 rfl
  have n9 : w1.cell? ⟨nbc, 9, none⟩ = some (.int .u32 ((toH X.F i 1).2 : Int)) := cell_blk (HC.out w1 (HSW.out _ HB1.out).2.1) 9 rfl
  rw [HLT.out.1] at n6 n7
  rw [HLT.out.2] at n8 n9
  simp at n6 n7 n8 n9
  go_upto_region 6 with fail
  clear n6 n7 n8 n9
  obtain ⟨⟨y0, y1, y2⟩, hlow, hbx⟩ := HSW.out _ HB1.out
  have k3 : w1.cell? ⟨tb, 3, none⟩ = some (.int .i64 (G : Int)) := by rw [HGE.out.1]; exact cell_blk (HTB.out w1 hlow) 3 rfl
  have q1 : IntKind.i64.wrap (g : Int) = (g : Int) := IntWalk.i64_in _ (by omega)
  have HB1L := Lib.hid (And.intro hlow hbx)
  clear hlow hbx
  by_cases hgG : g < G
  · have q2 : decide (g < G) = true := by simp; omega
    go_quiet (fail)
    have HB2 : Hid (Below V.heap.size V (w1.drewN nq)) := Lib.hid (below_drewN HB1.out nq)
    generalize w1.drewN nq = w2 at HB2 ⊢
    clear y0 y1 y2 k3 HB1 HB1L q1
    obtain ⟨⟨y0, y1, y2⟩, hlow, hbx⟩ := HSW.out _ HB2.out
    have k5 : w2.cell? ⟨tb, 5, none⟩ = some fv0 := by rw [← HGE.out.2.2]; exact cell_blk (HTB.out w2 hlow) 5 rfl
    have f5 := free_blk (HTB.out w2 hlow) 5
    obtain ⟨fc, hrow⟩ := (HT.out.rw.below hlow).fre.1
    rw [← HGE.out.2.1, HGE.out.2.2] at hrow
    have hB2 : B ≤ w2.heap.size := Nat.le_trans HT.out.rw.own.2 (Nat.le_of_lt (lt_of_some (HTB.out w2 hlow)))
    obtain ⟨i0, hi0, hz0, hz1, hz2⟩ := info_parts infoH
    have HLOW := Lib.hid (And.intro hlow hbx)
    clear hlow hbx
    have HROW := Lib.hid hrow
    have hnew : (w2.alloc (.cells #[.int .u32 (s : Int), .int .u32 (g : Int)] 31)).heap[w2.heap.size]? = some (.cells #[.int .u32 (s : Int), .int .u32 (g : Int)] 31 (0, 0)) := Go.heap_alloc_new w2 _
    have htb := HTB.out w2 HLOW.out.1
    have HTB2 := Lib.hid htb
    have ltb2 : tb < w2.heap.size := lt_of_some htb
    clear htb
    go_wp2_with fail
    go_region_law ((refine step_append_lies _ (by rfl) _ _ 70 (by rfl) B 31 i0 _ 2 8 Tryd.underlying70 hi0 hz0 hz1 hz2 rfl (by omega) fv0 m _ (by rfl) ((hrow.alloc _).drew) ⟨w2.heap.size, 0, none⟩ 1 1 [.int .u32 (s : Int), .int .u32 (g : Int)] (by rfl) (by rfl) (World.news_of_block (cs := #[.int .u32 (s : Int), .int .u32 (g : Int)]) (t := 31) (fr := (0, 0)) hnew) (by simp [Value.oneCell']) (by omega) (by unfold maxLen; omega) (by omega) (by simp; omega) (w2.heap.size + 1) (by simp) ?_; intro gg cap1 w4 hown1 hgrow hat hlt; have nb1 := (hgrow.block tb (by simp; omega) (row_ne HROW.out HTB2.out (by decide))).trans (alloc_blk HTB2.out _); have x1 := cell_blk nb1 5 rfl; have x2 := free_blk nb1 5))
    all_goals have HZ := Lib.hid (HT.out.freeRow (bx := some (.cells #[.int .u32 (s : Int), .int .u32 (g : Int)] 31 (0, 0))) HLOW.out.1 ⟨_, HLOW.out.2, rfl⟩ HGE.out.2.2 HROW.out hgrow hown1 hat HQ.out.1)
    all_goals clear hgrow hown1 hat nb1 hrow hnew k5 f5
    all_goals go_wp2_with fail
    all_goals generalize w4.setCell ⟨tb, 5, none⟩ (.slice (some ⟨gg, 0, none⟩) (m + 1) cap1) = w5 at HZ ⊢
    all_goals clear x1 x2
    all_goals have HS5 : Hid (w5.drew.cell? ⟨tb, 0, none⟩ = some (.pointer (some ⟨X.ab, 0, none⟩)) ∧ w5.drew.cell? ⟨w.heap.size, 0, none⟩ = some (.int .u32 (s : Int)) ∧ w5.drew.cell? ⟨w.heap.size, 1, none⟩ = some (.int .u32 (g : Int))) := Lib.hid ⟨cell_blk HZ.out.2.2.1 0 rfl, cell_blk HZ.out.2.2.2.2.2 0 rfl, cell_blk HZ.out.2.2.2.2.2 1 rfl⟩
    all_goals go_region_held3 (fun W => (W.cell? ⟨tb, 0, none⟩ = some (.pointer (some ⟨X.ab, 0, none⟩)) ∧ W.cell? ⟨w.heap.size, 0, none⟩ = some (.int .u32 (s : Int)) ∧ W.cell? ⟨w.heap.size, 1, none⟩ = some (.int .u32 (g : Int)))) (first | exact HS5.out | exact HS3.out) (first | (go_at_call 103; refine (HFREE.out w5.drew (HZ.out.2.1.below (Below.refl _ _).drew)).mono ?_; rintro e w3 ⟨rfl, a3, f3⟩; have HA3 := Lib.hid (And.intro a3 f3); have hx3 := f3.blk (w := w5.drew) HZ.out.2.2.2.2.2 (by decide); have ht3 := f3.blk (w := w5.drew) HZ.out.2.2.1 (by decide); have HS3 := Lib.hid (And.intro (cell_blk ht3 0 rfl) (And.intro (cell_blk hx3 0 rfl) (cell_blk hx3 1 rfl)))))
    all_goals clear a3 f3 hx3 ht3
    all_goals go_wp2_with fail
    all_goals go_ret
    all_goals exact ⟨_, rfl, HDONE.out w5.drew w3 (.slice (some ⟨gg, 0, none⟩) (m + 1) cap1) HZ.out.1.drew (HZ.out.2.1.below (Below.refl _ _).drew) HZ.out.2.2.1 (by rw [HFL.out hgG]; obtain ⟨fc5, hr5⟩ := HZ.out.2.2.2.1; exact ⟨fc5, hr5.drew⟩) HZ.out.2.2.2.2.1 HA3.out.1 HA3.out.2⟩
  · have q2 : decide (g < G) = false := by simp; omega
    go_quiet (fail)
    have HB2 : Hid (Below V.heap.size V (w1.drewN nq)) := Lib.hid (below_drewN HB1.out nq)
    generalize w1.drewN nq = w2 at HB2 ⊢
    clear y0 y1 y2 k3 HB1 HB1L q1
    have HLOW := Lib.hid (HSW.out _ HB2.out).2
    have HAR2 : Hid (ArNOf B Qa w2 X.ab X.T) := Lib.hid (HQ.out.1.below HLOW.out.1)
    have HD2 : Hid (Below V.heap.size V w2.drew) := Lib.hid HB2.out.drew
    have HF2 : Hid (∃ fc, w2.ownsRow B 31 2 X.fv TD.1.free.length fc) := Lib.hid (by
      rw [HFN.out hgG, HGE.out.2.1]
      exact (HT.out.rw.below HLOW.out.1).fre.1)
    have HD2W : Hid (w2.drew.heap.size = w2.heap.size) := Lib.hid rfl
    go_wp2_with fail
    go_region_held3 (fun W => (W.cell? ⟨tb, 0, none⟩ = some (.pointer (some ⟨X.ab, 0, none⟩)) ∧ W.cell? ⟨w.heap.size, 0, none⟩ = some (.int .u32 (s : Int)) ∧ W.cell? ⟨w.heap.size, 1, none⟩ = some (.int .u32 (g : Int)))) (first | exact (HSW.out _ HD2.out).1 | exact HS3.out) (first | (go_at_call 103; refine (HFREE.out w2.drew (HAR2.out.below (Below.refl _ _).drew)).mono ?_; rintro e w3 ⟨rfl, a3, f3⟩; have HA3 := Lib.hid (And.intro a3 f3); have hx3 := f3.blk ((HSW.out _ HD2.out).2.2) (by decide); have ht3 := f3.blk (HTB.out w2.drew (HSW.out _ HD2.out).2.1) (by decide); have HS3 := Lib.hid (And.intro (cell_blk ht3 0 rfl) (And.intro (cell_blk hx3 0 rfl) (cell_blk hx3 1 rfl)))))
    clear a3 f3 hx3 ht3
    go_wp2_with fail
    go_ret
    exact ⟨X.fv, rfl, HDONE.out w2.drew w3 X.fv (FrG.of_below (HSW.out _ HD2.out).2.1) (HAR2.out.below (Below.refl _ _).drew) (HTB.out w2.drew (HSW.out _ HD2.out).2.1) HF2.out (fun k hk => .inl (HT.out.rw.fre.2 k hk)) HA3.out.1 HA3.out.2⟩
end
structure NoneAt (w : World) : Prop where
  a : w.cell? ⟨0, 0, none⟩ = some (.int .u32 0)
  b : w.cell? ⟨0, 1, none⟩ = some (.int .u32 0)
theorem NoneAt.below {w w' : World} (h : NoneAt w) (b : Below w.heap.size w w') : NoneAt w' := ⟨(b.cell (p := ⟨0, 0, none⟩) (cell_lt h.a)).trans h.a, (b.cell (p := ⟨0, 1, none⟩) (cell_lt h.b)).trans h.b⟩
theorem NoneAt.lt {w : World} (h : NoneAt w) : 0 < w.heap.size := cell_lt h.a
def hcell (F : For) (k : Nat) : List Value := [.int .u32 ((hd F (some k)).1 : Int), .int .u32 ((hd F (some k)).2 : Int)]
def hcells (F : For) (l : List Nat) : List Value := l.flatMap (hcell F)
section
variable {B : Nat} {Q : Nat → Prop} {w w' : World} {tb : Nat} {X : TX}
end
section
variable {B : Nat} {Q : Nat → Prop} {w w' : World} {tb : Nat} {X : TX}
end
end Go.Proofs.YtelhnaphkbpakaaDoor
namespace Go.Proofs.YtelhnaphkbpakaaDoor
set_option linter.unusedVariables false
def pre (F : For) : Nat → Nat → List Nat
  | 0, k => [k]
  | n + 1, k => k :: (dnOf F (some k)).flatMap (pre F n)
def preD (F : For) (k : Nat) : List Nat := pre F F.length k
theorem FOk.kid_up {F : For} (h : FOk F) {k c : Nat} (hc : c ∈ dnOf F (some k)) : upOf F c = some k ∧ c < F.length := by
  unfold dnOf at hc
  simp only [Option.bind_some] at hc
  cases hk : F[k]? with
  | none => rw [hk] at hc; cases hc
  | some y =>
    rw [hk] at hc
    obtain ⟨x, hx, hu, _⟩ := h.dn k y hk c hc
    exact ⟨by unfold upOf; rw [hx]; exact hu, (List.getElem?_eq_some_iff.1 hx).1⟩
theorem Chain.kid {F : For} {k c : Nat} {l : List Nat} (h : Chain F k l) (hu : upOf F c = some k) : Chain F c (c :: l) := by
  unfold upOf at hu
  obtain ⟨x, hx, e⟩ := Option.bind_eq_some_iff.1 hu
  exact .up hx e h
theorem flatMap_cg {l : List Nat} {f g : Nat → List Nat} (h : ∀ c ∈ l, f c = g c) : l.flatMap f = l.flatMap g := by
  induction l with
  | nil => rfl
  | cons x l ih => rw [List.flatMap_cons, List.flatMap_cons, h x (by simp), ih (fun c hc => h c (List.mem_cons_of_mem _ hc))]
theorem pre_stable {F : For} (ok : FOk F) : ∀ (n k : Nat) (l : List Nat), Chain F k l → F.length ≤ n + l.length → pre F n k = pre F (n + 1) k := by
  intro n
  induction n with
  | zero =>
    intro k l hc hl
    show [k] = k :: (dnOf F (some k)).flatMap (pre F 0)
    have : dnOf F (some k) = [] := by
      cases e : dnOf F (some k) with
      | nil => rfl
      | cons c t =>
        have h1 := hc.kid (ok.kid_up (k := k) (c := c) (by rw [e]; simp)).1
        have := h1.len
        simp at this hl
        omega
    rw [this]; rfl
  | succ n ih =>
    intro k l hc hl
    show k :: (dnOf F (some k)).flatMap (pre F n) = k :: (dnOf F (some k)).flatMap (pre F (n + 1))
    congr 1
    refine flatMap_cg (fun c hm => ?_)
    exact ih c (c :: l) (hc.kid (ok.kid_up hm).1) (by simp; omega)
theorem preD_eq {F : For} (ok : FOk F) {k : Nat} (hk : k < F.length) : preD F k = k :: (dnOf F (some k)).flatMap (preD F) := by
  obtain ⟨l, hl⟩ := ok.acyc k _ (List.getElem?_eq_getElem hk)
  unfold preD
  exact pre_stable ok _ k l hl (by omega)
theorem FOk.kids_ind {F : For} (ok : FOk F) {P : Nat → Prop} (h : ∀ k, k < F.length → (∀ c ∈ dnOf F (some k), P c) → P k) : ∀ k, k < F.length → P k := by
  have : ∀ n k l, Chain F k l → F.length ≤ n + l.length → P k := by
    intro n
    induction n with
    | zero =>
      intro k l hc hl
      refine h k (hc.mem_lt k (by obtain ⟨t, ht⟩ := hc.ne_nil; rw [ht]; simp)) (fun c hm => ?_)
      have h1 := (hc.kid (ok.kid_up hm).1).len
      simp at h1 hl
      omega
    | succ n ih =>
      intro k l hc hl
      refine h k (hc.mem_lt k (by obtain ⟨t, ht⟩ := hc.ne_nil; rw [ht]; simp)) (fun c hm => ?_)
      exact ih c (c :: l) (hc.kid (ok.kid_up hm).1) (by simp; omega)
  intro k hk
  obtain ⟨l, hl⟩ := ok.acyc k _ (List.getElem?_eq_getElem hk)
  exact this F.length k l hl (by omega)
theorem preD_self {F : For} (ok : FOk F) {k : Nat} (hk : k < F.length) : k ∈ preD F k := by rw [preD_eq ok hk]; simp
theorem preD_lt {F : For} (ok : FOk F) {k m : Nat} (hk : k < F.length) : m ∈ preD F k → m < F.length := by
  refine ok.kids_ind (P := fun k => m ∈ preD F k → m < F.length) (fun k hk ih hm => ?_) k hk
  rw [preD_eq ok hk] at hm
  rcases List.mem_cons.1 hm with rfl | hm
  · exact hk
  · obtain ⟨c, hc, hm⟩ := List.mem_flatMap.1 hm
    exact ih c hc hm
theorem mem_preD {F : For} (ok : FOk F) {k m : Nat} {l : List Nat} (hk : k < F.length) (hl : Chain F m l) : m ∈ preD F k ↔ k ∈ l := by
  constructor
  · revert m l
    refine ok.kids_ind (P := fun k => ∀ {m l}, Chain F m l → m ∈ preD F k → k ∈ l) (fun k hk ih m l hl hm => ?_) k hk
    rw [preD_eq ok hk] at hm
    rcases List.mem_cons.1 hm with rfl | hm
    · obtain ⟨t, ht⟩ := hl.ne_nil; rw [ht]; simp
    · obtain ⟨c, hc, hm⟩ := List.mem_flatMap.1 hm
      have h1 := ih c hc hl hm
      obtain ⟨a, b, e⟩ := List.append_of_mem h1
      have h2 := hl.at e
      obtain ⟨hu, _⟩ := ok.kid_up hc
      unfold upOf at hu
      obtain ⟨x, hx, eu⟩ := Option.bind_eq_some_iff.1 hu
      cases h2 with
      | root hx' hu' => rw [hx] at hx'; cases hx'; rw [eu] at hu'; cases hu'
      | up hx' hu' hc' =>
        rw [hx] at hx'; cases hx'; rw [eu] at hu'; cases hu'
        obtain ⟨t, ht⟩ := hc'.ne_nil
        rw [e, ht]; simp
  · intro hm
    have key : ∀ {m : Nat} {l : List Nat}, Chain F m l → k ∈ l → m ∈ preD F k := by
      intro m l h
      induction h with
      | @root m x hx hu => intro hm; simp at hm; subst hm; exact preD_self ok hk
      | @up m u x l hx hu hc ih =>
        intro hm
        rcases List.mem_cons.1 hm with rfl | hm
        · exact preD_self ok hk
        · have h1 := ih hm
          -- u is beneath k; m is a child of u
          have hcu : m ∈ dnOf F (some u) := by
            obtain ⟨y, hy, _, h3⟩ := ok.upd m x u hx hu
            unfold dnOf; simp [hy]; exact h3
          have hul : u < F.length := preD_lt ok hk h1
          have : ∀ k, k < F.length → u ∈ preD F k → m ∈ preD F k := by
            refine ok.kids_ind (fun k hk ih hm => ?_)
            rw [preD_eq ok hk] at hm ⊢
            rcases List.mem_cons.1 hm with rfl | hm
            · exact List.mem_cons_of_mem _ (List.mem_flatMap.2 ⟨m, hcu, preD_self ok (ok.kid_up hcu).2⟩)
            · obtain ⟨c, hc, hm⟩ := List.mem_flatMap.1 hm
              exact List.mem_cons_of_mem _ (List.mem_flatMap.2 ⟨c, hc, ih c hc hm⟩)
          exact this k hk h1
    exact key hl hm
theorem preD_nodup {F : For} (ok : FOk F) : ∀ k, k < F.length → (preD F k).Nodup := by
  refine ok.kids_ind (fun k hk ih => ?_)
  rw [preD_eq ok hk]
  obtain ⟨lk, hlk⟩ := ok.acyc k _ (List.getElem?_eq_getElem hk)
  refine List.nodup_cons.2 ⟨fun hm => ?_, ?_⟩
  · obtain ⟨c, hc, hm⟩ := List.mem_flatMap.1 hm
    have h1 := (mem_preD ok (ok.kid_up hc).2 hlk).1 hm
    have h2 := (hlk.kid (ok.kid_up hc).1).nodup
    exact (List.nodup_cons.1 h2).1 h1
  · have hnd : (dnOf F (some k)).Nodup := by
      unfold dnOf
      simp only [Option.bind_some]
      cases hy : F[k]? with
      | none => exact List.nodup_nil
      | some y => exact ok.nd k y hy
    have hkid : ∀ c ∈ dnOf F (some k), upOf F c = some k ∧ c < F.length := fun c hc => ok.kid_up hc
    revert ih hnd hkid
    generalize dnOf F (some k) = cs
    intro ih hnd hkid
    induction cs with
    | nil => simp
    | cons c cs ihc =>
      rw [List.flatMap_cons]
      have h1 := List.nodup_cons.1 hnd
      refine List.nodup_append.2 ⟨ih c (by simp), ihc (fun d hd => ih d (List.mem_cons_of_mem _ hd)) h1.2 (fun d hd => hkid d (List.mem_cons_of_mem _ hd)), ?_⟩
      rintro m hm m' hm' rfl
      obtain ⟨d, hd, hm'⟩ := List.mem_flatMap.1 hm'
      have hcl := (hkid c (by simp)).2
      have hdl := (hkid d (List.mem_cons_of_mem _ hd)).2
      have hml := preD_lt ok hcl hm
      obtain ⟨l, hl⟩ := ok.acyc m _ (List.getElem?_eq_getElem hml)
      have e1 := (mem_preD ok hcl hl).1 hm
      have e2 := (mem_preD ok hdl hl).1 hm'
      -- both on one way: their rests are one, so they are one
      obtain ⟨a, b, ea⟩ := List.append_of_mem e1
      obtain ⟨a', b', eb⟩ := List.append_of_mem e2
      have k1 := hl.at ea
      have k2 := hl.at eb
      have c1 := k1.det (hlk.kid (hkid c (by simp)).1)
      have c2 := k2.det (hlk.kid (hkid d (List.mem_cons_of_mem _ hd)).1)
      simp at c1 c2
      subst c1 c2
      rw [ea] at eb
      have hlen : a.length = a'.length := by have := congrArg List.length eb; simp at this; omega
      have := (List.append_inj eb hlen).2
      simp at this
      exact h1.1 (this ▸ hd)
end Go.Proofs.YtelhnaphkbpakaaDoor
namespace Go.Proofs.YtelhnaphkbpakaaDoor
open Go.RowKit
set_option linter.unusedVariables false
set_option maxRecDepth 100000
section
variable {B : Nat} {Q : Nat → Prop} {w w' : World} {fb : Nat} {F : For} {R : List RN} {rv : Value}
end
section
variable {B : Nat} {Q : Nat → Prop} {w w' : World} {fb : Nat} {F : For} {R : List RN} {rv : Value}
end
section
variable {B : Nat} {Q : Nat → Prop} {w w' : World} {fb : Nat} {F : For} {R : List RN} {rv : Value}
end
section
variable {B : Nat} {Q : Nat → Prop} {w w' : World} {fb : Nat} {F : For} {R : List RN} {rv : Value}
end
structure MkR (B : Nat) (Qa : Nat → Prop) (w W : World) (X : TX) (N : Nd) (s g len nb c7 : Nat) (P : Nd) : Prop where
  fr : FrG [145, 150, 29] Qa w W
  ar : ArNOf B (fun k => Qa k ∨ w.heap.size ≤ k ∧ k < W.heap.size) W X.ab (X.T.alloc (some ⟨nb, 0, none⟩)).1
  node : W.heap[nb]? = some (.cells (ncells P (fun _ => (0, 0)) (len + 1)) 120 (0, 0))
  box : W.heap[c7]? = some (.cells #[.int .u32 (s : Int), .int .u32 (g : Int)] 31 (0, 0))
  res : W.heap[w.heap.size + 1]? = some (.cells #[.int .u32 0, .int .u32 0] 31 (0, 0))
  far : w.heap.size + 1 < nb ∧ w.heap.size + 1 < c7
  own : Fresh w.heap.size W P
  same : P.Same N
structure MkS (B : Nat) (Q Qa : Nat → Prop) (w W : World) (z tb : Nat) (X : TX) (s g len nb c7 : Nat) (P : Nd) (hv fv : Value) (nh nf : Nat) (r0 r1 : Value) : Prop where
  fr : FrG [145, 150, 29, 112, 31] Q w W
  ar : ArNOf B (fun k => Qa k ∨ w.heap.size ≤ k ∧ k < z) W X.ab (X.T.alloc (some ⟨nb, 0, none⟩)).1
  node : W.heap[nb]? = some (.cells (ncells P (fun _ => (0, 0)) (len + 1)) 120 (0, 0))
  box : W.heap[c7]? = some (.cells #[.int .u32 (s : Int), .int .u32 (g : Int)] 31 (0, 0))
  res : W.heap[w.heap.size + 1]? = some (.cells #[r0, r1] 31 (0, 0))
  far : w.heap.size + 1 < nb ∧ w.heap.size + 1 < c7
  own : Fresh w.heap.size W P
  blk : W.heap[tb]? = some (.cells #[.pointer (some ⟨X.ab, 0, none⟩), .int .u64 ((len : Int) + 1), .int .i64 (X.T.S : Int), .int .i64 (X.T.G : Int), hv, fv] 112 (0, 0))
  qt : Q tb
  had : ∃ hc, W.ownsRow B 29 1 hv nh hc
  hq : ∀ k, hv.ownBlock = some k → (Q k ∨ w.heap.size ≤ k) ∧ ¬ Qa k ∧ (w.heap.size ≤ k → z ≤ k)
  fre : ∃ fc, W.ownsRow B 31 2 fv nf fc
  fq : ∀ k, fv.ownBlock = some k → Q k ∧ k < w.heap.size
  zz : z ≤ W.heap.size ∧ w.heap.size + 1 < z
  qa : ∀ k, Qa k → Q k ∧ k < w.heap.size
section
variable {B : Nat} {Q Qa : Nat → Prop} {w W W' : World} {z tb : Nat} {X : TX} {s g len nb c7 : Nat} {P : Nd} {hv fv : Value} {nh nf : Nat} {r0 r1 : Value}
theorem MkS.below (h : MkS B Q Qa w W z tb X s g len nb c7 P hv fv nh nf r0 r1) (b : Below W.heap.size W W') : MkS B Q Qa w W' z tb X s g len nb c7 P hv fv nh nf r0 r1 := by
  have f : FrG [] (fun _ => False) W W' := FrG.of_below b
  exact ⟨h.fr.andBelow b, h.ar.below b, f.blk h.node (by simp), f.blk h.box (by simp), f.blk h.res (by simp), h.far, h.own.below b, f.blk h.blk (by simp), h.qt, by obtain ⟨hc, hr⟩ := h.had; exact ⟨hc, f.row hr (by simp)⟩, h.hq, by obtain ⟨fc, hr⟩ := h.fre; exact ⟨fc, f.row hr (by simp)⟩, h.fq, ⟨Nat.le_trans h.zz.1 b.size, h.zz.2⟩, h.qa⟩
theorem mks_start (h : TreeAt B Q w tb X) {N : Nd} (hqa : ∀ k, Qa k → Q k ∧ k < w.heap.size) (hqh : ∀ k, X.hv.ownBlock = some k → ¬ Qa k) (hm : MkR B Qa w W X N s g len nb c7 P) (hlen : len = X.F.length) (hz : w.heap.size + 1 < W.heap.size) :
    MkS B Q Qa w (W.setCell ⟨tb, 1, none⟩ (.int .u64 ((len : Int) + 1))) W.heap.size tb X s g len nb c7 P X.hv X.fv X.T.all.length X.T.free.length (.int .u32 0) (.int .u32 0) := by
  have hb := hm.fr.blk h.rw.blk (by decide)
  have f1 : FrG [112] (fun k => k = tb) W (W.setCell ⟨tb, 1, none⟩ (.int .u64 ((len : Int) + 1))) := (FrG.refl [112] (fun k => k = tb) W).set (a := ⟨tb, 1, none⟩) (.inl rfl) hb (List.mem_singleton.2 rfl) _
  refine ⟨(hm.fr.mono (T' := [145, 150, 29, 112, 31]) (by decide) (fun k hk => (hqa k hk).1)).set (a := ⟨tb, 1, none⟩) (.inl h.rw.own.1) hb (by decide) _, hm.ar.kept f1 (by decide) (by decide) (by decide), f1.blk hm.node (by decide), f1.blk hm.box (by decide), f1.blk hm.res (by decide), hm.far, hm.own.frg f1 (by decide) (by decide), set_blk hb 1 _, h.rw.own.1, ?_, ?_, ?_, ?_, ⟨by simp, hz⟩, hqa⟩
  · obtain ⟨hc, hr⟩ := h.rw.had.1; exact ⟨hc, f1.row (hm.fr.rowQ hr hqh) (by decide)⟩
  · intro k hk
    obtain ⟨hc, hr⟩ := h.rw.had.1
    have := (hr.lt k hk).2
    exact ⟨.inl (h.rw.had.2 k hk), hqh k hk, fun hh => by omega⟩
  · obtain ⟨fc, hr⟩ := h.rw.fre.1; exact ⟨fc, f1.row (hm.fr.row hr (by decide)) (by decide)⟩
  · intro k hk
    obtain ⟨fc, hr⟩ := h.rw.fre.1
    exact ⟨h.rw.fre.2 k hk, (hr.lt k hk).2⟩
theorem MkS.push (h : MkS B Q Qa w W z tb X s g len nb c7 P hv fv nh nf r0 r1) (hg : W.grownBy W' hv.ownBlock) {gg cap : Nat} {cs : List Value} (ho : W'.ownsRow B 29 1 (.slice (some ⟨gg, 0, none⟩) (nh + 1) cap) (nh + 1) cs) (hat : hv.ownBlock = some gg ∨ z ≤ gg) :
    MkS B Q Qa w (W'.setCell ⟨tb, 4, none⟩ (.slice (some ⟨gg, 0, none⟩) (nh + 1) cap)) z tb X s g len nb c7 P (.slice (some ⟨gg, 0, none⟩) (nh + 1) cap) fv (nh + 1) nf r0 r1 := by
  obtain ⟨hc, hr⟩ := h.had
  have fg : FrG [29] (fun k => hv.ownBlock = some k) W W' := (FrG.refl [29] (fun k => hv.ownBlock = some k) W).append hr (fun k hk => .inl hk) (List.mem_singleton.2 rfl) hg
  have hb := fg.blk h.blk (by decide)
  have f1 : FrG [112] (fun k => k = tb) W' (W'.setCell ⟨tb, 4, none⟩ (.slice (some ⟨gg, 0, none⟩) (nh + 1) cap)) := (FrG.refl [112] (fun k => k = tb) W').set (a := ⟨tb, 4, none⟩) (.inl rfl) hb (List.mem_singleton.2 rfl) _
  have hna : ∀ k, (Qa k ∨ w.heap.size ≤ k ∧ k < z) → ¬ hv.ownBlock = some k := fun k hk e => by
    obtain ⟨_, h2, h3⟩ := h.hq k e
    rcases hk with hk | hk
    · exact h2 hk
    · have := h3 hk.1; omega
  refine ⟨((h.fr.trans (fg.mono (T' := [145, 150, 29, 112, 31]) (by decide) (fun k hk => hk)) (fun k hk => (h.hq k hk).1))).set (a := ⟨tb, 4, none⟩) (.inl h.qt) hb (by decide) _, (h.ar.keptQ fg hna).kept f1 (by decide) (by decide) (by decide), f1.blk (fg.blk h.node (by decide)) (by decide), f1.blk (fg.blk h.box (by decide)) (by decide), f1.blk (fg.blk h.res (by decide)) (by decide), h.far, (h.own.frg fg (by decide) (by decide)).frg f1 (by decide) (by decide), set_blk hb 4 _, h.qt, ⟨cs, f1.row ho (by decide)⟩, ?_, ?_, h.fq, ⟨Nat.le_trans h.zz.1 (by simpa using hg.size), h.zz.2⟩, h.qa⟩
  · intro k hk
    cases hk
    rcases hat with e | e
    · exact h.hq gg e
    · exact ⟨.inr (Nat.le_trans (Nat.le_trans (Nat.le_succ _) (Nat.le_of_lt h.zz.2)) e), fun hq => absurd (h.qa gg hq).2 (Nat.not_lt.2 (Nat.le_trans (Nat.le_trans (Nat.le_succ _) (Nat.le_of_lt h.zz.2)) e)), fun _ => e⟩
  · obtain ⟨fc, hf⟩ := h.fre; exact ⟨fc, f1.row (fg.row hf (by decide)) (by decide)⟩
theorem MkS.pop (h : MkS B Q Qa w W z tb X s g len nb c7 P hv fv nh nf r0 r1) {fv' : Value} {nf' : Nat} (hr : ∃ fc, W.ownsRow B 31 2 fv' nf' fc) (hq : ∀ k, fv'.ownBlock = some k → fv.ownBlock = some k) :
    MkS B Q Qa w (W.setCell ⟨tb, 5, none⟩ fv') z tb X s g len nb c7 P hv fv' nh nf' r0 r1 := by
  have f1 : FrG [112] (fun k => k = tb) W (W.setCell ⟨tb, 5, none⟩ fv') := (FrG.refl [112] (fun k => k = tb) W).set (a := ⟨tb, 5, none⟩) (.inl rfl) h.blk (List.mem_singleton.2 rfl) _
  refine ⟨h.fr.set (a := ⟨tb, 5, none⟩) (.inl h.qt) h.blk (by decide) _, h.ar.kept f1 (by decide) (by decide) (by decide), f1.blk h.node (by decide), f1.blk h.box (by decide), f1.blk h.res (by decide), h.far, h.own.frg f1 (by decide) (by decide), set_blk h.blk 5 _, h.qt, ?_, h.hq, ?_, fun k hk => h.fq k (hq k hk), ⟨by simpa using h.zz.1, h.zz.2⟩, h.qa⟩
  · obtain ⟨hc, hr⟩ := h.had; exact ⟨hc, f1.row hr (by decide)⟩
  · obtain ⟨fc, hr⟩ := hr; exact ⟨fc, f1.row hr (by decide)⟩
theorem MkS.count {gg cap : Nat} (h : MkS B Q Qa w W z tb X s g len nb c7 P (.slice (some ⟨gg, 0, none⟩) nh cap) fv nh nf r0 r1) (i : Nat) (v : Value) :
    MkS B Q Qa w (W.setCell ⟨gg, i, none⟩ v) z tb X s g len nb c7 P (.slice (some ⟨gg, 0, none⟩) nh cap) fv nh nf r0 r1 := by
  obtain ⟨hc, hr⟩ := h.had
  obtain ⟨cur, hcur, _⟩ := ownsRow_blk hr
  have f1 : FrG [29] (fun k => k = gg) W (W.setCell ⟨gg, i, none⟩ v) := (FrG.refl [29] (fun k => k = gg) W).set (a := ⟨gg, i, none⟩) (.inl rfl) hcur (List.mem_singleton.2 rfl) _
  have hna : ∀ k, (Qa k ∨ w.heap.size ≤ k ∧ k < z) → ¬ k = gg := fun k hk e => by
    subst e
    obtain ⟨_, h2, h3⟩ := h.hq k rfl
    rcases hk with hk | hk
    · exact h2 hk
    · have := h3 hk.1; omega
  refine ⟨h.fr.set (a := ⟨gg, i, none⟩) (h.hq gg rfl).1 hcur (by decide) _, h.ar.keptQ f1 hna, f1.blk h.node (by decide), f1.blk h.box (by decide), f1.blk h.res (by decide), h.far, h.own.frg f1 (by decide) (by decide), f1.blk h.blk (by decide), h.qt, ⟨_, (hr.stored i v).1⟩, h.hq, ?_, h.fq, ⟨by simpa using h.zz.1, h.zz.2⟩, h.qa⟩
  obtain ⟨fc, hf⟩ := h.fre; exact ⟨fc, f1.row hf (by decide)⟩
theorem MkS.told (h : MkS B Q Qa w W z tb X s g len nb c7 P hv fv nh nf r0 r1) (a b : Value) :
    MkS B Q Qa w ((W.setCell ⟨w.heap.size + 1, 0, none⟩ a).setCell ⟨w.heap.size + 1, 1, none⟩ b) z tb X s g len nb c7 P hv fv nh nf a b := by
  have h1 := set_blk h.res 0 a
  have f1 : FrG [31] (fun k => k = w.heap.size + 1) W ((W.setCell ⟨w.heap.size + 1, 0, none⟩ a).setCell ⟨w.heap.size + 1, 1, none⟩ b) := ((FrG.refl [31] (fun k => k = w.heap.size + 1) W).set (a := ⟨w.heap.size + 1, 0, none⟩) (.inl rfl) h.res (List.mem_singleton.2 rfl) _).set (a := ⟨w.heap.size + 1, 1, none⟩) (.inl rfl) h1 (List.mem_singleton.2 rfl) _
  have hl : w.heap.size ≤ w.heap.size + 1 := by omega
  refine ⟨(h.fr.setNew (a := ⟨w.heap.size + 1, 0, none⟩) hl _).setNew (a := ⟨w.heap.size + 1, 1, none⟩) hl _, h.ar.kept f1 (by decide) (by decide) (by decide), f1.blk h.node (by decide), f1.blkQ h.box (by have := h.far.2; omega), set_blk h1 1 _, h.far, h.own.frg f1 (by decide) (by decide), f1.blk h.blk (by decide), h.qt, ?_, h.hq, ?_, h.fq, ⟨by simpa using h.zz.1, h.zz.2⟩, h.qa⟩
  · obtain ⟨hc, hr⟩ := h.had; exact ⟨hc, f1.row hr (by decide)⟩
  · obtain ⟨fc, hr⟩ := h.fre; exact ⟨fc, f1.rowQ hr (fun k hk e => by have := (h.fq k hk).2; omega)⟩
theorem MkS.pblk (h : MkS B Q Qa w W z tb X s g len nb c7 P hv fv nh nf r0 r1) (hg : W.grownBy W' hv.ownBlock) : W'.heap[tb]? = some (.cells #[.pointer (some ⟨X.ab, 0, none⟩), .int .u64 ((len : Int) + 1), .int .i64 (X.T.S : Int), .int .i64 (X.T.G : Int), hv, fv] 112 (0, 0)) := by
  obtain ⟨hc, hr⟩ := h.had
  exact ((FrG.refl [29] (fun k => hv.ownBlock = some k) W).append hr (fun k hk => .inl hk) (List.mem_singleton.2 rfl) hg).blk h.blk (by decide)
theorem MkS.hcell {gg cap : Nat} (h : MkS B Q Qa w W z tb X s g len nb c7 P (.slice (some ⟨gg, 0, none⟩) nh cap) fv nh nf r0 r1) {i : Nat} (hi : i < nh) : ∃ v, W.cell? ⟨gg, i, none⟩ = some v ∧ W.frozen? ⟨gg, i, none⟩ = false := by
  obtain ⟨hc, hr⟩ := h.had
  have hl := hr.1
  have hl2 : i < hc.length := by omega
  exact ⟨hc[i], (hr.cellAt i (by omega)).trans (List.getElem?_eq_getElem hl2), hr.frozenAt i⟩
theorem MkS.done (h : TreeAt B Q w tb X) (hok : (X.T.ar encN).Ok 1) (hbig : X.F.length < 1099511627776) (hS : MkS B Q Qa w W z tb X s g X.F.length nb c7 P hv fv nh nf r0 r1)
    (hT : (X.T.free = [] ∧ s = X.T.all.length + 1 ∧ g = 1 ∧ nh = X.T.all.length + 1 ∧ nf = X.T.free.length ∧ X.T.alloc (some ⟨nb, 0, none⟩) = ({ X.T with all := X.T.all ++ [(1, true, some ⟨nb, 0, none⟩)], count := X.T.count + 1 }, s, g, 0)) ∨
      (∃ l k g0 y, X.T.free = l ++ [k] ∧ X.T.all[k]? = some (g0, false, y) ∧ s = k + 1 ∧ g = g0 + 1 ∧ nh = X.T.all.length ∧ nf = l.length ∧ X.T.alloc (some ⟨nb, 0, none⟩) = ({ X.T with all := X.T.all.set k (g0 + 1, true, some ⟨nb, 0, none⟩), free := l, count := X.T.count + 1 }, s, g, 0))) :
    TreeAt B (fun k => Q k ∨ w.heap.size ≤ k ∧ k < W.heap.size) W tb ⟨Made X.F s g, X.M ++ [(nb, P)], (X.T.alloc (some ⟨nb, 0, none⟩)).1, X.ab, hv, fv⟩ ∧ FrG [145, 150, 29, 112, 31] Q w W := by
  have hBw : B ≤ w.heap.size := Nat.le_trans h.rw.own.2 (Nat.le_of_lt (lt_of_some h.rw.blk))
  have hnb : w.heap.size ≤ nb := by have := hS.far.1; omega
  have hhq := fun k hk => (hS.hq k hk).1
  have hqh : ∀ k, hv.ownBlock = some k → ¬ (Qa k ∨ w.heap.size ≤ k ∧ k < z) := fun k hk e => by
    obtain ⟨_, h2, h3⟩ := hS.hq k hk
    rcases e with e | e
    · exact h2 e
    · have := h3 e.1; omega
  have hqa : ∀ k, (Qa k ∨ w.heap.size ≤ k ∧ k < z) → (Q k ∨ w.heap.size ≤ k ∧ k < W.heap.size) ∧ k < W.heap.size := fun k hk => by
    rcases hk with hk | hk
    · exact ⟨.inl (hS.qa k hk).1, Nat.lt_of_lt_of_le (hS.qa k hk).2 hS.fr.size⟩
    · exact ⟨.inr ⟨hk.1, Nat.lt_of_lt_of_le hk.2 hS.zz.1⟩, Nat.lt_of_lt_of_le hk.2 hS.zz.1⟩
  have hP : Fresh B W P := hS.own.mono hBw
  refine ⟨?_, hS.fr⟩
  rcases hT with ⟨t1, t2, t3, t4, t5, t6⟩ | ⟨l, k, g0, y, t1, t2, t3, t4, t5, t6, t7⟩
  · have e1 : (X.T.alloc (some ⟨nb, 0, none⟩)).1 = { X.T with all := X.T.all ++ [(1, true, some ⟨nb, 0, none⟩)], count := X.T.count + 1 } := by rw [t6]
    have har := hS.ar
    rw [e1] at har ⊢
    exact h.made hok hbig (.inl ⟨t1, t2, t3, rfl⟩) hS.fr hBw hnb hS.node hP hS.blk har hqa hqh (by have := hS.had; rw [t4] at this; simpa using this) hhq (by have := hS.fre; rw [t5] at this; exact this) (fun k hk => .inl (hS.fq k hk).1)
  · have e1 : (X.T.alloc (some ⟨nb, 0, none⟩)).1 = { X.T with all := X.T.all.set k (g0 + 1, true, some ⟨nb, 0, none⟩), free := l, count := X.T.count + 1 } := by rw [t7]
    have har := hS.ar
    rw [e1] at har ⊢
    exact h.made hok hbig (.inr ⟨l, k, g0, y, t1, t2, t3, t4, rfl⟩) hS.fr hBw hnb hS.node hP hS.blk har hqa hqh (by have := hS.had; rw [t5] at this; simpa using this) hhq (by have := hS.fre; rw [t6] at this; exact this) (fun k hk => .inl (hS.fq k hk).1)
end
end Go.Proofs.YtelhnaphkbpakaaDoor
