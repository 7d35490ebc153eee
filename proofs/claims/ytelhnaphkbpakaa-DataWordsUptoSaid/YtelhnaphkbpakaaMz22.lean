/- data.Words walked. DataWords walked: the words of any values. Readings of arguments opened: a slice's elements in memory. No program. Arguments opened: units, attributes, nodes, and their bulk. No program's run. -/
import Derived.Deep.DeepCutAuto
import Derived.Deep.Slices
import Derived.ChangeArms
import Derived.OwnWalk
import Derived.WalkKit
import Derived.Test.YtelhnaphkbpakaaRows
import Derived.ProofKit
import Derived.OpenShut
import Derived.ShutString
import Derived.ChangeOld
import Derived.JoinedCond
import Derived.Test.YtelhnaphkbpakaaMz21
namespace Go.Proofs.Ytelhnaphkbpakaa
open Go.RowKit Go.Maps
set_option linter.unusedVariables false
set_option maxRecDepth 100000

theorem txt_size (us : List Nat) (f i : Nat) (h : i - f ≤ 1048576) : (txt (run us f i)).size ≤ 4194304 := by
  unfold txt
  rw [strB_size]
  have h1 := textU_len (uns (run us f i))
  have h2 := uns_len (run us f i)
  have h3 : (run us f i).length ≤ i - f := by unfold run; rw [List.length_take]; omega
  omega
theorem clipS_calls (a : Option Addr) (n cap : Nat) (hn : n ≤ cap) (hm : cap ≤ 9223372036854775807) (w : World) :
    Calls Try.prog 76 #[.slice a n cap] w fun e w' => e = .returned (.slice a n n) ∧ w = w' := by
  have p1 : (n : Int) ≤ (cap : Int) := by omega
  have p2 : (0 : Int) ≤ (n : Int) := by omega
  go_enter Try.func76, Try.ntmps76
  go_wp2
  go_ret
  exact ⟨rfl, rfl⟩
/-- Does the loop go on here? -/
def Goes (us : List Nat) (i : Nat) (c : Bool) : Prop := (c = true → ∃ u, us[i]? = some u ∧ ¬ isBlank u) ∧ (c = false → ∀ u, us[i]? = some u → isBlank u)
theorem Goes.no {us : List Nat} {i : Nat} (h : ∀ u, us[i]? = some u → isBlank u) : Goes us i false := ⟨fun h => (by cases h), fun _ => h⟩
theorem Goes.yes {us : List Nat} {i u : Nat} (h : us[i]? = some u) (hb : ¬ isBlank u) : Goes us i true := ⟨fun _ => ⟨u, h, hb⟩, fun h => (by cases h)⟩
theorem Goes.on {us : List Nat} {i : Nat} (h : Goes us i true) : ∃ u, us[i]? = some u ∧ ¬ isBlank u := h.1 rfl
theorem Goes.off {us : List Nat} {i : Nat} (h : Goes us i false) : ∀ u, us[i]? = some u → isBlank u := h.2 rfl
/-- Where the loop of Words stands. -/
structure WL (w0 : World) (us : List Nat) (f i cnt : Nat) (pre : List (List Nat)) (D : DataW Unit) (v : Value) (w : World) : Prop where
  at_ : AtW us pre f i
  row : w.ownsRow (w0.heap.size + 1) 9 1 v (wordsOf pre).length (strs (wordsOf pre))
  map : w.ownsMap Try.prog 9 (plainElem (H := Unit) Try.prog 3) w0.heap.size cnt D
  seen : SeenOk D ((wordsOf pre).map ky)
  low : Below w0.heap.size w0 w
  big : w0.heap.size + 1 ≤ w.heap.size
theorem WL.below {w0 : World} {us : List Nat} {f i cnt : Nat} {pre : List (List Nat)} {D : DataW Unit} {v : Value} {w w' : World} (h : WL w0 us f i cnt pre D v w) (b : Below w.heap.size w w') : WL w0 us f i cnt pre D v w' :=
  ⟨h.at_, row_below h.row b, h.map.kept (grown_of_below b) (by simp), h.seen, h.low.trans (b.mono h.low.size), Nat.le_trans h.big b.size⟩

set_option maxHeartbeats 8000000 in
theorem words_calls (w : World) {a : Option Addr} {us : List Nat} (ca : Nat) (hA : Sl16 w a us) (hl : us.length ≤ 1048576) (hca : us.length ≤ ca) (hcm : ca ≤ 9223372036854775807) :
    Calls Try.prog 36 #[.slice a us.length ca] w fun e w' => ∃ a' c', e = .returned (.slice a' (wordsD us).length (wordsD us).length) ∧ w'.ownsRow w.heap.size 9 1 (.slice a' (wordsD us).length c') (wordsD us).length (strs (wordsD us)) ∧ Below w.heap.size w w' := by
  have HA := Lib.hid hA
  obtain ⟨i9, hi9, ia1, ia2, ia3⟩ := info_parts info9
  obtain ⟨n, en⟩ : ∃ n, n = us.length := ⟨_, rfl⟩
  rw [← en] at hl hca ⊢
  have HN := Lib.hid en
  have H0 : Hid (WL w us 0 0 0 [] (.map []) (.slice none 0 0) (w.alloc (.map #[] 0))) := Lib.hid ⟨AtW.start us, World.ownsRow_nil _ _ _ _, World.ownsMap_made _ _ _ _, ⟨isMap_empty, fun s => by simp [DataW.atKey, wordsOf]⟩, (Below.refl _ w).alloc (Nat.le_refl _) _, by simp⟩
  have q0 : IntKind.i64.wrap ((n : Int) + 1) = (n : Int) + 1 := IntWalk.i64_in _ (by omega)
  have hmk : (Instr.makeMap 80 none).run Try.prog w = .ok (.map (some w.heap.size)) (w.alloc (.map #[] 0)) := rfl
  clear hA en
  go_enter Try.func36, Try.ntmps36
  go_wp2_with fail
  go_loopw [3, 5, 12] (fun v3 v5 v12 wr => ∃ (f i cnt : Nat) (pre : List (List Nat)) (D : DataW Unit), v5 = .int .i64 (f : Nat) ∧ v12 = .int .i64 (i : Nat) ∧ f ≤ i ∧ i ≤ n + 1 ∧ cnt ≤ i ∧ WL w us f i cnt pre D v3 wr) (fun _ _ v _ => n + 1 - (intOf v).toNat)
  case atStart => exact ⟨0, 0, 0, [], .map [], rfl, rfl, Nat.le_refl _, Nat.zero_le _, Nat.le_refl _, H0.out⟩
  case round =>
    clear H0
    obtain ⟨f, i, cnt, pre, D, rfl, rfl, hfi, hi, hcnt, hI⟩ := hrel
    have hrow := hI.row
    obtain ⟨va, vc, rfl⟩ := rwSlice hrow
    obtain ⟨m, hm⟩ : ∃ m, m = (wordsOf pre).length := ⟨_, rfl⟩
    have hml : m ≤ n := by rw [hm, HN.out]; exact pre_len hI.at_
    have hwr := hI.big
    rw [← hm] at hrow ⊢
    have HI := Lib.hid (And.intro hI (And.intro hrow hm))
    clear hI hrow hm
    have q1 : IntKind.i64.wrap ((i : Int) + 1) = (i : Int) + 1 := IntWalk.i64_in _ (by omega)
    by_cases hlt : i < n + 1
    · have p1 : (i : Int) < (n : Int) + 1 := by omega
      have p0 : (0 : Int) ≤ (i : Int) := by omega
      go_upto_region 7 with fail
      go_cut [53] (fun v53 wc => ∃ c : Bool, v53 = .bool c ∧ Hid (Goes us i c) ∧ wr = wc)
      case first =>
        by_cases hin : i < n
        · obtain ⟨u, hu⟩ : ∃ u, us[i]? = some u := ⟨_, List.getElem?_eq_getElem (by rw [← HN.out]; exact hin)⟩
          obtain ⟨hu1, b1, o1, hae, hb1, c1⟩ := (HA.out.below HI.out.1.low).at_ i u hu
          subst hae
          have HU := Lib.hid hu
          have p2 : (i : Int) < (n : Int) := by omega
          clear hu
          by_cases hb : isBlank u
          · have HF : Hid (Goes us i false) := Lib.hid (Goes.no (fun v hv => (by rw [HU.out] at hv; cases hv; exact hb)))
            unfold isBlank at hb
            rcases hb with rfl | rfl | rfl | rfl | rfl
            all_goals
              go_wp2
              go_meet
              case rel => exact ⟨false, rfl, HF, rfl⟩
          · have HF : Hid (Goes us i true) := Lib.hid (Goes.yes HU.out hb)
            unfold isBlank at hb
            have h1 : ((u : Int) != 9) = true := by simp; omega
            have h2 : ((u : Int) != 10) = true := by simp; omega
            have h3 : ((u : Int) != 12) = true := by simp; omega
            have h4 : ((u : Int) != 13) = true := by simp; omega
            have h5 : ((u : Int) != 32) = true := by simp; omega
            clear hb
            go_wp2
            go_meet
            case rel => exact ⟨true, rfl, HF, rfl⟩
        · have p2 : ¬ (i : Int) < (n : Int) := by omega
          have HF : Hid (Goes us i false) := Lib.hid (Goes.no (fun v hv => (by have := (List.getElem?_eq_some_iff.1 hv).1; rw [← HN.out] at this; omega)))
          go_wp2
          go_meet
          case rel => exact ⟨false, rfl, HF, rfl⟩
      case rest =>
      obtain ⟨c, rfl, HF, rfl⟩ := hcut
      cases c with
      | true =>
        obtain ⟨u, hu, hb⟩ := HF.out.on
        have HON := Lib.hid (HI.out.1.at_.on hfi hu hb)
        have hin : i < n := by rw [HN.out]; exact (List.getElem?_eq_some_iff.1 hu).1
        clear hu hb HF
        go_wp2_with fail
        go_roundw
        case rel =>
          have h := HI.out.1
          exact ⟨f, i + 1, cnt, pre, D, by first | rfl | trivial, by go_num, by omega, by omega, by omega, ⟨HON.out, by rw [← HI.out.2.2]; exact HI.out.2.1, h.map, h.seen, h.low, h.big⟩⟩
        case measure => simp [intOf]; omega
      | false =>
        have HCUT := Lib.hid (HI.out.1.at_.cut hfi (by rw [← HN.out]; omega) HF.out.off)
        have HTX : Hid (∀ A C, (A = Option.map (fun x => x.add f) a ∨ i - f = 0) → Calls Try.prog 75 #[.slice A (i - f) C] wr fun e w' => e = .returned (.string (txt (run us f i))) ∧ Below wr.heap.size wr w') := Lib.hid (fun A C hAA => by
          have hrl : (run us f i).length = i - f := run_len (by rw [← HN.out]; omega) hfi
          have hsl : Sl16 wr A (run us f i) := by
            rcases hAA with rfl | h0
            · exact (HA.out.below HI.out.1.low).part f (i - f) (by rw [← HN.out]; omega)
            · have e : run us f i = [] := List.eq_nil_of_length_eq_zero (by omega)
              rw [e]; exact Sl16.nil wr A
          have h := text_calls wr C hsl (by omega)
          rw [hrl] at h
          exact h)
        have p5 : (f : Int) ≤ (i : Int) := by omega
        have p6 : (i : Int) ≤ (ca : Int) := by omega
        have p8 : (0 : Int) ≤ (f : Int) := by omega
        clear HF
        by_cases hlt2 : f < i
        · have p4 : (f : Int) < (i : Int) := by omega
          have p7 : ¬ ca = f := by omega
          have HONE := Lib.hid (ifRun_one (us := us) (f := f) (i := i) (by rw [← HN.out]; omega) hlt2)
          go_upto_region 9 with (go_at_call 75; refine (HTX.out _ _ (by first | exact .inl rfl | exact .inr (by omega))).mono ?_; rintro e w3 ⟨rfl, b3⟩)
          obtain ⟨s, hs⟩ : ∃ s, s = txt (run us f i) := ⟨_, rfl⟩
          rw [← hs]
          have hsz : s.size ≤ 4194304 := by rw [hs]; exact txt_size us f i (by omega)
          have h3 := HI.out.1.below b3
          have hkey : keyOf Try.prog 9 (.string s) = some (.string s.data.toList) := Go.WideMaps.keyOf_string_mk Try.underlying9 (by unfold maxLen; omega)
          obtain ⟨c', hrun, hat, _⟩ := h3.map.lookup_int (t := 80) law9 Try.underlying80 Try.underlying3 (zero3 _) hkey
          obtain ⟨q, hq⟩ : ∃ q : Int, q = if s.data.toList ∈ (wordsOf pre).map ky then 1 else 0 := ⟨_, rfl⟩
          obtain rfl : c' = q := by
            rw [h3.seen.at_ s.data.toList, ← hq] at hat
            injection hat with h1
            injection h1 with h2 h3
            exact h3.symm
          have hrow3 := row_below HI.out.2.1 b3
          have s3 : w.heap.size + 1 ≤ w3.heap.size := h3.big
          have H3 := Lib.hid (And.intro h3 (And.intro hrow3 (And.intro hs (And.intro hkey hq))))
          clear h3 hrow3 hs hkey hq hat b3 HTX p4 p5 p6 p7 p8
          by_cases hin : s.data.toList ∈ (wordsOf pre).map ky
          · have hq1 : c' = 1 := by rw [H3.out.2.2.2.2, if_pos hin]
            subst hq1
            have e : wordsOf (pre ++ ifRun (run us f i)) = wordsOf pre := by
              rw [HONE.out, wordsOf_snoc, ← H3.out.2.2.1]
              refine addW_in ?_
              obtain ⟨t, ht, hk⟩ := List.mem_map.1 hin
              rw [← ky_inj hk]; exact ht
            have HE := Lib.hid e
            clear hin e
            have p4 : (f : Int) < (i : Int) := by omega
            go_wp2_with fail
            go_roundw
            case rel =>
              have h := H3.out.1
              refine ⟨i + 1, i + 1, cnt, pre ++ ifRun (run us f i), D, by go_num, by go_num, Nat.le_refl _, by omega, by omega, ⟨HCUT.out, ?_, h.map, ?_, h.low, h.big⟩⟩
              · rw [HE.out, ← HI.out.2.2]; exact H3.out.2.1
              · rw [HE.out]; exact h.seen
            case measure => simp [intOf]; omega
          · have hq1 : c' = 0 := by rw [H3.out.2.2.2.2, if_neg hin]
            subst hq1
            have e : wordsOf (pre ++ ifRun (run us f i)) = wordsOf pre ++ [s] := by
              rw [HONE.out, wordsOf_snoc, ← H3.out.2.2.1]
              exact addW_not (fun h => hin (List.mem_map.2 ⟨s, h, rfl⟩))
            have HE := Lib.hid (And.intro e hin)
            have HKEY := Lib.hid H3.out.2.2.2.1
            have HMAP := Lib.hid H3.out.1.map
            have HQ : Hid (∀ w4, w3.grownBy w4 (some w.heap.size) → w4.ownsRow (w.heap.size + 1) 9 1 (.slice va m vc) m (strs (wordsOf pre)) ∧ w.heap.size + 1 ≤ w4.heap.size ∧ Below w.heap.size w w4) := Lib.hid (fun w4 hg => by
              refine ⟨grown_row hg H3.out.2.1 (fun x hx e => by have := (H3.out.2.1.lt x hx).1; injection e with e; omega), Nat.le_trans s3 hg.size, H3.out.1.low.grown hg (by omega) (fun r e => by cases e; exact Nat.le_refl _)⟩)
            clear hin e
            have p4 : (f : Int) < (i : Int) := by omega
            go_wp2_with (first | (at_mapUpdate; refine wpList_mapUpdate_own _ rfl _ _ _ 80 rfl 9 3 law9 Try.underlying80 (plainElem (H := Unit) Try.prog 3) w.heap.size cnt D rfl HMAP.out (by unfold maxLen; omega) _ _ _ rfl rfl HKEY.out _ [] (plainElem_int Try.underlying3 (WalkArith.wf_i64 (by omega))) ?_; intro w4 hown4 hgrow4; obtain ⟨e0, e1, e2⟩ := HQ.out w4 hgrow4; have H4 := Lib.hid (And.intro hown4 (And.intro e0 e2)); clear hown4 hgrow4 e0 e2) | (at_builtin; refine wpList_append_any _ rfl (.tmp 72) (.tmp 74) 31 rfl (w.heap.size + 1) 9 i9 _ 1 16 Try.underlying31 hi9 ia1 ia2 ia3 rfl (by omega) _ m _ rfl (H4.out.2.1.alloc _) (some ⟨w4.heap.size, 0, none⟩) 1 1 [.string s] rfl rfl (.inr ⟨_, rfl, World.news_of_block (cs := #[.string s]) (t := 9) (fr := (0, 0)) (Go.heap_alloc_new w4 _)⟩) (by simp [Value.oneCell']) (by unfold maxLen; omega) (by omega) (by simp; omega) ?_; intro a6 c6 w6 hown6 hgrow6; have H6 := Lib.hid (And.intro hown6 (show World.grownBy _ w6 (Value.slice va m vc).ownBlock from hgrow6)); clear hown6 hgrow6))
            go_roundw
            case rel =>
              have hown6 := H6.out.1
              have hg6 := H6.out.2
              have hx : ∀ y, (Value.slice va m vc).ownBlock = some y → w.heap.size + 1 ≤ y := fun y hy => (H4.out.2.1.lt y hy).1
              refine ⟨i + 1, i + 1, cnt + 1, pre ++ ifRun (run us f i), _, by go_num, by go_num, Nat.le_refl _, by omega, by omega, ⟨HCUT.out, ?_, ((H4.out.1.kept (World.grownBy_alloc w4 (.cells #[.string s] 9) none) (by simp)).kept hg6 (fun e => by have := hx _ e.symm; omega)), ?_, ?_, ?_⟩⟩
              · rw [HE.out.1, List.length_append, ← HI.out.2.2]
                have e2 : strs (wordsOf pre ++ [s]) = strs (wordsOf pre) ++ [.string s] := by simp [strs]
                rw [e2]; exact hown6
              · rw [HE.out.1, List.map_append]; exact seen_next H3.out.1.seen HE.out.2
              · exact (H4.out.2.2.alloc (by omega) _).grown hg6 (by simp; omega) (fun y hy => by have := hx y hy; omega)
              · have := hg6.size; simp at this; omega
            case measure => simp [intOf]; omega
        · obtain rfl : f = i := by omega
          have p4 : ¬ (f : Int) < (f : Int) := by omega
          have HT0 : Hid (∀ A C, Calls Try.prog 75 #[.slice A 0 C] wr fun e w' => (∃ s, e = .returned (.string s)) ∧ Below wr.heap.size wr w') := Lib.hid (fun A C => by
            have h := HTX.out A C (.inr (Nat.sub_self f))
            rw [Nat.sub_self] at h
            exact h.mono (fun e w' ⟨he, hb⟩ => ⟨⟨_, he⟩, hb⟩))
          clear HTX
          go_upto_region 9 with (go_at_call 75; refine (HT0.out _ _).mono ?_; rintro e w3 ⟨⟨s, rfl⟩, b3⟩)
          obtain ⟨A, hA⟩ : ∃ A, A = (if ca = f then a else Option.map (fun x => x.add f) a) := ⟨_, rfl⟩
          try rw [← hA]
          clear hA
          have H3 := Lib.hid (And.intro (HI.out.1.below b3) (row_below HI.out.2.1 b3))
          clear b3 HT0
          go_wp2_with fail
          go_roundw
          case rel =>
            have h := H3.out.1
            refine ⟨f + 1, f + 1, cnt, pre ++ ifRun (run us f f), D, by go_num, by go_num, Nat.le_refl _, by omega, by omega, ⟨HCUT.out, ?_, h.map, ?_, h.low, h.big⟩⟩
            · rw [ifRun_nil, List.append_nil, ← HI.out.2.2]; exact H3.out.2
            · rw [ifRun_nil, List.append_nil]; exact h.seen
          case measure => simp [intOf]; omega
    · have p1 : ¬ (i : Int) < (n : Int) + 1 := by omega
      have e : wordsOf pre = wordsD us := HI.out.1.at_.fin (by rw [← HN.out]; omega)
      have HE := Lib.hid e
      have hcap := row_cap HI.out.2.1
      have HCL := Lib.hid (clipS_calls va m vc hcap.2.1 hcap.2.2)
      clear e hcap
      go_wp2_with fail
      refine (HCL.out _).mono ?_
      rintro e w4 ⟨rfl, rfl⟩
      go_wp2_with fail
      have hr := HI.out.2.1
      exact bodyPost_ret (v := .slice va m m) (by simp [results, Try.results36, go_sem]) rfl ⟨va, vc, by rw [← HE.out, ← HI.out.2.2], by rw [← HE.out, ← HI.out.2.2]; exact hr.mono (by omega), HI.out.1.low⟩
end Go.Proofs.Ytelhnaphkbpakaa

namespace Go.Proofs.Ytelhnaphkbpakaa
open Go.RowKit
set_option linter.unusedVariables false
set_option maxRecDepth 100000

theorem row_storeS {B hi : Nat} {V wr : World} {a : Option Addr} {n cap i : Nat} {ys : List Value} (ho : OutW B hi V wr) (hr : wr.ownsRow B 9 1 (.slice a n cap) n ys) (hg : ∀ g, (Value.slice a n cap).ownBlock = some g → g < hi) {s : ByteArray} (hs : ys[i]? = some (.string s)) :
    ∃ g, a = some ⟨g, 0, none⟩ ∧ g < wr.heap.size ∧ wr.cell? ⟨g, i, none⟩ = some (.string s) ∧ wr.frozen? ⟨g, i, none⟩ = false ∧ ∀ v, OutW B hi V (wr.setCell ⟨g, i, none⟩ v) ∧ (wr.setCell ⟨g, i, none⟩ v).ownsRow B 9 1 (.slice a n cap) n (ys.set i v) := by
  obtain ⟨b, rfl, hb, hc⟩ := row_src hr hs
  rw [Nat.zero_add] at hc
  obtain ⟨cur, hblk, hB⟩ := rwBlk hr
  exact ⟨b, rfl, hb, hc, free_blk hblk i, fun v => ⟨ho.set (a := ⟨b, i, none⟩) hB (hg b rfl) v, (hr.stored i v).1⟩⟩
theorem row_oldsS {B : Nat} {wr w2 : World} {a : Option Addr} {n cap : Nat} {ys : List Value} (hr : wr.ownsRow B 9 1 (.slice a n cap) n ys) (h2 : Below wr.heap.size wr w2) :
    ys.length = n * 1 ∧ (∀ (j : Nat) (u : Value), ys[j]? = some u → ∃ b, a = some b ∧ w2.cell? (b.add j) = some u) ∧ (a = none → n = 0) := by
  refine ⟨hr.1, fun j u hu => ?_, fun h => ?_⟩
  · obtain ⟨b, rfl, hb, hc⟩ := row_src hr hu
    refine ⟨_, rfl, ?_⟩
    rw [show (⟨b, 0, none⟩ : Addr).add j = ⟨b, 0 + j, none⟩ by unfold Addr.add; split <;> simp_all]
    exact (h2.cell (p := ⟨b, 0 + j, none⟩) hb).trans hc
  · subst h
    rcases hr.2 with ⟨h1, h2⟩ | ⟨g, cap', cur, h1, _⟩
    · exact h2
    · cases h1
/-- A value among those that the law is given. -/
structure UV where
  a : Option Addr
  c : Nat
  us : List Nat
structure UvIn (w : World) (x : UV) : Prop where
  sl : Sl16 w x.a x.us
  len : x.us.length ≤ 1048576
  cap : x.us.length ≤ x.c ∧ x.c ≤ 9223372036854775807

set_option maxHeartbeats 16000000 in
theorem dataWords_calls (w : World) {av : Option Addr} {L : List UV} (cv : Nat) (hL : L.length ≤ 1048576) (hin : ∀ (i : Nat) (x : UV), L[i]? = some x → UvIn w x ∧ ∃ b off, av = some ⟨b, off, none⟩ ∧ b < w.heap.size ∧ w.cell? ⟨b, off + i, none⟩ = some (.slice x.a x.us.length x.c)) :
    Calls Try.prog 9 #[.slice av L.length cv] w fun e w' => e = .returned (.bool true) ∧ Below w.heap.size w w' := by
  obtain ⟨N, eN⟩ : ∃ N, N = L.length := ⟨_, rfl⟩
  rw [← eN] at hL ⊢
  have HN := Lib.hid eN
  have HIN := Lib.hid hin
  have HAW := Lib.hid (awake_true w)
  clear eN hin
  go_enter Try.func9, Try.ntmps9
  go_wp2_with fail
  refine HAW.out.mono ?_
  rintro e w1 ⟨rfl, b1⟩
  have B1 := Lib.hid b1
  clear b1 HAW
  go_wp2_with fail
  go_loopw [16] (fun v wr => ∃ i : Nat, v = .int .i64 (i : Nat) ∧ i ≤ N ∧ Below w.heap.size w wr) (fun v _ => N - (intOf v).toNat)
  case atStart => exact ⟨0, rfl, Nat.zero_le _, B1.out⟩
  case round =>
    obtain ⟨i, rfl, hi, hbel⟩ := hrel
    have HB := Lib.hid hbel
    have s0 := hbel.size
    clear hbel B1
    by_cases hlt : i < N
    · obtain ⟨x, hx⟩ : ∃ x, L[i]? = some x := ⟨_, List.getElem?_eq_getElem (by rw [← HN.out]; exact hlt)⟩
      obtain ⟨hxi, b, off, hav, hb, hc⟩ := HIN.out i x hx
      subst hav
      have c1 := (HB.out.cell (p := ⟨b, off + i, none⟩) hb).trans hc
      have lb : b < wr.heap.size := by omega
      have p0 : (0 : Int) ≤ (i : Int) := by omega
      have p1 : (i : Int) < (N : Int) := by omega
      obtain ⟨a, c, us⟩ := x
      obtain ⟨ul, eul⟩ : ∃ ul, ul = us.length := ⟨_, rfl⟩
      have hul : ul ≤ 1048576 := by rw [eul]; exact hxi.len
      obtain ⟨m, em⟩ : ∃ m, m = (wordsD us).length := ⟨_, rfl⟩
      have hml : m ≤ 1048576 := by have := wordsD_len us; omega
      have HX := Lib.hid (And.intro hxi (And.intro eul em))
      have hkx := hxi.cap
      simp only at c1 hkx
      rw [← eul] at c1 hkx
      have HUN := Lib.hid (units_calls c (hxi.sl.below HB.out) hxi.len)
      simp only at HUN
      rw [← eul] at HUN
      clear hx hxi hc eul em
      go_wp2_with fail
      refine HUN.out.mono ?_
      rintro e w2 ⟨a6, c6, rfl, hlu, b2⟩
      have s2 := b2.size
      have hcap6 := row_cap hlu.row
      have hc6 := hlu.cap
      rw [← HX.out.2.1] at hc6
      have HB2 := Lib.hid (HB.out.trans (b2.mono s0))
      have HU2 := Lib.hid (And.intro hlu hcap6)
      have HW6 := Lib.hid (words_calls w2 c6 hlu.sl hlu.len (by rw [← HX.out.2.1]; omega) hcap6.2.2)
      rw [← HX.out.2.1, ← HX.out.2.2] at HW6
      clear b2 hlu hcap6 HUN c1
      go_wp2_with fail
      refine HW6.out.mono ?_
      rintro e w3 ⟨a7, c7, rfl, hr7, b3⟩
      have s3 := b3.size
      have HB3 := Lib.hid (HB2.out.trans (b3.mono (by omega)))
      have HU3 := Lib.hid (HU2.out.1.below b3)
      have HR7 := Lib.hid hr7
      have HG7 : Hid (∀ g cap, (Value.slice a7 m cap).ownBlock = some g → g < w3.heap.size) := Lib.hid (fun g cap hg => by
        have h := hr7.lt g (by cases a7 with
          | none => cases hg
          | some a => exact hg)
        exact h.2)
      have HW7 := Lib.hid (words_calls w3 c6 HU3.out.sl HU3.out.len (by rw [← HX.out.2.1]; omega) HU2.out.2.2.2)
      rw [← HX.out.2.1, ← HX.out.2.2] at HW7
      clear b3 hr7 HW6
      go_wp2_with fail
      refine HW7.out.mono ?_
      rintro e w4 ⟨a8, c8, rfl, hr8, b4⟩
      have s4 := b4.size
      have HB4 := Lib.hid (HB3.out.trans (b4.mono (by omega)))
      have HU4 := Lib.hid (HU3.out.below b4)
      have HR74 := Lib.hid (row_below HR7.out b4)
      have HR8 := Lib.hid hr8
      have HW8 := Lib.hid (wordsR_calls w4 c (HX.out.1.sl.below HB4.out) HX.out.1.len HX.out.1.cap.1)
      simp only at HW8
      rw [← HX.out.2.1, ← HX.out.2.2] at HW8
      clear b4 hr8 HW7 HR7
      go_wp2_with fail
      refine HW8.out.mono ?_
      rintro e w5 ⟨a9, c9, rfl, hr9, b5⟩
      have s5 := b5.size
      have HB5 := Lib.hid (HB4.out.trans (b5.mono (by omega)))
      have HR7 := Lib.hid (row_below HR74.out b5)
      have HR85 := Lib.hid (row_below HR8.out b5)
      have HR9 := Lib.hid hr9
      have HKU := Lib.hid (keptUnits_true c c6 (HU4.out.below b5) (HX.out.1.sl.below HB5.out))
      simp only at HKU
      rw [← HX.out.2.1] at HKU
      have hmm : ((m : Int) != (m : Int)) = false := by simp
      clear b5 hr9 HW8 HR74 HR8
      go_wp2_with fail
      refine HKU.out.mono ?_
      rintro e w6 ⟨rfl, q6, rfl⟩
      go_wp2_with fail
      go_loopw [48] (fun v wr2 => ∃ j : Nat, v = .int .i64 (j : Nat) ∧ j ≤ m ∧ OutW w2.heap.size w3.heap.size w5 wr2 ∧ ∃ ys, wr2.ownsRow w2.heap.size 9 1 (.slice a7 m c7) m ys ∧ ∀ k, j ≤ k → ys[k]? = (strs (wordsD us))[k]?) (fun v _ => m - (intOf v).toNat)
      case atStart => exact ⟨0, rfl, Nat.zero_le _, (OutW.refl _ _ _).drewN _, _, row_drewN HR7.out _, fun _ _ => rfl⟩
      case round =>
        obtain ⟨j, rfl, hj, ho, ys, hr, hys⟩ := hrel
        by_cases hjm : j < m
        · obtain ⟨s, hs⟩ : ∃ s, (wordsD us)[j]? = some s := ⟨_, List.getElem?_eq_getElem (by rw [← HX.out.2.2]; exact hjm)⟩
          have hsj := strs_at hs
          obtain ⟨g, hga, lg, hcg, hfg, hst⟩ := row_storeS ho hr (fun g hg => HG7.out g _ hg) ((hys j (Nat.le_refl _)).trans hsj)
          obtain ⟨g8, h8a, l8, hc8⟩ := row_src (ho.row HR85.out (Nat.le_refl _)) hsj
          obtain ⟨g9, h9a, l9, hc9⟩ := row_src (ho.row HR9.out s4) hsj
          rw [Nat.zero_add] at hc8 hc9
          have HST := Lib.hid (And.intro (hst (.string spName)) hys)
          have r0 : (0 : Int) ≤ (j : Int) := by omega
          have r1 : (j : Int) < (m : Int) := by omega
          have qn : (s.toList != s.toList) = false := by rw [bne, ba_refl]; rfl
          clear hst ho hr hys hs hsj
          subst hga h8a h9a
          go_wp2_with fail
          go_quiet (fail)
          go_wp2_with fail
          go_roundw
          case rel =>
            refine ⟨j + 1, by go_num, hjm, HST.out.1.1.drewN _, _, row_drewN HST.out.1.2 _, fun k hk => ?_⟩
            rw [List.getElem?_set_ne (by omega)]
            exact HST.out.2 k (by omega)
          case measure => simp [intOf]; omega
        · obtain rfl : m = j := by omega
          have r1 : ¬ (m : Int) < (m : Int) := by omega
          have HL1 := Lib.hid (And.intro ho hr)
          clear ho hr hys hjm
          go_wp2_with fail
          go_loopw [7, 11] (fun v7 v11 wr2 => ∃ q : Nat, v11 = .int .i64 (q : Nat) ∧ q ≤ 9 ∧ OutW w2.heap.size w3.heap.size w5 wr2 ∧ ((q = 0 ∧ v7 = .slice a7 m m ∧ ∃ ys, wr2.ownsRow w2.heap.size 9 1 (.slice a7 m c7) m ys) ∨ (0 < q ∧ ∃ ys, wr2.ownsRow w5.heap.size 9 1 v7 (m + q) ys))) (fun _ v _ => 9 - (intOf v).toNat)
          case atStart => exact ⟨0, rfl, Nat.zero_le _, HL1.out.1, .inl ⟨rfl, rfl, _, HL1.out.2⟩⟩
          case round =>
            obtain ⟨q, rfl, hq, ho, hcase⟩ := hrel
            have hV5 : w5.heap.size ≤ wr.heap.size := ho.size
            have HG := Lib.hid ho
            obtain ⟨i9, hi9, ia1, ia2, ia3⟩ := info_parts info9
            by_cases hlt3 : q < 9
            · have r2 : (q : Int) < 9 := by omega
              rcases hcase with ⟨rfl, rfl, ys, hr⟩ | ⟨hq0, ys, hown⟩
              · obtain ⟨ho1, ho2, ho3⟩ := row_oldsS hr ((Below.refl _ wr).alloc (Nat.le_refl _) (.cells #[.string ⟨#[103, 114, 111, 119, 110]⟩] 9))
                clear ho hr
                go_wp2_with (at_builtin; refine wpList_append_full _ rfl (.tmp 79) (.tmp 80) 31 rfl 9 i9 _ 1 16 Try.underlying31 hi9 ia1 ia2 ia3 rfl (by omega) a7 m ys rfl ho1 ho2 ho3 ⟨wr.heap.size, 0, none⟩ 1 1 [.string ⟨#[103, 114, 111, 119, 110]⟩] rfl rfl (World.news_of_block (cs := #[.string ⟨#[103, 114, 111, 119, 110]⟩]) (t := 9) (fr := (0, 0)) (Go.heap_alloc_new wr _)) (by simp [Value.oneCell']) (by omega) (by unfold maxLen; omega) (by omega) ?_; intro g6 c6' w6 hown6 hgrow6 hge6)
                go_roundw
                case rel =>
                  have ha := World.grownBy_alloc wr (.cells #[.string ⟨#[103, 114, 111, 119, 110]⟩] 9) none
                  refine ⟨1, by go_num, by omega, (HG.out.grown ha (fun _ e => by cases e)).grown hgrow6 (fun _ e => by cases e), .inr ⟨by omega, _, hown6.mono (by simp; omega)⟩⟩
                case measure => simp [intOf]
              · obtain ⟨av', cv', rfl⟩ := rwSlice hown
                have HO := Lib.hid hown
                clear ho hown
                go_wp2_with (at_builtin; refine wpList_append_any _ rfl (.tmp 79) (.tmp 80) 31 rfl w5.heap.size 9 i9 _ 1 16 Try.underlying31 hi9 ia1 ia2 ia3 rfl (by omega) _ (m + q) ys rfl (HO.out.alloc _) (some ⟨wr.heap.size, 0, none⟩) 1 1 [.string ⟨#[103, 114, 111, 119, 110]⟩] rfl rfl (.inr ⟨_, rfl, World.news_of_block (cs := #[.string ⟨#[103, 114, 111, 119, 110]⟩]) (t := 9) (fr := (0, 0)) (Go.heap_alloc_new wr _)⟩) (by simp [Value.oneCell']) (by unfold maxLen; omega) (by omega) (by simp; omega) ?_; intro a6' c6' w6 hown6 hgrow6)
                go_roundw
                case rel =>
                  have ha := World.grownBy_alloc wr (.cells #[.string ⟨#[103, 114, 111, 119, 110]⟩] 9) none
                  have hr : ∀ y, (Value.slice av' (m + q) cv').ownBlock = some y → w5.heap.size ≤ y := fun y hy => (HO.out.lt y hy).1
                  refine ⟨q + 1, by go_num, by omega, (HG.out.grown ha (fun _ e => by cases e)).grown hgrow6 (fun y e => .inl (hr y e)), .inr ⟨by omega, _, by rw [← Nat.add_assoc]; exact hown6⟩⟩
                case measure => simp [intOf]; omega
            · obtain rfl : q = 9 := by omega
              clear hcase hlt3 ho
              go_wp2_with fail
              go_loopw [84] (fun v wr3 => ∃ j : Nat, v = .int .i64 (j : Nat) ∧ j ≤ m ∧ OutW w2.heap.size w3.heap.size w5 wr3) (fun v _ => m - (intOf v).toNat)
              case atStart => exact ⟨0, rfl, Nat.zero_le _, HG.out⟩
              case round =>
                obtain ⟨j, rfl, hj, ho⟩ := hrel
                have HO := Lib.hid ho
                by_cases hjm : j < m
                · obtain ⟨s, hs⟩ : ∃ s, (wordsD us)[j]? = some s := ⟨_, List.getElem?_eq_getElem (by rw [← HX.out.2.2]; exact hjm)⟩
                  have hsj := strs_at hs
                  obtain ⟨g8, h8a, l8, hc8⟩ := row_src (ho.row HR85.out (Nat.le_refl _)) hsj
                  obtain ⟨g9, h9a, l9, hc9⟩ := row_src (ho.row HR9.out s4) hsj
                  rw [Nat.zero_add] at hc8 hc9
                  have r0 : (0 : Int) ≤ (j : Int) := by omega
                  have r1 : (j : Int) < (m : Int) := by omega
                  have qn : (s.toList != s.toList) = false := by rw [bne, ba_refl]; rfl
                  clear ho hs hsj
                  subst h8a h9a
                  go_wp2_with fail
                  go_quiet (fail)
                  go_wp2_with fail
                  go_roundw
                  case rel => exact ⟨j + 1, by go_num, hjm, HO.out.drewN _⟩
                  case measure => simp [intOf]; omega
                · obtain rfl : m = j := by omega
                  have r1 : ¬ (m : Int) < (m : Int) := by omega
                  clear ho hjm
                  go_wp2_with fail
                  go_roundw
                  case rel => exact ⟨i + 1, by go_num, hlt, HB5.out.trans ((HO.out.below (by omega)).mono (by omega))⟩
                  case measure => simp [intOf]; omega
    · have p1 : ¬ (i : Int) < (N : Int) := by omega
      go_wp2_with fail
      go_ret
      exact ⟨rfl, HB.out⟩
end Go.Proofs.Ytelhnaphkbpakaa

namespace Go.Proofs.Ytelhnaphkbpakaa
open Go.RowKit Go.Deep

section
variable {H : Type} {enc : TypeId × Value → H} {P : Program} {w : World} {base : Nat} {spare : Nat → Bool} {held : Bool}

theorem trod_float {fuel : Nat} {t : TypeId} {cs : List Value} {x : DataW H × List MemPlace} {k : FloatKind} (ht : P.underlying t = some (.float k)) (h : DataW.trod enc P w base spare held fuel t cs = some x) : ∃ n : Nat, cs = [.float k n] := by
  cases fuel with
  | zero => simp [DataW.trod] at h
  | succ n =>
    unfold DataW.trod at h
    rw [ht] at h
    split at h <;> simp_all

theorem addr_add0 (b off j : Nat) : (⟨b, off, none⟩ : Addr).add j = ⟨b, off + j, none⟩ := by unfold Addr.add; split <;> simp_all

/-- A slice of elements, of which each opens to a datum with cells: all of them, where they lie; how many they are. -/
theorem open_elems {α : Type} [Inhabited α] (cells : α → List Value) (good : α → Prop) (k : Nat) {t e : TypeId} (ht : P.underlying t = some (.slice e)) (hk : P.cellsOf e = k) (hk1 : ∀ a, (cells a).length = k) (hk0 : 0 < k)
    (hopen : ∀ (n : Nat) (cs : List Value) (x : DataW H × List MemPlace), DataW.trod enc P w base spare held n e cs = some x → ∃ a, cs = cells a ∧ good a)
    {fuel : Nat} {a : Option Addr} {len cap : Nat} {x : DataW H × List MemPlace} (h : DataW.trod enc P w base spare held fuel t [.slice a len cap] = some x) :
    ∃ L : List α, L.length = len ∧ len ≤ maxLen ∧ (∀ (D : List (DataW H)) (E : List (DataW H)), x.1 = .slice D E → D.length = len) ∧ (x.1 = .nil → len = 0) ∧ ((x.1 = .nil ∨ ∃ D E, x.1 = .slice D E)) ∧
      ∀ (i : Nat) z, L[i]? = some z → good z ∧ ∃ b off, a = some ⟨b, off, none⟩ ∧ b < w.heap.size ∧ ∀ j v, (cells z)[j]? = some v → w.cell? ⟨b, off + (i * k + j), none⟩ = some v := by
  rcases open_slice ht h with ⟨hcs, rfl⟩ | ⟨ad, len', cap', m, n, D, Pl, hcs, _, hl, hm, hmm, rfl, hi⟩
  · simp at hcs
    obtain ⟨rfl, rfl, rfl⟩ := hcs
    exact ⟨[], rfl, by simp [maxLen], by intro D E h; simp at h, fun _ => rfl, .inl rfl, by intro i z h; simp at h⟩
  · simp at hcs
    obtain ⟨rfl, rfl, rfl⟩ := hcs
    have hlm : len ≤ m := by rw [hmm]; split <;> omega
    rw [hk] at hi
    obtain ⟨f, hf⟩ := choose_lt (α := α) (n := len) (p := fun i o => good o ∧ ∀ j v, (cells o)[j]? = some v → w.cell? ((ad.add (i * k)).add j) = some v) (fun i hil => by
      obtain ⟨cs', hc, ht⟩ := hi i (by omega)
      obtain ⟨o, rfl, ok⟩ := hopen _ _ _ ht
      obtain ⟨_, hcl, hat⟩ := World.cells?_some hc
      refine ⟨o, ok, fun j v hj => ?_⟩
      have hjk : j < k := by have := (List.getElem?_eq_some_iff.1 hj).1; rw [hk1] at this; exact this
      rw [hat j hjk]; exact hj)
    refine ⟨(List.range len).map f, by simp, Nat.le_trans hl hm, by intro D' E' h; simp at h; rw [← h.1]; simp, by intro h; simp at h, .inr ⟨_, _, rfl⟩, fun i z hz => ?_⟩
    have hil : i < len := by have := (List.getElem?_eq_some_iff.1 hz).1; simpa using this
    have hz' : f i = z := by simpa [hil] using hz
    subst hz'
    refine ⟨(hf i hil).1, ?_⟩
    obtain ⟨v0, hv0⟩ : ∃ v, (cells (f i))[0]? = some v := ⟨_, List.getElem?_eq_getElem (by rw [hk1]; exact hk0)⟩
    have hc0 := (hf i hil).2 0 _ hv0
    obtain ⟨u0, hu0⟩ : ∃ v, (cells (f 0))[0]? = some v := ⟨_, List.getElem?_eq_getElem (by rw [hk1]; exact hk0)⟩
    have hd0 := (hf 0 (by omega)).2 0 _ hu0
    obtain ⟨b, off, sp⟩ := ad
    have hsp : sp = none := by
      cases sp with
      | none => rfl
      | some s => simp [Addr.add, World.cell?] at hd0; split at hd0 <;> simp_all
    subst hsp
    refine ⟨b, off, rfl, ?_, fun j v hj => ?_⟩
    · have := block_lt_of_cell hc0
      rw [add_add, addr_add0] at this
      exact this
    · have := (hf i hil).2 j v hj
      rw [add_add, addr_add0] at this
      exact this
end
end Go.Proofs.Ytelhnaphkbpakaa

namespace Go.Proofs.Ytelhnaphkbpakaa
open Go.ChangeShapes Go.WideShapes Go.ChangeAt Go.RowKit Go.Deep
set_option linter.unusedVariables false
set_option maxRecDepth 100000

theorem cells45 : Try.prog.cellsOf 45 = 1 := by kernel_rfl
theorem cells72 : Try.prog.cellsOf 72 = 2 := by kernel_rfl
theorem cells30 : Try.prog.cellsOf 30 = 6 := by kernel_rfl
theorem cells40 : Try.prog.cellsOf 40 = 9 := by kernel_rfl
theorem cells24 : Try.prog.cellsOf 24 = 1 := by kernel_rfl
theorem cells25 : Try.prog.cellsOf 25 = 1 := by kernel_rfl
theorem cells28 : Try.prog.cellsOf 28 = 2 := by kernel_rfl
theorem cells26 : Try.prog.cellsOf 26 = 1 := by kernel_rfl
theorem cells23 : Try.prog.cellsOf 23 = 1 := by kernel_rfl
theorem cells9 : Try.prog.cellsOf 9 = 1 := by kernel_rfl
theorem cells3 : Try.prog.cellsOf 3 = 1 := by kernel_rfl

theorem bulk_one {H : Type} (d : DataW H) : 1 ≤ Rows.uptoBulk d := by
  cases d with
  | lit l => cases l <;> simp [Rows.uptoBulk]
  | nil => simp [Rows.uptoBulk]
  | ptr d => simp [Rows.uptoBulk]
  | slice elems spare => simp [Rows.uptoBulk]
  | agg parts => simp [Rows.uptoBulk]
  | iface t d => simp [Rows.uptoBulk]
  | map entries => simp [Rows.uptoBulk]
  | held h => simp [Rows.uptoBulk]
theorem bulk_length {H : Type} (l : List (DataW H)) : l.length ≤ Rows.uptoBulkAll l := by
  induction l with
  | nil => simp [Rows.uptoBulkAll]
  | cons x r ih => have := bulk_one x; simp only [Rows.uptoBulkAll, List.length_cons]; omega
theorem bulk_mem {H : Type} {l : List (DataW H)} {d : DataW H} (h : d ∈ l) : Rows.uptoBulk d ≤ Rows.uptoBulkAll l := by
  induction l with
  | nil => simp at h
  | cons x r ih =>
    simp only [Rows.uptoBulkAll]
    rcases List.mem_cons.1 h with rfl | h
    · omega
    · have := ih h; omega
theorem bulk_get {H : Type} {l : List (DataW H × List MemPlace)} {i : Nat} {x : DataW H × List MemPlace} (h : l[i]? = some x) : Rows.uptoBulk x.1 ≤ Rows.uptoBulkAll (l.map (·.1)) :=
  bulk_mem (List.mem_map.2 ⟨x, List.mem_of_getElem? h, rfl⟩)

section
variable {H : Type} {enc : TypeId × Value → H} {w : World} {base : Nat} {spare : Nat → Bool} {held : Bool}

theorem open_elems2 {α : Type} [Inhabited α] (cells : α → List Value) (good : α → Nat → Prop) (k : Nat) {t e : TypeId} (ht : Try.prog.underlying t = some (.slice e)) (hk : Try.prog.cellsOf e = k) (hk1 : ∀ a, (cells a).length = k) (hk0 : 0 < k)
    (hopen : ∀ (n : Nat) (cs : List Value) (x : DataW H × List MemPlace), Rows.uptoBulk x.1 ≤ 1048576 → DataW.trod enc Try.prog w base spare held n e cs = some x → ∃ a, cs = cells a ∧ good a (Rows.uptoBulk x.1)) (hmono : ∀ a m n, m ≤ n → good a m → good a n)
    {fuel : Nat} {cs : List Value} {x : DataW H × List MemPlace} (hb : Rows.uptoBulk x.1 ≤ 1048576) (h : DataW.trod enc Try.prog w base spare held fuel t cs = some x) :
    ∃ (a : Option Addr) (len cap : Nat) (L : List α), cs = [.slice a len cap] ∧ L.length = len ∧ len ≤ cap ∧ cap ≤ maxLen ∧ len ≤ Rows.uptoBulk x.1 ∧
      ∀ (i : Nat) z, L[i]? = some z → good z (Rows.uptoBulk x.1) ∧ ∃ b off, a = some ⟨b, off, none⟩ ∧ b < w.heap.size ∧ ∀ j v, (cells z)[j]? = some v → w.cell? ⟨b, off + (i * k + j), none⟩ = some v := by
  rcases open_slice ht h with ⟨hcs, rfl⟩ | ⟨ad, len, cap, m, n, D, Pl, hcs, _, hl, hm, hmm, rfl, hi⟩
  · exact ⟨none, 0, 0, [], hcs, rfl, Nat.le_refl _, by simp [maxLen], by simp, by intro i z h; simp at h⟩
  · have hlm : len ≤ m := by rw [hmm]; split <;> omega
    have hbulk : ∀ i, i < len → Rows.uptoBulk (D i) ≤ Rows.uptoBulkAll ((List.range len).map D) := fun i hi => bulk_mem (List.mem_map.2 ⟨i, List.mem_range.2 hi, rfl⟩)
    have hlen := bulk_length ((List.range len).map D)
    simp only [List.length_map, List.length_range] at hlen
    simp only [Rows.uptoBulk] at hb ⊢
    rw [hk] at hi
    obtain ⟨f, hf⟩ := choose_lt (α := α) (n := len) (p := fun i o => good o (Rows.uptoBulkAll ((List.range len).map D) + Rows.uptoBulkAll ((List.range (m - len)).map fun j => D (len + j)) + 1) ∧ ∀ j v, (cells o)[j]? = some v → w.cell? ((ad.add (i * k)).add j) = some v) (fun i hil => by
      obtain ⟨cs', hc, ht⟩ := hi i (by omega)
      have hb1 := hbulk i hil
      obtain ⟨o, rfl, ok⟩ := hopen _ _ _ (by simp only; omega) ht
      obtain ⟨_, hcl, hat⟩ := World.cells?_some hc
      refine ⟨o, hmono _ _ _ (by simp only; omega) ok, fun j v hj => ?_⟩
      have hjk : j < k := by have := (List.getElem?_eq_some_iff.1 hj).1; rw [hk1] at this; exact this
      rw [hat j hjk]; exact hj)
    refine ⟨some ad, len, cap, (List.range len).map f, hcs, by simp, hl, hm, by omega, fun i z hz => ?_⟩
    have hil : i < len := by have := (List.getElem?_eq_some_iff.1 hz).1; simpa using this
    have hz' : f i = z := by simpa [hil] using hz
    subst hz'
    refine ⟨(hf i hil).1, ?_⟩
    obtain ⟨v0, hv0⟩ : ∃ v, (cells (f i))[0]? = some v := ⟨_, List.getElem?_eq_getElem (by rw [hk1]; exact hk0)⟩
    have hc0 := (hf i hil).2 0 _ hv0
    obtain ⟨u0, hu0⟩ : ∃ v, (cells (f 0))[0]? = some v := ⟨_, List.getElem?_eq_getElem (by rw [hk1]; exact hk0)⟩
    have hd0 := (hf 0 (by omega)).2 0 _ hu0
    obtain ⟨b, off, sp⟩ := ad
    have hsp : sp = none := by
      cases sp with
      | none => rfl
      | some s => simp [Addr.add, World.cell?] at hd0; split at hd0 <;> simp_all
    subst hsp
    refine ⟨b, off, rfl, ?_, fun j v hj => ?_⟩
    · have := block_lt_of_cell hc0
      rw [add_add, addr_add0] at this
      exact this
    · have := (hf i hil).2 j v hj
      rw [add_add, addr_add0] at this
      exact this

theorem open_u16 {fuel : Nat} {cs : List Value} {x : DataW H × List MemPlace} (hb : Rows.uptoBulk x.1 ≤ 1048576) (h : DataW.trod enc Try.prog w base spare held fuel 24 cs = some x) :
    ∃ (a : Option Addr) (us : List Nat) (c : Nat), cs = [.slice a us.length c] ∧ Sl16 w a us ∧ us.length ≤ c ∧ c ≤ 9223372036854775807 ∧ us.length ≤ Rows.uptoBulk x.1 := by
  obtain ⟨a, len, cap, L, hcs, rfl, h1, h2, h3, h4⟩ := open_elems2 (fun u : Nat => [.int .u16 (u : Int)]) (fun u _ => u ≤ 65535) 1 Try.underlying24 cells45 (fun _ => rfl) (by decide) (fun n cs x _ h => by
    obtain ⟨z, hz, _, hw⟩ := DataW.trod_int Try.underlying45 h
    have hw' := bounds_u16 hw
    exact ⟨z.toNat, by rw [hz, Int.toNat_of_nonneg hw'.1], by omega⟩) (fun _ _ _ _ h => h) hb h
  unfold maxLen at h2
  refine ⟨a, L, cap, hcs, ⟨fun i u hu => ?_, by omega⟩, h1, h2, h3⟩
  obtain ⟨hg, b, off, e1, e2, e3⟩ := h4 i u hu
  exact ⟨hg, b, off, e1, e2, by simpa using e3 0 _ rfl⟩

instance : Inhabited LA := ⟨⟨⟨#[]⟩, none, 0, []⟩⟩
theorem open_attr {fuel : Nat} {cs : List Value} {x : DataW H × List MemPlace} (hb : Rows.uptoBulk x.1 ≤ 1048576) (h : DataW.trod enc Try.prog w base spare held fuel 72 cs = some x) :
    ∃ y : LA, cs = y.cells ∧ Sl16 w y.va y.val ∧ y.name.size ≤ 9223372036854775807 ∧ y.val.length ≤ Rows.uptoBulk x.1 := by
  obtain ⟨xs, n, _, hx, hlen, hxl, hf⟩ := DataW.trod_struct Try.underlying72 h
  rw [cells72] at hlen
  match cs, hlen with
  | [c0, c1], _ =>
    have g0 : DataW.trod enc Try.prog w base spare held n 9 (([c0, c1].drop 0).take (Try.prog.cellsOf 9)) = xs[0]? := hf 0 _ rfl
    have g1 : DataW.trod enc Try.prog w base spare held n 24 (([c0, c1].drop 1).take (Try.prog.cellsOf 24)) = xs[1]? := hf 1 _ rfl
    simp only [cells9, cells24, List.drop_zero, List.drop_succ_cons, List.take_succ_cons, List.take_zero] at g0 g1
    have u1 := List.getElem?_eq_getElem (l := xs) (i := 1) (by rw [hxl]; decide)
    rw [List.getElem?_eq_getElem (by rw [hxl]; decide)] at g0 g1
    have hbb : Rows.uptoBulk x.1 = Rows.uptoBulkAll (xs.map (·.1)) + 1 := by rw [hx]; rfl
    have hb1 := bulk_get u1
    obtain ⟨s, h0, _, w0⟩ := DataW.trod_string Try.underlying9 g0
    obtain ⟨a, us, c, h1, k1, k2, k3, k4⟩ := open_u16 (by omega) g1
    simp at h0 h1
    subst h0 h1
    exact ⟨⟨s, a, c, us⟩, rfl, k1, w0, by simp only; omega⟩

theorem cellsA_get {L : List LA} {j : Nat} {u : Value} (h : (cellsA L)[j]? = some u) : ∃ i r y, L[i]? = some y ∧ y.cells[r]? = some u ∧ j = i * 2 + r := by
  induction L generalizing j with
  | nil => simp [cellsA] at h
  | cons x L ih =>
    have e : cellsA (x :: L) = x.cells ++ cellsA L := by simp [cellsA]
    rw [e] at h
    have hl : x.cells.length = 2 := rfl
    rcases Nat.lt_or_ge j 2 with h2 | h2
    · rw [List.getElem?_append_left (by omega)] at h
      exact ⟨0, j, x, rfl, h, by omega⟩
    · rw [List.getElem?_append_right (by omega), hl] at h
      obtain ⟨i, r, y, e1, e2, e3⟩ := ih h
      exact ⟨i + 1, r, y, by simpa using e1, e2, by omega⟩
theorem open_attrs {fuel : Nat} {cs : List Value} {x : DataW H × List MemPlace} (hb : Rows.uptoBulk x.1 ≤ 1048576) (h : DataW.trod enc Try.prog w base spare held fuel 25 cs = some x) :
    ∃ (a : Option Addr) (L : List LA) (c : Nat), cs = [.slice a L.length c] ∧ SlA w a L ∧ L.length ≤ c ∧ c ≤ 9223372036854775807 ∧ L.length ≤ Rows.uptoBulk x.1 ∧ ∀ y ∈ L, y.val.length ≤ Rows.uptoBulk x.1 := by
  obtain ⟨a, len, cap, L, hcs, rfl, h1, h2, h3, h4⟩ := open_elems2 LA.cells (fun y m => Sl16 w y.va y.val ∧ y.name.size ≤ 9223372036854775807 ∧ y.val.length ≤ m) 2 Try.underlying25 cells72 (fun _ => rfl) (by decide) (fun n cs x hb h => by
    obtain ⟨y, e1, e2, e3, e4⟩ := open_attr hb h
    exact ⟨y, e1, e2, e3, e4⟩) (fun _ _ _ hmn h => ⟨h.1, h.2.1, Nat.le_trans h.2.2 hmn⟩) hb h
  unfold maxLen at h2
  refine ⟨a, L, cap, hcs, ⟨fun j u hu => ?_, by omega, fun y hy => ?_, fun y hy => ?_⟩, h1, h2, h3, fun y hy => ?_⟩
  · obtain ⟨i, r, y, e1, e2, rfl⟩ := cellsA_get hu
    obtain ⟨_, b, off, f1, f2, f3⟩ := h4 i y e1
    exact ⟨b, off, f1, f2, f3 r u e2⟩
  all_goals
    obtain ⟨i, hi⟩ := List.mem_iff_getElem?.1 hy
    have hg := (h4 i y hi).1
  · exact hg.1
  · exact hg.2.1
  · exact hg.2.2

theorem open_handle {fuel : Nat} {cs : List Value} {x : DataW H × List MemPlace} (h : DataW.trod enc Try.prog w base spare held fuel 28 cs = some x) :
    ∃ s g : Int, cs = [.int .u32 s, .int .u32 g] := by
  obtain ⟨xs, n, _, _, hlen, hxl, hf⟩ := DataW.trod_struct Try.underlying28 h
  rw [cells28] at hlen
  match cs, hlen with
  | [c0, c1], _ =>
    have g0 : DataW.trod enc Try.prog w base spare held n 26 (([c0, c1].drop 0).take (Try.prog.cellsOf 26)) = xs[0]? := hf 0 _ rfl
    have g1 : DataW.trod enc Try.prog w base spare held n 26 (([c0, c1].drop 1).take (Try.prog.cellsOf 26)) = xs[1]? := hf 1 _ rfl
    simp only [cells26, List.drop_zero, List.drop_succ_cons, List.take_succ_cons, List.take_zero] at g0 g1
    rw [List.getElem?_eq_getElem (by rw [hxl]; decide)] at g0 g1
    obtain ⟨a, h0, _, w0⟩ := DataW.trod_int Try.underlying26 g0
    obtain ⟨b, h1, _, w1⟩ := DataW.trod_int Try.underlying26 g1
    simp at h0 h1
    subst h0 h1
    exact ⟨a, b, rfl⟩

theorem open_node {fuel : Nat} {cs : List Value} {x : DataW H × List MemPlace} (hb : Rows.uptoBulk x.1 ≤ 1048576) (h : DataW.trod enc Try.prog w base spare held fuel 30 cs = some x) :
    ∃ N : Nd, cs = N.cells.toList ∧ NdIn w N ∧ N.Bd 1048576 := by
  obtain ⟨xs, n, _, hx, hlen, hxl, hf⟩ := DataW.trod_struct Try.underlying30 h
  rw [cells30] at hlen
  match cs, hlen with
  | [c0, c1, c2, c3, c4, c5], _ =>
    have g0 : DataW.trod enc Try.prog w base spare held n 23 (([c0, c1, c2, c3, c4, c5].drop 0).take (Try.prog.cellsOf 23)) = xs[0]? := hf 0 _ rfl
    have g1 : DataW.trod enc Try.prog w base spare held n 9 (([c0, c1, c2, c3, c4, c5].drop 1).take (Try.prog.cellsOf 9)) = xs[1]? := hf 1 _ rfl
    have g2 : DataW.trod enc Try.prog w base spare held n 24 (([c0, c1, c2, c3, c4, c5].drop 2).take (Try.prog.cellsOf 24)) = xs[2]? := hf 2 _ rfl
    have g3 : DataW.trod enc Try.prog w base spare held n 25 (([c0, c1, c2, c3, c4, c5].drop 3).take (Try.prog.cellsOf 25)) = xs[3]? := hf 3 _ rfl
    have g4 : DataW.trod enc Try.prog w base spare held n 28 (([c0, c1, c2, c3, c4, c5].drop 4).take (Try.prog.cellsOf 28)) = xs[4]? := hf 4 _ rfl
    simp only [cells23, cells9, cells24, cells25, cells28, List.drop_zero, List.drop_succ_cons, List.take_succ_cons, List.take_zero] at g0 g1 g2 g3 g4
    have u2 := List.getElem?_eq_getElem (l := xs) (i := 2) (by rw [hxl]; decide)
    have u3 := List.getElem?_eq_getElem (l := xs) (i := 3) (by rw [hxl]; decide)
    rw [List.getElem?_eq_getElem (by rw [hxl]; decide)] at g0 g1 g2 g3 g4
    have hbb : Rows.uptoBulk x.1 = Rows.uptoBulkAll (xs.map (·.1)) + 1 := by rw [hx]; rfl
    have hb2 := bulk_get u2
    have hb3 := bulk_get u3
    obtain ⟨k, h0, _, _⟩ := DataW.trod_int Try.underlying23 g0
    obtain ⟨s, h1, _, w1⟩ := DataW.trod_string Try.underlying9 g1
    obtain ⟨a, us, c, h2, j1, j2, j3, j4⟩ := open_u16 (by omega) g2
    obtain ⟨aa, L, ac, h3, l1, l2, l3, l4, l5⟩ := open_attrs (by omega) g3
    obtain ⟨sl, ge, h4⟩ := open_handle g4
    simp at h0 h1 h2 h3 h4
    obtain ⟨rfl, rfl⟩ := h4
    subst h0 h1 h2 h3
    exact ⟨⟨k, s, a, c, us, aa, ac, L, sl, ge⟩, rfl, ⟨j1, l1, w1, j2, j3, l2, l3⟩, by simp only; omega, by simp only; omega, fun y hy => by have := l5 y hy; omega⟩

theorem open_cut {fuel : Nat} {cs : List Value} {x : DataW H × List MemPlace} (hb : Rows.uptoBulk x.1 ≤ 1048576) (h : DataW.trod enc Try.prog w base spare held fuel 40 cs = some x) :
    ∃ (N : Nd) (off cnt : Int) (ba : Option Addr) (us : List Nat) (bc : Nat), cs = (cutCells N off cnt ba us.length bc).toList ∧ NdIn w N ∧ N.Bd 1048576 ∧ Sl16 w ba us ∧ us.length ≤ 1048576 ∧ us.length ≤ bc ∧ bc ≤ 9223372036854775807 ∧
      (Lit.int .i64 off).wf = true ∧ (Lit.int .i64 cnt).wf = true := by
  obtain ⟨xs, n, _, hx, hlen, hxl, hf⟩ := DataW.trod_struct Try.underlying40 h
  rw [cells40] at hlen
  match cs, hlen with
  | [c0, c1, c2, c3, c4, c5, c6, c7, c8], _ =>
    have g0 : DataW.trod enc Try.prog w base spare held n 30 (([c0, c1, c2, c3, c4, c5, c6, c7, c8].drop 0).take (Try.prog.cellsOf 30)) = xs[0]? := hf 0 _ rfl
    have g1 : DataW.trod enc Try.prog w base spare held n 3 (([c0, c1, c2, c3, c4, c5, c6, c7, c8].drop 6).take (Try.prog.cellsOf 3)) = xs[1]? := hf 1 _ rfl
    have g2 : DataW.trod enc Try.prog w base spare held n 3 (([c0, c1, c2, c3, c4, c5, c6, c7, c8].drop 7).take (Try.prog.cellsOf 3)) = xs[2]? := hf 2 _ rfl
    have g3 : DataW.trod enc Try.prog w base spare held n 24 (([c0, c1, c2, c3, c4, c5, c6, c7, c8].drop 8).take (Try.prog.cellsOf 24)) = xs[3]? := hf 3 _ rfl
    simp only [cells30, cells3, cells24, List.drop_zero, List.drop_succ_cons, List.take_succ_cons, List.take_zero] at g0 g1 g2 g3
    have u0 := List.getElem?_eq_getElem (l := xs) (i := 0) (by rw [hxl]; decide)
    have u3 := List.getElem?_eq_getElem (l := xs) (i := 3) (by rw [hxl]; decide)
    rw [List.getElem?_eq_getElem (by rw [hxl]; decide)] at g0 g1 g2 g3
    have hbb : Rows.uptoBulk x.1 = Rows.uptoBulkAll (xs.map (·.1)) + 1 := by rw [hx]; rfl
    have hb0 := bulk_get u0
    have hb3 := bulk_get u3
    obtain ⟨N, h0, hN, hB⟩ := open_node (by omega) g0
    obtain ⟨o, h1, _, w1⟩ := DataW.trod_int Try.underlying3 g1
    obtain ⟨k, h2, _, w2⟩ := DataW.trod_int Try.underlying3 g2
    obtain ⟨a, us, c, h3, j1, j2, j3, j4⟩ := open_u16 (by omega) g3
    simp [Nd.cells] at h0 h1 h2 h3
    obtain ⟨rfl, rfl, rfl, rfl, rfl, rfl⟩ := h0
    subst h1 h2 h3
    exact ⟨N, o, k, a, us, c, rfl, hN, hB, j1, by omega, j2, j3, w1, w2⟩
end
/-- A value of a struct's type is an aggregate, of the cells that are read. -/
theorem agg_of {v : Value} {l : List Value} (h : v.cells.toList = l) (hl : 1 < l.length) : ∃ c, v = .agg c ∧ c.toList = l := by
  cases v with
  | agg c => exact ⟨c, rfl, h⟩
  | _ => exfalso; subst h; simp [Value.cells] at hl
end Go.Proofs.Ytelhnaphkbpakaa

