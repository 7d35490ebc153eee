/- R.Check walked. -/
import Derived.Deep.DeepCutAuto
import Derived.Test.YtelhnaphkbpakaaMc36
namespace Go.Proofs.Ytelhnaphkbpakaa
open Go.RowKit
set_option linter.unusedVariables false
set_option maxRecDepth 100000

def hasN (k : Int) : Bool := decide (k = 1 ∨ k = 7 ∨ k = 10)
def knownK (k : Int) : Bool := decide (k = 1 ∨ k = 7 ∨ k = 10 ∨ k = 3 ∨ k = 8 ∨ k = 9 ∨ k = 11)
set_option maxHeartbeats 2000000 in
theorem kinds_calls (w : World) (k : Int) : Calls Try.prog 50 #[.int .i64 k] w fun e w' => e = .returned (.tuple #[.bool (hasN k), .bool (knownK k)]) ∧ w = w' := by
  by_cases hk : k = 1 ∨ k = 7 ∨ k = 10 ∨ k = 3 ∨ k = 8 ∨ k = 9 ∨ k = 11
  · rcases hk with rfl | rfl | rfl | rfl | rfl | rfl | rfl
    all_goals go_enter Try.func50, Try.ntmps50
    all_goals go_wp2_with fail
    all_goals first | exact bodyPost_ret (v := .tuple #[.bool true, .bool true]) (by simp [results, Try.results50, go_sem]) rfl ⟨rfl, rfl⟩ | exact bodyPost_ret (v := .tuple #[.bool false, .bool true]) (by simp [results, Try.results50, go_sem]) rfl ⟨rfl, rfl⟩
  · have e1 : (k == 1) = false := by simp; omega
    have e2 : (k == 7) = false := by simp; omega
    have e3 : (k == 10) = false := by simp; omega
    have e4 : (k == 3) = false := by simp; omega
    have e5 : (k == 8) = false := by simp; omega
    have e6 : (k == 9) = false := by simp; omega
    have e7 : (k == 11) = false := by simp; omega
    have h1 : hasN k = false := decide_eq_false (by omega)
    have h2 : knownK k = false := decide_eq_false hk
    rw [h1, h2]
    clear hk h1 h2
    go_enter Try.func50, Try.ntmps50
    go_wp2_with fail
    exact bodyPost_ret (v := .tuple #[.bool false, .bool false]) (by simp [results, Try.results50, go_sem]) rfl ⟨rfl, rfl⟩
theorem pos0 (n : Nat) : decide (0 < n) = !(n == 0) := by cases n <;> rfl
theorem not_f {b f : Bool} (h : b = !f) : f = !b := by cases b <;> cases f <;> simp_all
theorem good_take {l : List ByteArray} {i : Nat} {x : ByteArray} (hx : l[i]? = some x) (h : goodA (l.take (i + 1)) = false) : goodA l = false := by
  cases hg : goodA l with
  | false => rfl
  | true =>
    rw [← List.take_append_drop (i + 1) l] at hg
    rw [goodA_pre hg] at h
    cases h
theorem good_next {l : List ByteArray} {i : Nat} {x : ByteArray} (hx : l[i]? = some x) : goodA (l.take (i + 1)) = (goodA (l.take i) && namedD x && decide (ky x ∉ (l.take i).map ky)) := by
  rw [List.take_add_one, hx]
  exact goodA_snoc _ _
theorem ky_take {L : List LA} {i : Nat} {s : ByteArray} : (ky s ∈ ((L.map LA.name).take i).map ky) ↔ ∃ (j : Nat) (y : LA), j < i ∧ L[j]? = some y ∧ y.name = s := by
  rw [List.mem_map]
  constructor
  · rintro ⟨z, hz, e⟩
    obtain ⟨j, hj⟩ := List.mem_iff_getElem?.1 hz
    rw [List.getElem?_take] at hj
    split at hj
    · rename_i hji
      rw [List.getElem?_map] at hj
      obtain ⟨y, hy, rfl⟩ := Option.map_eq_some_iff.1 hj
      refine ⟨j, y, hji, hy, ba_eq.1 ?_⟩
      rw [ByteArray.toList_eq, ByteArray.toList_eq, beq_iff_eq]
      exact e
    · cases hj
  · rintro ⟨j, y, hj, hy, rfl⟩
    exact ⟨y.name, List.mem_of_getElem? (i := j) (by rw [List.getElem?_take, if_pos hj, List.getElem?_map, hy]; rfl), rfl⟩

set_option maxHeartbeats 8000000 in
theorem checkR_calls (w : World) (N : Nd) (h : NdIn w N) :
    Calls Try.prog 16 #[N.v] w fun e w' => e = .returned (.int .i64 (checkC N.c)) ∧ Below w.heap.size w w' := by
  have hA := h.attrs
  have hn := h.nam
  have hcc : checkC N.c = checkD N.kind N.name N.data.length (N.L.map LA.name) := by unfold checkC; rw [names_c]; rfl
  rw [hcc]
  have hml := h.data.len
  obtain ⟨k, nm, da, dc, data, aa, ac, L, sl, ge⟩ := N
  simp only [Nd.v, Nd.cells] at *
  obtain ⟨n, en⟩ : ∃ n, n = L.length := ⟨_, rfl⟩
  obtain ⟨m, em⟩ : ∃ m, m = data.length := ⟨_, rfl⟩
  have hl := hA.len
  rw [← en, ← em]
  rw [← en] at hl
  rw [← em] at hml
  have HN := Lib.hid en
  have HA := Lib.hid hA
  clear en em hA h hcc
  obtain ⟨c, hc⟩ : ∃ c, c = checkD k nm m (L.map LA.name) := ⟨_, rfl⟩
  rw [← hc]
  have HC := Lib.hid hc
  clear hc
  obtain ⟨V, hV⟩ : ∃ V, V = w.alloc (.cells #[.int .i64 k, .string nm, .slice da m dc, .slice aa n ac, .int .u32 sl, .int .u32 ge] 30) := ⟨_, rfl⟩
  have hb0 : Below w.heap.size w V := by rw [hV]; exact (Below.refl _ w).alloc (Nat.le_refl _) _
  have x0 : V.heap[w.heap.size]? = some (.cells #[.int .i64 k, .string nm, .slice da m dc, .slice aa n ac, .int .u32 sl, .int .u32 ge] 30 (0, 0)) := by rw [hV]; exact Go.heap_alloc_new w _
  have KB : Hid (∀ W, Below V.heap.size V W → W.heap[w.heap.size]? = some (.cells #[.int .i64 k, .string nm, .slice da m dc, .slice aa n ac, .int .u32 sl, .int .u32 ge] 30 (0, 0)) ∧ SlA W aa L ∧ Below w.heap.size w W) := Lib.hid (fun W b => ⟨(b.block _ (lt_of_some x0)).trans x0, HA.out.below (hb0.trans (b.mono hb0.size)), hb0.trans (b.mono hb0.size)⟩)
  have HK1 := Lib.hid (kinds_calls V k)
  have HK2 := Lib.hid (unitsOf_calls V k)
  have HNM : Hid (∀ W, Calls Try.prog 13 #[.string nm] W fun e w' => e = .returned (.bool (namedD nm)) ∧ W = w') := Lib.hid (fun W => namedR_calls W nm hn)
  have HNX : Hid (∀ W (x : LA), x ∈ L → Calls Try.prog 13 #[.string x.name] W fun e w' => e = .returned (.bool (namedD x.name)) ∧ W = w') := Lib.hid (fun W x hx => namedR_calls W x.name (HA.out.nam x hx))
  have hV2 := hV
  rw [hV2] at HK1 HK2
  clear hV hb0 x0 hn HA
  obtain ⟨c0, c1, c2, c3, l0⟩ : V.cell? ⟨w.heap.size, 0, none⟩ = some (.int .i64 k) ∧ V.cell? ⟨w.heap.size, 1, none⟩ = some (.string nm) ∧ V.cell? ⟨w.heap.size, 2, none⟩ = some (.slice da m dc) ∧ V.cell? ⟨w.heap.size, 3, none⟩ = some (.slice aa n ac) ∧ w.heap.size < V.heap.size :=
    ⟨cell_blk (KB.out V (Below.refl _ _)).1 0 rfl, cell_blk (KB.out V (Below.refl _ _)).1 1 rfl, cell_blk (KB.out V (Below.refl _ _)).1 2 rfl, cell_blk (KB.out V (Below.refl _ _)).1 3 rfl, lt_of_some (KB.out V (Below.refl _ _)).1⟩
  obtain ⟨hN, ehN⟩ : ∃ b, b = hasN k := ⟨_, rfl⟩
  obtain ⟨kN, ekN⟩ : ∃ b, b = knownK k := ⟨_, rfl⟩
  obtain ⟨uN, euN⟩ : ∃ b, b = decide (k = 3 ∨ k = 8 ∨ k = 7) := ⟨_, rfl⟩
  rw [← ehN, ← ekN] at HK1
  rw [← euN] at HK2
  have HB := Lib.hid (And.intro ehN (And.intro ekN euN))
  clear ehN ekN euN
  go_enter Try.func16, Try.ntmps16
  go_upto_region 3 with (first | (go_at_call 50; refine HK1.out.mono ?_; rintro e w1 ⟨rfl, rfl⟩) | (go_at_call 51; refine HK2.out.mono ?_; rintro e w1 ⟨rfl, rfl⟩))
  rw [← hV2]
  clear hV2 HK1 HK2
  go_cut [49] from 18 to 49 (fun v wc => ∃ b : Bool, v = .bool b ∧ Hid (b = !fitsD k nm m n) ∧ V = wc)
  case first =>
    by_cases hk : k = 1 ∨ k = 7 ∨ k = 10 ∨ k = 3 ∨ k = 8 ∨ k = 9 ∨ k = 11
    · rcases hk with rfl | rfl | rfl | rfl | rfl | rfl | rfl
      all_goals obtain ⟨e1, e2, e3⟩ := HB.out
      all_goals simp [hasN, knownK] at e1 e2 e3
      all_goals subst e1 e2 e3
      all_goals clear HB HNM HNX HC
      all_goals go_wp2_with fail
      all_goals subst_vars
      all_goals go_meet
      all_goals refine ⟨_, rfl, Lib.hid ?_, rfl⟩
      all_goals simp_all [fitsD, noName]
      all_goals first | done | exact pos0 _ | (rw [beq0] <;> simp_all; done) | (simp_all [beq0]; done) | (cases m <;> simp_all; done) | (cases n <;> simp_all; done) | (cases m <;> cases n <;> simp_all; done)
    · obtain ⟨e1, e2, e3⟩ := HB.out
      rw [show knownK k = false from decide_eq_false hk] at e2
      subst e2
      have hf : fitsD k nm m n = false := by
        unfold fitsD
        rw [if_neg (by omega), if_neg (by omega), if_neg (by omega), if_neg (by omega), if_neg (by omega)]
      have HF := Lib.hid hf
      clear hf e1 e3 hk
      go_wp2_with fail
      all_goals go_meet
      all_goals exact ⟨true, rfl, Lib.hid (by rw [HF.out]; rfl), rfl⟩
  case rest =>
    obtain ⟨fb, rfl, hfb, rfl⟩ := hcut
    cases fb with
    | true =>
      have HCC : Hid (c = 63) := Lib.hid (by
        have h1 := hfb.out
        rw [HC.out]
        unfold checkD
        rw [List.length_map, ← HN.out, if_pos (show fitsD k nm m n = false from not_f h1)])
      go_wp2_with fail
      go_ret
      exact ⟨by rw [HCC.out]; rfl, (KB.out V (Below.refl _ _)).2.2⟩
    | false =>
      have HCD : Hid (c = if (k = 1 ∨ k = 7 ∨ k = 10) ∧ namedD nm = false then 62 else if goodA (L.map LA.name) then 0 else 62) := Lib.hid (by
        have h1 := hfb.out
        rw [HC.out]
        unfold checkD
        rw [List.length_map, ← HN.out, if_neg (by rw [not_f h1]; decide)])
      clear hfb HC
      obtain ⟨nB, enB⟩ : ∃ b, b = namedD nm := ⟨_, rfl⟩
      rw [← enB] at HNM HCD
      clear enB
      by_cases hbad : hN = true ∧ nB = false
      · obtain ⟨rfl, rfl⟩ := hbad
        have HCC : Hid (c = 62) := Lib.hid (by
          rw [HCD.out, if_pos ⟨of_decide_eq_true HB.out.1.symm, rfl⟩])
        clear HB HCD
        go_wp2_with (go_at_call 13; refine (HNM.out _).mono ?_; rintro e w1 ⟨rfl, rfl⟩)
        go_ret
        exact ⟨by rw [HCC.out]; rfl, (KB.out V (Below.refl _ _)).2.2⟩
      · have HCE : Hid (c = if goodA (L.map LA.name) then 0 else 62) := Lib.hid (by
          rw [HCD.out, if_neg]
          rintro ⟨h1, h2⟩
          exact hbad ⟨by rw [HB.out.1]; exact decide_eq_true h1, h2⟩)
        have HV := Lib.hid (Below.refl V.heap.size V)
        have hg : (hN = true ∧ nB = true) ∨ hN = false := by cases hN <;> cases nB <;> simp_all
        clear HCD HB hbad c2
        obtain ⟨V2, hV2⟩ : ∃ V2, V2 = V := ⟨_, rfl⟩
        go_upto_region 6 with (go_at_call 13; refine (HNM.out _).mono ?_; rintro e w1 ⟨rfl, rfl⟩)
        go_cut [57] from 53 to 57 (fun v wc => v = .bool false ∧ V = wc)
        case first =>
          rcases hg with ⟨rfl, rfl⟩ | rfl
          all_goals go_wp2_with fail
          all_goals go_meet
          all_goals exact ⟨rfl, rfl⟩
        case rest =>
          obtain ⟨rfl, rfl⟩ := hcut
          clear hg hV2 V2 HNM c3 l0 c0 c1
          go_wp2_with fail
          go_loopw [7] (fun v wr => ∃ i : Nat, v = .int .i64 (i : Nat) ∧ i ≤ n ∧ goodA ((L.map LA.name).take i) = true ∧ Below V.heap.size V wr) (fun v _ => n - (intOf v).toNat)
          case atStart => exact ⟨0, rfl, Nat.zero_le _, by simp [goodA], HV.out⟩
          case round =>
            obtain ⟨i, rfl, hi, hgood, hb⟩ := hrel
            have c3 := cell_blk (KB.out wr hb).1 3 rfl
            have l0 := lt_of_some (KB.out wr hb).1
            simp at c3
            by_cases hlt : i < n
            · have p1 : (i : Int) < (n : Int) := by omega
              have p0 : (0 : Int) ≤ (i : Int) := by omega
              have w1 : IntKind.i64.wrap ((i : Int) + 1) = (i : Int) + 1 := IntWalk.i64_in _ (by omega)
              obtain ⟨x, hx⟩ : ∃ x, L[i]? = some x := ⟨_, List.getElem?_eq_getElem (by rw [← HN.out]; exact hlt)⟩
              have hxn : (L.map LA.name)[i]? = some x.name := by rw [List.getElem?_map, hx]; rfl
              obtain ⟨b1, o1, rfl, hb1, x1, x2⟩ := (KB.out wr hb).2.1.get hx
              have HXN := Lib.hid (HNX.out wr x (List.mem_of_getElem? hx))
              have HX := Lib.hid (And.intro hx (And.intro hxn (And.intro hgood hb)))
              clear hx hxn hgood hb
              cases hnd : namedD x.name with
              | false =>
                rw [hnd] at HXN
                have HCC : Hid (c = 62) := Lib.hid (by
                  rw [HCE.out, good_take HX.out.2.1 (by rw [good_next HX.out.2.1, hnd, Bool.and_false, Bool.false_and])]; rfl)
                clear hnd
                go_wp2_with (go_at_call 13; refine HXN.out.mono ?_; rintro e w2 ⟨rfl, rfl⟩)
                go_ret
                exact ⟨by rw [HCC.out]; rfl, (KB.out wr HX.out.2.2.2).2.2⟩
              | true =>
                rw [hnd] at HXN
                have HND := Lib.hid hnd
                clear hnd
                go_wp2_with (go_at_call 13; refine HXN.out.mono ?_; rintro e w2 ⟨rfl, rfl⟩)
                go_loopw [8] (fun v wq => ∃ j : Nat, v = .int .i64 (j : Nat) ∧ j ≤ i ∧ (∀ (j' : Nat) (y : LA), j' < j → L[j']? = some y → y.name ≠ x.name) ∧ Below V.heap.size V wq) (fun v _ => i - (intOf v).toNat)
                case atStart => exact ⟨0, rfl, Nat.zero_le _, fun j' y hj => absurd hj (by omega), HX.out.2.2.2⟩
                case round =>
                  obtain ⟨j, rfl, hj, hne, hb⟩ := hrel
                  clear c3 l0 hb1 x1 x2
                  have c3 := cell_blk (KB.out wr hb).1 3 rfl
                  have l0 := lt_of_some (KB.out wr hb).1
                  simp at c3
                  by_cases hji : j < i
                  · have p2 : (j : Int) < (i : Int) := by omega
                    have p3 : (0 : Int) ≤ (j : Int) := by omega
                    have p4 : (j : Int) < (n : Int) := by omega
                    have w3 : IntKind.i64.wrap ((j : Int) + 1) = (j : Int) + 1 := IntWalk.i64_in _ (by omega)
                    obtain ⟨y, hy⟩ : ∃ y, L[j]? = some y := ⟨_, List.getElem?_eq_getElem (by rw [← HN.out]; omega)⟩
                    obtain ⟨b1', o1', he1, hb1, x1, x2⟩ := (KB.out wr hb).2.1.get HX.out.1
                    cases he1
                    obtain ⟨b2', o2', he2, hb2, y1, y2⟩ := (KB.out wr hb).2.1.get hy
                    cases he2
                    have HH := Lib.hid (And.intro hne (And.intro hy hb))
                    clear hne hy hb
                    by_cases hnm : y.name = x.name
                    · have HCC : Hid (c = 62) := Lib.hid (by
                        rw [HCE.out, good_take HX.out.2.1 (by rw [good_next HX.out.2.1, decide_eq_false (by rw [ky_take]; exact fun hh => hh ⟨j, y, hji, HH.out.2.1, hnm⟩), Bool.and_false])]; rfl)
                      rw [hnm] at y1
                      clear hnm
                      go_wp2_with fail
                      go_quiet (fail)
                      go_wp2_with fail
                      go_ret
                      exact ⟨by rw [HCC.out]; rfl, below_dN (KB.out wr HH.out.2.2).2.2 (KB.out wr HH.out.2.2).2.2.size _⟩
                    · have e1 : (y.name.toList == x.name.toList) = false := ba_ne hnm
                      have HNM2 := Lib.hid hnm
                      clear hnm
                      go_wp2_with fail
                      go_quiet (fail)
                      go_wp2_with fail
                      go_roundw
                      case rel =>
                        refine ⟨j + 1, by go_num, hji, fun j' y' hj' hy' => ?_, below_dN HH.out.2.2 HH.out.2.2.size _⟩
                        by_cases e : j' = j
                        · subst e
                          rw [HH.out.2.1] at hy'
                          cases hy'
                          exact HNM2.out
                        · exact HH.out.1 j' y' (by omega) hy'
                      case measure => simp [intOf]; omega
                  · obtain rfl : j = i := by omega
                    have p2 : ¬ (j : Int) < (j : Int) := by omega
                    have HG : Hid (goodA ((L.map LA.name).take (j + 1)) = true) := Lib.hid (by
                      rw [good_next HX.out.2.1, HX.out.2.2.1, HND.out, decide_eq_true (by rw [ky_take]; rintro ⟨j', y, h1, h2, h3⟩; exact hne j' y h1 h2 h3)]; rfl)
                    have HH := Lib.hid hb
                    clear hne hb
                    go_wp2_with fail
                    go_roundw
                    case rel => exact ⟨j + 1, by go_num, hlt, HG.out, HH.out⟩
                    case measure => simp [intOf]; omega
            · obtain rfl : i = n := by omega
              have p1 : ¬ (i : Int) < (i : Int) := by omega
              have HCC : Hid (c = 0) := Lib.hid (by
                rw [List.take_of_length_le (by rw [List.length_map, HN.out]; exact Nat.le_refl _)] at hgood
                rw [HCE.out, hgood]; rfl)
              have HH := Lib.hid hb
              clear hgood hlt hb
              go_wp2_with fail
              go_ret
              exact ⟨by rw [HCC.out]; rfl, (KB.out wr HH.out).2.2⟩
end Go.Proofs.Ytelhnaphkbpakaa

