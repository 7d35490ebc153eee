/- R.Equal, at any number of attributes. -/
import Derived.Deep.DeepCutAuto
import Derived.Test.YtelhnaphkbpakaaMc27
namespace Go.Proofs.Ytelhnaphkbpakaa
open Go.RowKit
set_option linter.unusedVariables false
set_option maxRecDepth 100000

theorem info4b : (Try.prog.info? 4).map (fun i => (i.zero, i.size, i.bytes)) = some (some (.bool false), 1, 1) := by kernel_rfl
/-- What no flag has marked. -/
def unused {α : Type} : List α → List Bool → List α
  | x :: l, b :: u => if b = true then unused l u else x :: unused l u
  | _, _ => []
theorem unused_none {α : Type} : ∀ l : List α, unused l (List.replicate l.length false) = l
  | [] => rfl
  | x :: l => by
    show unused (x :: l) (false :: List.replicate l.length false) = x :: l
    unfold unused
    rw [if_neg (by simp), unused_none l]
theorem unused_take {α : Type} {y : α} : ∀ {l : List α} {u : List Bool} {j : Nat}, l[j]? = some y → u[j]? = some false → (unused l u).Perm (y :: unused l (u.set j true))
  | [], u, j, h, _ => by simp at h
  | x :: l, [], j, _, h => by simp at h
  | x :: l, b :: u, 0, h1, h2 => by
    obtain rfl : x = y := by simpa using h1
    obtain rfl : b = false := by simpa using h2
    show (unused (x :: l) (false :: u)).Perm (x :: unused (x :: l) (true :: u))
    unfold unused
    rw [if_neg (by simp), if_pos rfl]
  | x :: l, b :: u, j + 1, h1, h2 => by
    have h1' : l[j]? = some y := by simpa using h1
    have h2' : u[j]? = some false := by simpa using h2
    have ih := unused_take h1' h2'
    show (unused (x :: l) (b :: u)).Perm (y :: unused (x :: l) (b :: u.set j true))
    unfold unused
    cases b with
    | true => rw [if_pos rfl, if_pos rfl]; exact ih
    | false => rw [if_neg (by simp), if_neg (by simp)]; exact (ih.cons x).trans (List.Perm.swap y x _)
theorem unused_mem {α : Type} {y : α} : ∀ {l : List α} {u : List Bool}, y ∈ unused l u → ∃ j : Nat, l[j]? = some y ∧ u[j]? = some false
  | [], u, h => by simp [unused] at h
  | x :: l, [], h => by simp [unused] at h
  | x :: l, b :: u, h => by
    unfold unused at h
    cases b with
    | true =>
      rw [if_pos rfl] at h
      obtain ⟨j, h1, h2⟩ := unused_mem h
      exact ⟨j + 1, by simpa using h1, by simpa using h2⟩
    | false =>
      rw [if_neg (by simp)] at h
      rcases List.mem_cons.1 h with rfl | h
      · exact ⟨0, rfl, rfl⟩
      · obtain ⟨j, h1, h2⟩ := unused_mem h
        exact ⟨j + 1, by simpa using h1, by simpa using h2⟩
/-- Each of the first i has found another of M. -/
def Mtc (L M : List LA) (i : Nat) (u : List Bool) : Prop := (M.map attrOf).Perm ((L.take i).map attrOf ++ unused (M.map attrOf) u)
theorem Mtc.zero (L M : List LA) {n : Nat} (hM : M.length = n) : Mtc L M 0 (List.replicate n false) := by
  have h := unused_none (M.map attrOf)
  rw [List.length_map, hM] at h
  unfold Mtc
  rw [h]
  exact List.Perm.refl _
theorem Mtc.step {L M : List LA} {i j : Nat} {u : List Bool} {x y : LA} (h : Mtc L M i u) (hx : L[i]? = some x) (hy : M[j]? = some y) (hu : u[j]? = some false) (e : attrOf x = attrOf y) : Mtc L M (i + 1) (u.set j true) := by
  have h1 := unused_take (l := M.map attrOf) (u := u) (j := j) (y := attrOf y) (by rw [List.getElem?_map, hy]; rfl) hu
  have h2 : (L.take (i + 1)).map attrOf = (L.take i).map attrOf ++ [attrOf x] := by
    rw [List.take_add_one, hx, List.map_append]; rfl
  unfold Mtc at h ⊢
  rw [h2, e, List.append_assoc]
  exact h.trans (List.Perm.append_left _ h1)
theorem Mtc.done {L M : List LA} {n : Nat} {u : List Bool} (h : Mtc L M n u) (hL : L.length = n) (hM : M.length = n) : (L.map attrOf).Perm (M.map attrOf) := by
  unfold Mtc at h
  have hl := h.length_eq
  rw [List.take_of_length_le (by omega)] at h hl
  rw [List.length_append, List.length_map, List.length_map] at hl
  have h0 : unused (M.map attrOf) u = [] := List.eq_nil_of_length_eq_zero (by omega)
  rw [h0, List.append_nil] at h
  exact h.symm
theorem Mtc.lost {L M : List LA} {i : Nat} {u : List Bool} {x : LA} (h : Mtc L M i u) (hx : L[i]? = some x) (hno : ∀ (j : Nat) (y : LA), M[j]? = some y → u[j]? = some false → attrOf x ≠ attrOf y) : ¬ (L.map attrOf).Perm (M.map attrOf) := fun hp => by
  unfold Mtc at h
  have h1 := hp.trans h
  have h2 : L.map attrOf = (L.take i).map attrOf ++ (L.drop i).map attrOf := by rw [← List.map_append, List.take_append_drop]
  rw [h2] at h1
  have h3 := (List.perm_append_left_iff _).1 h1
  have h4 : attrOf x ∈ (L.drop i).map attrOf := List.mem_map.2 ⟨x, List.mem_of_getElem? (i := 0) (by rw [List.getElem?_drop]; exact hx), rfl⟩
  obtain ⟨j, k1, k2⟩ := unused_mem (h3.mem_iff.1 h4)
  rw [List.getElem?_map] at k1
  obtain ⟨y, hy, e⟩ := Option.map_eq_some_iff.1 k1
  exact hno j y hy k2 e.symm
theorem set_bools (u : List Bool) (j : Nat) : (u.map Value.bool).set j (.bool true) = (u.set j true).map Value.bool := by rw [List.map_set]

set_option maxHeartbeats 8000000 in
theorem equalR_calls (w : World) (M N : Nd) (hM : NdIn w M) (hN : NdIn w N) (bM : M.L.length ≤ 1099511627776) :
    Calls Try.prog 18 #[M.v, N.v] w (BPost (EqD M.c N.c) w) := by
  obtain ⟨hMd, hMa, hMn, _⟩ := hM
  obtain ⟨hNd, hNa, hNn, _⟩ := hN
  obtain ⟨k, nm, da, dc, data, aa, ac, L, sl, ge⟩ := M
  obtain ⟨k2, nm2, da2, dc2, data2, aa2, ac2, L2, sl2, ge2⟩ := N
  simp only [Nd.v, Nd.cells] at *
  obtain ⟨n, en⟩ : ∃ n, n = L.length := ⟨_, rfl⟩
  obtain ⟨n2, en2⟩ : ∃ n2, n2 = L2.length := ⟨_, rfl⟩
  obtain ⟨m, em⟩ : ∃ m, m = data.length := ⟨_, rfl⟩
  obtain ⟨m2, em2⟩ : ∃ m2, m2 = data2.length := ⟨_, rfl⟩
  rw [← en, ← em, ← en2, ← em2]
  rw [← en] at bM
  obtain ⟨V, hV⟩ : ∃ V, V = (w.alloc (.cells #[.int .i64 k, .string nm, .slice da m dc, .slice aa n ac, .int .u32 sl, .int .u32 ge] 30)).alloc (.cells #[.int .i64 k2, .string nm2, .slice da2 m2 dc2, .slice aa2 n2 ac2, .int .u32 sl2, .int .u32 ge2] 30) := ⟨_, rfl⟩
  have hbV : Below w.heap.size w V := by rw [hV]; exact ((Below.refl _ w).alloc (Nat.le_refl _) _).alloc (by simp) _
  have v0 : V.heap[w.heap.size]? = some (.cells #[.int .i64 k, .string nm, .slice da m dc, .slice aa n ac, .int .u32 sl, .int .u32 ge] 30 (0, 0)) := by rw [hV]; exact alloc_blk (Go.heap_alloc_new w _) _
  have v1 : V.heap[w.heap.size + 1]? = some (.cells #[.int .i64 k2, .string nm2, .slice da2 m2 dc2, .slice aa2 n2 ac2, .int .u32 sl2, .int .u32 ge2] 30 (0, 0)) := by
    rw [hV]; have := Go.heap_alloc_new (w.alloc (.cells #[.int .i64 k, .string nm, .slice da m dc, .slice aa n ac, .int .u32 sl, .int .u32 ge] 30)) (.cells #[.int .i64 k2, .string nm2, .slice da2 m2 dc2, .slice aa2 n2 ac2, .int .u32 sl2, .int .u32 ge2] 30); rwa [World.size_alloc] at this
  have he := sameUnits_calls dc dc2 (hMd.below hbV) (hNd.below hbV)
  rw [← em, ← em2] at he
  have HE := Lib.hid he
  have HV := Lib.hid (And.intro hV (And.intro hbV (And.intro v0 v1)))
  have HA := Lib.hid (And.intro hMa hNa)
  have HL := Lib.hid (And.intro en en2)
  clear he hbV v0 v1 hMa hNa hMd hNd en en2 em em2
  by_cases hall : k = k2 ∧ nm = nm2 ∧ data = data2 ∧ n = n2
  · obtain ⟨rfl, rfl, rfl, rfl⟩ := hall
    have HE2 := HE.out
    rw [decide_eq_true rfl, hV] at HE2
    have HE3 := Lib.hid HE2
    clear HE2 HE
    obtain ⟨i4, hi4, ia1, ia2, ia3⟩ := info_parts info4b
    have ib3 : i4.bytes * n ≤ 281474976710656 := by rw [ia3]; omega
    go_enter Try.func18, Try.ntmps18
    go_upto_region 4 with (go_at_call 25; refine HE3.out.mono ?_; rintro e w2 ⟨rfl, kk, rfl⟩)
    rw [← hV]
    have HVV := Lib.hid hV
    clear hV HE3
    obtain ⟨W0, hW0⟩ : ∃ W0, W0 = V.drewN kk := ⟨_, rfl⟩
    rw [← hW0]
    have hb0 : Below w.heap.size w W0 := by rw [hW0]; exact below_dN HV.out.2.1 HV.out.2.1.size kk
    have hb0V : Below V.heap.size V W0 := by rw [hW0]; exact ((FrT.refl [] _ V).drewN kk).below (Nat.le_refl _)
    have X0 := Lib.hid ((hb0V.block _ (lt_of_some HV.out.2.2.1)).trans HV.out.2.2.1)
    have X1 := Lib.hid ((hb0V.block _ (lt_of_some HV.out.2.2.2)).trans HV.out.2.2.2)
    have c03 := cell_blk X0.out 3 rfl
    have c13 := cell_blk X1.out 3 rfl
    have l0 := lt_of_some X0.out
    have l1 := lt_of_some X1.out
    simp at c03 c13
    have B0 := Lib.hid hb0
    have hSA : Hid (∀ W, Below W0.heap.size W0 W → SlA W aa L ∧ SlA W aa2 L2) := Lib.hid (fun W b => ⟨HA.out.1.below (B0.out.trans (b.mono B0.out.size)), HA.out.2.below (B0.out.trans (b.mono B0.out.size))⟩)
    clear hb0 hb0V hW0
    go_wp2_with (at_make; refine wpList_make_full _ rfl _ _ 92 rfl W0.heap.size 4 i4 _ 1 Try.underlying92 hi4 ia1 ia2 .i64 .i64 _ _ n rfl rfl rfl rfl ib3 (by unfold maxLen; omega) (Nat.le_refl _) ?_)
    intro w2 hrow hgrow
    have b2 : Below W0.heap.size W0 w2 := grown_below hgrow (fun x h => by cases h) (Nat.le_refl _)
    have hrep : (madeCells #[Value.bool false] n).toList = (List.replicate n false).map Value.bool := by rw [toList_madeCells_one, List.map_replicate]
    rw [hrep] at hrow
    have HROW := Lib.hid (And.intro hrow b2)
    have HG : Hid (W0.heap.size < w2.heap.size) := Lib.hid (by
      have h1 := hrow.2
      rcases h1 with ⟨h1, _⟩ | ⟨g', cap', cur, h1, _, h3, _⟩
      · cases h1
      · cases h1; exact lt_of_some h3)
    clear hrow hgrow b2 hrep c03 c13 l0 l1 ia1 ia2 ia3 ib3 hi4
    go_wp2_with fail
    go_loopw [7] (fun v wr => ∃ (i : Nat) (u : List Bool), v = .int .i64 (i : Nat) ∧ i ≤ n ∧ u.length = n ∧ Mtc L L2 i u ∧ OutW W0.heap.size (W0.heap.size + 1) w2 wr ∧ wr.ownsRow W0.heap.size 4 1 (.slice (some ⟨W0.heap.size, 0, none⟩) n n) n (u.map Value.bool)) (fun v _ => n - (intOf v).toNat)
    case atStart => exact ⟨0, List.replicate n false, rfl, Nat.zero_le _, by simp, Mtc.zero L L2 HL.out.2.symm, OutW.refl _ _ _, HROW.out.1⟩
    case round =>
      obtain ⟨i, u, rfl, hi, hul, hmt, hout, hrow⟩ := hrel
      have hbw : Below W0.heap.size W0 wr := HROW.out.2.trans ((hout.below (Nat.le_of_lt HG.out)).mono (Nat.le_refl _))
      have c03 := cell_blk ((hbw.block _ (lt_of_some X0.out)).trans X0.out) 3 rfl
      have c13 := cell_blk ((hbw.block _ (lt_of_some X1.out)).trans X1.out) 3 rfl
      simp at c03 c13
      have l0 := lt_of_some ((hbw.block _ (lt_of_some X0.out)).trans X0.out)
      have l1 := lt_of_some ((hbw.block _ (lt_of_some X1.out)).trans X1.out)
      have HR := Lib.hid (And.intro hul (And.intro hmt (And.intro hout hrow)))
      clear hul hmt hout hrow hbw
      by_cases hlt : i < n
      · have p1 : (i : Int) < (n : Int) := by omega
        have w1 : IntKind.i64.wrap ((i : Int) + 1) = (i : Int) + 1 := IntWalk.i64_in _ (by omega)
        obtain ⟨x, hx⟩ : ∃ x, L[i]? = some x := ⟨_, List.getElem?_eq_getElem (by rw [← HL.out.1]; exact hlt)⟩
        have HX := Lib.hid hx
        clear hx
        go_wp2_with fail
        go_loopw [8, 9] (fun v8 v9 wr => ∃ (f : Bool) (j : Nat) (u2 : List Bool), v8 = .bool f ∧ v9 = .int .i64 (j : Nat) ∧ j ≤ n ∧ u2.length = n ∧ OutW W0.heap.size (W0.heap.size + 1) w2 wr ∧ wr.ownsRow W0.heap.size 4 1 (.slice (some ⟨W0.heap.size, 0, none⟩) n n) n (u2.map Value.bool) ∧ Hid ((f = true → Mtc L L2 (i + 1) u2) ∧ (f = false → Mtc L L2 i u2 ∧ ∀ (j' : Nat) (y : LA), j' < j → L2[j']? = some y → u2[j']? = some false → attrOf x ≠ attrOf y))) (fun _ v9 _ => n - (intOf v9).toNat)
        case atStart => exact ⟨false, 0, u, rfl, rfl, Nat.zero_le _, HR.out.1, HR.out.2.2.1, HR.out.2.2.2, Lib.hid ⟨fun h => absurd h (by simp), fun _ => ⟨HR.out.2.1, fun j' y h => absurd h (by omega)⟩⟩⟩
        case round =>
          obtain ⟨f, j, u2, rfl, rfl, hj, hul2, hout, hrow, hF⟩ := hrel
          clear c03 c13 l0 l1
          have hbw : Below W0.heap.size W0 wr := HROW.out.2.trans ((hout.below (Nat.le_of_lt HG.out)).mono (Nat.le_refl _))
          have c03 := cell_blk ((hbw.block _ (lt_of_some X0.out)).trans X0.out) 3 rfl
          have c13 := cell_blk ((hbw.block _ (lt_of_some X1.out)).trans X1.out) 3 rfl
          simp at c03 c13
          have l0 := lt_of_some ((hbw.block _ (lt_of_some X0.out)).trans X0.out)
          have l1 := lt_of_some ((hbw.block _ (lt_of_some X1.out)).trans X1.out)
          by_cases hgo : j < n ∧ f = false
          · obtain ⟨hjn, rfl⟩ := hgo
            have p2 : (j : Int) < (n : Int) := by omega
            have p3 : (0 : Int) ≤ (i : Int) := by omega
            have p4 : (0 : Int) ≤ (j : Int) := by omega
            have w3 : IntKind.i64.wrap ((j : Int) + 1) = (j : Int) + 1 := IntWalk.i64_in _ (by omega)
            obtain ⟨y, hy⟩ : ∃ y, L2[j]? = some y := ⟨_, List.getElem?_eq_getElem (by rw [← HL.out.2]; exact hjn)⟩
            obtain ⟨uj, huj⟩ : ∃ b, u2[j]? = some b := ⟨_, List.getElem?_eq_getElem (by rw [hul2]; exact hjn)⟩
            obtain ⟨b1, o1, rfl, hb1, x1, x2⟩ := (hSA.out _ hbw).1.get HX.out
            obtain ⟨b2, o2, rfl, hb2, y1, y2⟩ := (hSA.out _ hbw).2.get hy
            have HQ := Lib.hid (sameUnits_q x.vc y.vc ((hSA.out _ hbw).1.val x (List.mem_of_getElem? HX.out)) ((hSA.out _ hbw).2.val y (List.mem_of_getElem? hy)))
            obtain ⟨g', hg', lg, z1⟩ := row_src hrow (show (u2.map Value.bool)[j]? = some (.bool uj) by rw [List.getElem?_map, huj]; rfl)
            cases hg'
            rw [Nat.zero_add] at z1
            obtain ⟨cur, hblk, _⟩ := rwBlk hrow
            have z2 := free_blk hblk j
            obtain ⟨xl, exl⟩ : ∃ xl, xl = x.val.length := ⟨_, rfl⟩
            obtain ⟨yl, eyl⟩ : ∃ yl, yl = y.val.length := ⟨_, rfl⟩
            rw [← exl] at x2 HQ
            rw [← eyl] at y2 HQ
            have HH := Lib.hid (And.intro hul2 (And.intro hout (And.intro hrow (And.intro hy huj))))
            have HST : Hid (∀ k, OutW W0.heap.size (W0.heap.size + 1) w2 (wr.drewN k) ∧ (wr.drewN k).ownsRow W0.heap.size 4 1 (.slice (some ⟨W0.heap.size, 0, none⟩) n n) n (u2.map Value.bool)) := Lib.hid (fun k => ⟨hout.drewN k, row_drewN hrow k⟩)
            have HST2 : Hid (∀ k, OutW W0.heap.size (W0.heap.size + 1) w2 ((wr.drewN k).setCell ⟨W0.heap.size, j, none⟩ (.bool true)) ∧ ((wr.drewN k).setCell ⟨W0.heap.size, j, none⟩ (.bool true)).ownsRow W0.heap.size 4 1 (.slice (some ⟨W0.heap.size, 0, none⟩) n n) n ((u2.set j true).map Value.bool)) := Lib.hid (fun k => ⟨(hout.drewN k).set (a := ⟨W0.heap.size, j, none⟩) (Nat.le_refl _) (Nat.lt_succ_self _) _, by rw [← set_bools]; exact ((row_drewN hrow k).stored j _).1⟩)
            clear hul2 hout hrow hy huj hbw hblk cur exl eyl
            cases uj with
            | true =>
              obtain ⟨D, hD⟩ : ∃ D, D = decide (x.val = y.val) := ⟨_, rfl⟩
              rw [← hD] at HQ
              clear hD
              go_wp2_with fail
              go_quiet ((go_at_call 25; exact HQ.out _))
              go_wp2_with fail
              go_quiet (fail)
              go_wp2_with fail
              go_roundw
              case rel =>
                refine ⟨false, j + 1, u2, rfl, by go_num, hjn, HH.out.1, (HST.out _).1, (HST.out _).2, Lib.hid ⟨fun h => absurd h (by simp), fun _ => ⟨(hF.out.2 (by trivial)).1, fun j' y' hj' hy' hu' => ?_⟩⟩⟩
                by_cases e : j' = j
                · subst e
                  rw [HH.out.2.2.2.1] at hy'
                  rw [HH.out.2.2.2.2] at hu'
                  cases hy'
                  cases hu'
                · exact (hF.out.2 (by trivial)).2 j' y' (by omega) hy' hu'
              case measure => simp [intOf]; omega
            | false =>
              by_cases hnm : x.name = y.name
              · rw [← hnm] at y1
                have HNM := Lib.hid hnm
                clear hnm
                cases hd : decide (x.val = y.val) with
                | true =>
                  rw [hd] at HQ
                  have HD := Lib.hid hd
                  clear hd
                  go_wp2_with fail
                  go_quiet ((go_at_call 25; exact HQ.out _))
                  go_wp2_with fail
                  go_quiet (fail)
                  go_wp2_with fail
                  go_roundw
                  case rel =>
                    exact ⟨true, j + 1, u2.set j true, rfl, by go_num, hjn, by rw [List.length_set]; exact HH.out.1, (HST2.out _).1, (HST2.out _).2, Lib.hid ⟨fun _ => (hF.out.2 (by trivial)).1.step HX.out HH.out.2.2.2.1 HH.out.2.2.2.2 (by unfold attrOf; rw [HNM.out, of_decide_eq_true HD.out]), fun h => absurd h (by simp)⟩⟩
                  case measure => simp [intOf]; omega
                | false =>
                  rw [hd] at HQ
                  have HD := Lib.hid hd
                  clear hd
                  go_wp2_with fail
                  go_quiet ((go_at_call 25; exact HQ.out _))
                  go_wp2_with fail
                  go_quiet (fail)
                  go_wp2_with fail
                  go_roundw
                  case rel =>
                    refine ⟨false, j + 1, u2, rfl, by go_num, hjn, HH.out.1, (HST.out _).1, (HST.out _).2, Lib.hid ⟨fun h => absurd h (by simp), fun _ => ⟨(hF.out.2 (by trivial)).1, fun j' y' hj' hy' hu' => ?_⟩⟩⟩
                    by_cases e : j' = j
                    · subst e
                      rw [HH.out.2.2.2.1] at hy'
                      rw [HH.out.2.2.2.2] at hu'
                      cases hy'
                      exact fun e => absurd (congrArg Prod.snd e) (of_decide_eq_false HD.out)
                    · exact (hF.out.2 (by trivial)).2 j' y' (by omega) hy' hu'
                  case measure => simp [intOf]; omega
              · have e1 : (x.name.toList == y.name.toList) = false := ba_ne hnm
                have HNM := Lib.hid hnm
                clear hnm
                obtain ⟨D, hD⟩ : ∃ D, D = decide (x.val = y.val) := ⟨_, rfl⟩
                rw [← hD] at HQ
                clear hD
                go_wp2_with fail
                go_quiet ((go_at_call 25; exact HQ.out _))
                go_wp2_with fail
                go_quiet (fail)
                go_wp2_with fail
                go_roundw
                case rel =>
                  refine ⟨false, j + 1, u2, rfl, by go_num, hjn, HH.out.1, (HST.out _).1, (HST.out _).2, Lib.hid ⟨fun h => absurd h (by simp), fun _ => ⟨(hF.out.2 (by trivial)).1, fun j' y' hj' hy' hu' => ?_⟩⟩⟩
                  by_cases e : j' = j
                  · subst e
                    rw [HH.out.2.2.2.1] at hy'
                    rw [HH.out.2.2.2.2] at hu'
                    cases hy'
                    exact fun e => absurd (congrArg Prod.fst e) HNM.out
                  · exact (hF.out.2 (by trivial)).2 j' y' (by omega) hy' hu'
                case measure => simp [intOf]; omega
          · have HH := Lib.hid (And.intro hul2 (And.intro hout hrow))
            clear hul2 hout hrow
            cases f with
            | true =>
              by_cases hjn : j < n
              · have p2 : (j : Int) < (n : Int) := by omega
                clear hgo
                go_wp2_with fail
                go_roundw
                case rel => exact ⟨i + 1, u2, by go_num, hlt, HH.out.1, hF.out.1 (by trivial), HH.out.2.1, HH.out.2.2⟩
                case measure => simp [intOf]; omega
              · have p2 : ¬ (j : Int) < (n : Int) := by omega
                clear hgo
                go_wp2_with fail
                go_roundw
                case rel => exact ⟨i + 1, u2, by go_num, hlt, HH.out.1, hF.out.1 (by trivial), HH.out.2.1, HH.out.2.2⟩
                case measure => simp [intOf]; omega
            | false =>
              obtain rfl : j = n := by
                have : ¬ j < n := fun h => hgo ⟨h, rfl⟩
                omega
              have p2 : ¬ (j : Int) < (j : Int) := by omega
              have HNO : Hid (¬ EqD (Nd.c ⟨k, nm, da, dc, data, aa, ac, L, sl, ge⟩) (Nd.c ⟨k, nm, da2, dc2, data, aa2, ac2, L2, sl2, ge2⟩)) := Lib.hid (fun e => (hF.out.2 (by trivial)).1.lost HX.out (fun j' y hy hu => (hF.out.2 (by trivial)).2 j' y (by have := (List.getElem?_eq_some_iff.1 hy).1; rw [HL.out.2]; exact this) hy hu) e.2.2.2)
              clear hgo
              go_wp2_with fail
              go_ret
              exact ⟨false, rfl, ⟨fun h => absurd h (by simp), fun h => absurd h HNO.out⟩, B0.out.trans ((HROW.out.2.trans (HH.out.2.1.below (Nat.le_of_lt HG.out))).mono B0.out.size)⟩
      · obtain rfl : i = n := by omega
        have p1 : ¬ (i : Int) < (i : Int) := by omega
        clear hlt
        go_wp2_with fail
        go_ret
        exact ⟨true, rfl, ⟨fun _ => ⟨rfl, rfl, rfl, HR.out.2.1.done HL.out.1.symm HL.out.2.symm⟩, fun _ => rfl⟩, B0.out.trans ((HROW.out.2.trans (HR.out.2.2.1.below (Nat.le_of_lt HG.out))).mono B0.out.size)⟩
  · have HNE : Hid (¬ EqD (Nd.c ⟨k, nm, da, dc, data, aa, ac, L, sl, ge⟩) (Nd.c ⟨k2, nm2, da2, dc2, data2, aa2, ac2, L2, sl2, ge2⟩)) := Lib.hid (EqD.no (fun h => hall (by
      obtain ⟨h1, h2, h3, h4⟩ := h
      simp only [Nd.c, List.length_map] at h4
      exact ⟨h1, h2, h3, by rw [HL.out.1, HL.out.2, h4]⟩)))
    have HB := Lib.hid HV.out.2.1
    rw [hV] at HB HE
    obtain ⟨r, hr⟩ : ∃ r, r = decide (data = data2) := ⟨_, rfl⟩
    rw [← hr] at HE
    clear bM
    by_cases hk : k = k2
    · subst hk
      by_cases hn : nm = nm2
      · subst hn
        cases r with
        | false =>
          clear hall hr hV
          go_enter Try.func18, Try.ntmps18
          go_wp2_with (go_at_call 25; refine HE.out.mono ?_; rintro e w2 ⟨rfl, kk, rfl⟩)
          all_goals go_ret
          all_goals exact ⟨false, rfl, ⟨fun h => absurd h (by simp), fun h => absurd h HNE.out⟩, by repeat (first | exact HB.out | exact HB.out.size | refine below_dN ?_ ?_ _)⟩
        | true =>
          have hnn : ¬ n = n2 := fun h => hall ⟨rfl, rfl, of_decide_eq_true hr.symm, h⟩
          have q : ((n : Int) != (n2 : Int)) = true := by simp; omega
          clear hall hr hV hnn
          go_enter Try.func18, Try.ntmps18
          go_wp2_with (go_at_call 25; refine HE.out.mono ?_; rintro e w2 ⟨rfl, kk, rfl⟩)
          all_goals go_ret
          all_goals exact ⟨false, rfl, ⟨fun h => absurd h (by simp), fun h => absurd h HNE.out⟩, by repeat (first | exact HB.out | exact HB.out.size | refine below_dN ?_ ?_ _)⟩
      · have e2 : (nm.toList == nm2.toList) = false := ba_ne hn
        have e1 : (nm.toList != nm2.toList) = true := by rw [bne, e2]; rfl
        clear hall hr hV hn
        go_enter Try.func18, Try.ntmps18
        go_wp2_with (go_at_call 25; refine HE.out.mono ?_; rintro e w2 ⟨rfl, kk, rfl⟩)
        all_goals go_ret
        all_goals exact ⟨false, rfl, ⟨fun h => absurd h (by simp), fun h => absurd h HNE.out⟩, by repeat (first | exact HB.out | exact HB.out.size | refine below_dN ?_ ?_ _)⟩
    · have q : (k != k2) = true := by simp; exact hk
      clear hall hr hV hk
      go_enter Try.func18, Try.ntmps18
      go_wp2_with (go_at_call 25; refine HE.out.mono ?_; rintro e w2 ⟨rfl, kk, rfl⟩)
      all_goals go_ret
      all_goals exact ⟨false, rfl, ⟨fun h => absurd h (by simp), fun h => absurd h HNE.out⟩, by repeat (first | exact HB.out | exact HB.out.size | refine below_dN ?_ ?_ _)⟩
end Go.Proofs.Ytelhnaphkbpakaa

