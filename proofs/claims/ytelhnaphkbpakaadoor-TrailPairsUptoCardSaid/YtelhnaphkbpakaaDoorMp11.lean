/- Part 11 of the proof of TpP: lemmas. -/
import Derived.Laws.Strings
import Derived.Laws.Externs
import Derived.Test.YtelhnaphkbpakaaDoorMp10
namespace Go.Proofs.YtelhnaphkbpakaaDoor
open Go.RowKit
set_option linter.unusedVariables false
set_option maxRecDepth 100000
theorem ba_eq {a b : ByteArray} : (a.toList == b.toList) = true ↔ a = b := by
  rw [ByteArray.toList_eq, ByteArray.toList_eq, beq_iff_eq]
  constructor
  · intro h
    cases a; cases b
    simp at h
    rw [h]
  · rintro rfl; rfl
theorem ba_ne {a b : ByteArray} (h : a ≠ b) : (a.toList == b.toList) = false := by
  cases e : (a.toList == b.toList) with
  | false => rfl
  | true => exact absurd (ba_eq.1 e) h
theorem ba_refl (a : ByteArray) : (a.toList == a.toList) = true := ba_eq.2 rfl
theorem attrs_at {L M : List LA} {i : Nat} {x y : LA} (h : L.map attrOf = M.map attrOf) (hx : L[i]? = some x) (hy : M[i]? = some y) : x.name = y.name ∧ x.val = y.val := by
  have := congrArg (fun l : List (ByteArray × List Nat) => l[i]?) h
  simp only [List.getElem?_map, hx, hy, Option.map_some, Option.some.injEq] at this
  exact ⟨congrArg Prod.fst this, congrArg Prod.snd this⟩
theorem attrs_ext {L M : List LA} (hl : L.length = M.length) (h : ∀ (j : Nat) (x y : LA), j < L.length → L[j]? = some x → M[j]? = some y → attrOf x = attrOf y) : L.map attrOf = M.map attrOf := by
  apply List.ext_getElem?
  intro j
  rw [List.getElem?_map, List.getElem?_map]
  rcases Nat.lt_or_ge j L.length with hj | hj
  · rw [List.getElem?_eq_getElem hj, List.getElem?_eq_getElem (by omega)]
    simp only [Option.map_some]
    exact congrArg some (h j _ _ hj (List.getElem?_eq_getElem hj) (List.getElem?_eq_getElem (by omega)))
  · rw [List.getElem?_eq_none hj, List.getElem?_eq_none (by omega)]
theorem below_dN {B : Nat} {w V : World} (h : Below B w V) (hB : B ≤ V.heap.size) (k : Nat) : Below B w (V.drewN k) := h.trans (((FrT.refl [] B V).drewN k).below hB)
theorem nameCmp91 (a b : ByteArray) (w : World) : Calls Tryd.prog 106 #[.string a, .string b] w fun e w' => e = .returned (.int .i64 (cmp16 (byN a) (byN b))) ∧ w = w' := by
  go_enter Tryd.func106, Tryd.ntmps106
  go_wp2
  rw [run_callFunc_extern Tryd.func114 (by kernel_rfl) (by kernel_rfl) (by kernel_rfl) (e := Extern.BytealgCompare.compare) (by kernel_rfl), Lib.run_compareString]
  simp only [Result.andThen]
  rw [Oper.upon_value]
  go_wp2
  exact bodyPost_ret (v := .int .i64 (Lib.compareBytes a.data.toList b.data.toList)) (by simp [results, Tryd.results106, go_sem]) rfl ⟨by rw [cb_eq]; rfl, rfl⟩
theorem nameCmp (a b : ByteArray) (w : World) : Calls Tryd.prog 83 #[.string a, .string b] w fun e w' => e = .returned (.int .i64 (cmp16 (byN a) (byN b))) ∧ w = w' := by
  have H := Lib.hid (fun w => nameCmp91 a b w)
  go_enter Tryd.func83, Tryd.ntmps83
  go_wp2_with fail
  refine (H.out _).mono ?_
  rintro e w' ⟨rfl, rfl⟩
  go_wp2_with fail
  go_ret
  exact ⟨rfl, rfl⟩
theorem or_calls (w : World) (b : Nat) (x y : Int) (hb : w.heap[b]? = some (.cells #[.int .i64 x, .int .i64 y] 3 (0, 0))) : Calls Tryd.prog 82 #[.slice (some ⟨b, 0, none⟩) 2 2] w fun e w' => e = .returned (.int .i64 (if x ≠ 0 then x else y)) ∧ ∃ k, w' = w.drewN k := by
  have c0 := cell_blk hb 0 rfl
  have c1 := cell_blk hb 1 rfl
  have lb := lt_of_some hb
  obtain ⟨r, hr⟩ : ∃ r, r = (if x ≠ 0 then x else y) := ⟨_, rfl⟩
  rw [← hr]
  have HR := Lib.hid hr
  simp at c0 c1
  clear hb hr
  go_enter Tryd.func82, Tryd.ntmps82
  go_wp2_with fail
  go_loopw [8] (fun v wr => ∃ i k : Nat, v = .int .i64 (i : Nat) ∧ i ≤ 2 ∧ (1 ≤ i → x = 0) ∧ (2 ≤ i → y = 0) ∧ wr = w.drewN k) (fun v _ => 2 - (intOf v).toNat)
  case atStart => exact ⟨0, 0, rfl, by omega, by omega, by omega, rfl⟩
  case round =>
    obtain ⟨i, k, rfl, hi, h1, h2, rfl⟩ := hrel
    have hi' : i = 0 ∨ i = 1 ∨ i = 2 := by omega
    rcases hi' with rfl | rfl | rfl
    · by_cases hx : x = 0
      · have q : (x != 0) = false := by simp [hx]
        have HX := Lib.hid hx
        clear h1 h2 hx
        go_wp2_with fail
        go_roundw
        case rel => exact ⟨1, _, by go_num, by omega, fun _ => HX.out, by omega, by first | rfl | trivial⟩
        case measure => simp [intOf]
      · have q : (x != 0) = true := by simp [hx]
        have e : r = x := by rw [HR.out]; exact if_pos hx
        have HE := Lib.hid e
        clear h1 h2 hx e
        go_wp2_with fail
        exact bodyPost_ret (v := .int .i64 x) (by simp [results, Tryd.results82, go_sem]) rfl ⟨by rw [HE.out], _, rfl⟩
    · have hx := h1 (by omega)
      by_cases hy : y = 0
      · have q : (y != 0) = false := by simp [hy]
        have HX := Lib.hid (And.intro hx hy)
        clear h1 h2 hx hy
        go_wp2_with fail
        go_roundw
        case rel => exact ⟨2, _, by go_num, by omega, fun _ => HX.out.1, fun _ => HX.out.2, by first | rfl | trivial⟩
        case measure => simp [intOf]
      · have q : (y != 0) = true := by simp [hy]
        have e : r = y := by rw [HR.out]; exact if_neg (fun h => h hx)
        have HE := Lib.hid e
        clear h1 h2 hx hy e
        go_wp2_with fail
        exact bodyPost_ret (v := .int .i64 y) (by simp [results, Tryd.results82, go_sem]) rfl ⟨by rw [HE.out], _, rfl⟩
    · have e : r = 0 := by rw [HR.out, if_neg (fun h => h (h1 (by omega)))]; exact h2 (by omega)
      have HE := Lib.hid e
      clear h1 h2 e
      go_wp2_with fail
      exact bodyPost_ret (v := .int .i64 0) (by simp [results, Tryd.results82, go_sem]) rfl ⟨by rw [HE.out], _, rfl⟩
set_option maxHeartbeats 4000000 in
theorem cmpA_calls (w : World) (x y : LA) (hx : Sl16 w x.va x.val) (hy : Sl16 w y.va y.val) :
    Calls Tryd.prog 81 #[x.v, y.v] w fun e w' => e = .returned (.int .i64 (cmpA (attrOf x) (attrOf y))) ∧ Below w.heap.size w w' := by
  obtain ⟨V, hV⟩ : ∃ V, V = (w.alloc (.cells #[.string x.name, .slice x.va x.val.length x.vc] 114)).alloc (.cells #[.string y.name, .slice y.va y.val.length y.vc] 114) := ⟨_, rfl⟩
  have hVs : V.heap.size = w.heap.size + 2 := by rw [hV]; simp
  have hbV : Below w.heap.size w V := by rw [hV]; exact ((Below.refl _ w).alloc (Nat.le_refl _) _).alloc (by simp) _
  have x0 : V.heap[w.heap.size]? = some (.cells #[.string x.name, .slice x.va x.val.length x.vc] 114 (0, 0)) := by rw [hV]; exact alloc_blk (Go.heap_alloc_new w _) _
  have x1 : V.heap[w.heap.size + 1]? = some (.cells #[.string y.name, .slice y.va y.val.length y.vc] 114 (0, 0)) := by
    rw [hV]; have := Go.heap_alloc_new (w.alloc (.cells #[.string x.name, .slice x.va x.val.length x.vc] 114)) (.cells #[.string y.name, .slice y.va y.val.length y.vc] 114); rwa [World.size_alloc] at this
  have HS : Hid (∀ W, Below V.heap.size V W → (W.cell? ⟨w.heap.size, 0, none⟩ = some (.string x.name) ∧ W.cell? ⟨w.heap.size, 1, none⟩ = some (.slice x.va x.val.length x.vc) ∧ W.cell? ⟨w.heap.size + 1, 0, none⟩ = some (.string y.name) ∧ W.cell? ⟨w.heap.size + 1, 1, none⟩ = some (.slice y.va y.val.length y.vc))) := Lib.hid (fun W b => by
    have y0 := (b.block _ (lt_of_some x0)).trans x0
    have y1 := (b.block _ (lt_of_some x1)).trans x1
    exact ⟨cell_blk y0 0 rfl, cell_blk y0 1 rfl, cell_blk y1 0 rfl, cell_blk y1 1 rfl⟩)
  have HN := Lib.hid (fun w => nameCmp x.name y.name w)
  have HWC := Lib.hid (wide_compare (w := V.drew) x.vc y.vc ((hx.below hbV).below ((Below.refl _ V).drew)) ((hy.below hbV).below ((Below.refl _ V).drew)))
  have HV := Lib.hid (And.intro hV hbV)
  have HOR : Hid (Calls Tryd.prog 82 #[.slice (some ⟨V.heap.size, 0, none⟩) 2 2] ((V.alloc (.cells #[.int .i64 (cmp16 (byN x.name) (byN y.name)), .int .i64 (cmp16 x.val y.val)] 3)).drew) fun e w' => e = .returned (.int .i64 (cmpA (attrOf x) (attrOf y))) ∧ ∃ k, w' = (V.alloc (.cells #[.int .i64 (cmp16 (byN x.name) (byN y.name)), .int .i64 (cmp16 x.val y.val)] 3)).drew.drewN k) := Lib.hid (or_calls _ V.heap.size _ _ (Go.heap_alloc_new V _))
  have hS0 := HS.out V (Below.refl _ _)
  have HD := Lib.hid ((Below.refl V.heap.size V).drew)
  unfold LA.v
  rw [hV] at hS0
  obtain ⟨s0, s1, s2, s3⟩ := hS0
  have l0 : w.heap.size < V.heap.size := by omega
  have l1 : w.heap.size + 1 < V.heap.size := by omega
  rw [hV] at l0 l1
  have HVS := Lib.hid hVs
  clear hVs hV hbV x0 x1 hx hy
  go_enter Tryd.func81, Tryd.ntmps81
  go_wp2_with fail
  rw [← HV.out.1] at s0 s1 s2 s3 l0 l1 ⊢
  refine wp_region_held_drew (S := fun W => (W.cell? ⟨w.heap.size, 0, none⟩ = some (.string x.name) ∧ W.cell? ⟨w.heap.size, 1, none⟩ = some (.slice x.va x.val.length x.vc) ∧ W.cell? ⟨w.heap.size + 1, 0, none⟩ = some (.string y.name) ∧ W.cell? ⟨w.heap.size + 1, 1, none⟩ = some (.slice y.va y.val.length y.vc))) (by kernel_rfl) ⟨s0, s1, s2, s3⟩ (fun hHeld => ?_)
  refine wpAnyH_take (i := 0) (v := ?_) rfl (by kernel_rfl) (by kernel_rfl) (by kernel_rfl) (fun _ _ _ h => h) (Or.inl ⟨by rfl, ?_⟩) (by assumption) ?_
  rotate_left
  · intro w hSw; (try dsimp only at hSw); go_simp; try with_reducible rfl
  refine wpAnyH_take (i := 1) (v := ?_) rfl (by kernel_rfl) (by kernel_rfl) (by kernel_rfl) (fun _ _ _ h => h) (Or.inl ⟨by rfl, ?_⟩) (by assumption) ?_
  rotate_left
  · intro w hSw; (try dsimp only at hSw); go_simp; try with_reducible rfl
  refine wpAnyH_take (i := 2) (v := ?_) rfl (by kernel_rfl) (by kernel_rfl) (by kernel_rfl) (fun _ _ _ h => h) (Or.inl ⟨by rfl, ?_⟩) (by assumption) ?_
  rotate_left
  · intro w hSw; (try dsimp only at hSw); go_simp; try with_reducible rfl
  refine wpAnyH_take (i := 3) (v := ?_) rfl (by kernel_rfl) (by kernel_rfl) (by kernel_rfl) (fun _ _ _ h => h) (Or.inl ⟨by rfl, ?_⟩) (by assumption) ?_
  rotate_left
  · intro w hSw; (try dsimp only at hSw); go_simp; try with_reducible rfl
  refine wpAnyH_take (i := 5) (v := ?_) rfl (by kernel_rfl) (by kernel_rfl) (by kernel_rfl) (fun _ _ _ h => h) (Or.inl ⟨by rfl, ?_⟩) (by assumption) ?_
  rotate_left
  · intro w hSw; (try dsimp only at hSw); go_simp; try with_reducible rfl
  refine wpAnyH_take (i := 6) (v := ?_) rfl (by kernel_rfl) (by kernel_rfl) (by kernel_rfl) (fun _ _ _ h => h) (Or.inl ⟨by rfl, ?_⟩) (by assumption) ?_
  rotate_left
  · intro w hSw; (try dsimp only at hSw); go_simp; try with_reducible rfl
  refine wpAnyH_take (i := 7) (v := ?_) rfl (by kernel_rfl) (by kernel_rfl) (by kernel_rfl) (fun _ _ _ h => h) (Or.inl ⟨by rfl, ?_⟩) (by assumption) ?_
  rotate_left
  · intro w hSw; (try dsimp only at hSw); go_simp; try with_reducible rfl
  refine wpAnyH_take (i := 8) (v := ?_) rfl (by kernel_rfl) (by kernel_rfl) (by kernel_rfl) (fun _ _ _ h => h) (Or.inl ⟨by rfl, ?_⟩) (by assumption) ?_
  rotate_left
  · intro w hSw; (try dsimp only at hSw); go_simp; try with_reducible rfl
  refine wpAnyH_ready (rs := [4]) (by kernel_rfl) (by simp) ?_
  refine AllReadyH.cons rfl (fun K' hK => ?_) AllReadyH.nil
  go_simp
  go_at_call 83
  refine (HN.out _).mono ?_
  rintro e w5 ⟨rfl, rfl⟩
  refine hK.out _ _ hHeld (fun hHeld => ?_)
  clear hK K'
  refine wpAnyH_ready (rs := [9]) (by kernel_rfl) (by simp) ?_
  refine AllReadyH.cons rfl (fun K' hK => ?_) AllReadyH.nil
  go_simp
  go_at_call 84
  refine HWC.out.mono ?_
  rintro e w6 ⟨rfl, rfl⟩
  refine hK.out _ _ hHeld (fun hHeld => ?_)
  clear hK K'
  refine wpAnyH_ready (rs := [10]) (by kernel_rfl) (by simp) ?_
  refine AllReadyH.cons rfl (fun K' hK => ?_) AllReadyH.nil
  go_simp
  refine hK.out _ _ (HS.out _ (((Below.refl _ V).alloc (Nat.le_refl _) _).drew)) (fun hHeld => ?_)
  clear hK K'
  refine wpAnyH_ready (rs := [11]) (by kernel_rfl) (by simp) ?_
  refine AllReadyH.cons rfl (fun K' hK => ?_) AllReadyH.nil
  go_simp
  go_at_call 82
  refine HOR.out.mono ?_
  rintro e w9 ⟨rfl, k9, rfl⟩
  have hb9 : Below V.heap.size V ((V.alloc (.cells #[.int .i64 (cmp16 (byN x.name) (byN y.name)), .int .i64 (cmp16 x.val y.val)] 3)).drew.drewN k9) := below_dN (((Below.refl _ V).alloc (Nat.le_refl _) _).drew) (by simp) k9
  refine hK.out _ _ (HS.out _ hb9) (fun hHeld => ?_)
  have HB9 := Lib.hid hb9
  clear hK K' hb9
  refine wpAnyH_ready (rs := [12]) (by kernel_rfl) (by simp) ?_
  refine AllReadyH.cons rfl (fun K' hK => ?_) AllReadyH.nil
  go_simp
  refine hK.out _ _ hHeld (fun hHeld => ?_)
  clear hK K'
  refine wpAnyH_done (by kernel_rfl) ?_ _
  clear hHeld
  go_wp2
  exact bodyPost_ret (v := .int .i64 (cmpA (attrOf x) (attrOf y))) (by simp [results, Tryd.results81, go_sem]) rfl ⟨rfl, below_dN (HV.out.2.alloc HV.out.2.size _) (Nat.le_trans HV.out.2.size (by simp)) _⟩
section
variable {lo hi : Nat} {m : Int} {w w' w'' : World}
end
structure OutW (lo hi : Nat) (w w' : World) : Prop where
  size : w.heap.size ≤ w'.heap.size
  os : w'.os = w.os
  tape : w'.tape = w.tape
  output : w'.output = w.output
  block : ∀ (k : Nat) o, w.heap[k]? = some o → (k < lo ∨ hi ≤ k) → w'.heap[k]? = some o
theorem OutW.refl (lo hi : Nat) (w : World) : OutW lo hi w w := ⟨Nat.le_refl _, rfl, rfl, rfl, fun _ _ h _ => h⟩
theorem OutW.trans {lo hi : Nat} {w w' w'' : World} (h : OutW lo hi w w') (k : OutW lo hi w' w'') : OutW lo hi w w'' := ⟨Nat.le_trans h.size k.size, k.os.trans h.os, k.tape.trans h.tape, k.output.trans h.output, fun i o hi' ho => k.block i o (h.block i o hi' ho) ho⟩
theorem OutW.of_below {lo hi : Nat} {w w' : World} (b : Below w.heap.size w w') : OutW lo hi w w' := ⟨b.size, b.os, b.tape, b.output, fun k o h _ => (b.block k (lt_of_some h)).trans h⟩
theorem OutW.below {lo hi : Nat} {w w' : World} (h : OutW lo hi w w') (hB : lo ≤ w.heap.size) : Below lo w w' :=
  ⟨h.os, h.tape, h.output, h.size, fun k hk => by
    have hl : k < w.heap.size := Nat.lt_of_lt_of_le hk hB
    have e : w.heap[k]? = some w.heap[k] := Array.getElem?_eq_getElem hl
    rw [e]; exact h.block k _ e (.inl hk)⟩
end Go.Proofs.YtelhnaphkbpakaaDoor
namespace Go.Proofs.YtelhnaphkbpakaaDoor
open Go Go.RowKit
set_option linter.unusedVariables false
section
variable {P : Program} (w : World)
end
end Go.Proofs.YtelhnaphkbpakaaDoor
namespace Go.Proofs.YtelhnaphkbpakaaDoor
open Go.RowKit
set_option linter.unusedVariables false
set_option maxRecDepth 100000
end Go.Proofs.YtelhnaphkbpakaaDoor
